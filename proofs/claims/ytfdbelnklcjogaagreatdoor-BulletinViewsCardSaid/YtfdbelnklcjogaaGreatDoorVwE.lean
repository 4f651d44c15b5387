/-
 A part of the proof of: The row of BulletinViews and its tied card,out of the lifted form.
-/
import Derived.Test.YtfdbelnklcjogaaGreatDoorVwD
set_option linter.unusedSectionVars false
set_option linter.unusedVariables false
set_option linter.unusedSimpArgs false
set_option maxRecDepth 100000
namespace Go.Air
open Go.Air.Try
section
variable {h hh:H} {s:List Nat} {ws:List (List Nat)} {n xb k:Nat} {day:Int} {t:List V}
theorem k3 {Q:Out→List V→H→Prop} (q:At23 h hh n xb ws 2 (kdC k day)) (hxb:n+4<xb) (tl:t.length=174) (t0:nth t 0=.s s) (t2:nth t 2=.p n 0) (t3:nth t 3=.p (n+1) 0) (t7:nth t 7=.fn 54 [] [.p (n+4) 0]) (t8:nth t 8=.p xb 0)
 (K:∀t' hh' vs,t'.length=174→nth t' 0=.s s→nth t' 2=.p n 0→nth t' 3=.p (n+1) 0→nth t' 8=.p xb 0→At23 h hh' n xb ws 10 (entW k day vs).cells→zaR ws 2 8=some vs→Q .norm t' hh')
 (KP:∀t' hh',nth t' 2=.p n 0→nth t' 3=.p (n+1) 0→F23 h hh' n→zaR ws 2 8=none→Q (.pan nfV) t' hh') :
 W tb1 (.seq (.ops r23_19) (.seq (.ops r23_20) (.seq (.draw r23_21 []) (.block 3 (.loop b23_1))))) t hh Q:=by
 have l1:ldV hh (.p xb 1)=some (.i .i64 day):=zad (i:=1) q.x rfl
 have s1:stV hh 1 (.p xb 3) (.i .i64 day)=some (hh.put xb (.cells (entW k day []).cells)):=zbB (i:=3) q.x (by simp[kdC,Ent.cells]) rfl rfl
 have qa:=q.put hxb (entW k day []).cells
 simp only[go_sem,↓reduceIte,r23_19,r23_20,tl,t8,l1,s1]
 generalize hh.put xb (.cells (entW k day []).cells)=h1 at qa
 clear l1 s1
 refine zjF (fun t=>t.length=174∧nth t 0=.s s∧nth t 2=.p n 0∧nth t 3=.p (n+1) 0∧nth t 7=.fn 54 [] [.p (n+4) 0]∧nth t 8=.p xb 0∧nth t 12=.p xb 2) ?_ ?_
 ·refine⟨?_,?_,?_,?_,?_,?_,?_⟩<;>simp only[go_sem,↓reduceIte,tl,t0,t2,t3,t7,t8]
 clear t0 t2 t3 t7 t8 tl
 rintro t ⟨tl,t0,t2,t3,t7,t8,t12⟩
 simp only[go_sem,↓reduceIte,r23_21,tl,t12]
 rw[znO (v0:=.p xb 2) (v1:=.p xb 4) (v2:=.p xb 5) (v3:=.p xb 6) (v4:=.p xb 7) (v5:=.p xb 8) (v6:=.p xb 9) (v7:=.p xb 10)
  (by simp only[go_sem,↓reduceIte,tl]) (by simp only[go_sem,↓reduceIte,tl]) (by simp only[go_sem,↓reduceIte,tl]) (by simp only[go_sem,↓reduceIte,tl]) (by simp only[go_sem,↓reduceIte,tl]) (by simp only[go_sem,↓reduceIte,tl]) (by simp only[go_sem,↓reduceIte,tl]) (by simp only[go_sem,↓reduceIte,tl]) rfl rfl rfl rfl rfl rfl rfl rfl]
 have hnb:h1.bare.next=h1.next:=rfl
 simp only[go_sem,↓reduceIte,tl,H.back_bare,H.back_new,hnb]
 have qb:=qa.step ((Ext.refl h1).new (.cells (offW.map fun i=>V.p xb i)))
 have gl:(h1.new (.cells (offW.map fun i=>V.p xb i))).get h1.next=some (.cells (offW.map fun i=>V.p xb i)):=zac rfl
 have hlb:xb<h1.next:=qa.lt
 have hll:h1.next<(h1.new (.cells (offW.map fun i=>V.p xb i))).next:=Nat.lt_succ_self _
 show W tb1 (.loop b23_1) _ (h1.new (.cells (offW.map fun i=>V.p xb i))) _
 generalize h1.new (.cells (offW.map fun i=>V.p xb i))=h2 at qb gl hll
 generalize h1.next=lb at gl hlb hll
 clear qa hnb
 refine zax (fun k' t hh=>∃vs:List Int,k'=8-vs.length∧vs.length≤8∧t.length=174∧nth t 0=.s s∧nth t 2=.p n 0∧nth t 3=.p (n+1) 0∧nth t 7=.fn 54 [] [.p (n+4) 0]∧nth t 8=.p xb 0∧nth t 91=.sl lb 0 8 8 none∧nth t 92=.i .i64 8∧nth t 93=.i .i64 (vs.length:Int) ∧
  At23 h hh n xb ws (2+vs.length) (entW k day vs).cells∧hh.get lb=some (.cells (offW.map fun i=>V.p xb i))∧lb<hh.next∧zaR ws 2 vs.length=some vs) ?_ 8 ?_
 ·clear t0 t2 t3 t7 t8 t12 tl qb gl hll
  rintro k' t hh ⟨vs,rfl,hi,tl,t0,t2,t3,t7,t8,t91,t92,t93,q,gl,hll,hns⟩
  unfold b23_1
  by_cases hin:vs.length<8
  ·have hI:(vs.length:Int)<8:=by omega
   have w1:IntKind.i64.wrap ((vs.length:Int)+1)=((vs.length+1:Nat):Int):=zaq (by omega)
   have S:Sl 1 hh (.sl lb 0 8 8 none) 8 (offW.map fun i=>V.p xb i):=.inr ⟨lb,0,8,none,_,rfl,hll,gl,zbh.2 ⟨by simp[offW],by simp[offW]⟩⟩
   have hix:=S.ix hin
   have hld:=S.ld1 hin
   have hoi:offW[vs.length]? = some (offW.getD vs.length 0):=by
    rw[List.getD_eq_getElem?_getD,List.getElem?_eq_getElem (by simp[offW];omega)];rfl
   rw[List.getElem?_map,hoi]at hld
   simp only[go_sem,↓reduceIte,r23_22,r23_23,r23_24,tl,t7,t91,t92,t93,hI,hix,hld,Option.map_some]
   refine q.number2 ?_ ?_
   ·intro v hF hv qn same nx
    have st:stV hF 1 (.p xb (offW.getD vs.length 0)) (.i .i64 v)=some (hF.put xb (.cells (entW k day (vs++[v])).cells)):=zbB (i:=offW.getD vs.length 0) qn.x (by
     have:=setW (k:=k) (day:=day) vs v hin
     have:∀j,j<8→offW.getD j 0<24:=by decide
     exact this _ hin) rfl rfl |>.trans (by rw[setW vs v hin])
    have qm:=qn.put hxb (entW k day (vs++[v])).cells
    simp only[go_sem,↓reduceIte,r23_25,tl,t93,st,w1]
    refine⟨8-(vs++[v]).length,by simp;omega,vs++[v],rfl,by simp;omega,?_⟩
    have hlen:(vs++[v]).length=vs.length+1:=by simp
    rw[hlen]
    refine⟨?_,?_,?_,?_,?_,?_,?_,?_,qm,?_,?_,zee hns hv⟩
    rotate_left 8
    ·rw[zaa (by omega),same _ (by have:=q.xn;omega) (by have:=q.xn;omega)];exact gl
    ·show lb<hF.next
     omega
    all_goals simp only[go_sem,↓reduceIte,tl,t0,t2,t3,t7,t8,t91,t92]
   ·intro hh' hn F
    simp only[go_sem,↓reduceIte]
    exact KP _ _ (by simp only[go_sem,↓reduceIte,tl,t2]) (by simp only[go_sem,↓reduceIte,tl,t3]) F (zef hin hn)
  ·have hI:¬ (vs.length:Int)<8:=by omega
   have hl8:vs.length=8:=by omega
   simp only[go_sem,↓reduceIte,r23_22,tl,t92,t93,hI]
   rw[hl8]at q hns
   exact K _ _ vs (by simp only[go_sem,↓reduceIte,tl]) (by simp only[go_sem,↓reduceIte,tl,t0]) (by simp only[go_sem,↓reduceIte,tl,t2]) (by simp only[go_sem,↓reduceIte,tl,t3]) (by simp only[go_sem,↓reduceIte,tl,t8]) q hns
 ·refine⟨[],rfl,by simp,?_,?_,?_,?_,?_,?_,?_,?_,?_,qb,gl,hll,rfl⟩<;>first|(simp only[go_sem,↓reduceIte,tl,t0,t2,t3,t7,t8];done)|(simp only[go_sem,↓reduceIte,tl];rfl)
theorem At23.other {i:Nat} {x:List V} (q:At23 h hh n xb ws i x) {cb:Nat} (hc:xb<cb) (y:Blk):At23 h (hh.put cb y) n xb ws i x:=by
 obtain⟨left,more,a1,a2,a3,a4⟩:=q.st
 have hx:=q.xn
 have hn:=q.nb
 exact⟨q.tb,q.nb,q.ext.put (by omega) _,by rw[zaa (by omega)];exact q.z,by rw[zaa (by omega)];exact q.e,⟨left,more,by rw[zaa (by omega)];exact a1,by rw[zaa (by omega)];exact a2,a3,a4⟩,by rw[zaa (by omega)];exact q.f,by rw[zaa (by omega)];exact q.x,q.xn,q.lt⟩
def zgV (k:Nat) (day:Int) (vs:List Int):Ent:=⟨k,day,wv0,⟨vs.getD 0 0,day,vs.getD 1 0,vs.getD 2 0,(vs.getD 3 0).toNat,vs.getD 4 0,0,0,0,vs.getD 5 0⟩,0,0,0⟩
theorem zql:∀(vs:List Int) (v:Int),vs.length=3→(vs++[v]).getD 3 0=v
 |[_,_,_],v,_=>rfl
 |[],v,h=>by simp at h
 |[_],v,h=>by simp at h
 |[_,_],v,h=>by simp at h
 |_::_::_::_::l,v,h=>by simp at h
theorem k5 {Q:Out→List V→H→Prop} (q:At23 h hh n xb ws 2 (kdC k day)) (hxb:n+4<xb) (tl:t.length=174) (t0:nth t 0=.s s) (t2:nth t 2=.p n 0) (t3:nth t 3=.p (n+1) 0) (t7:nth t 7=.fn 54 [] [.p (n+4) 0]) (t8:nth t 8=.p xb 0)
 (K:∀t' hh' vs,t'.length=174→nth t' 0=.s s→nth t' 2=.p n 0→nth t' 3=.p (n+1) 0→nth t' 8=.p xb 0→At23 h hh' n xb ws 8 (zgV k day vs).cells→zaR ws 2 6=some vs→0≤vs.getD 3 0→vs.getD 3 0≤255→Q .norm t' hh')
 (KP:∀t' hh',nth t' 2=.p n 0→nth t' 3=.p (n+1) 0→F23 h hh' n→(∀vs,zaR ws 2 6=some vs→¬ (0≤vs.getD 3 0∧vs.getD 3 0≤255))→Q (.pan nfV) t' hh') :
 W tb1 (.seq (.ops r23_29) (.seq (.ops r23_30) (.seq (.ops r23_31) (.seq (.seq (.draw r23_32 []) (.block 5 (.loop b23_2))) (.seq (.seq (.ops r23_37) (.cond (.t 144) (.ops r23_38) (.skip))) (.ops r23_39)))))) t hh Q:=by
 have l1:ldV hh (.p xb 1)=some (.i .i64 day):=zad (i:=1) q.x rfl
 have s1:stV hh 1 (.p xb 12) (.i .i64 day)=some (hh.put xb (.cells (entG k day []).cells)):=zbB (i:=12) q.x (by simp[kdC,Ent.cells]) rfl rfl
 have qa:=q.put hxb (entG k day []).cells
 simp only[go_sem,↓reduceIte,r23_29,r23_30,tl,t8,l1,s1]
 generalize hh.put xb (.cells (entG k day []).cells)=h1 at qa
 clear l1 s1
 have s2:stV (h1.new (.cells [.i .i64 0])) 1 (.p h1.next 0) (.i .i64 0)=some ((h1.new (.cells [.i .i64 0])).put h1.next (.cells [.i .i64 0])):=zbB (i:=0) (zac rfl) (by simp) rfl rfl
 have hlb:xb<h1.next:=qa.lt
 have qa:=(qa.step ((Ext.refl h1).new (.cells [.i .i64 0])))
 simp only[go_sem,↓reduceIte,r23_31,tl,s2]
 have qa:=qa.other hlb (.cells [.i .i64 0])
 have gc:((h1.new (.cells [.i .i64 0])).put h1.next (.cells [.i .i64 0])).get h1.next=some (.cells [.i .i64 0]):=zab
 have hlc:h1.next<((h1.new (.cells [.i .i64 0])).put h1.next (.cells [.i .i64 0])).next:=Nat.lt_succ_self _
 generalize (h1.new (.cells [.i .i64 0])).put h1.next (.cells [.i .i64 0])=hB at qa gc hlc
 generalize h1.next=cb at gc hlc hlb
 refine zjF (fun t=>t.length=174∧nth t 0=.s s∧nth t 2=.p n 0∧nth t 3=.p (n+1) 0∧nth t 7=.fn 54 [] [.p (n+4) 0]∧nth t 8=.p xb 0∧nth t 15=.p xb 11∧nth t 16=.p cb 0) ?_ ?_
 ·refine⟨?_,?_,?_,?_,?_,?_,?_,?_⟩<;>simp only[go_sem,↓reduceIte,tl,t0,t2,t3,t7,t8]
 clear t0 t2 t3 t7 t8 tl
 rintro t ⟨tl,t0,t2,t3,t7,t8,t15,t16⟩
 simp only[go_sem,↓reduceIte,r23_32,tl,t15,t16]
 rw[zqG (v0:=.p xb 11) (v1:=.p xb 13) (v2:=.p xb 14) (v3:=.p cb 0) (v4:=.p xb 16) (v5:=.p xb 20)
  (by simp only[go_sem,↓reduceIte,tl]) (by simp only[go_sem,↓reduceIte,tl]) (by simp only[go_sem,↓reduceIte,tl]) (by simp only[go_sem,↓reduceIte,tl,t16]) (by simp only[go_sem,↓reduceIte,tl]) (by simp only[go_sem,↓reduceIte,tl]) rfl rfl rfl rfl rfl rfl]
 have hnb:hB.bare.next=hB.next:=rfl
 simp only[go_sem,↓reduceIte,tl,H.back_bare,H.back_new,hnb]
 have qb:=qa.step ((Ext.refl hB).new (.cells [.p xb 11,.p xb 13,.p xb 14,.p cb 0,.p xb 16,.p xb 20]))
 have gl:(hB.new (.cells [.p xb 11,.p xb 13,.p xb 14,.p cb 0,.p xb 16,.p xb 20])).get hB.next=some (.cells [.p xb 11,.p xb 13,.p xb 14,.p cb 0,.p xb 16,.p xb 20]):=zac rfl
 have gc:(hB.new (.cells [.p xb 11,.p xb 13,.p xb 14,.p cb 0,.p xb 16,.p xb 20])).get cb=some (.cells [.i .i64 0]):=(zaf hlc).trans gc
 have hll:hB.next<(hB.new (.cells [.p xb 11,.p xb 13,.p xb 14,.p cb 0,.p xb 16,.p xb 20])).next:=Nat.lt_succ_self _
 generalize hB.new (.cells [.p xb 11,.p xb 13,.p xb 14,.p cb 0,.p xb 16,.p xb 20])=h2 at qb gl hll gc
 generalize hB.next=lb at gl hlc hll
 clear qa hnb
 refine zax (fun k' t hh=>∃vs:List Int,k'=6-vs.length∧vs.length≤6∧t.length=174∧nth t 0=.s s∧nth t 2=.p n 0∧nth t 3=.p (n+1) 0∧nth t 7=.fn 54 [] [.p (n+4) 0]∧nth t 8=.p xb 0∧nth t 15=.p xb 11∧nth t 16=.p cb 0∧nth t 131=.sl lb 0 6 6 none∧nth t 132=.i .i64 6∧nth t 133=.i .i64 (vs.length:Int) ∧
  At23 h hh n xb ws (2+vs.length) (entG k day vs).cells∧hh.get lb=some (.cells [.p xb 11,.p xb 13,.p xb 14,.p cb 0,.p xb 16,.p xb 20])∧hh.get cb=some (.cells [.i .i64 (vs.getD 3 0)])∧lb<hh.next∧zaR ws 2 vs.length=some vs) ?_ 6 ?_
 ·clear t0 t2 t3 t7 t8 t15 t16 tl qb gl hll gc
  rintro k' t hh ⟨vs,rfl,hi,tl,t0,t2,t3,t7,t8,t15,t16,t131,t132,t133,q,gl,gc,hll,hns⟩
  unfold b23_2
  by_cases hin:vs.length<6
  ·have hI:(vs.length:Int)<6:=by omega
   have w1:IntKind.i64.wrap ((vs.length:Int)+1)=((vs.length+1:Nat):Int):=zaq (by omega)
   have S:Sl 1 hh (.sl lb 0 6 6 none) 6 [.p xb 11,.p xb 13,.p xb 14,.p cb 0,.p xb 16,.p xb 20]:=.inr ⟨lb,0,6,none,_,rfl,hll,gl,zbh.2 ⟨by simp,by simp⟩⟩
   have hix:=S.ix hin
   have hld:=S.ld1 hin
   have hlen:∀v,(vs++[v]).length=vs.length+1:=by simp
   by_cases h3:vs.length=3
   ·have hoi:([.p xb 11,.p xb 13,.p xb 14,.p cb 0,.p xb 16,.p xb 20]:List V)[vs.length]? = some (.p cb 0):=by rw[h3];rfl
    rw[hoi]at hld
    simp only[go_sem,↓reduceIte,r23_33,r23_34,r23_35,tl,t7,t131,t132,t133,hI,hix,hld]
    refine q.number2 ?_ ?_
    ·intro v hF hv qn same nx
     have gc2:hF.get cb=some (.cells [.i .i64 (vs.getD 3 0)]):=(same _ (by have:=q.xn;omega) (by have:=q.xn;omega)).trans gc
     have st:stV hF 1 (.p cb 0) (.i .i64 v)=some (hF.put cb (.cells [.i .i64 v])):=zbB (i:=0) gc2 (by simp) rfl rfl
     have qm:=qn.other hlb (.cells [.i .i64 v])
     simp only[go_sem,↓reduceIte,r23_36,tl,t133,st,w1]
     refine⟨6-(vs++[v]).length,by simp;omega,vs++[v],rfl,by simp;omega,?_⟩
     rw[hlen,setG3 vs v h3,zql vs v h3]
     refine⟨?_,?_,?_,?_,?_,?_,?_,?_,?_,?_,qm,?_,zab,?_,zee hns hv⟩
     rotate_left 10
     ·rw[zaa (by omega),same _ (by have:=q.xn;omega) (by have:=q.xn;omega)];exact gl
     ·show lb<hF.next
      omega
     all_goals simp only[go_sem,↓reduceIte,tl,t0,t2,t3,t7,t8,t15,t16,t131,t132]
    ·intro hh' hn F
     simp only[go_sem,↓reduceIte]
     exact KP _ _ (by simp only[go_sem,↓reduceIte,tl,t2]) (by simp only[go_sem,↓reduceIte,tl,t3]) F (by intro vs' e;rw[zef hin hn]at e;cases e)
   ·have hoi:([.p xb 11,.p xb 13,.p xb 14,.p cb 0,.p xb 16,.p xb 20]:List V)[vs.length]? = some (.p xb (offG.getD vs.length 0)):=by
     have:∀j,j<6→j≠3→([.p xb 11,.p xb 13,.p xb 14,.p cb 0,.p xb 16,.p xb 20]:List V)[j]? = some (.p xb (offG.getD j 0))
      |0,_,_=>rfl
      |1,_,_=>rfl
      |2,_,_=>rfl
      |3,_,h=>absurd rfl h
      |4,_,_=>rfl
      |5,_,_=>rfl
     exact this _ hin h3
    rw[hoi]at hld
    simp only[go_sem,↓reduceIte,r23_33,r23_34,r23_35,tl,t7,t131,t132,t133,hI,hix,hld]
    refine q.number2 ?_ ?_
    ·intro v hF hv qn same nx
     have st:stV hF 1 (.p xb (offG.getD vs.length 0)) (.i .i64 v)=some (hF.put xb (.cells (entG k day (vs++[v])).cells)):=zbB (i:=offG.getD vs.length 0) qn.x (by
      have:∀j,j<6→offG.getD j 0<24:=by decide
      exact this _ hin) rfl rfl |>.trans (by rw[setG vs v hin h3])
     have qm:=qn.put hxb (entG k day (vs++[v])).cells
     simp only[go_sem,↓reduceIte,r23_36,tl,t133,st,w1]
     refine⟨6-(vs++[v]).length,by simp;omega,vs++[v],rfl,by simp;omega,?_⟩
     rw[hlen,getD3 vs v h3 hin]
     refine⟨?_,?_,?_,?_,?_,?_,?_,?_,?_,?_,qm,?_,?_,?_,zee hns hv⟩
     rotate_left 10
     ·rw[zaa (by omega),same _ (by have:=q.xn;omega) (by have:=q.xn;omega)];exact gl
     ·rw[zaa (by omega),same _ (by have:=q.xn;omega) (by have:=q.xn;omega)];exact gc
     ·show lb<hF.next
      omega
     all_goals simp only[go_sem,↓reduceIte,tl,t0,t2,t3,t7,t8,t15,t16,t131,t132]
    ·intro hh' hn F
     simp only[go_sem,↓reduceIte]
     exact KP _ _ (by simp only[go_sem,↓reduceIte,tl,t2]) (by simp only[go_sem,↓reduceIte,tl,t3]) F (by intro vs' e;rw[zef hin hn]at e;cases e)
  ·have hI:¬ (vs.length:Int)<6:=by omega
   have hl6:vs.length=6:=by omega
   rw[hl6]at q hns
   have lc:ldV hh (.p cb 0)=some (.i .i64 (vs.getD 3 0)):=zad (i:=0) gc rfl
   simp only[go_sem,↓reduceIte,r23_33,r23_37,tl,t16,t132,t133,hI,lc]
   rw[zcK]
   by_cases hb:btw (vs.getD 3 0) 0 255=true
   ·have hb2:=zdk hb
    have hcv:zca .u8 (.i .i64 (vs.getD 3 0))=some (.i .u8 (((vs.getD 3 0).toNat:Nat):Int)):=by
     simp only[zca];rw[zfS,Int.emod_eq_of_lt (by omega) (by omega),Int.toNat_of_nonneg hb2.1]
    have st:stV hh 1 (.p xb 15) (.i .u8 (((vs.getD 3 0).toNat:Nat):Int))=some (hh.put xb (.cells (zgV k day vs).cells)):=zbB (i:=15) q.x (by simp[entG,Ent.cells]) rfl rfl
    have qm:=q.put hxb (zgV k day vs).cells
    simp only[go_sem,↓reduceIte,r23_39,tl,t15,t16,hb,lc,hcv,st]
    exact K _ _ vs (by simp only[go_sem,↓reduceIte,tl]) (by simp only[go_sem,↓reduceIte,tl,t0]) (by simp only[go_sem,↓reduceIte,tl,t2]) (by simp only[go_sem,↓reduceIte,tl,t3]) (by simp only[go_sem,↓reduceIte,tl,t8]) qm hns hb2.1 hb2.2
   ·have hb2:btw (vs.getD 3 0) 0 255=false:=by simpa using hb
    simp only[go_sem,↓reduceIte,r23_38,tl,hb2,zqJ]
    refine KP _ _ (by simp only[go_sem,↓reduceIte,tl,t2]) (by simp only[go_sem,↓reduceIte,tl,t3]) q.fail ?_
    intro vs' e
    rw[hns]at e
    cases e
    intro⟨a,b⟩
    apply hb
    unfold btw
    rw[decide_eq_true a,decide_eq_true b];rfl
 ·refine⟨[],rfl,by simp,?_,?_,?_,?_,?_,?_,?_,?_,?_,?_,?_,qb,gl,gc,hll,rfl⟩<;>first|(simp only[go_sem,↓reduceIte,tl,t0,t2,t3,t7,t8,t15,t16];done)|(simp only[go_sem,↓reduceIte,tl];rfl)
end
end Go.Air
set_option maxRecDepth 100000
namespace Go.Air
open Go.Air.Try
section
variable {h:H}
theorem t2051:tb1 51=some a51:=by kernel_rfl
theorem t2023:tb1 23=some a23:=by kernel_rfl
theorem dfrE_ok {n:Nat} {S:H→Prop} (hS:S h):WD1 tb1 (.fn 51 [] [.p n 0,.p (n+1) 0]) .in0 h S:=by
 rw[WD1_in t2051]
 simp only[go_sem,↓reduceIte,r51_0,r51_1,eqi_00]
 exact hS
theorem dfrE_pan {h0:H} {n:Nat} {S:H→Prop} (hn:h0.next≤n) (F:F23 h0 h n) (hS:∀h',Ext h0 h'→h'.get n=some (.cells zE)→h'.get (n+1)=some (.cells [.i .i64 4])→S h'):WD1 tb1 (.fn 51 [] [.p n 0,.p (n+1) 0]) nfV h S:=by
 rw[WD1_in t2051]
 have hz:[V.i .u8 0]++List.replicate 14 (.i .i64 0)++[.i .u8 0]++[.i .i64 0,.i .i64 0]++[.i .u8 0]++[.i .i64 0,.i .i64 0,.i .i64 0,.i .i64 0,.i .i64 0]=zE:=rfl
 have hf:∀t:List V,fill t zE []=some zE:=fun _=>rfl
 have e1:eqV .iface nfV .in0=some false:=rfl
 have e2:taV nfT (.agg []) true nfV=some (.tup [.agg [],.b true]):=by simp[taV,nfV]
 simp only[nfT]at e2
 have g1:(h.new (.cells [])).get h.next=some (.cells []):=zac rfl
 have s1:stV (h.new (.cells [])) 0 (.p h.next 0) (.agg [])=some ((h.new (.cells [])).put h.next (.cells [])):=by
  simp[stV,V.cells,storeAt,g1,lay]
 have hlt:=F.lt
 generalize hh1:(h.new (.cells [])).put h.next (.cells [])=h1 at s1
 have ex1:Ext h h1:=by subst hh1;exact ((Ext.refl h).new _).put (Nat.le_refl _) _
 have z1:=ex1.get (by omega) F.z
 have o1:=ex1.get hlt F.e
 have s2:stV h1 24 (.p n 0) (.agg zE)=some (h1.put n (.cells zE)):=zal z1 rfl rfl (zby ent0)
 have o2:(h1.put n (.cells zE)).get (n+1)=some (.cells [.i .i64 0]):=(zaa (by omega)).trans o1
 have s3:stV (h1.put n (.cells zE)) 1 (.p (n+1) 0) (.i .i64 4)=some ((h1.put n (.cells zE)).put (n+1) (.cells [.i .i64 4])):=zbB (i:=0) o2 (by simp) rfl rfl
 simp only[hz,go_sem,↓reduceIte,r51_0,r51_1,r51_2,r51_3,r51_5,e1,e2,s1,hf,s2,s3]
 exact hS _ (((F.ext.trans ex1).put hn _).put (by omega) _) (by rw[zaa (by omega)];exact zab) zab
theorem res_E {h:H} {t:List V} {n:Nat} {cs:List V} {e:V} (h2:nth t 2=.p n 0) (h3:nth t 3=.p (n+1) 0) (g:h.get n=some (.cells cs)) (hl:cs.length=24) (ge:h.get (n+1)=some (.cells [e])):zao t h [.cell 2 (some 24),.cell 3 none]=some [.agg cs,e]:=by
 have:cut cs 0 24=some cs:=zbh.2 ⟨by omega,by simp[← hl]⟩
 simp only[zao,zdY,h2,h3,g,ge,this,nth?,Option.map_some]
theorem znG (ht:Tb4 h) {s:List Nat} (hs:s.length≤1000000):WC tb1 (.fn 23 [] []) [.s s] h fun u h'=>u=zct s∧Ext h h':=by
 refine zrm t2023 ?_
 have hz:[V.i .u8 0]++List.replicate 14 (.i .i64 0)++[.i .u8 0]++[.i .i64 0,.i .i64 0]++[.i .u8 0]++[.i .i64 0,.i .i64 0,.i .i64 0,.i .i64 0,.i .i64 0]=zE:=rfl
 simp only[hz,go_sem,↓reduceIte,r23_0,r23_1,List.nil_append,List.append_nil]
 have n1:(h.new (.cells zE)).next=h.next+1:=rfl
 have n2:((h.new (.cells zE)).new (.cells [.i .i64 0])).next=h.next+2:=rfl
 have n3:(((h.new (.cells zE)).new (.cells [.i .i64 0])).new (.cells [.s []])).next=h.next+3:=rfl
 have n4:((((h.new (.cells zE)).new (.cells [.i .i64 0])).new (.cells [.s []])).new (.cells [.b false])).next=h.next+4:=rfl
 simp only[hz,go_sem,↓reduceIte,r23_2,r23_3,r23_4,n1,n2,n3]
 generalize hH4:(((h.new (.cells zE)).new (.cells [.i .i64 0])).new (.cells [.s []])).new (.cells [.b false])=H4
 have nH:H4.next=h.next+4:=by subst hH4;rfl
 have eH:Ext h H4:=by subst hH4;exact ((((Ext.refl h).new _).new _).new _).new _
 have a0:H4.get h.next=some (.cells zE):=by subst hH4;rw[zaf (by simp<;>omega),zaf (by simp<;>omega),zaf (by simp<;>omega),zac rfl]
 have a1:H4.get (h.next+1)=some (.cells [.i .i64 0]):=by subst hH4;rw[zaf (by simp<;>omega),zaf (by simp<;>omega)];exact zac rfl
 have a2:H4.get (h.next+2)=some (.cells [.s []]):=by subst hH4;rw[zaf (by simp<;>omega)];exact zac rfl
 have a3:H4.get (h.next+3)=some (.cells [.b false]):=by subst hH4;exact zac rfl
 clear hH4
 have s1:stV H4 1 (.p (h.next+2) 0) (.s s)=some (H4.put (h.next+2) (.cells [.s s])):=zbB (i:=0) a2 (by simp) rfl rfl
 have s2:stV (H4.put (h.next+2) (.cells [.s s])) 1 (.p (h.next+3) 0) (.b true)=some ((H4.put (h.next+2) (.cells [.s s])).put (h.next+3) (.cells [.b true])):=zbB (i:=0) ((zaa (by omega)).trans a3) (by simp) rfl rfl
 have nB:((H4.put (h.next+2) (.cells [.s s])).put (h.next+3) (.cells [.b true])).next=h.next+4:=nH
 have gB:∀x,(((H4.put (h.next+2) (.cells [.s s])).put (h.next+3) (.cells [.b true])).new x).get (h.next+4)=some x:=fun x=>zac nB.symm
 have s3:stV (((H4.put (h.next+2) (.cells [.s s])).put (h.next+3) (.cells [.b true])).new (.cells [.fnil])) 1 (.p (h.next+4) 0) (.fn 52 [] [.p (h.next+3) 0,.p (h.next+2) 0]) =
  some ((((H4.put (h.next+2) (.cells [.s s])).put (h.next+3) (.cells [.b true])).new (.cells [.fnil])).put (h.next+4) (.cells [.fn 52 [] [.p (h.next+3) 0,.p (h.next+2) 0]])):=zbB (i:=0) (gB _) (by simp) rfl rfl
 simp only[go_sem,↓reduceIte,s1,s2,nB,s3]
 generalize hhA:(((H4.put (h.next+2) (.cells [.s s])).put (h.next+3) (.cells [.b true])).new (.cells [.fnil])).put (h.next+4) (.cells [.fn 52 [] [.p (h.next+3) 0,.p (h.next+2) 0]])=hA
 have q0:At23 h hA h.next (h.next+4) (zaM 32 s) 0 [.fn 52 [] [.p (h.next+3) 0,.p (h.next+2) 0]]:=by
  subst hhA
  have lt4:∀k,k<h.next+4→((((H4.put (h.next+2) (.cells [.s s])).put (h.next+3) (.cells [.b true])).new (.cells [.fnil])).put (h.next+4) (.cells [.fn 52 [] [.p (h.next+3) 0,.p (h.next+2) 0]])).get k=((H4.put (h.next+2) (.cells [.s s])).put (h.next+3) (.cells [.b true])).get k:=fun k hk=>by
   rw[zaa (by omega),zaf (by omega)]
  refine⟨ht,Nat.le_refl _,(((eH.put (by omega) _).put (by omega) _).new _).put (by omega) _,?_,?_,⟨s,true,?_,?_,hs,.inl ⟨rfl,rfl⟩⟩,zab,zab,Nat.le_refl _,?_⟩
  ·rw[lt4 _ (by omega),zaa (by omega),zaa (by omega)];exact a0
  ·rw[lt4 _ (by omega),zaa (by omega),zaa (by omega)];exact a1
  ·rw[lt4 _ (by omega),zaa (by omega)];exact zab
  ·rw[lt4 _ (by omega)];exact zab
  ·show h.next+4<((H4.put (h.next+2) (.cells [.s s])).put (h.next+3) (.cells [.b true])).next+1
   omega
 clear hhA s3 gB nB s2 s1 a3 a2 a1 a0 eH nH
 have bad:∀(T:List V) (hh:H),nth T 2=.p h.next 0→nth T 3=.p (h.next+1) 0→F23 h hh h.next→zgc s (zbQ (zaM 32 s))=none →
  WD1 tb1 (.fn 51 [] [.p h.next 0,.p (h.next+1) 0]) nfV hh (fun h2=>zdl (zao T h2 [.cell 2 (some 24),.cell 3 none]) h2 (fun u h'=>u=zct s∧Ext h h')):=by
  intro T hh t2 t3 F hn
  refine dfrE_pan (Nat.le_refl _) F ?_
  intro h' e z o
  rw[res_E t2 t3 z rfl o]
  have hr:zcf s=none:=by rw[zjg];exact hn
  exact⟨by unfold zct;rw[hr];rfl,e⟩
 have bad0:∀(T:List V) (hh:H),nth T 2=.p h.next 0→nth T 3=.p (h.next+1) 0→F23 h hh h.next→zbQ (zaM 32 s)=none →
  WD1 tb1 (.fn 51 [] [.p h.next 0,.p (h.next+1) 0]) nfV hh (fun h2=>zdl (zao T h2 [.cell 2 (some 24),.cell 3 none]) h2 (fun u h'=>u=zct s∧Ext h h')):=fun T hh t2 t3 F hn=>bad T hh t2 t3 F (by rw[hn];rfl)
 generalize hws:zaM 32 s=ws at q0 bad bad0
 refine zbs (fun t=>t.length=174∧nth t 0=.s s∧nth t 2=.p h.next 0∧nth t 3=.p (h.next+1) 0∧nth t 6=.p (h.next+4) 0∧nth t 7=.fn 54 [] [.p (h.next+4) 0]) (by simp only[go_sem,↓reduceIte]) ?_
 rintro t ⟨tl,t0,t2,t3,t6,t7⟩
 simp only[hz,go_sem,↓reduceIte,r23_5,tl,t7]
 refine q0.number ?_ ?_
 rotate_left
 ·intro hh hn F
  simp only[go_sem,↓reduceIte]
  exact bad0 _ _ (by simp only[go_sem,↓reduceIte,tl,t2]) (by simp only[go_sem,↓reduceIte,tl,t3]) F (by unfold zbQ;rw[hn])
 intro day hB hday q1
 have hfil:∀(t:List V) (x1:X),x1.ev t=.i .i64 day→fill t zE [(1,1,x1)]=some (kdC 0 day):=by
  intro t x1 e1
  simp[fill,lay,e1,V.cells,zE,kdC,Ent.cells,wv0,gf0]
 simp only[hz,go_sem,↓reduceIte,tl]
 rw[hfil _ _ (by simp only[go_sem,↓reduceIte,tl])]
 have s1:=zal (h:=hB.new (.cells zE)) (b:=hB.next) (k:=24) (d:=kdC 0 day) (zac rfl) rfl rfl (zby _)
 simp only[hz,go_sem,↓reduceIte,tl,s1]
 generalize hhC:(hB.new (.cells zE)).put hB.next (.cells (kdC 0 day))=hC
 have hlt:=q1.lt
 have q2:At23 h hC h.next hB.next ws 1 (kdC 0 day):=by
  subst hhC
  have e:Ext hB ((hB.new (.cells zE)).put hB.next (.cells (kdC 0 day))):=((Ext.refl hB).new _).put (Nat.le_refl _) _
  have q:=q1.step e
  exact⟨q.tb,q.nb,q.ext,q.z,q.e,q.st,q.f,zab,by omega,Nat.lt_succ_self _⟩
 have hxb:h.next+4<hB.next:=by omega
 generalize hB.next=xb at q2 hxb
 clear hhC s1 q1 hlt
 have lf:=zad (i:=0) q2.f rfl
 refine zbs (fun t=>t.length=174∧nth t 0=.s s∧nth t 2=.p h.next 0∧nth t 3=.p (h.next+1) 0∧nth t 6=.p (h.next+4) 0∧nth t 7=.fn 54 [] [.p (h.next+4) 0]∧nth t 8=.p xb 0) ?_ ?_
 ·refine⟨?_,?_,?_,?_,?_,?_,?_⟩<;>simp only[go_sem,↓reduceIte,tl,t0,t2,t3,t6,t7]
 clear t0 t2 t3 t6 t7 tl t
 rintro t ⟨tl,t0,t2,t3,t6,t7,t8⟩
 simp only[go_sem,↓reduceIte,r23_6,tl,t6,lf]
 refine q2.word ?_ ?_
 rotate_left
 ·intro hn
  simp only[go_sem,↓reduceIte]
  exact bad0 _ _ (by simp only[go_sem,↓reduceIte,tl,t2]) (by simp only[go_sem,↓reduceIte,tl,t3]) q2.fail (by unfold zbQ;rw[hday,hn])
 intro verb hD hverb q3
 have hpar:zbQ ws=zeq ws day (zbN verb):=by unfold zbQ;rw[hday,hverb]
 have fin:∀{t:List V} {hh:H} {j:Nat} {x:Ent},t.length=174→nth t 0=.s s→nth t 2=.p h.next 0→nth t 3=.p (h.next+1) 0→nth t 8=.p xb 0→At23 h hh h.next xb ws j x.cells→zbQ ws=some x→x.Ok →
  W tb1 (.seq (.seq (.ops r23_43) (.seq (.ops r23_44) (.cond (.t 170) (.ops r23_45) (.skip)))) (.seq (.ops r23_46) (.ret))) t hh (Kdf tb1 (.fn 51 [] [.p h.next 0,.p (h.next+1) 0]) [.cell 2 (some 24),.cell 3 none] fun u h'=>u=zct s∧Ext h h'):=by
  intro t hh j x tl t0 t2 t3 t8 q hp ok
  have lx:=zar q.x (zaI x)
  simp only[go_sem,↓reduceIte,r23_43,tl,t8,lx]
  refine (zqx (ht.ext q.ext) ok).mono ?_
  rintro u h2 ⟨rfl,e2⟩
  have q2:=q.step e2
  have lx2:=zar q2.x (zaI x)
  unfold putE
  cases hf:x.formed
  ·simp only[go_sem,↓reduceIte,Bool.false_eq_true,r23_44,r23_45,tl,t0,zbz,zqJ]
   exact bad _ _ (by simp only[go_sem,↓reduceIte,tl,t2]) (by simp only[go_sem,↓reduceIte,tl,t3]) q2.fail (by rw[hp];simp[zgc,hf])
  ·by_cases hx:x.text=s
   ·have hr:zcf s=some x:=by rw[zjg,hws,hp];simp[zgc,hf,hx]
    have st1:=zal (k:=24) (d:=x.cells) q2.z rfl rfl (zby x)
    have ge:(h2.put h.next (.cells x.cells)).get (h.next+1)=some (.cells [.i .i64 0]):=(zaa (by omega)).trans q2.e
    have st2:stV (h2.put h.next (.cells x.cells)) 1 (.p (h.next+1) 0) (.i .i64 0)=some ((h2.put h.next (.cells x.cells)).put (h.next+1) (.cells [.i .i64 0])):=zbB (i:=0) ge (by simp) rfl rfl
    simp only[go_sem,↓reduceIte,r23_44,r23_46,tl,t0,t2,t3,t8,zbz,zkz,hx,lx2,st1,st2]
    refine dfrE_ok ?_
    rw[res_E (n:=h.next) (cs:=x.cells) (e:=.i .i64 0) (by simp only[go_sem,↓reduceIte,tl,t2]) (by simp only[go_sem,↓reduceIte,tl,t3]) (by rw[zaa (by omega)];exact zab) rfl zab]
    exact⟨by unfold zct;rw[hr];rfl,(q2.ext.put (Nat.le_refl _) _).put (by omega) _⟩
   ·simp only[go_sem,↓reduceIte,r23_44,r23_45,tl,t0,zbz,zkz,hx,zqJ]
    exact bad _ _ (by simp only[go_sem,↓reduceIte,tl,t2]) (by simp only[go_sem,↓reduceIte,tl,t3]) q2.fail (by rw[hp];simp[zgc,hf,hx])
 simp only[zbC,zbi]at fin
 simp only[go_sem,↓reduceIte,r23_7,tl]
 refine fn_verbs.mono ?_
 rintro uv hE ⟨eE,OV⟩
 have q4:=q3.step eE
 have hov:=OV.sl.len
 have hvb:=OV.2
 simp only[go_sem,↓reduceIte,tl,hov]
 refine zax (fun k t hh=>∃i,k=8-i∧i≤8∧t.length=174∧nth t 0=.s s∧nth t 2=.p h.next 0∧nth t 3=.p (h.next+1) 0∧nth t 6=.p (h.next+4) 0∧nth t 7=.fn 54 [] [.p (h.next+4) 0]∧nth t 8=.p xb 0∧nth t 9=.s verb∧nth t 30=uv∧nth t 31=.i .i64 8∧nth t 32=.i .i64 (i:Int) ∧
  At23 h hh h.next xb ws 2 (kdC (kUp verb i) day)∧Own hD 1 hh uv 8 (verbL.map V.s)) ?_ 8 ?_
 ·clear t0 t2 t3 t6 t7 t8 tl t
  rintro k t hh ⟨i,rfl,hi,tl,t0,t2,t3,t6,t7,t8,t9,t30,t31,t32,q,O⟩
  unfold b23_0
  by_cases hin:i<8
  ·have hI:(i:Int)<8:=by omega
   have w1:IntKind.i64.wrap ((i:Int)+1)=((i+1:Nat):Int):=zaq (by omega)
   have hix:=O.sl.ix hin
   have hld:=O.sl.ld1 hin
   have hne:xb<blkV uv:=by
    obtain⟨_,⟨h8,_⟩|⟨b,g,rfl,_,hb,_⟩⟩:=O
    ·omega
    ·have:=q3.lt
     show xb<b
     omega
   have hvi:verbL[i]? = some (verbL.getD i []):=by
    rw[List.getD_eq_getElem?_getD,List.getElem?_eq_getElem (by simp[verbL];omega)];rfl
   rw[List.getElem?_map,hvi]at hld
   by_cases hpos:0<i
   ·have hP:(0:Int)<(i:Int):=by omega
    by_cases hv:verbL.getD i []=verb
    ·have ku:kUp verb (i+1)=i:=by rw[kUp,if_pos ⟨hpos,hv⟩]
     have hcv:zca .u8 (.i .i64 (i:Int))=some (.i .u8 (i:Int)):=by
      simp only[zca];rw[zfS,Int.emod_eq_of_lt (by omega) (by omega)]
     have st:stV hh 1 (.p xb 0) (.i .u8 (i:Int))=some (hh.put xb (.cells (kdC i day))):=zbB (i:=0) q.x (by simp[kdC,Ent.cells]) rfl rfl
     have bq:binV .eql (.s (verbL.getD i [])) (.s verb)=some (.b true):=by rw[zcj,decide_eq_true hv]
     simp only[go_sem,↓reduceIte,r23_8,r23_9,r23_10,r23_11,r23_12,tl,t0,t2,t3,t6,t7,t8,t9,t30,t31,t32,hI,hix,hld,Option.map_some,hP,bq,hcv,st,w1]
     exact⟨8-(i+1),by omega,i+1,rfl,by omega,rfl,by rw[ku];exact q.put hxb _,O.keep (Nat.le_refl _) fun _=>zaa (by omega)⟩
    ·have ku:kUp verb (i+1)=kUp verb i:=by rw[kUp,if_neg (fun q=>hv q.2)]
     have bq:binV .eql (.s (verbL.getD i [])) (.s verb)=some (.b false):=by rw[zcj,decide_eq_false hv]
     simp only[go_sem,↓reduceIte,r23_8,r23_9,r23_10,r23_11,r23_12,tl,t0,t2,t3,t6,t7,t8,t9,t30,t31,t32,hI,hix,hld,Option.map_some,hP,bq,w1]
     exact⟨8-(i+1),by omega,i+1,rfl,by omega,rfl,by rw[ku];exact q,O⟩
   ·have hP:¬ (0:Int)<(i:Int):=by omega
    have ku:kUp verb (i+1)=kUp verb i:=by rw[kUp,if_neg (fun q=>hpos q.1)]
    simp only[go_sem,↓reduceIte,r23_8,r23_9,r23_10,r23_11,r23_12,tl,t0,t2,t3,t6,t7,t8,t9,t30,t31,t32,hI,hix,hld,Option.map_some,hP,w1]
    exact⟨8-(i+1),by omega,i+1,rfl,by omega,rfl,by rw[ku];exact q,O⟩
  ·have hI:¬ (i:Int)<8:=by omega
   obtain rfl:i=8:=by omega
   rw[kUp_8]at q
   have hI8:¬ (8:Int)<8:=by omega
   simp only[go_sem,↓reduceIte,r23_8,tl,t31,t32,hI,hI8]
   have hkle:=zln verb
   have hdi:=zeI hday
   clear hI hI8 hi t9 t30 t31 t32 O hov hvb OV q4 eE hE q3
   generalize zbN verb=k at hpar q hkle
   have lk:ldV hh (.p xb 0)=some (.i .u8 (k:Int)):=zad (i:=0) q.x rfl
   have k1:binV .eql (.i .u8 (k:Int)) (.i .u8 1)=some (.b (decide (k=1))):=zaj (j:=1)
   have k2:binV .eql (.i .u8 (k:Int)) (.i .u8 2)=some (.b (decide (k=2))):=zaj (j:=2)
   have k3:binV .eql (.i .u8 (k:Int)) (.i .u8 3)=some (.b (decide (k=3))):=zaj (j:=3)
   have k4:binV .eql (.i .u8 (k:Int)) (.i .u8 4)=some (.b (decide (k=4))):=zaj (j:=4)
   have k5:binV .eql (.i .u8 (k:Int)) (.i .u8 5)=some (.b (decide (k=5))):=zaj (j:=5)
   have k6:binV .eql (.i .u8 (k:Int)) (.i .u8 6)=some (.b (decide (k=6))):=zaj (j:=6)
   have k7:binV .eql (.i .u8 (k:Int)) (.i .u8 7)=some (.b (decide (k=7))):=zaj (j:=7)
   refine zbs (fun t=>t.length=174∧nth t 0=.s s∧nth t 2=.p h.next 0∧nth t 3=.p (h.next+1) 0∧nth t 7=.fn 54 [] [.p (h.next+4) 0]∧nth t 8=.p xb 0) ?_ ?_
   ·refine⟨?_,?_,?_,?_,?_,?_⟩<;>simp only[go_sem,↓reduceIte,tl,t0,t2,t3,t7,t8]
   clear t0 t2 t3 t6 t7 t8 tl t
   rintro t ⟨tl,t0,t2,t3,t7,t8⟩
   by_cases c12:k=1∨k=2
   ·have hb:zeq ws day k=match zaR ws 2 2 with
     |some [a,n]=>some ⟨k,day,wv0,gf0,a,0,n⟩
     |_=>none:=if_pos c12
    have two:∀{t:List V},t.length=174→nth t 0=.s s→nth t 2=.p h.next 0→nth t 3=.p (h.next+1) 0→nth t 7=.fn 54 [] [.p (h.next+4) 0]→nth t 8=.p xb 0→∀{Q:Out→List V→H→Prop},
     (∀t' hh' a n,t'.length=174→nth t' 0=.s s→nth t' 2=.p h.next 0→nth t' 3=.p (h.next+1) 0→nth t' 8=.p xb 0→At23 h hh' h.next xb ws 4 (⟨k,day,wv0,gf0,a,0,n⟩:Ent).cells→zbQ ws=some ⟨k,day,wv0,gf0,a,0,n⟩→Q .norm t' hh') →
     (∀t' hh',nth t' 2=.p h.next 0→nth t' 3=.p (h.next+1) 0→F23 h hh' h.next→zbQ ws=none→Q (.pan nfV) t' hh') →
     W tb1 (.seq (.ops r23_16) (.ops r23_17)) t hh Q:=by
     intro t tl t0 t2 t3 t7 t8 Q K KP
     simp only[go_sem,↓reduceIte,r23_16,tl,t7]
     refine q.number ?_ ?_
     rotate_left
     ·intro hh' hn F
      simp only[go_sem,↓reduceIte]
      exact KP _ _ (by simp only[go_sem,↓reduceIte,tl,t2]) (by simp only[go_sem,↓reduceIte,tl,t3]) F (by rw[hpar,hb,zaR,hn])
     intro a hF ha qa
     have s1:stV hF 1 (.p xb 21) (.i .i64 a)=some (hF.put xb (.cells (⟨k,day,wv0,gf0,a,0,0⟩:Ent).cells)):=zbB (i:=21) qa.x (by simp[kdC,Ent.cells]) rfl rfl
     have qb:=qa.put hxb (⟨k,day,wv0,gf0,a,0,0⟩:Ent).cells
     simp only[go_sem,↓reduceIte,r23_17,tl,t7,t8,s1]
     refine qb.number ?_ ?_
     rotate_left
     ·intro hh' hn F
      simp only[go_sem,↓reduceIte]
      exact KP _ _ (by simp only[go_sem,↓reduceIte,tl,t2]) (by simp only[go_sem,↓reduceIte,tl,t3]) F (by rw[hpar,hb,zaR,ha,zaR,hn];rfl)
     intro n hG hn qc
     have s2:stV hG 1 (.p xb 23) (.i .i64 n)=some (hG.put xb (.cells (⟨k,day,wv0,gf0,a,0,n⟩:Ent).cells)):=zbB (i:=23) qc.x (by simp[Ent.cells]) rfl rfl
     have qd:=qc.put hxb (⟨k,day,wv0,gf0,a,0,n⟩:Ent).cells
     simp only[go_sem,↓reduceIte,tl,t8,s2]
     exact K _ _ a n (by simp only[go_sem,↓reduceIte,tl]) (by simp only[go_sem,↓reduceIte,tl,t0]) (by simp only[go_sem,↓reduceIte,tl,t2]) (by simp only[go_sem,↓reduceIte,tl,t3]) (by simp only[go_sem,↓reduceIte,tl,t8]) qd (by rw[hpar,hb,zaR,ha,zaR,hn,zaR];rfl)
    simp only[zbC,zbi]at two
    have fin2:∀{t':List V} {hh':H} {a n:Int},t'.length=174→nth t' 0=.s s→nth t' 2=.p h.next 0→nth t' 3=.p (h.next+1) 0→nth t' 8=.p xb 0→At23 h hh' h.next xb ws 4 (⟨k,day,wv0,gf0,a,0,n⟩:Ent).cells→zbQ ws=some ⟨k,day,wv0,gf0,a,0,n⟩→(⟨k,day,wv0,gf0,a,0,n⟩:Ent).Ok:=fun _ _ _ _ _ _ hp=>zgy hdi hkle (by rw[← hpar];exact hp)
    by_cases c1:k=1
    ·have d1:decide (k=1)=true:=decide_eq_true c1
     simp only[go_sem,↓reduceIte,r23_13,r23_14,tl,t8,lk,k1,d1]
     refine two (by simp only[go_sem,↓reduceIte,tl]) (by simp only[go_sem,↓reduceIte,tl,t0]) (by simp only[go_sem,↓reduceIte,tl,t2]) (by simp only[go_sem,↓reduceIte,tl,t3]) (by simp only[go_sem,↓reduceIte,tl,t7]) (by simp only[go_sem,↓reduceIte,tl,t8]) ?_ ?_
     ·intro t' hh' a n b1 b2 b3 b4 b5 qf hp
      simp only[go_sem,↓reduceIte]
      exact fin b1 b2 b3 b4 b5 qf hp (fin2 b1 b2 b3 b4 b5 qf hp)
     ·intro t' hh' b2 b3 F hp
      simp only[go_sem,↓reduceIte]
      exact bad0 _ _ b2 b3 F hp
    ·have d1:decide (k=1)=false:=decide_eq_false c1
     have d2:decide (k=2)=true:=decide_eq_true (by omega)
     simp only[go_sem,↓reduceIte,r23_13,r23_14,r23_15,tl,t8,lk,k1,d1,k2,d2]
     refine two (by simp only[go_sem,↓reduceIte,tl]) (by simp only[go_sem,↓reduceIte,tl,t0]) (by simp only[go_sem,↓reduceIte,tl,t2]) (by simp only[go_sem,↓reduceIte,tl,t3]) (by simp only[go_sem,↓reduceIte,tl,t7]) (by simp only[go_sem,↓reduceIte,tl,t8]) ?_ ?_
     ·intro t' hh' a n b1 b2 b3 b4 b5 qf hp
      simp only[go_sem,↓reduceIte]
      exact fin b1 b2 b3 b4 b5 qf hp (fin2 b1 b2 b3 b4 b5 qf hp)
     ·intro t' hh' b2 b3 F hp
      simp only[go_sem,↓reduceIte]
      exact bad0 _ _ b2 b3 F hp
   have d1:decide (k=1)=false:=decide_eq_false (by omega)
   have d2:decide (k=2)=false:=decide_eq_false (by omega)
   by_cases c3:k=3
   ·have d3:decide (k=3)=true:=decide_eq_true c3
    have hb:zeq ws day k=match zaR ws 2 8 with
     |some [i,s,g,t,u,o,f,e]=>some ⟨k,day,⟨i,day,s,g,t,u,o,f,e⟩,gf0,0,0,0⟩
     |_=>none:=by
     unfold zeq
     exact (if_neg c12).trans ((if_pos c3).trans rfl)
    simp only[go_sem,↓reduceIte,r23_13,r23_14,r23_15,r23_18,tl,t8,lk,k1,d1,k2,d2,k3,d3]
    have w3:=fun Q t a b c d e f=>Go.Air.k3 (h:=h) (ws:=ws) (s:=s) (t:=t) (Q:=Q) q hxb a b c d e f
    simp only[zbC,zbi]at w3
    refine w3 _ _ (by simp only[go_sem,↓reduceIte,tl]) (by simp only[go_sem,↓reduceIte,tl,t0]) (by simp only[go_sem,↓reduceIte,tl,t2]) (by simp only[go_sem,↓reduceIte,tl,t3]) (by simp only[go_sem,↓reduceIte,tl,t7]) (by simp only[go_sem,↓reduceIte,tl,t8]) ?_ ?_
    ·intro t' hh' vs b1 b2 b3 b4 b5 qf hn
     have hl:=zhj hn
     have hp:zbQ ws=some (entW k day vs):=by
      rw[hpar,hb,hn]
      match vs,hl with
      |[_,_,_,_,_,_,_,_],_=>rfl
     simp only[go_sem,↓reduceIte]
     exact fin b1 b2 b3 b4 b5 qf hp (zgy hdi hkle (by rw[← hpar];exact hp))
    ·intro t' hh' b2 b3 F hn
     simp only[go_sem,↓reduceIte]
     exact bad0 _ _ b2 b3 F (by rw[hpar,hb,hn])
   have d3:decide (k=3)=false:=decide_eq_false c3
   by_cases c4:k=4
   ·have d4:decide (k=4)=true:=decide_eq_true c4
    have hb:zeq ws day k=match zcC ws 2 with
     |some i=>some ⟨k,day,{ wv0 with id:=i },gf0,0,0,0⟩
     |none=>none:=by
     unfold zeq
     exact (if_neg c12).trans ((if_neg c3).trans ((if_pos c4).trans rfl))
    simp only[go_sem,↓reduceIte,r23_13,r23_14,r23_15,r23_18,r23_26,r23_27,tl,t7,t8,lk,k1,d1,k2,d2,k3,d3,k4,d4]
    refine q.number ?_ ?_
    rotate_left
    ·intro hh' hn F
     simp only[go_sem,↓reduceIte]
     exact bad0 _ _ (by simp only[go_sem,↓reduceIte,tl,t2]) (by simp only[go_sem,↓reduceIte,tl,t3]) F (by rw[hpar,hb,hn])
    intro v hF hv qa
    have s1:stV hF 1 (.p xb 2) (.i .i64 v)=some (hF.put xb (.cells (⟨k,day,{ wv0 with id:=v },gf0,0,0,0⟩:Ent).cells)):=zbB (i:=2) qa.x (by simp[kdC,Ent.cells]) rfl rfl
    have qb:=qa.put hxb (⟨k,day,{ wv0 with id:=v },gf0,0,0,0⟩:Ent).cells
    have hp:zbQ ws=some ⟨k,day,{ wv0 with id:=v },gf0,0,0,0⟩:=by rw[hpar,hb,hv]
    simp only[go_sem,↓reduceIte,tl,t8,s1]
    exact fin (by simp only[go_sem,↓reduceIte,tl]) (by simp only[go_sem,↓reduceIte,tl,t0]) (by simp only[go_sem,↓reduceIte,tl,t2]) (by simp only[go_sem,↓reduceIte,tl,t3]) (by simp only[go_sem,↓reduceIte,tl,t8]) qb hp (zgy hdi hkle (by rw[← hpar];exact hp))
   have d4:decide (k=4)=false:=decide_eq_false c4
   by_cases c5:k=5
   ·have d5:decide (k=5)=true:=decide_eq_true c5
    have hb:zeq ws day k=match zaR ws 2 6 with
     |some [i,f,t,c,n,r]=>if 0≤c∧c≤255 then some ⟨k,day,wv0,⟨i,day,f,t,c.toNat,n,0,0,0,r⟩,0,0,0⟩ else none
     |_=>none:=by
     unfold zeq
     exact (if_neg c12).trans ((if_neg c3).trans ((if_neg c4).trans ((if_pos c5).trans rfl)))
    simp only[go_sem,↓reduceIte,r23_13,r23_14,r23_15,r23_18,r23_26,r23_28,tl,t8,lk,k1,d1,k2,d2,k3,d3,k4,d4,k5,d5]
    have w5:=fun Q t a b c d e f=>Go.Air.k5 (h:=h) (ws:=ws) (s:=s) (t:=t) (Q:=Q) q hxb a b c d e f
    simp only[zbC,zbi]at w5
    refine w5 _ _ (by simp only[go_sem,↓reduceIte,tl]) (by simp only[go_sem,↓reduceIte,tl,t0]) (by simp only[go_sem,↓reduceIte,tl,t2]) (by simp only[go_sem,↓reduceIte,tl,t3]) (by simp only[go_sem,↓reduceIte,tl,t7]) (by simp only[go_sem,↓reduceIte,tl,t8]) ?_ ?_
    ·intro t' hh' vs b1 b2 b3 b4 b5 qf hn g0 g1
     have hl:=zhj hn
     have hp:zbQ ws=some (zgV k day vs):=by
      rw[hpar,hb,hn]
      match vs,hl,g0,g1 with
      |[_,_,_,_,_,_],_,g0,g1=>exact if_pos ⟨g0,g1⟩
     simp only[go_sem,↓reduceIte]
     exact fin b1 b2 b3 b4 b5 qf hp (zgy hdi hkle (by rw[← hpar];exact hp))
    ·intro t' hh' b2 b3 F hn
     simp only[go_sem,↓reduceIte]
     refine bad0 _ _ b2 b3 F ?_
     rw[hpar,hb]
     split
     ·rename_i hq
      exact if_neg (hn _ hq)
     ·rfl
   have d5:decide (k=5)=false:=decide_eq_false c5
   by_cases c67:k=6∨k=7
   ·have hb:zeq ws day k=match zcC ws 2 with
     |some i=>some ⟨k,day,wv0,{ gf0 with id:=i },0,0,0⟩
     |none=>none:=by
     unfold zeq
     exact (if_neg c12).trans ((if_neg c3).trans ((if_neg c4).trans ((if_neg c5).trans ((if_pos c67).trans rfl))))
    have one:∀{t:List V},t.length=174→nth t 0=.s s→nth t 2=.p h.next 0→nth t 3=.p (h.next+1) 0→nth t 7=.fn 54 [] [.p (h.next+4) 0]→nth t 8=.p xb 0→∀{Q:Out→List V→H→Prop},
     (∀t' hh' v,t'.length=174→nth t' 0=.s s→nth t' 2=.p h.next 0→nth t' 3=.p (h.next+1) 0→nth t' 8=.p xb 0→At23 h hh' h.next xb ws 3 (⟨k,day,wv0,{ gf0 with id:=v },0,0,0⟩:Ent).cells→zbQ ws=some ⟨k,day,wv0,{ gf0 with id:=v },0,0,0⟩→Q .norm t' hh') →
     (∀t' hh',nth t' 2=.p h.next 0→nth t' 3=.p (h.next+1) 0→F23 h hh' h.next→zbQ ws=none→Q (.pan nfV) t' hh') →
     W tb1 (.ops r23_42) t hh Q:=by
     intro t tl t0 t2 t3 t7 t8 Q K KP
     simp only[go_sem,↓reduceIte,r23_42,tl,t7]
     refine q.number ?_ ?_
     rotate_left
     ·intro hh' hn F
      simp only[go_sem,↓reduceIte]
      exact KP _ _ (by simp only[go_sem,↓reduceIte,tl,t2]) (by simp only[go_sem,↓reduceIte,tl,t3]) F (by rw[hpar,hb,hn])
     intro v hF hv qa
     have s1:stV hF 1 (.p xb 11) (.i .i64 v)=some (hF.put xb (.cells (⟨k,day,wv0,{ gf0 with id:=v },0,0,0⟩:Ent).cells)):=zbB (i:=11) qa.x (by simp[kdC,Ent.cells]) rfl rfl
     have qb:=qa.put hxb (⟨k,day,wv0,{ gf0 with id:=v },0,0,0⟩:Ent).cells
     simp only[go_sem,↓reduceIte,tl,t8,s1]
     exact K _ _ v (by simp only[go_sem,↓reduceIte,tl]) (by simp only[go_sem,↓reduceIte,tl,t0]) (by simp only[go_sem,↓reduceIte,tl,t2]) (by simp only[go_sem,↓reduceIte,tl,t3]) (by simp only[go_sem,↓reduceIte,tl,t8]) qb (by rw[hpar,hb,hv])
    simp only[zbi]at one
    have K1:=fun (t':List V) (hh':H) (v:Int) b1 b2 b3 b4 b5 qf hp=>fin (t:=t') (hh:=hh') (j:=3) (x:=⟨k,day,wv0,{ gf0 with id:=v },0,0,0⟩) b1 b2 b3 b4 b5 qf hp (zgy hdi hkle (by rw[← hpar];exact hp))
    by_cases c6:k=6
    ·have d6:decide (k=6)=true:=decide_eq_true c6
     simp only[go_sem,↓reduceIte,r23_13,r23_14,r23_15,r23_18,r23_26,r23_28,r23_40,tl,t8,lk,k1,d1,k2,d2,k3,d3,k4,d4,k5,d5,k6,d6]
     refine one (by simp only[go_sem,↓reduceIte,tl]) (by simp only[go_sem,↓reduceIte,tl,t0]) (by simp only[go_sem,↓reduceIte,tl,t2]) (by simp only[go_sem,↓reduceIte,tl,t3]) (by simp only[go_sem,↓reduceIte,tl,t7]) (by simp only[go_sem,↓reduceIte,tl,t8]) ?_ ?_
     ·intro t' hh' v b1 b2 b3 b4 b5 qf hp
      simp only[go_sem,↓reduceIte]
      exact K1 _ _ v b1 b2 b3 b4 b5 qf hp
     ·intro t' hh' b2 b3 F hp
      simp only[go_sem,↓reduceIte]
      exact bad0 _ _ b2 b3 F hp
    ·have d6:decide (k=6)=false:=decide_eq_false c6
     have d7:decide (k=7)=true:=decide_eq_true (by omega)
     simp only[go_sem,↓reduceIte,r23_13,r23_14,r23_15,r23_18,r23_26,r23_28,r23_40,r23_41,tl,t8,lk,k1,d1,k2,d2,k3,d3,k4,d4,k5,d5,k6,d6,k7,d7]
     refine one (by simp only[go_sem,↓reduceIte,tl]) (by simp only[go_sem,↓reduceIte,tl,t0]) (by simp only[go_sem,↓reduceIte,tl,t2]) (by simp only[go_sem,↓reduceIte,tl,t3]) (by simp only[go_sem,↓reduceIte,tl,t7]) (by simp only[go_sem,↓reduceIte,tl,t8]) ?_ ?_
     ·intro t' hh' v b1 b2 b3 b4 b5 qf hp
      simp only[go_sem,↓reduceIte]
      exact K1 _ _ v b1 b2 b3 b4 b5 qf hp
     ·intro t' hh' b2 b3 F hp
      simp only[go_sem,↓reduceIte]
      exact bad0 _ _ b2 b3 F hp
   have d6:decide (k=6)=false:=decide_eq_false (by omega)
   have d7:decide (k=7)=false:=decide_eq_false (by omega)
   have hp:zbQ ws=some ⟨k,day,wv0,gf0,0,0,0⟩:=by
    rw[hpar]
    unfold zeq
    rw[if_neg c12,if_neg c3,if_neg c4,if_neg c5,if_neg c67]
   simp only[go_sem,↓reduceIte,r23_13,r23_14,r23_15,r23_18,r23_26,r23_28,r23_40,r23_41,tl,t8,lk,k1,d1,k2,d2,k3,d3,k4,d4,k5,d5,k6,d6,k7,d7]
   exact fin (by simp only[go_sem,↓reduceIte,tl]) (by simp only[go_sem,↓reduceIte,tl,t0]) (by simp only[go_sem,↓reduceIte,tl,t2]) (by simp only[go_sem,↓reduceIte,tl,t3]) (by simp only[go_sem,↓reduceIte,tl,t8]) q hp (zgy hdi hkle (by rw[← hpar];exact hp))
 ·refine⟨0,rfl,by omega,?_,?_,?_,?_,?_,?_,?_,?_,?_,?_,?_,q4,OV.mono (Nat.le_refl _)⟩<;>first|(simp only[go_sem,↓reduceIte,tl,t0,t2,t3,t6,t7,t8];done)|(simp only[go_sem,↓reduceIte,tl];rfl)
end
end Go.Air
set_option maxRecDepth 100000
namespace Go.Air
open Go.Air.Try
structure St where
 rate:Int→Int
 ceil:Int→Option Int
 met:Int→Int
 gifts:List Gf
def updF {α:Type} (f:Int→α) (x:Int) (v:α):Int→α:=fun y=>if y=x then v else f y
def St.zero:St:=⟨fun _=>0,fun _=>none,fun _=>0,[]⟩
def St.worth (s:St) (g:Gf):Int:=g.n*s.rate g.cur
def Gf.mark (g:Gf) (k:Nat) (d:Int):Gf:=⟨g.id,g.day,g.frm,g.to,g.cur,g.n,g.worth,k,d,g.ret⟩
def Gf.done (g:Gf):Gf:=⟨g.id,g.day,g.frm,g.to,g.cur,g.n,g.worth,4,g.ans,g.ret⟩
def Gf.offd (g:Gf) (w:Int):Gf:=⟨g.id,g.day,g.frm,g.to,g.cur,g.n,w,1,g.ans,g.ret⟩
def St.gift (s:St) (id:Int):Gf:=s.gifts.getD (id-1).toNat gf0
def St.setG (s:St) (id:Int) (g:Gf):St:={ s with gifts:=s.gifts.set (id-1).toNat g }
def St.back (s:St) (g:Gf):St:=
 if (s.gift g.ret).worth≤s.met g.ret+g.worth then { s with met:=updF s.met g.ret (s.met g.ret+g.worth),gifts:=s.gifts.set (g.ret-1).toNat (s.gift g.ret).done }
 else { s with met:=updF s.met g.ret (s.met g.ret+g.worth) }
def St.take (s:St) (day id:Int):St:=
 if (s.gift id).ret=0 then s.setG id ((s.gift id).mark 2 day) else (s.setG id ((s.gift id).mark 2 day)).back (s.gift id)
def St.offer (s:St) (g:Gf):St:={ s with gifts:=s.gifts++[g.offd (s.worth g)] }
def St.doE (s:St) (x:Ent):St:=
 if x.kind=1 then { s with rate:=updF s.rate x.a x.n }
 else if x.kind=2 then { s with ceil:=updF s.ceil x.a (some x.n) }
 else if x.kind=5 then s.offer x.g
 else if x.kind=6 then s.take x.day x.g.id
 else s.setG x.g.id ((s.gift x.g.id).mark 3 x.day)
def St.refO (s:St) (g:Gf):Int:=
 if 500≤s.gifts.length then 2 else if g.id≠(s.gifts.length:Int)+1 then 1 else if s.rate g.cur=0 then 8 else if (s.gifts.length:Int)<g.ret then 5
 else if 0<g.ret∧((s.gift g.ret).frm≠g.to∨(s.gift g.ret).to≠g.frm∨(s.gift g.ret).ret≠0∨(s.gift g.ret).st≠2) then 8
 else match s.ceil g.to with
  |some m=>if m<s.worth g then 2 else 0
  |none=>0
def St.refE (s:St) (x:Ent):Int:=
 if x.kind=5 then s.refO x.g
 else if x.kind=6∨x.kind=7 then if (s.gifts.length:Int)<x.g.id then 5 else if (s.gift x.g.id).st≠1 then 8 else 0
 else 0
def stOf (es:List Ent):St:=es.foldl St.doE .zero
def zeh (es:List Ent):Int:=match es.getLast? with
 |some x=>x.day
 |none=>0
def zfR (es:List Ent) (x:Ent):Int:=if x.formed=true then (if x.day<zeh es then 7 else 0) else 1
def doL (es:List Ent) (x:Ent):Int:=if zfR es x≠0 then zfR es x else (stOf es).refE x
structure Gf.Fit (g:Gf) (i:Nat):Prop where
 id:g.id=(i:Int)+1
 frm:1≤g.frm∧g.frm≤1000000
 to:1≤g.to∧g.to≤1000000
 ne:g.frm≠g.to
 cur:g.cur=1∨g.cur=2
 n:1≤g.n∧g.n≤1000000
 worth:1≤g.worth∧g.worth≤1000000000000
 st:1≤g.st∧g.st≤4
 ret:0≤g.ret∧g.ret≤(i:Int)
 day:0≤g.day∧g.day≤100000
 ans:0≤g.ans∧g.ans≤100000
structure St.Ok (s:St) (k:Nat):Prop where
 rate:∀x,0≤s.rate x∧s.rate x≤1000000
 ceil:∀x m,s.ceil x=some m→1≤m∧m≤1000000000000
 met:∀x,0≤s.met x∧s.met x≤(k:Int)*1000000000000
 len:s.gifts.length≤500
 gs:∀(i:Nat) (g:Gf),s.gifts[i]? = some g→g.Fit i
theorem St.zero_ok:St.zero.Ok 0 where
 rate:=fun _=>⟨Int.le_refl _,by show (0:Int)≤1000000;omega⟩
 ceil:=fun _ _ h=>by cases h
 met:=fun _=>⟨Int.le_refl _,by show (0:Int)≤_;simp⟩
 len:=Nat.zero_le _
 gs:=fun i g h=>by simp[St.zero]at h
theorem zid {α:Type} {f:Int→α} {x:Int} {v:α}:updF f x v x=v:=if_pos rfl
theorem zpa {α:Type} {f:Int→α} {x y:Int} {v:α} (h:y≠x):updF f x v y=f y:=if_neg h
theorem zpi {l:List Gf} {i:Nat} {g:Gf} (hi:i<l.length) {j:Nat} {u:Gf} (h:(l.set i g)[j]? = some u):(j=i∧u=g)∨l[j]? = some u:=by
 rw[List.getElem?_set]at h
 split at h
 ·rename_i e
  subst e
  try simp only[hi,if_true]at h
  exact .inl ⟨rfl,(Option.some.inj h).symm⟩
 ·exact .inr h
theorem St.gift_at {s:St} {id:Int} (h1:1≤id) (h2:id≤(s.gifts.length:Int)):s.gifts[(id-1).toNat]? = some (s.gift id):=by
 unfold St.gift
 rw[List.getD_eq_getElem?_getD,List.getElem?_eq_getElem (by omega)];rfl
theorem zpP {a b:Int} (a0:1≤a) (a1:a≤1000000) (b0:1≤b) (b1:b≤1000000):1≤a*b∧a*b≤1000000000000:=by
 constructor
 ·have:=Int.mul_le_mul a0 b0 (by omega) (by omega)
  omega
 ·have:=Int.mul_le_mul a1 b1 (by omega) (by omega)
  omega
theorem St.Ok.doE {s:St} {k:Nat} (o:s.Ok k) {x:Ent} (hf:x.formed=true) (hk:x.kind≠3∧x.kind≠4) (hr:s.refE x=0):(s.doE x).Ok (k+1):=by
 have hd:=(zaE hf).1
 have hkd:=zbf hf
 have mk:∀y,0≤s.met y∧s.met y≤((k+1:Nat):Int)*1000000000000:=fun y=>by have:=o.met y;omega
 have gup:∀{id:Int} {g':Gf},1≤id→id≤(s.gifts.length:Int)→((s.gift id).Fit (id-1).toNat→g'.Fit (id-1).toNat)→∀(i:Nat) (g:Gf),(s.gifts.set (id-1).toNat g')[i]? = some g→g.Fit i:=by
  intro id g' h1 h2 hok i g hg
  rcases zpi (by omega) hg with⟨rfl,rfl⟩|hg
  ·exact hok (o.gs _ _ (gift_at h1 h2))
  ·exact o.gs _ _ hg
 have id67:x.kind=6∨x.kind=7→1≤x.g.id∧x.g.id≤(s.gifts.length:Int):=by
  intro h67
  have h1:1≤x.g.id:=by
   rcases zbT hf with⟨k,a,n,hk,hx,_⟩|⟨w,hx,_⟩|⟨i,hx,_⟩|⟨i,f,t,c,n,r,hx,_⟩|⟨k,i,hk,hx,h1,h2⟩<;>rw[hx]at h67 ⊢ <;> simp only at h67 ⊢ <;> omega
  refine⟨h1,?_⟩
  unfold St.refE at hr
  rw[if_neg (by omega),if_pos h67]at hr
  split at hr
  ·omega
  ·omega
 unfold St.doE
 by_cases c1:x.kind=1
 ·rw[if_pos c1]
  have hn:1≤x.n∧x.n≤1000000:=by
   have:=(zaE hf).2.2
   unfold Ent.okk at this
   rw[if_pos c1,Bool.and_eq_true]at this
   exact zdk this.2
  refine⟨fun y => ?_,o.ceil,mk,o.len,o.gs⟩
  show 0≤updF s.rate x.a x.n y∧updF s.rate x.a x.n y≤1000000
  unfold updF
  split
  ·omega
  ·exact o.rate y
 rw[if_neg c1]
 by_cases c2:x.kind=2
 ·rw[if_pos c2]
  have hn:1≤x.n∧x.n≤1000000000000:=by
   have:=(zaE hf).2.2
   unfold Ent.okk at this
   rw[if_neg c1,if_pos c2,Bool.and_eq_true]at this
   exact zdk this.2
  refine⟨o.rate,fun y m hm => ?_,mk,o.len,o.gs⟩
  have hm:updF s.ceil x.a (some x.n) y=some m:=hm
  unfold updF at hm
  split at hm
  ·cases hm;exact hn
  ·exact o.ceil y m hm
 rw[if_neg c2]
 by_cases c5:x.kind=5
 ·rw[if_pos c5]
  have ho:zcu x=true:=by
   have:=(zaE hf).2.2
   unfold Ent.okk at this
   rw[if_neg c1,if_neg c2,if_neg hk.1,if_neg hk.2,if_pos c5]at this
   exact this
  obtain⟨b1,b2,b3,b4,b5,b6,b7,b8,b9⟩:=zbe ho
  have hw:=(zaE hf).2.1
  unfold Ent.want at hw
  rw[if_neg (by omega),if_neg hk.1,if_neg hk.2,if_pos c5]at hw
  have ha:x.g.ans=0:=by rw[hw]
  unfold St.refE at hr
  rw[if_pos c5]at hr
  unfold St.refO at hr
  split at hr;· omega
  rename_i q1
  split at hr;· omega
  rename_i q2
  split at hr;· omega
  rename_i q3
  split at hr;· omega
  rename_i q4
  have hq2:x.g.id=(s.gifts.length:Int)+1:=Decidable.of_not_not q2
  have hrt:=o.rate x.g.cur
  have hwb:1≤s.worth x.g∧s.worth x.g≤1000000000000:=zpP b9.1 b9.2 (by omega) hrt.2
  refine⟨o.rate,o.ceil,mk,by simp[St.offer];omega,?_⟩
  intro i g hg
  have hg:(s.gifts++[x.g.offd (s.worth x.g)])[i]? = some g:=hg
  rcases Nat.lt_trichotomy i s.gifts.length with hi|hi|hi
  ·rw[List.getElem?_append_left hi]at hg
   exact o.gs i g hg
  ·rw[List.getElem?_append_right (by omega),hi,Nat.sub_self]at hg
   cases hg
   exact⟨by rw[hi];exact hq2,b2,b3,b4,by show x.g.cur=1∨x.g.cur=2;omega,b9,hwb,⟨Nat.le_refl _,by show 1≤4;omega⟩,⟨b5.1,by rw[hi];show x.g.ret≤_;omega⟩,by show 0≤x.g.day∧x.g.day≤100000;omega,by show 0≤x.g.ans∧x.g.ans≤100000;omega⟩
  ·rw[List.getElem?_append_right (by omega)]at hg
   have:i-s.gifts.length≠0:=by omega
   rw[List.getElem?_eq_none (by simp;omega)]at hg
   cases hg
 rw[if_neg c5]
 have h67:x.kind=6∨x.kind=7:=by omega
 obtain⟨i1,i2⟩:=id67 h67
 have hg0:=o.gs _ _ (gift_at i1 i2)
 by_cases c6:x.kind=6
 ·rw[if_pos c6]
  have s1ok:(s.setG x.g.id ((s.gift x.g.id).mark 2 x.day)).Ok k:=⟨o.rate,o.ceil,o.met,by simp[St.setG,o.len],gup i1 i2 fun q=>⟨q.id,q.frm,q.to,q.ne,q.cur,q.n,q.worth,⟨by show 1≤2;omega,by show 2≤4;omega⟩,q.ret,q.day,hd⟩⟩
  unfold St.take
  split
  ·exact⟨s1ok.rate,s1ok.ceil,mk,s1ok.len,s1ok.gs⟩
  ·rename_i hret
   generalize hs1:s.setG x.g.id ((s.gift x.g.id).mark 2 x.day)=s1 at s1ok
   have hr:=hg0.ret
   have hwt:=hg0.worth
   have hl:s1.gifts.length=s.gifts.length:=by subst hs1;simp[St.setG]
   have j2:(s.gift x.g.id).ret≤(s1.gifts.length:Int):=by omega
   have hm:∀y,0≤updF s1.met (s.gift x.g.id).ret (s1.met (s.gift x.g.id).ret+(s.gift x.g.id).worth) y∧updF s1.met (s.gift x.g.id).ret (s1.met (s.gift x.g.id).ret+(s.gift x.g.id).worth) y≤((k+1:Nat):Int)*1000000000000:=by
    intro y
    unfold updF
    have h1:=s1ok.met (s.gift x.g.id).ret
    have h2:=s1ok.met y
    split<;>omega
   unfold St.back
   split
   ·refine⟨s1ok.rate,s1ok.ceil,hm,by simp[s1ok.len],?_⟩
    intro i g hg
    rcases zpi (by omega) hg with⟨rfl,rfl⟩|hg
    ·have q:=s1ok.gs _ _ (gift_at (by omega) j2)
     exact⟨q.id,q.frm,q.to,q.ne,q.cur,q.n,q.worth,⟨by show 1≤4;omega,by show 4≤4;omega⟩,q.ret,q.day,q.ans⟩
    ·exact s1ok.gs _ _ hg
   ·exact⟨s1ok.rate,s1ok.ceil,hm,s1ok.len,s1ok.gs⟩
 ·rw[if_neg c6]
  exact⟨o.rate,o.ceil,mk,by simp[St.setG,o.len],gup i1 i2 fun q=>⟨q.id,q.frm,q.to,q.ne,q.cur,q.n,q.worth,⟨by show 1≤3;omega,by show 3≤4;omega⟩,q.ret,q.day,hd⟩⟩
end Go.Air
set_option maxRecDepth 100000
namespace Go.Air
open Go.Air.Try
def RMap (h:H) (b:Nat) (f:Int→Int):Prop:=∃l:List (Int × V),h.get b=some (.map (encM l))∧∀x,(lkp x l).getD (.i .i64 0)=.i .i64 (f x)
def CMap (h:H) (b:Nat) (f:Int→Option Int):Prop:=∃l:List (Int × V),h.get b=some (.map (encM l))∧∀x,lkp x l=(f x).map (V.i .i64)
def zam (gs:List Gf):List V:=gs.flatMap Gf.cells
def GAt (n:Nat) (h:H) (gv:V) (gs:List Gf):Prop:=∃hx:H,hx.next=n+5∧Own hx 10 h gv gs.length (zam gs)
structure StAt (h:H) (n:Nat) (s:St):Prop where
 r:RMap h n s.rate
 c:CMap h (n+1) s.ceil
 m:RMap h (n+3) s.met
 g:∃gv,h.get (n+4)=some (.cells [.m n,.m (n+1),.sn,.m (n+2),gv,.m (n+3)])∧GAt n h gv s.gifts
 lt:n+4<h.next
structure FrS (h h':H) (n:Nat) (s:St):Prop where
 nx:h.next≤h'.next
 same:∀b,b<h.next→(b<n∨n+5≤b)→h.get b≠some (.cells (zam s.gifts))→h'.get b=h.get b
section
variable {h0 h h1 h':H} {n:Nat} {s:St}
theorem FrS.ext (e:Ext h h'):FrS h h' n s:=⟨e.nx,fun b hb _ _=>e.same b hb⟩
theorem FrS.pre (e:Ext h h1) (f:FrS h1 h' n s):FrS h h' n s:=⟨Nat.le_trans e.nx f.nx,fun b hb hn hc=>(f.same b (Nat.lt_of_lt_of_le hb e.nx) hn (by rw[e.same b hb];exact hc)).trans (e.same b hb)⟩
theorem FrS.post (f:FrS h h1 n s) (e:Ext h1 h'):FrS h h' n s:=⟨Nat.le_trans f.nx e.nx,fun b hb hn hc=>(e.same b (Nat.lt_of_lt_of_le hb f.nx)).trans (f.same b hb hn hc)⟩
theorem GAt.keep {gv:V} {gs:List Gf} (a:GAt n h gv gs) (hn:h.next≤h'.next) (hk:∀b,n+5≤b→h.get b=some (.cells (zam gs))→b<h.next→h'.get b=h.get b):GAt n h' gv gs:=by
 obtain⟨hx,e,hl,o|⟨b,g,rfl,hv,h1,h2,hg⟩⟩:=a
 ·exact⟨hx,e,hl,.inl o⟩
 ·exact⟨hx,e,hl,.inr ⟨b,g,rfl,hv,h1,Nat.lt_of_lt_of_le h2 hn,(hk b (by omega) hg h2).trans hg⟩⟩
theorem StAt.step (a:StAt h n s) (e:Ext h h'):StAt h' n s:=by
 obtain⟨⟨lr,r1,r2⟩,⟨lc,c1,c2⟩,⟨lm,m1,m2⟩,⟨gv,g1,g2⟩,lt⟩:=a
 exact⟨⟨lr,e.get (by omega) r1,r2⟩,⟨lc,e.get (by omega) c1,c2⟩,⟨lm,e.get (by omega) m1,m2⟩,⟨gv,e.get (by omega) g1,g2.keep e.nx fun b _ _ hb=>e.same b hb⟩,Nat.lt_of_lt_of_le lt e.nx⟩
theorem RMap.ins {l:List (Int × V)} {f:Int→Int} (hf:∀x,(lkp x l).getD (.i .i64 0)=.i .i64 (f x)) (a v:Int):∀x,(lkp x (insI a (.i .i64 v) l)).getD (.i .i64 0)=.i .i64 (updF f a v x):=by
 intro x
 rw[zmD]
 unfold updF
 by_cases hx:x=a
 ·rw[if_pos hx,if_pos hx];rfl
 ·rw[if_neg hx,if_neg hx];exact hf x
theorem CMap.ins {l:List (Int × V)} {f:Int→Option Int} (hf:∀x,lkp x l=(f x).map (V.i .i64)) (a v:Int):∀x,lkp x (insI a (.i .i64 v) l)=(updF f a (some v) x).map (V.i .i64):=by
 intro x
 rw[zmD]
 unfold updF
 by_cases hx:x=a
 ·rw[if_pos hx,if_pos hx];rfl
 ·rw[if_neg hx,if_neg hx];exact hf x
theorem FrS.put1 {k:Nat} (hk:n≤k) (hk5:k<n+5) (x:Blk):FrS h (h.put k x) n s:=⟨Nat.le_refl _,fun b _ hn _=>zaa (by omega)⟩
theorem t2101:tb1 101=some a101:=by kernel_rfl
theorem t2102:tb1 102=some a102:=by kernel_rfl
theorem fn_rate {x:Ent} (e:Ext h0 h) (hn:h0.next≤n) (a:StAt h n s):WC tb1 (.fn 101 [] []) [.p (n+4) 0,.agg x.cells] h fun _ h'=>Ext h0 h'∧StAt h' n { s with rate:=updF s.rate x.a x.n }∧FrS h h' n s:=by
 refine (zay t2101).2 ?_
 have hc:(V.agg x.cells).cells=x.cells:=rfl
 simp only[go_sem,↓reduceIte,r101_0,hc]
 have ex:Ext h (h.new (.cells x.cells)):=(Ext.refl h).new _
 have gx:(h.new (.cells x.cells)).get h.next=some (.cells x.cells):=zac rfl
 have a1:=a.step ex
 generalize h.new (.cells x.cells)=h1 at ex gx a1
 obtain⟨⟨lr,r1,r2⟩,⟨lc,c1,c2⟩,⟨lm,m1,m2⟩,⟨gv,g1,g2⟩,lt⟩:=a1
 obtain⟨_,_,_,_,_,l21,l23,_⟩:=entL gx
 have l0:ldV h1 (.p (n+4) 0)=some (.m n):=zad g1 rfl
 have ms:zbR h1.bare (.sc (.i .i64)) (.m n) (.i .i64 x.a) (.i .i64 x.n)=some (h1.bare.put n (.map (encM (insI x.a (.i .i64 x.n) lr)))):=zgb (h:=h1.bare) r1 x.a (.i .i64 x.n)
 have bp:=zaH (show n<h1.next by omega) (.map (encM (insI x.a (.i .i64 x.n) lr)))
 simp only[go_sem,↓reduceIte,r101_1,l0,l21,l23,ms,bp,H.back_bare,RO.ofH]
 refine⟨(e.trans ex).put hn _,⟨⟨_,zab,RMap.ins r2 _ _⟩,⟨lc,(zaa (by omega)).trans c1,c2⟩,⟨lm,(zaa (by omega)).trans m1,m2⟩,⟨gv,(zaa (by omega)).trans g1,g2.keep (Nat.le_refl _) fun b hb _ _=>zaa (by omega)⟩,lt⟩,FrS.pre ex (FrS.put1 (Nat.le_refl _) (by omega) _)⟩
theorem zoL {x:Ent} (e:Ext h0 h) (hn:h0.next≤n) (a:StAt h n s):WC tb1 (.fn 102 [] []) [.p (n+4) 0,.agg x.cells] h fun _ h'=>Ext h0 h'∧StAt h' n { s with ceil:=updF s.ceil x.a (some x.n) }∧FrS h h' n s:=by
 refine (zay t2102).2 ?_
 have hc:(V.agg x.cells).cells=x.cells:=rfl
 simp only[go_sem,↓reduceIte,r102_0,hc]
 have ex:Ext h (h.new (.cells x.cells)):=(Ext.refl h).new _
 have gx:(h.new (.cells x.cells)).get h.next=some (.cells x.cells):=zac rfl
 have a1:=a.step ex
 generalize h.new (.cells x.cells)=h1 at ex gx a1
 obtain⟨⟨lr,r1,r2⟩,⟨lc,c1,c2⟩,⟨lm,m1,m2⟩,⟨gv,g1,g2⟩,lt⟩:=a1
 obtain⟨_,_,_,_,_,l21,l23,_⟩:=entL gx
 have l0:ldV h1 (.p (n+4) 1)=some (.m (n+1)):=zad g1 rfl
 have ms:zbR h1.bare (.sc (.i .i64)) (.m (n+1)) (.i .i64 x.a) (.i .i64 x.n)=some (h1.bare.put (n+1) (.map (encM (insI x.a (.i .i64 x.n) lc)))):=zgb (h:=h1.bare) c1 x.a (.i .i64 x.n)
 have bp:=zaH (show n+1<h1.next by omega) (.map (encM (insI x.a (.i .i64 x.n) lc)))
 simp only[go_sem,↓reduceIte,r102_1,l0,l21,l23,ms,bp,H.back_bare,RO.ofH]
 refine⟨(e.trans ex).put (by omega) _,⟨⟨lr,(zaa (by omega)).trans r1,r2⟩,⟨_,zab,CMap.ins c2 _ _⟩,⟨lm,(zaa (by omega)).trans m1,m2⟩,⟨gv,(zaa (by omega)).trans g1,g2.keep (Nat.le_refl _) fun b hb _ _=>zaa (by omega)⟩,lt⟩,FrS.pre ex (FrS.put1 (by omega) (by omega) _)⟩
end
end Go.Air
set_option maxRecDepth 100000
namespace Go.Air
open Go.Air.Try
theorem zbp {α β:Type} {f:α→List β} {k:Nat} (hf:∀a,(f a).length=k):∀l:List α,(l.flatMap f).length=l.length*k
 |[]=>by simp
 |a::l=>by rw[List.flatMap_cons,List.length_append,hf,zbp hf l,List.length_cons,Nat.add_mul,Nat.one_mul,Nat.add_comm]
theorem zeQ {α β:Type} {f:α→List β} {k:Nat} (hf:∀a,(f a).length=k):∀{l:List α} {i j:Nat} {a:α},l[i]? = some a→j<k→(l.flatMap f)[i*k+j]? = (f a)[j]?
 |[],i,_,_,h,_=>by simp at h
 |b::l,0,j,a,h,hj=>by
  cases h
  rw[List.flatMap_cons,Nat.zero_mul,Nat.zero_add,List.getElem?_append_left (by rw[hf];exact hj)]
 |b::l,i+1,j,a,h,hj=>by
  have h:l[i]? = some a:=h
  rw[List.flatMap_cons,List.getElem?_append_right (by rw[hf,Nat.add_mul];omega),hf,show (i+1)*k+j-k=i*k+j by rw[Nat.add_mul];omega]
  exact zeQ hf h hj
theorem zcm {α β:Type} {f:α→List β} {k:Nat} (hf:∀a,(f a).length=k):∀{l:List α} {i:Nat} {a:α},l[i]? = some a→((l.flatMap f).drop (i*k)).take k=f a
 |[],i,_,h=>by simp at h
 |b::l,0,a,h=>by
  cases h
  rw[List.flatMap_cons,Nat.zero_mul,List.drop_zero]
  exact List.take_left' (hf _)
 |b::l,i+1,a,h=>by
  have h:l[i]? = some a:=h
  rw[List.flatMap_cons,show (i+1)*k=(f b).length+i*k by rw[hf,Nat.add_mul];omega,List.drop_length_add_append]
  exact zcm hf h
theorem zlC {α β:Type} {f:α→List β} {k:Nat} (hf:∀a,(f a).length=k):∀{l:List α} {i j:Nat} {a a':α} {v:β},l[i]? = some a→j<k→(f a).set j v=f a'→(l.flatMap f).set (i*k+j) v=(l.set i a').flatMap f
 |[],i,_,_,_,_,h,_,_=>by simp at h
 |b::l,0,j,a,a',v,h,hj,hs=>by
  cases h
  rw[List.set_cons_zero,List.flatMap_cons,List.flatMap_cons,Nat.zero_mul,Nat.zero_add,List.set_append_left _ _ (by rw[hf];exact hj),hs]
 |b::l,i+1,j,a,a',v,h,hj,hs=>by
  have h:l[i]? = some a:=h
  rw[List.set_cons_succ,List.flatMap_cons,List.flatMap_cons,List.set_append_right _ _ (by rw[hf,Nat.add_mul];omega),hf,show (i+1)*k+j-k=i*k+j by rw[Nat.add_mul];omega]
  rw[zlC hf h hj hs]
theorem zaK (g:Gf):g.cells.length=10:=rfl
section
variable {h0 h h1 h':H} {n:Nat} {s:St} {gv:V} {gs:List Gf}
theorem GAt.at (a:GAt n h gv gs) (hp:0<gs.length):∃gb g,gv=.sl gb 0 gs.length gs.length g∧n+5≤gb∧gb<h.next∧h.get gb=some (.cells (zam gs))∧(∀h' gs',h.next≤h'.next→gs'.length=gs.length→h'.get gb=some (.cells (zam gs'))→GAt n h' gv gs'):=by
 obtain⟨hx,e,hl,⟨hn,_⟩|⟨b,g,rfl,hv,h1,h2,hg⟩⟩:=a
 ·omega
 ·refine⟨b,g,rfl,by omega,h2,hg,fun h' gs' hn hl' hg'=>⟨hx,e,?_,.inr ⟨b,g,by rw[hl'],hv,h1,Nat.lt_of_lt_of_le h2 hn,hg'⟩⟩⟩
  exact zbp zaK gs'
theorem zek {gb:Nat} {g:Option Nat} {i m:Nat} {k:Int} (hi:k=(i:Int)) (hl:i<m):ixV 10 (.sl gb 0 m m g) (.i .i64 k)=some (.p gb (i*10)):=by
 subst hi
 simp only[ixV]
 rw[show zbg (.i .i64 (i:Int))=some i from rfl]
 simp[hl]
theorem zej {gb i k:Nat} {g:Gf} {v:V} (gg:h.get gb=some (.cells (zam gs))) (hi:gs[i]? = some g) (hk:k<10) (hv:g.cells[k]? = some v):ldV h (.p gb (i*10+k))=some v:=
 zad gg (by unfold zam;rw[zeQ zaK hi hk];exact hv)
theorem zmH {gb i k:Nat} {g g':Gf} {v:V} (gg:h.get gb=some (.cells (zam gs))) (hi:gs[i]? = some g) (hk:k<10) (hx:v.cells=[v]) (ho:v.oneCell=true) (hv:g.cells.set k v=g'.cells) :
 stV h 1 (.p gb (i*10+k)) v=some (h.put gb (.cells (zam (gs.set i g')))):=by
 have hlt:i<gs.length:=by
  rw[List.getElem?_eq_some_iff]at hi
  exact hi.1
 refine zbG gg ?_ hx ho (zlC zaK hi hk hv)
 unfold zam
 rw[zbp zaK]
 omega
theorem zhV {gb i k:Nat} {g g':Gf} {v:V} (gg:h.get gb=some (.cells (zam gs))) (hi:gs[i]? = some g) (hk:k<10) (hx:v.cells=[v]) (ho:v.oneCell=true) (hv:g.cells.set k v=g'.cells) :
 stV h.bare 1 (.p gb (i*10+k)) v=some (h.bare.put gb (.cells (zam (gs.set i g')))):=zmH (h:=h.bare) gg hi hk hx ho hv
theorem t2107:tb1 107=some a107:=by kernel_rfl
theorem t2106:tb1 106=some a106:=by kernel_rfl
theorem zqr {x:Ent} (e:Ext h0 h) (hn:h0.next≤n) (a:StAt h n s) (i1:1≤x.g.id) (i2:x.g.id≤(s.gifts.length:Int)) (i3:x.g.id≤1000000) :
 WC tb1 (.fn 107 [] []) [.p (n+4) 0,.agg x.cells] h fun _ h'=>Ext h0 h'∧StAt h' n (s.setG x.g.id ((s.gift x.g.id).mark 3 x.day))∧FrS h h' n s:=by
 refine (zay t2107).2 ?_
 have hc:(V.agg x.cells).cells=x.cells:=rfl
 simp only[go_sem,↓reduceIte,r107_0,hc]
 have ex:Ext h (h.new (.cells x.cells)):=(Ext.refl h).new _
 have gx:(h.new (.cells x.cells)).get h.next=some (.cells x.cells):=zac rfl
 generalize h.new (.cells x.cells)=h1 at ex gx
 obtain⟨⟨lr,r1,r2⟩,⟨lc,c1,c2⟩,⟨lm,m1,m2⟩,⟨gv,g1,g2⟩,lt⟩:=a
 obtain⟨gb,gi,rfl,gn,gl,gg,gk⟩:=g2.at (by omega)
 have nx:=ex.nx
 obtain⟨_,l1,_,_,l11,_⟩:=entL gx
 have gg1:=ex.get gl gg
 have hi:=St.gift_at i1 i2
 have hlt:(x.g.id-1).toNat<s.gifts.length:=by omega
 have hw:IntKind.i64.wrap (x.g.id-1)=x.g.id-1:=zap (by omega) (by omega)
 have l4:ldV h1 (.p (n+4) 4)=some (.sl gb 0 s.gifts.length s.gifts.length gi):=zad (ex.get (by omega) g1) rfl
 have hix:=zek (gb:=gb) (g:=gi) (m:=s.gifts.length) (k:=x.g.id-1) (i:=(x.g.id-1).toNat) (by omega) hlt
 have hsi:(s.setG x.g.id ((s.gift x.g.id).mark 3 x.day)).gifts=s.gifts.set (x.g.id-1).toNat ((s.gift x.g.id).mark 3 x.day):=rfl
 generalize (x.g.id-1).toNat=i at hi hix hlt hsi
 have s7:=zhV (h:=h1) (v:=.i .u8 3) (k:=7) (g':=((s.gift x.g.id).mark 3 (s.gift x.g.id).ans)) gg1 hi (by omega) rfl rfl rfl
 have b7:=zaH (show gb<h1.next by omega) (.cells (zam (s.gifts.set i ((s.gift x.g.id).mark 3 (s.gift x.g.id).ans))))
 have hi2:(s.gifts.set i ((s.gift x.g.id).mark 3 (s.gift x.g.id).ans))[i]? = some ((s.gift x.g.id).mark 3 (s.gift x.g.id).ans):=List.getElem?_set_self hlt
 have s8:=zhV (h:=h1.put gb (.cells (zam (s.gifts.set i ((s.gift x.g.id).mark 3 (s.gift x.g.id).ans))))) (v:=.i .i64 x.day) (k:=8) (g':=((s.gift x.g.id).mark 3 x.day)) zab hi2 (by omega) rfl rfl rfl
 have b8:=zaH (h:=h1.put gb (.cells (zam (s.gifts.set i ((s.gift x.g.id).mark 3 (s.gift x.g.id).ans))))) (show gb<h1.next by omega) (.cells (zam ((s.gifts.set i ((s.gift x.g.id).mark 3 (s.gift x.g.id).ans)).set i ((s.gift x.g.id).mark 3 x.day))))
 rw[List.set_set]at s8 b8
 simp only[go_sem,↓reduceIte,r107_1,l4,l11,hw,hix,H.back_bare]
 refine zdy (fun t=>t.length=22∧nth t 3=.p h.next 0∧nth t 4=.p gb (i*10)) (by simp only[go_sem,↓reduceIte]) ?_
 rintro t ⟨tl,t3,t4⟩
 simp only[go_sem,↓reduceIte,r107_2,tl,t3,t4,l1,s7,b7,s8,b8,H.back_bare,zaG]
 refine⟨?_,?_⟩
 ·have hne:h.next≠gb:=by omega
  simp only[zbX,List.all_cons,List.all_nil,Bool.and_true,List.getElem?_cons_succ,List.getElem?_cons_zero,zfM,reads,go_sem,↓reduceIte,tl,t3,t4,zaU,zhi (show gb<h1.next by omega),List.nil_append,List.cons_append]
  simp[hne.symm]
 ·refine⟨((e.trans ex).put (by omega) _).put (by omega) _,⟨⟨lr,?_,r2⟩,⟨lc,?_,c2⟩,⟨lm,?_,m2⟩,⟨_,?_,gk _ _ nx (by simp[hsi,St.setG]) ?_⟩,Nat.lt_of_lt_of_le lt nx⟩,nx,?_⟩
  ·rw[zaa (by omega),zaa (by omega)];exact ex.get (by omega) r1
  ·rw[zaa (by omega),zaa (by omega)];exact ex.get (by omega) c1
  ·rw[zaa (by omega),zaa (by omega)];exact ex.get (by omega) m1
  ·rw[zaa (by omega),zaa (by omega)];exact ex.get (by omega) g1
  ·rw[zab,hsi]
  ·intro b hb _ hc
   have hbne:b≠gb:=fun q=>hc (by rw[q];exact gg)
   rw[zaa hbne,zaa hbne,ex.same b hb]
theorem fn_take {x:Ent} {k:Nat} (o:s.Ok k) (hk:k≤1000) (e:Ext h0 h) (hn:h0.next≤n) (a:StAt h n s) (i1:1≤x.g.id) (i2:x.g.id≤(s.gifts.length:Int)) (i3:x.g.id≤1000000) :
 WC tb1 (.fn 106 [] []) [.p (n+4) 0,.agg x.cells] h fun _ h'=>Ext h0 h'∧StAt h' n (s.take x.day x.g.id)∧FrS h h' n s:=by
 refine (zay t2106).2 ?_
 have hc:(V.agg x.cells).cells=x.cells:=rfl
 simp only[go_sem,↓reduceIte,r106_0,hc]
 have ex:Ext h (h.new (.cells x.cells)):=(Ext.refl h).new _
 have gx:(h.new (.cells x.cells)).get h.next=some (.cells x.cells):=zac rfl
 generalize h.new (.cells x.cells)=h1 at ex gx
 obtain⟨⟨lr,r1,r2⟩,⟨lc,c1,c2⟩,⟨lm,m1,m2⟩,⟨gv,g1,g2⟩,lt⟩:=a
 obtain⟨gb,gi,rfl,gn,gl,gg,gk⟩:=g2.at (by omega)
 have nx:=ex.nx
 obtain⟨_,l1,_,_,l11,_⟩:=entL gx
 have gg1:=ex.get gl gg
 have hi:=St.gift_at i1 i2
 have hlt:(x.g.id-1).toNat<s.gifts.length:=by omega
 have hw:IntKind.i64.wrap (x.g.id-1)=x.g.id-1:=zap (by omega) (by omega)
 have g11:=ex.get (by omega) g1
 have l4:ldV h1 (.p (n+4) 4)=some (.sl gb 0 s.gifts.length s.gifts.length gi):=zad g11 rfl
 have hix:=zek (gb:=gb) (g:=gi) (m:=s.gifts.length) (k:=x.g.id-1) (i:=(x.g.id-1).toNat) (by omega) hlt
 have hsi:s.setG x.g.id ((s.gift x.g.id).mark 2 x.day)={ s with gifts:=s.gifts.set (x.g.id-1).toNat ((s.gift x.g.id).mark 2 x.day) }:=rfl
 have of:=o.gs _ _ hi
 have hret0:=of.ret
 generalize (x.g.id-1).toNat=i at hi hix hlt hsi hret0 of
 generalize hgg:s.gift x.g.id=g at hi hsi hret0 of
 have s7:=zhV (h:=h1) (v:=.i .u8 2) (k:=7) (g':=g.mark 2 g.ans) gg1 hi (by omega) rfl rfl rfl
 have b7:=zaH (show gb<h1.next by omega) (.cells (zam (s.gifts.set i (g.mark 2 g.ans))))
 have hi2:(s.gifts.set i (g.mark 2 g.ans))[i]? = some (g.mark 2 g.ans):=List.getElem?_set_self hlt
 have s8:=zhV (h:=h1.put gb (.cells (zam (s.gifts.set i (g.mark 2 g.ans))))) (v:=.i .i64 x.day) (k:=8) (g':=g.mark 2 x.day) zab hi2 (by omega) rfl rfl rfl
 have b8:=zaH (h:=h1.put gb (.cells (zam (s.gifts.set i (g.mark 2 g.ans))))) (show gb<h1.next by omega) (.cells (zam ((s.gifts.set i (g.mark 2 g.ans)).set i (g.mark 2 x.day))))
 rw[List.set_set]at s8 b8
 simp only[go_sem,↓reduceIte,r106_1,l4,l11,hw,hix,H.back_bare]
 refine zdy (fun t=>t.length=69∧nth t 0=.p (n+4) 0∧nth t 3=.p h.next 0∧nth t 4=.p gb (i*10)) (by simp only[go_sem,↓reduceIte]) ?_
 rintro t ⟨tl,t0,t3,t4⟩
 simp only[go_sem,↓reduceIte,r106_2,tl,t3,t4,l1,s7,b7,s8,b8,H.back_bare,zaG]
 refine⟨?_,?_⟩
 ·have hne:h.next≠gb:=by omega
  simp only[zbX,List.all_cons,List.all_nil,Bool.and_true,List.getElem?_cons_succ,List.getElem?_cons_zero,zfM,reads,go_sem,↓reduceIte,tl,t3,t4,zaU,zhi (show gb<h1.next by omega),List.nil_append,List.cons_append]
  simp[hne.symm]
 generalize hh2:(h1.put gb (.cells (zam (s.gifts.set i (g.mark 2 g.ans))))).put gb (.cells (zam (s.gifts.set i (g.mark 2 x.day))))=h2
 have e2:Ext h0 h2:=by subst hh2;exact ((e.trans ex).put (by omega) _).put (by omega) _
 have g2b:h2.get gb=some (.cells (zam (s.gifts.set i (g.mark 2 x.day)))):=by subst hh2;exact zab
 have k2:∀b,b≠gb→h2.get b=h1.get b:=by intro b hb;subst hh2;rw[zaa hb,zaa hb]
 have n2:h2.next=h1.next:=by subst hh2;rfl
 have fr2:FrS h h2 n s:=⟨by omega,fun b hb _ hc=>by
  have hbne:b≠gb:=fun q=>hc (by rw[q];exact gg)
  rw[k2 b hbne,ex.same b hb]⟩
 have a2:StAt h2 n (s.setG x.g.id (g.mark 2 x.day)):=by
  rw[hsi]
  refine⟨⟨lr,?_,r2⟩,⟨lc,?_,c2⟩,⟨lm,?_,m2⟩,⟨_,?_,gk _ _ (by omega) (by simp) g2b⟩,by omega⟩
  ·rw[k2 _ (by omega)];exact ex.get (by omega) r1
  ·rw[k2 _ (by omega)];exact ex.get (by omega) c1
  ·rw[k2 _ (by omega)];exact ex.get (by omega) m1
  ·rw[k2 _ (by omega)];exact g11
 clear s7 b7 s8 b8 hh2
 have hi3:(s.gifts.set i (g.mark 2 x.day))[i]? = some (g.mark 2 x.day):=List.getElem?_set_self hlt
 have l9:ldV h2 (.p gb (i*10+9))=some (.i .i64 g.ret):=zej g2b hi3 (by omega) rfl
 refine zbs (fun t=>t.length=69∧nth t 0=.p (n+4) 0∧nth t 4=.p gb (i*10)) (by simp only[go_sem,↓reduceIte,tl,t0,t4]) ?_
 clear t0 t3 t4 tl
 rintro t ⟨tl,t0,t4⟩
 by_cases hret:g.ret=0
 ·simp only[go_sem,↓reduceIte,r106_3,tl,t4,l9,hret]
  unfold St.take
  rw[hgg,if_pos hret]
  exact⟨e2,a2,fr2⟩
 ·simp only[go_sem,↓reduceIte,r106_3,tl,t4,l9,hret]
  have hm2:h2.get (n+3)=some (.map (encM lm)):=by rw[k2 _ (by omega)];exact ex.get (by omega) m1
  have g12:h2.get (n+4)=_:=(k2 _ (by omega)).trans g11
  have l5:ldV h2 (.p (n+4) 5)=some (.m (n+3)):=zad g12 rfl
  have l6:ldV h2 (.p gb (i*10+6))=some (.i .i64 g.worth):=zej g2b hi3 (by omega) rfl
  have lk:=zeL hm2 g.ret
  have lg:=m2 g.ret
  have hm:=o.met g.ret
  have hwt:=of.worth
  have hw2:IntKind.i64.wrap (s.met g.ret+g.worth)=s.met g.ret+g.worth:=zap (by omega) (by omega)
  have ms:zbR h2.bare (.sc (.i .i64)) (.m (n+3)) (.i .i64 g.ret) (.i .i64 (s.met g.ret+g.worth))=some (h2.bare.put (n+3) (.map (encM (insI g.ret (.i .i64 (s.met g.ret+g.worth)) lm)))):=zgb (h:=h2.bare) hm2 _ _
  have bp:=zaH (show n+3<h2.next by omega) (.map (encM (insI g.ret (.i .i64 (s.met g.ret+g.worth)) lm)))
  simp only[go_sem,↓reduceIte,r106_4,tl,t0,t4,l5,l6,l9,lk,lg,Option.map_some,hw2,ms,bp,RO.ofH,H.back_bare]
  have mi:=RMap.ins m2 g.ret (s.met g.ret+g.worth)
  have mi0:=mi g.ret
  rw[zid]at mi0
  generalize insI g.ret (.i .i64 (s.met g.ret+g.worth)) lm=lm3 at mi mi0
  generalize hh3:h2.put (n+3) (.map (encM lm3))=h3
  have k3:∀b,b≠n+3→h3.get b=h2.get b:=by intro b hb;subst hh3;exact zaa hb
  have m3:h3.get (n+3)=some (.map (encM lm3)):=by subst hh3;exact zab
  have n3:h3.next=h2.next:=by subst hh3;rfl
  have e3:Ext h0 h3:=by subst hh3;exact e2.put (by omega) _
  have g13:h3.get (n+4)=_:=(k3 _ (by omega)).trans g12
  have g3b:h3.get gb=_:=(k3 _ (by omega)).trans g2b
  have fr3:FrS h h3 n s:=⟨by omega,fun b hb hn hc=>by rw[k3 b (by omega)];exact fr2.same b hb hn hc⟩
  have a3:StAt h3 n { s.setG x.g.id (g.mark 2 x.day) with met:=updF s.met g.ret (s.met g.ret+g.worth) }:=by
   refine⟨⟨lr,?_,r2⟩,⟨lc,?_,c2⟩,⟨lm3,m3,mi⟩,⟨_,g13,?_⟩,by omega⟩
   ·rw[k3 _ (by omega),k2 _ (by omega)];exact ex.get (by omega) r1
   ·rw[k3 _ (by omega),k2 _ (by omega)];exact ex.get (by omega) c1
   ·rw[hsi];exact gk _ _ (by omega) (by simp) g3b
  clear ms bp hh3
  refine zjF (fun t=>t.length=69∧nth t 0=.p (n+4) 0∧nth t 4=.p gb (i*10)) (by simp only[go_sem,↓reduceIte,tl,t0,t4]) ?_
  clear t0 t4 tl
  rintro t ⟨tl,t0,t4⟩
  have l4':ldV h3 (.p (n+4) 4)=some (.sl gb 0 s.gifts.length s.gifts.length gi):=zad g13 rfl
  have l5':ldV h3 (.p (n+4) 5)=some (.m (n+3)):=zad g13 rfl
  have l9':ldV h3 (.p gb (i*10+9))=some (.i .i64 g.ret):=zej g3b hi3 (by omega) rfl
  have lk3:=zeL m3 g.ret
  have hlen5:=o.len
  have hwr:IntKind.i64.wrap (g.ret-1)=g.ret-1:=zap (by omega) (by omega)
  have hj1:1≤g.ret:=by omega
  have hj2:g.ret≤(s.gifts.length:Int):=by omega
  have hjlt:(g.ret-1).toNat<s.gifts.length:=by omega
  have hixj:=zek (gb:=gb) (g:=gi) (m:=s.gifts.length) (k:=g.ret-1) (i:=(g.ret-1).toNat) (by omega) hjlt
  have hl3:(s.setG x.g.id (g.mark 2 x.day)).gifts.length=s.gifts.length:=by rw[hsi];simp
  have hj:=St.gift_at (s:=s.setG x.g.id (g.mark 2 x.day)) hj1 (by omega)
  have hgs:(s.setG x.g.id (g.mark 2 x.day)).gifts=s.gifts.set i (g.mark 2 x.day):=by rw[hsi]
  have hbk:s.take x.day x.g.id=(s.setG x.g.id (g.mark 2 x.day)).back g:=by unfold St.take;rw[hgg,if_neg hret]
  have hmt:(s.setG x.g.id (g.mark 2 x.day)).met=s.met:=rfl
  rw[hbk]
  generalize s.setG x.g.id (g.mark 2 x.day)=s1 at a3 hj hl3 hgs hmt
  rw[← hgs]at g3b
  generalize hd:s1.gift g.ret=d at hj
  generalize hjj:(g.ret-1).toNat=j at hj hixj hjlt
  have l6':ldV h3 (.p gb (j*10+6))=some (.i .i64 d.worth):=zej g3b hj (by omega) rfl
  simp only[go_sem,↓reduceIte,r106_5,r106_6,tl,t0,t4,l4',l5',l9',hwr,hixj,lk3,mi0,Option.map_some,l6',H.back_bare]
  by_cases hle:d.worth≤s.met g.ret+g.worth
  ·have s4:=zmH (h:=h3) (v:=.i .u8 4) (k:=7) (g':=d.done) g3b hj (by omega) rfl rfl rfl
   simp only[go_sem,↓reduceIte,r106_7,tl,hle,s4]
   refine⟨e3.put (by omega) _,?_,fr3.nx,fun b hb hn hc => ?_⟩
   ·unfold St.back
    rw[hd,hmt,if_pos hle,hjj]
    obtain⟨⟨lr,r1,r2⟩,⟨lc,c1,c2⟩,⟨lm,m1,m2⟩,⟨gv,g1,g2⟩,lt⟩:=a3
    refine⟨⟨lr,(zaa (by omega)).trans r1,r2⟩,⟨lc,(zaa (by omega)).trans c1,c2⟩,⟨lm,(zaa (by omega)).trans m1,m2⟩,⟨_,(zaa (by omega)).trans g13,gk _ _ (by show _≤h3.next;omega) (by simp[hl3]) zab⟩,lt⟩
   ·rw[zaa (fun q=>hc (by rw[q];exact gg))]
    exact fr3.same b hb hn hc
  ·simp only[go_sem,↓reduceIte,tl,hle]
   unfold St.back
   rw[hd,hmt,if_neg hle]
   exact⟨e3,a3,fr3⟩
end
end Go.Air
set_option maxRecDepth 100000
namespace Go.Air
open Go.Air.Try
theorem zcT {t z c:List V} {x:X} {k:Nat} (hx:x.ev t=.agg c) (hl:c.length=k) (hz:z.length=k):fill t z [(0,k,x)]=some c:=by
 have h1:(V.agg c).cells=c:=rfl
 have h2:lay z 0 c=some c:=by
  rw[zeu]
  exact⟨by omega,by simp[List.drop_eq_nil_of_le (show z.length≤c.length by omega)]⟩
 have h3:Nat.beq c.length k=true:=by rw[hl];exact Nat.beq_refl k
 simp only[fill,hx,h1,h2,h3,if_true]
theorem Own.vals1 {h0 h:H} {esz n:Nat} {v:V} {cs:List V} (o:Own h0 esz h v n cs):v.cells=[v]∧v.oneCell=true:=by
 obtain⟨_,⟨_,rfl⟩|⟨b,g,rfl,_⟩⟩:=o<;>exact⟨rfl,rfl⟩
def gz:List V:=[.i .i64 0,.i .i64 0,.i .i64 0,.i .i64 0,.i .u8 0,.i .i64 0,.i .i64 0,.i .u8 0,.i .i64 0,.i .i64 0]
section
variable {h0 h h1 h':H} {n:Nat} {s:St} {gv:V} {gs:List Gf}
theorem GAt.own (a:GAt n h gv gs) (hn:h0.next≤n):Own h0 10 h gv gs.length (zam gs):=by
 obtain⟨hx,e,o⟩:=a
 exact o.mono (by omega)
theorem GAt.of (o:Own h0 10 h gv gs.length (zam gs)) (hb:n+5≤blkV gv) (hn:0<gs.length):GAt n h gv gs:=by
 obtain⟨hl,⟨h0,_⟩|⟨b,g,rfl,hv,h1,h2,hg⟩⟩:=o
 ·omega
 ·exact⟨⟨n+5,h.mem,[]⟩,rfl,hl,.inr ⟨b,g,rfl,hv,hb,h2,hg⟩⟩
theorem t2161:tb1 161=some a161:=by kernel_rfl
theorem t2105:tb1 105=some a105:=by kernel_rfl
theorem znC {g:Gf} (a:StAt h n s) (hc:g.cur<256) (hg:0≤g.n∧g.n≤1000000) (hr:0≤s.rate g.cur∧s.rate g.cur≤1000000):WC tb1 (.fn 161 [] []) [.p (n+4) 0,.agg g.cells] h fun u h'=>u=.i .i64 (s.worth g)∧Ext h h':=by
 refine (zay t2161).2 ?_
 have hcc:(V.agg g.cells).cells=g.cells:=rfl
 simp only[go_sem,↓reduceIte,r161_0,hcc]
 have ex:Ext h (h.new (.cells g.cells)):=(Ext.refl h).new _
 have gx:(h.new (.cells g.cells)).get h.next=some (.cells g.cells):=zac rfl
 have a1:=a.step ex
 generalize h.new (.cells g.cells)=h1 at ex gx a1
 obtain⟨⟨lr,r1,r2⟩,_,_,⟨gv,g1,_⟩,lt⟩:=a1
 have l0:ldV h1 (.p (n+4) 0)=some (.m n):=zad g1 rfl
 have l5:ldV h1 (.p h.next 5)=some (.i .i64 g.n):=zad gx rfl
 have l4:ldV h1 (.p h.next 4)=some (.i .u8 (g.cur:Int)):=zad gx rfl
 have lk:=zeL r1 (g.cur:Int)
 have lg:=r2 (g.cur:Int)
 have hcv:=zcn hc
 have hw:IntKind.i64.wrap (g.n*s.rate (g.cur:Int))=g.n*s.rate (g.cur:Int):=by
  have h1:=Int.mul_nonneg hg.1 hr.1
  have h2:=Int.mul_le_mul hg.2 hr.2 hr.1 (by omega)
  exact zap (by omega) (by omega)
 simp only[go_sem,↓reduceIte,r161_1,l0,l4,l5,hcv,lk,lg,Option.map_some,hw]
 exact⟨rfl,ex⟩
theorem fn_offer {x:Ent} (e:Ext h0 h) (hn:h0.next≤n) (a:StAt h n s) (hc:x.g.cur<256) (hg:0≤x.g.n∧x.g.n≤1000000) (hr:0≤s.rate x.g.cur∧s.rate x.g.cur≤1000000) (hl:s.gifts.length≤500) :
 WC tb1 (.fn 105 [] []) [.p (n+4) 0,.agg x.cells] h fun _ h'=>Ext h0 h'∧StAt h' n (s.offer x.g)∧FrS h h' n s:=by
 refine (zay t2105).2 ?_
 have hcc:(V.agg x.cells).cells=x.cells:=rfl
 simp only[go_sem,↓reduceIte,r105_0,hcc]
 have ex:Ext h (h.new (.cells x.cells)):=(Ext.refl h).new _
 have gx:(h.new (.cells x.cells)).get h.next=some (.cells x.cells):=zac rfl
 have n1:(h.new (.cells x.cells)).next=h.next+1:=rfl
 generalize h.new (.cells x.cells)=h1 at ex gx n1
 obtain⟨_,_,_,_,_,_,_,_,lg,_⟩:=entL gx
 have sg:=zal (h:=h1.new (.cells gz)) (b:=h1.next) (k:=10) (d:=x.g.cells) (zac rfl) rfl rfl (zdN x.g)
 have hz:([.i .i64 0,.i .i64 0,.i .i64 0,.i .i64 0,.i .u8 0,.i .i64 0,.i .i64 0,.i .u8 0,.i .i64 0,.i .i64 0]:List V)=gz:=rfl
 simp only[hz,go_sem,↓reduceIte,r105_1,lg,sg]
 have ey:Ext h ((h1.new (.cells gz)).put h1.next (.cells x.g.cells)):=(ex.new _).put (by omega) _
 have gg:((h1.new (.cells gz)).put h1.next (.cells x.g.cells)).get h1.next=some (.cells x.g.cells):=zab
 have n2:((h1.new (.cells gz)).put h1.next (.cells x.g.cells)).next=h1.next+1:=rfl
 generalize (h1.new (.cells gz)).put h1.next (.cells x.g.cells)=h2 at ey gg n2
 generalize h1.next=b at gg n1 n2
 have lgg:=zar gg (zaK x.g)
 simp only[go_sem,↓reduceIte,r105_2,lgg]
 refine (znC (a.step ey) (by omega) hg hr).mono ?_
 rintro u h3 ⟨rfl,e3⟩
 have g3:=e3.get (by omega) gg
 have s6:=zbG (i:=6) (x:=.i .i64 (s.worth x.g)) (c':=(⟨x.g.id,x.g.day,x.g.frm,x.g.to,x.g.cur,x.g.n,s.worth x.g,x.g.st,x.g.ans,x.g.ret⟩:Gf).cells) g3 (by rw[zaK];omega) rfl rfl rfl
 have s7:=zbG (hh:=h3.put b (.cells (⟨x.g.id,x.g.day,x.g.frm,x.g.to,x.g.cur,x.g.n,s.worth x.g,x.g.st,x.g.ans,x.g.ret⟩:Gf).cells)) (i:=7) (x:=.i .u8 1) (c':=(x.g.offd (s.worth x.g)).cells) zab (by rw[zaK];omega) rfl rfl rfl
 simp only[go_sem,↓reduceIte,s6,s7]
 have e4:Ext h ((h3.put b (.cells (⟨x.g.id,x.g.day,x.g.frm,x.g.to,x.g.cur,x.g.n,s.worth x.g,x.g.st,x.g.ans,x.g.ret⟩:Gf).cells)).put b (.cells (x.g.offd (s.worth x.g)).cells)):=((ey.trans e3).put (by omega) _).put (by omega) _
 have g4:((h3.put b (.cells (⟨x.g.id,x.g.day,x.g.frm,x.g.to,x.g.cur,x.g.n,s.worth x.g,x.g.st,x.g.ans,x.g.ret⟩:Gf).cells)).put b (.cells (x.g.offd (s.worth x.g)).cells)).get b=some (.cells (x.g.offd (s.worth x.g)).cells):=zab
 have hb4:b<((h3.put b (.cells (⟨x.g.id,x.g.day,x.g.frm,x.g.to,x.g.cur,x.g.n,s.worth x.g,x.g.st,x.g.ans,x.g.ret⟩:Gf).cells)).put b (.cells (x.g.offd (s.worth x.g)).cells)).next:=by
  show b<h3.next
  have:=e3.nx
  omega
 generalize (h3.put b (.cells (⟨x.g.id,x.g.day,x.g.frm,x.g.to,x.g.cur,x.g.n,s.worth x.g,x.g.st,x.g.ans,x.g.ret⟩:Gf).cells)).put b (.cells (x.g.offd (s.worth x.g)).cells)=h4 at e4 g4 hb4
 clear s6 s7 g3 e3 sg
 refine zjF (fun t=>t.length=22∧nth t 0=.p (n+4) 0∧nth t 4=.p b 0) (by simp only[go_sem,↓reduceIte]) ?_
 rintro t ⟨tl,t0,t4⟩
 have a4:=a.step e4
 have lt0:=a.lt
 obtain⟨⟨lr,r1,r2⟩,⟨lc,c1,c2⟩,⟨lm,m1,m2⟩,⟨gv,g1,g2⟩,lt⟩:=a4
 have ov:gv.cells=[gv]∧gv.oneCell=true:=by obtain⟨_,_,o⟩:=g2;exact o.vals1
 have l4:ldV h4 (.p (n+4) 4)=some gv:=zad g1 rfl
 have lgg:=zar g4 (zaK _)
 have e5:Ext h4 (h4.new (.cells (x.g.offd (s.worth x.g)).cells)):=(Ext.refl h4).new _
 have e50:=(e.trans e4).trans e5
 have o5:=(g2.own (h0:=h0) hn).ext e5
 obtain⟨v',hb,h6,p1,p2,p3,p4,p5,p6,p7⟩:=o5.appB (bytes:=80) e50 (Own.lit (esz:=10) (Ext.refl h4) (x.g.offd (s.worth x.g)).cells 1 rfl).1.sl (zdN _) (by omega) (by omega) (by omega)
 have p7:=p7 (by omega)
 have n5:(h4.new (.cells (x.g.offd (s.worth x.g)).cells)).next=h4.next+1:=rfl
 have k6:∀k,k<n+5→h6.get k=h4.get k:=fun k hk=>(p6 k (by omega) (by
  obtain⟨_,_,_,⟨_,rfl⟩|⟨b',_,rfl,_,hb',_⟩⟩:=g2
  ·exact .inl rfl
  ·exact .inr (by show k≠b';omega))).trans (e5.same k (by omega))
 have hgc:zam s.gifts++(x.g.offd (s.worth x.g)).cells=zam (s.offer x.g).gifts:=by unfold zam St.offer;simp
 rw[hgc]at p4
 have sb:=zfU (hh:=h6) (b:=n+4) (i:=4) (x:=v') (c':=[.m n,.m (n+1),.sn,.m (n+2),v',.m (n+3)]) ((k6 _ (by omega)).trans g1) (by simp) p4.vals1.1 p4.vals1.2 rfl
 have bp:=zaH (show n+4<h6.next by omega) (.cells [.m n,.m (n+1),.sn,.m (n+2),v',.m (n+3)])
 have hnb:h4.bare.next=h4.next:=rfl
 simp only[hz,go_sem,↓reduceIte,r105_3,tl,t0,t4,l4,lgg]
 rw[zcT (c:=(x.g.offd (s.worth x.g)).cells) (by simp only[go_sem,↓reduceIte,tl]) (zaK _) rfl]
 simp only[hz,go_sem,↓reduceIte,tl,H.back_bare,H.back_new,hnb,p1,p2,sb,bp]
 have hlen:(s.offer x.g).gifts.length=s.gifts.length+1:=by simp[St.offer]
 refine⟨p3.put (by omega) _,⟨⟨lr,?_,r2⟩,⟨lc,?_,c2⟩,⟨lm,?_,m2⟩,⟨v',zab,?_⟩,by show n+4<h6.next;omega⟩,by show h.next≤h6.next;have:=e4.nx;omega,?_⟩
 ·rw[zaa (by omega),k6 _ (by omega)];exact r1
 ·rw[zaa (by omega),k6 _ (by omega)];exact c1
 ·rw[zaa (by omega),k6 _ (by omega)];exact m1
 ·have:GAt n h6 v' (s.offer x.g).gifts:=GAt.of (h0:=h0) (by rw[hlen];exact p4) (by omega) (by omega)
  exact this.keep (Nat.le_refl _) fun c hc _ _=>zaa (by omega)
 ·intro c hc hcn hcc
  have hce:=e4.same c hc
  have hc4:c<h4.next:=Nat.lt_of_lt_of_le hc e4.nx
  rw[zaa (by omega),p6 c (by omega) ?_,e5.same c hc4,hce]
  obtain⟨_,_,_,⟨_,rfl⟩|⟨b',_,rfl,_,hb',_,hg'⟩⟩:=g2
  ·exact .inl rfl
  ·refine .inr fun q=>hcc ?_
   rw[← hce,q];exact hg'
end
end Go.Air
set_option maxRecDepth 100000
namespace Go.Air
open Go.Air.Try
def dmL:List (V × V):=[(.i .u8 1,.fn 101 [] []),(.i .u8 2,.fn 102 [] []),(.i .u8 3,.fn 103 [] []),(.i .u8 4,.fn 104 [] []),(.i .u8 5,.fn 105 [] []),(.i .u8 6,.fn 106 [] []),(.i .u8 7,.fn 107 [] [])]
def dh (g:H) (b:Nat):Nat→H
 |0=>g
 |k+1=>(dh g b k).put b (.map (dmL.take (k+1)))
theorem dh_at {g:H} {b:Nat} (hg:g.get b=some (.map [])):∀k,(dh g b k).get b=some (.map (dmL.take k))
 |0=>hg
 |k+1=>zab
theorem zqR {h g:H} {b:Nat} (e:Ext h g) (hb:h.next≤b):∀k,Ext h (dh g b k)
 |0=>e
 |k+1=>(zqR e hb k).put hb _
theorem zdb {h:H} {kk:KK} {b:Nat} {k v:V} {es es':List (V × V)} (hg:h.get b=some (.map es)) (hf:kk.fits k=true) (hm:mput kk k v es=some es'):zbR h kk (.m b) k v=some (h.put b (.map es')):=by
 simp only[zbR,hg,hf,if_true,hm,Option.map_some]
theorem zit {h:H} {kk:KK} {b:Nat} {k:V} {es:List (V × V)} {r:Option V} (hg:h.get b=some (.map es)) (hf:kk.fits k=true) (hm:find kk k es=some r):zgP h kk (.m b) k=some r:=by
 simp only[zgP,hg,hf,if_true,hm]
section
variable {h0 h h1 h':H} {n:Nat} {s:St} {gv:V} {gs:List Gf}
theorem t2061:tb1 61=some a61:=by kernel_rfl
theorem fn_do {x:Ent} {k:Nat} (o:s.Ok k) (hk:k≤1000) (hf:x.formed=true) (h34:x.kind≠3∧x.kind≠4) (hr:s.refE x=0) (e:Ext h0 h) (hn:h0.next≤n) (a:StAt h n s) :
 WC tb1 (.fn 61 [] []) [.p (n+4) 0,.agg x.cells] h fun _ h'=>Ext h0 h'∧StAt h' n (s.doE x)∧FrS h h' n s:=by
 refine (zay t2061).2 ?_
 have hcc:(V.agg x.cells).cells=x.cells:=rfl
 simp only[go_sem,↓reduceIte,r61_0,hcc]
 have ex:Ext h (h.new (.cells x.cells)):=(Ext.refl h).new _
 have gx:(h.new (.cells x.cells)).get h.next=some (.cells x.cells):=zac rfl
 have n1:(h.new (.cells x.cells)).next=h.next+1:=rfl
 generalize h.new (.cells x.cells)=h1 at ex gx n1
 have hg:(h1.new (.map [])).get h1.next=some (.map []):=zac rfl
 have A:=fun k=>dh_at hg k
 have s1:zbR (h1.new (.map [])) (.sc (.i .u8)) (.m h1.next) (.i .u8 1) (.fn 101 [] [])=some (dh (h1.new (.map [])) h1.next 1):=zdb (A 0) rfl rfl
 have s2:zbR (dh (h1.new (.map [])) h1.next 1) (.sc (.i .u8)) (.m h1.next) (.i .u8 2) (.fn 102 [] [])=some (dh (h1.new (.map [])) h1.next 2):=zdb (A 1) rfl rfl
 have s3:zbR (dh (h1.new (.map [])) h1.next 2) (.sc (.i .u8)) (.m h1.next) (.i .u8 3) (.fn 103 [] [])=some (dh (h1.new (.map [])) h1.next 3):=zdb (A 2) rfl rfl
 have s4:zbR (dh (h1.new (.map [])) h1.next 3) (.sc (.i .u8)) (.m h1.next) (.i .u8 4) (.fn 104 [] [])=some (dh (h1.new (.map [])) h1.next 4):=zdb (A 3) rfl rfl
 have s5:zbR (dh (h1.new (.map [])) h1.next 4) (.sc (.i .u8)) (.m h1.next) (.i .u8 5) (.fn 105 [] [])=some (dh (h1.new (.map [])) h1.next 5):=zdb (A 4) rfl rfl
 have s6:zbR (dh (h1.new (.map [])) h1.next 5) (.sc (.i .u8)) (.m h1.next) (.i .u8 6) (.fn 106 [] [])=some (dh (h1.new (.map [])) h1.next 6):=zdb (A 5) rfl rfl
 have s7:zbR (dh (h1.new (.map [])) h1.next 6) (.sc (.i .u8)) (.m h1.next) (.i .u8 7) (.fn 107 [] [])=some (dh (h1.new (.map [])) h1.next 7):=zdb (A 6) rfl rfl
 have a7:=A 7
 have e7:=zqR (ex.new (.map [])) (show h.next≤h1.next by omega) 7
 have g7:(dh (h1.new (.map [])) h1.next 7).get h.next=some (.cells x.cells):=(zqR ((Ext.refl h1).new (.map [])) (Nat.le_refl _) 7).get (by omega) gx
 generalize dh (h1.new (.map [])) h1.next 7=h7 at s7 a7 e7 g7
 have l0:ldV h7 (.p h.next 0)=some (.i .u8 (x.kind:Int)):=(entL g7).1
 have lx:ldnV h7 24 (.p h.next 0)=some (.agg x.cells):=(entL g7).2.2.2.2.2.2.2.2.2
 simp only[go_sem,↓reduceIte,r61_1,s1,s2,s3,s4,s5,s6,s7,RO.ofH,l0]
 have hkd:=zbf hf
 have a':=a.step e7
 have e':=e.trans e7
 have lt:=a'.lt
 have post:∀{s':St} {v:V} {h':H},(Ext h0 h'∧StAt h' n s'∧FrS h7 h' n s)→s'=s.doE x→Ext h0 h'∧StAt h' n (s.doE x)∧FrS h h' n s:=fun q e=>⟨q.1,e▸q.2.1,FrS.pre e7 q.2.2⟩
 have id67:x.kind=6∨x.kind=7→1≤x.g.id∧x.g.id≤(s.gifts.length:Int):=by
  intro h67
  have h1:1≤x.g.id:=by
   rcases zbT hf with⟨k,a,n,hk,hx,_⟩|⟨w,hx,_⟩|⟨i,hx,_⟩|⟨i,f,t,c,n,r,hx,_⟩|⟨k,i,hk,hx,h1,h2⟩<;>rw[hx]at h67 ⊢ <;> simp only at h67 ⊢ <;> omega
  refine⟨h1,?_⟩
  unfold St.refE at hr
  rw[if_neg (by omega),if_pos h67]at hr
  split at hr
  ·omega
  ·omega
 have hlen:=o.len
 by_cases c1:x.kind=1
 ·have lk:zgP h7 (.sc (.i .u8)) (.m h1.next) (.i .u8 (x.kind:Int))=some (some (.fn 101 [] [])):=zit a7 rfl (by rw[c1];rfl)
  simp only[go_sem,↓reduceIte,lk,Option.map_some,Option.getD_some,lx]
  refine (fn_rate e' hn a').mono ?_
  intro u h' q
  simp only[go_sem,↓reduceIte]
  exact post (v:=u) q (by unfold St.doE;rw[if_pos c1])
 by_cases c2:x.kind=2
 ·have lk:zgP h7 (.sc (.i .u8)) (.m h1.next) (.i .u8 (x.kind:Int))=some (some (.fn 102 [] [])):=zit a7 rfl (by rw[c2];rfl)
  simp only[go_sem,↓reduceIte,lk,Option.map_some,Option.getD_some,lx]
  refine (zoL e' hn a').mono ?_
  intro u h' q
  simp only[go_sem,↓reduceIte]
  exact post (v:=u) q (by unfold St.doE;rw[if_neg c1,if_pos c2])
 by_cases c5:x.kind=5
 ·have lk:zgP h7 (.sc (.i .u8)) (.m h1.next) (.i .u8 (x.kind:Int))=some (some (.fn 105 [] [])):=zit a7 rfl (by rw[c5];rfl)
  simp only[go_sem,↓reduceIte,lk,Option.map_some,Option.getD_some,lx]
  have ho:zcu x=true:=by
   have:=(zaE hf).2.2
   unfold Ent.okk at this
   rw[if_neg c1,if_neg c2,if_neg h34.1,if_neg h34.2,if_pos c5]at this
   exact this
  obtain⟨b1,b2,b3,b4,b5,b6,b7,b8,b9⟩:=zbe ho
  refine (fn_offer e' hn a' (by omega) (by omega) (o.rate _) hlen).mono ?_
  intro u h' q
  simp only[go_sem,↓reduceIte]
  exact post (v:=u) q (by unfold St.doE;rw[if_neg c1,if_neg c2,if_pos c5])
 by_cases c6:x.kind=6
 ·have lk:zgP h7 (.sc (.i .u8)) (.m h1.next) (.i .u8 (x.kind:Int))=some (some (.fn 106 [] [])):=zit a7 rfl (by rw[c6];rfl)
  simp only[go_sem,↓reduceIte,lk,Option.map_some,Option.getD_some,lx]
  obtain⟨i1,i2⟩:=id67 (.inl c6)
  refine (fn_take o hk e' hn a' i1 i2 (by omega)).mono ?_
  intro u h' q
  simp only[go_sem,↓reduceIte]
  exact post (v:=u) q (by unfold St.doE;rw[if_neg c1,if_neg c2,if_neg c5,if_pos c6])
 ·have c7:x.kind=7:=by omega
  have lk:zgP h7 (.sc (.i .u8)) (.m h1.next) (.i .u8 (x.kind:Int))=some (some (.fn 107 [] [])):=zit a7 rfl (by rw[c7];rfl)
  simp only[go_sem,↓reduceIte,lk,Option.map_some,Option.getD_some,lx]
  obtain⟨i1,i2⟩:=id67 (.inr c7)
  refine (zqr e' hn a' i1 i2 (by omega)).mono ?_
  intro u h' q
  simp only[go_sem,↓reduceIte]
  exact post (v:=u) q (by unfold St.doE;rw[if_neg c1,if_neg c2,if_neg c5,if_neg c6])
end
end Go.Air
set_option maxRecDepth 100000
namespace Go.Air
open Go.Air.Try
def zaO (es:List Ent):List V:=es.flatMap Ent.cells
def EAt (n:Nat) (h:H) (ev:V) (es:List Ent):Prop:=
 (es=[]∧ev=.sn)∨(0<es.length∧∃b g,ev=.sl b 0 es.length es.length g∧(g=none∨g=some 24)∧n+6≤b∧b<h.next∧h.get b=some (.cells (zaO es)))
structure LgAt (h:H) (n:Nat) (es:List Ent):Prop where
 st:StAt h n (stOf es)
 l:∃ev,h.get (n+5)=some (.cells [ev,.p (n+4) 0])∧EAt n h ev es
 lt:n+5<h.next
theorem zju (es:List Ent):∀u∈zaO es,u.oneCell=true:=by
 intro u hu
 obtain⟨g,_,hg⟩:=List.mem_flatMap.1 hu
 exact zby g u hg
theorem zgW {es:List Ent} {gs:List Gf} (he:0<es.length):zaO es≠zam gs:=by
 intro h
 match es,gs,he,h with
 |e::es,[],_,h=>
  have:=congrArg List.length h
  simp only[zaO,zam,List.flatMap_cons,List.flatMap_nil,List.length_append,List.length_nil,zaI]at this
  omega
 |e::es,g::gs,_,h=>cases h
theorem zjb {a b:V} {gs:List Gf}:[a,b]≠zam gs:=by
 intro h
 have:=congrArg List.length h
 unfold zam at this
 rw[zbp zaK]at this
 simp only[List.length_cons,List.length_nil]at this
 omega
section
variable {h0 h h1 h':H} {n:Nat} {s:St} {es:List Ent}
theorem StAt.keep (a:StAt h n s) (nx:h.next≤h'.next) (same:∀b,b<h.next→n≤b→(b<n+5∨h.get b=some (.cells (zam s.gifts)))→h'.get b=h.get b):StAt h' n s:=by
 obtain⟨⟨lr,r1,r2⟩,⟨lc,c1,c2⟩,⟨lm,m1,m2⟩,⟨gv,g1,g2⟩,lt⟩:=a
 exact⟨⟨lr,(same _ (by omega) (by omega) (.inl (by omega))).trans r1,r2⟩,⟨lc,(same _ (by omega) (by omega) (.inl (by omega))).trans c1,c2⟩,⟨lm,(same _ (by omega) (by omega) (.inl (by omega))).trans m1,m2⟩,
  ⟨gv,(same _ (by omega) (by omega) (.inl (by omega))).trans g1,g2.keep nx fun b hb hc hlt=>same b hlt (by omega) (.inr hc)⟩,Nat.lt_of_lt_of_le lt nx⟩
theorem EAt.keep {ev:V} (a:EAt n h ev es) (hn:h.next≤h'.next) (hk:∀b,n+6≤b→0<es.length→h.get b=some (.cells (zaO es))→b<h.next→h'.get b=h.get b):EAt n h' ev es:=by
 obtain o|⟨h0,b,g,rfl,hv,h1,h2,hg⟩:=a
 ·exact .inl o
 ·exact .inr ⟨h0,b,g,rfl,hv,h1,Nat.lt_of_lt_of_le h2 hn,(hk b (by omega) h0 hg h2).trans hg⟩
theorem zjv (es:List Ent):(zaO es).length=es.length*24:=zbp zaI es
theorem EAt.own {ev:V} (a:EAt n h ev es) (hn:h0.next≤n):Own h0 24 h ev es.length (zaO es):=by
 obtain⟨rfl,rfl⟩|⟨_,b,g,rfl,hv,h1,h2,hg⟩:=a
 ·exact⟨rfl,.inl ⟨rfl,rfl⟩⟩
 ·exact⟨zjv es,.inr ⟨b,g,rfl,hv,by omega,h2,hg⟩⟩
theorem LgAt.step (a:LgAt h n es) (e:Ext h h'):LgAt h' n es:=by
 obtain⟨st,⟨ev,l1,l2⟩,lt⟩:=a
 exact⟨st.step e,⟨ev,e.get lt l1,l2.keep e.nx fun b _ _ _ hb=>e.same b hb⟩,Nat.lt_of_lt_of_le lt e.nx⟩
theorem t2049:tb1 49=some a49:=by kernel_rfl
theorem t2021:tb1 21=some a21:=by kernel_rfl
theorem t2098:tb1 98=some a98:=by kernel_rfl
theorem t2059:tb1 59=some a59:=by kernel_rfl
theorem fn_newState:WC tb1 (.fn 49 [] []) [] h fun u h'=>u=.p (h.next+4) 0∧Ext h h'∧StAt h' h.next .zero∧h'.next=h.next+5:=by
 refine (zay t2049).2 ?_
 have n1:(h.new (.map [])).next=h.next+1:=rfl
 have n2:((h.new (.map [])).new (.map [])).next=h.next+2:=rfl
 have n3:(((h.new (.map [])).new (.map [])).new (.map [])).next=h.next+3:=rfl
 have n4:((((h.new (.map [])).new (.map [])).new (.map [])).new (.map [])).next=h.next+4:=rfl
 have hf:∀(t:List V) (x1 x2 x3 x4:X),x1.ev t=.m h.next→x2.ev t=.m (h.next+1)→x3.ev t=.m (h.next+2)→x4.ev t=.m (h.next+3)→fill t [.mn,.mn,.sn,.mn,.sn,.mn] [(0,1,x1),(1,1,x2),(3,1,x3),(5,1,x4)]=some [.m h.next,.m (h.next+1),.sn,.m (h.next+2),.sn,.m (h.next+3)]:=by
  intro t x1 x2 x3 x4 e1 e2 e3 e4
  simp[fill,lay,e1,e2,e3,e4,V.cells]
 simp only[go_sem,↓reduceIte,r49_0,r49_1,n1,n2,n3]
 rw[hf _ _ _ _ _ (by simp only[go_sem,↓reduceIte]) (by simp only[go_sem,↓reduceIte]) (by simp only[go_sem,↓reduceIte]) (by simp only[go_sem,↓reduceIte])]
 have hcc:(V.agg [.m h.next,.m (h.next+1),.sn,.m (h.next+2),.sn,.m (h.next+3)]).cells=[.m h.next,.m (h.next+1),.sn,.m (h.next+2),.sn,.m (h.next+3)]:=rfl
 simp only[go_sem,↓reduceIte,hcc,n4]
 refine⟨((((Ext.refl h).new _).new _).new _).new _ |>.new _,⟨⟨[],?_,fun _=>rfl⟩,⟨[],?_,fun _=>rfl⟩,⟨[],?_,fun _=>rfl⟩,⟨.sn,?_,⟨{ h with next:=h.next+5 },rfl,rfl,.inl ⟨rfl,rfl⟩⟩⟩,?_⟩,rfl⟩
 ·rw[zaf (by omega),zaf (by omega),zaf (by omega),zaf (by omega)];exact zac rfl
 ·rw[zaf (by omega),zaf (by omega),zaf (by omega)];exact zac rfl
 ·rw[zaf (by omega)];exact zac rfl
 ·exact zac rfl
 ·exact Nat.lt_succ_self _
theorem fn_NewL:WC tb1 (.fn 21 [] []) [] h fun u h'=>u=.p (h.next+5) 0∧Ext h h'∧LgAt h' h.next []:=by
 refine (zay t2021).2 ?_
 simp only[go_sem,↓reduceIte,r21_0,r21_1]
 refine fn_newState.mono ?_
 rintro u h1 ⟨rfl,e1,a1,n1⟩
 have hf:fillR .sn (.p (h.next+4) 0)=some [.sn,.p (h.next+4) 0]:=rfl
 have hcc:(V.agg [.sn,.p (h.next+4) 0]).cells=[.sn,.p (h.next+4) 0]:=rfl
 simp only[go_sem,↓reduceIte,hf,hcc,n1]
 have e2:Ext h1 (h1.new (.cells [.sn,.p (h.next+4) 0])):=(Ext.refl h1).new _
 exact⟨e1.trans e2,a1.step e2,⟨.sn,zac n1.symm,.inl ⟨rfl,rfl⟩⟩,by show h.next+5<h1.next+1;omega⟩
variable {S Sp:V→H→Prop}
theorem zll (es:List Ent) (x:Ent):zeh (es++[x])=x.day:=by unfold zeh;rw[List.getLast?_concat]
theorem fn_DayL (a:LgAt h n es) (hl:es.length≤1000):WX tb1 (.fn 98 [] []) [.p (n+5) 0] h S Sp↔S (.i .i64 (zeh es)) h:=by
 rw[zay t2098]
 obtain⟨_,⟨ev,l1,l2⟩,lt⟩:=a
 have l0:ldV h (.p (n+5) 0)=some ev:=zad l1 rfl
 have hq:eqV .ptr (.p (n+5) 0) .pn=some false:=rfl
 rcases l2 with⟨rfl,rfl⟩|⟨hz,b,g,rfl,hv,hb,hlt,hg⟩
 ·have hle:lenV .sn=some 0:=rfl
  simp only[go_sem,↓reduceIte,r98_0,r98_1,r98_2,l0,hq,hle]
  exact Iff.rfl
 ·have hle:lenV (.sl b 0 es.length es.length g)=some es.length:=rfl
  have hne:¬ ((es.length:Int)=0):=by omega
  have hw:IntKind.i64.wrap ((es.length:Int)-1)=((es.length-1:Nat):Int):=by rw[zap (by omega) (by omega)];omega
  have hix:ixV 24 (.sl b 0 es.length es.length g) (.i .i64 ((es.length-1:Nat):Int))=some (.p b ((es.length-1)*24)):=by
   simp only[ixV]
   rw[show zbg (.i .i64 ((es.length-1:Nat):Int))=some (es.length-1) from rfl]
   simp[show es.length-1<es.length by omega]
  obtain⟨es',x,rfl⟩:∃es' x,es=es'++[x]:=⟨es.dropLast,es.getLast (by intro h;simp[h]at hz),(List.dropLast_concat_getLast _).symm⟩
  have hll:(es'++[x]).length-1=es'.length:=by simp
  have l9:ldV h (.p b (((es'++[x]).length-1)*24+1))=some (.i .i64 x.day):=zad hg (by unfold zaO;rw[zeQ (a:=x) zaI (by rw[hll];simp) (by omega)];rfl)
  rw[zll]
  simp only[go_sem,↓reduceIte,r98_0,r98_1,r98_3,l0,hq,hle,hne,hw,hix,l9]
end
end Go.Air
set_option maxRecDepth 100000
namespace Go.Air
open Go.Air.Try
section
variable {h0 h h1 h':H} {n:Nat} {s:St} {es:List Ent}
theorem LgAt.bare (a:LgAt h n es):LgAt h.bare n es:=by
 obtain⟨st,⟨ev,l1,l2⟩,lt⟩:=a
 exact⟨st.keep (Nat.le_refl _) fun _ _ _ _=>rfl,⟨ev,l1,l2.keep (Nat.le_refl _) fun _ _ _ _ _=>rfl⟩,lt⟩
theorem StAt.bare (a:StAt h n s):StAt h.bare n s:=a.keep (Nat.le_refl _) fun _ _ _ _=>rfl
theorem zqw {x:Ent} (a:LgAt h n es) (hl:es.length≤1000) (hk:x.kind<256) (hcur:x.g.cur<256):WC tb1 (.fn 59 [] []) [.p (n+5) 0,.agg x.cells] h fun u h'=>u=.i .i64 (zfR es x)∧Ext h h':=by
 refine (zay t2059).2 ?_
 have hcc:(V.agg x.cells).cells=x.cells:=rfl
 have hq:eqV .ptr (.p (n+5) 0) .pn=some false:=rfl
 simp only[go_sem,↓reduceIte,r59_0,r59_1,hcc,hq]
 have ex:Ext h (h.new (.cells x.cells)):=(Ext.refl h).new _
 have gx:(h.new (.cells x.cells)).get h.next=some (.cells x.cells):=zac rfl
 have n1:h.next<(h.new (.cells x.cells)).next:=Nat.lt_succ_self _
 generalize h.new (.cells x.cells)=h1 at ex gx n1
 have lx:=zar gx (zaI x)
 simp only[go_sem,↓reduceIte,r59_3,lx]
 refine (zjq hk hcur).mono ?_
 rintro u h2 ⟨rfl,e2⟩
 unfold zfR
 cases hf:x.formed
 ·simp only[go_sem,↓reduceIte,Bool.false_eq_true,r59_4]
  exact ex.trans e2
 ·have l1:ldV h2 (.p h.next 1)=some (.i .i64 x.day):=zad (e2.get n1 gx) rfl
  have a2:=((a.step ex).step e2)
  simp only[go_sem,↓reduceIte]
  refine zdy (fun t=>t.length=18∧nth t 0=.p (n+5) 0∧nth t 3=.p h.next 0) (by simp only[go_sem,↓reduceIte]) ?_
  rintro t ⟨tl,t0,t3⟩
  simp only[go_sem,↓reduceIte,r59_5,tl,t0,t3,l1,fn_DayL a2.bare hl,H.back_bare]
  have oz:zaD h2.next h2.bare.log=[]:=rfl
  refine⟨?_,?_⟩
  ·simp only[zbX,List.all_cons,List.all_nil,Bool.and_true,List.getElem?_cons_succ,List.getElem?_cons_zero,zfM,reads,go_sem,↓reduceIte,tl,t0,t3,zaU,oz,List.nil_append,List.cons_append]
   try simp
  ·by_cases hd:x.day<zeh es
   ·simp only[go_sem,↓reduceIte,tl,hd,r59_6]
    exact ex.trans e2
   ·simp only[go_sem,↓reduceIte,tl,hd,r59_7]
    exact ex.trans e2
theorem zjX {g:Gf} (q1:¬ 500≤s.gifts.length) (q2:¬ (g.id≠(s.gifts.length:Int)+1)) (q3:¬ s.rate g.cur=0) (q4:¬ (s.gifts.length:Int)<g.ret) (q5:¬ (0<g.ret∧((s.gift g.ret).frm≠g.to∨(s.gift g.ret).to≠g.frm∨(s.gift g.ret).ret≠0∨(s.gift g.ret).st≠2))) :
 (∀m,s.ceil g.to=some m→s.refO g=if m<s.worth g then 2 else 0)∧(s.ceil g.to=none→s.refO g=0):=by
 constructor
 ·intro m hm
  unfold St.refO
  rw[if_neg q1,if_neg q2,if_neg q3,if_neg q4,if_neg q5]
  simp only[hm]
 ·intro hm
  unfold St.refO
  rw[if_neg q1,if_neg q2,if_neg q3,if_neg q4,if_neg q5]
  simp only[hm]
theorem t2100:tb1 100=some a100:=by kernel_rfl
theorem zoH {g:Gf} {k:Nat} (o:s.Ok k) (a:StAt h n s) (hc:g.cur<256) (hg:0≤g.n∧g.n≤1000000) (hr:0≤g.ret∧g.ret≤500):WC tb1 (.fn 100 [] []) [.p (n+4) 0,.agg g.cells] h fun u h'=>u=.i .i64 (s.refO g)∧Ext h h':=by
 refine (zay t2100).2 ?_
 have hcc:(V.agg g.cells).cells=g.cells:=rfl
 simp only[go_sem,↓reduceIte,r100_0,hcc]
 have ex:Ext h (h.new (.cells g.cells)):=(Ext.refl h).new _
 have gx:(h.new (.cells g.cells)).get h.next=some (.cells g.cells):=zac rfl
 have nx:h.next<(h.new (.cells g.cells)).next:=Nat.lt_succ_self _
 have a1:=a.step ex
 generalize h.new (.cells g.cells)=h1 at ex gx nx a1
 have a1':=a1
 obtain⟨⟨lr,r1,r2⟩,⟨lc,c1,c2⟩,_,⟨gv,g1,g2⟩,lt⟩:=a1
 have l4:ldV h1 (.p (n+4) 4)=some gv:=zad g1 rfl
 have l0:ldV h1 (.p (n+4) 0)=some (.m n):=zad g1 rfl
 have l1:ldV h1 (.p (n+4) 1)=some (.m (n+1)):=zad g1 rfl
 have hle:lenV gv=some s.gifts.length:=by obtain⟨_,_,q⟩:=g2;exact q.sl.len
 have x0:ldV h1 (.p h.next 0)=some (.i .i64 g.id):=zad gx rfl
 have x2:ldV h1 (.p h.next 2)=some (.i .i64 g.frm):=zad gx rfl
 have x3:ldV h1 (.p h.next 3)=some (.i .i64 g.to):=zad gx rfl
 have x4:ldV h1 (.p h.next 4)=some (.i .u8 (g.cur:Int)):=zad gx rfl
 have x9:ldV h1 (.p h.next 9)=some (.i .i64 g.ret):=zad gx rfl
 have hcv:=zcn hc
 have lkr:=zeL r1 (g.cur:Int)
 have lgr:=r2 (g.cur:Int)
 have hlen:=o.len
 have hw:IntKind.i64.wrap ((s.gifts.length:Int)+1)=(s.gifts.length:Int)+1:=zap (by omega) (by omega)
 by_cases q1:500≤s.gifts.length
 ·have hv:s.refO g=2:=by unfold St.refO;rw[if_pos q1]
  have i1:(500:Int)≤(s.gifts.length:Int):=by omega
  simp only[go_sem,↓reduceIte,r100_1,r100_2,l4,hle,i1,hv]
  exact ex
 have i1:¬ (500:Int)≤(s.gifts.length:Int):=by omega
 by_cases q2:g.id=(s.gifts.length:Int)+1
 rotate_left
 ·have hv:s.refO g=1:=by unfold St.refO;rw[if_neg q1,if_pos q2]
  simp only[go_sem,↓reduceIte,r100_1,r100_3,r100_4,l4,hle,i1,x0,hw,q2,H.back_bare,hv]
  exact ex
 have q2':¬ (g.id≠(s.gifts.length:Int)+1):=fun q=>q q2
 by_cases q3:s.rate g.cur=0
 ·have hv:s.refO g=8:=by unfold St.refO;rw[if_neg q1,if_neg q2',if_pos q3]
  simp only[go_sem,↓reduceIte,r100_1,r100_3,r100_5,r100_6,l0,l4,hle,i1,x0,x4,hw,q2,hcv,lkr,lgr,Option.map_some,q3,H.back_bare,hv]
  exact ex
 by_cases q4:(s.gifts.length:Int)<g.ret
 ·have hv:s.refO g=5:=by unfold St.refO;rw[if_neg q1,if_neg q2',if_neg q3,if_pos q4]
  simp only[go_sem,↓reduceIte,r100_1,r100_3,r100_5,r100_7,r100_8,l0,l4,hle,i1,x0,x4,x9,hw,q2,hcv,lkr,lgr,Option.map_some,q3,q4,H.back_bare,hv]
  exact ex
 simp only[go_sem,↓reduceIte,r100_1,r100_3,r100_5,r100_7,l0,l4,hle,i1,x0,x4,x9,hw,q2,hcv,lkr,lgr,Option.map_some,q3,q4,H.back_bare]
 have fin:∀{t:List V} {h2:H},t.length=96→nth t 0=.p (n+4) 0→nth t 3=.p h.next 0→Ext h1 h2→((∀m,s.ceil g.to=some m→s.refO g=if m<s.worth g then 2 else 0)∧(s.ceil g.to=none→s.refO g=0))→W tb1 (.seq (.seq (.draw r100_13 []) (.seq (.ops r100_14) (.cond (.t 95) (.seq (.ops r100_15) (.ret)) (.skip)))) (.seq (.ops r100_16) (.ret))) t h2 (Kfn [.tmp 4] (fun u h'=>u=.i .i64 (s.refO g)∧Ext h h') zeK):=by
  intro t h2 tl t0 t3 e2 hv
  have g1':=e2.get (by omega) g1
  have gx':=e2.get nx gx
  have l1:ldV h2 (.p (n+4) 1)=some (.m (n+1)):=zad g1' rfl
  have x3:ldV h2 (.p h.next 3)=some (.i .i64 g.to):=zad gx' rfl
  have lxx:=zar gx' (zaK g)
  have lkc:=zeL (e2.get (by omega) c1) g.to
  have lgc:=c2 g.to
  rw[lgc]at lkc
  cases hm:s.ceil g.to with
  |none=>
   have hv:=hv.2 hm
   rw[hm]at lkc
   simp only[go_sem,↓reduceIte,r100_13,r100_14,r100_16,tl,t0,t3,l1,x3,lkc,Option.map_some,Option.map_none,Option.getD_none,Option.isSome_none,zbz,H.back_bare,hv]
   exact ex.trans e2
  |some m=>
   have hv:=hv.1 m hm
   rw[hm]at lkc
   simp only[go_sem,↓reduceIte,r100_13,r100_14,tl,t0,t3,l1,x3,lkc,lxx,Option.map_some,Option.getD_some,Option.isSome_some,zbz,H.back_bare]
   refine (znC (a1'.step e2) hc hg (o.rate _)).mono ?_
   rintro u h3 ⟨rfl,e3⟩
   by_cases hlt:m<s.worth g
   ·simp only[hlt,if_true]at hv
    simp only[go_sem,↓reduceIte,tl,hlt,r100_15,hv]
    exact (ex.trans e2).trans e3
   ·simp only[hlt,if_false]at hv
    simp only[go_sem,↓reduceIte,tl,hlt,r100_16,hv]
    exact (ex.trans e2).trans e3
 simp only[zbC,zbi,zrj]at fin
 by_cases q5:0<g.ret
 ·have hj2:g.ret≤(s.gifts.length:Int):=by omega
  have hj:=St.gift_at (s:=s) (show 1≤g.ret by omega) hj2
  obtain⟨gb,gi,rfl,gn,gl,gg,gk⟩:=g2.at (by omega)
  have hwr:IntKind.i64.wrap (g.ret-1)=g.ret-1:=zap (by omega) (by omega)
  have hjlt:(g.ret-1).toNat<s.gifts.length:=by omega
  have hixj:=zek (gb:=gb) (g:=gi) (m:=s.gifts.length) (k:=g.ret-1) (i:=(g.ret-1).toNat) (by omega) hjlt
  generalize hjj:(g.ret-1).toNat=j at hj hixj hjlt
  have S:Sl 10 h1 (.sl gb 0 s.gifts.length s.gifts.length gi) s.gifts.length (zam s.gifts):=(GAt.own (h0:=⟨n,h1.mem,[]⟩) g2 (Nat.le_refl _)).sl
  have ldj:=S.ldn hjlt
  unfold zam at ldj
  rw[zcm zaK hj]at ldj
  have ldj:ldnV h1 10 (.p gb (j*10))=some (.agg (s.gift g.ret).cells):=by
   have:(0+j*10)=j*10:=by omega
   rw[← this];exact ldj
  have sj:=zal (h:=(h1.new (.cells gz)).bare) (b:=h1.next) (k:=10) (d:=(s.gift g.ret).cells) (zac rfl) rfl rfl (zdN _)
  have hz:([.i .i64 0,.i .i64 0,.i .i64 0,.i .i64 0,.i .u8 0,.i .i64 0,.i .i64 0,.i .u8 0,.i .i64 0,.i .i64 0]:List V)=gz:=rfl
  have bj:=zaH (h:=h1.new (.cells gz)) (show h1.next<(h1.new (.cells gz)).next from Nat.lt_succ_self _) (.cells (s.gift g.ret).cells)
  simp only[hz,go_sem,↓reduceIte,r100_9,r100_10,x9,l4,q5,hwr,hixj,ldj,sj,bj,RO.ofH,H.back_bare]
  have e2:Ext h1 ((h1.new (.cells gz)).put h1.next (.cells (s.gift g.ret).cells)):=((Ext.refl h1).new _).put (Nat.le_refl _) _
  have gj:((h1.new (.cells gz)).put h1.next (.cells (s.gift g.ret).cells)).get h1.next=some (.cells (s.gift g.ret).cells):=zab
  generalize (h1.new (.cells gz)).put h1.next (.cells (s.gift g.ret).cells)=h2 at e2 gj
  have gx':=e2.get nx gx
  have x2:ldV h2 (.p h.next 2)=some (.i .i64 g.frm):=zad gx' rfl
  have x3:ldV h2 (.p h.next 3)=some (.i .i64 g.to):=zad gx' rfl
  generalize h1.next=jb at gj
  have y2:ldV h2 (.p jb 2)=some (.i .i64 (s.gift g.ret).frm):=zad gj rfl
  have y3:ldV h2 (.p jb 3)=some (.i .i64 (s.gift g.ret).to):=zad gj rfl
  have y9:ldV h2 (.p jb 9)=some (.i .i64 (s.gift g.ret).ret):=zad gj rfl
  have y7:ldV h2 (.p jb 7)=some (.i .u8 ((s.gift g.ret).st:Int)):=zad gj rfl
  refine zbs (fun t=>t.length=96∧nth t 0=.p (n+4) 0∧nth t 3=.p h.next 0∧nth t 5=.p jb 0) (by simp only[go_sem,↓reduceIte]) ?_
  rintro t ⟨tl,t0,t3,t5⟩
  have bad:(s.gift g.ret).frm≠g.to∨(s.gift g.ret).to≠g.frm∨(s.gift g.ret).ret≠0∨(s.gift g.ret).st≠2→s.refO g=8:=fun q=>by
   unfold St.refO
   rw[if_neg q1,if_neg q2',if_neg q3,if_neg q4,if_pos ⟨q5,q⟩]
  by_cases p1:(s.gift g.ret).frm=g.to
  rotate_left
  ·have hv:=bad (.inl p1)
   simp only[go_sem,↓reduceIte,r100_11,r100_12,tl,t0,t3,t5,x2,x3,y2,y3,y9,y7,p1,hv]
   exact ex.trans e2
  by_cases p2:(s.gift g.ret).to=g.frm
  rotate_left
  ·have hv:=bad (.inr (.inl p2))
   simp only[go_sem,↓reduceIte,r100_11,r100_12,tl,t0,t3,t5,x2,x3,y2,y3,y9,y7,p1,p2,hv]
   exact ex.trans e2
  by_cases p3:(s.gift g.ret).ret=0
  rotate_left
  ·have hv:=bad (.inr (.inr (.inl p3)))
   simp only[go_sem,↓reduceIte,r100_11,r100_12,tl,t0,t3,t5,x2,x3,y2,y3,y9,y7,p1,p2,p3,hv]
   exact ex.trans e2
  by_cases p4:(s.gift g.ret).st=2
  rotate_left
  ·have hv:=bad (.inr (.inr (.inr p4)))
   have p4':¬ ((s.gift g.ret).st:Int)=2:=by omega
   simp only[go_sem,↓reduceIte,r100_11,r100_12,tl,t0,t3,t5,x2,x3,y2,y3,y9,y7,p1,p2,p3,p4',hv]
   exact ex.trans e2
  have p4':((s.gift g.ret).st:Int)=2:=by omega
  simp only[go_sem,↓reduceIte,r100_11,tl,t0,t3,t5,x2,x3,y2,y3,y9,y7,p1,p2,p3,p4']
  refine fin (by simp only[go_sem,↓reduceIte,tl]) (by simp only[go_sem,↓reduceIte,tl,t0]) (by simp only[go_sem,↓reduceIte,tl,t3]) e2 ?_
  have hq5:¬ (0<g.ret∧((s.gift g.ret).frm≠g.to∨(s.gift g.ret).to≠g.frm∨(s.gift g.ret).ret≠0∨(s.gift g.ret).st≠2)):=by
   rintro⟨_,q|q|q|q⟩
   ·exact q p1
   ·exact q p2
   ·exact q p3
   ·exact q p4
  exact zjX q1 q2' q3 q4 hq5
 ·have hq5:¬ (0<g.ret∧((s.gift g.ret).frm≠g.to∨(s.gift g.ret).to≠g.frm∨(s.gift g.ret).ret≠0∨(s.gift g.ret).st≠2)):=fun q=>q5 q.1
  simp only[go_sem,↓reduceIte,r100_9,x9,q5]
  refine fin (by simp only[go_sem,↓reduceIte]) (by simp only[go_sem,↓reduceIte]) (by simp only[go_sem,↓reduceIte]) (Ext.refl _) ?_
  exact zjX q1 q2' q3 q4 hq5
end
end Go.Air
set_option maxRecDepth 100000
namespace Go.Air
open Go.Air.Try
theorem zgR {x:Ent} (hf:x.formed=true) (c5:x.kind=5):zcu x=true:=by
 have:=(zaE hf).2.2
 unfold Ent.okk at this
 rw[if_neg (by omega),if_neg (by omega),if_neg (by omega),if_neg (by omega),if_pos c5]at this
 exact this
theorem zgQ {x:Ent} (hf:x.formed=true) (h67:x.kind=6∨x.kind=7):1≤x.g.id∧x.g.id≤500:=by
 rcases zbT hf with⟨k,a,n,hk,hx,_⟩|⟨w,hx,_⟩|⟨i,hx,_⟩|⟨i,f,t,c,n,r,hx,_⟩|⟨k,i,hk,hx,h1,h2⟩<;>rw[hx]at h67 ⊢ <;> simp only at h67 ⊢ <;> omega
inductive Led:List Ent→Prop
 |nil:Led []
 |add {es:List Ent} {x:Ent}:Led es→x.formed=true→(x.kind≠3∧x.kind≠4)→doL es x=0→Led (es++[x])
theorem doL_0 {es:List Ent} {x:Ent} (h:doL es x=0):zfR es x=0∧(stOf es).refE x=0:=by
 unfold doL at h
 split at h
 ·exact absurd h (by assumption)
 ·rename_i q
  exact⟨Decidable.of_not_not q,h⟩
theorem zhS (es:List Ent) (x:Ent):stOf (es++[x])=(stOf es).doE x:=by unfold stOf;rw[List.foldl_append];rfl
theorem Led.ok {es:List Ent} (l:Led es):(stOf es).Ok es.length:=by
 induction l with
 |nil=>exact St.zero_ok
 |add l hf hk hd ih=>
  rw[zhS,List.length_append]
  exact ih.doE hf hk (doL_0 hd).2
def addL (es:List Ent) (x:Ent):List Ent:=if doL es x=0 then es++[x] else es
section
variable {h0 h h1 h':H} {n:Nat} {s:St} {es:List Ent}
structure FrL (h h':H) (n:Nat) (es:List Ent):Prop where
 nx:h.next≤h'.next
 same:∀b,b<h.next→(b<n∨n+6≤b)→h.get b≠some (.cells (zam (stOf es).gifts))→h.get b≠some (.cells (zaO es))→h'.get b=h.get b
theorem FrL.ext (e:Ext h h'):FrL h h' n es:=⟨e.nx,fun b hb _ _ _=>e.same b hb⟩
theorem FrL.pre (e:Ext h h1) (f:FrL h1 h' n es):FrL h h' n es:=⟨Nat.le_trans e.nx f.nx,fun b hb hn hc hd=>(f.same b (Nat.lt_of_lt_of_le hb e.nx) hn (by rw[e.same b hb];exact hc) (by rw[e.same b hb];exact hd)).trans (e.same b hb)⟩
theorem t2060:tb1 60=some a60:=by kernel_rfl
theorem t2025:tb1 25=some a25:=by kernel_rfl
theorem zoE {x:Ent} {k:Nat} {fv:V} (o:s.Ok k) (a:StAt h n s) (hf:x.formed=true) (h34:x.kind≠3∧x.kind≠4):WC tb1 (.fn 60 [] []) [.p (n+4) 0,fv,.agg x.cells] h fun u h'=>u=.i .i64 (s.refE x)∧Ext h h':=by
 refine (zay t2060).2 ?_
 have hcc:(V.agg x.cells).cells=x.cells:=rfl
 simp only[go_sem,↓reduceIte,r60_0,hcc]
 have ex:Ext h (h.new (.cells x.cells)):=(Ext.refl h).new _
 have gx:(h.new (.cells x.cells)).get h.next=some (.cells x.cells):=zac rfl
 have a1:=a.step ex
 generalize h.new (.cells x.cells)=h1 at ex gx a1
 obtain⟨l0,_,_,_,l11,_,_,_,lg,_⟩:=entL gx
 have hkd:=zbf hf
 have k3:binV .eql (.i .u8 (x.kind:Int)) (.i .u8 3)=some (.b (decide (x.kind=3))):=zaj (j:=3)
 have k4:binV .eql (.i .u8 (x.kind:Int)) (.i .u8 4)=some (.b (decide (x.kind=4))):=zaj (j:=4)
 have k5:binV .eql (.i .u8 (x.kind:Int)) (.i .u8 5)=some (.b (decide (x.kind=5))):=zaj (j:=5)
 have k6:binV .eql (.i .u8 (x.kind:Int)) (.i .u8 6)=some (.b (decide (x.kind=6))):=zaj (j:=6)
 have k7:binV .eql (.i .u8 (x.kind:Int)) (.i .u8 7)=some (.b (decide (x.kind=7))):=zaj (j:=7)
 have d3:decide (x.kind=3)=false:=decide_eq_false h34.1
 have d4:decide (x.kind=4)=false:=decide_eq_false h34.2
 by_cases c5:x.kind=5
 ·have d5:decide (x.kind=5)=true:=decide_eq_true c5
  simp only[go_sem,↓reduceIte,r60_1,r60_2,r60_4,r60_9,r60_10,l0,k3,d3,k4,d4,k5,d5,lg]
  obtain⟨b1,b2,b3,b4,b5,b6,b7,b8,b9⟩:=zbe (zgR hf c5)
  refine (zoH o a1 (by omega) (by omega) b5).mono ?_
  rintro u h2 ⟨rfl,e2⟩
  have hv:s.refE x=s.refO x.g:=by unfold St.refE;rw[if_pos c5]
  simp only[go_sem,↓reduceIte,hv]
  exact ex.trans e2
 have d5:decide (x.kind=5)=false:=decide_eq_false c5
 by_cases c67:x.kind=6∨x.kind=7
 ·obtain⟨i1,i2⟩:=zgQ hf c67
  obtain⟨_,_,_,⟨gv,g1,g2⟩,lt⟩:=a1
  have l4:ldV h1 (.p (n+4) 4)=some gv:=zad g1 rfl
  have hle:lenV gv=some s.gifts.length:=by obtain⟨_,_,q⟩:=g2;exact q.sl.len
  have hv0:s.refE x=if (s.gifts.length:Int)<x.g.id then 5 else if (s.gift x.g.id).st≠1 then 8 else 0:=by unfold St.refE;rw[if_neg c5,if_pos c67]
  have both:∀{t:List V},t.length=71→nth t 0=.p (n+4) 0→nth t 5=.p h.next 0→W tb1 (.seq (.seq (.draw r60_13 []) (.cond (.t 58) (.seq (.ops r60_14) (.ret)) (.skip))) (.seq (.draw r60_15 []) (.cond (.t 70) (.seq (.ops r60_16) (.ret)) (.skip)))) t h1 (Kblk 0 (Kseq tb1 (.seq (.ops r60_17) (.ret)) (Kfn [.tmp 6] (fun u h'=>u=.i .i64 (s.refE x)∧Ext h h') zeK))):=by
   intro t tl t0 t5
   by_cases q1:(s.gifts.length:Int)<x.g.id
   ·have hv:s.refE x=5:=by rw[hv0,if_pos q1]
    simp only[go_sem,↓reduceIte,r60_13,r60_14,tl,t0,t5,l11,l4,hle,q1,hv,H.back_bare]
    exact ex
   have hj2:x.g.id≤(s.gifts.length:Int):=by omega
   have hj:=St.gift_at (s:=s) i1 hj2
   obtain⟨gb,gi,rfl,gn,gl,gg,gk⟩:=g2.at (by omega)
   have hwr:IntKind.i64.wrap (x.g.id-1)=x.g.id-1:=zap (by omega) (by omega)
   have hjlt:(x.g.id-1).toNat<s.gifts.length:=by omega
   have hixj:=zek (gb:=gb) (g:=gi) (m:=s.gifts.length) (k:=x.g.id-1) (i:=(x.g.id-1).toNat) (by omega) hjlt
   generalize hjj:(x.g.id-1).toNat=j at hj hixj hjlt
   have l7:ldV h1 (.p gb (j*10+7))=some (.i .u8 ((s.gift x.g.id).st:Int)):=zej gg hj (by omega) rfl
   by_cases q2:(s.gift x.g.id).st=1
   ·have hv:s.refE x=0:=by rw[hv0,if_neg q1,if_neg (fun q=>q q2)]
    have q2':((s.gift x.g.id).st:Int)=1:=by omega
    simp only[go_sem,↓reduceIte,r60_13,r60_15,r60_17,tl,t0,t5,l11,l4,hle,q1,hwr,hixj,l7,q2',hv,H.back_bare]
    exact ex
   ·have hv:s.refE x=8:=by rw[hv0,if_neg q1,if_pos q2]
    have q2':¬ ((s.gift x.g.id).st:Int)=1:=by omega
    simp only[go_sem,↓reduceIte,r60_13,r60_15,r60_16,tl,t0,t5,l11,l4,hle,q1,hwr,hixj,l7,q2',hv,H.back_bare]
    exact ex
  simp only[zbC,zrj]at both
  by_cases c6:x.kind=6
  ·have d6:decide (x.kind=6)=true:=decide_eq_true c6
   simp only[go_sem,↓reduceIte,r60_1,r60_2,r60_4,r60_9,r60_11,l0,k3,d3,k4,d4,k5,d5,k6,d6]
   exact both (by simp only[go_sem,↓reduceIte]) (by simp only[go_sem,↓reduceIte]) (by simp only[go_sem,↓reduceIte])
  ·have d6:decide (x.kind=6)=false:=decide_eq_false c6
   have d7:decide (x.kind=7)=true:=decide_eq_true (by omega)
   simp only[go_sem,↓reduceIte,r60_1,r60_2,r60_4,r60_9,r60_11,r60_12,l0,k3,d3,k4,d4,k5,d5,k6,d6,k7,d7]
   exact both (by simp only[go_sem,↓reduceIte]) (by simp only[go_sem,↓reduceIte]) (by simp only[go_sem,↓reduceIte])
 ·have d6:decide (x.kind=6)=false:=decide_eq_false (by omega)
  have d7:decide (x.kind=7)=false:=decide_eq_false (by omega)
  have hv:s.refE x=0:=by unfold St.refE;rw[if_neg c5,if_neg c67]
  simp only[go_sem,↓reduceIte,r60_1,r60_2,r60_4,r60_9,r60_11,r60_12,r60_17,l0,k3,d3,k4,d4,k5,d5,k6,d6,k7,d7,hv]
  exact ex
def cutH (n:Nat) (h:H):H:=⟨n,h.mem,[]⟩
theorem cutH_ext (hn:n≤h.next):Ext (cutH n h) h.bare:=⟨hn,fun _ _=>rfl,[],rfl,fun _ hb=>by simp at hb⟩
theorem Ext.backN (e:Ext h0 h) (hn:h0.next≤n) (q:Ext (cutH n h) h') (hnx:h.next≤h'.next):Ext h0 (h.back h'):=by
 obtain⟨l,q1,q2⟩:=q.log
 obtain⟨m,m1,m2⟩:=e.log
 refine⟨Nat.le_trans e.nx hnx,fun b hb=>(q.same b (Nat.lt_of_lt_of_le hb hn)).trans (e.same b hb),zaD h.next h'.log++m,?_,?_⟩
 ·show zaD h.next h'.log++h.log=_
  rw[m1,List.append_assoc]
 ·intro b hb
  rcases List.mem_append.1 hb with hb|hb
  ·have:=(zea hb).2
   rw[q1]at this
   have:b∈l:=by simpa [cutH] using this
   exact Nat.le_trans hn (q2 b this)
  ·exact m2 b hb
theorem LgAt.app {x:Ent} {gs:List Gf} (e:Ext h0 h) (hn:h0.next≤n) (st:StAt h n s) {ev:V} (l1:h.get (n+5)=some (.cells [ev,.p (n+4) 0])) (l2:EAt n h ev es) (lt:n+5<h.next) (hl:es.length≤1000) :
 ∃v' hb h2 hb2 h3,zaX 24 192 (h.new (.cells x.cells)).bare ev (.sl h.next 0 1 1 none)=.ok v' hb∧(h.new (.cells x.cells)).back hb=h2∧stV h2.bare 1 (.p (n+5) 0) v'=some hb2∧h2.back hb2=h3 ∧
  Ext h0 h3∧StAt h3 n s∧h3.get (n+5)=some (.cells [v',.p (n+4) 0])∧EAt n h3 v' (es++[x])∧h.next≤h3.next∧(∀b,b<h.next→(b<n+5∨n+6≤b)→h.get b≠some (.cells (zaO es))→h3.get b=h.get b):=by
 have e5:Ext h (h.new (.cells x.cells)):=(Ext.refl h).new _
 have e50:=e.trans e5
 have o5:=(l2.own (h0:=h0) hn).ext e5
 obtain⟨v',hb,h6,p1,p2,p3,p4,p5,p6,p7⟩:=o5.appB (bytes:=192) e50 (Own.lit (esz:=24) (Ext.refl h) x.cells 1 rfl).1.sl (zby _) (by omega) (by omega) (by omega)
 have p7:=p7 (by omega)
 have n5:(h.new (.cells x.cells)).next=h.next+1:=rfl
 have hec:zaO es++x.cells=zaO (es++[x]):=by unfold zaO;simp
 rw[hec]at p4
 have k6:∀k,k<h.next→(k<n+5∨k=n+5∨n+6≤k)→h.get k≠some (.cells (zaO es))→h6.get k=h.get k:=fun k hk _ hc=>(p6 k (by omega) (by
  obtain⟨_,rfl⟩|⟨_,b',_,rfl,_,hb',_,hg'⟩:=l2
  ·exact .inl rfl
  ·refine .inr fun q=>hc ?_
   rw[q];exact hg')).trans (e5.same k (by omega))
 have kl:∀{k:Nat},k<n+6→h.get k≠some (.cells (zaO es))∨h6.get k=h.get k:=fun {k} hk=>by
  obtain⟨rfl,rfl⟩|⟨_,b',_,rfl,_,hb',_,hg'⟩:=l2
  ·exact .inr ((p6 k (by omega) (.inl rfl)).trans (e5.same k (by omega)))
  ·exact .inr ((p6 k (by omega) (.inr (by show k≠b';omega))).trans (e5.same k (by omega)))
 have kk:∀{k:Nat},k<n+6→h6.get k=h.get k:=fun {k} hk=>by
  rcases kl hk with q|q
  ·exact k6 k (by omega) (by omega) q
  ·exact q
 have sb:=zfU (hh:=h6) (b:=n+5) (i:=0) (x:=v') (c':=[v',.p (n+4) 0]) ((kk (by omega)).trans l1) (by simp) p4.vals1.1 p4.vals1.2 rfl
 have bp:=zaH (show n+5<h6.next by omega) (.cells [v',.p (n+4) 0])
 refine⟨v',hb,h6,_,_,p1,p2,sb,bp,p3.put (by omega) _,?_,zab,?_,by show h.next≤h6.next;omega,?_⟩
 ·refine st.keep (by show h.next≤h6.next;omega) fun b hb hbn hc => ?_
  rw[zaa]
  ·rcases hc with hc|hc
   ·exact kk (by omega)
   ·rcases Nat.eq_zero_or_pos es.length with hz|hz
    ·refine (p6 b (by omega) (.inl ?_)).trans (e5.same b hb)
     obtain⟨_,rfl⟩|⟨hp,_⟩:=l2
     ·rfl
     ·omega
    ·refine k6 b hb (by omega) ?_
     rw[hc]
     intro q
     have q:=Option.some.inj q
     injection q with q
     exact zgW hz q.symm
  ·rintro rfl
   rcases hc with hc|hc
   ·omega
   ·rw[l1]at hc
    have:=Option.some.inj hc
    injection this with this
    exact zjb this
 ·have hlen:(es++[x]).length=es.length+1:=by simp
  obtain⟨_,⟨h0,_⟩|⟨b,g,rfl,hv,h1,h2,hg⟩⟩:=p4
  ·omega
  ·have p7:b=_:=p7
   exact .inr ⟨by omega,b,g,by rw[hlen],hv,by omega,h2,by rw[zaa (by omega)];exact hg⟩
 ·intro b hb hbn hc
  rw[zaa (by omega)]
  exact k6 b hb (by omega) hc
theorem fn_DoL {x:Ent} {fv:V} (L:Led es) (hl:es.length≤500) (ok:x.Ok) (h34:x.kind≠3∧x.kind≠4) (e:Ext h0 h) (hn:h0.next≤n) (a:LgAt h n es) :
 WC tb1 (.fn 25 [] []) [.p (n+5) 0,fv,.agg x.cells] h fun _ h'=>Ext h0 h'∧LgAt h' n (addL es x)∧FrL h h' n es:=by
 refine (zay t2025).2 ?_
 have hcc:(V.agg x.cells).cells=x.cells:=rfl
 simp only[go_sem,↓reduceIte,r25_0,hcc]
 have ex:Ext h (h.new (.cells x.cells)):=(Ext.refl h).new _
 have gx:(h.new (.cells x.cells)).get h.next=some (.cells x.cells):=zac rfl
 have n1:h.next<(h.new (.cells x.cells)).next:=Nat.lt_succ_self _
 have a1:=a.step ex
 generalize h.new (.cells x.cells)=h1 at ex gx a1 n1
 have lx:=zar gx (zaI x)
 simp only[go_sem,↓reduceIte,r25_1,lx]
 refine (zqw a1 (by omega) ok.kind ok.cur).mono ?_
 rintro u h2 ⟨rfl,e2⟩
 have ex2:=ex.trans e2
 have a2:=a1.step e2
 have gx2:=e2.get n1 gx
 have n2:h.next<h2.next:=Nat.lt_of_lt_of_le n1 e2.nx
 have quit:doL es x≠0→∀{h3:H},Ext h h3→Ext h0 h3∧LgAt h3 n (addL es x)∧FrL h h3 n es:=fun hd h3 e3=>by
  unfold addL
  rw[if_neg hd]
  exact⟨e.trans e3,a.step e3,FrL.ext e3⟩
 by_cases b0:zfR es x=0
 rotate_left
 ·simp only[go_sem,↓reduceIte,r25_2,r25_3,b0]
  exact quit (by unfold doL;rw[if_pos b0];exact b0) ex2
 have hf:x.formed=true:=by
  unfold zfR at b0
  split at b0
  ·assumption
  ·omega
 have hd:doL es x=(stOf es).refE x:=by unfold doL;rw[if_neg (fun q=>q b0)]
 have ok1:=L.ok
 have l1:ldV h2 (.p (n+5) 1)=some (.p (n+4) 0):=by obtain⟨_,⟨ev,l1,_⟩,_⟩:=a2;exact zad l1 rfl
 have lx2:=zar gx2 (zaI x)
 simp only[go_sem,↓reduceIte,r25_2,r25_4,b0,l1,lx2]
 refine (zoE (x:=x) ok1 a2.st.bare hf h34).mono ?_
 rintro u h3 ⟨rfl,e3⟩
 have e3:=e3.back
 simp only[go_sem,↓reduceIte]
 generalize h2.back h3=h3 at e3
 have ex3:=ex2.trans e3
 by_cases r0:(stOf es).refE x=0
 rotate_left
 ·simp only[go_sem,↓reduceIte,r25_5,r25_6,r0]
  exact quit (by rw[hd];exact r0) ex3
 have a3:=a2.step e3
 have gx3:=e3.get n2 gx2
 have l1':ldV h3 (.p (n+5) 1)=some (.p (n+4) 0):=by obtain⟨_,⟨ev,l1,_⟩,_⟩:=a3;exact zad l1 rfl
 have lx3:=zar gx3 (zaI x)
 have lt3:=a3.lt
 simp only[go_sem,↓reduceIte,r25_5,r25_7,r0,l1',lx3]
 refine (fn_do (h0:=cutH n h3) (n:=n) ok1 (by omega) hf h34 r0 (cutH_ext (by omega)) (Nat.le_refl _) a3.st.bare).mono ?_
 rintro u h4 ⟨e4,s4,f4⟩
 have e4':=Ext.backN (e.trans ex3) hn e4 f4.nx
 have s4':StAt (h3.back h4) n ((stOf es).doE x):=s4.keep (Nat.le_refl _) fun _ _ _ _=>rfl
 have f4':FrS h3 (h3.back h4) n (stOf es):=⟨f4.nx,f4.same⟩
 simp only[go_sem,↓reduceIte]
 generalize h3.back h4=h5 at e4' s4' f4'
 clear e4 s4 f4
 obtain⟨_,⟨ev,l1,l2⟩,lt⟩:=a3
 have m1:=(f4'.same _ lt3 (by omega) (by rw[l1];intro q;have q:=Option.some.inj q;injection q with q;exact zjb q)).trans l1
 have m2:EAt n h5 ev es:=l2.keep f4'.nx fun b hb hz hc hlt=>f4'.same b hlt (by omega) (by rw[hc];intro q;have q:=Option.some.inj q;injection q with q;exact zgW hz q)
 have hxne:h.next<h3.next:=Nat.lt_of_lt_of_le n2 e3.nx
 have hx5:h5.get h.next=some (.cells x.cells):=(f4'.same _ hxne (by have:=a.lt;omega) (by
  rw[gx3]
  intro q
  have q:=Option.some.inj q
  injection q with q
  have:=congrArg List.length q
  unfold zam at this
  rw[zbp zaK,zaI]at this
  omega)).trans gx3
 have lt5:n+5<h5.next:=Nat.lt_of_lt_of_le lt3 f4'.nx
 obtain⟨v',hb,h6,hb2,h7,p1,p2,p3,p4,p5,p6,p7,p8,p9,p10⟩:=LgAt.app (x:=x) (gs:=[]) e4' hn s4' m1 m2 lt5 (by omega)
 have l0:ldV h5 (.p (n+5) 0)=some ev:=zad m1 rfl
 have lx5:=zar hx5 (zaI x)
 have hnb:h5.bare.next=h5.next:=rfl
 have hz:[V.i .u8 0]++List.replicate 14 (.i .i64 0)++[.i .u8 0]++[.i .i64 0,.i .i64 0]++[.i .u8 0]++[.i .i64 0,.i .i64 0,.i .i64 0,.i .i64 0,.i .i64 0]=zE:=rfl
 simp only[hz,go_sem,↓reduceIte,r25_8,l0,lx5]
 rw[zcT (c:=x.cells) (by simp only[go_sem,↓reduceIte]) (zaI _) rfl]
 simp only[hz,go_sem,↓reduceIte,H.back_bare,H.back_new,hnb,p1,p2,p3,p4,r25_9]
 have had:addL es x=es++[x]:=by unfold addL;rw[if_pos (hd.trans r0)]
 rw[had]
 refine⟨p5,⟨by rw[zhS];exact p6,⟨v',p7,p8⟩,by omega⟩,Nat.le_trans (Nat.le_trans ex3.nx f4'.nx) p9,fun b hb hbn hc1 hc2 => ?_⟩
 have hb3:b<h3.next:=Nat.lt_of_lt_of_le hb ex3.nx
 have q3:=ex3.same b hb
 have q5:=f4'.same b hb3 (by omega) (by rw[q3];exact hc1)
 rw[p10 b (Nat.lt_of_lt_of_le hb3 f4'.nx) (by omega) (by rw[q5,q3];exact hc2),q5,q3]
end
end Go.Air
set_option maxRecDepth 100000
namespace Go.Air
open Go.Air.Try
def zeR (p:Gf→Bool):List Gf→Option Nat
 |[]=>none
 |g::gs=>if p g=true then some 0 else (zeR p gs).map (· + 1)
theorem znK {p:Gf→Bool}:∀{gs:List Gf} {i:Nat} {g:Gf},(∀x∈gs.take i,p x=false)→gs[i]? = some g→p g=true→zeR p gs=some i
 |[],i,_,_,h,_=>by simp at h
 |x::gs,0,g,_,h,hp=>by
  cases h
  exact if_pos hp
 |x::gs,i+1,g,ht,h,hp=>by
  have hx:p x=false:=ht x (by simp)
  have ih:=znK (gs:=gs) (i:=i) (fun y hy=>ht y (by simp[hy])) h hp
  rw[zeR,if_neg (by rw[hx];simp),ih];rfl
theorem znJ {p:Gf→Bool}:∀{gs:List Gf},(∀x∈gs,p x=false)→zeR p gs=none
 |[],_=>rfl
 |x::gs,h=>by
  rw[zeR,if_neg (by rw[h x (by simp)];simp),znJ fun y hy=>h y (by simp[hy])];rfl
def idxG (p:Gf→Bool) (gs:List Gf):Int:=match zeR p gs with
 |some i=>(i:Int)
 |none => -1
theorem idxG_at {p:Gf→Bool} {gs:List Gf} {i:Nat} {g:Gf} (h1:∀x∈gs.take i,p x=false) (h2:gs[i]? = some g) (h3:p g=true):idxG p gs=(i:Int):=by unfold idxG;rw[znK h1 h2 h3]
theorem idxG_no {p:Gf→Bool} {gs:List Gf} (h:∀x∈gs,p x=false):idxG p gs = -1:=by unfold idxG;rw[znJ h]
theorem zjm (p:Gf→Bool):∀gs:List Gf,(idxG p gs = -1∧∀x∈gs,p x=false)∨∃(i:Nat) (g:Gf),idxG p gs=(i:Int)∧gs[i]? = some g∧p g=true∧∀x∈gs.take i,p x=false:=by
 intro gs
 have key:∀gs:List Gf,(zeR p gs=none∧∀x∈gs,p x=false)∨∃i g,zeR p gs=some i∧gs[i]? = some g∧p g=true∧∀x∈gs.take i,p x=false:=by
  intro gs
  induction gs with
  |nil=>exact .inl ⟨rfl,by simp⟩
  |cons y gs ih=>
   cases hy:p y with
   |true=>exact .inr ⟨0,y,by rw[zeR,if_pos hy],rfl,hy,by simp⟩
   |false=>
    rcases ih with⟨h1,h2⟩|⟨i,g,h1,h2,h3,h4⟩
    ·refine .inl ⟨by rw[zeR,if_neg (by rw[hy];simp),h1];rfl,fun x hx => ?_⟩
     rcases List.mem_cons.1 hx with rfl|hx
     ·exact hy
     ·exact h2 x hx
    ·refine .inr ⟨i+1,g,by rw[zeR,if_neg (by rw[hy];simp),h1];rfl,h2,h3,fun x hx => ?_⟩
     rw[List.take_succ_cons]at hx
     rcases List.mem_cons.1 hx with rfl|hx
     ·exact hy
     ·exact h4 x hx
 rcases key gs with⟨h1,h2⟩|⟨i,g,h1,h2⟩
 ·exact .inl ⟨by unfold idxG;rw[h1],h2⟩
 ·exact .inr ⟨i,g,by unfold idxG;rw[h1],h2⟩
theorem idxG_any (p:Gf→Bool) (gs:List Gf):decide (0≤idxG p gs)=gs.any p:=by
 rcases zjm p gs with⟨h1,h2⟩|⟨i,g,h1,h2,h3,_⟩
 ·rw[h1,Bool.eq_iff_iff]
  simp only[decide_eq_true_eq,List.any_eq_true]
  constructor
  ·intro h;omega
  ·rintro⟨x,hx,hp⟩
   rw[h2 x hx]at hp;cases hp
 ·rw[h1,Bool.eq_iff_iff]
  simp only[decide_eq_true_eq,List.any_eq_true]
  exact⟨fun _=>⟨g,List.mem_of_getElem? h2,h3⟩,fun _=>by omega⟩
def PredF (hb:H) (f:V) (p:Gf→Bool):Prop:=∀h',Ext hb h'→∀g:Gf,WC tb1 f [.agg g.cells] h' fun u h2=>u=.b (p g)∧Ext h' h2
theorem PredF.ext {hb h:H} {f:V} {p:Gf→Bool} (P:PredF hb f p) (e:Ext hb h):PredF h f p:=fun h' e' g=>P h' (e.trans e') g
section
variable {h0 h h1 h' hb:H} {n:Nat} {gs:List Gf} {f v:V} {p:Gf→Bool}
theorem t2123:tb1 123=some a123:=by kernel_rfl
theorem t2071:tb1 71=some a71:=by kernel_rfl
theorem zlw (P:PredF hb f p) (e:Ext hb h) (s:Sl 10 h v gs.length (zam gs)) (hl:gs.length≤1000):WC tb1 (.fn 123 [] []) [v,f] h fun u h'=>u=.i .i64 (idxG p gs)∧Ext h h':=by
 refine (zay t2123).2 ?_
 have hle:=s.len
 simp only[go_sem,↓reduceIte,r123_0,r123_1,hle]
 refine zax (fun k t hh=>∃i,k=gs.length-i∧i≤gs.length∧t.length=19∧nth t 0=v∧nth t 1=f∧nth t 7=.i .i64 (gs.length:Int)∧nth t 8=.i .i64 (i:Int)∧Ext h hh∧∀x∈gs.take i,p x=false) ?_ gs.length ?_
 ·rintro k t hh ⟨i,rfl,hi,tl,t0,t1,t7,t8,ex,hp⟩
  unfold b123_0
  by_cases hin:i<gs.length
  ·have hI:(i:Int)<(gs.length:Int):=by omega
   have w1:IntKind.i64.wrap ((i:Int)+1)=((i+1:Nat):Int):=zaq (by omega)
   have S:=s.ext ex
   have hix:=S.ix hin
   obtain⟨g,hg⟩:∃g,gs[i]? = some g:=⟨_,List.getElem?_eq_getElem hin⟩
   have hld:=S.ldn hin
   unfold zam at hld
   rw[zcm zaK hg]at hld
   simp only[go_sem,↓reduceIte,r123_2,r123_3,r123_4,tl,t0,t1,t7,t8,hI,hix,hld]
   refine (P hh (e.trans ex) g).mono ?_
   rintro u h2 ⟨rfl,e2⟩
   cases hpg:p g
   ·simp only[go_sem,↓reduceIte,Bool.false_eq_true,r123_6,tl,t8,w1]
    refine⟨gs.length-(i+1),by omega,i+1,rfl,by omega,?_,?_,?_,rfl,ex.trans e2,?_⟩
    ·simp only[go_sem,↓reduceIte,tl,t0]
    ·simp only[go_sem,↓reduceIte,tl,t1]
    ·simp only[go_sem,↓reduceIte,tl,t7]
    ·intro x hx
     rw[zaz hg]at hx
     rcases List.mem_append.1 hx with hx|hx
     ·exact hp x hx
     ·rw[List.mem_singleton.1 hx];exact hpg
   ·simp only[go_sem,↓reduceIte,r123_5,tl,t8]
    exact⟨by rw[idxG_at hp hg hpg],ex.trans e2⟩
  ·have hI:¬ (i:Int)<(gs.length:Int):=by omega
   obtain rfl:i=gs.length:=by omega
   rw[List.take_length]at hp
   simp only[go_sem,↓reduceIte,r123_2,r123_7,tl,t7,t8,hI]
   exact⟨by rw[idxG_no hp],ex⟩
 ·refine⟨0,rfl,Nat.zero_le _,?_,?_,?_,?_,?_,Ext.refl _,by simp⟩<;>first|(simp only[go_sem,↓reduceIte];done)|(simp only[go_sem,↓reduceIte];rfl)
theorem zlz (P:PredF hb f p) (e:Ext hb h) (s:Sl 10 h v gs.length (zam gs)) (hl:gs.length≤1000):WC tb1 (.fn 71 [] []) [v,f] h fun u h'=>u=.b (gs.any p)∧Ext h h':=by
 refine (zay t2071).2 ?_
 simp only[go_sem,↓reduceIte,r71_0,r71_1]
 refine (zlw P e s hl).mono ?_
 rintro u h2 ⟨rfl,e2⟩
 have:=idxG_any p gs
 by_cases hi:0≤idxG p gs
 ·rw[decide_eq_true hi]at this
  simp only[go_sem,↓reduceIte,hi]
  exact⟨by rw[← this],e2⟩
 ·rw[decide_eq_false hi]at this
  simp only[go_sem,↓reduceIte,hi]
  exact⟨by rw[← this],e2⟩
end
end Go.Air
set_option maxRecDepth 100000
namespace Go.Air
open Go.Air.Try
def clrV (h:H) (z:List V):V→Option H
 |.sn=>some h
 |.sl b o n _ _=>if Nat.beq n 0 then some h else storeAt h b o (rep z n)
 |_=>none
theorem ev_clr {t:List V} {h:H} {z:List V} {x:X}:evA zaC (.clr z x) t h=RO.ofH (clrV h z (x.ev t)):=by
 simp only[evA,clrV]
 cases x.ev t<;>try rfl
 simp only
 split
 ·rfl
 ·cases storeAt h _ _ _<;>rfl
@[go_sem ↓] theorem wa_clr {tbl:Tb} {t:List V} {h:H} {S Sp:V→H→Prop} {z:List V} {x:X}:WA tbl (.clr z x) t h S Sp↔ROk (RO.ofH (clrV h z (x.ev t))) S:=zbj rfl ev_clr
theorem zpw (z:List V):∀n,(rep z n).length=n*z.length
 |0=>by simp[rep]
 |n+1=>by rw[rep,List.length_append,zpw z n,Nat.add_mul,Nat.one_mul,Nat.add_comm]
theorem zni {z:List V} (hz:∀u∈z,u.oneCell=true):∀n,∀u∈rep z n,u.oneCell=true
 |0,u,hu=>by simp[rep]at hu
 |n+1,u,hu=>by
  rw[rep]at hu
  rcases List.mem_append.1 hu with hu|hu
  ·exact hz u hu
  ·exact zni hz n u hu
theorem gz_one:∀u∈gz,u.oneCell=true:=by
 intro u hu
 simp only[gz,List.mem_cons,List.not_mem_nil,or_false]at hu
 rcases hu with rfl|rfl|rfl|rfl|rfl|rfl|rfl|rfl|rfl|rfl<;>rfl
theorem zfj {α β:Type} {f:α→List β} {k:Nat} (hf:∀a,(f a).length=k):∀(l:List α) (i:Nat),(l.flatMap f).take (i*k)=(l.take i).flatMap f
 |l,0=>by simp
 |[],i+1=>by simp
 |a::l,i+1=>by
  rw[List.take_succ_cons,List.flatMap_cons,List.flatMap_cons,show (i+1)*k=(f a).length+i*k by rw[hf,Nat.add_mul];omega,List.take_length_add_append,zfj hf l i]
theorem ziz {α β:Type} {f:α→List β} {k:Nat} (hf:∀a,(f a).length=k):∀(l:List α) (i:Nat),(l.flatMap f).drop (i*k)=(l.drop i).flatMap f
 |l,0=>by simp
 |[],i+1=>by simp
 |a::l,i+1=>by
  rw[List.drop_succ_cons,List.flatMap_cons,show (i+1)*k=(f a).length+i*k by rw[hf,Nat.add_mul];omega,List.drop_length_add_append,ziz hf l i]
theorem set_cut {α:Type} {l:List α} {i:Nat} {a:α} (hi:i<l.length):l.set i a=l.take i++a::l.drop (i+1):=by
 rw[List.set_eq_take_append_cons_drop,if_pos hi]
section
variable {h0 h h1 h' hb:H} {n:Nat} {gs:List Gf} {f v:V} {p:Gf→Bool}
theorem znB {gb i:Nat} {g:Gf} (gg:h.get gb=some (.cells (zam gs))) (hi:i<gs.length):stV h 10 (.p gb (i*10)) (.agg g.cells)=some (h.put gb (.cells (zam (gs.set i g)))):=by
 have hl:(zam gs).length=gs.length*10:=zbp zaK gs
 have hc:(V.agg g.cells).cells=g.cells:=rfl
 have hlay:lay (zam gs) (i*10) g.cells=some (zam (gs.set i g)):=by
  rw[zeu]
  refine⟨by rw[hl,zaK];omega,?_⟩
  rw[set_cut hi,zaK]
  unfold zam
  rw[List.flatMap_append,List.flatMap_cons,zfj zaK,show i*10+10=(i+1)*10 by omega,ziz zaK,List.append_assoc]
 have hb:Nat.beq g.cells.length 10=true:=rfl
 have ho:g.cells.all V.oneCell=true:=List.all_eq_true.2 (zdN g)
 simp only[stV,hc,hb,if_true,storeAt,gg,hlay,ho]
theorem t2124:tb1 124=some a124:=by kernel_rfl
theorem slHi_0 {gb i len cap:Nat} {g:Option Nat} (hg:g=none∨g=some 10) (hi:i≤cap) (hc:0<cap):slHi 10 (.sl gb 0 len cap g) (.i .i64 (i:Int))=some (.sl gb 0 i cap g):=by
 have hbd:=zhc (t:=[.i .i64 (i:Int)]) (x:=.t 0) (len:=len) (cap:=cap) (b:=i) rfl hi
 have h1:Nat.beq 0 cap=false:=by rw[Bool.eq_false_iff,ne_eq,Nat.beq_eq];omega
 have h2:Nat.blt 0 cap=true:=by rw[Nat.blt_eq];exact hc
 have h3:Nat.beq 10 10=true:=rfl
 unfold slHi
 rcases hg with rfl|rfl
 ·simp[zck,hbd,h1]
 ·simp[zck,hbd,h2,h3]
theorem slLo_0 {gb i len:Nat} {g:Option Nat} (hg:g=none∨g=some 10) (hi:i<len):slLo 10 (.sl gb 0 len len g) (.i .i64 (i:Int))=some (.sl gb (i*10) (len-i) (len-i) g):=by
 have hbd:=ziS (t:=[.i .i64 (i:Int)]) (x:=.t 0) (len:=len) (cap:=len) (a:=i) rfl (Nat.le_refl _) (Nat.le_of_lt hi)
 have h1:Nat.beq i len=false:=by rw[Bool.eq_false_iff,ne_eq,Nat.beq_eq];omega
 have h2:Nat.blt i len=true:=by rw[Nat.blt_eq];exact hi
 have h3:Nat.beq 10 10=true:=rfl
 unfold slLo
 rcases hg with rfl|rfl
 ·simp[zck,hbd,h1]
 ·simp[zck,hbd,h2,h3]
theorem zoK {gv:V} (P:PredF hb f p) (e:Ext hb h) (a:GAt n h gv gs) (hn:hb.next≤n) (hl:gs.length≤1000):WC tb1 (.fn 124 [] []) [gv,f] h fun u h'=>Ext hb h'∧Sl 10 h' u (gs.filter fun g => !p g).length (zam (gs.filter fun g => !p g)):=by
 refine (zay t2124).2 ?_
 simp only[go_sem,↓reduceIte,r124_0,r124_1]
 have S:=(a.own hn).sl
 refine (zlw P e S hl).mono ?_
 rintro u h1 ⟨rfl,e1⟩
 rcases zjm p gs with⟨hi,hall⟩|⟨i0,g0,hi,hg0,hp0,hbef⟩
 ·simp only[go_sem,↓reduceIte,r124_2,r124_3,hi]
  have hf:(gs.filter fun g => !p g)=gs:=by
   rw[List.filter_eq_self]
   intro g hg
   rw[hall g hg];rfl
  rw[hf]
  exact⟨e.trans e1,S.ext e1⟩
 have hi0:i0<gs.length:=by
  rw[List.getElem?_eq_some_iff]at hg0
  exact hg0.1
 have hne:¬ (i0:Int) = -1:=by omega
 have w1:IntKind.i64.wrap ((i0:Int)+1)=((i0+1:Nat):Int):=zaq (by omega)
 simp only[go_sem,↓reduceIte,r124_2,r124_4,hi,hne,w1]
 have a1:GAt n h1 gv gs:=a.keep e1.nx fun b _ _ hb=>e1.same b hb
 obtain⟨gb,gi,rfl,gn,gl,gg,gk⟩:=a1.at (by omega)
 have hgi:gi=none∨gi=some 10:=by
  obtain⟨_,_,_,⟨hz,_⟩|⟨b,g,hv,hg,_⟩⟩:=a1
  ·omega
  ·cases hv;exact hg
 have fil0:gs.take i0=(gs.take (i0+1)).filter fun g => !p g:=by
  rw[zaz hg0,List.filter_append,List.filter_cons_of_neg (by rw[hp0];simp),List.filter_nil,List.append_nil]
  symm
  rw[List.filter_eq_self]
  intro g hg
  rw[hbef g hg];rfl
 have ee:=e.trans e1
 clear e1 a1 gk S
 refine zax (fun k t hh=>∃i j gs',k=gs.length-j∧i<j∧j≤gs.length∧gs'.length=gs.length∧gs'.take i=(gs.take j).filter (fun g => !p g)∧gs'.drop j=gs.drop j∧t.length=42∧nth t 0=.sl gb 0 gs.length gs.length gi∧nth t 1=f∧nth t 5=.i .i64 (i:Int)∧nth t 6=.i .i64 (j:Int)∧Ext hb hh∧gb<hh.next∧hh.get gb=some (.cells (zam gs'))) ?_ (gs.length-(i0+1)) ?_
 ·rintro k t hh ⟨i,j,gs',rfl,hij,hj,hlen,htake,hdrop,tl,t0,t1,t5,t6,ex,hgl,hg⟩
  unfold b124_0
  have hle:lenV (.sl gb 0 gs.length gs.length gi)=some gs.length:=rfl
  have hz:([.i .i64 0,.i .i64 0,.i .i64 0,.i .i64 0,.i .u8 0,.i .i64 0,.i .i64 0,.i .u8 0,.i .i64 0,.i .i64 0]:List V)=gz:=rfl
  by_cases hin:j<gs.length
  ·have hI:(j:Int)<(gs.length:Int):=by omega
   have w1:IntKind.i64.wrap ((j:Int)+1)=((j+1:Nat):Int):=zaq (by omega)
   have w2:IntKind.i64.wrap ((i:Int)+1)=((i+1:Nat):Int):=zaq (by omega)
   obtain⟨g,hgj⟩:∃g,gs[j]? = some g:=⟨_,List.getElem?_eq_getElem hin⟩
   have hgj':gs'[j]? = some g:=by
    have:=congrArg (·[0]?) hdrop
    simpa [List.getElem?_drop,hgj] using this
   have hix:=zek (gb:=gb) (g:=gi) (m:=gs.length) (k:=(j:Int)) rfl hin
   have hixi:=zek (gb:=gb) (g:=gi) (m:=gs.length) (k:=(i:Int)) rfl (show i<gs.length by omega)
   have S:Sl 10 hh (.sl gb 0 gs.length gs.length gi) gs.length (zam gs'):=.inr ⟨gb,0,gs.length,gi,_,rfl,hgl,hg,zbh.2 ⟨by unfold zam;rw[zbp zaK,hlen];omega,by rw[List.drop_zero,List.take_of_length_le (by unfold zam;rw[zbp zaK];omega)]⟩⟩
   have hld:=S.ldn hin
   unfold zam at hld
   rw[zcm zaK hgj']at hld
   have hld:ldnV hh 10 (.p gb (j*10))=some (.agg g.cells):=by
    have:(0+j*10)=j*10:=by omega
    rw[← this];exact hld
   have sj:=zal (h:=hh.new (.cells gz)) (b:=hh.next) (k:=10) (d:=g.cells) (zac rfl) rfl rfl (zdN g)
   have ex2:Ext hh ((hh.new (.cells gz)).put hh.next (.cells g.cells)):=((Ext.refl hh).new _).put (Nat.le_refl _) _
   have gj:((hh.new (.cells gz)).put hh.next (.cells g.cells)).get hh.next=some (.cells g.cells):=zab
   have hj2:hh.next<((hh.new (.cells gz)).put hh.next (.cells g.cells)).next:=Nat.lt_succ_self _
   simp only[hz,go_sem,↓reduceIte,r124_5,r124_7,tl,t0,t6,hle,hI,hix,hld,sj]
   generalize (hh.new (.cells gz)).put hh.next (.cells g.cells)=h2 at ex2 gj hj2
   have lj:=zar gj (zaK g)
   simp only[go_sem,↓reduceIte,r124_8,tl,t1,lj]
   refine (P h2 (ex.trans ex2) g).mono ?_
   rintro u h3 ⟨rfl,e3⟩
   have ex3:=(ex.trans ex2).trans e3
   have hg3:=(ex2.trans e3).get hgl hg
   have gj3:=e3.get hj2 gj
   have hl3:gb<h3.next:=Nat.lt_of_lt_of_le hgl (ex2.trans e3).nx
   have hdrop':∀l:List Gf,l.length=gs.length→l.drop (j+1)=gs'.drop (j+1)→l.drop (j+1)=gs.drop (j+1):=by
    intro l hl h
    rw[h,← List.drop_drop,hdrop,List.drop_drop]
   cases hpg:p g
   ·have lj3:=zar gj3 (zaK g)
    have st:=znB (i:=i) (g:=g) hg3 (by omega)
    simp only[go_sem,↓reduceIte,Bool.false_eq_true,r124_9,r124_10,r124_6,tl,t0,t5,t6,lj3,hixi,st,w1,w2]
    refine⟨gs.length-(j+1),by omega,i+1,j+1,gs'.set i g,rfl,by omega,by omega,by simp[hlen],?_,?_,t1,rfl,rfl,ex3.put (by omega) _,hl3,zab⟩
    ·rw[zaz (List.getElem?_set_self (by omega)),List.take_set_of_le (Nat.le_refl _),htake,zaz hgj,List.filter_append,List.filter_cons_of_pos (by rw[hpg];rfl),List.filter_nil]
    ·exact hdrop' _ (by simp[hlen]) (List.drop_set_of_lt (by omega))
   ·simp only[go_sem,↓reduceIte,r124_6,tl,t6,w1]
    refine⟨gs.length-(j+1),by omega,i,j+1,gs',rfl,by omega,by omega,hlen,?_,hdrop' _ hlen rfl,t0,t1,t5,rfl,ex3,hl3,hg3⟩
    ·rw[htake,zaz hgj,List.filter_append,List.filter_cons_of_neg (by rw[hpg];simp),List.filter_nil,List.append_nil]
  ·have hI:¬ (j:Int)<(gs.length:Int):=by omega
   obtain rfl:j=gs.length:=by omega
   rw[List.take_length]at htake
   have p1:=slLo_0 (gb:=gb) hgi hij
   have p2:=slHi_0 (gb:=gb) (len:=gs.length) (cap:=gs.length) (i:=i) hgi (by omega) (by omega)
   have hcl:clrV hh gz (.sl gb (i*10) (gs.length-i) (gs.length-i) gi)=some (hh.put gb (.cells ((zam gs').take (i*10)++rep gz (gs.length-i)))):=by
    have hz:Nat.beq (gs.length-i) 0=false:=by rw[Bool.eq_false_iff,ne_eq,Nat.beq_eq];omega
    have hgl:(zam gs').length=gs.length*10:=by unfold zam;rw[zbp zaK,hlen]
    have hrl:(rep gz (gs.length-i)).length=(gs.length-i)*10:=zpw gz _
    have hlay:lay (zam gs') (i*10) (rep gz (gs.length-i))=some ((zam gs').take (i*10)++rep gz (gs.length-i)):=by
     rw[zeu]
     refine⟨by rw[hgl,hrl];omega,?_⟩
     rw[List.drop_eq_nil_of_le (by rw[hgl,hrl];omega),List.append_nil]
    have ho:(rep gz (gs.length-i)).all V.oneCell=true:=List.all_eq_true.2 (zni gz_one _)
    simp only[clrV,hz,Bool.false_eq_true,if_false,storeAt,hg,hlay,ho,if_true]
   simp only[hz,go_sem,↓reduceIte,r124_5,r124_11,r124_12,tl,t0,t5,t6,hle,hI,p1,p2,hcl]
   refine⟨ex.put (by omega) _,.inr ⟨gb,0,gs.length,gi,_,?_,hgl,zab,?_⟩⟩
   ·have:(gs.filter fun g => !p g).length=i:=by rw[← htake,List.length_take];omega
    rw[this]
   ·rw[← htake]
    unfold zam
    rw[zfj zaK]
    refine zbh.2 ⟨?_,?_⟩
    ·rw[List.length_append,zbp zaK];omega
    ·rw[List.drop_zero,← zbp zaK,List.take_left']
     rfl
 ·refine⟨i0,i0+1,gs,rfl,by omega,by omega,rfl,fil0,rfl,?_,?_,?_,?_,?_,ee,gl,gg⟩<;>first|(simp only[go_sem,↓reduceIte];done)|(simp only[go_sem,↓reduceIte];rfl)
end
end Go.Air
set_option maxRecDepth 100000
namespace Go.Air
open Go.Air.Try
theorem Led.at {es:List Ent} (l:Led es):∀{i:Nat} {x:Ent},es[i]? = some x→x.formed=true∧(x.kind≠3∧x.kind≠4)∧(stOf (es.take i)).refE x=0∧(stOf (es.take i)).Ok i:=by
 induction l with
 |nil=>intro i x h;simp at h
 |@add es y l hf hk hd ih=>
  intro i x h
  rcases Nat.lt_trichotomy i es.length with hi|hi|hi
  ·rw[List.getElem?_append_left hi]at h
   rw[List.take_append_of_le_length (by omega)]
   exact ih h
  ·subst hi
   rw[List.getElem?_append_right (Nat.le_refl _),Nat.sub_self]at h
   cases h
   rw[List.take_append_of_le_length (Nat.le_refl _),List.take_length]
   exact⟨hf,hk,(doL_0 hd).2,l.ok⟩
  ·rw[List.getElem?_eq_none (by simp;omega)]at h
   cases h
theorem mem_day {x:Ent} (h:x.formed=true):x.day≤100000:=(zaE h).1.2
section
variable {h0 h h1 h' hb:H} {n:Nat} {gs:List Gf} {es:List Ent} {f v:V} {p:Gf→Bool}
theorem t2125:tb1 125=some a125:=by kernel_rfl
theorem t2126:tb1 126=some a126:=by kernel_rfl
theorem t2072:tb1 72=some a72:=by kernel_rfl
theorem fn_asOf (L:Led es) (hl:es.length≤500) (a:LgAt h n es):WC tb1 (.fn 125 [] []) [.p (n+5) 0,.i .i64 100000] h fun u h'=>∃m,u=.p (m+4) 0∧h.next≤m∧StAt h' m (stOf es)∧Ext h h':=by
 refine (zay t2125).2 ?_
 simp only[go_sem,↓reduceIte,r125_0,r125_1]
 refine fn_newState.mono ?_
 rintro u h1 ⟨rfl,e1,s1,n1⟩
 have hq:eqV .ptr (.p (n+5) 0) .pn=some false:=rfl
 have a1:=a.step e1
 obtain⟨_,⟨ev,l1,l2⟩,lt⟩:=a
 have le0:ldV h1 (.p (n+5) 0)=some ev:=zad (e1.get lt l1) rfl
 have o:=l2.own (h0:=⟨n,h.mem,[]⟩) (Nat.le_refl _)
 have hle:lenV ev=some es.length:=o.sl.len
 simp only[go_sem,↓reduceIte,r125_2,r125_4,hq,le0,hle]
 refine zax (fun k t hh=>∃i,k=es.length-i∧i≤es.length∧t.length=30∧nth t 1=.i .i64 100000∧nth t 5=.p (h.next+4) 0∧nth t 15=ev∧nth t 16=.i .i64 (es.length:Int)∧nth t 17=.i .i64 (i:Int)∧Ext h hh∧StAt hh h.next (stOf (es.take i))) ?_ es.length ?_
 ·rintro k t hh ⟨i,rfl,hi,tl,t1,t5,t15,t16,t17,ex,st⟩
  unfold b125_0
  by_cases hin:i<es.length
  ·have hI:(i:Int)<(es.length:Int):=by omega
   have w1:IntKind.i64.wrap ((i:Int)+1)=((i+1:Nat):Int):=zaq (by omega)
   obtain⟨x,hx⟩:∃x,es[i]? = some x:=⟨_,List.getElem?_eq_getElem hin⟩
   obtain⟨hf,h34,hr,ok⟩:=L.at hx
   have S:=o.sl.ext ex
   have hix:=S.ix hin
   have hld:=S.ldn hin
   unfold zaO at hld
   rw[zcm zaI hx]at hld
   have hz:[V.i .u8 0]++List.replicate 14 (.i .i64 0)++[.i .u8 0]++[.i .i64 0,.i .i64 0]++[.i .u8 0]++[.i .i64 0,.i .i64 0,.i .i64 0,.i .i64 0,.i .i64 0]=zE:=rfl
   have sj:=zal (h:=hh.new (.cells zE)) (b:=hh.next) (k:=24) (d:=x.cells) (zac rfl) rfl rfl (zby x)
   have ex2:Ext hh ((hh.new (.cells zE)).put hh.next (.cells x.cells)):=((Ext.refl hh).new _).put (Nat.le_refl _) _
   have gj:((hh.new (.cells zE)).put hh.next (.cells x.cells)).get hh.next=some (.cells x.cells):=zab
   simp only[hz,go_sem,↓reduceIte,r125_5,r125_6,tl,t15,t16,t17,hI,hix,hld,sj]
   generalize (hh.new (.cells zE)).put hh.next (.cells x.cells)=h2 at ex2 gj
   have ld1:ldV h2 (.p hh.next 1)=some (.i .i64 x.day):=zad gj rfl
   have lj:=zar gj (zaI x)
   have hday:=mem_day hf
   simp only[go_sem,↓reduceIte,r125_7,r125_8,tl,t1,t5,ld1,hday,lj]
   refine (fn_do (h0:=h) ok (by omega) hf h34 hr (ex.trans ex2) (Nat.le_refl _) (st.step ex2)).mono ?_
   rintro u h3 ⟨e3,s3,_⟩
   simp only[go_sem,↓reduceIte,r125_9,tl,t17,w1]
   refine⟨es.length-(i+1),by omega,i+1,rfl,by omega,?_,?_,?_,?_,rfl,e3,?_⟩
   ·simp only[go_sem,↓reduceIte,tl,t1]
   ·simp only[go_sem,↓reduceIte,tl,t5]
   ·simp only[go_sem,↓reduceIte,tl,t15]
   ·simp only[go_sem,↓reduceIte,tl,t16]
   ·have:es.take (i+1)=es.take i++[x]:=zaz hx
    rw[this,zhS];exact s3
  ·have hI:¬ (i:Int)<(es.length:Int):=by omega
   obtain rfl:i=es.length:=by omega
   rw[List.take_length]at st
   simp only[go_sem,↓reduceIte,r125_5,r125_10,tl,t5,t16,t17,hI]
   exact⟨h.next,rfl,Nat.le_refl _,st,ex⟩
 ·refine⟨0,rfl,Nat.zero_le _,?_,?_,?_,?_,?_,?_,e1,s1⟩<;>first|(simp only[go_sem,↓reduceIte];done)|(simp only[go_sem,↓reduceIte];rfl)
def zeJ (st:Int) (g:Gf):Bool := !decide (g.frm=st) && !decide (g.to=st)
theorem zqu {st:Int} {tb:Nat} (g0:hb.get tb=some (.cells [.i .i64 st])) (ht:tb<hb.next):PredF hb (.fn 126 [] [.p tb 0]) (zeJ st):=by
 intro h' e g
 refine (zhJ t2126).2 ?_
 have hcc:(V.agg g.cells).cells=g.cells:=rfl
 have ex:Ext h' (h'.new (.cells g.cells)):=(Ext.refl h').new _
 have gx:(h'.new (.cells g.cells)).get h'.next=some (.cells g.cells):=zac rfl
 have gt:=(e.trans ex).get ht g0
 have lt:ldV (h'.new (.cells g.cells)) (.p tb 0)=some (.i .i64 st):=zad gt rfl
 have l2:ldV (h'.new (.cells g.cells)) (.p h'.next 2)=some (.i .i64 g.frm):=zad gx rfl
 have l3:ldV (h'.new (.cells g.cells)) (.p h'.next 3)=some (.i .i64 g.to):=zad gx rfl
 unfold zeJ
 by_cases h1:g.frm=st
 ·simp only[go_sem,↓reduceIte,r126_0,r126_1,hcc,lt,l2,l3,h1,List.nil_append,List.cons_append,List.append_nil]
  exact⟨by simp,ex⟩
 ·by_cases h2:g.to=st
  ·simp only[go_sem,↓reduceIte,r126_0,r126_1,hcc,lt,l2,l3,h1,h2,List.nil_append,List.cons_append,List.append_nil]
   exact⟨by simp,ex⟩
  ·simp only[go_sem,↓reduceIte,r126_0,r126_1,hcc,lt,l2,l3,h1,h2,List.nil_append,List.cons_append,List.append_nil]
   exact⟨by simp,ex⟩
theorem zoJ {st:Int} (L:Led es) (hl:es.length≤500) (a:LgAt h n es):WC tb1 (.fn 72 [] []) [.p (n+5) 0,.i .i64 st,.i .i64 100000] h fun u h'=>Ext h h'∧Sl 10 h' u ((stOf es).gifts.filter fun g => !zeJ st g).length (zam ((stOf es).gifts.filter fun g => !zeJ st g)):=by
 refine (zay t2072).2 ?_
 have hcc:(V.i .i64 st).cells=[.i .i64 st]:=rfl
 simp only[go_sem,↓reduceIte,r72_0,r72_1,hcc]
 have ex:Ext h (h.new (.cells [.i .i64 st])):=(Ext.refl h).new _
 have gx:(h.new (.cells [.i .i64 st])).get h.next=some (.cells [.i .i64 st]):=zac rfl
 have n1:h.next<(h.new (.cells [.i .i64 st])).next:=Nat.lt_succ_self _
 generalize h.new (.cells [.i .i64 st])=h1 at ex gx n1
 refine (fn_asOf L hl (a.step ex)).mono ?_
 rintro u h2 ⟨m,rfl,hm,s2,e2⟩
 obtain⟨_,_,_,⟨gv,g1,g2⟩,lt⟩:=s2
 have l4:ldV h2 (.p (m+4) 4)=some gv:=zad g1 rfl
 simp only[go_sem,↓reduceIte,l4]
 have hlen:(stOf es).gifts.length≤500:=L.ok.len
 refine (zoK (hb:=h1) (zqu gx n1) e2 g2 hm (by omega)).mono ?_
 rintro u h3 ⟨e3,s3⟩
 simp only[go_sem,↓reduceIte]
 exact⟨ex.trans e3,s3⟩
end
end Go.Air
set_option maxRecDepth 100000
namespace Go.Air
open Go.Air.Try
def zgF (salt:Int) (body:List Nat):List Nat:=Sha.sum ([115]++itoa salt++[47]++body)
theorem t81:tb1 44=some a44:=by kernel_rfl
theorem t84:tb1 130=some a130:=by kernel_rfl
theorem str_sl {h:H} (l:List Nat):Sl 1 (h.new (.cells (l.map fun c:Nat=>V.i .u8 (c:Int)))) (.sl h.next 0 l.length l.length (some 1)) l.length (l.map u8):=
 .inr ⟨h.next,0,_,_,_,rfl,by simp,zac rfl,zbh.2 ⟨by simp,by rw[Nat.mul_one,List.drop_zero,List.take_of_length_le (by simp)];rfl⟩⟩
theorem fn_seal {h:H} (ht:Tb4 h) {salt:Int} (hs:I64 salt) {body:List Nat} (hb:∀c∈body,c<256) (hl:body.length≤1000000) :
 WC tb1 (.fn 44 [] []) [.i .i64 salt,.s body] h fun u h'=>u=.agg ((zgF salt body).map u8)∧Ext h h':=by
 refine (zay t81).2 ?_
 have e1:Ext h (h.new (.cells (List.replicate 32 (V.i .u8 0)))):=(Ext.refl h).new _
 have hil:=zei salt
 have b1:binV .add (.s [115]) (.s (itoa salt))=some (.s ([115]++itoa salt)):=zbE (by simp;omega)
 have b2:binV .add (.s ([115]++itoa salt)) (.s [47])=some (.s ([115]++itoa salt++[47])):=zbE (by simp;omega)
 have b3:binV .add (.s ([115]++itoa salt++[47])) (.s body)=some (.s ([115]++itoa salt++[47]++body)):=zbE (by simp;omega)
 simp only[go_sem,↓reduceIte,r44_0,r44_1,zkn (ht.ext e1) hs,b1,b2,b3]
 generalize hm:[115]++itoa salt++[47]++body=m
 have hso:zgF salt body=Sha.sum m:=by rw[← hm];rfl
 have hml:m.length≤10000000:=by subst hm;simp;omega
 have hlt:∀c∈m,c<256:=by
  subst hm
  intro c hc
  simp only[List.mem_append,List.mem_cons,List.not_mem_nil,or_false]at hc
  rcases hc with ((rfl|hc)|rfl)|hc
  ·omega
  ·exact zqf salt c hc
  ·omega
  ·exact hb c hc
 have hby:=znT (str_sl (h:=h.new (.cells (List.replicate 32 (V.i .u8 0)))) m) hlt hml
 have e2:Ext h ((h.new (.cells (List.replicate 32 (V.i .u8 0)))).new (.cells (m.map fun c:Nat=>V.i .u8 (c:Int)))):=e1.new _
 have g1:((h.new (.cells (List.replicate 32 (V.i .u8 0)))).new (.cells (m.map fun c:Nat=>V.i .u8 (c:Int)))).get h.next=some (.cells (List.replicate 32 (V.i .u8 0))):=by
  rw[zaf (by simp),zac rfl]
 have hst:=zal (k:=32) (d:=(Sha.sum m).map u8) g1 rfl rfl (zeB _)
 simp only[fn1_sum hby,sumV,go_sem,↓reduceIte,hst]
 rw[zdq (n:=4) (k:=32) (b:=h.next) (cs:=(Sha.sum m).map u8) (by simp only[go_sem,↓reduceIte]) zab rfl,hso]
 exact⟨rfl,e2.put (Nat.le_refl _) _⟩
theorem fn_rseal {h:H} (ht:Tb4 h) {salt:Int} (hs:I64 salt) {body:List Nat} (hb:∀c∈body,c<256) (hl:body.length≤1000000) :
 WC tb1 (.fn 130 [] []) [.i .i64 salt,.s body] h fun u h'=>u=.agg ((zgF salt body).map u8)∧Ext h h':=by
 refine (zay t84).2 ?_
 have e1:Ext h (h.new (.cells (List.replicate 32 (V.i .u8 0)))):=(Ext.refl h).new _
 have hil:=zei salt
 have b1:binV .add (.s [115]) (.s (itoa salt))=some (.s ([115]++itoa salt)):=zbE (by simp;omega)
 have b2:binV .add (.s ([115]++itoa salt)) (.s [47])=some (.s ([115]++itoa salt++[47])):=zbE (by simp;omega)
 have b3:binV .add (.s ([115]++itoa salt++[47])) (.s body)=some (.s ([115]++itoa salt++[47]++body)):=zbE (by simp;omega)
 simp only[go_sem,↓reduceIte,r130_0,r130_1,zkn (ht.ext e1) hs,b1,b2,b3]
 generalize hm:[115]++itoa salt++[47]++body=m
 have hso:zgF salt body=Sha.sum m:=by rw[← hm];rfl
 have hml:m.length≤10000000:=by subst hm;simp;omega
 have hlt:∀c∈m,c<256:=by
  subst hm
  intro c hc
  simp only[List.mem_append,List.mem_cons,List.not_mem_nil,or_false]at hc
  rcases hc with ((rfl|hc)|rfl)|hc
  ·omega
  ·exact zqf salt c hc
  ·omega
  ·exact hb c hc
 have hby:=znT (str_sl (h:=h.new (.cells (List.replicate 32 (V.i .u8 0)))) m) hlt hml
 have e2:Ext h ((h.new (.cells (List.replicate 32 (V.i .u8 0)))).new (.cells (m.map fun c:Nat=>V.i .u8 (c:Int)))):=e1.new _
 have g1:((h.new (.cells (List.replicate 32 (V.i .u8 0)))).new (.cells (m.map fun c:Nat=>V.i .u8 (c:Int)))).get h.next=some (.cells (List.replicate 32 (V.i .u8 0))):=by
  rw[zaf (by simp),zac rfl]
 have hst:=zal (k:=32) (d:=(Sha.sum m).map u8) g1 rfl rfl (zeB _)
 simp only[fn1_rsum hby,sumV,go_sem,↓reduceIte,hst]
 rw[zdq (n:=4) (k:=32) (b:=h.next) (cs:=(Sha.sum m).map u8) (by simp only[go_sem,↓reduceIte]) zab rfl,hso]
 exact⟨rfl,e2.put (Nat.le_refl _) _⟩
end Go.Air
set_option maxRecDepth 100000
namespace Go.Air
open Go.Air.Try
structure Bul where
 (n at' by':Int)
 kind:Nat
 hid:Bool
 body:List Nat
 salt:Int
 (dig prev:List Nat)
 deriving DecidableEq
def Bul.head (b:Bul):List V:=[.i .i64 b.n,.i .i64 b.at',.i .i64 b.by',.i .u8 (b.kind:Int),.b b.hid,.s b.body,.i .i64 b.salt]
def Bul.cells (b:Bul):List V:=b.head++(b.dig.map u8++b.prev.map u8)
structure Bul.Ok (b:Bul):Prop where
 n:I64 b.n
 at':I64 b.at'
 by':I64 b.by'
 kind:b.kind<256
 salt:I64 b.salt
 body:∀c∈b.body,c<256
 len:b.body.length≤9223372036854775807
 dig:b.dig.length=32
 prev:b.prev.length=32
 digB:∀c∈b.dig,c<256
 prevB:∀c∈b.prev,c<256
def Bul.formed (b:Bul):Bool:=(((btw b.n 0 1999&&btw b.at' 0 100000)&&btw b.by' 0 7)&&btw b.kind 1 7) &&
 if b.hid then decide (b.body=[])&&decide (b.salt=0) else (decide ((b.body.length:Int)≤7000)&&btw b.salt 0 9007199254740992)&&decide (b.dig=zgF b.salt b.body)
theorem zak {b:Bul} (h:b.Ok):b.cells.length=71:=by simp[Bul.cells,Bul.head,h.dig,h.prev]
theorem zbJ (b:Bul):∀u∈b.cells,u.oneCell=true:=by
 intro u hu
 unfold Bul.cells at hu
 rcases List.mem_append.1 hu with hu|hu
 ·simp only[Bul.head,List.mem_cons,List.not_mem_nil,or_false]at hu
  rcases hu with rfl|rfl|rfl|rfl|rfl|rfl|rfl<;>rfl
 ·rcases List.mem_append.1 hu with hu|hu<;>exact zeB _ u hu
structure BulAt (h:H) (k:Nat) (b:Bul):Prop where
 get:h.get k=some (.cells b.cells)
section
variable {h:H} {k:Nat} {b:Bul} (q:h.get k=some (.cells b.cells))
include q
theorem bl0:ldV h (.p k 0)=some (.i .i64 b.n):=zad q rfl
theorem bl1:ldV h (.p k 1)=some (.i .i64 b.at'):=zad q rfl
theorem bl2:ldV h (.p k 2)=some (.i .i64 b.by'):=zad q rfl
theorem bl3:ldV h (.p k 3)=some (.i .u8 (b.kind:Int)):=zad q rfl
theorem bl4:ldV h (.p k 4)=some (.b b.hid):=zad q rfl
theorem bl5:ldV h (.p k 5)=some (.s b.body):=zad q rfl
theorem bl6:ldV h (.p k 6)=some (.i .i64 b.salt):=zad q rfl
theorem bl7 (hb:b.Ok):ldnV h 32 (.p k 7)=some (.agg (b.dig.map u8)):=by
 have:cut b.cells 7 32=some (b.dig.map u8):=by
  refine zbh.2 ⟨by rw[zak hb];omega,?_⟩
  show _=(b.dig.map u8++b.prev.map u8).take 32
  rw[List.take_left' (by simpa using hb.dig)]
 simp[ldnV,q,Blk.rd,this]
theorem bl71 (hb:b.Ok):ldnV h 71 (.p k 0)=some (.agg b.cells):=zar q (zak hb)
end
theorem t85:tb1 35=some a35:=by kernel_rfl
theorem t126:tb1 75=some a75:=by kernel_rfl
theorem zlU {n:Nat} (h:n<256):zca .i64 (.i .u8 (n:Int))=some (.i .i64 (n:Int)):=by
 simp only[zca];rw[zap (by omega) (by omega)]
theorem zly {h:H} (ht:Tb4 h) {b:Bul} (hb:b.Ok):WC tb1 (.fn 35 [] []) [.agg b.cells] h fun u h'=>u=.b b.formed∧Ext h h':=by
 refine (zay t85).2 ?_
 have hc:(V.agg b.cells).cells=b.cells:=rfl
 have e1:Ext h (h.new (.cells b.cells)):=(Ext.refl h).new _
 have g:(h.new (.cells b.cells)).get h.next=some (.cells b.cells):=zac rfl
 have hk:=zlU hb.kind
 simp only[go_sem,↓reduceIte,r35_0,hc]
 cases c1:btw b.n 0 1999
 ·simp only[go_sem,↓reduceIte,r35_1,r35_2,bl0 g,bl1 g,bl2 g,bl3 g,hk,c1]
  refine⟨by simp[Bul.formed,c1],e1⟩
 cases c2:btw b.at' 0 100000
 ·simp only[go_sem,↓reduceIte,r35_1,r35_2,bl0 g,bl1 g,bl2 g,bl3 g,hk,c1,c2]
  refine⟨by simp[Bul.formed,c2],e1⟩
 cases c3:btw b.by' 0 7
 ·simp only[go_sem,↓reduceIte,r35_1,r35_2,bl0 g,bl1 g,bl2 g,bl3 g,hk,c1,c2,c3]
  refine⟨by simp[Bul.formed,c3],e1⟩
 cases c4:btw b.kind 1 7
 ·simp only[go_sem,↓reduceIte,r35_1,r35_2,bl0 g,bl1 g,bl2 g,bl3 g,hk,c1,c2,c3,c4]
  refine⟨by simp[Bul.formed,c4],e1⟩
 cases c5:b.hid
 ·simp only[go_sem,↓reduceIte,r35_1,r35_3,bl0 g,bl1 g,bl2 g,bl3 g,bl4 g,hk,c1,c2,c3,c4,c5]
  refine zdy (fun t=>t.length=55∧nth t 1=.p h.next 0) (by simp only[go_sem,↓reduceIte]) ?_
  rintro t ⟨tl,t1⟩
  cases c6:decide ((b.body.length:Int)≤7000)
  ·simp only[go_sem,↓reduceIte,r35_5,tl,t1,bl5 g,bl6 g,c6,zaG,List.cons_append,List.nil_append]
   exact⟨rfl,by simp only[Bul.formed,c1,c2,c3,c4,c5,c6];rfl,e1⟩
  cases c7:btw b.salt 0 9007199254740992
  ·simp only[go_sem,↓reduceIte,r35_5,tl,t1,bl5 g,bl6 g,c6,c7,zaG,List.cons_append,List.nil_append]
   exact⟨rfl,by simp only[Bul.formed,c1,c2,c3,c4,c5,c6,c7];rfl,e1⟩
  simp only[go_sem,↓reduceIte,r35_5,tl,t1,bl5 g,bl6 g,bl7 g hb,c6,c7,zaG,List.cons_append,List.nil_append]
  have c6':=of_decide_eq_true c6
  refine (fn_seal (ht.ext e1).bare hb.salt hb.body (by omega)).mono ?_
  rintro u h' ⟨rfl,e⟩
  have hq:eqV (.agg (List.replicate 32 (.i .u8))) (.agg (b.dig.map u8)) (.agg ((zgF b.salt b.body).map u8))=some (decide (b.dig=zgF b.salt b.body)):=zqN hb.dig (zjR _)
  have ho:=e.old
  simp only[go_sem,↓reduceIte,tl,ho,hq,List.cons_append,List.nil_append]
  exact⟨rfl,by simp only[Bul.formed,c1,c2,c3,c4,c5,c6,c7];rfl,e1.trans e.back⟩
 cases c6:decide (b.body=[])
 ·have s6:binV .eql (.s b.body) (.s [])=some (.b false):=by rw[zcj,c6]
  simp only[go_sem,↓reduceIte,r35_1,r35_3,r35_4,bl0 g,bl1 g,bl2 g,bl3 g,bl4 g,bl5 g,bl6 g,hk,c1,c2,c3,c4,c5,s6]
  exact⟨by simp only[Bul.formed,c1,c2,c3,c4,c5,c6];rfl,e1⟩
 have s6:binV .eql (.s b.body) (.s [])=some (.b true):=by rw[zcj,c6]
 cases c7:decide (b.salt=0)
 ·simp only[go_sem,↓reduceIte,r35_1,r35_3,r35_4,bl0 g,bl1 g,bl2 g,bl3 g,bl4 g,bl5 g,bl6 g,hk,c1,c2,c3,c4,c5,s6,c7]
  exact⟨by simp only[Bul.formed,c1,c2,c3,c4,c5,c6,c7];rfl,e1⟩
 ·simp only[go_sem,↓reduceIte,r35_1,r35_3,r35_4,bl0 g,bl1 g,bl2 g,bl3 g,bl4 g,bl5 g,bl6 g,hk,c1,c2,c3,c4,c5,s6,c7]
  exact⟨by simp only[Bul.formed,c1,c2,c3,c4,c5,c6,c7];rfl,e1⟩
structure MB (h hh:H) (u:V) (m:List Nat):Prop where
 ext:Ext h hh
 own:Own h 1 hh u m.length (m.map u8)
theorem MB.app {h hh:H} {u v:V} {m l:List Nat} (q:MB h hh u m) (hs:Sl 1 hh v l.length (l.map u8)) (hn:m.length+l.length≤1000000) :
 ∃u' h',zaX 1 1 hh u v=.ok u' h'∧MB h h' u' (m++l):=by
 obtain⟨v',h',q1,q2,q3,_⟩:=q.own.app (bytes:=1) q.ext hs (zeB l) (by omega) (by omega) (by omega)
 exact⟨v',h',q1,q2,by simpa using q3⟩
theorem MB.lit {h hh:H} (e:Ext h hh) (m:List Nat):MB h (hh.new (.cells (m.map fun c:Nat=>V.i .u8 (c:Int)))) (.sl hh.next 0 m.length m.length (some 1)) m:=
 ⟨e.new _,by simp,.inr ⟨hh.next,some 1,rfl,.inr rfl,e.nx,by simp,zac rfl⟩⟩
theorem MB.sl {h hh:H} {u:V} {m:List Nat} (q:MB h hh u m):Sl 1 hh u m.length (m.map u8):=q.own.sl
theorem zbZ (t:List V) (z:List V):fill t z []=some z:=rfl
def zeroB:Bul:=⟨0,0,0,0,false,[],0,List.replicate 32 0,List.replicate 32 0⟩
theorem zero_ok:zeroB.Ok:=⟨by unfold I64;decide,by unfold I64;decide,by unfold I64;decide,by decide,by unfold I64;decide,by simp[zeroB],by simp[zeroB],rfl,rfl,fun c hc=>by simp[zeroB]at hc;omega,fun c hc=>by simp[zeroB]at hc;omega⟩
def zc:List V:=[.i .i64 0,.i .i64 0,.i .i64 0]++[.i .u8 0]++[.b false]++[.s []]++[.i .i64 0]++List.replicate 64 (.i .u8 0)
theorem zc_eq:zc=zeroB.cells:=rfl
section
variable {h:H} {k:Nat} {b:Bul} (q:h.get k=some (.cells b.cells)) (hb:b.Ok)
include q hb
theorem bst4 {x:Bool}:stV h 1 (.p k 4) (.b x)=some (h.put k (.cells { b with hid:=x }.cells)):=zbB q (by rw[zak hb];omega) rfl rfl
theorem bst5 {x:List Nat}:stV h 1 (.p k 5) (.s x)=some (h.put k (.cells { b with body:=x }.cells)):=zbB q (by rw[zak hb];omega) rfl rfl
theorem bst6 {x:Int}:stV h 1 (.p k 6) (.i .i64 x)=some (h.put k (.cells { b with salt:=x }.cells)):=zbB q (by rw[zak hb];omega) rfl rfl
end
theorem zbn {h:H} {t:List V} {n b k m:Nat} {cs:List V} (hn:nth t n=.p b 0) (hg:h.get b=some (.cells cs)) (hk:cs.length=k):zao t h [.cell n (some k),.tmp m]=some [.agg cs,nth t m]:=by
 have:cut cs 0 k=some cs:=zbh.2 ⟨by omega,by simp[← hk]⟩
 simp only[zao,zdY,hn,hg,this,Option.map_some]
end Go.Air
set_option maxRecDepth 100000
namespace Go.Air
open Go.Air.Try
theorem zkl {h:H} (ht:Tb4 h) {b:Bul} (hb:b.Ok):WC tb1 (.fn 75 [] []) [.agg b.cells] h fun u h'=>u=.b b.formed∧Ext h h':=by
 refine (zay t126).2 ?_
 have hc:(V.agg b.cells).cells=b.cells:=rfl
 have e1:Ext h (h.new (.cells b.cells)):=(Ext.refl h).new _
 have g:(h.new (.cells b.cells)).get h.next=some (.cells b.cells):=zac rfl
 have hk:=zlU hb.kind
 simp only[go_sem,↓reduceIte,r75_0,hc]
 cases c1:btw b.n 0 1999
 ·simp only[go_sem,↓reduceIte,r75_1,r75_2,r75_3,bl0 g,bl1 g,bl2 g,bl3 g,hk,c1]
  refine⟨by simp[Bul.formed,c1],e1⟩
 cases c2:btw b.at' 0 100000
 ·simp only[go_sem,↓reduceIte,r75_1,r75_2,r75_3,bl0 g,bl1 g,bl2 g,bl3 g,hk,c1,c2]
  refine⟨by simp[Bul.formed,c2],e1⟩
 cases c3:btw b.by' 0 7
 ·simp only[go_sem,↓reduceIte,r75_1,r75_2,r75_3,bl0 g,bl1 g,bl2 g,bl3 g,hk,c1,c2,c3]
  refine⟨by simp[Bul.formed,c3],e1⟩
 cases c4:btw b.kind 1 7
 ·simp only[go_sem,↓reduceIte,r75_1,r75_2,r75_3,bl0 g,bl1 g,bl2 g,bl3 g,hk,c1,c2,c3,c4]
  refine⟨by simp[Bul.formed,c4],e1⟩
 cases c5:b.hid
 ·simp only[go_sem,↓reduceIte,r75_1,r75_2,r75_4,bl0 g,bl1 g,bl2 g,bl3 g,bl4 g,hk,c1,c2,c3,c4,c5]
  refine zbs (fun t=>t.length=56∧nth t 1=.p h.next 0) (by simp only[go_sem,↓reduceIte]) ?_
  rintro t ⟨tl,t1⟩
  cases c7:btw b.salt 0 9007199254740992
  ·simp only[go_sem,↓reduceIte,r75_6,r75_7,tl,t1,bl5 g,bl6 g,c7,zaG,List.cons_append,List.nil_append]
   exact⟨rfl,by simp only[Bul.formed,c1,c2,c3,c4,c5,c7,Bool.and_false];rfl,e1⟩
  cases c6:decide ((b.body.length:Int)≤7000)
  ·simp only[go_sem,↓reduceIte,r75_6,r75_7,tl,t1,bl5 g,bl6 g,c6,c7,zaG,List.cons_append,List.nil_append]
   exact⟨rfl,by simp only[Bul.formed,c1,c2,c3,c4,c5,c6];rfl,e1⟩
  simp only[go_sem,↓reduceIte,r75_6,r75_7,tl,t1,bl5 g,bl6 g,bl7 g hb,c6,c7,zaG,List.cons_append,List.nil_append]
  have c6':=of_decide_eq_true c6
  refine (fn_rseal (ht.ext e1).bare hb.salt hb.body (by omega)).mono ?_
  rintro u h' ⟨rfl,e⟩
  have hq:eqV (.agg (List.replicate 32 (.i .u8))) (.agg (b.dig.map u8)) (.agg ((zgF b.salt b.body).map u8))=some (decide (b.dig=zgF b.salt b.body)):=zqN hb.dig (zjR _)
  have ho:=e.old
  simp only[go_sem,↓reduceIte,tl,ho,hq,List.cons_append,List.nil_append]
  exact⟨rfl,by simp only[Bul.formed,c1,c2,c3,c4,c5,c6,c7];rfl,e1.trans e.back⟩
 cases c6:decide (b.body=[])
 ·have s6:binV .eql (.s b.body) (.s [])=some (.b false):=by rw[zcj,c6]
  simp only[go_sem,↓reduceIte,r75_1,r75_2,r75_4,r75_5,bl0 g,bl1 g,bl2 g,bl3 g,bl4 g,bl5 g,bl6 g,hk,c1,c2,c3,c4,c5,s6]
  exact⟨by simp only[Bul.formed,c1,c2,c3,c4,c5,c6];rfl,e1⟩
 have s6:binV .eql (.s b.body) (.s [])=some (.b true):=by rw[zcj,c6]
 cases c7:decide (b.salt=0)
 ·simp only[go_sem,↓reduceIte,r75_1,r75_2,r75_4,r75_5,bl0 g,bl1 g,bl2 g,bl3 g,bl4 g,bl5 g,bl6 g,hk,c1,c2,c3,c4,c5,s6,c7]
  exact⟨by simp only[Bul.formed,c1,c2,c3,c4,c5,c6,c7];rfl,e1⟩
 ·simp only[go_sem,↓reduceIte,r75_1,r75_2,r75_4,r75_5,bl0 g,bl1 g,bl2 g,bl3 g,bl4 g,bl5 g,bl6 g,hk,c1,c2,c3,c4,c5,s6,c7]
  exact⟨by simp only[Bul.formed,c1,c2,c3,c4,c5,c6,c7];rfl,e1⟩
end Go.Air
set_option maxRecDepth 100000
namespace Go.Air
open Go.Air.Try
def zcq (b:Bul):Bul:={ b with hid:=true,body:=[],salt:=0 }
def zeO (b:Bul):Bul:=if b.formed then zcq b else zeroB
theorem zcD {b:Bul} (h:b.Ok):(zcq b).Ok:=⟨h.n,h.at',h.by',h.kind,zero_ok.salt,by simp[zcq],by simp[zcq],h.dig,h.prev,h.digB,h.prevB⟩
theorem hideV_ok {b:Bul} (h:b.Ok):(zeO b).Ok:=by unfold zeO;split;exact zcD h;exact zero_ok
def zlq (b:Bul):V:=.tup [.agg (zeO b).cells,.i .i64 (if b.formed then 0 else 1)]
theorem t54:tb1 37=some a37:=by kernel_rfl
theorem t55:tb1 39=some a39:=by kernel_rfl
theorem fn_Hide {h:H} (ht:Tb4 h) {b:Bul} (hb:b.Ok):WC tb1 (.fn 37 [] []) [.agg b.cells] h fun u h'=>u=zlq b∧Ext h h':=by
 refine (zay t54).2 ?_
 have hc:(V.agg b.cells).cells=b.cells:=rfl
 have e1:Ext h ((h.new (.cells b.cells)).new (.cells zc)):=((Ext.refl h).new _).new _
 have g:((h.new (.cells b.cells)).new (.cells zc)).get h.next=some (.cells b.cells):=by rw[zaf (by simp),zac rfl]
 have g2:((h.new (.cells b.cells)).new (.cells zc)).get (h.next+1)=some (.cells zeroB.cells):=zac (by simp)
 have n1:((h.new (.cells b.cells)).new (.cells zc)).next=h.next+2:=by simp
 have hz:[V.i .i64 0,.i .i64 0,.i .i64 0]++[.i .u8 0]++[.b false]++[.s []]++[.i .i64 0]++List.replicate 64 (.i .u8 0)=zc:=rfl
 simp only[hz,go_sem,↓reduceIte,r37_0,r37_1,hc,bl71 g hb]
 rw[show (h.new (.cells b.cells)).next=h.next+1 from rfl]
 generalize (h.new (.cells b.cells)).new (.cells zc)=h1 at e1 g g2 n1
 refine (zly (ht.ext e1) hb).mono ?_
 rintro u h2 ⟨rfl,e2⟩
 have g':h2.get h.next=some (.cells b.cells):=e2.get (by omega) g
 have g2':h2.get (h.next+1)=some (.cells zeroB.cells):=e2.get (by omega) g2
 have e12:=e1.trans e2
 cases hf:b.formed
 ·have hs:=zal (k:=71) (d:=zc) g2' (zak zero_ok) (zak zero_ok) (zbJ zeroB)
  simp only[hz,go_sem,↓reduceIte,r37_2,zbZ,hs]
  rw[zbn (n:=2) (k:=71) (b:=h.next+1) (cs:=zc) (by simp only[go_sem,↓reduceIte]) zab rfl]
  refine⟨?_,e12.put (by omega) _⟩
  simp only[go_sem,↓reduceIte,zlq,zeO,hf,zc_eq]
 ·have ok4:({ b with hid:=true }:Bul).Ok:=⟨hb.n,hb.at',hb.by',hb.kind,hb.salt,hb.body,hb.len,hb.dig,hb.prev,hb.digB,hb.prevB⟩
  have ok5:({ b with hid:=true,body:=[] }:Bul).Ok:=⟨hb.n,hb.at',hb.by',hb.kind,hb.salt,by simp,by simp,hb.dig,hb.prev,hb.digB,hb.prevB⟩
  have s4:=bst4 g' hb (x:=true)
  have g4:(h2.put h.next (.cells ({ b with hid:=true }:Bul).cells)).get h.next=some (.cells ({ b with hid:=true }:Bul).cells):=zab
  have e4:=e12.put (Nat.le_refl h.next) (.cells ({ b with hid:=true }:Bul).cells)
  have x4:(h2.put h.next (.cells ({ b with hid:=true }:Bul).cells)).get (h.next+1)=some (.cells zeroB.cells):=(zaa (by omega)).trans g2'
  generalize h2.put h.next (.cells ({ b with hid:=true }:Bul).cells)=w4 at s4 g4 e4 x4
  have s5:=bst5 g4 ok4 (x:=[])
  have g5:(w4.put h.next (.cells ({ b with hid:=true,body:=[] }:Bul).cells)).get h.next=some (.cells ({ b with hid:=true,body:=[] }:Bul).cells):=zab
  have e5:=e4.put (Nat.le_refl h.next) (.cells ({ b with hid:=true,body:=[] }:Bul).cells)
  have x5:(w4.put h.next (.cells ({ b with hid:=true,body:=[] }:Bul).cells)).get (h.next+1)=some (.cells zeroB.cells):=(zaa (by omega)).trans x4
  generalize w4.put h.next (.cells ({ b with hid:=true,body:=[] }:Bul).cells)=w5 at s5 g5 e5 x5
  have s6:=bst6 g5 ok5 (x:=0)
  have g6:(w5.put h.next (.cells (zcq b).cells)).get h.next=some (.cells (zcq b).cells):=zab
  have e6:=e5.put (Nat.le_refl h.next) (.cells (zcq b).cells)
  have x6:(w5.put h.next (.cells (zcq b).cells)).get (h.next+1)=some (.cells zeroB.cells):=(zaa (by omega)).trans x5
  have s6:stV w5 1 (.p h.next 6) (.i .i64 0)=some (w5.put h.next (.cells (zcq b).cells)):=s6
  generalize w5.put h.next (.cells (zcq b).cells)=w6 at s6 g6 e6 x6
  have s7:=zal (k:=71) (d:=(zcq b).cells) x6 (zak zero_ok) (zak (zcD hb)) (zbJ _)
  simp only[go_sem,↓reduceIte,r37_3,r37_4,s4,s5,s6,bl71 g6 (zcD hb),s7]
  rw[zbn (n:=2) (k:=71) (b:=h.next+1) (cs:=(zcq b).cells) (by simp only[go_sem,↓reduceIte]) zab (zak (zcD hb))]
  refine⟨?_,e6.put (by omega) _⟩
  simp only[go_sem,↓reduceIte,zlq,zeO,hf]
theorem fn_rHide {h:H} (ht:Tb4 h) {b:Bul} (hb:b.Ok):WC tb1 (.fn 39 [] []) [.agg b.cells] h fun u h'=>u=zlq b∧Ext h h':=by
 refine (zay t55).2 ?_
 have hc:(V.agg b.cells).cells=b.cells:=rfl
 have e1:Ext h ((h.new (.cells b.cells)).new (.cells zc)):=((Ext.refl h).new _).new _
 have g:((h.new (.cells b.cells)).new (.cells zc)).get h.next=some (.cells b.cells):=by rw[zaf (by simp),zac rfl]
 have g2:((h.new (.cells b.cells)).new (.cells zc)).get (h.next+1)=some (.cells zeroB.cells):=zac (by simp)
 have n1:((h.new (.cells b.cells)).new (.cells zc)).next=h.next+2:=by simp
 have hz:[V.i .i64 0,.i .i64 0,.i .i64 0]++[.i .u8 0]++[.b false]++[.s []]++[.i .i64 0]++List.replicate 64 (.i .u8 0)=zc:=rfl
 simp only[hz,go_sem,↓reduceIte,r39_0,r39_1,hc,bl71 g hb]
 rw[show (h.new (.cells b.cells)).next=h.next+1 from rfl]
 generalize (h.new (.cells b.cells)).new (.cells zc)=h1 at e1 g g2 n1
 refine (zkl (ht.ext e1) hb).mono ?_
 rintro u h2 ⟨rfl,e2⟩
 have g':h2.get h.next=some (.cells b.cells):=e2.get (by omega) g
 have g2':h2.get (h.next+1)=some (.cells zeroB.cells):=e2.get (by omega) g2
 have e12:=e1.trans e2
 cases hf:b.formed
 ·have hs:=zal (k:=71) (d:=zc) g2' (zak zero_ok) (zak zero_ok) (zbJ zeroB)
  simp only[hz,go_sem,↓reduceIte,r39_2,r39_3,zbZ,hs]
  rw[zbn (n:=2) (k:=71) (b:=h.next+1) (cs:=zc) (by simp only[go_sem,↓reduceIte]) zab rfl]
  refine⟨?_,e12.put (by omega) _⟩
  simp only[go_sem,↓reduceIte,zlq,zeO,hf,zc_eq]
 ·have ok4:({ b with hid:=true }:Bul).Ok:=⟨hb.n,hb.at',hb.by',hb.kind,hb.salt,hb.body,hb.len,hb.dig,hb.prev,hb.digB,hb.prevB⟩
  have ok5:({ b with hid:=true,body:=[] }:Bul).Ok:=⟨hb.n,hb.at',hb.by',hb.kind,hb.salt,by simp,by simp,hb.dig,hb.prev,hb.digB,hb.prevB⟩
  have s4:=bst4 g' hb (x:=true)
  have g4:(h2.put h.next (.cells ({ b with hid:=true }:Bul).cells)).get h.next=some (.cells ({ b with hid:=true }:Bul).cells):=zab
  have e4:=e12.put (Nat.le_refl h.next) (.cells ({ b with hid:=true }:Bul).cells)
  have x4:(h2.put h.next (.cells ({ b with hid:=true }:Bul).cells)).get (h.next+1)=some (.cells zeroB.cells):=(zaa (by omega)).trans g2'
  generalize h2.put h.next (.cells ({ b with hid:=true }:Bul).cells)=w4 at s4 g4 e4 x4
  have s5:=bst5 g4 ok4 (x:=[])
  have g5:(w4.put h.next (.cells ({ b with hid:=true,body:=[] }:Bul).cells)).get h.next=some (.cells ({ b with hid:=true,body:=[] }:Bul).cells):=zab
  have e5:=e4.put (Nat.le_refl h.next) (.cells ({ b with hid:=true,body:=[] }:Bul).cells)
  have x5:(w4.put h.next (.cells ({ b with hid:=true,body:=[] }:Bul).cells)).get (h.next+1)=some (.cells zeroB.cells):=(zaa (by omega)).trans x4
  generalize w4.put h.next (.cells ({ b with hid:=true,body:=[] }:Bul).cells)=w5 at s5 g5 e5 x5
  have s6:=bst6 g5 ok5 (x:=0)
  have g6:(w5.put h.next (.cells (zcq b).cells)).get h.next=some (.cells (zcq b).cells):=zab
  have e6:=e5.put (Nat.le_refl h.next) (.cells (zcq b).cells)
  have x6:(w5.put h.next (.cells (zcq b).cells)).get (h.next+1)=some (.cells zeroB.cells):=(zaa (by omega)).trans x5
  have s6:stV w5 1 (.p h.next 6) (.i .i64 0)=some (w5.put h.next (.cells (zcq b).cells)):=s6
  generalize w5.put h.next (.cells (zcq b).cells)=w6 at s6 g6 e6 x6
  have s7:=zal (k:=71) (d:=(zcq b).cells) x6 (zak zero_ok) (zak (zcD hb)) (zbJ _)
  simp only[go_sem,↓reduceIte,r39_2,r39_4,r39_5,r39_6,r39_7,s4,s5,s6,bl71 g6 (zcD hb),s7]
  rw[zbn (n:=2) (k:=71) (b:=h.next+1) (cs:=(zcq b).cells) (by simp only[go_sem,↓reduceIte]) zab (zak (zcD hb))]
  refine⟨?_,e6.put (by omega) _⟩
  simp only[go_sem,↓reduceIte,zlq,zeO,hf]
end Go.Air
set_option maxRecDepth 100000
namespace Go.Air
open Go.Air.Try
structure Buls (h:H) (v:V) (bs:List Bul):Prop where
 sl:Sl 71 h v bs.length (bs.flatMap Bul.cells)
 ok:∀b∈bs,b.Ok
theorem Buls.ext {h h':H} {v:V} {bs:List Bul} (q:Buls h v bs) (e:Ext h h'):Buls h' v bs:=⟨q.sl.ext e,q.ok⟩
theorem Buls.bare {h:H} {v:V} {bs:List Bul} (q:Buls h v bs):Buls h.bare v bs:=⟨q.sl.bare,q.ok⟩
theorem zgU:∀{bs:List Bul} {i:Nat} {b:Bul},(∀b∈bs,b.Ok)→bs[i]? = some b→∃r,(bs.flatMap Bul.cells).drop (i*71)=b.cells++r
 |[],i,b,_,h=>by simp at h
 |x::bs,0,b,ho,h=>by
  simp only[List.getElem?_cons_zero,Option.some.injEq]at h
  subst h
  exact⟨bs.flatMap Bul.cells,by simp⟩
 |x::bs,i+1,b,ho,h=>by
  obtain⟨r,hr⟩:=zgU (fun b hb=>ho b (List.mem_cons_of_mem _ hb)) (by simpa using h)
  refine⟨r,?_⟩
  rw[List.flatMap_cons,show (i+1)*71=71+i*71 by omega,← List.drop_drop,List.drop_left' (zak (ho x (by simp)))]
  exact hr
section
variable {h:H} {v:V} {bs:List Bul} {i:Nat} {b:Bul} (q:Buls h v bs) (hb:bs[i]? = some b)
include q hb
theorem Buls.lt:i<bs.length:=(List.getElem?_eq_some_iff.1 hb).1
theorem Buls.okAt:b.Ok:=q.ok b (List.mem_of_getElem? hb)
theorem Buls.ix:ixV 71 v (.i .i64 (i:Int))=some (.p (blkV v) (offV v+i*71)):=q.sl.ix (Buls.lt q hb)
theorem Buls.ldn:ldnV h 71 (.p (blkV v) (offV v+i*71))=some (.agg b.cells):=by
 rw[q.sl.ldn (Buls.lt q hb)]
 obtain⟨r,hr⟩:=zgU q.ok hb
 rw[hr,List.take_left' (zak (Buls.okAt q hb))]
theorem Buls.cell {k:Nat} (hk:k<71):(bs.flatMap Bul.cells)[i*71+k]? = b.cells[k]? := by
 obtain⟨r,hr⟩:=zgU q.ok hb
 rw[← List.getElem?_drop,hr,List.getElem?_append_left (by rw[zak (Buls.okAt q hb)];exact hk)]
theorem Buls.ld1:ldV h (.p (blkV v) (offV v+i*71+1))=some (.i .i64 b.at'):=by
 rw[q.sl.ld (Buls.lt q hb) (by omega),Buls.cell q hb (by omega)];rfl
theorem Buls.ld5:ldV h (.p (blkV v) (offV v+i*71+5))=some (.s b.body):=by
 rw[q.sl.ld (Buls.lt q hb) (by omega),Buls.cell q hb (by omega)];rfl
end
theorem ziA:∀{bs:List Bul} (n:Nat),(∀b∈bs,b.Ok)→(bs.flatMap Bul.cells).take (n*71)=(bs.take n).flatMap Bul.cells
 |[],n,_=>by simp
 |b::bs,0,_=>by simp
 |b::bs,n+1,ho=>by
  rw[List.flatMap_cons,List.take_succ_cons,List.flatMap_cons,show (n+1)*71=b.cells.length+n*71 by rw[zak (ho b (by simp))];omega,List.take_length_add_append,ziA n fun c hc=>ho c (List.mem_cons_of_mem _ hc)]
end Go.Air
set_option maxRecDepth 100000
namespace Go.Air
open Go.Air.Try
def few (bs:List Bul) (m:Nat):Bool:=decide (bs.length≤m)&&bs.all fun b=>decide (b.body.length≤1200)
theorem t24:tb1 5=some a5:=by kernel_rfl
theorem fn_few {h:H} {v:V} {bs:List Bul} (q:Buls h v bs) {m:Nat} (hm:m≤1000):WC tb1 (.fn 5 [] []) [v,.i .i64 (m:Int)] h fun u h'=>u=.b (few bs m)∧Ext h h':=by
 refine (zay t24).2 ?_
 have hlv:=q.sl.len
 by_cases hl:(m:Int)<(bs.length:Int)
 ·simp only[go_sem,↓reduceIte,r5_0,r5_1,r5_2,hlv,hl]
  refine⟨?_,.refl h⟩
  unfold few
  rw[decide_eq_false (by omega)]
  rfl
 simp only[go_sem,↓reduceIte,r5_0,r5_1,r5_3,hlv,hl]
 refine zax (fun k t h'=>∃i,k=bs.length-i∧i≤bs.length∧t.length=23∧nth t 0=v∧nth t 5=.i .i64 (i:Int)∧h'=h∧∀j b,j<i→bs[j]? = some b→b.body.length≤1200) ?_ bs.length ?_
 ·rintro k t h' ⟨i,rfl,hi,tl,t0,t5,rfl,hlo⟩
  unfold b5_0
  by_cases hin:i<bs.length
  ·have hI:(i:Int)<(bs.length:Int):=by omega
   have hb:bs[i]? = some bs[i]:=List.getElem?_eq_getElem hin
   generalize bs[i]=b at hb
   by_cases hx:(1200:Int)<(b.body.length:Int)
   ·simp only[go_sem,↓reduceIte,r5_4,r5_6,r5_7,tl,t0,t5,hlv,hI,Buls.ix q hb,Buls.ld5 q hb,hx]
    refine⟨?_,.refl _⟩
    unfold few
    have:(bs.all fun b=>decide (b.body.length≤1200))=false:=by
     rw[Bool.eq_false_iff]
     intro hall
     have:=List.all_eq_true.1 hall b (List.mem_of_getElem? hb)
     simp at this
     omega
    rw[this,Bool.and_false]
   ·simp only[go_sem,↓reduceIte,r5_4,r5_5,r5_6,tl,t0,t5,hlv,hI,Buls.ix q hb,Buls.ld5 q hb,hx,zaq (show i<1000000000 by omega)]
    refine⟨bs.length-(i+1),by omega,i+1,rfl,by omega,rfl,fun j b' hj hb' => ?_⟩
    by_cases hji:j<i
    ·exact hlo j b' hji hb'
    ·obtain rfl:j=i:=by omega
     rw[hb]at hb'
     cases hb'
     omega
  ·have hI:¬ (i:Int)<(bs.length:Int):=by omega
   obtain rfl:i=bs.length:=by omega
   simp only[go_sem,↓reduceIte,r5_4,r5_8,tl,t0,t5,hlv,hI]
   refine⟨?_,.refl _⟩
   unfold few
   rw[decide_eq_true (by omega)]
   have:(bs.all fun b=>decide (b.body.length≤1200))=true:=by
    rw[List.all_eq_true]
    intro b hb
    obtain⟨j,hj⟩:=List.getElem?_of_mem hb
    simpa using hlo j b (List.getElem?_eq_some_iff.1 hj).1 hj
   rw[this];rfl
 ·exact⟨0,by omega,by omega,by simp only[go_sem,↓reduceIte],by simp only[go_sem,↓reduceIte],by simp only[go_sem,↓reduceIte],rfl,fun j b hj=>by omega⟩
end Go.Air
set_option maxRecDepth 100000
namespace Go.Air
open Go.Air.Try
theorem zoY {tbl:Tb} {l:Nat} {t:List V} {ps:List Nat} {asg body:C} {args:List V} {h:H} {S Sp:V→H→Prop} (hg:h.get l=some (.loop ⟨.ready,none,t,ps,asg,body⟩)) (ha:args.length=ps.length)
 (hb:W tbl asg (zdH t ps args) h fun o t1 h1=>o=.norm∧h1=h∧W tbl body t1 (h.put l (.loop ⟨.busy,none,t,ps,asg,body⟩)) fun o _ h2=>o=.norm∧h2.get l=some (.loop ⟨.busy,none,t,ps,asg,body⟩)∧S (.b true) (h2.put l (.loop ⟨.ready,none,t,ps,asg,body⟩))) :
 WX tbl (.yld l) args h S Sp:=by
 refine (WC_yld hg ha).2 (hb.mono ?_)
 rintro o t1 h1 ⟨rfl,rfl,hw⟩
 simp only[hg,zdc]
 refine⟨trivial,hw.mono ?_⟩
 rintro o t2 h2 ⟨rfl,g2,hs⟩
 simp only[g2]
 exact⟨trivial,hs⟩
theorem W_rangeN {tbl:Tb} {f:X} {ps:List Nat} {asg body:C} {g:Nat} {a c t:List V} {h:H} {Q:Out→List V→H→Prop} (hf:f.ev t=.fn g a c) (hx:tbl.ext g=false)
 (hw:WC tbl (.fn g a c) [.yld h.next] (h.new (.loop ⟨.ready,none,t,ps,asg,body⟩)) fun _ h'=>h'.get h.next=some (.loop ⟨.ready,none,t,ps,asg,body⟩)∧Q .norm t (h'.put h.next (.loop ⟨.over,none,t,ps,asg,body⟩))) :
 W tbl (.rangeF f ps asg body) t h Q:=by
 refine (W_range hf hx).2 (hw.mono ?_)
 rintro _ h' ⟨g',q⟩
 simp only[g',zdc]
 exact⟨by simp,rfl,q⟩
def zbx (kind:Nat) (b:Bul):Bool:=decide (b.kind=kind) && !b.hid
section
variable {h:H} {v:V} {bs:List Bul}
theorem t2050:tb1 50=some a50:=by kernel_rfl
theorem t2022:tb1 22=some a22:=by kernel_rfl
theorem zoM {lb kb l kind:Nat} (J:Nat→H→Prop)
 (hJ:∀i h',J i h'→h'.get lb=some (.cells [v])∧h'.get kb=some (.cells [.i .u8 (kind:Int)])∧Buls h' v bs∧kb<h'.next)
 (hE:∀i h' h'',J i h'→Ext h' h''→J i h'')
 (hy:∀i h' b,J i h'→bs[i]? = some b→zbx kind b=true→WC tb1 (.yld l) [.i .i64 (i:Int),.s b.body] h' fun u h''=>u=.b true∧J (i+1) h'')
 (hn:∀i h' b,J i h'→bs[i]? = some b→zbx kind b=false→J (i+1) h')
 (h0:J 0 h) (hl:bs.length≤1000):WC tb1 (.fn 50 [] [.p lb 0,.p kb 0]) [.yld l] h fun _ h'=>J bs.length h':=by
 refine (zhJ t2050).2 ?_
 obtain⟨g0,_,B0,_⟩:=hJ 0 h h0
 have lv:ldV h (.p lb 0)=some v:=zad g0 rfl
 have hle:=B0.sl.len
 simp only[go_sem,↓reduceIte,r50_0,lv,hle,List.nil_append,List.cons_append,List.append_nil]
 refine zax (fun k t hh=>∃i,k=bs.length-i∧i≤bs.length∧t.length=31∧nth t 0=.yld l∧nth t 2=.p kb 0∧nth t 6=v∧nth t 7=.i .i64 (bs.length:Int)∧nth t 8=.i .i64 (i:Int)∧J i hh) ?_ bs.length ?_
 ·rintro k t hh ⟨i,rfl,hi,tl,t0,t2,t6,t7,t8,j⟩
  unfold b50_0
  by_cases hin:i<bs.length
  ·have hI:(i:Int)<(bs.length:Int):=by omega
   have w1:IntKind.i64.wrap ((i:Int)+1)=((i+1:Nat):Int):=zaq (by omega)
   obtain⟨b,hb⟩:∃b,bs[i]? = some b:=⟨_,List.getElem?_eq_getElem hin⟩
   obtain⟨_,gk,B,hk⟩:=hJ i hh j
   have ok:=B.okAt hb
   have hix:=B.ix hb
   have hld:=B.ldn hb
   have hz:[V.i .i64 0,.i .i64 0,.i .i64 0]++[.i .u8 0]++[.b false]++[.s []]++[.i .i64 0]++List.replicate 64 (.i .u8 0)=zc:=rfl
   have sj:=zal (h:=hh.new (.cells zc)) (b:=hh.next) (k:=71) (d:=b.cells) (zac rfl) (zak zero_ok) (zak ok) (zbJ b)
   have ex2:Ext hh ((hh.new (.cells zc)).put hh.next (.cells b.cells)):=((Ext.refl hh).new _).put (Nat.le_refl _) _
   have gj:((hh.new (.cells zc)).put hh.next (.cells b.cells)).get hh.next=some (.cells b.cells):=zab
   simp only[hz,go_sem,↓reduceIte,r50_1,r50_2,tl,t6,t7,t8,hI,hix,hld,sj]
   generalize (hh.new (.cells zc)).put hh.next (.cells b.cells)=h2 at ex2 gj
   have j2:=hE i hh h2 j ex2
   have l3:ldV h2 (.p hh.next 3)=some (.i .u8 (b.kind:Int)):=zad gj rfl
   have l4:ldV h2 (.p hh.next 4)=some (.b b.hid):=zad gj rfl
   have l5:ldV h2 (.p hh.next 5)=some (.s b.body):=zad gj rfl
   have lk:ldV h2 (.p kb 0)=some (.i .u8 (kind:Int)):=zad (ex2.get hk gk) rfl
   have ke:binV .eql (.i .u8 (b.kind:Int)) (.i .u8 (kind:Int))=some (.b (decide (b.kind=kind))):=zaj
   by_cases hkd:b.kind=kind
   ·have dk:decide (b.kind=kind)=true:=decide_eq_true hkd
    cases hh2:b.hid
    ·have hs:zbx kind b=true:=by unfold zbx;rw[dk,hh2];rfl
     rw[hh2]at l4
     simp only[go_sem,↓reduceIte,r50_3,tl,t0,t2,l3,l4,l5,lk,ke,dk]
     refine (hy i h2 b j2 hb hs).mono ?_
     rintro u h3 ⟨rfl,j3⟩
     simp only[go_sem,↓reduceIte,r50_4,tl,t8,w1]
     refine⟨bs.length-(i+1),by omega,i+1,rfl,by omega,?_⟩
     simp only[go_sem,↓reduceIte,tl,t0,t2,t6,t7,j3]
    ·have hs:zbx kind b=false:=by unfold zbx;rw[dk,hh2];rfl
     rw[hh2]at l4
     simp only[go_sem,↓reduceIte,r50_3,tl,t0,t2,l3,l4,l5,lk,ke,dk,r50_4,t8,w1]
     refine⟨bs.length-(i+1),by omega,i+1,rfl,by omega,?_⟩
     simp only[go_sem,↓reduceIte,tl,t0,t2,t6,t7,hn i h2 b j2 hb hs]
   ·have dk:decide (b.kind=kind)=false:=decide_eq_false hkd
    have hs:zbx kind b=false:=by unfold zbx;rw[dk];rfl
    simp only[go_sem,↓reduceIte,r50_3,tl,t0,t2,l3,l4,l5,lk,ke,dk,r50_4,t8,w1]
    refine⟨bs.length-(i+1),by omega,i+1,rfl,by omega,?_⟩
    simp only[go_sem,↓reduceIte,tl,t0,t2,t6,t7,hn i h2 b j2 hb hs]
  ·have hI:¬ (i:Int)<(bs.length:Int):=by omega
   obtain rfl:i=bs.length:=by omega
   simp only[go_sem,↓reduceIte,r50_1,tl,t7,t8,hI]
   exact j
 ·refine⟨0,rfl,Nat.zero_le _,?_,?_,?_,?_,?_,?_,h0⟩<;>first|(simp only[go_sem,↓reduceIte];done)|(simp only[go_sem,↓reduceIte];rfl)
end
end Go.Air
set_option maxRecDepth 100000
namespace Go.Air
open Go.Air.Try
def PredB (hb:H) (f:V) (p:Bul→Bool):Prop:=∀h',Ext hb h'→∀b:Bul,b.Ok→WC tb1 f [.agg b.cells] h' fun u h2=>u=.b (p b)∧Ext h' h2
def hid4 (b:Bul):Bool:=decide (b.kind=4)&&b.hid
def zdz (x:Ent):Bool:=decide (x.kind=3)||decide (x.kind=4)
def stepG (es:List Ent) (b:Bul):List Ent:=if zbx 4 b=true then (match zcf b.body with
 |some x=>if zdz x=true then es else addL es x
 |none=>es) else es
def zaJ (bs:List Bul):List Ent:=bs.foldl stepG []
theorem parse_ok {ws:List (List Nat)} {x:Ent} (h:zbQ ws=some x):x.Ok:=by
 unfold zbQ at h
 split at h
 ·cases h
 ·rename_i day hd
  split at h
  ·cases h
  ·rename_i v _
   exact zgy (zeI hd) (zln v) h
theorem znj {s:List Nat} {x:Ent} (h:zcf s=some x):x.Ok:=by
 unfold zcf at h
 split at h
 ·rename_i y hy
  split at h
  ·cases h;exact parse_ok hy
  ·cases h
 ·cases h
theorem Led.step {es:List Ent} (l:Led es) (b:Bul):Led (stepG es b):=by
 unfold stepG
 split
 ·split
  ·rename_i x hx
   split
   ·exact l
   ·rename_i hw
    unfold addL
    split
    ·rename_i hd
     refine .add l (zcR hx).1 ⟨fun q=>hw ?_,fun q=>hw ?_⟩ hd<;>simp[zdz,q]
    ·exact l
  ·exact l
 ·exact l
theorem zpg (es:List Ent) (b:Bul):(stepG es b).length≤es.length+1:=by
 unfold stepG
 split
 ·split
  ·split
   ·omega
   ·unfold addL
    split
    ·simp
    ·omega
  ·omega
 ·omega
theorem zgd (bs:List Bul) (b:Bul):zaJ (bs++[b])=stepG (zaJ bs) b:=by unfold zaJ;rw[List.foldl_append];rfl
theorem zdM (bs:List Bul):Led (zaJ bs):=by
 unfold zaJ
 have:∀(bs:List Bul) (es:List Ent),Led es→Led (bs.foldl stepG es):=by
  intro bs
  induction bs with
  |nil=>intro es h;exact h
  |cons b bs ih=>intro es h;exact ih _ (h.step b)
 exact this bs [] .nil
theorem zfi (bs:List Bul):(zaJ bs).length≤bs.length:=by
 unfold zaJ
 have:∀(bs:List Bul) (es:List Ent),(bs.foldl stepG es).length≤es.length+bs.length:=by
  intro bs
  induction bs with
  |nil=>intro es;simp
  |cons b bs ih=>
   intro es
   have h1:=ih (stepG es b)
   have h2:=zpg es b
   simp only[List.foldl_cons,List.length_cons]
   omega
 have:=this bs []
 simpa using this
section
variable {h h' hb:H} {v f:V} {bs:List Bul} {p:Bul→Bool}
theorem t2064:tb1 64=some a64:=by kernel_rfl
theorem t2027:tb1 27=some a27:=by kernel_rfl
theorem t2028:tb1 28=some a28:=by kernel_rfl
theorem t2024:tb1 24=some a24:=by kernel_rfl
theorem zqv (P:PredB hb f p) (e:Ext hb h) (B:Buls h v bs) (hl:bs.length≤1000):WC tb1 (.fn 64 [] []) [v,f] h fun u h'=>∃k:Int,u=.i .i64 k∧decide (0≤k)=bs.any p∧Ext h h':=by
 refine (zay t2064).2 ?_
 have hle:=B.sl.len
 simp only[go_sem,↓reduceIte,r64_0,r64_1,hle]
 refine zax (fun k t hh=>∃i,k=bs.length-i∧i≤bs.length∧t.length=19∧nth t 0=v∧nth t 1=f∧nth t 7=.i .i64 (bs.length:Int)∧nth t 8=.i .i64 (i:Int)∧Ext h hh∧∀x∈bs.take i,p x=false) ?_ bs.length ?_
 ·rintro k t hh ⟨i,rfl,hi,tl,t0,t1,t7,t8,ex,hp⟩
  unfold b64_0
  by_cases hin:i<bs.length
  ·have hI:(i:Int)<(bs.length:Int):=by omega
   have w1:IntKind.i64.wrap ((i:Int)+1)=((i+1:Nat):Int):=zaq (by omega)
   obtain⟨b,hb⟩:∃b,bs[i]? = some b:=⟨_,List.getElem?_eq_getElem hin⟩
   have B':=B.ext ex
   have hix:=B'.ix hb
   have hld:=B'.ldn hb
   simp only[go_sem,↓reduceIte,r64_2,r64_3,r64_4,tl,t0,t1,t7,t8,hI,hix,hld]
   refine (P hh (e.trans ex) b (B.okAt hb)).mono ?_
   rintro u h2 ⟨rfl,e2⟩
   cases hpb:p b
   ·simp only[go_sem,↓reduceIte,Bool.false_eq_true,r64_6,tl,t8,w1]
    refine⟨bs.length-(i+1),by omega,i+1,rfl,by omega,?_,?_,?_,rfl,ex.trans e2,?_⟩
    ·simp only[go_sem,↓reduceIte,tl,t0]
    ·simp only[go_sem,↓reduceIte,tl,t1]
    ·simp only[go_sem,↓reduceIte,tl,t7]
    ·intro x hx
     rw[zaz hb]at hx
     rcases List.mem_append.1 hx with hx|hx
     ·exact hp x hx
     ·rw[List.mem_singleton.1 hx];exact hpb
   ·simp only[go_sem,↓reduceIte,r64_5,tl,t8]
    have ha:bs.any p=true:=List.any_eq_true.2 ⟨b,List.mem_of_getElem? hb,hpb⟩
    exact⟨(i:Int),rfl,by rw[ha];exact decide_eq_true (by omega),ex.trans e2⟩
  ·have hI:¬ (i:Int)<(bs.length:Int):=by omega
   obtain rfl:i=bs.length:=by omega
   rw[List.take_length]at hp
   simp only[go_sem,↓reduceIte,r64_2,r64_7,tl,t7,t8,hI]
   have ha:bs.any p=false:=by
    rw[Bool.eq_false_iff]
    intro q
    obtain⟨x,hx,hpx⟩:=List.any_eq_true.1 q
    rw[hp x hx]at hpx;cases hpx
   exact⟨-1,rfl,by rw[ha];rfl,ex⟩
 ·refine⟨0,rfl,Nat.zero_le _,?_,?_,?_,?_,?_,Ext.refl _,by simp⟩<;>first|(simp only[go_sem,↓reduceIte];done)|(simp only[go_sem,↓reduceIte];rfl)
theorem zlA (P:PredB hb f p) (e:Ext hb h) (B:Buls h v bs) (hl:bs.length≤1000):WC tb1 (.fn 27 [] []) [v,f] h fun u h'=>u=.b (bs.any p)∧Ext h h':=by
 refine (zay t2027).2 ?_
 simp only[go_sem,↓reduceIte,r27_0,r27_1]
 refine (zqv P e B hl).mono ?_
 rintro u h2 ⟨k,rfl,hk,e2⟩
 by_cases hi:0≤k
 ·rw[decide_eq_true hi]at hk
  simp only[go_sem,↓reduceIte,hi]
  exact⟨by rw[← hk],e2⟩
 ·rw[decide_eq_false hi]at hk
  simp only[go_sem,↓reduceIte,hi]
  exact⟨by rw[← hk],e2⟩
theorem fn_hid4:PredB hb (.fn 28 [] []) hid4:=by
 intro h' _ b ok
 refine (zay t2028).2 ?_
 have hcc:(V.agg b.cells).cells=b.cells:=rfl
 have ex:Ext h' (h'.new (.cells b.cells)):=(Ext.refl h').new _
 have gx:(h'.new (.cells b.cells)).get h'.next=some (.cells b.cells):=zac rfl
 have l3:ldV (h'.new (.cells b.cells)) (.p h'.next 3)=some (.i .u8 (b.kind:Int)):=zad gx rfl
 have l4:ldV (h'.new (.cells b.cells)) (.p h'.next 4)=some (.b b.hid):=zad gx rfl
 have ke:binV .eql (.i .u8 (b.kind:Int)) (.i .u8 4)=some (.b (decide (b.kind=4))):=zaj (j:=4)
 unfold hid4
 by_cases h1:b.kind=4
 ·have dk:decide (b.kind=4)=true:=decide_eq_true h1
  simp only[go_sem,↓reduceIte,r28_0,r28_1,hcc,l3,l4,ke,dk]
  exact⟨by simp,ex⟩
 ·have dk:decide (b.kind=4)=false:=decide_eq_false h1
  simp only[go_sem,↓reduceIte,r28_0,r28_1,hcc,l3,l4,ke,dk]
  exact⟨by simp,ex⟩
theorem fn_waives {x:Ent}:WC tb1 (.fn 24 [] []) [.agg x.cells] h fun u h'=>u=.b (zdz x)∧Ext h h':=by
 refine (zay t2024).2 ?_
 have hcc:(V.agg x.cells).cells=x.cells:=rfl
 have ex:Ext h (h.new (.cells x.cells)):=(Ext.refl h).new _
 have gx:(h.new (.cells x.cells)).get h.next=some (.cells x.cells):=zac rfl
 have l0:ldV (h.new (.cells x.cells)) (.p h.next 0)=some (.i .u8 (x.kind:Int)):=zad gx rfl
 have k3:binV .eql (.i .u8 (x.kind:Int)) (.i .u8 3)=some (.b (decide (x.kind=3))):=zaj (j:=3)
 have k4:binV .eql (.i .u8 (x.kind:Int)) (.i .u8 4)=some (.b (decide (x.kind=4))):=zaj (j:=4)
 unfold zdz
 by_cases h1:x.kind=3
 ·have d3:decide (x.kind=3)=true:=decide_eq_true h1
  simp only[go_sem,↓reduceIte,r24_0,r24_1,hcc,l0,k3,d3]
  exact⟨by simp,ex⟩
 ·have d3:decide (x.kind=3)=false:=decide_eq_false h1
  simp only[go_sem,↓reduceIte,r24_0,r24_1,hcc,l0,k3,k4,d3]
  exact⟨by simp,ex⟩
end
end Go.Air
set_option maxRecDepth 100000
namespace Go.Air
open Go.Air.Try
theorem zoo {a:V} {gs:List Gf}:[a]≠zam gs:=by
 intro h
 have:=congrArg List.length h
 unfold zam at this
 rw[zbp zaK]at this
 simp only[List.length_cons,List.length_nil]at this
 omega
theorem zop {a:V} {es:List Ent}:[a]≠zaO es:=by
 intro h
 have:=congrArg List.length h
 rw[zjv]at this
 simp only[List.length_cons,List.length_nil]at this
 omega
section
variable {h h' hb:H} {v f:V} {bs:List Bul} {n l:Nat} {es:List Ent}
theorem Sl.cells1 {esz m:Nat} {cs:List V} (s:Sl esz h v m cs):v.cells=[v]:=by
 rcases s with⟨_,_,rfl|⟨_,rfl⟩⟩|⟨_,_,_,_,_,rfl,_⟩<;>rfl
theorem LgAt.put_loop (a:LgAt h n es) {L L':Loop} (hl:n+6≤l) (hg:h.get l=some (.loop L)):LgAt (h.put l (.loop L')) n es:=by
 obtain⟨st,⟨ev,l1,l2⟩,lt⟩:=a
 refine⟨st.keep (Nat.le_refl _) fun b _ _ hc=>zaa ?_,⟨ev,(zaa (by omega)).trans l1,l2.keep (Nat.le_refl _) fun b _ _ hc _=>zaa ?_⟩,lt⟩
 ·rintro rfl
  rcases hc with hc|hc
  ·omega
  ·rw[hg]at hc;cases hc
 ·rintro rfl
  rw[hg]at hc;cases hc
theorem t2008:tb1 8=some a8:=by kernel_rfl
structure JG (h hh:H) (v:V) (L:Loop) (n ob lb kb l:Nat) (es:List Ent):Prop where
 ext:Ext h hh
 lp:hh.get l=some (.loop L)
 o:hh.get ob=some (.cells [.p (n+5) 0])
 b:hh.get lb=some (.cells [v])
 k:hh.get kb=some (.cells [.i .u8 ((4:Nat):Int)])
 lg:LgAt hh n es
 ol:n+6≤ob
 bl:n+6≤lb
 kl:n+6≤kb
 o1:ob<l
 b1:lb<l
 k1:kb<l
 ll:l<hh.next
 hn:h.next≤n
variable {hh h1:H} {L:Loop} {ob lb kb:Nat}
theorem JG.step (j:JG h hh v L n ob lb kb l es) (e:Ext hh h1):JG h h1 v L n ob lb kb l es:=by
 have h1:=j.ll
 have h2:=j.o1
 have h3:=j.b1
 have h4:=j.k1
 exact⟨j.ext.trans e,e.get h1 j.lp,e.get (by omega) j.o,e.get (by omega) j.b,e.get (by omega) j.k,j.lg.step e,j.ol,j.bl,j.kl,j.o1,j.b1,j.k1,Nat.lt_of_lt_of_le h1 e.nx,j.hn⟩
theorem JG.put (j:JG h hh v L n ob lb kb l es) (L':Loop):JG h (hh.put l (.loop L')) v L' n ob lb kb l es:=by
 have h1:=j.ll
 have h2:=j.o1
 have h3:=j.b1
 have h4:=j.k1
 have h5:=j.hn
 have h6:=j.ol
 exact⟨j.ext.put (by omega) _,zab,(zaa (by omega)).trans j.o,(zaa (by omega)).trans j.b,(zaa (by omega)).trans j.k,j.lg.put_loop (by omega) j.lp,j.ol,j.bl,j.kl,j.o1,j.b1,j.k1,h1,j.hn⟩
theorem JG.doE {x:Ent} (j:JG h hh v L n ob lb kb l es) (e:Ext h h1) (a:LgAt h1 n (addL es x)) (f:FrL hh h1 n es):JG h h1 v L n ob lb kb l (addL es x):=by
 have q1:=j.ll
 have q2:=j.o1
 have q3:=j.b1
 have q4:=j.k1
 have q6:=j.ol
 have one:∀{b:Nat} {w:V},n+6≤b→b<hh.next→hh.get b=some (.cells [w])→h1.get b=some (.cells [w]):=fun {b w} hb hlt hg=>by
  refine (f.same b hlt (.inr hb) ?_ ?_).trans hg
  ·rw[hg];intro q;have q:=Option.some.inj q;injection q with q;exact zoo q
  ·rw[hg];intro q;have q:=Option.some.inj q;injection q with q;exact zop q
 refine⟨e,(f.same l q1 (.inr (by omega)) ?_ ?_).trans j.lp,one j.ol (by omega) j.o,one j.bl (by omega) j.b,one j.kl (by omega) j.k,a,j.ol,j.bl,j.kl,j.o1,j.b1,j.k1,Nat.lt_of_lt_of_le q1 f.nx,j.hn⟩
 ·rw[j.lp];intro q;cases q
 ·rw[j.lp];intro q;cases q
theorem zqz (ht:Tb4 h) (B:Buls h v bs) (hl:bs.length≤100) (hbody:∀b∈bs,b.body.length≤1000000) :
 WC tb1 (.fn 8 [] []) [v] h fun u h'=>Ext h h'∧((bs.any hid4=true∧u=.tup [.pn,.b false])∨(bs.any hid4=false∧∃n,u=.tup [.p (n+5) 0,.b true]∧LgAt h' n (zaJ bs))):=by
 refine (zay t2008).2 ?_
 simp only[go_sem,↓reduceIte,r8_0,r8_1]
 refine (zlA (hb:=h) fn_hid4 (Ext.refl h) B (by omega)).mono ?_
 rintro u h1 ⟨rfl,e1⟩
 cases ha:bs.any hid4
 rotate_left
 ·simp only[go_sem,↓reduceIte,r8_2]
  exact⟨e1,.inl trivial⟩
 simp only[go_sem,↓reduceIte,Bool.false_eq_true,r8_3]
 refine fn_NewL.mono ?_
 rintro u h2 ⟨rfl,e2,lg2⟩
 have s4:stV (h2.new (.cells [.pn])) 1 (.p h2.next 0) (.p (h1.next+5) 0)=some ((h2.new (.cells [.pn])).put h2.next (.cells [.p (h1.next+5) 0])):=zbB (i:=0) (zac rfl) (by simp) rfl rfl
 have e3:Ext h2 ((h2.new (.cells [.pn])).put h2.next (.cells [.p (h1.next+5) 0])):=((Ext.refl h2).new _).put (Nat.le_refl _) _
 have g3:((h2.new (.cells [.pn])).put h2.next (.cells [.p (h1.next+5) 0])).get h2.next=some (.cells [.p (h1.next+5) 0]):=zab
 have n3:((h2.new (.cells [.pn])).put h2.next (.cells [.p (h1.next+5) 0])).next=h2.next+1:=rfl
 simp only[go_sem,↓reduceIte,s4,r8_4]
 generalize (h2.new (.cells [.pn])).put h2.next (.cells [.p (h1.next+5) 0])=h3 at e3 g3 n3
 have hvc:=B.sl.cells1
 have hk4:(V.i .u8 4).cells=[.i .u8 4]:=rfl
 rw[zay t2022]
 simp only[go_sem,↓reduceIte,r22_0,r22_1,hvc,hk4]
 have n4:(h3.new (.cells [v])).next=h3.next+1:=rfl
 have e4:Ext h3 ((h3.new (.cells [v])).new (.cells [.i .u8 4])):=((Ext.refl h3).new _).new _
 have gb4:((h3.new (.cells [v])).new (.cells [.i .u8 4])).get h3.next=some (.cells [v]):=by rw[zaf (by omega)];exact zac rfl
 have gk4:((h3.new (.cells [v])).new (.cells [.i .u8 4])).get (h3.next+1)=some (.cells [.i .u8 4]):=zac n4.symm
 have n5:((h3.new (.cells [v])).new (.cells [.i .u8 4])).next=h3.next+2:=rfl
 rw[n4]
 generalize (h3.new (.cells [v])).new (.cells [.i .u8 4])=h4 at e4 gb4 gk4 n5
 have hlt2:=lg2.lt
 refine W_gen (fun t=>t.length=32∧nth t 4=.p h2.next 0∧nth t 13=.fn 50 [] [.p h3.next 0,.p (h3.next+1) 0]) (by simp only[go_sem,↓reduceIte]) ?_
 rintro t ⟨tl,t4,t13⟩
 refine W_rangeN t13 (by kernel_rfl) ?_
 have e34:=e3.trans e4
 have j0:JG h (h4.new (.loop ⟨.ready,none,t,[14,15],.ops r8_5,b8_0⟩)) v ⟨.ready,none,t,[14,15],.ops r8_5,b8_0⟩ h1.next h2.next h3.next (h3.next+1) h4.next []:=by
  have en:Ext h4 (h4.new (.loop ⟨.ready,none,t,[14,15],.ops r8_5,b8_0⟩)):=(Ext.refl h4).new _
  exact⟨(e1.trans e2).trans (e34.trans en),zac rfl,en.get (by omega) (e4.get (by omega) g3),en.get (by omega) gb4,en.get (by omega) gk4,(lg2.step e34).step en,by omega,by omega,by omega,by omega,by omega,by omega,Nat.lt_succ_self _,e1.nx⟩
 generalize h4.new (.loop ⟨.ready,none,t,[14,15],.ops r8_5,b8_0⟩)=hB at j0
 generalize h4.next=l at j0
 generalize h1.next=n at j0 t4
 generalize h2.next=ob at j0 t4
 generalize h3.next=lb at j0
 generalize lb+1=kb at j0
 refine (zoM (v:=v) (bs:=bs) (kind:=4) (fun i hh=>JG h hh v ⟨.ready,none,t,[14,15],.ops r8_5,b8_0⟩ n ob lb kb l (zaJ (bs.take i))) ?_ ?_ ?_ ?_ j0 (by omega)).mono ?_
 ·intro i h' j
  have:=j.ll
  have:=j.k1
  exact⟨j.b,j.k,B.ext j.ext,by omega⟩
 ·intro i h' h'' j e
  exact j.step e
 ·intro i h' b j hb hs
  refine zoY j.lp rfl ?_
  have hlen:(zaJ (bs.take i)).length≤500:=by
   have:=zfi (bs.take i)
   rw[List.length_take]at this
   omega
  have hstep:zaJ (bs.take (i+1))=stepG (zaJ (bs.take i)) b:=by
   rw[zaz hb,zgd]
  have L:=zdM (bs.take i)
  rw[hstep]
  generalize zaJ (bs.take i)=es at j hlen L
  have jb:=j.put ⟨.busy,none,t,[14,15],.ops r8_5,b8_0⟩
  generalize hLb:(⟨.busy,none,t,[14,15],.ops r8_5,b8_0⟩:Loop)=Lb at jb ⊢
  generalize hLr:(⟨.ready,none,t,[14,15],.ops r8_5,b8_0⟩:Loop)=Lr at j ⊢
  clear hLb hLr
  simp only[go_sem,↓reduceIte,r8_5,zdH,tl]
  generalize h'.put l (.loop Lb)=h2 at jb ⊢
  have hz:[V.i .u8 0]++List.replicate 14 (.i .i64 0)++[.i .u8 0]++[.i .i64 0,.i .i64 0]++[.i .u8 0]++[.i .i64 0,.i .i64 0,.i .i64 0,.i .i64 0,.i .i64 0]=zE:=rfl
  unfold b8_0
  simp only[hz,go_sem,↓reduceIte,r8_6,tl]
  refine (znG (ht.ext jb.ext) (hbody b (List.mem_of_getElem? hb))).mono ?_
  rintro u h3 ⟨rfl,e3⟩
  have j3:=jb.step e3
  unfold stepG
  rw[if_pos hs]
  unfold zct
  cases hr:zcf b.body with
  |none=>
   have sj:=zal (h:=h3.new (.cells zE)) (b:=h3.next) (k:=24) (d:=zE) (zac rfl) rfl rfl (zby ent0)
   simp only[hz,go_sem,↓reduceIte,r8_7,tl,zbz,sj]
   have j4:=j3.step (((Ext.refl h3).new (.cells zE)).put (Nat.le_refl _) (.cells zE))
   exact⟨j4.lp,j4.put _⟩
  |some x=>
   have sj:=zal (h:=h3.new (.cells zE)) (b:=h3.next) (k:=24) (d:=x.cells) (zac rfl) rfl rfl (zby x)
   have e4:Ext h3 ((h3.new (.cells zE)).put h3.next (.cells x.cells)):=((Ext.refl h3).new _).put (Nat.le_refl _) _
   have gx:((h3.new (.cells zE)).put h3.next (.cells x.cells)).get h3.next=some (.cells x.cells):=zab
   have hx4:h3.next<((h3.new (.cells zE)).put h3.next (.cells x.cells)).next:=Nat.lt_succ_self _
   simp only[hz,go_sem,↓reduceIte,r8_7,tl,zbz,sj]
   generalize (h3.new (.cells zE)).put h3.next (.cells x.cells)=h4 at e4 gx hx4
   have lx:=zar gx (zaI x)
   simp only[go_sem,↓reduceIte,tl,lx]
   refine fn_waives.mono ?_
   rintro u h5 ⟨rfl,e5⟩
   have j5:=(j3.step e4).step e5
   have gx5:=e5.get hx4 gx
   cases hw:zdz x
   ·have lx5:=zar gx5 (zaI x)
    have l4:ldV h5 (.p ob 0)=some (.p (n+5) 0):=zad j5.o rfl
    have h34:x.kind≠3∧x.kind≠4:=by
     unfold zdz at hw
     simpa using hw
    simp only[go_sem,↓reduceIte,Bool.false_eq_true,r8_8,tl,t4,lx5,l4]
    refine (fn_DoL L hlen (znj hr) h34 j5.ext j5.hn j5.lg).mono ?_
    rintro u h6 ⟨e6,lg6,f6⟩
    have j6:=j5.doE e6 lg6 f6
    simp only[go_sem,↓reduceIte]
    exact⟨j6.lp,j6.put _⟩
   ·simp only[go_sem,↓reduceIte,tl]
    exact⟨j5.lp,j5.put _⟩
 ·intro i h' b j hb hs
  have hstep:zaJ (bs.take (i+1))=zaJ (bs.take i):=by
   rw[zaz hb,zgd]
   unfold stepG
   rw[hs];rfl
  rw[hstep];exact j
 ·rintro _ h5 j
  rw[List.take_length]at j
  have j':=j.put ⟨.over,none,t,[14,15],.ops r8_5,b8_0⟩
  have l4:ldV (h5.put l (.loop ⟨.over,none,t,[14,15],.ops r8_5,b8_0⟩)) (.p ob 0)=some (.p (n+5) 0):=zad j'.o rfl
  refine⟨j.lp,?_⟩
  simp only[go_sem,↓reduceIte,r8_9,tl,t4,l4]
  exact⟨j'.ext,.inr ⟨n,rfl,j'.lg⟩⟩
end
end Go.Air
set_option maxRecDepth 100000
namespace Go.Air
open Go.Air.Try
def zhv (x:Ent) (g:Gf):Bool:=decide (g.id=x.g.id)
def zdg (bs:List Bul) (x:Ent) (st:Int):Bool:=
 if x.kind=5 then decide (x.g.frm=st)||decide (x.g.to=st)
 else if bs.any hid4=true then false else ((stOf (zaJ bs)).gifts.filter fun g => !zeJ st g).any (zhv x)
def zbK (x:Ent):Bool:=decide (x.kind=5)||decide (x.kind=6)||decide (x.kind=7)
def zcA (bs:List Bul) (st:Int) (i:Nat) (b:Bul):Bul:=
 if (zbx 4 b&&b.formed)=true then (match zcf b.body with
  |some x=>if (zbK x && !zdg (bs.take i) x st)=true then zcq b else b
  |none=>b) else b
def zbF (bs:List Bul) (st:Int):Nat→List Bul
 |0=>[]
 |i+1=>zbF bs st i++(match bs[i]? with
  |some b=>[zcA bs st i b]
  |none=>[])
def zkG (bs:List Bul) (st:Int):List Bul:=zbF bs st bs.length
theorem ziZ (bs:List Bul) (st:Int):∀i,i≤bs.length→(zbF bs st i).length=i
 |0,_=>rfl
 |i+1,h=>by
  rw[zbF,List.getElem?_eq_getElem (by omega),List.length_append,ziZ bs st i (by omega)];rfl
theorem viewB_ok {bs:List Bul} {st:Int} {i:Nat} {b:Bul} (ok:b.Ok):(zcA bs st i b).Ok:=by
 unfold zcA
 split
 ·split
  ·split
   ·exact zcD ok
   ·exact ok
  ·exact ok
 ·exact ok
theorem zkF {bs:List Bul} {st:Int} (ok:∀b∈bs,b.Ok):∀i,∀b∈zbF bs st i,b.Ok
 |0,b,hb=>by simp[zbF]at hb
 |i+1,b,hb=>by
  rw[zbF]at hb
  rcases List.mem_append.1 hb with hb|hb
  ·exact zkF ok i b hb
  ·split at hb
   ·rename_i c hc
    rw[List.mem_singleton.1 hb]
    exact viewB_ok (ok c (List.mem_of_getElem? hc))
   ·simp at hb
section
variable {h h' hb:H} {v f:V} {bs:List Bul} {n l:Nat} {es:List Ent}
theorem t2073:tb1 73=some a73:=by kernel_rfl
theorem t2036:tb1 36=some a36:=by kernel_rfl
theorem zqq {x:Ent} {xb:Nat} (g0:hb.get xb=some (.cells x.cells)) (ht:xb<hb.next):PredF hb (.fn 73 [] [.p xb 0]) (zhv x):=by
 intro h' e g
 refine (zhJ t2073).2 ?_
 have hcc:(V.agg g.cells).cells=g.cells:=rfl
 have ex:Ext h' (h'.new (.cells g.cells)):=(Ext.refl h').new _
 have gx:(h'.new (.cells g.cells)).get h'.next=some (.cells g.cells):=zac rfl
 have gt:=(e.trans ex).get ht g0
 have l0:ldV (h'.new (.cells g.cells)) (.p h'.next 0)=some (.i .i64 g.id):=zad gx rfl
 have l11:ldV (h'.new (.cells g.cells)) (.p xb 11)=some (.i .i64 x.g.id):=zad gt rfl
 unfold zhv
 simp only[go_sem,↓reduceIte,r73_0,r73_1,hcc,l0,l11,List.nil_append,List.cons_append,List.append_nil]
 exact ex
theorem zmK {x:Ent} {st:Int} (ht:Tb4 h) (B:Buls h v bs) (hl:bs.length≤100) (hbody:∀b∈bs,b.body.length≤1000000) :
 WC tb1 (.fn 36 [] []) [v,.agg x.cells,.i .i64 st] h fun u h'=>u=.b (zdg bs x st)∧Ext h h':=by
 refine (zay t2036).2 ?_
 have hcc:(V.agg x.cells).cells=x.cells:=rfl
 simp only[go_sem,↓reduceIte,r36_0,hcc]
 have ex:Ext h (h.new (.cells x.cells)):=(Ext.refl h).new _
 have gx:(h.new (.cells x.cells)).get h.next=some (.cells x.cells):=zac rfl
 have n1:h.next<(h.new (.cells x.cells)).next:=Nat.lt_succ_self _
 generalize h.new (.cells x.cells)=h1 at ex gx n1
 have l0:ldV h1 (.p h.next 0)=some (.i .u8 (x.kind:Int)):=zad gx rfl
 have l13:ldV h1 (.p h.next 13)=some (.i .i64 x.g.frm):=zad gx rfl
 have l14:ldV h1 (.p h.next 14)=some (.i .i64 x.g.to):=zad gx rfl
 have k5:binV .eql (.i .u8 (x.kind:Int)) (.i .u8 5)=some (.b (decide (x.kind=5))):=zaj (j:=5)
 unfold zdg
 by_cases c5:x.kind=5
 ·have d5:decide (x.kind=5)=true:=decide_eq_true c5
  rw[if_pos c5]
  by_cases q1:x.g.frm=st
  ·simp only[go_sem,↓reduceIte,r36_1,r36_2,l0,l13,l14,k5,d5,q1]
   exact⟨by simp,ex⟩
  ·simp only[go_sem,↓reduceIte,r36_1,r36_2,l0,l13,l14,k5,d5,q1]
   exact⟨by simp,ex⟩
 have d5:decide (x.kind=5)=false:=decide_eq_false c5
 rw[if_neg c5]
 simp only[go_sem,↓reduceIte,r36_1,r36_3,l0,k5,d5]
 refine (zqz (ht.ext ex) (B.ext ex) hl hbody).mono ?_
 rintro u h2 ⟨e2,⟨ha,rfl⟩|⟨ha,n,rfl,lg⟩⟩
 ·rw[if_pos ha]
  simp only[go_sem,↓reduceIte,r36_4,r36_5,zbz]
  exact ex.trans e2
 ·rw[if_neg (by rw[ha];simp)]
  have hlen:(zaJ bs).length≤500:=by have:=zfi bs;omega
  have L:=zdM bs
  simp only[go_sem,↓reduceIte,r36_4,r36_6,zbz]
  refine (zoJ L hlen lg).mono ?_
  rintro u h3 ⟨e3,S⟩
  have e13:=e2.trans e3
  have gx3:=e13.get n1 gx
  simp only[go_sem,↓reduceIte]
  have hgl:=L.ok.len
  refine (zlz (hb:=h1) (zqq gx n1) e13 S (by have:=List.length_filter_le (fun g => !zeJ st g) (stOf (zaJ bs)).gifts;omega)).mono ?_
  rintro u h4 ⟨rfl,e4⟩
  simp only[go_sem,↓reduceIte]
  exact (ex.trans e13).trans e4
end
end Go.Air
set_option maxRecDepth 100000
namespace Go.Air
open Go.Air.Try
section
variable {h h' hb:H} {v f:V} {bs:List Bul} {n l:Nat} {es:List Ent}
theorem t2014:tb1 14=some a14:=by kernel_rfl
theorem fn_View {st:Int} (ht:Tb4 h) (a:Arg 71 h v bs.length (bs.flatMap Bul.cells)) (ok:∀b∈bs,b.Ok) (hl:bs.length≤100) (hbody:∀b∈bs,b.body.length≤1000000) :
 WC tb1 (.fn 14 [] []) [v,.i .i64 st] h fun u h'=>Ext h h'∧Own h 71 h' u bs.length ((zkG bs st).flatMap Bul.cells):=by
 refine (zay t2014).2 ?_
 have hle:=a.sl.len
 simp only[go_sem,↓reduceIte,r14_0,r14_1,r14_2,hle]
 refine zax (fun k t hh=>∃i,k=bs.length-i∧i≤bs.length∧t.length=74∧nth t 0=v∧nth t 1=.i .i64 st∧nth t 11=v∧nth t 12=.i .i64 (bs.length:Int)∧nth t 13=.i .i64 (i:Int)∧Ext h hh∧Own h 71 hh (nth t 5) i ((zbF bs st i).flatMap Bul.cells)) ?_ bs.length ?_
 ·rintro k t hh ⟨i,rfl,hi,tl,t0,t1,t11,t12,t13,ex,o⟩
  unfold b14_0
  by_cases hin:i<bs.length
  ·have hI:(i:Int)<(bs.length:Int):=by omega
   have w1:IntKind.i64.wrap ((i:Int)+1)=((i+1:Nat):Int):=zaq (by omega)
   obtain⟨b,hb⟩:∃b,bs[i]? = some b:=⟨_,List.getElem?_eq_getElem hin⟩
   have B:Buls hh v bs:=⟨a.sl.ext ex,ok⟩
   have bok:=B.okAt hb
   have hix:=B.ix hb
   have hld:=B.ldn hb
   have hz:[V.i .i64 0,.i .i64 0,.i .i64 0]++[.i .u8 0]++[.b false]++[.s []]++[.i .i64 0]++List.replicate 64 (.i .u8 0)=zc:=rfl
   have sj:=zal (h:=hh.new (.cells zc)) (b:=hh.next) (k:=71) (d:=b.cells) (zac rfl) (zak zero_ok) (zak bok) (zbJ b)
   have ex2:Ext hh ((hh.new (.cells zc)).put hh.next (.cells b.cells)):=((Ext.refl hh).new _).put (Nat.le_refl _) _
   have gj:((hh.new (.cells zc)).put hh.next (.cells b.cells)).get hh.next=some (.cells b.cells):=zab
   have gn:hh.next<((hh.new (.cells zc)).put hh.next (.cells b.cells)).next:=Nat.lt_succ_self _
   have hbn:h.next≤hh.next:=ex.nx
   simp only[hz,go_sem,↓reduceIte,r14_3,r14_4,tl,t11,t12,t13,hI,hix,hld,sj]
   have o2:=o.ext ex2
   have ex3:=ex.trans ex2
   have hob:nth t 5=.sn∨blkV (nth t 5)<hh.next:=by
    obtain⟨_,⟨_,q⟩|⟨b',g,q,_,_,q4,_⟩⟩:=o
    ·exact .inl q
    ·right;rw[q];exact q4
   generalize (hh.new (.cells zc)).put hh.next (.cells b.cells)=h2 at ex2 gj gn o2 ex3
   generalize hh.next=bb at gj gn hbn hob
   have fin:∀{t:List V} {h3:H} {c:Bul},t.length=74→nth t 0=v→nth t 1=.i .i64 st→nth t 7=.p bb 0→nth t 11=v→nth t 12=.i .i64 (bs.length:Int)→nth t 13=.i .i64 (i:Int)→Ext h h3→Own h 71 h3 (nth t 5) i ((zbF bs st i).flatMap Bul.cells) →
    h3.get bb=some (.cells c.cells)→c.Ok→zcA bs st i b=c→∀{Q:Out→List V→H→Prop},
    (∀t' h4,t'.length=74→nth t' 0=v→nth t' 1=.i .i64 st→nth t' 11=v→nth t' 12=.i .i64 (bs.length:Int)→nth t' 13=.i .i64 (i:Int)→Ext h h4→Own h 71 h4 (nth t' 5) (i+1) ((zbF bs st (i+1)).flatMap Bul.cells)→Q .norm t' h4) →
    W tb1 (.ops r14_10) t h3 Q:=by
    intro t h3 c tl t0 t1 t7 t11 t12 t13 e3 o3 g3 cok hv Q K
    have lc:=zar g3 (zak cok)
    have el:Ext h3 (h3.new (.cells c.cells)):=(Ext.refl h3).new _
    obtain⟨v',h4,p1,p2,p3,_,_,_⟩:=(o3.ext el).app (bytes:=120) (e3.trans el) (Own.lit (esz:=71) (Ext.refl h3) c.cells 1 (by rw[zak cok])).1.sl (zbJ c) (by omega) (by omega) (by omega)
    simp only[hz,go_sem,↓reduceIte,r14_10,tl,t7,lc]
    rw[zcT (z:=zc) (c:=c.cells) (by simp only[go_sem,↓reduceIte,tl]) (zak cok) (show zc.length=71 from rfl)]
    simp only[hz,go_sem,↓reduceIte,tl,p1]
    refine K _ _ ?_ ?_ ?_ ?_ ?_ ?_ p2 ?_
    ·simp only[go_sem,↓reduceIte,tl]
    ·simp only[go_sem,↓reduceIte,tl,t0]
    ·simp only[go_sem,↓reduceIte,tl,t1]
    ·simp only[go_sem,↓reduceIte,tl,t11]
    ·simp only[go_sem,↓reduceIte,tl,t12]
    ·simp only[go_sem,↓reduceIte,tl,t13]
    ·have:zbF bs st (i+1)=zbF bs st i++[c]:=by rw[zbF,hb,← hv]
     rw[this,List.flatMap_append,List.flatMap_cons,List.flatMap_nil,List.append_nil]
     simp only[go_sem,↓reduceIte,tl]
     exact p3
   simp only[zbi]at fin
   have K0:∀(t':List V) (h4:H),t'.length=74→nth t' 0=v→nth t' 1=.i .i64 st→nth t' 11=v→nth t' 12=.i .i64 (bs.length:Int)→nth t' 13=.i .i64 (i:Int)→Ext h h4→Own h 71 h4 (nth t' 5) (i+1) ((zbF bs st (i+1)).flatMap Bul.cells) →
    Kblk 1 (Kseq tb1 (.ops r14_11) (zna (fun k t hh=>∃i,k=bs.length-i∧i≤bs.length∧t.length=74∧nth t 0=v∧nth t 1=.i .i64 st∧nth t 11=v∧nth t 12=.i .i64 (bs.length:Int)∧nth t 13=.i .i64 (i:Int)∧Ext h hh∧Own h 71 hh (nth t 5) i ((zbF bs st i).flatMap Bul.cells)) (bs.length-i)
     (Kblk 0 (Kseq tb1 (.seq (.ops r14_12) (.ret)) (Kfn [.tmp 4] (fun u h'=>Ext h h'∧Own h 71 h' u bs.length ((zkG bs st).flatMap Bul.cells)) zeK))))) .norm t' h4:=by
    intro t' h4 tl t0 t1 t11 t12 t13 e4 o4
    simp only[go_sem,↓reduceIte,r14_11,tl,t13,w1]
    refine⟨bs.length-(i+1),by omega,i+1,rfl,by omega,?_,?_,?_,?_,rfl,e4,?_⟩
    ·simp only[go_sem,↓reduceIte,tl,t0]
    ·simp only[go_sem,↓reduceIte,tl,t1]
    ·simp only[go_sem,↓reduceIte,tl,t11]
    ·simp only[go_sem,↓reduceIte,tl,t12]
    ·exact o4
   have l3:ldV h2 (.p bb 3)=some (.i .u8 (b.kind:Int)):=zad gj rfl
   have l4:ldV h2 (.p bb 4)=some (.b b.hid):=zad gj rfl
   have ke:binV .eql (.i .u8 (b.kind:Int)) (.i .u8 4)=some (.b (decide (b.kind=4))):=zaj (j:=4)
   refine zbs (fun t'=>t'.length=74∧nth t' 0=v∧nth t' 1=.i .i64 st∧nth t' 5=nth t 5∧nth t' 6=.i .i64 (i:Int)∧nth t' 7=.p bb 0∧nth t' 11=v∧nth t' 12=.i .i64 (bs.length:Int)∧nth t' 13=.i .i64 (i:Int)) ?_ ?_
   ·refine⟨?_,?_,?_,?_,?_,?_,?_,?_,?_⟩<;>simp only[go_sem,↓reduceIte,tl,t0,t1,t11,t12,t13]
   rintro t' ⟨tl',t0',t1',t5',t6',t7',t11',t12',t13'⟩
   rw[← t5']at o2 hob
   clear tl t0 t1 t11 t12 t13 o t5'
   cases hs:zbx 4 b
   ·have hv:zcA bs st i b=b:=by unfold zcA;rw[hs];rfl
    by_cases hk:b.kind=4
    ·have dk:decide (b.kind=4)=true:=decide_eq_true hk
     have hh:b.hid=true:=by unfold zbx at hs;rw[dk]at hs;simpa using hs
     rw[hh]at l4
     simp only[go_sem,↓reduceIte,r14_5,tl',t7',l3,l4,ke,dk]
     refine fin ?_ ?_ ?_ ?_ ?_ ?_ ?_ ex3 ?_ gj bok hv K0
     all_goals first|(simp only[go_sem,↓reduceIte,tl',t0',t1',t7',t11',t12',t13'];done)|(simp only[go_sem,↓reduceIte,tl'];exact o2)
    ·have dk:decide (b.kind=4)=false:=decide_eq_false hk
     simp only[go_sem,↓reduceIte,r14_5,tl',t7',l3,l4,ke,dk]
     refine fin ?_ ?_ ?_ ?_ ?_ ?_ ?_ ex3 ?_ gj bok hv K0
     all_goals first|(simp only[go_sem,↓reduceIte,tl',t0',t1',t7',t11',t12',t13'];done)|(simp only[go_sem,↓reduceIte,tl'];exact o2)
   have dk:decide (b.kind=4)=true:=by unfold zbx at hs;simp at hs;simpa using hs.1
   have hh:b.hid=false:=by unfold zbx at hs;simp at hs;exact hs.2
   rw[hh]at l4
   have lb:=zar gj (zak bok)
   simp only[go_sem,↓reduceIte,r14_5,tl',t7',l3,l4,ke,dk,lb]
   refine (zly (ht.ext ex3) bok).mono ?_
   rintro u h3 ⟨rfl,e3⟩
   have ex4:=ex3.trans e3
   have gj3:=e3.get gn gj
   have gn3:=Nat.lt_of_lt_of_le gn e3.nx
   have o3:=o2.ext e3
   cases hf:b.formed
   ·have hv:zcA bs st i b=b:=by unfold zcA;rw[hf,Bool.and_false];rfl
    simp only[go_sem,↓reduceIte,Bool.false_eq_true,tl']
    refine fin ?_ ?_ ?_ ?_ ?_ ?_ ?_ ex4 ?_ gj3 bok hv K0
    all_goals first|(simp only[go_sem,↓reduceIte,tl',t0',t1',t7',t11',t12',t13'];done)|(simp only[go_sem,↓reduceIte,tl'];exact o3)
   have l5:ldV h3 (.p bb 5)=some (.s b.body):=zad gj3 rfl
   simp only[go_sem,↓reduceIte,tl',r14_6,t7',l5]
   refine (znG (ht.ext ex4) (hbody b (List.mem_of_getElem? hb))).mono ?_
   rintro u h4 ⟨rfl,e4⟩
   have ex5:=ex4.trans e4
   have gj4:=e4.get gn3 gj3
   have gn4:=Nat.lt_of_lt_of_le gn3 e4.nx
   have o4:=o3.ext e4
   have hzE:[V.i .u8 0]++List.replicate 14 (.i .i64 0)++[.i .u8 0]++[.i .i64 0,.i .i64 0]++[.i .u8 0]++[.i .i64 0,.i .i64 0,.i .i64 0,.i .i64 0,.i .i64 0]=zE:=rfl
   unfold zct
   cases hr:zcf b.body with
   |none=>
    have hv:zcA bs st i b=b:=by unfold zcA;rw[hs,hf,hr];rfl
    have sk:=zal (h:=h4.new (.cells zE)) (b:=h4.next) (k:=24) (d:=zE) (zac rfl) rfl rfl (zby ent0)
    have e5:Ext h4 ((h4.new (.cells zE)).put h4.next (.cells zE)):=((Ext.refl h4).new _).put (Nat.le_refl _) _
    have gk:((h4.new (.cells zE)).put h4.next (.cells zE)).get h4.next=some (.cells zE):=zab
    simp only[hzE,go_sem,↓reduceIte,tl',zbz,sk]
    generalize (h4.new (.cells zE)).put h4.next (.cells zE)=h5 at e5 gk
    have ex6:=ex5.trans e5
    have gj5:=e5.get gn4 gj4
    have o5:=o4.ext e5
    have m0:ldV h5 (.p h4.next 0)=some (.i .u8 0):=zad gk rfl
    have b5:binV .eql (.i .u8 0) (.i .u8 5)=some (.b false):=rfl
    have b6:binV .eql (.i .u8 0) (.i .u8 6)=some (.b false):=rfl
    have b7:binV .eql (.i .u8 0) (.i .u8 7)=some (.b false):=rfl
    simp only[go_sem,↓reduceIte,r14_7,r14_8,tl',m0,b5,b6,b7,H.back_bare]
    refine fin ?_ ?_ ?_ ?_ ?_ ?_ ?_ ex6 ?_ gj5 bok hv K0
    all_goals first|(simp only[go_sem,↓reduceIte,tl',t0',t1',t7',t11',t12',t13'];done)|(simp only[go_sem,↓reduceIte,tl'];exact o5)
   |some x=>
    have sk:=zal (h:=h4.new (.cells zE)) (b:=h4.next) (k:=24) (d:=x.cells) (zac rfl) rfl rfl (zby x)
    have e5:Ext h4 ((h4.new (.cells zE)).put h4.next (.cells x.cells)):=((Ext.refl h4).new _).put (Nat.le_refl _) _
    have gk:((h4.new (.cells zE)).put h4.next (.cells x.cells)).get h4.next=some (.cells x.cells):=zab
    have gkn:h4.next<((h4.new (.cells zE)).put h4.next (.cells x.cells)).next:=Nat.lt_succ_self _
    simp only[hzE,go_sem,↓reduceIte,tl',zbz,sk]
    generalize (h4.new (.cells zE)).put h4.next (.cells x.cells)=h5 at e5 gk gkn
    have ex6:=ex5.trans e5
    have gj5:=e5.get gn4 gj4
    have gn5:=Nat.lt_of_lt_of_le gn4 e5.nx
    have o5:=o4.ext e5
    generalize h4.next=xb at gk gkn
    have m0:ldV h5 (.p xb 0)=some (.i .u8 (x.kind:Int)):=zad gk rfl
    have lx:=zar gk (zaI x)
    have b5:binV .eql (.i .u8 (x.kind:Int)) (.i .u8 5)=some (.b (decide (x.kind=5))):=zaj (j:=5)
    have b6:binV .eql (.i .u8 (x.kind:Int)) (.i .u8 6)=some (.b (decide (x.kind=6))):=zaj (j:=6)
    have b7:binV .eql (.i .u8 (x.kind:Int)) (.i .u8 7)=some (.b (decide (x.kind=7))):=zaj (j:=7)
    have ab:∀{t:List V} {Q:Out→List V→H→Prop} {c:C},t.length=74→nth t 0=v→nth t 1=.i .i64 st→nth t 5=nth t' 5→nth t 6=.i .i64 (i:Int)→nth t 7=.p bb 0→nth t 8=.p xb 0→nth t 9=.i .i64 0→nth t 11=v→nth t 12=.i .i64 (bs.length:Int)→nth t 13=.i .i64 (i:Int) →
     (∀t2,t2.length=74→nth t2 0=v→nth t2 1=.i .i64 st→nth t2 5=nth t' 5→nth t2 6=.i .i64 (i:Int)→nth t2 7=.p bb 0→nth t2 8=.p xb 0→nth t2 9=.i .i64 0→nth t2 10=.b (zbK x)→nth t2 11=v→nth t2 12=.i .i64 (bs.length:Int)→nth t2 13=.i .i64 (i:Int)→W tb1 c t2 h5 Q)→W tb1 (.seq (.ops r14_7) c) t h5 Q:=by
     intro t Q c tl t0 t1 t5 t6 t7 t8 t9 t11 t12 t13 K
     by_cases q5:x.kind=5
     ·have d5:decide (x.kind=5)=true:=decide_eq_true q5
      have hae:zbK x=true:=by unfold zbK;rw[d5];rfl
      simp only[go_sem,↓reduceIte,r14_7,tl,t8,m0,b5,d5]
      refine K _ ?_ ?_ ?_ ?_ ?_ ?_ ?_ ?_ ?_ ?_ ?_ ?_<;>simp only[go_sem,↓reduceIte,tl,t0,t1,t5,t6,t7,t8,t9,t11,t12,t13,hae]
     have d5:decide (x.kind=5)=false:=decide_eq_false q5
     by_cases q6:x.kind=6
     ·have d6:decide (x.kind=6)=true:=decide_eq_true q6
      have hae:zbK x=true:=by unfold zbK;rw[d5,d6];rfl
      simp only[go_sem,↓reduceIte,r14_7,tl,t8,m0,b5,d5,b6,d6]
      refine K _ ?_ ?_ ?_ ?_ ?_ ?_ ?_ ?_ ?_ ?_ ?_ ?_<;>simp only[go_sem,↓reduceIte,tl,t0,t1,t5,t6,t7,t8,t9,t11,t12,t13,hae]
     have d6:decide (x.kind=6)=false:=decide_eq_false q6
     have hae:zbK x=decide (x.kind=7):=by unfold zbK;rw[d5,d6];rfl
     simp only[go_sem,↓reduceIte,r14_7,tl,t8,m0,b5,d5,b6,d6,b7]
     refine K _ ?_ ?_ ?_ ?_ ?_ ?_ ?_ ?_ ?_ ?_ ?_ ?_<;>simp only[go_sem,↓reduceIte,tl,t0,t1,t5,t6,t7,t8,t9,t11,t12,t13,hae]
    simp only[zbC,zbi]at ab
    refine ab ?_ ?_ ?_ ?_ ?_ ?_ ?_ ?_ ?_ ?_ ?_ ?_
    all_goals first|(simp only[go_sem,↓reduceIte,tl',t0',t1',t6',t7',t11',t12',t13'];done)|skip
    clear tl' t0' t1' t6' t7' t11' t12' t13'
    intro t2 tl t0 t1 t5 t6 t7 t8 t9 t10 t11 t12 t13
    rw[← t5]at o5 hob
    cases hae:zbK x
    ·have hv:zcA bs st i b=b:=by unfold zcA;rw[hs,hf,hr];simp only[hae];rfl
     rw[hae]at t10
     simp only[go_sem,↓reduceIte,r14_8,tl,t9,t10,H.back_bare]
     refine fin ?_ ?_ ?_ ?_ ?_ ?_ ?_ ex6 ?_ gj5 bok hv K0
     all_goals first|(simp only[go_sem,↓reduceIte,tl,t0,t1,t7,t11,t12,t13];done)|(simp only[go_sem,↓reduceIte,tl];exact o5)
    rw[hae]at t10
    obtain⟨u,hu,au⟩:=(a.ext ex6).hi (b:=i) (by omega)
    rw[ziA i ok]at au
    have hti:(bs.take i).length=i:=by rw[List.length_take];omega
    have Bu:Buls h5.bare u (bs.take i):=⟨by rw[hti];exact au.sl.bare,fun c hc=>ok c (List.mem_of_mem_take hc)⟩
    simp only[go_sem,↓reduceIte,r14_8,tl,t0,t1,t6,t8,t9,t10,hu,lx,H.back_bare]
    refine (zmK (x:=x) (st:=st) (ht.ext ex6).bare Bu (by omega) (fun c hc=>hbody c (List.mem_of_mem_take hc))).mono ?_
    rintro u h6 ⟨rfl,e6⟩
    have e6:=e6.back
    simp only[go_sem,↓reduceIte]
    generalize h5.back h6=h7 at e6
    have ex7:=ex6.trans e6
    have gj7:=e6.get gn5 gj5
    have gn7:=Nat.lt_of_lt_of_le gn5 e6.nx
    have o7:=o5.ext e6
    cases hc:zdg (bs.take i) x st
    ·have hv:zcA bs st i b=zcq b:=by unfold zcA;rw[hs,hf,hr];simp only[hae,hc];rfl
     have l7:=zar gj7 (zak bok)
     simp only[go_sem,↓reduceIte,Bool.false_eq_true,tl,H.back_bare,r14_9,t7,l7]
     refine (fn_Hide (ht.ext ex7) bok).mono ?_
     rintro u h8 ⟨rfl,e8⟩
     have gj8:=e8.get gn7 gj7
     have ex8:=ex7.trans e8
     have hdv:zeO b=zcq b:=by unfold zeO;rw[hf];rfl
     have s8:=zal (k:=71) (d:=(zcq b).cells) gj8 (zak bok) (zak (zcD bok)) (zbJ _)
     have o8:Own h 71 (h8.put bb (.cells (zcq b).cells)) (nth t2 5) i ((zbF bs st i).flatMap Bul.cells):=by
      obtain⟨hl8,q|⟨b',g,q1,q2,q3,q4,q5⟩⟩:=o7.ext e8
      ·exact⟨hl8,.inl q⟩
      ·refine⟨hl8,.inr ⟨b',g,q1,q2,q3,q4,(zaa ?_).trans q5⟩⟩
       rw[q1]at hob
       rcases hob with hob|hob
       ·cases hob
       ·have hob:b'<bb:=hob
        omega
     unfold zlq
     simp only[go_sem,↓reduceIte,tl,zbz,hdv,t7,s8]
     refine fin ?_ ?_ ?_ ?_ ?_ ?_ ?_ (ex8.put hbn _) ?_ zab (zcD bok) hv K0
     all_goals first|(simp only[go_sem,↓reduceIte,tl,t0,t1,t7,t11,t12,t13];done)|(simp only[go_sem,↓reduceIte,tl];exact o8)
    ·have hv:zcA bs st i b=b:=by unfold zcA;rw[hs,hf,hr];simp only[hae,hc];rfl
     simp only[go_sem,↓reduceIte,tl,H.back_bare]
     refine fin ?_ ?_ ?_ ?_ ?_ ?_ ?_ ex7 ?_ gj7 bok hv K0
     all_goals first|(simp only[go_sem,↓reduceIte,tl,t0,t1,t7,t11,t12,t13];done)|(simp only[go_sem,↓reduceIte,tl];exact o7)
  ·have hI:¬ (i:Int)<(bs.length:Int):=by omega
   obtain rfl:i=bs.length:=by omega
   simp only[go_sem,↓reduceIte,r14_3,r14_12,tl,t12,t13,hI]
   exact⟨ex,o⟩
 ·refine⟨0,rfl,Nat.zero_le _,?_,?_,?_,?_,?_,?_,Ext.refl _,?_⟩<;>first|(simp only[go_sem,↓reduceIte];done)|(simp only[go_sem,↓reduceIte];rfl)|skip
  simp only[go_sem,↓reduceIte]
  exact Own.nil
end
end Go.Air
set_option maxRecDepth 100000
namespace Go.Air
open Go.Air.Try
def valN (w:List Nat):Int:=if w.length<1∨13<w.length then -1 else if (w.all fun c=>decide (48≤c)&&decide (c≤57))=true then ((digN 0 w:Nat):Int) else -1
theorem ziI (acc c:Nat) (r:List Nat):digN acc (c::r)=if c<48∨57<c then 0 else digN (acc*10+(c-48)) r:=rfl
theorem zlS:∀(w:List Nat) (acc c:Nat),(∀x∈w,48≤x∧x≤57)→48≤c→c≤57→digN acc (w++[c])=digN acc w*10+(c-48)
 |[],acc,c,_,h1,h2=>by rw[List.nil_append,ziI,if_neg (by omega)];rfl
 |x::w,acc,c,h,h1,h2=>by
  have hx:=h x (by simp)
  rw[List.cons_append,ziI,if_neg (by omega),zlS w _ c (fun y hy=>h y (by simp[hy])) h1 h2]
  rw[ziI,if_neg (by omega)]
theorem zdu (f n:Nat) (acc:List Nat):zaA (f+1) n acc=if n<10 then (48+n)::acc else zaA f (n/10) ((48+n%10)::acc):=rfl
theorem zdf:∀(f n:Nat) (acc:List Nat),zaA f n acc=zaA f n []++acc
 |0,_,acc=>by simp[zaA]
 |f+1,n,acc=>by
  rw[zdu,zdu]
  split
  ·rfl
  ·rw[zdf f _ ((48+n%10)::acc),zdf f _ [48+n%10],List.append_assoc];rfl
theorem zhD:∀(f n:Nat),n<10^f→0<f→zaA (f+1) n []=zaA f n []
 |0,_,_,h=>by omega
 |f+1,n,hn,_=>by
  rw[zdu (f+1) n [],zdu f n []]
  split
  ·rfl
  ·rename_i h
   rw[zdf (f+1),zdf f]
   have h1:n/10<10^f:=by rw[Nat.div_lt_iff_lt_mul (by omega)];rw[Nat.pow_succ]at hn;exact hn
   have h2:0<f:=by
    rcases Nat.eq_zero_or_pos f with rfl|q
    ·simp at h1;omega
    ·exact q
   rw[zhD f _ h1 h2]
theorem zgX {n:Nat} (h:n<10):zaV n=[48+n]:=by unfold zaV;rw[zaA,if_pos h]
theorem zoR {n:Nat} (h:10≤n) (hn:n≤1000000000000):zaV n=zaV (n/10)++zaV (n%10):=by
 rw[zgX (Nat.mod_lt _ (by omega))]
 unfold zaV
 rw[zaA,if_neg (by omega),zdf]
 have h1:n/10<10^19:=by omega
 rw[zhD 19 _ h1 (by omega)]
theorem strOf1 {h:H} {b c:Nat} (g:h.get b=some (.cells [.i .u8 (c:Int)])) (hc:c<256):zmj h (.sl b 0 1 1 none)=some (.s [c]):=by
 have h1:zmc (.i .u8 (c:Int))=some c:=by simp[zmc,hc]
 have h2:zat 1 1 h (.sl b 0 1 1 none)=some [.i .u8 (c:Int)]:=by simp[zat,g,Blk.rd,cut]
 have h3:zmj h (.sl b 0 1 1 none)=match zaT (.sl b 0 1 1 none) with
  |none=>none
  |some n=>match zat 1 n h (.sl b 0 1 1 none) with
   |none=>none
   |some cs=>(zeV cs).map .s:=rfl
 rw[h3]
 simp only[zaT,h2,zeV,h1,Option.map_some]
section
variable {h:H}
theorem t2168:tb1 168=some a168:=by kernel_rfl
theorem t2115:tb1 115=some a115:=by kernel_rfl
theorem t2065:tb1 65=some a65:=by kernel_rfl
theorem t2066:tb1 66=some a66:=by kernel_rfl
theorem zoO:∀(n:Nat) (h:H),n≤1000000000000→WC tb1 (.fn 168 [] []) [.i .i64 (n:Int)] h fun u h'=>u=.s (zaV n)∧Ext h h':=by
 intro n
 induction n using Nat.strongRecOn with
 |ind n ih=>
  intro h hn
  refine (zay t2168).2 ?_
  by_cases hlt:n<10
  ·have hI:(n:Int)<10:=by omega
   have w1:IntKind.i64.wrap (48+(n:Int))=((48+n:Nat):Int):=by rw[zap (by omega) (by omega)];omega
   have hcv:zca .u8 (.i .i64 ((48+n:Nat):Int))=some (.i .u8 ((48+n:Nat):Int)):=by
    simp only[zca];rw[zfS,Int.emod_eq_of_lt (by omega) (by omega)]
   have hf:zhQ (.i .u8 ((48+n:Nat):Int))=some [.i .u8 ((48+n:Nat):Int)]:=rfl
   have hs:zmj (h.new (.cells [.i .u8 ((48+n:Nat):Int)])) (.sl h.next 0 1 1 none)=some (.s [48+n]):=strOf1 (zac rfl) (by omega)
   simp only[go_sem,↓reduceIte,r168_0,r168_1,r168_2,hI,w1,hcv,hf,hs]
   exact⟨by rw[zgX hlt],(Ext.refl h).new _⟩
  ·have hI:¬ (n:Int)<10:=by omega
   have hq:binV .quo (.i .i64 (n:Int)) (.i .i64 10)=some (.i .i64 ((n/10:Nat):Int)):=by
    show some (V.i .i64 (IntKind.i64.wrap (Int.tdiv (n:Int) 10)))=_
    have:Int.tdiv (n:Int) 10=((n/10:Nat):Int):=rfl
    rw[this,zap (by omega) (by omega)]
   have hr:binV .rem (.i .i64 (n:Int)) (.i .i64 10)=some (.i .i64 ((n%10:Nat):Int)):=rfl
   simp only[go_sem,↓reduceIte,r168_0,r168_1,r168_3,hI,hq]
   refine (ih (n/10) (by omega) h (by omega)).mono ?_
   rintro u h1 ⟨rfl,e1⟩
   simp only[go_sem,↓reduceIte,hr]
   refine (ih (n%10) (by omega) h1 (by omega)).mono ?_
   rintro u h2 ⟨rfl,e2⟩
   have d1:=zcx 13 20 (n/10) [] (by omega) (by omega)
   have d2:=zcx 13 20 (n%10) [] (by omega) (by omega)
   have ha:binV .add (.s (zaV (n/10))) (.s (zaV (n%10)))=some (.s (zaV (n/10)++zaV (n%10))):=zbE (by unfold zaV;simp at d1 d2;omega)
   simp only[go_sem,↓reduceIte,ha]
   exact⟨by rw[zoR (by omega) hn],e1.trans e2⟩
theorem zjs {n:Int} (h0:0≤n) (h1:n≤1000000000000):WC tb1 (.fn 168 [] []) [.i .i64 n] h fun u h'=>u=.s (itoa n)∧Ext h h':=by
 obtain⟨m,rfl⟩:∃m:Nat,n=(m:Int):=⟨n.toNat,by omega⟩
 refine (zoO m h (by omega)).mono ?_
 rintro u h' ⟨rfl,e⟩
 exact⟨by rw[zfh (by omega)];rfl,e⟩
theorem fn_rowL {day:Int} {word:List Nat} {v:V} {ns:List Int} (S:Sl 1 h v ns.length (ns.map (V.i .i64))) (hd:0≤day∧day≤1000000000000) (hw:word.length≤100) (hn:∀n∈ns,0≤n∧n≤1000000000000) (hl:ns.length≤100) :
 WC tb1 (.fn 115 [] []) [.i .i64 day,.s word,v] h fun u h'=>u=.s (itoa day++[32]++word++zcI ns)∧Ext h h':=by
 refine (zay t2115).2 ?_
 simp only[go_sem,↓reduceIte,r115_0,r115_1]
 refine (zjs hd.1 hd.2).mono ?_
 rintro u h1 ⟨rfl,e1⟩
 have hil:=zei day
 have a1:binV .add (.s (itoa day)) (.s [32])=some (.s (itoa day++[32])):=zbE (by simp;omega)
 have a2:binV .add (.s (itoa day++[32])) (.s word)=some (.s (itoa day++[32]++word)):=zbE (by simp;omega)
 have hle:=S.len
 simp only[go_sem,↓reduceIte,a1,a2,r115_2]
 have hpl:(itoa day++[32]++word).length≤122:=by simp;omega
 generalize itoa day++[32]++word=pre at hpl
 refine zax (fun k t hh=>∃i,k=ns.length-i∧i≤ns.length∧t.length=29∧nth t 2=v∧nth t 7=.s (pre++zcI (ns.take i))∧nth t 8=.i .i64 (i:Int)∧Ext h hh) ?_ ns.length ?_
 ·rintro k t hh ⟨i,rfl,hi,tl,t2,t7,t8,ex⟩
  unfold b115_0
  by_cases hin:i<ns.length
  ·have hI:(i:Int)<(ns.length:Int):=by omega
   have w1:IntKind.i64.wrap ((i:Int)+1)=((i+1:Nat):Int):=zaq (by omega)
   obtain⟨n,hni⟩:∃n,ns[i]? = some n:=⟨_,List.getElem?_eq_getElem hin⟩
   have hnb:=hn n (List.mem_of_getElem? hni)
   have S':=S.ext ex
   have hix:=S'.ix hin
   have hld:=S'.ld1 hin
   rw[List.getElem?_map,hni]at hld
   have htl:=zgD (ns.take i)
   rw[List.length_take]at htl
   have htl2:(zcI (ns.take i)).length≤2200:=by omega
   have a3:binV .add (.s (pre++zcI (ns.take i))) (.s [32])=some (.s (pre++zcI (ns.take i)++[32])):=zbE (by simp;omega)
   simp only[go_sem,↓reduceIte,r115_3,r115_5,tl,t2,t7,t8,hle,hI,hix,hld,Option.map_some,a3]
   refine (zjs hnb.1 hnb.2).mono ?_
   rintro u h2 ⟨rfl,e2⟩
   have hil:=zei n
   have a4:binV .add (.s (pre++zcI (ns.take i)++[32])) (.s (itoa n))=some (.s (pre++zcI (ns.take i)++[32]++itoa n)):=zbE (by simp;omega)
   simp only[go_sem,↓reduceIte,a4,r115_4,tl,t8,w1]
   refine⟨ns.length-(i+1),by omega,i+1,rfl,by omega,?_,?_,rfl,ex.trans e2⟩
   ·simp only[go_sem,↓reduceIte,tl,t2]
   ·rw[zjc hni]
    simp
  ·have hI:¬ (i:Int)<(ns.length:Int):=by omega
   obtain rfl:i=ns.length:=by omega
   rw[List.take_length]at t7
   simp only[go_sem,↓reduceIte,r115_3,r115_6,tl,t2,t7,t8,hle,hI]
   exact ex
 ·refine⟨0,rfl,Nat.zero_le _,?_,?_,?_,?_,e1⟩<;>first|(simp only[go_sem,↓reduceIte];done)|(simp only[go_sem,↓reduceIte];rfl)|(simp only[go_sem,↓reduceIte];simp[zcI])
theorem zlu {w:List Nat} (hw:w.length≤1000000):WC tb1 (.fn 66 [] []) [.s w] h fun u h'=>u=.i .i64 (valN w)∧h'=h:=by
 refine (zay t2066).2 ?_
 unfold valN
 by_cases q1:w.length<1
 ·have hI:(w.length:Int)<1:=by omega
  simp only[go_sem,↓reduceIte,r66_0,r66_1,r66_2,hI]
  rw[if_pos (.inl q1)]
 have hI1:¬ (w.length:Int)<1:=by omega
 by_cases q2:13<w.length
 ·have hI:(13:Int)<(w.length:Int):=by omega
  simp only[go_sem,↓reduceIte,r66_0,r66_1,r66_2,hI1,hI]
  rw[if_pos (.inr q2)]
 have hI2:¬ (13:Int)<(w.length:Int):=by omega
 rw[if_neg (by omega)]
 simp only[go_sem,↓reduceIte,r66_0,r66_1,r66_3,r66_4,hI1,hI2]
 refine zax (fun k t hh=>∃i,k=w.length-i∧i≤w.length∧t.length=38∧nth t 0=.s w∧nth t 3=.i .i64 ((digN 0 (w.take i):Nat):Int)∧nth t 4=.i .i64 (i:Int)∧hh=h∧(∀c∈w.take i,48≤c∧c≤57)) ?_ w.length ?_
 ·rintro k t hh ⟨i,rfl,hi,tl,t0,t3,t4,rfl,hd⟩
  unfold b66_0
  by_cases hin:i<w.length
  ·have hI:(i:Int)<(w.length:Int):=by omega
   have w1:IntKind.i64.wrap ((i:Int)+1)=((i+1:Nat):Int):=zaq (by omega)
   obtain⟨c,hc⟩:∃c,w[i]? = some c:=⟨_,List.getElem?_eq_getElem hin⟩
   have hix:=ixS_at hc
   have bad:(c<48∨57<c)→(w.all fun c=>decide (48≤c)&&decide (c≤57))=false:=by
    intro h
    rw[Bool.eq_false_iff]
    intro hall
    have:=List.all_eq_true.1 hall c (List.mem_of_getElem? hc)
    simp at this
    omega
   by_cases c1:(c:Int)<48
   ·simp only[go_sem,↓reduceIte,r66_5,r66_7,r66_8,tl,t0,t4,hI,hix,c1]
    rw[bad (by omega)];rfl
   by_cases c2:(57:Int)<(c:Int)
   ·simp only[go_sem,↓reduceIte,r66_5,r66_7,r66_8,tl,t0,t4,hI,hix,c1,c2]
    rw[bad (by omega)];rfl
   have hlt:=zqQ (w.take i) 0
   have hp13:10^(w.take i).length≤10^13:=Nat.pow_le_pow_right (by omega) (by rw[List.length_take];omega)
   have hdn:=zlS (w.take i) 0 c hd (by omega) (by omega)
   have hacc:digN 0 (w.take i)≤10^13:=by omega
   generalize digN 0 (w.take i)=acc at hdn t3 hacc
   have w2:IntKind.i64.wrap (10*(acc:Int))=((10*acc:Nat):Int):=by rw[zap (by omega) (by omega)];omega
   have hcv:zca .i64 (.i .u8 (c:Int))=some (.i .i64 (c:Int)):=zcn (by omega)
   have w3:IntKind.i64.wrap (((10*acc:Nat):Int)+(c:Int))=((10*acc+c:Nat):Int):=by rw[zap (by omega) (by omega)];omega
   have w4:IntKind.i64.wrap (((10*acc+c:Nat):Int)-48)=((acc*10+(c-48):Nat):Int):=by rw[zap (by omega) (by omega)];omega
   simp only[go_sem,↓reduceIte,r66_5,r66_7,r66_9,r66_6,tl,t0,t3,t4,hI,hix,c1,c2,w1,w2,w3,w4,hcv]
   refine⟨w.length-(i+1),by omega,i+1,rfl,by omega,?_,rfl,?_⟩
   ·rw[zaz hc,hdn]
   ·intro x hx
    rw[zaz hc]at hx
    rcases List.mem_append.1 hx with hx|hx
    ·exact hd x hx
    ·rw[List.mem_singleton.1 hx];omega
  ·have hI:¬ (i:Int)<(w.length:Int):=by omega
   obtain rfl:i=w.length:=by omega
   rw[List.take_length]at hd t3
   simp only[go_sem,↓reduceIte,r66_5,r66_10,tl,t0,t3,t4,hI]
   have hall:(w.all fun c=>decide (48≤c)&&decide (c≤57))=true:=by
    rw[List.all_eq_true]
    intro c hc
    have:=hd c hc
    simp[this.1,this.2]
   rw[hall];rfl
 ·refine⟨0,rfl,Nat.zero_le _,?_,?_,?_,?_,rfl,by simp⟩<;>first|(simp only[go_sem,↓reduceIte];done)|(simp only[go_sem,↓reduceIte];rfl)
theorem zqn {l:List Nat} (hl:l.length≤1000000):WC tb1 (.fn 65 [] []) [.s l] h fun u h'=>Ext h h'∧Own h 1 h' u (zaM 32 l).length ((zaM 32 l).map V.s):=by
 refine (zay t2065).2 ?_
 simp only[go_sem,↓reduceIte,r65_0,r65_1,r65_2,r65_3]
 refine zax (fun k t h'=>∃(a i:Nat) (u:V) (pre:List (List Nat)),k=l.length-i∧i≤l.length∧t.length=31∧nth t 0=.s l∧nth t 3=u∧nth t 4=.i .i64 (a:Int)∧nth t 5=.i .i64 (i:Int)∧a≤i∧zaM 32 l=pre++zaM 32 (l.drop a)∧32 ∉ (l.drop a).take (i-a)∧M87 h h' u pre) ?_ l.length ?_
 ·rintro k t h' ⟨a,i,u,pre,rfl,hi,tl,t0,t3,t4,t5,h2,e,hno,q⟩
  unfold b65_0
  have hpl:pre.length≤1000001:=by
   have h1:=zhh 32 l
   rw[e,List.length_append]at h1;omega
  have app:∀c:List Nat,∃u' h2,zaX 1 16 (h'.new (.cells [.s c])) u (.sl h'.next 0 1 1 none)=.ok u' h2∧M87 h h2 u' (pre++[c]):=fun c=>by
   obtain⟨v',h2,q1,q2,q3,_⟩:=(q.own.ext ((Ext.refl h').new _)).app (bytes:=16) (q.ext.new _) (one_s q.ext c) (by intro u hu;simp at hu;subst hu;rfl) (by omega) (by omega) (by omega)
   exact⟨v',h2,q1,q2,by simpa using q3⟩
  by_cases hin:i<l.length
  ·have hI:(i:Int)<(l.length:Int):=by omega
   have w1:IntKind.i64.wrap ((i:Int)+1)=((i+1:Nat):Int):=zaq (by omega)
   obtain⟨c,hp⟩:∃c,l[i]? = some c:=⟨_,List.getElem?_eq_getElem hin⟩
   have hix:=ixS_at hp
   have hpd:(l.drop a)[i-a]? = some c:=by rw[List.getElem?_drop,show a+(i-a)=i by omega];exact hp
   obtain⟨u',h3,p1,p2⟩:=app ((l.drop a).take (i-a))
   by_cases hc:c=32
   ·subst hc
    have c1:((32:Nat):Int)=32:=rfl
    have hslc:=fun (t:List V) (k1 k2:Nat) (a1:nth t k1=.i .i64 (a:Int)) (a2:nth t k2=.i .i64 (i:Int))=>slc_lh (l:=l) a1 a2 h2 (by omega)
    simp only[go_sem,↓reduceIte,r65_4,r65_6,r65_7,tl,t0,t3,t4,t5,hI,hix,c1]
    rw[hslc _ 18 19 (by simp only[go_sem,↓reduceIte,tl,t4]) (by simp only[go_sem,↓reduceIte,tl,t5])]
    simp only[go_sem,↓reduceIte,r65_5,r65_8,tl,t0,t3,t4,t5,zqI,p1,w1]
    refine⟨l.length-(i+1),by omega,i+1,i+1,u',pre++[(l.drop a).take (i-a)],rfl,by omega,rfl,rfl,rfl,Nat.le_refl _,?_,by simp,p2⟩
    have es:=split_at hpd
    rw[e]
    conv=>lhs;rw[es]
    rw[zdI hno,List.drop_drop,show a+(i-a+1)=i+1 by omega]
    simp
   ·have hcI:¬ (c:Int)=32:=by omega
    simp only[go_sem,↓reduceIte,r65_4,r65_5,r65_6,tl,t0,t3,t4,t5,hI,hix,hcI,w1]
    refine⟨l.length-(i+1),by omega,a,i+1,u,pre,rfl,by omega,rfl,rfl,rfl,by omega,e,?_,q⟩
    rw[show i+1-a=(i-a)+1 by omega]
    exact zlh hno hpd hc
  ·have hI:¬ (i:Int)<(l.length:Int):=by omega
   obtain rfl:i=l.length:=by omega
   have hno':32 ∉ l.drop a:=by
    rw[List.take_of_length_le (by simp)]at hno
    exact hno
   obtain⟨u',h3,p1,p2⟩:=app (l.drop a)
   have hsl:=fun (t:List V) (k:Nat) (a1:nth t k=.i .i64 (a:Int))=>slc_lo (l:=l) a1 h2
   simp only[go_sem,↓reduceIte,r65_4,r65_9,tl,t0,t3,t4,t5,hI]
   rw[hsl _ 27 (by simp only[go_sem,↓reduceIte,tl,t4])]
   simp only[go_sem,↓reduceIte,tl,zqI,p1]
   rw[e,zdT hno']
   exact⟨p2.ext,p2.own⟩
 ·exact⟨0,0,.sn,[],rfl,by omega,by simp only[go_sem,↓reduceIte],by simp only[go_sem,↓reduceIte],by simp only[go_sem,↓reduceIte],by simp only[go_sem,↓reduceIte],by simp only[go_sem,↓reduceIte],Nat.le_refl _,by simp,by simp,.refl h,.nil⟩
end
end Go.Air
