/-
 A part of the proof of: The row of BulletinViews and its tied card,out of the lifted form.
-/
import Derived.Test.YtfdbelnklcjogaaGreatDoorVwE
set_option linter.unusedSectionVars false
set_option linter.unusedVariables false
set_option linter.unusedSimpArgs false
set_option maxRecDepth 100000
namespace Go.Air
open Go.Air.Try
section
variable {h:H} {S Sp:V→H→Prop}
theorem t2165:tb1 165=some a165:=by kernel_rfl
theorem t2166:tb1 166=some a166:=by kernel_rfl
theorem t2167:tb1 167=some a167:=by kernel_rfl
theorem t2114:tb1 114=some a114:=by kernel_rfl
theorem zau {a b c:Int}:WX tb1 (.fn 165 [] []) [.i .i64 a,.i .i64 b,.i .i64 c] h S Sp↔S (.b (btw a b c)) h:=by
 rw[zay t2165]
 unfold btw
 by_cases h1:b≤a
 ·simp only[go_sem,↓reduceIte,r165_0,r165_1,h1]
  rfl
 ·simp only[go_sem,↓reduceIte,r165_0,r165_1,h1]
  rfl
theorem zbU {a:Int}:WX tb1 (.fn 166 [] []) [.i .i64 a] h S Sp↔S (.b (zbc a)) h:=by
 rw[zay t2166]
 unfold zbc btw
 by_cases h1:(1:Int)≤a
 ·simp only[go_sem,↓reduceIte,r166_0,r166_1,h1]
  rfl
 ·simp only[go_sem,↓reduceIte,r166_0,r166_1,h1]
  rfl
theorem fn_validR {w:Wv}:WC tb1 (.fn 167 [] []) [.agg w.cells] h fun u h'=>u=.b (zbv w)∧Ext h h':=by
 refine (zay t2167).2 ?_
 have e1:Ext h (h.new (.cells w.cells)):=(Ext.refl h).new _
 have g:(h.new (.cells w.cells)).get h.next=some (.cells w.cells):=zac rfl
 have hc:(V.agg w.cells).cells=w.cells:=rfl
 have l0:ldV (h.new (.cells w.cells)) (.p h.next 0)=some (.i .i64 w.id):=zad g rfl
 have l1:ldV (h.new (.cells w.cells)) (.p h.next 1)=some (.i .i64 w.day):=zad g rfl
 have l2:ldV (h.new (.cells w.cells)) (.p h.next 2)=some (.i .i64 w.signer):=zad g rfl
 have l3:ldV (h.new (.cells w.cells)) (.p h.next 3)=some (.i .i64 w.giver):=zad g rfl
 have l4:ldV (h.new (.cells w.cells)) (.p h.next 4)=some (.i .i64 w.taker):=zad g rfl
 have l5:ldV (h.new (.cells w.cells)) (.p h.next 5)=some (.i .i64 w.under):=zad g rfl
 have l6:ldV (h.new (.cells w.cells)) (.p h.next 6)=some (.i .i64 w.over):=zad g rfl
 have l7:ldV (h.new (.cells w.cells)) (.p h.next 7)=some (.i .i64 w.since):=zad g rfl
 have l8:ldV (h.new (.cells w.cells)) (.p h.next 8)=some (.i .i64 w.til):=zad g rfl
 simp only[go_sem,↓reduceIte,r167_0,hc]
 generalize h.new (.cells w.cells)=h1 at e1 g l0 l1 l2 l3 l4 l5 l6 l7 l8
 cases c1:btw w.id 1 500
 ·have hv:zbv w=false:=by simp[zbv,c1]
  simp only[go_sem,↓reduceIte,r167_1,r167_2,l0,zau,c1,hv]
  exact e1
 cases c2:btw w.day 0 100000
 ·have hv:zbv w=false:=by simp[zbv,c2]
  simp only[go_sem,↓reduceIte,r167_1,r167_2,l0,l1,zau,c1,c2,hv]
  exact e1
 cases c3:zbc w.signer
 ·have hv:zbv w=false:=by simp[zbv,c3]
  simp only[go_sem,↓reduceIte,r167_1,r167_2,l0,l1,l2,zau,zbU,c1,c2,c3,hv]
  exact e1
 cases c4:zbc w.giver
 ·have hv:zbv w=false:=by simp[zbv,c4]
  simp only[go_sem,↓reduceIte,r167_1,r167_2,l0,l1,l2,l3,zau,zbU,c1,c2,c3,c4,hv]
  exact e1
 cases c5:zbc w.taker
 ·have hv:zbv w=false:=by simp[zbv,c5]
  simp only[go_sem,↓reduceIte,r167_1,r167_2,l0,l1,l2,l3,l4,zau,zbU,c1,c2,c3,c4,c5,hv]
  exact e1
 by_cases c6:w.giver=w.taker
 ·have hv:zbv w=false:=by simp[zbv,c6]
  simp only[go_sem,↓reduceIte,r167_1,r167_2,l0,l1,l2,l3,l4,zau,zbU,c1,c2,c3,c4,c5,c6,hv]
  exact e1
 simp only[go_sem,↓reduceIte,r167_1,l0,l1,l2,l3,l4,zau,zbU,c1,c2,c3,c4,c5,c6]
 refine zbs (fun t=>t.length=87∧nth t 1=.p h.next 0) (by simp only[go_sem,↓reduceIte]) ?_
 rintro t ⟨tl,t1⟩
 have fin:∀{t:List V},t.length=87→nth t 1=.p h.next 0→((decide (w.under=0)||zbc w.under)&&(decide (w.over=0)||zbc w.over)&&(decide (w.under=0) || !decide (w.under=w.over)))=true →
  W tb1 (.seq (.ops r167_5) (.ret)) t h1 (Kfn [.tmp 2] (fun u h'=>u=.b (zbv w)∧Ext h h') zeK):=by
  intro t tl t1 hm
  have hv:zbv w=(btw w.day 0 100000&&decide (w.day≤w.since)&&decide (w.since<w.til)&&decide (w.til≤100000)):=by
   have e6:decide (w.giver=w.taker)=false:=decide_eq_false c6
   unfold zbv
   rw[c1,c3,c4,c5,e6,hm]
   rfl
  rw[c2]at hv
  by_cases d1:w.day≤w.since
  ·by_cases d2:w.since<w.til
   ·simp only[go_sem,↓reduceIte,r167_5,tl,t1,l1,l7,l8,d1,d2,hv]
    exact⟨by simp,e1⟩
   ·simp only[go_sem,↓reduceIte,r167_5,tl,t1,l1,l7,l8,d1,d2,hv]
    exact⟨by simp,e1⟩
  ·simp only[go_sem,↓reduceIte,r167_5,tl,t1,l1,l7,l8,d1,hv]
   exact⟨by simp,e1⟩
 simp only[zbC,zbi]at fin
 have bad:((decide (w.under=0)||zbc w.under)&&(decide (w.over=0)||zbc w.over)&&(decide (w.under=0) || !decide (w.under=w.over)))=false→zbv w=false:=by
  intro hm
  unfold zbv
  rw[hm]
  simp
 by_cases u0:w.under=0
 ·by_cases o0:w.over=0
  ·simp only[go_sem,↓reduceIte,r167_3,tl,t1,l5,l6,u0,o0]
   refine fin ?_ ?_ (by simp[u0,o0])<;>simp only[go_sem,↓reduceIte,tl,t1]
  ·cases c8:zbc w.over
   ·have hv:=bad (by simp[u0,o0,c8])
    simp only[go_sem,↓reduceIte,r167_3,r167_4,tl,t1,l5,l6,u0,o0,zbU,c8,hv]
    exact e1
   ·simp only[go_sem,↓reduceIte,r167_3,tl,t1,l5,l6,u0,o0,zbU,c8]
    refine fin ?_ ?_ (by simp[u0,c8])<;>simp only[go_sem,↓reduceIte,tl,t1]
 cases c7:zbc w.under
 ·have hv:=bad (by simp[u0,c7])
  simp only[go_sem,↓reduceIte,r167_3,r167_4,tl,t1,l5,l6,u0,zbU,c7,hv]
  exact e1
 by_cases o0:w.over=0
 ·by_cases q:w.under=w.over
  ·omega
  ·simp only[go_sem,↓reduceIte,r167_3,tl,t1,l5,l6,u0,o0,zbU,c7]
   refine fin ?_ ?_ (by simp[u0,o0,c7,q])<;>simp only[go_sem,↓reduceIte,tl,t1]
 cases c8:zbc w.over
 ·have hv:=bad (by simp[u0,o0,c8])
  simp only[go_sem,↓reduceIte,r167_3,r167_4,tl,t1,l5,l6,u0,o0,zbU,c7,c8,hv]
  exact e1
 by_cases q:w.under=w.over
 ·have hv:=bad (by rw[decide_eq_true q,decide_eq_false u0];simp)
  simp only[go_sem,↓reduceIte,r167_3,r167_4,tl,t1,l5,l6,u0,o0,zbU,c7,c8,q,hv]
  exact e1
 ·simp only[go_sem,↓reduceIte,r167_3,tl,t1,l5,l6,u0,o0,zbU,c7,c8,q]
  refine fin ?_ ?_ (by simp[u0,o0,c7,c8,q])<;>simp only[go_sem,↓reduceIte,tl,t1]
theorem zjr {x:Ent} (hcur:x.g.cur<256):WC tb1 (.fn 114 [] []) [.agg x.cells] h fun u h'=>u=.b x.formed∧Ext h h':=by
 refine (zay t2114).2 ?_
 have hc:(V.agg x.cells).cells=x.cells:=rfl
 have hz:[V.i .u8 0]++List.replicate 14 (.i .i64 0)++[.i .u8 0]++[.i .i64 0,.i .i64 0]++[.i .u8 0]++[.i .i64 0,.i .i64 0,.i .i64 0,.i .i64 0,.i .i64 0]=zE:=rfl
 have gx0:(h.new (.cells x.cells)).get h.next=some (.cells x.cells):=zac rfl
 obtain⟨l0,l1,_⟩:=entL gx0
 cases hday:btw x.day 0 100000
 ·have hv:x.formed=false:=by unfold Ent.formed;rw[hday,Bool.and_false]
  simp only[hz,go_sem,↓reduceIte,r114_0,r114_1,r114_2,hc,l1,zau,hday,hv]
  exact (Ext.refl h).new _
 have hv:x.formed=(x.okk&&decide (x=x.want)):=by unfold Ent.formed;rw[hday,Bool.and_true]
 simp only[hz,go_sem,↓reduceIte,r114_0,r114_1,r114_3,hc,l0,l1,zau,hday]
 have hfil:∀(t:List V) (x0 x1:X),x0.ev t=.i .u8 (x.kind:Int)→x1.ev t=.i .i64 x.day→fill t zE [(0,1,x0),(1,1,x1)]=some (⟨x.kind,x.day,wv0,gf0,0,0,0⟩:Ent).cells:=by
  intro t x0 x1 e0 e1
  simp[fill,lay,e0,e1,V.cells,zE,Ent.cells,wv0,gf0]
 rw[hfil _ _ _ (by simp only[go_sem,↓reduceIte]) (by simp only[go_sem,↓reduceIte])]
 have n1:(h.new (.cells x.cells)).next=h.next+1:=rfl
 have gz:((h.new (.cells x.cells)).new (.cells zE)).get (h.next+1)=some (.cells zE):=zac rfl
 have st0:=zal (k:=24) (d:=(⟨x.kind,x.day,wv0,gf0,0,0,0⟩:Ent).cells) gz rfl rfl (zby _)
 simp only[hz,go_sem,↓reduceIte,n1,st0]
 generalize hh2:((h.new (.cells x.cells)).new (.cells zE)).put (h.next+1) (.cells (⟨x.kind,x.day,wv0,gf0,0,0,0⟩:Ent).cells)=h2
 have e2:Ext h h2:=by subst hh2;exact (((Ext.refl h).new _).new _).put (by omega) _
 have gx:h2.get h.next=some (.cells x.cells):=by subst hh2;rw[zaa (by omega),zaf (by simp)];exact gx0
 have gw:h2.get (h.next+1)=some (.cells (⟨x.kind,x.day,wv0,gf0,0,0,0⟩:Ent).cells):=by subst hh2;exact zab
 have nx:h2.next=h.next+2:=by subst hh2;rfl
 clear hh2 st0 gz l0 l1 gx0
 obtain⟨l0,l1,l2,l3,l11,l21,l23,lw,lg,lx⟩:=entL gx
 refine zbs (fun t=>t.length=180∧nth t 1=.p h.next 0∧nth t 3=.p (h.next+1) 0) (by simp only[go_sem,↓reduceIte]) ?_
 rintro t ⟨tl,t1,t3⟩
 have hks:EqK.agg [.i .u8,.i .i64,.i .i64,.i .i64,.i .i64,.i .i64,.i .i64,.i .i64,.i .i64,.i .i64,.i .i64,.i .i64,.i .i64,.i .i64,.i .i64,.i .u8,.i .i64,.i .i64,.i .u8,.i .i64,.i .i64,.i .i64,.i .i64,.i .i64]=.agg ksE:=rfl
 have k1:binV .eql (.i .u8 (x.kind:Int)) (.i .u8 1)=some (.b (decide (x.kind=1))):=zaj (j:=1)
 have k2:binV .eql (.i .u8 (x.kind:Int)) (.i .u8 2)=some (.b (decide (x.kind=2))):=zaj (j:=2)
 have k3:binV .eql (.i .u8 (x.kind:Int)) (.i .u8 3)=some (.b (decide (x.kind=3))):=zaj (j:=3)
 have k4:binV .eql (.i .u8 (x.kind:Int)) (.i .u8 4)=some (.b (decide (x.kind=4))):=zaj (j:=4)
 have k5:binV .eql (.i .u8 (x.kind:Int)) (.i .u8 5)=some (.b (decide (x.kind=5))):=zaj (j:=5)
 have k6:binV .eql (.i .u8 (x.kind:Int)) (.i .u8 6)=some (.b (decide (x.kind=6))):=zaj (j:=6)
 have k7:binV .eql (.i .u8 (x.kind:Int)) (.i .u8 7)=some (.b (decide (x.kind=7))):=zaj (j:=7)
 have nlt:h.next+1<h2.next:=by omega
 by_cases c1:x.kind=1
 ·have d1:decide (x.kind=1)=true:=decide_eq_true c1
  have hw:x.want=⟨x.kind,x.day,wv0,gf0,x.a,0,x.n⟩:=by unfold Ent.want;rw[if_pos (.inl c1)]
  have ho:x.okk=(btw x.a 1 2&&btw x.n 1 1000000):=by unfold Ent.okk;rw[if_pos c1]
  have s1:=zbG (i:=21) (x:=.i .i64 x.a) (c':=(⟨x.kind,x.day,wv0,gf0,x.a,0,0⟩:Ent).cells) gw (by simp[Ent.cells]) rfl rfl rfl
  have gx3:(h2.put (h.next+1) (.cells (⟨x.kind,x.day,wv0,gf0,x.a,0,0⟩:Ent).cells)).get h.next=some (.cells x.cells):=by rw[zaa (by omega)];exact gx
  have m23:=(entL gx3).2.2.2.2.2.2.1
  have s2:=zbG (hh:=h2.put (h.next+1) (.cells (⟨x.kind,x.day,wv0,gf0,x.a,0,0⟩:Ent).cells)) (b:=h.next+1) (i:=23) (x:=.i .i64 x.n) (c':=x.want.cells) zab (by simp[Ent.cells]) rfl rfl (by rw[hw];rfl)
  have g4:((h2.put (h.next+1) (.cells (⟨x.kind,x.day,wv0,gf0,x.a,0,0⟩:Ent).cells)).put (h.next+1) (.cells x.want.cells)).get (h.next+1)=some (.cells x.want.cells):=zab
  have gx4:((h2.put (h.next+1) (.cells (⟨x.kind,x.day,wv0,gf0,x.a,0,0⟩:Ent).cells)).put (h.next+1) (.cells x.want.cells)).get h.next=some (.cells x.cells):=by rw[zaa (by omega)];exact gx3
  have e4:=(e2.put (show h.next≤h.next+1 by omega) (.cells (⟨x.kind,x.day,wv0,gf0,x.a,0,0⟩:Ent).cells)).put (show h.next≤h.next+1 by omega) (.cells x.want.cells)
  simp only[go_sem,↓reduceIte,r114_4,r114_5,r114_6,r114_7,tl,t1,t3,l0,l21,m23,k1,d1,s1,s2]
  generalize (h2.put (h.next+1) (.cells (⟨x.kind,x.day,wv0,gf0,x.a,0,0⟩:Ent).cells)).put (h.next+1) (.cells x.want.cells)=h4 at g4 gx4 e4
  obtain⟨_,_,_,_,_,m21,m23,_,_,mx⟩:=entL gx4
  have mw:=(entL g4).2.2.2.2.2.2.2.2.2
  rw[hv,ho]
  cases q0:decide (x=x.want)
  ·simp only[go_sem,↓reduceIte,r114_8,tl,t1,t3,mx,mw,hks,zbA,q0]
   exact⟨by simp,e4⟩
  cases q1:btw x.a 1 2
  ·simp only[go_sem,↓reduceIte,r114_8,tl,t1,t3,mx,mw,hks,zbA,q0,m21,zau,q1]
   exact⟨by simp,e4⟩
  ·simp only[go_sem,↓reduceIte,r114_8,tl,t1,t3,mx,mw,hks,zbA,q0,m21,m23,zau,q1]
   exact⟨by simp,e4⟩
 have d1:decide (x.kind=1)=false:=decide_eq_false c1
 by_cases c2:x.kind=2
 ·have d2:decide (x.kind=2)=true:=decide_eq_true c2
  have hw:x.want=⟨x.kind,x.day,wv0,gf0,x.a,0,x.n⟩:=by unfold Ent.want;rw[if_pos (.inr c2)]
  have ho:x.okk=(zbc x.a&&btw x.n 1 1000000000000):=by unfold Ent.okk;rw[if_neg c1,if_pos c2]
  have s1:=zbG (i:=21) (x:=.i .i64 x.a) (c':=(⟨x.kind,x.day,wv0,gf0,x.a,0,0⟩:Ent).cells) gw (by simp[Ent.cells]) rfl rfl rfl
  have gx3:(h2.put (h.next+1) (.cells (⟨x.kind,x.day,wv0,gf0,x.a,0,0⟩:Ent).cells)).get h.next=some (.cells x.cells):=by rw[zaa (by omega)];exact gx
  have m23:=(entL gx3).2.2.2.2.2.2.1
  have s2:=zbG (hh:=h2.put (h.next+1) (.cells (⟨x.kind,x.day,wv0,gf0,x.a,0,0⟩:Ent).cells)) (b:=h.next+1) (i:=23) (x:=.i .i64 x.n) (c':=x.want.cells) zab (by simp[Ent.cells]) rfl rfl (by rw[hw];rfl)
  have g4:((h2.put (h.next+1) (.cells (⟨x.kind,x.day,wv0,gf0,x.a,0,0⟩:Ent).cells)).put (h.next+1) (.cells x.want.cells)).get (h.next+1)=some (.cells x.want.cells):=zab
  have gx4:((h2.put (h.next+1) (.cells (⟨x.kind,x.day,wv0,gf0,x.a,0,0⟩:Ent).cells)).put (h.next+1) (.cells x.want.cells)).get h.next=some (.cells x.cells):=by rw[zaa (by omega)];exact gx3
  have e4:=(e2.put (show h.next≤h.next+1 by omega) (.cells (⟨x.kind,x.day,wv0,gf0,x.a,0,0⟩:Ent).cells)).put (show h.next≤h.next+1 by omega) (.cells x.want.cells)
  simp only[go_sem,↓reduceIte,r114_4,r114_5,r114_9,r114_10,r114_11,tl,t1,t3,l0,l21,m23,k1,d1,k2,d2,s1,s2]
  generalize (h2.put (h.next+1) (.cells (⟨x.kind,x.day,wv0,gf0,x.a,0,0⟩:Ent).cells)).put (h.next+1) (.cells x.want.cells)=h4 at g4 gx4 e4
  obtain⟨_,_,_,_,_,m21,m23,_,_,mx⟩:=entL gx4
  have mw:=(entL g4).2.2.2.2.2.2.2.2.2
  rw[hv,ho]
  cases q0:decide (x=x.want)
  ·simp only[go_sem,↓reduceIte,r114_12,tl,t1,t3,mx,mw,hks,zbA,q0]
   exact⟨by simp,e4⟩
  cases q1:zbc x.a
  ·simp only[go_sem,↓reduceIte,r114_12,tl,t1,t3,mx,mw,hks,zbA,q0,m21,zau,zbU,q1]
   exact⟨by simp,e4⟩
  ·simp only[go_sem,↓reduceIte,r114_12,tl,t1,t3,mx,mw,hks,zbA,q0,m21,m23,zau,zbU,q1]
   exact⟨by simp,e4⟩
 have d2:decide (x.kind=2)=false:=decide_eq_false c2
 have c12:¬ (x.kind=1∨x.kind=2):=by omega
 by_cases c3:x.kind=3
 ·have d3:decide (x.kind=3)=true:=decide_eq_true c3
  have hw:x.want=⟨x.kind,x.day,x.w,gf0,0,0,0⟩:=by unfold Ent.want;rw[if_neg c12,if_pos c3]
  have ho:x.okk=(zbv x.w&&decide (x.w.day=x.day)):=by unfold Ent.okk;rw[if_neg c1,if_neg c2,if_pos c3]
  have s1:stV h2 9 (.p (h.next+1) 2) (.agg x.w.cells)=some (h2.put (h.next+1) (.cells x.want.cells)):=by
   rw[hw]
   simp[stV,V.cells,storeAt,gw,lay,V.oneCell,Ent.cells,Wv.cells,wv0,gf0]
  have g4:(h2.put (h.next+1) (.cells x.want.cells)).get (h.next+1)=some (.cells x.want.cells):=zab
  have gx4:(h2.put (h.next+1) (.cells x.want.cells)).get h.next=some (.cells x.cells):=by rw[zaa (by omega)];exact gx
  have e4:=e2.put (show h.next≤h.next+1 by omega) (.cells x.want.cells)
  have nlt4:h.next+1<(h2.put (h.next+1) (.cells x.want.cells)).next:=nlt
  simp only[go_sem,↓reduceIte,r114_4,r114_5,r114_9,r114_13,r114_14,tl,t1,t3,l0,k1,d1,k2,d2,k3,d3,lw,s1]
  generalize h2.put (h.next+1) (.cells x.want.cells)=h4 at g4 gx4 e4 nlt4
  obtain⟨_,m1,_,m3,_,_,_,mlw,_,mx⟩:=entL gx4
  have mw:=(entL g4).2.2.2.2.2.2.2.2.2
  rw[hv,ho]
  cases q0:decide (x=x.want)
  ·simp only[go_sem,↓reduceIte,r114_15,tl,t1,t3,mx,mw,hks,zbA,q0]
   exact⟨by simp,e4⟩
  simp only[go_sem,↓reduceIte,r114_15,tl,t1,t3,mx,mw,hks,zbA,q0,mlw]
  refine fn_validR.mono ?_
  rintro u h5 ⟨rfl,e5⟩
  have gx5:=e5.get (by omega) gx4
  obtain⟨_,m1,_,m3,_,_,_,_,_,_⟩:=entL gx5
  have e05:=e4.trans e5
  cases v1:zbv x.w
  ·simp only[go_sem,↓reduceIte,tl,t1,t3]
   exact⟨by simp,e05⟩
  ·simp only[go_sem,↓reduceIte,tl,t1,t3,m1,m3]
   exact⟨by simp,e05⟩
 have d3:decide (x.kind=3)=false:=decide_eq_false c3
 by_cases c4:x.kind=4
 ·have d4:decide (x.kind=4)=true:=decide_eq_true c4
  have hw:x.want=⟨x.kind,x.day,{ wv0 with id:=x.w.id },gf0,0,0,0⟩:=by unfold Ent.want;rw[if_neg c12,if_neg c3,if_pos c4]
  have ho:x.okk=btw x.w.id 1 500:=by unfold Ent.okk;rw[if_neg c1,if_neg c2,if_neg c3,if_pos c4]
  have s1:=zbG (i:=2) (x:=.i .i64 x.w.id) (c':=x.want.cells) gw (by simp[Ent.cells]) rfl rfl (by rw[hw];rfl)
  have g4:(h2.put (h.next+1) (.cells x.want.cells)).get (h.next+1)=some (.cells x.want.cells):=zab
  have gx4:(h2.put (h.next+1) (.cells x.want.cells)).get h.next=some (.cells x.cells):=by rw[zaa (by omega)];exact gx
  have e4:=e2.put (show h.next≤h.next+1 by omega) (.cells x.want.cells)
  simp only[go_sem,↓reduceIte,r114_4,r114_5,r114_9,r114_13,r114_16,r114_17,tl,t1,t3,l0,k1,d1,k2,d2,k3,d3,k4,d4,l2,s1]
  generalize h2.put (h.next+1) (.cells x.want.cells)=h4 at g4 gx4 e4
  obtain⟨_,_,m2,_,_,_,_,_,_,mx⟩:=entL gx4
  have mw:=(entL g4).2.2.2.2.2.2.2.2.2
  rw[hv,ho]
  cases q0:decide (x=x.want)
  ·simp only[go_sem,↓reduceIte,r114_18,tl,t1,t3,mx,mw,hks,zbA,q0]
   exact⟨by simp,e4⟩
  ·simp only[go_sem,↓reduceIte,r114_18,tl,t1,t3,mx,mw,hks,zbA,q0,m2,zau]
   exact⟨by simp,e4⟩
 have d4:decide (x.kind=4)=false:=decide_eq_false c4
 by_cases c5:x.kind=5
 ·have d5:decide (x.kind=5)=true:=decide_eq_true c5
  have hw:x.want=⟨x.kind,x.day,wv0,⟨x.g.id,x.g.day,x.g.frm,x.g.to,x.g.cur,x.g.n,0,0,0,x.g.ret⟩,0,0,0⟩:=by unfold Ent.want;rw[if_neg c12,if_neg c3,if_neg c4,if_pos c5]
  have ho:x.okk=zcu x:=by unfold Ent.okk;rw[if_neg c1,if_neg c2,if_neg c3,if_neg c4,if_pos c5]
  have hw5:decide (x=⟨x.kind,x.day,wv0,⟨x.g.id,x.day,x.g.frm,x.g.to,x.g.cur,x.g.n,0,0,0,x.g.ret⟩,0,0,0⟩)=(decide (x=x.want)&&decide (x.g.day=x.day)):=by
   by_cases q:x.g.day=x.day
   ·rw[hw,q,decide_eq_true (rfl:x.day=x.day),Bool.and_true]
   ·rw[decide_eq_false q,Bool.and_false]
    exact decide_eq_false fun e=>q (by rw[e])
  have z10:(h2.new (.cells gz)).get h2.next=some (.cells gz):=zac rfl
  have hgz:([.i .i64 0,.i .i64 0,.i .i64 0,.i .i64 0,.i .u8 0,.i .i64 0,.i .i64 0,.i .u8 0,.i .i64 0,.i .i64 0]:List V)=gz:=rfl
  have sg:=zal (k:=10) (d:=x.g.cells) z10 rfl rfl (zdN _)
  simp only[hgz,go_sem,↓reduceIte,r114_4,r114_5,r114_9,r114_13,r114_16,r114_19,r114_20,tl,t1,t3,l0,k1,d1,k2,d2,k3,d3,k4,d4,k5,d5,lg,sg]
  generalize hh3:(h2.new (.cells gz)).put h2.next (.cells x.g.cells)=h3
  have e3:Ext h h3:=by subst hh3;exact (e2.new _).put (by omega) _
  have gx3:h3.get h.next=some (.cells x.cells):=by subst hh3;rw[zaa (by omega),zaf (by omega)];exact gx
  have gw3:h3.get (h.next+1)=some (.cells (⟨x.kind,x.day,wv0,gf0,0,0,0⟩:Ent).cells):=by subst hh3;rw[zaa (by omega),zaf (by omega)];exact gw
  have gg3:h3.get h2.next=some (.cells x.g.cells):=by subst hh3;exact zab
  clear hh3 sg z10
  have m0:ldV h3 (.p h2.next 0)=some (.i .i64 x.g.id):=zad gg3 rfl
  have m2:ldV h3 (.p h2.next 2)=some (.i .i64 x.g.frm):=zad gg3 rfl
  have m3:ldV h3 (.p h2.next 3)=some (.i .i64 x.g.to):=zad gg3 rfl
  have m4:ldV h3 (.p h2.next 4)=some (.i .u8 (x.g.cur:Int)):=zad gg3 rfl
  have m5:ldV h3 (.p h2.next 5)=some (.i .i64 x.g.n):=zad gg3 rfl
  have m9:ldV h3 (.p h2.next 9)=some (.i .i64 x.g.ret):=zad gg3 rfl
  have md:ldV h3 (.p h.next 1)=some (.i .i64 x.day):=(entL gx3).2.1
  generalize hW:(⟨x.kind,x.day,wv0,⟨x.g.id,x.day,x.g.frm,x.g.to,x.g.cur,x.g.n,0,0,0,x.g.ret⟩,0,0,0⟩:Ent)=W5 at hw5
  have s1:stV h3 10 (.p (h.next+1) 11) (.agg (⟨x.g.id,x.day,x.g.frm,x.g.to,x.g.cur,x.g.n,0,0,0,x.g.ret⟩:Gf).cells)=some (h3.put (h.next+1) (.cells W5.cells)):=by
   rw[← hW]
   simp[stV,V.cells,storeAt,gw3,lay,V.oneCell,Ent.cells,Gf.cells,wv0,gf0]
  have hfg:∀(t:List V) (x0 x1 x2 x3 x4 x5 x9:X),x0.ev t=.i .i64 x.g.id→x1.ev t=.i .i64 x.day→x2.ev t=.i .i64 x.g.frm→x3.ev t=.i .i64 x.g.to→x4.ev t=.i .u8 (x.g.cur:Int)→x5.ev t=.i .i64 x.g.n→x9.ev t=.i .i64 x.g.ret →
   fill t gz [(0,1,x0),(1,1,x1),(2,1,x2),(3,1,x3),(4,1,x4),(5,1,x5),(9,1,x9)]=some (⟨x.g.id,x.day,x.g.frm,x.g.to,x.g.cur,x.g.n,0,0,0,x.g.ret⟩:Gf).cells:=by
   intro t x0 x1 x2 x3 x4 x5 x9 e0 e1 e2 e3 e4 e5 e9
   simp[fill,lay,gz,e0,e1,e2,e3,e4,e5,e9,V.cells,Gf.cells]
  simp only[hgz,go_sem,↓reduceIte,r114_21,tl,t1,t3,m0,md,m2,m3,m4,m5,m9]
  rw[hfg _ _ _ _ _ _ _ _ (by simp only[go_sem,↓reduceIte,tl]) (by simp only[go_sem,↓reduceIte,tl]) (by simp only[go_sem,↓reduceIte,tl]) (by simp only[go_sem,↓reduceIte,tl]) (by simp only[go_sem,↓reduceIte,tl]) (by simp only[go_sem,↓reduceIte,tl]) (by simp only[go_sem,↓reduceIte,tl])]
  simp only[go_sem,↓reduceIte,tl,t1,t3,s1]
  have g4:(h3.put (h.next+1) (.cells W5.cells)).get (h.next+1)=some (.cells W5.cells):=zab
  have gx4:(h3.put (h.next+1) (.cells W5.cells)).get h.next=some (.cells x.cells):=by rw[zaa (by omega)];exact gx3
  have gg4:(h3.put (h.next+1) (.cells W5.cells)).get h2.next=some (.cells x.g.cells):=by rw[zaa (by omega)];exact gg3
  have e4:=e3.put (show h.next≤h.next+1 by omega) (.cells W5.cells)
  generalize h3.put (h.next+1) (.cells W5.cells)=h4 at g4 gx4 gg4 e4
  clear m0 m2 m3 m4 m5 m9 md
  have n0:ldV h4 (.p h2.next 0)=some (.i .i64 x.g.id):=zad gg4 rfl
  have n2:ldV h4 (.p h2.next 2)=some (.i .i64 x.g.frm):=zad gg4 rfl
  have n3:ldV h4 (.p h2.next 3)=some (.i .i64 x.g.to):=zad gg4 rfl
  have n4:ldV h4 (.p h2.next 4)=some (.i .u8 (x.g.cur:Int)):=zad gg4 rfl
  have n5:ldV h4 (.p h2.next 5)=some (.i .i64 x.g.n):=zad gg4 rfl
  have n9:ldV h4 (.p h2.next 9)=some (.i .i64 x.g.ret):=zad gg4 rfl
  have hcv:zca .i64 (.i .u8 (x.g.cur:Int))=some (.i .i64 (x.g.cur:Int)):=zcn hcur
  have mx:=(entL gx4).2.2.2.2.2.2.2.2.2
  have mw:=(entL g4).2.2.2.2.2.2.2.2.2
  refine zbs (fun t=>t.length=180∧nth t 1=.p h.next 0∧nth t 3=.p (h.next+1) 0∧nth t 4=.p h2.next 0) ?_ ?_
  ·refine⟨?_,?_,?_,?_⟩<;>simp only[go_sem,↓reduceIte,tl,t1,t3]
  clear t1 t3 tl t
  rintro t ⟨tl,t1,t3,t4⟩
  rw[hv,ho]
  have vf:(decide (x=W5)=false)→(zcu x&&decide (x=x.want))=false:=by
   intro q
   rw[hw5]at q
   cases qa:decide (x=x.want)
   ·simp
   ·rw[qa,Bool.true_and]at q
    simp[zcu,q]
  have vt:(decide (x=W5)=true)→(zcu x&&decide (x=x.want))=((btw x.g.id 1 500&&zbc x.g.frm&&zbc x.g.to && !decide (x.g.frm=x.g.to)&&btw x.g.ret 0 500 && !decide (x.g.ret=x.g.id))&&(btw (x.g.cur:Int) 1 2&&btw x.g.n 1 1000000)):=by
   intro q
   rw[hw5,Bool.and_eq_true]at q
   unfold zcu
   rw[q.1,q.2,Bool.true_and,Bool.and_true]
  cases q0:decide (x=W5)
  ·have vv:=vf q0
   simp only[go_sem,↓reduceIte,r114_22,tl,t1,t3,t4,mx,mw,hks,zbA,q0,vv]
   exact e4
  have vv:=vt q0
  rw[vv]
  cases q1:btw x.g.id 1 500
  ·simp only[go_sem,↓reduceIte,r114_22,tl,t1,t3,t4,mx,mw,hks,zbA,q0,n0,zau,zbU,q1]
   exact⟨by simp,e4⟩
  cases q2:zbc x.g.frm
  ·simp only[go_sem,↓reduceIte,r114_22,tl,t1,t3,t4,mx,mw,hks,zbA,q0,n0,n2,zau,zbU,q1,q2]
   exact⟨by simp,e4⟩
  cases q3:zbc x.g.to
  ·simp only[go_sem,↓reduceIte,r114_22,tl,t1,t3,t4,mx,mw,hks,zbA,q0,n0,n2,n3,zau,zbU,q1,q2,q3]
   exact⟨by simp,e4⟩
  by_cases q4:x.g.frm=x.g.to
  ·simp only[go_sem,↓reduceIte,r114_22,tl,t1,t3,t4,mx,mw,hks,zbA,q0,n0,n2,n3,zau,zbU,q1,q2,q3,q4]
   exact⟨by simp,e4⟩
  cases q5:btw (x.g.cur:Int) 1 2
  ·simp only[go_sem,↓reduceIte,r114_22,tl,t1,t3,t4,mx,mw,hks,zbA,q0,n0,n2,n3,n4,hcv,zau,zbU,q1,q2,q3,q4,q5]
   exact⟨by simp,e4⟩
  cases q6:btw x.g.n 1 1000000
  ·simp only[go_sem,↓reduceIte,r114_22,tl,t1,t3,t4,mx,mw,hks,zbA,q0,n0,n2,n3,n4,n5,hcv,zau,zbU,q1,q2,q3,q4,q5,q6]
   exact⟨by simp,e4⟩
  cases q7:btw x.g.ret 0 500
  ·simp only[go_sem,↓reduceIte,r114_22,tl,t1,t3,t4,mx,mw,hks,zbA,q0,n0,n2,n3,n4,n5,n9,hcv,zau,zbU,q1,q2,q3,q4,q5,q6,q7]
   exact⟨by simp,e4⟩
  by_cases q8:x.g.ret=x.g.id
  ·rw[q8]at q7
   simp only[go_sem,↓reduceIte,r114_22,tl,t1,t3,t4,mx,mw,hks,zbA,q0,n0,n2,n3,n4,n5,n9,hcv,zau,zbU,q1,q2,q3,q4,q5,q6,q7,q8]
   exact⟨by simp,e4⟩
  ·simp only[go_sem,↓reduceIte,r114_22,tl,t1,t3,t4,mx,mw,hks,zbA,q0,n0,n2,n3,n4,n5,n9,hcv,zau,zbU,q1,q2,q3,q4,q5,q6,q7,q8]
   exact⟨by simp[q4,q8],e4⟩
 have d5:decide (x.kind=5)=false:=decide_eq_false c5
 by_cases c67:x.kind=6∨x.kind=7
 ·have hw:x.want=⟨x.kind,x.day,wv0,{ gf0 with id:=x.g.id },0,0,0⟩:=by unfold Ent.want;rw[if_neg c12,if_neg c3,if_neg c4,if_neg c5,if_pos c67]
  have ho:x.okk=btw x.g.id 1 500:=by unfold Ent.okk;rw[if_neg c1,if_neg c2,if_neg c3,if_neg c4,if_neg c5,if_pos c67]
  have s1:=zbG (i:=11) (x:=.i .i64 x.g.id) (c':=x.want.cells) gw (by simp[Ent.cells]) rfl rfl (by rw[hw];rfl)
  have g4:(h2.put (h.next+1) (.cells x.want.cells)).get (h.next+1)=some (.cells x.want.cells):=zab
  have gx4:(h2.put (h.next+1) (.cells x.want.cells)).get h.next=some (.cells x.cells):=by rw[zaa (by omega)];exact gx
  have e4:=e2.put (show h.next≤h.next+1 by omega) (.cells x.want.cells)
  obtain⟨_,_,_,_,m11,_,_,_,_,mx⟩:=entL gx4
  have mw:=(entL g4).2.2.2.2.2.2.2.2.2
  rw[hv,ho]
  by_cases c6:x.kind=6
  ·have d6:decide (x.kind=6)=true:=decide_eq_true c6
   cases q0:decide (x=x.want)
   ·simp only[go_sem,↓reduceIte,r114_4,r114_5,r114_9,r114_13,r114_16,r114_19,r114_23,r114_25,r114_26,tl,t1,t3,l0,k1,d1,k2,d2,k3,d3,k4,d4,k5,d5,k6,d6,l11,s1,mx,mw,hks,zbA,q0]
    exact⟨by simp,e4⟩
   ·simp only[go_sem,↓reduceIte,r114_4,r114_5,r114_9,r114_13,r114_16,r114_19,r114_23,r114_25,r114_26,tl,t1,t3,l0,k1,d1,k2,d2,k3,d3,k4,d4,k5,d5,k6,d6,l11,s1,mx,mw,hks,zbA,q0,m11,zau]
    exact⟨by simp,e4⟩
  ·have d6:decide (x.kind=6)=false:=decide_eq_false c6
   have d7:decide (x.kind=7)=true:=decide_eq_true (by omega)
   cases q0:decide (x=x.want)
   ·simp only[go_sem,↓reduceIte,r114_4,r114_5,r114_9,r114_13,r114_16,r114_19,r114_23,r114_24,r114_25,r114_26,tl,t1,t3,l0,k1,d1,k2,d2,k3,d3,k4,d4,k5,d5,k6,d6,k7,d7,l11,s1,mx,mw,hks,zbA,q0]
    exact⟨by simp,e4⟩
   ·simp only[go_sem,↓reduceIte,r114_4,r114_5,r114_9,r114_13,r114_16,r114_19,r114_23,r114_24,r114_25,r114_26,tl,t1,t3,l0,k1,d1,k2,d2,k3,d3,k4,d4,k5,d5,k6,d6,k7,d7,l11,s1,mx,mw,hks,zbA,q0,m11,zau]
    exact⟨by simp,e4⟩
 have d6:decide (x.kind=6)=false:=decide_eq_false (by omega)
 have d7:decide (x.kind=7)=false:=decide_eq_false (by omega)
 have ho:x.okk=false:=by unfold Ent.okk;rw[if_neg c1,if_neg c2,if_neg c3,if_neg c4,if_neg c5,if_neg c67]
 rw[hv,ho]
 simp only[go_sem,↓reduceIte,r114_4,r114_5,r114_9,r114_13,r114_16,r114_19,r114_23,r114_24,r114_27,tl,t1,t3,l0,k1,d1,k2,d2,k3,d3,k4,d4,k5,d5,k6,d6,k7,d7]
 exact⟨by simp,e2⟩
end
end Go.Air
set_option maxRecDepth 100000
namespace Go.Air
open Go.Air.Try
section
variable {h:H} {S Sp:V→H→Prop}
theorem t2067:tb1 67=some a67:=by kernel_rfl
theorem zoF {x:Ent} (hcur:x.g.cur<256):WC tb1 (.fn 67 [] []) [.agg x.cells] h fun u h'=>u=putE x∧Ext h h':=by
 refine (zay t2067).2 ?_
 have hc:(V.agg x.cells).cells=x.cells:=rfl
 simp only[go_sem,↓reduceIte,r67_0,hc]
 have ex:Ext h (h.new (.cells x.cells)):=(Ext.refl h).new _
 have gx:(h.new (.cells x.cells)).get h.next=some (.cells x.cells):=zac rfl
 have n1:h.next<(h.new (.cells x.cells)).next:=Nat.lt_succ_self _
 generalize h.new (.cells x.cells)=h1 at ex gx n1
 have lx:=zar gx (zaI x)
 simp only[go_sem,↓reduceIte,r67_1,lx]
 refine (zjr hcur).mono ?_
 rintro u h2 ⟨rfl,e2⟩
 have ex2:=ex.trans e2
 have gx2:=e2.get n1 gx
 have n2:=Nat.lt_of_lt_of_le n1 e2.nx
 cases hf:x.formed
 ·have hv:putE x=.tup [.s [],.i .i64 1]:=by unfold putE;rw[hf];rfl
  simp only[go_sem,↓reduceIte,Bool.false_eq_true,r67_2,hv]
  exact ex2
 have hv:putE x=.tup [.s (itoa x.day++[32]++zas x.kind++zcI x.vals),.i .i64 0]:=by unfold putE;rw[hf];rfl
 obtain⟨l0,ld1,_,_,_,l21,l23,lw,lg,_⟩:=entL gx2
 have hgz:([.i .i64 0,.i .i64 0,.i .i64 0,.i .i64 0,.i .u8 0,.i .i64 0,.i .i64 0,.i .u8 0,.i .i64 0,.i .i64 0]:List V)=gz:=rfl
 have n3:(h2.new (.cells (List.replicate 9 (.i .i64 0)))).next=h2.next+1:=rfl
 have sw:=zal (h:=h2.new (.cells (List.replicate 9 (.i .i64 0)))) (b:=h2.next) (k:=9) (d:=x.w.cells) (zac rfl) rfl rfl (wv_one _)
 generalize hh3:(h2.new (.cells (List.replicate 9 (.i .i64 0)))).put h2.next (.cells x.w.cells)=h3 at sw
 have e3:Ext h2 h3:=by subst hh3;exact ((Ext.refl h2).new _).put (Nat.le_refl _) _
 have gw3:h3.get h2.next=some (.cells x.w.cells):=by subst hh3;exact zab
 have nn3:h3.next=h2.next+1:=by subst hh3;rfl
 have lg3:ldnV h3 10 (.p h.next 11)=some (.agg x.g.cells):=(entL (e3.get n2 gx2)).2.2.2.2.2.2.2.2.1
 have sg:=zal (h:=h3.new (.cells gz)) (b:=h3.next) (k:=10) (d:=x.g.cells) (zac rfl) rfl rfl (zdN _)
 generalize hh4:(h3.new (.cells gz)).put h3.next (.cells x.g.cells)=h4 at sg
 have e4:Ext h3 h4:=by subst hh4;exact ((Ext.refl h3).new _).put (Nat.le_refl _) _
 have gw4:h4.get h2.next=some (.cells x.w.cells):=e4.get (by omega) gw3
 have gg4:h4.get h3.next=some (.cells x.g.cells):=by subst hh4;exact zab
 have gx4:=(e3.trans e4).get n2 gx2
 have ex4:=(ex2.trans e3).trans e4
 simp only[hgz,go_sem,↓reduceIte,r67_3,r67_4,lw,sw,lg3,sg]
 clear hh3 hh4 sw sg l0 ld1 l21 l23
 obtain⟨l0,ld1,_,_,_,l21,l23,_,_,_⟩:=entL gx4
 refine zbs (fun t=>t.length=98∧nth t 1=.p h.next 0∧nth t 4=.p h2.next 0∧nth t 5=.p h3.next 0) (by simp only[go_sem,↓reduceIte]) ?_
 rintro t ⟨tl,t1,t4,t5⟩
 generalize h2.next=wb at gw4 t4
 generalize h3.next=gb at gg4 t5
 have w0:ldV h4 (.p wb 0)=some (.i .i64 x.w.id):=zad gw4 rfl
 have w2:ldV h4 (.p wb 2)=some (.i .i64 x.w.signer):=zad gw4 rfl
 have w3:ldV h4 (.p wb 3)=some (.i .i64 x.w.giver):=zad gw4 rfl
 have w4:ldV h4 (.p wb 4)=some (.i .i64 x.w.taker):=zad gw4 rfl
 have w5:ldV h4 (.p wb 5)=some (.i .i64 x.w.under):=zad gw4 rfl
 have w6:ldV h4 (.p wb 6)=some (.i .i64 x.w.over):=zad gw4 rfl
 have w7:ldV h4 (.p wb 7)=some (.i .i64 x.w.since):=zad gw4 rfl
 have w8:ldV h4 (.p wb 8)=some (.i .i64 x.w.til):=zad gw4 rfl
 have g0:ldV h4 (.p gb 0)=some (.i .i64 x.g.id):=zad gg4 rfl
 have g2:ldV h4 (.p gb 2)=some (.i .i64 x.g.frm):=zad gg4 rfl
 have g3:ldV h4 (.p gb 3)=some (.i .i64 x.g.to):=zad gg4 rfl
 have g4:ldV h4 (.p gb 4)=some (.i .u8 (x.g.cur:Int)):=zad gg4 rfl
 have g5:ldV h4 (.p gb 5)=some (.i .i64 x.g.n):=zad gg4 rfl
 have g9:ldV h4 (.p gb 9)=some (.i .i64 x.g.ret):=zad gg4 rfl
 have hcv:zca .i64 (.i .u8 (x.g.cur:Int))=some (.i .i64 (x.g.cur:Int)):=zcn hcur
 have k1:binV .eql (.i .u8 (x.kind:Int)) (.i .u8 1)=some (.b (decide (x.kind=1))):=zaj (j:=1)
 have k2:binV .eql (.i .u8 (x.kind:Int)) (.i .u8 2)=some (.b (decide (x.kind=2))):=zaj (j:=2)
 have k3:binV .eql (.i .u8 (x.kind:Int)) (.i .u8 3)=some (.b (decide (x.kind=3))):=zaj (j:=3)
 have k4:binV .eql (.i .u8 (x.kind:Int)) (.i .u8 4)=some (.b (decide (x.kind=4))):=zaj (j:=4)
 have k5:binV .eql (.i .u8 (x.kind:Int)) (.i .u8 5)=some (.b (decide (x.kind=5))):=zaj (j:=5)
 have k6:binV .eql (.i .u8 (x.kind:Int)) (.i .u8 6)=some (.b (decide (x.kind=6))):=zaj (j:=6)
 have hd:=(zaE hf).1
 have hkd:=zbf hf
 have vb:=zcP hf
 have row:∀{ns:List Int} {w:List Nat},x.vals=ns→zas x.kind=w→ns.length≤8→∀{Q:V→H→Prop},(∀h5,Ext h h5→Q (.s (itoa x.day++[32]++zas x.kind++zcI x.vals)) h5)→WC tb1 (.fn 115 [] []) [.i .i64 x.day,.s w,.sl h4.next 0 ns.length ns.length none] (h4.new (.cells (ns.map (V.i .i64)))) Q:=by
  intro ns w hvs hw hl Q K
  subst hvs
  subst hw
  have wl:(zas x.kind).length≤100:=by
   have:∀k:Fin 8,(zas k.val).length≤100:=by decide
   exact this ⟨x.kind,by omega⟩
  refine (fn_rowL (Own.lit (esz:=1) (Ext.refl h4) (x.vals.map (V.i .i64)) x.vals.length (by simp)).1.sl (by omega) wl vb (by omega)).mono ?_
  rintro u h5 ⟨rfl,e5⟩
  exact K _ ((ex4.trans ((Ext.refl h4).new _)).trans e5)
 have f1:∀a:Int,zhQ (.i .i64 a)=some ([a].map (V.i .i64)):=fun _=>rfl
 have f2:∀a b:Int,zqH (.i .i64 a) (.i .i64 b)=some ([a,b].map (V.i .i64)):=fun _ _=>rfl
 rw[hv]
 by_cases c1:x.kind=1
 ·have d1:decide (x.kind=1)=true:=decide_eq_true c1
  have hvs:x.vals=[x.a,x.n]:=by unfold Ent.vals;rw[if_pos (.inl c1)]
  simp only[go_sem,↓reduceIte,r67_5,r67_6,r67_7,tl,t1,l0,k1,d1,ld1,l21,l23,f2]
  refine row hvs (by rw[c1];rfl) (by simp) ?_
  intro h5 e5
  simp only[go_sem,↓reduceIte,tl]
  exact e5
 have d1:decide (x.kind=1)=false:=decide_eq_false c1
 by_cases c2:x.kind=2
 ·have d2:decide (x.kind=2)=true:=decide_eq_true c2
  have hvs:x.vals=[x.a,x.n]:=by unfold Ent.vals;rw[if_pos (.inr c2)]
  simp only[go_sem,↓reduceIte,r67_5,r67_6,r67_8,r67_9,tl,t1,l0,k1,d1,k2,d2,ld1,l21,l23,f2]
  refine row hvs (by rw[c2];rfl) (by simp) ?_
  intro h5 e5
  simp only[go_sem,↓reduceIte,tl]
  exact e5
 have d2:decide (x.kind=2)=false:=decide_eq_false c2
 have c12:¬ (x.kind=1∨x.kind=2):=by omega
 by_cases c3:x.kind=3
 ·have d3:decide (x.kind=3)=true:=decide_eq_true c3
  have hvs:x.vals=[x.w.id,x.w.signer,x.w.giver,x.w.taker,x.w.under,x.w.over,x.w.since,x.w.til]:=by unfold Ent.vals;rw[if_neg c12,if_pos c3]
  simp only[go_sem,↓reduceIte,r67_5,r67_6,r67_8,r67_10,r67_11,tl,t1,t4,l0,k1,d1,k2,d2,k3,d3,ld1,w0,w2,w3,w4,w5,w6,w7,w8]
  rw[znO (v0:=.i .i64 x.w.id) (v1:=.i .i64 x.w.signer) (v2:=.i .i64 x.w.giver) (v3:=.i .i64 x.w.taker) (v4:=.i .i64 x.w.under) (v5:=.i .i64 x.w.over) (v6:=.i .i64 x.w.since) (v7:=.i .i64 x.w.til)
   (by simp only[go_sem,↓reduceIte,tl]) (by simp only[go_sem,↓reduceIte,tl]) (by simp only[go_sem,↓reduceIte,tl]) (by simp only[go_sem,↓reduceIte,tl]) (by simp only[go_sem,↓reduceIte,tl]) (by simp only[go_sem,↓reduceIte,tl]) (by simp only[go_sem,↓reduceIte,tl]) (by simp only[go_sem,↓reduceIte,tl]) rfl rfl rfl rfl rfl rfl rfl rfl]
  simp only[go_sem,↓reduceIte,tl]
  refine row (ns:=[x.w.id,x.w.signer,x.w.giver,x.w.taker,x.w.under,x.w.over,x.w.since,x.w.til]) hvs (by rw[c3];rfl) (by simp) ?_
  intro h5 e5
  simp only[go_sem,↓reduceIte,tl]
  exact e5
 have d3:decide (x.kind=3)=false:=decide_eq_false c3
 by_cases c4:x.kind=4
 ·have d4:decide (x.kind=4)=true:=decide_eq_true c4
  have hvs:x.vals=[x.w.id]:=by unfold Ent.vals;rw[if_neg c12,if_neg c3,if_pos c4]
  simp only[go_sem,↓reduceIte,r67_5,r67_6,r67_8,r67_10,r67_12,r67_13,tl,t1,t4,l0,k1,d1,k2,d2,k3,d3,k4,d4,ld1,w0,f1]
  refine row hvs (by rw[c4];rfl) (by simp) ?_
  intro h5 e5
  simp only[go_sem,↓reduceIte,tl]
  exact e5
 have d4:decide (x.kind=4)=false:=decide_eq_false c4
 by_cases c5:x.kind=5
 ·have d5:decide (x.kind=5)=true:=decide_eq_true c5
  have hvs:x.vals=[x.g.id,x.g.frm,x.g.to,(x.g.cur:Int),x.g.n,x.g.ret]:=by unfold Ent.vals;rw[if_neg c12,if_neg c3,if_neg c4,if_pos c5]
  simp only[go_sem,↓reduceIte,r67_5,r67_6,r67_8,r67_10,r67_12,r67_14,r67_15,tl,t1,t5,l0,k1,d1,k2,d2,k3,d3,k4,d4,k5,d5,ld1,g0,g2,g3,g4,g5,g9,hcv]
  rw[zqG (v0:=.i .i64 x.g.id) (v1:=.i .i64 x.g.frm) (v2:=.i .i64 x.g.to) (v3:=.i .i64 (x.g.cur:Int)) (v4:=.i .i64 x.g.n) (v5:=.i .i64 x.g.ret)
   (by simp only[go_sem,↓reduceIte,tl]) (by simp only[go_sem,↓reduceIte,tl]) (by simp only[go_sem,↓reduceIte,tl]) (by simp only[go_sem,↓reduceIte,tl]) (by simp only[go_sem,↓reduceIte,tl]) (by simp only[go_sem,↓reduceIte,tl]) rfl rfl rfl rfl rfl rfl]
  simp only[go_sem,↓reduceIte,tl]
  refine row (ns:=[x.g.id,x.g.frm,x.g.to,(x.g.cur:Int),x.g.n,x.g.ret]) hvs (by rw[c5];rfl) (by simp) ?_
  intro h5 e5
  simp only[go_sem,↓reduceIte,tl]
  exact e5
 have d5:decide (x.kind=5)=false:=decide_eq_false c5
 have hvs:x.vals=[x.g.id]:=by unfold Ent.vals;rw[if_neg c12,if_neg c3,if_neg c4,if_neg c5]
 by_cases c6:x.kind=6
 ·have d6:decide (x.kind=6)=true:=decide_eq_true c6
  simp only[go_sem,↓reduceIte,r67_5,r67_6,r67_8,r67_10,r67_12,r67_14,r67_16,r67_17,tl,t1,t5,l0,k1,d1,k2,d2,k3,d3,k4,d4,k5,d5,k6,d6,ld1,g0,f1]
  refine row hvs (by rw[c6];rfl) (by simp) ?_
  intro h5 e5
  simp only[go_sem,↓reduceIte,tl]
  exact e5
 ·have d6:decide (x.kind=6)=false:=decide_eq_false c6
  have c7:x.kind=7:=by omega
  simp only[go_sem,↓reduceIte,r67_5,r67_6,r67_8,r67_10,r67_12,r67_14,r67_16,r67_18,tl,t1,t5,l0,k1,d1,k2,d2,k3,d3,k4,d4,k5,d5,k6,d6,ld1,g0,f1]
  refine row hvs (by rw[c7];rfl) (by simp) ?_
  intro h5 e5
  simp only[go_sem,↓reduceIte,tl]
  exact e5
end
end Go.Air
set_option maxRecDepth 100000
namespace Go.Air
open Go.Air.Try
theorem zkI {n:Int} (h0:0≤n) (h1:n≤1000000000000):valN (itoa n)=n:=by
 rw[zfh h0]
 have hs:=zcx 13 20 n.toNat [] (by omega) (by omega)
 have hne:=zlQ n.toNat
 have hlen:1≤(zaV n.toNat).length:=by
  rcases hd:zaV n.toNat with _|⟨c,r⟩
  ·exact absurd hd hne
  ·simp
 have hs':(zaV n.toNat).length≤13:=by
  unfold zaV
  simpa using hs
 have hall:((zaV n.toNat).all fun c=>decide (48≤c)&&decide (c≤57))=true:=by
  rw[List.all_eq_true]
  intro c hc
  have:=zjw n.toNat c hc
  simp[this.1,this.2]
 have hv:digN 0 (zaV n.toNat)=n.toNat:=by
  unfold zaV
  rw[ziH 20 n.toNat [] (by omega) (by omega)];rfl
 unfold valN
 rw[if_neg (by omega),if_pos hall,hv]
 omega
theorem zjl {n:Int} (h0:0≤n) (h1:n≤1000000000000):(itoa n).length≤13:=by
 rw[zfh h0]
 have hs:=zcx 13 20 n.toNat [] (by omega) (by omega)
 unfold zaV
 simpa using hs
def nsAt (ws:List (List Nat)) (j:Nat):Int:=match ws[j+2]? with
 |some w=>valN w
 |none=>0
theorem zlf {ws:List (List Nat)} {j:Nat} {w:List Nat} (h:ws[j+2]? = some w):nsAt ws j=valN w:=by unfold nsAt;rw[h]
theorem zlg {ws:List (List Nat)} {j:Nat} (h:ws[j+2]? = none):nsAt ws j=0:=by unfold nsAt;rw[h]
def nsR (ws:List (List Nat)):List Int:=(List.range 10).map (nsAt ws)
def entR (day:Int) (k:Nat) (ns:List Int):Option Ent:=
 if k=1∨k=2 then some ⟨k,day,wv0,gf0,ns.getD 0 0,0,ns.getD 1 0⟩
 else if k=3 then some (entW k day ns)
 else if k=4 then some ⟨k,day,{ wv0 with id:=ns.getD 0 0 },gf0,0,0,0⟩
 else if k=5 then (if ns.getD 3 0<1∨2<ns.getD 3 0 then none else some (zgV k day ns))
 else if k=6∨k=7 then some ⟨k,day,wv0,{ gf0 with id:=ns.getD 0 0 },0,0,0⟩
 else some ⟨k,day,wv0,gf0,0,0,0⟩
def zhy (ws:List (List Nat)):Option Ent:=entR (valN (ws.getD 0 [])) (zbN (ws.getD 1 [])) (nsR ws)
theorem nsR_get (ws:List (List Nat)) {j:Nat} (hj:j<10):(nsR ws).getD j 0=nsAt ws j:=by
 unfold nsR
 rw[List.getD_eq_getElem?_getD,List.getElem?_map,List.getElem?_range hj]
 rfl
theorem zpN {x:Ent} (h:x.formed=true) {j:Nat} (hj:j<10):(nsR x.words).getD j 0=x.vals.getD j 0:=by
 rw[nsR_get _ hj]
 have e:x.words[j+2]? = (x.vals[j]?).map itoa:=by
  unfold Ent.words
  rw[List.getElem?_cons_succ,List.getElem?_cons_succ,List.getElem?_map]
 rw[List.getD_eq_getElem?_getD]
 cases hv:x.vals[j]? with
 |none=>rw[hv]at e;rw[zlg e];rfl
 |some v=>
  rw[hv]at e
  rw[zlf e]
  have:=zcP h v (List.mem_of_getElem? hv)
  exact zkI this.1 this.2
theorem zkZ {x:Ent} (h:x.formed=true):zhy x.words=some x:=by
 have hd:=(zaE h).1
 have hk:=zbf h
 have h0:valN (x.words.getD 0 [])=x.day:=zkI hd.1 (by omega)
 have h1:x.words.getD 1 []=zas x.kind:=rfl
 have hkv:zbN (zas x.kind)=x.kind:=zlm ⟨x.kind,by omega⟩ hk.1
 have n:∀j,j<10→(nsR x.words).getD j 0=x.vals.getD j 0:=fun j hj=>zpN h hj
 unfold zhy
 rw[h0,h1,hkv]
 generalize nsR x.words=ns at n
 have n0:=n 0 (by omega)
 have n1:=n 1 (by omega)
 have n2:=n 2 (by omega)
 have n3:=n 3 (by omega)
 have n4:=n 4 (by omega)
 have n5:=n 5 (by omega)
 have n6:=n 6 (by omega)
 have n7:=n 7 (by omega)
 rcases zbT h with⟨k,a,m,hk2,hx,_⟩|⟨w,hx,_,hwd⟩|⟨i,hx,_⟩|⟨i,f,t,c,m,r,hx,ho⟩|⟨k,i,hk2,hx,_⟩
 ·have ek:x.kind=k:=by rw[hx]
  have ev:x.vals=[a,m]:=by rw[hx];unfold Ent.vals;rw[if_pos hk2]
  rw[ev]at n0 n1
  unfold entR
  rw[ek,if_pos hk2,n0,n1]
  exact congrArg some hx.symm
 ·have ek:x.kind=3:=by rw[hx]
  have ev:x.vals=[w.id,w.signer,w.giver,w.taker,w.under,w.over,w.since,w.til]:=by rw[hx];rfl
  rw[ev]at n0 n1 n2 n3 n4 n5 n6 n7
  unfold entR
  rw[ek,if_neg (by omega),if_pos rfl]
  unfold entW
  rw[n0,n1,n2,n3,n4,n5,n6,n7]
  simp only[List.getD_cons_zero,List.getD_cons_succ]
  rw[← hwd]at hx ⊢
  rw[hwd]
  rw[hwd]at hx
  refine congrArg some (Eq.trans ?_ hx.symm)
  rw[← hwd]
 ·have ek:x.kind=4:=by rw[hx]
  have ev:x.vals=[i]:=by rw[hx];rfl
  rw[ev]at n0
  unfold entR
  rw[ek,if_neg (by omega),if_neg (by omega),if_pos rfl,n0]
  exact congrArg some hx.symm
 ·have ek:x.kind=5:=by rw[hx]
  have ev:x.vals=[i,f,t,(c:Int),m,r]:=by rw[hx];rfl
  rw[ev]at n0 n1 n2 n3 n4 n5
  have hc:1≤(c:Int)∧(c:Int)≤2:=by
   have:=(zbe ho).2.2.2.2.2.2.2.1
   rw[hx]at this
   exact this
  have n3':ns.getD 3 0=(c:Int):=n3
  unfold entR
  rw[ek,if_neg (by omega),if_neg (by omega),if_neg (by omega),if_pos rfl,if_neg (by rw[n3'];omega)]
  unfold zgV
  rw[n0,n1,n2,n3',n4,n5]
  simp only[List.getD_cons_zero,List.getD_cons_succ,Int.toNat_natCast]
  exact congrArg some hx.symm
 ·have ek:x.kind=k:=by rw[hx]
  have ev:x.vals=[i]:=by
   rw[hx];unfold Ent.vals;simp only
   rw[if_neg (by omega),if_neg (by omega),if_neg (by omega),if_neg (by omega)]
  rw[ev]at n0
  unfold entR
  rw[ek,if_neg (by omega),if_neg (by omega),if_neg (by omega),if_neg (by omega),if_pos hk2,n0]
  exact congrArg some hx.symm
theorem zkH (x:Ent):1≤x.vals.length∧x.vals.length≤8:=by
 unfold Ent.vals
 split
 ·simp
 split
 ·simp
 split
 ·simp
 split<;>simp
theorem zod {x:Ent} (h:x.formed=true):x.text.length≤200:=by
 have hd:=(zaE h).1
 have hk:=zbf h
 have h1:=zjl hd.1 (by omega)
 have h2:(zas x.kind).length≤7:=by
  have:∀k:Fin 8,(zas k.val).length≤7:=by decide
  exact this ⟨x.kind,by omega⟩
 have h3:∀ns:List Int,(∀n∈ns,0≤n∧n≤1000000000000)→(zcI ns).length≤14*ns.length:=by
  intro ns
  induction ns with
  |nil=>intro _;simp[zcI]
  |cons n ns ih=>
   intro hn
   have ih:=ih fun m hm=>hn m (by simp[hm])
   have hb:=hn n (by simp)
   have:=zjl hb.1 hb.2
   unfold zcI at ih ⊢
   rw[List.flatMap_cons,List.length_append,List.length_cons,List.length_cons]
   omega
 have h4:=h3 x.vals (zcP h)
 have h5:=zkH x
 unfold Ent.text
 simp only[List.length_append,List.length_cons,List.length_nil]
 omega
theorem readE_R (s:List Nat):zcf s=if 200<s.length then none else if (zaM 32 s).length<3 then none else zgc s (zhy (zaM 32 s)):=by
 split
 ·rename_i hl
  cases hr:zcf s with
  |none=>rfl
  |some x=>
   obtain⟨h1,h2⟩:=zcR hr
   have:=zod h1
   rw[h2]at this
   omega
 ·split
  ·rename_i hl
   cases hr:zcf s with
   |none=>rfl
   |some x=>
    obtain⟨h1,h2⟩:=zcR hr
    rw[← h2,zhg h1]at hl
    have:=zkH x
    unfold Ent.words at hl
    simp only[List.length_cons,List.length_map]at hl
    omega
  ·exact (readE_by fun x h1 h2=>by rw[← h2,zhg h1];exact zkZ h1).symm
theorem zdU (c:Nat):∀{l w:List Nat},w∈zaM c l→w.length≤l.length
 |[],w,h=>by
  simp[zaM]at h
  subst h
  simp
 |x::l,w,h=>by
  rw[zaM]at h
  split at h
  ·rcases List.mem_cons.1 h with rfl|h
   ·simp
   ·have:=zdU c h
    simp;omega
  ·split at h
   ·simp at h;subst h;simp
   ·rename_i v vs hs
    rcases List.mem_cons.1 h with rfl|h
    ·have:=zdU c (l:=l) (w:=v) (by rw[hs];simp)
     simp;omega
    ·have:=zdU c (l:=l) (w:=w) (by rw[hs];simp[h])
     simp;omega
end Go.Air
set_option maxRecDepth 100000
namespace Go.Air
open Go.Air.Try
def nsF (ws:List (List Nat)) (m:Nat):List Int:=(List.range 10).map fun j=>if j<m then nsAt ws j else 0
theorem nsF_set {ws:List (List Nat)} {m:Nat} {w:List Nat} (hm:m<10) (hw:ws[m+2]? = some w):(nsF ws m).set m (valN w)=nsF ws (m+1):=by
 apply List.ext_getElem?
 intro j
 unfold nsF
 rw[List.getElem?_set,List.getElem?_map,List.getElem?_map,List.length_map,List.length_range]
 by_cases hj:j<10
 ·rw[List.getElem?_range hj]
  by_cases e:m=j
  ·subst e
   simp[hm,zlf hw]
  ·have h1:(j<m+1)=(j<m):=by
    apply propext;constructor<;>intro h<;>omega
   simp[e,h1]
 ·rw[List.getElem?_eq_none (l:=List.range 10) (by simp;omega)]
  have:m≠j:=by omega
  simp[this]
theorem zpO {ws:List (List Nat)} {m:Nat} (h:10≤m∨ws.length≤m+2):nsF ws m=nsR ws:=by
 unfold nsF nsR
 apply List.map_congr_left
 intro j hj
 rw[List.mem_range]at hj
 by_cases hm:j<m
 ·rw[if_pos hm]
 ·rw[if_neg hm,zlg (List.getElem?_eq_none (by omega))]
theorem nsF_0 (ws:List (List Nat)):nsF ws 0=List.replicate 10 0:=by
 unfold nsF
 rfl
theorem nsF_len (ws:List (List Nat)) (m:Nat):(nsF ws m).length=10:=by unfold nsF;simp
theorem ns_at {ns:List Int} (hl:ns.length=10) {j:Nat} (hj:j<10):(ns.map (V.i .i64))[j]? = some (.i .i64 (ns.getD j 0)):=by
 rw[List.getElem?_map,List.getElem?_eq_getElem (by omega),List.getD_eq_getElem?_getD,List.getElem?_eq_getElem (by omega)]
 rfl
section
variable {h:H} {S Sp:V→H→Prop}
theorem t2029:tb1 29=some a29:=by kernel_rfl
theorem hzE:[V.i .u8 0]++List.replicate 14 (.i .i64 0)++[.i .u8 0]++[.i .i64 0,.i .i64 0]++[.i .u8 0]++[.i .i64 0,.i .i64 0,.i .i64 0,.i .i64 0,.i .i64 0]=zE:=rfl
theorem zdG:zE.length=24:=rfl
theorem zce {s:List Nat} (q:zcf s=none):zct s=.tup [.agg zE,.i .i64 4]:=by unfold zct;rw[q]
theorem zfX {s:List Nat} {y:Ent} (q:zcf s=some y):zct s=.tup [.agg y.cells,.i .i64 0]:=by unfold zct;rw[q]
theorem zom {s:List Nat} {t:List V} {hh:H} {b:Nat} {e:Int} {c:List V} (t2:nth t 2=.p b 0) (t3:nth t 3=.i .i64 e) (ex:Ext h hh) (g:hh.get b=some (.cells c)) (hl:c.length=24) (hv:zct s=.tup [.agg c,.i .i64 e]) :
 zdl (zao t hh [.cell 2 (some 24),.tmp 3]) hh (fun u h'=>u=zct s∧Ext h h'):=by
 rw[zbn (n:=2) (k:=24) (b:=b) (cs:=c) t2 g hl,t3]
 exact⟨hv.symm,ex⟩
theorem st29 {hh:H} {b:Nat} {c:List V} (g:hh.get b=some (.cells c)) (hl:c.length=24):stV hh 24 (.p b 0) (.agg zE)=some (hh.put b (.cells zE)):=zal g hl zdG (zby ent0)
theorem fin29 {s:List Nat} {ws:List (List Nat)} {t:List V} {hh:H} {y:Ent} {xb rb:Nat} (hR:zcf s=zgc s (zhy ws)) (hrb:h.next≤rb) (tl:t.length=176) (t0:nth t 0=.s s) (t2:nth t 2=.p rb 0) (t8:nth t 8=.p xb 0) (ex:Ext h hh)
 (g:hh.get rb=some (.cells zE)) (hrn:rb<hh.next) (gy:hh.get xb=some (.cells y.cells)) (hxb:xb<hh.next) (hp:zhy ws=some y) (hcur:y.g.cur<256) :
 W tb1 (.seq (.ops r29_39) (.seq (.seq (.ops r29_40) (.cond (.t 173) (.seq (.ops r29_41) (.ret)) (.skip))) (.seq (.ops r29_42) (.ret)))) t hh (Kfn [.cell 2 (some 24),.tmp 3] (fun u h'=>u=zct s∧Ext h h') zeK):=by
 have ly:=zar gy (zaI y)
 rw[hp]at hR
 simp only[go_sem,↓reduceIte,r29_39,tl,t8,ly]
 refine (zoF hcur).mono ?_
 rintro u h5 ⟨rfl,e5⟩
 have ex5:=ex.trans e5
 have g5:=e5.get hrn g
 have gy5:=e5.get hxb gy
 have sz:=st29 g5 zdG
 unfold putE
 cases hf:y.formed
 ·have hn:zcf s=none:=by rw[hR];simp[zgc,hf]
  simp only[hzE,go_sem,↓reduceIte,Bool.false_eq_true,r29_40,r29_41,tl,t2,zbz,zbZ,sz]
  refine zom (b:=rb) (c:=zE) (e:=4) ?_ ?_ (ex5.put hrb _) zab zdG (zce hn)<;>simp only[go_sem,↓reduceIte,tl,t2]
 ·by_cases hx:y.text=s
  ·have hn:zcf s=some y:=by rw[hR];simp[zgc,hf,hx]
   have ly5:=zar gy5 (zaI y)
   have s5:=zal (k:=24) (d:=y.cells) g5 zdG (zaI y) (zby y)
   simp only[hzE,go_sem,↓reduceIte,r29_40,r29_42,tl,t0,t2,t8,zbz,zkz,hx,ly5,s5]
   refine zom (b:=rb) (c:=y.cells) (e:=0) ?_ ?_ (ex5.put hrb _) zab (zaI y) (zfX hn)<;>simp only[go_sem,↓reduceIte,tl,t2]
  ·have hn:zcf s=none:=by rw[hR];simp[zgc,hf,hx]
   simp only[hzE,go_sem,↓reduceIte,r29_40,r29_41,tl,t0,t2,zbz,zkz,hx,zbZ,sz]
   refine zom (b:=rb) (c:=zE) (e:=4) ?_ ?_ (ex5.put hrb _) zab zdG (zce hn)<;>simp only[go_sem,↓reduceIte,tl,t2]
end
end Go.Air
set_option maxRecDepth 100000
namespace Go.Air
open Go.Air.Try
section
variable {h:H}
def zkh:C:=.seq (.ops r29_14) (.cond (.t 50) (.seq (.ops r29_15) (.seq (.ops r29_16) (.ops r29_17))) (.seq (.ops r29_18) (.cond (.t 61) (.seq (.ops r29_19) (.seq (.ops r29_20) (.ops r29_21))) (.seq (.ops r29_22) (.cond (.t 72) (.seq (.ops r29_23) (.draw r29_24 [])) (.seq (.ops r29_25) (.cond (.t 102) (.seq (.ops r29_26) (.ops r29_27)) (.seq (.ops r29_28) (.cond (.t 110) (.seq (.ops r29_29) (.seq (.seq (.ops r29_30) (.cond (.t 122) (.seq (.ops r29_31) (.ret)) (.skip))) (.draw r29_32 []))) (.seq (.ops r29_33) (.cond (.t 146) (.seq (.ops r29_34) (.ops r29_35)) (.seq (.ops r29_36) (.cond (.t 154) (.seq (.ops r29_37) (.ops r29_38)) (.skip))))))))))))))
theorem entR5 (day:Int) (ns:List Int):entR day 5 ns=if ns.getD 3 0<1∨2<ns.getD 3 0 then none else some (zgV 5 day ns):=rfl
structure Pt (hh h':H) (xb:Nat):Prop where
 ext:∀h0,Ext h0 hh→h0.next≤xb→Ext h0 h'
 nx:h'.next=hh.next
 same:∀b,b≠xb→h'.get b=hh.get b
theorem Pt.refl (hh:H) (xb:Nat):Pt hh hh xb:=⟨fun _ e _=>e,rfl,fun _ _=>rfl⟩
theorem Pt.put {hh h':H} {xb:Nat} (p:Pt hh h' xb) (x:Blk):Pt hh (h'.put xb x) xb:=⟨fun h0 e hn=>(p.ext h0 e hn).put hn _,p.nx,fun b hb=>(zaa hb).trans (p.same b hb)⟩
theorem zoI {verb:List Nat} {ns:List Int} {day:Int} {t:List V} {hh:H} {rb nb xb:Nat} {Q:Out→List V→H→Prop} (hnl:ns.length=10)
 (tl:t.length=176) (t2:nth t 2=.p rb 0) (t5:nth t 5=.sl nb 0 10 10 none) (t7:nth t 7=.i .i64 day) (t8:nth t 8=.p xb 0) (t49:nth t 49=.s verb)
 (gr:hh.get rb=some (.cells zE)) (gn:hh.get nb=some (.cells (ns.map (V.i .i64)))) (hxb:xb<hh.next) (gx:hh.get xb=some (.cells (kdC 0 day))) (hrx:rb≠xb) (hnx:nb≠xb)
 (K:∀t' h' y,t'.length=176→nth t' 0=nth t 0→nth t' 2=.p rb 0→nth t' 8=.p xb 0→Pt hh h' xb→h'.get xb=some (.cells y.cells)→y.g.cur<256→entR day (zbN verb) ns=some y→Q .norm t' h')
 (KR:∀t' h',nth t' 2=.p rb 0→nth t' 3=.i .i64 4→h'.get rb=some (.cells zE)→entR day (zbN verb) ns=none→(∃h1,Pt hh h1 xb∧h'=h1.put rb (.cells zE))→Q .ret t' h') :
 W tb1 zkh t hh Q:=by
 unfold zkh
 have b1:binV .eql (.s verb) (.s [114,97,116,101])=some (.b (decide (verb=zas 1))):=zcj
 have b2:binV .eql (.s verb) (.s [99,101,105,108,105,110,103])=some (.b (decide (verb=zas 2))):=zcj
 have b3:binV .eql (.s verb) (.s [103,114,97,110,116])=some (.b (decide (verb=zas 3))):=zcj
 have b4:binV .eql (.s verb) (.s [101,110,100])=some (.b (decide (verb=zas 4))):=zcj
 have b5:binV .eql (.s verb) (.s [111,102,102,101,114])=some (.b (decide (verb=zas 5))):=zcj
 have b6:binV .eql (.s verb) (.s [116,97,107,101])=some (.b (decide (verb=zas 6))):=zcj
 have b7:binV .eql (.s verb) (.s [114,101,102,117,115,101])=some (.b (decide (verb=zas 7))):=zcj
 have i0:ixV 1 (.sl nb 0 10 10 none) (.i .i64 0)=some (.p nb 0):=rfl
 have i1:ixV 1 (.sl nb 0 10 10 none) (.i .i64 1)=some (.p nb 1):=rfl
 have i2:ixV 1 (.sl nb 0 10 10 none) (.i .i64 2)=some (.p nb 2):=rfl
 have i3:ixV 1 (.sl nb 0 10 10 none) (.i .i64 3)=some (.p nb 3):=rfl
 have i4:ixV 1 (.sl nb 0 10 10 none) (.i .i64 4)=some (.p nb 4):=rfl
 have i5:ixV 1 (.sl nb 0 10 10 none) (.i .i64 5)=some (.p nb 5):=rfl
 have i6:ixV 1 (.sl nb 0 10 10 none) (.i .i64 6)=some (.p nb 6):=rfl
 have i7:ixV 1 (.sl nb 0 10 10 none) (.i .i64 7)=some (.p nb 7):=rfl
 have ln:∀{h':H},Pt hh h' xb→∀j,j<10→ldV h' (.p nb j)=some (.i .i64 (ns.getD j 0)):=fun p j hj=>zad ((p.same nb hnx).trans gn) (ns_at hnl hj)
 have p0:=Pt.refl hh xb
 have kd:∀k:Nat,stV hh 1 (.p xb 0) (.i .u8 (k:Int))=some (hh.put xb (.cells (kdC k day))):=fun k=>zbG (i:=0) gx (by simp[kdC,Ent.cells]) rfl rfl rfl
 have pk:∀k:Nat,Pt hh (hh.put xb (.cells (kdC k day))) xb:=fun k=>p0.put _
 by_cases c1:verb=zas 1
 ·have d1:decide (verb=zas 1)=true:=decide_eq_true c1
  have hk:zbN verb=1:=by rw[c1];rfl
  have k1:=kd 1
  have m0:=ln (pk 1) 0 (by omega)
  have s2:=zbG (hh:=hh.put xb (.cells (kdC 1 day))) (b:=xb) (i:=21) (x:=.i .i64 (ns.getD 0 0)) (c':=(⟨1,day,wv0,gf0,ns.getD 0 0,0,0⟩:Ent).cells) zab (by simp[kdC,Ent.cells]) rfl rfl rfl
  have p2:=(pk 1).put (.cells (⟨1,day,wv0,gf0,ns.getD 0 0,0,0⟩:Ent).cells)
  have m1:=ln p2 1 (by omega)
  have s3:=zbG (hh:=(hh.put xb (.cells (kdC 1 day))).put xb (.cells (⟨1,day,wv0,gf0,ns.getD 0 0,0,0⟩:Ent).cells)) (b:=xb) (i:=23) (x:=.i .i64 (ns.getD 1 0)) (c':=(⟨1,day,wv0,gf0,ns.getD 0 0,0,ns.getD 1 0⟩:Ent).cells) zab (by simp[Ent.cells]) rfl rfl rfl
  have k1:stV hh 1 (.p xb 0) (.i .u8 1)=some (hh.put xb (.cells (kdC 1 day))):=k1
  simp only[go_sem,↓reduceIte,r29_14,r29_15,r29_16,r29_17,tl,t5,t8,t49,b1,d1,k1,i0,i1,m0,m1,s2,s3]
  exact K _ _ ⟨1,day,wv0,gf0,ns.getD 0 0,0,ns.getD 1 0⟩ (by simp only[go_sem,↓reduceIte,tl]) (by simp only[go_sem,↓reduceIte,tl]) (by simp only[go_sem,↓reduceIte,tl,t2]) (by simp only[go_sem,↓reduceIte,tl,t8]) (p2.put _) zab zew (by rw[hk];rfl)
 have d1:decide (verb=zas 1)=false:=decide_eq_false c1
 by_cases c2:verb=zas 2
 ·have d2:decide (verb=zas 2)=true:=decide_eq_true c2
  have hk:zbN verb=2:=by rw[c2];rfl
  have m0:=ln (pk 2) 0 (by omega)
  have s2:=zbG (hh:=hh.put xb (.cells (kdC 2 day))) (b:=xb) (i:=21) (x:=.i .i64 (ns.getD 0 0)) (c':=(⟨2,day,wv0,gf0,ns.getD 0 0,0,0⟩:Ent).cells) zab (by simp[kdC,Ent.cells]) rfl rfl rfl
  have p2:=(pk 2).put (.cells (⟨2,day,wv0,gf0,ns.getD 0 0,0,0⟩:Ent).cells)
  have m1:=ln p2 1 (by omega)
  have s3:=zbG (hh:=(hh.put xb (.cells (kdC 2 day))).put xb (.cells (⟨2,day,wv0,gf0,ns.getD 0 0,0,0⟩:Ent).cells)) (b:=xb) (i:=23) (x:=.i .i64 (ns.getD 1 0)) (c':=(⟨2,day,wv0,gf0,ns.getD 0 0,0,ns.getD 1 0⟩:Ent).cells) zab (by simp[Ent.cells]) rfl rfl rfl
  have k1:stV hh 1 (.p xb 0) (.i .u8 2)=some (hh.put xb (.cells (kdC 2 day))):=kd 2
  simp only[go_sem,↓reduceIte,r29_14,r29_18,r29_19,r29_20,r29_21,tl,t5,t8,t49,b1,d1,b2,d2,k1,i0,i1,m0,m1,s2,s3]
  exact K _ _ ⟨2,day,wv0,gf0,ns.getD 0 0,0,ns.getD 1 0⟩ (by simp only[go_sem,↓reduceIte,tl]) (by simp only[go_sem,↓reduceIte,tl]) (by simp only[go_sem,↓reduceIte,tl,t2]) (by simp only[go_sem,↓reduceIte,tl,t8]) (p2.put _) zab zew (by rw[hk];rfl)
 have d2:decide (verb=zas 2)=false:=decide_eq_false c2
 by_cases c3:verb=zas 3
 ·have d3:decide (verb=zas 3)=true:=decide_eq_true c3
  have hk:zbN verb=3:=by rw[c3];rfl
  have k1:stV hh 1 (.p xb 0) (.i .u8 3)=some (hh.put xb (.cells (kdC 3 day))):=kd 3
  have m:=fun j hj=>ln (pk 3) j hj
  have m0:=m 0 (by omega)
  have m1:=m 1 (by omega)
  have m2:=m 2 (by omega)
  have m3:=m 3 (by omega)
  have m4:=m 4 (by omega)
  have m5:=m 5 (by omega)
  have m6:=m 6 (by omega)
  have m7:=m 7 (by omega)
  simp only[go_sem,↓reduceIte,r29_14,r29_18,r29_22,r29_23,tl,t5,t8,t49,b1,d1,b2,d2,b3,d3,k1]
  have gx3:(hh.put xb (.cells (kdC 3 day))).get xb=some (.cells (kdC 3 day)):=zab
  have hx3:xb<(hh.put xb (.cells (kdC 3 day))).next:=hxb
  have p3:=pk 3
  generalize hh.put xb (.cells (kdC 3 day))=h3 at m0 m1 m2 m3 m4 m5 m6 m7 gx3 hx3 p3
  have hfw:∀(t:List V) (x0 x1 x2 x3 x4 x5 x6 x7 x8:X),x0.ev t=.i .i64 (ns.getD 0 0)→x1.ev t=.i .i64 day→x2.ev t=.i .i64 (ns.getD 1 0)→x3.ev t=.i .i64 (ns.getD 2 0)→x4.ev t=.i .i64 (ns.getD 3 0)→x5.ev t=.i .i64 (ns.getD 4 0)→x6.ev t=.i .i64 (ns.getD 5 0)→x7.ev t=.i .i64 (ns.getD 6 0)→x8.ev t=.i .i64 (ns.getD 7 0) →
   fill t (List.replicate 9 (.i .i64 0)) [(0,1,x0),(1,1,x1),(2,1,x2),(3,1,x3),(4,1,x4),(5,1,x5),(6,1,x6),(7,1,x7),(8,1,x8)]=some (entW 3 day ns).w.cells:=by
   intro t x0 x1 x2 x3 x4 x5 x6 x7 x8 e0 e1 e2 e3 e4 e5 e6 e7 e8
   simp[fill,lay,e0,e1,e2,e3,e4,e5,e6,e7,e8,V.cells,Wv.cells,entW,List.replicate]
  have sw:stV h3.bare 9 (.p xb 2) (.agg (entW 3 day ns).w.cells)=some (h3.bare.put xb (.cells (entW 3 day ns).cells)):=by
   have gx3:h3.bare.get xb=some (.cells (kdC 3 day)):=gx3
   simp[stV,V.cells,storeAt,gx3,lay,V.oneCell,kdC,Ent.cells,Wv.cells,entW,wv0,gf0]
  have bw:=zaH hx3 (.cells (entW 3 day ns).cells)
  simp only[go_sem,↓reduceIte,r29_24,tl,t5,t7,t8,i0,i1,i2,i3,i4,i5,i6,i7,m0,m1,m2,m3,m4,m5,m6,m7]
  rw[hfw _ _ _ _ _ _ _ _ _ _ (by simp only[go_sem,↓reduceIte,tl]) (by simp only[go_sem,↓reduceIte,tl]) (by simp only[go_sem,↓reduceIte,tl]) (by simp only[go_sem,↓reduceIte,tl]) (by simp only[go_sem,↓reduceIte,tl]) (by simp only[go_sem,↓reduceIte,tl]) (by simp only[go_sem,↓reduceIte,tl]) (by simp only[go_sem,↓reduceIte,tl]) (by simp only[go_sem,↓reduceIte,tl])]
  simp only[go_sem,↓reduceIte,tl,t8,sw,bw,RO.ofH,H.back_bare]
  exact K _ _ (entW 3 day ns) (by simp only[go_sem,↓reduceIte,tl]) (by simp only[go_sem,↓reduceIte,tl]) (by simp only[go_sem,↓reduceIte,tl,t2]) (by simp only[go_sem,↓reduceIte,tl,t8]) (p3.put _) zab zew (by rw[hk];rfl)
 have d3:decide (verb=zas 3)=false:=decide_eq_false c3
 by_cases c4:verb=zas 4
 ·have d4:decide (verb=zas 4)=true:=decide_eq_true c4
  have hk:zbN verb=4:=by rw[c4];rfl
  have m0:=ln (pk 4) 0 (by omega)
  have s2:=zbG (hh:=hh.put xb (.cells (kdC 4 day))) (b:=xb) (i:=2) (x:=.i .i64 (ns.getD 0 0)) (c':=(⟨4,day,{ wv0 with id:=ns.getD 0 0 },gf0,0,0,0⟩:Ent).cells) zab (by simp[kdC,Ent.cells]) rfl rfl rfl
  have k1:stV hh 1 (.p xb 0) (.i .u8 4)=some (hh.put xb (.cells (kdC 4 day))):=kd 4
  simp only[go_sem,↓reduceIte,r29_14,r29_18,r29_22,r29_25,r29_26,r29_27,tl,t5,t8,t49,b1,d1,b2,d2,b3,d3,b4,d4,k1,i0,m0,s2]
  exact K _ _ ⟨4,day,{ wv0 with id:=ns.getD 0 0 },gf0,0,0,0⟩ (by simp only[go_sem,↓reduceIte,tl]) (by simp only[go_sem,↓reduceIte,tl]) (by simp only[go_sem,↓reduceIte,tl,t2]) (by simp only[go_sem,↓reduceIte,tl,t8]) ((pk 4).put _) zab zew (by rw[hk];rfl)
 have d4:decide (verb=zas 4)=false:=decide_eq_false c4
 by_cases c5:verb=zas 5
 ·have d5:decide (verb=zas 5)=true:=decide_eq_true c5
  have hk:zbN verb=5:=by rw[c5];rfl
  have k1:stV hh 1 (.p xb 0) (.i .u8 5)=some (hh.put xb (.cells (kdC 5 day))):=kd 5
  have m:=fun j hj=>ln (pk 5) j hj
  have m0:=m 0 (by omega)
  have m1:=m 1 (by omega)
  have m2:=m 2 (by omega)
  have m3:=m 3 (by omega)
  have m4:=m 4 (by omega)
  have m5:=m 5 (by omega)
  simp only[go_sem,↓reduceIte,r29_14,r29_18,r29_22,r29_25,r29_28,r29_29,tl,t5,t8,t49,b1,d1,b2,d2,b3,d3,b4,d4,b5,d5,k1]
  have gx3:(hh.put xb (.cells (kdC 5 day))).get xb=some (.cells (kdC 5 day)):=zab
  have gr3:(hh.put xb (.cells (kdC 5 day))).get rb=some (.cells zE):=(zaa hrx).trans gr
  have hx3:xb<(hh.put xb (.cells (kdC 5 day))).next:=hxb
  have p3:=pk 5
  generalize hh.put xb (.cells (kdC 5 day))=h3 at m0 m1 m2 m3 m4 m5 gx3 gr3 hx3 p3
  have sz:=st29 gr3 zdG
  by_cases q1:ns.getD 3 0<1
  ·simp only[hzE,go_sem,↓reduceIte,r29_30,r29_31,tl,t2,t5,i3,m3,q1,zbZ,sz]
   exact KR _ _ (by simp only[go_sem,↓reduceIte,tl,t2]) (by simp only[go_sem,↓reduceIte,tl]) zab (by rw[hk,entR5,if_pos (.inl q1)]) ⟨h3,p3,rfl⟩
  by_cases q2:2<ns.getD 3 0
  ·simp only[hzE,go_sem,↓reduceIte,r29_30,r29_31,tl,t2,t5,i3,m3,q1,q2,zbZ,sz]
   exact KR _ _ (by simp only[go_sem,↓reduceIte,tl,t2]) (by simp only[go_sem,↓reduceIte,tl]) zab (by rw[hk,entR5,if_pos (.inr q2)]) ⟨h3,p3,rfl⟩
  have hgz:([.i .i64 0,.i .i64 0,.i .i64 0,.i .i64 0,.i .u8 0,.i .i64 0,.i .i64 0,.i .u8 0,.i .i64 0,.i .i64 0]:List V)=gz:=rfl
  have hcv:zca .u8 (.i .i64 (ns.getD 3 0))=some (.i .u8 (((ns.getD 3 0).toNat:Nat):Int)):=by
   simp only[zca];rw[zfS,Int.emod_eq_of_lt (by omega) (by omega),Int.toNat_of_nonneg (by omega)]
  have hfg:∀(t:List V) (x0 x1 x2 x3 x4 x5 x9:X),x0.ev t=.i .i64 (ns.getD 0 0)→x1.ev t=.i .i64 day→x2.ev t=.i .i64 (ns.getD 1 0)→x3.ev t=.i .i64 (ns.getD 2 0)→x4.ev t=.i .u8 (((ns.getD 3 0).toNat:Nat):Int)→x5.ev t=.i .i64 (ns.getD 4 0)→x9.ev t=.i .i64 (ns.getD 5 0) →
   fill t gz [(0,1,x0),(1,1,x1),(2,1,x2),(3,1,x3),(4,1,x4),(5,1,x5),(9,1,x9)]=some (zgV 5 day ns).g.cells:=by
   intro t x0 x1 x2 x3 x4 x5 x9 e0 e1 e2 e3 e4 e5 e9
   simp[fill,lay,gz,e0,e1,e2,e3,e4,e5,e9,V.cells,Gf.cells,zgV]
  have sw:stV h3.bare 10 (.p xb 11) (.agg (zgV 5 day ns).g.cells)=some (h3.bare.put xb (.cells (zgV 5 day ns).cells)):=by
   have gx3:h3.bare.get xb=some (.cells (kdC 5 day)):=gx3
   simp[stV,V.cells,storeAt,gx3,lay,V.oneCell,kdC,Ent.cells,Gf.cells,zgV,wv0,gf0]
  have bw:=zaH hx3 (.cells (zgV 5 day ns).cells)
  simp only[hgz,go_sem,↓reduceIte,r29_30,r29_32,tl,t5,t7,t8,i0,i1,i2,i3,i4,i5,m0,m1,m2,m3,m4,m5,q1,q2,hcv]
  rw[hfg _ _ _ _ _ _ _ _ (by simp only[go_sem,↓reduceIte,tl]) (by simp only[go_sem,↓reduceIte,tl]) (by simp only[go_sem,↓reduceIte,tl]) (by simp only[go_sem,↓reduceIte,tl]) (by simp only[go_sem,↓reduceIte,tl]) (by simp only[go_sem,↓reduceIte,tl]) (by simp only[go_sem,↓reduceIte,tl])]
  simp only[go_sem,↓reduceIte,tl,t8,sw,bw,RO.ofH,H.back_bare]
  exact K _ _ (zgV 5 day ns) (by simp only[go_sem,↓reduceIte,tl]) (by simp only[go_sem,↓reduceIte,tl]) (by simp only[go_sem,↓reduceIte,tl,t2]) (by simp only[go_sem,↓reduceIte,tl,t8]) (p3.put _) zab (by show (ns.getD 3 0).toNat<256;omega) (by rw[hk,entR5,if_neg (by omega)])
 have d5:decide (verb=zas 5)=false:=decide_eq_false c5
 by_cases c6:verb=zas 6
 ·have d6:decide (verb=zas 6)=true:=decide_eq_true c6
  have hk:zbN verb=6:=by rw[c6];rfl
  have m0:=ln (pk 6) 0 (by omega)
  have s2:=zbG (hh:=hh.put xb (.cells (kdC 6 day))) (b:=xb) (i:=11) (x:=.i .i64 (ns.getD 0 0)) (c':=(⟨6,day,wv0,{ gf0 with id:=ns.getD 0 0 },0,0,0⟩:Ent).cells) zab (by simp[kdC,Ent.cells]) rfl rfl rfl
  have k1:stV hh 1 (.p xb 0) (.i .u8 6)=some (hh.put xb (.cells (kdC 6 day))):=kd 6
  simp only[go_sem,↓reduceIte,r29_14,r29_18,r29_22,r29_25,r29_28,r29_33,r29_34,r29_35,tl,t5,t8,t49,b1,d1,b2,d2,b3,d3,b4,d4,b5,d5,b6,d6,k1,i0,m0,s2]
  exact K _ _ ⟨6,day,wv0,{ gf0 with id:=ns.getD 0 0 },0,0,0⟩ (by simp only[go_sem,↓reduceIte,tl]) (by simp only[go_sem,↓reduceIte,tl]) (by simp only[go_sem,↓reduceIte,tl,t2]) (by simp only[go_sem,↓reduceIte,tl,t8]) ((pk 6).put _) zab zew (by rw[hk];rfl)
 have d6:decide (verb=zas 6)=false:=decide_eq_false c6
 by_cases c7:verb=zas 7
 ·have d7:decide (verb=zas 7)=true:=decide_eq_true c7
  have hk:zbN verb=7:=by rw[c7];rfl
  have m0:=ln (pk 7) 0 (by omega)
  have s2:=zbG (hh:=hh.put xb (.cells (kdC 7 day))) (b:=xb) (i:=11) (x:=.i .i64 (ns.getD 0 0)) (c':=(⟨7,day,wv0,{ gf0 with id:=ns.getD 0 0 },0,0,0⟩:Ent).cells) zab (by simp[kdC,Ent.cells]) rfl rfl rfl
  have k1:stV hh 1 (.p xb 0) (.i .u8 7)=some (hh.put xb (.cells (kdC 7 day))):=kd 7
  simp only[go_sem,↓reduceIte,r29_14,r29_18,r29_22,r29_25,r29_28,r29_33,r29_36,r29_37,r29_38,tl,t5,t8,t49,b1,d1,b2,d2,b3,d3,b4,d4,b5,d5,b6,d6,b7,d7,k1,i0,m0,s2]
  exact K _ _ ⟨7,day,wv0,{ gf0 with id:=ns.getD 0 0 },0,0,0⟩ (by simp only[go_sem,↓reduceIte,tl]) (by simp only[go_sem,↓reduceIte,tl]) (by simp only[go_sem,↓reduceIte,tl,t2]) (by simp only[go_sem,↓reduceIte,tl,t8]) ((pk 7).put _) zab zew (by rw[hk];rfl)
 have d7:decide (verb=zas 7)=false:=decide_eq_false c7
 have hk:zbN verb=0:=by unfold zbN;rw[if_neg c1,if_neg c2,if_neg c3,if_neg c4,if_neg c5,if_neg c6,if_neg c7]
 simp only[go_sem,↓reduceIte,r29_14,r29_18,r29_22,r29_25,r29_28,r29_33,r29_36,tl,t49,b1,d1,b2,d2,b3,d3,b4,d4,b5,d5,b6,d6,b7,d7]
 exact K _ _ ⟨0,day,wv0,gf0,0,0,0⟩ (by simp only[go_sem,↓reduceIte,tl]) (by simp only[go_sem,↓reduceIte,tl]) (by simp only[go_sem,↓reduceIte,tl,t2]) (by simp only[go_sem,↓reduceIte,tl,t8]) p0 gx zew (by rw[hk];rfl)
theorem tail29 {s:List Nat} {ws:List (List Nat)} {uv:V} {t:List V} {hh:H} {rb nb:Nat} (hR:zcf s=zgc s (zhy ws)) (hrb:h.next≤rb) (hrn:rb<nb) (hwl:∀w∈ws,w.length≤1000000) (hw3:3≤ws.length) (S:Sl 1 hh uv ws.length (ws.map V.s))
 (tl:t.length=176) (t0:nth t 0=.s s) (t2:nth t 2=.p rb 0) (t4:nth t 4=uv) (t5:nth t 5=.sl nb 0 10 10 none) (ex:Ext h hh) (gr:hh.get rb=some (.cells zE)) (gn:hh.get nb=some (.cells ((nsR ws).map (V.i .i64)))) (hnb:nb<hh.next) :
 W tb1 (.seq (.ops r29_11) (.seq (.ops r29_12) (.seq (.seq (.ops r29_13) (.block 2 zkh)) (.seq (.ops r29_39) (.seq (.seq (.ops r29_40) (.cond (.t 173) (.seq (.ops r29_41) (.ret)) (.skip))) (.seq (.ops r29_42) (.ret))))))) t hh (Kfn [.cell 2 (some 24),.tmp 3] (fun u h'=>u=zct s∧Ext h h') zeK):=by
 obtain⟨w0,hw0⟩:∃w,ws[0]? = some w:=⟨_,List.getElem?_eq_getElem (by omega)⟩
 obtain⟨w1,hw1⟩:∃w,ws[1]? = some w:=⟨_,List.getElem?_eq_getElem (by omega)⟩
 have hi0:ixV 1 uv (.i .i64 0)=_:=S.ix (i:=0) (by omega)
 have hi1:ixV 1 uv (.i .i64 1)=_:=S.ix (i:=1) (by omega)
 have hl0:=S.ld1 (i:=0) (by omega)
 have hl1:=S.ld1 (i:=1) (by omega)
 rw[List.getElem?_map,hw0]at hl0
 rw[List.getElem?_map,hw1]at hl1
 simp only[go_sem,↓reduceIte,r29_11,tl,t4,hi0,hl0,Option.map_some]
 refine (zlu (hwl w0 (List.mem_of_getElem? hw0))).mono ?_
 rintro u hv ⟨rfl,rfl⟩
 have hfil:∀(t:List V) (x1:X),x1.ev t=.i .i64 (valN w0)→fill t zE [(1,1,x1)]=some (kdC 0 (valN w0)):=by
  intro t x1 e1
  simp[fill,lay,e1,V.cells,zE,kdC,Ent.cells,wv0,gf0]
 simp only[hzE,go_sem,↓reduceIte,r29_12,tl]
 rw[hfil _ _ (by simp only[go_sem,↓reduceIte,tl])]
 have s1:=zal (h:=hv.new (.cells zE)) (b:=hv.next) (k:=24) (d:=kdC 0 (valN w0)) (zac rfl) zdG rfl (zby _)
 have e1:Ext hv ((hv.new (.cells zE)).put hv.next (.cells (kdC 0 (valN w0)))):=((Ext.refl hv).new _).put (Nat.le_refl _) _
 have g1:((hv.new (.cells zE)).put hv.next (.cells (kdC 0 (valN w0)))).get hv.next=some (.cells (kdC 0 (valN w0))):=zab
 have n1:hv.next<((hv.new (.cells zE)).put hv.next (.cells (kdC 0 (valN w0)))).next:=Nat.lt_succ_self _
 simp only[hzE,go_sem,↓reduceIte,tl,s1]
 generalize (hv.new (.cells zE)).put hv.next (.cells (kdC 0 (valN w0)))=h1 at e1 g1 n1
 have S1:=S.ext e1
 have gr1:=e1.get (by omega) gr
 have gn1:=e1.get hnb gn
 have ex1:=ex.trans e1
 have hl1:=S1.ld1 (i:=1) (by omega)
 rw[List.getElem?_map,hw1]at hl1
 have hxn:h.next≤hv.next:=ex.nx
 generalize hv.next=xb at g1 n1 hxn hnb
 simp only[go_sem,↓reduceIte,r29_13,tl,t4,hi1,hl1,Option.map_some]
 refine W_gen (fun t=>t.length=176∧nth t 0=.s s∧nth t 2=.p rb 0∧nth t 5=.sl nb 0 10 10 none∧nth t 7=.i .i64 (valN w0)∧nth t 8=.p xb 0∧nth t 49=.s w1) ?_ ?_
 ·refine⟨?_,?_,?_,?_,?_,?_,?_⟩<;>simp only[go_sem,↓reduceIte,tl,t0,t2,t5]
 clear tl t0 t2 t4 t5
 rintro t ⟨tl,t0,t2,t5,t7,t8,t49⟩
 have hps:zhy ws=entR (valN w0) (zbN w1) (nsR ws):=by
  unfold zhy
  rw[List.getD_eq_getElem?_getD,List.getD_eq_getElem?_getD,hw0,hw1];rfl
 have hnl:(nsR ws).length=10:=by unfold nsR;simp
 refine zoI hnl tl t2 t5 t7 t8 t49 gr1 gn1 n1 g1 (by omega) (by omega) ?_ ?_
 ·intro t' h' y a1 a2 a3 a4 p gy hcur hy
  simp only[go_sem,↓reduceIte]
  have f:=fin29 (h:=h) hR hrb a1 (by rw[a2];exact t0) a3 a4 (p.ext h ex1 hxn) ((p.same _ (by omega)).trans gr1) (by rw[p.nx];omega) gy (by rw[p.nx];exact n1) (by rw[hps];exact hy) hcur
  simp only[zbC,zbi]at f
  exact f
 ·rintro t' h' a2 a3 g hn ⟨h2,p,rfl⟩
  simp only[go_sem,↓reduceIte]
  have hnn:zcf s=none:=by rw[hR,hps,hn];rfl
  exact zom (b:=rb) (c:=zE) (e:=4) a2 a3 ((p.ext h ex1 hxn).put hrb _) g zdG (zce hnn)
end
end Go.Air
set_option maxRecDepth 100000
namespace Go.Air
open Go.Air.Try
section
variable {h:H}
theorem loop29 {s:List Nat} {ws:List (List Nat)} {uv:V} {t:List V} {h1 hh:H} {rb nb:Nat} {Q:Out→List V→H→Prop} (hrb:h.next≤rb) (hrn:rb<nb) (hwl:∀w∈ws,w.length≤1000000) (hw3:3≤ws.length) (hwm:ws.length≤1000000000) (hnbh:h.next≤nb)
 (ow:Own h1 1 hh uv ws.length (ws.map V.s)) (hne:uv=.sn∨blkV uv<nb)
 (tl:t.length=176) (t0:nth t 0=.s s) (t2:nth t 2=.p rb 0) (t4:nth t 4=uv) (t5:nth t 5=.sl nb 0 10 10 none) (t6:nth t 6=.i .i64 2) (ex:Ext h hh) (gr:hh.get rb=some (.cells zE)) (gn:hh.get nb=some (.cells ((nsF ws 0).map (V.i .i64)))) (hnb:nb<hh.next)
 (K:∀t' h',t'.length=176→nth t' 0=.s s→nth t' 2=.p rb 0→nth t' 4=uv→nth t' 5=.sl nb 0 10 10 none→Ext h h'→h'.get rb=some (.cells zE)→h'.get nb=some (.cells ((nsR ws).map (V.i .i64)))→nb<h'.next→Own h1 1 h' uv ws.length (ws.map V.s)→Q (.exit 0) t' h') :
 W tb1 (.loop b29_0) t hh Q:=by
 refine zax (fun k t hh=>∃m,k=10-m∧m≤10∧m+2≤ws.length∧t.length=176∧nth t 0=.s s∧nth t 2=.p rb 0∧nth t 4=uv∧nth t 5=.sl nb 0 10 10 none∧nth t 6=.i .i64 ((m+2:Nat):Int)∧Ext h hh∧hh.get rb=some (.cells zE)∧hh.get nb=some (.cells ((nsF ws m).map (V.i .i64)))∧nb<hh.next∧Own h1 1 hh uv ws.length (ws.map V.s)) ?_ 10 ⟨0,rfl,by omega,by omega,tl,t0,t2,t4,t5,t6,ex,gr,gn,hnb,ow⟩
 clear tl t0 t2 t4 t5 t6 ex gr gn hnb ow
 rintro k t hh ⟨m,rfl,hm,hm2,tl,t0,t2,t4,t5,t6,ex,g,gn,nbl,ow⟩
 unfold b29_0
 have hn10:∀m,((nsF ws m).map (V.i .i64)).length=10:=fun m=>by rw[List.length_map,nsF_len]
 have hle:=ow.sl.len
 by_cases hin1:m+2<ws.length
 ·have hI:((m+2:Nat):Int)<(ws.length:Int):=by omega
  by_cases hin2:m<10
  ·have hJ:((m+2:Nat):Int)<12:=by omega
   have w1:IntKind.i64.wrap (((m+2:Nat):Int)+1)=((m+1+2:Nat):Int):=by rw[zap (by omega) (by omega)];omega
   have w2:IntKind.i64.wrap (((m+2:Nat):Int)-2)=((m:Nat):Int):=by rw[zap (by omega) (by omega)];omega
   obtain⟨w,hw⟩:∃w,ws[m+2]? = some w:=⟨_,List.getElem?_eq_getElem hin1⟩
   have hix:=ow.sl.ix hin1
   have hld:=ow.sl.ld1 hin1
   rw[List.getElem?_map,hw]at hld
   have Sn:Sl 1 hh (.sl nb 0 10 10 none) 10 ((nsF ws m).map (V.i .i64)):=.inr ⟨nb,0,10,none,_,rfl,nbl,gn,zbh.2 ⟨by rw[hn10];omega,by rw[List.drop_zero,List.take_of_length_le (by rw[hn10];omega)]⟩⟩
   have hixn:ixV 1 (.sl nb 0 10 10 none) (.i .i64 ((m:Nat):Int))=some (.p nb (0+m*1)):=Sn.ix hin2
   simp only[go_sem,↓reduceIte,r29_8,r29_10,tl,t4,t5,t6,hle,hI,hJ,w2,hix,hld,Option.map_some]
   refine (zlu (hwl w (List.mem_of_getElem? hw))).mono ?_
   rintro u hv ⟨rfl,rfl⟩
   have st:=zdF (i:=m) (x:=.i .i64 (valN w)) gn (by rw[hn10];omega) rfl rfl
   have hset:((nsF ws m).map (V.i .i64)).set m (.i .i64 (valN w))=(nsF ws (m+1)).map (V.i .i64):=by
    rw[← nsF_set hin2 hw,List.map_set]
   rw[hset]at st
   simp only[go_sem,↓reduceIte,tl,hixn,st,r29_9,t6,w1]
   refine⟨10-(m+1),by omega,m+1,rfl,by omega,by omega,?_,?_,?_,?_,rfl,ex.put hnbh _,(zaa (by omega)).trans g,zab,nbl,?_⟩
   ·simp only[go_sem,↓reduceIte,tl,t0]
   ·simp only[go_sem,↓reduceIte,tl,t2]
   ·simp only[go_sem,↓reduceIte,tl,t4]
   ·simp only[go_sem,↓reduceIte,tl,t5]
   ·obtain⟨hl8,q|⟨b',g',q1,q2,q3,q4,q5⟩⟩:=ow
    ·exact⟨hl8,.inl q⟩
    ·refine⟨hl8,.inr ⟨b',g',q1,q2,q3,q4,(zaa ?_).trans q5⟩⟩
     rw[q1]at hne
     rcases hne with hne|hne
     ·cases hne
     ·have hne:b'<nb:=hne
      omega
  ·have hJ:¬ ((m+2:Nat):Int)<12:=by omega
   simp only[go_sem,↓reduceIte,r29_8,tl,t4,t6,hle,hI,hJ]
   rw[zpO (.inl (by omega))]at gn
   exact K _ _ (by simp only[go_sem,↓reduceIte,tl]) (by simp only[go_sem,↓reduceIte,tl,t0]) (by simp only[go_sem,↓reduceIte,tl,t2]) (by simp only[go_sem,↓reduceIte,tl,t4]) (by simp only[go_sem,↓reduceIte,tl,t5]) ex g gn nbl ow
 ·have hI:¬ ((m+2:Nat):Int)<(ws.length:Int):=by omega
  simp only[go_sem,↓reduceIte,r29_8,tl,t4,t6,hle,hI]
  rw[zpO (.inr (by omega))]at gn
  exact K _ _ (by simp only[go_sem,↓reduceIte,tl]) (by simp only[go_sem,↓reduceIte,tl,t0]) (by simp only[go_sem,↓reduceIte,tl,t2]) (by simp only[go_sem,↓reduceIte,tl,t4]) (by simp only[go_sem,↓reduceIte,tl,t5]) ex g gn nbl ow
theorem zlv {s:List Nat} (hs:s.length≤1000000):WC tb1 (.fn 29 [] []) [.s s] h fun u h'=>u=zct s∧Ext h h':=by
 refine (zay t2029).2 ?_
 have e0:Ext h (h.new (.cells zE)):=(Ext.refl h).new _
 have gr:(h.new (.cells zE)).get h.next=some (.cells zE):=zac rfl
 have nr:h.next<(h.new (.cells zE)).next:=Nat.lt_succ_self _
 have hR:=readE_R s
 simp only[hzE,go_sem,↓reduceIte,r29_0]
 generalize h.new (.cells zE)=h1 at e0 gr nr
 by_cases q1:200<s.length
 ·rw[if_pos q1]at hR
  have hI:(200:Int)<(s.length:Int):=by omega
  simp only[hzE,go_sem,↓reduceIte,r29_1,r29_2,hI,zbZ,st29 gr zdG]
  exact zom (b:=h.next) (c:=zE) (e:=4) (by simp only[go_sem,↓reduceIte]) (by simp only[go_sem,↓reduceIte]) (e0.put (Nat.le_refl _) _) zab zdG (zce hR)
 rw[if_neg q1]at hR
 have hI:¬ (200:Int)<(s.length:Int):=by omega
 simp only[go_sem,↓reduceIte,r29_1,r29_3,hI]
 refine (zqn hs).mono ?_
 rintro uv h2 ⟨e2,ow⟩
 have e02:=e0.trans e2
 have gr2:=e2.get nr gr
 have nr2:=Nat.lt_of_lt_of_le nr e2.nx
 have hle:=ow.sl.len
 by_cases q2:(zaM 32 s).length<3
 ·rw[if_pos q2]at hR
  have hI2:((zaM 32 s).length:Int)<3:=by omega
  simp only[hzE,go_sem,↓reduceIte,r29_4,r29_5,hle,hI2,zbZ,st29 gr2 zdG]
  exact zom (b:=h.next) (c:=zE) (e:=4) (by simp only[go_sem,↓reduceIte]) (by simp only[go_sem,↓reduceIte]) (e02.put (Nat.le_refl _) _) zab zdG (zce hR)
 rw[if_neg q2]at hR
 have hI2:¬ ((zaM 32 s).length:Int)<3:=by omega
 have hwl:∀w∈zaM 32 s,w.length≤1000000:=fun w hw=>Nat.le_trans (zdU 32 hw) hs
 have hwm:=zhh 32 s
 generalize zaM 32 s=ws at ow hle q2 hR hI2 hwl hwm
 have mk:=mkSl_ok (h:=h2) (z:=.i .i64 0) (bytes:=8) (n:=10) (by omega) (by omega)
 have n10:zbg (.i .i64 10)=some 10:=rfl
 simp only[go_sem,↓reduceIte,r29_4,r29_6,r29_7,hle,hI2,n10,mk]
 have e3:Ext h2 (h2.new (.cells (List.replicate 10 (.i .i64 0)))):=(Ext.refl h2).new _
 have gn3:(h2.new (.cells (List.replicate 10 (.i .i64 0)))).get h2.next=some (.cells ((nsF ws 0).map (V.i .i64))):=by rw[zac rfl,nsF_0];rfl
 have nn3:h2.next<(h2.new (.cells (List.replicate 10 (.i .i64 0)))).next:=Nat.lt_succ_self _
 have ow3:=ow.ext e3
 have gr3:=e3.get nr2 gr2
 have e03:=e02.trans e3
 have hne:uv=.sn∨blkV uv<h2.next:=by
  obtain⟨_,⟨_,q⟩|⟨b',g,q,_,_,q4,_⟩⟩:=ow
  ·exact .inl q
  ·right;rw[q];exact q4
 generalize h2.new (.cells (List.replicate 10 (.i .i64 0)))=h3 at gn3 nn3 ow3 gr3 e03 e3
 generalize h2.next=nb at gn3 nn3 nr2 hne
 refine W_gen (fun t=>t.length=176∧nth t 0=.s s∧nth t 2=.p h.next 0∧nth t 4=uv∧nth t 5=.sl nb 0 10 10 none∧nth t 6=.i .i64 2) ?_ ?_
 ·refine⟨?_,?_,?_,?_,?_,?_⟩<;>simp only[go_sem,↓reduceIte]
 rintro t ⟨tl,t0,t2,t4,t5,t6⟩
 refine loop29 (h:=h) (Nat.le_refl _) nr2 hwl (by omega) (by omega) (by omega) ow3 hne tl t0 t2 t4 t5 t6 e03 gr3 gn3 nn3 ?_
 intro t' h' a1 a2 a3 a4 a5 ex gr gn hnb ow
 simp only[go_sem,↓reduceIte]
 have f:=tail29 (h:=h) (t:=t') hR (Nat.le_refl _) nr2 hwl (by omega) ow.sl a1 a2 a3 a4 a5 ex gr gn hnb
 unfold zkh at f
 simp only[zbC,zbi,W_block']at f
 exact f
end
end Go.Air
set_option maxRecDepth 100000
namespace Go.Air
open Go.Air.Try
def zeM (k:Nat) (c:Int) (es:List Ent):Int:=es.foldl (fun n x=>if x.kind=k∧x.a=c then x.n else n) 0
theorem zfg (k:Nat) (c:Int) (es:List Ent) (x:Ent):zeM k c (es++[x])=if x.kind=k∧x.a=c then x.n else zeM k c es:=by unfold zeM;rw[List.foldl_append];rfl
def zbo (id:Int) (g:Gf):Int:=if g.ret=id∧(g.st=2∨g.st=4) then g.worth else 0
def metL (id:Int) (gs:List Gf):Int:=gs.foldl (fun n g=>n+zbo id g) 0
theorem zlj (id:Int) (gs:List Gf) (g:Gf):metL id (gs++[g])=metL id gs+zbo id g:=by unfold metL;rw[List.foldl_append];rfl
theorem zot {id:Int} {gs:List Gf} (h:∀g∈gs,0≤g.worth∧g.worth≤1000000000000):0≤metL id gs∧metL id gs≤(gs.length:Int)*1000000000000:=by
 have key:∀(l:List Gf) (a:Int),(∀g∈l,0≤g.worth∧g.worth≤1000000000000)→a≤l.foldl (fun n g=>n+zbo id g) a∧l.foldl (fun n g=>n+zbo id g) a≤a+(l.length:Int)*1000000000000:=by
  intro l
  induction l with
  |nil=>intro a _;simp
  |cons g l ih=>
   intro a hl
   have hg:=hl g (by simp)
   have:=ih (a+zbo id g) fun x hx=>hl x (by simp[hx])
   have hm:0≤zbo id g∧zbo id g≤1000000000000:=by unfold zbo;split<;>omega
   rw[List.foldl_cons,List.length_cons]
   constructor
   ·omega
   ·have:=this.2;push_cast;omega
 have:=key gs 0 h
 unfold metL
 omega
section
variable {h:H} {v:V} {es:List Ent} {gs:List Gf}
theorem ziF {i k:Nat} {x:Ent} {w:V} (S:Sl 24 h v es.length (zaO es)) (hx:es[i]? = some x) (hk:k<24) (hw:x.cells[k]? = some w):ldV h (.p (blkV v) (offV v+i*24+k))=some w:=by
 rw[S.ld (List.getElem?_eq_some_iff.1 hx).1 hk];unfold zaO;rw[zeQ zaI hx hk];exact hw
theorem ziv {i k:Nat} {x:Gf} {w:V} (S:Sl 10 h v gs.length (zam gs)) (hx:gs[i]? = some x) (hk:k<10) (hw:x.cells[k]? = some w):ldV h (.p (blkV v) (offV v+i*10+k))=some w:=by
 rw[S.ld (List.getElem?_eq_some_iff.1 hx).1 hk];unfold zam;rw[zeQ zaK hx hk];exact hw
theorem t2127:tb1 127=some a127:=by kernel_rfl
theorem t2171:tb1 171=some a171:=by kernel_rfl
theorem t2128:tb1 128=some a128:=by kernel_rfl
theorem znE {cur:Nat} (hc:cur<256) (S:Sl 24 h v es.length (zaO es)) (hl:es.length≤1000):WC tb1 (.fn 127 [] []) [v,.i .u8 (cur:Int)] h fun u h'=>u=.i .i64 (zeM 1 cur es)∧h'=h:=by
 refine (zay t2127).2 ?_
 have hle:=S.len
 simp only[go_sem,↓reduceIte,r127_0,r127_1,r127_2]
 refine zax (fun k t hh=>∃i,k=es.length-i∧i≤es.length∧t.length=35∧nth t 0=v∧nth t 1=.i .u8 (cur:Int)∧nth t 5=.i .i64 (zeM 1 cur (es.take i))∧nth t 6=.i .i64 (i:Int)∧hh=h) ?_ es.length ?_
 ·rintro k t hh ⟨i,rfl,hi,tl,t0,t1,t5,t6,rfl⟩
  unfold b127_0
  by_cases hin:i<es.length
  ·have hI:(i:Int)<(es.length:Int):=by omega
   have w1:IntKind.i64.wrap ((i:Int)+1)=((i+1:Nat):Int):=zaq (by omega)
   obtain⟨x,hx⟩:∃x,es[i]? = some x:=⟨_,List.getElem?_eq_getElem hin⟩
   have hix:=S.ix hin
   have l0:ldV hh (.p (blkV v) (offV v+i*24+0))=some (.i .u8 (x.kind:Int)):=ziF S hx (by omega) rfl
   have l21:ldV hh (.p (blkV v) (offV v+i*24+21))=some (.i .i64 x.a):=ziF S hx (by omega) rfl
   have l23:ldV hh (.p (blkV v) (offV v+i*24+23))=some (.i .i64 x.n):=ziF S hx (by omega) rfl
   have k1:binV .eql (.i .u8 (x.kind:Int)) (.i .u8 1)=some (.b (decide (x.kind=1))):=zaj (j:=1)
   have hcv:zca .i64 (.i .u8 (cur:Int))=some (.i .i64 (cur:Int)):=zcn hc
   have hs:=zfg 1 cur (es.take i) x
   rw[← zaz hx]at hs
   by_cases c1:x.kind=1
   ·have d1:decide (x.kind=1)=true:=decide_eq_true c1
    by_cases c2:x.a=(cur:Int)
    ·rw[if_pos ⟨c1,c2⟩]at hs
     simp only[go_sem,↓reduceIte,r127_3,r127_5,r127_6,r127_4,tl,t0,t1,t5,t6,hle,hI,hix,l0,l21,l23,k1,d1,hcv,c2,w1]
     exact⟨es.length-(i+1),by omega,i+1,rfl,by omega,by rw[hs],rfl⟩
    ·rw[if_neg fun q=>c2 q.2]at hs
     simp only[go_sem,↓reduceIte,r127_3,r127_5,r127_6,r127_4,tl,t0,t1,t5,t6,hle,hI,hix,l0,l21,l23,k1,d1,hcv,c2,w1]
     exact⟨es.length-(i+1),by omega,i+1,rfl,by omega,by rw[hs],rfl⟩
   ·have d1:decide (x.kind=1)=false:=decide_eq_false c1
    rw[if_neg fun q=>c1 q.1]at hs
    simp only[go_sem,↓reduceIte,r127_3,r127_5,r127_6,r127_4,tl,t0,t1,t5,t6,hle,hI,hix,l0,l21,l23,k1,d1,hcv,w1]
    exact⟨es.length-(i+1),by omega,i+1,rfl,by omega,by rw[hs],rfl⟩
  ·have hI:¬ (i:Int)<(es.length:Int):=by omega
   obtain rfl:i=es.length:=by omega
   rw[List.take_length]at t5
   simp only[go_sem,↓reduceIte,r127_3,r127_7,tl,t0,t5,t6,hle,hI]
 ·refine⟨0,rfl,Nat.zero_le _,?_,?_,?_,?_,?_,rfl⟩<;>first|(simp only[go_sem,↓reduceIte];done)|(simp only[go_sem,↓reduceIte];rfl)
theorem fn_ceilR {st:Int} (S:Sl 24 h v es.length (zaO es)) (hl:es.length≤1000):WC tb1 (.fn 171 [] []) [v,.i .i64 st] h fun u h'=>u=.i .i64 (zeM 2 st es)∧h'=h:=by
 refine (zay t2171).2 ?_
 have hle:=S.len
 simp only[go_sem,↓reduceIte,r171_0,r171_1,r171_2]
 refine zax (fun k t hh=>∃i,k=es.length-i∧i≤es.length∧t.length=34∧nth t 0=v∧nth t 1=.i .i64 st∧nth t 5=.i .i64 (zeM 2 st (es.take i))∧nth t 6=.i .i64 (i:Int)∧hh=h) ?_ es.length ?_
 ·rintro k t hh ⟨i,rfl,hi,tl,t0,t1,t5,t6,rfl⟩
  unfold b171_0
  by_cases hin:i<es.length
  ·have hI:(i:Int)<(es.length:Int):=by omega
   have w1:IntKind.i64.wrap ((i:Int)+1)=((i+1:Nat):Int):=zaq (by omega)
   obtain⟨x,hx⟩:∃x,es[i]? = some x:=⟨_,List.getElem?_eq_getElem hin⟩
   have hix:=S.ix hin
   have l0:ldV hh (.p (blkV v) (offV v+i*24+0))=some (.i .u8 (x.kind:Int)):=ziF S hx (by omega) rfl
   have l21:ldV hh (.p (blkV v) (offV v+i*24+21))=some (.i .i64 x.a):=ziF S hx (by omega) rfl
   have l23:ldV hh (.p (blkV v) (offV v+i*24+23))=some (.i .i64 x.n):=ziF S hx (by omega) rfl
   have k1:binV .eql (.i .u8 (x.kind:Int)) (.i .u8 2)=some (.b (decide (x.kind=2))):=zaj (j:=2)
   have hs:=zfg 2 st (es.take i) x
   rw[← zaz hx]at hs
   by_cases c1:x.kind=2
   ·have d1:decide (x.kind=2)=true:=decide_eq_true c1
    by_cases c2:x.a=st
    ·rw[if_pos ⟨c1,c2⟩]at hs
     simp only[go_sem,↓reduceIte,r171_3,r171_5,r171_6,r171_4,tl,t0,t1,t5,t6,hle,hI,hix,l0,l21,l23,k1,d1,c2,w1]
     exact⟨es.length-(i+1),by omega,i+1,rfl,by omega,by rw[hs],rfl⟩
    ·rw[if_neg fun q=>c2 q.2]at hs
     simp only[go_sem,↓reduceIte,r171_3,r171_5,r171_6,r171_4,tl,t0,t1,t5,t6,hle,hI,hix,l0,l21,l23,k1,d1,c2,w1]
     exact⟨es.length-(i+1),by omega,i+1,rfl,by omega,by rw[hs],rfl⟩
   ·have d1:decide (x.kind=2)=false:=decide_eq_false c1
    rw[if_neg fun q=>c1 q.1]at hs
    simp only[go_sem,↓reduceIte,r171_3,r171_5,r171_6,r171_4,tl,t0,t1,t5,t6,hle,hI,hix,l0,l21,l23,k1,d1,w1]
    exact⟨es.length-(i+1),by omega,i+1,rfl,by omega,by rw[hs],rfl⟩
  ·have hI:¬ (i:Int)<(es.length:Int):=by omega
   obtain rfl:i=es.length:=by omega
   rw[List.take_length]at t5
   simp only[go_sem,↓reduceIte,r171_3,r171_7,tl,t0,t5,t6,hle,hI]
 ·refine⟨0,rfl,Nat.zero_le _,?_,?_,?_,?_,?_,rfl⟩<;>first|(simp only[go_sem,↓reduceIte];done)|(simp only[go_sem,↓reduceIte];rfl)
theorem fn_metR {id:Int} (S:Sl 10 h v gs.length (zam gs)) (hl:gs.length≤1000) (hw:∀g∈gs,0≤g.worth∧g.worth≤1000000000000):WC tb1 (.fn 128 [] []) [v,.i .i64 id] h fun u h'=>u=.i .i64 (metL id gs)∧h'=h:=by
 refine (zay t2128).2 ?_
 have hle:=S.len
 simp only[go_sem,↓reduceIte,r128_0,r128_1,r128_2]
 refine zax (fun k t hh=>∃i,k=gs.length-i∧i≤gs.length∧t.length=44∧nth t 0=v∧nth t 1=.i .i64 id∧nth t 5=.i .i64 (metL id (gs.take i))∧nth t 6=.i .i64 (i:Int)∧hh=h) ?_ gs.length ?_
 ·rintro k t hh ⟨i,rfl,hi,tl,t0,t1,t5,t6,rfl⟩
  unfold b128_0
  by_cases hin:i<gs.length
  ·have hI:(i:Int)<(gs.length:Int):=by omega
   have w1:IntKind.i64.wrap ((i:Int)+1)=((i+1:Nat):Int):=zaq (by omega)
   obtain⟨x,hx⟩:∃x,gs[i]? = some x:=⟨_,List.getElem?_eq_getElem hin⟩
   have hix:=S.ix hin
   have l9:ldV hh (.p (blkV v) (offV v+i*10+9))=some (.i .i64 x.ret):=ziv S hx (by omega) rfl
   have l7:ldV hh (.p (blkV v) (offV v+i*10+7))=some (.i .u8 (x.st:Int)):=ziv S hx (by omega) rfl
   have l6:ldV hh (.p (blkV v) (offV v+i*10+6))=some (.i .i64 x.worth):=ziv S hx (by omega) rfl
   have k2:binV .eql (.i .u8 (x.st:Int)) (.i .u8 2)=some (.b (decide (x.st=2))):=zaj (j:=2)
   have k4:binV .eql (.i .u8 (x.st:Int)) (.i .u8 4)=some (.b (decide (x.st=4))):=zaj (j:=4)
   have hs:=zlj id (gs.take i) x
   rw[← zaz hx]at hs
   have hb:=zot (id:=id) (gs:=gs.take i) fun g hg=>hw g (List.mem_of_mem_take hg)
   have hxw:=hw x (List.mem_of_getElem? hx)
   rw[List.length_take]at hb
   unfold zbo at hs
   by_cases c1:x.ret=id
   ·by_cases c2:x.st=2
    ·have d2:decide (x.st=2)=true:=decide_eq_true c2
     rw[if_pos ⟨c1,.inl c2⟩]at hs
     have w2:IntKind.i64.wrap (metL id (gs.take i)+x.worth)=metL id (gs.take i)+x.worth:=zap (by omega) (by omega)
     simp only[go_sem,↓reduceIte,r128_3,r128_5,r128_6,r128_4,tl,t0,t1,t5,t6,hle,hI,hix,l9,l7,l6,k2,k4,d2,c1,w1,w2]
     exact⟨gs.length-(i+1),by omega,i+1,rfl,by omega,by rw[hs],rfl⟩
    ·have d2:decide (x.st=2)=false:=decide_eq_false c2
     by_cases c4:x.st=4
     ·have d4:decide (x.st=4)=true:=decide_eq_true c4
      rw[if_pos ⟨c1,.inr c4⟩]at hs
      have w2:IntKind.i64.wrap (metL id (gs.take i)+x.worth)=metL id (gs.take i)+x.worth:=zap (by omega) (by omega)
      simp only[go_sem,↓reduceIte,r128_3,r128_5,r128_6,r128_4,tl,t0,t1,t5,t6,hle,hI,hix,l9,l7,l6,k2,k4,d2,d4,c1,w1,w2]
      exact⟨gs.length-(i+1),by omega,i+1,rfl,by omega,by rw[hs],rfl⟩
     ·have d4:decide (x.st=4)=false:=decide_eq_false c4
      rw[if_neg (by omega),Int.add_zero]at hs
      simp only[go_sem,↓reduceIte,r128_3,r128_5,r128_6,r128_4,tl,t0,t1,t5,t6,hle,hI,hix,l9,l7,l6,k2,k4,d2,d4,c1,w1]
      exact⟨gs.length-(i+1),by omega,i+1,rfl,by omega,by rw[hs],rfl⟩
   ·rw[if_neg fun q=>c1 q.1,Int.add_zero]at hs
    simp only[go_sem,↓reduceIte,r128_3,r128_5,r128_6,r128_4,tl,t0,t1,t5,t6,hle,hI,hix,l9,l7,l6,k2,k4,c1,w1]
    exact⟨gs.length-(i+1),by omega,i+1,rfl,by omega,by rw[hs],rfl⟩
  ·have hI:¬ (i:Int)<(gs.length:Int):=by omega
   obtain rfl:i=gs.length:=by omega
   rw[List.take_length]at t5
   simp only[go_sem,↓reduceIte,r128_3,r128_7,tl,t0,t5,t6,hle,hI]
 ·refine⟨0,rfl,Nat.zero_le _,?_,?_,?_,?_,?_,rfl⟩<;>first|(simp only[go_sem,↓reduceIte];done)|(simp only[go_sem,↓reduceIte];rfl)
end
end Go.Air
set_option maxRecDepth 100000
namespace Go.Air
open Go.Air.Try
theorem zcv (id:Int) (g:Gf) (gs:List Gf):metL id (g::gs)=zbo id g+metL id gs:=by
 have key:∀(l:List Gf) (a:Int),l.foldl (fun n g=>n+zbo id g) a=a+l.foldl (fun n g=>n+zbo id g) 0:=by
  intro l
  induction l with
  |nil=>intro a;simp
  |cons x l ih=>intro a;rw[List.foldl_cons,List.foldl_cons,ih,ih (0+zbo id x)];omega
 unfold metL
 rw[List.foldl_cons,key];omega
theorem zke (id:Int) (g':Gf):∀{gs:List Gf} {i:Nat} {g:Gf},gs[i]? = some g→metL id (gs.set i g')=metL id gs-zbo id g+zbo id g'
 |[],i,_,h=>by simp at h
 |a::l,0,g,h=>by
  cases h
  rw[List.set_cons_zero,zcv,zcv];omega
 |a::l,i+1,g,h=>by
  rw[List.set_cons_succ,zcv,zcv,zke id g' (gs:=l) (by simpa using h)];omega
theorem zlk (id:Int):∀{gs:List Gf},(∀g∈gs,g.ret≠id)→metL id gs=0
 |[],_=>rfl
 |g::l,h=>by
  rw[zcv,zlk id fun x hx=>h x (by simp[hx])]
  unfold zbo
  rw[if_neg fun q=>h g (by simp) q.1];rfl
def zch (es:List Ent) (out:List Gf) (x:Ent):List Gf:=
 if x.kind=5 then out++[x.g.offd (x.g.n*zeM 1 x.g.cur es)]
 else if x.kind=6 then out.set (x.g.id-1).toNat ((out.getD (x.g.id-1).toNat gf0).mark 2 x.day)
 else if x.kind=7 then out.set (x.g.id-1).toNat ((out.getD (x.g.id-1).toNat gf0).mark 3 x.day)
 else out
def givP (es:List Ent):List Ent × List Gf:=es.foldl (fun p x=>(p.1++[x],zch p.1 p.2 x)) ([],[])
theorem givP_fst (es:List Ent):(givP es).1=es:=by
 have key:∀(l:List Ent) (p:List Ent × List Gf),(l.foldl (fun p x=>(p.1++[x],zch p.1 p.2 x)) p).1=p.1++l:=by
  intro l
  induction l with
  |nil=>intro p;simp
  |cons x l ih=>intro p;rw[List.foldl_cons,ih];simp
 unfold givP;rw[key];rfl
def giv0 (es:List Ent):List Gf:=(givP es).2
theorem zls (es:List Ent) (x:Ent):giv0 (es++[x])=zch es (giv0 es) x:=by
 have:givP (es++[x])=((givP es).1++[x],zch (givP es).1 (givP es).2 x):=by unfold givP;rw[List.foldl_append];rfl
 unfold giv0
 rw[this,givP_fst]
def finG (m:Int→Int) (g:Gf):Gf:=if g.st=2∧g.ret=0∧g.worth≤m g.id then g.done else g
def finL (gs:List Gf):List Gf:=gs.map (finG fun id=>metL id gs)
theorem zbw (gs:List Gf):(finL gs).length=gs.length:=List.length_map _
theorem zdd {gs:List Gf} {i:Nat} {g:Gf} (h:gs[i]? = some g):(finL gs)[i]? = some (finG (fun id=>metL id gs) g):=by unfold finL;rw[List.getElem?_map,h];rfl
theorem zqE {gs:List Gf} {i:Nat} {u:Gf} (h:(finL gs)[i]? = some u):∃g,gs[i]? = some g∧u=finG (fun id=>metL id gs) g:=by
 unfold finL at h
 rw[List.getElem?_map,Option.map_eq_some_iff]at h
 obtain⟨g,h1,h2⟩:=h
 exact⟨g,h1,h2.symm⟩
theorem zlH {m:Int→Int} {g:Gf} (h:(finG m g).st≠4):finG m g=g:=by
 unfold finG at h ⊢
 split
 ·rename_i q
  rw[if_pos q]at h
  exact absurd rfl h
 ·rfl
theorem ziE (m:Int→Int) (g:Gf):(finG m g).id=g.id∧(finG m g).frm=g.frm∧(finG m g).to=g.to∧(finG m g).worth=g.worth∧(finG m g).ret=g.ret∧(finG m g).done=g.done:=by
 unfold finG
 split<;>exact⟨rfl,rfl,rfl,rfl,rfl,rfl⟩
structure GivOk (es:List Ent):Prop where
 rate:∀c,(stOf es).rate c=zeM 1 c es
 ceil:∀c,zeM 2 c es=((stOf es).ceil c).getD 0
 gifts:(stOf es).gifts=finL (giv0 es)
 met:∀id,id≠0→(stOf es).met id=metL id (giv0 es)
 st:∀g∈giv0 es,g.st=1∨g.st=2∨g.st=3
 back:∀g∈giv0 es,g.ret≠0→∃e,(giv0 es)[(g.ret-1).toNat]? = some e∧e.st=2∧e.ret=0
theorem GivOk.fit {es:List Ent} (o:GivOk es) (ok:(stOf es).Ok es.length) {i:Nat} {g:Gf} (h:(giv0 es)[i]? = some g):g.id=(i:Int)+1∧(1≤g.worth∧g.worth≤1000000000000)∧(0≤g.ret∧g.ret≤(i:Int)):=by
 have h1:=zdd h
 rw[← o.gifts]at h1
 have f:=ok.gs _ _ h1
 have q:=ziE (fun id=>metL id (giv0 es)) g
 exact⟨by rw[← q.1];exact f.id,by rw[← q.2.2.2.1];exact f.worth,by rw[← q.2.2.2.2.1];exact f.ret⟩
theorem doE_rate {s:St} {x:Ent} (h:x.kind≠1) (c:Int):(s.doE x).rate c=s.rate c:=by
 unfold St.doE
 rw[if_neg h]
 split;· rfl
 split;· rfl
 split
 ·unfold St.take
  split;· rfl
  unfold St.back
  split<;>rfl
 ·rfl
theorem doE_ceil {s:St} {x:Ent} (h:x.kind≠2) (c:Int):(s.doE x).ceil c=s.ceil c:=by
 unfold St.doE
 rw[if_neg h]
 split;· rfl
 split;· rfl
 split
 ·unfold St.take
  split;· rfl
  unfold St.back
  split<;>rfl
 ·rfl
theorem znN {gs:List Gf} {i:Nat} {g g':Gf} (hi:gs[i]? = some g) (hm:∀u∈gs.set i g',∀id,u.id=id→metL id (gs.set i g')=metL id gs) (hf:finG (fun id=>metL id gs) g'=g'):finL (gs.set i g')=(finL gs).set i g':=by
 apply List.ext_getElem?
 intro j
 have hlt:=(List.getElem?_eq_some_iff.1 hi).1
 by_cases hj:i=j
 ·subst hj
  rw[zdd (g:=g') (by rw[List.getElem?_set_self hlt]),List.getElem?_set_self (by rw[zbw];exact hlt)]
  have hmem:g'∈gs.set i g':=List.mem_of_getElem? (List.getElem?_set_self hlt)
  have hm':=hm g' hmem g'.id rfl
  congr 1
  refine Eq.trans ?_ hf
  unfold finG
  simp only[hm']
 ·rw[List.getElem?_set_ne hj]
  match hg:gs[j]? with
  |none=>
   have:gs.length≤j:=List.getElem?_eq_none_iff.1 hg
   rw[List.getElem?_eq_none (by rw[zbw,List.length_set];exact this),List.getElem?_eq_none (by rw[zbw];exact this)]
  |some u=>
   have h1:(gs.set i g')[j]? = some u:=by rw[List.getElem?_set_ne hj];exact hg
   rw[zdd h1,zdd hg]
   unfold finG
   simp only[hm u (List.mem_of_getElem? h1) u.id rfl]
theorem znA {es:List Ent} (L:Led es):GivOk es:=by
 induction L with
 |nil=>
  refine⟨fun _=>rfl,fun _=>rfl,rfl,fun _ _=>rfl,?_,?_⟩
  ·intro g hg;cases hg
  ·intro g hg;cases hg
 |@add es x L hf h34 hd o=>
  have ok:=L.ok
  obtain⟨_,hr⟩:=doL_0 hd
  have hk:=zbf hf
  have sa:=zhS es x
  have fit:=fun {i g}=>o.fit ok (i:=i) (g:=g)
  have hrate:∀c,(stOf (es++[x])).rate c=zeM 1 c (es++[x]):=by
   intro c
   rw[sa,zfg]
   by_cases c1:x.kind=1
   ·by_cases c2:x.a=c
    ·rw[if_pos ⟨c1,c2⟩];unfold St.doE;rw[if_pos c1,← c2];exact zid
    ·rw[if_neg fun q=>c2 q.2];unfold St.doE;rw[if_pos c1];exact (zpa fun q=>c2 q.symm).trans (o.rate c)
   ·rw[if_neg fun q=>c1 q.1,doE_rate c1];exact o.rate c
  have hceil:∀c,zeM 2 c (es++[x])=((stOf (es++[x])).ceil c).getD 0:=by
   intro c
   rw[sa,zfg]
   by_cases c1:x.kind=2
   ·have n1:¬ x.kind=1:=by omega
    have hc:((stOf es).doE x).ceil=updF (stOf es).ceil x.a (some x.n):=by unfold St.doE;rw[if_neg n1,if_pos c1]
    by_cases c2:x.a=c
    ·rw[if_pos ⟨c1,c2⟩,hc,c2,zid];rfl
    ·rw[if_neg fun q=>c2 q.2,hc,zpa fun q=>c2 q.symm];exact o.ceil c
   ·rw[if_neg fun q=>c1 q.1,doE_ceil c1];exact o.ceil c
  suffices hm:(stOf (es++[x])).gifts=finL (giv0 (es++[x]))∧(∀id,id≠0→(stOf (es++[x])).met id=metL id (giv0 (es++[x])))∧(∀g∈giv0 (es++[x]),g.st=1∨g.st=2∨g.st=3)∧(∀g∈giv0 (es++[x]),g.ret≠0→∃e,(giv0 (es++[x]))[(g.ret-1).toNat]? = some e∧e.st=2∧e.ret=0) from
   ⟨hrate,hceil,hm.1,hm.2.1,hm.2.2.1,hm.2.2.2⟩
  clear hrate hceil
  rw[sa,zls]
  have og:=o.gifts
  have om:=o.met
  have os:=o.st
  have ob:=o.back
  have orate:=o.rate
  generalize hG:giv0 es=G at og om os ob fit
  generalize hs:stOf es=s at og om orate hr ok
  have hlen:s.gifts.length=G.length:=by rw[og,zbw]
  have ans:(x.kind=6∨x.kind=7)→∃g,G[(x.g.id-1).toNat]? = some g∧s.gift x.g.id=g∧g.st=1∧g.id=x.g.id∧(x.g.id-1).toNat<G.length:=by
   intro h67
   have i1:=(zgQ hf h67).1
   unfold St.refE at hr
   rw[if_neg (by omega),if_pos h67]at hr
   split at hr;· omega
   rename_i q1
   split at hr;· omega
   rename_i q2
   have q2:(s.gift x.g.id).st=1:=Decidable.of_not_not q2
   have ga:=St.gift_at i1 (show x.g.id≤(s.gifts.length:Int) by omega)
   rw[og]at ga
   obtain⟨g,g1,g2⟩:=zqE ga
   have g3:s.gift x.g.id=g:=by rw[g2];exact zlH (by rw[← g2,q2];omega)
   rw[g3]at q2
   have:=(fit g1).1
   exact⟨g,g1,g3,q2,by omega,(List.getElem?_eq_some_iff.1 g1).1⟩
  by_cases c5:x.kind=5
  ·have e1:s.doE x=s.offer x.g:=by unfold St.doE;rw[if_neg (by omega),if_neg (by omega),if_pos c5]
   have e2:zch es G x=G++[x.g.offd (s.worth x.g)]:=by unfold zch St.worth;rw[if_pos c5,orate]
   rw[e1,e2]
   have hm0:∀id,metL id (G++[x.g.offd (s.worth x.g)])=metL id G:=by
    intro id
    rw[zlj]
    have:zbo id (x.g.offd (s.worth x.g))=0:=by unfold zbo;exact if_neg (by rintro⟨_,h|h⟩<;>cases h)
    omega
   refine⟨?_,?_,?_,?_⟩
   ·show s.gifts++[x.g.offd (s.worth x.g)]=_
    unfold finL
    rw[List.map_append,og]
    simp only[hm0]
    unfold finL
    congr 1
   ·intro id hid
    rw[hm0];exact om id hid
   ·intro g hg
    rcases List.mem_append.1 hg with hg|hg
    ·exact os g hg
    ·rw[List.mem_singleton.1 hg];exact .inl rfl
   ·intro g hg hne
    rcases List.mem_append.1 hg with hg|hg
    ·obtain⟨e,a1,a2⟩:=ob g hg hne
     exact⟨e,by rw[List.getElem?_append_left (List.getElem?_eq_some_iff.1 a1).1];exact a1,a2⟩
    ·rw[List.mem_singleton.1 hg]at hne ⊢
     have hne:x.g.ret≠0:=hne
     have ho:=zgR hf c5
     have hrr:=(zbe ho).2.2.2.2.1
     unfold St.refE at hr
     rw[if_pos c5]at hr
     unfold St.refO at hr
     split at hr;· omega
     split at hr;· omega
     split at hr;· omega
     split at hr;· omega
     rename_i q4
     split at hr;· omega
     rename_i q5
     have hpos:0<x.g.ret:=by omega
     have q5:¬ ((s.gift x.g.ret).frm≠x.g.to∨(s.gift x.g.ret).to≠x.g.frm∨(s.gift x.g.ret).ret≠0∨(s.gift x.g.ret).st≠2):=fun q=>q5 ⟨hpos,q⟩
     have ga:=St.gift_at (s:=s) (id:=x.g.ret) (by omega) (by omega)
     rw[og]at ga
     obtain⟨g,g1,g2⟩:=zqE ga
     have st2:(s.gift x.g.ret).st=2:=Decidable.of_not_not fun q=>q5 (.inr (.inr (.inr q)))
     have ret0:(s.gift x.g.ret).ret=0:=Decidable.of_not_not fun q=>q5 (.inr (.inr (.inl q)))
     have g3:s.gift x.g.ret=g:=by rw[g2];exact zlH (by rw[← g2,st2];omega)
     rw[g3]at st2 ret0
     show ∃e,(G++[x.g.offd (s.worth x.g)])[(x.g.ret-1).toNat]? = some e∧_
     exact⟨g,by rw[List.getElem?_append_left (List.getElem?_eq_some_iff.1 g1).1];exact g1,st2,ret0⟩
  by_cases c12:x.kind=1∨x.kind=2
  ·have e2:zch es G x=G:=by unfold zch;rw[if_neg c5,if_neg (by omega),if_neg (by omega)]
   have e1:(s.doE x).gifts=s.gifts∧(s.doE x).met=s.met:=by
    unfold St.doE
    split;· exact⟨rfl,rfl⟩
    rw[if_pos (by omega)];exact⟨rfl,rfl⟩
   rw[e2,e1.1,e1.2]
   exact⟨og,om,os,ob⟩
  have h67:x.kind=6∨x.kind=7:=by omega
  obtain⟨g,g1,g2,g3,g4,g5⟩:=ans h67
  have hgd:G.getD (x.g.id-1).toNat gf0=g:=by rw[List.getD_eq_getElem?_getD,g1];rfl
  have noone:∀u∈G,u.ret≠x.g.id:=by
   intro u hu hq
   have:=g4
   have hfi:=fit g1
   obtain⟨e,a1,a2,_⟩:=ob u hu (by omega)
   rw[hq,g1]at a1
   cases a1
   omega
  have back':∀g',g'.ret=g.ret→∀u∈G.set (x.g.id-1).toNat g',u.ret≠0→∃e,(G.set (x.g.id-1).toNat g')[(u.ret-1).toNat]? = some e∧e.st=2∧e.ret=0:=by
   intro g' hg' u hu hne
   have hur:∃w∈G,w.ret=u.ret:=by
    rcases List.mem_or_eq_of_mem_set hu with h|h
    ·exact⟨u,h,rfl⟩
    ·exact⟨g,List.mem_of_getElem? g1,by rw[h,hg']⟩
   obtain⟨w,hw,hwr⟩:=hur
   obtain⟨e,a1,a2⟩:=ob w hw (by omega)
   rw[hwr]at a1
   refine⟨e,?_,a2⟩
   have:(x.g.id-1).toNat≠(u.ret-1).toNat:=by
    intro q
    rw[← q,g1]at a1
    cases a1
    omega
   rw[List.getElem?_set_ne this];exact a1
  have hgf:=fit g1
  by_cases c6:x.kind=6
  ·have e2:zch es G x=G.set (x.g.id-1).toNat (g.mark 2 x.day):=by unfold zch;rw[if_neg c5,if_pos c6,hgd]
   have e1:s.doE x=s.take x.day x.g.id:=by unfold St.doE;rw[if_neg (by omega),if_neg (by omega),if_neg c5,if_pos c6]
   have hm1:∀id,id≠0→metL id (G.set (x.g.id-1).toNat (g.mark 2 x.day))=metL id G+if g.ret=id then g.worth else 0:=by
    intro id hid
    rw[zke id _ g1]
    have m1:zbo id g=0:=by unfold zbo;exact if_neg (by omega)
    have m2:zbo id (g.mark 2 x.day)=if g.ret=id then g.worth else 0:=by
     unfold zbo
     by_cases q:g.ret=id
     ·rw[if_pos q];exact if_pos ⟨q,.inl rfl⟩
     ·rw[if_neg q];exact if_neg fun h=>q h.1
    omega
   have st':∀u∈G.set (x.g.id-1).toNat (g.mark 2 x.day),u.st=1∨u.st=2∨u.st=3:=by
    intro u hu
    rcases List.mem_or_eq_of_mem_set hu with h|h
    ·exact os u h
    ·rw[h];exact .inr (.inl rfl)
   rw[e1,e2]
   have f2:finG (fun id=>metL id G) (g.mark 2 x.day)=g.mark 2 x.day:=by
    unfold finG
    refine if_neg ?_
    rintro⟨_,_,q⟩
    have q:g.worth≤metL g.id G:=q
    rw[g4,zlk x.g.id noone]at q
    omega
   unfold St.take
   rw[g2]
   by_cases q0:g.ret=0
   ·rw[if_pos q0]
    have hid:∀u∈G.set (x.g.id-1).toNat (g.mark 2 x.day),u.id≠0:=by
     intro u hu
     rcases List.mem_or_eq_of_mem_set hu with h|h
     ·obtain⟨j,hj⟩:=List.mem_iff_getElem?.1 h
      have:=(fit hj).1
      omega
     ·rw[h];show g.id≠0;omega
    refine⟨?_,?_,st',back' _ rfl⟩
    ·show s.gifts.set (x.g.id-1).toNat (g.mark 2 x.day)=_
     rw[og]
     refine (znN g1 ?_ f2).symm
     intro u hu id hq
     have:=hid u hu
     rw[hm1 id (by omega),if_neg (by omega),Int.add_zero]
    ·intro id hne
     show s.met id=_
     rw[hm1 id hne,if_neg (by omega),Int.add_zero]
     exact om id hne
   ·rw[if_neg q0]
    obtain⟨e,a1,a2,a3⟩:=ob g (List.mem_of_getElem? g1) q0
    have hef:=fit a1
    have hne:(x.g.id-1).toNat≠(g.ret-1).toNat:=by
     intro q
     rw[← q,g1]at a1
     cases a1
     omega
    have hrl:(g.ret-1).toNat<G.length:=(List.getElem?_eq_some_iff.1 a1).1
    have sg1:(s.setG x.g.id (g.mark 2 x.day)).gift g.ret=finG (fun id=>metL id G) e:=by
     unfold St.gift
     show (s.gifts.set _ _).getD _ _=_
     rw[List.getD_eq_getElem?_getD,List.getElem?_set_ne hne,og,zdd a1];rfl
    have sw:=ziE (fun id=>metL id G) e
    have eid:e.id=g.ret:=by omega
    have hmr:s.met g.ret=metL g.ret G:=om _ q0
    have hgr:=hm1 g.ret q0
    rw[if_pos rfl]at hgr
    unfold St.back
    rw[sg1]
    have smet:(s.setG x.g.id (g.mark 2 x.day)).met=s.met:=rfl
    have sgif:(s.setG x.g.id (g.mark 2 x.day)).gifts=(finL G).set (x.g.id-1).toNat (g.mark 2 x.day):=by rw[← og];rfl
    rw[smet,sgif,sw.2.2.2.1,sw.2.2.2.2.2,hmr]
    have mets:∀id,id≠0→updF s.met g.ret (metL g.ret G+g.worth) id=metL id (G.set (x.g.id-1).toNat (g.mark 2 x.day)):=by
     intro id hid
     rw[hm1 id hid]
     unfold updF
     by_cases q:id=g.ret
     ·rw[if_pos q,if_pos q.symm,q]
     ·rw[if_neg q,if_neg fun h=>q h.symm,Int.add_zero];exact om id hid
    have one:∀j,(finL (G.set (x.g.id-1).toNat (g.mark 2 x.day)))[j]? = if j=(g.ret-1).toNat then some (if e.worth≤metL g.ret G+g.worth then e.done else e) else ((finL G).set (x.g.id-1).toNat (g.mark 2 x.day))[j]? := by
     intro j
     by_cases hj1:j=(g.ret-1).toNat
     ·rw[if_pos hj1,hj1,zdd (g:=e) (by rw[List.getElem?_set_ne hne];exact a1)]
      congr 1
      unfold finG
      simp only[a2,a3,eid,hgr,true_and]
     ·rw[if_neg hj1]
      by_cases hj2:j=(x.g.id-1).toNat
      ·rw[hj2,List.getElem?_set_self (by rw[zbw];exact g5),zdd (List.getElem?_set_self g5)]
       congr 1
       unfold finG
       exact if_neg fun h=>q0 h.2.1
      ·rw[List.getElem?_set_ne fun h=>hj2 h.symm]
       match hu:G[j]? with
       |none=>
        have:G.length≤j:=List.getElem?_eq_none_iff.1 hu
        rw[List.getElem?_eq_none (by rw[zbw,List.length_set];exact this),List.getElem?_eq_none (by rw[zbw];exact this)]
       |some u=>
        rw[zdd (g:=u) (by rw[List.getElem?_set_ne fun h=>hj2 h.symm];exact hu),zdd hu]
        have:=(fit hu).1
        unfold finG
        simp only[hm1 u.id (by omega),if_neg (show ¬ g.ret=u.id by omega),Int.add_zero]
    by_cases qw:e.worth≤metL g.ret G+g.worth
    ·rw[if_pos qw]
     refine⟨?_,mets,st',back' _ rfl⟩
     apply List.ext_getElem?
     intro j
     rw[one j,if_pos qw]
     show (((finL G).set (x.g.id-1).toNat (g.mark 2 x.day)).set (g.ret-1).toNat e.done)[j]? = _
     by_cases hj1:j=(g.ret-1).toNat
     ·rw[if_pos hj1,hj1,List.getElem?_set_self (by rw[List.length_set,zbw];exact hrl)]
     ·rw[if_neg hj1,List.getElem?_set_ne fun h=>hj1 h.symm]
    ·rw[if_neg qw]
     refine⟨?_,mets,st',back' _ rfl⟩
     apply List.ext_getElem?
     intro j
     rw[one j,if_neg qw]
     show ((finL G).set (x.g.id-1).toNat (g.mark 2 x.day))[j]? = _
     by_cases hj1:j=(g.ret-1).toNat
     ·rw[if_pos hj1,hj1,List.getElem?_set_ne hne,zdd a1]
      congr 1
      unfold finG
      refine if_neg ?_
      rintro⟨_,_,q⟩
      have q:e.worth≤metL e.id G:=q
      rw[eid]at q
      omega
     ·rw[if_neg hj1]
  ·have c7:x.kind=7:=by omega
   have e2:zch es G x=G.set (x.g.id-1).toNat (g.mark 3 x.day):=by unfold zch;rw[if_neg c5,if_neg c6,if_pos c7,hgd]
   have e1:s.doE x=s.setG x.g.id (g.mark 3 x.day):=by unfold St.doE;rw[if_neg (by omega),if_neg (by omega),if_neg c5,if_neg c6,g2]
   have hm1:∀id,metL id (G.set (x.g.id-1).toNat (g.mark 3 x.day))=metL id G:=by
    intro id
    rw[zke id _ g1]
    have m1:zbo id g=0:=by unfold zbo;exact if_neg (by omega)
    have m2:zbo id (g.mark 3 x.day)=0:=by unfold zbo;exact if_neg (by rintro⟨_,h|h⟩<;>cases h)
    omega
   rw[e1,e2]
   refine⟨?_,?_,?_,back' _ rfl⟩
   ·show s.gifts.set (x.g.id-1).toNat (g.mark 3 x.day)=_
    rw[og]
    refine (znN g1 ?_ ?_).symm
    ·intro u _ id _
     exact hm1 id
    ·unfold finG
     exact if_neg fun h=>by cases h.1
   ·intro id hid
    show s.met id=_
    rw[hm1];exact om id hid
   ·intro u hu
    rcases List.mem_or_eq_of_mem_set hu with h|h
    ·exact os u h
    ·rw[h];exact .inr (.inr rfl)
end Go.Air
set_option maxRecDepth 100000
namespace Go.Air
open Go.Air.Try
theorem Led.take {es:List Ent} (L:Led es):∀i,Led (es.take i):=by
 induction L with
 |nil=>intro i;simpa using Led.nil
 |@add es x L hf hk hd ih=>
  intro i
  by_cases hi:i≤es.length
  ·rw[List.take_append_of_le_length hi];exact ih i
  ·rw[List.take_of_length_le (by simp;omega)];exact .add L hf hk hd
theorem slHi_k {k gb i len cap:Nat} {g:Option Nat} (hg:g=none∨g=some k) (hi:i≤cap) (hc:0<cap):slHi k (.sl gb 0 len cap g) (.i .i64 (i:Int))=some (.sl gb 0 i cap g):=by
 have hbd:=zhc (t:=[.i .i64 (i:Int)]) (x:=.t 0) (len:=len) (cap:=cap) (b:=i) rfl hi
 have h1:Nat.beq 0 cap=false:=by rw[Bool.eq_false_iff,ne_eq,Nat.beq_eq];omega
 have h2:Nat.blt 0 cap=true:=by rw[Nat.blt_eq];exact hc
 have h3:Nat.beq k k=true:=by simp
 unfold slHi
 rcases hg with rfl|rfl
 ·simp[zck,hbd,h1]
 ·simp[zck,hbd,h2,h3]
section
variable {h:H} {v:V} {es:List Ent} {gs:List Gf}
theorem Own.cutHi {hq:H} {i:Nat} (o:Own hq 24 h v es.length (zaO es)) (hi:i<es.length):∃u,slHi 24 v (.i .i64 (i:Int))=some u∧Sl 24 h u (es.take i).length (zaO (es.take i)):=by
 obtain⟨hl,⟨h0,_⟩|⟨b,g,rfl,hg,_,h2,h3⟩⟩:=o
 ·omega
 ·refine⟨_,slHi_k hg (by omega) (by omega),.inr ⟨b,0,_,g,_,by rw[List.length_take,Nat.min_eq_left (by omega)],h2,h3,?_⟩⟩
  refine zbh.2 ⟨?_,?_⟩
  ·rw[hl,List.length_take,Nat.min_eq_left (by omega)]
   have:=Nat.mul_le_mul_right 24 (show i≤es.length by omega)
   omega
  ·rw[List.drop_zero,List.length_take,Nat.min_eq_left (by omega)]
   unfold zaO
   exact (zfj zaI es i).symm
theorem Own.setG {h0:H} {i:Nat} {g:Gf} (o:Own h0 10 h v gs.length (zam gs)) (hi:i<gs.length):∃gb gi,v=.sl gb 0 gs.length gs.length gi∧h0.next≤gb∧gb<h.next∧h.get gb=some (.cells (zam gs)) ∧
 ∀(h':H) (gs':List Gf),gs'.length=gs.length→h.next≤h'.next→h'.get gb=some (.cells (zam gs'))→Own h0 10 h' v gs'.length (zam gs'):=by
 obtain⟨hl,⟨hz,_⟩|⟨b,gi,rfl,hg,h1,h2,h3⟩⟩:=o
 ·omega
 ·refine⟨b,gi,rfl,h1,h2,h3,fun h' gs' hl' hn hg'=>⟨zbp zaK gs',.inr ⟨b,gi,by rw[hl'],hg,h1,Nat.lt_of_lt_of_le h2 hn,hg'⟩⟩⟩
theorem t2074:tb1 74=some a74:=by kernel_rfl
theorem loop74a {hq:H} {t:List V} {lb:Nat} {Q:Out→List V→H→Prop} (L:Led es) (hl:es.length≤500) (o:Own hq 24 h v es.length (zaO es)) (gl:h.get lb=some (.cells [v])) (hlb:lb<h.next)
 (tl:t.length=112) (t1:nth t 1=.p lb 0) (t3:nth t 3=.sn) (t4:nth t 4=.i .i64 0)
 (K:∀t' h',t'.length=112→nth t' 1=.p lb 0→Ext h h'→Own h 10 h' (nth t' 3) (giv0 es).length (zam (giv0 es))→Q (.exit 0) t' h'):W tb1 (.loop b74_0) t h Q:=by
 refine zax (fun k t hh=>∃i,k=es.length-i∧i≤es.length∧t.length=112∧nth t 1=.p lb 0∧nth t 4=.i .i64 (i:Int)∧Ext h hh∧Own h 10 hh (nth t 3) (giv0 (es.take i)).length (zam (giv0 (es.take i)))) ?_ es.length ⟨0,rfl,Nat.zero_le _,tl,t1,t4,Ext.refl h,by rw[t3,List.take_zero];exact Own.nil⟩
 clear t1 t3 t4 tl
 rintro k t hh ⟨i,rfl,hi,tl,t1,t4,ex,out⟩
 unfold b74_0
 have l1:ldV hh (.p lb 0)=some v:=zad (ex.get hlb gl) rfl
 have o':=o.ext ex
 have hle:=o'.sl.len
 have hz:[V.i .u8 0]++List.replicate 14 (.i .i64 0)++[.i .u8 0]++[.i .i64 0,.i .i64 0]++[.i .u8 0]++[.i .i64 0,.i .i64 0,.i .i64 0,.i .i64 0,.i .i64 0]=zE:=rfl
 have hzg:([.i .i64 0,.i .i64 0,.i .i64 0,.i .i64 0,.i .u8 0,.i .i64 0,.i .i64 0,.i .u8 0,.i .i64 0,.i .i64 0]:List V)=gz:=rfl
 by_cases hin:i<es.length
 ·have hI:(i:Int)<(es.length:Int):=by omega
  have w1:IntKind.i64.wrap ((i:Int)+1)=((i+1:Nat):Int):=zaq (by omega)
  obtain⟨x,hx⟩:∃x,es[i]? = some x:=⟨_,List.getElem?_eq_getElem hin⟩
  obtain⟨hf,h34,hr,ok⟩:=L.at hx
  have hkd:=zbf hf
  have gv:=znA (L.take i)
  have hgn:=zls (es.take i) x
  rw[← zaz hx]at hgn
  have S:=o'.sl
  have hix:=S.ix hin
  have hld:=S.ldn hin
  unfold zaO at hld
  rw[zcm zaI hx]at hld
  have sj:=zal (h:=hh.new (.cells zE)) (b:=hh.next) (k:=24) (d:=x.cells) (zac rfl) rfl rfl (zby x)
  have ex2:Ext hh ((hh.new (.cells zE)).put hh.next (.cells x.cells)):=((Ext.refl hh).new _).put (Nat.le_refl _) _
  have gj:((hh.new (.cells zE)).put hh.next (.cells x.cells)).get hh.next=some (.cells x.cells):=zab
  have n2:((hh.new (.cells zE)).put hh.next (.cells x.cells)).next=hh.next+1:=rfl
  simp only[hz,go_sem,↓reduceIte,r74_3,r74_5,tl,t1,t4,l1,hle,hI,hix,hld,sj]
  generalize (hh.new (.cells zE)).put hh.next (.cells x.cells)=h2 at ex2 gj n2
  have hxb:h.next≤hh.next:=ex.nx
  have hob:nth t 3=.sn∨blkV (nth t 3)<hh.next:=by
   obtain⟨_,⟨_,q⟩|⟨b',g,q,_,_,q4,_⟩⟩:=out
   ·exact .inl q
   ·right;rw[q];exact q4
  generalize hh.next=xb at gj n2 hxb hob
  have ex3:=ex.trans ex2
  have out2:=out.ext ex2
  have o2:=o'.ext ex2
  have l12:ldV h2 (.p lb 0)=some v:=zad (ex3.get hlb gl) rfl
  refine zbs (fun t'=>t'.length=112∧nth t' 1=.p lb 0∧nth t' 3=nth t 3∧nth t' 4=.i .i64 (i:Int)∧nth t' 5=.p xb 0) ?_ ?_
  ·refine⟨?_,?_,?_,?_,?_⟩<;>simp only[go_sem,↓reduceIte,tl,t1,t4]
  rintro t' ⟨tl',t1',t3',t4',t5'⟩
  rw[← t3']at out2 hob
  clear tl t1 t4 t3' out t
  have glen:(stOf (es.take i)).gifts.length=(giv0 (es.take i)).length:=by rw[gv.gifts,zbw]
  have l0:ldV h2 (.p xb 0)=some (.i .u8 (x.kind:Int)):=zad gj rfl
  have l11:ldV h2 (.p xb 11)=some (.i .i64 x.g.id):=zad gj rfl
  have ld1:ldV h2 (.p xb 1)=some (.i .i64 x.day):=zad gj rfl
  have lg:ldnV h2 10 (.p xb 11)=some (.agg x.g.cells):=by obtain⟨_,_,_,_,_,_,_,_,lg,_⟩:=entL gj;exact lg
  have k5:binV .eql (.i .u8 (x.kind:Int)) (.i .u8 5)=some (.b (decide (x.kind=5))):=zaj (j:=5)
  have k6:binV .eql (.i .u8 (x.kind:Int)) (.i .u8 6)=some (.b (decide (x.kind=6))):=zaj (j:=6)
  have k7:binV .eql (.i .u8 (x.kind:Int)) (.i .u8 7)=some (.b (decide (x.kind=7))):=zaj (j:=7)
  by_cases c5:x.kind=5
  ·have d5:decide (x.kind=5)=true:=decide_eq_true c5
   have d6:decide (x.kind=6)=false:=decide_eq_false (by omega)
   have d7:decide (x.kind=7)=false:=decide_eq_false (by omega)
   obtain⟨b1,b2,b3,b4,b5,b6,b7,b8,b9⟩:=zbe (zgR hf c5)
   have sg:=zal (h:=h2.new (.cells gz)) (b:=h2.next) (k:=10) (d:=x.g.cells) (zac rfl) rfl rfl (zdN x.g)
   have ey:Ext h2 ((h2.new (.cells gz)).put h2.next (.cells x.g.cells)):=((Ext.refl h2).new _).put (Nat.le_refl _) _
   have gg:((h2.new (.cells gz)).put h2.next (.cells x.g.cells)).get h2.next=some (.cells x.g.cells):=zab
   have n3:((h2.new (.cells gz)).put h2.next (.cells x.g.cells)).next=h2.next+1:=rfl
   simp only[hzg,go_sem,↓reduceIte,r74_6,r74_7,tl',t5',l0,k5,d5,lg,sg]
   generalize (h2.new (.cells gz)).put h2.next (.cells x.g.cells)=h3 at ey gg n3
   have hgb:h2.next=xb+1:=n2
   generalize h2.next=gb at gg n3 hgb
   have ex4:=ex3.trans ey
   have l13:ldV h3 (.p lb 0)=some v:=zad (ex4.get hlb gl) rfl
   have g5:ldV h3 (.p gb 5)=some (.i .i64 x.g.n):=zad gg rfl
   have g4:ldV h3 (.p gb 4)=some (.i .u8 (x.g.cur:Int)):=zad gg rfl
   obtain⟨u,hu,Su⟩:=(o2.ext ey).cutHi hin
   have hrt:=ok.rate x.g.cur
   have hlr:=gv.rate x.g.cur
   have lbd:(es.take i).length≤1000:=by rw[List.length_take];omega
   have hcall:∀{S Sp},WX tb1 (.fn 127 [] []) [u,.i .u8 (x.g.cur:Int)] h3.bare S Sp↔S (.i .i64 (zeM 1 x.g.cur (es.take i))) h3.bare:=znX (znE (by omega) Su.bare lbd)
   rw[← hlr]at hcall
   have hw:IntKind.i64.wrap (x.g.n*(stOf (es.take i)).rate (x.g.cur:Int))=(stOf (es.take i)).worth x.g:=by
    have h1:=Int.mul_nonneg (show 0≤x.g.n by omega) hrt.1
    have h2:=Int.mul_le_mul b9.2 hrt.2 hrt.1 (by omega)
    exact zap (by omega) (by omega)
   have s6:=zfU (hh:=h3) (i:=6) (x:=.i .i64 ((stOf (es.take i)).worth x.g)) (c':=(⟨x.g.id,x.g.day,x.g.frm,x.g.to,x.g.cur,x.g.n,(stOf (es.take i)).worth x.g,x.g.st,x.g.ans,x.g.ret⟩:Gf).cells) gg (by rw[zaK];omega) rfl rfl rfl
   have p6:=zaH (show gb<h3.next by omega) (.cells (⟨x.g.id,x.g.day,x.g.frm,x.g.to,x.g.cur,x.g.n,(stOf (es.take i)).worth x.g,x.g.st,x.g.ans,x.g.ret⟩:Gf).cells)
   refine zdy (fun t=>t.length=112∧nth t 1=.p lb 0∧nth t 3=nth t' 3∧nth t 4=.i .i64 (i:Int)∧nth t 5=.p xb 0∧nth t 6=.p gb 0) ?_ ?_
   ·refine⟨?_,?_,?_,?_,?_,?_⟩<;>simp only[go_sem,↓reduceIte,tl',t1',t4',t5']
   rintro t ⟨tl,t1,t3,t4,t5,t6⟩
   rw[← t3]at out2 hob
   clear tl' t1' t4' t5' t3 t'
   simp only[go_sem,↓reduceIte,r74_8,tl,t1,t4,t6,l13,g5,g4,hu,hcall,hw,s6,p6,zaG,H.back_bare]
   refine⟨?_,?_⟩
   ·simp only[zbX,List.all_cons,List.all_nil,Bool.and_true,List.getElem?_cons_succ,List.getElem?_cons_zero,zfM,reads,go_sem,↓reduceIte,tl,t1,t6,zaU,List.nil_append,List.cons_append]
    try rfl
   have hgs:giv0 (es.take (i+1))=giv0 (es.take i)++[x.g.offd ((stOf (es.take i)).worth x.g)]:=by
    rw[hgn];unfold zch St.worth;rw[if_pos c5,hlr]
   have s7:=zbG (hh:=h3.put gb (.cells (⟨x.g.id,x.g.day,x.g.frm,x.g.to,x.g.cur,x.g.n,(stOf (es.take i)).worth x.g,x.g.st,x.g.ans,x.g.ret⟩:Gf).cells)) (i:=7) (x:=.i .u8 1) (c':=(x.g.offd ((stOf (es.take i)).worth x.g)).cells) zab (by rw[zaK];omega) rfl rfl rfl
   simp only[go_sem,↓reduceIte,r74_9,tl,t6,s7]
   have hgv:giv0 (es.take (i+1))=giv0 (es.take i)++[x.g.offd ((stOf (es.take i)).worth x.g)]:=hgs
   generalize x.g.offd ((stOf (es.take i)).worth x.g)=g' at s7 hgs hgv
   generalize hh5:(h3.put gb (.cells (⟨x.g.id,x.g.day,x.g.frm,x.g.to,x.g.cur,x.g.n,(stOf (es.take i)).worth x.g,x.g.st,x.g.ans,x.g.ret⟩:Gf).cells)).put gb (.cells g'.cells)=h5
   have e5:Ext h2 h5:=by subst hh5;exact (ey.put (by omega) _).put (by omega) _
   have g5':h5.get gb=some (.cells g'.cells):=by subst hh5;exact zab
   have n5:h5.next=h3.next:=by subst hh5;rfl
   have lgg:=zar g5' (zaK g')
   have out5:=out2.ext e5
   have el:Ext h5 (h5.new (.cells g'.cells)):=(Ext.refl h5).new _
   have ex5:=ex3.trans e5
   have glb:(giv0 (es.take i)).length≤500:=by rw[← glen];exact ok.len
   obtain⟨v',h6,p1,p2,p3,p4,p5,_⟩:=(out5.ext el).app (bytes:=80) (ex5.trans el) (Own.lit (esz:=10) (Ext.refl h5) g'.cells 1 rfl).1.sl (zdN _) (by omega) (by omega) (by omega)
   have gx6:h6.get xb=some (.cells x.cells):=by
    refine (p5 xb (by show xb<h5.next+1;omega) ?_).trans ((el.same xb (by omega)).trans ((e5.same xb (by omega)).trans gj))
    rcases hob with q|q
    ·exact .inl q
    ·exact .inr (by omega)
   have l06:ldV h6 (.p xb 0)=some (.i .u8 (x.kind:Int)):=zad gx6 rfl
   simp only[hzg,go_sem,↓reduceIte,r74_10,tl,t6,lgg]
   rw[zcT (c:=g'.cells) (by simp only[go_sem,↓reduceIte,tl]) (zaK _) rfl]
   simp only[hzg,go_sem,↓reduceIte,tl,p1,r74_11,t5,l06,k6,k7,d6,d7,r74_4,t4,w1]
   refine⟨es.length-(i+1),by omega,i+1,rfl,by omega,t1,rfl,p2,?_⟩
   have hgc:zam (giv0 (es.take i)++[g'])=zam (giv0 (es.take i))++g'.cells:=by unfold zam;simp
   rw[hgs,hgc,List.length_append]
   exact p3
  by_cases c67:x.kind=6∨x.kind=7
  ·obtain⟨i1,i2⟩:=zgQ hf c67
   have hid:x.g.id≤((giv0 (es.take i)).length:Int):=by
    unfold St.refE at hr
    rw[if_neg c5,if_pos c67,glen]at hr
    split at hr<;>omega
   have hjl:(x.g.id-1).toNat<(giv0 (es.take i)).length:=by omega
   have hw:IntKind.i64.wrap (x.g.id-1)=x.g.id-1:=zap (by omega) (by omega)
   have hgs:∀m,(x.kind=6→m=2)→(x.kind=7→m=3)→giv0 (es.take (i+1))=(giv0 (es.take i)).set (x.g.id-1).toNat (((giv0 (es.take i)).getD (x.g.id-1).toNat gf0).mark m x.day):=by
    intro m m6 m7
    rw[hgn];unfold zch;rw[if_neg c5]
    by_cases c6:x.kind=6
    ·rw[if_pos c6,m6 c6]
    ·rw[if_neg c6,if_pos (by omega),m7 (by omega)]
   generalize hG:giv0 (es.take i)=G at out2 hjl hgs
   have hjk:((x.g.id-1).toNat:Int)=x.g.id-1:=by omega
   generalize (x.g.id-1).toNat=j at hjl hgs hjk
   obtain⟨g,hgj⟩:∃g,G[j]? = some g:=⟨_,List.getElem?_eq_getElem hjl⟩
   rw[show G.getD j gf0=g by rw[List.getD_eq_getElem?_getD,hgj];rfl]at hgs
   obtain⟨ob,oi,hob',ob1,ob2,ob3,obk⟩:=out2.setG (g:=g) hjl
   have hbx:ob<xb:=by
    rcases hob with q|q
    ·rw[hob']at q;cases q
    ·rw[hob']at q;exact q
   have hixj:ixV 10 (.sl ob 0 G.length G.length oi) (.i .i64 (x.g.id-1))=some (.p ob (j*10)):=zek (by omega) hjl
   have hlj:ldnV h2 10 (.p ob (j*10))=some (.agg g.cells):=by
    have S2:=out2.sl.ldn hjl
    rw[hob']at S2
    unfold zam at S2
    rw[zcm zaK hgj]at S2
    have:blkV (.sl ob 0 G.length G.length oi)=ob∧offV (.sl ob 0 G.length G.length oi)+j*10=j*10:=⟨rfl,by show 0+j*10=_;omega⟩
    rw[this.1,this.2]at S2
    exact S2
   have sg:=zal (h:=h2.new (.cells gz)) (b:=h2.next) (k:=10) (d:=g.cells) (zac rfl) rfl rfl (zdN g)
   have d5:decide (x.kind=5)=false:=decide_eq_false c5
   have ey:Ext h2 ((h2.new (.cells gz)).put h2.next (.cells g.cells)):=((Ext.refl h2).new _).put (Nat.le_refl _) _
   have gg:((h2.new (.cells gz)).put h2.next (.cells g.cells)).get h2.next=some (.cells g.cells):=zab
   have n3:((h2.new (.cells gz)).put h2.next (.cells g.cells)).next=h2.next+1:=rfl
   have fin67:∀(h5:H) (m:Nat),Ext h2 h5→giv0 (es.take (i+1))=G.set j (g.mark m x.day)→stV h5 10 (.p ob (j*10)) (.agg (g.mark m x.day).cells)=some (h5.put ob (.cells (zam (G.set j (g.mark m x.day)))))∧Ext h (h5.put ob (.cells (zam (G.set j (g.mark m x.day))))) ∧
    Own h 10 (h5.put ob (.cells (zam (G.set j (g.mark m x.day))))) (.sl ob 0 G.length G.length oi) (giv0 (es.take (i+1))).length (zam (giv0 (es.take (i+1)))):=by
    intro h5 m e5 hg5
    refine⟨znB (e5.get ob2 ob3) hjl,(ex3.trans e5).put ob1 _,?_⟩
    rw[hg5,← hob']
    exact obk _ _ (by simp) e5.nx zab
   rcases c67 with c6|c7
   ·have d6:decide (x.kind=6)=true:=decide_eq_true c6
    have d7:decide (x.kind=7)=false:=decide_eq_false (by omega)
    simp only[hzg,go_sem,↓reduceIte,r74_6,r74_11,r74_12,tl',hob',t5',l0,k5,k6,k7,d5,d6,d7,l11,hw,hixj,hlj,sg]
    generalize (h2.new (.cells gz)).put h2.next (.cells g.cells)=h3 at ey gg n3
    have hgb:h2.next=xb+1:=n2
    generalize h2.next=gb at gg n3 hgb
    have ld13:ldV h3 (.p xb 1)=some (.i .i64 x.day):=zad (ey.get (by omega) gj) rfl
    have s8:=zbG (hh:=h3) (i:=8) (x:=.i .i64 x.day) (c':=(g.mark g.st x.day).cells) gg (by rw[zaK];omega) rfl rfl rfl
    have s7:=zbG (hh:=h3.put gb (.cells (g.mark g.st x.day).cells)) (i:=7) (x:=.i .u8 2) (c':=(g.mark 2 x.day).cells) zab (by rw[zaK];omega) rfl rfl rfl
    generalize hh5:(h3.put gb (.cells (g.mark g.st x.day).cells)).put gb (.cells (g.mark 2 x.day).cells)=h5 at s7
    have e5:Ext h2 h5:=by subst hh5;exact (ey.put (by omega) _).put (by omega) _
    have g5':h5.get gb=some (.cells (g.mark 2 x.day).cells):=by subst hh5;exact zab
    have gj5:=e5.get (by omega) gj
    have l05:ldV h5 (.p xb 0)=some (.i .u8 (x.kind:Int)):=zad gj5 rfl
    have l115:ldV h5 (.p xb 11)=some (.i .i64 x.g.id):=zad gj5 rfl
    have lgg:=zar g5' (zaK (g.mark 2 x.day))
    obtain⟨f1,f2,f3⟩:=fin67 h5 2 e5 (hgs 2 (fun _=>rfl) (fun q=>by omega))
    simp only[hzg,go_sem,↓reduceIte,r74_13,r74_14,r74_15,r74_17,tl',hob',t5',ld13,s8,s7,l05,k7,d7,l115,hw,hixj,lgg,f1,r74_4,t4',w1]
    exact⟨es.length-(i+1),by omega,i+1,rfl,by omega,t1',rfl,f2,f3⟩
   ·have d6:decide (x.kind=6)=false:=decide_eq_false (by omega)
    have d7:decide (x.kind=7)=true:=decide_eq_true c7
    simp only[hzg,go_sem,↓reduceIte,r74_6,r74_11,r74_12,tl',hob',t5',l0,k5,k6,k7,d5,d6,d7,l11,hw,hixj,hlj,sg]
    generalize (h2.new (.cells gz)).put h2.next (.cells g.cells)=h3 at ey gg n3
    have hgb:h2.next=xb+1:=n2
    generalize h2.next=gb at gg n3 hgb
    have ld13:ldV h3 (.p xb 1)=some (.i .i64 x.day):=zad (ey.get (by omega) gj) rfl
    have s8:=zbG (hh:=h3) (i:=8) (x:=.i .i64 x.day) (c':=(g.mark g.st x.day).cells) gg (by rw[zaK];omega) rfl rfl rfl
    have s7:=zbG (hh:=h3.put gb (.cells (g.mark g.st x.day).cells)) (i:=7) (x:=.i .u8 2) (c':=(g.mark 2 x.day).cells) zab (by rw[zaK];omega) rfl rfl rfl
    generalize hh5:(h3.put gb (.cells (g.mark g.st x.day).cells)).put gb (.cells (g.mark 2 x.day).cells)=h5 at s7
    have e5:Ext h2 h5:=by subst hh5;exact (ey.put (by omega) _).put (by omega) _
    have g5':h5.get gb=some (.cells (g.mark 2 x.day).cells):=by subst hh5;exact zab
    have n5:h5.next=h3.next:=by subst hh5;rfl
    have gj5:=e5.get (by omega) gj
    have l05:ldV h5 (.p xb 0)=some (.i .u8 (x.kind:Int)):=zad gj5 rfl
    have s73:=zbG (hh:=h5) (i:=7) (x:=.i .u8 3) (c':=(g.mark 3 x.day).cells) g5' (by rw[zaK];omega) rfl rfl rfl
    generalize hh6:h5.put gb (.cells (g.mark 3 x.day).cells)=h6 at s73
    have e6:Ext h2 h6:=by subst hh6;exact e5.put (by omega) _
    have g6':h6.get gb=some (.cells (g.mark 3 x.day).cells):=by subst hh6;exact zab
    have l116:ldV h6 (.p xb 11)=some (.i .i64 x.g.id):=zad (e6.get (by omega) gj) rfl
    have lgg:=zar g6' (zaK (g.mark 3 x.day))
    obtain⟨f1,f2,f3⟩:=fin67 h6 3 e6 (hgs 3 (fun q=>by omega) (fun _=>rfl))
    simp only[hzg,go_sem,↓reduceIte,r74_13,r74_14,r74_15,r74_16,r74_17,tl',hob',t5',ld13,s8,s7,s73,l05,k7,d7,l116,hw,hixj,lgg,f1,r74_4,t4',w1]
    exact⟨es.length-(i+1),by omega,i+1,rfl,by omega,t1',rfl,f2,f3⟩
  ·have d5:decide (x.kind=5)=false:=decide_eq_false c5
   have d6:decide (x.kind=6)=false:=decide_eq_false (by omega)
   have d7:decide (x.kind=7)=false:=decide_eq_false (by omega)
   have hgs:giv0 (es.take (i+1))=giv0 (es.take i):=by
    rw[hgn];unfold zch;rw[if_neg c5,if_neg (by omega),if_neg (by omega)]
   simp only[go_sem,↓reduceIte,r74_6,r74_11,r74_4,tl',t4',t5',l0,k5,k6,k7,d5,d6,d7,w1]
   exact⟨es.length-(i+1),by omega,i+1,rfl,by omega,t1',rfl,ex3,by rw[hgs];exact out2⟩
 ·have hI:¬ (i:Int)<(es.length:Int):=by omega
  obtain rfl:i=es.length:=by omega
  rw[List.take_length]at out
  simp only[hz,go_sem,↓reduceIte,r74_3,tl,t1,t4,l1,hle,hI]
  exact K _ _ (by simp only[go_sem,↓reduceIte,tl]) (by simp only[go_sem,↓reduceIte,tl,t1]) ex (by simp only[go_sem,↓reduceIte,tl];exact out)
end
end Go.Air
set_option maxRecDepth 100000
namespace Go.Air
open Go.Air.Try
theorem zkf (id:Int):∀(a b:List Gf),metL id (a++b)=metL id a+metL id b
 |[],b=>by rw[List.nil_append];show _=0+_;omega
 |g::a,b=>by rw[List.cons_append,zcv,zcv,zkf id a b];omega
theorem zos (id:Int) (m:Int→Int) (g:Gf):zbo id (finG m g)=zbo id g:=by
 unfold finG
 split
 ·rename_i q
  unfold zbo
  show (if g.ret=id∧(4=2∨4=4) then g.worth else 0)=_
  by_cases q2:g.ret=id
  ·rw[if_pos ⟨q2,.inl q.1⟩];exact if_pos ⟨q2,.inr rfl⟩
  ·rw[if_neg fun h=>q2 h.1];exact if_neg fun h=>q2 h.1
 ·rfl
theorem znx (id:Int) (m:Int→Int):∀gs:List Gf,metL id (gs.map (finG m))=metL id gs
 |[]=>rfl
 |g::gs=>by rw[List.map_cons,zcv,zcv,zos,znx id m gs]
def zdm (G:List Gf) (i:Nat):List Gf:=(finL G).take i++G.drop i
theorem ziD {G:List Gf} {i:Nat} (hi:i≤G.length):(zdm G i).length=G.length:=by
 unfold zdm
 rw[List.length_append,List.length_take,zbw,List.length_drop];omega
theorem zqC {G:List Gf} {i:Nat} (id:Int):metL id (zdm G i)=metL id G:=by
 unfold zdm finL
 rw[zkf,← List.map_take,znx,← zkf,List.take_append_drop]
theorem znM {G:List Gf} {i:Nat} {g:Gf} (h:G[i]? = some g):(zdm G i)[i]? = some g:=by
 have hi:=(List.getElem?_eq_some_iff.1 h).1
 unfold zdm
 rw[List.getElem?_append_right (by rw[List.length_take,zbw];omega),List.length_take,zbw,Nat.min_eq_left (by omega),Nat.sub_self,List.getElem?_drop]
 exact h
theorem zlG {G:List Gf} {i:Nat} {g:Gf} (h:G[i]? = some g):(zdm G i).set i (finG (fun id=>metL id G) g)=zdm G (i+1):=by
 have hi:=(List.getElem?_eq_some_iff.1 h).1
 have hf:=zdd h
 unfold zdm
 rw[List.set_append_right _ _ (by rw[List.length_take,zbw];omega),List.length_take,zbw,Nat.min_eq_left (by omega),Nat.sub_self,zaz hf]
 have:G.drop i=g::G.drop (i+1):=by
  rw[List.drop_eq_getElem_cons hi]
  congr 1
  rw[List.getElem?_eq_getElem hi]at h
  exact Option.some.inj h
 rw[this,List.set_cons_zero,List.append_assoc,List.singleton_append]
theorem zho {G:List Gf} {i:Nat} {g:Gf} (h:G[i]? = some g) (hf:finG (fun id=>metL id G) g=g):zdm G i=zdm G (i+1):=by
 rw[← zlG h,hf]
 apply List.ext_getElem?
 intro j
 by_cases hj:i=j
 ·subst hj
  have hi:=(List.getElem?_eq_some_iff.1 h).1
  rw[znM h,List.getElem?_set_self (by rw[ziD (by omega)];exact hi)]
 ·rw[List.getElem?_set_ne hj]
theorem zqD (G:List Gf):zdm G G.length=finL G:=by
 unfold zdm
 rw[List.take_of_length_le (by rw[zbw];exact Nat.le_refl _),List.drop_length,List.append_nil]
theorem zmN {G:List Gf} {i:Nat} (hw:∀g∈G,0≤g.worth∧g.worth≤1000000000000):∀g∈zdm G i,0≤g.worth∧g.worth≤1000000000000:=by
 intro g hg
 unfold zdm at hg
 rcases List.mem_append.1 hg with hg|hg
 ·have:=List.mem_of_mem_take hg
  unfold finL at this
  obtain⟨u,hu,rfl⟩:=List.mem_map.1 this
  rw[(ziE _ u).2.2.2.1];exact hw u hu
 ·exact hw g (List.mem_of_mem_drop hg)
section
variable {h:H} {v:V} {es:List Ent} {G:List Gf}
theorem loop74b {t:List V} {hh:H} {Q:Out→List V→H→Prop} (hw:∀g∈G,0≤g.worth∧g.worth≤1000000000000) (hl:G.length≤500) (tl:t.length=112) (t8:nth t 8=.i .i64 0) (ex:Ext h hh) (o:Own h 10 hh (nth t 3) G.length (zam G))
 (K:∀t' h',t'.length=112→Ext h h'→Own h 10 h' (nth t' 3) (finL G).length (zam (finL G))→Q (.exit 2) t' h'):W tb1 (.loop b74_1) t hh Q:=by
 refine zax (fun k t hh=>∃i,k=G.length-i∧i≤G.length∧t.length=112∧nth t 8=.i .i64 (i:Int)∧Ext h hh∧Own h 10 hh (nth t 3) (zdm G i).length (zam (zdm G i))) ?_ G.length ⟨0,rfl,Nat.zero_le _,tl,t8,ex,by unfold zdm;simpa using o⟩
 clear tl t8 ex o
 rintro k t hh ⟨i,rfl,hi,tl,t8,ex,o⟩
 unfold b74_1
 have hlen:=ziD hi
 have hle:=o.sl.len
 rw[hlen]at hle
 by_cases hin:i<G.length
 ·have hI:(i:Int)<(G.length:Int):=by omega
  have w1:IntKind.i64.wrap ((i:Int)+1)=((i+1:Nat):Int):=zaq (by omega)
  obtain⟨g,hg⟩:∃g,G[i]? = some g:=⟨_,List.getElem?_eq_getElem hin⟩
  have hgi:=znM hg
  obtain⟨gb,gi,h3,g1,g2,g3,gk⟩:=o.setG (g:=g) (show i<(zdm G i).length by omega)
  rw[hlen]at h3
  have hcall:∀{S Sp},WX tb1 (.fn 128 [] []) [nth t 3,.i .i64 g.id] hh.bare S Sp↔S (.i .i64 (metL g.id (zdm G i))) hh.bare:=znX (fn_metR o.sl.bare (by omega) (zmN hw))
  rw[zqC,h3]at hcall
  have hix:=zek (gb:=gb) (g:=gi) (m:=G.length) (k:=(i:Int)) rfl hin
  have l7:ldV hh (.p gb (i*10+7))=some (.i .u8 (g.st:Int)):=zej g3 hgi (by omega) rfl
  have l9:ldV hh (.p gb (i*10+9))=some (.i .i64 g.ret):=zej g3 hgi (by omega) rfl
  have l0:ldV hh (.p gb (i*10+0))=some (.i .i64 g.id):=zej g3 hgi (by omega) rfl
  have l6:ldV hh (.p gb (i*10+6))=some (.i .i64 g.worth):=zej g3 hgi (by omega) rfl
  have k2:binV .eql (.i .u8 (g.st:Int)) (.i .u8 2)=some (.b (decide (g.st=2))):=zaj (j:=2)
  simp only[go_sem,↓reduceIte,r74_19,tl,h3,t8,hle,hI]
  refine zdy (fun t'=>t'.length=112∧nth t' 3=nth t 3∧nth t' 8=.i .i64 (i:Int)) ?_ ?_
  ·refine⟨?_,?_,?_⟩<;>simp only[go_sem,↓reduceIte,tl,t8]
  rintro t' ⟨tl',t3',t8'⟩
  rw[← t3']at h3 gk o
  clear tl t8 t3' t hle
  by_cases c2:g.st=2
  ·have d2:decide (g.st=2)=true:=decide_eq_true c2
   by_cases c0:g.ret=0
   ·by_cases cw:g.worth≤metL g.id G
    ·have hf:finG (fun id=>metL id G) g=g.done:=by unfold finG;exact if_pos ⟨c2,c0,cw⟩
     have hs:=zlG hg
     rw[hf]at hs
     have st7:=zmH (v:=.i .u8 4) (k:=7) (g':=g.done) g3 hgi (by omega) rfl rfl rfl
     rw[hs]at st7
     have o':=gk (hh.put gb (.cells (zam (zdm G (i+1))))) (zdm G (i+1)) (by rw[ziD (by omega),hlen]) (Nat.le_refl _) zab
     simp only[go_sem,↓reduceIte,r74_21,tl',h3,t8',hix,l7,k2,d2,l9,l0,l6,hcall,c0,cw,zaG,H.back_bare]
     refine⟨?_,?_⟩
     ·simp only[zbX,List.all_cons,List.all_nil,Bool.and_true,List.getElem?_cons_succ,List.getElem?_cons_zero,zfM,reads,go_sem,↓reduceIte,tl',zaU,List.nil_append,List.cons_append]
      try rfl
     simp only[go_sem,↓reduceIte,r74_22,r74_20,tl',h3,t8',hix,st7,w1]
     rw[h3]at o'
     exact⟨G.length-(i+1),by omega,i+1,rfl,by omega,rfl,ex.put g1 _,o'⟩
    ·have hf:finG (fun id=>metL id G) g=g:=by unfold finG;exact if_neg fun q=>cw q.2.2
     rw[zho hg hf,h3]at o
     simp only[go_sem,↓reduceIte,r74_21,tl',h3,t8',hix,l7,k2,d2,l9,l0,l6,hcall,c0,cw,zaG,H.back_bare]
     refine⟨?_,?_⟩
     ·simp only[zbX,List.all_cons,List.all_nil,Bool.and_true,List.getElem?_cons_succ,List.getElem?_cons_zero,zfM,reads,go_sem,↓reduceIte,tl',zaU,List.nil_append,List.cons_append]
      try rfl
     simp only[go_sem,↓reduceIte,r74_20,tl',h3,t8',w1]
     exact⟨G.length-(i+1),by omega,i+1,rfl,by omega,rfl,ex,o⟩
   ·have hf:finG (fun id=>metL id G) g=g:=by unfold finG;exact if_neg fun q=>c0 q.2.1
    rw[zho hg hf,h3]at o
    simp only[go_sem,↓reduceIte,r74_21,tl',h3,t8',hix,l7,k2,d2,l9,l0,l6,c0,zaG,H.back_bare]
    refine⟨?_,?_⟩
    ·simp only[zbX,List.all_cons,List.all_nil,Bool.and_true,List.getElem?_cons_succ,List.getElem?_cons_zero,zfM,reads,go_sem,↓reduceIte,tl',zaU,List.nil_append,List.cons_append]
     try rfl
    simp only[go_sem,↓reduceIte,r74_20,tl',h3,t8',w1]
    exact⟨G.length-(i+1),by omega,i+1,rfl,by omega,rfl,ex,o⟩
  ·have d2:decide (g.st=2)=false:=decide_eq_false c2
   have hf:finG (fun id=>metL id G) g=g:=by unfold finG;exact if_neg fun q=>c2 q.1
   rw[zho hg hf,h3]at o
   simp only[go_sem,↓reduceIte,r74_21,tl',h3,t8',hix,l7,k2,d2,l9,l0,l6,zaG,H.back_bare]
   refine⟨?_,?_⟩
   ·simp only[zbX,List.all_cons,List.all_nil,Bool.and_true,List.getElem?_cons_succ,List.getElem?_cons_zero,zfM,reads,go_sem,↓reduceIte,tl',zaU,List.nil_append,List.cons_append]
    try rfl
   simp only[go_sem,↓reduceIte,r74_20,tl',h3,t8',w1]
   exact⟨G.length-(i+1),by omega,i+1,rfl,by omega,rfl,ex,o⟩
 ·have hI:¬ (i:Int)<(G.length:Int):=by omega
  obtain rfl:i=G.length:=by omega
  rw[zqD]at o
  simp only[go_sem,↓reduceIte,r74_19,tl,t8,hle,hI]
  exact K _ _ (by simp only[go_sem,↓reduceIte,tl]) ex (by simp only[go_sem,↓reduceIte,tl];exact o)
theorem zko {hq:H} (L:Led es) (hl:es.length≤500) (o:Own hq 24 h v es.length (zaO es)):WC tb1 (.fn 74 [] []) [.agg [v]] h fun u h'=>Ext h h'∧Own h 10 h' u (stOf es).gifts.length (zam (stOf es).gifts):=by
 refine (zay t2074).2 ?_
 have hcc:(V.agg [v]).cells=[v]:=rfl
 have ex:Ext h (h.new (.cells [v])):=(Ext.refl h).new _
 have gx:(h.new (.cells [v])).get h.next=some (.cells [v]):=zac rfl
 have n1:(h.new (.cells [v])).next=h.next+1:=rfl
 simp only[go_sem,↓reduceIte,r74_0,r74_1,r74_2,hcc]
 generalize h.new (.cells [v])=h1 at ex gx n1
 have gv:=znA L
 refine loop74a L hl (o.ext ex) gx (by omega) ?_ ?_ ?_ ?_ ?_
 ·simp only[go_sem,↓reduceIte]
 ·simp only[go_sem,↓reduceIte]
 ·simp only[go_sem,↓reduceIte]
 ·simp only[go_sem,↓reduceIte]
 intro t h2 tl t1 e2 o2
 simp only[go_sem,↓reduceIte,r74_18,tl]
 have glen:(giv0 es).length≤500:=by
  have:=L.ok.len
  rw[gv.gifts,zbw]at this;exact this
 refine loop74b (h:=h1) (G:=giv0 es) ?_ glen ?_ ?_ e2 ?_ ?_
 ·intro g hg
  obtain⟨j,hj⟩:=List.mem_iff_getElem?.1 hg
  have:=(gv.fit L.ok hj).2.1
  omega
 ·simp only[go_sem,↓reduceIte,tl]
 ·simp only[go_sem,↓reduceIte,tl]
 ·simp only[go_sem,↓reduceIte,tl];exact o2
 intro t h3 tl e3 o3
 simp only[go_sem,↓reduceIte,r74_23,tl]
 rw[gv.gifts]
 exact⟨ex.trans e3,o3.mono ex.nx⟩
end
end Go.Air
set_option maxRecDepth 100000
namespace Go.Air
open Go.Air.Try
section
variable {h hq:H} {v:V} {es:List Ent}
theorem t2116:tb1 116=some a116:=by kernel_rfl
theorem t2119:tb1 119=some a119:=by kernel_rfl
theorem Own.bareH {h0:H} {esz n:Nat} {cs:List V} (o:Own h0 esz h v n cs):Own h0 esz h.bare v n cs:=o
theorem fn_DayR (o:Own hq 24 h v es.length (zaO es)) (hl:es.length≤1000):WC tb1 (.fn 116 [] []) [.agg [v]] h fun u h'=>u=.i .i64 (zeh es)∧Ext h h':=by
 refine (zay t2116).2 ?_
 have hcc:(V.agg [v]).cells=[v]:=rfl
 have ex:Ext h (h.new (.cells [v])):=(Ext.refl h).new _
 have gx:(h.new (.cells [v])).get h.next=some (.cells [v]):=zac rfl
 simp only[go_sem,↓reduceIte,r116_0,hcc]
 generalize h.new (.cells [v])=h1 at ex gx
 have l0:ldV h1 (.p h.next 0)=some v:=zad gx rfl
 have S:=(o.ext ex).sl
 have hle:=S.len
 by_cases hz:es.length=0
 ·have hi:((es.length:Nat):Int)=0:=by omega
  have he:es=[]:=List.eq_nil_of_length_eq_zero hz
  simp only[go_sem,↓reduceIte,r116_1,r116_2,l0,hle,hi]
  subst he
  exact⟨rfl,ex⟩
 ·have hne:¬ ((es.length:Nat):Int)=0:=by omega
  have hw:IntKind.i64.wrap ((es.length:Int)-1)=((es.length-1:Nat):Int):=by rw[zap (by omega) (by omega)];omega
  have hix:=S.ix (show es.length-1<es.length by omega)
  obtain⟨x,hx⟩:∃x,es[es.length-1]? = some x:=⟨_,List.getElem?_eq_getElem (by omega)⟩
  have l1:ldV h1 (.p (blkV v) (offV v+(es.length-1)*24+1))=some (.i .i64 x.day):=ziF S hx (by omega) rfl
  have hd:zeh es=x.day:=by
   unfold zeh
   rw[List.getLast?_eq_getElem?,hx]
  simp only[go_sem,↓reduceIte,r116_1,r116_3,l0,hle,hne,hw,hix,l1,hd]
  exact ex
theorem zkT {s:St} {g:Gf} {k:Nat} (ok:s.Ok k) (q1:¬ 500≤s.gifts.length) (q2:¬ (g.id≠(s.gifts.length:Int)+1)) (q3:¬ s.rate g.cur=0) (q4:¬ (s.gifts.length:Int)<g.ret) (q5:¬ (0<g.ret∧((s.gift g.ret).frm≠g.to∨(s.gift g.ret).to≠g.frm∨(s.gift g.ret).ret≠0∨(s.gift g.ret).st≠2))) :
 s.refO g=if 0<(s.ceil g.to).getD 0∧(s.ceil g.to).getD 0<s.worth g then 2 else 0:=by
 obtain⟨h1,h2⟩:=zjX q1 q2 q3 q4 q5
 cases hm:s.ceil g.to with
 |none=>rw[h2 hm];rfl
 |some m=>
  rw[h1 m hm]
  have:=ok.ceil _ _ hm
  show _=if 0<m∧m<s.worth g then 2 else 0
  by_cases q:m<s.worth g
  ·rw[if_pos q,if_pos ⟨by omega,q⟩]
  ·rw[if_neg q,if_neg fun h=>q h.2]
theorem zqt {g:Gf} (L:Led es) (hl:es.length≤500) (o:Own hq 24 h v es.length (zaO es)) (hc:g.cur<256) (hg:0≤g.n∧g.n≤1000000) (hr:0≤g.ret∧g.ret≤500):WC tb1 (.fn 119 [] []) [.agg [v],.agg g.cells] h fun u h'=>u=.i .i64 ((stOf es).refO g)∧Ext h h':=by
 refine (zay t2119).2 ?_
 have hcc:(V.agg [v]).cells=[v]:=rfl
 have hcg:(V.agg g.cells).cells=g.cells:=rfl
 have ok:=L.ok
 have gv:=znA L
 simp only[go_sem,↓reduceIte,r119_0,hcc,hcg]
 have ex:Ext h ((h.new (.cells [v])).new (.cells g.cells)):=((Ext.refl h).new _).new _
 have gl:((h.new (.cells [v])).new (.cells g.cells)).get h.next=some (.cells [v]):=(zaf (Nat.lt_succ_self _)).trans (zac rfl)
 have gx:((h.new (.cells [v])).new (.cells g.cells)).get (h.next+1)=some (.cells g.cells):=zac rfl
 have nx:((h.new (.cells [v])).new (.cells g.cells)).next=h.next+2:=rfl
 have hnn:(h.new (.cells [v])).next=h.next+1:=rfl
 simp only[hnn]
 generalize (h.new (.cells [v])).new (.cells g.cells)=h1 at ex gl gx nx
 have lv:=zar gl (k:=1) rfl
 simp only[go_sem,↓reduceIte,r119_1,lv]
 refine (zko L hl (o.ext ex)).mono ?_
 rintro u h2 ⟨e2,og⟩
 have ex2:=ex.trans e2
 have gl2:=e2.get (by omega) gl
 have gx2:=e2.get (by omega) gx
 have o2:=(o.ext ex).ext e2
 have n2:=e2.nx
 have hle:=og.sl.len
 have hlen:=ok.len
 generalize hs:stOf es=s at og hle hlen ok
 have grate:∀c,s.rate c=zeM 1 c es:=by rw[← hs];exact gv.rate
 have gceil:∀c,zeM 2 c es=(s.ceil c).getD 0:=by rw[← hs];exact gv.ceil
 have l0:ldV h2 (.p h.next 0)=some v:=zad gl2 rfl
 have x0:ldV h2 (.p (h.next+1) 0)=some (.i .i64 g.id):=zad gx2 rfl
 have x4:ldV h2 (.p (h.next+1) 4)=some (.i .u8 (g.cur:Int)):=zad gx2 rfl
 have x9:ldV h2 (.p (h.next+1) 9)=some (.i .i64 g.ret):=zad gx2 rfl
 have x2:ldV h2 (.p (h.next+1) 2)=some (.i .i64 g.frm):=zad gx2 rfl
 have x3:ldV h2 (.p (h.next+1) 3)=some (.i .i64 g.to):=zad gx2 rfl
 have x5:ldV h2 (.p (h.next+1) 5)=some (.i .i64 g.n):=zad gx2 rfl
 have hw:IntKind.i64.wrap ((s.gifts.length:Int)+1)=(s.gifts.length:Int)+1:=zap (by omega) (by omega)
 by_cases q1:500≤s.gifts.length
 ·have hv:s.refO g=2:=by unfold St.refO;rw[if_pos q1]
  have i1:(500:Int)≤(s.gifts.length:Int):=by omega
  simp only[go_sem,↓reduceIte,r119_2,r119_3,hle,i1,hv]
  exact ex2
 have i1:¬ (500:Int)≤(s.gifts.length:Int):=by omega
 by_cases q2:g.id=(s.gifts.length:Int)+1
 rotate_left
 ·have hv:s.refO g=1:=by unfold St.refO;rw[if_neg q1,if_pos q2]
  simp only[go_sem,↓reduceIte,r119_2,r119_4,r119_5,hle,i1,x0,hw,q2,hv]
  exact ex2
 have q2':¬ (g.id≠(s.gifts.length:Int)+1):=fun q=>q q2
 have hrc:∀{S Sp},WX tb1 (.fn 127 [] []) [v,.i .u8 (g.cur:Int)] h2 S Sp↔S (.i .i64 (zeM 1 g.cur es)) h2:=znX (znE hc o2.sl (by omega))
 rw[← grate]at hrc
 simp only[go_sem,↓reduceIte,r119_2,r119_4,r119_6,hle,i1,x0,x4,l0,hw,q2,hrc]
 refine zbs (fun t=>t.length=78∧nth t 2=.p h.next 0∧nth t 3=.p (h.next+1) 0∧nth t 5=u∧nth t 6=.i .i64 (s.rate g.cur)) (by simp only[go_sem,↓reduceIte]) ?_
 rintro t ⟨tl,t2,t3,t5,t6⟩
 by_cases q3:s.rate g.cur=0
 ·have hv:s.refO g=8:=by unfold St.refO;rw[if_neg q1,if_neg q2',if_pos q3]
  simp only[go_sem,↓reduceIte,r119_7,r119_8,tl,t6,q3,hv]
  exact ex2
 by_cases q4:(s.gifts.length:Int)<g.ret
 ·have hv:s.refO g=5:=by unfold St.refO;rw[if_neg q1,if_neg q2',if_neg q3,if_pos q4]
  simp only[go_sem,↓reduceIte,r119_7,r119_9,r119_10,tl,t3,t5,t6,x9,hle,q3,q4,hv]
  exact ex2
 simp only[go_sem,↓reduceIte,r119_7,r119_9,tl,t3,t5,t6,x9,hle,q3,q4]
 have fin:∀{t:List V} {h3:H},t.length=78→nth t 2=.p h.next 0→nth t 3=.p (h.next+1) 0→nth t 6=.i .i64 (s.rate g.cur)→Ext h2 h3→(s.refO g=if 0<(s.ceil g.to).getD 0∧(s.ceil g.to).getD 0<s.worth g then 2 else 0)→W tb1 (.seq (.ops r119_15) (.seq (.seq (.ops r119_16) (.cond (.t 77) (.seq (.ops r119_17) (.ret)) (.skip))) (.seq (.ops r119_18) (.ret)))) t h3 (Kfn [.tmp 4] (fun u h'=>u=.i .i64 (s.refO g)∧Ext h h') zeK):=by
  intro t h3 tl t2 t3 t6 e3 hv
  have gl3:=e3.get (by omega) gl2
  have gx3:=e3.get (by omega) gx2
  have o3:=o2.ext e3
  have l0:ldV h3 (.p h.next 0)=some v:=zad gl3 rfl
  have x3:ldV h3 (.p (h.next+1) 3)=some (.i .i64 g.to):=zad gx3 rfl
  have x5:ldV h3 (.p (h.next+1) 5)=some (.i .i64 g.n):=zad gx3 rfl
  have hcc:∀{S Sp},WX tb1 (.fn 171 [] []) [v,.i .i64 g.to] h3 S Sp↔S (.i .i64 (zeM 2 g.to es)) h3:=znX (fn_ceilR o3.sl (by omega))
  rw[gceil]at hcc
  have hrt:=ok.rate g.cur
  have hwm:IntKind.i64.wrap (g.n*s.rate (g.cur:Int))=s.worth g:=by
   have h1:=Int.mul_nonneg hg.1 hrt.1
   have h2:=Int.mul_le_mul hg.2 hrt.2 hrt.1 (by omega)
   exact zap (by omega) (by omega)
  generalize (s.ceil g.to).getD 0=m at hcc hv
  by_cases m0:0<m
  ·by_cases mw:m<s.worth g
   ·rw[if_pos ⟨m0,mw⟩]at hv
    simp only[go_sem,↓reduceIte,r119_15,r119_16,r119_17,tl,t2,t3,t6,l0,x3,x5,hcc,m0,hwm,mw,hv]
    exact ex2.trans e3
   ·rw[if_neg fun q=>mw q.2]at hv
    simp only[go_sem,↓reduceIte,r119_15,r119_16,r119_18,tl,t2,t3,t6,l0,x3,x5,hcc,m0,hwm,mw,hv]
    exact ex2.trans e3
  ·rw[if_neg fun q=>m0 q.1]at hv
   simp only[go_sem,↓reduceIte,r119_15,r119_16,r119_18,tl,t2,t3,t6,l0,x3,x5,hcc,m0,hv]
   exact ex2.trans e3
 simp only[zbC,zbi]at fin
 by_cases q5:0<g.ret
 ·have hj2:g.ret≤(s.gifts.length:Int):=by omega
  have hj:=St.gift_at (s:=s) (show 1≤g.ret by omega) hj2
  have hwr:IntKind.i64.wrap (g.ret-1)=g.ret-1:=zap (by omega) (by omega)
  have hjlt:(g.ret-1).toNat<s.gifts.length:=by omega
  have hix:=og.sl.ix hjlt
  have hjk:(((g.ret-1).toNat:Nat):Int)=g.ret-1:=by omega
  rw[hjk]at hix
  have ldj:=og.sl.ldn hjlt
  unfold zam at ldj
  rw[zcm zaK hj]at ldj
  have sj:=zal (h:=h2.new (.cells gz)) (b:=h2.next) (k:=10) (d:=(s.gift g.ret).cells) (zac rfl) rfl rfl (zdN _)
  have hz:([.i .i64 0,.i .i64 0,.i .i64 0,.i .i64 0,.i .u8 0,.i .i64 0,.i .i64 0,.i .u8 0,.i .i64 0,.i .i64 0]:List V)=gz:=rfl
  simp only[hz,go_sem,↓reduceIte,r119_11,r119_12,tl,t3,t5,x9,q5,hwr,hix,ldj,sj]
  have e3:Ext h2 ((h2.new (.cells gz)).put h2.next (.cells (s.gift g.ret).cells)):=((Ext.refl h2).new _).put (Nat.le_refl _) _
  have gj:((h2.new (.cells gz)).put h2.next (.cells (s.gift g.ret).cells)).get h2.next=some (.cells (s.gift g.ret).cells):=zab
  generalize (h2.new (.cells gz)).put h2.next (.cells (s.gift g.ret).cells)=h3 at e3 gj
  have gx3:=e3.get (by omega) gx2
  have x2:ldV h3 (.p (h.next+1) 2)=some (.i .i64 g.frm):=zad gx3 rfl
  have x3:ldV h3 (.p (h.next+1) 3)=some (.i .i64 g.to):=zad gx3 rfl
  generalize h2.next=jb at gj
  have y2:ldV h3 (.p jb 2)=some (.i .i64 (s.gift g.ret).frm):=zad gj rfl
  have y3:ldV h3 (.p jb 3)=some (.i .i64 (s.gift g.ret).to):=zad gj rfl
  have y9:ldV h3 (.p jb 9)=some (.i .i64 (s.gift g.ret).ret):=zad gj rfl
  have y7:ldV h3 (.p jb 7)=some (.i .u8 ((s.gift g.ret).st:Int)):=zad gj rfl
  refine zbs (fun t'=>t'.length=78∧nth t' 2=.p h.next 0∧nth t' 3=.p (h.next+1) 0∧nth t' 6=.i .i64 (s.rate g.cur)∧nth t' 7=.p jb 0) (by simp only[go_sem,↓reduceIte,tl,t2,t3,t6]) ?_
  rintro t' ⟨tl',t2',t3',t6',t7'⟩
  have bad:(s.gift g.ret).frm≠g.to∨(s.gift g.ret).to≠g.frm∨(s.gift g.ret).ret≠0∨(s.gift g.ret).st≠2→s.refO g=8:=fun q=>by
   unfold St.refO
   rw[if_neg q1,if_neg q2',if_neg q3,if_neg q4,if_pos ⟨q5,q⟩]
  by_cases p1:(s.gift g.ret).frm=g.to
  rotate_left
  ·have hv:=bad (.inl p1)
   simp only[go_sem,↓reduceIte,r119_13,r119_14,tl',t3',t7',x2,x3,y2,y3,y9,y7,p1,hv]
   exact ex2.trans e3
  by_cases p2:(s.gift g.ret).to=g.frm
  rotate_left
  ·have hv:=bad (.inr (.inl p2))
   simp only[go_sem,↓reduceIte,r119_13,r119_14,tl',t3',t7',x2,x3,y2,y3,y9,y7,p1,p2,hv]
   exact ex2.trans e3
  by_cases p3:(s.gift g.ret).ret=0
  rotate_left
  ·have hv:=bad (.inr (.inr (.inl p3)))
   simp only[go_sem,↓reduceIte,r119_13,r119_14,tl',t3',t7',x2,x3,y2,y3,y9,y7,p1,p2,p3,hv]
   exact ex2.trans e3
  by_cases p4:(s.gift g.ret).st=2
  rotate_left
  ·have hv:=bad (.inr (.inr (.inr p4)))
   have p4':¬ ((s.gift g.ret).st:Int)=2:=by omega
   simp only[go_sem,↓reduceIte,r119_13,r119_14,tl',t3',t7',x2,x3,y2,y3,y9,y7,p1,p2,p3,p4',hv]
   exact ex2.trans e3
  have p4':((s.gift g.ret).st:Int)=2:=by omega
  simp only[go_sem,↓reduceIte,r119_13,tl',t3',t7',x2,x3,y2,y3,y9,y7,p1,p2,p3,p4']
  refine fin (by simp only[go_sem,↓reduceIte,tl']) (by simp only[go_sem,↓reduceIte,tl',t2']) (by simp only[go_sem,↓reduceIte,tl',t3']) (by simp only[go_sem,↓reduceIte,tl',t6']) e3 ?_
  have hq5:¬ (0<g.ret∧((s.gift g.ret).frm≠g.to∨(s.gift g.ret).to≠g.frm∨(s.gift g.ret).ret≠0∨(s.gift g.ret).st≠2)):=by
   rintro⟨_,q|q|q|q⟩
   ·exact q p1
   ·exact q p2
   ·exact q p3
   ·exact q p4
  exact zkT ok q1 q2' q3 q4 hq5
 ·have hq5:¬ (0<g.ret∧((s.gift g.ret).frm≠g.to∨(s.gift g.ret).to≠g.frm∨(s.gift g.ret).ret≠0∨(s.gift g.ret).st≠2)):=fun q=>q5 q.1
  simp only[go_sem,↓reduceIte,r119_11,tl,t3,x9,q5]
  refine fin (by simp only[go_sem,↓reduceIte,tl]) (by simp only[go_sem,↓reduceIte,tl,t2]) (by simp only[go_sem,↓reduceIte,tl,t3]) (by simp only[go_sem,↓reduceIte,tl,t6]) (Ext.refl _) ?_
  exact zkT ok q1 q2' q3 q4 hq5
end
end Go.Air
set_option maxRecDepth 100000
namespace Go.Air
open Go.Air.Try
section
variable {h hq:H} {v:V} {es:List Ent}
theorem t2068:tb1 68=some a68:=by kernel_rfl
theorem t2031:tb1 31=some a31:=by kernel_rfl
theorem zmM {x:Ent} {fv:V} (L:Led es) (hl:es.length≤500) (o:Own hq 24 h v es.length (zaO es)) (hcur:x.g.cur<256) (h34:x.kind≠3∧x.kind≠4):WC tb1 (.fn 68 [] []) [.agg [v],fv,.agg x.cells] h fun u h'=>u=.i .i64 (doL es x)∧Ext h h':=by
 refine (zay t2068).2 ?_
 have hcc:(V.agg [v]).cells=[v]:=rfl
 have hcg:(V.agg x.cells).cells=x.cells:=rfl
 have ok:=L.ok
 have gv:=znA L
 simp only[go_sem,↓reduceIte,r68_0,hcc,hcg]
 have ex:Ext h ((h.new (.cells [v])).new (.cells x.cells)):=((Ext.refl h).new _).new _
 have gl:((h.new (.cells [v])).new (.cells x.cells)).get h.next=some (.cells [v]):=(zaf (Nat.lt_succ_self _)).trans (zac rfl)
 have gx:((h.new (.cells [v])).new (.cells x.cells)).get (h.next+1)=some (.cells x.cells):=zac rfl
 have nx:((h.new (.cells [v])).new (.cells x.cells)).next=h.next+2:=rfl
 have hnn:(h.new (.cells [v])).next=h.next+1:=rfl
 simp only[hnn]
 generalize (h.new (.cells [v])).new (.cells x.cells)=h1 at ex gl gx nx
 have lx:=zar gx (zaI x)
 simp only[go_sem,↓reduceIte,r68_1,lx]
 refine (zjr hcur).mono ?_
 rintro u h2 ⟨rfl,e2⟩
 have ex2:=ex.trans e2
 have gl2:=e2.get (by omega) gl
 have gx2:=e2.get (by omega) gx
 have n2:=e2.nx
 have o2:=o.ext ex2
 cases hf:x.formed
 ·have hd:doL es x=1:=by unfold doL zfR;rw[hf];rfl
  simp only[go_sem,↓reduceIte,Bool.false_eq_true,r68_2,hd]
  exact ex2
 have lv:=zar gl2 (k:=1) rfl
 have l1:ldV h2 (.p (h.next+1) 1)=some (.i .i64 x.day):=zad gx2 rfl
 simp only[go_sem,↓reduceIte]
 refine zdy (fun t=>t.length=73∧nth t 3=.p h.next 0∧nth t 5=.p (h.next+1) 0) (by simp only[go_sem,↓reduceIte]) ?_
 rintro t ⟨tl,t3,t5⟩
 simp only[go_sem,↓reduceIte,r68_3,tl,t3,t5,l1,lv,H.back_bare,zaG]
 refine (fn_DayR o2.bareH (by omega)).mono ?_
 rintro u h3 ⟨rfl,e3⟩
 have ol:=e3.old
 have e3:=e3.back
 simp only[go_sem,↓reduceIte,tl,ol,H.back_bare,zaG]
 generalize h2.back h3=h3 at e3
 have ex3:=ex2.trans e3
 have gl3:=e3.get (by omega) gl2
 have gx3:=e3.get (by omega) gx2
 have o3:=o2.ext e3
 have n3:=e3.nx
 refine⟨?_,?_⟩
 ·simp only[zbX,List.all_cons,List.all_nil,Bool.and_true,List.getElem?_cons_succ,List.getElem?_cons_zero,zfM,reads,go_sem,↓reduceIte,tl,t3,t5,zaU,ol,List.nil_append,List.cons_append]
  try rfl
 by_cases hd:x.day<zeh es
 ·have hv:doL es x=7:=by unfold doL zfR;rw[hf,if_pos rfl,if_pos hd];rfl
  simp only[go_sem,↓reduceIte,tl,hd,r68_4,hv]
  exact ex3
 have hv:doL es x=(stOf es).refE x:=by unfold doL zfR;rw[hf,if_pos rfl,if_neg hd];rfl
 rw[hv]
 have l0:ldV h3 (.p (h.next+1) 0)=some (.i .u8 (x.kind:Int)):=zad gx3 rfl
 have l11:ldV h3 (.p (h.next+1) 11)=some (.i .i64 x.g.id):=zad gx3 rfl
 have lg:ldnV h3 10 (.p (h.next+1) 11)=some (.agg x.g.cells):=by obtain⟨_,_,_,_,_,_,_,_,lg,_⟩:=entL gx3;exact lg
 have lv3:=zar gl3 (k:=1) rfl
 have k3:binV .eql (.i .u8 (x.kind:Int)) (.i .u8 3)=some (.b (decide (x.kind=3))):=zaj (j:=3)
 have k4:binV .eql (.i .u8 (x.kind:Int)) (.i .u8 4)=some (.b (decide (x.kind=4))):=zaj (j:=4)
 have k5:binV .eql (.i .u8 (x.kind:Int)) (.i .u8 5)=some (.b (decide (x.kind=5))):=zaj (j:=5)
 have k6:binV .eql (.i .u8 (x.kind:Int)) (.i .u8 6)=some (.b (decide (x.kind=6))):=zaj (j:=6)
 have k7:binV .eql (.i .u8 (x.kind:Int)) (.i .u8 7)=some (.b (decide (x.kind=7))):=zaj (j:=7)
 have d3:decide (x.kind=3)=false:=decide_eq_false h34.1
 have d4:decide (x.kind=4)=false:=decide_eq_false h34.2
 simp only[go_sem,↓reduceIte,tl,hd]
 refine zbs (fun t=>t.length=73∧nth t 3=.p h.next 0∧nth t 5=.p (h.next+1) 0) (by simp only[go_sem,↓reduceIte,tl,t3,t5]) ?_
 clear tl t3 t5 t
 rintro t ⟨tl,t3,t5⟩
 by_cases c5:x.kind=5
 ·have d5:decide (x.kind=5)=true:=decide_eq_true c5
  obtain⟨b1,b2,b3,b4,b5,b6,b7,b8,b9⟩:=zbe (zgR hf c5)
  have hr:(stOf es).refE x=(stOf es).refO x.g:=by unfold St.refE;rw[if_pos c5]
  simp only[go_sem,↓reduceIte,r68_5,r68_6,r68_8,r68_14,r68_15,tl,t3,t5,l0,lv3,lg,k3,k4,k5,d3,d4,d5]
  refine (zqt (g:=x.g) L hl o3 (by omega) (by omega) b5).mono ?_
  rintro u h4 ⟨rfl,e4⟩
  simp only[go_sem,↓reduceIte,tl,hr]
  exact ex3.trans e4
 have d5:decide (x.kind=5)=false:=decide_eq_false c5
 by_cases c67:x.kind=6∨x.kind=7
 ·have hr:(stOf es).refE x=if ((stOf es).gifts.length:Int)<x.g.id then 5 else if ((stOf es).gift x.g.id).st≠1 then 8 else 0:=by unfold St.refE;rw[if_neg c5,if_pos c67]
  obtain⟨i1,i2⟩:=zgQ hf c67
  have rest:∀{t:List V},t.length=73→nth t 3=.p h.next 0→nth t 5=.p (h.next+1) 0→∀{Q:Out→List V→H→Prop},(∀t' h4 u,t'.length=73→nth t' 3=.p h.next 0→nth t' 5=.p (h.next+1) 0→nth t' 8=u→Ext h3 h4→Own h3 10 h4 u (stOf es).gifts.length (zam (stOf es).gifts)→Q .norm t' h4)→W tb1 (.ops r68_18) t h3 Q:=by
   intro t tl t3 t5 Q K
   simp only[go_sem,↓reduceIte,r68_18,tl,t3,lv3]
   refine (zko L hl o3).mono ?_
   rintro u h4 ⟨e4,og⟩
   simp only[go_sem,↓reduceIte,tl]
   exact K _ _ _ (by simp only[go_sem,↓reduceIte,tl]) (by simp only[go_sem,↓reduceIte,tl,t3]) (by simp only[go_sem,↓reduceIte,tl,t5]) (by simp only[go_sem,↓reduceIte,tl]) e4 og
  simp only[zbi]at rest
  have hw:IntKind.i64.wrap (x.g.id-1)=x.g.id-1:=zap (by omega) (by omega)
  by_cases c6:x.kind=6
  ·have d6:decide (x.kind=6)=true:=decide_eq_true c6
   simp only[go_sem,↓reduceIte,r68_5,r68_6,r68_8,r68_14,r68_16,tl,t3,t5,l0,k3,k4,k5,k6,d3,d4,d5,d6]
   refine rest ?_ ?_ ?_ ?_
   ·simp only[go_sem,↓reduceIte,tl]
   ·simp only[go_sem,↓reduceIte,tl,t3]
   ·simp only[go_sem,↓reduceIte,tl,t5]
   intro t' h4 u tl t3 t5 t8 e4 og
   have gx4:=e4.get (by omega) gx3
   have l11':ldV h4 (.p (h.next+1) 11)=some (.i .i64 x.g.id):=zad gx4 rfl
   have hle:=og.sl.len
   by_cases q1:((stOf es).gifts.length:Int)<x.g.id
   ·rw[if_pos q1]at hr
    simp only[go_sem,↓reduceIte,r68_19,r68_20,tl,t5,t8,l11',hle,q1,hr]
    exact ex3.trans e4
   rw[if_neg q1]at hr
   have hj:=St.gift_at (s:=stOf es) i1 (by omega)
   have hjlt:(x.g.id-1).toNat<(stOf es).gifts.length:=by omega
   have hix:=og.sl.ix hjlt
   have hjk:(((x.g.id-1).toNat:Nat):Int)=x.g.id-1:=by omega
   rw[hjk]at hix
   have l7:ldV h4 (.p (blkV u) (offV u+(x.g.id-1).toNat*10+7))=some (.i .u8 (((stOf es).gift x.g.id).st:Int)):=ziv og.sl hj (by omega) rfl
   by_cases q2:((stOf es).gift x.g.id).st=1
   ·have q2':((((stOf es).gift x.g.id).st:Nat):Int)=1:=by omega
    rw[if_neg fun h=>h q2]at hr
    simp only[go_sem,↓reduceIte,r68_19,r68_21,r68_23,tl,t5,t8,l11',hle,q1,hw,hix,l7,q2',hr]
    exact ex3.trans e4
   ·have q2':¬ ((((stOf es).gift x.g.id).st:Nat):Int)=1:=by omega
    rw[if_pos q2]at hr
    simp only[go_sem,↓reduceIte,r68_19,r68_21,r68_22,tl,t5,t8,l11',hle,q1,hw,hix,l7,q2',hr]
    exact ex3.trans e4
  ·have d6:decide (x.kind=6)=false:=decide_eq_false c6
   have d7:decide (x.kind=7)=true:=decide_eq_true (by omega)
   simp only[go_sem,↓reduceIte,r68_5,r68_6,r68_8,r68_14,r68_16,r68_17,tl,t3,t5,l0,k3,k4,k5,k6,k7,d3,d4,d5,d6,d7]
   refine rest ?_ ?_ ?_ ?_
   ·simp only[go_sem,↓reduceIte,tl]
   ·simp only[go_sem,↓reduceIte,tl,t3]
   ·simp only[go_sem,↓reduceIte,tl,t5]
   intro t' h4 u tl t3 t5 t8 e4 og
   have gx4:=e4.get (by omega) gx3
   have l11':ldV h4 (.p (h.next+1) 11)=some (.i .i64 x.g.id):=zad gx4 rfl
   have hle:=og.sl.len
   by_cases q1:((stOf es).gifts.length:Int)<x.g.id
   ·rw[if_pos q1]at hr
    simp only[go_sem,↓reduceIte,r68_19,r68_20,tl,t5,t8,l11',hle,q1,hr]
    exact ex3.trans e4
   rw[if_neg q1]at hr
   have hj:=St.gift_at (s:=stOf es) i1 (by omega)
   have hjlt:(x.g.id-1).toNat<(stOf es).gifts.length:=by omega
   have hix:=og.sl.ix hjlt
   have hjk:(((x.g.id-1).toNat:Nat):Int)=x.g.id-1:=by omega
   rw[hjk]at hix
   have l7:ldV h4 (.p (blkV u) (offV u+(x.g.id-1).toNat*10+7))=some (.i .u8 (((stOf es).gift x.g.id).st:Int)):=ziv og.sl hj (by omega) rfl
   by_cases q2:((stOf es).gift x.g.id).st=1
   ·have q2':((((stOf es).gift x.g.id).st:Nat):Int)=1:=by omega
    rw[if_neg fun h=>h q2]at hr
    simp only[go_sem,↓reduceIte,r68_19,r68_21,r68_23,tl,t5,t8,l11',hle,q1,hw,hix,l7,q2',hr]
    exact ex3.trans e4
   ·have q2':¬ ((((stOf es).gift x.g.id).st:Nat):Int)=1:=by omega
    rw[if_pos q2]at hr
    simp only[go_sem,↓reduceIte,r68_19,r68_21,r68_22,tl,t5,t8,l11',hle,q1,hw,hix,l7,q2',hr]
    exact ex3.trans e4
 ·have hr:(stOf es).refE x=0:=by unfold St.refE;rw[if_neg c5,if_neg c67]
  have d6:decide (x.kind=6)=false:=decide_eq_false (by omega)
  have d7:decide (x.kind=7)=false:=decide_eq_false (by omega)
  simp only[go_sem,↓reduceIte,r68_5,r68_6,r68_8,r68_14,r68_16,r68_17,r68_23,tl,t3,t5,l0,k3,k4,k5,k6,k7,d3,d4,d5,d6,d7,hr]
  exact ex3
theorem fn_DoR {x:Ent} {fv:V} (L:Led es) (hl:es.length≤500) (hqn:hq.next≤h.next) (o:Own hq 24 h v es.length (zaO es)) (hcur:x.g.cur<256) (h34:x.kind≠3∧x.kind≠4) :
 WC tb1 (.fn 31 [] []) [.agg [v],fv,.agg x.cells] h fun u h'=>∃v',u=.tup [.agg [v'],.i .i64 (doL es x)]∧Ext h h'∧Own hq 24 h' v' (addL es x).length (zaO (addL es x)):=by
 refine (zay t2031).2 ?_
 have hcc:(V.agg [v]).cells=[v]:=rfl
 have hcg:(V.agg x.cells).cells=x.cells:=rfl
 simp only[go_sem,↓reduceIte,r31_0,hcc,hcg]
 have ex:Ext h (((h.new (.cells [v])).new (.cells x.cells)).new (.cells [.sn])):=(((Ext.refl h).new _).new _).new _
 have gl:(((h.new (.cells [v])).new (.cells x.cells)).new (.cells [.sn])).get h.next=some (.cells [v]):=(zaf (by show h.next<h.next+1+1;omega)).trans ((zaf (Nat.lt_succ_self _)).trans (zac rfl))
 have gx:(((h.new (.cells [v])).new (.cells x.cells)).new (.cells [.sn])).get (h.next+1)=some (.cells x.cells):=(zaf (by show h.next+1<h.next+1+1;omega)).trans (zac rfl)
 have gr:(((h.new (.cells [v])).new (.cells x.cells)).new (.cells [.sn])).get (h.next+2)=some (.cells [.sn]):=zac rfl
 have nx:(((h.new (.cells [v])).new (.cells x.cells)).new (.cells [.sn])).next=h.next+3:=rfl
 have hnn:(h.new (.cells [v])).next=h.next+1:=rfl
 have hnn2:((h.new (.cells [v])).new (.cells x.cells)).next=h.next+2:=rfl
 simp only[hnn,hnn2]
 generalize ((h.new (.cells [v])).new (.cells x.cells)).new (.cells [.sn])=h1 at ex gl gx gr nx
 have lx:=zar gx (zaI x)
 have lv:=zar gl (k:=1) rfl
 simp only[go_sem,↓reduceIte,r31_1,lx,lv]
 refine (zmM L hl (o.ext ex) hcur h34).mono ?_
 rintro u h2 ⟨rfl,e2⟩
 have ex2:=ex.trans e2
 have gl2:=e2.get (by omega) gl
 have gx2:=e2.get (by omega) gx
 have gr2:=e2.get (by omega) gr
 have n2:=e2.nx
 have o2:=o.ext ex2
 have lv2:=zar gl2 (k:=1) rfl
 have oc:v.oneCell=true:=by
  obtain⟨_,⟨_,rfl⟩|⟨_,_,rfl,_⟩⟩:=o<;>rfl
 by_cases hd:doL es x=0
 rotate_left
 ·have ha:addL es x=es:=by unfold addL;rw[if_neg hd]
  have st1:=zal gr2 (k:=1) (d:=[v]) rfl rfl (by simpa using oc)
  simp only[go_sem,↓reduceIte,r31_2,r31_3,lv2,hd,st1]
  rw[zbn (n:=6) (m:=7) (k:=1) (b:=h.next+2) (cs:=[v]) (by simp only[go_sem,↓reduceIte]) zab rfl]
  simp only[go_sem,↓reduceIte]
  have e3:Ext h (h2.put (h.next+2) (.cells [v])):=ex2.put (by omega) _
  refine⟨v,rfl,e3,?_⟩
  rw[ha]
  exact (o.ext e3)
 ·have ha:addL es x=es++[x]:=by unfold addL;rw[if_pos hd]
  have l0:ldV (h2.new (.cells [])) (.p h.next 0)=some v:=zad ((zaf (by omega)).trans gl2) rfl
  have e3:Ext h2 (h2.new (.cells [])):=(Ext.refl h2).new _
  have o3:Own h2 24 (h2.new (.cells [])) (.sl h2.next 0 0 0 none) 0 []:=(Own.lit (esz:=24) (Ext.refl h2) [] 0 rfl).1
  have S3:=(o2.ext e3).sl
  obtain⟨v4,hb4,h4,p1,p2,p3,p4,p5,p6,_⟩:=o3.appB (bytes:=192) e3 S3 (zju es) (by omega) (by omega) (by omega)
  have ol4:h.next+1 ∉ zaD (h2.new (.cells [])).next hb4.log:=by
   have o3':Own h2.bare 24 (h2.bare.new (.cells [])) (.sl h2.next 0 0 0 none) 0 []:=(Own.lit (esz:=24) (Ext.refl h2.bare) [] 0 rfl).1
   obtain⟨_,_,r1,r2,_⟩:=o3'.app (bytes:=192) ((Ext.refl h2.bare).new _) (x:=v) (m:=es.length) (new:=zaO es) S3 (zju es) (by omega) (by omega) (by omega)
   have r1:=p1.symm.trans r1
   cases r1
   obtain⟨l,hl1,hl2⟩:=r2.log
   intro hm
   have:=zin hm
   rw[hl1]at this
   rcases List.mem_append.1 this with q|q
   ·have:=hl2 _ q
    have:h2.next≤h.next+1:=this
    omega
   ·cases q
  have n3:(h2.new (.cells [])).next=h2.next+1:=rfl
  have k4:∀b,b<h2.next→h4.get b=h2.get b:=fun b hb=>(p6 b (by omega) (.inr (by show b≠h2.next;omega))).trans (e3.same b hb)
  have gl4:=(k4 _ (by omega)).trans gl2
  have gx4:=(k4 _ (by omega)).trans gx2
  have gr4:=(k4 _ (by omega)).trans gr2
  have lx4:=zar gx4 (zaI x)
  have e5:Ext h4 (h4.new (.cells x.cells)):=(Ext.refl h4).new _
  obtain⟨v6,hb6,h6,q1,q2,q3,q4,q5,q6,_⟩:=(p4.ext e5).appB (bytes:=192) (p3.trans e5) (Own.lit (esz:=24) (Ext.refl h4) x.cells 1 (zaI x)).1.sl (zby x) (by omega) (by omega) (by omega)
  have n5:(h4.new (.cells x.cells)).next=h4.next+1:=rfl
  have hz:[V.i .u8 0]++List.replicate 14 (.i .i64 0)++[.i .u8 0]++[.i .i64 0,.i .i64 0]++[.i .u8 0]++[.i .i64 0,.i .i64 0,.i .i64 0,.i .i64 0,.i .i64 0]=zE:=rfl
  have hnb:h2.bare.next=h2.next:=rfl
  have hnb4:h4.bare.next=h4.next:=rfl
  simp only[hz,go_sem,↓reduceIte,r31_2,hd]
  refine zdy (fun t=>t.length=25∧nth t 3=.p h.next 0∧nth t 5=.p (h.next+1) 0∧nth t 6=.p (h.next+2) 0) (by simp only[go_sem,↓reduceIte]) ?_
  rintro t ⟨tl,t3,t5,t6⟩
  have st1:=zal (h:=h6.bare) ((show h6.get (h.next+2)=_ from (q6 _ (by omega) (by
   obtain⟨_,⟨_,rfl⟩|⟨b',_,rfl,_,hb',_⟩⟩:=p4
   ·exact .inl rfl
   ·exact .inr (by show h.next+2≠b';omega))).trans ((e5.same _ (by omega)).trans gr4))) (k:=1) (d:=[v6]) rfl rfl (by
   obtain⟨_,⟨_,rfl⟩|⟨_,_,rfl,_⟩⟩:=q4<;>simp[V.oneCell])
  have hv6:v6.cells=[v6]:=by obtain⟨_,⟨_,rfl⟩|⟨_,_,rfl,_⟩⟩:=q4<;>rfl
  have hf6:zhQ v6=some [v6]:=by unfold zhQ;rw[hv6];rfl
  have bp6:=zaH (show h.next+2<h6.next by have:=e5.nx;omega) (.cells [v6])
  simp only[hz,go_sem,↓reduceIte,r31_4,tl,t3,t5,t6,l0,zbZ,H.back_bare,H.back_new,hnb,zaG,p1,p2,lx4]
  rw[zcT (c:=x.cells) (by simp only[go_sem,↓reduceIte,tl]) (zaI _) rfl]
  simp only[hz,go_sem,↓reduceIte,tl,t6,H.back_bare,H.back_new,hnb4,zaG,q1,q2,st1,hf6,Option.map_some,bp6]
  refine⟨?_,?_⟩
  ·simp only[zbX,List.all_cons,List.all_nil,Bool.and_true,List.getElem?_cons_succ,List.getElem?_cons_zero,zfM,reads,go_sem,↓reduceIte,tl,t5,zaU,List.nil_append,List.cons_append]
   simp
   rintro y hy rfl
   exact ol4 hy
  rw[zbn (n:=6) (m:=7) (k:=1) (b:=h.next+2) (cs:=[v6]) (by simp only[go_sem,↓reduceIte,tl,t6]) zab rfl]
  simp only[go_sem,↓reduceIte,tl]
  have e7:Ext h (h6.put (h.next+2) (.cells [v6])):=(ex2.trans q3).put (by omega) _
  refine⟨v6,rfl,e7,?_⟩
  rw[ha]
  have hec:zaO (es++[x])=[]++zaO es++x.cells:=by unfold zaO;simp
  rw[hec,List.length_append,show es.length+[x].length=0+es.length+1 by simp]
  have q7:Own h2 24 (h6.put (h.next+2) (.cells [v6])) v6 (0+es.length+1) ([]++zaO es++x.cells):=by
   refine q4.keep (Nat.le_refl _) fun _=>zaa ?_
   have:=q4.ge (by
    obtain⟨_,⟨hz,_⟩|⟨_,_,rfl,_⟩⟩:=q4
    ·omega
    ·intro q;cases q)
   omega
  exact q7.mono (Nat.le_trans hqn ex2.nx)
end
end Go.Air
set_option maxRecDepth 100000
namespace Go.Air
open Go.Air.Try
def visL (bs:List Bul):List Ent:=if bs.any hid4=true then [] else zaJ bs
theorem znf (bs:List Bul):Led (visL bs):=by
 unfold visL
 split
 ·exact .nil
 ·exact zdM bs
theorem visL_len (bs:List Bul):(visL bs).length≤bs.length:=by
 unfold visL
 split
 ·simp
 ·exact zfi bs
section
variable {h:H} {v:V} {bs:List Bul}
theorem t2030:tb1 30=some a30:=by kernel_rfl
theorem t2009:tb1 9=some a9:=by kernel_rfl
theorem zix {x:Ent}:WC tb1 (.fn 30 [] []) [.agg x.cells] h fun u h'=>u=.b (zdz x)∧Ext h h':=by
 refine (zay t2030).2 ?_
 have hcc:(V.agg x.cells).cells=x.cells:=rfl
 have ex:Ext h (h.new (.cells x.cells)):=(Ext.refl h).new _
 have gx:(h.new (.cells x.cells)).get h.next=some (.cells x.cells):=zac rfl
 have l0:ldV (h.new (.cells x.cells)) (.p h.next 0)=some (.i .u8 (x.kind:Int)):=zad gx rfl
 have k3:binV .eql (.i .u8 (x.kind:Int)) (.i .u8 3)=some (.b (decide (x.kind=3))):=zaj (j:=3)
 have k4:binV .eql (.i .u8 (x.kind:Int)) (.i .u8 4)=some (.b (decide (x.kind=4))):=zaj (j:=4)
 unfold zdz
 by_cases h1:x.kind=3
 ·have d3:decide (x.kind=3)=true:=decide_eq_true h1
  simp only[go_sem,↓reduceIte,r30_0,r30_1,hcc,l0,k3,d3]
  exact⟨by simp,ex⟩
 ·have d3:decide (x.kind=3)=false:=decide_eq_false h1
  simp only[go_sem,↓reduceIte,r30_0,r30_1,hcc,l0,k3,k4,d3]
  exact⟨by simp,ex⟩
theorem Buls.ldk {i:Nat} {b:Bul} {k:Nat} {w:V} (B:Buls h v bs) (hb:bs[i]? = some b) (hk:k<71) (hw:b.cells[k]? = some w):ldV h (.p (blkV v) (offV v+i*71+k))=some w:=by
 rw[B.sl.ld (Buls.lt B hb) hk,Buls.cell B hb hk];exact hw
theorem zml {b:Bul} (h:b.kind≠4∨b.hid=true):zbx 4 b=false:=by
 unfold zbx
 rcases h with h|h
 ·rw[decide_eq_false h];rfl
 ·rw[h];simp
theorem zqy (B:Buls h v bs) (hl:bs.length≤100) (hbody:∀b∈bs,b.body.length≤1000000) :
 WC tb1 (.fn 9 [] []) [v] h fun u h'=>∃v',u=.tup [.agg [v'],.b (!bs.any hid4)]∧Ext h h'∧Own h 24 h' v' (visL bs).length (zaO (visL bs)):=by
 refine (zay t2009).2 ?_
 simp only[go_sem,↓reduceIte,r9_0,r9_1,r9_2]
 have ex:Ext h ((h.new (.cells [.sn])).new (.cells [.sn])):=((Ext.refl h).new _).new _
 have gr:((h.new (.cells [.sn])).new (.cells [.sn])).get h.next=some (.cells [.sn]):=(zaf (Nat.lt_succ_self _)).trans (zac rfl)
 have go:((h.new (.cells [.sn])).new (.cells [.sn])).get (h.next+1)=some (.cells [.sn]):=zac rfl
 have nx:((h.new (.cells [.sn])).new (.cells [.sn])).next=h.next+2:=rfl
 have hnn:(h.new (.cells [.sn])).next=h.next+1:=rfl
 simp only[hnn]
 generalize (h.new (.cells [.sn])).new (.cells [.sn])=h1 at ex gr go nx
 have hnx:h.next+2=h1.next:=nx.symm
 have hle:=B.sl.len
 refine zax (fun k t hh=>∃i ov,k=bs.length-i∧i≤bs.length∧(∀b∈bs.take i,hid4 b=false)∧t.length=55∧nth t 0=v∧nth t 2=.p h.next 0∧nth t 4=.p (h.next+1) 0∧nth t 5=.i .i64 (i:Int)∧Ext h hh∧h1.next≤hh.next∧hh.get h.next=some (.cells [.sn])∧hh.get (h.next+1)=some (.cells [ov])∧Own h1 24 hh ov (zaJ (bs.take i)).length (zaO (zaJ (bs.take i)))) ?_ bs.length ?_
 ·rintro k t hh ⟨i,ov,rfl,hi,hno,tl,t0,t2,t4,t5,ex,hn1,gr,go,o⟩
  unfold b9_0
  by_cases hin:i<bs.length
  ·have hI:(i:Int)<(bs.length:Int):=by omega
   have w1:IntKind.i64.wrap ((i:Int)+1)=((i+1:Nat):Int):=zaq (by omega)
   obtain⟨b,hb⟩:∃b,bs[i]? = some b:=⟨_,List.getElem?_eq_getElem hin⟩
   have B':=B.ext ex
   have bok:=B'.okAt hb
   have hix:=B'.ix hb
   have l3:ldV hh (.p (blkV v) (offV v+i*71+3))=some (.i .u8 (b.kind:Int)):=B'.ldk hb (by omega) rfl
   have l4:ldV hh (.p (blkV v) (offV v+i*71+4))=some (.b b.hid):=B'.ldk hb (by omega) rfl
   have l5:ldV hh (.p (blkV v) (offV v+i*71+5))=some (.s b.body):=B'.ldk hb (by omega) rfl
   have htk:=zaz hb
   have hgs:zaJ (bs.take (i+1))=stepG (zaJ (bs.take i)) b:=by rw[htk,zgd]
   have same:stepG (zaJ (bs.take i)) b=zaJ (bs.take i)→hid4 b=false→∀{hh'},Ext hh hh'→∃m,m<bs.length-i∧∃j ov,m=bs.length-j∧j≤bs.length∧(∀b∈bs.take j,hid4 b=false)∧V.i .i64 ((i+1:Nat):Int)=.i .i64 (j:Int)∧Ext h hh'∧h1.next≤hh'.next∧hh'.get h.next=some (.cells [.sn])∧hh'.get (h.next+1)=some (.cells [ov])∧Own h1 24 hh' ov (zaJ (bs.take j)).length (zaO (zaJ (bs.take j))):=by
    intro hsame hb4 hh' e'
    refine⟨_,by omega,i+1,ov,rfl,by omega,?_,rfl,ex.trans e',Nat.le_trans hn1 e'.nx,e'.get (by omega) gr,e'.get (by omega) go,?_⟩
    ·intro c hc
     rw[htk]at hc
     rcases List.mem_append.1 hc with hc|hc
     ·exact hno c hc
     ·rw[List.mem_singleton.1 hc];exact hb4
    ·rw[hgs,hsame];exact o.ext e'
   by_cases c4:b.kind=4
   rotate_left
   ·have c4':¬ ((b.kind:Nat):Int)=4:=by omega
    have hs:stepG (zaJ (bs.take i)) b=zaJ (bs.take i):=by unfold stepG;rw[if_neg (by rw[zml (.inl c4)];simp)]
    simp only[go_sem,↓reduceIte,r9_3,r9_5,r9_4,tl,t0,t2,t4,t5,hle,hI,hix,l3,c4',w1]
    exact same hs (by unfold hid4;rw[decide_eq_false c4];rfl) (Ext.refl hh)
   have c4':((b.kind:Nat):Int)=4:=by omega
   cases hh4:b.hid
   rotate_left
   ·have hany:bs.any hid4=true:=List.any_eq_true.2 ⟨b,List.mem_of_getElem? hb,by unfold hid4;rw[decide_eq_true c4,hh4];rfl⟩
    have hv:visL bs=[]:=by unfold visL;rw[hany];rfl
    rw[hh4]at l4
    have sr:=zal gr (k:=1) (d:=[.sn]) rfl rfl (by simp[V.oneCell])
    simp only[go_sem,↓reduceIte,r9_3,r9_5,r9_6,r9_7,tl,t0,t2,t4,t5,hle,hI,hix,l3,l4,c4',zbZ,Option.map_some,sr]
    rw[zbn (n:=2) (m:=3) (k:=1) (b:=h.next) (cs:=[.sn]) (by simp only[go_sem,↓reduceIte,tl,t2]) zab rfl]
    simp only[go_sem,↓reduceIte,tl,hany,hv]
    exact⟨.sn,rfl,ex.put (Nat.le_refl _) _,Own.nil⟩
   rw[hh4]at l4
   have hsh:zbx 4 b=true:=by unfold zbx;rw[decide_eq_true c4,hh4];rfl
   have hb4:hid4 b=false:=by unfold hid4;rw[hh4];simp
   simp only[go_sem,↓reduceIte,Bool.false_eq_true,r9_3,r9_5,r9_6,r9_8,tl,t0,t2,t4,t5,hle,hI,hix,l3,l4,l5,c4']
   refine (zlv (hbody b (List.mem_of_getElem? hb))).mono ?_
   rintro u h2 ⟨rfl,e2⟩
   have hz:[V.i .u8 0]++List.replicate 14 (.i .i64 0)++[.i .u8 0]++[.i .i64 0,.i .i64 0]++[.i .u8 0]++[.i .i64 0,.i .i64 0,.i .i64 0,.i .i64 0,.i .i64 0]=zE:=rfl
   refine zbs (fun t'=>t'.length=55∧nth t' 0=v∧nth t' 2=.p h.next 0∧nth t' 4=.p (h.next+1) 0∧nth t' 5=.i .i64 (i:Int)∧nth t' 35=zct b.body) (by simp only[go_sem,↓reduceIte,tl,t0,t2,t4,t5]) ?_
   clear tl t0 t2 t4 t5 t
   rintro t ⟨tl,t0,t2,t4,t5,t35⟩
   cases hR:zcf b.body with
   |none=>
    have hs:stepG (zaJ (bs.take i)) b=zaJ (bs.take i):=by unfold stepG;rw[if_pos hsh,hR]
    have sj:=zal (h:=h2.new (.cells zE)) (b:=h2.next) (k:=24) (d:=zE) (zac rfl) rfl rfl (zby ent0)
    have e3:Ext h2 ((h2.new (.cells zE)).put h2.next (.cells zE)):=((Ext.refl h2).new _).put (Nat.le_refl _) _
    have lj:=zar (h:=(h2.new (.cells zE)).put h2.next (.cells zE)) (b:=h2.next) (c:=zE) zab zdG
    rw[zce hR]at t35
    simp only[hz,go_sem,↓reduceIte,tl,t35,zbz,sj,r9_9,lj]
    generalize (h2.new (.cells zE)).put h2.next (.cells zE)=h3 at e3
    refine (zix (x:=ent0)).mono ?_
    rintro u h4 ⟨rfl,e4⟩
    simp only[go_sem,↓reduceIte,tl,r9_10,r9_4,t0,t2,t4,t5,w1]
    exact same hs hb4 ((e2.trans e3).trans e4)
   |some x=>
    have xok:=znj hR
    have xf:=(zcR hR).1
    have sj:=zal (h:=h2.new (.cells zE)) (b:=h2.next) (k:=24) (d:=x.cells) (zac rfl) rfl rfl (zby x)
    have e3:Ext h2 ((h2.new (.cells zE)).put h2.next (.cells x.cells)):=((Ext.refl h2).new _).put (Nat.le_refl _) _
    have g3:((h2.new (.cells zE)).put h2.next (.cells x.cells)).get h2.next=some (.cells x.cells):=zab
    have n3:((h2.new (.cells zE)).put h2.next (.cells x.cells)).next=h2.next+1:=rfl
    have lj:=zar g3 (zaI x)
    rw[zfX hR]at t35
    simp only[hz,go_sem,↓reduceIte,tl,t35,zbz,sj,r9_9,lj]
    generalize (h2.new (.cells zE)).put h2.next (.cells x.cells)=h3 at e3 g3 n3 lj
    generalize h2.next=xb at g3 n3 lj
    refine (zix (x:=x)).mono ?_
    rintro u h4 ⟨rfl,e4⟩
    have e24:=(e2.trans e3).trans e4
    have g4:=e4.get (by omega) g3
    cases hw:zdz x
    rotate_left
    ·have hs:stepG (zaJ (bs.take i)) b=zaJ (bs.take i):=by unfold stepG;rw[if_pos hsh,hR];simp only[hw,if_true]
     simp only[go_sem,↓reduceIte,tl,r9_10,r9_4,t0,t2,t4,t5,w1]
     exact same hs hb4 e24
    have h34:x.kind≠3∧x.kind≠4:=by
     unfold zdz at hw
     simp at hw;exact hw
    have hs:stepG (zaJ (bs.take i)) b=addL (zaJ (bs.take i)) x:=by unfold stepG;rw[if_pos hsh,hR];simp only[hw,Bool.false_eq_true,if_false]
    have o4:=o.ext e24
    have lo:=zar (e24.get (by omega) go) (k:=1) rfl
    have lx:=zar g4 (zaI x)
    have hn4:h1.next≤h4.next:=Nat.le_trans hn1 e24.nx
    have gl:=zfi (bs.take i)
    rw[List.length_take]at gl
    simp only[go_sem,↓reduceIte,Bool.false_eq_true,tl,r9_10,r9_11,t0,t2,t4,t5,lo,lx]
    refine (fn_DoR (zdM _) (by omega) hn4 o4 xok.cur h34).mono ?_
    rintro u h5 ⟨v',rfl,e5,o5⟩
    have hv':∀u∈[v'],u.oneCell=true:=by
     obtain⟨_,⟨_,rfl⟩|⟨_,_,rfl,_⟩⟩:=o5<;>simp[V.oneCell]
    have s9:=zal (h:=h5.new (.cells [.sn])) (b:=h5.next) (k:=1) (d:=[v']) (zac rfl) rfl rfl hv'
    have e6:Ext h5 ((h5.new (.cells [.sn])).put h5.next (.cells [v'])):=((Ext.refl h5).new _).put (Nat.le_refl _) _
    have g6:((h5.new (.cells [.sn])).put h5.next (.cells [v'])).get h5.next=some (.cells [v']):=zab
    simp only[go_sem,↓reduceIte,tl,zbz,s9,r9_12]
    generalize (h5.new (.cells [.sn])).put h5.next (.cells [v'])=h6 at e6 g6
    have e26:=(e24.trans e5).trans e6
    by_cases hd:doL (zaJ (bs.take i)) x=0
    rotate_left
    ·have hs2:stepG (zaJ (bs.take i)) b=zaJ (bs.take i):=by rw[hs];unfold addL;rw[if_neg hd]
     simp only[go_sem,↓reduceIte,tl,hd,r9_4,t0,t2,t4,t5,w1]
     exact same hs2 hb4 e26
    have lv:=zar g6 (k:=1) rfl
    have go6:=e26.get (by omega) go
    have s4:=zal go6 (k:=1) (d:=[v']) rfl rfl hv'
    simp only[go_sem,↓reduceIte,tl,hd,r9_13,r9_4,t0,t2,t4,t5,lv,s4,w1]
    refine⟨_,by omega,i+1,v',rfl,by omega,?_,rfl,(ex.trans e26).put (by omega) _,Nat.le_trans hn1 e26.nx,?_,zab,?_⟩
    ·intro c hc
     rw[htk]at hc
     rcases List.mem_append.1 hc with hc|hc
     ·exact hno c hc
     ·rw[List.mem_singleton.1 hc];exact hb4
    ·rw[zaa (by omega)];exact e26.get (by omega) gr
    ·rw[hgs,hs]
     refine (o5.ext e6).keep (Nat.le_refl _) fun _=>zaa ?_
     have q:=o5.ge
     have hne:v'≠.sn:=by
      rintro rfl
      obtain⟨_,⟨q,_⟩|⟨_,_,q,_⟩⟩:=o5
      ·unfold addL at q;rw[if_pos hd]at q;simp at q
      ·cases q
     have:=q hne
     omega
  ·have hI:¬ (i:Int)<(bs.length:Int):=by omega
   obtain rfl:i=bs.length:=by omega
   rw[List.take_length]at o hno
   have hany:bs.any hid4=false:=by
    rw[Bool.eq_false_iff]
    intro hh
    obtain⟨c,hc,hc2⟩:=List.any_eq_true.1 hh
    rw[hno c hc]at hc2
    cases hc2
   have hv:visL bs=zaJ bs:=by unfold visL;rw[hany];rfl
   have lo:=zar go (k:=1) rfl
   have hov:∀u∈[ov],u.oneCell=true:=by
    obtain⟨_,⟨_,rfl⟩|⟨_,_,rfl,_⟩⟩:=o<;>simp[V.oneCell]
   have sr:=zal gr (k:=1) (d:=[ov]) rfl rfl hov
   simp only[go_sem,↓reduceIte,r9_3,r9_14,tl,t0,t2,t4,t5,hle,hI,lo,sr]
   rw[zbn (n:=2) (m:=3) (k:=1) (b:=h.next) (cs:=[ov]) (by simp only[go_sem,↓reduceIte,tl,t2]) zab rfl]
   simp only[go_sem,↓reduceIte,tl,hany,hv]
   refine⟨ov,rfl,ex.put (Nat.le_refl _) _,?_⟩
   have hov2:ov=.sn∨h1.next≤blkV ov:=by
    obtain⟨_,⟨_,rfl⟩|⟨_,_,rfl,_,q,_⟩⟩:=o
    ·exact .inl rfl
    ·exact .inr q
   rcases hov2 with rfl|hov2
   ·obtain⟨q1,⟨q2,_⟩|⟨_,_,q,_⟩⟩:=o
    ·exact⟨q1,.inl ⟨q2,rfl⟩⟩
    ·cases q
   ·have o2:Own h1 24 (hh.put h.next (.cells [ov])) ov (zaJ bs).length (zaO (zaJ bs)):=o.keep (Nat.le_refl _) fun _=>zaa (by omega)
    exact o2.mono (by omega)
 ·refine⟨0,.sn,rfl,Nat.zero_le _,by simp,?_,?_,?_,?_,?_,ex,Nat.le_refl _,gr,go,Own.nil⟩<;>first|(simp only[go_sem,↓reduceIte];done)|(simp only[go_sem,↓reduceIte];rfl)
end
end Go.Air
set_option maxRecDepth 100000
namespace Go.Air
open Go.Air.Try
def zdZ (bs:List Bul) (x:Ent):Int × Int:=
 if x.kind=5 then (x.g.frm,x.g.to)
 else if bs.any hid4=true∨x.g.id<1∨((stOf (visL bs)).gifts.length:Int)<x.g.id then (0,0)
 else (((stOf (visL bs)).gift x.g.id).frm,((stOf (visL bs)).gift x.g.id).to)
def zmm (bs:List Bul) (x:Ent) (st:Int):Bool:=decide (st<1)||(!decide ((zdZ bs x).1=st) && !decide ((zdZ bs x).2=st))
theorem zpj {bs:List Bul} {x:Ent} {st:Int} (hf:x.formed=true) (ha:zbK x=true):(!zdg bs x st)=zmm bs x st:=by
 unfold zmm zdZ zdg
 by_cases c5:x.kind=5
 ·obtain⟨b1,b2,b3,b4,b5,b6,b7,b8,b9⟩:=zbe (zgR hf c5)
  rw[if_pos c5,if_pos c5]
  by_cases q:st<1
  ·rw[decide_eq_true q,decide_eq_false (show ¬ x.g.frm=st by omega),decide_eq_false (show ¬ x.g.to=st by omega)];rfl
  ·rw[decide_eq_false q,Bool.not_or];rfl
 rw[if_neg c5,if_neg c5]
 have h67:x.kind=6∨x.kind=7:=by
  unfold zbK at ha
  rw[decide_eq_false c5]at ha
  simpa using ha
 cases hh:bs.any hid4
 ·have hv:visL bs=zaJ bs:=by unfold visL;rw[hh];rfl
  rw[if_neg (by simp),hv]
  have ok:=(zdM bs).ok
  generalize stOf (zaJ bs)=s at ok
  generalize (zaJ bs).length=k at ok
  clear hv hh
  have hany:∀g∈s.gifts,g.id=x.g.id→1≤x.g.id∧x.g.id≤(s.gifts.length:Int)∧g=s.gift x.g.id:=by
   intro g hg hid
   obtain⟨j,hj⟩:=List.mem_iff_getElem?.1 hg
   have f:=ok.gs _ _ hj
   have hfi:=f.id
   have hjl:=(List.getElem?_eq_some_iff.1 hj).1
   refine⟨by omega,by omega,?_⟩
   have h1:=St.gift_at (s:=s) (id:=x.g.id) (by omega) (by omega)
   rw[show (x.g.id-1).toNat=j by omega,hj]at h1
   exact Option.some.inj h1
  by_cases hr:x.g.id<1∨(s.gifts.length:Int)<x.g.id
  ·rw[if_pos (.inr hr)]
   have:((s.gifts.filter fun g => !zeJ st g).any (zhv x))=false:=by
    rw[Bool.eq_false_iff]
    intro q
    obtain⟨g,hg,hs⟩:=List.any_eq_true.1 q
    have:=hany g (List.mem_filter.1 hg).1 (by unfold zhv at hs;exact of_decide_eq_true hs)
    omega
   rw[this]
   by_cases q:st<1
   ·rw[decide_eq_true q];rfl
   ·rw[decide_eq_false q,decide_eq_false (show ¬ (0:Int)=st by omega)];rfl
  ·have hr':¬ ((false=true)∨x.g.id<1∨(s.gifts.length:Int)<x.g.id):=by
    rintro (q|q)
    ·cases q
    ·exact hr q
   rw[if_neg hr']
   have ga:=St.gift_at (s:=s) (id:=x.g.id) (by omega) (by omega)
   have f:=ok.gs _ _ ga
   have hgid:(s.gift x.g.id).id=x.g.id:=by have:=f.id;omega
   have hmem:s.gift x.g.id∈s.gifts:=List.mem_of_getElem? ga
   have hff:=f.frm
   have hft:=f.to
   have key:((s.gifts.filter fun g => !zeJ st g).any (zhv x))=(!zeJ st (s.gift x.g.id)):=by
    cases hn:zeJ st (s.gift x.g.id)
    ·exact List.any_eq_true.2 ⟨s.gift x.g.id,List.mem_filter.2 ⟨hmem,by simp[hn]⟩,by unfold zhv;exact decide_eq_true hgid⟩
    ·show _=false
     rw[Bool.eq_false_iff]
     intro q
     obtain⟨g,hg,hs⟩:=List.any_eq_true.1 q
     obtain⟨hg1,hg2⟩:=List.mem_filter.1 hg
     have:=(hany g hg1 (by unfold zhv at hs;exact of_decide_eq_true hs)).2.2
     rw[this,hn]at hg2
     cases hg2
   rw[key,Bool.not_not]
   unfold zeJ
   by_cases q:st<1
   ·rw[decide_eq_true q,decide_eq_false (show ¬ (s.gift x.g.id).frm=st by omega),decide_eq_false (show ¬ (s.gift x.g.id).to=st by omega)];rfl
   ·rw[decide_eq_false q];rfl
 ·rw[if_pos rfl,if_pos (.inl rfl)]
  by_cases q:st<1
  ·rw[decide_eq_true q];rfl
  ·rw[decide_eq_false q,decide_eq_false (show ¬ (0:Int)=st by omega)];rfl
section
variable {h:H} {v:V} {bs:List Bul}
theorem t2038:tb1 38=some a38:=by kernel_rfl
theorem zoG {x:Ent} {i:Nat} (a:Arg 71 h v bs.length (bs.flatMap Bul.cells)) (ok:∀b∈bs,b.Ok) (hi:i≤bs.length) (hl:bs.length≤100) (hbody:∀b∈bs,b.body.length≤1000000) :
 WC tb1 (.fn 38 [] []) [v,.i .i64 (i:Int),.agg x.cells] h fun u h'=>u=.tup [.i .i64 (zdZ (bs.take i) x).1,.i .i64 (zdZ (bs.take i) x).2]∧Ext h h':=by
 refine (zay t2038).2 ?_
 have hcc:(V.agg x.cells).cells=x.cells:=rfl
 simp only[go_sem,↓reduceIte,r38_0,hcc]
 have ex:Ext h (h.new (.cells x.cells)):=(Ext.refl h).new _
 have gx:(h.new (.cells x.cells)).get h.next=some (.cells x.cells):=zac rfl
 have n1:h.next<(h.new (.cells x.cells)).next:=Nat.lt_succ_self _
 generalize h.new (.cells x.cells)=h1 at ex gx n1
 have l0:ldV h1 (.p h.next 0)=some (.i .u8 (x.kind:Int)):=zad gx rfl
 have l13:ldV h1 (.p h.next 13)=some (.i .i64 x.g.frm):=zad gx rfl
 have l14:ldV h1 (.p h.next 14)=some (.i .i64 x.g.to):=zad gx rfl
 have k5:binV .eql (.i .u8 (x.kind:Int)) (.i .u8 5)=some (.b (decide (x.kind=5))):=zaj (j:=5)
 obtain⟨u,hu,au⟩:=(a.ext ex).hi (b:=i) hi
 rw[ziA i ok]at au
 have hti:(bs.take i).length=i:=by rw[List.length_take];omega
 have Bu:Buls h1 u (bs.take i):=⟨by rw[hti];exact au.sl,fun c hc=>ok c (List.mem_of_mem_take hc)⟩
 have hbu:∀b∈bs.take i,b.body.length≤1000000:=fun c hc=>hbody c (List.mem_of_mem_take hc)
 generalize hbt:bs.take i=bt at Bu hti hbu
 unfold zdZ
 by_cases c5:x.kind=5
 ·have d5:decide (x.kind=5)=true:=decide_eq_true c5
  rw[if_pos c5]
  simp only[go_sem,↓reduceIte,r38_1,r38_2,l0,l13,l14,k5,d5,H.back_bare]
  exact ex
 have d5:decide (x.kind=5)=false:=decide_eq_false c5
 rw[if_neg c5]
 simp only[go_sem,↓reduceIte,r38_1,r38_3,l0,k5,d5,hu]
 refine (zqy Bu (by omega) hbu).mono ?_
 rintro u2 h2 ⟨v',rfl,e2,o2⟩
 have hv':∀u∈[v'],u.oneCell=true:=by
  obtain⟨_,⟨_,rfl⟩|⟨_,_,rfl,_⟩⟩:=o2<;>simp[V.oneCell]
 have s8:=zal (h:=h2.new (.cells [.sn])) (b:=h2.next) (k:=1) (d:=[v']) (zac rfl) rfl rfl hv'
 have e3:Ext h2 ((h2.new (.cells [.sn])).put h2.next (.cells [v'])):=((Ext.refl h2).new _).put (Nat.le_refl _) _
 have g3:((h2.new (.cells [.sn])).put h2.next (.cells [v'])).get h2.next=some (.cells [v']):=zab
 simp only[go_sem,↓reduceIte,zbz,s8,r38_4]
 generalize (h2.new (.cells [.sn])).put h2.next (.cells [v'])=h3 at e3 g3
 have lv:=zar g3 (k:=1) rfl
 have hvl:=visL_len bt
 simp only[go_sem,↓reduceIte,lv]
 refine (zko (znf bt) (by omega) (o2.ext e3)).mono ?_
 rintro u4 h4 ⟨e4,o4⟩
 have e14:=(e2.trans e3).trans e4
 have ex4:=ex.trans e14
 have gx4:=e14.get n1 gx
 have l11:ldV h4 (.p h.next 11)=some (.i .i64 x.g.id):=zad gx4 rfl
 have hle:=o4.sl.len
 have glen:=(znf bt).ok.len
 generalize stOf (visL bt)=s at o4 hle glen
 refine zbs (fun t=>t.length=61∧nth t 5=.p h.next 0∧nth t 9=.b (!bt.any hid4)∧nth t 28=u4) (by simp only[go_sem,↓reduceIte]) ?_
 rintro t ⟨tl,t5,t9,t10⟩
 cases hh:bt.any hid4
 rotate_left
 ·rw[hh]at t9
  rw[if_pos (.inl rfl)]
  simp only[go_sem,↓reduceIte,tl,t5,t9,t10,r38_5,r38_6]
  exact ex4
 rw[hh]at t9
 by_cases q1:x.g.id<1
 ·rw[if_pos (.inr (.inl q1))]
  simp only[go_sem,↓reduceIte,tl,t5,t9,t10,l11,q1,r38_5,r38_6]
  exact ex4
 by_cases q2:(s.gifts.length:Int)<x.g.id
 ·rw[if_pos (.inr (.inr q2))]
  simp only[go_sem,↓reduceIte,tl,t5,t9,t10,l11,q1,q2,hle,r38_5,r38_6]
  exact ex4
 have hq:¬ ((false=true)∨x.g.id<1∨(s.gifts.length:Int)<x.g.id):=by
  rintro (q|q|q)
  ·cases q
  ·exact q1 q
  ·exact q2 q
 rw[if_neg hq]
 have hj:=St.gift_at (s:=s) (id:=x.g.id) (by omega) (by omega)
 have hjlt:(x.g.id-1).toNat<s.gifts.length:=by omega
 have hix:=o4.sl.ix hjlt
 have hjk:(((x.g.id-1).toNat:Nat):Int)=x.g.id-1:=by omega
 rw[hjk]at hix
 have hw:IntKind.i64.wrap (x.g.id-1)=x.g.id-1:=zap (by omega) (by omega)
 have l2:ldV h4 (.p (blkV u4) (offV u4+(x.g.id-1).toNat*10+2))=some (.i .i64 (s.gift x.g.id).frm):=ziv o4.sl hj (by omega) rfl
 have l3:ldV h4 (.p (blkV u4) (offV u4+(x.g.id-1).toNat*10+3))=some (.i .i64 (s.gift x.g.id).to):=ziv o4.sl hj (by omega) rfl
 simp only[go_sem,↓reduceIte,tl,t5,t9,t10,l11,q1,q2,hle,r38_5,r38_7,hw,hix,l2,l3,H.back_bare]
 exact ex4
end
end Go.Air
set_option maxRecDepth 100000
namespace Go.Air
open Go.Air.Try
section
variable {h:H} {v:V} {bs:List Bul}
theorem t2015:tb1 15=some a15:=by kernel_rfl
theorem fn_ViewR {st:Int} (ht:Tb4 h) (a:Arg 71 h v bs.length (bs.flatMap Bul.cells)) (ok:∀b∈bs,b.Ok) (hl:bs.length≤100) (hbody:∀b∈bs,b.body.length≤1000000) :
 WC tb1 (.fn 15 [] []) [v,.i .i64 st] h fun u h'=>Ext h h'∧Own h 71 h' u bs.length ((zkG bs st).flatMap Bul.cells):=by
 refine (zay t2015).2 ?_
 have hle:=a.sl.len
 simp only[go_sem,↓reduceIte,r15_0,r15_1,r15_2]
 refine zax (fun k t hh=>∃i,k=bs.length-i∧i≤bs.length∧t.length=93∧nth t 0=v∧nth t 1=.i .i64 st∧nth t 6=.i .i64 (i:Int)∧Ext h hh∧Own h 71 hh (nth t 5) i ((zbF bs st i).flatMap Bul.cells)) ?_ bs.length ?_
 ·rintro k t hh ⟨i,rfl,hi,tl,t0,t1,t6,ex,o⟩
  unfold b15_0
  by_cases hin:i<bs.length
  ·have hI:(i:Int)<(bs.length:Int):=by omega
   have w1:IntKind.i64.wrap ((i:Int)+1)=((i+1:Nat):Int):=zaq (by omega)
   obtain⟨b,hb⟩:∃b,bs[i]? = some b:=⟨_,List.getElem?_eq_getElem hin⟩
   have B:Buls hh v bs:=⟨a.sl.ext ex,ok⟩
   have bok:=B.okAt hb
   have hix:=B.ix hb
   have hld:=B.ldn hb
   have hz:[V.i .i64 0,.i .i64 0,.i .i64 0]++[.i .u8 0]++[.b false]++[.s []]++[.i .i64 0]++List.replicate 64 (.i .u8 0)=zc:=rfl
   have hzE:[V.i .u8 0]++List.replicate 14 (.i .i64 0)++[.i .u8 0]++[.i .i64 0,.i .i64 0]++[.i .u8 0]++[.i .i64 0,.i .i64 0,.i .i64 0,.i .i64 0,.i .i64 0]=zE:=rfl
   have sj:=zal (h:=hh.new (.cells zc)) (b:=hh.next) (k:=71) (d:=b.cells) (zac rfl) (zak zero_ok) (zak bok) (zbJ b)
   have ex2:Ext hh ((hh.new (.cells zc)).put hh.next (.cells b.cells)):=((Ext.refl hh).new _).put (Nat.le_refl _) _
   have gj:((hh.new (.cells zc)).put hh.next (.cells b.cells)).get hh.next=some (.cells b.cells):=zab
   have gn:hh.next<((hh.new (.cells zc)).put hh.next (.cells b.cells)).next:=Nat.lt_succ_self _
   have hbn:h.next≤hh.next:=ex.nx
   simp only[hz,go_sem,↓reduceIte,r15_3,r15_5,tl,t0,t6,hle,hI,hix,hld,sj]
   have o2:=o.ext ex2
   have ex3:=ex.trans ex2
   have hob:nth t 5=.sn∨blkV (nth t 5)<hh.next:=by
    obtain⟨_,⟨_,q⟩|⟨b',g,q,_,_,q4,_⟩⟩:=o
    ·exact .inl q
    ·right;rw[q];exact q4
   generalize (hh.new (.cells zc)).put hh.next (.cells b.cells)=h2 at ex2 gj gn o2 ex3
   generalize hh.next=bb at gj gn hbn hob
   have fin:∀{t:List V} {h3:H} {c:Bul},t.length=93→nth t 0=v→nth t 1=.i .i64 st→nth t 6=.i .i64 (i:Int)→nth t 7=.p bb 0→Ext h h3→Own h 71 h3 (nth t 5) i ((zbF bs st i).flatMap Bul.cells) →
    h3.get bb=some (.cells c.cells)→c.Ok→zcA bs st i b=c→∀{Q:Out→List V→H→Prop},
    (∀t' h4,t'.length=93→nth t' 0=v→nth t' 1=.i .i64 st→nth t' 6=.i .i64 (i:Int)→Ext h h4→Own h 71 h4 (nth t' 5) (i+1) ((zbF bs st (i+1)).flatMap Bul.cells)→Q .norm t' h4) →
    W tb1 (.ops r15_13) t h3 Q:=by
    intro t h3 c tl t0 t1 t6 t7 e3 o3 g3 cok hv Q K
    have lc:=zar g3 (zak cok)
    have el:Ext h3 (h3.new (.cells c.cells)):=(Ext.refl h3).new _
    obtain⟨v',h4,p1,p2,p3,_,_,_⟩:=(o3.ext el).app (bytes:=120) (e3.trans el) (Own.lit (esz:=71) (Ext.refl h3) c.cells 1 (by rw[zak cok])).1.sl (zbJ c) (by omega) (by omega) (by omega)
    simp only[hz,go_sem,↓reduceIte,r15_13,tl,t7,lc]
    rw[zcT (z:=zc) (c:=c.cells) (by simp only[go_sem,↓reduceIte,tl]) (zak cok) (show zc.length=71 from rfl)]
    simp only[hz,go_sem,↓reduceIte,tl,p1]
    refine K _ _ ?_ ?_ ?_ ?_ p2 ?_
    ·simp only[go_sem,↓reduceIte,tl]
    ·simp only[go_sem,↓reduceIte,tl,t0]
    ·simp only[go_sem,↓reduceIte,tl,t1]
    ·simp only[go_sem,↓reduceIte,tl,t6]
    ·have:zbF bs st (i+1)=zbF bs st i++[c]:=by rw[zbF,hb,← hv]
     rw[this,List.flatMap_append,List.flatMap_cons,List.flatMap_nil,List.append_nil]
     simp only[go_sem,↓reduceIte,tl]
     exact p3
   simp only[zbi]at fin
   have K0:∀(t':List V) (h4:H),t'.length=93→nth t' 0=v→nth t' 1=.i .i64 st→nth t' 6=.i .i64 (i:Int)→Ext h h4→Own h 71 h4 (nth t' 5) (i+1) ((zbF bs st (i+1)).flatMap Bul.cells) →
    Kblk 1 (Kseq tb1 (.ops r15_4) (zna (fun k t hh=>∃i,k=bs.length-i∧i≤bs.length∧t.length=93∧nth t 0=v∧nth t 1=.i .i64 st∧nth t 6=.i .i64 (i:Int)∧Ext h hh∧Own h 71 hh (nth t 5) i ((zbF bs st i).flatMap Bul.cells)) (bs.length-i)
     (Kblk 0 (Kseq tb1 (.seq (.ops r15_14) (.ret)) (Kfn [.tmp 4] (fun u h'=>Ext h h'∧Own h 71 h' u bs.length ((zkG bs st).flatMap Bul.cells)) zeK))))) .norm t' h4:=by
    intro t' h4 tl t0 t1 t6 e4 o4
    simp only[go_sem,↓reduceIte,r15_4,tl,t6,w1]
    refine⟨bs.length-(i+1),by omega,i+1,rfl,by omega,?_,?_,rfl,e4,?_⟩
    ·simp only[go_sem,↓reduceIte,tl,t0]
    ·simp only[go_sem,↓reduceIte,tl,t1]
    ·exact o4
   have l3:ldV h2 (.p bb 3)=some (.i .u8 (b.kind:Int)):=zad gj rfl
   have l4:ldV h2 (.p bb 4)=some (.b b.hid):=zad gj rfl
   have l5:ldV h2 (.p bb 5)=some (.s b.body):=zad gj rfl
   have ke:binV .eql (.i .u8 (b.kind:Int)) (.i .u8 4)=some (.b (decide (b.kind=4))):=zaj (j:=4)
   refine zbs (fun t'=>t'.length=93∧nth t' 0=v∧nth t' 1=.i .i64 st∧nth t' 5=nth t 5∧nth t' 6=.i .i64 (i:Int)∧nth t' 7=.p bb 0) ?_ ?_
   ·refine⟨?_,?_,?_,?_,?_,?_⟩<;>simp only[go_sem,↓reduceIte,tl,t0,t1,t6]
   rintro t' ⟨tl',t0',t1',t5',t6',t7'⟩
   rw[← t5']at o2 hob
   clear tl t0 t1 t6 o t5'
   simp only[go_sem,↓reduceIte,r15_6,tl',t7',l5]
   refine (zlv (hbody b (List.mem_of_getElem? hb))).mono ?_
   rintro u h3 ⟨rfl,e3⟩
   obtain⟨x,e,hxe,hre,hx⟩:∃(x:Ent) (e:Int),zct b.body=.tup [.agg x.cells,.i .i64 e]∧(zcf b.body=if e=0 then some x else none)∧(e=0∨e=4):=by
    cases hr:zcf b.body with
    |none=>exact⟨ent0,4,zce hr,rfl,.inr rfl⟩
    |some x=>exact⟨x,0,zfX hr,rfl,.inl rfl⟩
   have sk:=zal (h:=h3.new (.cells zE)) (b:=h3.next) (k:=24) (d:=x.cells) (zac rfl) rfl rfl (zby x)
   have e4:Ext h3 ((h3.new (.cells zE)).put h3.next (.cells x.cells)):=((Ext.refl h3).new _).put (Nat.le_refl _) _
   have gk:((h3.new (.cells zE)).put h3.next (.cells x.cells)).get h3.next=some (.cells x.cells):=zab
   have gkn:h3.next<((h3.new (.cells zE)).put h3.next (.cells x.cells)).next:=Nat.lt_succ_self _
   simp only[hzE,go_sem,↓reduceIte,tl',hxe,zbz,sk]
   generalize (h3.new (.cells zE)).put h3.next (.cells x.cells)=h4 at e4 gk gkn
   have e24:=e3.trans e4
   have ex4:=ex3.trans e24
   have gj4:=e24.get gn gj
   have gn4:=Nat.lt_of_lt_of_le gn e24.nx
   have o4:=o2.ext e24
   generalize h3.next=xb at gk gkn
   have l3:ldV h4 (.p bb 3)=some (.i .u8 (b.kind:Int)):=zad gj4 rfl
   have l4:ldV h4 (.p bb 4)=some (.b b.hid):=zad gj4 rfl
   have m0:ldV h4 (.p xb 0)=some (.i .u8 (x.kind:Int)):=zad gk rfl
   have b5:binV .eql (.i .u8 (x.kind:Int)) (.i .u8 5)=some (.b (decide (x.kind=5))):=zaj (j:=5)
   have b6:binV .eql (.i .u8 (x.kind:Int)) (.i .u8 6)=some (.b (decide (x.kind=6))):=zaj (j:=6)
   have b7:binV .eql (.i .u8 (x.kind:Int)) (.i .u8 7)=some (.b (decide (x.kind=7))):=zaj (j:=7)
   refine zbs (fun t=>t.length=93∧nth t 0=v∧nth t 1=.i .i64 st∧nth t 5=nth t' 5∧nth t 6=.i .i64 (i:Int)∧nth t 7=.p bb 0∧nth t 8=.p xb 0∧nth t 9=.i .i64 e) ?_ ?_
   ·refine⟨?_,?_,?_,?_,?_,?_,?_,?_⟩<;>simp only[go_sem,↓reduceIte,tl',t0',t1',t6',t7']
   clear t
   rintro t ⟨tl,t0,t1,t5,t6,t7,t8,t9⟩
   rw[← t5]at o4 hob
   clear tl' t0' t1' t6' t7' o2 t5
   have ab:∀{t:List V} {Q:Out→List V→H→Prop},t.length=93→nth t 0=v→nth t 1=.i .i64 st→nth t 6=.i .i64 (i:Int)→nth t 7=.p bb 0→nth t 8=.p xb 0→nth t 9=.i .i64 e →
    (∀t2,t2.length=93→nth t2 0=v→nth t2 1=.i .i64 st→nth t2 5=nth t 5→nth t2 6=.i .i64 (i:Int)→nth t2 7=.p bb 0→nth t2 8=.p xb 0→nth t2 10=.b (zbx 4 b&&(decide (e=0)&&zbK x))→Q .norm t2 h4)→W tb1 (.ops r15_7) t h4 Q:=by
    intro t Q tl t0 t1 t6 t7 t8 t9 K
    by_cases q4:b.kind=4
    rotate_left
    ·have d4:decide (b.kind=4)=false:=decide_eq_false q4
     have hv:(zbx 4 b&&(decide (e=0)&&zbK x))=false:=by unfold zbx;rw[d4];rfl
     rw[hv]at K
     simp only[go_sem,↓reduceIte,r15_7,tl,t7,l3,ke,d4]
     refine K _ ?_ ?_ ?_ ?_ ?_ ?_ ?_ ?_<;>simp only[go_sem,↓reduceIte,tl,t0,t1,t6,t7,t8]
    have d4:decide (b.kind=4)=true:=decide_eq_true q4
    cases qh:b.hid
    rotate_left
    ·have hv:(zbx 4 b&&(decide (e=0)&&zbK x))=false:=by unfold zbx;rw[qh];simp
     rw[hv]at K
     rw[qh]at l4
     simp only[go_sem,↓reduceIte,r15_7,tl,t7,l3,l4,ke,d4]
     refine K _ ?_ ?_ ?_ ?_ ?_ ?_ ?_ ?_<;>simp only[go_sem,↓reduceIte,tl,t0,t1,t6,t7,t8]
    have hsh:zbx 4 b=true:=by unfold zbx;rw[d4,qh];rfl
    rw[hsh,Bool.true_and]at K
    rw[qh]at l4
    rcases hx with rfl|rfl
    rotate_left
    ·have hv:(decide ((4:Int)=0)&&zbK x)=false:=rfl
     rw[hv]at K
     simp only[go_sem,↓reduceIte,r15_7,tl,t7,t9,l3,l4,ke,d4]
     refine K _ ?_ ?_ ?_ ?_ ?_ ?_ ?_ ?_<;>simp only[go_sem,↓reduceIte,tl,t0,t1,t6,t7,t8]
    have hv:(decide ((0:Int)=0)&&zbK x)=zbK x:=rfl
    rw[hv]at K
    by_cases q5:x.kind=5
    ·have d5:decide (x.kind=5)=true:=decide_eq_true q5
     have hae:zbK x=true:=by unfold zbK;rw[d5];rfl
     rw[hae]at K
     simp only[go_sem,↓reduceIte,r15_7,tl,t7,t8,t9,l3,l4,ke,d4,m0,b5,d5]
     refine K _ ?_ ?_ ?_ ?_ ?_ ?_ ?_ ?_<;>simp only[go_sem,↓reduceIte,tl,t0,t1,t6,t7,t8]
    have d5:decide (x.kind=5)=false:=decide_eq_false q5
    by_cases q6:x.kind=6
    ·have d6:decide (x.kind=6)=true:=decide_eq_true q6
     have hae:zbK x=true:=by unfold zbK;rw[d5,d6];rfl
     rw[hae]at K
     simp only[go_sem,↓reduceIte,r15_7,tl,t7,t8,t9,l3,l4,ke,d4,m0,b5,d5,b6,d6]
     refine K _ ?_ ?_ ?_ ?_ ?_ ?_ ?_ ?_<;>simp only[go_sem,↓reduceIte,tl,t0,t1,t6,t7,t8]
    have d6:decide (x.kind=6)=false:=decide_eq_false q6
    have hae:zbK x=decide (x.kind=7):=by unfold zbK;rw[d5,d6];rfl
    rw[hae]at K
    simp only[go_sem,↓reduceIte,r15_7,tl,t7,t8,t9,l3,l4,ke,d4,m0,b5,d5,b6,d6,b7]
    refine K _ ?_ ?_ ?_ ?_ ?_ ?_ ?_ ?_<;>simp only[go_sem,↓reduceIte,tl,t0,t1,t6,t7,t8]
   simp only[zbi]at ab
   refine ab tl t0 t1 t6 t7 t8 t9 ?_
   intro t2 tl2 t02 t12 t52 t62 t72 t82 t102
   rw[← t52]at o4 hob
   clear tl t0 t1 t6 t7 t8 t9 t52 ab
   cases hsec:(zbx 4 b&&(decide (e=0)&&zbK x))
   ·have hv:zcA bs st i b=b:=by
     unfold zcA
     cases hs:zbx 4 b
     ·rfl
     ·rw[hs,Bool.true_and]at hsec
      rw[Bool.true_and]
      split
      ·rw[hre]
       rcases hx with rfl|rfl
       ·have hsec:zbK x=false:=hsec
        simp only[if_true,hsec,Bool.false_and,Bool.false_eq_true,if_false]
       ·rfl
      ·rfl
    rw[hsec]at t102
    simp only[go_sem,↓reduceIte,tl2,t102,r15_8]
    refine fin ?_ ?_ ?_ ?_ ?_ ex4 ?_ gj4 bok hv K0
    all_goals first|(simp only[go_sem,↓reduceIte,tl2,t02,t12,t62,t72];done)|(simp only[go_sem,↓reduceIte,tl2];exact o4)
   ·rw[hsec]at t102
    rw[Bool.and_eq_true,Bool.and_eq_true]at hsec
    obtain⟨hs,he0,hae⟩:=hsec
    have he0:e=0:=of_decide_eq_true he0
    rw[he0,if_pos rfl]at hre
    have hxf:=(zcR hre).1
    have hsq:=zpj (bs:=bs.take i) (st:=st) hxf hae
    have lx:=zar gk (zaI x)
    simp only[go_sem,↓reduceIte,tl2,t102,r15_8,r15_9,t02,t62,t82,lx]
    refine (zoG (x:=x) (i:=i) (a.ext ex4) ok hi hl hbody).mono ?_
    rintro u h5 ⟨rfl,e5⟩
    have ex5:=ex4.trans e5
    have gj5:=e5.get gn4 gj4
    have gn5:=Nat.lt_of_lt_of_le gn4 e5.nx
    have l7:=zar gj5 (zak bok)
    simp only[go_sem,↓reduceIte,tl2,zbz,r15_10,t72,l7]
    refine (fn_rHide (ht.ext ex5) bok).mono ?_
    rintro u h6 ⟨rfl,e6⟩
    have hvok:=hideV_ok bok
    have s13:=zal (h:=h6.new (.cells zc)) (b:=h6.next) (k:=71) (d:=(zeO b).cells) (zac rfl) (zak zero_ok) (zak hvok) (zbJ _)
    have e7:Ext h6 ((h6.new (.cells zc)).put h6.next (.cells (zeO b).cells)):=((Ext.refl h6).new _).put (Nat.le_refl _) _
    have g7:((h6.new (.cells zc)).put h6.next (.cells (zeO b).cells)).get h6.next=some (.cells (zeO b).cells):=zab
    unfold zlq
    simp only[hz,go_sem,↓reduceIte,tl2,zbz,s13]
    generalize (h6.new (.cells zc)).put h6.next (.cells (zeO b).cells)=h7 at e7 g7
    generalize h6.next=hb7 at g7
    have e57:=e6.trans e7
    have ex7:=ex5.trans e57
    have gj7:=e57.get gn5 gj5
    have o7:=o4.ext (e5.trans e57)
    have l13:=zar g7 (zak hvok)
    unfold zmm at hsq
    generalize zdZ (bs.take i) x=p at hsq
    refine zbs (fun t=>t.length=93∧nth t 0=v∧nth t 1=.i .i64 st∧nth t 5=nth t2 5∧nth t 6=.i .i64 (i:Int)∧nth t 7=.p bb 0∧nth t 11=.i .i64 p.1∧nth t 12=.i .i64 p.2∧nth t 13=.p hb7 0∧nth t 14=.i .i64 (if b.formed then 0 else 1)) ?_ ?_
    ·refine⟨?_,?_,?_,?_,?_,?_,?_,?_,?_,?_⟩<;>simp only[go_sem,↓reduceIte,tl2,t02,t12,t62,t72]
    rintro t ⟨tl,t0,t1,t5,t6,t7,t11,t12',t13,t14⟩
    rw[← t5]at o7 hob
    clear t5
    have hide:zcA bs st i b=zcq b→b.formed=true→∃h8,stV h7 71 (.p bb 0) (.agg (zeO b).cells)=some h8∧Ext h h8∧h8.get bb=some (.cells (zcq b).cells)∧Own h 71 h8 (nth t 5) i ((zbF bs st i).flatMap Bul.cells):=by
     intro _ hf
     have hdv:zeO b=zcq b:=by unfold zeO;rw[hf];rfl
     rw[hdv]
     refine⟨_,zal (k:=71) gj7 (zak bok) (zak (zcD bok)) (zbJ _),ex7.put hbn _,zab,?_⟩
     obtain⟨hl8,q|⟨b',g,q1,q2,q3,q4,q5⟩⟩:=o7
     ·exact⟨hl8,.inl q⟩
     ·refine⟨hl8,.inr ⟨b',g,q1,q2,q3,q4,(zaa ?_).trans q5⟩⟩
      rw[q1]at hob
      rcases hob with hob|hob
      ·cases hob
      ·have hob:b'<bb:=hob
       omega
    cases hf:b.formed
    ·have hv:zcA bs st i b=b:=by unfold zcA;rw[hf,Bool.and_false];rfl
     have t14:nth t 14=.i .i64 1:=by rw[t14,hf];rfl
     simp only[go_sem,↓reduceIte,tl,t14,r15_11]
     refine fin ?_ ?_ ?_ ?_ ?_ ex7 ?_ gj7 bok hv K0
     all_goals first|(simp only[go_sem,↓reduceIte,tl,t0,t1,t6,t7];done)|(simp only[go_sem,↓reduceIte,tl];exact o7)
    have t14:nth t 14=.i .i64 0:=by rw[t14,hf];rfl
    have hvb:zcA bs st i b=if (!zdg (bs.take i) x st)=true then zcq b else b:=by unfold zcA;rw[hs,hf,hre];simp only[hae,Bool.true_and,if_true]
    rw[hsq]at hvb
    by_cases q1:st<1
    ·rw[decide_eq_true q1,Bool.true_or,if_pos rfl]at hvb
     obtain⟨h8,s8,ex8,g8,o8⟩:=hide hvb hf
     simp only[go_sem,↓reduceIte,tl,t1,t7,t13,t14,q1,r15_11,r15_12,l13,s8]
     refine fin ?_ ?_ ?_ ?_ ?_ ex8 ?_ g8 (zcD bok) hvb K0
     all_goals first|(simp only[go_sem,↓reduceIte,tl,t0,t1,t6,t7];done)|(simp only[go_sem,↓reduceIte,tl];exact o8)
    rw[decide_eq_false q1,Bool.false_or]at hvb
    by_cases q2:p.1=st
    ·rw[decide_eq_true q2]at hvb
     have hvb:zcA bs st i b=b:=by simpa using hvb
     simp only[go_sem,↓reduceIte,tl,t1,t11,t14,q1,q2,r15_11]
     refine fin ?_ ?_ ?_ ?_ ?_ ex7 ?_ gj7 bok hvb K0
     all_goals first|(simp only[go_sem,↓reduceIte,tl,t0,t1,t6,t7];done)|(simp only[go_sem,↓reduceIte,tl];exact o7)
    rw[decide_eq_false q2]at hvb
    by_cases q3:p.2=st
    ·rw[decide_eq_true q3]at hvb
     have hvb:zcA bs st i b=b:=by simpa using hvb
     simp only[go_sem,↓reduceIte,tl,t1,t11,t12',t14,q1,q2,q3,r15_11]
     refine fin ?_ ?_ ?_ ?_ ?_ ex7 ?_ gj7 bok hvb K0
     all_goals first|(simp only[go_sem,↓reduceIte,tl,t0,t1,t6,t7];done)|(simp only[go_sem,↓reduceIte,tl];exact o7)
    ·rw[decide_eq_false q3]at hvb
     have hvb:zcA bs st i b=zcq b:=by simpa using hvb
     obtain⟨h8,s8,ex8,g8,o8⟩:=hide hvb hf
     simp only[go_sem,↓reduceIte,tl,t1,t7,t11,t12',t13,t14,q1,q2,q3,r15_11,r15_12,l13,s8]
     refine fin ?_ ?_ ?_ ?_ ?_ ex8 ?_ g8 (zcD bok) hvb K0
     all_goals first|(simp only[go_sem,↓reduceIte,tl,t0,t1,t6,t7];done)|(simp only[go_sem,↓reduceIte,tl];exact o8)
  ·have hI:¬ (i:Int)<(bs.length:Int):=by omega
   obtain rfl:i=bs.length:=by omega
   simp only[go_sem,↓reduceIte,r15_3,r15_14,tl,t0,t6,hle,hI]
   exact⟨ex,o⟩
 ·refine⟨0,rfl,Nat.zero_le _,?_,?_,?_,?_,Ext.refl _,?_⟩<;>first|(simp only[go_sem,↓reduceIte];done)|(simp only[go_sem,↓reduceIte];rfl)|skip
  simp only[go_sem,↓reduceIte]
  exact Own.nil
end
end Go.Air
set_option maxRecDepth 100000
namespace Go.Air
open Go.Air.Try
theorem zkq:∀{k1 k2:List KT} {c1 c2:List V},fitL k1 c1=true→fitL k2 c2=true→fitL (k1++k2) (c1++c2)=true
 |[],k2,[],c2,_,h=>h
 |[],_,_::_,_,h,_=>by cases h
 |_::_,_,[],_,h,_=>by cases h
 |k::k1,k2,c::c1,c2,h,h2=>by
  simp only[fitL,Bool.and_eq_true]at h
  show (k.fits c&&fitL (k1++k2) (c1++c2))=true
  rw[h.1,zkq h.2 h2];rfl
theorem zgl:∀{a1 a2 c1 c2:List V},a1.length=c1.length→zaF (a1++a2) (c1++c2)=(zaF a1 c1&&zaF a2 c2)
 |[],_,[],_,_=>by simp[zaF]
 |[],_,_::_,_,h=>by cases h
 |_::_,_,[],_,h=>by cases h
 |x::a1,a2,y::c1,c2,h=>by
  show (zbm x y&&zaF (a1++a2) (c1++c2))=(zbm x y&&zaF a1 c1&&zaF a2 c2)
  rw[zgl (by simpa using h),Bool.and_assoc]
def ksB:List KT:=[.i .i64,.i .i64,.i .i64,.i .u8,.b,.s,.i .i64,.i .u8,.i .u8,.i .u8,.i .u8,.i .u8,.i .u8,.i .u8,.i .u8,.i .u8,.i .u8,.i .u8,.i .u8,.i .u8,.i .u8,.i .u8,.i .u8,.i .u8,.i .u8,.i .u8,.i .u8,.i .u8,.i .u8,.i .u8,.i .u8,.i .u8,.i .u8,.i .u8,.i .u8,.i .u8,.i .u8,.i .u8,.i .u8,.i .u8,.i .u8,.i .u8,.i .u8,.i .u8,.i .u8,.i .u8,.i .u8,.i .u8,.i .u8,.i .u8,.i .u8,.i .u8,.i .u8,.i .u8,.i .u8,.i .u8,.i .u8,.i .u8,.i .u8,.i .u8,.i .u8,.i .u8,.i .u8,.i .u8,.i .u8,.i .u8,.i .u8,.i .u8,.i .u8,.i .u8,.i .u8]
theorem ksB_eq:ksB=[.i .i64,.i .i64,.i .i64,.i .u8,.b,.s,.i .i64]++(List.replicate 32 (.i .u8)++List.replicate 32 (.i .u8)):=rfl
theorem zqA {b:Bul} (hb:b.Ok):fitL ksB b.cells=true:=by
 rw[ksB_eq]
 unfold Bul.cells
 refine zkq rfl (zkq ?_ ?_)
 ·rw[← hb.dig];exact zlE _
 ·rw[← hb.prev];exact zlE _
theorem eq_bul {b c:Bul} (hb:b.Ok) (hc:c.Ok):eqV (.agg ksB) (.agg b.cells) (.agg c.cells)=some (decide (b=c)):=by
 simp only[eqV,zqA hb,zqA hc,Bool.and_self,if_true]
 congr 1
 unfold Bul.cells
 rw[zgl (a1:=b.head) (c1:=c.head) rfl,zgl (by simp[hb.dig,hc.dig]),zfm,zfm]
 obtain⟨n,a,y,k,hd,bo,sa,di,pr⟩:=b
 obtain⟨n',a',y',k',hd',bo',sa',di',pr'⟩:=c
 have hs:zbD bo bo'=decide (bo=bo'):=by rw[Bool.eq_iff_iff,zdj];simp
 simp only[Bul.head,zaF,zbm,hs,Bool.and_true,Bul.mk.injEq]
 rw[Bool.eq_iff_iff]
 simp only[Bool.and_eq_true,decide_eq_true_eq,beq_iff_eq,Int.natCast_inj]
 constructor
 ·rintro⟨⟨h1,h2,h3,h4,h5,h6,h7⟩,h8,h9⟩;exact⟨h1,h2,h3,h4,h5,h6,h7,h8,h9⟩
 ·rintro⟨h1,h2,h3,h4,h5,h6,h7,h8,h9⟩;exact⟨⟨h1,h2,h3,h4,h5,h6,h7⟩,h8,h9⟩
end Go.Air
set_option maxRecDepth 100000
namespace Go.Air
open Go.Air.Try
section
variable {h:H} {v w:V} {bs:List Bul}
theorem t2013:tb1 13=some a13:=by kernel_rfl
theorem t2004:tb1 4=some a4:=by kernel_rfl
theorem fn_SameB (B:Buls h v bs) (C:Buls h w bs) (hl:bs.length≤100):WC tb1 (.fn 13 [] []) [v,w] h fun u h'=>u=.b true∧Ext h h':=by
 refine (zay t2013).2 ?_
 have l1:=B.sl.len
 have l2:=C.sl.len
 simp only[go_sem,↓reduceIte,r13_0,r13_1,r13_3,l1,l2]
 refine zax (fun k t hh=>∃i,k=bs.length-i∧i≤bs.length∧t.length=26∧nth t 0=v∧nth t 1=w∧nth t 5=.i .i64 (i:Int)∧Ext h hh) ?_ bs.length ?_
 ·rintro k t hh ⟨i,rfl,hi,tl,t0,t1,t5,ex⟩
  unfold b13_0
  by_cases hin:i<bs.length
  ·have hI:(i:Int)<(bs.length:Int):=by omega
   have w1:IntKind.i64.wrap ((i:Int)+1)=((i+1:Nat):Int):=zaq (by omega)
   obtain⟨b,hb⟩:∃b,bs[i]? = some b:=⟨_,List.getElem?_eq_getElem hin⟩
   have B':=B.ext ex
   have C':=C.ext ex
   have bok:=B'.okAt hb
   have x1:=B'.ix hb
   have y1:=B'.ldn hb
   have x2:=C'.ix hb
   have y2:=C'.ldn hb
   have hq:eqV (.agg ksB) (.agg b.cells) (.agg b.cells)=some true:=by rw[eq_bul bok bok];simp
   unfold ksB at hq
   simp only[go_sem,↓reduceIte,r13_4,r13_6,r13_5,tl,t0,t1,t5,l1,hI,x1,y1,x2,y2,hq,w1,H.back_bare]
   exact⟨bs.length-(i+1),by omega,i+1,rfl,by omega,rfl,ex⟩
  ·have hI:¬ (i:Int)<(bs.length:Int):=by omega
   simp only[go_sem,↓reduceIte,r13_4,r13_8,tl,t0,t5,l1,hI]
   exact ex
 ·refine⟨0,rfl,Nat.zero_le _,?_,?_,?_,?_,Ext.refl _⟩<;>first|(simp only[go_sem,↓reduceIte];done)|(simp only[go_sem,↓reduceIte];rfl)
theorem zpZ {st:Int} (ht:Tb4 h) (a:Arg 71 h v bs.length (bs.flatMap Bul.cells)) (ok:∀b∈bs,b.Ok):WC tb1 (.fn 4 [] []) [v,.i .i64 st] h fun u h'=>u=.b true∧Ext h h':=by
 refine (zay t2004).2 ?_
 simp only[go_sem,↓reduceIte,r4_0,r4_1]
 refine (fn_few ⟨a.sl,ok⟩ (m:=40) (by omega)).mono ?_
 rintro u h1 ⟨rfl,e1⟩
 cases f1:few bs 40
 ·simp only[go_sem,↓reduceIte,Bool.false_eq_true,r4_2]
  exact e1
 have hl:bs.length≤100:=by
  unfold few at f1
  rw[Bool.and_eq_true]at f1
  have:=of_decide_eq_true f1.1
  omega
 have hbody:∀b∈bs,b.body.length≤1000000:=by
  unfold few at f1
  rw[Bool.and_eq_true,List.all_eq_true]at f1
  intro b hb
  have:=of_decide_eq_true (f1.2 b hb)
  omega
 simp only[go_sem,↓reduceIte,r4_3]
 refine (fn_View (st:=st) (ht.ext e1) (a.ext e1) ok hl hbody).mono ?_
 rintro u2 h2 ⟨e2,o2⟩
 simp only[go_sem,↓reduceIte]
 refine (fn_ViewR (st:=st) (ht.ext (e1.trans e2)) (a.ext (e1.trans e2)) ok hl hbody).mono ?_
 rintro u3 h3 ⟨e3,o3⟩
 have hvl:(zkG bs st).length=bs.length:=ziZ bs st _ (Nat.le_refl _)
 have hok:∀b∈zkG bs st,b.Ok:=zkF ok _
 have B:Buls h3 u2 (zkG bs st):=⟨by rw[hvl];exact (o2.ext e3).sl,hok⟩
 have C:Buls h3 u3 (zkG bs st):=⟨by rw[hvl];exact o3.sl,hok⟩
 simp only[go_sem,↓reduceIte]
 refine (fn_SameB B C (by omega)).mono ?_
 rintro u4 h4 ⟨rfl,e4⟩
 simp only[go_sem,↓reduceIte]
 exact ((e1.trans e2).trans e3).trans e4
end
end Go.Air
