/-
 A part of the proof of: The row of BulletinViews and its tied card,out of the lifted form.
-/
import Derived.Test.YtfdbelnklcjogaaGreatDoorRows
import Derived.ProofKit
import Derived.HandedShaped
import Derived.Lib.LaidTab
import Derived.Lib.LaidU8
import Derived.LaidSub
import Derived.Stop.LaidErr
import Derived.OpenShut
import Derived.Test.YtfdbelnklcjogaaGreatDoorProg
import Derived.Test.YtfdbelnklcjogaaGreatDoorVwE
import Derived.Test.YtfdbelnklcjogaaGreatDoorVwJ
import Derived.Test.YtfdbelnklcjogaaGreatDoorVwL
set_option linter.unusedSectionVars false
set_option linter.unusedVariables false
set_option linter.unusedSimpArgs false
set_option maxRecDepth 100000
namespace Go.Air
open Go.ChangeShapes Go.WideShapes Go.ChangeAt Go.RowKit
def absV (n:Nat):Value→Option V
 |.int k i=>some (.i k i)
 |.bool b=>some (.b b)
 |.string b=>some (.s (b.data.toList.map UInt8.toNat))
 |.slice none 0 0=>some .sn
 |.slice (some ⟨b,o,none⟩) l c=>if b<n∧l≤c∧0<c then some (.sl b o l c none) else if l=0∧c=0 then some (.se ⟨b,o,none⟩) else none
 |.slice (some ⟨b,o,some s⟩) l c=>if l=0∧c=0 then some (.se ⟨b,o,some s⟩) else none
 |.iface t (.pointer (some ⟨b,o,none⟩))=>if b<n then some (.ifc t (.p b o)) else none
 |_=>none
def R0 (w:World):Emb:=fun b=>if b<w.heap.size then some (b,0) else none
theorem zme {w:World} {v:Value} {u:V} (h:absV w.heap.size v=some u):conc (R0 w) u=some v:=by
 unfold absV at h
 split at h
 ·cases h;simp[conc]
 ·cases h;simp[conc]
 ·rename_i b
  cases h
  have h1:(b.data.toList.map UInt8.toNat).all (Nat.blt · 256)=true:=by
   rw[List.all_map,List.all_eq_true]
   intro x _
   show Nat.blt x.toNat 256=true
   rw[Nat.blt_eq]
   exact x.toNat_lt
  have h2:zai (b.data.toList.map UInt8.toNat)=b:=by
   unfold zai
   rw[List.map_map]
   have:(UInt8.ofNat∘UInt8.toNat)=id:=by funext x;simp
   rw[this]
   simp
  simp only[conc,h1,if_true,h2]
 ·cases h;simp[conc]
 ·split at h
  ·rename_i hc
   cases h
   simp[conc,R0,hc.1]
  ·split at h<;>try cases h
   rename_i hc
   obtain⟨rfl,rfl⟩:=hc
   simp[conc]
 ·split at h<;>try cases h
  rename_i hc
  obtain⟨rfl,rfl⟩:=hc
  simp[conc]
 ·split at h<;>try cases h
  rename_i hc
  simp[conc,R0,hc]
 ·cases h
def mkT (f:Nat→Option Blk):Nat→T Blk
 |0=>.e
 |n+1=>(mkT f n).set n (f n)
theorem zpS (f:Nat→Option Blk):∀(n b:Nat),(mkT f n).get b=if b<n then f b else none
 |0,b=>by cases b<;>simp[mkT,T.get]
 |n+1,b=>by
  simp only[mkT,T.get_set,zpS f n b]
  by_cases h:b=n
  ·subst h;simp
  ·simp only[if_neg h]
   by_cases h2:b<n
   ·rw[if_pos h2,if_pos (by omega)]
   ·rw[if_neg h2,if_neg (by omega)]
def roOf (n:Nat):Option Obj→Option Blk
 |some (.cells arr _ _)=>some (.ro (arr.toList.map (absV n)))
 |_=>none
def h0 (w:World):H:=⟨w.heap.size,mkT (fun b=>roOf w.heap.size w.heap[b]?) w.heap.size,[]⟩
theorem zjn (w:World) (b:Nat):(h0 w).get b=if b<w.heap.size then roOf w.heap.size w.heap[b]? else none:=zpS _ _ _
theorem h0_sim (P:Program) (w:World) (h4:∀b∈fixB,b<w.heap.size):Sim P allB (R0 w) (h0 w).get w:=by
 refine⟨?_,?_,?_,fun b hb=>if_pos (h4 b hb)⟩
 ·intro b c sz x _ hb hx
  simp only[R0]at hb
  split at hb<;>simp only[Option.some.injEq,Prod.mk.injEq,reduceCtorEq]at hb
  rename_i hlt
  obtain⟨rfl,rfl⟩:=hb
  rw[zjn,if_pos hlt]at hx
  unfold roOf at hx
  split at hx<;>simp only[Option.some.injEq,reduceCtorEq]at hx
  rename_i arr e f ho
  subst hx
  refine⟨arr,e,f,ho,by simp,fun i v hi => ?_⟩
  rw[List.getElem?_map,Option.map_eq_some_iff]at hi
  obtain⟨y,h1,h2⟩:=hi
  exact⟨y,h1,zme h2⟩
 ·intro b b' c sz sz' x x' _ _ hb hb' _ _
  simp only[R0]at hb hb'
  split at hb<;>simp only[Option.some.injEq,Prod.mk.injEq,reduceCtorEq]at hb
  split at hb'<;>simp only[Option.some.injEq,Prod.mk.injEq,reduceCtorEq]at hb'
  omega
 ·intro b c sz hb
  simp only[R0]at hb
  split at hb<;>simp only[Option.some.injEq,Prod.mk.injEq,reduceCtorEq]at hb
  omega
theorem h0_wf (w:World):WF (h0 w):=by
 refine⟨fun b hb => ?_,fun _ hb=>by simp[h0]at hb⟩
 have hb:w.heap.size≤b:=hb
 rw[zjn,if_neg (by omega)]
theorem zpX {g:Nat} {args:List V} {vs:List Value} {W:World} (h4:∀b∈fixB,b<W.heap.size) (hx:Try.tb1.ext g=false) (hargs:zae (R0 W) args=some vs)
 (hrun:WC Try.tb1 (.fn g [] []) args (h0 W) fun v h'=>v=.b true∧Ext (h0 W) h') :
 Calls Go.Proofs.Tryz.prog g vs.toArray W fun e W'=>e=.returned (.bool true)∧Below W.heap.size W W':=by
 obtain⟨k,r,he,hq⟩:=hrun
 cases r with
 |fail=>exact hq.elim
 |pan v h'=>exact hq.elim
 |ok v h'=>
 obtain⟨rfl,hxx⟩:=hq
 have hfr:Fresh (R0 W) (h0 W) h':=fun b hb _=>by
  have hb:W.heap.size≤b:=hb
  simp only[R0]
  rw[if_neg (by omega)]
 have h1:=(air_fn Try.mixed ok1 hx he (h0_sim _ W h4) hfr (h0_wf W) hargs).2 none 0
 have h2:CallsIn Fence.wide 0 Go.Proofs.Tryz.prog g vs.toArray W _:=h1
 refine (callsIn_wide.1 h2).mono ?_
 intro e W' q
 cases e with
 |returned x=>
  obtain⟨R',l,f,_,hc⟩:=q
  refine⟨by simp[conc]at hc;rw[hc],f.io.1,f.io.2.1,f.io.2.2,f.size,fun c hlt=>f.frame c hlt fun b sz hb hl => ?_⟩
  obtain⟨l',e1,e2⟩:=hxx.log
  have e3:=f.log
  rw[e1]at e3
  have:l'=l:=List.append_cancel_right e3
  subst this
  have:=e2 b hl
  have hn:(h0 W).next=W.heap.size:=rfl
  simp only[R0]at hb
  split at hb<;>simp only[Option.some.injEq,Prod.mk.injEq,reduceCtorEq]at hb
  omega
 |_=>exact q.elim
theorem own:ownKnob Go.Proofs.Tryz.prog.godebug=none:=by kernel_rfl
theorem zgB {H:Type} {enc:TypeId × Value→H} {P:Program} {base:Nat} (hl:laidOutB P=true) {W W':World} {sp:Nat→Bool}:∀{ts:List TypeId} {vs:List Value} {ds:List (DataW H)} {ps:List MemPlace},
 (∀t∈ts,P.readableRec t=true∧t<P.types.size)→DataW.TrodAll enc P W base (fun _=>true) true ts vs ds ps→(∀p∈ps,W.sameAt W' p)→(∀p∈ps,sp p.block=true)→DataW.TrodAll enc P W' base sp true ts vs ds ps
 |[],_,_,_,_,h,_,_=>by
  obtain⟨rfl,rfl,rfl⟩:=trodAll_nil h
  exact h
 |t::ts,_,_,_,ht,h,h1,h2=>by
  obtain⟨v,vs1,d,ds1,a,b,rfl,rfl,rfl,q1,q2⟩:=trodAll_cons h
  have:=ht t (by simp)
  exact⟨a,b,WideElems.Trod_stays hl this.1 this.2 q1 (fun p hp=>h1 p (List.mem_append_left _ hp)) (fun p hp=>h2 p (List.mem_append_left _ hp)),
   zgB hl (fun t ht'=>ht t (by simp[ht'])) q2 (fun p hp=>h1 p (List.mem_append_right _ hp)) (fun p hp=>h2 p (List.mem_append_right _ hp)),rfl⟩
theorem zfN {H:Type} {enc:TypeId × Value→H} {P:Program} {w:World} {base:Nat} {spare:Nat→Bool} {held:Bool}:∀{ts:List TypeId} {vs:List Value} {ds:List (DataW H)} {ps:List MemPlace},
 DataW.TrodAll enc P w base spare held ts vs ds ps→ds.length=ts.length
 |[],_,_,_,h=>by
  obtain⟨_,rfl,_⟩:=trodAll_nil h
  rfl
 |t::ts,_,_,_,h=>by
  obtain⟨v,vs1,d,ds1,a,b,rfl,rfl,rfl,q1,q2⟩:=trodAll_cons h
  simp[zfN q2]
noncomputable def zjY (l:List TypeId):Bool:=l.all fun t=>Go.Proofs.Tryz.prog.readableRec t&&decide (t<Go.Proofs.Tryz.prog.types.size)
theorem zpB {H:Type} {enc:TypeId × Value→H} {f:Func} {s:ChangeSpec} {W W':World} {args:Array Value} {bt:TypeId} {ds gs:List (DataW H)} {before:List MemPlace}
 (hW:DataW.Whole enc Go.Proofs.Tryz.prog f.params.toList s.vars false W args.toList ds gs before) (hv:s.vars=[]) (hs:s.fn H ds={ results:=[.lit (.bool true)],args:=ds })
 (hr:f.resultTypes = #[bt]) (hbt:Go.Proofs.Tryz.prog.underlying bt=some .bool) (hp:zjY f.params.toList=true) (hb:Below W.heap.size W W') :
 s.post enc Go.Proofs.Tryz.prog f false true false false W args (.bool true) W':=by
 have hlt:=hW.lt
 have hW':=hW
 obtain⟨p,q,hA,hV,rfl,hfz,hnd⟩:=hW
 rw[hv]at hV
 have hV0:=hV
 obtain⟨rfl,rfl⟩:=trodVars_none hV
 have hread:∀t∈f.params.toList,Go.Proofs.Tryz.prog.readableRec t=true∧t<Go.Proofs.Tryz.prog.types.size:=by
  intro t ht
  have:=List.all_eq_true.1 hp t ht
  simpa using this
 have hlt':∀x∈p,x.block<W.heap.size:=fun x hx=>hlt x (by simp[hx])
 have e:s.fn H (ds++[])={ results:=[.lit (.bool true)],args:=ds }:=by simpa using hs
 refine⟨ds,[],p++[],[],p,[],hW',?_,?_,?_,hb.frame _,fun ha=>by cases ha⟩
 ·rw[e,hr]
  exact trodAll_mk1 (shut_bool hbt true)
 ·rw[e]
  exact zgB laid hread hA (fun x hx=>hb.same (hlt' x hx)) (fun x hx=>by simpa using hlt' x hx)
 ·rw[e,hv]
  exact hV0
theorem tab_of {W:World} (hL:laidMetH P9 laidList W):zbO<W.heap.size∧isTab ((h0 W).get zbO)=true:=by
 have hL:laidMet P9 laidList W:=hL
 have hL:=laidMet.filter (fun x=>x.1 == "internal/strconv.uint64pow10") hL
 have hl:laidList.filter (fun x=>x.1 == "internal/strconv.uint64pow10")=[("internal/strconv.uint64pow10",Lib.tabData .u64 Lib.pow10Tab)]:=by kernel_rfl
 rw[hl]at hL
 have ht:Lib.TabIs P9 W "internal/strconv.uint64pow10" .u64 Lib.pow10Tab:=Lib.tabIs_of_head (g:=zbO) (t:=411) (n:=20) (e:=92) (by kernel_rfl) (by kernel_rfl) (by kernel_rfl) (by kernel_rfl) (by kernel_rfl) (by kernel_rfl) hL
 have hg:P9.globalNamed "internal/strconv.uint64pow10" = some zbO:=by kernel_rfl
 unfold Lib.TabIs World.var? at ht
 rw[hg]at ht
 simp only[Option.bind_some]at ht
 split at ht<;>simp only[Option.some.injEq,reduceCtorEq]at ht
 rename_i cs t f ho
 have hlt:zbO<W.heap.size:=by
  rcases Nat.lt_or_ge zbO W.heap.size with h|h
  ·exact h
  ·rw[Array.getElem?_eq_none h]at ho;cases ho
 refine⟨hlt,?_⟩
 rw[zjn,if_pos hlt,ho,ht]
 rfl
theorem zqM : "*errors.errorString" = "*" ++ "errors.errorString" := by decide
theorem es_row (u:TypeId) (h:P9.typeName? 3 u=some "*errors.errorString"):u=zlK:=
 typeName_ptr_named (nm := "errors.errorString") (by rw[← zqM];kernel_rfl) (by kernel_rfl) (by decide) u (by rw[← zqM];exact h)
theorem err_of {W:World} {n:String} {g:Nat} {text:List UInt8} (hL:laidMet P9 [(n,.iface "*errors.errorString" (.ptr (.agg [.lit (.string text)])))] W) (hg:P9.globalNamed n=some g) (ht:(P9.globals[g]?).map (·.type)=some errT) :
 g<W.heap.size∧zhl ((h0 W).get g)=true:=by
 obtain⟨a,s,hv,hc,_,_⟩:=laid_sentinel (ms := #[("Error",sigT)]) (f:=⟨"s",strT,0,false,"","errors",0⟩) hL hg ht (by kernel_rfl) es_row (tp:=zlK) (te:=esT) (ts:=strT) (by kernel_rfl) (by kernel_rfl) rfl rfl (by kernel_rfl) (by kernel_rfl) (by kernel_rfl)
 unfold World.var? at hv
 rw[hg]at hv
 simp only[Option.bind_some]at hv
 split at hv<;>simp only[Option.some.injEq,reduceCtorEq]at hv
 rename_i cs t f ho
 have hlt:g<W.heap.size:=by
  rcases Nat.lt_or_ge g W.heap.size with h|h
  ·exact h
  ·rw[Array.getElem?_eq_none h]at ho;cases ho
 refine⟨hlt,?_⟩
 unfold World.cell? at hc
 split at hc<;>try simp at hc
 rename_i arr e1 f1 ho1
 obtain⟨b,o,sp⟩:=a
 obtain rfl:sp=none:=hc.1
 have hb:b<W.heap.size:=by
  rcases Nat.lt_or_ge b W.heap.size with h|h
  ·exact h
  ·rw[Array.getElem?_eq_none h]at ho1;cases ho1
 rw[zjn,if_pos hlt,ho,hv]
 show zhl (some (.ro [absV W.heap.size (.iface zlK (.pointer (some ⟨b,o,none⟩)))]))=true
 have:absV W.heap.size (.iface zlK (.pointer (some ⟨b,o,none⟩)))=some (.ifc zlK (.p b o)):=if_pos hb
 rw[this]
 rfl
def zoB (h:H):Bool:=isTab (h.get zbO)&&(zhl (h.get zgE)&&zhl (h.get zgJ))
theorem lib_of {W:World} (hL:laidMetH P9 laidList W):(∀b∈fixB,b<W.heap.size)∧zoB (h0 W)=true:=by
 obtain⟨t1,t2⟩:=tab_of hL
 have hL:laidMet P9 laidList W:=hL
 have l1:=laidMet.filter (fun x=>x.1 == "strconv.ErrSyntax") hL
 have e1:laidList.filter (fun x=>x.1 == "strconv.ErrSyntax")=[("strconv.ErrSyntax",.iface "*errors.errorString" (.ptr (.agg [.lit (.string [105,110,118,97,108,105,100,32,115,121,110,116,97,120])])))]:=by kernel_rfl
 rw[e1]at l1
 have l2:=laidMet.filter (fun x=>x.1 == "strconv.ErrRange") hL
 have e2:laidList.filter (fun x=>x.1 == "strconv.ErrRange")=[("strconv.ErrRange",.iface "*errors.errorString" (.ptr (.agg [.lit (.string [118,97,108,117,101,32,111,117,116,32,111,102,32,114,97,110,103,101])])))]:=by kernel_rfl
 rw[e2]at l2
 obtain⟨s1,s2⟩:=err_of (g:=zgE) l1 (by kernel_rfl) (by kernel_rfl)
 obtain⟨r1,r2⟩:=err_of (g:=zgJ) l2 (by kernel_rfl) (by kernel_rfl)
 refine⟨fun b hb => ?_,by unfold zoB;rw[t2,s2,r2];rfl⟩
 simp only[fixB,List.mem_cons,List.not_mem_nil,or_false]at hb
 rcases hb with rfl|rfl|rfl<;>assumption
theorem zpr {g:Nat} {fn:Func} {s:ChangeSpec} {bt:TypeId} {args0:Array Value} (hx:Try.tb1.ext g=false) (hfn:Go.Proofs.Tryz.prog.funcs[g]? = some fn) (hv:s.vars=[])
 (hs:∀(H:Type) (ds:List (DataW H)),ds.length=fn.params.size→s.fn H ds={ results:=[.lit (.bool true)],args:=ds })
 (hr:fn.resultTypes = #[bt]) (hbt:Go.Proofs.Tryz.prog.underlying bt=some .bool) (hp:zjY fn.params.toList=true) (hni:Go.Proofs.Tryz.checked.prog.inits.idxOf? g=none)
 (os:Os) (started:os.Started) (H:Type) (enc:TypeId × Value→H)
 (hsh:((zbS os).forCall (fun _ _=>0) ⟨#[],args0,[]⟩).Shaped P9)
 (w3:Input.okWideB P9 ((zbS os).forCall (fun _ _=>0) ⟨#[],args0,[]⟩) g ⟨#[],args0,[]⟩=true)
 (w4:s.preB enc P9 fn [] false ((zbS os).forCall (fun _ _=>0) ⟨#[],args0,[]⟩).memory args0 8=true)
 (w5:s.sizedB enc P9 fn false ((zbS os).forCall (fun _ _=>0) ⟨#[],args0,[]⟩).memory args0 8=true)
 (hrun:∀(W:World) (args:List Value) (ds:List (DataW H)) (ps:List MemPlace) (base:Nat),(∀(j:Nat) t v,fn.params[j]? = some t→args[j]? = some v→Value.okWide Go.Proofs.Tryz.prog W .any base t v) →
   DataW.TrodAll enc Go.Proofs.Tryz.prog W 0 (fun _=>true) true fn.params.toList args ds ps →
   (DataW.weightsEach Go.Proofs.Tryz.prog fn.params.toList ds).all (· ≤ reachBytes)=true→zoB (h0 W)=true→laidMetH P9 laidList W →
   ∃us,zae (R0 W) us=some args∧WC Try.tb1 (.fn g [] []) us (h0 W) fun v h'=>v=.b true∧Ext (h0 W) h') :
 ReturnsInHanded {} Go.Proofs.Tryz.checked os g .any (fun w args=>(s.pre enc P9 fn [] false w args∧laidMetH P9 laidList w)∧sizedMet enc P9 fn (OpenSpec.ofChange s) false w args) (s.post enc Go.Proofs.Tryz.checked.prog fn false true false false):=by
 refine returnsInHanded_of_change_and (C:=Go.Proofs.Tryz.checked) (X:=fun w _=>laidMetH P9 laidList w) (fun _ _ _ hh h=>h.of_heap hh) own started hni hfn
  ⟨zbS os,fun _ _=>0,⟨#[],args0,[]⟩,rfl,hsh,(Input.okWide_of_okWideB (base:=0) w3).1,(Input.okWide_of_okWideB w3).2,⟨⟨ChangeSpec.pre_of_preB w4,zoy os args0⟩,sizedMet_of_sizedB w5⟩,by
    simp only[Assume.holds]
    exact⟨by simp,by simp,fun _=>Modest.zero,by simp,by simp⟩⟩ ?_
 intro W base args ds gs before hval hW _ hwt hL _
 have hW':=hW
 obtain⟨p,q,hA,hV,rfl,hfz,hnd⟩:=hW
 rw[hv]at hV
 obtain⟨rfl,rfl⟩:=trodVars_none hV
 have hw2:(DataW.weightsEach Go.Proofs.Tryz.prog fn.params.toList ds).all (· ≤ reachBytes)=true:=by
  have e:s.plain.varTypes Go.Proofs.Tryz.checked.prog=[]:=by simp[DataSpec.varTypes,ChangeSpec.plain,hv]
  have h:=hwt
  rw[e,List.append_nil,List.append_nil]at h
  exact h
 obtain⟨us,h1,h2⟩:=hrun W args.toList ds p base (fun j t v h1 h2=>hval j t v h1 (by simpa using h2)) hA hw2 (lib_of hL).2 hL
 have hcall:=zpX (lib_of hL).1 hx h1 h2
 rw[Array.toArray_toList]at hcall
 refine hcall.mono ?_
 rintro e W' ⟨rfl,hb⟩
 exact⟨_,rfl,zpB hW' hv (hs H ds (by simpa using zfN hA)) hr hbt hp hb⟩
theorem row_laid {g:Nat} {fn:Func} {s:ChangeSpec} {bt:TypeId} {args0:Array Value} (hx:Try.tb1.ext g=false) (hfn:Go.Proofs.Tryz.prog.funcs[g]? = some fn) (hv:s.vars=[])
 (hs:∀(H:Type) (ds:List (DataW H)),ds.length=fn.params.size→s.fn H ds={ results:=[.lit (.bool true)],args:=ds })
 (hr:fn.resultTypes = #[bt]) (hbt:Go.Proofs.Tryz.prog.underlying bt=some .bool) (hp:zjY fn.params.toList=true) (hni:Go.Proofs.Tryz.checked.prog.inits.idxOf? g=none)
 (os:Os) (started:os.Started) (H:Type) (enc:TypeId × Value→H)
 (w1:((zbS os).forCall (fun _ _=>0) ⟨#[],args0,[]⟩).variablesB P9=true)
 (w2:(((zbS os).forCall (fun _ _=>0) ⟨#[],args0,[]⟩).heap.toList.drop P9.globals.size).take ((begin P9 (fun _ _=>0) default).world.heap.size-P9.globals.size)=(begin P9 (fun _ _=>0) default).world.heap.toList.drop P9.globals.size)
 (w3:Input.okWideB P9 ((zbS os).forCall (fun _ _=>0) ⟨#[],args0,[]⟩) g ⟨#[],args0,[]⟩=true)
 (w4:s.preB enc P9 fn [] false ((zbS os).forCall (fun _ _=>0) ⟨#[],args0,[]⟩).memory args0 8=true)
 (w5:s.sizedB enc P9 fn false ((zbS os).forCall (fun _ _=>0) ⟨#[],args0,[]⟩).memory args0 8=true)
 (hrun:∀(W:World) (args:List Value) (ds:List (DataW H)) (ps:List MemPlace) (base:Nat),(∀(j:Nat) t v,fn.params[j]? = some t→args[j]? = some v→Value.okWide Go.Proofs.Tryz.prog W .any base t v) →
   DataW.TrodAll enc Go.Proofs.Tryz.prog W 0 (fun _=>true) true fn.params.toList args ds ps →
   (DataW.weightsEach Go.Proofs.Tryz.prog fn.params.toList ds).all (· ≤ reachBytes)=true→zoB (h0 W)=true →
   ∃us,zae (R0 W) us=some args∧WC Try.tb1 (.fn g [] []) us (h0 W) fun v h'=>v=.b true∧Ext (h0 W) h') :
 ReturnsInHanded {} Go.Proofs.Tryz.checked os g .any (fun w args=>(s.pre enc P9 fn [] false w args∧laidMetH P9 laidList w)∧sizedMet enc P9 fn (OpenSpec.ofChange s) false w args) (s.post enc Go.Proofs.Tryz.checked.prog fn false true false false):=
 zpr hx hfn hv hs hr hbt hp hni os started H enc (World.shaped_of_B w1 w2) w3 w4 w5 fun W args ds ps base h1 h2 h3 h4 _=>hrun W args ds ps base h1 h2 h3 h4
end Go.Air
set_option maxRecDepth 100000
namespace Go.Air
open Go.ChangeShapes Go.WideShapes Go.ChangeAt Go.RowKit Go.Air.Try
variable {W:World}
theorem zky {a:Addr} {x:Value} (h:W.cell? a=some x):a.spot=none∧∃arr e f,W.heap[a.block]? = some (.cells arr e f)∧arr.toList[a.off]? = some x:=by
 unfold World.cell? at h
 split at h<;>try simp at h
 rename_i arr e f ho
 exact⟨h.1,arr,e,f,ho,by simpa using h.2⟩
theorem arg_of {a:Addr} {len cap esz:Nat} {cs:List V} (hlen:cs.length=len*esz) (hc:0<cap) (hz:0<esz) (hle:len≤cap) {x0:Value} (hx0:W.cell? (a.add 0)=some x0)
 (hcell:∀i u,cs[i]? = some u→∃x,W.cell? (a.add i)=some x∧absV W.heap.size x=some u) :
 ∃v,absV W.heap.size (.slice (some a) len cap)=some v∧conc (R0 W) v=some (.slice (some a) len cap)∧Arg esz (h0 W) v len cs:=by
 obtain⟨b,o,s⟩:=a
 obtain⟨hs,arr,e,f,ho,_⟩:=zky hx0
 obtain rfl:s=none:=by simpa [Addr.add] using hs
 simp only[zbW]at hcell ho
 have hb:b<W.heap.size:=by
  rcases Nat.lt_or_ge b W.heap.size with h|h
  ·exact h
  ·rw[Array.getElem?_eq_none h]at ho;cases ho
 have hv:absV W.heap.size (.slice (some ⟨b,o,none⟩) len cap)=some (.sl b o len cap none):=by
  simp only[absV]
  rw[if_pos ⟨hb,hle,hc⟩]
 refine⟨_,hv,zme hv,.inr ⟨b,o,cap,_,rfl,hle,hb,by rw[zjn,if_pos hb,ho];rfl,?_⟩⟩
 have hcell':∀(i:Nat) (u:V),cs[i]? = some u→∃x,arr.toList[o+i]? = some x∧absV W.heap.size x=some u:=by
  intro i u hi
  obtain⟨x,h1,h2⟩:=hcell i u hi
  obtain⟨_,arr',e',f',q1,q2⟩:=zky h1
  simp only at q1 q2
  rw[ho]at q1
  cases q1
  exact⟨x,q2,h2⟩
 simp only[Blk.rd]
 refine zku hlen (fun i u hi => ?_) ?_
 ·obtain⟨x,h1,h2⟩:=hcell' i u hi
  rw[List.getElem?_map,h1,Option.map_some,h2]
 ·by_cases h0:len*esz=0
  ·have hx:o≤arr.toList.length:=by
    obtain⟨_,arr',e',f',q1,q2⟩:=zky hx0
    simp only[zbW]at q1 q2
    rw[ho]at q1
    cases q1
    have:=(List.getElem?_eq_some_iff.1 q2).1
    simp only[Nat.add_zero]at this
    omega
   simp only[List.length_map];omega
  ·have hlt:len*esz-1<cs.length:=by omega
   obtain⟨x,h1,_⟩:=hcell' (len*esz-1) cs[len*esz-1] (List.getElem?_eq_getElem hlt)
   have:=(List.getElem?_eq_some_iff.1 h1).1
   simp only[List.length_map];omega
end Go.Air
set_option maxRecDepth 100000
namespace Go.Air
open Go.ChangeShapes Go.WideShapes Go.ChangeAt Go.RowKit Go.Air.Try
variable {W:World}
theorem tb4_of (h:zoB (h0 W)=true):Tb4 (h0 W):=by
 unfold zoB at h
 simp only[Bool.and_eq_true]at h
 have lt:∀b,(h0 W).get b≠none→b<W.heap.size:=by
  intro b hb
  rw[zjn]at hb
  split at hb
  ·rename_i hl;exact hl
  ·exact (hb rfl).elim
 have h1:zbO<W.heap.size:=lt _ fun e=>by rw[e]at h;cases h.1
 have h2:zgE<W.heap.size:=lt _ fun e=>by rw[e]at h;cases h.2.1
 have h3:zgJ<W.heap.size:=lt _ fun e=>by rw[e]at h;cases h.2.2
 have key:zcV≤(h0 W).next:=by
  show zcV≤W.heap.size
  unfold zcV;omega
 exact⟨key,h.1,h.2.1,h.2.2⟩
theorem znd {x:Int} (h:(Lit.int .i64 x).wf=true):I64 x:=by
 simp only[Lit.wf,Bool.and_eq_true,decide_eq_true_eq]at h
 simp[IntKind.min,IntKind.max,IntKind.signed,IntKind.bits]at h
 unfold I64;omega
theorem wf_u8 {x:Int} (h:(Lit.int .u8 x).wf=true):0≤x∧x<256:=by
 simp only[Lit.wf,Bool.and_eq_true,decide_eq_true_eq]at h
 simp[IntKind.min,IntKind.max,IntKind.signed,IntKind.bits]at h
 omega
theorem zla {H:Type} {enc:TypeId × Value→H} {P:Program} {w:World} {base:Nat} {sp:Nat→Bool} {held:Bool} {fuel:Nat} {t e:TypeId} {n:Nat} {cs:List Value} {x:DataW H × List MemPlace}
 (ht:P.underlying t=some (.array n e)) (he:P.underlying e=some (.int .u8)) (hce:P.cellsOf e=1) (hct:P.cellsOf t=n)
 (h:DataW.trod enc P w base sp held fuel t cs=some x):∃l:List Nat,l.length=n∧(∀c∈l,c<256)∧cs=l.map fun c:Nat=>Value.int .u8 (c:Int):=by
 obtain⟨xs,m,_,_,hl,hlen,hf⟩:=DataW.trod_array ht h
 rw[hct]at hl
 have each:∀i:Nat,∃c:Nat,i<n→c<256∧cs[i]? = some (Value.int .u8 (c:Int)):=by
  intro i
  by_cases hi:i<n
  ·have h1:=hf i hi
   rw[hce,Nat.mul_one,List.getElem?_eq_getElem (by omega)]at h1
   obtain⟨z,hc,_,hw⟩:=DataW.trod_int he h1
   have hz:=wf_u8 hw
   refine⟨z.toNat,fun _=>⟨by omega,?_⟩⟩
   have:=congrArg (·[0]?) hc
   simp[List.getElem?_take,List.getElem?_drop]at this
   rw[this]
   congr 2
   omega
  ·exact⟨0,fun h=>absurd h hi⟩
 obtain⟨f,hf'⟩:=Classical.axiomOfChoice each
 refine⟨(List.range n).map f,by simp,fun c hc => ?_,?_⟩
 ·obtain⟨i,hi,rfl⟩:=List.mem_map.1 hc
  exact (hf' i (List.mem_range.1 hi)).1
 ·apply List.ext_getElem?
  intro i
  by_cases hi:i<n
  ·rw[(hf' i hi).2,List.getElem?_map,List.getElem?_map,List.getElem?_range hi];rfl
  ·rw[List.getElem?_eq_none (by omega),List.getElem?_eq_none (by simp;omega)]
theorem zkw (R:Emb):∀l:List Nat,zae R (l.map u8)=some (l.map fun c:Nat=>Value.int .u8 (c:Int))
 |[]=>rfl
 |c::l=>by
  rw[List.map_cons]
  exact zah.2 ⟨_,_,rfl,zkw R l,rfl⟩
theorem zjy (R:Emb) (b:ByteArray):conc R (.s (b.data.toList.map UInt8.toNat))=some (.string b)∧∀c∈b.data.toList.map UInt8.toNat,c<256:=by
 have hlt:∀c∈b.data.toList.map UInt8.toNat,c<256:=by
  intro c hc
  obtain⟨x,_,rfl⟩:=List.mem_map.1 hc
  exact x.toNat_lt
 have h1:(b.data.toList.map UInt8.toNat).all (Nat.blt · 256)=true:=by
  rw[List.all_eq_true]
  intro c hc
  show Nat.blt c 256=true
  rw[Nat.blt_eq];exact hlt c hc
 have h2:zai (b.data.toList.map UInt8.toNat)=b:=by
  unfold zai
  rw[List.map_map]
  have:(UInt8.ofNat∘UInt8.toNat)=id:=by funext x;simp
  rw[this]
  simp
 exact⟨by simp only[conc,h1,if_true,h2],hlt⟩
def zpC:V→Bool
 |.b _|.i _ _|.s _=>true
 |_=>false
theorem zmX {R:Emb} {n:Nat} {u:V} {x:Value} (hp:zpC u=true) (h:conc R u=some x):absV n x=some u:=by
 cases u<;>simp only[zpC,Bool.false_eq_true]at hp
 ·simp only[conc,Option.some.injEq]at h;subst h;rfl
 ·simp only[conc,Option.some.injEq]at h;subst h;rfl
 ·rename_i l
  simp only[conc]at h
  split at h
  ·rename_i hl
   cases h
   simp only[absV]
   congr 2
   unfold zai
   simp only[List.toList_toArray,List.map_map]
   rw[List.all_eq_true]at hl
   conv=>rhs;rw[← List.map_id l]
   apply List.map_congr_left
   intro c hc
   have:=hl c hc
   rw[Nat.blt_eq]at this
   simp[UInt8.toNat_ofNat,Nat.mod_eq_of_lt this]
  ·cases h
theorem add_two (a:Addr) (m k:Nat):(a.add m).add k=a.add (m+k):=by
 by_cases hm:m=0
 ·subst hm;simp[Addr.add]
 ·by_cases hk:k=0
  ·subst hk;simp[Addr.add]
  ·simp[Addr.add,hm,hk,Nat.add_assoc]
theorem zpG {H:Type} {enc:TypeId × Value→H} {k:IntKind} {t:TypeId} {base:Nat} {v:Value} {d:DataW H} {p:List MemPlace} (ht:Go.Proofs.Tryz.prog.underlying t=some (.int k))
 (hval:Value.okWide Go.Proofs.Tryz.prog W .any base t v) (hd:DataW.Trod enc Go.Proofs.Tryz.prog W 0 (fun _=>true) true t v d p):∃n:Int,(Lit.int k n).wf=true∧∀R,conc R (.i k n)=some v:=by
 obtain⟨n,rfl⟩:=okWide_int ht hval
 obtain⟨fuel,hf⟩:=hd
 obtain⟨z,e1,_,w⟩:=DataW.trod_int ht hf
 simp[Value.cells]at e1
 subst e1
 exact⟨n,w,fun _=>rfl⟩
end Go.Air
set_option maxRecDepth 100000
namespace Go.Air
open Go.ChangeShapes Go.WideShapes Go.ChangeAt Go.RowKit Go.Air.Try
variable {W:World}
theorem zpH {H:Type} {enc:TypeId × Value→H} {fuel:Nat} {cs:List Value} {x:DataW H × List MemPlace} (h:DataW.trod enc Go.Proofs.Tryz.prog W 0 (fun _=>true) true fuel 43 cs=some x) :
 ∃b:Bul,b.Ok∧∀R,zae R b.cells=some cs:=by
 have c31:Go.Proofs.Tryz.prog.cellsOf 43=71:=by kernel_rfl
 have c3:Go.Proofs.Tryz.prog.cellsOf 3=1:=by kernel_rfl
 have c4:Go.Proofs.Tryz.prog.cellsOf 4=1:=by kernel_rfl
 have c5:Go.Proofs.Tryz.prog.cellsOf 5=1:=by kernel_rfl
 have c9:Go.Proofs.Tryz.prog.cellsOf 9=1:=by kernel_rfl
 have c25:Go.Proofs.Tryz.prog.cellsOf 41=32:=by kernel_rfl
 have u3:Go.Proofs.Tryz.prog.underlying 3=some (.int .i64):=by kernel_rfl
 have u4:Go.Proofs.Tryz.prog.underlying 4=some .bool:=by kernel_rfl
 have u5:Go.Proofs.Tryz.prog.underlying 5=some (.int .u8):=by kernel_rfl
 have u9:Go.Proofs.Tryz.prog.underlying 9=some .string:=by kernel_rfl
 have u25:Go.Proofs.Tryz.prog.underlying 41=some (.array 32 5):=by kernel_rfl
 obtain⟨xs,n,_,_,hl,hlen,hf⟩:=DataW.trod_struct Go.Proofs.Tryz.underlying43 h
 rw[c31]at hl
 have hlen:xs.length=9:=hlen
 match xs,hlen with
 |[y0,y1,y2,y3,y4,y5,y6,y7,y8],_=>
  have f0:DataW.trod enc Go.Proofs.Tryz.prog W 0 (fun _=>true) true n 3 ((cs.drop 0).take (Go.Proofs.Tryz.prog.cellsOf 3))=some y0:=hf 0 _ rfl
  have f1:DataW.trod enc Go.Proofs.Tryz.prog W 0 (fun _=>true) true n 3 ((cs.drop 1).take (Go.Proofs.Tryz.prog.cellsOf 3))=some y1:=hf 1 _ rfl
  have f2:DataW.trod enc Go.Proofs.Tryz.prog W 0 (fun _=>true) true n 3 ((cs.drop 2).take (Go.Proofs.Tryz.prog.cellsOf 3))=some y2:=hf 2 _ rfl
  have f3:DataW.trod enc Go.Proofs.Tryz.prog W 0 (fun _=>true) true n 5 ((cs.drop 3).take (Go.Proofs.Tryz.prog.cellsOf 5))=some y3:=hf 3 _ rfl
  have f4:DataW.trod enc Go.Proofs.Tryz.prog W 0 (fun _=>true) true n 4 ((cs.drop 4).take (Go.Proofs.Tryz.prog.cellsOf 4))=some y4:=hf 4 _ rfl
  have f5:DataW.trod enc Go.Proofs.Tryz.prog W 0 (fun _=>true) true n 9 ((cs.drop 5).take (Go.Proofs.Tryz.prog.cellsOf 9))=some y5:=hf 5 _ rfl
  have f6:DataW.trod enc Go.Proofs.Tryz.prog W 0 (fun _=>true) true n 3 ((cs.drop 6).take (Go.Proofs.Tryz.prog.cellsOf 3))=some y6:=hf 6 _ rfl
  have f7:DataW.trod enc Go.Proofs.Tryz.prog W 0 (fun _=>true) true n 41 ((cs.drop 7).take (Go.Proofs.Tryz.prog.cellsOf 41))=some y7:=hf 7 _ rfl
  have f8:DataW.trod enc Go.Proofs.Tryz.prog W 0 (fun _=>true) true n 41 ((cs.drop 39).take (Go.Proofs.Tryz.prog.cellsOf 41))=some y8:=hf 8 _ rfl
  rw[c3]at f0 f1 f2 f6
  rw[c5]at f3
  rw[c4]at f4
  rw[c9]at f5
  rw[c25]at f7 f8
  obtain⟨n0,e0,_,w0⟩:=DataW.trod_int u3 f0
  obtain⟨n1,e1,_,w1⟩:=DataW.trod_int u3 f1
  obtain⟨n2,e2,_,w2⟩:=DataW.trod_int u3 f2
  obtain⟨n3,e3,_,w3⟩:=DataW.trod_int u5 f3
  obtain⟨n4,e4,_⟩:=DataW.trod_bool u4 f4
  obtain⟨n5,e5,_,w5⟩:=DataW.trod_string u9 f5
  obtain⟨n6,e6,_,w6⟩:=DataW.trod_int u3 f6
  obtain⟨l7,q7,b7,e7⟩:=zla u25 u5 c5 c25 f7
  obtain⟨l8,q8,b8,e8⟩:=zla u25 u5 c5 c25 f8
  have hk:=wf_u8 w3
  refine⟨⟨n0,n1,n2,n3.toNat,n4,n5.data.toList.map UInt8.toNat,n6,l7,l8⟩,⟨znd w0,znd w1,znd w2,by show n3.toNat<256;omega,znd w6,(zjy (fun _=>none) n5).2,?_,q7,q8,b7,b8⟩,fun R => ?_⟩
  ·show (n5.data.toList.map UInt8.toNat).length≤_
   simp only[List.length_map,Array.length_toList]
   have:n5.size≤9223372036854775807:=w5
   exact this
  ·have hcs:cs=[.int .i64 n0,.int .i64 n1,.int .i64 n2,.int .u8 n3,.bool n4,.string n5,.int .i64 n6]++((l7.map fun c:Nat=>Value.int .u8 (c:Int))++(l8.map fun c:Nat=>Value.int .u8 (c:Int))):=by
    have hd:∀k,cs.drop k=(cs.drop k).take 1++cs.drop (k+1):=fun k=>by
     have:=(List.take_append_drop 1 (cs.drop k)).symm
     rw[List.drop_drop]at this
     exact this
    have h39:(cs.drop 39).take 32=cs.drop 39:=List.take_of_length_le (by simp;omega)
    have h7:cs.drop 7=(cs.drop 7).take 32++cs.drop 39:=by
     have:=(List.take_append_drop 32 (cs.drop 7)).symm
     rw[List.drop_drop]at this
     exact this
    rw[h39]at e8
    have h0:cs=cs.drop 0:=rfl
    rw[h0,hd 0,hd 1,hd 2,hd 3,hd 4,hd 5,hd 6,h7,e0,e1,e2,e3,e4,e5,e6,e7,e8]
    rfl
   rw[hcs]
   unfold Bul.cells
   refine zaw ?_ (zaw (zkw R l7) (zkw R l8))
   have hn3:((n3.toNat:Nat):Int)=n3:=Int.toNat_of_nonneg hk.1
   simp only[Bul.head,zae,conc,hn3]
   rw[show (if (n5.data.toList.map UInt8.toNat).all (Nat.blt · 256)=true then some (Value.string (zai (n5.data.toList.map UInt8.toNat))) else none)=some (.string n5) from (zjy R n5).1]
end Go.Air
set_option maxRecDepth 100000
namespace Go.Air
open Go.ChangeShapes Go.WideShapes Go.ChangeAt Go.RowKit Go.Air.Try
variable {W:World}
theorem zrb (b:Bul):∀u∈b.cells,zpC u=true:=by
 intro u hu
 unfold Bul.cells at hu
 rcases List.mem_append.1 hu with hu|hu
 ·simp only[Bul.head,List.mem_cons,List.not_mem_nil,or_false]at hu
  rcases hu with rfl|rfl|rfl|rfl|rfl|rfl|rfl<;>rfl
 ·rcases List.mem_append.1 hu with hu|hu<;>(obtain⟨c,_,rfl⟩:=List.mem_map.1 hu;rfl)
theorem znH:∀{bs:List Bul},(∀b∈bs,b.Ok)→(bs.flatMap Bul.cells).length=bs.length*71
 |[],_=>rfl
 |b::bs,h=>by
  rw[List.flatMap_cons,List.length_append,zak (h b (by simp)),znH fun x hx=>h x (by simp[hx]),List.length_cons];omega
theorem flat_get {bs:List Bul} {i k:Nat} {b:Bul} (ho:∀b∈bs,b.Ok) (hb:bs[i]? = some b) (hk:k<71):(bs.flatMap Bul.cells)[i*71+k]? = b.cells[k]? := by
 obtain⟨r,hr⟩:=zgU ho hb
 rw[← List.getElem?_drop,hr,List.getElem?_append_left (by rw[zak (ho b (List.mem_of_getElem? hb))];exact hk)]
theorem zon {H:Type} {enc:TypeId × Value→H} {base:Nat} {v:Value} {d:DataW H} {p:List MemPlace} (hval:Value.okWide Go.Proofs.Tryz.prog W .any base 22 v)
 (hd:DataW.Trod enc Go.Proofs.Tryz.prog W 0 (fun _=>true) true 22 v d p):∃u,∃bs:List Bul,conc (R0 W) u=some v∧Arg 71 (h0 W) u bs.length (bs.flatMap Bul.cells)∧∀b∈bs,b.Ok:=by
 have u28:Go.Proofs.Tryz.prog.underlying 22=some (.slice 43):=by kernel_rfl
 have c31:Go.Proofs.Tryz.prog.cellsOf 43=71:=by kernel_rfl
 obtain⟨a0,len,cap,rfl⟩:=okWide_slice u28 hval
 obtain⟨fuel,hf⟩:=hd
 rcases DataW.trod_slice u28 hf with⟨hcs,hx⟩|⟨a,l',c',elems,rest,n,_,hcs,_,_,hl,hm,hel,hall,hrest,_⟩
 ·simp[Value.cells]at hcs
  obtain⟨rfl,rfl,rfl⟩:=hcs
  exact⟨.sn,[],by simp[conc],.inl ⟨rfl,rfl,.inl rfl⟩,by simp⟩
 ·simp[Value.cells]at hcs
  obtain⟨rfl,rfl,rfl⟩:=hcs
  by_cases h0':cap=0
  ·subst h0'
   obtain rfl:len=0:=by omega
   obtain⟨b,o,s⟩:=a
   exact⟨.se ⟨b,o,s⟩,[],by simp[conc],.inl ⟨rfl,rfl,.inr ⟨_,rfl⟩⟩,by simp⟩
  ·by_cases hl0:len=0
   ·subst hl0
    have h1:=(hrest rfl).2 0 (by omega)
    rw[c31,List.getElem?_eq_getElem (by have:=(hrest rfl).1;omega)]at h1
    obtain⟨cs,h2,_⟩:=Option.bind_eq_some_iff.1 h1
    obtain⟨_,h3,h4⟩:=World.cells?_some h2
    have h5:=h4 0 (by omega)
    rw[List.getElem?_eq_getElem (by omega)]at h5
    obtain⟨u,q1,q2,q3⟩:=arg_of (W:=W) (a:=a) (len:=0) (cap:=cap) (esz:=71) (cs:=[]) rfl (by omega) (by omega) hl (x0:=cs[0]) (by simpa [Addr.add] using h5) (by intro i u hi;simp at hi)
    exact⟨u,[],q2,q3,by simp⟩
   ·have each:∀i,∃b:Bul,i<len→b.Ok∧∃cs,W.cells? 0 (a.add (i*71)) 71=some cs∧zae (R0 W) b.cells=some cs:=by
     intro i
     by_cases hi:i<len
     ·have h1:=hall i hi
      rw[c31]at h1
      rw[List.getElem?_eq_getElem (by omega)]at h1
      obtain⟨cs,h2,h3⟩:=Option.bind_eq_some_iff.1 h1
      obtain⟨b,h4,h5⟩:=zpH h3
      exact⟨b,fun _=>⟨h4,cs,h2,h5 _⟩⟩
     ·exact⟨zeroB,fun h=>absurd h hi⟩
    obtain⟨f,hf'⟩:=Classical.axiomOfChoice each
    have hget:∀i,i<len→((List.range len).map f)[i]? = some (f i):=by intro i hi;simp[hi]
    have hok:∀b∈(List.range len).map f,b.Ok:=by
     intro b hb
     obtain⟨i,hi,rfl⟩:=List.mem_map.1 hb
     exact (hf' i (List.mem_range.1 hi)).1
    have hrl:=znH hok
    have hcell:∀i u,(((List.range len).map f).flatMap Bul.cells)[i]? = some u→∃x,W.cell? (a.add i)=some x∧absV W.heap.size x=some u:=by
     intro i u hi
     have hlt:i<len*71:=by
      have:=(List.getElem?_eq_some_iff.1 hi).1
      rw[hrl]at this
      simpa using this
     have hjl:i/71<len:=by omega
     have hi':i=i/71*71+i%71:=by omega
     have hk:i%71<71:=by omega
     rw[hi',flat_get hok (hget _ hjl) hk]at hi
     obtain⟨_,cs,h2,h5⟩:=hf' (i/71) hjl
     obtain⟨x,h6,h7⟩:=zcb h5 hi
     have h8:=(World.cells?_some h2).2.2 (i%71) hk
     refine⟨x,?_,zmX (zrb _ u (List.mem_of_getElem? hi)) h7⟩
     rw[← h6,← h8]
     have ha:a.add i=(a.add (i/71*71)).add (i%71):=by
      rw[add_two]
      exact congrArg _ hi'
     rw[ha]
    have hx0:∃x0,W.cell? (a.add 0)=some x0:=by
     have h1:0<(((List.range len).map f).flatMap Bul.cells).length:=by rw[hrl];simp;omega
     obtain⟨x,hx,_⟩:=hcell 0 _ (List.getElem?_eq_getElem h1)
     exact⟨x,hx⟩
    obtain⟨x0,hx0⟩:=hx0
    obtain⟨u,q1,q2,q3⟩:=arg_of (W:=W) (a:=a) (len:=len) (cap:=cap) (esz:=71) (by rw[hrl];simp) (by omega) (by omega) hl hx0 hcell
    exact⟨u,(List.range len).map f,q2,by simpa using q3,hok⟩
end Go.Air
