/-
  The abstract machine, part P: closures, maps with texts as keys, iterators over texts, texts. No project text.
-/
import Derived.Test.YtadlpefpehjcoaaGreatQRowStepsA
import Derived.Laws.StructEq
import Derived.Maps.RangeRun
import Derived.Laws.BytesString
import Derived.Laws.Slices
set_option linter.unusedSimpArgs false
set_option linter.unusedVariables false
namespace Go.Proofs.YtadlpefpehjcoaaGreat.AM
open Go
def QeW:AV→Bool
 |.agg _=>false
 |.tup _=>false
 |_=>true
theorem Qra{ρ:Name→Loc}{H:Heap}{M:Nat→Prop}{w:World}{x:AV}{u:Value}(h:QeW x=true)(hr:x.R ρ H M w u):u.oneCell'=true:=by
 cases x with
 |agg cs=>simp[QeW]at h
 |tup cs=>simp[QeW]at h
 |p y=>simp only[AV.R]at hr;exact hr.flat
 |ref n k=>simp only[AV.R]at hr;exact hr.1
 |own n k=>simp only[AV.R]at hr;exact hr.1
 |aref n a b c=>simp only[AV.R]at hr;exact hr.1
 |view n a b c=>simp only[AV.R]at hr;exact hr.1
 |eptr cells=>simp only[AV.R]at hr;obtain⟨ad,rfl,_⟩:=hr;rfl
 |clo f a b=>simp only[AV.R]at hr;obtain⟨a,c,rfl,_⟩:=hr;rfl
 |oref b n=>simp only[AV.R]at hr;exact hr.1
 |err b=>simp only[AV.R]at hr;exact hr.1
 |ub=>simp only[AV.R]at hr;obtain⟨q,rfl⟩:=hr;rfl
 |any=>simpa only[AV.R]using hr
theorem Qlk{ρ:Name→Loc}{H:Heap}{M:Nat→Prop}{w:World}:∀{xs:List AV} {us:List Value},xs.all QeW=true→AV.Ts ρ H M w xs us→AV.Rs ρ H M w xs us
 |[],us,_,h=>by simp only[AV.Ts]at h;subst h;simp[AV.Rs]
 |x::xs,us,hf,h=>by
  simp only[AV.Ts]at h
  obtain⟨u,us',rfl,h3,h4⟩:=h
  simp only[List.all_cons,bae]at hf
  simp only[AV.Rs]
  exact⟨u,us',rfl,Qra hf.1 h3,h3,Qlk hf.2 h4⟩
theorem Qll{ρ:Name→Loc}{H:Heap}{M:Nat→Prop}{w:World}:∀{xs:List AV} {us:List Value},AV.Rs ρ H M w xs us→AV.Ts ρ H M w xs us
 |[],us,h=>by simp only[AV.Rs]at h;subst h;simp[AV.Ts]
 |x::xs,us,h=>by
  simp only[AV.Rs]at h
  obtain⟨u,us',rfl,h2,h3,h4⟩:=h
  simp only[AV.Ts]
  exact⟨u,us',rfl,h3,Qll h4⟩
theorem AV.Ts.append{ρ:Name→Loc}{H:Heap}{M:Nat→Prop}{w:World}:∀{xs ys:List AV} {us vs:List Value},AV.Ts ρ H M w xs us→AV.Ts ρ H M w ys vs→AV.Ts ρ H M w (xs++ys) (us++vs)
 |[],ys,us,vs,h,h'=>by simp only[AV.Ts]at h;subst h;simpa using h'
 |x::xs,ys,us,vs,h,h'=>by
  simp only[AV.Ts]at h
  obtain⟨u,us',rfl,h3,h4⟩:=h
  simp only[List.cons_append,AV.Ts]
  exact⟨u,us'++vs,rfl,h3,h4.append h'⟩
section
variable {P:Program} {o:Oper} {rd:List (Nat×AV)}
theorem OpOK.makeFunc{fn:Fn}{first captured:Array Operand}{fs cs:List AV}(ho:o.op=.makeFunc fn first captured)(h1:QeI rd first.toList=some fs)(h2:QeI rd captured.toList=some cs)(hf1:fs.all QeW=true)(hf2:cs.all QeW=true):OpOK P o ⟨rd,[],.clo fn fs cs,[],[]⟩:=
 OpOK.quiet fun Γ ρ M s a w hs hh=>⟨.func fn (first.map a.eval) (captured.map a.eval),by simp[execOp,ho,Instr.makeFunc],by
  simp only[AV.R]
  refine⟨_,_,rfl,?_,?_⟩
  ·rw[Array.toList_map];exact Qlk hf1 (QgQ hs hh h1)
  ·rw[Array.toList_map];exact Qlk hf2 (QgQ hs hh h2)⟩
theorem OpOK.callClo{f:FuncId}{x:Operand}{argOps:Array Operand}{ats:Array TypeId}{fs cs args:List AV}{pre h:List (Name×AO)}{v:AV}{nw:List Name}(ho:o.op=.call { callee:=.value x,args:=argOps,argTypes:=ats })(hx:Ql rd x=some (.clo (.func f) fs cs))(hf:callable P f=true)(hargs:QeI rd argOps.toList=some args)(hspec:XJ P f (fs++args++cs) pre v h)(hok:Qdh pre h nw v=true):OpOK P o ⟨rd,pre,v,h,nw⟩:=
 QiF (hrd:=rd) (fun Γ ρ M s a w hs hh=>by
  have hr:=Qm hs hh hx
  simp only[AV.R]at hr
  obtain⟨A,C,hu,hA,hC⟩:=hr
  refine⟨A.toList++argOps.toList.map a.eval++C.toList,((Qll hA).append (QgQ hs hh hargs)).append (Qll hC),?_⟩
  have e:(A.toList++argOps.toList.map a.eval++C.toList).toArray=A++argOps.map a.eval++C:=by
   rw[←Array.toList_map,←Array.toList_append,←Array.toList_append]
  rw[e]
  simp[execOp,ho,resolve,hu,Deferred.ofValue,invoke,QdZ hf]) hspec hok
theorem OpOK.callFv{f:FuncId}{x:Operand}{argOps:Array Operand}{ats:Array TypeId}{args:List AV}{pre h:List (Name×AO)}{v:AV}{nw:List Name}(ho:o.op=.call { callee:=.value x,args:=argOps,argTypes:=ats })(hx:Ql rd x=some (.p (.v (.func (.func f) #[] #[]))))(hf:callable P f=true)(hargs:QeI rd argOps.toList=some args)(hspec:XJ P f args pre v h)(hok:Qdh pre h nw v=true):OpOK P o ⟨rd,pre,v,h,nw⟩:=
 QiF (hrd:=rd) (fun Γ ρ M s a w hs hh=>by
  have hr:=Qm hs hh hx
  simp only[AV.R,PV.R]at hr
  refine⟨argOps.toList.map a.eval,QgQ hs hh hargs,?_⟩
  have e:(argOps.toList.map a.eval).toArray=argOps.map a.eval:=by rw[←Array.toList_map]
  rw[e]
  simp[execOp,ho,resolve,hr.1,Deferred.ofValue,invoke,QdZ hf]) hspec hok
theorem OpOK.indexArr{T e:TypeId}{x y:Operand}{n:Name}{k k' i es len:Nat}{kd:IntKind}{j:Int}(ho:o.op=.indexAddr T x y)(hT:P.underlying T=some (.array len e))(hz:Zv P e=some es)(hx:Ql rd x=some (.ref n k))(hy:Ql rd y=some (.p (.v (.int kd j))))(hj:j=(i:Int))(hi:i<len)(hk:k+i*es=k'){cells:List AV}:OpOK P o ⟨rd,[(n,.box cells)],.ref n k',[],[]⟩:=
 OpOK.quiet fun Γ ρ M s a w hs hh=>by
  have hr:=Qm hs hh hx
  simp only[AV.R]at hr
  obtain⟨b,hb,hu⟩:=hr.2 cells (hh.hp n _ (by simp))
  refine⟨.pointer (some ⟨b,k',none⟩),?_,by simp only[AV.R];exact⟨rfl,fun _ _=>⟨b,hb,rfl⟩⟩⟩
  subst hk
  simp[execOp,ho,hu,QcW hs hh hy,Instr.indexAt,Instr.sureAddr,asIntOf,run_underlying hT,hj,hi,run_sizeOf hz,ZB]
theorem QnA{f g:Nat→Option (Nat×Nat)}(h:∀i y,f i=some y→g i=some y):∀(l:List (Nat×Value)) (us us':Array Value),Instr.fill f us l=some us'→Instr.fill g us l=some us'
 |[],us,us',hf=>hf
 |(i,v)::r,us,us',hf=>by
  simp only[Instr.fill]at hf ⊢
  cases hi:f i with
  |none=>rw[hi]at hf;simp at hf
  |some y=>
   rw[hi]at hf
   rw[h i y hi]
   simp only at hf ⊢
   split at hf
   ·simp at hf
   ·rename_i hc
    rw[if_neg hc]
    exact QnA h r _ _ hf
def Qiv(n es:Nat):List (Nat×Nat):=(List.range n).map fun i=>(i*es,es)
theorem OpOK.buildArr{T e:TypeId}{n es:Nat}{parts:Array (Nat×Operand)}{zs cells:List AV}(ho:o.op=.build T parts)(hT:P.underlying T=some (.array n e))(hes:Zv P e=some es)(hz:Qe7 P T=some zs)(hc:putCells rd (Qiv n es) parts.toList zs=some cells):OpOK P o ⟨rd,[],.agg cells,[],[]⟩:=
 OpOK.quiet fun Γ ρ M s a w hs hh=>by
  obtain⟨i,z,hi,hz',hall,rfl⟩:=Um hz
  obtain⟨us,g1,g2⟩:=QgR hs hh parts.toList _ cells z.cells (Xu hall) hc
  refine⟨.agg us,?_,by simp only[AV.R];exact⟨us,rfl,g2⟩⟩
  have g3:=QnA (g:=fun i=>some (i*es,es)) (fun i y hy=>by
   unfold Qiv at hy
   rw[List.getElem?_map]at hy
   cases hr:(List.range n)[i]? with
   |none=>rw[hr]at hy;simp at hy
   |some j=>
    rw[hr]at hy
    have hj:j=i:=by
     have:=List.getElem?_range (show i<n from by
      have:=(List.getElem?_eq_some_iff.1 hr).1;simpa using this)
     rw[this]at hr;exact(Option.some.inj hr).symm
    subst hj;exact hy) _ _ _ g1
  have hparts:((parts.map fun(i,x)=>(i,a.eval x)):Array (Nat×Value)).toList=parts.toList.map fun p=>(p.1,a.eval p.2):=by simp
  simp only[execOp,ho,Instr.build,Sem.run_bind,Yz hi hz',Result.andThen_ok,run_underlying hT,run_sizeOf hes,hparts,g3]
  simp
def setB(w:World)(b:Nat)(x:Obj):World:={ w with heap:=w.heap.setIfInBounds b x }
def Ql0:Obj→Bool
 |.map _ _=>true
 |.stringIter _ _=>true
 |_=>false
theorem QqJ{w:World}{b:Nat}{x:Obj}(hx:Ql0 x=true)(h:w.heap[b]?=some x):(getObj b).run P w=.ok x w:=by
 cases x<;>simp[Ql0]at hx<;>simp[getObj,Sem.run,h]
theorem Qvs{w:World}{b:Nat}{x y:Obj}(hx:Ql0 x=true)(h:w.heap[b]?=some x):(setObj b y).run P w=.ok () (setB w b y):=by
 cases x<;>simp[Ql0]at hx<;>simp[setObj,Sem.run,h,setB]
theorem Ext.setB(w:World)(b:Nat)(x:Obj):Ext (fun c=>c=b) w (setB w b x):=
 ⟨by simp[AM.setB],fun c hc hne=>by
  show(w.heap.setIfInBounds b x)[c]?=_
  rw[Array.getElem?_setIfInBounds,if_neg (fun e=>hne e.symm)],rfl,rfl⟩
theorem Sim.setObj{Γ:Ctx}{ρ:Name→Loc}{M:Nat→Prop}{s:AS}{a:Act}{w:World}(hs:Sim Γ ρ M s a w){n:Name}{x y:Obj}(hn:s.heap n=some (.obj x)){b:Nat}(hb:(ρ n).base=some ⟨b,0,none⟩):
  Sim Γ (fun m=>if m=n then ρ n else ρ m) M ⟨s.slot,fun m=>if m=n then some (.obj y)else s.heap m⟩ a (setB w b y):=by
 obtain⟨b',g1,g2,g3⟩:=hs.objs n _ hn
 have e:b'=b:=by rw[g1]at hb;simpa using hb
 subst e
 have hblk:(ρ n).blk=some b':=by rw[g1];simp[Loc.blk]
 have he:=Ext.setB w b' y
 refine hs.update1 (he.weaken fun c _ hc=>⟨by rw[hblk,hc],by rw[hn];simp⟩) (fun _ hc=>hc) (fun _ hc=>.inl hc) (fun c hc=>Nat.lt_of_lt_of_le (hs.msize c hc) he.size)
  (fun o' ho'=>by rw[hn]at ho';cases ho';simp[stays]) (fun h0=>by rw[hn]at h0;simp at h0) ?_ (fun c hc=>.inl ⟨_,hn,hc⟩)
 refine⟨b',by simp[g1],g2,?_⟩
 show(w.heap.setIfInBounds b' y)[b']?=some y
 rw[Array.getElem?_setIfInBounds,if_pos rfl,if_pos (Array.getElem?_eq_some_iff.1 g3).1]
theorem Sim.mkObj{Γ:Ctx}{ρ:Name→Loc}{M:Nat→Prop}{s:AS}{a:Act}{w:World}(h:Sim Γ ρ M s a w){n:Name}(hn:s.heap n=none)(hf:s.free n)(x:Obj):
  Sim Γ (fun m=>if m=n then⟨some ⟨w.heap.size,0,none⟩,1⟩else ρ m) (fun b=>M b∨b=w.heap.size) ⟨s.slot,fun m=>if m=n then some (.obj x)else s.heap m⟩ a (w.alloc x):=by
 have he:=Ext.alloc w x
 refine h.update1 (he.weaken fun _ _ hb=>hb.elim) (fun b hb=>.inl hb) (fun b hb=>hb.imp id (fun e=>by omega)) (fun b hb=>?_) (fun o' ho'=>by rw[hn]at ho';simp at ho') (fun _=>hf) ?_ (fun b hb=>.inr ?_)
 ·rcases hb with hb|hb
  ·have:=h.msize b hb;simp;omega
  ·simp[hb]
 ·exact⟨w.heap.size,by simp,.inr rfl,YE w _⟩
 ·simp[Loc.blk]at hb;omega
def mkEs:Nat→List (ByteArray×Value)→List MapEntry
 |_,[]=>[]
 |i,(k,v)::r=>{ key:=.string k,val:=v,born:=i }::mkEs (i+1) r
def smap(es:List (ByteArray×Value)):Obj:=.map (mkEs 0 es).toArray es.length
def QnK(k:ByteArray):List (ByteArray×Value)→Nat→Option (Nat×Value)
 |[],_=>none
 |(k',v)::r,j=>if k=k' then some (j,v)else QnK k r (j+1)
def QhM(k:ByteArray):List (ByteArray×Value)→Option Value
 |[]=>none
 |(k',v)::r=>if k=k' then some v else QhM k r
theorem Qpk(k:ByteArray):∀(es:List (ByteArray×Value)) (j:Nat),(QnK k es j).map (·.2)=QhM k es
 |[],_=>rfl
 |(k',v)::r,j=>by
  unfold QnK QhM
  split
  ·rfl
  ·exact Qpk k r (j+1)
theorem Qsq(a b:ByteArray):(a == b)=decide (a=b):=by
 rw[beq_toListBytes];exact Qlt a b
theorem QnB(k:ByteArray):∀(es:List (ByteArray×Value)) (i j:Nat),Instr.findNow .string (.string k) (mkEs i es) j=some (QnK k es j)
 |[],_,_=>rfl
 |(k',v)::r,i,j=>by
  unfold mkEs Instr.findNow QnK
  simp only[Instr.sameNow,Qsq]
  by_cases h:k=k'
  ·simp[h]
  ·simp only[h,decide_false,if_false];exact QnB k r (i+1) (j+1)
theorem Qjm:∀(es:List (ByteArray×Value)) (i:Nat) (k:ByteArray) (v:Value),mkEs i (es++[(k,v)])=mkEs i es++[{ key:=.string k,val:=v,born:=i+es.length }]
 |[],i,k,v=>rfl
 |(k',v')::r,i,k,v=>by
  simp only[List.cons_append,mkEs,Qjm r (i+1) k v,List.length_cons]
  rw[show i+1+r.length=i+(r.length+1)by omega]
theorem UV{w:World}{b:Bool}{K:TypeId}{k:ByteArray}(hK:P.underlying K=some .string):(Instr.checkKey b 10000 K (.string k)).run P w=.ok () w:=by
 rw[show(10000:Nat)=9999+1 from rfl]
 generalize 9999=m
 unfold Instr.checkKey
 simp[run_underlying hK]
theorem QcN{w:World}{K:TypeId}{k:ByteArray}(hK:P.underlying K=some .string)(es:List (ByteArray×Value))(i:Nat):(Instr.findKey K (.string k) (mkEs i es)).run P w=.ok (QnK k es 0) w:=by
 simp[Instr.findKey,run_underlying hK,QnB]
theorem OpOK.makeMap{T:TypeId}{n:Name}(ho:o.op=.makeMap T none):OpOK P o ⟨rd,[],.oref true n,[(n,.obj (smap []))],[n]⟩:=
 OpOK.mk fun Γ ρ M s a w hs hh=>by
  obtain⟨hn,hf⟩:=hh.nw n (by simp)
  refine⟨.map (some w.heap.size),w.alloc (smap []),_,_,?_,hs.mkObj hn hf (smap []),?_⟩
  ·simp[execOp,ho,Instr.makeMap,smap,mkEs]
  ·simp only[AV.R];exact⟨rfl,fun _ _=>⟨w.heap.size,by simp,by simp⟩⟩
theorem OpOK.putS{T K E:TypeId}{x y z:Operand}{n:Name}{es es':List (ByteArray×Value)}{k:ByteArray}{v:Value}(hdst:o.dst=none)(ho:o.op=.mapUpdate T x y z∨o.op=.insert T x y z)(hT:P.underlying T=some (.map K E))(hK:P.underlying K=some .string)(hx:Ql rd x=some (.oref true n))(hy:Ql rd y=some (.p (.v (.string k))))(hz:Ql rd z=some (.p (.v v)))(hno:QhM k es=none)(he:es++[(k,v)]=es'):OpOK P o ⟨rd,[(n,.obj (smap es))],.any,[(n,.obj (smap es'))],[]⟩:=
 OpOK.wr hdst fun Γ ρ M s a w hs hh=>by
  subst he
  have hr:=Qm hs hh hx
  simp only[AV.R,if_true]at hr
  have hn:=hh.hp n _ (by simp:(n,AO.obj (smap es))∈_)
  obtain⟨b,hb,hu⟩:=hr.2 _ hn
  obtain⟨b',g1,g2,g3⟩:=hs.objs n _ hn
  have e:b'=b:=by rw[g1]at hb;simpa using hb
  subst e
  have hky:=Qm hs hh hy
  have hvz:=Qm hs hh hz
  simp only[AV.R,PV.R]at hky hvz
  have hl:QnK k es 0=none:=by
   have:=Qpk k es 0;rw[hno]at this;simpa using this
  have hrun:(Instr.mapUpdate T (a.eval x) (a.eval y) (a.eval z)).run P w=.ok () (setB w b' (smap (es++[(k,v)]))):=by
   rw[hu,hky.1,hvz.1]
   have h1:=QqJ (P:=P) (x:=smap es) rfl g3
   have h2:=Qvs (P:=P) (x:=smap es) (y:=smap (es++[(k,v)])) rfl g3
   simp only[smap]at h1 h2
   have h3:(Array.push (mkEs 0 es).toArray { key:=.string k,val:=v,born:=es.length })=(mkEs 0 (es++[(k,v)])).toArray:=by
    rw[Qjm];simp
   simp[Instr.mapUpdate,run_underlying hT,h1,UV hK,QcN hK,hl,h3]
   simpa [smap]using h2
  refine⟨_,_,_,?_,hs.setObj (y:=smap (es++[(k,v)])) hn hb⟩
  rcases ho with ho|ho<;>simp[execOp,ho,hrun]
def QrR(P:Program)(T:TypeId):Option Value:=match P.info? T with
 |some i=>i.zero
 |none=>none
theorem Qov{T:TypeId}{z:Value}(h:QrR P T=some z)(w:World):(zeroValue T).run P w=.ok z w:=by
 unfold QrR at h
 split at h
 ·rename_i i hi;exact Yz hi h w
 ·simp at h
theorem Qre{T K E:TypeId}{w:World}{b:Nat}{es:List (ByteArray×Value)}{k:ByteArray}{z:Value}{ok:Bool}(hT:P.underlying T=some (.map K E))(hK:P.underlying K=some .string)(hz:QrR P E=some z)(hb:w.heap[b]?=some (smap es)):(Instr.lookup T (.map (some b)) (.string k) ok).run P w=.ok (if ok then .tuple #[(QhM k es).getD z,.bool (QhM k es).isSome]else(QhM k es).getD z) w:=by
 have h1:=QqJ (P:=P) (x:=smap es) rfl hb
 simp only[smap]at h1
 have h2:=Qpk k es 0
 cases hl:QnK k es 0 with
 |none=>
  rw[hl]at h2
  simp only[Option.map_none]at h2
  simp[Instr.lookup,run_underlying hT,h1,UV hK,QcN hK,hl,Qov hz,←h2]
 |some p=>
  rw[hl]at h2
  simp only[Option.map_some]at h2
  simp[Instr.lookup,run_underlying hT,h1,UV hK,QcN hK,hl,Qov hz,←h2]
theorem OpOK.lookup{T K E:TypeId}{x y:Operand}{n:Name}{es:List (ByteArray×Value)}{k:ByteArray}{z r:Value}(ho:o.op=.lookup T x y false)(hT:P.underlying T=some (.map K E))(hK:P.underlying K=some .string)(hz:QrR P E=some z)(hx:Ql rd x=some (.oref true n))(hy:Ql rd y=some (.p (.v (.string k))))(hr:(QhM k es).getD z=r)(h1:r.oneCell'=true):OpOK P o ⟨rd,[(n,.obj (smap es))],.p (.v r),[],[]⟩:=
 OpOK.quiet fun Γ ρ M s a w hs hh=>by
  have hq:=Qm hs hh hx
  simp only[AV.R,if_true]at hq
  have hn:=hh.hp n _ (by simp:(n,AO.obj (smap es))∈_)
  obtain⟨b,hb,hu⟩:=hq.2 _ hn
  obtain⟨b',g1,g2,g3⟩:=hs.objs n _ hn
  have e:b'=b:=by rw[g1]at hb;simpa using hb
  subst e
  have hky:=Qm hs hh hy
  simp only[AV.R,PV.R]at hky
  have:=Qre (k:=k) (ok:=false) hT hK hz g3
  exact⟨r,by simp[execOp,ho,hu,hky.1,this,hr],by simp only[AV.R,PV.R];exact⟨trivial,h1⟩⟩
def bAt(t:ByteArray)(i:Nat):Nat:=(t[i]?.getD 0).toNat
theorem OpOK.indexS{T:TypeId}{x y:Operand}{t:ByteArray}{j:Int}{i:Nat}{k:IntKind}(ho:o.op=.index T x y)(hT:P.underlying T=some .string)(hx:Ql rd x=some (.p (.v (.string t))))(hy:Ql rd y=some (.p (.v (.int k j))))(hj:j=((i:Nat):Int))(hi:i<t.size):OpOK P o ⟨rd,[],.p (.v (.int .u8 ((bAt t i:Nat):Int))),[],[]⟩:=
 OpOK.quiet fun Γ ρ M s a w hs hh=>by
  have h1:=Qm hs hh hx
  have h2:=Qm hs hh hy
  simp only[AV.R,PV.R]at h1 h2
  refine⟨.int .u8 ((bAt t i:Nat):Int),?_,by simp only[AV.R,PV.R];exact⟨trivial,rfl⟩⟩
  subst hj
  have h3:t[i]?=some t[i]:=ByteArray.getElem?_lt' t i hi
  simp[execOp,ho,h1.1,h2.1,Instr.index,run_underlying hT,asIntOf,h3,bAt]
theorem OpOK.lenS{T:TypeId}{x:Operand}{ats:Array TypeId}{t:ByteArray}(ho:o.op=.call { callee:=.builtin .len,args:=#[x],argTypes:=ats })(hat:ats[0]?=some T)(hT:P.underlying T=some .string)(hx:Ql rd x=some (.p (.v (.string t)))):OpOK P o ⟨rd,[],.p (.v (.int .i64 ((t.size:Nat):Int))),[],[]⟩:=
 OpOK.quiet fun Γ ρ M s a w hs hh=>by
  have hr':=Qm hs hh hx
  simp only[AV.R,PV.R]at hr'
  refine⟨.int .i64 ((t.size:Nat):Int),?_,by simp only[AV.R,PV.R];exact⟨trivial,rfl⟩⟩
  simp[execOp,ho,resolve,invoke,builtin,Builtin.len_,hat,hr'.1,run_underlying hT,goInt]
theorem OpOK.addS{T T':TypeId}{x y:Operand}{p q r:ByteArray}(ho:o.op=.binOp .add T x y T')(hx:Ql rd x=some (.p (.v (.string p))))(hy:Ql rd y=some (.p (.v (.string q))))(hl:p.size+q.size≤9223372036854775807)(hr:p++q=r):
  OpOK P o ⟨rd,[],.p (.v (.string r)),[],[]⟩:=
 OpOK.bin ho hx hy (eqGuard_at_string ..) (fun w=>by
  subst hr
  have:¬IntKind.i64.max<((p.size+q.size:Nat):Int):=by rw[IntKind.max_i64];omega
  simp only[binOp,Op.stringOp]
  rw[if_neg this];rfl) rfl
def optB(rd:List (Nat×AV))(d:Nat):Option Operand→Option Int
 |none=>some d
 |some x=>match Ql rd x with
  |some (.p (.v (.int .i64 j)))=>some j
  |_=>none
theorem Qos{Γ:Ctx}{ρ:Name→Loc}{M:Nat→Prop}{s:AS}{a:Act}{w:World}{e:Eff}(hs:Sim Γ ρ M s a w)(hh:s.holds e){x:Option Operand}{d i y:Nat}{c:BoundsCode}(hb:optB e.rd d x=some ((i:Nat):Int))(hi:i≤y):
  (match x.map a.eval with|some v=>Instr.sliceBound v y c|none=>pure d).run P w=.ok i w:=by
 cases x with
 |none=>
  simp only[optB,Option.some.injEq]at hb
  have:d=i:=by omega
  subst this;rfl
 |some x=>
  simp only[optB]at hb
  split at hb
  ·rename_i j hx
   have hr:=Qm hs hh hx
   simp only[AV.R,PV.R]at hr
   simp only[Option.some.injEq]at hb
   subst hb
   simp[Option.map,hr.1,Instr.sliceBound,asIntOf,hi]
  ·simp at hb
theorem OpOK.upd{hp:List (Name×AO)}{v:AV}{n:Name}{ob:AO}(h:∀(Γ:Ctx) (ρ:Name→Loc) (M:Nat→Prop) (s:AS) (a:Act) (w:World),Sim Γ ρ M s a w→s.holds ⟨rd,hp,v,[(n,ob)],[]⟩→∃u w' ρ' M',(execOp a.eval o).run P w=.ok (.value u) w'∧
   Sim Γ ρ' M' ⟨s.slot,fun m=>if m=n then some ob else s.heap m⟩ a w'∧v.R ρ' (fun m=>if m=n then some ob else s.heap m) M' w' u):OpOK P o ⟨rd,hp,v,[(n,ob)],[]⟩:=by
 intro Γ ρ M s a w K Q hs hh hd hK
 obtain⟨u,w',ρ',M',h1,h2,h3⟩:=h Γ ρ M s a w hs hh
 unfold Oper.wp
 rw[h1,Oper.upon_value]
 refine hK ρ' M' _ w' ((h2.put hd (fun _=>h3)).congr (fun t=>rfl) (fun m=>?_))
 simp only[AS.run,AS.set,look]
 by_cases e:n=m
 ·subst e;simp
 ·simp[e,Ne.symm e]
end
/-
  The abstract machine, part Q: regions whose plain operations are reckoned, not written. No project text.
-/
abbrev Out:=List (Name×AO)×AV×List (Name×AO)×List Name
def Qa5(rd:List (Nat×AV))(x:Out):Eff:=⟨rd,x.1,x.2.1,x.2.2.1,x.2.2.2⟩
def rdo(ts:List (Nat×AV)):List Operand→List (Nat×AV)
 |[]=>[]
 |.tmp t::r=>match look t ts with
  |some v=>(t,v)::rdo ts r
  |none=>rdo ts r
 |.const _::r=>rdo ts r
 |.global _::r=>rdo ts r
 |.func _::r=>rdo ts r
section
variable (P:Program) (rd:List (Nat×AV)) (hs:List (Name×AO))
def Qwm(c x y:Operand):Option Out:=match Ql rd c with
 |some (.p (.v (.bool true)))=>(Ql rd x).map fun v=>([],v,[],[])
 |some (.p (.v (.bool false)))=>(Ql rd y).map fun v=>([],v,[],[])
 |_=>none
def QrX(d:Option Nat)(T:TypeId):Option Out:=match d,Qe7 P T with
 |some d,some cs=>some ([],.ref (1000+d) 0,[(1000+d,.box cs)],[1000+d])
 |_,_=>none
def aBox(d:Option Nat)(x:Operand):Option Out:=match d,(Ql rd x).bind ZK with
 |some d,some cs=>some ([],.ref (1000+d) 0,[(1000+d,.box cs)],[1000+d])
 |_,_=>none
def QrZ(T:TypeId)(parts:Array (Nat×Operand)):Option Out:=match QmL P T,Qe7 P T with
 |some pl,some zs=>(putCells rd pl parts.toList zs).map fun cells=>([],.agg cells,[],[])
 |_,_=>none
def Qe9(T:TypeId)(len:Nat)(parts:Array (Nat×Operand)):Option Out:=match Vr P T with
 |some e=>match Zv P e,Qa0 P e with
  |some es,some zr=>if Nat.ble 1 es && Nat.beq zr.length es && Nat.ble (len*es) 16777216 then(QbI rd es parts.toList (List.replicate len zr)).map fun rows=>([],.p (.sl true es rows),[],[])else none
  |_,_=>none
 |none=>none
def Qwl(T:TypeId)(x:Operand):Option Out:=match Ql rd x with
 |some (.ref n k)=>match look n hs with
  |some (.box cells)=>if aggT P T then
    match Zv P T with
    |some z=>if Nat.beq ((cells.drop k).take z).length z then some ([(n,.box cells)],.agg ((cells.drop k).take z),[],[])else none
    |none=>none
   else if Qa7 P T then(cells[k]?).map fun c=>([(n,.box cells)],c,[],[])else none
  |_=>none
 |some (.eptr cells)=>if aggT P T then
   match Zv P T with
   |some z=>if Nat.beq (cells.take z).length z then some ([],.agg (pcells (cells.take z)),[],[])else none
   |none=>none
  else if Qa7 P T then(cells[0]?).map fun c=>([],.p c,[],[])else none
 |_=>none
def Qr3(d:Option Nat)(T:TypeId)(x y:Operand):Option Out:=match d,Ql rd x,(Ql rd y).bind ZK with
 |none,some (.ref n k),some vs=>match look n hs with
  |some (.box cells)=>match Zv P T with
   |some z=>if Nat.beq z vs.length && Nat.ble (k+vs.length) cells.length then some ([(n,.box cells)],.any,[(n,.box (Qv cells k vs))],[])else none
   |none=>none
  |_=>none
 |_,_,_=>none
def QgE(S:TypeId)(x:Operand)(i:Nat):Option Out:=match Ql rd x,Qad P S i with
 |some (.ref n k),some fo=>match look n hs with
  |some (.box cells)=>some ([(n,.box cells)],.ref n (k+fo),[],[])
  |_=>none
 |some (.eptr cells),some fo=>some ([],.eptr (cells.drop fo),[],[])
 |_,_=>none
def Qiq(x:Operand):Option Out:=match Ql rd x with
 |some (.ref n k)=>match look n hs with
  |some (.box cells)=>some ([(n,.box cells)],.ref n k,[],[])
  |_=>none
 |some (.eptr cells)=>some ([],.eptr cells,[],[])
 |_=>none
def cmpI:BinOp→Int→Int→Option Bool
 |.lss,a,b=>some (decide (a<b))
 |.leq,a,b=>some (decide (a≤b))
 |.gtr,a,b=>some (decide (b<a))
 |.geq,a,b=>some (decide (b≤a))
 |.eql,a,b=>some (decide (a=b))
 |.neq,a,b=>some (decide (a≠b))
 |_,_,_=>none
def cmpS:BinOp→ByteArray→ByteArray→Option Bool
 |.eql,a,b=>some (decide (a=b))
 |.neq,a,b=>some (decide (a≠b))
 |_,_,_=>none
def kEq:IntKind→IntKind→Bool
 |.i64,.i64=>true
 |.i32,.i32=>true
 |.i16,.i16=>true
 |.i8,.i8=>true
 |.u64,.u64=>true
 |.u32,.u32=>true
 |.u16,.u16=>true
 |.u8,.u8=>true
 |_,_=>false
theorem QcY{k k':IntKind}(h:kEq k k'=true):k'=k:=by
 cases k<;>cases k'<;>first|rfl|simp[kEq]at h
def aBin(op:BinOp)(x y:Operand):Option Out:=match Ql rd x,Ql rd y with
 |some (.p (.v (.int k a))),some (.p (.v (.int k' b)))=>if kEq k k' then(cmpI op a b).map fun q=>([],.p (.v (.bool q)),[],[])else none
 |some (.p (.v (.string a))),some (.p (.v (.string b)))=>(cmpS op a b).map fun q=>([],.p (.v (.bool q)),[],[])
 |_,_=>none
def aUn(op:UnOp)(x:Operand):Option Out:=match op,Ql rd x with
 |.not,some (.p (.v (.bool b)))=>some ([],.p (.v (.bool (!b))),[],[])
 |_,_=>none
def Qr1(T:TypeId)(x:Operand)(i:Nat):Option Out:=match Ql rd x,P.underlying T with
 |some (.agg cells),some (.struct fs)=>match fs[i]? with
  |some f=>if aggT P f.type then
    match Zv P f.type with
    |some z=>some ([],.agg ((cells.drop f.offset).take z),[],[])
    |none=>none
   else if Qa7 P f.type then(cells[f.offset]?).map fun c=>([],c,[],[])else none
  |none=>none
 |_,_=>none
def Qlm(x:Operand)(i:Nat):Option Out:=match Ql rd x with
 |some (.tup vs)=>(vs[i]?).map fun v=>([],v,[],[])
 |_=>none
def Qwk(fn:Fn)(a b:Array Operand):Option Out:=match QeI rd a.toList,QeI rd b.toList with
 |some fs,some cs=>if fs.all QeW && cs.all QeW then some ([],.clo fn fs cs,[],[])else none
 |_,_=>none
def auto(o:Oper):Option Out:=match o.op with
 |.move x=>(Ql rd x).map fun v=>([],v,[],[])
 |.assign x=>(Ql rd x).map fun v=>([],v,[],[])
 |.pick c x y=>Qwm rd c x y
 |.alloc T=>QrX P o.dst T
 |.box _ x=>aBox rd o.dst x
 |.build T parts=>QrZ P rd T parts
 |.buildSlice T len parts=>Qe9 P rd T len parts
 |.load T x=>Qwl P rd hs T x
 |.store T x y=>Qr3 P rd hs o.dst T x y
 |.fieldAddr S x i=>QgE P rd hs S x i
 |.nilCheck x=>Qiq rd hs x
 |.binOp op _ x y _=>aBin rd op x y
 |.unOp op _ x=>aUn rd op x
 |.field T x i=>Qr1 P rd T x i
 |.extract x i=>Qlm rd x i
 |.makeFunc fn a b=>Qwk rd fn a b
 |_=>none
end
theorem map_some{α β:Type}{x:Option α}{f:α→β}{y:β}(h:x.map f=some y):∃v,x=some v∧f v=y:=by
 cases x with
 |none=>simp at h
 |some v=>exact⟨v,rfl,by simpa using h⟩
theorem Vx{α β:Type}{x:Option α}{f:α→Option β}{y:β}(h:x.bind f=some y):∃v,x=some v∧f v=some y:=by
 cases x with
 |none=>simp at h
 |some v=>exact⟨v,rfl,by simpa using h⟩
section
variable {P:Program} {o:Oper} {rd:List (Nat×AV)} {hs:List (Name×AO)} {e:Out}
theorem Qus{c x y:Operand}(ho:o.op=.pick c x y)(h:Qwm rd c x y=some e):OpOK P o (Qa5 rd e):=by
 unfold Qwm at h
 split at h
 ·rename_i hc;obtain⟨v,hv,rfl⟩:=map_some h;exact OpOK.pickT ho hc hv
 ·rename_i hc;obtain⟨v,hv,rfl⟩:=map_some h;exact OpOK.pickF ho hc hv
 ·simp at h
theorem QrY{T:TypeId}(ho:o.op=.alloc T)(h:QrX P o.dst T=some e):OpOK P o (Qa5 rd e):=by
 unfold QrX at h
 split at h
 ·rename_i d cs hd hz;cases h;exact OpOK.alloc ho hz
 ·simp at h
theorem Qwj{T:TypeId}{x:Operand}(ho:o.op=.box T x)(h:aBox rd o.dst x=some e):OpOK P o (Qa5 rd e):=by
 unfold aBox at h
 split at h
 ·rename_i d cs hd hx;cases h;obtain⟨v,hv,hc⟩:=Vx hx;exact OpOK.box ho hv hc
 ·simp at h
theorem Qr0{T:TypeId}{parts:Array (Nat×Operand)}(ho:o.op=.build T parts)(h:QrZ P rd T parts=some e):OpOK P o (Qa5 rd e):=by
 unfold QrZ at h
 split at h
 ·rename_i pl zs h1 h2;obtain⟨v,hv,rfl⟩:=map_some h;exact OpOK.build ho h1 h2 hv
 ·simp at h
theorem Qj9{T:TypeId}{len:Nat}{parts:Array (Nat×Operand)}(ho:o.op=.buildSlice T len parts)(h:Qe9 P rd T len parts=some e):OpOK P o (Qa5 rd e):=by
 unfold Qe9 at h
 split at h
 ·rename_i e' he
  split at h
  ·rename_i es zr h1 h2
   split at h
   ·rename_i hb
    simp only[bae]at hb
    obtain⟨v,hv,rfl⟩:=map_some h
    exact OpOK.buildSlice ho he h1 hb.1.1 h2 (nbe hb.1.2) hb.2 hv
   ·simp at h
  ·simp at h
 ·simp at h
theorem Qur{T:TypeId}{x:Operand}(ho:o.op=.load T x)(h:Qwl P rd hs T x=some e):OpOK P o (Qa5 rd e):=by
 unfold Qwl at h
 split at h
 ·rename_i n k hx
  split at h
  ·rename_i cells hc
   split at h
   ·rename_i hT
    split at h
    ·rename_i z hz
     split at h
     ·rename_i hl;cases h;exact OpOK.loadBoxAgg ho hx hT hz rfl (nbe hl)
     ·simp at h
    ·simp at h
   ·split at h
    ·rename_i hT;obtain⟨v,hv,rfl⟩:=map_some h;exact OpOK.loadBox ho hx hT hv
    ·simp at h
  ·simp at h
 ·rename_i cells hx
  split at h
  ·rename_i hT
   split at h
   ·rename_i z hz
    split at h
    ·rename_i hl;cases h;exact OpOK.loadPtrAgg ho hx hT hz rfl (nbe hl) rfl
    ·simp at h
   ·simp at h
  ·split at h
   ·rename_i hT;obtain⟨v,hv,rfl⟩:=map_some h;exact OpOK.loadPtr ho hx hT hv
   ·simp at h
 ·simp at h
theorem Qr4{T:TypeId}{x y:Operand}(ho:o.op=.store T x y)(h:Qr3 P rd hs o.dst T x y=some e):OpOK P o (Qa5 rd e):=by
 unfold Qr3 at h
 split at h
 ·rename_i n k vs hd hx hy
  split at h
  ·rename_i cells hc
   split at h
   ·rename_i z hz
    split at h
    ·rename_i hl
     simp only[bae]at hl
     cases h
     obtain⟨v,hv,hvs⟩:=Vx hy
     exact OpOK.storeBox hd ho hx hv hvs (by rw[hz,nbe hl.1]) hl.2 rfl
    ·simp at h
   ·simp at h
  ·simp at h
 ·simp at h
theorem Qln{S:TypeId}{x:Operand}{i:Nat}(ho:o.op=.fieldAddr S x i)(h:QgE P rd hs S x i=some e):OpOK P o (Qa5 rd e):=by
 unfold QgE at h
 split at h
 ·rename_i n k fo hx hf
  split at h
  ·rename_i cells hc;cases h;exact OpOK.fieldRef ho hx hf rfl
  ·simp at h
 ·rename_i cells fo hx hf;cases h;exact OpOK.fieldPtr ho hx hf rfl
 ·simp at h
theorem QmW{x:Operand}(ho:o.op=.nilCheck x)(h:Qiq rd hs x=some e):OpOK P o (Qa5 rd e):=by
 unfold Qiq at h
 split at h
 ·rename_i n k hx
  split at h
  ·rename_i cells hc;cases h;exact OpOK.nilCheckRef ho hx
  ·simp at h
 ·rename_i cells hx;cases h;exact OpOK.nilCheckPtr ho hx
 ·simp at h
theorem Qwi{op:BinOp}{T T':TypeId}{x y:Operand}(ho:o.op=.binOp op T x y T')(h:aBin rd op x y=some e):OpOK P o (Qa5 rd e):=by
 unfold aBin at h
 split at h
 ·rename_i k a k' b hx hy
  split at h
  ·rename_i hk
   have:=QcY hk;subst this
   obtain⟨v,hv,rfl⟩:=map_some h
   cases op<;>simp only[cmpI,Option.some.injEq,reduceCtorEq]at hv
   ·exact OpOK.eqlI ho hx hy hv
   ·exact OpOK.neqI ho hx hy hv
   ·exact OpOK.lss ho hx hy hv
   ·exact OpOK.leq ho hx hy hv
   ·exact OpOK.gtr ho hx hy hv
   ·exact OpOK.geq ho hx hy hv
  ·simp at h
 ·rename_i a b hx hy
  obtain⟨v,hv,rfl⟩:=map_some h
  cases op<;>simp only[cmpS,Option.some.injEq,reduceCtorEq]at hv
  ·exact OpOK.eqlS ho hx hy hv
  ·exact OpOK.neqS ho hx hy hv
 ·simp at h
theorem QxQ{op:UnOp}{T:TypeId}{x:Operand}(ho:o.op=.unOp op T x)(h:aUn rd op x=some e):OpOK P o (Qa5 rd e):=by
 unfold aUn at h
 split at h
 ·rename_i b hx;cases h;exact OpOK.not ho hx rfl
 ·simp at h
theorem Qr2{T:TypeId}{x:Operand}{i:Nat}(ho:o.op=.field T x i)(h:Qr1 P rd T x i=some e):OpOK P o (Qa5 rd e):=by
 unfold Qr1 at h
 split at h
 ·rename_i cells fs hx hu
  split at h
  ·rename_i f hf
   split at h
   ·rename_i hT
    split at h
    ·rename_i z hz;cases h;exact OpOK.fieldAgg (off:=0) (T':=0) ho hx hu hf hT hz rfl
    ·simp at h
   ·split at h
    ·rename_i hT;obtain⟨v,hv,rfl⟩:=map_some h;exact OpOK.field ho hx hu hf hT hv
    ·simp at h
  ·simp at h
 ·simp at h
theorem QoW{x:Operand}{i:Nat}(ho:o.op=.extract x i)(h:Qlm rd x i=some e):OpOK P o (Qa5 rd e):=by
 unfold Qlm at h
 split at h
 ·rename_i vs hx;obtain⟨v,hv,rfl⟩:=map_some h;exact OpOK.extract ho hx hv
 ·simp at h
theorem Quq{fn:Fn}{a b:Array Operand}(ho:o.op=.makeFunc fn a b)(h:Qwk rd fn a b=some e):OpOK P o (Qa5 rd e):=by
 unfold Qwk at h
 split at h
 ·rename_i fs cs h1 h2
  split at h
  ·rename_i hf;simp only[bae]at hf;cases h;exact OpOK.makeFunc ho h1 h2 hf.1 hf.2
  ·simp at h
 ·simp at h
theorem QoY(h:auto P rd hs o=some e):OpOK P o (Qa5 rd e):=by
 unfold auto at h
 split at h
 ·rename_i x ho;obtain⟨v,hv,rfl⟩:=map_some h;exact OpOK.move ho hv
 ·rename_i x ho;obtain⟨v,hv,rfl⟩:=map_some h;exact OpOK.assign ho hv
 ·rename_i ho;exact Qus ho h
 ·rename_i ho;exact QrY ho h
 ·rename_i ho;exact Qwj ho h
 ·rename_i ho;exact Qr0 ho h
 ·rename_i ho;exact Qj9 ho h
 ·rename_i ho;exact Qur ho h
 ·rename_i ho;exact Qr4 ho h
 ·rename_i ho;exact Qln ho h
 ·rename_i ho;exact QmW ho h
 ·rename_i ho;exact Qwi ho h
 ·rename_i ho;exact QxQ ho h
 ·rename_i ho;exact Qr2 ho h
 ·rename_i ho;exact QoW ho h
 ·rename_i ho;exact Quq ho h
 ·simp at h
end
inductive Item where
 |a
 |m (d:Option Nat) (e:Eff)
def putD(d:Option Nat)(v:AV)(ts:List (Nat×AV)):List (Nat×AV):=match d with
 |some d=>(d,v)::ts
 |none=>ts
def rowA(P:Program)(ops:Array Oper)(i:Nat)(ts:List (Nat×AV))(hs:List (Name×AO)):Option Row:=match ops[i]? with
 |none=>none
 |some o=>match o.guard with
  |none=>(auto P (rdo ts o.op.operands.toList) hs o).map fun x=>(o.dst,Qa5 (rdo ts o.op.operands.toList) x)
  |some (j,b)=>match (ops[j]?).bind (·.dst)with
   |none=>none
   |some g=>match look g ts with
    |some (.p (.v (.bool q)))=>match q,b with
     |true,true=>(auto P ((g,.p (.v (.bool true)))::rdo ts o.op.operands.toList) hs o).map fun x=>(o.dst,Qa5 ((g,.p (.v (.bool true)))::rdo ts o.op.operands.toList) x)
     |false,false=>(auto P ((g,.p (.v (.bool false)))::rdo ts o.op.operands.toList) hs o).map fun x=>(o.dst,Qa5 ((g,.p (.v (.bool false)))::rdo ts o.op.operands.toList) x)
     |true,false=>some (o.dst,⟨[(g,.p (.v (.bool true)))],[],.tup [],[],[]⟩)
     |false,true=>some (o.dst,⟨[(g,.p (.v (.bool false)))],[],.tup [],[],[]⟩)
    |some (.tup [])=>some (o.dst,⟨[(g,.tup [])],[],.tup [],[],[]⟩)
    |_=>none
theorem Qxr{P:Program}{ops:Array Oper}{i:Nat}{ts:List (Nat×AV)}{hs:List (Name×AO)}{r:Row}(h:rowA P ops i ts hs=some r):Zs P ops i r.1 r.2:=by
 unfold rowA at h
 split at h
 ·simp at h
 ·rename_i o hi
  split at h
  ·rename_i hg;obtain⟨x,hx,rfl⟩:=map_some h;exact Zs.plain hi hg (QoY hx)
  ·rename_i j b hg
   split at h
   ·simp at h
   ·rename_i g hj0
    obtain⟨oj,hj,hjd⟩:=Vx hj0
    split at h
    ·split at h
     ·obtain⟨x,hx,rfl⟩:=map_some h;exact Zs.guarded hi hg hj hjd (by simp[Qa5]) (QoY hx)
     ·obtain⟨x,hx,rfl⟩:=map_some h;exact Zs.guarded hi hg hj hjd (by simp[Qa5]) (QoY hx)
     ·cases h;exact Zs.k hi rfl hg hj hjd rfl
     ·cases h;exact Zs.k hi rfl hg hj hjd rfl
    ·cases h;exact Zs.skipped2 hi hg hj hjd
    ·simp at h
def Man(P:Program)(ops:Array Oper):Nat→List Item→Prop
 |_,[]=>True
 |i,.a::r=>Man P ops (i+1) r
 |i,.m d e::r=>Zs P ops i d e∧Man P ops (i+1) r
section
variable {P:Program} {Γ:Ctx} {s:AS} {Q:Exit→AS→Prop}
def aa:Nat→List Item
 |0=>[]
 |n+1=>.a::aa n
theorem Man.aa{ops:Array Oper}:∀(n i:Nat),Man P ops i (aa n)
 |0,_=>trivial
 |n+1,i=>Man.aa n (i+1)
end
/-
  The structs of the program, as plain data; their cells; kinds of elements. Written by wip/gen/bdata.py. No project text.
-/
open Go
namespace D
structure Arr3Int where
 a0:Int
 a1:Int
 a2:Int
 deriving DecidableEq
instance:Inhabited Arr3Int:=⟨⟨default,default,default⟩⟩
abbrev Arr3Int.cells(x:Arr3Int):List PV:=[.v (.int .i64 x.a0),.v (.int .i64 x.a1),.v (.int .i64 x.a2)]
structure YearRule where
 From:Int
 To:Int
 Month:Int
 Week:Int
 Weekday:Int
 Second:Int
 Offset:Int
 deriving DecidableEq
instance:Inhabited YearRule:=⟨⟨default,default,default,default,default,default,default⟩⟩
abbrev YearRule.cells(x:YearRule):List PV:=[.v (.int .i64 x.From),.v (.int .i64 x.To),.v (.int .i64 x.Month),.v (.int .i64 x.Week),.v (.int .i64 x.Weekday),.v (.int .i64 x.Second),.v (.int .i64 x.Offset)]
structure Zone where
 Name:ByteArray
 Offset:Int
 Rules:List D.YearRule
 deriving DecidableEq
instance:Inhabited Zone:=⟨⟨default,default,default⟩⟩
abbrev Zone.cells(x:Zone):List PV:=[.v (.string x.Name),.v (.int .i64 x.Offset),.sl false 7 (x.Rules.map D.YearRule.cells)]
structure Window where
 From:Int
 To:Int
 deriving DecidableEq
instance:Inhabited Window:=⟨⟨default,default⟩⟩
abbrev Window.cells(x:Window):List PV:=[.v (.int .i64 x.From),.v (.int .i64 x.To)]
structure Person where
 Name:ByteArray
 Zone:Int
 Quiet:List D.Window
 MaxWeek:Int
 MinRest:Int
 Consent:Bool
 deriving DecidableEq
instance:Inhabited Person:=⟨⟨default,default,default,default,default,default⟩⟩
abbrev Person.cells(x:Person):List PV:=[.v (.string x.Name),.v (.int .i64 x.Zone),.sl false 2 (x.Quiet.map D.Window.cells),.v (.int .i64 x.MaxWeek),.v (.int .i64 x.MinRest),.v (.bool x.Consent)]
structure Calendar where
 Name:ByteArray
 Zone:Int
 Days:List Int
 deriving DecidableEq
instance:Inhabited Calendar:=⟨⟨default,default,default⟩⟩
abbrev Calendar.cells(x:Calendar):List PV:=[.v (.string x.Name),.v (.int .i64 x.Zone),.sl false 1 (x.Days.map D.cInt)]
structure Local where
 Day:Int
 Second:Int
 deriving DecidableEq
instance:Inhabited Local:=⟨⟨default,default⟩⟩
abbrev Local.cells(x:Local):List PV:=[.v (.int .i64 x.Day),.v (.int .i64 x.Second)]
structure Layer where
 Name:ByteArray
 Zone:Int
 Start:D.Local
 Unit:Int
 Every:Int
 Members:List Int
 Windows:List D.Window
 Calendar:Int
 Mode:Int
 deriving DecidableEq
instance:Inhabited Layer:=⟨⟨default,default,default,default,default,default,default,default,default⟩⟩
abbrev Layer.cells(x:Layer):List PV:=[.v (.string x.Name),.v (.int .i64 x.Zone),.v (.int .i64 x.Start.Day),.v (.int .i64 x.Start.Second),.v (.int .i64 x.Unit),.v (.int .i64 x.Every),.sl false 1 (x.Members.map D.cInt),.sl false 2 (x.Windows.map D.Window.cells),.v (.int .i64 x.Calendar),.v (.int .i64 x.Mode)]
structure Edit where
 Kind:Int
 A:Int
 B:Int
 From:Int
 To:Int
 deriving DecidableEq
instance:Inhabited Edit:=⟨⟨default,default,default,default,default⟩⟩
abbrev Edit.cells(x:Edit):List PV:=[.v (.int .i64 x.Kind),.v (.int .i64 x.A),.v (.int .i64 x.B),.v (.int .i64 x.From),.v (.int .i64 x.To)]
structure Schedule where
 Name:ByteArray
 Layers:List D.Layer
 Edits:List D.Edit
 deriving DecidableEq
instance:Inhabited Schedule:=⟨⟨default,default,default⟩⟩
abbrev Schedule.cells(x:Schedule):List PV:=[.v (.string x.Name),.sl false 10 (x.Layers.map D.Layer.cells),.sl false 5 (x.Edits.map D.Edit.cells)]
structure Config where
 Zones:List D.Zone
 People:List D.Person
 Calendars:List D.Calendar
 Schedules:List D.Schedule
 deriving DecidableEq
instance:Inhabited Config:=⟨⟨default,default,default,default⟩⟩
abbrev Config.cells(x:Config):List PV:=[.sl false 3 (x.Zones.map D.Zone.cells),.sl false 6 (x.People.map D.Person.cells),.sl false 3 (x.Calendars.map D.Calendar.cells),.sl false 3 (x.Schedules.map D.Schedule.cells)]
structure Team where
 Name:ByteArray
 Members:List Int
 deriving DecidableEq
instance:Inhabited Team:=⟨⟨default,default⟩⟩
abbrev Team.cells(x:Team):List PV:=[.v (.string x.Name),.sl false 1 (x.Members.map D.cInt)]
structure Target where
 Kind:Int
 Index:Int
 deriving DecidableEq
instance:Inhabited Target:=⟨⟨default,default⟩⟩
abbrev Target.cells(x:Target):List PV:=[.v (.int .i64 x.Kind),.v (.int .i64 x.Index)]
structure PolicyStep where
 Wait:Int
 Urgent:Bool
 Targets:List D.Target
 deriving DecidableEq
instance:Inhabited PolicyStep:=⟨⟨default,default,default⟩⟩
abbrev PolicyStep.cells(x:PolicyStep):List PV:=[.v (.int .i64 x.Wait),.v (.bool x.Urgent),.sl false 2 (x.Targets.map D.Target.cells)]
structure Policy where
 Name:ByteArray
 Steps:List D.PolicyStep
 Repeat:Int
 deriving DecidableEq
instance:Inhabited Policy:=⟨⟨default,default,default⟩⟩
abbrev Policy.cells(x:Policy):List PV:=[.v (.string x.Name),.sl false 3 (x.Steps.map D.PolicyStep.cells),.v (.int .i64 x.Repeat)]
structure Book where
 Teams:List D.Team
 Policies:List D.Policy
 deriving DecidableEq
instance:Inhabited Book:=⟨⟨default,default⟩⟩
abbrev Book.cells(x:Book):List PV:=[.sl false 2 (x.Teams.map D.Team.cells),.sl false 3 (x.Policies.map D.Policy.cells)]
structure Start where
 K:Int
 At:Int
 People:List Int
 deriving DecidableEq
instance:Inhabited Start:=⟨⟨default,default,default⟩⟩
abbrev Start.cells(x:Start):List PV:=[.v (.int .i64 x.K),.v (.int .i64 x.At),.sl false 1 (x.People.map D.cInt)]
structure Page where
 ID:Int
 Policy:Int
 Start:Int
 Next:Int
 Due:Int
 State:Int
 By:Int
 Until:Int
 Last:Int
 Snoozes:Int
 Hands:Int
 Starts:List D.Start
 Declined:List Int
 Seen:List Int
 deriving DecidableEq
instance:Inhabited Page:=⟨⟨default,default,default,default,default,default,default,default,default,default,default,default,default,default⟩⟩
abbrev Page.cells(x:Page):List PV:=[.v (.int .i64 x.ID),.v (.int .i64 x.Policy),.v (.int .i64 x.Start),.v (.int .i64 x.Next),.v (.int .i64 x.Due),.v (.int .i64 x.State),.v (.int .i64 x.By),.v (.int .i64 x.Until),.v (.int .i64 x.Last),.v (.int .i64 x.Snoozes),.v (.int .i64 x.Hands),.sl false 3 (x.Starts.map D.Start.cells),.sl false 1 (x.Declined.map D.cInt),.sl false 1 (x.Seen.map D.cInt)]
structure Call where
 Page:Int
 K:Int
 At:Int
 Person:Int
 Fence:Int
 deriving DecidableEq
instance:Inhabited Call:=⟨⟨default,default,default,default,default⟩⟩
abbrev Call.cells(x:Call):List PV:=[.v (.int .i64 x.Page),.v (.int .i64 x.K),.v (.int .i64 x.At),.v (.int .i64 x.Person),.v (.int .i64 x.Fence)]
structure Ledger where
 Now:Int
 Config:D.Config
 Book:D.Book
 Pages:List D.Page
 Owner:Int
 Fence:Int
 Seen:List Int
 Calls:List D.Call
 deriving DecidableEq
instance:Inhabited Ledger:=⟨⟨default,default,default,default,default,default,default,default⟩⟩
abbrev Ledger.cells(x:Ledger):List PV:=[.v (.int .i64 x.Now),.sl false 3 (x.Config.Zones.map D.Zone.cells),.sl false 6 (x.Config.People.map D.Person.cells),.sl false 3 (x.Config.Calendars.map D.Calendar.cells),.sl false 3 (x.Config.Schedules.map D.Schedule.cells),.sl false 2 (x.Book.Teams.map D.Team.cells),.sl false 3 (x.Book.Policies.map D.Policy.cells),.sl false 14 (x.Pages.map D.Page.cells),.v (.int .i64 x.Owner),.v (.int .i64 x.Fence),.sl false 1 (x.Seen.map D.cInt),.sl false 5 (x.Calls.map D.Call.cells)]
structure Answer where
 ID:Int
 Page:Int
 Person:Int
 Kind:Int
 Arg:Int
 At:Int
 deriving DecidableEq
instance:Inhabited Answer:=⟨⟨default,default,default,default,default,default⟩⟩
abbrev Answer.cells(x:Answer):List PV:=[.v (.int .i64 x.ID),.v (.int .i64 x.Page),.v (.int .i64 x.Person),.v (.int .i64 x.Kind),.v (.int .i64 x.Arg),.v (.int .i64 x.At)]
structure Op where
 ID:Int
 Kind:Int
 Region:Int
 Fence:Int
 At:Int
 Page:Int
 K:Int
 Policy:Int
 Schedule:Int
 Answer:D.Answer
 Edit:D.Edit
 deriving DecidableEq
instance:Inhabited Op:=⟨⟨default,default,default,default,default,default,default,default,default,default,default⟩⟩
abbrev Op.cells(x:Op):List PV:=[.v (.int .i64 x.ID),.v (.int .i64 x.Kind),.v (.int .i64 x.Region),.v (.int .i64 x.Fence),.v (.int .i64 x.At),.v (.int .i64 x.Page),.v (.int .i64 x.K),.v (.int .i64 x.Policy),.v (.int .i64 x.Schedule),.v (.int .i64 x.Answer.ID),.v (.int .i64 x.Answer.Page),.v (.int .i64 x.Answer.Person),.v (.int .i64 x.Answer.Kind),.v (.int .i64 x.Answer.Arg),.v (.int .i64 x.Answer.At),.v (.int .i64 x.Edit.Kind),.v (.int .i64 x.Edit.A),.v (.int .i64 x.Edit.B),.v (.int .i64 x.Edit.From),.v (.int .i64 x.Edit.To)]
structure Contact where
 Page:Int
 Step:Int
 Person:Int
 Start:Int
 Sent:Int
 Reached:Int
 deriving DecidableEq
instance:Inhabited Contact:=⟨⟨default,default,default,default,default,default⟩⟩
abbrev Contact.cells(x:Contact):List PV:=[.v (.int .i64 x.Page),.v (.int .i64 x.Step),.v (.int .i64 x.Person),.v (.int .i64 x.Start),.v (.int .i64 x.Sent),.v (.int .i64 x.Reached)]
structure Dice where
 L:List Int
 At:Int
 deriving DecidableEq
instance:Inhabited Dice:=⟨⟨default,default⟩⟩
abbrev Dice.cells(x:Dice):List PV:=[.sl false 1 (x.L.map D.cInt),.v (.int .i64 x.At)]
structure fence where
 region:Int
 number:Int
 deriving DecidableEq
instance:Inhabited fence:=⟨⟨default,default⟩⟩
abbrev fence.cells(x:fence):List PV:=[.v (.int .i64 x.region),.v (.int .i64 x.number)]
structure worker where
 Ledger:D.Ledger
 deriving DecidableEq
instance:Inhabited worker:=⟨⟨default⟩⟩
abbrev worker.cells(x:worker):List PV:=[.v (.int .i64 x.Ledger.Now),.sl false 3 (x.Ledger.Config.Zones.map D.Zone.cells),.sl false 6 (x.Ledger.Config.People.map D.Person.cells),.sl false 3 (x.Ledger.Config.Calendars.map D.Calendar.cells),.sl false 3 (x.Ledger.Config.Schedules.map D.Schedule.cells),.sl false 2 (x.Ledger.Book.Teams.map D.Team.cells),.sl false 3 (x.Ledger.Book.Policies.map D.Policy.cells),.sl false 14 (x.Ledger.Pages.map D.Page.cells),.v (.int .i64 x.Ledger.Owner),.v (.int .i64 x.Ledger.Fence),.sl false 1 (x.Ledger.Seen.map D.cInt),.sl false 5 (x.Ledger.Calls.map D.Call.cells)]
structure Date where
 Year:Int
 Month:Int
 Day:Int
 deriving DecidableEq
instance:Inhabited Date:=⟨⟨default,default,default⟩⟩
abbrev Date.cells(x:Date):List PV:=[.v (.int .i64 x.Year),.v (.int .i64 x.Month),.v (.int .i64 x.Day)]
structure Occurrence where
 At:Int
 Offset:Int
 deriving DecidableEq
instance:Inhabited Occurrence:=⟨⟨default,default⟩⟩
abbrev Occurrence.cells(x:Occurrence):List PV:=[.v (.int .i64 x.At),.v (.int .i64 x.Offset)]
structure Transition where
 At:Int
 Offset:Int
 deriving DecidableEq
instance:Inhabited Transition:=⟨⟨default,default⟩⟩
abbrev Transition.cells(x:Transition):List PV:=[.v (.int .i64 x.At),.v (.int .i64 x.Offset)]
structure occurrence where
 local_:Int
 offset:Int
 deriving DecidableEq
instance:Inhabited occurrence:=⟨⟨default,default⟩⟩
abbrev occurrence.cells(x:occurrence):List PV:=[.v (.int .i64 x.local_),.v (.int .i64 x.offset)]
structure Table where
 offset:Int
 list:List D.Transition
 deriving DecidableEq
instance:Inhabited Table:=⟨⟨default,default⟩⟩
abbrev Table.cells(x:Table):List PV:=[.v (.int .i64 x.offset),.sl false 2 (x.list.map D.Transition.cells)]
structure View where
 Config:D.Config
 tables:List D.Table
 deriving DecidableEq
instance:Inhabited View:=⟨⟨default,default⟩⟩
abbrev View.cells(x:View):List PV:=[.sl false 3 (x.Config.Zones.map D.Zone.cells),.sl false 6 (x.Config.People.map D.Person.cells),.sl false 3 (x.Config.Calendars.map D.Calendar.cells),.sl false 3 (x.Config.Schedules.map D.Schedule.cells),.sl false 2 (x.tables.map D.Table.cells)]
structure Piece where
 From:Int
 To:Int
 Offset:Int
 deriving DecidableEq
instance:Inhabited Piece:=⟨⟨default,default,default⟩⟩
abbrev Piece.cells(x:Piece):List PV:=[.v (.int .i64 x.From),.v (.int .i64 x.To),.v (.int .i64 x.Offset)]
end D
inductive TC where
 |int
 |str
 |bool
 |u8
 |Arr3Int
 |YearRule
 |Zone
 |Window
 |Person
 |Calendar
 |Local
 |Layer
 |Edit
 |Schedule
 |Config
 |Team
 |Target
 |PolicyStep
 |Policy
 |Book
 |Start
 |Page
 |Call
 |Ledger
 |Answer
 |Op
 |Contact
 |Dice
 |fence
 |worker
 |Date
 |Occurrence
 |Transition
 |occurrence
 |Table
 |View
 |Piece
 deriving DecidableEq
abbrev TT:TC→Type
 |.int=>Int
 |.str=>ByteArray
 |.bool=>Bool
 |.u8=>Int
 |.Arr3Int=>D.Arr3Int
 |.YearRule=>D.YearRule
 |.Zone=>D.Zone
 |.Window=>D.Window
 |.Person=>D.Person
 |.Calendar=>D.Calendar
 |.Local=>D.Local
 |.Layer=>D.Layer
 |.Edit=>D.Edit
 |.Schedule=>D.Schedule
 |.Config=>D.Config
 |.Team=>D.Team
 |.Target=>D.Target
 |.PolicyStep=>D.PolicyStep
 |.Policy=>D.Policy
 |.Book=>D.Book
 |.Start=>D.Start
 |.Page=>D.Page
 |.Call=>D.Call
 |.Ledger=>D.Ledger
 |.Answer=>D.Answer
 |.Op=>D.Op
 |.Contact=>D.Contact
 |.Dice=>D.Dice
 |.fence=>D.fence
 |.worker=>D.worker
 |.Date=>D.Date
 |.Occurrence=>D.Occurrence
 |.Transition=>D.Transition
 |.occurrence=>D.occurrence
 |.Table=>D.Table
 |.View=>D.View
 |.Piece=>D.Piece
instance ttDec:(t:TC)→DecidableEq (TT t)
 |.int=>inferInstanceAs (DecidableEq Int)
 |.str=>inferInstanceAs (DecidableEq ByteArray)
 |.bool=>inferInstanceAs (DecidableEq Bool)
 |.u8=>inferInstanceAs (DecidableEq Int)
 |.Arr3Int=>inferInstanceAs (DecidableEq D.Arr3Int)
 |.YearRule=>inferInstanceAs (DecidableEq D.YearRule)
 |.Zone=>inferInstanceAs (DecidableEq D.Zone)
 |.Window=>inferInstanceAs (DecidableEq D.Window)
 |.Person=>inferInstanceAs (DecidableEq D.Person)
 |.Calendar=>inferInstanceAs (DecidableEq D.Calendar)
 |.Local=>inferInstanceAs (DecidableEq D.Local)
 |.Layer=>inferInstanceAs (DecidableEq D.Layer)
 |.Edit=>inferInstanceAs (DecidableEq D.Edit)
 |.Schedule=>inferInstanceAs (DecidableEq D.Schedule)
 |.Config=>inferInstanceAs (DecidableEq D.Config)
 |.Team=>inferInstanceAs (DecidableEq D.Team)
 |.Target=>inferInstanceAs (DecidableEq D.Target)
 |.PolicyStep=>inferInstanceAs (DecidableEq D.PolicyStep)
 |.Policy=>inferInstanceAs (DecidableEq D.Policy)
 |.Book=>inferInstanceAs (DecidableEq D.Book)
 |.Start=>inferInstanceAs (DecidableEq D.Start)
 |.Page=>inferInstanceAs (DecidableEq D.Page)
 |.Call=>inferInstanceAs (DecidableEq D.Call)
 |.Ledger=>inferInstanceAs (DecidableEq D.Ledger)
 |.Answer=>inferInstanceAs (DecidableEq D.Answer)
 |.Op=>inferInstanceAs (DecidableEq D.Op)
 |.Contact=>inferInstanceAs (DecidableEq D.Contact)
 |.Dice=>inferInstanceAs (DecidableEq D.Dice)
 |.fence=>inferInstanceAs (DecidableEq D.fence)
 |.worker=>inferInstanceAs (DecidableEq D.worker)
 |.Date=>inferInstanceAs (DecidableEq D.Date)
 |.Occurrence=>inferInstanceAs (DecidableEq D.Occurrence)
 |.Transition=>inferInstanceAs (DecidableEq D.Transition)
 |.occurrence=>inferInstanceAs (DecidableEq D.occurrence)
 |.Table=>inferInstanceAs (DecidableEq D.Table)
 |.View=>inferInstanceAs (DecidableEq D.View)
 |.Piece=>inferInstanceAs (DecidableEq D.Piece)
def tz:TC→Nat
 |.int=>1
 |.str=>1
 |.bool=>1
 |.u8=>1
 |.Arr3Int=>3
 |.YearRule=>7
 |.Zone=>3
 |.Window=>2
 |.Person=>6
 |.Calendar=>3
 |.Local=>2
 |.Layer=>10
 |.Edit=>5
 |.Schedule=>3
 |.Config=>4
 |.Team=>2
 |.Target=>2
 |.PolicyStep=>3
 |.Policy=>3
 |.Book=>2
 |.Start=>3
 |.Page=>14
 |.Call=>5
 |.Ledger=>12
 |.Answer=>6
 |.Op=>20
 |.Contact=>6
 |.Dice=>2
 |.fence=>2
 |.worker=>12
 |.Date=>3
 |.Occurrence=>2
 |.Transition=>2
 |.occurrence=>2
 |.Table=>2
 |.View=>5
 |.Piece=>3
def tcells:(t:TC)→TT t→List PV
 |.int=>D.cInt
 |.str=>D.cStr
 |.bool=>D.cBool
 |.u8=>(D.cK .u8)
 |.Arr3Int=>D.Arr3Int.cells
 |.YearRule=>D.YearRule.cells
 |.Zone=>D.Zone.cells
 |.Window=>D.Window.cells
 |.Person=>D.Person.cells
 |.Calendar=>D.Calendar.cells
 |.Local=>D.Local.cells
 |.Layer=>D.Layer.cells
 |.Edit=>D.Edit.cells
 |.Schedule=>D.Schedule.cells
 |.Config=>D.Config.cells
 |.Team=>D.Team.cells
 |.Target=>D.Target.cells
 |.PolicyStep=>D.PolicyStep.cells
 |.Policy=>D.Policy.cells
 |.Book=>D.Book.cells
 |.Start=>D.Start.cells
 |.Page=>D.Page.cells
 |.Call=>D.Call.cells
 |.Ledger=>D.Ledger.cells
 |.Answer=>D.Answer.cells
 |.Op=>D.Op.cells
 |.Contact=>D.Contact.cells
 |.Dice=>D.Dice.cells
 |.fence=>D.fence.cells
 |.worker=>D.worker.cells
 |.Date=>D.Date.cells
 |.Occurrence=>D.Occurrence.cells
 |.Transition=>D.Transition.cells
 |.occurrence=>D.occurrence.cells
 |.Table=>D.Table.cells
 |.View=>D.View.cells
 |.Piece=>D.Piece.cells
/-
  The typed layer, part A: values with types (BV), what they mean (er), how they are read. No project text.
-/
section
inductive BV where
 |n (k:IntKind) (x:Int)
 |b (x:Bool)
 |s (x:ByteArray)
 |ts (f:Bool) (t:TC) (l:List (TT t))
 |nil
 |agg (cs:List BV)
 |tup (vs:List BV)
 |ref (n:Name) (off:Nat)
 |own (n:Name) (ver:Nat)
 |aref (n:Name) (ver i off:Nat)
 |view (n:Name) (ver lo hi:Nat)
 /-- A map. -/
 |mref (n:Name)
 |tep (cs:List BV)
 |clo (f:Fn) (caps:List BV)
 |v (x:Value)
 /-- A truth value that is not known. -/
 |ub
 |any
inductive BO where
 |box (cells:List BV)
 |arr (t:TC) (l:List (TT t)) (ver:Nat)
 /-- A map from texts to truth values. -/
 |sm (es:List (ByteArray×Bool))
abbrev TS:=List (Nat×BV)
abbrev HS:=List (Name×BO)
def BV.pv:BV→PV
 |.n k x=>.v (.int k x)
 |.b x=>.v (.bool x)
 |.s x=>.v (.string x)
 |.ts f t l=>.sl f (tz t) (l.map (tcells t))
 |.nil=>.sl true 0 []
 |.v x=>.v x
 |_=>.v .nilIface
def BV.isP:BV→Bool
 |.n _ _=>true
 |.b _=>true
 |.s _=>true
 |.ts _ _ _=>true
 |.nil=>true
 |.v _=>true
 |_=>false
abbrev Lens:=Name→Nat→Nat
mutual
def BV.er(L:Lens):BV→AV
 |.agg cs=>.agg (erL L cs)
 |.tup vs=>.tup (erL L vs)
 |.ref n o=>.ref n o
 |.own n v=>.own n (L n v)
 |.aref n v i o=>.aref n (L n v) i o
 |.view n v i o=>.view n (L n v) i o
 |.mref n=>.oref true n
 |.tep cs=>.eptr (pvL cs)
 |.clo f caps=>.clo f [] (erL L caps)
 |.any=>.any
 |.ub=>.ub
 |.n k x=>.p (.v (.int k x))
 |.b x=>.p (.v (.bool x))
 |.s x=>.p (.v (.string x))
 |.ts f t l=>.p (.sl f (tz t) (l.map (tcells t)))
 |.nil=>.p (.sl true 0 [])
 |.v x=>.p (.v x)
def erL(L:Lens):List BV→List AV
 |[]=>[]
 |x::r=>x.er L::erL L r
def pvL:List BV→List PV
 |[]=>[]
 |x::r=>x.pv::pvL r
end
variable {L L':Lens}
theorem Vz:∀l:List BV,erL L l=l.map (BV.er L)
 |[]=>by simp only[erL,List.map_nil]
 |x::r=>by simp only[erL,List.map_cons,Vz r]
theorem Qha:∀l:List BV,pvL l=l.map BV.pv
 |[]=>by simp only[pvL,List.map_nil]
 |x::r=>by simp only[pvL,List.map_cons,Qha r]
theorem QsO{x:BV}(h:x.isP=true):x.er L=.p x.pv:=by cases x<;>first|(simp only[BV.er,BV.pv];done)|simp[BV.isP]at h
theorem Vy:∀{l:List BV},l.all BV.isP=true→erL L l=pcells (pvL l)
 |[],_=>by simp only[erL,pvL,pcells,List.map_nil]
 |x::r,h=>by
  simp only[List.all_cons,bae]at h
  simp only[erL,pvL,pcells,List.map_cons,QsO h.1,Vy h.2]
theorem Qq6(a b:List BV):erL L (a++b)=erL L a++erL L b:=by simp[Vz]
theorem Xl(a:List BV):(erL L a).length=a.length:=by simp[Vz]
theorem Qp8(a:List BV)(k:Nat):erL L (a.drop k)=(erL L a).drop k:=by simp[Vz]
theorem Qp9(a:List BV)(k:Nat):erL L (a.take k)=(erL L a).take k:=by simp[Vz]
theorem QgN(a:List BV)(k:Nat):(erL L a)[k]?=(a[k]?).map (BV.er L):=by simp[Vz]
theorem Qnx(a b:List BV)(k:Nat):erL L (Qv a k b)=Qv (erL L a) k (erL L b):=by simp[Vz,Qv]
theorem QqE(a:List BV)(k:Nat):pvL (a.drop k)=(pvL a).drop k:=by simp[Qha]
theorem QqF(a:List BV)(k:Nat):pvL (a.take k)=(pvL a).take k:=by simp[Qha]
theorem QbZ(a:List BV):(pvL a).length=a.length:=by simp[Qha]
theorem QtE(a:List BV)(k:Nat):(pvL a)[k]?=(a[k]?).map BV.pv:=by simp[Qha]
theorem QtF(a b:List BV)(k:Nat):pvL (Qv a k b)=Qv (pvL a) k (pvL b):=by simp[Qha,Qv]
def BO.er(L:Lens):BO→AO
 |.box cells=>.box (erL L cells)
 |.arr t l _=>.arr (tz t) (l.map (tcells t))
 |.sm es=>.obj (smap (es.map fun p=>(p.1,.bool p.2)))
def erT(L:Lens)(ts:TS):List (Nat×AV):=ts.map fun p=>(p.1,p.2.er L)
def erH(L:Lens)(hs:HS):List (Name×AO):=hs.map fun p=>(p.1,p.2.er L)
theorem Qae(k:Nat):∀ts:TS,look k (erT L ts)=(look k ts).map (BV.er L)
 |[]=>rfl
 |(j,x)::r=>by
  show look k ((j,x.er L)::erT L r)=(look k ((j,x)::r)).map (BV.er L)
  simp only[look];split
  ·rfl
  ·exact Qae k r
theorem Z2(k:Nat):∀hs:HS,look k (erH L hs)=(look k hs).map (BO.er L)
 |[]=>rfl
 |(j,x)::r=>by
  show look k ((j,x.er L)::erH L r)=(look k ((j,x)::r)).map (BO.er L)
  simp only[look];split
  ·rfl
  ·exact Z2 k r
theorem Qee(a b:HS):erH L (a++b)=erH L a++erH L b:=by simp[erH]
theorem Qcu(a:HS):keys (erH L a)=keys a:=by simp[erH,keys]
mutual
def BV.has(n:Name):BV→Bool
 |.agg cs=>BV.hasL n cs
 |.tup vs=>BV.hasL n vs
 |.clo _ cs=>BV.hasL n cs
 |.ref m _=>m == n
 |.own m _=>m == n
 |.aref m _ _ _=>m == n
 |.view m _ _ _=>m == n
 |.mref m=>m == n
 |_=>false
def BV.hasL(n:Name):List BV→Bool
 |[]=>false
 |x::r=>BV.has n x || BV.hasL n r
end
mutual
theorem Qqi(n:Name):∀x:BV,(x.er L).has n=x.has n
 |.agg cs=>by simp only[BV.er,AV.has,BV.has,Qje n cs]
 |.tup cs=>by simp only[BV.er,AV.has,BV.has,Qje n cs]
 |.clo f cs=>by simp only[BV.er,AV.has,BV.has,Qje n cs,AV.hasL,Bool.false_or]
 |.ref _ _=>by simp only[BV.er,AV.has,BV.has]
 |.own _ _=>by simp only[BV.er,AV.has,BV.has]
 |.aref _ _ _ _=>by simp only[BV.er,AV.has,BV.has]
 |.view _ _ _ _=>by simp only[BV.er,AV.has,BV.has]
 |.mref _=>by simp only[BV.er,AV.has,BV.has]
 |.tep _=>by simp only[BV.er,AV.has,BV.has]
 |.any=>by simp only[BV.er,AV.has,BV.has]
 |.ub=>by simp only[BV.er,AV.has,BV.has]
 |.n _ _=>by simp only[BV.er,AV.has,BV.has]
 |.b _=>by simp only[BV.er,AV.has,BV.has]
 |.s _=>by simp only[BV.er,AV.has,BV.has]
 |.ts _ _ _=>by simp only[BV.er,AV.has,BV.has]
 |.nil=>by simp only[BV.er,AV.has,BV.has]
 |.v _=>by simp only[BV.er,AV.has,BV.has]
theorem Qje(n:Name):∀l:List BV,AV.hasL n (erL L l)=BV.hasL n l
 |[]=>by simp only[erL,AV.hasL,BV.hasL]
 |x::r=>by simp only[erL,AV.hasL,BV.hasL,Qqi n x,Qje n r]
end
mutual
def BV.nov(n:Name)(v:Nat):BV→Bool
 |.agg cs=>BV.novL n v cs
 |.tup vs=>BV.novL n v vs
 |.clo _ cs=>BV.novL n v cs
 |.own m u=>!(Nat.beq m n && Nat.beq u v)
 |.aref m u _ _=>!(Nat.beq m n && Nat.beq u v)
 |.view m u _ _=>!(Nat.beq m n && Nat.beq u v)
 |_=>true
def BV.novL(n:Name)(v:Nat):List BV→Bool
 |[]=>true
 |x::r=>BV.nov n v x && BV.novL n v r
end
mutual
theorem Qqa:∀x:BV,(∀n v,x.nov n v=false→L n v=L' n v)→x.er L=x.er L'
 |.agg cs,h=>by simp only[BV.er,Qdq cs (fun n v hn=>h n v (by simpa only[BV.nov]using hn))]
 |.tup cs,h=>by simp only[BV.er,Qdq cs (fun n v hn=>h n v (by simpa only[BV.nov]using hn))]
 |.clo f cs,h=>by simp only[BV.er,Qdq cs (fun n v hn=>h n v (by simpa only[BV.nov]using hn))]
 |.ref _ _,_=>by simp only[BV.er]
 |.own m u,h=>by simp only[BV.er,h m u (by simp[BV.nov])]
 |.aref m u _ _,h=>by simp only[BV.er,h m u (by simp[BV.nov])]
 |.view m u _ _,h=>by simp only[BV.er,h m u (by simp[BV.nov])]
 |.mref _,_=>by simp only[BV.er]
 |.tep _,_=>by simp only[BV.er]
 |.any,_=>by simp only[BV.er]
 |.ub,_=>by simp only[BV.er]
 |.n _ _,_=>by simp only[BV.er]
 |.b _,_=>by simp only[BV.er]
 |.s _,_=>by simp only[BV.er]
 |.ts _ _ _,_=>by simp only[BV.er]
 |.nil,_=>by simp only[BV.er]
 |.v _,_=>by simp only[BV.er]
theorem Qdq:∀l:List BV,(∀n v,BV.novL n v l=false→L n v=L' n v)→erL L l=erL L' l
 |[],_=>by simp only[erL]
 |x::r,h=>by
  simp only[erL,Qqa x (fun n v hn=>h n v (by simp only[BV.novL,hn,Bool.false_and])),Qdq r (fun n v hn=>h n v (by simp only[BV.novL,hn,Bool.and_false]))]
end
mutual
theorem Qtl{n:Name}{v:Nat}:∀x:BV,x.nov n v=false→x.has n=true
 |.agg cs,h=>by simp only[BV.nov]at h;simp only[BV.has,Qgc cs h]
 |.tup cs,h=>by simp only[BV.nov]at h;simp only[BV.has,Qgc cs h]
 |.clo f cs,h=>by simp only[BV.nov]at h;simp only[BV.has,Qgc cs h]
 |.ref _ _,h=>by simp[BV.nov]at h
 |.own m u,h=>by simp only[BV.nov,Bool.not_eq_false',bae,Nat.beq_eq]at h;simp[BV.has,h.1]
 |.view m u _ _,h=>by simp only[BV.nov,Bool.not_eq_false',bae,Nat.beq_eq]at h;simp[BV.has,h.1]
 |.mref _,h=>by simp[BV.nov]at h
 |.aref m u _ _,h=>by simp only[BV.nov,Bool.not_eq_false',bae,Nat.beq_eq]at h;simp[BV.has,h.1]
 |.tep _,h=>by simp[BV.nov]at h
 |.any,h=>by simp[BV.nov]at h
 |.ub,h=>by simp[BV.nov]at h
 |.n _ _,h=>by simp[BV.nov]at h
 |.b _,h=>by simp[BV.nov]at h
 |.s _,h=>by simp[BV.nov]at h
 |.ts _ _ _,h=>by simp[BV.nov]at h
 |.nil,h=>by simp[BV.nov]at h
 |.v _,h=>by simp[BV.nov]at h
theorem Qgc{n:Name}{v:Nat}:∀l:List BV,BV.novL n v l=false→BV.hasL n l=true
 |[],h=>by simp[BV.novL]at h
 |x::r,h=>by
  simp only[BV.novL,Bool.and_eq_false_iff]at h
  simp only[BV.hasL,Bool.or_eq_true]
  exact h.imp (Qtl x) (Qgc r)
end
def BO.has(n:Name):BO→Bool
 |.box cells=>BV.hasL n cells
 |.arr _ _ _=>false
 |.sm _=>false
def BO.nov(n:Name)(v:Nat):BO→Bool
 |.box cells=>BV.novL n v cells
 |.arr _ _ _=>true
 |.sm _=>true
theorem QsY(n:Name)(o:BO):(o.er L).has n=o.has n:=by cases o<;>simp only[BO.er,AO.has,BO.has,Qje]
def Qdv(n:Name)(ts:TS)(hs:HS):Bool:=ts.all (fun p=>!p.2.has n) && hs.all (fun p=>!p.2.has n)
theorem Qef{n:Name}{ts:TS}{hs:HS}:QcX n (erT L ts) (erH L hs)=Qdv n ts hs:=by
 simp only[QcX,Qdv,erT,erH,List.all_map]
 congr 1
 ·congr 1;funext p;simp only[Function.comp,Qqi]
 ·congr 1;funext p;simp only[Function.comp,QsY]
def novS(n:Name)(v:Nat)(ts:TS)(hs:HS):Bool:=ts.all (fun p=>p.2.nov n v) && hs.all (fun p=>p.2.nov n v)
theorem QsN(o:BO)(h:∀n v,o.nov n v=false→L n v=L' n v):o.er L=o.er L':=by
 cases o with
 |box cs=>simp only[BO.er,Qdq cs (fun n v hn=>h n v (by simpa only[BO.nov]using hn))]
 |arr t l=>simp only[BO.er]
 |sm es=>simp only[BO.er]
theorem Qve{n:Name}{v:Nat}(o:BO)(h:o.nov n v=false):o.has n=true:=by
 cases o with
 |box cs=>exact Qgc cs h
 |arr t l=>simp[BO.nov]at h
 |sm es=>simp[BO.nov]at h
theorem QfY{nw:List Name}{nv:List (Name×Nat)}{ts:TS}{hs:HS}(h1:∀n,n∈nw→Qdv n ts hs=true)(h2:∀p,p∈nv→novS p.1 p.2 ts hs=true)(h:∀n v,n∉nw→(n,v)∉nv→L' n v=L n v):erT L ts=erT L' ts∧erH L hs=erH L' hs:=by
 have key:∀n v,((∃p∈ts,p.2.nov n v=false)∨(∃p∈hs,p.2.nov n v=false))→L n v=L' n v:=fun n v hx=>by
  refine(h n v (fun hn=>?_) (fun hn=>?_)).symm
  ·have:=h1 n hn
   simp only[Qdv,bae,List.all_eq_true]at this
   rcases hx with⟨p,hp,hq⟩|⟨p,hp,hq⟩
   ·have:=this.1 p hp;rw[Qtl _ hq]at this;simp at this
   ·have:=this.2 p hp;rw[Qve _ hq]at this;simp at this
  ·have:=h2 _ hn
   simp only[novS,bae,List.all_eq_true]at this
   rcases hx with⟨p,hp,hq⟩|⟨p,hp,hq⟩
   ·have:=this.1 p hp;rw[hq]at this;simp at this
   ·have:=this.2 p hp;rw[hq]at this;simp at this
 unfold erT erH
 refine⟨List.map_congr_left fun p hp=>?_,List.map_congr_left fun p hp=>?_⟩
 ·rw[Qqa p.2 (fun n v hn=>key n v (.inl ⟨p,hp,hn⟩))]
 ·rw[QsN p.2 (fun n v hn=>key n v (.inr ⟨p,hp,hn⟩))]
section
variable {R:Type}
def cnd(c:Bool)(x y:Option R):Option R:=match c with|true=>x|false=>y
def natc(j:Int)(k:Nat→Option R):Option R:=if 0≤j then k j.toNat else none
def optc{α:Type}(o:Option α)(k:α→Option R):Option R:=match o with|some x=>k x|none=>none
def atc{α:Type}(l:List α)(j:Int)(k:α→Option R):Option R:=natc j fun i=>optc l[i]? k
def chk(a b:Nat)(x:Option R):Option R:=if a=b then x else none
def ltc(a b:Nat)(x:Option R):Option R:=if a<b then x else none
def nilC{α:Type}(l:List α)(x y:Option R):Option R:=match l with|[]=>x|_::_=>y
def both[DecidableEq R](x y:Option R):Option R:=if x=y then x else none
def lec(a b:Nat)(x:Option R):Option R:=if a≤b then x else none
def nzc(b:Int)(x:Option R):Option R:=if b=0 then none else x
def Qh{X:Type}(B:(X→Option R)→X→Option R):Nat→X→Option R
 |0,_=>none
 |n+1,x=>B (Qh B n) x
def join{Y:Type}(k:Y→Option R)(f:(Y→Option R)→Option R):Option R:=f k
variable {r:R}
theorem QfT{c:Bool}{x y:Option R}(h:cnd c x y=some r):c=true∧x=some r∨c=false∧y=some r:=by
 cases c
 ·exact .inr ⟨rfl,h⟩
 ·exact .inl ⟨rfl,h⟩
theorem Qtk{α:Type}{l:List α}{x y:Option R}(h:nilC l x y=some r):l=[]∧x=some r∨l≠[]∧y=some r:=by
 cases l with
 |nil=>exact .inl ⟨rfl,h⟩
 |cons a q=>exact .inr ⟨by simp,h⟩
theorem Qsr[DecidableEq R]{x y:Option R}(h:both x y=some r):x=some r∧y=some r:=by
 unfold both at h
 split at h
 ·rename_i e;exact⟨h,e ▸ h⟩
 ·simp at h
theorem QaO{j:Int}{k:Nat→Option R}(h:natc j k=some r):∃i:Nat,j=(i:Int)∧k i=some r:=by
 unfold natc at h
 split at h
 ·exact⟨j.toNat,by omega,h⟩
 ·simp at h
theorem Yg{α:Type}{o:Option α}{k:α→Option R}(h:optc o k=some r):∃x,o=some x∧k x=some r:=by
 cases o with
 |none=>simp[optc]at h
 |some x=>exact⟨x,rfl,h⟩
theorem Quv{α:Type}{l:List α}{j:Int}{k:α→Option R}(h:atc l j k=some r):∃(i:Nat) (x:α),j=(i:Int)∧l[i]?=some x∧k x=some r:=by
 obtain⟨i,hi,h2⟩:=QaO h
 obtain⟨x,hx,h3⟩:=Yg h2
 exact⟨i,x,hi,hx,h3⟩
theorem QfS{a b:Nat}{x:Option R}(h:chk a b x=some r):a=b∧x=some r:=by
 unfold chk at h;split at h
 ·exact⟨by assumption,h⟩
 ·simp at h
theorem Qf9{a b:Nat}{x:Option R}(h:ltc a b x=some r):a<b∧x=some r:=by
 unfold ltc at h;split at h
 ·exact⟨by assumption,h⟩
 ·simp at h
theorem YO{a b:Nat}{x:Option R}(h:lec a b x=some r):a≤b∧x=some r:=by
 unfold lec at h;split at h
 ·exact⟨by assumption,h⟩
 ·simp at h
theorem Qvf{b:Int}{x:Option R}(h:nzc b x=some r):b≠0∧x=some r:=by
 unfold nzc at h;split at h
 ·simp at h
 ·exact⟨by assumption,h⟩
end
def Le(a b:List BV):Prop:=∀L,Xx (erL L a) (erL L b)
theorem Xx.refl:∀l:List AV,Xx l l
 |[]=>.nil
 |x::r=>.cons (.refl x) (Xx.refl r)
theorem Le.refl(l:List BV):Le l l:=fun L=>Xx.refl _
theorem Le.cons{x y:BV}{a b:List BV}(h:∀L,AVle (x.er L) (y.er L))(h':Le a b):Le (x::a) (y::b):=fun L=>by simp only[erL];exact Xx.cons (h L) (h' L)
theorem Le.cons'{x:BV}{a b:List BV}(h':Le a b):Le (x::a) (x::b):=fun L=>by simp only[erL];exact Xx.cons (.refl _) (h' L)
def Qnb{t t0:TC}(h:t=t0)(l:List (TT t)):List (TT t0):=h ▸ l
section
variable {R:Type} {r:R}
def popN(k0:IntKind):List BV→(Int→List BV→Option R)→Option R
 |.n k x::l,K=>if kEq k0 k then K x l else none
 |_,_=>none
def popB:List BV→(Bool→List BV→Option R)→Option R
 |.b x::l,K=>K x l
 |_,_=>none
def popS:List BV→(ByteArray→List BV→Option R)→Option R
 |.s x::l,K=>K x l
 |_,_=>none
def popT(t0:TC):List BV→(List (TT t0)→List BV→Option R)→Option R
 |.ts _ t x::l,K=>if h:t=t0 then K (Qnb h x) l else none
 |.nil::l,K=>K [] l
 |_,_=>none
theorem Qb{k0:IntKind}{cs:List BV}{K:Int→List BV→Option R}(h:popN k0 cs K=some r):∃x l,cs=.n k0 x::l∧K x l=some r:=by
 unfold popN at h
 split at h
 ·split at h
  ·rename_i he;have:=QcY he;subst this;exact⟨_,_,rfl,h⟩
  ·simp at h
 ·simp at h
theorem QjA{cs:List BV}{K:Bool→List BV→Option R}(h:popB cs K=some r):∃x l,cs=.b x::l∧K x l=some r:=by
 unfold popB at h
 split at h
 ·exact⟨_,_,rfl,h⟩
 ·simp at h
theorem UJ{cs:List BV}{K:ByteArray→List BV→Option R}(h:popS cs K=some r):∃x l,cs=.s x::l∧K x l=some r:=by
 unfold popS at h
 split at h
 ·exact⟨_,_,rfl,h⟩
 ·simp at h
theorem Qv1(t:TC)(L:Lens):AVle (BV.nil.er L) ((BV.ts false t []).er L):=by simp only[BV.er];exact .p (PVle.nil (fun h=>by simp at h))
theorem Qn{t0:TC}{cs:List BV}{K:List (TT t0)→List BV→Option R}(h:popT t0 cs K=some r):∃x l v,cs=v::l∧(∀L,AVle (v.er L) ((BV.ts false t0 x).er L))∧K x l=some r:=by
 unfold popT at h
 split at h
 ·split at h
  ·rename_i he;subst he;exact⟨_,_,_,rfl,fun L=>by simp only[BV.er,Qnb];exact .p (PVle.full _),h⟩
  ·simp at h
 ·exact⟨_,_,_,rfl,Qv1 t0,h⟩
 ·simp at h
end
end
/-
  Typed cells, and typed data read off cells. Written by wip/gen/bdata.py. No project text.
-/
open Go
def tb:(t:TC)→TT t→List BV
 |.int,x=>[.n .i64 x]
 |.str,x=>[.s x]
 |.bool,x=>[.b x]
 |.u8,x=>[.n .u8 x]
 |.Arr3Int,x=>[.n .i64 x.a0,.n .i64 x.a1,.n .i64 x.a2]
 |.YearRule,x=>[.n .i64 x.From,.n .i64 x.To,.n .i64 x.Month,.n .i64 x.Week,.n .i64 x.Weekday,.n .i64 x.Second,.n .i64 x.Offset]
 |.Zone,x=>[.s x.Name,.n .i64 x.Offset,.ts false .YearRule x.Rules]
 |.Window,x=>[.n .i64 x.From,.n .i64 x.To]
 |.Person,x=>[.s x.Name,.n .i64 x.Zone,.ts false .Window x.Quiet,.n .i64 x.MaxWeek,.n .i64 x.MinRest,.b x.Consent]
 |.Calendar,x=>[.s x.Name,.n .i64 x.Zone,.ts false .int x.Days]
 |.Local,x=>[.n .i64 x.Day,.n .i64 x.Second]
 |.Layer,x=>[.s x.Name,.n .i64 x.Zone,.n .i64 x.Start.Day,.n .i64 x.Start.Second,.n .i64 x.Unit,.n .i64 x.Every,.ts false .int x.Members,.ts false .Window x.Windows,.n .i64 x.Calendar,.n .i64 x.Mode]
 |.Edit,x=>[.n .i64 x.Kind,.n .i64 x.A,.n .i64 x.B,.n .i64 x.From,.n .i64 x.To]
 |.Schedule,x=>[.s x.Name,.ts false .Layer x.Layers,.ts false .Edit x.Edits]
 |.Config,x=>[.ts false .Zone x.Zones,.ts false .Person x.People,.ts false .Calendar x.Calendars,.ts false .Schedule x.Schedules]
 |.Team,x=>[.s x.Name,.ts false .int x.Members]
 |.Target,x=>[.n .i64 x.Kind,.n .i64 x.Index]
 |.PolicyStep,x=>[.n .i64 x.Wait,.b x.Urgent,.ts false .Target x.Targets]
 |.Policy,x=>[.s x.Name,.ts false .PolicyStep x.Steps,.n .i64 x.Repeat]
 |.Book,x=>[.ts false .Team x.Teams,.ts false .Policy x.Policies]
 |.Start,x=>[.n .i64 x.K,.n .i64 x.At,.ts false .int x.People]
 |.Page,x=>[.n .i64 x.ID,.n .i64 x.Policy,.n .i64 x.Start,.n .i64 x.Next,.n .i64 x.Due,.n .i64 x.State,.n .i64 x.By,.n .i64 x.Until,.n .i64 x.Last,.n .i64 x.Snoozes,.n .i64 x.Hands,.ts false .Start x.Starts,.ts false .int x.Declined,.ts false .int x.Seen]
 |.Call,x=>[.n .i64 x.Page,.n .i64 x.K,.n .i64 x.At,.n .i64 x.Person,.n .i64 x.Fence]
 |.Ledger,x=>[.n .i64 x.Now,.ts false .Zone x.Config.Zones,.ts false .Person x.Config.People,.ts false .Calendar x.Config.Calendars,.ts false .Schedule x.Config.Schedules,.ts false .Team x.Book.Teams,.ts false .Policy x.Book.Policies,.ts false .Page x.Pages,.n .i64 x.Owner,.n .i64 x.Fence,.ts false .int x.Seen,.ts false .Call x.Calls]
 |.Answer,x=>[.n .i64 x.ID,.n .i64 x.Page,.n .i64 x.Person,.n .i64 x.Kind,.n .i64 x.Arg,.n .i64 x.At]
 |.Op,x=>[.n .i64 x.ID,.n .i64 x.Kind,.n .i64 x.Region,.n .i64 x.Fence,.n .i64 x.At,.n .i64 x.Page,.n .i64 x.K,.n .i64 x.Policy,.n .i64 x.Schedule,.n .i64 x.Answer.ID,.n .i64 x.Answer.Page,.n .i64 x.Answer.Person,.n .i64 x.Answer.Kind,.n .i64 x.Answer.Arg,.n .i64 x.Answer.At,.n .i64 x.Edit.Kind,.n .i64 x.Edit.A,.n .i64 x.Edit.B,.n .i64 x.Edit.From,.n .i64 x.Edit.To]
 |.Contact,x=>[.n .i64 x.Page,.n .i64 x.Step,.n .i64 x.Person,.n .i64 x.Start,.n .i64 x.Sent,.n .i64 x.Reached]
 |.Dice,x=>[.ts false .int x.L,.n .i64 x.At]
 |.fence,x=>[.n .i64 x.region,.n .i64 x.number]
 |.worker,x=>[.n .i64 x.Ledger.Now,.ts false .Zone x.Ledger.Config.Zones,.ts false .Person x.Ledger.Config.People,.ts false .Calendar x.Ledger.Config.Calendars,.ts false .Schedule x.Ledger.Config.Schedules,.ts false .Team x.Ledger.Book.Teams,.ts false .Policy x.Ledger.Book.Policies,.ts false .Page x.Ledger.Pages,.n .i64 x.Ledger.Owner,.n .i64 x.Ledger.Fence,.ts false .int x.Ledger.Seen,.ts false .Call x.Ledger.Calls]
 |.Date,x=>[.n .i64 x.Year,.n .i64 x.Month,.n .i64 x.Day]
 |.Occurrence,x=>[.n .i64 x.At,.n .i64 x.Offset]
 |.Transition,x=>[.n .i64 x.At,.n .i64 x.Offset]
 |.occurrence,x=>[.n .i64 x.local_,.n .i64 x.offset]
 |.Table,x=>[.n .i64 x.offset,.ts false .Transition x.list]
 |.View,x=>[.ts false .Zone x.Config.Zones,.ts false .Person x.Config.People,.ts false .Calendar x.Config.Calendars,.ts false .Schedule x.Config.Schedules,.ts false .Table x.tables]
 |.Piece,x=>[.n .i64 x.From,.n .i64 x.To,.n .i64 x.Offset]
theorem Qch:∀(t:TC) (x:TT t),(tb t x).all BV.isP=true
 |.int,_=>rfl
 |.str,_=>rfl
 |.bool,_=>rfl
 |.u8,_=>rfl
 |.Arr3Int,_=>rfl
 |.YearRule,_=>rfl
 |.Zone,_=>rfl
 |.Window,_=>rfl
 |.Person,_=>rfl
 |.Calendar,_=>rfl
 |.Local,_=>rfl
 |.Layer,_=>rfl
 |.Edit,_=>rfl
 |.Schedule,_=>rfl
 |.Config,_=>rfl
 |.Team,_=>rfl
 |.Target,_=>rfl
 |.PolicyStep,_=>rfl
 |.Policy,_=>rfl
 |.Book,_=>rfl
 |.Start,_=>rfl
 |.Page,_=>rfl
 |.Call,_=>rfl
 |.Ledger,_=>rfl
 |.Answer,_=>rfl
 |.Op,_=>rfl
 |.Contact,_=>rfl
 |.Dice,_=>rfl
 |.fence,_=>rfl
 |.worker,_=>rfl
 |.Date,_=>rfl
 |.Occurrence,_=>rfl
 |.Transition,_=>rfl
 |.occurrence,_=>rfl
 |.Table,_=>rfl
 |.View,_=>rfl
 |.Piece,_=>rfl
theorem QrL:∀(t:TC) (x:TT t),pvL (tb t x)=tcells t x
 |.int,_=>rfl
 |.str,_=>rfl
 |.bool,_=>rfl
 |.u8,_=>rfl
 |.Arr3Int,_=>rfl
 |.YearRule,_=>rfl
 |.Zone,_=>rfl
 |.Window,_=>rfl
 |.Person,_=>rfl
 |.Calendar,_=>rfl
 |.Local,_=>rfl
 |.Layer,_=>rfl
 |.Edit,_=>rfl
 |.Schedule,_=>rfl
 |.Config,_=>rfl
 |.Team,_=>rfl
 |.Target,_=>rfl
 |.PolicyStep,_=>rfl
 |.Policy,_=>rfl
 |.Book,_=>rfl
 |.Start,_=>rfl
 |.Page,_=>rfl
 |.Call,_=>rfl
 |.Ledger,_=>rfl
 |.Answer,_=>rfl
 |.Op,_=>rfl
 |.Contact,_=>rfl
 |.Dice,_=>rfl
 |.fence,_=>rfl
 |.worker,_=>rfl
 |.Date,_=>rfl
 |.Occurrence,_=>rfl
 |.Transition,_=>rfl
 |.occurrence,_=>rfl
 |.Table,_=>rfl
 |.View,_=>rfl
 |.Piece,_=>rfl
section
variable {R:Type} {r:R}
def tpop:(t:TC)→List BV→(TT t→List BV→Option R)→Option R
 |.int,c,K=>popN .i64 c K
 |.str,c,K=>popS c K
 |.bool,c,K=>popB c K
 |.u8,c,K=>popN .u8 c K
 |.Arr3Int,c,K=>popN .i64 c fun a0 c=>popN .i64 c fun a1 c=>popN .i64 c fun a2 c=>K ⟨a0,a1,a2⟩ c
 |.YearRule,c,K=>popN .i64 c fun a0 c=>popN .i64 c fun a1 c=>popN .i64 c fun a2 c=>popN .i64 c fun a3 c=>popN .i64 c fun a4 c=>popN .i64 c fun a5 c=>popN .i64 c fun a6 c=>K ⟨a0,a1,a2,a3,a4,a5,a6⟩ c
 |.Zone,c,K=>popS c fun a0 c=>popN .i64 c fun a1 c=>popT .YearRule c fun a2 c=>K ⟨a0,a1,a2⟩ c
 |.Window,c,K=>popN .i64 c fun a0 c=>popN .i64 c fun a1 c=>K ⟨a0,a1⟩ c
 |.Person,c,K=>popS c fun a0 c=>popN .i64 c fun a1 c=>popT .Window c fun a2 c=>popN .i64 c fun a3 c=>popN .i64 c fun a4 c=>popB c fun a5 c=>K ⟨a0,a1,a2,a3,a4,a5⟩ c
 |.Calendar,c,K=>popS c fun a0 c=>popN .i64 c fun a1 c=>popT .int c fun a2 c=>K ⟨a0,a1,a2⟩ c
 |.Local,c,K=>popN .i64 c fun a0 c=>popN .i64 c fun a1 c=>K ⟨a0,a1⟩ c
 |.Layer,c,K=>popS c fun a0 c=>popN .i64 c fun a1 c=>popN .i64 c fun a2 c=>popN .i64 c fun a3 c=>popN .i64 c fun a4 c=>popN .i64 c fun a5 c=>popT .int c fun a6 c=>popT .Window c fun a7 c=>popN .i64 c fun a8 c=>popN .i64 c fun a9 c=>K ⟨a0,a1,⟨a2,a3⟩,a4,a5,a6,a7,a8,a9⟩ c
 |.Edit,c,K=>popN .i64 c fun a0 c=>popN .i64 c fun a1 c=>popN .i64 c fun a2 c=>popN .i64 c fun a3 c=>popN .i64 c fun a4 c=>K ⟨a0,a1,a2,a3,a4⟩ c
 |.Schedule,c,K=>popS c fun a0 c=>popT .Layer c fun a1 c=>popT .Edit c fun a2 c=>K ⟨a0,a1,a2⟩ c
 |.Config,c,K=>popT .Zone c fun a0 c=>popT .Person c fun a1 c=>popT .Calendar c fun a2 c=>popT .Schedule c fun a3 c=>K ⟨a0,a1,a2,a3⟩ c
 |.Team,c,K=>popS c fun a0 c=>popT .int c fun a1 c=>K ⟨a0,a1⟩ c
 |.Target,c,K=>popN .i64 c fun a0 c=>popN .i64 c fun a1 c=>K ⟨a0,a1⟩ c
 |.PolicyStep,c,K=>popN .i64 c fun a0 c=>popB c fun a1 c=>popT .Target c fun a2 c=>K ⟨a0,a1,a2⟩ c
 |.Policy,c,K=>popS c fun a0 c=>popT .PolicyStep c fun a1 c=>popN .i64 c fun a2 c=>K ⟨a0,a1,a2⟩ c
 |.Book,c,K=>popT .Team c fun a0 c=>popT .Policy c fun a1 c=>K ⟨a0,a1⟩ c
 |.Start,c,K=>popN .i64 c fun a0 c=>popN .i64 c fun a1 c=>popT .int c fun a2 c=>K ⟨a0,a1,a2⟩ c
 |.Page,c,K=>popN .i64 c fun a0 c=>popN .i64 c fun a1 c=>popN .i64 c fun a2 c=>popN .i64 c fun a3 c=>popN .i64 c fun a4 c=>popN .i64 c fun a5 c=>popN .i64 c fun a6 c=>popN .i64 c fun a7 c=>popN .i64 c fun a8 c=>popN .i64 c fun a9 c=>popN .i64 c fun a10 c=>popT .Start c fun a11 c=>popT .int c fun a12 c=>popT .int c fun a13 c=>K ⟨a0,a1,a2,a3,a4,a5,a6,a7,a8,a9,a10,a11,a12,a13⟩ c
 |.Call,c,K=>popN .i64 c fun a0 c=>popN .i64 c fun a1 c=>popN .i64 c fun a2 c=>popN .i64 c fun a3 c=>popN .i64 c fun a4 c=>K ⟨a0,a1,a2,a3,a4⟩ c
 |.Ledger,c,K=>popN .i64 c fun a0 c=>popT .Zone c fun a1 c=>popT .Person c fun a2 c=>popT .Calendar c fun a3 c=>popT .Schedule c fun a4 c=>popT .Team c fun a5 c=>popT .Policy c fun a6 c=>popT .Page c fun a7 c=>popN .i64 c fun a8 c=>popN .i64 c fun a9 c=>popT .int c fun a10 c=>popT .Call c fun a11 c=>K ⟨a0,⟨a1,a2,a3,a4⟩,⟨a5,a6⟩,a7,a8,a9,a10,a11⟩ c
 |.Answer,c,K=>popN .i64 c fun a0 c=>popN .i64 c fun a1 c=>popN .i64 c fun a2 c=>popN .i64 c fun a3 c=>popN .i64 c fun a4 c=>popN .i64 c fun a5 c=>K ⟨a0,a1,a2,a3,a4,a5⟩ c
 |.Op,c,K=>popN .i64 c fun a0 c=>popN .i64 c fun a1 c=>popN .i64 c fun a2 c=>popN .i64 c fun a3 c=>popN .i64 c fun a4 c=>popN .i64 c fun a5 c=>popN .i64 c fun a6 c=>popN .i64 c fun a7 c=>popN .i64 c fun a8 c=>popN .i64 c fun a9 c=>popN .i64 c fun a10 c=>popN .i64 c fun a11 c=>popN .i64 c fun a12 c=>popN .i64 c fun a13 c=>popN .i64 c fun a14 c=>popN .i64 c fun a15 c=>popN .i64 c fun a16 c=>popN .i64 c fun a17 c=>popN .i64 c fun a18 c=>popN .i64 c fun a19 c=>K ⟨a0,a1,a2,a3,a4,a5,a6,a7,a8,⟨a9,a10,a11,a12,a13,a14⟩,⟨a15,a16,a17,a18,a19⟩⟩ c
 |.Contact,c,K=>popN .i64 c fun a0 c=>popN .i64 c fun a1 c=>popN .i64 c fun a2 c=>popN .i64 c fun a3 c=>popN .i64 c fun a4 c=>popN .i64 c fun a5 c=>K ⟨a0,a1,a2,a3,a4,a5⟩ c
 |.Dice,c,K=>popT .int c fun a0 c=>popN .i64 c fun a1 c=>K ⟨a0,a1⟩ c
 |.fence,c,K=>popN .i64 c fun a0 c=>popN .i64 c fun a1 c=>K ⟨a0,a1⟩ c
 |.worker,c,K=>popN .i64 c fun a0 c=>popT .Zone c fun a1 c=>popT .Person c fun a2 c=>popT .Calendar c fun a3 c=>popT .Schedule c fun a4 c=>popT .Team c fun a5 c=>popT .Policy c fun a6 c=>popT .Page c fun a7 c=>popN .i64 c fun a8 c=>popN .i64 c fun a9 c=>popT .int c fun a10 c=>popT .Call c fun a11 c=>K ⟨⟨a0,⟨a1,a2,a3,a4⟩,⟨a5,a6⟩,a7,a8,a9,a10,a11⟩⟩ c
 |.Date,c,K=>popN .i64 c fun a0 c=>popN .i64 c fun a1 c=>popN .i64 c fun a2 c=>K ⟨a0,a1,a2⟩ c
 |.Occurrence,c,K=>popN .i64 c fun a0 c=>popN .i64 c fun a1 c=>K ⟨a0,a1⟩ c
 |.Transition,c,K=>popN .i64 c fun a0 c=>popN .i64 c fun a1 c=>K ⟨a0,a1⟩ c
 |.occurrence,c,K=>popN .i64 c fun a0 c=>popN .i64 c fun a1 c=>K ⟨a0,a1⟩ c
 |.Table,c,K=>popN .i64 c fun a0 c=>popT .Transition c fun a1 c=>K ⟨a0,a1⟩ c
 |.View,c,K=>popT .Zone c fun a0 c=>popT .Person c fun a1 c=>popT .Calendar c fun a2 c=>popT .Schedule c fun a3 c=>popT .Table c fun a4 c=>K ⟨⟨a0,a1,a2,a3⟩,a4⟩ c
 |.Piece,c,K=>popN .i64 c fun a0 c=>popN .i64 c fun a1 c=>popN .i64 c fun a2 c=>K ⟨a0,a1,a2⟩ c
theorem Qck:∀(t:TC) {cs:List BV} {K:TT t→List BV→Option R},tpop t cs K=some r→∃x l,Le cs (tb t x++l)∧K x l=some r
 |.int,cs,K,h=>by
  obtain⟨a,_,rfl,h⟩:=Qb h
  exact⟨_,_,.refl _,h⟩
 |.str,cs,K,h=>by
  obtain⟨a,_,rfl,h⟩:=UJ h
  exact⟨_,_,.refl _,h⟩
 |.bool,cs,K,h=>by
  obtain⟨a,_,rfl,h⟩:=QjA h
  exact⟨_,_,.refl _,h⟩
 |.u8,cs,K,h=>by
  obtain⟨a,_,rfl,h⟩:=Qb h
  exact⟨_,_,.refl _,h⟩
 |.Arr3Int,cs,K,h=>by
  obtain⟨a0,_,rfl,h0⟩:=Qb h
  obtain⟨a1,_,rfl,h1⟩:=Qb h0
  obtain⟨a2,_,rfl,h2⟩:=Qb h1
  exact⟨⟨a0,a1,a2⟩,_,.cons' (.cons' (.cons' (.refl _))),h2⟩
 |.YearRule,cs,K,h=>by
  obtain⟨a0,_,rfl,h0⟩:=Qb h
  obtain⟨a1,_,rfl,h1⟩:=Qb h0
  obtain⟨a2,_,rfl,h2⟩:=Qb h1
  obtain⟨a3,_,rfl,h3⟩:=Qb h2
  obtain⟨a4,_,rfl,h4⟩:=Qb h3
  obtain⟨a5,_,rfl,h5⟩:=Qb h4
  obtain⟨a6,_,rfl,h6⟩:=Qb h5
  exact⟨⟨a0,a1,a2,a3,a4,a5,a6⟩,_,.cons' (.cons' (.cons' (.cons' (.cons' (.cons' (.cons' (.refl _))))))),h6⟩
 |.Zone,cs,K,h=>by
  obtain⟨a0,_,rfl,h0⟩:=UJ h
  obtain⟨a1,_,rfl,h1⟩:=Qb h0
  obtain⟨a2,_,_,rfl,ha2,h2⟩:=Qn h1
  exact⟨⟨a0,a1,a2⟩,_,.cons' (.cons' (.cons ha2 (.refl _))),h2⟩
 |.Window,cs,K,h=>by
  obtain⟨a0,_,rfl,h0⟩:=Qb h
  obtain⟨a1,_,rfl,h1⟩:=Qb h0
  exact⟨⟨a0,a1⟩,_,.cons' (.cons' (.refl _)),h1⟩
 |.Person,cs,K,h=>by
  obtain⟨a0,_,rfl,h0⟩:=UJ h
  obtain⟨a1,_,rfl,h1⟩:=Qb h0
  obtain⟨a2,_,_,rfl,ha2,h2⟩:=Qn h1
  obtain⟨a3,_,rfl,h3⟩:=Qb h2
  obtain⟨a4,_,rfl,h4⟩:=Qb h3
  obtain⟨a5,_,rfl,h5⟩:=QjA h4
  exact⟨⟨a0,a1,a2,a3,a4,a5⟩,_,.cons' (.cons' (.cons ha2 (.cons' (.cons' (.cons' (.refl _)))))),h5⟩
 |.Calendar,cs,K,h=>by
  obtain⟨a0,_,rfl,h0⟩:=UJ h
  obtain⟨a1,_,rfl,h1⟩:=Qb h0
  obtain⟨a2,_,_,rfl,ha2,h2⟩:=Qn h1
  exact⟨⟨a0,a1,a2⟩,_,.cons' (.cons' (.cons ha2 (.refl _))),h2⟩
 |.Local,cs,K,h=>by
  obtain⟨a0,_,rfl,h0⟩:=Qb h
  obtain⟨a1,_,rfl,h1⟩:=Qb h0
  exact⟨⟨a0,a1⟩,_,.cons' (.cons' (.refl _)),h1⟩
 |.Layer,cs,K,h=>by
  obtain⟨a0,_,rfl,h0⟩:=UJ h
  obtain⟨a1,_,rfl,h1⟩:=Qb h0
  obtain⟨a2,_,rfl,h2⟩:=Qb h1
  obtain⟨a3,_,rfl,h3⟩:=Qb h2
  obtain⟨a4,_,rfl,h4⟩:=Qb h3
  obtain⟨a5,_,rfl,h5⟩:=Qb h4
  obtain⟨a6,_,_,rfl,ha6,h6⟩:=Qn h5
  obtain⟨a7,_,_,rfl,ha7,h7⟩:=Qn h6
  obtain⟨a8,_,rfl,h8⟩:=Qb h7
  obtain⟨a9,_,rfl,h9⟩:=Qb h8
  exact⟨⟨a0,a1,⟨a2,a3⟩,a4,a5,a6,a7,a8,a9⟩,_,.cons' (.cons' (.cons' (.cons' (.cons' (.cons' (.cons ha6 (.cons ha7 (.cons' (.cons' (.refl _)))))))))),h9⟩
 |.Edit,cs,K,h=>by
  obtain⟨a0,_,rfl,h0⟩:=Qb h
  obtain⟨a1,_,rfl,h1⟩:=Qb h0
  obtain⟨a2,_,rfl,h2⟩:=Qb h1
  obtain⟨a3,_,rfl,h3⟩:=Qb h2
  obtain⟨a4,_,rfl,h4⟩:=Qb h3
  exact⟨⟨a0,a1,a2,a3,a4⟩,_,.cons' (.cons' (.cons' (.cons' (.cons' (.refl _))))),h4⟩
 |.Schedule,cs,K,h=>by
  obtain⟨a0,_,rfl,h0⟩:=UJ h
  obtain⟨a1,_,_,rfl,ha1,h1⟩:=Qn h0
  obtain⟨a2,_,_,rfl,ha2,h2⟩:=Qn h1
  exact⟨⟨a0,a1,a2⟩,_,.cons' (.cons ha1 (.cons ha2 (.refl _))),h2⟩
 |.Config,cs,K,h=>by
  obtain⟨a0,_,_,rfl,ha0,h0⟩:=Qn h
  obtain⟨a1,_,_,rfl,ha1,h1⟩:=Qn h0
  obtain⟨a2,_,_,rfl,ha2,h2⟩:=Qn h1
  obtain⟨a3,_,_,rfl,ha3,h3⟩:=Qn h2
  exact⟨⟨a0,a1,a2,a3⟩,_,.cons ha0 (.cons ha1 (.cons ha2 (.cons ha3 (.refl _)))),h3⟩
 |.Team,cs,K,h=>by
  obtain⟨a0,_,rfl,h0⟩:=UJ h
  obtain⟨a1,_,_,rfl,ha1,h1⟩:=Qn h0
  exact⟨⟨a0,a1⟩,_,.cons' (.cons ha1 (.refl _)),h1⟩
 |.Target,cs,K,h=>by
  obtain⟨a0,_,rfl,h0⟩:=Qb h
  obtain⟨a1,_,rfl,h1⟩:=Qb h0
  exact⟨⟨a0,a1⟩,_,.cons' (.cons' (.refl _)),h1⟩
 |.PolicyStep,cs,K,h=>by
  obtain⟨a0,_,rfl,h0⟩:=Qb h
  obtain⟨a1,_,rfl,h1⟩:=QjA h0
  obtain⟨a2,_,_,rfl,ha2,h2⟩:=Qn h1
  exact⟨⟨a0,a1,a2⟩,_,.cons' (.cons' (.cons ha2 (.refl _))),h2⟩
 |.Policy,cs,K,h=>by
  obtain⟨a0,_,rfl,h0⟩:=UJ h
  obtain⟨a1,_,_,rfl,ha1,h1⟩:=Qn h0
  obtain⟨a2,_,rfl,h2⟩:=Qb h1
  exact⟨⟨a0,a1,a2⟩,_,.cons' (.cons ha1 (.cons' (.refl _))),h2⟩
 |.Book,cs,K,h=>by
  obtain⟨a0,_,_,rfl,ha0,h0⟩:=Qn h
  obtain⟨a1,_,_,rfl,ha1,h1⟩:=Qn h0
  exact⟨⟨a0,a1⟩,_,.cons ha0 (.cons ha1 (.refl _)),h1⟩
 |.Start,cs,K,h=>by
  obtain⟨a0,_,rfl,h0⟩:=Qb h
  obtain⟨a1,_,rfl,h1⟩:=Qb h0
  obtain⟨a2,_,_,rfl,ha2,h2⟩:=Qn h1
  exact⟨⟨a0,a1,a2⟩,_,.cons' (.cons' (.cons ha2 (.refl _))),h2⟩
 |.Page,cs,K,h=>by
  obtain⟨a0,_,rfl,h0⟩:=Qb h
  obtain⟨a1,_,rfl,h1⟩:=Qb h0
  obtain⟨a2,_,rfl,h2⟩:=Qb h1
  obtain⟨a3,_,rfl,h3⟩:=Qb h2
  obtain⟨a4,_,rfl,h4⟩:=Qb h3
  obtain⟨a5,_,rfl,h5⟩:=Qb h4
  obtain⟨a6,_,rfl,h6⟩:=Qb h5
  obtain⟨a7,_,rfl,h7⟩:=Qb h6
  obtain⟨a8,_,rfl,h8⟩:=Qb h7
  obtain⟨a9,_,rfl,h9⟩:=Qb h8
  obtain⟨a10,_,rfl,h10⟩:=Qb h9
  obtain⟨a11,_,_,rfl,ha11,h11⟩:=Qn h10
  obtain⟨a12,_,_,rfl,ha12,h12⟩:=Qn h11
  obtain⟨a13,_,_,rfl,ha13,h13⟩:=Qn h12
  exact⟨⟨a0,a1,a2,a3,a4,a5,a6,a7,a8,a9,a10,a11,a12,a13⟩,_,.cons' (.cons' (.cons' (.cons' (.cons' (.cons' (.cons' (.cons' (.cons' (.cons' (.cons' (.cons ha11 (.cons ha12 (.cons ha13 (.refl _)))))))))))))),h13⟩
 |.Call,cs,K,h=>by
  obtain⟨a0,_,rfl,h0⟩:=Qb h
  obtain⟨a1,_,rfl,h1⟩:=Qb h0
  obtain⟨a2,_,rfl,h2⟩:=Qb h1
  obtain⟨a3,_,rfl,h3⟩:=Qb h2
  obtain⟨a4,_,rfl,h4⟩:=Qb h3
  exact⟨⟨a0,a1,a2,a3,a4⟩,_,.cons' (.cons' (.cons' (.cons' (.cons' (.refl _))))),h4⟩
 |.Ledger,cs,K,h=>by
  obtain⟨a0,_,rfl,h0⟩:=Qb h
  obtain⟨a1,_,_,rfl,ha1,h1⟩:=Qn h0
  obtain⟨a2,_,_,rfl,ha2,h2⟩:=Qn h1
  obtain⟨a3,_,_,rfl,ha3,h3⟩:=Qn h2
  obtain⟨a4,_,_,rfl,ha4,h4⟩:=Qn h3
  obtain⟨a5,_,_,rfl,ha5,h5⟩:=Qn h4
  obtain⟨a6,_,_,rfl,ha6,h6⟩:=Qn h5
  obtain⟨a7,_,_,rfl,ha7,h7⟩:=Qn h6
  obtain⟨a8,_,rfl,h8⟩:=Qb h7
  obtain⟨a9,_,rfl,h9⟩:=Qb h8
  obtain⟨a10,_,_,rfl,ha10,h10⟩:=Qn h9
  obtain⟨a11,_,_,rfl,ha11,h11⟩:=Qn h10
  exact⟨⟨a0,⟨a1,a2,a3,a4⟩,⟨a5,a6⟩,a7,a8,a9,a10,a11⟩,_,.cons' (.cons ha1 (.cons ha2 (.cons ha3 (.cons ha4 (.cons ha5 (.cons ha6 (.cons ha7 (.cons' (.cons' (.cons ha10 (.cons ha11 (.refl _)))))))))))),h11⟩
 |.Answer,cs,K,h=>by
  obtain⟨a0,_,rfl,h0⟩:=Qb h
  obtain⟨a1,_,rfl,h1⟩:=Qb h0
  obtain⟨a2,_,rfl,h2⟩:=Qb h1
  obtain⟨a3,_,rfl,h3⟩:=Qb h2
  obtain⟨a4,_,rfl,h4⟩:=Qb h3
  obtain⟨a5,_,rfl,h5⟩:=Qb h4
  exact⟨⟨a0,a1,a2,a3,a4,a5⟩,_,.cons' (.cons' (.cons' (.cons' (.cons' (.cons' (.refl _)))))),h5⟩
 |.Op,cs,K,h=>by
  obtain⟨a0,_,rfl,h0⟩:=Qb h
  obtain⟨a1,_,rfl,h1⟩:=Qb h0
  obtain⟨a2,_,rfl,h2⟩:=Qb h1
  obtain⟨a3,_,rfl,h3⟩:=Qb h2
  obtain⟨a4,_,rfl,h4⟩:=Qb h3
  obtain⟨a5,_,rfl,h5⟩:=Qb h4
  obtain⟨a6,_,rfl,h6⟩:=Qb h5
  obtain⟨a7,_,rfl,h7⟩:=Qb h6
  obtain⟨a8,_,rfl,h8⟩:=Qb h7
  obtain⟨a9,_,rfl,h9⟩:=Qb h8
  obtain⟨a10,_,rfl,h10⟩:=Qb h9
  obtain⟨a11,_,rfl,h11⟩:=Qb h10
  obtain⟨a12,_,rfl,h12⟩:=Qb h11
  obtain⟨a13,_,rfl,h13⟩:=Qb h12
  obtain⟨a14,_,rfl,h14⟩:=Qb h13
  obtain⟨a15,_,rfl,h15⟩:=Qb h14
  obtain⟨a16,_,rfl,h16⟩:=Qb h15
  obtain⟨a17,_,rfl,h17⟩:=Qb h16
  obtain⟨a18,_,rfl,h18⟩:=Qb h17
  obtain⟨a19,_,rfl,h19⟩:=Qb h18
  exact⟨⟨a0,a1,a2,a3,a4,a5,a6,a7,a8,⟨a9,a10,a11,a12,a13,a14⟩,⟨a15,a16,a17,a18,a19⟩⟩,_,.cons' (.cons' (.cons' (.cons' (.cons' (.cons' (.cons' (.cons' (.cons' (.cons' (.cons' (.cons' (.cons' (.cons' (.cons' (.cons' (.cons' (.cons' (.cons' (.cons' (.refl _)))))))))))))))))))),h19⟩
 |.Contact,cs,K,h=>by
  obtain⟨a0,_,rfl,h0⟩:=Qb h
  obtain⟨a1,_,rfl,h1⟩:=Qb h0
  obtain⟨a2,_,rfl,h2⟩:=Qb h1
  obtain⟨a3,_,rfl,h3⟩:=Qb h2
  obtain⟨a4,_,rfl,h4⟩:=Qb h3
  obtain⟨a5,_,rfl,h5⟩:=Qb h4
  exact⟨⟨a0,a1,a2,a3,a4,a5⟩,_,.cons' (.cons' (.cons' (.cons' (.cons' (.cons' (.refl _)))))),h5⟩
 |.Dice,cs,K,h=>by
  obtain⟨a0,_,_,rfl,ha0,h0⟩:=Qn h
  obtain⟨a1,_,rfl,h1⟩:=Qb h0
  exact⟨⟨a0,a1⟩,_,.cons ha0 (.cons' (.refl _)),h1⟩
 |.fence,cs,K,h=>by
  obtain⟨a0,_,rfl,h0⟩:=Qb h
  obtain⟨a1,_,rfl,h1⟩:=Qb h0
  exact⟨⟨a0,a1⟩,_,.cons' (.cons' (.refl _)),h1⟩
 |.worker,cs,K,h=>by
  obtain⟨a0,_,rfl,h0⟩:=Qb h
  obtain⟨a1,_,_,rfl,ha1,h1⟩:=Qn h0
  obtain⟨a2,_,_,rfl,ha2,h2⟩:=Qn h1
  obtain⟨a3,_,_,rfl,ha3,h3⟩:=Qn h2
  obtain⟨a4,_,_,rfl,ha4,h4⟩:=Qn h3
  obtain⟨a5,_,_,rfl,ha5,h5⟩:=Qn h4
  obtain⟨a6,_,_,rfl,ha6,h6⟩:=Qn h5
  obtain⟨a7,_,_,rfl,ha7,h7⟩:=Qn h6
  obtain⟨a8,_,rfl,h8⟩:=Qb h7
  obtain⟨a9,_,rfl,h9⟩:=Qb h8
  obtain⟨a10,_,_,rfl,ha10,h10⟩:=Qn h9
  obtain⟨a11,_,_,rfl,ha11,h11⟩:=Qn h10
  exact⟨⟨⟨a0,⟨a1,a2,a3,a4⟩,⟨a5,a6⟩,a7,a8,a9,a10,a11⟩⟩,_,.cons' (.cons ha1 (.cons ha2 (.cons ha3 (.cons ha4 (.cons ha5 (.cons ha6 (.cons ha7 (.cons' (.cons' (.cons ha10 (.cons ha11 (.refl _)))))))))))),h11⟩
 |.Date,cs,K,h=>by
  obtain⟨a0,_,rfl,h0⟩:=Qb h
  obtain⟨a1,_,rfl,h1⟩:=Qb h0
  obtain⟨a2,_,rfl,h2⟩:=Qb h1
  exact⟨⟨a0,a1,a2⟩,_,.cons' (.cons' (.cons' (.refl _))),h2⟩
 |.Occurrence,cs,K,h=>by
  obtain⟨a0,_,rfl,h0⟩:=Qb h
  obtain⟨a1,_,rfl,h1⟩:=Qb h0
  exact⟨⟨a0,a1⟩,_,.cons' (.cons' (.refl _)),h1⟩
 |.Transition,cs,K,h=>by
  obtain⟨a0,_,rfl,h0⟩:=Qb h
  obtain⟨a1,_,rfl,h1⟩:=Qb h0
  exact⟨⟨a0,a1⟩,_,.cons' (.cons' (.refl _)),h1⟩
 |.occurrence,cs,K,h=>by
  obtain⟨a0,_,rfl,h0⟩:=Qb h
  obtain⟨a1,_,rfl,h1⟩:=Qb h0
  exact⟨⟨a0,a1⟩,_,.cons' (.cons' (.refl _)),h1⟩
 |.Table,cs,K,h=>by
  obtain⟨a0,_,rfl,h0⟩:=Qb h
  obtain⟨a1,_,_,rfl,ha1,h1⟩:=Qn h0
  exact⟨⟨a0,a1⟩,_,.cons' (.cons ha1 (.refl _)),h1⟩
 |.View,cs,K,h=>by
  obtain⟨a0,_,_,rfl,ha0,h0⟩:=Qn h
  obtain⟨a1,_,_,rfl,ha1,h1⟩:=Qn h0
  obtain⟨a2,_,_,rfl,ha2,h2⟩:=Qn h1
  obtain⟨a3,_,_,rfl,ha3,h3⟩:=Qn h2
  obtain⟨a4,_,_,rfl,ha4,h4⟩:=Qn h3
  exact⟨⟨⟨a0,a1,a2,a3⟩,a4⟩,_,.cons ha0 (.cons ha1 (.cons ha2 (.cons ha3 (.cons ha4 (.refl _))))),h4⟩
 |.Piece,cs,K,h=>by
  obtain⟨a0,_,rfl,h0⟩:=Qb h
  obtain⟨a1,_,rfl,h1⟩:=Qb h0
  obtain⟨a2,_,rfl,h2⟩:=Qb h1
  exact⟨⟨a0,a1,a2⟩,_,.cons' (.cons' (.cons' (.refl _))),h2⟩
end
/-
  The typed layer, part B: states, weaker states, headers that grow stale, arrays that are frozen. No project text.
-/
section
theorem Sim.leS{Γ:Ctx}{s s':AS}{ρ:Name→Loc}{M:Nat→Prop}{a:Act}{w:World}(h:Sim Γ ρ M s a w)(h1:∀t y,s'.slot t=some y→∃x,s.slot t=some x∧AVle x y)(h2:∀n,(∀y,s'.heap n=some y→∃x,s.heap n=some x∧AOle x y)∧(∀x,s.heap n=some x→∃y,s'.heap n=some y∧AOle x y))(hf:∀n x y,s.heap n=some x→s'.heap n=some y→x=y∨(∃cs ds,x=.box cs∧y=.box ds)∨(∃es rs qs,x=.arr es rs∧y=.arr es qs)):Sim Γ ρ M s' a w:=by
 have hst:Qcn ρ s.heap ρ s'.heap:=fun n ob hn=>by
  obtain⟨y,hy,hle⟩:=(h2 n).2 ob hn
  rw[hy]
  exact Qik hle (Ze _ _)
 have hnn:∀n,s.heap n=none→s'.heap n=none:=fun n hn=>by
  cases hc:s'.heap n with
  |none=>rfl
  |some y=>
   obtain⟨x,hx,_⟩:=(h2 n).1 y hc
   rw[hx]at hn;simp at hn
 have hconv:∀{x:AV} {u:Value},x.R ρ s.heap M w u→x.R ρ s'.heap M w u:=fun hr=>
  hr.step (Ext.refl (fun _=>False) _) (fun _ hb=>hb.elim) (fun b _ hb=>hb) hst (fun n _=>hnn n)
 have hconvs:∀{xs:List AV} {us:List Value},AV.Rs ρ s.heap M w xs us→AV.Rs ρ s'.heap M w xs us:=fun hr=>
  hr.step (Ext.refl (fun _=>False) _) (fun _ hb=>hb.elim) (fun b _ hb=>hb) hst (fun n _=>hnn n)
 refine⟨h.n,h.d,fun t y hy=>?_,fun n y hy=>?_,fun n m o o' b g1 g2=>?_,fun n o b g1 g2=>?_,fun n hn=>?_,h.ext,h.mext,h.msize,h.m0,h.ground⟩
 ·obtain⟨x,hx,hle⟩:=h1 t y hy
  obtain⟨u,hu,hr⟩:=h.slots t x hx
  exact⟨u,hu,hle.sound u (hconv hr)⟩
 ·obtain⟨x,hx,hle⟩:=(h2 n).1 y hy
  have hobj:=h.objs n x hx
  rcases hf n x y hx hy with rfl|⟨cs,ds,rfl,rfl⟩|⟨es,rs,qs,rfl,rfl⟩
  ·cases x with
   |box cells=>obtain⟨b,T,cs,k1,k2,k3,k4⟩:=hobj;exact⟨b,T,cs,k1,k2,k3,hconvs k4⟩
   |arr es rows=>exact hobj
   |hole es pre row post=>obtain⟨k0,k0',k1,b,T,cs,k3,k4,k5,k6,k7,k8,k9⟩:=hobj;exact⟨k0,k0',k1,b,T,cs,k3,k4,k5,k6,k7,hconvs k8,k9⟩
   |fact a x=>exact⟨hobj.1,hconv hobj.2⟩
   |obj x=>exact hobj
  ·obtain⟨b,T,us,k1,k2,k3,k4⟩:=hobj
   refine⟨b,T,us,k1,k2,k3,?_⟩
   cases hle with
   |refl=>exact hconvs k4
   |box hb=>exact QrV hb _ (hconvs k4)
  ·cases hle with
   |refl=>exact hobj
   |arr hr=>
    obtain⟨k0,k1,k2⟩:=hobj
    refine⟨k0,by rw[←hr.length];exact k1,k2.imp id ?_⟩
    rintro⟨b,T,cs,q1,q2,q3,q4,q5⟩
    exact⟨b,T,cs,q1,q2,q3,q4,hr.rows q5⟩
 ·obtain⟨x,hx,_⟩:=(h2 n).1 o g1
  obtain⟨x',hx',_⟩:=(h2 m).1 o' g2
  exact h.inj n m x x' b hx hx'
 ·obtain⟨x,hx,_⟩:=(h2 n).1 o g1
  exact h.own0 n x b hx g2
 ·obtain⟨x,hx,hst'⟩:=h.keep n hn
  obtain⟨y,hy,hle⟩:=(h2 n).2 x hx
  exact⟨y,hy,Qik hle hst'⟩
def Inv(L:Lens)(hs:HS):Prop:=∀n t l v,look n hs=some (.arr t l v)→L n v=l.length
def BS(L:Lens)(ts:TS)(hs:HS):AS:=mk (erT L ts) (erH L hs)
variable {L L':Lens} {ts ts':TS} {hs hs':HS}
theorem XV(t:Nat):(BS L ts hs).slot t=(look t ts).map (BV.er L):=Qae t ts
theorem X7(n:Nat):(BS L ts hs).heap n=(look n hs).map (BO.er L):=Z2 n hs
theorem QmI{t:Nat}{y:AV}(h:(BS L ts hs).slot t=some y):∃v,look t ts=some v∧y=v.er L:=by
 rw[XV]at h
 cases hl:look t ts with
 |none=>rw[hl]at h;simp at h
 |some v=>rw[hl]at h;exact⟨v,rfl,by simpa using h.symm⟩
theorem QgU{t:Nat}{y:AO}(h:(BS L ts hs).heap t=some y):∃v,look t hs=some v∧y=v.er L:=by
 rw[X7]at h
 cases hl:look t hs with
 |none=>rw[hl]at h;simp at h
 |some v=>rw[hl]at h;exact⟨v,rfl,by simpa using h.symm⟩
structure SLe (L:Lens) (ts:TS) (hs:HS) (L':Lens) (ts':TS) (hs':HS):Prop where
 slot:∀t y,look t ts'=some y→∃x,look t ts=some x∧AVle (x.er L) (y.er L')
 box:∀n cs',look n hs'=some (.box cs')→∃cs,look n hs=some (.box cs)∧Xx (erL L cs) (erL L' cs')
 arr:∀n t l v,look n hs'=some (.arr t l v)→∃u,look n hs=some (.arr t l u)
 sm:∀n es,look n hs'=some (.sm es)→look n hs=some (.sm es)
theorem Sim.sle{Γ:Ctx}{ρ:Name→Loc}{M:Nat→Prop}{a:Act}{w:World}(h:Sim Γ ρ M (BS L ts hs) a w)(h':SLe L ts hs L' ts' hs')(hk:∀n,n∈Γ.names→look n hs'≠none):Sim Γ ρ M (BS L' ts' hs') a w:=by
 have ho:∀n y,look n hs'=some y→∃x,look n hs=some x∧AOle (x.er L) (y.er L')∧(x.er L=y.er L'∨(∃cs ds,x.er L=.box cs∧y.er L'=.box ds)∨∃es rs qs,x.er L=.arr es rs∧y.er L'=.arr es qs):=fun n y hy=>by
  cases y with
  |box cs'=>obtain⟨cs,g1,g2⟩:=h'.box n cs' hy;exact⟨_,g1,.box g2,.inr (.inl ⟨_,_,rfl,rfl⟩)⟩
  |arr t l v=>obtain⟨u,hu⟩:=h'.arr n t l v hy;exact⟨_,hu,.refl _,.inl rfl⟩
  |sm es=>exact⟨_,h'.sm n es hy,.refl _,.inl rfl⟩
 have h0:Sim Γ ρ M ⟨(BS L ts hs).slot,fun n=>if (look n hs').isSome then(BS L ts hs).heap n else none⟩ a w:=by
  refine h.forget (fun t x hx=>hx) (fun n o hn=>?_) (fun n hn hc=>?_)
  ·simp only at hn
   split at hn
   ·exact hn
   ·simp at hn
  ·cases hl:look n hs' with
   |none=>exact hk n hn hl
   |some y=>
    obtain⟨x,hx,_⟩:=ho n y hl
    simp only[hl,Option.isSome_some,if_true,X7,hx,Option.map_some,reduceCtorEq]at hc
 refine h0.leS (fun t y hy=>?_) (fun n=>⟨fun y hy=>?_,fun x hx=>?_⟩) (fun n x y hx hy=>?_)
 ·obtain⟨v,hv,rfl⟩:=QmI hy
  obtain⟨x,hx,hle⟩:=h'.slot t v hv
  exact⟨x.er L,by show(BS L ts hs).slot t=_;rw[XV,hx];rfl,hle⟩
 ·obtain⟨v,hv,rfl⟩:=QgU hy
  obtain⟨x,hx,hle,_⟩:=ho n v hv
  exact⟨x.er L,by simp only[hv,Option.isSome_some,if_true,X7,hx,Option.map_some],hle⟩
 ·simp only at hx
  split at hx
  ·rename_i hs
   obtain⟨y,hy⟩:=Option.isSome_iff_exists.1 hs
   obtain⟨v,hv,rfl⟩:=QgU hx
   obtain⟨x,hx',hle,_⟩:=ho n y hy
   rw[hv]at hx';cases hx'
   exact⟨y.er L',by rw[X7,hy];rfl,hle⟩
  ·simp at hx
 ·simp only at hx
  split at hx
  ·obtain⟨v,hv,rfl⟩:=QgU hx
   obtain⟨y',hy',rfl⟩:=QgU hy
   obtain⟨x,hx',_,h3⟩:=ho n y' hy'
   rw[hv]at hx';cases hx'
   exact h3
  ·simp at hx
theorem QnM{f:BV→BV}(k:Nat):∀ts:TS,look k (ts.map fun p=>(p.1,f p.2))=(look k ts).map f
 |[]=>rfl
 |(j,x)::r=>by
  show look k ((j,f x)::r.map fun p=>(p.1,f p.2))=(look k ((j,x)::r)).map f
  simp only[look];split
  ·rfl
  ·exact QnM k r
def isIn(m:Name)(ns:List Name):Bool:=ns.any fun n=>Nat.beq n m
theorem Wt{m:Name}{ns:List Name}:isIn m ns=true↔m∈ns:=by
 unfold isIn;rw[List.any_eq_true]
 exact⟨fun⟨n,h1,h2⟩=>by rw[←nbe h2];exact h1,fun h=>⟨m,h,Nat.beq_refl _⟩⟩
mutual
def BV.frz(n:Name)(v:Nat)(t:TC)(l:List (TT t)):BV→BV
 |.own m u=>if Nat.beq m n then(if Nat.beq u v then .ts false t l else .any)else .own m u
 |.aref m u i o=>if Nat.beq m n then .any else .aref m u i o
 |.view m u i o=>if Nat.beq m n then(if Nat.beq u v then .ts false t ((l.take o).drop i)else .any)else .view m u i o
 |.agg cs=>.agg (frzL n v t l cs)
 |x=>x
def frzL(n:Name)(v:Nat)(t:TC)(l:List (TT t)):List BV→List BV
 |[]=>[]
 |x::r=>BV.frz n v t l x::frzL n v t l r
end
mutual
def BV.sh(n:Name)(v:Nat):BV→BV
 |.own m u=>if Nat.beq m n then(if Nat.beq u v then .own m u else .any)else .own m u
 |.aref m u i o=>if Nat.beq m n then .any else .aref m u i o
 |.view m u i o=>if Nat.beq m n then(if Nat.beq u v then .view m u i o else .any)else .view m u i o
 |.agg cs=>.agg (shL n v cs)
 |x=>x
def shL(n:Name)(v:Nat):List BV→List BV
 |[]=>[]
 |x::r=>BV.sh n v x::shL n v r
end
def QeX(n:Name)(c:BV):Bool:=match c with
 |.own _ _=>true
 |.aref _ _ _ _=>true
 |.view _ _ _ _=>true
 |.agg _=>false
 |x=>!x.has n
def BV.fzOK(n:Name):BV→Bool
 |.agg cs=>cs.all (QeX n)
 |x=>QeX n x
def BO.frz(n:Name)(v:Nat)(t:TC)(l:List (TT t)):BO→BO
 |.box cs=>.box (frzL n v t l cs)
 |.arr t l v=>.arr t l v
 |.sm es=>.sm es
def BO.sh(n:Name)(v:Nat):BO→BO
 |.box cs=>.box (shL n v cs)
 |.arr t l v=>.arr t l v
 |.sm es=>.sm es
def BO.fzOK(n:Name):BO→Bool
 |.box cs=>cs.all (QeX n)
 |.arr _ _ _=>true
 |.sm _=>true
def fzT(n:Name)(v:Nat)(t:TC)(l:List (TT t))(ts:TS):TS:=ts.map fun p=>(p.1,p.2.frz n v t l)
def fzH(n:Name)(v:Nat)(t:TC)(l:List (TT t)):HS→HS
 |[]=>[]
 |(k,o)::r=>if Nat.beq k n then fzH n v t l r else(k,o.frz n v t l)::fzH n v t l r
def fzB(n:Name)(ts:TS)(hs:HS):Bool:=ts.all (fun p=>p.2.fzOK n) && hs.all (fun p=>p.2.fzOK n)
section
variable {n:Name} {v:Nat} {t:TC} {l:List (TT t)}
theorem QtZ{x:BV}:QeX n x=true→AVle (x.er L) ((x.sh n v).er L):=by
 intro h
 cases x with
 |own m u=>
  simp only[BV.sh]
  split
  ·split
   ·exact .refl _
   ·simp only[BV.er];exact .any rfl (by simp)
  ·exact .refl _
 |aref m u i o=>
  simp only[BV.sh]
  split
  ·simp only[BV.er];exact .any rfl (by simp)
  ·exact .refl _
 |view m u i o=>
  simp only[BV.sh]
  split
  ·split
   ·exact .refl _
   ·simp only[BV.er];exact .any rfl (by simp)
  ·exact .refl _
 |agg cs=>simp[QeX]at h
 |_=>simp only[BV.sh];exact .refl _
theorem Qij:∀{cs:List BV},cs.all (QeX n)=true→Xx (erL L cs) (erL L (shL n v cs))
 |[],_=>by simp only[shL,erL];exact .nil
 |x::r,h=>by
  simp only[List.all_cons,bae]at h
  simp only[shL,erL]
  exact .cons (QtZ h.1) (Qij h.2)
theorem Qyd{x:BV}(h:x.fzOK n=true):AVle (x.er L) ((x.sh n v).er L):=by
 cases x with
 |agg cs=>simp only[BV.sh,BV.er];exact .agg (Qij h)
 |_=>exact QtZ h
theorem Qqd{px:Value→Prop}{x:BV}(h:QeX n x=true)(hL:L n v=(l.map (tcells t)).length):Frz px n (tz t) (l.map (tcells t)) ((x.sh n v).er L) ((x.frz n v t l).er L):=by
 cases x with
 |own m u=>
  simp only[BV.sh,BV.frz]
  split
  ·split
   ·rename_i e1 e2
    have:=nbe e1;subst this
    have:=nbe e2;subst this
    simp only[BV.er,hL];exact .own
   ·exact .same (by simp only[BV.er,AV.has])
  ·rename_i hne
   have:m≠n:=fun e=>by subst e;simp at hne
   exact .same (by simp only[BV.er,AV.has];simpa using this)
 |aref m u i o=>
  simp only[BV.sh,BV.frz]
  split
  ·exact .same (by simp only[BV.er,AV.has])
  ·rename_i hne
   have:m≠n:=fun e=>by subst e;simp at hne
   exact .same (by simp only[BV.er,AV.has];simpa using this)
 |view m u i o=>
  simp only[BV.sh,BV.frz]
  split
  ·split
   ·rename_i e1 e2
    have:=nbe e1;subst this
    have:=nbe e2;subst this
    simp only[BV.er,hL,List.map_drop,List.map_take];exact .view
   ·exact .same (by simp only[BV.er,AV.has])
  ·rename_i hne
   have:m≠n:=fun e=>by subst e;simp at hne
   exact .same (by simp only[BV.er,AV.has];simpa using this)
 |agg cs=>simp[QeX]at h
 |_=>simp only[BV.sh,BV.frz];exact .same (by rw[Qqi];simpa only[QeX,Bool.not_eq_true']using h)
theorem Qjd{px:Value→Prop}(hL:L n v=(l.map (tcells t)).length):∀{cs:List BV},cs.all (QeX n)=true→FrzL px n (tz t) (l.map (tcells t)) (erL L (shL n v cs)) (erL L (frzL n v t l cs))
 |[],_=>by simp only[erL,shL,frzL];exact .nil
 |x::r,h=>by
  simp only[List.all_cons,bae]at h
  simp only[erL,shL,frzL]
  exact .cons (Qqd h.1 hL) (Qjd hL h.2)
theorem QwT{px:Value→Prop}{x:BV}(h:x.fzOK n=true)(hL:L n v=(l.map (tcells t)).length):Frz px n (tz t) (l.map (tcells t)) ((x.sh n v).er L) ((x.frz n v t l).er L):=by
 cases x with
 |agg cs=>simp only[BV.sh,BV.frz,BV.er];exact .agg (Qjd hL h)
 |_=>exact Qqd h hL
theorem QpY{px:Value→Prop}(hL:L n v=(l.map (tcells t)).length):∀{ts:TS},ts.all (fun p=>p.2.fzOK n)=true→QgD px n (tz t) (l.map (tcells t)) (erT L (ts.map fun p=>(p.1,p.2.sh n v))) (erT L (fzT n v t l ts))
 |[],_=>trivial
 |(k,x)::r,h=>by
  simp only[List.all_cons,bae]at h
  exact⟨rfl,QwT h.1 hL,QpY hL h.2⟩
def delH(n:Name)(v:Nat):HS→HS
 |[]=>[]
 |(k,o)::r=>if Nat.beq k n then delH n v r else(k,o.sh n v)::delH n v r
theorem Qli{px:Value→Prop}(hL:L n v=(l.map (tcells t)).length):∀{hs:HS},hs.all (fun p=>p.2.fzOK n)=true→QgC px n (tz t) (l.map (tcells t)) (erH L (delH n v hs)) (erH L (fzH n v t l hs))
 |[],_=>trivial
 |(k,o)::r,h=>by
  simp only[List.all_cons,bae]at h
  simp only[delH,fzH]
  split
  ·exact Qli hL h.2
  ·rename_i hne
   refine⟨rfl,fun(e:k=n)=>hne (by simp[e]),?_,Qli hL h.2⟩
   cases o with
   |box cs=>exact .box (Qjd hL h.1)
   |arr t' l'=>exact .same rfl
   |sm es=>exact .same rfl
theorem Qjl(n k:Nat)(hs:HS):look k (delH n v hs)=if k=n then none else(look k hs).map (BO.sh n v):=by
 induction hs with
 |nil=>simp[delH,look]
 |cons p r ih=>
  obtain⟨j,o⟩:=p
  simp only[delH]
  split
  ·rename_i e
   have:=nbe e;subst this
   rw[ih]
   simp only[look]
   by_cases h:k=j
   ·simp[h]
   ·simp[h,Ne.symm h]
  ·rename_i e
   simp only[look]
   split
   ·rename_i e';subst e'
    rw[if_neg (fun h=>e (by simp[h]))];rfl
   ·exact ih
theorem Qqn(n k:Nat)(hs:HS):look k (fzH n v t l hs)=if k=n then none else(look k hs).map (BO.frz n v t l):=by
 induction hs with
 |nil=>simp[fzH,look]
 |cons p r ih=>
  obtain⟨j,o⟩:=p
  simp only[fzH]
  split
  ·rename_i e
   have:=nbe e;subst this
   rw[ih]
   simp only[look]
   by_cases h:k=j
   ·simp[h]
   ·simp[h,Ne.symm h]
  ·rename_i e
   simp only[look]
   split
   ·rename_i e';subst e'
    rw[if_neg (fun h=>e (by simp[h]))];rfl
   ·exact ih
theorem Sim.frz{Γ:Ctx}{ρ:Name→Loc}{M:Nat→Prop}{a:Act}{w:World}(h:Sim Γ ρ M (BS L ts hs) a w)(hi:Inv L hs)(hn:n∉Γ.names)(hl:look n hs=some (.arr t l v))(hb:fzB n ts hs=true):
  (∃ρ' M',Sim Γ ρ' M' (BS L (fzT n v t l ts) (fzH n v t l hs)) a w)∧Inv L (fzH n v t l hs):=by
 simp only[fzB,bae]at hb
 have hL:L n v=(l.map (tcells t)).length:=by rw[hi n t l v hl,List.length_map]
 have h1:Sim Γ ρ M (AM.mk (erT L (ts.map fun p=>(p.1,p.2.sh n v))) ((n,.arr (tz t) (l.map (tcells t)))::erH L (delH n v hs))) a w:=by
  refine h.leS (fun k y hy=>?_) (fun k=>⟨fun y hy=>?_,fun x hx=>?_⟩) (fun k x y hx hy=>?_)
  ·obtain⟨y',hy',rfl⟩:=QmI (L:=L) (hs:=hs) hy
   rw[QnM]at hy'
   cases hx:look k ts with
   |none=>rw[hx]at hy';simp at hy'
   |some x=>
    rw[hx]at hy'
    simp only[Option.map_some,Option.some.injEq]at hy'
    subst hy'
    exact⟨x.er L,by rw[XV,hx];rfl,Qyd (List.all_eq_true.1 hb.1 _ (Q0 hx))⟩
  ·simp only[AM.mk,look]at hy
   split at hy
   ·rename_i e;subst e;cases hy;exact⟨_,by rw[X7,hl];rfl,.refl _⟩
   ·rename_i e
    rw[Z2,Qjl,if_neg (Ne.symm e)]at hy
    cases hx:look k hs with
    |none=>rw[hx]at hy;simp at hy
    |some x=>
     rw[hx]at hy
     simp only[Option.map_some,Option.some.injEq]at hy
     subst hy
     refine⟨x.er L,by rw[X7,hx];rfl,?_⟩
     have hx':=List.all_eq_true.1 hb.2 _ (Q0 hx)
     cases x with
     |box cs=>exact .box (Qij hx')
     |arr t l=>exact .refl _
     |sm es=>exact .refl _
  ·obtain⟨x',hx',rfl⟩:=QgU hx
   by_cases e:n=k
   ·subst e;rw[hl]at hx';cases hx';exact⟨_,by simp only[AM.mk,look,if_true];rfl,.refl _⟩
   ·refine⟨(x'.sh n v).er L,by simp only[AM.mk,look,if_neg e,Z2,Qjl,if_neg (Ne.symm e),hx'];rfl,?_⟩
    have hx'':=List.all_eq_true.1 hb.2 _ (Q0 hx')
    cases x' with
    |box cs=>exact .box (Qij hx'')
    |arr t l=>exact .refl _
    |sm es=>exact .refl _
  ·obtain⟨x',hx',rfl⟩:=QgU hx
   by_cases e:n=k
   ·subst e
    simp only[AM.mk,look,if_true]at hy
    rw[hl]at hx';cases hx';cases hy;exact .inl rfl
   ·simp only[AM.mk,look,if_neg e,Z2,Qjl,if_neg (Ne.symm e),hx']at hy
    cases hy
    cases x' with
    |box cs=>exact .inr (.inl ⟨_,_,rfl,rfl⟩)
    |arr t l=>exact .inl rfl
    |sm es=>exact .inl rfl
 refine⟨Weak.freeze hn (QpY hL hb.1) (Qli hL hb.2) ρ M a w h1,fun k t' l' u hk=>?_⟩
 rw[Qqn]at hk
 split at hk
 ·simp at hk
 ·cases hx:look k hs with
  |none=>rw[hx]at hk;simp at hk
  |some x=>
   rw[hx]at hk
   simp only[Option.map_some,Option.some.injEq]at hk
   cases x with
   |box cs=>simp[BO.frz]at hk
   |arr t2 l2=>simp only[BO.frz]at hk;cases hk;exact hi k _ _ _ hx
   |sm es=>simp[BO.frz]at hk
end
end
/-
  The typed layer, part C: what operations do. No project text.
-/
open Go
def Qtq:List BV→List BV→List BV
 |l,[]=>l
 |[],v::vs=>v::vs
 |_::l,v::vs=>v::Qtq l vs
def layB:List BV→Nat→List BV→List BV
 |l,0,vs=>Qtq l vs
 |x::l,k+1,vs=>x::layB l k vs
 |[],_+1,vs=>vs
def QnF{α R:Type}:List α→(List α→R)→R
 |[],K=>K []
 |x::r,K=>QnF r fun r=>K (x::r)
theorem Qjc{α R:Type}:∀(l:List α) (K:List α→R),QnF l K=K l
 |[],K=>rfl
 |x::r,K=>by simp only[QnF,Qjc r]
theorem QqB:∀(l vs:List BV),vs.length≤l.length→Qtq l vs=vs++l.drop vs.length
 |l,[],_=>by cases l<;>rfl
 |[],v::vs,h=>by simp at h
 |x::l,v::vs,h=>by simp only[Qtq,QqB l vs (by simpa using h),List.length_cons,List.drop_succ_cons,List.cons_append]
theorem QlS:∀(l:List BV) (k:Nat) (vs:List BV),k+vs.length≤l.length→layB l k vs=Qv l k vs
 |l,0,vs,h=>by
  have:layB l 0 vs=Qtq l vs:=by cases l<;>rfl
  rw[this,QqB l vs (by omega)]
  simp[Qv]
 |[],k+1,vs,h=>by simp at h
 |x::l,k+1,vs,h=>by
  simp only[layB,QlS l k vs (by simp at h;omega),Qv,List.take_succ_cons,List.cons_append]
  rw[show k+1+vs.length=(k+vs.length)+1 by omega,List.drop_succ_cons]
structure BEff where
 hp:HS
 v:BV
 upd:HS
 nw:List Name
 nv:List (Name×Nat)
def ev(v:BV):BEff:=⟨[],v,[],[],[]⟩
def Good(P:Program)(o:Oper)(rd:TS)(hs:HS)(e:BEff):Prop:=
 (∀n ob,(n,ob)∈e.hp→look n hs=some ob)∧
 ∀L,Inv L hs→∃L':Lens,(∀m u,m∉e.nw→(m,u)∉e.nv→L' m u=L m u)∧Inv L' (e.upd++hs)∧OpOK P o ⟨erT L rd,erH L e.hp,e.v.er L',erH L' e.upd,e.nw⟩
section
variable {P:Program} {o:Oper} {rd:TS} {hs:HS}
theorem OpOK.outLe{rd:List (Nat×AV)}{hp upd upd':List (Name×AO)}{v v':AV}{nw:List Name}(h:OpOK P o ⟨rd,hp,v,upd,nw⟩)(hv:AVle v v')(hu:∀n,(∀y,look n upd'=some y→∃x,look n upd=some x∧AOle x y∧(x=y∨(∃cs ds,x=.box cs∧y=.box ds)∨(∃es rs qs,x=.arr es rs∧y=.arr es qs)))∧(∀x,look n upd=some x→∃y,look n upd'=some y)):OpOK P o ⟨rd,hp,v',upd',nw⟩:=by
 intro Γ ρ M s a w K Q hs hh hd hK
 refine h Γ ρ M s a w K Q hs ⟨hh.rd,hh.hp,hh.nw⟩ hd (fun ρ' M' a' w' hs'=>hK ρ' M' a' w' ?_)
 have hheap:∀n y,(s.run o.dst ⟨rd,hp,v',upd',nw⟩).heap n=some y→∃x,(s.run o.dst ⟨rd,hp,v,upd,nw⟩).heap n=some x∧AOle x y∧(x=y∨(∃cs ds,x=.box cs∧y=.box ds)∨(∃es rs qs,x=.arr es rs∧y=.arr es qs)):=fun n y hy=>by
  simp only[AS.run]at hy ⊢
  cases hl:look n upd' with
  |some y'=>
   rw[hl]at hy;cases hy
   obtain⟨x,hx,h1,h2⟩:=(hu n).1 _ hl
   exact⟨x,by rw[hx],h1,h2⟩
  |none=>
   rw[hl]at hy
   have hn:look n upd=none:=by
    cases hl2:look n upd with
    |none=>rfl
    |some x=>obtain⟨y,hy⟩:=(hu n).2 x hl2;rw[hl]at hy;simp at hy
   exact⟨y,by rw[hn];exact hy,.refl _,.inl rfl⟩
 refine hs'.leS (fun t y hy=>?_) (fun n=>⟨fun y hy=>?_,fun x hx=>?_⟩) (fun n x y hx hy=>?_)
 ·simp only[AS.run]at hy ⊢
  split at hy
  ·rename_i e;cases hy;exact⟨v,by rw[if_pos e],hv⟩
  ·rename_i e;exact⟨y,by rw[if_neg e];exact hy,.refl _⟩
 ·obtain⟨x,h1,h2,_⟩:=hheap n y hy;exact⟨x,h1,h2⟩
 ·have:∃y,(s.run o.dst ⟨rd,hp,v',upd',nw⟩).heap n=some y:=by
   simp only[AS.run]at hx ⊢
   cases hl:look n upd with
   |some x'=>obtain⟨y,hy⟩:=(hu n).2 x' hl;exact⟨y,by rw[hy]⟩
   |none=>
    rw[hl]at hx
    cases hl2:look n upd' with
    |some y=>exact⟨y,rfl⟩
    |none=>exact⟨x,hx⟩
  obtain⟨y,hy⟩:=this
  obtain⟨x',h1,h2,_⟩:=hheap n y hy
  rw[hx]at h1;cases h1
  exact⟨y,hy,h2⟩
 ·obtain⟨x',h1,_,h3⟩:=hheap n y hy
  rw[hx]at h1;cases h1
  exact h3
theorem OpOK.vLe{rd:List (Nat×AV)}{hp upd:List (Name×AO)}{v v':AV}{nw:List Name}(h:OpOK P o ⟨rd,hp,v,upd,nw⟩)(hv:AVle v v'):OpOK P o ⟨rd,hp,v',upd,nw⟩:=
 h.outLe hv fun n=>⟨fun y hy=>⟨y,hy,.refl _,.inl rfl⟩,fun x hx=>⟨x,hx⟩⟩
theorem Good.val{hp:HS}{v:BV}(h1:∀n ob,(n,ob)∈hp→look n hs=some ob)(h2:∀L,Inv L hs→OpOK P o ⟨erT L rd,erH L hp,v.er L,[],[]⟩):Good P o rd hs ⟨hp,v,[],[],[]⟩:=
 ⟨h1,fun L hL=>⟨L,fun _ _ _ _=>rfl,hL,h2 L hL⟩⟩
theorem Good.ev{v:BV}(h2:∀L,Inv L hs→OpOK P o ⟨erT L rd,[],v.er L,[],[]⟩):Good P o rd hs (ev v):=Good.val (fun _ _ h=>by simp at h) h2
def Qq2:Value→BV
 |.slice none 0 0=>.nil
 |.int k x=>.n k x
 |.bool b=>.b b
 |.string s=>.s s
 |c=>.v c
theorem Qp2(L:Lens)(c:Value):(Qq2 c).er L=Yp c:=by
 unfold Qq2
 split
 ·simp only[BV.er];rfl
 ·simp only[BV.er];rfl
 ·simp only[BV.er];rfl
 ·simp only[BV.er];rfl
 ·rename_i h1 h2 h3 h4
  simp only[BV.er]
  unfold Yp
  split
  ·exact absurd rfl h1
  ·rfl
def QsD:Value→Option BV
 |.agg cs=>if cs.toList.all (fun c=>c.oneCell')then some (.agg (cs.toList.map Qq2))else none
 |c=>if c.oneCell' then some (Qq2 c)else none
theorem Qnw(L:Lens)(cs:List Value):erL L (cs.map Qq2)=cs.map Yp:=by
 simp only[Vz,List.map_map];exact List.map_congr_left fun c _=>Qp2 L c
theorem QsE{c:Value}{x:BV}(L:Lens)(h:QsD c=some x):Qdn c=some (x.er L):=by
 unfold QsD at h
 split at h
 ·rename_i cs
  unfold Qdn
  split at h
  ·rename_i hall;cases h;simp only[hall,if_true,BV.er,Qnw]
  ·simp at h
 ·rename_i hne
  split at h
  ·rename_i ho
   cases h
   unfold Qdn
   split
   ·exact absurd rfl (hne _)
   ·simp only[ho,if_true,Qp2]
  ·simp at h
def ZM(rd:TS):Operand→Option BV
 |.tmp t=>look t rd
 |.const c=>QsD c
 |.global g=>some (.v (.pointer (some ⟨g,0,none⟩)))
 |.func f=>some (.v (.func (.func f) #[] #[]))
theorem Qj{x:Operand}{v:BV}(L:Lens)(h:ZM rd x=some v):Ql (erT L rd) x=some (v.er L):=by
 cases x with
 |tmp t=>simp only[ZM]at h;simp only[Ql,Qae,h,Option.map_some]
 |const c=>exact QsE L h
 |global g=>simp only[ZM,Option.some.injEq]at h;subst h;simp only[Ql,BV.er]
 |func f=>simp only[ZM,Option.some.injEq]at h;subst h;simp only[Ql,BV.er]
def QiG:BV→Option (List BV)
 |.agg cs=>some cs
 |.tup _=>none
 |x=>some [x]
theorem Qdj{v:BV}{cs:List BV}(L:Lens)(h:QiG v=some cs):ZK (v.er L)=some (erL L cs):=by
 cases v<;>simp only[QiG,Option.some.injEq,reduceCtorEq]at h<;>subst h<;>simp only[BV.er,ZK,erL]
def Qf0(rd:TS):List Operand→Option (List BV)
 |[]=>some []
 |x::r=>match ZM rd x,Qf0 rd r with
  |some v,some vs=>some (v::vs)
  |_,_=>none
theorem Qdu(L:Lens):∀{xs:List Operand} {vs:List BV},Qf0 rd xs=some vs→QeI (erT L rd) xs=some (erL L vs)
 |[],vs,h=>by simp only[Qf0,Option.some.injEq]at h;subst h;simp only[QeI,erL]
 |x::r,vs,h=>by
  simp only[Qf0]at h
  split at h
  ·rename_i v vs' h1 h2
   cases h
   simp only[QeI,Qj L h1,Qdu L h2,erL]
  ·simp at h
end
section
variable {R:Type} (P:Program) (ty:TypeId→Option TC) (rd:TS) (hs:HS) (K:BEff→Option R)
def bVal(x:Operand):Option R:=match ZM rd x with
 |some v=>K (ev v)
 |none=>none
def Qwz(c x y:Operand):Option R:=match ZM rd c,ZM rd x,ZM rd y with
 |some (.b q),some u,some v=>cnd q (K (ev u)) (K (ev v))
 |_,_,_=>none
def QrQ(T:TypeId):Option (List BV):=match P.info? T with
 |some i=>match i.zero with
  |some z=>if z.cells.toList.all (fun c=>c.oneCell')then some (z.cells.toList.map Qq2)else none
  |none=>none
 |none=>none
def Qsb(d:Option Nat)(T:TypeId):Option R:=match d,QrQ P T with
 |some d,some cs=>K ⟨[],.ref (1000+d) 0,[(1000+d,.box cs)],[1000+d],[]⟩
 |_,_=>none
def bBox(d:Option Nat)(x:Operand):Option R:=match d,ZM rd x with
 |some d,some v=>match QiG v with
  |some cs=>K ⟨[],.ref (1000+d) 0,[(1000+d,.box cs)],[1000+d],[]⟩
  |none=>none
 |_,_=>none
def QtC(places:List (Nat×Nat)):List (Nat×Operand)→List BV→Option (List BV)
 |[],cells=>some cells
 |(i,x)::r,cells=>match places[i]?,ZM rd x with
  |some (off,size),some y=>match QiG y with
   |some cs=>if Nat.beq cs.length size && Nat.ble (off+size) cells.length then QnF (layB cells off cs) fun cells=>QtC places r cells else none
   |none=>none
  |_,_=>none
def Qty(T:TypeId):Option (List (Nat×Nat)):=match P.underlying T with
 |some (.array n e)=>match Zv P e with
  |some es=>some (Qiv n es)
  |none=>none
 |_=>QmL P T
def Qsd(T:TypeId)(parts:Array (Nat×Operand)):Option R:=match Qty P T,QrQ P T with
 |some pl,some zs=>match QtC rd pl parts.toList zs with
  |some cells=>K (ev (.agg cells))
  |none=>none
 |_,_=>none
def QrF(t:TC):List (Nat×Operand)→Nat→Nat→(List (TT t)→Option R)→Option R
 |[],i,len,K=>if Nat.beq i len then K []else none
 |(j,x)::r,i,len,K=>if Nat.beq j i then match ZM rd x with
   |some v=>match QiG v with
    |some cs=>if Nat.beq cs.length (tz t) && cs.all BV.isP then tpop t cs fun y rest=>match rest with
      |[]=>QrF t r (i+1) len fun ys=>K (y::ys)
      |_=>none
     else none
    |none=>none
   |none=>none
  else none
def Qfb(T:TypeId)(len:Nat)(parts:Array (Nat×Operand)):Option R:=match Vr P T with
 |some e=>match ty e,Zv P e,Qa0 P e with
  |some t,some es,some zr=>if Nat.beq es (tz t) && Nat.ble 1 es && Nat.beq zr.length es && Nat.ble (len*es) 16777216 then QrF rd t parts.toList 0 len fun l=>K (ev (.ts true t l))else none
  |_,_,_=>none
 |none=>none
def Qwv(T:TypeId)(x:Operand):Option R:=match ZM rd x with
 |some (.ref n k)=>match look n hs with
  |some (.box cells)=>if aggT P T then
    match Zv P T with
    |some z=>if Nat.beq ((cells.drop k).take z).length z then K ⟨[(n,.box cells)],.agg ((cells.drop k).take z),[],[],[]⟩else none
    |none=>none
   else if Qa7 P T then match cells[k]? with
    |some c=>K ⟨[(n,.box cells)],c,[],[],[]⟩
    |none=>none
   else none
  |_=>none
 |some (.tep cells)=>if cells.all BV.isP then if aggT P T then
   match Zv P T with
   |some z=>if Nat.beq (cells.take z).length z then K (ev (.agg (cells.take z)))else none
   |none=>none
  else if Qa7 P T then match cells[0]? with
   |some c=>K (ev c)
   |none=>none
  else none else none
 |some (.aref n u i k)=>match look n hs with
  |some (.arr t l v)=>if Nat.beq u v then optc l[i]? fun y=>if aggT P T then
    match Zv P T with
    |some z=>if Nat.beq (((tb t y).drop k).take z).length z then K ⟨[(n,.arr t l v)],.agg (((tb t y).drop k).take z),[],[],[]⟩else none
    |none=>none
   else if Qa7 P T then match (tb t y)[k]? with
    |some c=>K ⟨[(n,.arr t l v)],c,[],[],[]⟩
    |none=>none
   else none else none
  |_=>none
 |_=>none
def Qsn(d:Option Nat)(T:TypeId)(x y:Operand):Option R:=match d,ZM rd x,ZM rd y with
 |none,some (.ref n k),some v=>match look n hs,QiG v,Zv P T with
  |some (.box cells),some vs,some z=>if Nat.beq z vs.length && Nat.ble (k+vs.length) cells.length then QnF (layB cells k vs) fun cells'=>K ⟨[(n,.box cells)],.any,[(n,.box cells')],[],[]⟩else none
  |_,_,_=>none
 |none,some (.aref n u i k),some v=>match look n hs,QiG v,Zv P T with
  |some (.arr t l q),some vs,some z=>if Nat.beq u q then optc l[i]? fun y=>if Nat.beq z vs.length && Nat.ble (k+vs.length) (tb t y).length && vs.all BV.isP then tpop t (layB (tb t y) k vs) fun y' rest=>match rest with
    |[]=>K ⟨[(n,.arr t l q)],.any,[(n,.arr t (l.set i y') q)],[],[]⟩
    |_=>none
   else none else none
  |_,_,_=>none
 |_,_,_=>none
def QgI(S:TypeId)(x:Operand)(i:Nat):Option R:=match ZM rd x,Qad P S i with
 |some (.ref n k),some fo=>match look n hs with
  |some (.box cells)=>K ⟨[(n,.box cells)],.ref n (k+fo),[],[],[]⟩
  |_=>none
 |some (.tep cells),some fo=>K (ev (.tep (cells.drop fo)))
 |some (.aref n u j k),some fo=>match look n hs with
  |some (.arr t l q)=>if Nat.beq u q then K ⟨[(n,.arr t l q)],.aref n u j (k+fo),[],[],[]⟩else none
  |_=>none
 |_,_=>none
def QiA(x:Operand):Option R:=match ZM rd x with
 |some (.ref n k)=>match look n hs with
  |some (.box cells)=>K ⟨[(n,.box cells)],.ref n k,[],[],[]⟩
  |_=>none
 |some (.tep cells)=>K (ev (.tep cells))
 |some (.aref n u j k)=>match look n hs with
  |some (.arr t l q)=>if Nat.beq u q then K ⟨[(n,.arr t l q)],.aref n u j k,[],[],[]⟩else none
  |_=>none
 |_=>none
def binI(op:BinOp)(k:IntKind)(a b:Int):Option R:=match op with
 |.add=>K (ev (.n k (k.wrap (a+b))))
 |.sub=>K (ev (.n k (k.wrap (a - b))))
 |.mul=>K (ev (.n k (k.wrap (a*b))))
 |.quo=>nzc b (K (ev (.n k (k.wrap (a.tdiv b)))))
 |.rem=>nzc b (K (ev (.n k (a.tmod b))))
 |.shr=>natc b fun n=>K (ev (.n k (a.fdiv (2 ^ (min n k.bits)))))
 |.lss=>K (ev (.b (decide (a<b))))
 |.leq=>K (ev (.b (decide (a≤b))))
 |.gtr=>K (ev (.b (decide (b<a))))
 |.geq=>K (ev (.b (decide (b≤a))))
 |.eql=>K (ev (.b (decide (a=b))))
 |.neq=>K (ev (.b (decide (a≠b))))
 |_=>none
def binS(op:BinOp)(a b:ByteArray):Option R:=match op with
 |.eql=>K (ev (.b (decide (a=b))))
 |.neq=>K (ev (.b (decide (a≠b))))
 |.add=>lec (a.size+b.size) 9223372036854775807 (K (ev (.s (a++b))))
 |_=>none
def QxV(T:TypeId):Bool:=match P.underlying T with|some .bool=>true|_=>false
def binB(op:BinOp)(T:TypeId)(a b:Bool):Option R:=if QxV P T then match op with
 |.eql=>K (ev (.b (decide (a=b))))
 |.neq=>K (ev (.b (decide (a≠b))))
 |_=>none else none
def bBin(op:BinOp)(T:TypeId)(x y:Operand):Option R:=match ZM rd x,ZM rd y with
 |some (.n k a),some (.n k' b)=>if kEq k k' then binI K op k a b else none
 |some (.s a),some (.s b)=>binS K op a b
 |some (.b a),some (.b b)=>binB P K op T a b
 |_,_=>none
def bUn(op:UnOp)(x:Operand):Option R:=match op,ZM rd x with
 |.not,some (.b b)=>K (ev (.b (!b)))
 |.neg,some (.n k a)=>K (ev (.n k (k.wrap (0 - a))))
 |_,_=>none
def Qsj(T:TypeId)(x:Operand)(i:Nat):Option R:=match ZM rd x,P.underlying T with
 |some (.agg cells),some (.struct fs)=>match fs[i]? with
  |some f=>if aggT P f.type then
    match Zv P f.type with
    |some z=>K (ev (.agg ((cells.drop f.offset).take z)))
    |none=>none
   else if Qa7 P f.type then match cells[f.offset]? with
    |some c=>K (ev c)
    |none=>none
   else none
  |none=>none
 |_,_=>none
def Qlp(x:Operand)(i:Nat):Option R:=match ZM rd x with
 |some (.tup vs)=>match vs[i]? with
  |some v=>K (ev v)
  |none=>none
 |_=>none
def QgJ(T:TypeId)(x y:Operand):Option R:=match ZM rd x,ZM rd y,Vr P T with
 |some (.ts _ t l),some (.n _ j),some e=>match Zv P e with
  |some es=>if Nat.beq es (tz t)then atc l j fun z=>K (ev (.tep (tb t z)))else none
  |none=>none
 |some (.own n u),some (.n _ j),some e=>match look n hs,Zv P e with
  |some (.arr t l q),some es=>if Nat.beq es (tz t) && Nat.beq u q then natc j fun i=>ltc i l.length (K ⟨[(n,.arr t l q)],.aref n u i 0,[],[],[]⟩)else none
  |_,_=>none
 |some (.view n u lo hi),some (.n _ j),some e=>match look n hs,Zv P e with
  |some (.arr t l q),some es=>if Nat.beq es (tz t) && Nat.beq u q then natc j fun i=>ltc i (hi - lo) (K ⟨[(n,.arr t l q)],.aref n u (lo+i) 0,[],[],[]⟩)else none
  |_,_=>none
 |_,_,_=>none
def bLen(T:TypeId)(x:Operand):Option R:=match ZM rd x with
 |some (.ts _ t l)=>match Vr P T with
  |some _=>K (ev (.n .i64 (l.length:Int)))
  |none=>none
 |some .nil=>match Vr P T with
  |some _=>K (ev (.n .i64 0))
  |none=>none
 |some (.own n u)=>match look n hs,Vr P T with
  |some (.arr t l q),some _=>if Nat.beq u q then K ⟨[(n,.arr t l q)],.n .i64 (l.length:Int),[],[],[]⟩else none
  |_,_=>none
 |some (.view n u lo hi)=>match look n hs,Vr P T with
  |some (.arr t l q),some _=>if Nat.beq u q then K ⟨[(n,.arr t l q)],.n .i64 ((hi - lo:Nat):Int),[],[],[]⟩else none
  |_,_=>none
 |some (.s t)=>match P.underlying T with
  |some .string=>K (ev (.n .i64 (t.size:Int)))
  |_=>none
 |_=>none
def srcB(t0:TC)(y:BV)(K:List (TT t0)→Option R):Option R:=match y with
 |.ts _ t x=>if h:t=t0 then K (Qnb h x)else none
 |_=>none
def Qo0(d:Option Nat)(T:TypeId)(x y:Operand):Option R:=match ZM rd x,ZM rd y,Vr P T with
 |some (.own n u),some v,some e=>match look n hs,Zv P e,Qss P e with
  |some (.arr t l q),some es,some bytes=>if Nat.beq es (tz t) && Qi1 P e es bytes && Nat.ble bytes 4096 && Nat.beq u q then srcB t v fun l'=>lec (l.length+l'.length) 34359738368 (K ⟨[(n,.arr t l q)],.own n (q+1),[(n,.arr t (l++l') (q+1))],[],[(n,q+1)]⟩)else none
  |_,_,_=>none
 |some .nil,some v,some e=>match d,ty e,Zv P e,Qss P e with
  |some d,some t,some es,some bytes=>if Nat.beq es (tz t) && Qi1 P e es bytes && Nat.ble bytes 4096 && Nat.ble 1 es then srcB t v fun l'=>lec l'.length 34359738368 (K ⟨[],.own (1000+d) 0,[(1000+d,.arr t l' 0)],[1000+d],[]⟩)else none
  |_,_,_,_=>none
 |some (.ts true t l),some v,some e=>match d,Zv P e,Qss P e with
  |some d,some es,some bytes=>if Nat.beq es (tz t) && Qi1 P e es bytes && Nat.ble bytes 4096 && Nat.ble 1 es then srcB t v fun l'=>match l with
    |[]=>lec l'.length 34359738368 (K ⟨[],.own (1000+d) 0,[(1000+d,.arr t l' 0)],[1000+d],[]⟩)
    |y::q=>match l' with
     |[]=>none
     |z::r=>lec ((y::q).length+(z::r).length) 34359738368 (K ⟨[],.own (1000+d) 0,[(1000+d,.arr t (y::q++z::r) 0)],[1000+d],[]⟩)else none
  |_,_,_=>none
 |_,_,_=>none
def Qwr(S T:TypeId)(x:Operand):Option R:=match ZM rd x,intT P T with
 |some (.n k a),some k'=>if (P.underlying S).isSome then K (ev (.n k' (k'.wrap a)))else none
 |_,_=>none
def Qo2(T:TypeId)(x y:Operand):Option R:=match ZM rd x,ZM rd y,P.underlying T with
 |some (.s t),some (.n _ j),some .string=>natc j fun i=>ltc i t.size (K (ev (.n .u8 (bAt t i:Int))))
 |_,_,_=>none
end
/-
  The abstract machine, part R: nil errors, a byte as a text, ranging over a map in whatever order. No project text.
-/
section
variable {P:Program} {o:Oper} {rd:List (Nat×AV)}
theorem QjU{T e:TypeId}(hT:P.underlying T=some (.slice e))(a:Option Addr)(l c:Nat)(w:World):(Op.equal T (.slice a l c) (.slice none 0 0)).run P w=.ok a.isNone w:=by
 unfold Op.equal
 rw[show Op.maxDepth=(Op.maxDepth - 1)+1 from rfl]
 cases a<;>simp[Op.equalIn,run_underlying hT]
def eqOp(op:BinOp):Option Bool:=match op with
 |.eql=>some true
 |.neq=>some false
 |_=>none
theorem Qot{op:BinOp}{q:Bool}{T e:TypeId}(hq:eqOp op=some q)(hT:P.underlying T=some (.slice e))(a:Option Addr)(l c:Nat)(w:World):(binOp op T (.slice a l c) (.slice none 0 0)).run P w=.ok (.bool (a.isNone == q)) w:=by
 cases op<;>simp[eqOp]at hq<;>subst hq<;>cases a<;>simp[binOp,QjU hT]
theorem OpOK.eqNilU{op:BinOp}{q:Bool}{T T' e:TypeId}{x:Operand}{f:Bool}{es:Nat}{rows:List (List PV)}(ho:o.op=.binOp op T x (.const (.slice none 0 0)) T')(hq:eqOp op=some q)(hT:P.underlying T=some (.slice e))(hx:Ql rd x=some (.p (.sl f es rows))):
  OpOK P o ⟨rd,[],.ub,[],[]⟩:=
 OpOK.quiet fun Γ ρ M s a w hs hh=>by
  have h1:=Qm hs hh hx
  simp only[AV.R,PV.R]at h1
  obtain⟨ad,cap,hu,_⟩:=h1
  refine⟨.bool (ad.isNone == q),?_,by simp only[AV.R];exact⟨_,rfl⟩⟩
  have e:a.eval (.const (.slice none 0 0))=.slice none 0 0:=rfl
  simp[execOp,ho,hu,e,Qot hq hT,eqGuard_at_slice]
theorem OpOK.eqNilN{op:BinOp}{q:Bool}{T T' e:TypeId}{x:Operand}{f:Bool}{es:Nat}{rows:List (List PV)}(ho:o.op=.binOp op T x (.const (.slice none 0 0)) T')(hq:eqOp op=some q)(hT:P.underlying T=some (.slice e))(hx:Ql rd x=some (.p (.sl f es rows)))(hr:rows≠[]):
  OpOK P o ⟨rd,[],.p (.v (.bool (!q))),[],[]⟩:=
 OpOK.quiet fun Γ ρ M s a w hs hh=>by
  have h1:=Qm hs hh hx
  simp only[AV.R,PV.R]at h1
  obtain⟨ad,cap,hu,hl,_,hn,_⟩:=h1
  refine⟨.bool (!q),?_,by simp only[AV.R,PV.R];exact⟨trivial,rfl⟩⟩
  have e:a.eval (.const (.slice none 0 0))=.slice none 0 0:=rfl
  have had:ad.isNone=false:=by
   cases ad with
   |some x=>rfl
   |none=>
    have:=hn rfl
    have:rows.length=0:=by omega
    exact absurd (List.eq_nil_of_length_eq_zero this) hr
  have:=Qot (P:=P) hq hT ad rows.length cap w
  rw[had]at this
  simp[execOp,ho,hu,e,this,eqGuard_at_slice]
theorem OpOK.maxI{x y:Operand}{ats:Array TypeId}{m k r:Int}(ho:o.op=.call { callee:=.builtin .max,args:=#[x,y],argTypes:=ats })(hx:Ql rd x=some (.p (.v (.int .i64 m))))(hy:Ql rd y=some (.p (.v (.int .i64 k))))(hr:max m k=r):
  OpOK P o ⟨rd,[],.p (.v (.int .i64 r)),[],[]⟩:=
 OpOK.quiet fun Γ ρ M s a w hs hh=>by
  have h1:=Qm hs hh hx
  have h2:=Qm hs hh hy
  simp only[AV.R,PV.R]at h1 h2
  refine⟨.int .i64 r,?_,by simp only[AV.R,PV.R];exact⟨trivial,rfl⟩⟩
  have e:(if m<k then k else m)=r:=by rw[←hr];split<;>omega
  simp[execOp,ho,h1.1,h2.1,resolve,invoke,builtin,run_max_int2,e]
theorem OpOK.minI{x y:Operand}{ats:Array TypeId}{m k r:Int}(ho:o.op=.call { callee:=.builtin .min,args:=#[x,y],argTypes:=ats })(hx:Ql rd x=some (.p (.v (.int .i64 m))))(hy:Ql rd y=some (.p (.v (.int .i64 k))))(hr:min m k=r):
  OpOK P o ⟨rd,[],.p (.v (.int .i64 r)),[],[]⟩:=
 OpOK.quiet fun Γ ρ M s a w hs hh=>by
  have h1:=Qm hs hh hx
  have h2:=Qm hs hh hy
  simp only[AV.R,PV.R]at h1 h2
  refine⟨.int .i64 r,?_,by simp only[AV.R,PV.R];exact⟨trivial,rfl⟩⟩
  have e:(if k<m then k else m)=r:=by rw[←hr];split<;>omega
  simp[execOp,ho,h1.1,h2.1,resolve,invoke,builtin,run_min_int2,e]
def Qhu(g:TypeId→Option Nat):List Field→Nat→Option Nat
 |[],i=>some i
 |f::fs,i=>if f.name != "_" && Nat.beq f.offset i then(match g f.type with|some n=>Qhu g fs (i+n)|none=>none)else none
def Qrb(P:Program):Nat→TypeId→Option Nat
 |0,_=>none
 |k+1,T=>match P.underlying T with
  |some (.int .i64)=>some 1
  |some (.struct fs)=>(match Qhu (Qrb P k) fs.toList 0,Zv P T with
   |some n,some m=>if Nat.beq n m && !P.stoodInHeld T then some n else none
   |_,_=>none)
  |_=>none
def Qs2(P:Program)(T:TypeId)(n:Nat):Bool:=aggT P T && (match Qrb P 5 T with|some m=>Nat.beq m n|none=>false) && !P.eqGuardType P.depth T
theorem QhD{w:World}{T:TypeId}{cs:Array Value}{i:Nat}{v:Value}(hT:P.underlying T=some (.int .i64))(h:cs[i]?=some v):(part T cs i).run P w=.ok v w:=by
 have hf:Qa7 P T=true:=by simp[Qa7,hT]
 simp[part,VU hf,h]
theorem QnD{g:TypeId→Option Nat}:∀{fs:List Field} {i m:Nat},Qhu g fs i=some m→i≤m
 |[],i,m,h=>by simp only[Qhu,Option.some.injEq]at h;omega
 |f::fs,i,m,h=>by
  simp only[Qhu]at h
  split at h
  ·split at h
   ·have:=QnD h;omega
   ·simp at h
  ·simp at h
theorem QfX{g:TypeId→Option Nat}{d:Nat}{w:World}{xs ys:Array Value}(hg:∀T n,g T=some n→∀off (as1 bs:List Int),as1.length=n→bs.length=n→(∀j (a:Int),as1[j]?=some a→xs[off+j]?=some (.int .i64 a))→(∀j (b:Int),bs[j]?=some b→ys[off+j]?=some (.int .i64 b))→
   ∃u v,(part T xs off).run P w=.ok u w∧(part T ys off).run P w=.ok v w∧(Op.equalIn d T u v).run P w=.ok (decide (as1=bs)) w):
  ∀(fs:List Field) (i m:Nat) (as1 bs:List Int),Qhu g fs i=some m→i+as1.length=m→bs.length=as1.length→(∀j (a:Int),as1[j]?=some a→xs[i+j]?=some (.int .i64 a))→(∀j (b:Int),bs[j]?=some b→ys[i+j]?=some (.int .i64 b))→
   (Op.eqFields d xs ys fs).run P w=.ok (decide (as1=bs)) w
 |[],i,m,as1,bs,h,h1,h2,_,_=>by
  simp only[Qhu,Option.some.injEq]at h
  have e1:as1=[]:=List.eq_nil_of_length_eq_zero (by omega)
  have e2:bs=[]:=List.eq_nil_of_length_eq_zero (by omega)
  subst e1;subst e2;simp[Op.eqFields]
 |f::fs,i,m,as1,bs,h,h1,h2,h3,h4=>by
  simp only[Qhu]at h
  split at h
  ·rename_i g1
   simp only[bae,bne_iff_ne,ne_eq]at g1
   have ho:f.offset=i:=nbe g1.2
   split at h
   ·rename_i n hn
    have hle:=QnD h
    have ht:∀{l:List Int} {j:Nat} {a:Int},(l.take n)[j]?=some a→l[j]?=some a:=fun{l j a} hj=>by
     rw[List.getElem?_take]at hj
     split at hj
     ·exact hj
     ·simp at hj
    obtain⟨u,v,p1,p2,p3⟩:=hg _ _ hn i (as1.take n) (bs.take n) (by rw[List.length_take];omega) (by rw[List.length_take];omega) (fun j a hj=>h3 j a (ht hj)) (fun j a hj=>h4 j a (ht hj))
    have ih:=QfX hg fs (i+n) m (as1.drop n) (bs.drop n) h (by rw[List.length_drop];omega) (by simp[h2]) (fun j a hj=>by
     rw[List.getElem?_drop]at hj;have:=h3 (n+j) a hj;rwa [←Nat.add_assoc]at this) (fun j a hj=>by
     rw[List.getElem?_drop]at hj;have:=h4 (n+j) a hj;rwa [←Nat.add_assoc]at this)
    simp only[Op.eqFields,if_pos g1.1,Sem.run_bind,ho,p1,p2,Result.andThen_ok,p3]
    by_cases e:as1.take n=bs.take n
    ·have:(as1=bs)↔(as1.drop n=bs.drop n):=⟨fun h=>by rw[h],fun h=>by rw[←List.take_append_drop n as1,←List.take_append_drop n bs,e,h]⟩
     simp[e,ih,this]
    ·have:as1≠bs:=fun h=>e (by rw[h])
     simp[e,this]
   ·simp at h
  ·simp at h
theorem QvT{w:World}:∀(k d:Nat),k≤d→∀(T:TypeId) (n:Nat),Qrb P k T=some n→∀(xs ys:Array Value) (off:Nat) (as1 bs:List Int),as1.length=n→bs.length=n→
  (∀j (a:Int),as1[j]?=some a→xs[off+j]?=some (.int .i64 a))→(∀j (b:Int),bs[j]?=some b→ys[off+j]?=some (.int .i64 b))→
  ∃u v,(part T xs off).run P w=.ok u w∧(part T ys off).run P w=.ok v w∧(Op.equalIn d T u v).run P w=.ok (decide (as1=bs)) w
 |0,d,_,T,n,h,_,_,_,_,_,_,_,_,_=>by simp[Qrb]at h
 |k+1,d,hd,T,n,h,xs,ys,off,as1,bs,h1,h2,h3,h4=>by
  obtain⟨d,rfl⟩:∃d',d=d'+1:=⟨d - 1,by omega⟩
  simp only[Qrb]at h
  split at h
  ·rename_i hT
   cases h
   obtain⟨a,rfl⟩:=List.length_eq_one_iff.1 h1
   obtain⟨b,rfl⟩:=List.length_eq_one_iff.1 h2
   refine⟨_,_,QhD hT (h3 0 a (by simp)),QhD hT (h4 0 b (by simp)),?_⟩
   rw[run_equalIn_int w d T .i64 .i64 a b hT,show(a == b)=decide ([a]=[b])by by_cases h:a=b<;>simp[h]]
  ·rename_i fs hfs
   split at h
   ·rename_i z m ha hm
    split at h
    ·rename_i hc
     simp only[bae,Bool.not_eq_true']at hc
     have hz:=nbe hc.1
     cases h
     have hp:∀zs:Array Value,(part T zs off).run P w=.ok (.agg (zs.extract off (off+m))) w:=fun zs=>by simp[part,Uv (show aggT P T=true by simp[aggT,hfs]),run_sizeOf hm]
     refine⟨_,_,hp xs,hp ys,?_⟩
     have hF:P.fieldsOf T=fs:=by simp[Program.fieldsOf,hfs]
     rw[run_equalIn_struct w d T _ _ (by rw[hF];exact hfs) hc.2,hF]
     have key:∀{zs:Array Value} {l:List Int},l.length=n→(∀j (a:Int),l[j]?=some a→zs[off+j]?=some (.int .i64 a))→∀j (a:Int),l[j]?=some a→(zs.extract off (off+m))[0+j]?=some (.int .i64 a):=fun{zs l} hl hz2 j a hj=>by
      have hlt:=(Array.getElem?_eq_some_iff.1 (hz2 j a hj)).1
      have hj':=(List.getElem?_eq_some_iff.1 hj).1
      rw[Nat.zero_add,Array.getElem?_extract,if_pos (by omega)]
      exact hz2 j a hj
     exact QfX (fun T n h off as1 bs a1 a2 a3 a4=>QvT k d (by omega) T n h _ _ off as1 bs a1 a2 a3 a4) fs.toList 0 n as1 bs ha (by omega) (by omega) (key h1 h3) (key h2 h4)
    ·simp at h
   ·simp at h
  ·simp at h
theorem Qk9{w:World}{T:TypeId}{as1 bs:List Int}{us vs:Array Value}(hT:Qs2 P T as1.length=true)(hl:Nat.beq bs.length as1.length=true)(k1:us.toList=as1.map (Value.int .i64))(k2:vs.toList=bs.map (Value.int .i64)):
  (Op.equalIn 10000 T (.agg us) (.agg vs)).run P w=.ok (decide (as1=bs)) w∧P.eqGuardType P.depth T=false:=by
 have hl':=nbe hl
 simp only[Qs2,bae,Bool.not_eq_true']at hT
 obtain⟨⟨g1,g2⟩,g3⟩:=hT
 split at g2
 ·rename_i m hm
  have hmn:=nbe g2
  have hcell:∀{zs:Array Value} {l:List Int},zs.toList=l.map (Value.int .i64)→∀j (a:Int),l[j]?=some a→zs[0+j]?=some (.int .i64 a):=fun{zs l} hz j a hj=>by
   rw[Nat.zero_add,←Array.getElem?_toList,hz,List.getElem?_map,hj];rfl
  obtain⟨u,v,p1,p2,p3⟩:=QvT (w:=w) 5 10000 (by omega) T m hm us vs 0 as1 bs (by omega) (by omega) (hcell k1) (hcell k2)
  have hsz:Zv P T=some m:=by
   simp only[Qrb]at hm
   split at hm
   ·rename_i h;simp[aggT,h]at g1
   ·split at hm
    ·rename_i z y hz hy
     split at hm
     ·rename_i hc
      simp only[bae]at hc
      cases hm
      rw[hy,nbe hc.1]
     ·simp at hm
    ·simp at hm
   ·simp at hm
  have hp:∀{zs:Array Value} {l:List Int},zs.toList=l.map (Value.int .i64)→l.length=m→(part T zs 0).run P w=.ok (.agg zs) w:=fun{zs l} hz hl=>by
   have:zs.size=m:=by rw[←Array.length_toList,hz,List.length_map,hl]
   simp[part,Uv g1,run_sizeOf hsz,←this]
  rw[hp k1 (by omega)]at p1
  rw[hp k2 (by omega)]at p2
  cases p1;cases p2
  exact⟨p3,g3⟩
 ·simp at g2
theorem Qip{ρ:Name→Loc}{H:Heap}{M:Nat→Prop}{w:World}:∀{as1:List Int} {us:List Value},AV.Rs ρ H M w (as1.map fun a=>.p (.v (.int .i64 a))) us→us=as1.map (Value.int .i64)
 |[],us,h=>by simpa only[List.map_nil,AV.Rs]using h
 |a::r,us,h=>by
  simp only[List.map_cons,AV.Rs,AV.R,PV.R]at h
  obtain⟨u,us',rfl,_,⟨rfl,_⟩,h2⟩:=h
  rw[Qip h2];rfl
theorem OpOK.eqlInts{T T':TypeId}{x y:Operand}{as1 bs:List Int}{q:Bool}(ho:o.op=.binOp .eql T x y T')(hT:Qs2 P T as1.length=true)(hl:Nat.beq bs.length as1.length=true)(hx:Ql rd x=some (.agg (as1.map fun a=>.p (.v (.int .i64 a)))))(hy:Ql rd y=some (.agg (bs.map fun a=>.p (.v (.int .i64 a)))))(hr:decide (as1=bs)=q):OpOK P o ⟨rd,[],.p (.v (.bool q)),[],[]⟩:=
 OpOK.quiet fun Γ ρ M s a w hs hh=>by
  have h1:=Qm hs hh hx
  have h2:=Qm hs hh hy
  simp only[AV.R]at h1 h2
  obtain⟨us,hu,k1⟩:=h1
  obtain⟨vs,hv,k2⟩:=h2
  obtain⟨e1,g3⟩:=Qk9 (P:=P) (w:=w) hT hl (Qip k1) (Qip k2)
  refine⟨.bool q,?_,by simp only[AV.R,PV.R];exact⟨trivial,rfl⟩⟩
  simp[execOp,ho,hu,hv,run_eqGuard_agg w .eql T x y us vs g3,run_eql_struct,e1,hr]
end
section
variable {P:Program} {Γ:Ctx} {Q:Exit→AS→Prop}
end
/-
  The abstract machine, part S: structs of numbers that differ. No project text.
-/
open Go
section
variable {P:Program} {o:Oper} {rd:List (Nat×AV)}
theorem OpOK.neqInts{T T':TypeId}{x y:Operand}{as1 bs:List Int}{q:Bool}(ho:o.op=.binOp .neq T x y T')(hT:Qs2 P T as1.length=true)(hl:Nat.beq bs.length as1.length=true)(hx:Ql rd x=some (.agg (as1.map fun a=>.p (.v (.int .i64 a)))))(hy:Ql rd y=some (.agg (bs.map fun a=>.p (.v (.int .i64 a)))))(hr:decide (as1≠bs)=q):OpOK P o ⟨rd,[],.p (.v (.bool q)),[],[]⟩:=
 OpOK.quiet fun Γ ρ M s a w hs hh=>by
  have h1:=Qm hs hh hx
  have h2:=Qm hs hh hy
  simp only[AV.R]at h1 h2
  obtain⟨us,hu,k1⟩:=h1
  obtain⟨vs,hv,k2⟩:=h2
  obtain⟨e1,g3⟩:=Qk9 (P:=P) (w:=w) hT hl (Qip k1) (Qip k2)
  refine⟨.bool q,?_,by simp only[AV.R,PV.R];exact⟨trivial,rfl⟩⟩
  have hq:(!decide (as1=bs))=q:=by rw[←hr];simp
  simp[execOp,ho,hu,hv,run_eqGuard_agg w .neq T x y us vs g3,run_neq_struct,e1,hq]
theorem OpOK.sliceLo{T e:TypeId}{x lo:Operand}{full:Bool}{es k:Nat}{rows rows':List (List PV)}{i:Int}(ho:o.op=.slice T x (some lo) none none)(hT:P.underlying T=some (.slice e))(hz:Zv P e=some es)(hx:Ql rd x=some (.p (.sl full es rows)))(hlo:Ql rd lo=some (.p (.v (.int .i64 i))))(hi:i=((k:Nat):Int))(hk:k≤rows.length)(hr:rows.drop k=rows'):OpOK P o ⟨rd,[],.p (.sl full es rows'),[],[]⟩:=
 OpOK.quiet fun Γ ρ M s a w hs hh=>by
  subst hr;subst hi
  have h1:=Qm hs hh hx
  have h2:=Qm hs hh hlo
  simp only[AV.R,PV.R]at h1 h2
  obtain⟨ad,cap,hu,hl,hf,hn,hc⟩:=h1
  refine⟨.slice (if cap=k then ad else ad.map (·.add (k*es))) (rows.length - k) (cap - k),?_,?_⟩
  ·have hb:(Instr.sliceBounds true rows.length cap (some (.int .i64 ((k:Nat):Int))) none none).run P w=.ok (k,rows.length,cap) w:=by
    unfold Instr.sliceBounds
    simp[run_sliceBound,hk]
   simp[execOp,ho,hu,h2.1,Instr.sliceAt,Instr.slice,run_underlying hT,hb,run_sizeOf hz]
  ·simp only[AV.R,PV.R,List.length_drop]
   refine⟨_,_,rfl,by omega,fun h=>by rw[hf h],fun h=>?_,fun ad' had hcap=>?_⟩
   ·split at h
    ·omega
    ·cases ad with
     |none=>rw[hn rfl];omega
     |some x=>simp at h
   ·have hne:¬cap=k:=by omega
    rw[if_neg hne]at had
    cases ad with
    |none=>simp at had
    |some x=>
     obtain⟨g1,g2,g3,g4⟩:=hc x rfl (by omega)
     obtain⟨b0,o0,s0⟩:=x
     simp only at g1;subst g1
     simp only[Option.map_some,Option.some.injEq]at had
     rw[ZB]at had
     subst had
     exact⟨rfl,g2,g3,g4.drop k⟩
end
/-
  The abstract machine, part T: an array of ours is copied within itself. No project text.
-/
section
variable {P:Program} {o:Oper} {rd:List (Nat×AV)}
end
/-
  The abstract machine, part V: slices of pure data with any bounds; parts of an array of ours (views). No project text.
-/
open Go
section
variable {P:Program} {o:Oper} {rd:List (Nat×AV)}
theorem Qhf{Γ:Ctx}{ρ:Name→Loc}{M:Nat→Prop}{s:AS}{a:Act}{w:World}{e:Eff}(hs:Sim Γ ρ M s a w)(hh:s.holds e){lo hi:Option Operand}{len cap k m:Nat}(hlo:optB e.rd 0 lo=some ((k:Nat):Int))(hhi:optB e.rd len hi=some ((m:Nat):Int))(h1:k≤m)(h2:m≤len)(h3:len≤cap):
  (Instr.sliceBounds true len cap (lo.map a.eval) (hi.map a.eval) none).run P w=.ok (k,m,cap) w:=by
 have hb1:=Qos (P:=P) (w:=w) (y:=cap) (c:=.sliceAcap) hs hh hhi (Nat.le_trans h2 h3)
 have hb2:=Qos (P:=P) (w:=w) (c:=.sliceB) hs hh hlo h1
 unfold Instr.sliceBounds
 cases lo<;>cases hi<;>simp_all
theorem OpOK.sliceP{T e:TypeId}{x:Operand}{lo hi:Option Operand}{full:Bool}{es k m:Nat}{rows:List (List PV)}(ho:o.op=.slice T x lo hi none)(hT:P.underlying T=some (.slice e))(hz:Zv P e=some es)(hx:Ql rd x=some (.p (.sl full es rows)))(hlo:optB rd 0 lo=some ((k:Nat):Int))(hhi:optB rd rows.length hi=some ((m:Nat):Int))(h1:k≤m)(h2:m≤rows.length):OpOK P o ⟨rd,[],.p (.sl false es ((rows.take m).drop k)),[],[]⟩:=
 OpOK.quiet fun Γ ρ M s a w hs hh=>by
  have hr:=Qm hs hh hx
  simp only[AV.R,PV.R]at hr
  obtain⟨ad,cap,hu,hl,hf,hn,hc⟩:=hr
  have hb:=Qhf (P:=P) hs hh hlo hhi h1 h2 hl
  refine⟨.slice (if cap=k then ad else ad.map (·.add (k*es))) (m - k) (cap - k),?_,?_⟩
  ·simp[execOp,ho,hu,Instr.sliceAt,Instr.slice,run_underlying hT,hb,run_sizeOf hz]
  ·simp only[AV.R,PV.R,List.length_drop,List.length_take,Nat.min_eq_left h2]
   refine⟨_,_,rfl,by omega,fun h=>by simp at h,fun h=>?_,fun ad' had hcap=>?_⟩
   ·split at h
    ·omega
    ·cases ad with
     |none=>rw[hn rfl];omega
     |some x=>simp at h
   ·have hne:¬cap=k:=by omega
    rw[if_neg hne]at had
    cases ad with
    |none=>simp at had
    |some x=>
     obtain⟨g1,g2,g3,g4⟩:=hc x rfl (by omega)
     obtain⟨b0,o0,s0⟩:=x
     simp only at g1;subst g1
     simp only[Option.map_some,Option.some.injEq]at had
     rw[ZB]at had
     subst had
     exact⟨rfl,g2,g3,(g4.take m).drop k⟩
theorem OpOK.sliceView{T e:TypeId}{x:Operand}{lo hi:Option Operand}{n:Name}{es len k m:Nat}{rows:List (List PV)}(ho:o.op=.slice T x lo hi none)(hT:P.underlying T=some (.slice e))(hz:Zv P e=some es)(hx:Ql rd x=some (.own n len))(hlo:optB rd 0 lo=some ((k:Nat):Int))(hhi:optB rd len hi=some ((m:Nat):Int))(hlen:Nat.beq len rows.length=true)(h1:k≤m)(h2:m≤rows.length):
  OpOK P o ⟨rd,[(n,.arr es rows)],.view n len k m,[],[]⟩:=
 OpOK.quiet fun Γ ρ M s a w hs hh=>by
  have hr:=Qm hs hh hx
  simp only[AV.R]at hr
  have hn:=hh.hp n _ (by simp:(n,AO.arr es rows)∈_)
  have hle:=nbe hlen
  have hu:=(hr.2 _ es rows.length hn rfl).2 hle
  obtain⟨hes,hcap,_⟩:=hs.objs n _ hn
  have hb:=Qhf (P:=P) (cap:=(ρ n).cap) hs hh hlo hhi h1 (by rw[hle];exact h2) (by rw[hle];exact hcap)
  refine⟨QhX (.slice (ρ n).base len (ρ n).cap) k m es,?_,?_⟩
  ·simp[execOp,ho,hu,Instr.sliceAt,Instr.slice,run_underlying hT,hb,run_sizeOf hz,QhX]
  ·simp only[AV.R]
   refine⟨rfl,h1,by rw[hle];exact h2,fun ob es' kk hob hsh=>?_⟩
   rw[hn]at hob;cases hob
   simp only[AO.shape,Option.some.injEq,Prod.mk.injEq]at hsh
   obtain⟨rfl,rfl⟩:=hsh
   exact⟨by omega,fun _=>rfl⟩
theorem QoV{ρ:Name→Loc}{H:Heap}{M:Nat→Prop}{w:World}:∀{ps:List PV} {us:List Value},AV.Rs ρ H M w (pcells ps) us→∀(q:Nat) (p:PV),ps[q]?=some p→∃u:Value,us[q]?=some u∧p.R M w u
 |[],us,_,q,p,h=>by simp at h
 |x::ps,us,h,q,p,hq=>by
  simp only[pcells,List.map_cons,AV.Rs]at h
  obtain⟨u,us',rfl,_,h3,h4⟩:=h
  cases q with
  |zero=>simp only[List.getElem?_cons_zero,Option.some.injEq]at hq;subst hq;exact⟨u,rfl,by simpa only[AV.R]using h3⟩
  |succ q=>simpa using QoV (ps:=ps) h4 q p (by simpa using hq)
theorem OpOK.lenView{T e:TypeId}{x:Operand}{ats:Array TypeId}{n:Name}{len lo hi es:Nat}{rows:List (List PV)}(ho:o.op=.call { callee:=.builtin .len,args:=#[x],argTypes:=ats })(hat:ats[0]?=some T)(hT:Vr P T=some e)(hx:Ql rd x=some (.view n len lo hi))(hlen:Nat.beq len rows.length=true):OpOK P o ⟨rd,[(n,.arr es rows)],.p (.v (.int .i64 ((hi - lo:Nat):Int))),[],[]⟩:=
 OpOK.quiet fun Γ ρ M s a w hs hh=>by
  have hr':=Qm hs hh hx
  simp only[AV.R]at hr'
  have hle:=nbe hlen
  have hu:=(hr'.2.2.2 (.arr es rows) es rows.length (hh.hp n _ (by simp)) rfl).2 hle
  simp only[QhX]at hu
  refine⟨.int .i64 ((hi - lo:Nat):Int),?_,by simp only[AV.R,PV.R];exact⟨trivial,rfl⟩⟩
  simp[execOp,ho,resolve,invoke,builtin,Builtin.len_,hat,hu,run_underlying (Qz hT),goInt]
theorem OpOK.indexView{T e:TypeId}{x y:Operand}{n:Name}{len lo hi es i:Nat}{rows:List (List PV)}{k:IntKind}{j:Int}(ho:o.op=.indexAddr T x y)(hT:Vr P T=some e)(hz:Zv P e=some es)(hx:Ql rd x=some (.view n len lo hi))(hlen:Nat.beq len rows.length=true)(hy:Ql rd y=some (.p (.v (.int k j))))(hj:j=(i:Int))(hi:i<hi - lo):OpOK P o ⟨rd,[(n,.arr es rows)],.aref n len (lo+i) 0,[],[]⟩:=
 OpOK.quiet fun Γ ρ M s a w hs hh=>by
  have hr:=Qm hs hh hx
  simp only[AV.R]at hr
  have hn:=hh.hp n _ (by simp:(n,AO.arr es rows)∈_)
  have hle:=nbe hlen
  have hu:=(hr.2.2.2 _ es rows.length hn rfl).2 hle
  have hhi:=hr.2.2.1
  obtain⟨h0,h1,h2⟩:=hs.objs n _ hn
  rcases h2 with h2|⟨b,T',cs,h3,h4,h5,h6,h7⟩
  ·omega
  ·have hc:¬(ρ n).cap=lo:=by omega
   simp only[QhX,hc,if_false,h3,Option.map_some,ZB]at hu
   refine⟨.pointer (some ⟨b,(lo+i)*es,none⟩),?_,?_⟩
   ·simp[execOp,ho,hu,QcW hs hh hy,Instr.indexAt,asIntOf,run_underlying (Qz hT),hj,hi,run_sizeOf hz,ZB,Nat.add_mul]
   ·simp only[AV.R]
    refine⟨rfl,fun o' es' k' hc hs'=>?_⟩
    rw[hn]at hc;cases hc
    cases hs'
    exact⟨by omega,fun _=>⟨b,h3,by simp⟩⟩
theorem OpOK.sliceView2{T e:TypeId}{x:Operand}{lo hi:Option Operand}{n:Name}{es len a b k m:Nat}{rows:List (List PV)}(ho:o.op=.slice T x lo hi none)(hT:P.underlying T=some (.slice e))(hz:Zv P e=some es)(hx:Ql rd x=some (.view n len a b))(hlo:optB rd 0 lo=some ((k:Nat):Int))(hhi:optB rd (b - a) hi=some ((m:Nat):Int))(hlen:Nat.beq len rows.length=true)(h1:k≤m)(h2:m≤b - a)(h3:a=0∨k=0∨k<m):
  OpOK P o ⟨rd,[(n,.arr es rows)],.view n len (a+k) (a+m),[],[]⟩:=
 OpOK.quiet fun Γ ρ M s w0 w hs hh=>by
  have hr:=Qm hs hh hx
  simp only[AV.R]at hr
  have hn:=hh.hp n _ (by simp:(n,AO.arr es rows)∈_)
  have hle:=nbe hlen
  have hu:=(hr.2.2.2 _ es rows.length hn rfl).2 hle
  have hab:=hr.2.1
  have hbl:=hr.2.2.1
  obtain⟨hes,hcap,hobj⟩:=hs.objs n _ hn
  have hb:=Qhf (P:=P) (cap:=(ρ n).cap - a) hs hh hlo hhi h1 h2 (by omega)
  simp only[QhX]at hu
  obtain⟨ad,had⟩:∃ad,ad=(if (ρ n).cap=a then(ρ n).base else(ρ n).base.map (·.add (a*es))):=⟨_,rfl⟩
  rw[←had]at hu
  refine⟨.slice (if (ρ n).cap - a=k then ad else ad.map (·.add (k*es))) (m - k) ((ρ n).cap - a - k),?_,?_⟩
  ·simp[execOp,ho,hu,Instr.sliceAt,Instr.slice,run_underlying hT,hb,run_sizeOf hz]
  ·simp only[AV.R]
   refine⟨rfl,by omega,by omega,fun ob es' kk hob hsh=>?_⟩
   rw[hn]at hob;cases hob
   simp only[AO.shape,Option.some.injEq,Prod.mk.injEq]at hsh
   obtain⟨rfl,rfl⟩:=hsh
   refine⟨by omega,fun _=>?_⟩
   simp only[QhX]
   rw[show a+m - (a+k)=m - k by omega,show(ρ n).cap - a - k=(ρ n).cap - (a+k)by omega]
   congr 1
   by_cases hca:(ρ n).cap=a
   ·have hk0:k=0:=by omega
    subst hk0
    rw[if_pos (by omega),if_pos (by omega),had,if_pos hca]
   ·rcases hobj with hobj|⟨b',t,cs,g3,_⟩
    ·exact absurd (show(ρ n).cap=a by omega) hca
    ·rw[had,if_neg hca]
     by_cases hck:(ρ n).cap=a+k
     ·have h4:a=0:=by omega
      subst h4
      rw[if_pos (by omega),if_pos hck,g3]
      simp[ZB]
     ·rw[if_neg (by omega),if_neg hck,g3]
      simp[ZB,Nat.add_mul]
theorem OpOK.clearView{T e:TypeId}{x:Operand}{ats:Array TypeId}{n:Name}{es len i m:Nat}{zr:List PV}{rows rows':List (List PV)}(ho:o.op=.call { callee:=.builtin .clear,args:=#[x],argTypes:=ats })(hat:ats[0]?=some T)(hT:P.underlying T=some (.slice e))(hz:Zv P e=some es)(hzr:Qa0 P e=some zr)(hzl:zr.length=es)(hx:Ql rd x=some (.view n len i m))(hlen:Nat.beq len rows.length=true)(hi:i≤m)(hm:m≤rows.length)(hr:rows.take i++List.replicate (m - i) zr++rows.drop m=rows'):OpOK P o ⟨rd,[(n,.arr es rows)],.tup [],[(n,.arr es rows')],[]⟩:=
 OpOK.upd fun Γ ρ M s a w hs hh=>by
  subst hr
  have hn:=hh.hp n _ (by simp:(n,AO.arr es rows)∈_)
  have hle:=nbe hlen
  have h1:=Qm hs hh hx
  simp only[AV.R]at h1
  have hX:=(h1.2.2.2 _ es rows.length hn rfl).2 hle
  simp only[QhX]at hX
  obtain⟨hes,hcap,hobj⟩:=hs.objs n _ hn
  have hres:∀ρ' H' M' w',AV.R ρ' H' M' w' (.tup []) (.tuple #[]):=fun _ _ _ _=>by simp only[AV.R,AV.Ts];exact⟨#[],rfl,rfl⟩
  unfold Qa0 at hzr
  split at hzr
  case h_2=>simp at hzr
  rename_i zs hcs
  obtain⟨inf,z,hinf,hz',hall,rfl⟩:=Um hcs
  by_cases hz0:m - i=0
  ·have hrows:rows.take i++List.replicate (m - i) zr++rows.drop m=rows:=by rw[hz0,List.replicate_zero,List.append_nil,show m=i by omega];exact List.take_append_drop i rows
   rw[hrows]
   refine⟨_,w,ρ,M,?_,hs.congr (fun t=>rfl) (fun m=>?_),hres _ _ _ _⟩
   ·have hl0:m - i=0:=hz0
    have hA:∀(d:Option Addr) (c:Nat),(Builtin.clear_ ats o.type #[.slice d 0 c]).run P w=.ok (.tuple #[]) w:=fun d c=>by
     cases d<;>simp[Builtin.clear_,hat,run_underlying hT]
    rw[hl0]at hX
    simp[execOp,ho,resolve,invoke,builtin,hX,hA]
   ·by_cases e:m=n
    ·subst e;simp[hn]
    ·simp[e]
  ·rcases hobj with hobj|⟨b,t,cs,h3,h4,h5,h6,h7⟩
   ·omega
   ·have hci:¬(ρ n).cap=i:=by omega
    have hdst:a.eval x=.slice (some ⟨b,i*es,none⟩) (m - i) ((ρ n).cap - i):=by rw[hX];simp[hci,h3,ZB]
    have hzR:AV.Rs ρ s.heap M w (pcells zr) z.cells.toList:=by rw[←Qaw hzr];exact Xu hall
    have hzlen:z.cells.toList.length=es:=by have:=hzR.length;rw[this];simp[pcells,hzl]
    have hN2:i*es+(m - i)*es≤cs.size:=by rw[h6,←Nat.add_mul];exact Nat.mul_le_mul_right es (by omega)
    obtain⟨vs,hvs⟩:∃vs,vs=(Builtin.zeroCells z.cells (m - i)).toList:=⟨_,rfl⟩
    have hzsz:z.cells.size=es:=by simpa using hzlen
    have hvl:vs.length=(m - i)*es:=by rw[hvs];simp[Builtin.zeroCells,hzsz]
    have hget:∀q,q<(m - i)*es→vs[q]?=z.cells.toList[q % es]?:=fun q hq=>by
     have hmod:q % es<es:=Nat.mod_lt _ hes
     rw[hvs]
     simp only[Builtin.zeroCells,hzsz,Array.getElem?_toList]
     rw[Array.getElem?_map,Array.getElem?_range]
     simp[hq,hzsz,hmod,getElem!_def]
    have hold:∀q,w.cell? ⟨b,q,none⟩=cs.toList[q]?:=fun q=>by simp[World.cell?,h5]
    have hone:∀v∈vs,v.oneCell'=true:=by
     intro v hv
     obtain⟨q,hq,e⟩:=List.getElem_of_mem hv
     rw[hvl]at hq
     have hmod:q % es<es:=Nat.mod_lt _ hes
     have h:=hget q hq
     rw[List.getElem?_eq_getElem (by omega),e]at h
     obtain⟨u,k1,k2⟩:=QoV hzR (q % es) zr[q % es] (List.getElem?_eq_getElem (by omega))
     rw[k1]at h
     have:v=u:=by simpa using h
     rw[this];exact k2.flat
    have hstore:=run_storeCells_at (P:=P) b (i*es) t vs 0 cs w h5 (by rw[hvl];omega) hone
    have hw:(Qv cs.toList (i*es) vs).toArray=(cs.toList.take (i*es+0)++vs++cs.toList.drop (i*es+0+vs.length)).toArray:=by unfold Qv;rfl
    refine⟨_,w.setRow b (Qv cs.toList (i*es) vs).toArray,(fun m=>if m=n then ρ n else ρ m),M,?_,?_,hres _ _ _ _⟩
    ·have hne:m - i≠0:=hz0
     have hrun:(Builtin.clear_ ats o.type #[a.eval x]).run P w=.ok (.tuple #[]) (w.setRow b (Qv cs.toList (i*es) vs).toArray):=by
      rw[hdst]
      obtain⟨nn,hnn⟩:∃nn,m - i=nn+1:=⟨m - i - 1,by omega⟩
      rw[hnn]at hvs ⊢
      simp[Builtin.clear_,hat,run_underlying hT,Yz hinf hz',←hvs]
      rw[hstore,hw];rfl
     simp[execOp,ho,resolve,invoke,builtin,hrun]
    ·have hblk:(ρ n).blk=some b:=by
      have:(ρ n).cap≠0:=by omega
      simp[Loc.blk,this,h3]
     have he:Ext (fun b'=>b'=b) w (w.setRow b (Qv cs.toList (i*es) vs).toArray):=⟨by simp[World.setRow],fun b' hb hne=>setRow_other w b b' _ hne,rfl,rfl⟩
     have hM:M b:=h4
     have hlen':(rows.take i++List.replicate (m - i) zr++rows.drop m).length=rows.length:=by simp;omega
     refine hs.update1 (he.weaken fun b' _ hb=>⟨by rw[hblk,hb],by rw[hn];simp⟩) (fun _ hb=>hb) (fun _ hb=>.inl hb) (fun b' hb=>Nat.lt_of_lt_of_le (hs.msize b' hb) he.size)
      (fun o' ho'=>by rw[hn]at ho';cases ho';simp only[stays];exact⟨trivial,by rw[hlen'];exact Nat.le_refl _,fun _=>trivial⟩) (fun h0=>by rw[hn]at h0;simp at h0) ?_ (fun b' hb=>.inl ⟨_,hn,hb⟩)
     refine⟨hes,by rw[hlen'];simpa using hcap,.inr ⟨b,t,_,by simp[h3],hM,setRow_heap w b cs _ t (0,0) h5,?_,?_⟩⟩
     ·simp only[if_true,List.size_toArray,Qv,List.length_append,List.length_take,List.length_drop,Array.length_toList,←h6,hvl]
      omega
     ·have hmono:∀{x:PV} {u:Value},x.R M w u→x.R M (w.setRow b (Qv cs.toList (i*es) vs).toArray) u:=fun h=>h.mono he (fun b' hb=>by rw[hb];exact hM) (fun b' _ hb=>hb)
      have hcell:∀q,(w.setRow b (Qv cs.toList (i*es) vs).toArray).cell? ⟨b,q,none⟩=(Qv cs.toList (i*es) vs)[q]?:=fun q=>by
       rw[cell_setRow_same w b q cs _ t (0,0) h5,List.getElem?_toArray]
      have hset:∀q,(Qv cs.toList (i*es) vs)[q]?=if i*es≤q∧q<i*es+(m - i)*es then vs[q - i*es]? else cs.toList[q]?:=fun q=>by
       have htl:(List.take (i*es) cs.toList).length=i*es:=by simp;omega
       unfold Qv
       by_cases c1:q<i*es
       ·rw[if_neg (by omega),List.append_assoc,List.getElem?_append_left (by omega),List.getElem?_take_of_lt c1]
       ·by_cases c2:q<i*es+(m - i)*es
        ·rw[if_pos ⟨by omega,c2⟩,List.append_assoc,List.getElem?_append_right (by omega),List.getElem?_append_left (by rw[htl,hvl];omega),htl]
        ·rw[if_neg (by omega),List.getElem?_append_right (by simp only[List.length_append,htl,hvl];omega),List.getElem?_drop]
         congr 1
         simp only[List.length_append,htl,hvl];omega
      refine PV.Rows.of_get fun i' r' hi'=>?_
      have htk:(rows.take i).length=i:=by simp;omega
      rw[List.append_assoc,List.getElem?_append]at hi'
      by_cases c:i'<i
      ·rw[if_pos (by omega),List.getElem?_take,if_pos c]at hi'
       obtain⟨g1,g2⟩:=h7.get i' r' hi'
       refine⟨g1,PV.Cells.of_get fun q p hq=>?_⟩
       obtain⟨u,k1,k2⟩:=g2.get q p hq
       have hq':q<es:=by rw[←g1];exact(List.getElem?_eq_some_iff.1 hq).1
       have hlt:i'*es+q<i*es:=by
        have:(i'+1)*es≤i*es:=Nat.mul_le_mul_right es c
        rw[Nat.succ_mul]at this;omega
       refine⟨u,?_,hmono k2⟩
       rw[hcell,hset,if_neg (by omega),←hold];exact k1
      ·rw[if_neg (by omega),htk,List.getElem?_append,List.length_replicate,List.getElem?_replicate]at hi'
       by_cases hlt:i' - i<m - i
       ·rw[if_pos hlt,if_pos hlt]at hi'
        cases hi'
        refine⟨hzl,PV.Cells.of_get fun q p hq=>?_⟩
        have hq':q<es:=by rw[←hzl];exact(List.getElem?_eq_some_iff.1 hq).1
        obtain⟨u,k1,k2⟩:=QoV hzR q p hq
        have e1:i'*es=i*es+(i' - i)*es:=by rw[←Nat.add_mul];congr 1;omega
        have hlt2:(i' - i)*es+q<(m - i)*es:=by
         have:(i' - i+1)*es≤(m - i)*es:=Nat.mul_le_mul_right es hlt
         rw[Nat.succ_mul]at this;omega
        refine⟨u,?_,hmono k2⟩
        rw[hcell,hset,if_pos (by omega),show 0+i'*es+q - i*es=(i' - i)*es+q by omega,hget _ hlt2,←k1]
        rw[Nat.add_comm,Nat.add_mul_mod_self_right,Nat.mod_eq_of_lt hq']
       ·rw[if_neg hlt,List.getElem?_drop,show m+(i' - i - (m - i))=i' by omega]at hi'
        obtain⟨g1,g2⟩:=h7.get i' r' hi'
        refine⟨g1,PV.Cells.of_get fun q p hq=>?_⟩
        obtain⟨u,k1,k2⟩:=g2.get q p hq
        have hge:i*es+(m - i)*es≤i'*es:=by
         rw[←Nat.add_mul];exact Nat.mul_le_mul_right es (by omega)
        refine⟨u,?_,hmono k2⟩
        rw[hcell,hset,if_neg (by omega),←hold];exact k1
theorem OpOK.copyView{T e:TypeId}{x y:Operand}{ats:Array TypeId}{n:Name}{es len i j:Nat}{rows rows':List (List PV)}{r:Int}(ho:o.op=.call { callee:=.builtin .copy,args:=#[x,y],argTypes:=ats })(hat:ats=#[T,T])(hT:P.underlying T=some (.slice e))(hz:Zv P e=some es)(hx:Ql rd x=some (.view n len i len))(hy:Ql rd y=some (.view n len j len))(hlen:Nat.beq len rows.length=true)(hi:i≤rows.length)(hj:j≤i)(hr:rows.take i++(rows.drop j).take (rows.length - i)=rows')(hv:((rows.length - i:Nat):Int)=r):
  OpOK P o ⟨rd,[(n,.arr es rows)],.p (.v (.int .i64 r)),[(n,.arr es rows')],[]⟩:=
 OpOK.upd fun Γ ρ M s a w hs hh=>by
  subst hr;subst hv;subst hat
  have hn:=hh.hp n _ (by simp:(n,AO.arr es rows)∈_)
  have hle:=nbe hlen
  have h1:=Qm hs hh hx
  have h2:=Qm hs hh hy
  simp only[AV.R]at h1 h2
  have hX:=(h1.2.2.2 _ es rows.length hn rfl).2 hle
  have hY:=(h2.2.2.2 _ es rows.length hn rfl).2 hle
  simp only[QhX]at hX hY
  obtain⟨hes,hcap,hobj⟩:=hs.objs n _ hn
  have hsz:=run_sizeOf (P:=P) (w:=w) hz
  have hres:∀ρ' H' M' w',AV.R ρ' H' M' w' (.p (.v (.int .i64 ((rows.length - i:Nat):Int)))) (.int .i64 ((rows.length - i:Nat):Int)):=fun _ _ _ _=>by simp only[AV.R,PV.R];exact⟨trivial,rfl⟩
  have hmin:Nat.min (len - j) (len - i)=rows.length - i:=by rw[hle];exact Nat.min_eq_right (by omega)
  by_cases hz0:rows.length - i=0
  ·have hrows:rows.take i++(rows.drop j).take (rows.length - i)=rows:=by rw[hz0,List.take_zero,List.append_nil];exact List.take_of_length_le (by omega)
   rw[hrows]
   refine⟨_,w,ρ,M,?_,hs.congr (fun t=>rfl) (fun m=>?_),hres _ _ _ _⟩
   ·have hl:∀(q:Addr),(loadCells q 0).run P w=.ok #[] w:=fun q=>by simpa using run_loadCells_list (P:=P) w q [] (by simp)
    have hA:∀(d q:Option Addr) (dc qc:Nat),(Builtin.copy_ #[T,T] o.type #[.slice d (len - i) dc,.slice q (len - j) qc]).run P w=.ok (goInt ((rows.length - i:Nat):Int)) w:=fun d q dc qc=>by
     cases d<;>cases q<;>simp[Builtin.copy_,run_underlying hT,Builtin.lenOf,Builtin.firstCells,hsz,hmin,hz0,storeCells,hl,Result.andThen]
    simp[execOp,ho,resolve,invoke,builtin,hX,hY,hA,goInt]
   ·by_cases e:m=n
    ·subst e;simp[hn]
    ·simp[e]
  ·rcases hobj with hobj|⟨b,t,cs,h3,h4,h5,h6,h7⟩
   ·omega
   ·have hci:¬(ρ n).cap=i:=by omega
    have hcj:¬(ρ n).cap=j:=by omega
    have hdst:a.eval x=.slice (some ⟨b,i*es,none⟩) (len - i) ((ρ n).cap - i):=by rw[hX];simp[hci,h3,ZB]
    have hsrc:a.eval y=.slice (some ⟨b,j*es,none⟩) (len - j) ((ρ n).cap - j):=by rw[hY];simp[hcj,h3,ZB]
    have hN:(rows.length - i)*es+j*es≤cs.size:=by rw[h6,←Nat.add_mul];exact Nat.mul_le_mul_right es (by omega)
    have hN2:i*es+(rows.length - i)*es≤cs.size:=by rw[h6,←Nat.add_mul];exact Nat.mul_le_mul_right es (by omega)
    obtain⟨vs,hvs⟩:∃vs,vs=(cs.toList.drop (j*es)).take ((rows.length - i)*es):=⟨_,rfl⟩
    have hvl:vs.length=(rows.length - i)*es:=by rw[hvs];simp;omega
    have hget:∀q,q<(rows.length - i)*es→vs[q]?=cs.toList[j*es+q]?:=fun q hq=>by rw[hvs,List.getElem?_take,if_pos hq,List.getElem?_drop]
    have hold:∀q,w.cell? ⟨b,q,none⟩=cs.toList[q]?:=fun q=>by simp[World.cell?,h5]
    have hone:∀v∈vs,v.oneCell'=true:=by
     intro v hv
     obtain⟨q,hq,e⟩:=List.getElem_of_mem hv
     rw[hvl]at hq
     have hdiv:q / es<rows.length - i:=Nat.div_lt_of_lt_mul (by rw[Nat.mul_comm];exact hq)
     have hmod:q % es<es:=Nat.mod_lt _ hes
     have hrow:rows[j+q / es]?=some rows[j+q / es]:=List.getElem?_eq_getElem (by omega)
     obtain⟨g1,g2⟩:=h7.get _ _ hrow
     have hc:rows[j+q / es][q % es]?=some rows[j+q / es][q % es]:=List.getElem?_eq_getElem (by omega)
     obtain⟨u,k1,k2⟩:=g2.get _ _ hc
     have hpos:0+(j+q / es)*es+q % es=j*es+q:=by
      have:=Nat.div_add_mod q es
      rw[Nat.add_mul,Nat.mul_comm (q / es)];omega
     rw[hpos,hold]at k1
     have:=hget q hq
     rw[k1,List.getElem?_eq_getElem (by omega),e]at this
     have hvu:v=u:=by simpa using this
     rw[hvu];exact k2.flat
    have hload:=run_loadCells_list (P:=P) w ⟨b,j*es,none⟩ vs (fun q v hq=>by
     rw[ZB,hold]
     have hq':q<(rows.length - i)*es:=by rw[←hvl];exact(List.getElem?_eq_some_iff.1 hq).1
     rw[←hget q hq'];exact hq)
    have hstore:=run_storeCells_at (P:=P) b (i*es) t vs 0 cs w h5 (by rw[hvl];omega) hone
    rw[hvl]at hload
    have hw:(Qv cs.toList (i*es) vs).toArray=(cs.toList.take (i*es+0)++vs++cs.toList.drop (i*es+0+vs.length)).toArray:=by unfold Qv;rfl
    refine⟨_,w.setRow b (Qv cs.toList (i*es) vs).toArray,(fun m=>if m=n then ρ n else ρ m),M,?_,?_,hres _ _ _ _⟩
    ·have hrun:(Builtin.copy_ #[T,T] o.type #[a.eval x,a.eval y]).run P w=.ok (goInt ((rows.length - i:Nat):Int)) (w.setRow b (Qv cs.toList (i*es) vs).toArray):=by
      rw[hdst,hsrc]
      simp[Builtin.copy_,run_underlying hT,Builtin.lenOf,Builtin.firstCells,hsz,hmin,hload,Result.andThen]
      rw[hstore,hw]
     simp[execOp,ho,resolve,invoke,builtin,hrun,goInt]
    ·have hblk:(ρ n).blk=some b:=by
      have:(ρ n).cap≠0:=by omega
      simp[Loc.blk,this,h3]
     have he:Ext (fun b'=>b'=b) w (w.setRow b (Qv cs.toList (i*es) vs).toArray):=⟨by simp[World.setRow],fun b' hb hne=>setRow_other w b b' _ hne,rfl,rfl⟩
     have hM:M b:=h4
     have hlen':(rows.take i++(rows.drop j).take (rows.length - i)).length=rows.length:=by simp;omega
     refine hs.update1 (he.weaken fun b' _ hb=>⟨by rw[hblk,hb],by rw[hn];simp⟩) (fun _ hb=>hb) (fun _ hb=>.inl hb) (fun b' hb=>Nat.lt_of_lt_of_le (hs.msize b' hb) he.size)
      (fun o' ho'=>by rw[hn]at ho';cases ho';simp only[stays];exact⟨trivial,by rw[hlen'];exact Nat.le_refl _,fun _=>trivial⟩) (fun h0=>by rw[hn]at h0;simp at h0) ?_ (fun b' hb=>.inl ⟨_,hn,hb⟩)
     refine⟨hes,by rw[hlen'];simpa using hcap,.inr ⟨b,t,_,by simp[h3],hM,setRow_heap w b cs _ t (0,0) h5,?_,?_⟩⟩
     ·simp only[if_true,List.size_toArray,Qv,List.length_append,List.length_take,List.length_drop,Array.length_toList,←h6,hvl]
      omega
     ·have hmono:∀{x:PV} {u:Value},x.R M w u→x.R M (w.setRow b (Qv cs.toList (i*es) vs).toArray) u:=fun h=>h.mono he (fun b' hb=>by rw[hb];exact hM) (fun b' _ hb=>hb)
      have hcell:∀q,(w.setRow b (Qv cs.toList (i*es) vs).toArray).cell? ⟨b,q,none⟩=(Qv cs.toList (i*es) vs)[q]?:=fun q=>by
       rw[cell_setRow_same w b q cs _ t (0,0) h5,List.getElem?_toArray]
      have hset:∀q,(Qv cs.toList (i*es) vs)[q]?=if i*es≤q∧q<i*es+(rows.length - i)*es then vs[q - i*es]? else cs.toList[q]?:=fun q=>by
       have htl:(List.take (i*es) cs.toList).length=i*es:=by simp;omega
       unfold Qv
       by_cases c1:q<i*es
       ·rw[if_neg (by omega),List.append_assoc,List.getElem?_append_left (by omega),List.getElem?_take_of_lt c1]
       ·by_cases c2:q<i*es+(rows.length - i)*es
        ·rw[if_pos ⟨by omega,c2⟩,List.append_assoc,List.getElem?_append_right (by omega),List.getElem?_append_left (by rw[htl,hvl];omega),htl]
        ·rw[if_neg (by omega),List.getElem?_append_right (by simp only[List.length_append,htl,hvl];omega),List.getElem?_drop]
         congr 1
         simp only[List.length_append,htl,hvl];omega
      refine PV.Rows.of_get fun i' r' hi'=>?_
      rw[List.getElem?_append]at hi'
      have htk:(rows.take i).length=i:=by simp;omega
      by_cases c:i'<i
      ·rw[if_pos (by omega),List.getElem?_take,if_pos c]at hi'
       obtain⟨g1,g2⟩:=h7.get i' r' hi'
       refine⟨g1,PV.Cells.of_get fun q p hq=>?_⟩
       obtain⟨u,k1,k2⟩:=g2.get q p hq
       have hq':q<es:=by rw[←g1];exact(List.getElem?_eq_some_iff.1 hq).1
       have hlt:i'*es+q<i*es:=by
        have:(i'+1)*es≤i*es:=Nat.mul_le_mul_right es c
        rw[Nat.succ_mul]at this;omega
       refine⟨u,?_,hmono k2⟩
       rw[hcell,hset,if_neg (by omega),←hold];exact k1
      ·rw[if_neg (by omega),htk,List.getElem?_take]at hi'
       split at hi'
       ·rename_i hlt
        rw[List.getElem?_drop]at hi'
        obtain⟨g1,g2⟩:=h7.get (j+(i' - i)) r' hi'
        refine⟨g1,PV.Cells.of_get fun q p hq=>?_⟩
        obtain⟨u,k1,k2⟩:=g2.get q p hq
        have hq':q<es:=by rw[←g1];exact(List.getElem?_eq_some_iff.1 hq).1
        have e1:i'*es=i*es+(i' - i)*es:=by rw[←Nat.add_mul];congr 1;omega
        have e2:(j+(i' - i))*es=j*es+(i' - i)*es:=Nat.add_mul _ _ _
        have hlt2:(i' - i)*es+q<(rows.length - i)*es:=by
         have:(i' - i+1)*es≤(rows.length - i)*es:=Nat.mul_le_mul_right es hlt
         rw[Nat.succ_mul]at this;omega
        refine⟨u,?_,hmono k2⟩
        rw[hcell,hset,if_pos (by omega),show 0+i'*es+q - i*es=(i' - i)*es+q by omega,hget _ hlt2,←hold,←k1]
        congr 2;omega
       ·simp at hi'
theorem OpOK.indexV{T e:TypeId}{x y:Operand}{len j:Nat}{cells:List AV}{c:AV}(ho:o.op=.index T x y)(hT:P.underlying T=some (.array len e))(hz:Zv P e=some 1)(hfl:Qa7 P e=true)(hx:Ql rd x=some (.agg cells))(hy:Ql rd y=some (.p (.v (.int .i64 ((j:Nat):Int)))))(hj:j<len)(hc:cells[j]?=some c):OpOK P o ⟨rd,[],c,[],[]⟩:=
 OpOK.quiet fun Γ ρ M s a w hs hh=>by
  have h1:=Qm hs hh hx
  have h2:=Qm hs hh hy
  simp only[AV.R,PV.R]at h1 h2
  obtain⟨us,hu,hr⟩:=h1
  obtain⟨u,hu1,_,hu3⟩:=hr.get j c hc
  refine⟨u,?_,hu3⟩
  have hpart:(part e us j).run P w=.ok u w:=by
   have:us[j]?=some u:=by simpa using hu1
   simp[part,VU hfl,this]
  simp[execOp,ho,hu,h2.1,Instr.index,asIntOf,run_underlying hT,run_sizeOf hz,hj,hpart]
end
/-
  The typed layer, part D: what operations do is what they do. No project text.
-/
section
variable {R:Type} {P:Program} {ty:TypeId→Option TC} {rd:TS} {hs:HS} {K:BEff→Option R} {r:R} {o:Oper}
def Does(P:Program)(o:Oper)(rd:TS)(hs:HS)(K:BEff→Option R)(r:R):Prop:=∃e,K e=some r∧Good P o rd hs e
theorem Qsp{x:Operand}(ho:o.op=.move x∨o.op=.assign x)(h:bVal rd K x=some r):Does P o rd hs K r:=by
 unfold bVal at h
 split at h
 ·rename_i v hv
  exact⟨_,h,.ev fun L _=>ho.elim (fun ho=>OpOK.move ho (Qj L hv)) (fun ho=>OpOK.assign ho (Qj L hv))⟩
 ·simp at h
theorem Qfk{x:Operand}{q:Bool}(L:Lens)(h:ZM rd x=some (.b q)):Ql (erT L rd) x=some (.p (.v (.bool q))):=by have:=Qj L h;simpa only[BV.er]using this
theorem Zh{x:Operand}{k:IntKind}{q:Int}(L:Lens)(h:ZM rd x=some (.n k q)):Ql (erT L rd) x=some (.p (.v (.int k q))):=by have:=Qj L h;simpa only[BV.er]using this
theorem Qdt{x:Operand}{q:ByteArray}(L:Lens)(h:ZM rd x=some (.s q)):Ql (erT L rd) x=some (.p (.v (.string q))):=by have:=Qj L h;simpa only[BV.er]using this
theorem QuC{c x y:Operand}(ho:o.op=.pick c x y)(h:Qwz rd K c x y=some r):Does P o rd hs K r:=by
 unfold Qwz at h
 split at h
 ·rename_i q u v hc hx hy
  rcases QfT h with⟨rfl,h⟩|⟨rfl,h⟩
  ·exact⟨_,h,.ev fun L _=>OpOK.pickT ho (Qfk L hc) (Qj L hx)⟩
  ·exact⟨_,h,.ev fun L _=>OpOK.pickF ho (Qfk L hc) (Qj L hy)⟩
 ·simp at h
theorem Qim{T:TypeId}{cs:List BV}(L:Lens)(h:QrQ P T=some cs):Qe7 P T=some (erL L cs):=by
 unfold QrQ at h
 unfold Qe7
 split at h
 ·split at h
  ·split at h
   ·rename_i hi _ z hz hall;cases h;simp only[hi,hz,hall,if_true,Qnw]
   ·simp at h
  ·simp at h
 ·simp at h
theorem Good.new{v:BV}{n:Name}{ob:BO}(L':Lens→Lens)(h1:∀L m u,m≠n→L' L m u=L m u)(h2:∀L,Inv L hs→∀t l u,ob=.arr t l u→L' L n u=l.length)(h3:∀L,Inv L hs→OpOK P o ⟨erT L rd,[],v.er (L' L),[(n,ob.er (L' L))],[n]⟩):
  Good P o rd hs ⟨[],v,[(n,ob)],[n],[]⟩:=
 ⟨fun _ _ hm=>by simp at hm,fun L hL=>⟨L' L,fun m u hm _=>h1 L m u (by simpa using hm),fun m t l u hm=>by
  simp only[List.cons_append,List.nil_append,look]at hm
  split at hm
  ·rename_i e;subst e;cases hm;exact h2 L hL t l u rfl
  ·rename_i e;rw[h1 L m u (Ne.symm e)];exact hL m t l u hm,h3 L hL⟩⟩
theorem Good.newBox{v:BV}{n:Name}{cs:List BV}(h3:∀L,Inv L hs→OpOK P o ⟨erT L rd,[],v.er L,[(n,.box (erL L cs))],[n]⟩):Good P o rd hs ⟨[],v,[(n,.box cs)],[n],[]⟩:=
 Good.new (fun L=>L) (fun _ _ _ _=>rfl) (fun _ _ t l u h=>by simp at h) h3
theorem Qsc{T:TypeId}(ho:o.op=.alloc T)(h:Qsb P K o.dst T=some r):Does P o rd hs K r:=by
 unfold Qsb at h
 split at h
 ·rename_i d cs hd hz
  exact⟨_,h,.newBox fun L _=>by simp only[BV.er];exact OpOK.alloc ho (Qim L hz)⟩
 ·simp at h
theorem Qwq{T:TypeId}{x:Operand}(ho:o.op=.box T x)(h:bBox rd K o.dst x=some r):Does P o rd hs K r:=by
 unfold bBox at h
 split at h
 ·rename_i d v hd hv
  split at h
  ·rename_i cs hc
   exact⟨_,h,.newBox fun L _=>by simp only[BV.er];exact OpOK.box ho (Qj L hv) (Qdj L hc)⟩
  ·simp at h
 ·simp at h
theorem Qmc(L:Lens){pl:List (Nat×Nat)}:∀{ps:List (Nat×Operand)} {cs cs':List BV},QtC rd pl ps cs=some cs'→putCells (erT L rd) pl ps (erL L cs)=some (erL L cs')
 |[],cs,cs',h=>by simp only[QtC,Option.some.injEq]at h;subst h;simp only[putCells]
 |(i,x)::ps,cs,cs',h=>by
  simp only[QtC]at h
  split at h
  ·rename_i off size y hp hy
   split at h
   ·rename_i c hc
    split at h
    ·rename_i hb
     simp only[putCells,hp,Qj L hy,Qdj L hc,Xl,hb,if_true]
     rw[←Qnx]
     rw[Qjc]at h
     have hb':=hb
     simp only[bae]at hb'
     rw[QlS _ _ _ (by rw[nbe hb'.1];exact Nat.le_of_ble_eq_true hb'.2)]at h
     exact Qmc L h
    ·simp at h
   ·simp at h
  ·simp at h
theorem Qse{T:TypeId}{parts:Array (Nat×Operand)}(ho:o.op=.build T parts)(h:Qsd P rd K T parts=some r):Does P o rd hs K r:=by
 unfold Qsd at h
 split at h
 ·rename_i pl zs h1 h2
  split at h
  ·rename_i cells hc
   refine⟨_,h,.ev fun L _=>?_⟩
   simp only[BV.er]
   unfold Qty at h1
   split at h1
   ·rename_i n e hT
    split at h1
    ·rename_i es hes
     cases h1
     exact OpOK.buildArr ho hT hes (Qim L h2) (Qmc L hc)
    ·simp at h1
   ·exact OpOK.build ho h1 (Qim L h2) (Qmc L hc)
  ·simp at h
 ·simp at h
theorem Qmb(L:Lens){cs:List BV}(h:cs.all BV.isP=true):QjD (erL L cs)=some (pvL cs):=by
 rw[Vy h]
 have:∀ps:List PV,QjD (pcells ps)=some ps:=by
  intro ps
  induction ps with
  |nil=>rfl
  |cons x r ih=>simp only[pcells,List.map_cons,QjD]at ih ⊢;rw[ih]
 exact this _
theorem QrT:∀{a b:List PV},Xx (pcells a) (pcells b)→CsLe a b
 |[],[],_=>trivial
 |[],_::_,h=>by simp only[pcells,List.map_nil,List.map_cons]at h;cases h
 |_::_,[],h=>by simp only[pcells,List.map_nil,List.map_cons]at h;cases h
 |x::xs,y::ys,h=>by
  simp only[pcells,List.map_cons]at h
  cases h with
  |cons h1 h2=>
   refine⟨?_,QrT h2⟩
   cases h1 with
   |refl=>exact PVle.refl _
   |p h=>exact h
theorem Qlj{cs:List BV}{t:TC}{y:TT t}(h:Le cs (tb t y++[]))(hp:cs.all BV.isP=true):CsLe (pvL cs) (tcells t y):=by
 have:=h (fun _ _=>0)
 rw[List.append_nil,Vy hp,Vy (Qch t y),QrL]at this
 exact QrT this
theorem YZ.nth:∀{a b:List (List PV)},a.length=b.length→(∀(i:Nat) (x y:List PV),a[i]?=some x→b[i]?=some y→CsLe x y)→YZ a b
 |[],[],_,_=>trivial
 |[],_::_,h,_=>by simp at h
 |_::_,[],h,_=>by simp at h
 |x::xs,y::ys,h,h2=>⟨h2 0 x y rfl rfl,YZ.nth (by simpa using h) (fun i a b ha hb=>h2 (i+1) a b (by simpa using ha) (by simpa using hb))⟩
theorem Qhd{t:TC}:∀{ps:List (Nat×Operand)} {i len:Nat} {K:List (TT t)→Option R},QrF rd t ps i len K=some r→
  ∃l:List (TT t),K l=some r∧i+l.length=len∧∀(L:Lens) (pre rest:List (List PV)),pre.length=i→rest.length=l.length→
   ∃rows,QbI (erT L rd) (tz t) ps (pre++rest)=some (pre++rows)∧YZ rows (l.map (tcells t))
 |[],i,len,K,h=>by
  simp only[QrF]at h
  split at h
  ·rename_i e
   refine⟨[],h,by simpa using nbe e,fun L pre rest hp hr=>⟨[],?_,trivial⟩⟩
   have:rest=[]:=List.eq_nil_of_length_eq_zero (by simpa using hr)
   subst this;simp only[QbI]
  ·simp at h
 |(j,x)::ps,i,len,K,h=>by
  simp only[QrF]at h
  split at h
  ·rename_i e
   have:=nbe e;subst this
   split at h
   ·rename_i v hv
    split at h
    ·rename_i cs hc
     split at h
     ·rename_i hb
      simp only[bae]at hb
      obtain⟨y,rest0,hle,h⟩:=Qck t h
      split at h
      ·obtain⟨l,g1,g2,g3⟩:=Qhd h
       refine⟨y::l,g1,by simp only[List.length_cons];omega,fun L pre rest hp hr=>?_⟩
       cases rest with
       |nil=>simp at hr
       |cons z rest=>
        obtain⟨rows,k1,k2⟩:=g3 L (pre++[pvL cs]) rest (by simp[hp]) (by simpa using hr)
        refine⟨pvL cs::rows,?_,Qlj hle hb.2,k2⟩
        have hset:(pre++z::rest).set j (pvL cs)=pre++[pvL cs]++rest:=by
         simp_all
        have hlt:Nat.blt j (pre++z::rest).length=true:=by simp[Nat.blt,hp]
        simp only[QbI,Qj L hv,Qdj L hc,Qmb L hb.2,QbZ,hb.1,hlt,Bool.and_self,if_true,hset]
        rw[k1];simp
      ·simp at h
     ·simp at h
    ·simp at h
   ·simp at h
  ·simp at h
theorem Qka{T:TypeId}{len:Nat}{parts:Array (Nat×Operand)}(ho:o.op=.buildSlice T len parts)(h:Qfb P ty rd K T len parts=some r):Does P o rd hs K r:=by
 unfold Qfb at h
 split at h
 ·rename_i e he
  split at h
  ·rename_i t es zr h0 h1 h2
   split at h
   ·rename_i hb
    simp only[bae]at hb
    obtain⟨l,g1,g2,g3⟩:=Qhd h
    refine⟨_,g1,.ev fun L _=>?_⟩
    have hes:=nbe hb.1.1.1
    subst hes
    obtain⟨rows,k1,k2⟩:=g3 L [] (List.replicate len zr) rfl (by rw[List.length_replicate];omega)
    simp only[List.nil_append]at k1
    simp only[BV.er]
    exact(OpOK.buildSlice ho he h1 hb.1.1.2 h2 (nbe hb.1.2) hb.2 k1).vLe (.p (PVle.sl (fun h=>h) k2))
   ·simp at h
  ·simp at h
 ·simp at h
theorem hp1{n:Name}{ob:BO}(h:look n hs=some ob):∀m ob',(m,ob')∈[(n,ob)]→look m hs=some ob':=fun m ob' hm=>by simp only[List.mem_singleton,Prod.mk.injEq]at hm;obtain⟨rfl,rfl⟩:=hm;exact h
theorem WD{L:Lens}{n:Name}{t:TC}{l:List (TT t)}{q u:Nat}(hL:Inv L hs)(h:look n hs=some (.arr t l q))(hu:Nat.beq u q=true):Nat.beq (L n u) (l.map (tcells t)).length=true:=by rw[nbe hu,hL n t l q h,List.length_map];exact Nat.beq_refl _
theorem QuB{T:TypeId}{x:Operand}(ho:o.op=.load T x)(h:Qwv P rd hs K T x=some r):Does P o rd hs K r:=by
 unfold Qwv at h
 split at h
 ·rename_i n k hx
  split at h
  ·rename_i cells hc
   split at h
   ·rename_i hT
    split at h
    ·rename_i z hz
     split at h
     ·rename_i hl
      refine⟨_,h,.val (hp1 hc) fun L _=>?_⟩
      have:=Qj L hx
      simp only[BV.er]at this ⊢
      exact OpOK.loadBoxAgg ho this hT hz (by rw[←Qp8,←Qp9]) (by rw[Xl];exact nbe hl)
     ·simp at h
    ·simp at h
   ·split at h
    ·rename_i hT
     split at h
     ·rename_i c hck
      refine⟨_,h,.val (hp1 hc) fun L _=>?_⟩
      have:=Qj L hx
      simp only[BV.er]at this
      exact OpOK.loadBox ho this hT (by rw[QgN,hck];rfl)
     ·simp at h
    ·simp at h
  ·simp at h
 ·rename_i cells hx
  split at h
  ·rename_i hP
   split at h
   ·rename_i hT
    split at h
    ·rename_i z hz
     split at h
     ·rename_i hl
      refine⟨_,h,.ev fun L _=>?_⟩
      have:=Qj L hx
      simp only[BV.er]at this ⊢
      have hP':(cells.take z).all BV.isP=true:=List.all_eq_true.2 fun c hc=>List.all_eq_true.1 hP c (List.mem_of_mem_take hc)
      exact OpOK.loadPtrAgg ho this hT hz (by rw[←QqF]) (by rw[QbZ];exact nbe hl) (by rw[Vy hP'])
     ·simp at h
    ·simp at h
   ·split at h
    ·rename_i hT
     split at h
     ·rename_i c hck
      refine⟨_,h,.ev fun L _=>?_⟩
      have:=Qj L hx
      simp only[BV.er]at this
      rw[QsO (List.all_eq_true.1 hP c (List.mem_of_getElem? hck))]
      exact OpOK.loadPtr ho this hT (by rw[QtE,hck];rfl)
     ·simp at h
    ·simp at h
  ·simp at h
 ·rename_i n u i k hx
  split at h
  case h_2=>simp at h
  ·rename_i t l q hc
   split at h
   case isFalse=>simp at h
   rename_i hq
   obtain⟨y,hy,h⟩:=Yg h
   have hrow:(l.map (tcells t))[i]?=some (tcells t y):=by rw[List.getElem?_map,hy];rfl
   split at h
   ·rename_i hT
    split at h
    ·rename_i z hz
     split at h
     ·rename_i hl
      refine⟨_,h,.val (hp1 hc) fun L hL=>?_⟩
      have:=Qj L hx
      simp only[BV.er]at this ⊢
      have hP':(((tb t y).drop k).take z).all BV.isP=true:=List.all_eq_true.2 fun c hc=>List.all_eq_true.1 (Qch t y) c (List.mem_of_mem_drop (List.mem_of_mem_take hc))
      exact OpOK.loadElemAgg ho this hT hz (WD hL hc hq) hrow (by rw[←QrL,←QqE,←QqF]) (by rw[QbZ];exact nbe hl) (by rw[Vy hP'])
     ·simp at h
    ·simp at h
   ·split at h
    ·rename_i hT
     split at h
     ·rename_i c hck
      refine⟨_,h,.val (hp1 hc) fun L hL=>?_⟩
      have:=Qj L hx
      simp only[BV.er]at this
      rw[QsO (List.all_eq_true.1 (Qch t y) c (List.mem_of_getElem? hck))]
      exact OpOK.loadElem ho this hT (WD hL hc hq) hrow (by rw[←QrL,QtE,hck];rfl)
     ·simp at h
    ·simp at h
 ·simp at h
theorem Good.wrBox{n:Name}{cells cells':List BV}(hc:look n hs=some (.box cells))(h:∀L,Inv L hs→OpOK P o ⟨erT L rd,[(n,.box (erL L cells))],.any,[(n,.box (erL L cells'))],[]⟩):Good P o rd hs ⟨[(n,.box cells)],.any,[(n,.box cells')],[],[]⟩:=
 ⟨hp1 hc,fun L hL=>⟨L,fun _ _ _ _=>rfl,fun m t l u hm=>by
  simp only[List.cons_append,List.nil_append,look]at hm
  split at hm
  ·cases hm
  ·exact hL m t l u hm,h L hL⟩⟩
theorem Good.wrArr{n:Name}{t:TC}{l l':List (TT t)}{q:Nat}(hc:look n hs=some (.arr t l q))(hl:l'.length=l.length)(h:∀L,Inv L hs→OpOK P o ⟨erT L rd,[(n,.arr (tz t) (l.map (tcells t)))],.any,[(n,.arr (tz t) (l'.map (tcells t)))],[]⟩):Good P o rd hs ⟨[(n,.arr t l q)],.any,[(n,.arr t l' q)],[],[]⟩:=
 ⟨hp1 hc,fun L hL=>⟨L,fun _ _ _ _=>rfl,fun m t' l2 u hm=>by
  simp only[List.cons_append,List.nil_append,look]at hm
  split at hm
  ·rename_i e;subst e;cases hm;rw[hl];exact hL _ t l q hc
  ·exact hL m t' l2 u hm,h L hL⟩⟩
theorem OpOK.arrLe{rd:List (Nat×AV)}{hp:List (Name×AO)}{v:AV}{nw:List Name}{n:Name}{es:Nat}{rs qs:List (List PV)}(h:OpOK P o ⟨rd,hp,v,[(n,.arr es rs)],nw⟩)(hr:YZ rs qs):OpOK P o ⟨rd,hp,v,[(n,.arr es qs)],nw⟩:=
 h.outLe (.refl _) fun m=>by
  simp only[look]
  by_cases e:n=m
  ·simp only[e,if_true]
   exact⟨fun y hy=>by cases hy;exact⟨_,rfl,.arr hr,.inr (.inr ⟨_,_,_,rfl,rfl⟩)⟩,fun x hx=>⟨_,rfl⟩⟩
  ·simp only[e,if_false]
   exact⟨fun y hy=>by simp at hy,fun x hx=>by simp at hx⟩
theorem Qso{T:TypeId}{x y:Operand}(ho:o.op=.store T x y)(h:Qsn P rd hs K o.dst T x y=some r):Does P o rd hs K r:=by
 unfold Qsn at h
 split at h
 ·rename_i n k v hd hx hy
  split at h
  ·rename_i cells vs z hc hv hz
   split at h
   ·rename_i hb
    simp only[bae]at hb
    rw[Qjc,QlS _ _ _ (Nat.le_of_ble_eq_true hb.2)]at h
    refine⟨_,h,.wrBox hc fun L _=>?_⟩
    have h1:=Qj L hx
    simp only[BV.er]at h1
    exact OpOK.storeBox hd ho h1 (Qj L hy) (Qdj L hv) (by rw[Xl,hz,nbe hb.1]) (by rw[Xl,Xl];exact hb.2) (by rw[Qnx])
   ·simp at h
  ·simp at h
 ·rename_i n u i k v hd hx hy
  split at h
  ·rename_i t l q vs z hc hv hz
   split at h
   case isFalse=>simp at h
   rename_i hq
   obtain⟨y0,hy0,h⟩:=Yg h
   split at h
   ·rename_i hb
    simp only[bae]at hb
    rw[QlS _ _ _ (Nat.le_of_ble_eq_true hb.1.2)]at h
    obtain⟨y',rest,hle,h⟩:=Qck t h
    split at h
    ·refine⟨_,h,.wrArr hc (by simp) fun L hL=>?_⟩
     have h1:=Qj L hx
     simp only[BV.er]at h1
     have hrow:(l.map (tcells t))[i]?=some (tcells t y0):=by rw[List.getElem?_map,hy0];rfl
     have hP:(Qv (tb t y0) k vs).all BV.isP=true:=by
      refine List.all_eq_true.2 fun c hc=>?_
      simp only[Qv,List.mem_append]at hc
      rcases hc with(hc|hc)|hc
      ·exact List.all_eq_true.1 (Qch t y0) c (List.mem_of_mem_take hc)
      ·simp_all
      ·exact List.all_eq_true.1 (Qch t y0) c (List.mem_of_mem_drop hc)
     refine OpOK.arrLe (OpOK.storeElem hd ho h1 (Qj L hy) (Qdj L hv) (Qmb L hb.2) (WD hL hc hq) hrow (by rw[Xl,hz,nbe hb.1.1])
      (by rw[Xl,←QrL,QbZ];exact hb.1.2) (row':=pvL (Qv (tb t y0) k vs)) (by rw[QtF,QrL]) rfl) ?_
     have hcs:=Qlj hle hP
     refine YZ.nth (by simp) (fun j a b ha hb=>?_)
     rw[List.getElem?_set]at ha
     rw[List.getElem?_map,List.getElem?_set]at hb
     split at ha
     ·simp_all
     ·rename_i e
      rw[if_neg e]at hb
      rw[List.getElem?_map]at ha
      rw[ha]at hb;cases hb
      exact CsLe.refl _
    ·simp at h
   ·simp at h
  ·simp at h
 ·simp at h
theorem Qlq{S:TypeId}{x:Operand}{i:Nat}(ho:o.op=.fieldAddr S x i)(h:QgI P rd hs K S x i=some r):Does P o rd hs K r:=by
 unfold QgI at h
 split at h
 ·rename_i n k fo hx hf
  split at h
  ·rename_i cells hc
   refine⟨_,h,.val (hp1 hc) fun L _=>?_⟩
   have:=Qj L hx
   simp only[BV.er]at this ⊢
   exact OpOK.fieldRef ho this hf rfl
  ·simp at h
 ·rename_i cells fo hx hf
  refine⟨_,h,.ev fun L _=>?_⟩
  have:=Qj L hx
  simp only[BV.er]at this ⊢
  exact OpOK.fieldPtr ho this hf (by rw[QqE])
 ·rename_i n u j k fo hx hf
  split at h
  ·rename_i t l q hc
   split at h
   case isFalse=>simp at h
   rename_i hq
   refine⟨_,h,.val (hp1 hc) fun L hL=>?_⟩
   have:=Qj L hx
   simp only[BV.er]at this ⊢
   exact OpOK.fieldElem ho this hf rfl (WD hL hc hq)
  ·simp at h
 ·simp at h
theorem Qm7{x:Operand}(ho:o.op=.nilCheck x)(h:QiA rd hs K x=some r):Does P o rd hs K r:=by
 unfold QiA at h
 split at h
 ·rename_i n k hx
  split at h
  ·rename_i cells hc
   refine⟨_,h,.val (hp1 hc) fun L _=>?_⟩
   have:=Qj L hx
   simp only[BV.er]at this ⊢
   exact OpOK.nilCheckRef ho this
  ·simp at h
 ·rename_i cells hx
  refine⟨_,h,.ev fun L _=>?_⟩
  have:=Qj L hx
  simp only[BV.er]at this ⊢
  exact OpOK.nilCheckPtr ho this
 ·rename_i n u j k hx
  split at h
  ·rename_i t l q hc
   split at h
   case isFalse=>simp at h
   rename_i hq
   refine⟨_,h,.val (hp1 hc) fun L hL=>?_⟩
   have:=Qj L hx
   simp only[BV.er]at this ⊢
   exact OpOK.nilCheckElem ho this (WD hL hc hq)
  ·simp at h
 ·simp at h
theorem Qwp{op:BinOp}{T T':TypeId}{x y:Operand}(ho:o.op=.binOp op T x y T')(h:bBin P rd K op T x y=some r):Does P o rd hs K r:=by
 unfold bBin at h
 split at h
 ·rename_i k a k' b hx hy
  split at h
  ·rename_i hk
   have:=QcY hk;subst this
   cases op<;>simp only[binI,reduceCtorEq]at h
   all_goals first
    |(obtain⟨hb,h⟩:=Qvf h;refine⟨_,h,.ev fun L _=>?_⟩;simp only[BV.er];first|exact OpOK.quo ho (Zh L hx) (Zh L hy) hb rfl|exact OpOK.rem ho (Zh L hx) (Zh L hy) hb rfl)
    |(obtain⟨i,hi,h⟩:=QaO h;refine⟨_,h,.ev fun L _=>?_⟩;simp only[BV.er];exact OpOK.shr ho (Zh L hx) (Zh L hy) hi)
    |(refine⟨_,h,.ev fun L _=>?_⟩;simp only[BV.er];first
      |exact OpOK.add ho (Zh L hx) (Zh L hy) rfl|exact OpOK.sub ho (Zh L hx) (Zh L hy) rfl|exact OpOK.mul ho (Zh L hx) (Zh L hy) rfl
      |exact OpOK.lss ho (Zh L hx) (Zh L hy) rfl|exact OpOK.leq ho (Zh L hx) (Zh L hy) rfl|exact OpOK.gtr ho (Zh L hx) (Zh L hy) rfl
      |exact OpOK.geq ho (Zh L hx) (Zh L hy) rfl|exact OpOK.eqlI ho (Zh L hx) (Zh L hy) rfl|exact OpOK.neqI ho (Zh L hx) (Zh L hy) rfl)
  ·simp at h
 ·rename_i a b hx hy
  cases op<;>simp only[binS,reduceCtorEq]at h
  all_goals first
   |(obtain⟨hb,h⟩:=YO h;refine⟨_,h,.ev fun L _=>?_⟩;simp only[BV.er];exact OpOK.addS ho (Qdt L hx) (Qdt L hy) hb rfl)
   |(refine⟨_,h,.ev fun L _=>?_⟩;simp only[BV.er];first|exact OpOK.eqlS ho (Qdt L hx) (Qdt L hy) rfl|exact OpOK.neqS ho (Qdt L hx) (Qdt L hy) rfl)
 ·rename_i a b hx hy
  unfold binB at h
  split at h
  ·rename_i hT
   have hT':P.underlying T=some .bool:=by
    unfold QxV at hT
    grind
   cases op<;>simp only[reduceCtorEq]at h
   all_goals (refine⟨_,h,.ev fun L _=>?_⟩;simp only[BV.er];first|exact OpOK.eqlB ho hT' (Qfk L hx) (Qfk L hy) rfl|exact OpOK.neqB ho hT' (Qfk L hx) (Qfk L hy) rfl)
  ·simp at h
 ·simp at h
theorem QxT{op:UnOp}{T:TypeId}{x:Operand}(ho:o.op=.unOp op T x)(h:bUn rd K op x=some r):Does P o rd hs K r:=by
 unfold bUn at h
 split at h
 ·rename_i b hx
  refine⟨_,h,.ev fun L _=>?_⟩
  simp only[BV.er];exact OpOK.not ho (Qfk L hx) rfl
 ·rename_i k a hx
  refine⟨_,h,.ev fun L _=>?_⟩
  simp only[BV.er];exact OpOK.neg ho (Zh L hx) rfl
 ·simp at h
theorem Qsk{T:TypeId}{x:Operand}{i:Nat}(ho:o.op=.field T x i)(h:Qsj P rd K T x i=some r):Does P o rd hs K r:=by
 unfold Qsj at h
 split at h
 ·rename_i cells fs hx hu
  split at h
  ·rename_i f hf
   split at h
   ·rename_i hT
    split at h
    ·rename_i z hz
     refine⟨_,h,.ev fun L _=>?_⟩
     have:=Qj L hx
     simp only[BV.er]at this ⊢
     exact OpOK.fieldAgg (off:=0) (T':=0) ho this hu hf hT hz (by rw[Qp9,Qp8])
    ·simp at h
   ·split at h
    ·rename_i hT
     split at h
     ·rename_i c hck
      refine⟨_,h,.ev fun L _=>?_⟩
      have:=Qj L hx
      simp only[BV.er]at this
      exact OpOK.field ho this hu hf hT (by rw[QgN,hck];rfl)
     ·simp at h
    ·simp at h
  ·simp at h
 ·simp at h
theorem Qo1{x:Operand}{i:Nat}(ho:o.op=.extract x i)(h:Qlp rd K x i=some r):Does P o rd hs K r:=by
 unfold Qlp at h
 split at h
 ·rename_i vs hx
  split at h
  ·rename_i v hv
   refine⟨_,h,.ev fun L _=>?_⟩
   have:=Qj L hx
   simp only[BV.er]at this
   exact OpOK.extract ho this (by rw[QgN,hv];rfl)
  ·simp at h
 ·simp at h
theorem Qlr{T:TypeId}{x y:Operand}(ho:o.op=.indexAddr T x y)(h:QgJ P rd hs K T x y=some r):Does P o rd hs K r:=by
 unfold QgJ at h
 split at h
 ·rename_i f t l k j e hx hy he
  split at h
  ·rename_i es hz
   split at h
   ·rename_i hb
    have:=nbe hb;subst this
    obtain⟨i,z,hj,hi,h⟩:=Quv h
    refine⟨_,h,.ev fun L _=>?_⟩
    have h1:=Qj L hx
    simp only[BV.er]at h1 ⊢
    rw[QrL]
    exact OpOK.indexP ho he hz h1 (Zh L hy) hj (by rw[List.getElem?_map,hi];rfl)
   ·simp at h
  ·simp at h
 ·rename_i n u k j e hx hy he
  split at h
  ·rename_i t l q es hc hz
   split at h
   ·rename_i hb
    simp only[bae]at hb
    have:=nbe hb.1;subst this
    obtain⟨i,hj,h⟩:=QaO h
    obtain⟨hlt,h⟩:=Qf9 h
    refine⟨_,h,.val (hp1 hc) fun L hL=>?_⟩
    have h1:=Qj L hx
    simp only[BV.er]at h1 ⊢
    exact OpOK.indexOwn ho he hz h1 (WD hL hc hb.2) (Zh L hy) hj (by rw[List.length_map];exact hlt)
   ·simp at h
  ·simp at h
 ·rename_i n u lo hi k j e hx hy he
  split at h
  ·rename_i t l q es hc hz
   split at h
   ·rename_i hb
    simp only[bae]at hb
    have:=nbe hb.1;subst this
    obtain⟨i,hj,h⟩:=QaO h
    obtain⟨hlt,h⟩:=Qf9 h
    refine⟨_,h,.val (hp1 hc) fun L hL=>?_⟩
    have h1:=Qj L hx
    simp only[BV.er]at h1 ⊢
    exact OpOK.indexView ho he hz h1 (WD hL hc hb.2) (Zh L hy) hj hlt
   ·simp at h
  ·simp at h
 ·simp at h
theorem Qwu{T:TypeId}{x:Operand}{ats:Array TypeId}(ho:o.op=.call { callee:=.builtin .len,args:=#[x],argTypes:=ats })(hat:ats[0]?=some T)(h:bLen P rd hs K T x=some r):Does P o rd hs K r:=by
 unfold bLen at h
 split at h
 ·rename_i f t l hx
  split at h
  ·rename_i e he
   refine⟨_,h,.ev fun L _=>?_⟩
   have h1:=Qj L hx
   simp only[BV.er]at h1 ⊢
   exact OpOK.lenP ho hat he h1 (by rw[List.length_map])
  ·simp at h
 ·rename_i hx
  split at h
  ·rename_i e he
   refine⟨_,h,.ev fun L _=>?_⟩
   have h1:=Qj L hx
   simp only[BV.er]at h1 ⊢
   exact OpOK.lenP ho hat he h1 rfl
  ·simp at h
 ·rename_i n u hx
  split at h
  ·rename_i t l q e hc he
   split at h
   case isFalse=>simp at h
   rename_i hq
   refine⟨_,h,.val (hp1 hc) fun L hL=>?_⟩
   have h1:=Qj L hx
   simp only[BV.er]at h1 ⊢
   exact OpOK.lenOwn ho hat he h1 (WD hL hc hq) (by rw[List.length_map])
  ·simp at h
 ·rename_i n u lo hi hx
  split at h
  ·rename_i t l q e hc he
   split at h
   case isFalse=>simp at h
   rename_i hq
   refine⟨_,h,.val (hp1 hc) fun L hL=>?_⟩
   have h1:=Qj L hx
   simp only[BV.er]at h1 ⊢
   exact OpOK.lenView ho hat he h1 (WD hL hc hq)
  ·simp at h
 ·rename_i t hx
  split at h
  ·rename_i hT
   refine⟨_,h,.ev fun L _=>?_⟩
   simp only[BV.er]
   exact OpOK.lenS ho hat hT (Qdt L hx)
  ·simp at h
 ·simp at h
end
end Go.Proofs.YtadlpefpehjcoaaGreat.AM
/-
  The typed layer, part E: a contract with its objects named otherwise. No project text.
-/
set_option linter.unusedSectionVars false
namespace Go.Proofs.YtadlpefpehjcoaaGreat.AM
open Go
mutual
def AV.ren(σ:Name→Name):AV→AV
 |.p x=>.p x
 |.agg cs=>.agg (renL σ cs)
 |.ref n o=>.ref (σ n) o
 |.own n l=>.own (σ n) l
 |.aref n l i o=>.aref (σ n) l i o
 |.view n l i o=>.view (σ n) l i o
 |.eptr c=>.eptr c
 |.tup vs=>.tup (renL σ vs)
 |.clo f a c=>.clo f (renL σ a) (renL σ c)
 |.oref m n=>.oref m (σ n)
 |.err b=>.err b
 |.ub=>.ub
 |.any=>.any
def renL(σ:Name→Name):List AV→List AV
 |[]=>[]
 |x::r=>x.ren σ::renL σ r
end
theorem Qmw(σ:Name→Name):∀l:List AV,renL σ l=l.map (AV.ren σ)
 |[]=>by simp only[renL,List.map_nil]
 |x::r=>by simp only[renL,List.map_cons,Qmw σ r]
def AO.ren(σ:Name→Name):AO→AO
 |.box cs=>.box (renL σ cs)
 |.arr es rows=>.arr es rows
 |.hole es pre row post=>.hole es pre (renL σ row) post
 |.fact a x=>.fact (a.ren σ) x
 |.obj x=>.obj x
def renH(σ:Name→Name)(h:List (Name×AO)):List (Name×AO):=h.map fun p=>(σ p.1,p.2.ren σ)
section
variable {σ:Name→Name} (hσ:∀a b,σ a=σ b→a=b)
include hσ
theorem YL(n:Name):∀h:List (Name×AO),look (σ n) (renH σ h)=(look n h).map (AO.ren σ)
 |[]=>rfl
 |(k,o)::r=>by
  show look (σ n) ((σ k,o.ren σ)::renH σ r)=(look n ((k,o)::r)).map (AO.ren σ)
  simp only[look]
  by_cases e:k=n
  ·simp[e]
  ·rw[if_neg (fun h=>e (hσ _ _ h)),if_neg e];exact YL n r
omit hσ in
theorem VE{m:Name}{o:AO}:∀{h:List (Name×AO)},look m (renH σ h)=some o→∃n,σ n=m
 |[],h=>by simp[renH,look]at h
 |(k,x)::r,h=>by
  change look m ((σ k,x.ren σ)::renH σ r)=some o at h
  simp only[look]at h
  split at h
  ·exact⟨k,by assumption⟩
  ·exact VE h
omit hσ in
theorem Qcd(o:AO):(o.ren σ).shape=o.shape:=by cases o<;>rfl
variable {ρ:Name→Loc} {H H':Heap} {M:Nat→Prop} {w:World}
mutual
theorem Qvo(hH:∀n,H' (σ n)=(H n).map (AO.ren σ)):∀(x:AV) (u:Value),(x.ren σ).R ρ H' M w u↔x.R (fun n=>ρ (σ n)) H M w u
 |.p x,u=>by simp only[AV.ren,AV.R]
 |.agg cs,u=>by simp only[AV.ren,AV.R,Qk4 hH cs]
 |.ref n o,u=>by
  simp only[AV.ren,AV.R,hH]
  refine and_congr_right fun _=>⟨fun h cells hc=>h (renL σ cells) (by rw[hc];rfl),fun h cells hc=>?_⟩
  cases hn:H n with
  |none=>rw[hn]at hc;simp at hc
  |some ob=>
   cases ob with
   |box cs=>exact h cs hn
   |_=>rw[hn]at hc;simp[AO.ren]at hc
 |.own n l,u=>by
  simp only[AV.ren,AV.R,hH]
  refine and_congr_right fun _=>⟨fun h o es k ho hs=>h (o.ren σ) es k (by rw[ho];rfl) (by rw[Qcd];exact hs),fun h o es k ho hs=>?_⟩
  cases hn:H n with
  |none=>rw[hn]at ho;simp at ho
  |some ob=>rw[hn]at ho;simp only[Option.map_some,Option.some.injEq]at ho;subst ho;rw[Qcd]at hs;exact h ob es k hn hs
 |.aref n l i o,u=>by
  simp only[AV.ren,AV.R,hH]
  refine and_congr_right fun _=>⟨fun h o es k ho hs=>h (o.ren σ) es k (by rw[ho];rfl) (by rw[Qcd];exact hs),fun h o es k ho hs=>?_⟩
  cases hn:H n with
  |none=>rw[hn]at ho;simp at ho
  |some ob=>rw[hn]at ho;simp only[Option.map_some,Option.some.injEq]at ho;subst ho;rw[Qcd]at hs;exact h ob es k hn hs
 |.view n l i o,u=>by
  simp only[AV.ren,AV.R,hH]
  refine and_congr_right fun _=>and_congr_right fun _=>and_congr_right fun _=>⟨fun h o es k ho hs=>h (o.ren σ) es k (by rw[ho];rfl) (by rw[Qcd];exact hs),fun h o es k ho hs=>?_⟩
  cases hn:H n with
  |none=>rw[hn]at ho;simp at ho
  |some ob=>rw[hn]at ho;simp only[Option.map_some,Option.some.injEq]at ho;subst ho;rw[Qcd]at hs;exact h ob es k hn hs
 |.eptr c,u=>by simp only[AV.ren,AV.R]
 |.tup vs,u=>by simp only[AV.ren,AV.R,QtQ hH vs]
 |.clo f a c,u=>by simp only[AV.ren,AV.R,Qk4 hH a,Qk4 hH c]
 |.oref m n,u=>by
  simp only[AV.ren,AV.R,hH]
  refine and_congr_right fun _=>⟨fun h x hx=>h x (by rw[hx];rfl),fun h x hx=>?_⟩
  cases hn:H n with
  |none=>rw[hn]at hx;simp at hx
  |some ob=>
   cases ob with
   |obj y=>rw[hn]at hx;simp only[Option.map_some,AO.ren,Option.some.injEq,AO.obj.injEq]at hx;subst hx;exact h y hn
   |_=>rw[hn]at hx;simp[AO.ren]at hx
 |.err b,u=>by simp only[AV.ren,AV.R]
 |.ub,u=>by simp only[AV.ren,AV.R]
 |.any,u=>by simp only[AV.ren,AV.R]
theorem Qk4(hH:∀n,H' (σ n)=(H n).map (AO.ren σ)):∀(xs:List AV) (us:List Value),AV.Rs ρ H' M w (renL σ xs) us↔AV.Rs (fun n=>ρ (σ n)) H M w xs us
 |[],us=>by simp only[renL,AV.Rs]
 |x::r,us=>by simp only[renL,AV.Rs,Qvo hH x,Qk4 hH r]
theorem QtQ(hH:∀n,H' (σ n)=(H n).map (AO.ren σ)):∀(xs:List AV) (us:List Value),AV.Ts ρ H' M w (renL σ xs) us↔AV.Ts (fun n=>ρ (σ n)) H M w xs us
 |[],us=>by simp only[renL,AV.Ts]
 |x::r,us=>by simp only[renL,AV.Ts,Qvo hH x,QtQ hH r]
end
omit hσ in
theorem QpJ(l:List AV):(renL σ l).length=l.length:=by simp[Qmw]
theorem QtP(hH:∀n,H' (σ n)=(H n).map (AO.ren σ))(n:Name)(o:AO):V0 ρ H' M w (σ n) (o.ren σ)↔V0 (fun n=>ρ (σ n)) H M w n o:=by
 cases o with
 |box cs=>simp only[AO.ren,V0,Qk4 hσ hH]
 |arr es rows=>simp only[AO.ren,V0]
 |hole es pre row post=>simp only[AO.ren,V0,Qk4 hσ hH,QpJ]
 |fact a x=>simp only[AO.ren,V0,Qvo hσ hH]
 |obj x=>simp only[AO.ren,V0]
theorem Qt3{o o':AO}{l l':Loc}:stays (o.ren σ) l (some (o'.ren σ)) l'↔stays o l (some o') l':=by
 cases o<;>cases o'<;>simp only[AO.ren,stays]
theorem Spec.ren{P:Program}{f:FuncId}{args:List AV}{pre h:List (Name×AO)}{v:AV}(hs:XJ P f args pre v h):XJ P f (renL σ args) (renH σ pre) (v.ren σ) (renH σ h):=by
 intro G ρ M w us hG hM hargs hobjs hinj
 have hH:∀n,Xn (renH σ pre) (σ n)=(Xn pre n).map (AO.ren σ):=fun n=>YL hσ n pre
 have hex:∀b,(∃n o,look n pre=some o∧(ρ (σ n)).blk=some b)↔(∃n o,look n (renH σ pre)=some o∧(ρ n).blk=some b):=fun b=>by
  constructor
  ·rintro⟨n,o,h1,h2⟩;exact⟨σ n,o.ren σ,by rw[YL hσ,h1];rfl,h2⟩
  ·rintro⟨m,o,h1,h2⟩
   obtain⟨n,rfl⟩:=VE h1
   rw[YL hσ]at h1
   cases hn:look n pre with
   |none=>rw[hn]at h1;simp at h1
   |some ob=>exact⟨n,ob,hn,h2⟩
 have hB:(fun b=>∃n o,look n pre=some o∧(ρ (σ n)).blk=some b)=(fun b=>∃n o,look n (renH σ pre)=some o∧(ρ n).blk=some b):=by funext b;exact propext (hex b)
 refine(hs G (fun n=>ρ (σ n)) M w us ?_ hM ((QtQ hσ hH args us).1 hargs) (fun n o hn=>?_) (fun n m o o' b h1 h2 h3 h4=>?_)).mono ?_
 ·have:(fun b=>∃n o,look n pre=some o∧((fun n=>ρ (σ n)) n).blk=some b)=(fun b=>∃n o,look n (renH σ pre)=some o∧(ρ n).blk=some b):=hB
  rw[this];exact hG
 ·exact(QtP hσ hH n o).1 (hobjs (σ n) (o.ren σ) (by rw[YL hσ,hn];rfl))
 ·exact hσ _ _ (hinj (σ n) (σ m) (o.ren σ) (o'.ren σ) b (by rw[YL hσ,h1];rfl) (by rw[YL hσ,h2];rfl) h3 h4)
 ·rintro e w' ⟨u,v',h',ρ',rfl,⟨rfl,rfl⟩,ha⟩
  classical
  let ρ2:Name→Loc:=fun m=>if hm:∃n,σ n=m then ρ' (Classical.choose hm)else ρ m
  have h2:∀n,ρ2 (σ n)=ρ' n:=fun n=>by
   have hm:∃k,σ k=σ n:=⟨n,rfl⟩
   show(if hm:∃k,σ k=σ n then ρ' (Classical.choose hm)else ρ (σ n))=ρ' n
   rw[dif_pos hm,hσ _ _ (Classical.choose_spec hm)]
  have h2':(fun n=>ρ2 (σ n))=ρ':=funext h2
  have hH':∀n,Xn (renH σ h') (σ n)=(Xn h' n).map (AO.ren σ):=fun n=>YL hσ n h'
  have hM':newM M ρ2 (renH σ h')=newM M ρ' h':=by
   funext b
   refine propext (or_congr_right ⟨?_,?_⟩)
   ·rintro⟨m,o,g1,g2⟩
    obtain⟨n,rfl⟩:=VE g1
    rw[YL hσ]at g1
    cases hn:look n h' with
    |none=>rw[hn]at g1;simp at g1
    |some ob=>exact⟨n,ob,hn,by rw[←h2];exact g2⟩
   ·rintro⟨n,o,g1,g2⟩;exact⟨σ n,o.ren σ,by rw[YL hσ,g1];rfl,by rw[h2];exact g2⟩
  have hback:∀{m o} {l:List (Name×AO)},look m (renH σ l)=some o→∃n ob,m=σ n∧look n l=some ob∧o=ob.ren σ:=fun{m o l} g1=>by
   obtain⟨n,rfl⟩:=VE g1
   rw[YL hσ]at g1
   cases hn:look n l with
   |none=>rw[hn]at g1;simp at g1
   |some ob=>rw[hn]at g1;exact⟨n,ob,rfl,hn,by simpa using g1.symm⟩
  refine⟨u,v'.ren σ,renH σ h',ρ2,rfl,⟨rfl,rfl⟩,?_,?_,?_,?_,?_,?_⟩
  ·rw[hM',Qvo hσ hH',h2'];exact ha.val
  ·intro m o hm
   obtain⟨n,ob,rfl,hn,rfl⟩:=hback hm
   rw[hM',QtP hσ hH',h2'];exact ha.objs n ob hn
  ·intro m m' o o' b g1 g2 g3 g4
   obtain⟨n,ob,rfl,hn,rfl⟩:=hback g1
   obtain⟨n',ob',rfl,hn',rfl⟩:=hback g2
   rw[h2]at g3 g4
   rw[ha.inj n n' ob ob' b hn hn' g3 g4]
  ·intro m o b g1 g2
   obtain⟨n,ob,rfl,hn,rfl⟩:=hback g1
   rw[h2]at g2
   rcases ha.own n ob b hn g2 with⟨o',k1,k2⟩|k
   ·exact .inl ⟨o'.ren σ,by rw[YL hσ,k1];rfl,k2⟩
   ·exact .inr k
  ·have:=ha.ext
   rw[←hB];exact this
  ·intro m o hm
   obtain⟨n,ob,rfl,hn,rfl⟩:=hback hm
   obtain⟨o',k1,k2⟩:=ha.keep n ob hn
   exact⟨o'.ren σ,by rw[YL hσ,k1];rfl,by rw[h2];exact(Qt3 hσ).2 k2⟩
end
theorem Spec.preLe{P:Program}{f:FuncId}{args:List AV}{pre pre':List (Name×AO)}{post:AV→List (Name×AO)→Prop}(hs:Spec P f args pre post)(h1:∀n o,look n pre=some o→∃o',look n pre'=some o'∧(o'=o∨∃cs ds,o'=.box cs∧o=.box ds∧Xx cs ds))(h2:∀n o',look n pre'=some o'→∃o,look n pre=some o):Spec P f args pre' post:=by
 intro G ρ M w us hG hM hargs hobjs hinj
 have hB:(fun b=>∃n o,look n pre=some o∧(ρ n).blk=some b)=(fun b=>∃n o,look n pre'=some o∧(ρ n).blk=some b):=by
  funext b
  exact propext ⟨fun⟨n,o,g1,g2⟩=>by obtain⟨o',g3,_⟩:=h1 n o g1;exact⟨n,o',g3,g2⟩,fun⟨n,o,g1,g2⟩=>by obtain⟨o',g3⟩:=h2 n o g1;exact⟨n,o',g3,g2⟩⟩
 have hst:Qcn ρ (Xn pre') ρ (Xn pre):=fun n o' hn=>by
  obtain⟨o,ho⟩:=h2 n o' hn
  obtain⟨o2,ho2,hle⟩:=h1 n o ho
  change look n pre'=some o' at hn
  rw[hn]at ho2;cases ho2
  change stays o' (ρ n) (look n pre) (ρ n)
  rw[ho]
  rcases hle with rfl|⟨cs,ds,rfl,rfl,_⟩
  ·exact Ze _ _
  ·rfl
 have hnn:∀n,Xn pre' n=none→Xn pre n=none:=fun n hn=>by
  cases hc:Xn pre n with
  |none=>rfl
  |some o=>
   obtain⟨o',ho',_⟩:=h1 n o hc
   change look n pre'=none at hn
   rw[ho']at hn;simp at hn
 have hconvs:∀{xs:List AV} {us:List Value},AV.Rs ρ (Xn pre') M w xs us→AV.Rs ρ (Xn pre) M w xs us:=fun hr=>
  hr.step (Ext.refl (fun _=>False) _) (fun _ hb=>hb.elim) (fun b _ hb=>hb) hst (fun n _=>hnn n)
 refine(hs G ρ M w us (by rw[hB];exact hG) hM (hargs.step (Ext.refl (fun _=>False) _) (fun _ hb=>hb.elim) (fun b _ hb=>hb) hst (fun n _=>hnn n)) (fun n o hn=>?_)
  (fun n m o o' b g1 g2=>by obtain⟨p,k1,_⟩:=h1 n o g1;obtain⟨q,k2,_⟩:=h1 m o' g2;exact hinj n m p q b k1 k2)).mono ?_
 ·obtain⟨o',ho',hle⟩:=h1 n o hn
  have hobj:=hobjs n o' ho'
  rcases hle with rfl|⟨cs,ds,rfl,rfl,hle⟩
  ·exact hobj.step (Ext.refl (fun _=>False) _) (fun _ hb=>hb.elim) (fun b _ hb=>hb) (fun b hb=>hb) hst (fun m _=>hnn m) rfl (fun _ _=>rfl) hM
  ·obtain⟨b,T,us',k1,k2,k3,k4⟩:=hobj
   exact⟨b,T,us',k1,k2,k3,QrV hle _ (hconvs k4)⟩
 ·rintro e w' ⟨u,v,h,ρ',rfl,hp,ha⟩
  refine⟨u,v,h,ρ',rfl,hp,ha.val,ha.objs,ha.inj,fun n o b g1 g2=>?_,by rw[←hB];exact ha.ext,fun n o hn=>?_⟩
  ·exact(ha.own n o b g1 g2).imp (fun⟨o',k1,k2⟩=>by obtain⟨o2,k3,_⟩:=h1 n o' k1;exact⟨o2,k3,k2⟩) id
  ·obtain⟨o1,k1⟩:=h2 n o hn
   obtain⟨o2,k2,k3⟩:=ha.keep n o1 k1
   refine⟨o2,k2,?_⟩
   obtain⟨o3,k4,hle⟩:=h1 n o1 k1
   rw[hn]at k4;cases k4
   rcases hle with rfl|⟨cs,ds,rfl,rfl,_⟩
   ·exact k3
   ·cases o2<;>simp only[stays]at k3⊢<;>exact k3
/-
  The typed layer, part F: shapes: what a value, an object, a state is known to be; typed data off them and back. No project text.
-/
abbrev Ren:=List (Name×(Name×Nat))
inductive Sh where
 |num (k:IntKind)
 |boo
 |str
 |lst (t:TC)
 |nul
 |ref (nm:Name)
 |own (nm:Name)
 |view (nm:Name)
 /-- A closure of that function, with these boxes. -/
 |clo (f:Nat) (caps:List Name)
 |fv (f:Nat)
 |mref (nm:Name)
inductive SSh where
 |one (s:Sh)
 |st (t:TC)
 |agg (l:List Sh)
inductive OSh where
 |box (l:List Sh)
 |boxst (t:TC)
 |arr (t:TC)
 /-- Changed in place: the header stays. -/
 |arrs (t:TC)
 |sm
def Sh.prod:Sh→Type→Type
 |.num _,X=>Int×X
 |.boo,X=>Bool×X
 |.str,X=>ByteArray×X
 |.lst t,X=>List (TT t)×X
 |.nul,X=>X
 |.ref _,X=>X
 |.own _,X=>X
 |.view _,X=>Nat×Nat×X
 |.clo _ _,X=>X
 |.fv _,X=>X
 |.mref _,X=>X
def TL:List Sh→Type
 |[]=>Unit
 |s::r=>s.prod (TL r)
def Sh.put(ver:Nat):(s:Sh)→(X:Type)→s.prod X→BV×X
 |.num k,_,x=>(.n k x.1,x.2)
 |.boo,_,x=>(.b x.1,x.2)
 |.str,_,x=>(.s x.1,x.2)
 |.lst t,_,x=>(.ts false t x.1,x.2)
 |.nul,_,x=>(.nil,x)
 |.ref nm,_,x=>(.ref nm 0,x)
 |.own nm,_,x=>(.own nm ver,x)
 |.view nm,_,x=>(.view nm ver x.1 x.2.1,x.2.2)
 |.clo f caps,_,x=>(.clo (.func f) (caps.map fun n=>.ref n 0),x)
 |.fv f,_,x=>(.v (.func (.func f) #[] #[]),x)
 |.mref nm,_,x=>(.mref nm,x)
def TL.put(ver:Nat):(l:List Sh)→TL l→List BV
 |[],_=>[]
 |s::r,x=>(s.put ver _ x).1::TL.put ver r (s.put ver _ x).2
def SSh.prod:SSh→Type→Type
 |.one s,X=>s.prod X
 |.st t,X=>TT t×X
 |.agg l,X=>TL l×X
def SSh.put(ver:Nat):(s:SSh)→(X:Type)→s.prod X→BV×X
 |.one s,X,x=>s.put ver X x
 |.st t,_,x=>(.agg (tb t x.1),x.2)
 |.agg l,_,x=>(.agg (TL.put ver l x.1),x.2)
def SL:List SSh→Type
 |[]=>Unit
 |s::r=>s.prod (SL r)
def SL.put(ver:Nat):(l:List SSh)→SL l→List BV
 |[],_=>[]
 |s::r,x=>(s.put ver _ x).1::SL.put ver r (s.put ver _ x).2
def OSh.T:OSh→Type
 |.box l=>TL l
 |.boxst t=>TT t
 |.arr t=>List (TT t)
 |.arrs t=>List (TT t)
 |.sm=>List (ByteArray×Bool)
def OSh.put(ver:Nat):(o:OSh)→o.T→BO
 |.box l,x=>.box (TL.put ver l x)
 |.boxst t,x=>.box (tb t x)
 |.arr t,x=>.arr t x ver
 |.arrs t,x=>.arr t x 0
 |.sm,x=>.sm x
def OL:List (Name×OSh)→Type
 |[]=>Unit
 |p::r=>p.2.T×OL r
def OL.put(ver:Nat):(l:List (Name×OSh))→OL l→HS
 |[],_=>[]
 |p::r,x=>(p.1,p.2.put ver x.1)::OL.put ver r x.2
def STL:List (Nat×SSh)→Type
 |[]=>Unit
 |p::r=>p.2.prod (STL r)
def STL.put(ver:Nat):(l:List (Nat×SSh))→STL l→TS
 |[],_=>[]
 |p::r,x=>(p.1,(p.2.put ver _ x).1)::STL.put ver r (p.2.put ver _ x).2
section
variable {R:Type} {r:R}
def Qfd:List Name→List BV→Ren→(Ren→Option R)→Option R
 |[],[],σ,K=>K σ
 |nm::q,.ref m off::vs,σ,K=>if Nat.beq off 0 then Qfd q vs ((nm,(m,0))::σ) K else none
 |_,_,_,_=>none
def Sh.get:(s:Sh)→BV→Ren→(Ren→((X:Type)→X→s.prod X)→Option R)→Option R
 |.num k,.n k' x,σ,K=>if kEq k k' then K σ (fun _ y=>(x,y))else none
 |.boo,.b x,σ,K=>K σ (fun _ y=>(x,y))
 |.str,.s x,σ,K=>K σ (fun _ y=>(x,y))
 |.lst t,.ts _ t' l,σ,K=>if h:t'=t then K σ (fun _ y=>(Qnb h l,y))else none
 |.lst t,.nil,σ,K=>K σ (fun _ y=>([],y))
 |.nul,.nil,σ,K=>K σ (fun _ y=>y)
 |.ref nm,.ref m off,σ,K=>if Nat.beq off 0 then K ((nm,(m,0))::σ) (fun _ y=>y)else none
 |.own nm,.own m u,σ,K=>K ((nm,(m,u))::σ) (fun _ y=>y)
 |.view nm,.view m u lo hi,σ,K=>K ((nm,(m,u))::σ) (fun _ y=>(lo,hi,y))
 |.clo f caps,.clo (.func f') cs,σ,K=>if Nat.beq f f' then Qfd caps cs σ fun σ=>K σ (fun _ y=>y)else none
 |.fv f,.v (.func (.func f') ⟨[]⟩ ⟨[]⟩),σ,K=>if Nat.beq f f' then K σ (fun _ y=>y)else none
 |.mref nm,.mref m,σ,K=>K ((nm,(m,0))::σ) (fun _ y=>y)
 |_,_,_,_=>none
def TL.get:(l:List Sh)→List BV→Ren→(Ren→TL l→Option R)→Option R
 |[],[],σ,K=>K σ ()
 |s::r,v::vs,σ,K=>s.get v σ fun σ f=>TL.get r vs σ fun σ x=>K σ (f _ x)
 |_,_,_,_=>none
def SSh.get:(s:SSh)→BV→Ren→(Ren→((X:Type)→X→s.prod X)→Option R)→Option R
 |.one s,v,σ,K=>s.get v σ K
 |.st t,.agg cs,σ,K=>tpop t cs fun x rest=>match rest with
  |[]=>K σ (fun _ y=>(x,y))
  |_=>none
 |.agg l,.agg cs,σ,K=>TL.get l cs σ fun σ x=>K σ (fun _ y=>(x,y))
 |_,_,_,_=>none
def SL.get:(l:List SSh)→List BV→Ren→(Ren→SL l→Option R)→Option R
 |[],[],σ,K=>K σ ()
 |s::r,v::vs,σ,K=>s.get v σ fun σ f=>SL.get r vs σ fun σ x=>K σ (f _ x)
 |_,_,_,_=>none
def OSh.get:(o:OSh)→BO→Nat→Ren→(Ren→o.T→Option R)→Option R
 |.box l,.box cs,_,σ,K=>TL.get l cs σ K
 |.boxst t,.box cs,_,σ,K=>tpop t cs fun x rest=>match rest with
  |[]=>K σ x
  |_=>none
 |.arr t,.arr t' l q,u,σ,K=>if h:t'=t then if Nat.beq q u then K σ (Qnb h l)else none else none
 |.arrs t,.arr t' l q,u,σ,K=>if h:t'=t then if Nat.beq q u then K σ (Qnb h l)else none else none
 |.sm,.sm es,_,σ,K=>K σ es
 |_,_,_,_,_=>none
def OL.get:(l:List (Name×OSh))→HS→Ren→(Ren→OL l→Option R)→Option R
 |[],_,σ,K=>K σ ()
 |p::r,hs,σ,K=>match look p.1 σ with
  |some m=>match look m.1 hs with
   |some ob=>p.2.get ob m.2 σ fun σ x=>OL.get r hs σ fun σ y=>K σ (x,y)
   |none=>none
  |none=>none
def STL.get:(l:List (Nat×SSh))→TS→Ren→(Ren→STL l→Option R)→Option R
 |[],_,σ,K=>K σ ()
 |p::r,ts,σ,K=>match look p.1 ts with
  |some v=>p.2.get v σ fun σ f=>STL.get r ts σ fun σ x=>K σ (f _ x)
  |none=>none
def Fit(rr:Name→Name)(δ:Name→Nat)(σ:Ren):Prop:=∀nm m,(nm,m)∈σ→rr nm=m.1∧δ nm=m.2
def UZ(L:Lens)(rr:Name→Name)(δ:Name→Nat):Lens:=fun n v=>L (rr n) (δ n+v)
theorem Fit.mono{rr:Name→Name}{δ:Name→Nat}{σ σ':Ren}(h:Fit rr δ σ')(hs:∀p,p∈σ→p∈σ'):Fit rr δ σ:=fun nm m hm=>h nm m (hs _ hm)
variable {L:Lens}
theorem Qho:∀{ns:List Name} {vs:List BV} {σ:Ren} {K:Ren→Option R},Qfd ns vs σ K=some r→
  ∃σ',K σ'=some r∧(∀p,p∈σ→p∈σ')∧∀(rr:Name→Name) (δ:Name→Nat) (L:Lens),Fit rr δ σ'→erL L vs=renL rr (erL (UZ L rr δ) (ns.map fun n=>.ref n 0))
 |[],[],σ,K,h=>⟨σ,h,fun _ hp=>hp,fun rr δ L _=>by simp only[List.map_nil,erL,renL]⟩
 |[],v::vs,σ,K,h=>by simp[Qfd]at h
 |nm::ns,[],σ,K,h=>by simp[Qfd]at h
 |nm::ns,v::vs,σ,K,h=>by
  cases v with
  |ref m off=>
   simp only[Qfd]at h
   split at h
   ·rename_i ho
    have:=nbe ho;subst this
    obtain⟨σ',h1,h2,h3⟩:=Qho h
    refine⟨σ',h1,fun p hp=>h2 p (List.mem_cons_of_mem _ hp),fun rr δ L hf=>?_⟩
    simp only[List.map_cons,erL,renL,BV.er,AV.ren,(hf nm (m,0) (h2 _ (List.mem_cons_self ..))).1,h3 rr δ L hf]
   ·simp at h
  |_=>simp[Qfd]at h
theorem Sh.get_some{s:Sh}{v:BV}{σ:Ren}{K:Ren→((X:Type)→X→s.prod X)→Option R}(h:s.get v σ K=some r):
  ∃σ' f,K σ' f=some r∧(∀p,p∈σ→p∈σ')∧(∀X (y:X),(s.put 0 X (f X y)).2=y)∧∀X (y:X) (rr:Name→Name) (δ:Name→Nat) (L:Lens),Fit rr δ σ'→AVle (v.er L) (((s.put 0 X (f X y)).1.er (UZ L rr δ)).ren rr):=by
 unfold Sh.get at h
 split at h
 ·split at h
  ·rename_i hk;have:=QcY hk;subst this
   exact⟨_,_,h,fun _ hp=>hp,fun _ _=>rfl,fun X y rr δ L _=>by simp only[Sh.put,BV.er,AV.ren];exact .refl _⟩
  ·simp at h
 ·exact⟨_,_,h,fun _ hp=>hp,fun _ _=>rfl,fun X y rr δ L _=>by simp only[Sh.put,BV.er,AV.ren];exact .refl _⟩
 ·exact⟨_,_,h,fun _ hp=>hp,fun _ _=>rfl,fun X y rr δ L _=>by simp only[Sh.put,BV.er,AV.ren];exact .refl _⟩
 ·split at h
  ·rename_i he;subst he
   exact⟨_,_,h,fun _ hp=>hp,fun _ _=>rfl,fun X y rr δ L _=>by simp only[Sh.put,BV.er,AV.ren,Qnb];exact .p (PVle.full _)⟩
  ·simp at h
 ·rename_i t K0
  exact⟨_,_,h,fun _ hp=>hp,fun _ _=>rfl,fun X y rr δ L _=>by have:=Qv1 t L;simp only[BV.er]at this;simp only[Sh.put,BV.er,AV.ren];exact this⟩
 ·exact⟨_,_,h,fun _ hp=>hp,fun _ _=>rfl,fun X y rr δ L _=>by simp only[Sh.put,BV.er,AV.ren];exact .refl _⟩
 ·split at h
  ·rename_i nm m off σ0 K0 ho
   have:=nbe ho;subst this
   exact⟨_,_,h,fun _ hp=>List.mem_cons_of_mem _ hp,fun _ _=>rfl,fun X y rr δ L hf=>by simp only[Sh.put,BV.er,AV.ren,UZ,(hf _ _ (List.mem_cons_self ..)).1,(hf _ _ (List.mem_cons_self ..)).2,Nat.add_zero];exact .refl _⟩
  ·simp at h
 ·rename_i nm m σ0 K0
  exact⟨_,_,h,fun _ hp=>List.mem_cons_of_mem _ hp,fun _ _=>rfl,fun X y rr δ L hf=>by simp only[Sh.put,BV.er,AV.ren,UZ,(hf _ _ (List.mem_cons_self ..)).1,(hf _ _ (List.mem_cons_self ..)).2,Nat.add_zero];exact .refl _⟩
 ·rename_i nm m u lo hi σ0 K0
  exact⟨_,_,h,fun _ hp=>List.mem_cons_of_mem _ hp,fun _ _=>rfl,fun X y rr δ L hf=>by simp only[Sh.put,BV.er,AV.ren,UZ,(hf _ _ (List.mem_cons_self ..)).1,(hf _ _ (List.mem_cons_self ..)).2,Nat.add_zero];exact .refl _⟩
 ·split at h
  ·rename_i hk;have:=nbe hk;subst this
   obtain⟨σ',h1,h2,h3⟩:=Qho h
   exact⟨σ',_,h1,h2,fun _ _=>rfl,fun X y rr δ L hf=>by simp only[Sh.put,BV.er,AV.ren,h3 rr δ L hf,renL];exact .refl _⟩
  ·simp at h
 ·split at h
  ·rename_i hk;have:=nbe hk;subst this
   exact⟨_,_,h,fun _ hp=>hp,fun _ _=>rfl,fun X y rr δ L _=>by simp only[Sh.put,BV.er,AV.ren];exact .refl _⟩
  ·simp at h
 ·rename_i nm m σ0 K0
  exact⟨_,_,h,fun _ hp=>List.mem_cons_of_mem _ hp,fun _ _=>rfl,fun X y rr δ L hf=>by simp only[Sh.put,BV.er,AV.ren,(hf _ _ (List.mem_cons_self ..)).1];exact .refl _⟩
 ·simp at h
theorem TL.get_some:∀{l:List Sh} {vs:List BV} {σ:Ren} {K:Ren→TL l→Option R},TL.get l vs σ K=some r→
  ∃σ' x,K σ' x=some r∧(∀p,p∈σ→p∈σ')∧∀(rr:Name→Name) (δ:Name→Nat) (L:Lens),Fit rr δ σ'→Xx (erL L vs) (renL rr (erL (UZ L rr δ) (TL.put 0 l x)))
 |[],vs,σ,K,h=>by
  cases vs with
  |nil=>exact⟨_,_,h,fun _ hp=>hp,fun rr δ L _=>by simp only[TL.put,erL,renL];exact .nil⟩
  |cons v vs=>simp[TL.get]at h
 |s::l,vs,σ,K,h=>by
  cases vs with
  |nil=>simp[TL.get]at h
  |cons v vs=>
   simp only[TL.get]at h
   obtain⟨σ1,f,h,hs1,hf1,g1⟩:=Sh.get_some h
   obtain⟨σ2,x,h,hs2,g2⟩:=TL.get_some h
   refine⟨σ2,f _ x,h,fun p hp=>hs2 p (hs1 p hp),fun rr δ L hf=>?_⟩
   simp only[TL.put,erL,renL,hf1]
   exact .cons (g1 _ x rr δ L (hf.mono hs2)) (g2 rr δ L hf)
theorem Qwc(rr:Name→Name)(L L':Lens)(t:TC)(x:TT t):renL rr (erL L (tb t x))=erL L' (tb t x):=by
 rw[Vy (Qch t x),Vy (Qch t x),Qmw]
 simp only[pcells,List.map_map]
 exact List.map_congr_left fun y _=>by simp only[Function.comp,AV.ren]
theorem SSh.get_some{s:SSh}{v:BV}{σ:Ren}{K:Ren→((X:Type)→X→s.prod X)→Option R}(h:s.get v σ K=some r):
  ∃σ' f,K σ' f=some r∧(∀p,p∈σ→p∈σ')∧(∀X (y:X),(s.put 0 X (f X y)).2=y)∧∀X (y:X) (rr:Name→Name) (δ:Name→Nat) (L:Lens),Fit rr δ σ'→AVle (v.er L) (((s.put 0 X (f X y)).1.er (UZ L rr δ)).ren rr):=by
 cases s with
 |one s=>exact Sh.get_some h
 |st t=>
  cases v with
  |agg cs=>
   simp only[SSh.get]at h
   obtain⟨x,l,hle,h⟩:=Qck t h
   split at h
   ·refine⟨_,_,h,fun _ hp=>hp,fun _ _=>rfl,fun X y rr δ L _=>?_⟩
    simp only[SSh.put,BV.er,AV.ren,Qwc rr _ L]
    have:=hle L
    rw[List.append_nil]at this
    exact .agg this
   ·simp at h
  |_=>simp[SSh.get]at h
 |agg l=>
  cases v with
  |agg cs=>
   simp only[SSh.get]at h
   obtain⟨σ',x,h,hs,g⟩:=TL.get_some h
   exact⟨_,_,h,hs,fun _ _=>rfl,fun X y rr δ L hf=>by simp only[SSh.put,BV.er,AV.ren];exact .agg (g rr δ L hf)⟩
  |_=>simp[SSh.get]at h
theorem SL.get_some:∀{l:List SSh} {vs:List BV} {σ:Ren} {K:Ren→SL l→Option R},SL.get l vs σ K=some r→
  ∃σ' x,K σ' x=some r∧(∀p,p∈σ→p∈σ')∧∀(rr:Name→Name) (δ:Name→Nat) (L:Lens),Fit rr δ σ'→Xx (erL L vs) (renL rr (erL (UZ L rr δ) (SL.put 0 l x)))
 |[],vs,σ,K,h=>by
  cases vs with
  |nil=>exact⟨_,_,h,fun _ hp=>hp,fun rr δ L _=>by simp only[SL.put,erL,renL];exact .nil⟩
  |cons v vs=>simp[SL.get]at h
 |s::l,vs,σ,K,h=>by
  cases vs with
  |nil=>simp[SL.get]at h
  |cons v vs=>
   simp only[SL.get]at h
   obtain⟨σ1,f,h,hs1,hf1,g1⟩:=SSh.get_some h
   obtain⟨σ2,x,h,hs2,g2⟩:=SL.get_some h
   refine⟨σ2,f _ x,h,fun p hp=>hs2 p (hs1 p hp),fun rr δ L hf=>?_⟩
   simp only[SL.put,erL,renL,hf1]
   exact .cons (g1 _ x rr δ L (hf.mono hs2)) (g2 rr δ L hf)
def OLe(rr:Name→Name)(δ:Name→Nat)(u:Nat)(L:Lens)(a b:BO):Prop:=(∃cs ds,a=.box cs∧b=.box ds∧Xx (erL L cs) (renL rr (erL (UZ L rr δ) ds)))∨(∃t l,a=.arr t l u∧b=.arr t l 0)∨∃es,a=.sm es∧b=.sm es
theorem OSh.get_some{o:OSh}{b:BO}{u:Nat}{σ:Ren}{K:Ren→o.T→Option R}(h:o.get b u σ K=some r):
  ∃σ' x,K σ' x=some r∧(∀p,p∈σ→p∈σ')∧∀(rr:Name→Name) (δ:Name→Nat) (L:Lens),Fit rr δ σ'→OLe rr δ u L b (o.put 0 x):=by
 cases o with
 |box l=>
  cases b with
  |box cs=>
   obtain⟨σ',x,h,hs,g⟩:=TL.get_some h
   exact⟨σ',x,h,hs,fun rr δ L hf=>.inl ⟨_,_,rfl,rfl,g rr δ L hf⟩⟩
  |arr t l=>simp[OSh.get]at h
  |sm es=>simp[OSh.get]at h
 |boxst t=>
  cases b with
  |box cs=>
   simp only[OSh.get]at h
   obtain⟨x,l,hle,h⟩:=Qck t h
   split at h
   ·refine⟨_,_,h,fun _ hp=>hp,fun rr δ L _=>.inl ⟨_,_,rfl,rfl,?_⟩⟩
    rw[Qwc rr _ L]
    have:=hle L
    rwa [List.append_nil]at this
   ·simp at h
  |arr t l=>simp[OSh.get]at h
  |sm es=>simp[OSh.get]at h
 |arr t=>
  cases b with
  |box cs=>simp[OSh.get]at h
  |sm es=>simp[OSh.get]at h
  |arr t' l=>
   simp only[OSh.get]at h
   split at h
   ·rename_i he;subst he
    split at h
    ·rename_i hq
     have:=nbe hq;subst this
     exact⟨_,_,h,fun _ hp=>hp,fun rr δ L _=>.inr (.inl ⟨_,_,rfl,rfl⟩)⟩
    ·simp at h
   ·simp at h
 |arrs t=>
  cases b with
  |box cs=>simp[OSh.get]at h
  |sm es=>simp[OSh.get]at h
  |arr t' l=>
   simp only[OSh.get]at h
   split at h
   ·rename_i he;subst he
    split at h
    ·rename_i hq
     have:=nbe hq;subst this
     exact⟨_,_,h,fun _ hp=>hp,fun rr δ L _=>.inr (.inl ⟨_,_,rfl,rfl⟩)⟩
    ·simp at h
   ·simp at h
 |sm=>
  cases b with
  |sm es=>exact⟨_,_,h,fun _ hp=>hp,fun rr δ L _=>.inr (.inr ⟨_,rfl,rfl⟩)⟩
  |box cs=>simp[OSh.get]at h
  |arr t l=>simp[OSh.get]at h
theorem OL.get_some{hs:HS}:∀{l:List (Name×OSh)} {σ:Ren} {K:Ren→OL l→Option R},OL.get l hs σ K=some r→
  ∃σ' x,K σ' x=some r∧(∀p,p∈σ→p∈σ')∧∀(rr:Name→Name) (δ:Name→Nat) (L:Lens),Fit rr δ σ'→∀n b,look n (OL.put 0 l x)=some b→∃a,look (rr n) hs=some a∧OLe rr δ (δ n) L a b
 |[],σ,K,h=>⟨_,_,h,fun _ hp=>hp,fun rr δ L _ n b hn=>by change look n []=some b at hn;simp[look]at hn⟩
 |p::l,σ,K,h=>by
  simp only[OL.get]at h
  split at h
  ·rename_i m hm
   split at h
   ·rename_i ob hob
    obtain⟨σ1,x,h,hs1,g1⟩:=OSh.get_some h
    obtain⟨σ2,y,h,hs2,g2⟩:=OL.get_some h
    refine⟨σ2,(x,y),h,fun q hq=>hs2 q (hs1 q hq),fun rr δ L hf n b hn=>?_⟩
    change look n ((p.1,p.2.put 0 x)::OL.put 0 l y)=some b at hn
    simp only[look]at hn
    split at hn
    ·rename_i e
     cases hn
     have hfm:=hf p.1 m (hs2 _ (hs1 _ (Q0 hm)))
     rw[←e,hfm.1,hfm.2]
     exact⟨ob,hob,g1 rr δ L (hf.mono hs2)⟩
    ·exact g2 rr δ L hf n b hn
   ·simp at h
  ·simp at h
theorem STL.get_some{ts:TS}:∀{l:List (Nat×SSh)} {σ:Ren} {K:Ren→STL l→Option R},STL.get l ts σ K=some r→
  ∃σ' x,K σ' x=some r∧(∀p,p∈σ→p∈σ')∧∀(rr:Name→Name) (δ:Name→Nat) (L:Lens),Fit rr δ σ'→∀n b,look n (STL.put 0 l x)=some b→∃a,look n ts=some a∧AVle (a.er L) ((b.er (UZ L rr δ)).ren rr)
 |[],σ,K,h=>⟨_,_,h,fun _ hp=>hp,fun rr δ L _ n b hn=>by change look n []=some b at hn;simp[look]at hn⟩
 |p::l,σ,K,h=>by
  simp only[STL.get]at h
  split at h
  ·rename_i v hv
   obtain⟨σ1,f,h,hs1,hf1,g1⟩:=SSh.get_some h
   obtain⟨σ2,y,h,hs2,g2⟩:=STL.get_some h
   refine⟨σ2,f _ y,h,fun q hq=>hs2 q (hs1 q hq),fun rr δ L hf n b hn=>?_⟩
   change look n ((p.1,(p.2.put 0 _ (f _ y)).1)::STL.put 0 l (p.2.put 0 _ (f _ y)).2)=some b at hn
   simp only[look,hf1]at hn
   split at hn
   ·rename_i e
    cases hn
    exact⟨v,by rw[←e];exact hv,g1 _ y rr δ L (hf.mono hs2)⟩
   ·exact g2 rr δ L hf n b hn
  ·simp at h
end
/-
  The typed layer, part G: contracts of functions, calls. No project text.
-/
open Go
mutual
def BV.ren(σ:Name→Name)(δ:Name→Nat):BV→BV
 |.agg cs=>.agg (Qop σ δ cs)
 |.tup vs=>.tup (Qop σ δ vs)
 |.clo f cs=>.clo f (Qop σ δ cs)
 |.ref m o=>.ref (σ m) o
 |.own m u=>.own (σ m) (δ m+u)
 |.aref m u i o=>.aref (σ m) (δ m+u) i o
 |.view m u i o=>.view (σ m) (δ m+u) i o
 |.mref m=>.mref (σ m)
 |x=>x
def Qop(σ:Name→Name)(δ:Name→Nat):List BV→List BV
 |[]=>[]
 |x::r=>x.ren σ δ::Qop σ δ r
end
mutual
def BV.use(p:Name→Nat→Bool):BV→Bool
 |.agg cs=>BV.useL p cs
 |.tup vs=>BV.useL p vs
 |.clo _ cs=>BV.useL p cs
 |.own m u=>p m u
 |.aref m u _ _=>p m u
 |.view m u _ _=>p m u
 |_=>true
def BV.useL(p:Name→Nat→Bool):List BV→Bool
 |[]=>true
 |x::r=>x.use p && BV.useL p r
end
mutual
theorem Qv6{σ:Name→Name}{δ:Name→Nat}{L L':Lens}{p:Name→Nat→Bool}(hL:∀n u,p n u=true→L' (σ n) (δ n+u)=L n u):∀x:BV,x.use p=true→(x.er L).ren σ=(x.ren σ δ).er L'
 |.agg cs,h=>by simp only[BV.use]at h;simp only[BV.er,BV.ren,AV.ren,QjS hL cs h]
 |.tup cs,h=>by simp only[BV.use]at h;simp only[BV.er,BV.ren,AV.ren,QjS hL cs h]
 |.clo f cs,h=>by simp only[BV.use]at h;simp only[BV.er,BV.ren,AV.ren,QjS hL cs h,renL]
 |.ref _ _,_=>by simp only[BV.er,BV.ren,AV.ren]
 |.own n u,h=>by simp only[BV.use]at h;simp only[BV.er,BV.ren,AV.ren,hL n u h]
 |.aref n u _ _,h=>by simp only[BV.use]at h;simp only[BV.er,BV.ren,AV.ren,hL n u h]
 |.view n u _ _,h=>by simp only[BV.use]at h;simp only[BV.er,BV.ren,AV.ren,hL n u h]
 |.mref _,_=>by simp only[BV.er,BV.ren,AV.ren]
 |.tep _,_=>by simp only[BV.er,BV.ren,AV.ren]
 |.any,_=>by simp only[BV.er,BV.ren,AV.ren]
 |.ub,_=>by simp only[BV.er,BV.ren,AV.ren]
 |.n _ _,_=>by simp only[BV.er,BV.ren,AV.ren]
 |.b _,_=>by simp only[BV.er,BV.ren,AV.ren]
 |.s _,_=>by simp only[BV.er,BV.ren,AV.ren]
 |.ts _ _ _,_=>by simp only[BV.er,BV.ren,AV.ren]
 |.nil,_=>by simp only[BV.er,BV.ren,AV.ren]
 |.v _,_=>by simp only[BV.er,BV.ren,AV.ren]
theorem QjS{σ:Name→Name}{δ:Name→Nat}{L L':Lens}{p:Name→Nat→Bool}(hL:∀n u,p n u=true→L' (σ n) (δ n+u)=L n u):∀l:List BV,BV.useL p l=true→renL σ (erL L l)=erL L' (Qop σ δ l)
 |[],_=>by simp only[erL,renL,Qop]
 |x::r,h=>by
  simp only[BV.useL,bae]at h
  simp only[erL,renL,Qop,Qv6 hL x h.1,QjS hL r h.2]
end
def BO.ren(σ:Name→Name)(δ:Name→Nat)(k:Nat):BO→BO
 |.box cs=>.box (Qop σ δ cs)
 |.arr t l v=>.arr t l (k+v)
 |.sm es=>.sm es
def BO.use(p:Name→Nat→Bool):BO→Bool
 |.box cs=>BV.useL p cs
 |.arr _ _ _=>true
 |.sm _=>true
theorem Qxp{σ:Name→Name}{δ:Name→Nat}{L L':Lens}{p:Name→Nat→Bool}(hL:∀n u,p n u=true→L' (σ n) (δ n+u)=L n u)(k:Nat)(o:BO)(h:o.use p=true):(o.er L).ren σ=(o.ren σ δ k).er L':=by
 cases o with
 |box cs=>simp only[BO.er,BO.ren,AO.ren,QjS hL cs h]
 |arr t l=>simp only[BO.er,BO.ren,AO.ren]
 |sm es=>simp only[BO.er,BO.ren,AO.ren]
def QhU(σ:Name→Name)(δ:Name→Nat)(hs:HS):HS:=hs.map fun p=>(σ p.1,p.2.ren σ δ (δ p.1))
theorem Qxn{σ:Name→Name}{δ:Name→Nat}{L L':Lens}{p:Name→Nat→Bool}(hL:∀n u,p n u=true→L' (σ n) (δ n+u)=L n u)(hs:HS)(h:hs.all (fun q=>q.2.use p)=true):renH σ (erH L hs)=erH L' (QhU σ δ hs):=by
 unfold renH erH QhU
 simp only[List.map_map]
 refine List.map_congr_left fun q hq=>?_
 simp only[Function.comp,Qxp hL (δ q.1) q.2 (List.all_eq_true.1 h q hq)]
theorem QgW{σ:Name→Name}{δ:Name→Nat}(hσ:∀a b,σ a=σ b→a=b)(n:Name):∀h:HS,look (σ n) (QhU σ δ h)=(look n h).map (BO.ren σ δ (δ n))
 |[]=>rfl
 |(k,o)::r=>by
  show look (σ n) ((σ k,o.ren σ δ (δ k))::QhU σ δ r)=(look n ((k,o)::r)).map (BO.ren σ δ (δ n))
  simp only[look]
  by_cases e:k=n
  ·simp[e]
  ·rw[if_neg (fun h=>e (hσ _ _ h)),if_neg e];exact QgW hσ n r
theorem QeY{σ:Name→Name}{δ:Name→Nat}{m:Name}{o:BO}:∀{h:HS},look m (QhU σ δ h)=some o→∃n,σ n=m
 |[],h=>by simp[QhU,look]at h
 |(k,x)::r,h=>by
  change look m ((σ k,x.ren σ δ (δ k))::QhU σ δ r)=some o at h
  simp only[look]at h
  split at h
  ·exact⟨k,by assumption⟩
  ·exact QeY h
mutual
def BV.closed(ks:List Name):BV→Bool
 |.agg cs=>BV.closedL ks cs
 |.tup vs=>BV.closedL ks vs
 |.clo _ cs=>BV.closedL ks cs
 |.ref m _=>ks.contains m
 |.own m _=>ks.contains m
 |.aref m _ _ _=>ks.contains m
 |.view m _ _ _=>ks.contains m
 |.mref m=>ks.contains m
 |_=>true
def BV.closedL(ks:List Name):List BV→Bool
 |[]=>true
 |x::r=>x.closed ks && BV.closedL ks r
end
mutual
theorem Qnh(L:Lens)(ks:List Name):∀x:BV,(x.er L).closed ks=x.closed ks
 |.agg cs=>by simp only[BV.er,AV.closed,BV.closed,QbR L ks cs]
 |.tup cs=>by simp only[BV.er,AV.closed,BV.closed,QbR L ks cs]
 |.clo f cs=>by simp only[BV.er,AV.closed,BV.closed,QbR L ks cs,AV.closedL,Bool.true_and]
 |.ref _ _=>by simp only[BV.er,AV.closed,BV.closed]
 |.own _ _=>by simp only[BV.er,AV.closed,BV.closed]
 |.aref _ _ _ _=>by simp only[BV.er,AV.closed,BV.closed]
 |.view _ _ _ _=>by simp only[BV.er,AV.closed,BV.closed]
 |.mref _=>by simp only[BV.er,AV.closed,BV.closed]
 |.tep _=>by simp only[BV.er,AV.closed,BV.closed]
 |.any=>by simp only[BV.er,AV.closed,BV.closed]
 |.ub=>by simp only[BV.er,AV.closed,BV.closed]
 |.n _ _=>by simp only[BV.er,AV.closed,BV.closed]
 |.b _=>by simp only[BV.er,AV.closed,BV.closed]
 |.s _=>by simp only[BV.er,AV.closed,BV.closed]
 |.ts _ _ _=>by simp only[BV.er,AV.closed,BV.closed]
 |.nil=>by simp only[BV.er,AV.closed,BV.closed]
 |.v _=>by simp only[BV.er,AV.closed,BV.closed]
theorem QbR(L:Lens)(ks:List Name):∀l:List BV,AV.closedL ks (erL L l)=BV.closedL ks l
 |[]=>by simp only[erL,AV.closedL,BV.closedL]
 |x::r=>by simp only[erL,AV.closedL,BV.closedL,Qnh L ks x,QbR L ks r]
end
def BO.closed(ks:List Name):BO→Bool
 |.box cs=>BV.closedL ks cs
 |.arr _ _ _=>true
 |.sm _=>true
theorem Qq3(L:Lens)(ks:List Name)(o:BO):(o.er L).closed ks=o.closed ks:=by cases o<;>simp only[BO.er,AO.closed,BO.closed,QbR]
def QwF(pre h:HS)(nw:List Name)(v:BV):Bool:=
 (keys h).all (fun n=>(keys pre).contains n || nw.contains n) && nw.all (fun n=>(keys h).contains n && !(keys pre).contains n) && v.closed (keys h) && h.all (fun p=>p.2.closed (keys h))
theorem QuG{L0 L1:Lens}{pre h:HS}{nw:List Name}{v:BV}(hb:QwF pre h nw v=true):Qdh (erH L0 pre) (erH L1 h) nw (v.er L1)=true:=by
 unfold QwF at hb
 unfold Qdh
 rw[Qcu,Qcu,Qnh]
 have:(erH L1 h).all (fun p=>p.2.closed (keys h))=h.all (fun p=>p.2.closed (keys h)):=by
  unfold erH;rw[List.all_map];congr 1;funext p;simp only[Function.comp,Qq3]
 rw[this];exact hb
structure Sig where
 args:List SSh
 pre:List (Name×OSh)
 res:List SSh
 post:List (Name×OSh)
 keep:List Name
 F:(R:Type)→SL args→OL pre→(SL res→OL post→Option R)→Option R
def resB:List BV→BV
 |[v]=>v
 |vs=>.tup vs
def Sig.posts(g:Sig)(y:OL g.pre)(b:OL g.post):HS:=OL.put 1 g.post b++(OL.put 0 g.pre y).filter (fun p=>g.keep.contains p.1)
def QaX:List (Name×OSh)→List Name
 |[]=>[]
 |(n,.arrs _)::r=>n::QaX r
 |(_,.arr _)::r=>QaX r
 |(_,.box _)::r=>QaX r
 |(_,.boxst _)::r=>QaX r
 |(_,.sm)::r=>QaX r
structure FnOK (P:Program) (k:FuncId) (g:Sig):Prop where
 nat:∀(R:Type) x y (K:SL g.res→OL g.post→Option R) r,g.F R x y K=some r→∃a b,g.F (SL g.res×OL g.post) x y (fun a b=>some (a,b))=some (a,b)∧K a b=some r
 spec:∀x y a b,g.F (SL g.res×OL g.post) x y (fun a b=>some (a,b))=some (a,b)→∀L0,Inv L0 (OL.put 0 g.pre y)→∃L1:Lens,(∀n,n∈g.keep∨n∈QaX g.post→L1 n 0=L0 n 0)∧Inv L1 (g.posts y b)∧
  XJ P k (erL L0 (SL.put 0 g.args x)) (erH L0 (OL.put 0 g.pre y)) ((resB (SL.put 1 g.res a)).er L1) (erH L1 (g.posts y b))
def Qkw(m:Ren):Name→Name:=fun n=>match look n m with|some a=>a.1|none=>n+10000000000
def Qgz(m:Ren):Name→Nat:=fun n=>match look n m with|some a=>a.2|none=>0
def QkT(n a u:Nat):Ren→Bool
 |[]=>false
 |(k,b)::r=>if Nat.beq k n then Nat.beq b.1 a && Nat.beq b.2 u else QkT n a u r
theorem Qjk{n a u:Nat}:∀{m:Ren},QkT n a u m=true→look n m=some (a,u)
 |[],h=>by simp[QkT]at h
 |(k,b)::r,h=>by
  simp only[QkT]at h
  simp only[look]
  split at h
  ·rename_i e
   simp only[bae]at h
   rw[if_pos (nbe e),←nbe h.1,←nbe h.2]
  ·rename_i e;rw[if_neg (fun e'=>e (by rw[e'];exact Nat.beq_refl _))];exact Qjk h
def Qxo(m:Ren):Bool:=m.all fun p=>QkT p.1 p.2.1 p.2.2 m && Nat.blt p.2.1 10000000000 && m.all fun q=>Nat.beq p.1 q.1 || !Nat.beq p.2.1 q.2.1
theorem QtN{m:Ren}(h:Qxo m=true):Fit (Qkw m) (Qgz m) m:=fun nm a hm=>by
 have:=List.all_eq_true.1 h _ hm
 simp only[bae]at this
 unfold Qkw Qgz;rw[Qjk this.1.1];exact⟨rfl,rfl⟩
theorem QtO{m:Ren}(h:Qxo m=true):∀a b,Qkw m a=Qkw m b→a=b:=fun a b e=>by
 unfold Qkw at e
 have hb:∀{n x},look n m=some x→x.1<10000000000:=fun{n x} hx=>by
  have:=List.all_eq_true.1 h _ (Q0 hx)
  simp only[bae,Nat.blt_eq]at this
  exact this.1.2
 cases ha:look a m with
 |none=>
  cases hb':look b m with
  |none=>rw[ha,hb']at e;exact Nat.add_right_cancel e
  |some y=>rw[ha,hb']at e;have h1:(y.1:Nat)<10000000000:=hb hb';have h2:(a:Nat)+10000000000=(y.1:Nat):=e;exact absurd h1 (by rw[←h2];exact Nat.not_lt.2 (Nat.le_add_left _ _))
 |some x=>
  cases hb':look b m with
  |none=>rw[ha,hb']at e;have h1:(x.1:Nat)<10000000000:=hb ha;have h2:(x.1:Nat)=(b:Nat)+10000000000:=e;exact absurd h1 (by rw[h2];exact Nat.not_lt.2 (Nat.le_add_left _ _))
  |some y=>
   rw[ha,hb']at e
   simp only at e
   have:=List.all_eq_true.1 h _ (Q0 ha)
   simp only[bae]at this
   have:=List.all_eq_true.1 this.2 _ (Q0 hb')
   simp only[e,Nat.beq_refl,Bool.not_true,Bool.or_false]at this
   exact nbe this
def Qct(d:Nat)(g:Sig):Ren:=((keys g.post).filter fun n=>!(keys g.pre).contains n).map fun n=>(n,(1000000+1000*d+n,0))
def X2:List (Name×OSh)→List Name
 |[]=>[]
 |(n,.arr _)::r=>n::X2 r
 |(_,.box _)::r=>X2 r
 |(_,.arrs _)::r=>X2 r
 |(_,.boxst _)::r=>X2 r
 |(_,.sm)::r=>X2 r
def hpOf(rr:Name→Name)(hs:HS):List Name→HS
 |[]=>[]
 |n::r=>match look (rr n) hs with
  |some ob=>(rr n,ob)::hpOf rr hs r
  |none=>hpOf rr hs r
def Qfc(g:Sig)(m:Ren)(d:Nat)(hs:HS)(y:OL g.pre)(a:SL g.res)(b:OL g.post):BEff:=
 ⟨hpOf (Qkw m) hs (keys g.pre),(resB (SL.put 1 g.res a)).ren (Qkw m) (Qgz m),QhU (Qkw m) (Qgz m) (g.posts y b),(Qct d g).map (·.2.1),((X2 g.post).filter fun n=>(keys g.pre).contains n).map fun n=>(Qkw m n,Qgz m n+1)⟩
def QrN(g:Sig)(n u:Nat):Bool:=match u with
 |0=>isIn n g.keep || isIn n (QaX g.post)
 |1=>isIn n (X2 g.post)
 |_=>false
def Qst(g:Sig)(m:Ren)(d:Nat)(hs:HS)(y:OL g.pre)(a:SL g.res)(b:OL g.post):Bool:=
 Qxo m && QwF (Qfc g m d hs y a b).hp (Qfc g m d hs y a b).upd (Qfc g m d hs y a b).nw (Qfc g m d hs y a b).v &&
 (resB (SL.put 1 g.res a)).use (QrN g) && (g.posts y b).all (fun q=>q.2.use (QrN g)) &&
 g.keep.all (fun n=>(keys g.pre).contains n && !(keys g.post).contains n)
/-
  The typed layer, part R: parts of lists and of arrays of ours, clear, copy, closures that are made, arrays that are values. No project text.
-/
section
variable {L L':Lens} {ts ts':TS} {hs hs':HS}
section
variable {R:Type} (P:Program) (ty:TypeId→Option TC) (rd:TS) (hs:HS) (K:BEff→Option R)
def bndB(x:Operand)(k:Nat→Option R):Option R:=match ZM rd x with
 |some (.n k' j)=>if kEq .i64 k' then natc j k else none
 |_=>none
def Qsl(T:TypeId)(x:Operand)(lo hi mx:Option Operand):Option R:=match ZM rd x,Vr P T,mx with
 |some (.ts f t l),some e,none=>match Zv P e,lo,hi with
  |some es,some lo,none=>if Nat.beq es (tz t)then bndB rd lo fun k=>lec k l.length (K (ev (.ts f t (l.drop k))))else none
  |some es,none,some hi=>if Nat.beq es (tz t)then bndB rd hi fun m=>lec m l.length (K (ev (.ts false t (l.take m))))else none
  |some es,some lo,some hi=>if Nat.beq es (tz t)then bndB rd lo fun k=>bndB rd hi fun m=>lec k m (lec m l.length (K (ev (.ts false t ((l.take m).drop k)))))else none
  |_,_,_=>none
 |some (.own n u),some e,none=>match look n hs,Zv P e with
  |some (.arr t l q),some es=>if Nat.beq es (tz t) && Nat.beq u q then(match lo,hi with
    |some lo,none=>bndB rd lo fun k=>lec k l.length (K ⟨[(n,.arr t l q)],.view n u k l.length,[],[],[]⟩)
    |none,some hi=>bndB rd hi fun m=>lec m l.length (K ⟨[(n,.arr t l q)],.view n u 0 m,[],[],[]⟩)
    |_,_=>none)else none
  |_,_=>none
 |some (.view n u a b),some e,none=>match look n hs,Zv P e with
  |some (.arr t l q),some es=>if Nat.beq es (tz t) && Nat.beq u q then(match lo,hi with
    |some lo,none=>bndB rd lo fun k=>ltc k (b - a) (K ⟨[(n,.arr t l q)],.view n u (a+k) (a+(b - a)),[],[],[]⟩)
    |none,some hi=>bndB rd hi fun m=>lec m (b - a) (K ⟨[(n,.arr t l q)],.view n u (a+0) (a+m),[],[],[]⟩)
    |_,_=>none)else none
  |_,_=>none
 |_,_,_=>none
def Qsh(T:TypeId)(x:Operand):Option R:=match ZM rd x,Vr P T with
 |some (.view n u i hi),some e=>match look n hs,Zv P e,QrQ P e with
  |some (.arr t l q),some es,some zs=>if Nat.beq es (tz t) && Nat.beq zs.length es && zs.all BV.isP && Nat.beq u q then lec i hi (lec hi l.length (tpop t zs fun z rest=>match rest with
    |[]=>K ⟨[(n,.arr t l q)],.tup [],[(n,.arr t (l.take i++List.replicate (hi - i) z++l.drop hi) q)],[],[]⟩
    |_=>none))else none
  |_,_,_=>none
 |_,_=>none
def Qws(T:TypeId)(x y:Operand):Option R:=match ZM rd x,ZM rd y,Vr P T with
 |some (.view n u i hi),some (.view m v j hj),some e=>match look n hs,Zv P e with
  |some (.arr t l q),some es=>if Nat.beq n m && Nat.beq v q && Nat.beq es (tz t) && Nat.beq u q then chk hi l.length (chk hj l.length (lec i l.length (lec j i
    (K ⟨[(n,.arr t l q)],.n .i64 ((l.length - i:Nat):Int),[(n,.arr t (l.take i++(l.drop j).take (l.length - i)) q)],[],[]⟩))))else none
  |_,_=>none
 |_,_,_=>none
def Qph:List BV→Option (List Int)
 |[]=>some []
 |.n k x::r=>if kEq .i64 k then(match Qph r with|some l=>some (x::l)|none=>none)else none
 |_=>none
def bCmp(op:BinOp)(T:TypeId)(a b:List BV):Option R:=match Qph a,Qph b with
 |some p,some q=>if Qs2 P T p.length && Nat.beq q.length p.length then(match op with
   |.eql=>K (ev (.b (decide (p=q))))
   |.neq=>K (ev (.b (decide (p≠q))))
   |_=>none)else none
 |_,_=>none
def nilO:Operand→Bool
 |.const (.slice none 0 0)=>true
 |_=>false
def bNil(op:BinOp)(T:TypeId)(x:BV):Option R:=match eqOp op,Vr P T,x with
 |some q,some _,.ts _ _ l=>nilC l (K (ev .ub)) (K (ev (.b (!q))))
 |some q,some _,.nil=>K (ev .ub)
 |_,_,_=>none
def Qwo(op:BinOp)(T:TypeId)(x y:Operand):Option R:=match ZM rd x,ZM rd y with
 |some (.agg a),some (.agg b)=>bCmp P K op T a b
 |some x,some .nil=>if nilO y then bNil P K op T x else none
 |_,_=>bBin P rd K op T x y
def Qrq(c:Int):List BV→Nat→(Nat→BV→Option R)→Option R
 |[],_,_=>none
 |v::r,i,k=>cnd (decide (c=(i:Int))) (k i v) (Qrq c r (i+1) k)
def Qo3(T:TypeId)(x y:Operand):Option R:=match ZM rd x,ZM rd y,P.underlying T with
 |some (.agg cs),some (.n k j),some (.array len e)=>if kEq .i64 k && Qa7 P e && Nat.beq len cs.length then(match Zv P e with
   |some 1=>Qrq j cs 0 fun _ v=>K (ev v)
   |_=>none)else none
 |_,_,_=>none
def Qiz(T:TypeId)(x y:Operand):Option R:=match ZM rd x,ZM rd y,P.underlying T with
 |some (.ref n k),some (.n _ j),some (.array len e)=>match look n hs,Zv P e with
  |some (.box cells),some es=>Qrq j (List.replicate len .any) 0 fun i _=>K ⟨[(n,.box cells)],.ref n (k+i*es),[],[],[]⟩
  |_,_=>none
 |_,_,_=>none
def cntB(k:ByteArray):List (ByteArray×Bool)→Nat
 |[]=>0
 |p::r=>if k=p.1 then cntB k r+1 else cntB k r
def memB(k:ByteArray):List (ByteArray×Bool)→Bool
 |[]=>false
 |p::r=>if k=p.1 then p.2 else memB k r
def isK(P:Program)(T:TypeId):Bool:=match P.underlying T with
 |some (.map K E)=>(match P.underlying K with|some .string=>true|_=>false) && (match QrR P E with|some (.bool false)=>true|_=>false)
 |_=>false
def Qls(d:Option Nat)(T:TypeId):Option R:=match d with
 |some d=>if isK P T then K ⟨[],.mref (1000+d),[(1000+d,.sm [])],[1000+d],[]⟩else none
 |none=>none
def Qo4(T:TypeId)(x y:Operand):Option R:=match ZM rd x,ZM rd y with
 |some (.mref n),some (.s k)=>match look n hs with
  |some (.sm es)=>if isK P T then K ⟨[(n,.sm es)],.b (memB k es),[],[],[]⟩else none
  |_=>none
 |_,_=>none
def QwA(d:Option Nat)(T:TypeId)(x y z:Operand):Option R:=match d,ZM rd x,ZM rd y,ZM rd z with
 |none,some (.mref n),some (.s k),some (.b v)=>match look n hs with
  |some (.sm es)=>if isK P T then chk (cntB k es) 0 (K ⟨[(n,.sm es)],.any,[(n,.sm (es++[(k,v)]))],[],[]⟩)else none
  |_=>none
 |_,_,_,_=>none
def QwR:BV→Bool
 |.agg _=>false
 |.tup _=>false
 |_=>true
def Qwt(fn:Fn)(first caps:Array Operand):Option R:=match first.toList,Qf0 rd caps.toList with
 |[],some cs=>if cs.all QwR then K (ev (.clo fn cs))else none
 |_,_=>none
end
section
variable {R:Type} {P:Program} {ty:TypeId→Option TC} {rd:TS} {K:BEff→Option R} {r:R} {o:Oper}
theorem Uy{x:Operand}{k:Nat→Option R}(h:bndB rd x k=some r):∃i:Nat,ZM rd x=some (.n .i64 (i:Int))∧k i=some r:=by
 unfold bndB at h
 split at h
 ·rename_i k' j hx
  split at h
  ·rename_i hk
   have:=QcY hk;subst this
   obtain⟨i,rfl,h⟩:=QaO h
   exact⟨i,hx,h⟩
  ·simp at h
 ·simp at h
theorem Qft{x:Operand}{i d:Nat}(h:ZM rd x=some (.n .i64 (i:Int)))(L:Lens):optB (erT L rd) d (some x)=some (i:Int):=by
 have:=Qj L h
 simp only[BV.er]at this
 simp only[optB,this]
theorem Good.wrArrV{n:Name}{t:TC}{l l':List (TT t)}{q:Nat}{v:BV}(hc:look n hs=some (.arr t l q))(hl:l'.length=l.length)(h:∀L,Inv L hs→OpOK P o ⟨erT L rd,[(n,.arr (tz t) (l.map (tcells t)))],v.er L,[(n,.arr (tz t) (l'.map (tcells t)))],[]⟩):Good P o rd hs ⟨[(n,.arr t l q)],v,[(n,.arr t l' q)],[],[]⟩:=
 ⟨hp1 hc,fun L hL=>⟨L,fun _ _ _ _=>rfl,fun m t' l2 u hm=>by
  simp only[List.cons_append,List.nil_append,look]at hm
  split at hm
  ·rename_i e;subst e;cases hm;rw[hl];exact hL _ t l q hc
  ·exact hL m t' l2 u hm,h L hL⟩⟩
theorem Qsm{T:TypeId}{x:Operand}{lo hi mx:Option Operand}(ho:o.op=.slice T x lo hi mx)(h:Qsl P rd hs K T x lo hi mx=some r):Does P o rd hs K r:=by
 unfold Qsl at h
 split at h
 ·rename_i f t l e hx he
  split at h
  ·rename_i es lo hz
   split at h
   ·rename_i hb
    have:=nbe hb;subst this
    obtain⟨k,hk,h⟩:=Uy h
    obtain⟨hkl,h⟩:=YO h
    refine⟨_,h,.ev fun L _=>?_⟩
    have h1:=Qj L hx
    have h2:=Qj L hk
    simp only[BV.er]at h1 h2 ⊢
    exact OpOK.sliceLo ho (Qz he) hz h1 h2 rfl (by rw[List.length_map];exact hkl) (by rw[List.map_drop])
   ·simp at h
  ·rename_i es hi hz
   split at h
   ·rename_i hb
    have:=nbe hb;subst this
    obtain⟨m,hm,h⟩:=Uy h
    obtain⟨hml,h⟩:=YO h
    refine⟨_,h,.ev fun L _=>?_⟩
    have h1:=Qj L hx
    simp only[BV.er]at h1 ⊢
    have:=OpOK.sliceP (P:=P) (o:=o) (k:=0) (m:=m) ho (Qz he) hz h1 (by simp[optB]) (Qft hm L) (Nat.zero_le _) (by rw[List.length_map];exact hml)
    simp_all
   ·simp at h
  ·rename_i es lo hi hz
   split at h
   ·rename_i hb
    have:=nbe hb;subst this
    obtain⟨k,hk,h⟩:=Uy h
    obtain⟨m,hm,h⟩:=Uy h
    obtain⟨hkm,h⟩:=YO h
    obtain⟨hml,h⟩:=YO h
    refine⟨_,h,.ev fun L _=>?_⟩
    have h1:=Qj L hx
    simp only[BV.er]at h1 ⊢
    have:=OpOK.sliceP (P:=P) (o:=o) (k:=k) (m:=m) ho (Qz he) hz h1 (Qft hk L) (Qft hm L) hkm (by rw[List.length_map];exact hml)
    simp_all
   ·simp at h
  ·simp at h
 ·rename_i n u e hx he
  split at h
  ·rename_i t l q es hc hz
   split at h
   ·rename_i hb
    simp only[bae]at hb
    have:=nbe hb.1;subst this
    have hlen:∀{L:Lens},Inv L hs→L n u=l.length:=fun hL=>by rw[nbe hb.2];exact hL n t l q hc
    split at h
    ·rename_i lo
     obtain⟨k,hk,h⟩:=Uy h
     obtain⟨hkl,h⟩:=YO h
     refine⟨_,h,.val (hp1 hc) fun L hL=>?_⟩
     have h1:=Qj L hx
     simp only[BV.er]at h1 ⊢
     exact OpOK.sliceView ho (Qz he) hz h1 (Qft hk L) (by simp[optB,hlen hL]) (WD hL hc hb.2) hkl (by rw[List.length_map];exact Nat.le_refl _)
    ·rename_i hi
     obtain⟨m,hm,h⟩:=Uy h
     obtain⟨hml,h⟩:=YO h
     refine⟨_,h,.val (hp1 hc) fun L hL=>?_⟩
     have h1:=Qj L hx
     simp only[BV.er]at h1 ⊢
     exact OpOK.sliceView ho (Qz he) hz h1 (by simp[optB]) (Qft hm L) (WD hL hc hb.2) (Nat.zero_le _) (by rw[List.length_map];exact hml)
    ·simp at h
   ·simp at h
  ·simp at h
 ·rename_i n u a b e hx he
  split at h
  ·rename_i t l q es hc hz
   split at h
   ·rename_i hb
    simp only[bae]at hb
    have:=nbe hb.1;subst this
    split at h
    ·rename_i lo
     obtain⟨k,hk,h⟩:=Uy h
     obtain⟨hkl,h⟩:=Qf9 h
     refine⟨_,h,.val (hp1 hc) fun L hL=>?_⟩
     have h1:=Qj L hx
     simp only[BV.er]at h1 ⊢
     exact OpOK.sliceView2 ho (Qz he) hz h1 (Qft hk L) (by simp[optB]) (WD hL hc hb.2) (Nat.le_of_lt hkl) (Nat.le_refl _) (.inr (.inr hkl))
    ·rename_i hi
     obtain⟨m,hm,h⟩:=Uy h
     obtain⟨hml,h⟩:=YO h
     refine⟨_,h,.val (hp1 hc) fun L hL=>?_⟩
     have h1:=Qj L hx
     simp only[BV.er]at h1 ⊢
     exact OpOK.sliceView2 (k:=0) ho (Qz he) hz h1 (by simp[optB]) (Qft hm L) (WD hL hc hb.2) (Nat.zero_le _) hml (.inr (.inl rfl))
    ·simp at h
   ·simp at h
  ·simp at h
 ·simp at h
theorem Qvk{T:TypeId}{cs:List BV}(h:QrQ P T=some cs)(hp:cs.all BV.isP=true):Qa0 P T=some (pvL cs):=by
 unfold Qa0
 rw[Qim (fun _ _=>0) h]
 simp only
 exact Qmb _ hp
theorem Qsi{T:TypeId}{x:Operand}{ats:Array TypeId}(ho:o.op=.call { callee:=.builtin .clear,args:=#[x],argTypes:=ats })(hat:ats[0]?=some T)(h:Qsh P rd hs K T x=some r):Does P o rd hs K r:=by
 unfold Qsh at h
 split at h
 case h_2=>simp at h
 rename_i n u i hi e hx he
 split at h
 case h_2=>simp at h
 rename_i t l q es zs hc hz hzs
 split at h
 case isFalse=>simp at h
 rename_i hb
 simp only[bae]at hb
 have:=nbe hb.1.1.1;subst this
 obtain⟨hih,h⟩:=YO h
 obtain⟨hil,h⟩:=YO h
 obtain⟨z,rest,hle,h⟩:=Qck t h
 split at h
 case h_2=>simp at h
 refine⟨_,h,.wrArrV hc (by simp;omega) fun L hL=>?_⟩
 have h1:=Qj L hx
 have hlen:L n u=l.length:=by rw[nbe hb.2];exact hL n t l q hc
 simp only[BV.er,erL]at h1 ⊢
 have hcs:=Qlj hle hb.1.2
 refine OpOK.arrLe (OpOK.clearView (P:=P) (rows:=l.map (tcells t)) (i:=i) (m:=hi) ho hat (Qz he) hz (Qvk hzs hb.1.2) (by rw[QbZ];exact nbe hb.1.1.2) h1 (WD hL hc hb.2) hih (by rw[List.length_map];exact hil) rfl) ?_
 rw[List.map_append,List.map_append,List.map_take,List.map_drop,List.map_replicate]
 refine YZ.append (YZ.append (YZ.refl _) (YZ.nth (by simp) fun j a b ha hb=>?_)) (YZ.refl _)
 grind
theorem Quz{T:TypeId}{x y:Operand}(ho:o.op=.call { callee:=.builtin .copy,args:=#[x,y],argTypes:=#[T,T] })(h:Qws P rd hs K T x y=some r):Does P o rd hs K r:=by
 unfold Qws at h
 split at h
 case h_2=>simp at h
 rename_i n u i hi m v j hj e hx hy he
 split at h
 case h_2=>simp at h
 rename_i t l q es hc hz
 split at h
 case isFalse=>simp at h
 rename_i hb
 simp only[bae]at hb
 have:=nbe hb.1.1.1;subst this
 have:=nbe hb.1.2;subst this
 replace h:=QfS h
 obtain⟨e1,h⟩:=h
 subst e1
 replace h:=QfS h
 obtain⟨e2,h⟩:=h
 subst e2
 obtain⟨hil,h⟩:=YO h
 obtain⟨hji,h⟩:=YO h
 have huv:v=u:=by rw[nbe hb.1.1.2,nbe hb.2]
 subst huv
 refine⟨_,h,.wrArrV hc (by simp;omega) fun L hL=>?_⟩
 have h1:=Qj L hx
 have h2:=Qj L hy
 have hlen:L n v=l.length:=by rw[nbe hb.2];exact hL n t l q hc
 simp only[BV.er]at h1 h2 ⊢
 exact OpOK.copyView (rows:=l.map (tcells t)) ho rfl (Qz he) hz (by rw[h1,hlen]) (by rw[h2,hlen]) (WD hL hc hb.2) (by rw[List.length_map];exact hil) hji (by rw[List.map_append,List.map_take,List.map_take,List.map_drop,List.length_map]) (by rw[List.length_map])
theorem Qqk{T:TypeId}(h:isK P T=true):∃K E,P.underlying T=some (.map K E)∧P.underlying K=some .string∧QrR P E=some (.bool false):=by
 unfold isK at h
 grind
theorem QnR(k:ByteArray):∀es:List (ByteArray×Bool),(QhM k (es.map fun p=>(p.1,Value.bool p.2))).getD (.bool false)=.bool (memB k es)
 |[]=>rfl
 |p::r=>by
  simp only[List.map_cons,QhM,memB]
  split
  ·rfl
  ·exact QnR k r
theorem Qnj(k:ByteArray):∀es:List (ByteArray×Bool),cntB k es=0→QhM k (es.map fun p=>(p.1,Value.bool p.2))=none
 |[],_=>rfl
 |p::r,h=>by
  simp only[cntB]at h
  simp only[List.map_cons,QhM]
  split at h
  ·omega
  ·rename_i e;rw[if_neg e];exact Qnj k r h
theorem Inv.sm{L:Lens}{n:Name}{es:List (ByteArray×Bool)}(hL:Inv L hs):Inv L ((n,.sm es)::hs):=fun m t l u hm=>by
 simp only[look]at hm
 split at hm
 ·cases hm
 ·exact hL m t l u hm
theorem Qo5{T:TypeId}(ho:o.op=.makeMap T none)(h:Qls P K o.dst T=some r):Does P o rd hs K r:=by
 unfold Qls at h
 split at h
 ·rename_i d hd
  split at h
  ·refine⟨_,h,fun _ _ h=>by simp at h,fun L hL=>⟨L,fun _ _ _ _=>rfl,Inv.sm hL,?_⟩⟩
   have:=OpOK.makeMap (P:=P) (o:=o) (rd:=erT L rd) (n:=1000+d) ho
   simpa only[BV.er,erH,List.map_cons,List.map_nil,BO.er]using this
  ·simp at h
 ·simp at h
theorem QqY{T:TypeId}{x y:Operand}(ho:o.op=.lookup T x y false)(h:Qo4 P rd hs K T x y=some r):Does P o rd hs K r:=by
 unfold Qo4 at h
 split at h
 ·rename_i n k hx hy
  split at h
  ·rename_i es hc
   split at h
   ·rename_i hk
    obtain⟨Kt,E,h1,h2,h3⟩:=Qqk hk
    refine⟨_,h,.val (hp1 hc) fun L hL=>?_⟩
    have k1:=Qj L hx
    have k2:=Qj L hy
    simp only[BV.er]at k1 k2 ⊢
    exact OpOK.lookup ho h1 h2 h3 k1 k2 (QnR k es) rfl
   ·simp at h
  ·simp at h
 ·simp at h
theorem QuD{T:TypeId}{x y z:Operand}(ho:o.op=.mapUpdate T x y z)(h:QwA P rd hs K o.dst T x y z=some r):Does P o rd hs K r:=by
 unfold QwA at h
 split at h
 ·rename_i n k v hd hx hy hz
  split at h
  ·rename_i es hc
   split at h
   ·rename_i hk
    obtain⟨Kt,E,h1,h2,h3⟩:=Qqk hk
    obtain⟨h0,h⟩:=QfS h
    refine⟨_,h,hp1 hc,fun L hL=>⟨L,fun _ _ _ _=>rfl,Inv.sm hL,?_⟩⟩
    have k1:=Qj L hx
    have k2:=Qj L hy
    have k3:=Qj L hz
    simp only[BV.er]at k1 k2 k3 ⊢
    have:=OpOK.putS (P:=P) (o:=o) (rd:=erT L rd) hd (.inl ho) h1 h2 k1 k2 k3 (Qnj k es h0) (by rw[show es.map (fun p=>(p.1,Value.bool p.2))++[(k,Value.bool v)]=(es++[(k,v)]).map fun p=>(p.1,Value.bool p.2)from by simp])
    simpa only[erH,List.map_cons,List.map_nil,BO.er]using this
   ·simp at h
  ·simp at h
 ·simp at h
theorem QuO{x:BV}(h:QwR x=true)(L:Lens):QeW (x.er L)=true:=by
 cases x<;>simp only[QwR,BV.er,QeW,Bool.false_eq_true]at h ⊢
theorem QuA{fn:Fn}{first caps:Array Operand}(ho:o.op=.makeFunc fn first caps)(h:Qwt rd K fn first caps=some r):Does P o rd hs K r:=by
 unfold Qwt at h
 split at h
 ·rename_i cs hf hcs
  split at h
  ·rename_i hall
   refine⟨_,h,.ev fun L _=>?_⟩
   simp only[BV.er]
   refine OpOK.makeFunc ho (by rw[hf];rfl) (Qdu L hcs) rfl ?_
   rw[Vz,List.all_map]
   exact List.all_eq_true.2 fun c hc=>QuO (List.all_eq_true.1 hall c hc) L
  ·simp at h
 ·simp at h
theorem Qg6{c:Int}:∀{cs:List BV} {i:Nat} {k:Nat→BV→Option R},Qrq c cs i k=some r→∃j v,cs[j]?=some v∧c=((i+j:Nat):Int)∧k (i+j) v=some r
 |[],i,k,h=>by simp[Qrq]at h
 |v::q,i,k,h=>by
  simp only[Qrq]at h
  rcases QfT h with⟨e,h⟩|⟨e,h⟩
  ·exact⟨0,v,rfl,by simpa using e,h⟩
  ·obtain⟨j,v',h1,h2,h3⟩:=Qg6 h
   exact⟨j+1,v',by simpa using h1,by rw[h2];congr 1;omega,by rw[show i+(j+1)=i+1+j by omega];exact h3⟩
theorem QqX{T:TypeId}{x y:Operand}(ho:o.op=.index T x y)(h:Qo3 P rd K T x y=some r):Does P o rd hs K r:=by
 unfold Qo3 at h
 split at h
 ·rename_i cs k j len e hx hy hT
  split at h
  ·rename_i hb
   simp only[bae]at hb
   have:=QcY hb.1.1;subst this
   split at h
   ·rename_i hz
    obtain⟨i,v,h1,h2,h⟩:=Qg6 h
    refine⟨_,h,.ev fun L _=>?_⟩
    have k1:=Qj L hx
    have k2:=Qj L hy
    simp only[BV.er,h2,Nat.zero_add]at k1 k2
    have hi:=(List.getElem?_eq_some_iff.1 h1).1
    exact OpOK.indexV ho hT hz hb.1.2 k1 k2 (by rw[nbe hb.2];exact hi) (by rw[QgN,h1];rfl)
   ·simp at h
  ·simp at h
 ·simp at h
theorem Qm6{T:TypeId}{x y:Operand}(ho:o.op=.indexAddr T x y)(h:Qiz P rd hs K T x y=some r):Does P o rd hs K r:=by
 unfold Qiz at h
 split at h
 ·rename_i n k k' j len e hx hy hT
  split at h
  ·rename_i cells es hc hz
   obtain⟨i,v,h1,h2,h⟩:=Qg6 h
   refine⟨_,h,.val (hp1 hc) fun L _=>?_⟩
   have k1:=Qj L hx
   simp only[BV.er]at k1 ⊢
   rw[Nat.zero_add]at h2
   have hi:=(List.getElem?_eq_some_iff.1 h1).1
   rw[List.length_replicate]at hi
   exact OpOK.indexArr ho hT hz k1 (Zh L hy) h2 hi (by rw[Nat.zero_add])
  ·simp at h
 ·simp at h
theorem QlO(L:Lens):∀{cs:List BV} {l:List Int},Qph cs=some l→erL L cs=l.map fun a=>.p (.v (.int .i64 a))
 |[],l,h=>by simp only[Qph,Option.some.injEq]at h;subst h;simp only[erL,List.map_nil]
 |c::r,l,h=>by
  cases c with
  |n k x=>
   simp only[Qph]at h
   split at h
   ·rename_i hk
    have:=QcY hk;subst this
    split at h
    ·rename_i l' hl;cases h;simp only[erL,BV.er,List.map_cons,QlO L hl]
    ·simp at h
   ·simp at h
  |_=>simp[Qph]at h
theorem Qwy{op:BinOp}{T T':TypeId}{x:Operand}{v:BV}(ho:o.op=.binOp op T x (.const (.slice none 0 0)) T')(hx:ZM rd x=some v)(h:bNil P K op T v=some r):Does P o rd hs K r:=by
 unfold bNil at h
 split at h
 ·rename_i q e f t l hq he
  rcases Qtk h with⟨_,h⟩|⟨hl,h⟩
  ·refine⟨_,h,.ev fun L _=>?_⟩
   have h1:=Qj L hx
   simp only[BV.er]at h1 ⊢
   exact OpOK.eqNilU ho hq (Qz he) h1
  ·refine⟨_,h,.ev fun L _=>?_⟩
   have h1:=Qj L hx
   simp only[BV.er]at h1 ⊢
   exact OpOK.eqNilN ho hq (Qz he) h1 (by simpa using hl)
 ·rename_i q e hq he
  refine⟨_,h,.ev fun L _=>?_⟩
  have h1:=Qj L hx
  simp only[BV.er]at h1 ⊢
  exact OpOK.eqNilU ho hq (Qz he) h1
 ·simp at h
theorem Qux{op:BinOp}{T T':TypeId}{x y:Operand}(ho:o.op=.binOp op T x y T')(h:Qwo P rd K op T x y=some r):Does P o rd hs K r:=by
 unfold Qwo at h
 split at h
 ·rename_i a b hx hy
  unfold bCmp at h
  split at h
  ·rename_i p q hp hq
   split at h
   ·rename_i hb
    simp only[bae]at hb
    have k1:∀L,Ql (erT L rd) x=some (.agg (p.map fun a=>.p (.v (.int .i64 a)))):=fun L=>by have:=Qj L hx;rw[this];simp only[BV.er,QlO L hp]
    have k2:∀L,Ql (erT L rd) y=some (.agg (q.map fun a=>.p (.v (.int .i64 a)))):=fun L=>by have:=Qj L hy;rw[this];simp only[BV.er,QlO L hq]
    split at h
    ·exact⟨_,h,.ev fun L _=>by simp only[BV.er];exact OpOK.eqlInts ho hb.1 hb.2 (k1 L) (k2 L) rfl⟩
    ·exact⟨_,h,.ev fun L _=>by simp only[BV.er];exact OpOK.neqInts ho hb.1 hb.2 (k1 L) (k2 L) rfl⟩
    ·simp at h
   ·simp at h
  ·simp at h
 ·rename_i v hx hy
  split at h
  ·rename_i hn
   unfold nilO at hn
   split at hn
   ·exact Qwy ho hx h
   ·simp at hn
  ·simp at h
 ·exact Qwp ho h
end
end
/-
  The typed layer, part H: one operation, with what goes ahead of it and what follows. No project text.
-/
section
open Go
variable {L L':Lens} {ts ts':TS} {hs hs':HS}
section
variable {R:Type} (P:Program) (ty:TypeId→Option TC) (rd:TS) (hs:HS) (K:BEff→Option R)
def bMax(x y:Operand):Option R:=match ZM rd x,ZM rd y with
 |some (.n k a),some (.n k' b)=>if kEq .i64 k && kEq .i64 k' then K (ev (.n .i64 (max a b)))else none
 |_,_=>none
def bMin(x y:Operand):Option R:=match ZM rd x,ZM rd y with
 |some (.n k a),some (.n k' b)=>if kEq .i64 k && kEq .i64 k' then K (ev (.n .i64 (min a b)))else none
 |_,_=>none
def Qsf(d:Option Nat)(c:Call):Option R:=match c.callee,c.args.toList,c.argTypes.toList with
 |.builtin .len,[x],[T]=>bLen P rd hs K T x
 |.builtin .append,[x,y],[T,T']=>if Nat.beq T T' then Qo0 P ty rd hs K d T x y else none
 |.builtin .max,[x,y],_=>bMax rd K x y
 |.builtin .min,[x,y],_=>bMin rd K x y
 |.builtin .clear,[x],[T]=>Qsh P rd hs K T x
 |.builtin .copy,[x,y],[T,T']=>if Nat.beq T T' then Qws P rd hs K T x y else none
 |_,_,_=>none
def QwU:List (Nat×Operand)→Bool
 |[(_,.const (.int .i64 (.ofNat 0)))]=>true
 |_=>false
def Qiy(d:Option Nat)(T:TypeId)(len:Nat)(parts:Array (Nat×Operand)):Option R:=match d,Vr P T with
 |some d,some e=>match ty e,Zv P e,Qa0 P e with
  |some t,some es,some zr=>if Nat.beq es (tz t) && Nat.ble 1 es && Nat.beq zr.length es && Nat.ble (len*es) 16777216 then QrF rd t parts.toList 0 len fun l=>K ⟨[],.own (1000+d) 0,[(1000+d,.arr t l 0)],[1000+d],[]⟩else none
  |_,_,_=>none
 |_,_=>none
def bop(o:Oper):Option R:=match o.op with
 |.move x=>bVal rd K x
 |.assign x=>bVal rd K x
 |.pick c x y=>Qwz rd K c x y
 |.alloc T=>Qsb P K o.dst T
 |.box _ x=>bBox rd K o.dst x
 |.build T parts=>Qsd P rd K T parts
 |.buildSlice T len parts=>if QwU parts.toList then Qiy P ty rd K o.dst T len parts else Qfb P ty rd K T len parts
 |.load T x=>Qwv P rd hs K T x
 |.store T x y=>Qsn P rd hs K o.dst T x y
 |.fieldAddr S x i=>QgI P rd hs K S x i
 |.nilCheck x=>QiA rd hs K x
 |.binOp op T x y _=>Qwo P rd K op T x y
 |.unOp op _ x=>bUn rd K op x
 |.field T x i=>Qsj P rd K T x i
 |.extract x i=>Qlp rd K x i
 |.indexAddr T x y=>match P.underlying T with
  |some (.array _ _)=>Qiz P rd hs K T x y
  |_=>QgJ P rd hs K T x y
 |.index T x y=>match P.underlying T with
  |some (.array _ _)=>Qo3 P rd K T x y
  |_=>Qo2 P rd K T x y
 |.convert S T x=>Qwr P rd K S T x
 |.slice T x lo hi mx=>Qsl P rd hs K T x lo hi mx
 |.makeFunc fn first caps=>Qwt rd K fn first caps
 |.makeMap T none=>Qls P K o.dst T
 |.lookup T x y false=>Qo4 P rd hs K T x y
 |.mapUpdate T x y z=>QwA P rd hs K o.dst T x y z
 |.call c=>Qsf P ty rd hs K o.dst c
 |_=>none
end
section
variable {R:Type} {P:Program} {ty:TypeId→Option TC} {rd:TS} {K:BEff→Option R} {r:R} {o:Oper}
theorem QjW{t0:TC}{y:BV}{K:List (TT t0)→Option R}(h:srcB t0 y K=some r):∃f l,y=.ts f t0 l∧K l=some r:=by
 unfold srcB at h
 split at h
 ·split at h
  ·rename_i he;subst he;exact⟨_,_,rfl,h⟩
  ·simp at h
 ·simp at h
theorem Qm5{T:TypeId}{len:Nat}{parts:Array (Nat×Operand)}(ho:o.op=.buildSlice T len parts)(h:Qiy P ty rd K o.dst T len parts=some r):Does P o rd hs K r:=by
 unfold Qiy at h
 split at h
 ·rename_i d e hd he
  split at h
  ·rename_i t es zr h0 h1 h2
   split at h
   ·rename_i hb
    simp only[bae]at hb
    obtain⟨l,g1,g2,g3⟩:=Qhd h
    have hes:=nbe hb.1.1.1
    subst hes
    refine⟨_,g1,.new (fun L m u=>if m=1000+d then l.length else L m u) (fun L m u hm=>if_neg hm) (fun L _ t' l2 u hl=>by cases hl;exact if_pos rfl) fun L hL=>?_⟩
    obtain⟨rows,k1,k2⟩:=g3 L [] (List.replicate len zr) rfl (by rw[List.length_replicate];omega)
    simp only[List.nil_append]at k1
    simp only[BV.er,BO.er,if_true]
    have hl:rows.length=l.length:=by have:=k2.length;rwa [List.length_map]at this
    exact(OpOK.buildOwn ho he h1 hb.1.1.2 h2 (nbe hb.1.2) hb.2 k1 hl).arrLe k2
   ·simp at h
  ·simp at h
 ·simp at h
theorem QqV{T:TypeId}{x y:Operand}(ho:o.op=.call { callee:=.builtin .append,args:=#[x,y],argTypes:=#[T,T] })(h:Qo0 P ty rd hs K o.dst T x y=some r):Does P o rd hs K r:=by
 have hlim:∀{a b bytes:Nat},a+b≤34359738368→Nat.ble bytes 4096=true→(a+b)*bytes≤140737488355328∧a+b≤140737488355328:=fun{a b bytes} h1 h2=>by
  have:=Nat.mul_le_mul h1 (Nat.le_of_ble_eq_true h2)
  exact⟨by omega,by omega⟩
 unfold Qo0 at h
 split at h
 ·rename_i n u v e hx hy he
  split at h
  ·rename_i t l q es bytes hc hz hby
   split at h
   ·rename_i hb
    simp only[bae]at hb
    have:=nbe hb.1.1.1;subst this
    have hq:=hb.2
    have hb:=hb.1
    obtain⟨f,l',hv,h0⟩:=QjW h
    subst hv;clear h
    obtain⟨hle,h⟩:=YO h0
    refine⟨_,h,hp1 hc,fun L hL=>?_⟩
    let L':Lens:=fun m u=>if m=n∧u=q+1 then(l++l').length else L m u
    have hn:L' n (q+1)=(l++l').length:=if_pos ⟨rfl,rfl⟩
    refine⟨L',fun m u _ hm=>if_neg (by simpa using hm),fun m t2 l2 u2 hm=>?_,?_⟩
    ·simp only[List.cons_append,List.nil_append,look]at hm
     split at hm
     ·rename_i e;subst e;cases hm;exact hn
     ·rename_i e;show(if m=n∧u2=q+1 then _ else L m u2)=_;rw[if_neg (fun h=>e h.1.symm)];exact hL m t2 l2 u2 hm
    ·have h1:=Qj L hx
     have h2:=Qj L hy
     simp only[BV.er]at h1 h2 ⊢
     rw[hn]
     have hlm:(l.map (tcells t)).length+(l'.map (tcells t)).length≤34359738368:=by simpa using hle
     exact OpOK.appendOwn ho rfl he hb.1.2 h1 (WD hL hc hq) h2 (by rw[←List.map_append]) (by rw[List.length_map]) (hlim hlm hb.2).1 (hlim hlm hb.2).2
   ·simp at h
  ·simp at h
 ·rename_i v e hx hy he
  split at h
  ·rename_i d t es bytes hd hty hz hby
   split at h
   ·rename_i hb
    simp only[bae]at hb
    have:=nbe hb.1.1.1;subst this
    obtain⟨f,l',hv,h0⟩:=QjW h
    subst hv;clear h
    obtain⟨hle,h⟩:=YO h0
    refine⟨_,h,.new (fun L m u=>if m=1000+d then l'.length else L m u) (fun L m u hm=>if_neg hm) (fun L _ t' l2 u hl=>by cases hl;exact if_pos rfl) fun L hL=>?_⟩
    have h1:=Qj L hx
    have h2:=Qj L hy
    simp only[BV.er,BO.er,if_true]at h1 h2 ⊢
    have hlm:([]:List (List PV)).length+(l'.map (tcells t)).length≤34359738368:=by simpa using hle
    exact OpOK.appendNew ho rfl he hb.1.1.2 hb.2 h1 h2 (List.nil_append _) (by rw[List.length_map]) (.inl rfl) (hlim hlm hb.1.2).1 (hlim hlm hb.1.2).2
   ·simp at h
  ·simp at h
 ·rename_i t l v e hx hy he
  split at h
  ·rename_i d es bytes hd hz hby
   split at h
   ·rename_i hb
    simp only[bae]at hb
    have:=nbe hb.1.1.1;subst this
    obtain⟨f,l',hv,h0⟩:=QjW h
    subst hv;clear h
    split at h0
    ·obtain⟨hle,h⟩:=YO h0
     refine⟨_,h,.new (fun L m u=>if m=1000+d then l'.length else L m u) (fun L m u hm=>if_neg hm) (fun L _ t' l2 u hl=>by cases hl;exact if_pos rfl) fun L hL=>?_⟩
     have h1:=Qj L hx
     have h2:=Qj L hy
     simp only[BV.er,BO.er,if_true,List.map_nil]at h1 h2 ⊢
     have hlm:([]:List (List PV)).length+(l'.map (tcells t)).length≤34359738368:=by simpa using hle
     exact OpOK.appendNew ho rfl he hb.1.1.2 hb.2 h1 h2 (List.nil_append _) (by rw[List.length_map]) (.inl rfl) (hlim hlm hb.1.2).1 (hlim hlm hb.1.2).2
    ·rename_i y0 q0
     split at h0
     ·simp at h0
     ·rename_i z q
      obtain⟨hle,h⟩:=YO h0
      refine⟨_,h,.new (fun L m u=>if m=1000+d then(y0::q0++z::q).length else L m u) (fun L m u hm=>if_neg hm) (fun L _ t' l2 u hl=>by cases hl;exact if_pos rfl) fun L hL=>?_⟩
      have h1:=Qj L hx
      have h2:=Qj L hy
      simp only[BV.er,BO.er,if_true]at h1 h2 ⊢
      have hlm:((y0::q0).map (tcells t)).length+((z::q).map (tcells t)).length≤34359738368:=by simpa using hle
      exact OpOK.appendNew ho rfl he hb.1.1.2 hb.2 h1 h2 (by rw[←List.map_append]) (by rw[List.length_map]) (.inr ⟨by simp,rfl⟩) (hlim hlm hb.1.2).1 (hlim hlm hb.1.2).2
   ·simp at h
  ·simp at h
 ·simp at h
theorem Quy{S T:TypeId}{x:Operand}(ho:o.op=.convert S T x)(h:Qwr P rd K S T x=some r):Does P o rd hs K r:=by
 unfold Qwr at h
 split at h
 ·rename_i k a k' hx hT
  split at h
  ·rename_i hS
   refine⟨_,h,.ev fun L _=>?_⟩
   simp only[BV.er];exact OpOK.convI ho hS hT (Zh L hx) rfl
  ·simp at h
 ·simp at h
theorem QqW{T:TypeId}{x y:Operand}(ho:o.op=.index T x y)(h:Qo2 P rd K T x y=some r):Does P o rd hs K r:=by
 unfold Qo2 at h
 split at h
 ·rename_i t k j hx hy hT
  obtain⟨i,hj,h⟩:=QaO h
  obtain⟨hlt,h⟩:=Qf9 h
  refine⟨_,h,.ev fun L _=>?_⟩
  simp only[BV.er];exact OpOK.indexS ho hT (Qdt L hx) (Zh L hy) hj hlt
 ·simp at h
theorem Qww{x y:Operand}{ats:Array TypeId}(ho:o.op=.call { callee:=.builtin .max,args:=#[x,y],argTypes:=ats })(h:bMax rd K x y=some r):Does P o rd hs K r:=by
 unfold bMax at h
 split at h
 ·rename_i k a k' b hx hy
  split at h
  case isFalse=>simp at h
  rename_i hk
  simp only[bae]at hk
  have h1:=QcY hk.1;subst h1
  have h2:=QcY hk.2;subst h2
  refine⟨_,h,.ev fun L _=>?_⟩
  simp only[BV.er];exact OpOK.maxI ho (Zh L hx) (Zh L hy) rfl
 ·simp at h
theorem Qwx{x y:Operand}{ats:Array TypeId}(ho:o.op=.call { callee:=.builtin .min,args:=#[x,y],argTypes:=ats })(h:bMin rd K x y=some r):Does P o rd hs K r:=by
 unfold bMin at h
 split at h
 ·rename_i k a k' b hx hy
  split at h
  case isFalse=>simp at h
  rename_i hk
  simp only[bae]at hk
  have h1:=QcY hk.1;subst h1
  have h2:=QcY hk.2;subst h2
  refine⟨_,h,.ev fun L _=>?_⟩
  simp only[BV.er];exact OpOK.minI ho (Zh L hx) (Zh L hy) rfl
 ·simp at h
theorem Qsg{c:Call}(ho:o.op=.call c)(h:Qsf P ty rd hs K o.dst c=some r):Does P o rd hs K r:=by
 obtain⟨callee,args,ats⟩:=c
 obtain⟨args⟩:=args
 obtain⟨ats⟩:=ats
 unfold Qsf at h
 split at h
 ·rename_i x T h1 h2 h3
  simp only at h1 h2 h3
  subst h1;subst h2;subst h3
  exact Qwu ho rfl h
 ·rename_i x y T T' h1 h2 h3
  simp only at h1 h2 h3
  subst h1;subst h2;subst h3
  split at h
  ·rename_i hT
   have:=nbe hT;subst this
   exact QqV ho h
  ·simp at h
 ·rename_i x y h1 h2
  simp only at h1 h2
  subst h1;subst h2
  exact Qww ho h
 ·rename_i x y h1 h2
  simp only at h1 h2
  subst h1;subst h2
  exact Qwx ho h
 ·rename_i x T h1 h2 h3
  simp only at h1 h2 h3
  subst h1;subst h2;subst h3
  exact Qsi ho rfl h
 ·rename_i x y T T' h1 h2 h3
  simp only at h1 h2 h3
  subst h1;subst h2;subst h3
  split at h
  ·rename_i hT
   have:=nbe hT;subst this
   exact Quz ho h
  ·simp at h
 ·simp at h
theorem QxW(h:bop P ty rd hs K o=some r):Does P o rd hs K r:=by
 unfold bop at h
 split at h
 ·rename_i ho;exact Qsp (.inl ho) h
 ·rename_i ho;exact Qsp (.inr ho) h
 ·rename_i ho;exact QuC ho h
 ·rename_i ho;exact Qsc ho h
 ·rename_i ho;exact Qwq ho h
 ·rename_i ho;exact Qse ho h
 ·rename_i ho
  split at h
  ·exact Qm5 ho h
  ·exact Qka ho h
 ·rename_i ho;exact QuB ho h
 ·rename_i ho;exact Qso ho h
 ·rename_i ho;exact Qlq ho h
 ·rename_i ho;exact Qm7 ho h
 ·rename_i ho;exact Qux ho h
 ·rename_i ho;exact QxT ho h
 ·rename_i ho;exact Qsk ho h
 ·rename_i ho;exact Qo1 ho h
 ·rename_i ho
  split at h
  ·exact Qm6 ho h
  ·exact Qlr ho h
 ·rename_i ho
  split at h
  ·exact QqX ho h
  ·exact QqW ho h
 ·rename_i ho;exact Quy ho h
 ·rename_i ho;exact Qsm ho h
 ·rename_i ho;exact QuA ho h
 ·rename_i ho;exact Qo5 ho h
 ·rename_i ho;exact QqY ho h
 ·rename_i ho;exact QuD ho h
 ·rename_i ho;exact Qsg ho h
 ·simp at h
end
end
/-
  The typed layer, part I: the state behind an operation. No project text.
-/
section
variable {L L':Lens} {ts ts':TS} {hs hs':HS}
section
variable {R:Type}
def Qvb(nw:List Name)(upd:HS)(ts:TS)(hs:HS):Bool:=nw.all fun n=>(look n hs).isNone && Qdv n ts hs && (keys upd).contains n
def Qyq(nv:List (Name×Nat))(ts:TS)(hs:HS):Bool:=nv.all fun p=>novS p.1 p.2 ts hs
def putB(d:Option Nat)(v:BV)(ts:TS):TS:=match d with
 |some d=>(d,v)::ts
 |none=>ts
def goE1(nn:Nat)(d:Option Nat)(ts:TS)(hs:HS)(K:BEff→TS→HS→Option R)(e:BEff):Option R:=
 if Qvb e.nw e.upd ts hs && Qa4 nn d && Qyq e.nv ts hs then K e (putB d e.v ts) (e.upd++hs)else none
def goE(sp:Bool)(nn:Nat)(d:Option Nat)(ts:TS)(hs:HS)(K:BEff→TS→HS→Option R)(e:BEff):Option R:=match e with
 |⟨hp,.b q,upd,nw,nv⟩=>match sp with
  |true=>cnd q (goE1 nn d ts hs K ⟨hp,.b true,upd,nw,nv⟩) (goE1 nn d ts hs K ⟨hp,.b false,upd,nw,nv⟩)
  |false=>goE1 nn d ts hs K ⟨hp,.b q,upd,nw,nv⟩
 |e=>goE1 nn d ts hs K e
variable {r:R} {P:Program} {o:Oper} {rd:TS}
theorem QuT{e:BEff}{L':Lens}(hrd:∀t v,(t,v)∈rd→look t ts=some v)(hhp:∀n ob,(n,ob)∈e.hp→look n hs=some ob)(hnw:Qvb e.nw e.upd ts hs=true):
  (BS L ts hs).holds ⟨erT L rd,erH L e.hp,e.v.er L',erH L' e.upd,e.nw⟩:=by
 refine⟨fun t x hx=>?_,fun n ob hn=>?_,fun n hn=>?_⟩
 ·simp only[erT,List.mem_map]at hx
  obtain⟨⟨t',v⟩,hm,he⟩:=hx
  cases he
  rw[XV,hrd _ v hm];rfl
 ·simp only[erH,List.mem_map]at hn
  obtain⟨⟨t',v⟩,hm,he⟩:=hn
  cases he
  rw[X7,hhp _ v hm];rfl
 ·have:=List.all_eq_true.1 hnw n hn
  simp only[bae,Option.isNone_iff_eq_none]at this
  refine⟨by rw[X7,this.1.1];rfl,QgT ?_⟩
  rw[Qef];exact this.1.2
structure Step (P:Program) (o:Oper) (rd:TS) (L:Lens) (ts:TS) (hs:HS) (e:BEff) (L':Lens):Prop where
 rds:∀t v,(t,v)∈rd→look t ts=some v
 hps:∀n ob,(n,ob)∈e.hp→look n hs=some ob
 new:Qvb e.nw e.upd ts hs=true
 inv:Inv L' (e.upd++hs)
 ets:erT L ts=erT L' ts
 ehs:erH L hs=erH L' hs
 ok:OpOK P o ⟨erT L rd,erH L e.hp,e.v.er L',erH L' e.upd,e.nw⟩
theorem Qf6{nn:Nat}{K:BEff→TS→HS→Option R}{e:BEff}(hg:Good P o rd hs e)(hrd:∀t v,(t,v)∈rd→look t ts=some v)(h:goE1 nn o.dst ts hs K e=some r)(hi:Inv L hs):
  ∃L',Step P o rd L ts hs e L'∧Qa4 nn o.dst=true∧K e (putB o.dst e.v ts) (e.upd++hs)=some r:=by
 unfold goE1 at h
 split at h
 ·rename_i hb
  simp only[bae]at hb
  obtain⟨hhp,hg⟩:=hg
  obtain⟨L',hL',hi',hop⟩:=hg L hi
  obtain⟨e1,e2⟩:=QfY (L:=L) (L':=L') (nw:=e.nw) (nv:=e.nv) (ts:=ts) (hs:=hs) (fun n hn=>by
   have:=List.all_eq_true.1 hb.1.1 n hn
   simp only[bae]at this
   exact this.1.2) (fun p hp=>List.all_eq_true.1 hb.2 p hp) hL'
  exact⟨L',⟨hrd,hhp,hb.1.1,hi',e1,e2,hop⟩,hb.1.2,h⟩
 ·simp at h
theorem Qqe{sp:Bool}{nn:Nat}{K:BEff→TS→HS→Option R}{e:BEff}(hg:Good P o rd hs e)(hrd:∀t v,(t,v)∈rd→look t ts=some v)(h:goE sp nn o.dst ts hs K e=some r)(hi:Inv L hs):
  ∃L',Step P o rd L ts hs e L'∧Qa4 nn o.dst=true∧K e (putB o.dst e.v ts) (e.upd++hs)=some r:=by
 unfold goE at h
 split at h
 ·split at h
  ·rcases QfT h with⟨rfl,h⟩|⟨rfl,h⟩
   ·exact Qf6 hg hrd h hi
   ·exact Qf6 hg hrd h hi
  ·exact Qf6 hg hrd h hi
 ·exact Qf6 hg hrd h hi
theorem QxO{d:Option Nat}{e:BEff}{L0:Lens}(h1:erT L ts=erT L' ts)(h2:erH L hs=erH L' hs):(BS L ts hs).run d ⟨erT L0 rd,erH L0 e.hp,e.v.er L',erH L' e.upd,e.nw⟩=BS L' (putB d e.v ts) (e.upd++hs):=by
 unfold BS
 rw[QnT,h1,h2,Qee]
 cases d<;>rfl
theorem Step.go{e:BEff}{nn:Nat}{Γ:Ctx}{ρ:Name→Loc}{M:Nat→Prop}{a:Act}{w:World}{KK:Act→World→Prop}{Q:Exit→Act→World→Prop}(hst:Step P o rd L ts hs e L')(hd:Qa4 nn o.dst=true)(hn:Γ.n=nn)(hs0:Sim Γ ρ M (BS L ts hs) a w)(hK:∀ρ' M' a' w',Sim Γ ρ' M' (BS L' (putB o.dst e.v ts) (e.upd++hs)) a' w'→KK a' w'):o.wp P a w KK Q:=by
 refine hst.ok Γ ρ M _ a w KK Q hs0 (QuT hst.rds hst.hps hst.new) (fun d hd'=>?_) (fun ρ' M' a' w' hs'=>hK ρ' M' a' w' ?_)
 ·rw[hd']at hd;simp only[Qa4]at hd;rw[hn];exact Nat.le_of_ble_eq_true hd
 ·rw[QxO hst.ets hst.ehs]at hs';exact hs'
end
end
/-
  The typed layer, part J: calls of functions, regions. No project text.
-/
open Go
variable {L L':Lens} {ts ts':TS} {hs hs':HS}
abbrev Env:=Option Nat→FuncId→List BV→Option Sig
def QmU(P:Program)(E:Env):Prop:=∀d k vs g,E d k vs=some g→FnOK P k g
def Qm2(hs:HS):BV→BV
 |.own m u=>match look m hs with
  |some (.arr _ l q)=>if Nat.beq u q then .view m u 0 l.length else .own m u
  |_=>.own m u
 |x=>x
def QxI(hs:HS):SSh→BV→BV
 |.one (.view _),v=>Qm2 hs v
 |_,v=>v
def QmN(hs:HS):List SSh→List BV→List BV
 |s::r,v::vs=>QxI hs s v::QmN hs r vs
 |_,vs=>vs
def QoO(t:Nat)(s:List (Nat×SSh)):Bool:=match look t s with
 |some (.one (.view _))=>true
 |_=>false
def QvH(hs:HS)(s:List (Nat×SSh))(ts:TS):TS:=ts.map fun p=>(p.1,match QoO p.1 s with|true=>Qm2 hs p.2|false=>p.2)
theorem QnL{g:Nat→BV→BV}(k:Nat):∀ts:TS,look k (ts.map fun p=>(p.1,g p.1 p.2))=(look k ts).map (g k)
 |[]=>rfl
 |(j,x)::r=>by
  simp only[List.map_cons,look]
  split
  ·rename_i e;subst e;rfl
  ·exact QnL k r
theorem Qm3{x:BV}(hi:Inv L hs):AVle (x.er L) ((Qm2 hs x).er L):=by
 cases x with
 |own m u=>
  simp only[Qm2]
  split
  ·rename_i t l q hl
   split
   ·rename_i e
    have:=nbe e;subst this
    simp only[BV.er,hi m t l u hl]
    exact .view m l.length
   ·exact .refl _
  ·exact .refl _
 |_=>exact .refl _
theorem QvG{s:SSh}{x:BV}(hi:Inv L hs):AVle (x.er L) ((QxI hs s x).er L):=by
 unfold QxI;split
 ·exact Qm3 hi
 ·exact .refl _
theorem QmO(hi:Inv L hs):∀{ss:List SSh} {vs:List BV},Xx (erL L vs) (erL L (QmN hs ss vs))
 |[],vs=>by simp only[QmN];exact Xx.refl _
 |s::r,[]=>by simp only[QmN];exact Xx.refl _
 |s::r,v::vs=>by simp only[QmN,erL];exact .cons (QvG hi) (QmO hi)
theorem QvI(hi:Inv L hs){s:List (Nat×SSh)}{ts:TS}{t:Nat}{y:BV}(h:look t (QvH hs s ts)=some y):∃x,look t ts=some x∧AVle (x.er L) (y.er L):=by
 unfold QvH at h
 rw[QnL (g:=fun t x=>match QoO t s with|true=>Qm2 hs x|false=>x)]at h
 cases hx:look t ts with
 |none=>rw[hx]at h;simp at h
 |some x=>
  rw[hx]at h
  simp only[Option.map_some,Option.some.injEq]at h
  refine⟨x,rfl,?_⟩
  rw[←h]
  split
  ·exact Qm3 hi
  ·exact .refl _
section
variable {R:Type}
def QuI(P:Program)(E:Env)(sp:Bool)(nn:Nat)(dst:Option Nat)(f:FuncId)(vs:List BV)(ts:TS)(hs:HS)(K:BEff→TS→HS→Option R):Option R:=
 match dst with
 |some d=>if callable P f then match E (some d) f vs with
  |some g=>SL.get g.args (QmN hs g.args vs) [] fun σ x=>OL.get g.pre hs σ fun σ y=>g.F R x y fun a b=>
    if Qst g (σ++Qct d g) d hs y a b then goE sp nn dst ts hs K (Qfc g (σ++Qct d g) d hs y a b)else none
  |none=>none
  else none
 |none=>none
variable {r:R} {P:Program} {o:Oper} {rd:TS} {E:Env}
theorem Qei{u:Nat}{l:List (Name×OSh)}{y:OL l}{n:Name}:n∈keys l→∃b,look n (OL.put u l y)=some b:=by
 induction l with
 |nil=>intro h;simp[keys]at h
 |cons p l ih=>
  intro h
  simp only[keys,List.map_cons,List.mem_cons]at h
  simp only[OL.put,look]
  split
  ·exact⟨_,rfl⟩
  ·rename_i hne
   rcases h with h|h
   ·exact absurd h.symm hne
   ·exact ih h
theorem QlP{u:Nat}{l:List (Name×OSh)}{y:OL l}:keys (OL.put u l y)=keys l:=by
 induction l with
 |nil=>rfl
 |cons p l ih=>simp only[OL.put,keys,List.map_cons]at ih ⊢;rw[ih]
theorem Qiw{u v:Nat}{l:List (Name×OSh)}{y:OL l}{n:Name}{t:TC}{x:List (TT t)}:look n (OL.put u l y)=some (.arr t x v)→n∈X2 l∧v=u∨n∈QaX l∧v=0:=by
 induction l with
 |nil=>intro h;simp[OL.put,look]at h
 |cons p l ih=>
  intro h
  obtain⟨k,o⟩:=p
  simp only[OL.put,look]at h
  split at h
  ·rename_i e
   cases o with
   |box l=>simp[OSh.put]at h
   |boxst t=>simp[OSh.put]at h
   |sm=>simp[OSh.put]at h
   |arr t=>subst e;simp only[OSh.put,Option.some.injEq]at h;cases h;exact .inl ⟨by simp[X2],rfl⟩
   |arrs t=>subst e;simp only[OSh.put,Option.some.injEq]at h;cases h;exact .inr ⟨by simp[QaX],rfl⟩
  ·rcases ih h with ih|ih
   ·refine .inl ⟨?_,ih.2⟩
    cases o<;>simp only[X2]<;>first|exact ih.1|exact List.mem_cons_of_mem _ ih.1
   ·refine .inr ⟨?_,ih.2⟩
    cases o<;>simp only[QaX]<;>first|exact ih.1|exact List.mem_cons_of_mem _ ih.1
theorem QaD:∀{l:List (Name×OSh)} {n:Name},n∈X2 l→n∈keys l
 |[],n,h=>by simp[X2]at h
 |(k,.arr t)::r,n,h=>by
  simp only[X2,List.mem_cons]at h
  simp only[keys,List.map_cons,List.mem_cons]
  exact h.imp id (fun h=>QaD h)
 |(k,.arrs t)::r,n,h=>by simp only[X2]at h;simp only[keys,List.map_cons,List.mem_cons];exact .inr (QaD h)
 |(k,.box t)::r,n,h=>by simp only[X2]at h;simp only[keys,List.map_cons,List.mem_cons];exact .inr (QaD h)
 |(k,.boxst t)::r,n,h=>by simp only[X2]at h;simp only[keys,List.map_cons,List.mem_cons];exact .inr (QaD h)
 |(k,.sm)::r,n,h=>by simp only[X2]at h;simp only[keys,List.map_cons,List.mem_cons];exact .inr (QaD h)
theorem QaN{f:Name→Bool}{n:Name}:∀{h:HS},look n (h.filter fun p=>f p.1)=if f n then look n h else none
 |[]=>by simp[look]
 |(k,o)::q=>by
  have ih:=QaN (f:=f) (n:=n) (h:=q)
  by_cases hk:f k=true
  ·rw[List.filter_cons_of_pos (by simpa using hk)]
   simp only[look]
   by_cases e:k=n
   ·subst e;simp[hk]
   ·simp only[e,if_false,ih]
  ·rw[List.filter_cons_of_neg (by simpa using hk),ih]
   simp only[look]
   by_cases e:k=n
   ·subst e;simp[hk]
   ·simp only[e,if_false]
theorem Qh5{rr:Name→Name}{m:Name}{ob:BO}:∀{ks:List Name},(m,ob)∈hpOf rr hs ks→look m hs=some ob
 |[],h=>by simp[hpOf]at h
 |k::ks,h=>by
  simp only[hpOf]at h
  split at h
  ·rename_i hk
   rcases List.mem_cons.1 h with h|h
   ·cases h;exact hk
   ·exact Qh5 h
  ·exact Qh5 h
theorem Qh4{rr:Name→Name}{m:Name}{ob:BO}:∀{ks:List Name},(m,ob)∈hpOf rr hs ks→∃n,n∈ks∧m=rr n
 |[],h=>by simp[hpOf]at h
 |k::ks,h=>by
  simp only[hpOf]at h
  split at h
  ·rcases List.mem_cons.1 h with h|h
   ·cases h;exact⟨k,by simp,rfl⟩
   ·obtain⟨n,h1,h2⟩:=Qh4 h;exact⟨n,List.mem_cons_of_mem _ h1,h2⟩
  ·obtain⟨n,h1,h2⟩:=Qh4 h;exact⟨n,List.mem_cons_of_mem _ h1,h2⟩
theorem Qdw{rr:Name→Name}(hrr:∀a b,rr a=rr b→a=b){n:Name}{ob:BO}(h:look (rr n) hs=some ob):∀{ks:List Name},n∈ks→look (rr n) (hpOf rr hs ks)=some ob
 |[],hn=>by simp at hn
 |k::ks,hn=>by
  simp only[hpOf]
  by_cases e:k=n
  ·subst e;rw[h];simp only[look,if_true]
  ·have hn':n∈ks:=by
    rcases List.mem_cons.1 hn with h|h;· exact absurd h.symm e
    ·exact h
   split
   ·simp only[look];rw[if_neg (fun h=>e (hrr _ _ h))];exact Qdw hrr h hn'
   ·exact Qdw hrr h hn'
theorem QgK{sp:Bool}{nn:Nat}{K:BEff→TS→HS→Option R}{f:FuncId}{vs:List BV}(hE:QmU P E)(hop:callable P f=true→∀(L:Lens) (pre h:List (Name×AO)) (v:AV) (nw:List Name),XJ P f (erL L vs) pre v h→Qdh pre h nw v=true→OpOK P o ⟨erT L rd,pre,v,h,nw⟩)(hrd:∀t v,(t,v)∈rd→look t ts=some v)(h:QuI P E sp nn o.dst f vs ts hs K=some r)(hi:Inv L hs):
  ∃e L',Step P o rd L ts hs e L'∧Qa4 nn o.dst=true∧K e (putB o.dst e.v ts) (e.upd++hs)=some r:=by
 unfold QuI at h
 split at h
 case h_2=>simp at h
 rename_i d hd
 split at h
 case isFalse=>simp at h
 rename_i hcall
 split at h
 case h_2=>simp at h
 rename_i g hEf
 obtain⟨σ1,x,h,hs1,g1⟩:=SL.get_some h
 obtain⟨σ2,y,h,hs2,g2⟩:=OL.get_some h
 obtain⟨va,vb,hF,h⟩:=(hE (some d) f vs g hEf).nat R x y _ r h
 split at h
 case isFalse=>simp at h
 rename_i hchk
 unfold Qst at hchk
 simp only[bae]at hchk
 obtain⟨⟨⟨⟨hm,hcb⟩,hu1⟩,hu2⟩,hkeep⟩:=hchk
 have hfit:=QtN hm
 have hinj:=QtO hm
 generalize hrr:Qkw (σ2++Qct d g)=rr at hinj hfit h
 generalize hdd:Qgz (σ2++Qct d g)=δ at hfit h
 have hfit2:Fit rr δ σ2:=hfit.mono fun p hp=>List.mem_append_left _ hp
 have hfit1:Fit rr δ σ1:=hfit2.mono hs2
 have hwant:∀n b,look n (OL.put 0 g.pre y)=some b→∃a,look (rr n) hs=some a∧((∃cs ds,a=.box cs∧b=.box ds)∨(∃t l,a=.arr t l (δ n)∧b=.arr t l 0)∨∃es,a=.sm es∧b=.sm es)∧∀L,OLe rr δ (δ n) L a b:=fun n b hb=>by
  obtain⟨v,hv,hle⟩:=g2 rr δ (fun _ _=>0) hfit2 n b hb
  refine⟨v,hv,?_,fun L=>?_⟩
  ·rcases hle with⟨cs,ds,h1,h2,_⟩|h2
   ·exact .inl ⟨cs,ds,h1,h2⟩
   ·exact .inr h2
  ·obtain⟨v',hv',hle'⟩:=g2 rr δ L hfit2 n b hb
   rw[hv]at hv';cases hv';exact hle'
 have heff:Qfc g (σ2++Qct d g) d hs y va vb=⟨hpOf rr hs (keys g.pre),(resB (SL.put 1 g.res va)).ren rr δ,QhU rr δ (g.posts y vb),(Qct d g).map (·.2.1),((X2 g.post).filter fun n=>(keys g.pre).contains n).map fun n=>(rr n,δ n+1)⟩:=by unfold Qfc;rw[hrr,hdd]
 rw[heff]at hcb h
 suffices hgood:Good P o rd hs ⟨hpOf rr hs (keys g.pre),(resB (SL.put 1 g.res va)).ren rr δ,QhU rr δ (g.posts y vb),(Qct d g).map (·.2.1),((X2 g.post).filter fun n=>(keys g.pre).contains n).map fun n=>(rr n,δ n+1)⟩by
  obtain⟨L',hst,hdd',hK⟩:=Qqe (rd:=rd) (L:=L) hgood hrd h hi
  exact⟨_,L',hst,hdd',hK⟩
 refine⟨fun m ob hm'=>Qh5 hm',fun L0 hL0=>?_⟩
 ·have hinvc:Inv (UZ L0 rr δ) (OL.put 0 g.pre y):=fun n t l u hnl=>by
   obtain⟨a,ha,hk,_⟩:=hwant n _ hnl
   rcases hk with⟨cs,ds,_,h2⟩|⟨t',l',rfl,h2⟩|⟨es,_,h2⟩
   ·cases h2
   ·cases h2;exact hL0 _ t l _ ha
   ·cases h2
  obtain⟨L1,hk1,hinv1,hspec⟩:=(hE (some d) f vs g hEf).spec x y va vb hF _ hinvc
  classical
  let L':Lens:=fun m v=>if h:∃n,n∈X2 g.post∧m=rr n∧v=δ n+1 then L1 (Classical.choose h) 1 else L0 m v
  have hA1:∀n,n∈X2 g.post→L' (rr n) (δ n+1)=L1 n 1:=fun n hn=>by
   have hex:∃k,k∈X2 g.post∧rr n=rr k∧δ n+1=δ k+1:=⟨n,hn,rfl,rfl⟩
   show(if h:∃k,k∈X2 g.post∧rr n=rr k∧δ n+1=δ k+1 then L1 (Classical.choose h) 1 else _)=L1 n 1
   rw[dif_pos hex,←hinj _ _ (Classical.choose_spec hex).2.1]
  have hA2:∀m v,¬(∃n,n∈X2 g.post∧m=rr n∧v=δ n+1)→L' m v=L0 m v:=fun m v h=>dif_neg h
  have hkp:∀n,n∈g.keep∨n∈QaX g.post→L' (rr n) (δ n+0)=L1 n 0:=fun n hn=>by
   rw[hA2,hk1 n hn];· rfl
   rintro⟨n',hn',he,he2⟩
   have:=hinj _ _ he;subst this
   exact absurd he2 (by omega)
  have hLL:∀n u,QrN g n u=true→L' (rr n) (δ n+u)=L1 n u:=fun n u hn=>by
   unfold QrN at hn
   split at hn
   ·exact hkp n (by simp only[Bool.or_eq_true]at hn;exact hn.imp Wt.1 Wt.1)
   ·exact hA1 n (Wt.1 hn)
   ·simp at hn
  refine⟨L',fun m v h1 h2=>hA2 m v ?_,fun m t l v hml=>?_,?_⟩
  ·rintro⟨n,hn,rfl,rfl⟩
   by_cases hp:n∈keys g.pre
   ·exact h2 (List.mem_map.2 ⟨n,List.mem_filter.2 ⟨hn,by simpa using hp⟩,rfl⟩)
   ·have hmem:(n,(1000000+1000*d+n,0))∈Qct d g:=List.mem_map.2 ⟨n,List.mem_filter.2 ⟨QaD hn,by simpa using hp⟩,rfl⟩
    have:=(hfit n _ (List.mem_append_right _ hmem)).1
    exact h1 (List.mem_map.2 ⟨_,hmem,this.symm⟩)
  ·rw[YK]at hml
   cases hu:look m (QhU rr δ (g.posts y vb))with
   |some ob=>
    rw[hu]at hml;cases hml
    obtain⟨n,rfl⟩:=QeY hu
    rw[QgW hinj]at hu
    cases hb:look n (g.posts y vb)with
    |none=>rw[hb]at hu;simp at hu
    |some b=>
     rw[hb]at hu
     simp only[Option.map_some,Option.some.injEq]at hu
     cases b with
     |box cs=>simp[BO.ren]at hu
     |sm es=>simp[BO.ren]at hu
     |arr t' l' v'=>
      simp only[BO.ren]at hu;cases hu
      rw[hLL n v' ?_]
      ·exact hinv1 n t l v' hb
      ·unfold Sig.posts at hb
       rw[YK]at hb
       cases hb1:look n (OL.put 1 g.post vb)with
       |some b1=>
        rw[hb1]at hb;cases hb
        rcases Qiw hb1 with⟨k1,rfl⟩|⟨k1,rfl⟩
        ·exact Wt.2 k1
        ·simp only[QrN,Wt.2 k1,Bool.or_true]
       |none=>
        rw[hb1]at hb
        simp only[QaN (f:=fun n=>g.keep.contains n)]at hb
        split at hb
        ·rename_i hc
         have hv0:v'=0:=(Qiw hb).elim (·.2) (·.2)
         subst hv0
         simp only[QrN,Wt.2 (show n∈g.keep by simpa using hc),Bool.true_or]
        ·simp at hb
   |none=>
    rw[hu]at hml
    rw[hA2 m v ?_]
    ·exact hL0 m t l v hml
    ·rintro⟨n,hn,rfl,_⟩
     rw[QgW hinj]at hu
     obtain⟨b,hb⟩:=Qei (u:=1) (y:=vb) (QaD hn)
     have:look n (g.posts y vb)=some b:=by unfold Sig.posts;rw[YK,hb]
     rw[this]at hu;simp at hu
  ·have h1:=Spec.ren hinj hspec
   rw[Qv6 hLL _ hu1,Qxn hLL _ hu2]at h1
   have h2:XJ P f (renL rr (erL (UZ L0 rr δ) (SL.put 0 g.args x))) (erH L0 (hpOf rr hs (keys g.pre))) (((resB (SL.put 1 g.res va)).ren rr δ).er L') (erH L' (QhU rr δ (g.posts y vb))):=by
    refine Spec.preLe h1 (fun m ob hm=>?_) (fun m ob hm=>?_)
    ·obtain⟨n,rfl⟩:=VE hm
     rw[YL hinj,Z2]at hm
     cases hb:look n (OL.put 0 g.pre y)with
     |none=>rw[hb]at hm;simp at hm
     |some b=>
      rw[hb]at hm
      simp only[Option.map_some,Option.some.injEq]at hm
      obtain⟨a,ha,_,hle⟩:=hwant n b hb
      have hkn:n∈keys g.pre:=by rw[←QlP (u:=0) (y:=y)];exact Zw (by rw[hb];simp)
      refine⟨a.er L0,by rw[Z2,Qdw hinj ha hkn];rfl,?_⟩
      rcases hle L0 with⟨cs,ds,rfl,rfl,h3⟩|⟨t,l,rfl,rfl⟩|⟨es,rfl,rfl⟩
      ·exact .inr ⟨_,_,rfl,by rw[←hm];simp only[BO.er,AO.ren],h3⟩
      ·exact .inl (by rw[←hm];simp only[BO.er,AO.ren])
      ·exact .inl (by rw[←hm];simp only[BO.er,AO.ren])
    ·rw[Z2]at hm
     cases hb:look m (hpOf rr hs (keys g.pre))with
     |none=>rw[hb]at hm;simp at hm
     |some b=>
      obtain⟨n,hn,rfl⟩:=Qh4 (Q0 hb)
      obtain⟨b',hb'⟩:=Qei (u:=0) (y:=y) hn
      exact⟨_,by rw[YL hinj,Z2,hb'];rfl⟩
   exact hop hcall L0 _ _ _ _ (Spec.argsLe (Spec.argsLe h2 (g1 rr δ L0 hfit1)) (QmO hL0)) (QuG hcb)
end
end Go.Proofs.YtadlpefpehjcoaaGreat.AM
