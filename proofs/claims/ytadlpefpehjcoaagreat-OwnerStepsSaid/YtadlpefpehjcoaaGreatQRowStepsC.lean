/-
  The typed layer, part K: regions. No project text.
-/
import Derived.Test.YtadlpefpehjcoaaGreatQRowStepsB
import Derived.Shelf.Sort.Plain
import Derived.Test.YtadlpefpehjcoaaGreatProg
import Derived.RangeFuncNested
import Derived.RangeFuncBound
import Derived.RangeFuncCalls
import Derived.RangeFuncLeaves
import Derived.Shelf.Abstract
import Derived.Shelf.RegionOpen
import Derived.WalkKit
import Derived.OwnWalkIn
import Derived.TacticsInMore
import Derived.LoopNIn
import Derived.LoopIn
import Derived.Scope
set_option linter.unusedVariables false
set_option linter.unusedSimpArgs false
namespace Go.Proofs.YtadlpefpehjcoaaGreat.AM
open Go
section
variable {L L':Lens} {ts ts':TS} {hs hs':HS}
section
variable {R:Type}
def rdB(ts:TS):List Operand→TS
 |[]=>[]
 |.tmp t::r=>match look t ts with
  |some v=>(t,v)::rdB ts r
  |none=>rdB ts r
 |.const _::r=>rdB ts r
 |.global _::r=>rdB ts r
 |.func _::r=>rdB ts r
theorem QeD:∀{l:List Operand} {t:Nat} {v:BV},(t,v)∈rdB ts l→look t ts=some v
 |[],t,v,h=>by simp[rdB]at h
 |.tmp k::r,t,v,h=>by
  simp only[rdB]at h
  split at h
  ·rename_i hk
   rcases List.mem_cons.1 h with h|h
   ·cases h;exact hk
   ·exact QeD h
  ·exact QeD h
 |.const _::r,t,v,h=>QeD (l:=r) (by simpa only[rdB]using h)
 |.global _::r,t,v,h=>QeD (l:=r) (by simpa only[rdB]using h)
 |.func _::r,t,v,h=>QeD (l:=r) (by simpa only[rdB]using h)
def Qo8(rd:TS)(x:Operand):Option (FuncId×List BV):=match ZM rd x with
 |some (.v (.func (.func f) ⟨[]⟩ ⟨[]⟩))=>some (f,[])
 |some (.clo (.func f) cs)=>some (f,cs)
 |_=>none
def opK(P:Program)(ty:TypeId→Option TC)(E:Env)(sp:Bool)(nn:Nat)(x:TS)(o:Oper)(ts:TS)(hs:HS)(K:BEff→TS→HS→Option R):Option R:=
 match o.op with
 |.call c=>match c.callee with
  |.value (.func f)=>match Qf0 (x++rdB ts o.op.operands.toList) c.args.toList with
   |some vs=>QuI P E sp nn o.dst f vs ts hs K
   |none=>none
  |.value (.tmp t)=>match Qo8 (x++rdB ts o.op.operands.toList) (.tmp t),Qf0 (x++rdB ts o.op.operands.toList) c.args.toList with
   |some q,some vs=>QuI P E sp nn o.dst q.1 (vs++q.2) ts hs K
   |_,_=>none
  |_=>bop P ty (x++rdB ts o.op.operands.toList) hs (goE sp nn o.dst ts hs K) o
 |_=>bop P ty (x++rdB ts o.op.operands.toList) hs (goE sp nn o.dst ts hs K) o
variable {r:R} {P:Program} {ty:TypeId→Option TC} {E:Env} {nn:Nat}
theorem Qqz{sp:Bool}{x:TS}{o:Oper}{K:BEff→TS→HS→Option R}(hE:QmU P E)(hx:∀t v,(t,v)∈x→look t ts=some v)(h:opK P ty E sp nn x o ts hs K=some r)(hi:Inv L hs):
  ∃e L',Step P o (x++rdB ts o.op.operands.toList) L ts hs e L'∧Qa4 nn o.dst=true∧K e (putB o.dst e.v ts) (e.upd++hs)=some r:=by
 have hrd:∀t v,(t,v)∈x++rdB ts o.op.operands.toList→look t ts=some v:=fun t v hm=>by
  rcases List.mem_append.1 hm with hm|hm
  ·exact hx t v hm
  ·exact QeD hm
 have hb:bop P ty (x++rdB ts o.op.operands.toList) hs (goE sp nn o.dst ts hs K) o=some r→∃e L',Step P o (x++rdB ts o.op.operands.toList) L ts hs e L'∧Qa4 nn o.dst=true∧K e (putB o.dst e.v ts) (e.upd++hs)=some r:=fun h=>by
  obtain⟨e,h,hg⟩:=QxW h
  obtain⟨L',h1,h2,h3⟩:=Qqe (rd:=x++rdB ts o.op.operands.toList) hg hrd h hi
  exact⟨e,L',h1,h2,h3⟩
 unfold opK at h
 split at h
 ·rename_i c ho
  split at h
  ·rename_i f hf
   obtain⟨callee,args,ats⟩:=c
   simp only at hf;subst hf
   split at h
   ·rename_i vs hvs
    exact QgK (rd:=x++rdB ts o.op.operands.toList) hE (fun hcall L pre h v nw hs hc=>OpOK.call ho hcall (Qdu L hvs) hs hc) hrd h hi
   ·simp at h
  ·rename_i t hf
   obtain⟨callee,args,ats⟩:=c
   simp only at hf;subst hf
   split at h
   ·rename_i q vs hq hvs
    unfold Qo8 at hq
    split at hq
    ·rename_i f hx
     cases hq
     rw[List.append_nil]at h
     exact QgK (rd:=x++rdB ts o.op.operands.toList) hE (fun hcall L pre h v nw hs hc=>OpOK.callFv ho (by have:=Qj L hx;simpa only[BV.er]using this) hcall (Qdu L hvs) hs hc) hrd h hi
    ·rename_i f cs hx
     cases hq
     exact QgK (rd:=x++rdB ts o.op.operands.toList) hE (fun hcall L pre h v nw hs hc=>OpOK.callClo ho (by have:=Qj L hx;simpa only[BV.er]using this) hcall (Qdu L hvs) (by rw[Qq6]at hs;exact hs) hc) hrd h hi
    ·simp at hq
   ·simp at h
  ·exact hb h
 ·exact hb h
mutual
def Qtu:BV→List Name
 |.own m _=>[m]
 |.view m _ _ _=>[m]
 |.agg cs=>Qxi cs
 |_=>[]
def Qxi:List BV→List Name
 |[]=>[]
 |x::r=>Qtu x++Qxi r
end
def Qxj(ts:TS)(x:Operand):List Name:=match ZM ts x with
 |some v=>Qtu v
 |none=>[]
def Qyj(ts:TS)(x:Operand):List Name:=match ZM ts x with
 |some (.view m _ _ _)=>[m]
 |_=>[]
def Qqs:List Sh→List BV→List Name
 |.lst _::r,v::vs=>Qtu v++Qqs r vs
 |_::r,_::vs=>Qqs r vs
 |_,_=>[]
def Qv0(pre:List (Name×OSh))(hs:HS)(nm m:Name):List Name:=match look nm pre,look m hs with
 |some (.boxst _),some (.box cs)=>Qxi cs
 |some (.box l),some (.box cs)=>Qqs l cs
 |_,_=>[]
def Qqr(pre:List (Name×OSh))(hs:HS):List Name→List BV→List Name
 |nm::q,.ref m _::vs=>Qv0 pre hs nm m++Qqr pre hs q vs
 |_,_=>[]
def Ut(pre:List (Name×OSh))(hs:HS):List SSh→List BV→List Name
 |.one (.lst _)::r,v::vs=>Qtu v++Ut pre hs r vs
 |.one (.ref nm)::r,.ref m _::vs=>Qv0 pre hs nm m++Ut pre hs r vs
 |.one (.clo _ ns)::r,.clo _ cs::vs=>Qqr pre hs ns cs++Ut pre hs r vs
 |.st _::r,v::vs=>Qtu v++Ut pre hs r vs
 |.agg l::r,.agg cs::vs=>Qqs l cs++Ut pre hs r vs
 |_::r,_::vs=>Ut pre hs r vs
 |_,_=>[]
def needs(E:Env)(ts:TS)(hs:HS)(o:Oper):List Name:=match o.op with
 |.buildSlice _ _ parts=>parts.toList.flatMap fun p=>Qxj ts p.2
 |.store _ x y=>match ZM ts x with
  |some (.aref _ _ _ _)=>Qxj ts y
  |_=>[]
 |.call c=>match c.callee,c.args.toList with
  |.builtin .append,[x,y]=>Qyj ts x++Qxj ts y
  |.value (.func f),args=>match Qf0 ts args with
   |some vs=>match E o.dst f vs with
    |some g=>Ut g.pre hs g.args vs
    |none=>[]
   |none=>[]
  |.value (.tmp t),args=>match Qo8 ts (.tmp t),Qf0 ts args with
   |some q,some vs=>match E o.dst q.1 (vs++q.2)with
    |some g=>Ut g.pre hs g.args (vs++q.2)
    |none=>[]
   |_,_=>[]
  |_,_=>[]
 |_=>[]
def Qda{α:Type}(f:Nat→Bool):List Nat→List (Nat×α)→List (Nat×α)
 |_,[]=>[]
 |seen,(k,v)::r=>match f k && !isIn k seen with
  |true=>(k,v)::Qda f (k::seen) r
  |false=>Qda f seen r
def QoG{α R:Type}(f:Nat→Bool):List Nat→List (Nat×α)→(List (Nat×α)→R)→R
 |_,[],K=>K []
 |seen,(k,v)::r,K=>match f k && !isIn k seen with
  |true=>QoG f (k::seen) r fun q=>K ((k,v)::q)
  |false=>QoG f seen r K
theorem Qil{α R:Type}{f:Nat→Bool}:∀(seen:List Nat) (l:List (Nat×α)) (K:List (Nat×α)→R),QoG f seen l K=K (Qda f seen l)
 |_,[],K=>rfl
 |seen,(k,v)::r,K=>by
  simp only[QoG,Qda]
  split
  ·rw[Qil (k::seen) r]
  ·rw[Qil seen r]
theorem Vh{α:Type}{f:Nat→Bool}(n:Nat):∀(seen:List Nat) (l:List (Nat×α)),look n (Qda f seen l)=if f n && !isIn n seen then look n l else none
 |seen,[]=>by simp[Qda,look]
 |seen,(k,v)::r=>by
  have isIn_cons:∀m,isIn m (k::seen)=(Nat.beq k m || isIn m seen):=fun m=>by simp[isIn]
  simp only[Qda]
  split
  ·rename_i h
   simp only[look]
   rw[Vh n (k::seen) r,isIn_cons]
   by_cases e:k=n
   ·subst e;rw[if_pos rfl,if_pos rfl,h];rfl
   ·have:Nat.beq k n=false:=Bool.eq_false_iff.2 fun h=>e (nbe h)
    rw[if_neg e,if_neg e,this,Bool.false_or]
  ·rename_i h
   rw[Vh n seen r]
   simp only[look]
   by_cases e:k=n
   ·subst e;rw[h];rfl
   ·rw[if_neg e]
theorem Inv.trim{f:Name→Bool}(hi:Inv L hs):Inv L (Qda f [] hs):=fun n t l v hn=>by
 rw[Vh]at hn
 split at hn
 ·exact hi n t l v hn
 ·simp at hn
theorem Sim.only{f:Nat→Bool}{g:Name→Bool}{ρ:Name→Loc}{M:Nat→Prop}{a:Act}{w:World}{Γ:Ctx}(h:Sim Γ ρ M (BS L ts hs) a w)(hg:∀n,n∈Γ.names→g n=true):Sim Γ ρ M (BS L (Qda f [] ts) (Qda g [] hs)) a w:=by
 refine h.forget (fun t x hx=>?_) (fun n o hn=>?_) (fun n hn hc=>?_)
 ·rw[XV,Vh]at hx
  rw[XV]
  split at hx
  ·exact hx
  ·simp at hx
 ·rw[X7,Vh]at hn
  rw[X7]
  split at hn
  ·exact hn
  ·simp at hn
 ·rw[X7,Vh,if_pos (by rw[hg n hn];rfl)]at hc
  obtain⟨o,ho,_⟩:=h.keep n hn
  rw[X7,hc]at ho;simp at ho
def Qx7(n:Name)(ts:TS)(t:Nat):Bool:=match look t ts with
 |some (.tup vs)=>!BV.hasL n vs
 |_=>true
theorem Sim.onlyT{f:Nat→Bool}{ρ:Name→Loc}{M:Nat→Prop}{a:Act}{w:World}{Γ:Ctx}(h:Sim Γ ρ M (BS L ts hs) a w):Sim Γ ρ M (BS L (Qda f [] ts) hs) a w:=by
 have h2:=h.only (f:=f) (g:=fun _=>true) fun _ _=>rfl
 refine h2.congr (fun t=>rfl) (fun n=>?_)
 show(BS L (Qda f [] ts) hs).heap n=(BS L (Qda f [] ts) (Qda (fun _=>true) [] hs)).heap n
 rw[X7,X7,Vh];rfl
def frzK(gn:List Name):List Name→TS→HS→(TS→HS→Option R)→Option R
 |[],ts,hs,K=>K ts hs
 |n::r,ts,hs,K=>match look n hs with
  |some (.arr t l v)=>QoG (Qx7 n ts) [] ts fun ts=>if !isIn n gn && fzB n ts hs then frzK gn r (fzT n v t l ts) (fzH n v t l hs) K else none
  |_=>frzK gn r ts hs K
theorem QbU{gn:List Name}{Γ:Ctx}(hgn:Γ.names=gn):∀{ns:List Name} {ts:TS} {hs:HS} {K:TS→HS→Option R},frzK gn ns ts hs K=some r→Inv L hs→
  ∃ts' hs',K ts' hs'=some r∧Inv L hs'∧∀ρ M a w,Sim Γ ρ M (BS L ts hs) a w→∃ρ' M',Sim Γ ρ' M' (BS L ts' hs') a w
 |[],ts,hs,K,h,hi=>⟨ts,hs,h,hi,fun ρ M a w hs0=>⟨ρ,M,hs0⟩⟩
 |n::ns,ts,hs,K,h,hi=>by
  simp only[frzK]at h
  split at h
  ·rename_i t l v hl
   rw[Qil]at h
   split at h
   ·rename_i hb
    simp only[bae,Bool.not_eq_true']at hb
    have hn:n∉Γ.names:=fun hm=>by
     rw[hgn]at hm
     have:=Wt.2 hm
     rw[this]at hb;simp at hb
    have hi':Inv L (fzH n v t l hs):=by
     intro k t' l' u hk
     rw[Qqn]at hk
     split at hk
     ·simp at hk
     ·cases hx:look k hs with
      |none=>rw[hx]at hk;simp at hk
      |some x=>
       rw[hx]at hk
       simp only[Option.map_some,Option.some.injEq]at hk
       cases x with
       |box cs=>simp[BO.frz]at hk
       |arr t2 l2=>simp only[BO.frz]at hk;cases hk;exact hi k _ _ _ hx
       |sm es=>simp[BO.frz]at hk
    obtain⟨ts',hs',h1,h2,h3⟩:=QbU hgn h hi'
    refine⟨ts',hs',h1,h2,fun ρ M a w hs0=>?_⟩
    obtain⟨⟨ρ1,M1,hs1⟩,_⟩:=(hs0.onlyT (f:=Qx7 n ts)).frz hi hn hl hb.2
    exact h3 ρ1 M1 a w hs1
   ·simp at h
  ·exact QbU hgn h hi
section
variable (P:Program) (ty:TypeId→Option TC) (E:Env) (gn:List Name) (nn:Nat) (ops:Array Oper)
def exK(sp:Bool)(x:TS)(o:Oper)(ts:TS)(hs:HS)(K:TS→HS→Option R):Option R:=
 frzK gn (needs E ts hs o) ts hs fun ts hs=>opK P ty E sp nn x o (x++ts) hs fun _ ts hs=>K ts hs
def guarded(ops:Array Oper):Bool:=ops.toList.any fun o=>o.guard.isSome
def regK(sp:Bool)(K:TS→HS→Option R):Nat→Nat→TS→HS→Option R
 |0,i,ts,hs=>if Nat.beq ops.size i then K ts hs else none
 |f+1,i,ts,hs=>match ops[i]? with
  |none=>none
  |some o=>match o.guard with
   |none=>exK P ty E gn nn sp [] o ts hs fun ts hs=>regK sp K f (i+1) ts hs
   |some (j,b)=>match (ops[j]?).bind (·.dst)with
    |none=>none
    |some g=>match look g ts with
     |some (.b q)=>cnd q
       (match b with
        |true=>exK P ty E gn nn sp [(g,.b true)] o ts hs fun ts hs=>regK sp K f (i+1) ts hs
        |false=>if Qa4 nn o.dst then regK sp K f (i+1) (putB o.dst (.tup []) ts) hs else none)
       (match b with
        |true=>if Qa4 nn o.dst then regK sp K f (i+1) (putB o.dst (.tup []) ts) hs else none
        |false=>exK P ty E gn nn sp [(g,.b false)] o ts hs fun ts hs=>regK sp K f (i+1) ts hs)
     |some (.tup [])=>if Qa4 nn o.dst then regK sp K f (i+1) (putB o.dst (.tup []) ts) hs else none
     |_=>none
end
theorem QxM{ops:Array Oper}{i:Nat}{o:Oper}{a:Act}{w:World}{K:Act→World→Prop}{Q:Exit→Act→World→Prop}(hi:ops[i]?=some o)(hw:Region.wanted o (yielded ops a.tmps)=true)(h:o.wp P a w K Q):wpOp P ops Q i K a w:=by
 unfold wpOp
 simp only[hi,hw,if_true]
 exact .inl h
theorem QsP{sp:Bool}{gn:List Name}{ops:Array Oper}{i:Nat}{x:TS}{o:Oper}{K:TS→HS→Option R}{Γ:Ctx}{KK:Act→World→Prop}{Q:Exit→Act→World→Prop}(hE:QmU P E)(hgn:Γ.names=gn)(hn:Γ.n=nn)(h:exK P ty E gn nn sp x o ts hs K=some r)(hx:∀t v,(t,v)∈x→look t ts=some v)(hx1:∀t v,(t,v)∈x→∃q,v=.b q)(hxl:x.length≤1)(hi:Inv L hs)(hop:ops[i]?=some o)(hw:∀ρ M a w,Sim Γ ρ M (BS L ts hs) a w→Region.wanted o (yielded ops a.tmps)=true)(hK:∀ts' hs' L' ρ' M' a' w',K ts' hs'=some r→Inv L' hs'→Sim Γ ρ' M' (BS L' ts' hs') a' w'→KK a' w'):
  ∀ρ M a w,Sim Γ ρ M (BS L ts hs) a w→wpOp P ops Q i KK a w:=by
 intro ρ M a w hs0
 have hw0:=hw ρ M a w hs0
 obtain⟨ts1,hs1,h,hi1,hfz⟩:=QbU hgn h hi
 obtain⟨ρ1,M1,hs1'⟩:=hfz ρ M a w hs0
 have hxx:Sim Γ ρ1 M1 (BS L (x++ts1) hs1) a w:=by
  refine⟨hs1'.n,hs1'.d,fun t y hy=>?_,hs1'.objs,hs1'.inj,hs1'.own0,hs1'.keep,hs1'.ext,hs1'.mext,hs1'.msize,hs1'.m0,hs1'.ground⟩
  obtain⟨v,hv,rfl⟩:=QmI hy
  rw[YK]at hv
  cases hl:look t x with
  |none=>rw[hl]at hv;simp only at hv;exact hs1'.slots t _ (by rw[XV,hv];rfl)
  |some v'=>
   rw[hl]at hv;cases hv
   have hm:=Q0 hl
   obtain⟨q,rfl⟩:=hx1 t v hm
   obtain⟨u,hu,hr⟩:=hs0.slots t ((BV.b q).er L) (by rw[XV,hx t _ hm];rfl)
   refine⟨u,hu,?_⟩
   simp only[BV.er,AV.R,PV.R]at hr ⊢
   exact hr
 obtain⟨e,L',hst,hd,hK'⟩:=Qqz hE (fun t v hm=>by
  rw[YK]
  match x,hxl,hm with
  |[(t0,v0)],_,hm=>
   simp only[List.mem_singleton,Prod.mk.injEq]at hm
   obtain⟨rfl,rfl⟩:=hm
   simp only[look,if_true]) h hi1
 exact QxM hop hw0 (hst.go hd hn hxx fun ρ' M' a' w' hs'=>hK _ _ L' ρ' M' a' w' hK' hst.inv hs')
theorem QxN{ops:Array Oper}{Γ:Ctx}{ρ:Name→Loc}{M:Nat→Prop}{a:Act}{w:World}{j g:Nat}{q:Bool}(hj:(ops[j]?).bind (·.dst)=some g)(hl:look g ts=some (.b q))(hs0:Sim Γ ρ M (BS L ts hs) a w):yielded ops a.tmps j=some q:=by
 obtain⟨oj,h1,h2⟩:=Vx hj
 exact Qhj hs0 h1 h2 (by rw[XV,hl];simp only[Option.map_some,BV.er])
theorem Qxy{ops:Array Oper}{i j g:Nat}{o:Oper}{b:Bool}{v:BV}{Γ:Ctx}{KK:Act→World→Prop}{Q:Exit→Act→World→Prop}(hop:ops[i]?=some o)(hg:o.guard=some (j,b))(hj:(ops[j]?).bind (·.dst)=some g)(hl:look g ts=some v)(hv:v=.b (!b)∨v=.tup [])(hd:Qa4 nn o.dst=true)(hn:Γ.n=nn)(hK:∀ρ' M' a' w',Sim Γ ρ' M' (BS L (putB o.dst (.tup []) ts) hs) a' w'→KK a' w'):∀ρ M a w,Sim Γ ρ M (BS L ts hs) a w→wpOp P ops Q i KK a w:=by
 intro ρ M a w hs0
 obtain⟨oj,h1,h2⟩:=Vx hj
 have hd':∀d,o.dst=some d→d<Γ.n:=fun d hd'=>by rw[hd']at hd;simp only[Qa4]at hd;rw[hn];exact Nat.le_of_ble_eq_true hd
 have hrun:∀x:AV,(BS L ts hs).run o.dst ⟨[(g,x)],[],.tup [],[],[]⟩=BS L (putB o.dst (.tup []) ts) hs:=fun x=>by
  unfold BS
  rw[QnT]
  cases o.dst with
  |none=>rfl
  |some d=>simp only[putT,putB,erT,List.map_cons,BV.er,erL,List.nil_append]
 rcases hv with rfl|rfl
 ·refine Zs.skipped hop hg h1 h2 Γ ρ M _ a w KK Q hs0 ⟨fun t x hx=>?_,fun n ob hn=>by simp at hn,fun n hn=>by simp at hn⟩ hd' (fun ρ' M' a' w' hs'=>hK ρ' M' a' w' (by rw[hrun]at hs';exact hs'))
  simp only[List.mem_singleton,Prod.mk.injEq]at hx
  obtain⟨rfl,rfl⟩:=hx
  rw[XV,hl];simp only[Option.map_some,BV.er]
 ·refine Zs.skipped2 hop hg h1 h2 Γ ρ M _ a w KK Q hs0 ⟨fun t x hx=>?_,fun n ob hn=>by simp at hn,fun n hn=>by simp at hn⟩ hd' (fun ρ' M' a' w' hs'=>hK ρ' M' a' w' (by rw[hrun]at hs';exact hs'))
  simp only[List.mem_singleton,Prod.mk.injEq]at hx
  obtain⟨rfl,rfl⟩:=hx
  rw[XV,hl];simp only[Option.map_some,BV.er,erL]
theorem QtM{sp:Bool}{gn:List Name}{ops:Array Oper}{K:TS→HS→Option R}{Γ:Ctx}{Q:Exit→Act→World→Prop}(hE:QmU P E)(hgn:Γ.names=gn)(hn:Γ.n=nn)(hQ:∀ts' hs' L' ρ' M' a' w',K ts' hs'=some r→Inv L' hs'→Sim Γ ρ' M' (BS L' ts' hs') a' w'→Q .normal a' w'):
  ∀(f i:Nat) (ts:TS) (hs:HS) (L:Lens),regK P ty E gn nn ops sp K f i ts hs=some r→Inv L hs→∀ρ M a w,Sim Γ ρ M (BS L ts hs) a w→wpOps P ops Q (List.range' i (ops.size - i)) a w
 |0,i,ts,hs,L,h,hi,ρ,M,a,w,hs0=>by
  simp only[regK]at h
  split at h
  ·rename_i e
   rw[nbe e,Nat.sub_self]
   simp only[List.range'_zero,wpOps]
   exact hQ ts hs L ρ M a w h hi hs0
  ·simp at h
 |f+1,i,ts,hs,L,h,hi,ρ,M,a,w,hs0=>by
  simp only[regK]at h
  split at h
  ·simp at h
  ·rename_i o hop
   have hlt:i<ops.size:=(Array.getElem?_eq_some_iff.1 hop).1
   rw[show ops.size - i=(ops.size - (i+1))+1 by omega,List.range'_succ,wpOps_cons]
   have ih:=QtM (sp:=sp) (gn:=gn) (ops:=ops) (K:=K) (Γ:=Γ) (Q:=Q) hE hgn hn hQ f (i+1)
   have hskip:∀{j:Nat} {b:Bool} {g:Nat} {v:BV},o.guard=some (j,b)→(ops[j]?).bind (·.dst)=some g→look g ts=some v→(v=.b (!b)∨v=.tup [])→
     (if Qa4 nn o.dst then regK P ty E gn nn ops sp K f (i+1) (putB o.dst (.tup []) ts) hs else none)=some r→wpOp P ops Q i (wpOps P ops Q (List.range' (i+1) (ops.size - (i+1)))) a w:=fun hg hj hl hv h=>by
    split at h
    ·rename_i hd
     exact Qxy hop hg hj hl hv hd hn (fun ρ' M' a' w' hs'=>ih _ _ L h hi ρ' M' a' w' hs') ρ M a w hs0
    ·simp at h
   have hex:∀{j:Nat} {b:Bool} {g:Nat},o.guard=some (j,b)→(ops[j]?).bind (·.dst)=some g→look g ts=some (.b b)→
     exK P ty E gn nn sp [(g,.b b)] o ts hs (fun ts hs=>regK P ty E gn nn ops sp K f (i+1) ts hs)=some r→wpOp P ops Q i (wpOps P ops Q (List.range' (i+1) (ops.size - (i+1)))) a w:=fun{j b g} hg hj hl h=>
    QsP hE hgn hn h (fun t v hm=>by simp only[List.mem_singleton,Prod.mk.injEq]at hm;obtain⟨rfl,rfl⟩:=hm;exact hl) (fun t v hm=>by simp only[List.mem_singleton,Prod.mk.injEq]at hm;obtain⟨rfl,rfl⟩:=hm;exact⟨b,rfl⟩) (Nat.le_refl _) hi hop
     (fun ρ M a w hs0=>by unfold Region.wanted;simp only[hg,QxN hj hl hs0,beq_self_eq_true]) (fun ts' hs' L' ρ' M' a' w' hK' hi' hs'=>ih _ _ L' hK' hi' ρ' M' a' w' hs') ρ M a w hs0
   split at h
   ·rename_i hg
    exact QsP hE hgn hn h (fun t v hm=>by simp at hm) (fun t v hm=>by simp at hm) (by simp) hi hop (fun ρ M a w _=>by unfold Region.wanted;simp only[hg]) (fun ts' hs' L' ρ' M' a' w' hK' hi' hs'=>ih _ _ L' hK' hi' ρ' M' a' w' hs') ρ M a w hs0
   ·rename_i j b hg
    split at h
    ·simp at h
    ·rename_i g hj
     split at h
     ·rename_i q hl
      rcases QfT h with⟨rfl,h⟩|⟨rfl,h⟩
      ·cases b with
       |true=>exact hex hg hj hl h
       |false=>exact hskip hg hj hl (.inl rfl) h
      ·cases b with
       |true=>exact hskip hg hj hl (.inl rfl) h
       |false=>exact hex hg hj hl h
     ·rename_i hl
      exact hskip hg hj hl (.inr rfl) h
     ·simp at h
end
end
/-
  The typed layer, part L: code. No project text.
-/
abbrev BRow:=Option Nat×TS×BEff
def BRow.row(L:Lens)(b:BRow):Row:=(b.1,⟨erT L b.2.1,erH L b.2.2.hp,b.2.2.v.er L,erH L b.2.2.upd,b.2.2.nw⟩)
def L0:Lens:=fun _ _=>0
def Qjf(ops:Array Oper)(rows:List BRow)(ts:TS)(hs:HS):Bool:=indep ops (rows.map (BRow.row L0)) (erT L0 ts) (erH L0 hs)
section
variable {L L':Lens}
theorem Qu4(a:TS):keys (erT L a)=keys a:=by simp[erT,keys]
theorem QkN(n:Name)(b:BRow):(b.row L).2.has n=(b.row L').2.has n:=by
 simp only[BRow.row,Eff.has,Qqi]
 congr 1
 simp only[erH,List.any_map]
 congr 1;funext p;simp only[Function.comp,QsY]
theorem Qr7(x y:BRow):QkF (x.row L) (y.row L)=QkF (x.row L') (y.row L'):=by
 simp only[QkF,BRow.row,Qu4,Qcu]
 have:(fun n=>!Eff.has n ⟨erT L y.2.1,erH L y.2.2.hp,y.2.2.v.er L,erH L y.2.2.upd,y.2.2.nw⟩)=fun n=>!Eff.has n ⟨erT L' y.2.1,erH L' y.2.2.hp,y.2.2.v.er L',erH L' y.2.2.upd,y.2.2.nw⟩:=by
  funext n;have:=QkN (L:=L) (L':=L') n y;simp only[BRow.row]at this;rw[this]
 rw[this]
theorem QnI(i:Nat)(x:BRow):∀(j:Nat) (l:List (BRow×Nat)),Qfl i (x.row L) j (l.map fun p=>(p.1.row L,p.2))=Qfl i (x.row L') j (l.map fun p=>(p.1.row L',p.2))
 |_,[]=>rfl
 |j,(y,m)::r=>by simp only[List.map_cons,Qfl,Qr7 (L:=L) (L':=L') x y,QnI i x (j+1) r]
theorem QnZ:∀(i:Nat) (l:List (BRow×Nat)),Qfv i (l.map fun p=>(p.1.row L,p.2))=Qfv i (l.map fun p=>(p.1.row L',p.2))
 |_,[]=>rfl
 |i,(x,m)::r=>by simp only[List.map_cons,Qfv,QnI (L:=L) (L':=L') i x (i+1) r,QnZ (i+1) r]
theorem Qqt(ts:TS)(hs:HS):∀(l past:List BRow),Qhx (erT L ts) (erH L hs) (l.map (BRow.row L)) (past.map (BRow.row L))=Qhx (erT L' ts) (erH L' hs) (l.map (BRow.row L')) (past.map (BRow.row L'))
 |[],past=>by simp only[List.map_nil,Qhx]
 |y::r,past=>by
  have ih:=Qqt ts hs r (past++[y])
  simp only[List.map_append,List.map_cons,List.map_nil]at ih
  simp only[List.map_cons,Qhx,ih]
  congr 1
  show(y.2.2.nw.all fun n=>_)=(y.2.2.nw.all fun n=>_)
  congr 1;funext n
  simp only[List.all_map,Qef,BRow.row,Qcu]
  congr 2
  congr 1;funext x
  have:=QkN (L:=L) (L':=L') n x
  simp only[BRow.row]at this
  simp only[Function.comp,BRow.row,this]
theorem QnH{ops:Array Oper}{rows:List BRow}{ts:TS}{hs:HS}(h:Qjf ops rows ts hs=true)(L:Lens):indep ops (rows.map (BRow.row L)) (erT L ts) (erH L hs)=true:=by
 unfold Qjf indep at h
 unfold indep
 have e:∀(L:Lens) (ms:List Nat),(rows.map (BRow.row L)).zip ms=(rows.zip ms).map fun p=>(p.1.row L,p.2):=fun L ms=>by
  rw[List.zip_map_left];rfl
 rw[e,QnZ (L:=L) (L':=AM.L0),←e]
 have:=Qqt (L:=L) (L':=AM.L0) ts hs rows []
 simp only[List.map_nil]at this
 rw[this]
 exact h
end
section
variable {R:Type} (P:Program) (ty:TypeId→Option TC) (E:Env) (gn:List Name) (nn:Nat) (ops:Array Oper)
def anyB(d:Option Nat)(v:BV):Bool:=match d,v with
 |some _,_=>true
 |none,.any=>true
 |none,_=>false
def QgL(sp:Bool)(m:Nat)(K:List BRow→TS→HS→Option R):Nat→Nat→List BRow→TS→HS→Option R
 |0,i,acc,ts,hs=>if Nat.beq m i then K acc.reverse ts hs else none
 |f+1,i,acc,ts,hs=>match ops[i]? with
  |none=>none
  |some o=>match o.guard with
   |none=>opK P ty E sp nn [] o ts hs fun e ts' hs'=>if anyB o.dst e.v then QgL sp m K f (i+1) ((o.dst,rdB ts o.op.operands.toList,e)::acc) ts' hs' else none
   |some (j,b)=>match (ops[j]?).bind (·.dst)with
    |none=>none
    |some g=>match look g ts with
     |some (.b q)=>cnd q
       (match b with
        |true=>opK P ty E sp nn [(g,.b true)] o ts hs fun e ts' hs'=>if anyB o.dst e.v then QgL sp m K f (i+1) ((o.dst,(g,.b true)::rdB ts o.op.operands.toList,e)::acc) ts' hs' else none
        |false=>if Qa4 nn o.dst then QgL sp m K f (i+1) ((o.dst,[(g,.b true)],ev (.tup []))::acc) (putB o.dst (.tup []) ts) hs else none)
       (match b with
        |true=>if Qa4 nn o.dst then QgL sp m K f (i+1) ((o.dst,[(g,.b false)],ev (.tup []))::acc) (putB o.dst (.tup []) ts) hs else none
        |false=>opK P ty E sp nn [(g,.b false)] o ts hs fun e ts' hs'=>if anyB o.dst e.v then QgL sp m K f (i+1) ((o.dst,(g,.b false)::rdB ts o.op.operands.toList,e)::acc) ts' hs' else none)
     |some (.tup [])=>if Qa4 nn o.dst then QgL sp m K f (i+1) ((o.dst,[(g,.tup [])],ev (.tup []))::acc) (putB o.dst (.tup []) ts) hs else none
     |_=>none
end
def noB:BRow:=(none,[],ev .any)
def QwZ(ops:Array Oper):Bool:=match ops[ops.size - 1]? with
 |some ⟨_,.store _ _ _,_,_,_,none⟩=>(List.range (ops.size - 1)).all fun j=>((masks ops.toList []).getD (ops.size - 1) 0).testBit j
 |_=>false
inductive Ann where
 |go
 |two (a b:Ann)
 |one (a:Ann)
 /-- The states that come out of it normally are said in this shape; what follows is said once. -/
 |join (s:List (Nat×SSh)) (o:List (Name×OSh)) (a:Ann)
 /-- A loop whose rounds begin in this shape. -/
 |loop (s:List (Nat×SSh)) (o:List (Name×OSh)) (a:Ann)
 /-- Arrays that are frozen ahead of it. -/
 |frz (ns:List Name) (a:Ann)
def Ann.l:Ann→Ann
 |.two a _=>a
 |.one a=>a
 |.loop _ _ a=>a
 |_=>.go
def Ann.r:Ann→Ann
 |.two _ b=>b
 |_=>.go
section
variable {R:Type} (P:Program) (ty:TypeId→Option TC) (E:Env) (gn:List Name) (nn fu:Nat)
abbrev Cont(R:Type):=Exit→TS→HS→Option R
def QwW(σ:Ren):Bool:=σ.all fun p=>Nat.beq p.1 p.2.1 && QkT p.1 p.2.1 p.2.2 σ
def Qyi(n:Name)(hs:HS):Nat:=match look n hs with
 |some (.arr _ _ v)=>v
 |_=>0
def getS(s:List (Nat×SSh))(o:List (Name×OSh))(ts:TS)(hs:HS)(K:STL s×OL o→Option R):Option R:=
 STL.get s ts [] fun σ x=>OL.get o hs (gn.map (fun n=>(n,(n,Qyi n hs)))++σ) fun σ y=>if QwW σ && gn.all (fun n=>isIn n (keys o))then K (x,y)else none
def thawA(o:List (Name×OSh))(t:Nat):Nat→List Sh→TS→HS→(TS→HS→Option R)→Option R
 |_,[],ts,hs,K=>K ts hs
 |j,.own nm::r,ts,hs,K=>match look t ts with
  |some (.agg cells)=>match cells[j]?,look nm o with
   |some .nil,some (.arr tc)=>if (look nm hs).isNone && Qdv nm ts hs && Nat.ble 1 (tz tc)then thawA o t (j+1) r ((t,.agg (cells.set j (.own nm 0)))::ts) ((nm,.arr tc [] 0)::hs) K else none
   |some (.ts true _ []),some (.arr tc)=>if (look nm hs).isNone && Qdv nm ts hs && Nat.ble 1 (tz tc)then thawA o t (j+1) r ((t,.agg (cells.set j (.own nm 0)))::ts) ((nm,.arr tc [] 0)::hs) K else none
   |_,_=>thawA o t (j+1) r ts hs K
  |_=>thawA o t (j+1) r ts hs K
 |j,_::r,ts,hs,K=>thawA o t (j+1) r ts hs K
def Qky(o:List (Name×OSh)):List (Nat×SSh)→TS→HS→(TS→HS→Option R)→Option R
 |(t,.agg l)::r,ts,hs,K=>thawA o t 0 l ts hs fun ts hs=>Qky o r ts hs K
 |(t,.one (.own nm))::r,ts,hs,K=>match look t ts,look nm o with
  |some .nil,some (.arr tc)=>if (look nm hs).isNone && Qdv nm ts hs && Nat.ble 1 (tz tc)then Qky o r ((t,.own nm 0)::ts) ((nm,.arr tc [] 0)::hs) K else none
  |some (.ts true _ []),some (.arr tc)=>if (look nm hs).isNone && Qdv nm ts hs && Nat.ble 1 (tz tc)then Qky o r ((t,.own nm 0)::ts) ((nm,.arr tc [] 0)::hs) K else none
  |_,_=>Qky o r ts hs K
 |_::r,ts,hs,K=>Qky o r ts hs K
 |[],ts,hs,K=>K ts hs
def QmM(o:List (Name×OSh))(m:Name)(ts:TS):Nat→List Sh→HS→(HS→Option R)→Option R
 |_,[],hs,K=>K hs
 |j,.own nm::r,hs,K=>match look m hs with
  |some (.box cells)=>match cells[j]?,look nm o with
   |some .nil,some (.arr tc)=>if (look nm hs).isNone && Qdv nm ts hs && Nat.ble 1 (tz tc)then QmM o m ts (j+1) r ((m,.box (cells.set j (.own nm 0)))::(nm,.arr tc [] 0)::hs) K else none
   |some (.ts true _ []),some (.arr tc)=>if (look nm hs).isNone && Qdv nm ts hs && Nat.ble 1 (tz tc)then QmM o m ts (j+1) r ((m,.box (cells.set j (.own nm 0)))::(nm,.arr tc [] 0)::hs) K else none
   |_,_=>QmM o m ts (j+1) r hs K
  |_=>QmM o m ts (j+1) r hs K
 |j,_::r,hs,K=>QmM o m ts (j+1) r hs K
def QrM(o:List (Name×OSh))(ts:TS):List (Name×OSh)→HS→(HS→Option R)→Option R
 |(m,.box l)::r,hs,K=>QmM o m ts 0 l hs fun hs=>QrM o ts r hs K
 |_::r,hs,K=>QrM o ts r hs K
 |[],hs,K=>K hs
def Qx0(s:List (Nat×SSh))(t:Nat):Bool:=(look t s).isSome
def Qs5(gn:List Name)(o:List (Name×OSh))(hs:HS)(n:Name):Bool:=match look n hs with
 |some (.box _)=>(look n o).isSome || isIn n gn
 |_=>true
def QnJ(gn:List Name)(o:List (Name×OSh))(ts:TS)(hs:HS)(n:Name):Bool:=match look n hs with
 |some (.arr _ _ _)=>isIn n gn || (look n o).isNone || !Qdv n ts hs
 |_=>true
def Qlb(s:List (Nat×SSh))(o:List (Name×OSh))(ts:TS)(hs:HS)(K:STL s×OL o→Option R):Option R:=
 QoG (Qx0 s) [] ts fun ts'=>QoG (Qs5 gn o hs) [] hs fun hs'=>frzK gn (Ut o hs (s.map (·.2)) (s.map fun p=>(look p.1 ts).getD .any)) ts' hs' fun ts hs=>QoG (QnJ gn o ts hs) [] hs fun hs=>Qky o s ts hs fun ts hs=>QrM o ts o hs fun hs=>getS gn s o (QvH hs s ts) hs K
def Qvc(K:Cont R)(N:TS→HS→Option R):Cont R:=fun e ts hs=>match e with
 |.normal=>N ts hs
 |e=>K e ts hs
def QvO(id:Nat)(K:Cont R):Cont R:=fun e ts hs=>match e with
 |.exit k=>if Nat.beq k id then K .normal ts hs else K (.exit k) ts hs
 |e=>K e ts hs
def around(an:Ann)(ts:TS)(hs:HS)(K:Cont R)(body:Ann→TS→HS→Cont R→Option R):Option R:=match an with
 |.join s o a=>join (fun y:STL s×OL o=>K .normal (STL.put 0 s y.1) (OL.put 0 o y.2)) fun J=>body a ts hs (Qvc K fun ts hs=>Qlb gn s o ts hs J)
 |.frz ns a=>frzK gn ns ts hs fun ts hs=>body a ts hs K
 |a=>body a ts hs K
def vc[DecidableEq R]:Code→Ann→TS→HS→Cont R→Option R
 |.skip,an,ts,hs,K=>K .normal ts hs
 |.label _,an,ts,hs,K=>K .normal ts hs
 |.ret,an,ts,hs,K=>K .ret ts hs
 |.exit id,an,ts,hs,K=>K (.exit id) ts hs
 |.seq a b,an,ts,hs,K=>around gn an ts hs K fun an ts hs K=>vc a an.l ts hs (Qvc K fun ts hs=>vc b an.r ts hs K)
 |.cond (.tmp t) a b,an,ts,hs,K=>around gn an ts hs K fun an ts hs K=>match look t ts with
  |some (.b q)=>cnd q (vc a an.l ts hs K) (vc b an.r ts hs K)
  |some .ub=>both (vc a an.l ts hs K) (vc b an.r ts hs K)
  |_=>none
 |.cond (.const (.bool q)) a b,an,ts,hs,K=>around gn an ts hs K fun an ts hs K=>match q with
  |true=>vc a an.l ts hs K
  |false=>vc b an.r ts hs K
 |.block id a,an,ts,hs,K=>around gn an ts hs K fun an ts hs K=>vc a an.l ts hs (QvO id K)
 |.loop a,an,ts,hs,K=>match an with
  |.loop s o an=>Qlb gn s o ts hs fun x=>Qh (fun Lp x=>vc a an (STL.put 0 s x.1) (OL.put 0 o x.2) (Qvc K fun ts hs=>Qlb gn s o ts hs Lp)) fu x
  |_=>none
 |.region _ ops dr,an,ts,hs,K=>around gn an ts hs K fun an ts hs K=>match dr with
  |false=>regK P ty E gn nn ops (guarded ops) (fun ts hs=>K .normal ts hs) ops.size 0 ts hs
  |true=>if P.follows .mixedOrders then(match QwZ ops with
   |true=>QgL P ty E nn ops (guarded ops) (ops.size - 1) (fun rows ts' hs'=>if Qjf ops (rows++[noB]) ts hs then(match ops[ops.size - 1]? with
    |some o=>exK P ty E gn nn (guarded ops) [] o ts' hs' (fun ts hs=>K .normal ts hs)
    |none=>none)else none) (ops.size - 1) 0 [] ts hs
   |false=>QgL P ty E nn ops (guarded ops) ops.size (fun rows ts' hs'=>if Qjf ops rows ts hs then K .normal ts' hs' else none) ops.size 0 [] ts hs)else none
 |_,_,_,_,_=>none
end
/-
  The typed layer, part M: code does what is reckoned of it. No project text.
-/
section
open Go
theorem AWp.drawG{P:Program}{Γ:Ctx}{id:Nat}{ops:Array Oper}{ts ts':List (Nat×AV)}{hs hs':List (Name×AO)}{Q:Exit→AS→Prop}{n:Nat}(hn:Γ.n=n)(hmode:(P.follows .mixedOrders || !Region.departs ops)=true)(L:List Row)(hst:WC P ops 0 L)(hg:got n L ts hs=(V5 L,V4 L,true,ts',hs'))(hind:indep ops L ts hs=true)(hQ:Q .normal (mk ts' hs')):AWp P Γ (.region id ops true) (mk ts hs) Q:=by
 intro ρ M a w hsim
 refine wp_region_draw fun t=>?_
 have hsch:Region.schedule (P.follows .mixedOrders) ops t=Region.linearise .any ops t:=by
  unfold Region.schedule;rw[hmode];rfl
 rw[hsch]
 refine wpAny_sound ops.size t _ a _ ?_
 refine Qm0 hn hst (by rw[hg]) (by rw[hg]) (by rw[hg]) hind (Q:=fun e a' w'=>∃s' ρ' M',Q e s'∧Sim Γ ρ' M' s' a' w') (fun ρ' M' a' w' hs=>⟨_,ρ',M',hQ,by rw[hg]at hs;exact hs⟩)
  ops.size (Array.replicate ops.size false) a _ ρ M (by simp) (fun i o hi hl=>by simp[Array.getD_eq_getD_getElem?,Array.getElem?_replicate]at hl;split at hl<;>simp at hl) ?_ ?_
 ·have:∀(f:Nat→Bool) k,cnt f k≤k:=by
   intro f k
   induction k with
   |zero=>exact Nat.le_refl _
   |succ k ih=>simp only[cnt];split<;>omega
  exact this _ _
 ·refine hsim.drew.congr (fun t=>?_) (fun m=>?_)
  ·have:=V8 (E:=fun i=>WQ L i) (D:=fun i=>(Array.replicate ops.size false).getD i false) (s:=mk ts hs) (t:=t) (i:=0) L.length (by omega) (fun j _ _ _=>by
    simp only[Array.getD_eq_getD_getElem?,Array.getElem?_replicate];split<;>rfl)
   exact this
  ·have:=W1 (E:=fun i=>WQ L i) (D:=fun i=>(Array.replicate ops.size false).getD i false) (s:=mk ts hs) (m:=m) (i:=0) L.length (by omega) (fun j _ _ _=>by
    simp only[Array.getD_eq_getD_getElem?,Array.getElem?_replicate];split<;>rfl)
   exact this
theorem AWp.drawX{P:Program}{Γ:Ctx}{id:Nat}{ops:Array Oper}{ts ts':List (Nat×AV)}{hs hs':List (Name×AO)}{Q:Exit→AS→Prop}{n:Nat}(hn:Γ.n=n)(hmode:(P.follows .mixedOrders || !Region.departs ops)=true)(h0:0<ops.size)(L:List Row)(hst:QbP P ops (ops.size - 1) 0 L)(hg:got n L ts hs=(V5 L,V4 L,true,ts',hs'))(hind:indep ops (L++[QbY]) ts hs=true)(hm:∀j,j<ops.size - 1→((masks ops.toList []).getD (ops.size - 1) 0).testBit j=true)(hlast:∀(K:Act→World→Prop),(∀s' ρ' M' a' w',Q .normal s'→Sim Γ ρ' M' s' a' w'→K a' w')→∀ρ M a w,Sim Γ ρ M (mk ts' hs') a w→
   wpOp P ops (fun e a' w'=>∃s' ρ' M',Q e s'∧Sim Γ ρ' M' s' a' w') (ops.size - 1) K a w):AWp P Γ (.region id ops true) (mk ts hs) Q:=by
 obtain⟨hsteps,hsize⟩:=Qhh hst
 have hlen:(L++[QbY]).length=ops.size:=by simp;omega
 have hL:L.length=ops.size - 1:=by omega
 intro ρ M a w hsim
 refine wp_region_draw fun t=>?_
 have hsch:Region.schedule (P.follows .mixedOrders) ops t=Region.linearise .any ops t:=by
  unfold Region.schedule;rw[hmode];rfl
 rw[hsch]
 refine wpAny_sound ops.size t _ a _ ?_
 have hgn:=QnG n L ts hs
 refine QkE (L:=L++[QbY]) true hn (Q:=fun e a' w'=>∃s' ρ' M',Q e s'∧Sim Γ ρ' M' s' a' w') (fun i y hi hlt=>?_) hlen.symm (by rw[hgn,hg,Qj5]) (by rw[hgn,hg,Qj4]) (by rw[hgn,hg]) hind
  (fun _=>?_) (fun h=>by simp at h) ops.size (Array.replicate ops.size false) a _ ρ M (by simp) (fun _=>by
   simp only[Array.getD_eq_getD_getElem?,Array.getElem?_replicate];split<;>rfl) (fun i o hi hl=>by simp[Array.getD_eq_getD_getElem?,Array.getElem?_replicate]at hl;split at hl<;>simp at hl) ?_ ?_
 ·grind
 ·grind
 ·have:∀(f:Nat→Bool) k,cnt f k≤k:=by
   intro f k
   induction k with
   |zero=>exact Nat.le_refl _
   |succ k ih=>simp only[cnt];split<;>omega
  exact this _ _
 ·refine hsim.drew.congr (fun t=>?_) (fun m=>?_)
  ·have:=V8 (E:=fun i=>WQ (L++[QbY]) i) (D:=fun i=>(Array.replicate ops.size false).getD i false) (s:=mk ts hs) (t:=t) (i:=0) (L++[QbY]).length (by omega) (fun j _ _ _=>by
    simp only[Array.getD_eq_getD_getElem?,Array.getElem?_replicate];split<;>rfl)
   exact this
  ·have:=W1 (E:=fun i=>WQ (L++[QbY]) i) (D:=fun i=>(Array.replicate ops.size false).getD i false) (s:=mk ts hs) (m:=m) (i:=0) (L++[QbY]).length (by omega) (fun j _ _ _=>by
    simp only[Array.getD_eq_getD_getElem?,Array.getElem?_replicate];split<;>rfl)
   exact this
variable {L L':Lens} {ts ts':TS} {hs hs':HS}
theorem QwO{t:Nat}{v:BV}(h:erT L ts=erT L' ts)(hm:(t,v)∈ts):v.er L=v.er L':=by
 unfold erT at h
 have:=(List.map_inj_left.1 h) _ hm
 simpa using this
theorem QsM{t:Name}{v:BO}(h:erH L hs=erH L' hs)(hm:(t,v)∈hs):v.er L=v.er L':=by
 unfold erH at h
 have:=(List.map_inj_left.1 h) _ hm
 simpa using this
theorem QwQ{rd:TS}(h:erT L ts=erT L' ts)(hs:∀t v,(t,v)∈rd→look t ts=some v):erT L rd=erT L' rd:=by
 unfold erT
 exact List.map_congr_left fun p hp=>by rw[QwO h (Q0 (hs p.1 p.2 hp))]
theorem QwN{hp:HS}(h:erH L hs=erH L' hs)(hsub:∀t v,(t,v)∈hp→look t hs=some v):erH L hp=erH L' hp:=by
 unfold erH
 exact List.map_congr_left fun p hp=>by rw[QsM h (Q0 (hsub p.1 p.2 hp))]
theorem QwM{a b:HS}(h:erH L (a++b)=erH L' (a++b)):erH L a=erH L' a∧erH L b=erH L' b:=by
 rw[Qee,Qee]at h
 exact List.append_inj h (by simp[erH])
theorem QwP{d:Option Nat}{v:BV}(h:erT L (putB d v ts)=erT L' (putB d v ts))(ha:anyB d v=true):erT L ts=erT L' ts∧v.er L=v.er L':=by
 cases d with
 |some d=>
  simp only[putB,erT,List.map_cons,List.cons.injEq,Prod.mk.injEq,true_and]at h
  exact⟨h.2,h.1⟩
 |none=>
  refine⟨h,?_⟩
  cases v<;>first|rfl|simp[anyB]at ha
section
variable {R:Type} {r:R} {P:Program} {ty:TypeId→Option TC} {E:Env} {nn:Nat}
theorem Qqf{d:Option Nat}{e:Eff}{rows:List Row}{ts:List (Nat×AV)}{hs:List (Name×AO)}{ts':List (Nat×AV)}{hs':List (Name×AO)}(h1:∀t x,(t,x)∈e.rd→look t ts=some x)(h2:∀n o,(n,o)∈e.hp→look n hs=some o)(hd:Qa4 nn d=true)(hnw:QnU e ts hs=true)(h:got nn rows (putT ts d e) (e.upd++hs)=(V5 rows,V4 rows,true,ts',hs')):got nn ((d,e)::rows) ts hs=(V5 ((d,e)::rows),V4 ((d,e)::rows),true,ts',hs'):=by
 simp only[got,h,V5,V4,hd,hnw,Bool.and_self]
 have e1:e.rd.map (fun p=>look p.1 ts)=e.rd.map (fun p=>some p.2):=List.map_congr_left fun p hp=>h1 p.1 p.2 hp
 have e2:e.hp.map (fun p=>look p.1 hs)=e.hp.map (fun p=>some p.2):=List.map_congr_left fun p hp=>h2 p.1 p.2 hp
 rw[e1,e2]
theorem Qeb{sp:Bool}{mm:Nat}{ops:Array Oper}{K:List BRow→TS→HS→Option R}(hE:QmU P E):∀(f i:Nat) (acc:List BRow) (ts:TS) (hs:HS) (L:Lens),QgL P ty E nn ops sp mm K f i acc ts hs=some r→Inv L hs→
  ∃rows ts' hs' L',K (acc.reverse++rows) ts' hs'=some r∧Inv L' hs'∧QbP P ops mm i (rows.map (BRow.row L'))∧erT L ts=erT L' ts∧erH L hs=erH L' hs∧
   got nn (rows.map (BRow.row L')) (erT L' ts) (erH L' hs)=(V5 (rows.map (BRow.row L')),V4 (rows.map (BRow.row L')),true,erT L' ts',erH L' hs')
 |0,i,acc,ts,hs,L,h,hi=>by
  simp only[QgL]at h
  split at h
  ·rename_i e
   exact⟨[],ts,hs,L,by simpa using h,hi,nbe e,rfl,rfl,by simp only[List.map_nil,got,V5,V4]⟩
  ·simp at h
 |f+1,i,acc,ts,hs,L,h,hi=>by
  simp only[QgL]at h
  split at h
  ·simp at h
  ·rename_i o hop
   have hdo:∀(x:TS),(∀t v,(t,v)∈x→look t ts=some v)→(∀e':Eff,(∀p,p∈x→(p.1,p.2.er L)∈e'.rd)→OpOK P o e'→Zs P ops i o.dst e')→
     opK P ty E sp nn x o ts hs (fun e ts' hs'=>if anyB o.dst e.v then QgL P ty E nn ops sp mm K f (i+1) ((o.dst,x++rdB ts o.op.operands.toList,e)::acc) ts' hs' else none)=some r→
     ∃rows ts' hs' L',K (acc.reverse++rows) ts' hs'=some r∧Inv L' hs'∧QbP P ops mm i (rows.map (BRow.row L'))∧erT L ts=erT L' ts∧erH L hs=erH L' hs∧
      got nn (rows.map (BRow.row L')) (erT L' ts) (erH L' hs)=(V5 (rows.map (BRow.row L')),V4 (rows.map (BRow.row L')),true,erT L' ts',erH L' hs'):=fun x hx hstp h=>by
    obtain⟨e,L1,hst,hd,h⟩:=Qqz hE hx h hi
    split at h
    case isFalse=>simp at h
    rename_i hany
    obtain⟨rows,ts',hs',L',k1,k2,k3,k4,k5,k6⟩:=Qeb (sp:=sp) (mm:=mm) (ops:=ops) (K:=K) hE f (i+1) _ _ _ L1 h hst.inv
    obtain⟨p1,p2⟩:=QwP k4 hany
    obtain⟨q1,q2⟩:=QwM k5
    have hts:erT L ts=erT L' ts:=hst.ets.trans p1
    have hhs:erH L hs=erH L' hs:=hst.ehs.trans q2
    have hrd:=QwQ hts hst.rds
    have hhp:=QwN hhs hst.hps
    have hok:=hst.ok
    rw[p2,q1]at hok
    refine⟨(o.dst,x++rdB ts o.op.operands.toList,e)::rows,ts',hs',L',by simpa using k1,k2,⟨?_,k3⟩,hts,hhs,?_⟩
    ·have:=hstp _ (fun p hp=>List.mem_map.2 ⟨p,List.mem_append_left _ hp,rfl⟩) hok
     simp only[BRow.row,←hrd,←hhp];exact this
    ·simp only[List.map_cons]
     refine Qqf (fun t y hy=>?_) (fun n ob hy=>?_) hd ?_ ?_
     ·simp only[BRow.row,erT,List.mem_map]at hy
      obtain⟨⟨t',v⟩,hm,he⟩:=hy
      cases he
      rw[Qae,hst.rds _ _ hm];rfl
     ·simp only[BRow.row,erH,List.mem_map]at hy
      obtain⟨⟨t',v⟩,hm,he⟩:=hy
      cases he
      rw[Z2,hst.hps _ _ hm];rfl
     ·have hnew:=hst.new
      unfold Qvb at hnew
      simp only[QnU,BRow.row,Qef,Qcu]
      refine List.all_eq_true.2 fun n hn=>?_
      have:=List.all_eq_true.1 hnew n hn
      simp only[bae]at this ⊢
      refine⟨⟨?_,this.1.2⟩,this.2⟩
      rw[Z2]
      cases hl:look n hs with
      |none=>rfl
      |some y=>rw[hl]at this;simp at this
     ·have e3:∀t1 h1,t1=erT L' (putB o.dst e.v ts)→h1=erH L' (e.upd++hs)→got nn (rows.map (BRow.row L')) t1 h1=(V5 (rows.map (BRow.row L')),V4 (rows.map (BRow.row L')),true,erT L' ts',erH L' hs'):=fun t1 h1 a b=>by rw[a,b];exact k6
      exact e3 _ _ (by show putT (erT L' ts) o.dst _=_;cases o.dst<;>rfl) (by rw[Qee])
   have hskip:∀{j:Nat} {b:Bool} {g:Nat} {v:BV},o.guard=some (j,b)→(ops[j]?).bind (·.dst)=some g→look g ts=some v→(v=.b (!b)∨v=.tup [])→
     (if Qa4 nn o.dst then QgL P ty E nn ops sp mm K f (i+1) ((o.dst,[(g,v)],ev (.tup []))::acc) (putB o.dst (.tup []) ts) hs else none)=some r→
     ∃rows ts' hs' L',K (acc.reverse++rows) ts' hs'=some r∧Inv L' hs'∧QbP P ops mm i (rows.map (BRow.row L'))∧erT L ts=erT L' ts∧erH L hs=erH L' hs∧
      got nn (rows.map (BRow.row L')) (erT L' ts) (erH L' hs)=(V5 (rows.map (BRow.row L')),V4 (rows.map (BRow.row L')),true,erT L' ts',erH L' hs'):=fun{j b g v} hg hj hl hv h=>by
    split at h
    case isFalse=>simp at h
    rename_i hd
    obtain⟨rows,ts',hs',L',k1,k2,k3,k4,k5,k6⟩:=Qeb (sp:=sp) (mm:=mm) (ops:=ops) (K:=K) hE f (i+1) _ _ _ L h hi
    have hts:erT L ts=erT L' ts:=by
     cases hdd:o.dst with
     |none=>rw[hdd]at k4;exact k4
     |some d=>rw[hdd]at k4;simp only[putB,erT,List.map_cons,List.cons.injEq]at k4;exact k4.2
    obtain⟨oj,h1,h2⟩:=Vx hj
    refine⟨(o.dst,[(g,v)],ev (.tup []))::rows,ts',hs',L',by simpa using k1,k2,⟨?_,k3⟩,hts,k5,?_⟩
    ·rcases hv with rfl|rfl
     ·exact Zs.skipped hop hg h1 h2
     ·exact Zs.skipped2 hop hg h1 h2
    ·simp only[List.map_cons]
     refine Qqf (fun t y hy=>?_) (fun n ob hy=>?_) hd ?_ ?_
     ·simp only[BRow.row,erT,List.map_cons,List.map_nil,List.mem_singleton,Prod.mk.injEq]at hy
      obtain⟨rfl,rfl⟩:=hy
      rw[Qae,hl];rfl
     ·simp[BRow.row,ev,erH]at hy
     ·simp[QnU,BRow.row,ev]
     ·have e3:∀t1 h1,t1=erT L' (putB o.dst (.tup []) ts)→h1=erH L' hs→got nn (rows.map (BRow.row L')) t1 h1=(V5 (rows.map (BRow.row L')),V4 (rows.map (BRow.row L')),true,erT L' ts',erH L' hs'):=fun t1 h1 a b=>by rw[a,b];exact k6
      exact e3 _ _ (by show putT (erT L' ts) o.dst _=_;cases o.dst<;>rfl) rfl
   have hgd:∀{j:Nat} {b:Bool} {g:Nat},o.guard=some (j,b)→(ops[j]?).bind (·.dst)=some g→∀e':Eff,(∀p:Nat×BV,p∈[(g,BV.b b)]→(p.1,p.2.er L)∈e'.rd)→OpOK P o e'→Zs P ops i o.dst e':=fun{j b g} hg hj e' hm hok=>by
    obtain⟨oj,h1,h2⟩:=Vx hj
    have:=hm (g,BV.b b) (by simp)
    simp only[BV.er]at this
    exact Zs.guarded hop hg h1 h2 this hok
   have hx1:∀{g:Nat} {b:Bool},look g ts=some (.b b)→∀t v,(t,v)∈[(g,BV.b b)]→look t ts=some v:=fun hl t v hm=>by
    simp only[List.mem_singleton,Prod.mk.injEq]at hm;obtain⟨rfl,rfl⟩:=hm;exact hl
   split at h
   ·rename_i hg
    exact hdo [] (fun t v hm=>by simp at hm) (fun e' _ hok=>Zs.plain hop hg hok) h
   ·rename_i j b hg
    split at h
    ·simp at h
    ·rename_i g hj
     split at h
     ·rename_i q hl
      rcases QfT h with⟨rfl,h⟩|⟨rfl,h⟩
      ·cases b with
       |true=>exact hdo [(g,.b true)] (hx1 hl) (hgd hg hj) h
       |false=>exact hskip hg hj hl (.inl rfl) h
      ·cases b with
       |true=>exact hskip hg hj hl (.inl rfl) h
       |false=>exact hdo [(g,.b false)] (hx1 hl) (hgd hg hj) h
     ·rename_i hl
      exact hskip hg hj hl (.inr rfl) h
     ·simp at h
mutual
theorem Qv7:∀x:AV,x.ren (fun n=>n)=x
 |.p _=>by simp only[AV.ren]
 |.agg cs=>by simp only[AV.ren,QdS cs]
 |.ref _ _=>by simp only[AV.ren]
 |.own _ _=>by simp only[AV.ren]
 |.aref _ _ _ _=>by simp only[AV.ren]
 |.view _ _ _ _=>by simp only[AV.ren]
 |.eptr _=>by simp only[AV.ren]
 |.tup vs=>by simp only[AV.ren,QdS vs]
 |.clo f a c=>by simp only[AV.ren,QdS a,QdS c]
 |.oref _ _=>by simp only[AV.ren]
 |.err _=>by simp only[AV.ren]
 |.ub=>by simp only[AV.ren]
 |.any=>by simp only[AV.ren]
theorem QdS:∀l:List AV,renL (fun n=>n) l=l
 |[]=>by simp only[renL]
 |x::r=>by simp only[renL,Qv7 x,QdS r]
end
theorem QoK{σ:Ren}(h:QwW σ=true):Fit (fun n=>n) (Qgz σ) σ:=fun nm m hm=>by
 have:=List.all_eq_true.1 h _ hm
 simp only[bae]at this
 refine⟨nbe this.1,?_⟩
 unfold Qgz;rw[Qjk this.2]
theorem QsV{gn:List Name}{s:List (Nat×SSh)}{o:List (Name×OSh)}{K:STL s×OL o→Option R}(h:getS gn s o ts hs K=some r)(hi:Inv L hs):
  ∃x L',K x=some r∧Inv L' (OL.put 0 o x.2)∧SLe L ts hs L' (STL.put 0 s x.1) (OL.put 0 o x.2)∧∀n,n∈gn→look n (OL.put 0 o x.2)≠none:=by
 obtain⟨σ1,x,h,hs1,g1⟩:=STL.get_some h
 obtain⟨σ2,y,h,hs2,g2⟩:=OL.get_some h
 split at h
 case isFalse=>simp at h
 rename_i hid
 simp only[bae]at hid
 have hf2:=QoK hid.1
 have hf1:Fit (fun n=>n) (Qgz σ2) σ1:=hf2.mono fun p hp=>hs2 p (List.mem_append_right _ hp)
 refine⟨(x,y),UZ L (fun n=>n) (Qgz σ2),h,fun n t l v hn=>?_,⟨fun t b hb=>?_,fun n cs' hn=>?_,fun n t l v hn=>?_,fun n es hn=>?_⟩,fun n hn hc=>?_⟩
 ·obtain⟨a,ha,hle⟩:=g2 _ _ L hf2 n _ hn
  rcases hle with⟨cs,ds,_,h2,_⟩|⟨t',l',rfl,h2⟩|⟨es,_,h2⟩
  ·cases h2
  ·cases h2;exact hi n t l _ ha
  ·cases h2
 ·obtain⟨a,ha,hle⟩:=g1 _ _ L hf1 t b hb
  rw[Qv7]at hle
  exact⟨a,ha,hle⟩
 ·obtain⟨a,ha,hle⟩:=g2 _ _ L hf2 n _ hn
  rcases hle with⟨cs,ds,rfl,h2,h3⟩|⟨t',l',rfl,h2⟩|⟨es,_,h2⟩
  ·cases h2;rw[QdS]at h3;exact⟨cs,ha,h3⟩
  ·cases h2
  ·cases h2
 ·obtain⟨a,ha,hle⟩:=g2 _ _ L hf2 n _ hn
  rcases hle with⟨cs,ds,_,h2,_⟩|⟨t',l',rfl,h2⟩|⟨es,_,h2⟩
  ·cases h2
  ·cases h2;exact⟨_,ha⟩
  ·cases h2
 ·obtain⟨a,ha,hle⟩:=g2 _ _ L hf2 n _ hn
  rcases hle with⟨cs,ds,_,h2,_⟩|⟨t',l',rfl,h2⟩|⟨es,rfl,h2⟩
  ·cases h2
  ·cases h2
  ·cases h2;exact ha
 ·have:=Wt.1 (List.all_eq_true.1 hid.2 n hn)
  obtain⟨b,hb⟩:=Qei (u:=0) (y:=y) this
  simp_all
theorem Qqo:∀(l:List (Nat×AV)),∃l',(∀k,look k l'=look k l)∧l'.map (fun p=>look p.1 l)=l'.map (fun p=>some p.2):=by
  intro l
  induction l with
  |nil=>exact⟨[],fun _=>rfl,rfl⟩
  |cons p l ih=>
   obtain⟨l',g1,g2⟩:=ih
   refine⟨p::(l'.filter fun q=>!(q.1 == p.1)),fun k=>?_,?_⟩
   ·simp only[look]
    split
    ·rfl
    ·rename_i hne
     rw[←g1]
     clear g1 g2
     induction l' with
     |nil=>rfl
     |cons q l' ih=>
      by_cases hq:q.1=p.1
      ·rw[List.filter_cons_of_neg (by simp[hq]),ih]
       simp only[look]
       simp_all
      ·rw[List.filter_cons_of_pos (by simp[hq])]
       simp only[look]
       simp_all
   ·simp only[List.map_cons,look,if_true]
    congr 1
    refine List.map_congr_left fun q hq=>?_
    have hq':=List.mem_filter.1 hq
    have hne:¬p.1=q.1:=fun e=>by have:=hq'.2;rw[e]at this;simp at this
    rw[if_neg hne]
    exact(List.map_inj_left.1 g2) q hq'.1
theorem QvD{Γ:Ctx}{t nm:Nat}{j es0:Nat}{tc:TC}{cells:List BV}{v:BV}(hm:look t ts=some (.agg cells))(hj:cells[j]?=some v)(hv:∀L,v.er L=.p (.sl true es0 []))(hb:(look nm hs).isNone=true)(hf:Qdv nm ts hs=true)(ht:Nat.ble 1 (tz tc)=true)(hi:Inv L hs):
  ∃L',Inv L' ((nm,.arr tc [] 0)::hs)∧Weak Γ (BS L ts hs) (BS L' ((t,.agg (cells.set j (.own nm 0)))::ts) ((nm,.arr tc [] 0)::hs)):=by
 let L1:Lens:=fun n u=>if n=nm then 0 else L n u
 have hnm:look nm hs=none:=Option.isNone_iff_eq_none.1 hb
 obtain⟨e1,e2⟩:=QfY (L:=L) (L':=L1) (nw:=[nm]) (nv:=[]) (ts:=ts) (hs:=hs) (fun n hn=>by simp only[List.mem_singleton]at hn;subst hn;exact hf) (fun p hp=>by simp at hp) (fun n u hn _=>if_neg (by simpa using hn))
 have ec:erL L cells=erL L1 cells:=by
  have h1:look t (erT L ts)=look t (erT L1 ts):=by rw[e1]
  rw[Qae,Qae,hm,Option.map_some,Option.map_some]at h1
  simp only[BV.er,Option.some.injEq,AV.agg.injEq]at h1
  exact h1
 have hi1:Inv L1 ((nm,.arr tc [] 0)::hs):=fun n t' l u hn=>by
  simp only[look]at hn
  split at hn
  ·grind
  ·rename_i e;show(if n=nm then 0 else L n u)=_;rw[if_neg (Ne.symm e)];exact hi n t' l u hn
 refine⟨L1,hi1,fun ρ M a w hs0=>?_⟩
 obtain⟨l',g1,g2⟩:=Qqo ((t,AV.agg ((erL L cells).set j (.own nm 0)))::erT L ts)
 have hw:=Weak.thawA (Γ:=Γ) (ts:=erT L ts) (ts':=l') (hs:=erH L hs) (t:=t) (j:=j) (es0:=es0) (es:=tz tc) (n:=nm) (cells:=erL L cells) ht (by rw[Qae,hm,Option.map_some];simp only[BV.er])
  (by rw[QgN,hj,Option.map_some,hv L]) (by rw[Z2,hnm];rfl) (by rw[Qef];exact hf) g2
 obtain⟨ρ',M',hs1⟩:=hw ρ M a w hs0
 refine⟨ρ',M',hs1.congr (fun k=>?_) (fun k=>?_)⟩
 ·show look k (erT L1 ((t,.agg (cells.set j (.own nm 0)))::ts))=look k l'
  rw[g1]
  have:erL L1 (cells.set j (.own nm 0))=(erL L cells).set j (.own nm 0):=by
   rw[ec,Vz,Vz,List.map_set]
   simp only[BV.er,show L1 nm 0=0 from if_pos rfl]
  show look k ((t,(BV.agg (cells.set j (.own nm 0))).er L1)::erT L1 ts)=_
  simp only[BV.er,this,←e1]
 ·show look k (erH L1 ((nm,.arr tc [] 0)::hs))=look k ((nm,.arr (tz tc) [])::erH L hs)
  show look k ((nm,(BO.arr tc [] 0).er L1)::erH L1 hs)=_
  simp only[BO.er,List.map_nil,←e2]
theorem Qci{o:List (Name×OSh)}{t:Nat}{Γ:Ctx}:∀{l:List Sh} {j:Nat} {ts:TS} {hs:HS} {L:Lens} {K:TS→HS→Option R},thawA o t j l ts hs K=some r→Inv L hs→
  ∃ts' hs' L',K ts' hs'=some r∧Inv L' hs'∧Weak Γ (BS L ts hs) (BS L' ts' hs')
 |[],j,ts,hs,L,K,h,hi=>⟨ts,hs,L,h,hi,Weak.refl _ _⟩
 |s::l,j,ts,hs,L,K,h,hi=>by
  have hth:∀{nm:Name} {tc:TC} {v:BV} {es0:Nat} {cells:List BV},look t ts=some (.agg cells)→cells[j]?=some v→(∀L,v.er L=.p (.sl true es0 []))→
    (if (look nm hs).isNone && Qdv nm ts hs && Nat.ble 1 (tz tc)then thawA o t (j+1) l ((t,.agg (cells.set j (.own nm 0)))::ts) ((nm,.arr tc [] 0)::hs) K else none)=some r→
    ∃ts' hs' L',K ts' hs'=some r∧Inv L' hs'∧Weak Γ (BS L ts hs) (BS L' ts' hs'):=fun{nm tc v es0 cells} hm hj hv h=>by
   split at h
   case isFalse=>simp at h
   rename_i hb
   simp only[bae]at hb
   obtain⟨L1,hi1,hw1⟩:=QvD (Γ:=Γ) hm hj hv hb.1.1 hb.1.2 hb.2 hi
   obtain⟨ts',hs',L',k1,k2,k3⟩:=Qci h hi1
   exact⟨ts',hs',L',k1,k2,Weak.trans hw1 k3⟩
  unfold thawA at h
  split at h
  ·rename_i heq;cases heq
  ·rename_i nm r0 heq
   cases heq
   split at h
   ·rename_i cells hm
    split at h
    ·rename_i tc hj ho;exact hth (es0:=0) hm hj (fun L=>by simp only[BV.er]) h
    ·rename_i t0 tc hj ho;exact hth (es0:=tz t0) hm hj (fun L=>by simp only[BV.er,List.map_nil]) h
    ·exact Qci h hi
   ·exact Qci h hi
  ·rename_i heq;cases heq;exact Qci h hi
theorem Qaz{o:List (Name×OSh)}{Γ:Ctx}:∀{s:List (Nat×SSh)} {ts:TS} {hs:HS} {L:Lens} {K:TS→HS→Option R},Qky o s ts hs K=some r→Inv L hs→
  ∃ts' hs' L',K ts' hs'=some r∧Inv L' hs'∧Weak Γ (BS L ts hs) (BS L' ts' hs')
 |[],ts,hs,L,K,h,hi=>⟨ts,hs,L,h,hi,Weak.refl _ _⟩
 |p::s,ts,hs,L,K,h,hi=>by
  obtain⟨t,sh⟩:=p
  have hth:∀{nm:Name} {tc:TC} {v:BV} {es0:Nat},look t ts=some v→(∀L,v.er L=.p (.sl true es0 []))→
    (if (look nm hs).isNone && Qdv nm ts hs && Nat.ble 1 (tz tc)then Qky o s ((t,.own nm 0)::ts) ((nm,.arr tc [] 0)::hs) K else none)=some r→
    ∃ts' hs' L',K ts' hs'=some r∧Inv L' hs'∧Weak Γ (BS L ts hs) (BS L' ts' hs'):=fun{nm tc v es0} hv hv2 h=>by
   split at h
   case isFalse=>simp at h
   rename_i hb
   simp only[bae,Option.isNone_iff_eq_none]at hb
   let L1:Lens:=fun n u=>if n=nm then 0 else L n u
   obtain⟨e1,e2⟩:=QfY (L:=L) (L':=L1) (nw:=[nm]) (nv:=[]) (ts:=ts) (hs:=hs) (fun n hn=>by simp only[List.mem_singleton]at hn;subst hn;exact hb.1.2) (fun p hp=>by simp at hp) (fun n u hn _=>if_neg (by simpa using hn))
   have hi1:Inv L1 ((nm,.arr tc [] 0)::hs):=fun n t' l u hn=>by
    simp only[look]at hn
    split at hn
    ·rename_i e;subst e;cases hn;exact if_pos rfl
    ·rename_i e;show(if n=nm then 0 else L n u)=_;rw[if_neg (Ne.symm e)];exact hi n t' l u hn
   obtain⟨ts',hs',L',k1,k2,k3⟩:=Qaz (Γ:=Γ) h hi1
   refine⟨ts',hs',L',k1,k2,Weak.trans ?_ k3⟩
   obtain⟨l',g1,g2⟩:=Qqo ((t,.own nm 0)::erT L ts)
   have hw:=Weak.thaw (Γ:=Γ) (ts:=erT L ts) (ts':=l') (hs:=erH L hs) (t:=t) (es0:=es0) (es:=tz tc) (n:=nm) hb.2 (by rw[Qae,hv,Option.map_some,hv2 L]) (by rw[Z2,hb.1.1];rfl) (by rw[Qef];exact hb.1.2) g2
   refine fun ρ M a w hs0=>?_
   obtain⟨ρ',M',hs1⟩:=hw ρ M a w hs0
   refine⟨ρ',M',hs1.congr (fun k=>?_) (fun k=>?_)⟩
   ·show look k (erT L1 ((t,.own nm 0)::ts))=look k l'
    rw[g1]
    show look k ((t,(BV.own nm 0).er L1)::erT L1 ts)=_
    simp only[BV.er,show L1 nm 0=0 from if_pos rfl,←e1]
   ·show look k (erH L1 ((nm,.arr tc [] 0)::hs))=look k ((nm,.arr (tz tc) [])::erH L hs)
    show look k ((nm,(BO.arr tc [] 0).er L1)::erH L1 hs)=_
    simp only[BO.er,List.map_nil,←e2]
  unfold Qky at h
  split at h
  ·rename_i t1 l1 r0 heq
   cases heq
   obtain⟨ts1,hs1,L1,h,hi1,hw1⟩:=Qci (Γ:=Γ) h hi
   obtain⟨ts2,hs2,L2,h,hi2,hw2⟩:=Qaz (Γ:=Γ) h hi1
   exact⟨ts2,hs2,L2,h,hi2,Weak.trans hw1 hw2⟩
  ·rename_i nm r0 heq
   split at h
   ·rename_i tc hv ho
    cases heq
    exact hth (es0:=0) hv (fun L=>by simp only[BV.er]) h
   ·rename_i t0 tc hv ho
    cases heq
    exact hth (es0:=tz t0) hv (fun L=>by simp only[BV.er,List.map_nil]) h
   ·cases heq;exact Qaz h hi
  ·rename_i heq;cases heq;exact Qaz h hi
  ·rename_i heq;cases heq
theorem Qub{Γ:Ctx}{m nm:Name}{j es0:Nat}{tc:TC}{cells:List BV}{v:BV}(hm:look m hs=some (.box cells))(hj:cells[j]?=some v)(hv:∀L,v.er L=.p (.sl true es0 []))(hb:(look nm hs).isNone=true)(hf:Qdv nm ts hs=true)(ht:Nat.ble 1 (tz tc)=true)(hi:Inv L hs):
  ∃L',Inv L' ((m,.box (cells.set j (.own nm 0)))::(nm,.arr tc [] 0)::hs)∧Weak Γ (BS L ts hs) (BS L' ts ((m,.box (cells.set j (.own nm 0)))::(nm,.arr tc [] 0)::hs)):=by
 let L1:Lens:=fun n u=>if n=nm then 0 else L n u
 have hnm:look nm hs=none:=Option.isNone_iff_eq_none.1 hb
 have hne:m≠nm:=fun e=>by subst e;rw[hnm]at hm;simp at hm
 obtain⟨e1,e2⟩:=QfY (L:=L) (L':=L1) (nw:=[nm]) (nv:=[]) (ts:=ts) (hs:=hs) (fun n hn=>by simp only[List.mem_singleton]at hn;subst hn;exact hf) (fun p hp=>by simp at hp) (fun n u hn _=>if_neg (by simpa using hn))
 have ec:erL L cells=erL L1 cells:=by
  have:=QsM e2 (Q0 hm)
  simp only[BO.er,AO.box.injEq]at this
  exact this
 refine⟨L1,fun n t' l u hn=>?_,fun ρ M a w hs0=>?_⟩
 ·simp only[look]at hn
  split at hn
  ·cases hn
  ·split at hn
   ·grind
   ·rename_i e;show(if n=nm then 0 else L n u)=_;rw[if_neg (Ne.symm e)];exact hi n t' l u hn
 ·have hs1:Sim Γ ρ M (mk (erT L ts) ((m,.box (erL L cells))::erH L hs)) a w:=hs0.congr (fun k=>rfl) (fun k=>by
   show look k ((m,AO.box (erL L cells))::erH L hs)=look k (erH L hs)
   simp only[look]
   split
   ·rename_i e;subst e;rw[Z2,hm];rfl
   ·rfl)
  have hfree:QcX nm (erT L ts) ((m,.box (erL L cells))::erH L hs)=true:=by
   have h1:=hf
   rw[←Qef (L:=L)]at h1
   simp only[QcX,bae,List.all_cons]at h1 ⊢
   have h2:=List.all_eq_true.1 h1.2 _ (show(m,AO.box (erL L cells))∈erH L hs from Q0 (by rw[Z2,hm];rfl))
   exact⟨h1.1,h2,h1.2⟩
  obtain⟨ρ',M',hs2⟩:=Weak.thawCell (Γ:=Γ) (ts:=erT L ts) (hs':=erH L hs) (m:=m) (j:=j) (es0:=es0) (es:=tz tc) (n:=nm) (cells:=erL L cells) ht rfl (by rw[QgN,hj,Option.map_some,hv L])
   (by simp only[look,if_neg hne,Z2,hnm];rfl) hfree rfl ρ M a w hs1
  refine⟨ρ',M',hs2.congr (fun k=>?_) (fun k=>?_)⟩
  ·show look k (erT L1 ts)=look k (erT L ts)
   rw[e1]
  ·show look k (erH L1 ((m,.box (cells.set j (.own nm 0)))::(nm,.arr tc [] 0)::hs))=look k ((m,.box ((erL L cells).set j (.own nm 0)))::(nm,.arr (tz tc) [])::erH L hs)
   have:erL L1 (cells.set j (.own nm 0))=(erL L cells).set j (.own nm 0):=by
    rw[ec,Vz,Vz,List.map_set]
    simp only[BV.er,show L1 nm 0=0 from if_pos rfl]
   show look k ((m,AO.box (erL L1 (cells.set j (.own nm 0))))::(nm,(BO.arr tc [] 0).er L1)::erH L1 hs)=_
   rw[this,←e2]
   simp only[BO.er,List.map_nil]
theorem Qcj{o:List (Name×OSh)}{m:Name}{Γ:Ctx}:∀{l:List Sh} {j:Nat} {hs:HS} {L:Lens} {K:HS→Option R},QmM o m ts j l hs K=some r→Inv L hs→
  ∃hs' L',K hs'=some r∧Inv L' hs'∧Weak Γ (BS L ts hs) (BS L' ts hs')
 |[],j,hs,L,K,h,hi=>⟨hs,L,h,hi,Weak.refl _ _⟩
 |s::l,j,hs,L,K,h,hi=>by
  have hth:∀{nm:Name} {tc:TC} {v:BV} {es0:Nat} {cells:List BV},look m hs=some (.box cells)→cells[j]?=some v→(∀L,v.er L=.p (.sl true es0 []))→
    (if (look nm hs).isNone && Qdv nm ts hs && Nat.ble 1 (tz tc)then QmM o m ts (j+1) l ((m,.box (cells.set j (.own nm 0)))::(nm,.arr tc [] 0)::hs) K else none)=some r→
    ∃hs' L',K hs'=some r∧Inv L' hs'∧Weak Γ (BS L ts hs) (BS L' ts hs'):=fun{nm tc v es0 cells} hm hj hv h=>by
   split at h
   case isFalse=>simp at h
   rename_i hb
   simp only[bae]at hb
   obtain⟨L1,hi1,hw1⟩:=Qub (Γ:=Γ) hm hj hv hb.1.1 hb.1.2 hb.2 hi
   obtain⟨hs',L',k1,k2,k3⟩:=Qcj h hi1
   exact⟨hs',L',k1,k2,Weak.trans hw1 k3⟩
  unfold QmM at h
  split at h
  ·rename_i heq;cases heq
  ·rename_i nm r0 heq
   cases heq
   split at h
   ·rename_i cells hm
    split at h
    ·rename_i tc hj ho;exact hth (es0:=0) hm hj (fun L=>by simp only[BV.er]) h
    ·rename_i t0 tc hj ho;exact hth (es0:=tz t0) hm hj (fun L=>by simp only[BV.er,List.map_nil]) h
    ·exact Qcj h hi
   ·exact Qcj h hi
  ·rename_i heq;cases heq;exact Qcj h hi
theorem QeG{o:List (Name×OSh)}{Γ:Ctx}:∀{l:List (Name×OSh)} {hs:HS} {L:Lens} {K:HS→Option R},QrM o ts l hs K=some r→Inv L hs→
  ∃hs' L',K hs'=some r∧Inv L' hs'∧Weak Γ (BS L ts hs) (BS L' ts hs')
 |[],hs,L,K,h,hi=>⟨hs,L,h,hi,Weak.refl _ _⟩
 |p::l,hs,L,K,h,hi=>by
  unfold QrM at h
  split at h
  ·rename_i m l0 r0 heq
   cases heq
   obtain⟨hs1,L1,h,hi1,hw1⟩:=Qcj (Γ:=Γ) h hi
   obtain⟨hs2,L2,h,hi2,hw2⟩:=QeG h hi1
   exact⟨hs2,L2,h,hi2,Weak.trans hw1 hw2⟩
  ·rename_i heq;cases heq;exact QeG h hi
  ·rename_i heq;cases heq
end
end
/-
  The typed layer, part N: the code of a function; its contract. No project text.
-/
section
theorem Qs7{ops:Array Oper}{o:Oper}(h:QwZ ops=true)(ho:ops[ops.size - 1]?=some o):o.guard=none∧∀j,j<ops.size - 1→((masks ops.toList []).getD (ops.size - 1) 0).testBit j=true:=by
 unfold QwZ at h
 rw[ho]at h
 split at h
 ·rename_i e
  cases e
  refine⟨rfl,fun j hj=>?_⟩
  rw[List.all_eq_true]at h
  exact h j (List.mem_range.2 hj)
 ·simp at h
variable {L L':Lens} {ts ts':TS} {hs hs':HS}
section
variable {R:Type} {r:R} {P:Program} {ty:TypeId→Option TC} {E:Env} {gn:List Name} {nn fu:Nat} {Γ:Ctx}
def QK(K:Cont R)(r:R):Exit→AS→Prop:=fun e s'=>∃ts' hs' L',s'=BS L' ts' hs'∧Inv L' hs'∧K e ts' hs'=some r
theorem Qu3{o:List (Name×OSh)}{n:Name}(hn:n∈gn):Qs5 gn o hs n=true:=by
 unfold Qs5
 split
 ·rw[Wt.2 hn,Bool.or_true]
 ·rfl
theorem Qu2{o:List (Name×OSh)}{n:Name}(hn:n∈gn):QnJ gn o ts hs n=true:=by
 unfold QnJ
 split
 ·rw[Wt.2 hn,Bool.true_or,Bool.true_or]
 ·rfl
theorem QfI{s:List (Nat×SSh)}{o:List (Name×OSh)}{K:STL s×OL o→Option R}(hgn:Γ.names=gn)(h:Qlb gn s o ts hs K=some r)(hi:Inv L hs):
  ∃x L',K x=some r∧Inv L' (OL.put 0 o x.2)∧Weak Γ (BS L ts hs) (BS L' (STL.put 0 s x.1) (OL.put 0 o x.2)):=by
 unfold Qlb at h
 simp only[Qil]at h
 obtain⟨ts1,hs1,h,hi1,hw1⟩:=QbU hgn h (hi.trim (f:=Qs5 gn o hs))
 obtain⟨ts2,hs2,L2,h,hi2,hw2⟩:=Qaz (Γ:=Γ) h (hi1.trim (f:=QnJ gn o ts1 hs1))
 obtain⟨hs2',L2',h,hi2',hw2'⟩:=QeG (Γ:=Γ) h hi2
 obtain⟨x,L3,h,hi3,hle,hk⟩:=QsV h hi2'
 refine⟨x,L3,h,hi3,fun ρ M a w hs0=>?_⟩
 obtain⟨ρ1,M1,h1⟩:=hw1 ρ M a w (hs0.only (f:=Qx0 s) (g:=Qs5 gn o hs) fun n hn=>Qu3 (by rw[←hgn];exact hn))
 have h1':Sim Γ ρ1 M1 (BS L ts1 (Qda (QnJ gn o ts1 hs1) [] hs1)) a w:=by
  have h2:=h1.only (f:=fun _=>true) (g:=QnJ gn o ts1 hs1) fun n hn=>Qu2 (by rw[←hgn];exact hn)
  refine h2.congr (fun t=>?_) (fun n=>rfl)
  show(BS L ts1 (Qda (QnJ gn o ts1 hs1) [] hs1)).slot t=(BS L (Qda (fun _=>true) [] ts1) (Qda (QnJ gn o ts1 hs1) [] hs1)).slot t
  rw[XV,XV,Vh];rfl
 obtain⟨ρ2',M2',h2'⟩:=hw2 ρ1 M1 a w h1'
 obtain⟨ρ2,M2,h2⟩:=hw2' ρ2' M2' a w h2'
 have h3:Sim Γ ρ2 M2 (BS L2' (QvH hs2' s ts2) hs2') a w:=by
  refine h2.leS (fun t y hy=>?_) (fun n=>⟨fun y hy=>⟨y,hy,.refl _⟩,fun x hx=>⟨x,hx,.refl _⟩⟩) (fun n x y hx hy=>?_)
  ·obtain⟨y',hy',rfl⟩:=QmI hy
   obtain⟨x',hx',hle'⟩:=QvI hi2' hy'
   exact⟨x'.er L2',by rw[XV,hx'];rfl,hle'⟩
  ·rw[X7]at hx hy;rw[hx]at hy;cases hy;exact .inl rfl
 exact⟨ρ2,M2,h3.sle hle (by rw[hgn];exact hk)⟩
theorem Qdg{c:Code}{an:Ann}{K:Cont R}{body:Ann→TS→HS→Cont R→Option R}(hgn:Γ.names=gn)(h:around gn an ts hs K body=some r)(hi:Inv L hs)(hb:∀an ts hs L K,body an ts hs K=some r→Inv L hs→AWp P Γ c (BS L ts hs) (QK K r)):AWp P Γ c (BS L ts hs) (QK K r):=by
 unfold around at h
 split at h
 ·rename_i s o a
  refine AWp.post ((hb _ _ _ L _ h hi).mono fun e s'=>?_)
  rintro⟨ts',hs',L',rfl,hi',hk⟩
  cases e with
  |normal=>
   obtain⟨x,L2,h2,hi2,hw⟩:=QfI hgn hk hi'
   exact⟨_,hw,_,_,L2,rfl,hi2,h2⟩
  |_=>exact⟨_,Weak.refl _ _,_,_,L',rfl,hi',hk⟩
 ·obtain⟨ts1,hs1,h,hi1,hw1⟩:=QbU hgn h hi
  exact AWp.weaken _ (fun ρ M a w hs0=>hw1 ρ M a w hs0) (hb _ _ _ L _ h hi1)
 ·exact hb _ _ _ L _ h hi
theorem Qj1[DecidableEq R](hE:QmU P E)(hgn:Γ.names=gn)(hn:Γ.n=nn):∀(c:Code) (an:Ann) (ts:TS) (hs:HS) (L:Lens) (K:Cont R),vc P ty E gn nn fu c an ts hs K=some r→Inv L hs→AWp P Γ c (BS L ts hs) (QK K r)
 |.skip,an,ts,hs,L,K,h,hi=>AWp.skip ⟨_,_,L,rfl,hi,by simpa only[vc]using h⟩
 |.label _,an,ts,hs,L,K,h,hi=>AWp.label ⟨_,_,L,rfl,hi,by simpa only[vc]using h⟩
 |.ret,an,ts,hs,L,K,h,hi=>AWp.ret ⟨_,_,L,rfl,hi,by simpa only[vc]using h⟩
 |.exit id,an,ts,hs,L,K,h,hi=>AWp.exit ⟨_,_,L,rfl,hi,by simpa only[vc]using h⟩
 |.seq a b,an,ts,hs,L,K,h,hi=>by
  simp only[vc]at h
  refine Qdg hgn h hi fun an ts hs L K h hi=>AWp.seq ((Qj1 hE hgn hn a _ _ _ L _ h hi).mono fun e s'=>?_)
  rintro⟨ts',hs',L',rfl,hi',hk⟩
  cases e with
  |normal=>exact Qj1 hE hgn hn b _ _ _ L' _ hk hi'
  |_=>exact⟨_,_,L',rfl,hi',hk⟩
 |.cond (.tmp t) a b,an,ts,hs,L,K,h,hi=>by
  simp only[vc]at h
  refine Qdg hgn h hi fun an ts hs L K h hi=>?_
  split at h
  ·rename_i q hl
   refine AWp.cond q (by rw[XV,hl];simp only[Option.map_some,BV.er]) (fun hq=>?_) (fun hq=>?_)
   ·subst hq;exact Qj1 hE hgn hn a _ _ _ L _ h hi
   ·subst hq;exact Qj1 hE hgn hn b _ _ _ L _ h hi
  ·rename_i hl
   obtain⟨h1,h2⟩:=Qsr h
   intro ρ M w0 w hs0
   obtain⟨u,hu,hr⟩:=hs0.slots t _ (show(BS L ts hs).slot t=some .ub by rw[XV,hl];simp only[Option.map_some,BV.er])
   simp only[AV.R]at hr
   obtain⟨q,rfl⟩:=hr
   have he:w0.eval (.tmp t)=.bool q:=by simp[Act.eval,Array.getD_eq_getD_getElem?,hu]
   cases q with
   |true=>exact wp_cond_true he (Qj1 hE hgn hn a _ _ _ L _ h1 hi ρ M w0 w hs0)
   |false=>exact wp_cond_false he (Qj1 hE hgn hn b _ _ _ L _ h2 hi ρ M w0 w hs0)
  ·simp at h
 |.cond (.const c) a b,an,ts,hs,L,K,h,hi=>by
  cases c with
  |bool q=>
   simp only[vc]at h
   refine Qdg hgn h hi fun an ts hs L K h hi=>?_
   cases q with
   |true=>exact fun ρ M w0 w hs0=>wp_cond_true rfl (Qj1 hE hgn hn a _ _ _ L _ h hi ρ M w0 w hs0)
   |false=>exact fun ρ M w0 w hs0=>wp_cond_false rfl (Qj1 hE hgn hn b _ _ _ L _ h hi ρ M w0 w hs0)
  |_=>simp[vc]at h
 |.cond (.global _) a b,an,ts,hs,L,K,h,hi=>by simp[vc]at h
 |.cond (.func _) a b,an,ts,hs,L,K,h,hi=>by simp[vc]at h
 |.block id a,an,ts,hs,L,K,h,hi=>by
  simp only[vc]at h
  refine Qdg hgn h hi fun an ts hs L K h hi=>AWp.block ((Qj1 hE hgn hn a _ _ _ L _ h hi).mono fun e s'=>?_)
  rintro⟨ts',hs',L',rfl,hi',hk⟩
  cases e with
  |exit k=>
   simp only[QkG]
   simp only[QvO]at hk
   split at hk
   ·rename_i he;rw[if_pos (nbe he)];exact⟨_,_,L',rfl,hi',hk⟩
   ·rename_i he;rw[if_neg (fun e=>he (by rw[e];exact Nat.beq_refl _))];exact⟨_,_,L',rfl,hi',hk⟩
  |_=>exact⟨_,_,L',rfl,hi',hk⟩
 |.loop a,an,ts,hs,L,K,h,hi=>by
  simp only[vc]at h
  split at h
  ·rename_i s o an
   obtain⟨x,L1,h,hi1,hw⟩:=QfI hgn h hi
   refine AWp.weaken _ hw (AWp.loop (fun m s'=>∃x L',s'=BS L' (STL.put 0 s x.1) (OL.put 0 o x.2)∧Inv L' (OL.put 0 o x.2)∧Qh (fun Lp x=>vc P ty E gn nn fu a an (STL.put 0 s x.1) (OL.put 0 o x.2) (Qvc K fun ts hs=>Qlb gn s o ts hs Lp)) m x=some r)
    ⟨fu,x,L1,rfl,hi1,h⟩ ?_)
   rintro m s' ⟨x,L',rfl,hi',hm⟩
   cases m with
   |zero=>simp[Qh]at hm
   |succ m=>
    simp only[Qh]at hm
    refine AWp.post ((Qj1 hE hgn hn a _ _ _ L' _ hm hi').mono fun e s'=>?_)
    rintro⟨ts2,hs2,L2,rfl,hi2,hk⟩
    cases e with
    |normal=>
     obtain⟨x',L3,h3,hi3,hw3⟩:=QfI hgn hk hi2
     exact⟨_,hw3,m,Nat.lt_succ_self m,x',L3,rfl,hi3,h3⟩
    |_=>exact⟨_,Weak.refl _ _,_,_,L2,rfl,hi2,hk⟩
  ·simp at h
 |.region id ops dr,an,ts,hs,L,K,h,hi=>by
  simp only[vc]at h
  refine Qdg hgn h hi fun an ts hs L K h hi=>?_
  cases dr with
  |false=>
   intro ρ M a w hs0
   refine wp_region ?_
   have:=QtM (gn:=gn) (Γ:=Γ) (ops:=ops) (Q:=fun e a' w'=>∃s' ρ' M',QK K r e s'∧Sim Γ ρ' M' s' a' w') hE hgn hn (fun ts' hs' L' ρ' M' a' w' hk hi' hs'=>⟨_,ρ',M',⟨_,_,L',rfl,hi',hk⟩,hs'⟩) ops.size 0 ts hs L h hi ρ M a w hs0
   rwa [Nat.sub_zero,←List.range_eq_range']at this
  |true=>
   simp only at h
   split at h
   case isFalse=>simp at h
   rename_i hm
   split at h
   ·rename_i hlb
    obtain⟨rows,ts',hs',L',hk,hi',hst,hts,hhs,hg⟩:=Qeb hE (ops.size - 1) 0 [] ts hs L h hi
    change (if Qjf ops (rows++[noB]) ts hs=true then(match ops[ops.size - 1]? with
     |some o=>exK P ty E gn nn (guarded ops) [] o ts' hs' (fun ts hs=>K .normal ts hs)
     |none=>none)else none)=some r at hk
    by_cases hind:Qjf ops (rows++[noB]) ts hs=true
    case neg=>rw[if_neg hind]at hk;simp at hk
    rw[if_pos hind]at hk
    cases hop:ops[ops.size - 1]? with
    |none=>rw[hop]at hk;simp at hk
    |some o=>
    rw[hop]at hk
    replace hk:exK P ty E gn nn (guarded ops) [] o ts' hs' (fun ts hs=>K .normal ts hs)=some r:=hk
    have h0:0<ops.size:=by
     rcases Nat.eq_zero_or_pos ops.size with h0|h0
     ·rw[Array.getElem?_eq_none (by omega)]at hop;simp at hop
     ·exact h0
    obtain⟨hg0,hmask⟩:=Qs7 hlb hop
    show AWp P Γ _ (mk (erT L ts) (erH L hs)) _
    rw[hts,hhs]
    have hrow:(rows++[noB]).map (BRow.row L')=rows.map (BRow.row L')++[QbY]:=by simp[noB,QbY,BRow.row,ev,erT,erH,BV.er]
    have hind':=QnH hind L'
    rw[hrow]at hind'
    refine AWp.drawX hn (by rw[hm,Bool.true_or]) h0 _ hst hg hind' hmask fun KK hKK=>?_
    exact QsP hE hgn hn hk (fun t v h=>by simp at h) (fun t v h=>by simp at h) (by simp) hi' hop (fun ρ M a w _=>by simp[Region.wanted,hg0]) (fun ts2 hs2 L2 ρ' M' a' w' hk2 hi2 hs2'=>hKK _ ρ' M' a' w' ⟨_,_,L2,rfl,hi2,hk2⟩ hs2')
   obtain⟨rows,ts',hs',L',hk,hi',hst,hts,hhs,hg⟩:=Qeb hE ops.size 0 [] ts hs L h hi
   change (if Qjf ops rows ts hs=true then K .normal ts' hs' else none)=some r at hk
   split at hk
   case isFalse=>simp at hk
   rename_i hind
   show AWp P Γ _ (mk (erT L ts) (erH L hs)) _
   rw[hts,hhs]
   exact AWp.drawG hn (by rw[hm,Bool.true_or]) _ hst hg (QnH hind L') ⟨_,_,L',rfl,hi',hk⟩
 |.rangeFunc ..,an,ts,hs,L,K,h,hi=>by simp[vc]at h
 |.scope _,an,ts,hs,L,K,h,hi=>by simp[vc]at h
 |.goto _,an,ts,hs,L,K,h,hi=>by simp[vc]at h
 |.refuse _,an,ts,hs,L,K,h,hi=>by simp[vc]at h
end
section
variable {R:Type} (P:Program)
def resV(ts:TS)(hs:HS):ResultVar→Option BV
 |.tmp t=>look t ts
 |.cell t T=>match look t ts with
  |some (.ref n 0)=>match look n hs with
   |some (.box cells)=>if aggT P T then(match Zv P T with|some z=>if Nat.beq z cells.length then some (.agg cells)else none|none=>none)
    else if Qa7 P T then(match cells with|[v]=>some v|_=>none)else none
   |_=>none
  |_=>none
def QpL(ts:TS)(hs:HS):List ResultVar→Option (List BV)
 |[]=>some []
 |x::q=>match resV P ts hs x,QpL ts hs q with
  |some v,some vs=>some (v::vs)
  |_,_=>none
def Sh.owns:Sh→List Name
 |.own nm=>[nm]
 |.view nm=>[nm]
 |_=>[]
def SSh.owns:SSh→List Name
 |.one s=>s.owns
 |.st _=>[]
 |.agg l=>l.flatMap Sh.owns
def OSh.owns:OSh→List Name
 |.box l=>l.flatMap Sh.owns
 |_=>[]
def arrB(l:List (Name×OSh))(n:Name):Bool:=match look n l with
 |some (.arr _)=>true
 |_=>false
def sameC{α:Type}[DecidableEq α](a b:α)(x:Option R):Option R:=if a=b then x else none
def Qf8(hs:HS):(l:List (Name×OSh))→List Name→OL l→Option R→Option R
 |[],_,_,x=>x
 |(nm,.arr t)::l,ks,y,x=>if isIn nm ks then(match look nm hs with
   |some (.arr t' z _)=>if h:t'=t then sameC (Qnb h z) y.1 (Qf8 hs l ks y.2 x)else none
   |_=>none)else Qf8 hs l ks y.2 x
 |(nm,.box _)::l,ks,y,x=>if isIn nm ks then none else Qf8 hs l ks y.2 x
 |(nm,.arrs _)::l,ks,y,x=>if isIn nm ks then none else Qf8 hs l ks y.2 x
 |(nm,.sm)::l,ks,y,x=>if isIn nm ks then none else Qf8 hs l ks y.2 x
 |(nm,.boxst t)::l,ks,y,x=>if isIn nm ks then(match look nm hs with
   |some (.box cs)=>tpop t cs fun z rest=>match rest with
    |[]=>sameC z y.1 (Qf8 hs l ks y.2 x)
    |_=>none
   |_=>none)else Qf8 hs l ks y.2 x
def Qt0:List ResultVar→List SSh→List (Nat×SSh)
 |.tmp t::r,s::q=>(t,s)::Qt0 r q
 |_::r,_::q=>Qt0 r q
 |_,_=>[]
def Qp1(ts:TS):List ResultVar→List SSh→List (Name×OSh)
 |.cell t _::r,.agg l::q=>(match look t ts with
  |some (.ref m 0)=>(m,.box l)::Qp1 ts r q
  |_=>Qp1 ts r q)
 |_::r,_::q=>Qp1 ts r q
 |_,_=>[]
def endK(gn:List Name)(rs:List ResultVar)(g:Sig)(y:OL g.pre)(K:SL g.res→OL g.post→Option R)(ts:TS)(hs:HS):Option R:=
 Qky g.post (Qt0 rs g.res) ts hs fun ts hs=>QrM g.post ts (Qp1 ts rs g.res) hs fun hs=>match QpL P ts hs rs with
 |none=>none
 |some vs=>frzK gn (Ut g.post hs g.res vs) ts hs fun ts hs=>match QpL P ts hs rs with
  |none=>none
  |some vs=>SL.get g.res (QmN hs g.res vs) [] fun σ a=>OL.get g.post hs ((keys g.post).map (fun n=>(n,(n,Qyi n hs)))++σ) fun σ b=>
    if QwW σ && (keys g.pre).all (fun n=>isIn n (keys g.post) || isIn n g.keep) && g.keep.all (fun n=>isIn n (keys g.pre)) && (g.res.flatMap SSh.owns).all (arrB g.post) && (g.post.flatMap fun p=>p.2.owns).all (arrB g.post)then Qf8 hs g.pre g.keep y (K a b)else none
end
end
/-
  The typed layer, part P: the contract of a function, out of what is reckoned of its code. No project text.
-/
section
open Go
variable {L L':Lens} {ts ts':TS} {hs hs':HS}
theorem Qti{M:Nat→Prop}{ρ:Name→Loc}{h h':List (Name×AO)}(h1:∀n o',look n h'=some o'→∃o,look n h=some o)(h2:∀n o,look n h=some o→∃o',look n h'=some o'):newM M ρ h=newM M ρ h':=by
 funext b
 exact propext (or_congr_right ⟨fun⟨n,o,k1,k2⟩=>by obtain⟨o',k3⟩:=h2 n o k1;exact⟨n,o',k3,k2⟩,fun⟨n,o,k1,k2⟩=>by obtain⟨o',k3⟩:=h1 n o k1;exact⟨n,o',k3,k2⟩⟩)
theorem After.le{ρ:Name→Loc}{M:Nat→Prop}{w:World}{pre:List (Name×AO)}{u:Value}{v v':AV}{h h':List (Name×AO)}{ρ':Name→Loc}{w':World}(ha:After ρ M w pre u v h ρ' w')(hv:∀(ρ:Name→Loc) (H:Heap) (M:Nat→Prop) (w:World) (u:Value),v.R ρ H M w u→v'.R ρ H M w u)(h1:∀n o',look n h'=some o'→∃o,look n h=some o∧(o=o'∨∃cs ds,o=.box cs∧o'=.box ds∧Xx cs ds))(h2:∀n o,look n h=some o→∃o',look n h'=some o'):After ρ M w pre u v' h' ρ' w':=by
 have hM:newM M ρ' h=newM M ρ' h':=Qti (fun n o' hn=>by obtain⟨o,k,_⟩:=h1 n o' hn;exact⟨o,k⟩) h2
 have hst:Qcn ρ' (Xn h) ρ' (Xn h'):=fun n o hn=>by
  obtain⟨o',ho'⟩:=h2 n o hn
  obtain⟨o2,ho2,hle⟩:=h1 n o' ho'
  change look n h=some o at hn
  rw[hn]at ho2;cases ho2
  change stays o (ρ' n) (look n h') (ρ' n)
  rw[ho']
  rcases hle with rfl|⟨cs,ds,rfl,rfl,_⟩
  ·exact Ze _ _
  ·rfl
 have hnn:∀n,Xn h n=none→Xn h' n=none:=fun n hn=>by
  cases hc:Xn h' n with
  |none=>rfl
  |some o'=>
   obtain⟨o,ho,_⟩:=h1 n o' hc
   change look n h=none at hn
   simp_all
 have hconvs:∀{xs:List AV} {us:List Value},AV.Rs ρ' (Xn h) (newM M ρ' h) w' xs us→AV.Rs ρ' (Xn h') (newM M ρ' h) w' xs us:=fun hr=>
  hr.step (Ext.refl (fun _=>False) _) (fun _ hb=>hb.elim) (fun b _ hb=>hb) hst (fun n _=>hnn n)
 refine⟨?_,fun n o' hn=>?_,fun n m o o' b g1 g2=>?_,fun n o b g1 g2=>?_,ha.ext,fun n o hn=>?_⟩
 ·rw[←hM]
  exact hv _ _ _ _ _ (ha.val.step (Ext.refl (fun _=>False) _) (fun _ hb=>hb.elim) (fun b _ hb=>hb) hst (fun n _=>hnn n))
 ·obtain⟨o,ho,hle⟩:=h1 n o' hn
  have hobj:=ha.objs n o ho
  rw[←hM]
  rcases hle with rfl|⟨cs,ds,rfl,rfl,hle⟩
  ·cases o with
   |box cells=>obtain⟨b,T,cs,k1,k2,k3,k4⟩:=hobj;exact⟨b,T,cs,k1,k2,k3,hconvs k4⟩
   |arr es rows=>exact hobj
   |hole es pre row post=>obtain⟨k0,k0',k1,b,T,cs,k3,k4,k5,k6,k7,k8,k9⟩:=hobj;exact⟨k0,k0',k1,b,T,cs,k3,k4,k5,k6,k7,hconvs k8,k9⟩
   |fact a x=>exact⟨hobj.1,hobj.2.step (Ext.refl (fun _=>False) _) (fun _ hb=>hb.elim) (fun b _ hb=>hb) hst (fun n _=>hnn n)⟩
   |obj x=>exact hobj
  ·obtain⟨b,T,us',k1,k2,k3,k4⟩:=hobj
   exact⟨b,T,us',k1,k2,k3,QrV hle _ (hconvs k4)⟩
 ·obtain⟨p,k1,_⟩:=h1 n o g1
  obtain⟨q,k2,_⟩:=h1 m o' g2
  exact ha.inj n m p q b k1 k2
 ·obtain⟨p,k1,_⟩:=h1 n o g1
  exact ha.own n p b k1 g2
 ·obtain⟨o1,k1,k2⟩:=ha.keep n o hn
  obtain⟨o2,k3⟩:=h2 n o1 k1
  refine⟨o2,k3,?_⟩
  obtain⟨o3,k4,hle⟩:=h1 n o2 k3
  rw[k1]at k4;cases k4
  rcases hle with rfl|⟨cs,ds,rfl,rfl,_⟩
  ·exact k2
  ·cases o<;>simp only[stays]at k2⊢<;>exact k2
section
variable {u v:Nat}
theorem Sh.put_ver{s:Sh}{X:Type}{x:s.prod X}(h:∀n,n∈s.owns→L n u=L' n v):(s.put u X x).1.er L=(s.put v X x).1.er L'∧(s.put u X x).2=(s.put v X x).2:=by
 cases s with
 |own nm=>exact⟨by simp only[Sh.put,BV.er];rw[h nm (by simp[Sh.owns])],rfl⟩
 |view nm=>exact⟨by simp only[Sh.put,BV.er];rw[h nm (by simp[Sh.owns])],rfl⟩
 |clo f caps=>exact⟨by simp only[Sh.put,BV.er];congr 1;simp only[Vz,List.map_map];exact List.map_congr_left fun n _=>by simp only[Function.comp,BV.er],rfl⟩
 |_=>exact⟨by simp only[Sh.put,BV.er],rfl⟩
theorem TL.put_ver:∀{l:List Sh} {x:TL l},(∀n,n∈l.flatMap Sh.owns→L n u=L' n v)→erL L (TL.put u l x)=erL L' (TL.put v l x)
 |[],x,_=>by simp only[TL.put,erL]
 |s::r,x,h=>by
  have h1:=Sh.put_ver (s:=s) (x:=x) (L:=L) (L':=L') (u:=u) (v:=v) (fun n hn=>h n (by simp[hn]))
  have h2:=TL.put_ver (l:=r) (x:=(s.put u _ x).2) (fun n hn=>h n (by rw[List.flatMap_cons];exact List.mem_append_right _ hn))
  simp only[TL.put,erL,h1.1,h2]
  rw[h1.2]
theorem SSh.put_ver{s:SSh}{X:Type}{x:s.prod X}(h:∀n,n∈s.owns→L n u=L' n v):(s.put u X x).1.er L=(s.put v X x).1.er L'∧(s.put u X x).2=(s.put v X x).2:=by
 cases s with
 |one s=>exact Sh.put_ver h
 |st t=>simp only[SSh.put,BV.er,and_true];rw[Vy (Qch t x.1),Vy (Qch t x.1)]
 |agg l=>simp only[SSh.put,BV.er,and_true];rw[TL.put_ver h]
theorem SL.put_ver:∀{l:List SSh} {x:SL l},(∀n,n∈l.flatMap SSh.owns→L n u=L' n v)→erL L (SL.put u l x)=erL L' (SL.put v l x)
 |[],x,_=>by simp only[SL.put,erL]
 |s::r,x,h=>by
  have h1:=SSh.put_ver (s:=s) (x:=x) (L:=L) (L':=L') (u:=u) (v:=v) (fun n hn=>h n (by simp[hn]))
  have h2:=SL.put_ver (l:=r) (x:=(s.put u _ x).2) (fun n hn=>h n (by rw[List.flatMap_cons];exact List.mem_append_right _ hn))
  simp only[SL.put,erL,h1.1,h2]
  rw[h1.2]
theorem OSh.put_ver{s:OSh}{x:s.T}(h:∀n,n∈s.owns→L n u=L' n v):(s.put u x).er L=(s.put v x).er L':=by
 cases s with
 |box l=>exact congrArg AO.box (TL.put_ver (l:=l) (x:=x) h)
 |boxst t=>simp only[OSh.put,BO.er];rw[Vy (Qch t x),Vy (Qch t x)]
 |arr t=>simp only[OSh.put,BO.er]
 |arrs t=>simp only[OSh.put,BO.er]
 |sm=>simp only[OSh.put,BO.er]
end
theorem Qpl{u:Nat}{n:Name}{b:BO}:∀{l:List (Name×OSh)} {y:OL l},look n (OL.put u l y)=some b→∃(p:Name×OSh) (x:p.2.T),p∈l∧look n l=some p.2∧b=p.2.put u x∧∀w,look n (OL.put w l y)=some (p.2.put w x)
 |[],y,h=>by change look n []=some b at h;simp[look]at h
 |p::l,y,h=>by
  change look n ((p.1,p.2.put u y.1)::OL.put u l y.2)=some b at h
  simp only[look]at h
  split at h
  ·rename_i e
   cases h
   refine⟨p,y.1,by simp,by obtain⟨k,o⟩:=p;simp only[look];rw[if_pos e],rfl,fun w=>?_⟩
   change look n ((p.1,p.2.put w y.1)::OL.put w l y.2)=_
   simp only[look];rw[if_pos e]
  ·rename_i e
   obtain⟨q,x,h1,h2,h3,h4⟩:=Qpl h
   refine⟨q,x,List.mem_cons_of_mem _ h1,by obtain⟨k,o⟩:=p;simp only[look];rw[if_neg e];exact h2,h3,fun w=>?_⟩
   change look n ((p.1,p.2.put w y.1)::OL.put w l y.2)=_
   simp only[look];rw[if_neg e];exact h4 w
def QbQ:Nat→List BV→TS
 |_,[]=>[]
 |i,x::r=>(i,x)::QbQ (i+1) r
theorem Qiu:∀(i:Nat) (l:List BV),U5 i (erL L l)=erT L (QbQ i l)
 |_,[]=>by simp only[erL,U5,QbQ];rfl
 |i,x::r=>by simp only[erL,U5,QbQ,Qiu (i+1) r];rfl
theorem Xx.Ts{ρ:Name→Loc}{H:Heap}{M:Nat→Prop}{w:World}:∀{xs ys:List AV} {us:List Value},Xx xs ys→AV.Ts ρ H M w xs us→AV.Ts ρ H M w ys us
 |[],ys,us,h,hr=>by cases h;exact hr
 |x::xs,ys,us,h,hr=>by
  cases h with
  |cons h1 h2=>
   simp only[AV.Ts]at hr ⊢
   obtain⟨u,us',rfl,h3,h4⟩:=hr
   exact⟨u,us',rfl,h1.sound u h3,Xx.Ts h2 h4⟩
theorem QtS{vs ws:List BV}(h:Xx (erL L vs) (erL L' ws))(ρ:Name→Loc)(H:Heap)(M:Nat→Prop)(w:World)(u:Value)(hr:((resB vs).er L).R ρ H M w u):((resB ws).er L').R ρ H M w u:=by
 have hl:vs.length=ws.length:=by have:=h.len;rwa [Xl,Xl]at this
 match vs,ws,hl with
 |[],[],_=>exact hr
 |[v],[x],_=>
  simp only[erL]at h
  cases h with
  |cons h1 _=>exact h1.sound u hr
 |v1::v2::vs,x1::x2::ws,_=>
  simp only[resB,BV.er,AV.R]at hr ⊢
  obtain⟨us,rfl,h2⟩:=hr
  exact⟨us,rfl,Xx.Ts h h2⟩
section
variable {P:Program}
theorem Qk5:∀{rs:List ResultVar} {vs:List BV},QpL P ts hs rs=some vs→vs.length=rs.length∧Res1s P (BS L ts hs) rs (erL L vs)
 |[],vs,h=>by simp only[QpL,Option.some.injEq]at h;subst h;exact⟨rfl,by simp only[erL];rfl⟩
 |x::q,vs,h=>by
  simp only[QpL]at h
  split at h
  ·rename_i v vs' h1 h2
   cases h
   obtain⟨k1,k2⟩:=Qk5 h2
   refine⟨by simp[k1],⟨v.er L,erL L vs',by simp only[erL],?_,k2⟩⟩
   cases x with
   |tmp t=>
    simp only[resV]at h1
    show(BS L ts hs).slot t=_
    rw[XV,h1];rfl
   |cell t T=>
    simp only[resV]at h1
    split at h1
    ·rename_i n ht
     split at h1
     ·rename_i cells hc
      refine⟨n,erL L cells,by rw[XV,ht];simp only[Option.map_some,BV.er],by rw[X7,hc];rfl,?_⟩
      split at h1
      ·rename_i hT
       split at h1
       ·rename_i z hz
        split at h1
        ·rename_i hb;cases h1;exact .inl ⟨hT,by rw[hz,Xl,nbe hb],by simp only[BV.er]⟩
        ·simp at h1
       ·simp at h1
      ·split at h1
       ·rename_i hT
        split at h1
        ·cases h1;exact .inr ⟨hT,by simp only[erL]⟩
        ·simp at h1
       ·simp at h1
     ·simp at h1
    ·simp at h1
  ·simp at h
theorem Qya{rs:Array ResultVar}{vs:List BV}(h:QpL P ts hs rs.toList=some vs):Res P (BS L ts hs) rs ((resB vs).er L):=by
 obtain⟨h1,h2⟩:=Qk5 (L:=L) h
 unfold Res
 match vs,h1 with
 |[],h1=>
  have:¬rs.size=1:=fun e=>by rw[←Array.length_toList,←h1]at e;simp at e
  rw[if_neg this];exact⟨_,by simp only[resB,BV.er],h2⟩
 |[v],h1=>
  have:rs.size=1:=by rw[←Array.length_toList,←h1];rfl
  rw[if_pos this];simpa only[resB,erL]using h2
 |v1::v2::vs,h1=>
  have:¬rs.size=1:=fun e=>by rw[←Array.length_toList,←h1]at e;simp at e
  rw[if_neg this];exact⟨_,by simp only[resB,BV.er],h2⟩
theorem Vf{R:Type}{r:R}:∀{l:List (Name×OSh)} {ks:List Name} {y:OL l} {x:Option R},Qf8 hs l ks y x=some r→
  x=some r∧∀n b,n∈ks→look n (OL.put 0 l y)=some b→(∃t z v,b=.arr t z 0∧look n hs=some (.arr t z v))∨∃t z cs,b=.box (tb t z)∧look n hs=some (.box cs)∧Le cs (tb t z)
 |[],ks,y,x,h=>⟨h,fun n b _ hn=>by change look n []=some b at hn;simp[look]at hn⟩
 |(nm,o)::l,ks,y,x,h=>by
  have hrest:(x=some r∧∀n b,n∈ks→look n (OL.put 0 l y.2)=some b→(∃t z v,b=.arr t z 0∧look n hs=some (.arr t z v))∨∃t z cs,b=.box (tb t z)∧look n hs=some (.box cs)∧Le cs (tb t z))→
    (isIn nm ks=true→(∃t z v,o.put 0 y.1=.arr t z 0∧look nm hs=some (.arr t z v))∨∃t z cs,o.put 0 y.1=.box (tb t z)∧look nm hs=some (.box cs)∧Le cs (tb t z))→
    x=some r∧∀n b,n∈ks→look n (OL.put 0 ((nm,o)::l) y)=some b→(∃t z v,b=.arr t z 0∧look n hs=some (.arr t z v))∨∃t z cs,b=.box (tb t z)∧look n hs=some (.box cs)∧Le cs (tb t z):=fun hr hq=>by
   refine⟨hr.1,fun n b hn hb=>?_⟩
   change look n ((nm,o.put 0 y.1)::OL.put 0 l y.2)=some b at hb
   simp only[look]at hb
   split at hb
   ·rename_i e
    subst e;cases hb
    exact hq (Wt.2 hn)
   ·exact hr.2 n b hn hb
  cases o with
  |arr t=>
   simp only[Qf8]at h
   split at h
   ·split at h
    ·rename_i t' z v hl
     split at h
     ·rename_i he
      subst he
      unfold sameC at h
      split at h
      ·rename_i hz
       exact hrest (Vf h) (fun _=>.inl ⟨_,_,v,rfl,by rw[hl,←hz];rfl⟩)
      ·simp at h
     ·simp at h
    ·simp at h
   ·rename_i hin
    exact hrest (Vf h) (fun hi=>absurd hi hin)
  |boxst t=>
   simp only[Qf8]at h
   split at h
   ·split at h
    ·rename_i cs hl
     obtain⟨z,rest,hle,h⟩:=Qck t h
     split at h
     ·unfold sameC at h
      split at h
      ·rename_i hz
       refine hrest (Vf h) (fun _=>.inr ⟨t,y.1,cs,rfl,hl,?_⟩)
       rw[List.append_nil]at hle
       rw[←hz];exact hle
      ·simp at h
     ·simp at h
    ·simp at h
   ·rename_i hin
    exact hrest (Vf h) (fun hi=>absurd hi hin)
  |box c=>
   simp only[Qf8]at h
   split at h
   ·simp at h
   ·rename_i hin
    exact hrest (Vf h) (fun hi=>absurd hi hin)
  |arrs c=>
   simp only[Qf8]at h
   split at h
   ·simp at h
   ·rename_i hin
    exact hrest (Vf h) (fun hi=>absurd hi hin)
  |sm=>
   simp only[Qf8]at h
   split at h
   ·simp at h
   ·rename_i hin
    exact hrest (Vf h) (fun hi=>absurd hi hin)
theorem Qhm{u:Nat}:∀{l:List SSh} {x:SL l},(SL.put u l x).length=l.length
 |[],_=>rfl
 |s::r,x=>by simp only[SL.put,List.length_cons,Qhm (l:=r)]
def QgV:(l:List (Name×OSh))→OL l→Name→Option Nat
 |[],_,_=>none
 |(k,.arr _)::r,y,n=>if Nat.beq k n then some y.1.length else QgV r y.2 n
 |(k,.arrs _)::r,y,n=>if Nat.beq k n then none else QgV r y.2 n
 |(k,.box _)::r,y,n=>if Nat.beq k n then none else QgV r y.2 n
 |(k,.boxst _)::r,y,n=>if Nat.beq k n then none else QgV r y.2 n
 |(k,.sm)::r,y,n=>if Nat.beq k n then none else QgV r y.2 n
def lenB{R:Type}(pre:List (Name×OSh))(y:OL pre):(l:List (Name×OSh))→OL l→Option R→Option R
 |[],_,x=>x
 |(n,.arrs _)::r,b,x=>match QgV pre y n with
  |some m=>chk b.1.length m (lenB pre y r b.2 x)
  |none=>none
 |(_,.arr _)::r,b,x=>lenB pre y r b.2 x
 |(_,.box _)::r,b,x=>lenB pre y r b.2 x
 |(_,.boxst _)::r,b,x=>lenB pre y r b.2 x
 |(_,.sm)::r,b,x=>lenB pre y r b.2 x
theorem QkS:∀{l:List (Name×OSh)} {y:OL l} {n:Name} {m:Nat},QgV l y n=some m→∃(t:TC) (z:List (TT t)),look n (OL.put 0 l y)=some (.arr t z 0)∧z.length=m
 |[],y,n,m,h=>by simp[QgV]at h
 |(k,o)::r,y,n,m,h=>by
  have hrest:QgV r y.2 n=some m→k≠n→∃(t:TC) (z:List (TT t)),look n (OL.put 0 ((k,o)::r) y)=some (.arr t z 0)∧z.length=m:=fun h e=>by
   obtain⟨t,z,h1,h2⟩:=QkS h
   refine⟨t,z,?_,h2⟩
   change look n ((k,o.put 0 y.1)::OL.put 0 r y.2)=_
   simp only[look];rw[if_neg e];exact h1
  cases o<;>simp only[QgV]at h<;>split at h
  all_goals first
   |(simp at h;done)
   |(rename_i e;exact hrest h (fun h'=>e (by rw[h'];exact Nat.beq_refl _)))
   |skip
  rename_i t e
  have:=nbe e;subst this
  refine⟨t,y.1,?_,by simpa using h⟩
  change look k ((k,_)::OL.put 0 r y.2)=_
  simp only[look,if_true];rfl
theorem QaM{R:Type}{r:R}{pre:List (Name×OSh)}{y:OL pre}:∀{l:List (Name×OSh)} {b:OL l} {x:Option R},lenB pre y l b x=some r→
  x=some r∧∀n (t:TC) (z:List (TT t)),look n (OL.put 1 l b)=some (.arr t z 0)→QgV pre y n=some z.length
 |[],b,x,h=>⟨h,fun n t z hn=>by change look n []=_ at hn;simp[look]at hn⟩
 |(k,o)::l,b,x,h=>by
  have hrest:lenB pre y l b.2 x=some r→(∀(t:TC) (z:List (TT t)),o.put 1 b.1=.arr t z 0→QgV pre y k=some z.length)→
    x=some r∧∀n (t:TC) (z:List (TT t)),look n (OL.put 1 ((k,o)::l) b)=some (.arr t z 0)→QgV pre y n=some z.length:=fun h hq=>by
   obtain⟨h1,h2⟩:=QaM h
   refine⟨h1,fun n t z hn=>?_⟩
   change look n ((k,o.put 1 b.1)::OL.put 1 l b.2)=_ at hn
   simp only[look]at hn
   split at hn
   ·rename_i e;subst e;exact hq t z (Option.some.inj hn)
   ·exact h2 n t z hn
  cases o with
  |arrs t=>
   simp only[lenB]at h
   split at h
   ·rename_i m hm
    obtain⟨e,h⟩:=QfS h
    refine hrest h fun t' z hz=>?_
    simp only[OSh.put]at hz
    cases hz
    rw[hm,←e]
   ·simp at h
  |arr t=>exact hrest h fun t' z hz=>by simp only[OSh.put]at hz;injection hz with _ _ h3;simp at h3
  |box t=>exact hrest h fun t' z hz=>by simp[OSh.put]at hz
  |boxst t=>exact hrest h fun t' z hz=>by simp[OSh.put]at hz
  |sm=>exact hrest h fun t' z hz=>by simp[OSh.put]at hz
theorem Qbj{R R':Type}{r:R}{r':R'}{pre:List (Name×OSh)}{y:OL pre}:∀{l:List (Name×OSh)} {b:OL l} {x:Option R},lenB pre y l b x=some r→lenB pre y l b (some r')=some r'
 |[],b,x,h=>rfl
 |(k,.arrs t)::l,b,x,h=>by
  simp only[lenB]at h ⊢
  split at h
  ·obtain⟨e,h⟩:=QfS h
   unfold chk;rw[if_pos e];exact Qbj h
  ·simp at h
 |(k,.arr t)::l,b,x,h=>Qbj (l:=l) h
 |(k,.box t)::l,b,x,h=>Qbj (l:=l) h
 |(k,.boxst t)::l,b,x,h=>Qbj (l:=l) h
 |(k,.sm)::l,b,x,h=>Qbj (l:=l) h
def Qf(args:List SSh)(pre:List (Name×OSh))(res:List SSh)(post:List (Name×OSh))(keep:List Name)(Ret:Type)(un:Ret→SL res×OL post)(f:SL args→OL pre→Option Ret):Sig:=
 ⟨args,pre,res,post,keep,fun _ x y K=>optc (f x y) fun q=>lenB pre y post (un q).2 (K (un q).1 (un q).2)⟩
def finK{R:Type}(P:Program)(gn:List Name)(rs:List ResultVar)(g:Sig)(y:OL g.pre)(K:SL g.res→OL g.post→Option R):Cont R:=fun e ts hs=>match e with
 |.normal=>endK P gn rs g y K ts hs
 |.ret=>endK P gn rs g y K ts hs
 |_=>none
theorem FnOK.intro{ty:TypeId→Option TC}{E:Env}{fu:Nat}{f:FuncId}{fn:Func}{c:Code}{an:Ann}{args:List SSh}{pre:List (Name×OSh)}{res:List SSh}{post:List (Name×OSh)}{keep:List Name}{Ret:Type}[DecidableEq Ret]{un:Ret→SL res×OL post}{F:SL args→OL pre→Option Ret}(conv:SL res→OL post→Ret)(hcu:∀a b,un (conv a b)=(a,b))(hE:QmU P E)(hf:P.funcs[f]?=some fn)(hb:fn.body=some c)(hlen:Nat.ble args.length fn.ntmps=true)(hF:∀x y,vc P ty E (keys pre) fn.ntmps fu c an (QbQ 0 (SL.put 0 args x)) (OL.put 0 pre y) (finK P (keys pre) fn.results.toList (Qf args pre res post keep Ret un F) y fun a b=>some (conv a b))=F x y):
  FnOK P f (Qf args pre res post keep Ret un F):=by
 refine⟨fun R x y K r h=>?_,fun x y a b h L0 hL0=>?_⟩
 ·obtain⟨q,hq,h⟩:=Yg h
  obtain⟨h',hle⟩:=QaM h
  refine⟨(un q).1,(un q).2,?_,h'⟩
  show optc (F x y) _=_
  rw[hq]
  exact Qbj h
 ·change SL args at x
  change OL pre at y
  change SL res at a
  change OL post at b
  obtain⟨q,hq,h⟩:=Yg h
  obtain⟨h,hlens⟩:=QaM h
  simp only[Option.some.injEq]at h
  have hvc:=(hF x y).trans hq
  let g:Sig:=Qf args pre res post keep Ret un F
  let L1:Lens:=fun n v=>match look n (g.posts y b)with
   |some (.arr t l u)=>if v=u then l.length else L0 n v
   |_=>L0 n v
  have hL1:∀n t l v,look n (g.posts y b)=some (.arr t l v)→L1 n v=l.length:=fun n t l v hn=>by
   show(match look n (g.posts y b)with|some (.arr t l u)=>if v=u then l.length else L0 n v|_=>L0 n v)=_
   rw[hn];simp only[if_true]
  have hpost:∀n b0,look n (OL.put 1 post b)=some b0→look n (g.posts y b)=some b0:=fun n b0 hn=>by
   show look n (OL.put 1 post b++_)=_
   rw[YK,hn]
  have hpre:∀n b0,look n (OL.put 1 post b)=none→n∈keep→look n (OL.put 0 pre y)=some b0→look n (g.posts y b)=some b0:=fun n b0 h1 h2 h3=>by
   show look n (OL.put 1 post b++(OL.put 0 pre y).filter (fun p=>keep.contains p.1))=_
   rw[YK,h1]
   simp only[QaN (f:=fun n=>keep.contains n)]
   rw[if_pos (by simpa using h2),h3]
  refine⟨L1,fun n hn=>?_,hL1,?_⟩
  ·show(match look n (g.posts y b)with|some (.arr t l u)=>if 0=u then l.length else L0 n 0|_=>L0 n 0)=_
   split
   ·rename_i t l u hl
    split
    ·rename_i e
     subst e
     change look n (OL.put 1 post b++(OL.put 0 pre y).filter (fun p=>keep.contains p.1))=_ at hl
     rw[YK]at hl
     cases h1:look n (OL.put 1 post b)with
     |some b1=>
      rw[h1]at hl;cases hl
      have hab:(un q).2=b:=congrArg Prod.snd h
      rw[hab]at hlens
      obtain⟨t',z,k1,k2⟩:=QkS (hlens n t l h1)
      rw[←k2];exact(hL0 n t' z 0 k1).symm
     |none=>
      rw[h1]at hl
      simp only[QaN (f:=fun n=>keep.contains n)]at hl
      split at hl
      ·exact(hL0 n t l 0 hl).symm
      ·simp at hl
    ·rfl
   ·rfl
  ·have hspec:Spec P f (erL L0 (SL.put 0 args x)) (erH L0 (OL.put 0 pre y)) fun v h'=>
     (∀(ρ:Name→Loc) (H:Heap) (M:Nat→Prop) (w:World) (u:Value),v.R ρ H M w u→((resB (SL.put 1 res a)).er L1).R ρ H M w u)∧
     (∀n o',look n (erH L1 (g.posts y b))=some o'→∃o,look n h'=some o∧(o=o'∨∃cs ds,o=.box cs∧o'=.box ds∧Xx cs ds))∧(∀n o,look n h'=some o→∃o',look n (erH L1 (g.posts y b))=some o'):=by
    refine Spec.intro hf hb (by rw[Xl,Qhm];exact hlen) fun Γ hn hk=>?_
    rw[Qcu,QlP]at hk
    rw[Qiu]
    refine AWp.post ((Qj1 hE hk hn c an _ _ L0 _ hvc hL0).mono fun e s'=>?_)
    rintro⟨ts',hs',L',rfl,hi',hk'⟩
    have hend:(e=.normal∨e=.ret)∧endK P (keys pre) fn.results.toList g y (fun a b=>some (conv a b)) ts' hs'=some q:=by
     cases e with
     |normal=>exact⟨.inl rfl,hk'⟩
     |ret=>exact⟨.inr rfl,hk'⟩
     |_=>simp[finK]at hk'
    obtain⟨he,hk'⟩:=hend
    unfold endK at hk'
    obtain⟨ts2,hs2',L2',hk',hi2',hw0'⟩:=Qaz (Γ:=Γ) hk' hi'
    obtain⟨hs2,L2,hk',hi2,hw0''⟩:=QeG (Γ:=Γ) hk' hi2'
    have hw0:=hw0'.trans hw0''
    split at hk'
    ·simp at hk'
    rename_i vs0 hvs0
    obtain⟨ts1,hs1,hk',hi1,hw1⟩:=QbU hk hk' hi2
    split at hk'
    ·simp at hk'
    rename_i vs hvs
    obtain⟨σ1,a',hk',hs1',g1⟩:=SL.get_some hk'
    obtain⟨σ2,b',hk',hs2',g2⟩:=OL.get_some hk'
    split at hk'
    case isFalse=>simp at hk'
    rename_i hchk
    simp only[bae]at hchk
    obtain⟨⟨⟨⟨hid,hall⟩,hkp⟩,hown1⟩,hown2⟩:=hchk
    obtain⟨hq',hkept⟩:=Vf hk'
    simp only[Option.some.injEq]at hq'
    have hab:(a',b')=(a,b):=(hcu a' b').symm.trans ((congrArg un hq').trans h)
    obtain⟨hab1,hab2⟩:=Prod.mk.inj hab
    rw[hab1]at g1
    rw[hab2]at g2
    have hf2:=QoK hid
    have hf1:Fit (fun n=>n) (Qgz σ2) σ1:=hf2.mono fun p hp=>hs2' p (List.mem_append_right _ hp)
    have hlen2:∀n,arrB post n=true→UZ L2 (fun n=>n) (Qgz σ2) n 0=L1 n 1:=fun n hn=>by
     have hkn:n∈keys post:=by
      unfold arrB at hn
      split at hn
      ·rename_i hl;exact Zw (by rw[hl];simp)
      ·simp at hn
     obtain⟨b0,hb0⟩:=Qei (u:=0) (y:=b) hkn
     obtain⟨p,z,hp1,hp2,hp3,hp4⟩:=Qpl hb0
     unfold arrB at hn
     rw[hp2]at hn
     obtain⟨k,o⟩:=p
     cases o with
     |arr t=>
      have h1:=hL1 n t z 1 (hpost n _ (hp4 1))
      obtain⟨ob,hob,hle⟩:=g2 _ _ L2 hf2 n _ (hp4 0)
      rcases hle with⟨cs,ds,_,h2,_⟩|⟨t',l',rfl,h2⟩|⟨es,_,h2⟩
      ·cases h2
      ·cases h2
       rw[h1];exact hi1 n t z _ hob
      ·cases h2
     |box l=>simp at hn
     |boxst t=>simp at hn
     |arrs t=>simp at hn
     |sm=>simp at hn
    have hle1:Xx (erL L2 (QmN hs1 g.res vs)) (erL L1 (SL.put 1 res a)):=by
     have:=g1 _ _ L2 hf1
     rw[QdS]at this
     have e:=SL.put_ver (l:=res) (x:=a) (L:=UZ L2 (fun n=>n) (Qgz σ2)) (L':=L1) (u:=0) (v:=1) (fun n hn=>hlen2 n (List.all_eq_true.1 hown1 n hn))
     exact Eq.mp (congrArg (Xx (erL L2 (QmN hs1 g.res vs))) e) this
    have hobj:∀n b0,look n (g.posts y b)=some b0→∃ob,look n hs1=some ob∧(ob.er L2=b0.er L1∨∃cs ds,ob.er L2=.box cs∧b0.er L1=.box ds∧Xx cs ds):=fun n b0 hb0=>by
     cases hp0:look n (OL.put 1 post b)with
     |some b1=>
      rw[hpost n b1 hp0]at hb0;cases hb0
      obtain⟨p,z,hp1,hp2,hp3,hp4⟩:=Qpl hp0
      subst hp3
      obtain⟨ob,hob,hle⟩:=g2 _ _ L2 hf2 n _ (hp4 0)
      refine⟨ob,hob,?_⟩
      have hv:=OSh.put_ver (s:=p.2) (x:=z) (L:=UZ L2 (fun n=>n) (Qgz σ2)) (L':=L1) (u:=0) (v:=1) (fun m hm=>hlen2 m (List.all_eq_true.1 hown2 m (List.mem_flatMap.2 ⟨p,hp1,hm⟩)))
      rw[←hv]
      rcases hle with⟨cs,ds,rfl,h2,h3⟩|⟨t',l',rfl,h2⟩|⟨es,rfl,h2⟩
      ·rw[QdS]at h3
       exact .inr ⟨_,_,rfl,by rw[h2];rfl,h3⟩
      ·exact .inl (by rw[h2];rfl)
      ·exact .inl (by rw[h2];rfl)
     |none=>
      change look n (OL.put 1 post b++(OL.put 0 pre y).filter (fun p=>keep.contains p.1))=_ at hb0
      rw[YK,hp0]at hb0
      simp only[QaN (f:=fun n=>keep.contains n)]at hb0
      split at hb0
      ·rename_i hc
       have hc':n∈keep:=by simpa using hc
       rcases hkept n b0 hc' hb0 with⟨t,z,v,rfl,hz⟩|⟨t,z,cs,rfl,hz,hle⟩
       ·exact⟨_,hz,.inl rfl⟩
       ·refine⟨_,hz,.inr ⟨_,_,rfl,rfl,?_⟩⟩
        rw[show erL L1 (tb t z)=erL L2 (tb t z)from by rw[Vy (Qch t z),Vy (Qch t z)]]
        exact hle L2
      ·simp at hb0
    refine⟨BS L2 ts1 hs1,fun ρ M a w hs0=>by obtain⟨ρ',M',h0⟩:=hw0 ρ M a w hs0;exact hw1 ρ' M' a w h0,he,(resB vs).er L2,erH L2 (hpOf (fun n=>n) hs1 (keys (g.posts y b))),Qya hvs,fun n o hn'=>?_,fun n hn'=>?_,fun ρ H M w u hr=>QtS hle1 ρ H M w u (QtS (QmO hi1) ρ H M w u hr),fun n o' hn'=>?_,fun n o hn'=>?_⟩
    ·rw[Z2]at hn'
     cases hl:look n (hpOf (fun n=>n) hs1 (keys (g.posts y b)))with
     |none=>rw[hl]at hn';simp at hn'
     |some ob=>rw[hl]at hn';rw[X7,Qh5 (Q0 hl)];exact hn'
    ·rw[Qcu,QlP]at hn'
     have hkey:∃b0,look n (g.posts y b)=some b0:=by
      cases hp0:look n (OL.put 1 post b)with
      |some b1=>exact⟨b1,hpost n b1 hp0⟩
      |none=>
       have:=List.all_eq_true.1 hall n hn'
       simp only[Bool.or_eq_true]at this
       rcases this with h1|h1
       ·obtain⟨b1,hb1⟩:=Qei (u:=1) (y:=b) (Wt.1 h1)
        change look n (OL.put 1 post b)=_ at hb1
        rw[hb1]at hp0;simp at hp0
       ·obtain⟨b1,hb1⟩:=Qei (u:=0) (y:=y) hn'
        exact⟨b1,hpre n b1 hp0 (Wt.1 h1) hb1⟩
     obtain⟨b0,hb0⟩:=hkey
     obtain⟨ob,hob,_⟩:=hobj n b0 hb0
     rw[Z2,Qdw (rr:=fun n=>n) (fun _ _ h=>h) hob (Zw (by rw[hb0];simp))];simp
    ·rw[Z2]at hn'
     cases hb0:look n (g.posts y b)with
     |none=>rw[hb0]at hn';simp at hn'
     |some b0=>
      rw[hb0]at hn'
      simp only[Option.map_some,Option.some.injEq]at hn'
      obtain⟨ob,hob,hle⟩:=hobj n b0 hb0
      refine⟨ob.er L2,by rw[Z2,Qdw (rr:=fun n=>n) (fun _ _ h=>h) hob (Zw (by rw[hb0];simp))];rfl,?_⟩
      rw[←hn'];exact hle
    ·rw[Z2]at hn'
     cases hl:look n (hpOf (fun n=>n) hs1 (keys (g.posts y b)))with
     |none=>rw[hl]at hn';simp at hn'
     |some ob=>
      obtain⟨m,hm,rfl⟩:=Qh4 (Q0 hl)
      obtain⟨b0,hb0⟩:=WJ hm
      exact⟨_,by rw[Z2,hb0];rfl⟩
   intro G ρ M w us hG hM hargs hobjs hinj
   exact(hspec G ρ M w us hG hM hargs hobjs hinj).mono fun e w' ⟨u,v,h',ρ',e1,⟨c1,c2,c3⟩,ha⟩=>⟨u,_,_,ρ',e1,⟨rfl,rfl⟩,ha.le c1 c2 c3⟩
end
def fitC:List Sh→List BV→Bool
 |.own _::r,v::vs=>(match v with|.own _ _=>true|_=>false) && fitC r vs
 |_::r,_::vs=>fitC r vs
 |_,_=>true
def fitB:List SSh→List BV→Bool
 |.one (.own _)::r,v::vs=>(match v with|.own _ _=>true|_=>false) && fitB r vs
 |.one (.clo f _)::r,v::vs=>(match v with|.clo (.func k) _=>Nat.beq k f|_=>false) && fitB r vs
 |.one (.fv f)::r,v::vs=>(match v with|.v (.func (.func k) _ _)=>Nat.beq k f|_=>false) && fitB r vs
 |.agg l::r,v::vs=>(match v with|.agg cs=>fitC l cs|_=>false) && fitB r vs
 |_::r,_::vs=>fitB r vs
 |_,_=>true
def fitD:Nat→Option Nat→Bool
 |0,_=>true
 |n+1,some d=>Nat.beq n d
 |_,none=>false
def Qu8(d:Option Nat)(k:Nat)(vs:List BV):List (Nat×Nat×Sig)→Option Sig
 |[]=>none
 |(j,q,g)::r=>if Nat.beq j k && fitD q d && fitB g.args vs then some g else Qu8 d k vs r
def envL(l:List (Nat×Nat×Sig)):Env:=fun d k vs=>Qu8 d k vs l
def Qhl(P:Program):List (Nat×Nat×Sig)→Prop
 |[]=>True
 |p::r=>FnOK P p.1 p.2.2∧Qhl P r
theorem QsL{P:Program}:∀{l:List (Nat×Nat×Sig)},Qhl P l→QmU P (envL l)
 |[],_,d,k,vs,g,h=>by simp[envL,Qu8]at h
 |(j,q,g0)::r,hl,d,k,vs,g,h=>by
  simp only[envL,Qu8]at h
  split at h
  ·rename_i e
   simp only[bae]at e
   rw[←nbe e.1.1];cases h;exact hl.1
  ·exact QsL hl.2 d k vs g h
end
/-
  How what is reckoned of code is evaluated: plain laws of its words. No project text.
-/
section
variable {R α:Type} {r:R}
theorem Qdm{p:Prop}[Decidable p]{x y:Option R}(h:p):cnd (decide p) x y=x:=by simp only[h,decide_true,cnd]
theorem QhJ{p:Prop}[Decidable p]{x y:Option R}(h:¬p):cnd (decide p) x y=y:=by simp only[h,decide_false,cnd]
theorem QvP{p:Prop}[Decidable p]{x y:Option R}:cnd (decide p) x y=if p then x else y:=by
 by_cases h:p
 ·rw[Qdm h,if_pos h]
 ·rw[QhJ h,if_neg h]
theorem QvZ{j:Int}{k:Nat→Option R}(h:0≤j):natc j k=k j.toNat:=by unfold natc;rw[if_pos h]
theorem Qx6(i:Nat){k:Nat→Option R}:natc (i:Int) k=k i:=by unfold natc;rw[if_pos (Int.natCast_nonneg i)];rfl
theorem ZL{x:α}{k:α→Option R}:optc (some x) k=k x:=rfl
theorem WA{o:Option α}{x:α}{k:α→Option R}(h:o=some x):optc o k=k x:=by subst h;rfl
theorem QxS[Inhabited α]{l:List α}{j:Int}{k:α→Option R}(h:0≤j)(h':j<(l.length:Int)):atc l j k=k (nth l j.toNat):=by
 unfold atc;rw[QvZ h]
 have:j.toNat<l.length:=by omega
 rw[List.getElem?_eq_getElem this]
 simp[optc,nth,List.getD_eq_getElem?_getD,List.getElem?_eq_getElem this]
theorem QxR[Inhabited α]{l:List α}{i:Nat}{k:α→Option R}(h':i<l.length):atc l (i:Int) k=k (nth l i):=by
 rw[QxS (Int.natCast_nonneg i) (by omega)];rfl
theorem Qxe[Inhabited α]{l:List α}{i:Nat}{k:α→Option R}(h':i<l.length):optc l[i]? k=k (nth l i):=by
 rw[List.getElem?_eq_getElem h']
 simp[optc,nth,List.getD_eq_getElem?_getD,List.getElem?_eq_getElem h']
theorem Qyo{a b:Nat}{x:Option R}(h:a=b):chk a b x=x:=by unfold chk;rw[if_pos h]
theorem Qyp{a b:Nat}{x:Option R}(h:a<b):ltc a b x=x:=by unfold ltc;rw[if_pos h]
theorem Qx2{a b:Nat}{x:Option R}(h:a≤b):lec a b x=x:=by unfold lec;rw[if_pos h]
theorem Qto{b:Int}{x:Option R}(h:b≠0):nzc b x=x:=by unfold nzc;rw[if_neg h]
theorem Wn{a:α}[DecidableEq α]{x:Option R}:sameC a a x=x:=by unfold sameC;rw[if_pos rfl]
theorem QgB{x:Int}(h : -9223372036854775808≤x)(h':x≤9223372036854775807):IntKind.i64.wrap x=x:=by rw[IntKind.wrap_i64];omega
theorem Qs3{X:Type}{B:(X→Option R)→X→Option R}{Q:Option R→Prop}(I:Nat→X→Prop)(hB:∀m x,I m x→∀k:X→Option R,(∀m' x',m'<m→I m' x'→Q (k x'))→Q (B k x)):
  ∀(m:Nat) (x:X) {fu:Nat},m<fu→I m x→Q (Qh B fu x):=by
 intro m
 induction m using Nat.strongRecOn with
 |_ m ih=>
  intro x fu hf hI
  obtain⟨f,rfl⟩:∃f,fu=f+1:=⟨fu - 1,by omega⟩
  show Q (B (Qh B f) x)
  exact hB m x hI _ fun m' x' hm hI'=>ih m' hm x' (by omega) hI'
def Ok(o:Option R)(Q:R→Prop):Prop:=∃x,o=some x∧Q x
variable {Q Q':R→Prop}
theorem Ok.s{x:R}(h:Q x):Ok (some x) Q:=⟨x,rfl,h⟩
theorem Ok.mono{o:Option R}(h:Ok o Q)(hq:∀x,Q x→Q' x):Ok o Q':=by obtain⟨x,h1,h2⟩:=h;exact⟨x,h1,hq x h2⟩
theorem Ok.cnd{b:Bool}{x y:Option R}(h1:b=true→Ok x Q)(h2:b=false→Ok y Q):Ok (AM.cnd b x y) Q:=by
 cases b
 ·exact h2 rfl
 ·exact h1 rfl
theorem Ok.ite{p:Prop}[Decidable p]{x y:Option R}(h1:p→Ok x Q)(h2:¬p→Ok y Q):Ok (AM.cnd (decide p) x y) Q:=
 Ok.cnd (fun h=>h1 (of_decide_eq_true h)) (fun h=>h2 (of_decide_eq_false h))
theorem Ok.opt{o:Option α}{P:α→Prop}{k:α→Option R}(h:Ok o P)(hk:∀x,P x→Ok (k x) Q):Ok (optc o k) Q:=by
 obtain⟨x,rfl,h2⟩:=h;exact hk x h2
theorem Ok.at[Inhabited α]{l:List α}{j:Int}{k:α→Option R}(h:0≤j)(h':j<(l.length:Int))(hk:Ok (k (nth l j.toNat)) Q):Ok (atc l j k) Q:=by rw[QxS h h'];exact hk
theorem Ok.lec{a b:Nat}{x:Option R}(h:a≤b)(hx:Ok x Q):Ok (AM.lec a b x) Q:=by rw[Qx2 h];exact hx
theorem Ok.nzc{b:Int}{x:Option R}(h:b≠0)(hx:Ok x Q):Ok (AM.nzc b x) Q:=by rw[Qto h];exact hx
theorem Ok.sameC{a:α}[DecidableEq α]{x:Option R}(hx:Ok x Q):Ok (AM.sameC a a x) Q:=by rw[Wn];exact hx
theorem Ok.join{Y:Type}{k:Y→Option R}{f:(Y→Option R)→Option R}(J:Y→Prop)(h1:∀y,J y→Ok (k y) Q)(h2:∀k:Y→Option R,(∀y,J y→Ok (k y) Q)→Ok (f k) Q):Ok (AM.join k f) Q:=h2 k h1
theorem Ok.loop{X:Type}{B:(X→Option R)→X→Option R}(I:Nat→X→Prop){m:Nat}{x:X}{fu:Nat}(hm:m<fu)(h0:I m x)(hB:∀m x,I m x→∀k:X→Option R,(∀m' x',m'<m→I m' x'→Ok (k x') Q)→Ok (B k x) Q):Ok (Qh B fu x) Q:=
 Qs3 (Q:=fun o=>Ok o Q) I hB m x hm h0
theorem Ok.eq{o:Option R}{v:R}(h:Ok o (·=v)):o=some v:=by obtain⟨x,rfl,rfl⟩:=h;rfl
end
/-
  How what is reckoned of code is evaluated, step by step, where its conditions are known. No project text.
-/
open Go
section
variable {R α:Type} {Q:R→Prop}
theorem Ok.p{p:Prop}[Decidable p]{x y:Option R}(h:p)(hx:Ok x Q):Ok (AM.cnd (decide p) x y) Q:=by rw[Qdm h];exact hx
theorem Ok.n{p:Prop}[Decidable p]{x y:Option R}(h:¬p)(hx:Ok y Q):Ok (AM.cnd (decide p) x y) Q:=by rw[QhJ h];exact hx
theorem Ok.np{p:Prop}[Decidable p]{x y:Option R}(h:p)(hx:Ok y Q):Ok (AM.cnd (!decide p) x y) Q:=by simp only[h,decide_true,Bool.not_true];exact hx
theorem Ok.nn{p:Prop}[Decidable p]{x y:Option R}(h:¬p)(hx:Ok x Q):Ok (AM.cnd (!decide p) x y) Q:=by simp only[h,decide_false,Bool.not_false];exact hx
theorem Ok.t{x y:Option R}(hx:Ok x Q):Ok (AM.cnd true x y) Q:=hx
theorem Ok.f{x y:Option R}(hx:Ok y Q):Ok (AM.cnd false x y) Q:=hx
theorem Ok.bt{b:Bool}{x y:Option R}(h:b=true)(hx:Ok x Q):Ok (AM.cnd b x y) Q:=by rw[h];exact hx
theorem Ok.bf{b:Bool}{x y:Option R}(h:b=false)(hx:Ok y Q):Ok (AM.cnd b x y) Q:=by rw[h];exact hx
theorem Ok.nt{b:Bool}{x y:Option R}(h:b=true)(hx:Ok y Q):Ok (AM.cnd (!b) x y) Q:=by rw[h];exact hx
theorem Ok.nf{b:Bool}{x y:Option R}(h:b=false)(hx:Ok x Q):Ok (AM.cnd (!b) x y) Q:=by rw[h];exact hx
theorem Ok.ncnd{b:Bool}{x y:Option R}(h1:b=false→Ok x Q)(h2:b=true→Ok y Q):Ok (AM.cnd (!b) x y) Q:=by
 cases b
 ·exact h1 rfl
 ·exact h2 rfl
theorem Ok.j{Y:Type}{k:Y→Option R}{f:(Y→Option R)→Option R}(h:Ok (f k) Q):Ok (AM.join k f) Q:=h
theorem Ok.oe{o:Option α}{v:α}{k:α→Option R}(h:o=some v)(hk:Ok (k v) Q):Ok (optc o k) Q:=by rw[h];exact hk
theorem Ok.os{v:α}{k:α→Option R}(hk:Ok (k v) Q):Ok (optc (some v) k) Q:=hk
theorem Ok.ck{a b:Nat}{x:Option R}(h:a=b)(hx:Ok x Q):Ok (AM.chk a b x) Q:=by rw[Qyo h];exact hx
theorem Ok.lt{a b:Nat}{x:Option R}(h:a<b)(hx:Ok x Q):Ok (AM.ltc a b x) Q:=by rw[Qyp h];exact hx
theorem Ok.nat{j:Int}{k:Nat→Option R}(h:0≤j)(hk:Ok (k j.toNat) Q):Ok (AM.natc j k) Q:=by rw[QvZ h];exact hk
theorem Ok.natn{i:Nat}{k:Nat→Option R}(hk:Ok (k i) Q):Ok (AM.natc (i:Int) k) Q:=by rw[Qx6];exact hk
theorem Ok.get[Inhabited α]{l:List α}{i:Nat}{k:α→Option R}(h:i<l.length)(hk:Ok (k (nth l i)) Q):Ok (optc (GetElem?.getElem? l i) k) Q:=by rw[Qxe h];exact hk
theorem Ok.atn[Inhabited α]{l:List α}{i:Nat}{k:α→Option R}(h:i<l.length)(hk:Ok (k (nth l i)) Q):Ok (atc l (i:Int) k) Q:=by rw[QxR h];exact hk
theorem Xg[DecidableEq α]{l:List α}(h:l.length≤34359738368):nilC l (AM.both (some []) (AM.lec l.length 34359738368 (some l))) (AM.lec l.length 34359738368 (some l))=some l:=by
 rw[Qx2 h]
 cases l with
 |nil=>unfold AM.both;rfl
 |cons a l=>rfl
theorem Qc{x:Int}(h : -9223372036854775808≤x∧x≤9223372036854775807):IntKind.wrap .i64 x=x:=QgB h.1 h.2
theorem Ok.run{X:Type}{B:(X→Option R)→X→Option R}(n:Nat)(st:Nat→X){fu:Nat}{x:X}(hx:x=st 0)(hf:n<fu)(hs:∀i,i<n→∀k,(Ok (k (st (i+1))) Q→Ok (B k (st i)) Q))(h:∀k,Ok (B k (st n)) Q):Ok (Qh B fu x) Q:=by
 subst hx
 revert st fu
 induction n with
 |zero=>
  intro st fu hf _ h
  obtain⟨f,rfl⟩:∃f,fu=f+1:=⟨fu - 1,by omega⟩
  exact h _
 |succ n ih=>
  intro st fu hf hs h
  obtain⟨f,rfl⟩:∃f,fu=f+1:=⟨fu - 1,by omega⟩
  show Ok (B (Qh B f) (st 0)) Q
  exact hs 0 (by omega) _ (ih (fun i=>st (i+1)) (by omega) (fun i hi k=>hs (i+1) (by omega) k) h)
theorem Ok.scan{X:Type}{B:(X→Option R)→X→Option R}(n:Nat)(st:Nat→X)(q:Nat→Bool){fu:Nat}{x:X}(hx:x=st 0)(hf:n<fu)(hy:∀i,i<n→q i=true→(∀j,j<i→q j=false)→∀k,Ok (B k (st i)) Q)(hn:∀i,i<n→q i=false→∀k,(Ok (k (st (i+1))) Q→Ok (B k (st i)) Q))(he:(∀j,j<n→q j=false)→∀k,Ok (B k (st n)) Q):Ok (Qh B fu x) Q:=by
 refine Ok.loop (fun m x=>∃i,i≤n∧m=n - i∧x=st i∧∀j,j<i→q j=false) (m:=n) hf ⟨0,by omega,rfl,hx,fun j hj=>by omega⟩ ?_
 rintro m x ⟨i,h1,h2,rfl,h3⟩ k hk
 by_cases h:i<n
 ·cases hq:q i with
  |true=>exact hy i h hq h3 k
  |false=>exact hn i h hq k (hk (n - (i+1)) _ (by omega) ⟨i+1,by omega,rfl,rfl,fun j hj=>by
    by_cases e:j=i
    ·subst e;exact hq
    ·exact h3 j (by omega)⟩)
 ·obtain rfl:i=n:=by omega
  exact he h3 k
theorem Qis{l:List α}[Inhabited α]{p:α→Bool}{i:Nat}(hi:i<l.length)(h:p (nth l i)=true):l.any p=true:=List.any_eq_true.2 ⟨_,Qi hi,h⟩
theorem QmZ{l:List α}[Inhabited α]{p:α→Bool}(h:∀j,j<l.length→p (nth l j)=false):l.any p=false:=by
 rw[List.any_eq_false]
 intro x hx
 obtain⟨j,hj,rfl⟩:=List.getElem_of_mem hx
 have:=h j hj
 simp only[nth,List.getD_eq_getElem?_getD,List.getElem?_eq_getElem hj,Option.getD_some]at this
 simp[this]
theorem cnd2{p q:Prop}[Decidable p][Decidable q]:AM.cnd (decide p) (AM.cnd (decide q) (some true) (some false)) (some false)=some (decide (p∧q)):=by
 by_cases hp:p<;>by_cases hq:q<;>simp[AM.cnd,hp,hq]
theorem Ok.of{o:Option R}{v:R}(h:o=some v)(hq:Q v):Ok o Q:=⟨v,h,hq⟩
theorem Ok.N{p:Prop}[Decidable p]{x y:Option R}(hx:Ok y Q)(h:¬p:=by omega):Ok (AM.cnd (decide p) x y) Q:=.n h hx
theorem Ok.P{p:Prop}[Decidable p]{x y:Option R}(hx:Ok x Q)(h:p:=by omega):Ok (AM.cnd (decide p) x y) Q:=.p h hx
theorem Ok.NS{p:Prop}[Decidable p]{x y:Option R}(hx:Ok y Q)(h:¬p:=by simp):Ok (AM.cnd (decide p) x y) Q:=.n h hx
theorem Ok.PS{p:Prop}[Decidable p]{x y:Option R}(hx:Ok x Q)(h:p:=by simp):Ok (AM.cnd (decide p) x y) Q:=.p h hx
theorem Ok.L{a b:Nat}{x:Option R}(hx:Ok x Q)(h:a≤b:=by omega):Ok (AM.lec a b x) Q:=.lec h hx
theorem Ok.LS{a b:Nat}{x:Option R}(hx:Ok x Q)(h:a≤b:=by simp;omega):Ok (AM.lec a b x) Q:=.lec h hx
theorem Ok.E{a b:Nat}{x:Option R}(hx:Ok x Q)(h:a<b:=by omega):Ok (AM.ltc a b x) Q:=.lt h hx
theorem Ok.A[Inhabited α]{l:List α}{i:Nat}{k:α→Option R}(hk:Ok (k (nth l i)) Q)(h:i<l.length:=by omega):Ok (atc l (i:Int) k) Q:=.atn h hk
theorem Ok.G[Inhabited α]{l:List α}{i:Nat}{k:α→Option R}(hk:Ok (k (nth l i)) Q)(h:i<l.length:=by omega):Ok (optc (GetElem?.getElem? l i) k) Q:=.get h hk
theorem Ok.Z{b:Int}{x:Option R}(hx:Ok x Q)(h:b≠0:=by omega):Ok (AM.nzc b x) Q:=.nzc h hx
end
end Go.Proofs.YtadlpefpehjcoaaGreat.AM
/-
  Sets of numbers as ascending lists, in plain Lean: With, sorting, leaving out what comes twice.
-/
namespace Go.Proofs.YtadlpefpehjcoaaGreat
open Go AM
def Asc(l:List Int):Prop:=l.Pairwise (·<·)
theorem Qcp:∀{a b:List Int},Asc a→Asc b→(∀x,x∈a↔x∈b)→a=b
 |[],[],_,_,_=>rfl
 |[],y::b,_,_,h=>by have:=(h y).2 (List.mem_cons_self ..);simp at this
 |x::a,[],_,_,h=>by have:=(h x).1 (List.mem_cons_self ..);simp at this
 |x::a,y::b,ha,hb,h=>by
  have ha':=List.pairwise_cons.1 ha
  have hb':=List.pairwise_cons.1 hb
  have e:x=y:=by
   rcases List.mem_cons.1 ((h x).1 (List.mem_cons_self ..))with e|hx
   ·exact e
   ·rcases List.mem_cons.1 ((h y).2 (List.mem_cons_self ..))with e|hy
    ·exact e.symm
    ·have h1:=hb'.1 x hx
     have h2:=ha'.1 y hy
     omega
  subst e
  congr 1
  refine Qcp ha'.2 hb'.2 fun z=>⟨fun hz=>?_,fun hz=>?_⟩
  ·have h1:=ha'.1 z hz
   rcases List.mem_cons.1 ((h z).1 (List.mem_cons_of_mem _ hz))with e|h2
   ·omega
   ·exact h2
  ·have h1:=hb'.1 z hz
   rcases List.mem_cons.1 ((h z).2 (List.mem_cons_of_mem _ hz))with e|h2
   ·omega
   ·exact h2
def WI(l:List Int)(x:Int):Nat→List Int×Bool
 |0=>([],false)
 |i+1=>((WI l x i).1++(if (WI l x i).2=false∧x≤nth l i then[x]else[])++(if nth l i≠x then[nth l i]else[]),(WI l x i).2 || decide (x≤nth l i))
def QhY(l:List Int)(x:Int):List Int:=if (WI l x l.length).2=true then(WI l x l.length).1 else(WI l x l.length).1++[x]
theorem QgH{l:List Int}(h:Asc l){i j:Nat}(hij:i<j)(hj:j<l.length):nth l i<nth l j:=by
 have:=List.pairwise_iff_getElem.1 h i j (by omega) hj hij
 simpa [nth,List.getD_eq_getElem?_getD,List.getElem?_eq_getElem hj,List.getElem?_eq_getElem (show i<l.length by omega)]using this
theorem VF{l:List Int}{i:Nat}(h:i<l.length)(z:Int):z∈l.take (i+1)↔z∈l.take i∨z=nth l i:=by
 rw[List.take_succ_eq_append_getElem h,List.mem_append,List.mem_singleton]
 simp[nth,List.getD_eq_getElem?_getD,List.getElem?_eq_getElem h]
theorem QqQ{l:List Int}{x:Int}(h:Asc l):∀i,i≤l.length→Asc (WI l x i).1∧(∀z,z∈(WI l x i).1↔z∈l.take i∧z≠x∨(WI l x i).2=true∧z=x)∧
  ((WI l x i).2=false→∀z∈l.take i,z<x)∧((WI l x i).2=true→∀j,i≤j→j<l.length→x<nth l j)
 |0,_=>by simp[WI,Asc]
 |i+1,hi=>by
  obtain⟨h1,h2,h3,h4⟩:=QqQ h i (by omega)
  have hlt:∀z∈l.take i,z<nth l i:=fun z hz=>by
   obtain⟨j,hj,rfl⟩:=List.getElem_of_mem hz
   rw[List.length_take]at hj
   have:=QgH h (show j<i by omega) (show i<l.length by omega)
   simpa [nth,List.getD_eq_getElem?_getD,List.getElem?_eq_getElem (show j<l.length by omega)]using this
  simp only[WI]
  cases hd:(WI l x i).2 with
  |true=>
   have hx:=h4 hd i (Nat.le_refl _) (by omega)
   rw[if_neg (by simp),if_pos (by omega),List.append_nil]
   refine⟨?_,fun z=>?_,by simp,fun _ j hj hl=>h4 hd j (by omega) hl⟩
   ·refine List.pairwise_append.2 ⟨h1,List.pairwise_singleton _ _,fun a ha b hb=>?_⟩
    rw[List.mem_singleton.1 hb]
    rcases(h2 a).1 ha with⟨g,_⟩|⟨_,rfl⟩
    ·exact hlt a g
    ·exact hx
   ·rw[List.mem_append,h2,VF (by omega),List.mem_singleton,hd]
    simp only[Bool.true_or,true_and]
    constructor
    ·rintro((⟨g,g'⟩|g)|g)
     ·exact .inl ⟨.inl g,g'⟩
     ·exact .inr g
     ·exact .inl ⟨.inr g,by omega⟩
    ·rintro(⟨g|g,g'⟩|g)
     ·exact .inl (.inl ⟨g,g'⟩)
     ·exact .inr g
     ·exact .inl (.inr g)
  |false=>
   have hb:=h3 hd
   by_cases hx:x≤nth l i
   ·rw[if_pos ⟨rfl,hx⟩]
    have e:(false || decide (x≤nth l i))=true:=by simp[hx]
    rw[e]
    have hm:∀z,z∈(WI l x i).1↔z∈l.take i:=fun z=>by
     rw[h2,hd]
     refine⟨fun g=>?_,fun g=>.inl ⟨g,by have:=hb z g;omega⟩⟩
     rcases g with⟨g,_⟩|⟨g,_⟩
     ·exact g
     ·simp at g
    refine⟨?_,fun z=>?_,by simp,fun _ j hj hl=>?_⟩
    ·refine List.pairwise_append.2 ⟨List.pairwise_append.2 ⟨h1,List.pairwise_singleton _ _,fun a ha b hb'=>?_⟩,?_,fun a ha b hb'=>?_⟩
     ·rw[List.mem_singleton.1 hb'];exact hb a ((hm a).1 ha)
     ·split<;>simp
     ·split at hb'
      ·rename_i hne
       rw[List.mem_singleton.1 hb']
       rcases List.mem_append.1 ha with ha|ha
       ·exact hlt a ((hm a).1 ha)
       ·rw[List.mem_singleton.1 ha];omega
      ·simp at hb'
    ·rw[List.mem_append,List.mem_append,hm,VF (by omega),List.mem_singleton]
     by_cases hne:nth l i≠x
     ·rw[if_pos hne,List.mem_singleton]
      constructor
      ·rintro((g|g)|g)
       ·exact .inl ⟨.inl g,by have:=hb z g;omega⟩
       ·exact .inr ⟨rfl,g⟩
       ·exact .inl ⟨.inr g,by omega⟩
      ·rintro(⟨g|g,_⟩|⟨_,g⟩)
       ·exact .inl (.inl g)
       ·exact .inr g
       ·exact .inl (.inr g)
     ·rw[if_neg hne]
      simp only[List.not_mem_nil,or_false]
      constructor
      ·rintro(g|g)
       ·exact .inl ⟨.inl g,by have:=hb z g;omega⟩
       ·exact .inr ⟨trivial,g⟩
      ·rintro(⟨g|g,g'⟩|⟨_,g⟩)
       ·exact .inl g
       ·omega
       ·exact .inr g
    ·have:=QgH h (show i<j by omega) hl
     omega
   ·rw[if_neg (by simp[hx]),if_pos (by omega),List.append_nil]
    have e:(false || decide (x≤nth l i))=false:=by simp[hx]
    rw[e]
    refine⟨?_,fun z=>?_,fun _ z hz=>?_,by simp⟩
    ·refine List.pairwise_append.2 ⟨h1,List.pairwise_singleton _ _,fun a ha b hb'=>?_⟩
     rw[List.mem_singleton.1 hb']
     rcases(h2 a).1 ha with⟨g,_⟩|⟨g,_⟩
     ·exact hlt a g
     ·rw[hd]at g;simp at g
    ·rw[List.mem_append,h2,VF (by omega),List.mem_singleton,hd]
     simp only[Bool.false_eq_true,false_and,or_false]
     constructor
     ·rintro(⟨g,g'⟩|g)
      ·exact⟨.inl g,g'⟩
      ·exact⟨.inr g,by omega⟩
     ·rintro⟨g|g,g'⟩
      ·exact .inl ⟨g,g'⟩
      ·exact .inr g
    ·rcases(VF (show i<l.length by omega) z).1 hz with g|g
     ·exact hb z g
     ·omega
theorem QcU{l:List Int}{x:Int}(h:Asc l):Asc (QhY l x)∧∀z,z∈QhY l x↔z∈l∨z=x:=by
 obtain⟨h1,h2,h3,h4⟩:=QqQ (x:=x) h l.length (Nat.le_refl _)
 rw[List.take_length]at h2 h3
 unfold QhY
 split
 ·rename_i hd
  refine⟨h1,fun z=>?_⟩
  rw[h2,hd]
  simp only[true_and]
  by_cases hz:z=x
  ·simp[hz]
  ·simp[hz]
 ·rename_i hd
  have hd:(WI l x l.length).2=false:=by cases hb:(WI l x l.length).2<;>simp_all
  have hm:∀z,z∈(WI l x l.length).1↔z∈l:=fun z=>by
   rw[h2,hd]
   refine⟨fun g=>?_,fun g=>.inl ⟨g,by have:=h3 hd z g;omega⟩⟩
   rcases g with⟨g,_⟩|⟨g,_⟩
   ·exact g
   ·simp at g
  refine⟨List.pairwise_append.2 ⟨h1,List.pairwise_singleton _ _,fun a ha b hb=>?_⟩,fun z=>?_⟩
  ·rw[List.mem_singleton.1 hb];exact h3 hd a ((hm a).1 ha)
  ·rw[List.mem_append,hm,List.mem_singleton]
def QoE(l:List Int)(j:Nat):List Int:=(l.set j (nth l (j - 1))).set (j - 1) (nth l j)
theorem QvA(l:List Int)(j:Nat):(QoE l j).length=l.length:=by simp[QoE]
theorem Qjn{l:List Int}{j k:Nat}{x:Int}(hj:j<l.length):nth (l.set j x) k=if k=j then x else nth l k:=by
 by_cases h:k=j
 ·subst h;rw[if_pos rfl];simp[nth,List.getD_eq_getElem?_getD,hj]
 ·rw[if_neg h];simp[nth,List.getD_eq_getElem?_getD,List.getElem?_set_ne (Ne.symm h)]
theorem Qej{l:List Int}{j k:Nat}(h1:1≤j)(hj:j<l.length):nth (QoE l j) k=if k=j - 1 then nth l j else if k=j then nth l (j - 1)else nth l k:=by
 unfold QoE
 rw[Qjn (by simp;omega)]
 split
 ·rfl
 ·rw[Qjn hj]
def X1(l:List Int)(n:Nat):Prop:=∀a b,a<b→b<n→nth l a≤nth l b
def QmT(l:List Int)(n j:Nat):Prop:=∀a b,a<b→b<n→b≠j→nth l a≤nth l b
theorem Qm9{l:List Int}{i:Nat}(h:X1 l i):QmT l (i+1) i:=fun a b h1 h2 h3=>h a b h1 (by omega)
theorem Qo6{l:List Int}{n j:Nat}(h:QmT l n j)(h1:1≤j)(hj:j<l.length)(hn:j<n)(hlt:nth l j<nth l (j - 1)):QmT (QoE l j) n (j - 1):=by
 intro a b hab hb hne
 rw[Qej h1 hj,Qej h1 hj,if_neg hne]
 by_cases g1:b=j
 ·subst g1
  rw[if_pos rfl]
  by_cases g2:a=b - 1
  ·rw[if_pos g2];omega
  ·rw[if_neg g2,if_neg (by omega)]
   exact h a (b - 1) (by omega) (by omega) (by omega)
 ·rw[if_neg g1]
  by_cases g2:a=j - 1
  ·rw[if_pos g2];exact h j b (by omega) hb g1
  ·rw[if_neg g2]
   by_cases g3:a=j
   ·rw[if_pos g3];exact h (j - 1) b (by omega) hb g1
   ·rw[if_neg g3];exact h a b hab hb g1
theorem Qq0{l:List Int}{n j:Nat}(h:QmT l n j)(he:j=0∨nth l (j - 1)≤nth l j):X1 l n:=by
 intro a b hab hb
 by_cases g:b=j
 ·subst g
  rcases he with he|he
  ·omega
  ·by_cases g2:a=b - 1
   ·rw[g2];exact he
   ·have:=h a (b - 1) (by omega) (by omega) (by omega);omega
 ·exact h a b hab hb g
theorem QvM{l:List Int}(h:X1 l l.length)(hd:∀k,1≤k→k<l.length→nth l (k - 1)≠nth l k):Asc l:=by
 refine List.pairwise_iff_getElem.2 fun i j hi hj hij=>?_
 have e:∀k (hk:k<l.length),l[k]=nth l k:=fun k hk=>by simp[nth,List.getD_eq_getElem?_getD,List.getElem?_eq_getElem hk]
 rw[e i hi,e j hj]
 have h1:=hd j (by omega) hj
 have h2:=h (j - 1) j (by omega) hj
 rcases Nat.eq_or_lt_of_le (show i≤j - 1 by omega)with g|g
 ·rw[g];omega
 ·have:=h i (j - 1) g (by omega);omega
end Go.Proofs.YtadlpefpehjcoaaGreat
/-
  Crews (one zone without rules, schedules of one layer without windows and calendar): who is on call, in plain Lean.
-/
set_option maxRecDepth 100000
namespace Go.Proofs.YtadlpefpehjcoaaGreat
open Go AM
section
structure QaB (x:D.Edit):Prop where
 kind:0≤x.Kind∧x.Kind≤2
 a:(0≤x.A∧x.A<4)∨(x.Kind=1∧x.A = -1)
 b:x.Kind=2→0≤x.B∧x.B<4∧x.A≠x.B
 b0:x.Kind≠2→x.B=0
 time:864000≤x.From∧x.From<x.To∧x.To<950400
structure YI (l:D.Layer):Prop where
 name:l.Name=ByteArray.mk #[108]
 zone:l.Zone=0
 day:l.Start.Day=1∨l.Start.Day=9∨l.Start.Day=10
 second:0≤l.Start.Second∧l.Start.Second≤43200
 unit:l.Unit=0∨l.Unit=1
 every:1≤l.Every∧l.Every≤3
 len:1≤l.Members.length∧l.Members.length≤3
 mem:∀x∈l.Members,0≤x∧x<4
 win:l.Windows=[]
 cal:l.Calendar=0∧l.Mode=0
structure Up (p:D.Person):Prop where
 zone:p.Zone=0
 max:p.MaxWeek=0∧p.MinRest=0
 quiet:p.Quiet=[]∨∃a b,p.Quiet=[⟨a,b⟩]∧(a=0∨a=3600)∧(b=7200∨b=86400∨b=604800)
structure Qdd (n:Nat) (s:D.Schedule):Prop where
 layers:∃l,s.Layers=[l]∧YI l
 len:s.Edits.length≤n
 edit:∀x∈s.Edits,QaB x
def bZ:ByteArray:=ByteArray.mk #[122]
def Yf:List ByteArray:=[ByteArray.mk #[97,110,110],ByteArray.mk #[98,111,98],ByteArray.mk #[99,97,116],ByteArray.mk #[100,97,110]]
def YA:List ByteArray:=[ByteArray.mk #[102,105,114,115,116],ByteArray.mk #[115,101,99,111,110,100]]
structure Q3 (n:Nat) (c:D.Config):Prop where
 zone:∃off,c.Zones=[⟨bZ,off,[]⟩]∧(off=0∨off=3600∨off = -7200)
 pname:c.People.map (·.Name)=Yf
 person:∀p∈c.People,Up p
 cal:c.Calendars=[]
 sname:c.Schedules.map (·.Name)=YA
 sched:∀s∈c.Schedules,Qdd n s
theorem Q3.plen{n:Nat}{c:D.Config}(h:Q3 n c):c.People.length=4:=by
 have:=congrArg List.length h.pname;simpa [Yf]using this
theorem Q3.slen{n:Nat}{c:D.Config}(h:Q3 n c):c.Schedules.length=2:=by
 have:=congrArg List.length h.sname;simpa [YA]using this
theorem Q3.mono{n m:Nat}{c:D.Config}(h:Q3 n c)(hm:n≤m):Q3 m c:=
 ⟨h.zone,h.pname,h.person,h.cal,h.sname,fun s hs=>⟨(h.sched s hs).layers,Nat.le_trans (h.sched s hs).len hm,(h.sched s hs).edit⟩⟩
def YR(c:D.Config):Int:=(nth c.Zones 0).Offset
theorem Q3.zones{n:Nat}{c:D.Config}(h:Q3 n c):c.Zones=[⟨bZ,YR c,[]⟩]∧(YR c=0∨YR c=3600∨YR c = -7200):=by
 obtain⟨off,h1,h2⟩:=h.zone
 have:YR c=off:=by unfold YR;rw[h1];rfl
 rw[this];exact⟨h1,h2⟩
def QvF(l:D.Layer):Int:=if l.Unit=0 then 3600 else 86400
def QcS(l:D.Layer):Int:=QvF l*l.Every
def Ys(off:Int)(l:D.Layer):Int:=l.Start.Day*86400+l.Start.Second - off
def YQ(off:Int)(l:D.Layer)(k:Int):Int:=Ys off l+QcS l*k
def ZW(off:Int)(l:D.Layer)(t:Int):Int:=if t<Ys off l then -1 else(t - Ys off l) / QcS l
theorem QmJ{l:D.Layer}(h:YI l):3600≤QcS l∧QcS l≤259200:=by
 have h2:=h.every
 have h1:=h.unit
 unfold QcS QvF
 split<;>omega
theorem Qf3{off:Int}{l:D.Layer}(h:YI l)(ho:off=0∨off=3600∨off = -7200):0<Ys off l∧Ys off l≤1000000:=by
 have h1:=h.day
 have h2:=h.second
 unfold Ys;omega
theorem QmG{off:Int}{l:D.Layer}{t k:Int}(h:YI l)(h0:0≤k)(h1:YQ off l k≤t)(h2:t<YQ off l (k+1)):ZW off l t=k:=by
 have hs:=(QmJ h).1
 unfold YQ at h1 h2
 rw[Int.mul_add,Int.mul_one]at h2
 have h3:0≤QcS l*k:=Int.mul_nonneg (by omega) h0
 unfold ZW
 rw[if_neg (by omega)]
 have h4:k≤(t - Ys off l) / QcS l:=(Int.le_ediv_iff_mul_le (by omega)).2 (by rw[Int.mul_comm];omega)
 have h5:(t - Ys off l) / QcS l<k+1:=(Int.ediv_lt_iff_lt_mul (by omega)).2 (by rw[Int.mul_comm,Int.mul_add,Int.mul_one];omega)
 omega
theorem QmH{off:Int}{l:D.Layer}{t:Int}(h:t<YQ off l 0):ZW off l t = -1:=by
 unfold YQ at h;rw[Int.mul_zero,Int.add_zero]at h
 unfold ZW;rw[if_pos h]
theorem Qvw{off:Int}{l:D.Layer}{t:Int}(h:YI l)(h0:Ys off l≤t):0≤ZW off l t∧YQ off l (ZW off l t)≤t∧t<YQ off l (ZW off l t+1):=by
 have hs:=(QmJ h).1
 have e:ZW off l t=(t - Ys off l) / QcS l:=by unfold ZW;rw[if_neg (by omega)]
 have h1:=Int.mul_ediv_add_emod (t - Ys off l) (QcS l)
 have h2:=Int.emod_nonneg (t - Ys off l) (b:=QcS l) (by omega)
 have h3:=Int.emod_lt_of_pos (t - Ys off l) (b:=QcS l) (by omega)
 have h4:0≤(t - Ys off l) / QcS l:=Int.ediv_nonneg (by omega) (by omega)
 rw[e]
 unfold YQ
 rw[Int.mul_add,Int.mul_one]
 omega
theorem Qoz{off:Int}{l:D.Layer}{t:Int}(h:YI l)(ho:off=0∨off=3600∨off = -7200)(ht:t≤8589934592): -1≤ZW off l t∧ZW off l t≤8589934592:=by
 by_cases h0:Ys off l≤t
 ·have h1:=Qvw h h0
  have h2:=(QmJ h).1
  have h3:=(Qf3 h ho).1
  have h4:3600*ZW off l t≤QcS l*ZW off l t:=Int.mul_le_mul_of_nonneg_right h2 h1.1
  unfold YQ at h1
  omega
 ·unfold ZW;rw[if_pos (by omega)];omega
def Qcs(off:Int)(l:D.Layer)(t:Int):Int:=if ZW off l t<0 then -1 else nth l.Members ((ZW off l t).toNat % l.Members.length)
theorem QuL{off:Int}{l:D.Layer}{t:Int}(h:YI l): -1≤Qcs off l t∧Qcs off l t<4:=by
 unfold Qcs
 split
 ·omega
 ·have hl:=h.len
  have:=h.mem (nth l.Members ((ZW off l t).toNat % l.Members.length)) (Qi (Nat.mod_lt _ (by omega)))
  omega
def QoZ(p t:Int)(x:D.Edit):Bool:=decide (x.Kind=0) && decide (x.A=p) && decide (x.From≤t) && decide (t<x.To)
def Qix(es:List D.Edit)(p t:Int):Bool:=es.any (QoZ p t)
def QnE(t:Int)(p:Int)(x:D.Edit):Int:=
 if ¬(x.From≤t∧t<x.To)∨x.Kind=0 then p else if x.Kind=1 then x.A else if x.Kind≠2 then p else if p=x.A then x.B else if p=x.B then x.A else p
def Qf5(es:List D.Edit)(p t:Int):Int:=es.foldl (QnE t) p
theorem QuQ{p t:Int}{x:D.Edit}(h:QaB x)(hp : -1≤p∧p<4): -1≤QnE t p x∧QnE t p x<4:=by
 have ha:=h.a
 have hb:=h.b
 unfold QnE
 repeat' split
 all_goals omega
theorem Qqc{t:Int}:∀{es:List D.Edit} {p:Int},(∀x∈es,QaB x)→(-1≤p∧p<4)→-1≤Qf5 es p t∧Qf5 es p t<4
 |[],p,_,hp=>hp
 |x::es,p,h,hp=>Qqc (es:=es) (fun y hy=>h y (List.mem_cons_of_mem _ hy)) (QuQ (h x (List.mem_cons_self ..)) hp)
theorem QkQ{es:List D.Edit}{p t:Int}{k:Nat}(hk:k<es.length):Qf5 (es.take (k+1)) p t=QnE t (Qf5 (es.take k) p t) (nth es k):=by
 unfold Qf5
 rw[List.take_succ_eq_append_getElem hk,List.foldl_append]
 simp[nth,List.getD_eq_getElem?_getD,List.getElem?_eq_getElem hk]
def layP(off:Int)(s:D.Schedule)(t:Int):Int:=if 0≤Qcs off (nth s.Layers 0) t∧Qix s.Edits (Qcs off (nth s.Layers 0) t) t=false then Qcs off (nth s.Layers 0) t else -1
def whoS(off:Int)(s:D.Schedule)(t:Int):Int:=Qf5 s.Edits (layP off s t) t
def whoV(c:D.Config)(i t:Int):Int:=if 0≤i∧i<2∧0≤t∧t≤8589934592 then whoS (YR c) (nth c.Schedules i.toNat) t else -1
theorem Qw0{n:Nat}{off:Int}{s:D.Schedule}{t:Int}(h:Qdd n s): -1≤layP off s t∧layP off s t<4:=by
 obtain⟨l,h1,h2⟩:=h.layers
 have:=QuL (off:=off) (t:=t) h2
 unfold layP
 rw[h1,show nth [l] 0=l from rfl]
 split<;>omega
theorem QxL{n:Nat}{c:D.Config}(h:Q3 n c){i t:Int}: -1≤whoV c i t∧whoV c i t<4:=by
 unfold whoV
 split
 ·have hs:=h.sched (nth c.Schedules i.toNat) (Qi (by rw[h.slen];omega))
  exact Qqc hs.edit (Qw0 hs)
 ·omega
theorem Qqg{off:Int}{l:D.Layer}{k n:Int}(hs:QcS l=86400*n):(l.Start.Day+k*n)*86400+l.Start.Second - off=YQ off l k:=by
 unfold YQ Ys
 rw[hs,Int.mul_assoc,Int.add_mul,Int.mul_comm k n,Int.mul_comm (n*k) 86400]
 omega
theorem QjV{l:D.Layer}(h:l.Unit=1):QcS l=86400*l.Every:=by unfold QcS QvF;rw[if_neg (by omega)]
theorem Qhg{l:D.Layer}(h:l.Unit=0):QcS l=3600*l.Every:=by unfold QcS QvF;rw[if_pos h]
def QbX(c:D.Config)(b:D.Book)(x:D.Target)(t:Int):List Int:=
 if x.Kind=0 then[x.Index]else if x.Kind=1 then(if whoV c x.Index t<0 then[]else[whoV c x.Index t])else
  if x.Kind=2∧0≤x.Index∧x.Index<(b.Teams.length:Int)then(nth b.Teams x.Index.toNat).Members else[]
def Means(c:D.Config)(b:D.Book)(l:List D.Target)(t z:Int):Prop:=0≤z∧z<4∧∃x∈l,z∈QbX c b x t
def Qap(off t:Int):Int:=((t+off) / 86400+3) % 7*86400+(t+off) % 86400
def QdE(ws:List D.Window)(s:Int):Bool:=ws.any fun w=>decide (w.From≤s) && decide (s<w.To)
def WB(c:D.Config)(p t:Int)(urgent:Bool):Bool:=
 decide (0≤p∧p<4∧0≤t∧t≤8589934592) && (urgent && (nth c.People p.toNat).Consent || !QdE (nth c.People p.toNat).Quiet (Qap (YR c) t))
end
/-
  Pages on their way through their policies, in plain Lean: what steps, runs and answers make of them.
-/
def QfR:List ByteArray:=[ByteArray.mk #[99,111,114,101],ByteArray.mk #[119,101,98]]
def Qkb:List ByteArray:=[ByteArray.mk #[112],ByteArray.mk #[113],ByteArray.mk #[114]]
structure QmV (t:D.Team):Prop where
 asc:Asc t.Members
 len:1≤t.Members.length∧t.Members.length≤2
 mem:∀x∈t.Members,0≤x∧x<4
structure Vv (n:Nat) (t:D.Target):Prop where
 kind:t.Kind=0∨t.Kind=1∨t.Kind=2
 lo:0≤t.Index
 person:t.Kind=0→t.Index<4
 sched:t.Kind=1→t.Index<2
 team:t.Kind=2→t.Index<(n:Int)
structure StepOK' (n:Nat) (s:D.PolicyStep):Prop where
 wait:0≤s.Wait∧s.Wait≤900
 len:s.Targets.length≤2
 target:∀t∈s.Targets,Vv n t
structure QbN (n:Nat) (p:D.Policy):Prop where
 rep:0≤p.Repeat∧p.Repeat≤2
 len:1≤p.Steps.length∧p.Steps.length≤3
 step:∀s∈p.Steps,StepOK' n s
structure QM (b:D.Book):Prop where
 tlen:b.Teams.length≤2
 tname:b.Teams.map (·.Name)=QfR.take b.Teams.length
 team:∀t∈b.Teams,QmV t
 plen:1≤b.Policies.length∧b.Policies.length≤3
 pname:b.Policies.map (·.Name)=Qkb.take b.Policies.length
 pol:∀p∈b.Policies,QbN b.Teams.length p
def Yq(p:D.Policy):Int:=if 0≤p.Repeat∧p.Repeat≤8∧p.Steps.length≤8 then(p.Steps.length:Int)*(p.Repeat+1)else 0
theorem Yr{n:Nat}{p:D.Policy}(h:QbN n p):Yq p=(p.Steps.length:Int)*(p.Repeat+1)∧1≤Yq p∧Yq p≤9:=by
 have h1:=h.rep
 have h2:=h.len
 have e:Yq p=(p.Steps.length:Int)*(p.Repeat+1):=by unfold Yq;rw[if_pos (by omega)]
 refine⟨e,?_⟩
 rw[e]
 have h3:p.Repeat=0∨p.Repeat=1∨p.Repeat=2:=by omega
 rcases h3 with h3|h3|h3<;>rw[h3]<;>omega
def WF(c:D.Config)(b:D.Book)(l:List D.Target)(t:Int):List Int:=([0,1,2,3]:List Int).filter fun z=>l.any fun x=>(QbX c b x t).contains z
theorem QaQ{c:D.Config}{b:D.Book}{l:List D.Target}{t z:Int}:z∈WF c b l t↔Means c b l t z:=by
 unfold WF Means
 simp only[List.mem_filter,List.any_eq_true,List.contains_iff_mem,List.mem_cons,List.not_mem_nil,or_false]
 constructor
 ·rintro⟨h,x,hx⟩;exact⟨by omega,by omega,x,hx⟩
 ·rintro⟨h1,h2,x,hx⟩;exact⟨by omega,x,hx⟩
theorem asc4:Asc [0,1,2,3]:=by unfold Asc;decide
theorem Qfx{c:D.Config}{b:D.Book}{l:List D.Target}{t:Int}:Asc (WF c b l t):=List.Pairwise.filter _ asc4
theorem Qfy{c:D.Config}{b:D.Book}{l:List D.Target}{t:Int}:(WF c b l t).length≤4:=List.length_filter_le _ _
theorem QkZ{c:D.Config}{b:D.Book}{l:List D.Target}{t:Int}{r:List Int}(h:Asc r)(hm:∀z,z∈r↔Means c b l t z):r=WF c b l t:=
 Qcp h Qfx fun z=>(hm z).trans QaQ.symm
def Qa3(c:D.Config)(b:D.Book)(s:D.PolicyStep)(t:Int):List Int:=(WF c b s.Targets t).filter fun z=>WB c z t s.Urgent
theorem Qsu{c:D.Config}{b:D.Book}{s:D.PolicyStep}{t:Int}:Asc (Qa3 c b s t):=List.Pairwise.filter _ Qfx
theorem Qna{c:D.Config}{b:D.Book}{s:D.PolicyStep}{t:Int}:(Qa3 c b s t).length≤4:=Nat.le_trans (List.length_filter_le _ _) Qfy
theorem Qsv{c:D.Config}{b:D.Book}{s:D.PolicyStep}{t z:Int}:z∈Qa3 c b s t→0≤z∧z<4:=fun h=>by
 have:=QaQ.1 (List.mem_filter.1 h).1
 exact⟨this.1,this.2.1⟩
def YS(b:D.Book)(p:D.Page):D.Policy:=nth b.Policies p.Policy.toNat
def dueV(p:D.Page):Int×Bool:=if p.State=0 then(p.Due,true)else if p.State=2 then(p.Until,true)else(0,false)
def Xy(p:D.Page):List Int:=if p.Starts=[]then[]else(nth p.Starts (p.Starts.length - 1)).People
def setF(n:Int):Int→List Int→Bool
 |_,[]=>true
 |k,x::r=>decide (0≤x) && decide (x<n) && decide (k<x) && setF n x r
def setV(l:List Int):Bool:=setF 32 (-1) l
def X0(next:Int):Int→Int→List D.Start→Bool
 |_,_,[]=>true
 |k,t,x::r=>decide (t≤x.At) && (decide (x.K = -1) || decide (0≤x.K) && decide (k<x.K) && decide (x.K<next)) && setV x.People && X0 next (max k x.K) x.At r
def QfL(p:D.Page):Bool:=X0 p.Next (-1) p.Start p.Starts && decide (p.Starts.length≤200)
def Qkx(l:List Int):Bool:=decide l.Nodup && decide (l.length≤64)
def QoN(p:D.Policy):Bool:=p.Steps.all fun s=>decide (0≤s.Wait) && decide (s.Wait≤86400)
def farV:Int:=17179869184
def inV(n lo hi:Int):Bool:=decide (lo≤n) && decide (n≤hi)
def QQ(b:D.Book)(p:D.Page):Bool:=
 inV p.ID 1 999999 && inV p.Policy 0 ((b.Policies.length:Int) - 1) && inV p.Start 0 8589934592 && QoN (YS b p) && inV p.Next 0 (Yq (YS b p)) &&
 inV p.State 0 4 && inV p.By (-1) 31 && inV p.Last p.Start farV && inV p.Due 0 farV && inV p.Until 0 farV && inV p.Snoozes 0 4 && inV p.Hands 0 4 && QfL p && setV p.Declined && Qkx p.Seen
def page0:D.Page:=D.Page.mk 0 0 0 0 0 0 0 0 0 0 0 [] [] []
def Zn(b:D.Book)(p:D.Page):D.PolicyStep:=nth (YS b p).Steps (p.Next % ((YS b p).Steps.length:Int)).toNat
def stepQ(c:D.Config)(b:D.Book)(p:D.Page):D.Page:=
 if p.State=2 then{ p with State:=0,Due:=p.Until,Last:=max p.Until p.Last }
 else if Yq (YS b p)≤p.Next then{ p with State:=3,Last:=max p.Due p.Last }
 else{ p with Last:=max p.Due p.Last,Starts:=p.Starts++[⟨p.Next,p.Due,Qa3 c b (Zn b p) p.Due⟩],Declined:=[],Next:=p.Next+1,Due:=if Qa3 c b (Zn b p) p.Due=[]then p.Due else p.Due+(Zn b p).Wait }
def stepV(c:D.Config)(b:D.Book)(p:D.Page):D.Page×Int:=
 if QQ b p=false then(page0,8)else if (dueV p).2=false then(page0,9)else if p.Starts.length=200 then(page0,5)else(stepQ c b p,0)
def Yw(p:D.Page)(now:Int):Bool:=(dueV p).2 && decide ((dueV p).1≤now)
def runN(c:D.Config)(b:D.Book)(now:Int):Nat→D.Page→D.Page×Int
 |0,p=>(p,0)
 |n+1,p=>if Yw p now=true then(if (stepV c b p).2≠0 then(page0,(stepV c b p).2)else runN c b now n (stepV c b p).1)else(p,0)
def runV(c:D.Config)(b:D.Book)(p:D.Page)(now:Int):D.Page×Int:=if QQ b p=false then(page0,8)else runN c b now 100 p
def YF(a:D.Answer):Bool:=
 inV a.ID 1 999999 && inV a.Page 1 999999 && inV a.Person (-1) 31 && inV a.At 0 8589934592 && inV a.Kind 1 5 && (if a.Kind=3 then inV a.Arg 1 86400 else if a.Kind=4 then inV a.Arg 0 31 else decide (a.Arg=0))
def XC(p:D.Page)(a:D.Answer):Int:=
 if a.At<p.Last∨Yw p a.At=true then 6
 else if p.State=4∨(p.State=3∧a.Kind≠5)∨(p.State=1∧a.Kind=2)then 9
 else if p.Seen.length=64∨(a.Kind=3∧p.Snoozes=4)∨(a.Kind=4∧(p.Hands=4∨p.Starts.length=200))then 5 else 0
def Qgj(l:List Int)(x:Int):List Int:=l.filter (fun z=>decide (z<x))++x::l.filter (fun z=>decide (x<z))
def V1(p:D.Page)(a:D.Answer):List Int:=if (Xy p).contains a.Person=true then Qgj p.Declined a.Person else p.Declined
def V9(p:D.Page)(a:D.Answer):Bool:=decide (Xy p≠[]) && (Xy p).all fun z=>(V1 p a).contains z
def Xa(p:D.Page)(a:D.Answer):D.Page:=
 if a.Kind=1 then(if p.State=1 then{ p with Seen:=p.Seen++[a.ID] }else{ p with Seen:=p.Seen++[a.ID],Last:=a.At,State:=1,By:=a.Person })
 else if a.Kind=2 then{ p with Seen:=p.Seen++[a.ID],Last:=a.At,Declined:=V1 p a,Due:=if V9 p a=true∧p.State=0 then a.At else p.Due }
 else if a.Kind=3 then{ p with Seen:=p.Seen++[a.ID],Last:=a.At,State:=2,By:=a.Person,Until:=a.At+a.Arg,Snoozes:=p.Snoozes+1 }
 else if a.Kind=4 then{ p with Seen:=p.Seen++[a.ID],Last:=a.At,State:=0,Due:=a.At+600,Hands:=p.Hands+1,Declined:=[],Starts:=p.Starts++[⟨-1,a.At,[a.Arg]⟩] }
 else{ p with Seen:=p.Seen++[a.ID],Last:=a.At,State:=4,By:=a.Person }
def answerV(b:D.Book)(p:D.Page)(a:D.Answer):D.Page×Int:=
 if QQ b p=false∨YF a=false then(page0,8)else if a.Page≠p.ID then(page0,3)else if p.Seen.contains a.ID=true then(p,0)
 else if XC p a≠0 then(page0,XC p a)else(Xa p a,0)
/-
  What holds of pages on their way, in plain Lean: invariants of steps, runs and answers.
-/
open Go AM
inductive Goes (Q:D.Start→Prop) (st:Int):List D.Start→Int→Int→Int→Prop
 |nil:Goes Q st [] 0 st 0
 |step {l k t h a P}:Goes Q st l k t h→t≤a→(l=[]→a=st)→setV P=true→Q ⟨k,a,P⟩→Goes Q st (l++[⟨k,a,P⟩]) (k+1) a h
 |hand {l k t h a x}:Goes Q st l k t h→t≤a→l≠[]→0≤x→x≤31→Goes Q st (l++[⟨-1,a,[x]⟩]) k a (h+1)
section
variable {Q:D.Start→Prop} {st k t h:Int} {l:List D.Start}
theorem Goes.pos(g:Goes Q st l k t h):0≤k∧0≤h∧(l.length:Int)=k+h∧st≤t:=by
 induction g with
 |nil=>simp
 |step g h1 _ _ _ ih=>simp only[List.length_append,List.length_cons,List.length_nil];omega
 |hand g h1 _ _ _ ih=>simp only[List.length_append,List.length_cons,List.length_nil];omega
def kF:Int→List D.Start→Int
 |k,[]=>k
 |k,x::r=>kF (max k x.K) r
def tF:Int→List D.Start→Int
 |t,[]=>t
 |t,x::r=>tF x.At r
theorem Qpi{x:D.Start}:∀{l:List D.Start} {k:Int},kF k (l++[x])=max (kF k l) x.K
 |[],_=>rfl
 |y::l,k=>Qpi (l:=l) (k:=max k y.K)
theorem QpU{x:D.Start}:∀{l:List D.Start} {t:Int},tF t (l++[x])=x.At
 |[],_=>rfl
 |y::l,t=>QpU (l:=l) (t:=y.At)
theorem Qd5{nx:Int}{x:D.Start}:∀{l:List D.Start} {k t:Int},X0 nx k t (l++[x])=(X0 nx k t l &&
  (decide (tF t l≤x.At) && (decide (x.K = -1) || decide (0≤x.K) && decide (kF k l<x.K) && decide (x.K<nx)) && setV x.People))
 |[],k,t=>by
  show(_ && true)=(true && _)
  rw[Bool.and_true,Bool.true_and];rfl
 |y::l,k,t=>by
  rw[List.cons_append,X0,Qd5 (l:=l),X0,kF,tF]
  simp only[Bool.and_assoc]
theorem QqL{x:Int}(h0:0≤x)(h1:x≤31):setV [x]=true:=by
 unfold setV setF setF;simp;omega
theorem Goes.fit(g:Goes Q st l k t h):kF (-1) l=k - 1∧tF st l=t∧∀nx,k≤nx→X0 nx (-1) st l=true:=by
 induction g with
 |nil=>exact⟨rfl,rfl,fun _ _=>rfl⟩
 |step g h1 h2 h3 h4 ih=>
  obtain⟨i1,i2,i3⟩:=ih
  have hp:=g.pos
  refine⟨by rw[Qpi,i1];dsimp only;omega,QpU,fun nx hn=>?_⟩
  rw[Qd5,i3 nx (by omega),i1,i2]
  grind
 |hand g h1 h2 h3 h4 ih=>
  obtain⟨i1,i2,i3⟩:=ih
  have hp:=g.pos
  refine⟨by rw[Qpi,i1];dsimp only;omega,QpU,fun nx hn=>?_⟩
  rw[Qd5,i3 nx hn,i1,i2,QqL h3 h4]
  simp[h1]
end
theorem QtW{n:Int}:∀{l:List Int} {k:Int},setF n k l=true↔Asc l∧∀x∈l,0≤x∧x<n∧k<x
 |[],k=>by simp[setF,Asc]
 |y::l,k=>by
  rw[setF]
  simp only[bae,decide_eq_true_eq,QtW (l:=l),Asc,List.pairwise_cons,List.mem_cons,forall_eq_or_imp]
  constructor
  ·rintro⟨⟨⟨h1,h2⟩,h3⟩,h4,h5⟩
   exact⟨⟨fun z hz=>(h5 z hz).2.2,h4⟩,⟨h1,h2,h3⟩,fun z hz=>⟨(h5 z hz).1,(h5 z hz).2.1,by have:=(h5 z hz).2.2;omega⟩⟩
  ·rintro⟨⟨h1,h2⟩,⟨h3,h4,h5⟩,h6⟩
   exact⟨⟨⟨h3,h4⟩,h5⟩,h2,fun z hz=>⟨(h6 z hz).1,(h6 z hz).2.1,h1 z hz⟩⟩
theorem VW{l:List Int}:setV l=true↔Asc l∧∀x∈l,0≤x∧x<32:=by
 unfold setV;rw[QtW]
 grind
theorem QtX{c:D.Config}{b:D.Book}{s:D.PolicyStep}{t:Int}:setV (Qa3 c b s t)=true:=
 VW.2 ⟨Qsu,fun x hx=>by have:=Qsv hx;omega⟩
theorem Qbp{l:List Int}{x:Int}(h:Asc l):Asc (Qgj l x)∧∀z,z∈Qgj l x↔z∈l∨z=x:=by
 unfold Qgj
 refine⟨?_,fun z=>?_⟩
 ·refine List.pairwise_append.2 ⟨List.Pairwise.filter _ h,List.pairwise_cons.2 ⟨fun a ha=>?_,List.Pairwise.filter _ h⟩,fun a ha b hb=>?_⟩
  ·simp_all
  ·grind
 ·grind
theorem QtA{l:List Int}{x:Int}(h:Asc l)(hx:x∈l):Qgj l x=l:=
 Qcp (Qbp h).1 h fun z=>by rw[(Qbp h).2];exact⟨fun g=>g.elim id (fun e=>e ▸ hx),.inl⟩
theorem Qdp{p:D.Page}(hd:(dueV p).2=true):p.State=0∨p.State=2:=by
 unfold dueV at hd
 grind
structure QI (Q:Int→D.Start→Prop) (M:Int) (b:D.Book) (p:D.Page):Prop where
 top:M≤8000000000
 id:1≤p.ID∧p.ID≤999999
 pol:0≤p.Policy∧p.Policy<(b.Policies.length:Int)
 start:0≤p.Start∧p.Start≤M - 20000
 goes:∃t,Goes (Q p.Policy) p.Start p.Starts p.Next t p.Hands∧t≤p.Last∧(p.State=0→t≤p.Due)∧(p.State=2→t≤p.Until)
 next:p.Next≤Yq (YS b p)
 state:0≤p.State∧p.State≤4
 by_ : -1≤p.By∧p.By≤31
 last:p.Last≤M
 due:0≤p.Due∧p.Due≤M
 until_:0≤p.Until∧p.Until≤M
 dueO:p.State=0→p.Due+900*(Yq (YS b p) - p.Next)≤M
 untilS:p.State=2→p.Until+900*(Yq (YS b p) - p.Next)≤M
 snoozes:0≤p.Snoozes∧p.Snoozes≤4
 hands:p.Hands≤4
 first:p.Starts=[]→p.State=0∧p.Due=p.Start
 ended:p.State=3→p.Next=Yq (YS b p)
 declined:setV p.Declined=true
 seen:Qkx p.Seen=true
section
variable {Q:Int→D.Start→Prop} {M:Int} {b:D.Book} {p:D.Page}
theorem QI.polOK(h:QI Q M b p)(hb:QM b):QbN b.Teams.length (YS b p):=hb.pol _ (Qi (by have:=h.pol;omega))
theorem QbN.waits{n:Nat}{q:D.Policy}(h:QbN n q):QoN q=true:=by
 unfold QoN
 refine List.all_eq_true.2 fun s hs=>?_
 have:=(h.step s hs).wait
 simp;omega
theorem Qx{n lo hi:Int}:inV n lo hi=true↔lo≤n∧n≤hi:=by simp[inV]
theorem QI.len(h:QI Q M b p)(hb:QM b):p.Starts.length≤13∧0≤p.Next∧0≤p.Hands:=by
 obtain⟨t,h1,_⟩:=h.goes
 have h2:=h1.pos
 have h3:=Yr (h.polOK hb)
 have h4:=h.next
 have h5:=h.hands
 omega
theorem QI.check(h:QI Q M b p)(hb:QM b):QQ b p=true:=by
 obtain⟨t,h1,h2,_⟩:=h.goes
 have h3:=h1.pos
 have h4:=h1.fit
 have h5:=h.len hb
 have g0:=h.top;have g1:=h.id;have g2:=h.pol;have g3:=h.start;have g4:=h.next;have g5:=h.state;have g6:=h.by_;have g7:=h.last;have g8:=h.due;have g9:=h.until_;have g10:=h.snoozes;have g11:=h.hands
 unfold QQ QfL farV
 rw[h4.2.2 _ (Int.le_refl _),h.declined,h.seen,(h.polOK hb).waits]
 simp only[Bool.and_true,Bool.true_and,bae,Qx,decide_eq_true_eq]
 omega
theorem QI.mono{Q':Int→D.Start→Prop}(h:QI Q M b p)(hq:∀s,Q p.Policy s→Q' p.Policy s):QI Q' M b p:=by
 obtain⟨t,h1,h2⟩:=h.goes
 refine{ h with goes:=⟨t,?_,h2⟩ }
 generalize p.Hands=hh at h1
 generalize p.Next=nn at h1
 generalize p.Starts=ss at h1
 clear h2
 induction h1 with
 |nil=>exact .nil
 |step g a1 a2 a3 a4 ih=>exact .step ih a1 a2 a3 (hq _ a4)
 |hand g a1 a2 a3 a4 ih=>exact .hand ih a1 a2 a3 a4
theorem QpS{n:Nat}{q:D.Policy}(h:QbN n q){k:Int}(hk:0≤k):nth q.Steps (k % (q.Steps.length:Int)).toNat∈q.Steps:=by
 have:=h.len
 refine Qi ?_
 have h1:=Int.emod_nonneg k (b:=(q.Steps.length:Int)) (by omega)
 have h2:=Int.emod_lt_of_pos k (b:=(q.Steps.length:Int)) (by omega)
 omega
theorem QI.stepQ_inv{c:D.Config}(h:QI Q M b p)(hb:QM b)(hd:(dueV p).2=true)(hQ:p.State=0→p.Next<Yq (YS b p)→Q p.Policy ⟨p.Next,p.Due,Qa3 c b (Zn b p) p.Due⟩):QI Q M b (stepQ c b p):=by
 obtain⟨t,h1,h2,h3,h4⟩:=h.goes
 have hp:=h1.pos
 have hs:p.State=0∨p.State=2:=Qdp hd
 have g0:=h.top;have g3:=h.start;have g7:=h.last;have g8:=h.due;have g9:=h.until_
 have g10:=h.dueO;have g11:=h.untilS;have gn:=h.next
 unfold stepQ
 split
 ·rename_i e2
  have e3:=h4 e2
  have hne:p.Starts≠[]:=fun e=>by have:=(h.first e).1;omega
  exact⟨h.top,h.id,h.pol,h.start,⟨t,h1,by dsimp only;omega,fun _=>e3,fun e=>by simp at e⟩,h.next,by dsimp only;omega,h.by_,by dsimp only;omega,g9,g9,fun _=>g11 e2,fun e=>by simp at e,h.snoozes,h.hands,fun e=>absurd e hne,fun e=>by simp at e,h.declined,h.seen⟩
 ·rename_i e2
  have e0:p.State=0:=by omega
  have e3:=h3 e0
  have e4:=g10 e0
  split
  ·rename_i e5
   have hc:=Yr (h.polOK hb)
   have hne:p.Starts≠[]:=fun e=>by
    grind
   exact⟨h.top,h.id,h.pol,h.start,⟨t,h1,by dsimp only;omega,fun e=>by simp at e,fun e=>by simp at e⟩,h.next,by dsimp only;omega,h.by_,by dsimp only;omega,g8,g9,fun e=>by simp at e,fun e=>by simp at e,h.snoozes,h.hands,fun e=>absurd e hne,fun _=>by show p.Next=Yq (YS b p);omega,h.declined,h.seen⟩
  ·rename_i e5
   have hw:=(h.polOK hb).step _ (QpS (h.polOK hb) hp.1)
   have hw':0≤(Zn b p).Wait∧(Zn b p).Wait≤900:=hw.wait
   have hdue:(if Qa3 c b (Zn b p) p.Due=[]then p.Due else p.Due+(Zn b p).Wait)≤p.Due+900∧p.Due≤(if Qa3 c b (Zn b p) p.Due=[]then p.Due else p.Due+(Zn b p).Wait):=by split<;>omega
   refine⟨h.top,h.id,h.pol,h.start,⟨p.Due,.step h1 e3 (fun e=>?_) QtX (hQ e0 (by omega)),by dsimp only;omega,fun _=>hdue.2,fun e=>?_⟩,?_,h.state,h.by_,by dsimp only;omega,?_,g9,fun _=>?_,fun e=>absurd e e2,h.snoozes,h.hands,fun e=>by simp at e,fun e=>?_,by dsimp only;decide,h.seen⟩
   ·exact(h.first e).2
   ·exact absurd e e2
   ·show p.Next+1≤Yq (YS b p);omega
   ·dsimp only;omega
   ·show(if Qa3 c b (Zn b p) p.Due=[]then p.Due else p.Due+(Zn b p).Wait)+900*(Yq (YS b p) - (p.Next+1))≤M
    omega
   ·simp_all
theorem QI.answerQ_inv{a:D.Answer}(h:QI Q M b p)(hb:QM b)(hv:YF a=true)(ha:a.At≤M - 20000)(hs:a.Kind=3→a.Arg≤5000)(hseen:p.Seen.contains a.ID=false)(hr:XC p a=0):QI Q M b (Xa p a):=by
 obtain⟨t,h1,h2,h3,h4⟩:=h.goes
 have hp:=h1.pos
 unfold YF at hv
 simp only[bae,Qx]at hv
 obtain⟨⟨⟨⟨⟨v1,v2⟩,v3⟩,v4⟩,v5⟩,v6⟩:=hv
 unfold XC at hr
 split at hr
 ·simp at hr
 rename_i r1
 split at hr
 ·simp at hr
 rename_i r2
 split at hr
 ·simp at hr
 rename_i r3
 have hw:Yw p a.At=false:=by cases hb:Yw p a.At<;>simp_all
 have hla:p.Last≤a.At:=by omega
 have hne:p.Starts≠[]:=fun e=>by
  obtain⟨e1,e2⟩:=h.first e
  have hst:p.Start≤t:=hp.2.2.2
  unfold Yw dueV at hw
  rw[if_pos e1]at hw
  simp at hw;omega
 have g0:=h.top;have g3:=h.start;have g7:=h.last;have g8:=h.due;have g9:=h.until_
 have g10:=h.dueO;have g11:=h.untilS;have gn:=h.next;have gs:=h.snoozes;have gh:=h.hands;have gst:=h.state
 have hc:=Yr (h.polOK hb)
 have hsn:Qkx (p.Seen++[a.ID])=true:=by
  have:=h.seen
  unfold Qkx at this ⊢
  simp only[bae,decide_eq_true_eq]at this ⊢
  refine⟨List.nodup_append.2 ⟨this.1,by simp,fun x hx y hy e=>?_⟩,by simp only[List.length_append,List.length_cons,List.length_nil];omega⟩
  rw[List.mem_singleton.1 hy]at e
  subst e
  rw[List.contains_iff_mem.2 hx]at hseen;simp at hseen
 have hdec:setV (V1 p a)=true:=by
  have hd:=VW.1 h.declined
  unfold V1
  split
  ·rename_i hcal
   refine VW.2 ⟨(Qbp hd.1).1,fun x hx=>?_⟩
   rcases((Qbp hd.1).2 x).1 hx with hx|rfl
   ·exact hd.2 x hx
   ·have hm:=List.contains_iff_mem.1 hcal
    have hst:=(h1.fit.2.2 _ (Int.le_refl _))
    have hall:∀{nx:Int} {l:List D.Start} {k t:Int},X0 nx k t l=true→∀s∈l,setV s.People=true:=by
     intro nx l
     induction l with
     |nil=>intro k t _ s hs;simp at hs
     |cons y l ih=>
      intro k t hq s hs
      rw[X0]at hq
      simp only[bae]at hq
      rcases List.mem_cons.1 hs with rfl|hs
      ·exact hq.1.2
      ·exact ih hq.2 s hs
    unfold Xy at hm
    rw[if_neg hne]at hm
    have hlen:0<p.Starts.length:=List.length_pos_iff.2 hne
    exact(VW.1 (hall hst _ (Qi (by omega)))).2 _ hm
  ·exact h.declined
 unfold Xa
 split
 ·split
  ·exact⟨h.top,h.id,h.pol,h.start,⟨t,h1,h2,h3,h4⟩,h.next,h.state,h.by_,h.last,h.due,h.until_,h.dueO,h.untilS,h.snoozes,h.hands,fun e=>absurd e hne,h.ended,h.declined,hsn⟩
  ·exact⟨h.top,h.id,h.pol,h.start,⟨t,h1,by dsimp only;omega,fun e=>by simp at e,fun e=>by simp at e⟩,h.next,by dsimp only;omega,v3,by dsimp only;omega,h.due,h.until_,fun e=>by simp at e,fun e=>by simp at e,h.snoozes,h.hands,fun e=>absurd e hne,fun e=>by simp at e,h.declined,hsn⟩
 ·split
  ·have hdue:(if V9 p a=true∧p.State=0 then a.At else p.Due)=p.Due∨((if V9 p a=true∧p.State=0 then a.At else p.Due)=a.At∧p.State=0):=by
    split
    ·rename_i hx;exact .inr ⟨rfl,hx.2⟩
    ·exact .inl rfl
   refine⟨h.top,h.id,h.pol,h.start,⟨t,h1,by dsimp only;omega,fun e=>?_,h4⟩,h.next,h.state,h.by_,by dsimp only;omega,?_,h.until_,fun e=>?_,h.untilS,h.snoozes,h.hands,fun e=>absurd e hne,h.ended,hdec,hsn⟩
   ·have:=h3 e;dsimp only;omega
   ·dsimp only;omega
   ·have:=g10 e
    show(if V9 p a=true∧p.State=0 then a.At else p.Due)+900*(Yq (YS b p) - p.Next)≤M
    omega
  ·split
   ·rename_i k3
    rw[if_pos k3]at v6
    have v6:=Qx.1 v6
    have:=hs k3
    exact⟨h.top,h.id,h.pol,h.start,⟨t,h1,by dsimp only;omega,fun e=>by simp at e,fun e=>by dsimp only;omega⟩,h.next,by dsimp only;omega,v3,by dsimp only;omega,h.due,by dsimp only;omega,fun e=>by simp at e,fun _=>by show a.At+a.Arg+900*(Yq (YS b p) - p.Next)≤M;omega,by dsimp only;omega,h.hands,fun e=>absurd e hne,fun e=>by simp at e,h.declined,hsn⟩
   ·rename_i k3
    split
    ·rename_i k4
     rw[if_neg k3,if_pos k4]at v6
     have v6:=Qx.1 v6
     exact⟨h.top,h.id,h.pol,h.start,⟨a.At,.hand h1 (by omega) hne v6.1 v6.2,by dsimp only;omega,fun e=>by dsimp only;omega,fun e=>by simp at e⟩,h.next,by dsimp only;omega,h.by_,by dsimp only;omega,by dsimp only;omega,h.until_,fun _=>by show a.At+600+900*(Yq (YS b p) - p.Next)≤M;omega,fun e=>by simp at e,h.snoozes,by dsimp only;omega,fun e=>by simp at e,fun e=>by simp at e,by dsimp only;decide,hsn⟩
    ·exact⟨h.top,h.id,h.pol,h.start,⟨t,h1,by dsimp only;omega,fun e=>by simp at e,fun e=>by simp at e⟩,h.next,by dsimp only;omega,v3,by dsimp only;omega,h.due,h.until_,fun e=>by simp at e,fun e=>by simp at e,h.snoozes,h.hands,fun e=>absurd e hne,fun e=>by simp at e,h.declined,hsn⟩
def newP(id pol start:Int):D.Page:=D.Page.mk id pol start 0 start 0 (-1) 0 start 0 0 [] [] []
theorem Qxb{id pol start:Int}(hM:M≤8000000000)(hb:QM b)(h1:1≤id∧id≤999999)(h2:0≤pol∧pol<(b.Policies.length:Int))(h3:0≤start∧start≤M - 20000):QI Q M b (newP id pol start):=by
 have hp:QbN b.Teams.length (YS b (newP id pol start)):=hb.pol _ (Qi (by show pol.toNat<_;omega))
 have hc:=Yr hp
 exact⟨hM,h1,h2,h3,⟨start,.nil,Int.le_refl _,fun _=>Int.le_refl _,fun e=>by simp[newP]at e⟩,by show 0≤_;omega,by simp[newP],by simp[newP],by show start≤_;omega,by show 0≤start∧start≤_;omega,by show(0:Int)≤0∧(0:Int)≤M;omega,fun _=>by show start+900*(_ - 0)≤_;omega,fun e=>by simp[newP]at e,by simp[newP],by simp[newP],fun _=>⟨rfl,rfl⟩,fun e=>by simp[newP]at e,by dsimp only[newP];decide,by dsimp only[newP];decide⟩
def UE(b:D.Book)(p:D.Page):Nat:=if p.State=2 then(Yq (YS b p) - p.Next).toNat+2 else if p.State=0 then(Yq (YS b p) - p.Next).toNat+1 else 0
theorem QrK{c:D.Config}:YS b (stepQ c b p)=YS b p:=by
 unfold stepQ YS
 grind
theorem Qcg{c:D.Config}(hd:(dueV p).2=true):UE b (stepQ c b p)<UE b p:=by
 have hs:p.State=0∨p.State=2:=Qdp hd
 unfold UE
 rw[QrK]
 unfold stepQ
 grind
theorem UP{now:Int}(h:Yw p now=true):(dueV p).2=true∧(dueV p).1≤now:=by
 unfold Yw at h;simpa using h
theorem Qhi{now:Int}(h:UE b p=0):Yw p now=false:=by
 unfold UE at h
 unfold Yw dueV
 grind
theorem QI.stepVis{c:D.Config}(h:QI Q M b p)(hb:QM b)(hd:(dueV p).2=true):stepV c b p=(stepQ c b p,0):=by
 unfold stepV
 rw[h.check hb,hd,if_neg (by simp),if_neg (by simp),if_neg (by have:=(h.len hb).1;omega)]
def QhG(Q:Int→D.Start→Prop)(M:Int)(c:D.Config)(b:D.Book):Prop:=∀p,QI Q M b p→p.State=0→p.Next<Yq (YS b p)→Q p.Policy ⟨p.Next,p.Due,Qa3 c b (Zn b p) p.Due⟩
theorem QmC{c:D.Config}{now:Int}(hb:QM b)(hQ:QhG Q M c b):∀(n:Nat) {p:D.Page},QI Q M b p→UE b p≤n→QI Q M b (runN c b now n p).1∧(runN c b now n p).2=0∧Yw (runN c b now n p).1 now=false
 |0,p,h,hl=>⟨h,rfl,Qhi (b:=b) (show UE b p=0 by omega)⟩
 |n+1,p,h,hl=>by
  rw[runN]
  split
  ·rename_i hw
   have hd:=UP hw
   rw[h.stepVis hb hd.1,if_neg (by simp)]
   exact QmC hb hQ n (h.stepQ_inv hb hd.1 (hQ p h)) (by have:=Qcg (c:=c) (b:=b) hd.1;dsimp only;omega)
  ·rename_i hw
   exact⟨h,rfl,by dsimp only;cases hb:Yw p now<;>simp_all⟩
theorem Qqm(hb:QM b)(h:QI Q M b p):UE b p≤11:=by
 have hc:=Yr (h.polOK hb)
 have:=(h.len hb).2
 unfold UE
 grind
theorem QcM{c:D.Config}{now:Int}(hb:QM b)(hQ:QhG Q M c b)(h:QI Q M b p):QI Q M b (runV c b p now).1∧(runV c b p now).2=0∧Yw (runV c b p now).1 now=false:=by
 unfold runV
 rw[h.check hb,if_neg (by simp)]
 exact QmC hb hQ 100 h (by have:=Qqm hb h;omega)
theorem Qor{c:D.Config}{now:Int}(hb:QM b)(hQ:QhG Q M c b):∀(n m:Nat) {p:D.Page},QI Q M b p→UE b p≤n→UE b p≤m→runN c b now n p=runN c b now m p
 |0,0,p,h,h1,h2=>rfl
 |0,m+1,p,h,h1,h2=>by rw[runN,runN,Qhi (b:=b) (by omega),if_neg (by simp)]
 |n+1,0,p,h,h1,h2=>by rw[runN,runN,Qhi (b:=b) (by omega),if_neg (by simp)]
 |n+1,m+1,p,h,h1,h2=>by
  rw[runN,runN]
  split
  ·rename_i hw
   have hd:=UP hw
   rw[h.stepVis hb hd.1,if_neg (by simp),if_neg (by simp)]
   have:=Qcg (c:=c) (b:=b) hd.1
   exact Qor hb hQ n m (h.stepQ_inv hb hd.1 (hQ p h)) (by dsimp only;omega) (by dsimp only;omega)
  ·rfl
theorem Qk7{c:D.Config}{a z:Int}(hb:QM b)(hQ:QhG Q M c b)(haz:a≤z):∀(n:Nat) {p:D.Page},QI Q M b p→UE b p≤n→runN c b z n (runN c b a n p).1=runN c b z n p
 |0,p,h,hl=>rfl
 |n+1,p,h,hl=>by
  by_cases hw:Yw p a=true
  ·have hd:=UP hw
   have hz:Yw p z=true:=by unfold Yw;rw[hd.1];simp;omega
   have hl':=Qcg (c:=c) (b:=b) hd.1
   have hi:=h.stepQ_inv hb hd.1 (hQ p h)
   rw[show runN c b a (n+1) p=runN c b a n (stepQ c b p)from by rw[runN,if_pos hw,h.stepVis hb hd.1,if_neg (by simp)],show runN c b z (n+1) p=runN c b z n (stepQ c b p)from by rw[runN,if_pos hz,h.stepVis hb hd.1,if_neg (by simp)],←Qk7 hb hQ haz n hi (by omega)]
   have hr:=QmC (now:=a) hb hQ n hi (by omega)
   have hle:∀(n:Nat) {p:D.Page},QI Q M b p→UE b (runN c b a n p).1≤UE b p:=by
    intro n
    induction n with
    |zero=>intro p _;exact Nat.le_refl _
    |succ n ih=>
     intro p h
     rw[runN]
     split
     ·rename_i hw
      have hd:=UP hw
      rw[h.stepVis hb hd.1,if_neg (by simp)]
      exact Nat.le_trans (ih (h.stepQ_inv hb hd.1 (hQ p h))) (Nat.le_of_lt (Qcg hd.1))
     ·exact Nat.le_refl _
   have:=hle n hi
   exact Qor hb hQ (n+1) n hr.1 (by omega) (by omega)
  ·rw[show runN c b a (n+1) p=(p,0)from by rw[runN,if_neg hw]]
theorem Qhe{c:D.Config}{now:Int}(h:QQ b p=true):runV c b p now=runN c b now 100 p:=by unfold runV;rw[h,if_neg (by simp)]
theorem Qk8{c:D.Config}{a z:Int}(hb:QM b)(hQ:QhG Q M c b)(haz:a≤z)(h:QI Q M b p):runV c b (runV c b p a).1 z=runV c b p z:=by
 have hr:=QcM (now:=a) hb hQ h
 rw[Qhe (hr.1.check hb),Qhe (h.check hb),Qhe (h.check hb)]
 exact Qk7 hb hQ haz 100 h (by have:=Qqm hb h;omega)
end
/-
  What the kit's contracts of Go's library ask, at this dump: bodies, types, variables, compared by the kernel. Printed by wip/gen/laid.py.
-/
open Go Go.Shelf
def Qpj:Go.Shelf.Ren:=⟨fun|189=>47|125=>79|257=>78|128=>124|129=>125|294=>115|295=>116|296=>117|297=>118|298=>119|299=>120|216=>121|300=>122|301=>123|328=>191|329=>192|330=>193|331=>194|332=>195|215=>196|343=>250|n=>n,fun|28=>22|3=>3|46=>156|0=>0|51=>192|53=>194|4=>4|183=>185|182=>184|131=>103|5=>5|9=>9|218=>243|222=>247|228=>289|229=>290|n=>n,fun|n=>n⟩
theorem lays189:Go.Proofs.Lays.n189 Tryz.prog Qpj:={
 mixed:=by kernel_rfl,f125:=Tryz.func79.trans (congrArg some (by kernel_rfl)),f128:=Tryz.func124.trans (congrArg some (by kernel_rfl)),f129:=Tryz.func125.trans (congrArg some (by kernel_rfl)),f189:=Tryz.func47.trans (congrArg some (by kernel_rfl)),f215:=Tryz.func196.trans (congrArg some (by kernel_rfl)),f216:=Tryz.func121.trans (congrArg some (by kernel_rfl)),f257:=Tryz.func78.trans (congrArg some (by kernel_rfl)),f294:=Tryz.func115.trans (congrArg some (by kernel_rfl)),f295:=Tryz.func116.trans (congrArg some (by kernel_rfl)),f296:=Tryz.func117.trans (congrArg some (by kernel_rfl)),f297:=Tryz.func118.trans (congrArg some (by kernel_rfl)),f298:=Tryz.func119.trans (congrArg some (by kernel_rfl)),f299:=Tryz.func120.trans (congrArg some (by kernel_rfl)),f300:=Tryz.func122.trans (congrArg some (by kernel_rfl)),f301:=Tryz.func123.trans (congrArg some (by kernel_rfl)),f328:=Tryz.func191.trans (congrArg some (by kernel_rfl)),f329:=Tryz.func192.trans (congrArg some (by kernel_rfl)),f330:=Tryz.func193.trans (congrArg some (by kernel_rfl)),f331:=Tryz.func194.trans (congrArg some (by kernel_rfl)),f332:=Tryz.func195.trans (congrArg some (by kernel_rfl)),f343:=Tryz.func250.trans (congrArg some (by kernel_rfl)),t0:=Tryz.underlying0,a0:=Tryz.isAgg0,z0:=Tryz.sizeOf0,v0:=Tryz.zeroValue0,t3:=Tryz.underlying3,a3:=Tryz.isAgg3,z3:=Tryz.sizeOf3,v3:=Tryz.zeroValue3,t4:=Tryz.underlying4,a4:=Tryz.isAgg4,z4:=Tryz.sizeOf4,v4:=Tryz.zeroValue4,t5:=Tryz.underlying5,a5:=Tryz.isAgg5,z5:=Tryz.sizeOf5,v5:=Tryz.zeroValue5,t9:=Tryz.underlying9,a9:=Tryz.isAgg9,z9:=Tryz.sizeOf9,v9:=Tryz.zeroValue9,t28:=Tryz.underlying22,a28:=Tryz.isAgg22,z28:=Tryz.sizeOf22,v28:=Tryz.zeroValue22,t46:=Tryz.underlying156,a46:=Tryz.isAgg156,z46:=Tryz.sizeOf156,v46:=Tryz.zeroValue156,t51:=Tryz.underlying192,a51:=Tryz.isAgg192,z51:=Tryz.sizeOf192,v51:=Tryz.zeroValue192,t53:=Tryz.underlying194,a53:=Tryz.isAgg194,z53:=Tryz.sizeOf194,v53:=Tryz.zeroValue194,t131:=Tryz.underlying103,a131:=Tryz.isAgg103,z131:=Tryz.sizeOf103,v131:=Tryz.zeroValue103,t182:=Tryz.underlying184,a182:=Tryz.isAgg184,z182:=Tryz.sizeOf184,v182:=Tryz.zeroValue184,t183:=Tryz.underlying185,a183:=Tryz.isAgg185,z183:=Tryz.sizeOf185,v183:=Tryz.zeroValue185,t218:=Tryz.underlying243,a218:=Tryz.isAgg243,z218:=Tryz.sizeOf243,v218:=Tryz.zeroValue243,t222:=Tryz.underlying247,a222:=Tryz.isAgg247,z222:=Tryz.sizeOf247,v222:=Tryz.zeroValue247,t228:=Tryz.underlying289,a228:=Tryz.isAgg289,z228:=Tryz.sizeOf289,v228:=Tryz.zeroValue289,t229:=Tryz.underlying290,a229:=Tryz.isAgg290,z229:=Tryz.sizeOf290,v229:=Tryz.zeroValue290 }
/-
  What functions do, reckoned from their code, and their contracts. Printed by wip/gen/brun.py.
-/
open Go AM IntKind
noncomputable section
def tyL:List (Nat×TC):=[(2,.int),(3,.int),(4,.bool),(5,.u8),(6,.u8),(9,.str),(10,.str),(11,.str),(32,.Config),(36,.Book),(40,.Ledger),(46,.Answer),(48,.Edit),(50,.Op),(51,.int),(59,.Call),(71,.Page),(73,.Start),(75,.Contact),(83,.Arr3Int),(93,.Dice),(106,.fence),(117,.Zone),(121,.Person),(123,.Window),(125,.Local),(127,.Layer),(131,.Schedule),(133,.Team),(136,.Policy),(139,.PolicyStep),(141,.Target),(172,.worker),(184,.int),(210,.Calendar),(264,.YearRule),(307,.Date),(313,.Occurrence),(314,.Transition),(324,.occurrence),(343,.View),(347,.Table),(391,.Piece),(398,.u8),(399,.u8)]
def ty(t:Nat):Option TC:=AM.look t tyL
abbrev nI:SSh:=.one (.num .i64)
abbrev kI:Sh:=.num .i64
abbrev lI:SSh:=.one (.lst .int)
abbrev rf(n:Nat):Nat×SSh:=(n,.one (.ref (1000+n)))
abbrev ni(n:Nat):Nat×SSh:=(n,.one (.num .i64))
def gs:Nat→Ann→Ann
 |0,a=>a
 |n+1,a=>.two .go (gs n a)
def lp(s:List (Nat×SSh))(o:List (Name×OSh))(a:Ann):Ann:=.two (.two .go (.one (.loop s o a))) .go
abbrev li(n:Nat)(t:TC):Nat×SSh:=(n,.one (.lst t))
abbrev bx(n:Nat)(t:TC):Name×OSh:=(n,.boxst t)
abbrev ar(n:Nat)(t:TC):Name×OSh:=(n,.arr t)
abbrev sF:Option Bool:=some false
abbrev sT:Option Bool:=some true
abbrev cd{R:Type}(p:Prop)[Decidable p](x y:Option R):Option R:=cnd (decide p) x y
abbrev FO(k:FuncId)(g:Sig):Prop:=FnOK Tryz.prog k g
abbrev sI(A:List SSh)(F:SL A→Option Int):Sig:=Qf A [] [.one (.num .i64)] [] [] Int (fun q=>((q,()),())) fun x _=>F x
abbrev sB(A:List SSh)(F:SL A→Option Bool):Sig:=Qf A [] [.one .boo] [] [] Bool (fun q=>((q,()),())) fun x _=>F x
theorem eN{P:Program}:Qhl P []:=trivial
theorem eC{P:Program}{l:List (Nat×Nat×Sig)}{k:Nat}{g:Sig}(h:FnOK P k g)(hl:Qhl P l):Qhl P ((k,0,g)::l):=⟨h,hl⟩
theorem eD(d:Nat){P:Program}{l:List (Nat×Nat×Sig)}{k:Nat}{g:Sig}(h:FnOK P k g)(hl:Qhl P l):Qhl P ((k,d,g)::l):=⟨h,hl⟩
theorem fI{l:List (Nat×Nat×Sig)}{f:FuncId}(u:Nat){fn:Func}{c:Code}(an:Ann){args:List SSh}{pre:List (Name×OSh)}{res:List SSh}{post:List (Name×OSh)}{keep:List Name}{Ret:Type}[DecidableEq Ret]{un:Ret→SL res×OL post}{F:SL args→OL pre→Option Ret}(conv:SL res→OL post→Ret)(hE:Qhl Tryz.prog l)(hf:Tryz.prog.funcs[f]?=some fn)(hb:fn.body=some c:=by rfl)(hlen:Nat.ble args.length fn.ntmps=true:=by rfl)(hcu:∀a b,un (conv a b)=(a,b):=by exact fun _ _=>rfl)(hF:∀x y,vc Tryz.prog ty (envL l) (keys pre) fn.ntmps u c an (QbQ 0 (SL.put 0 args x)) (OL.put 0 pre y) (finK Tryz.prog (keys pre) fn.results.toList (Qf args pre res post keep Ret un F) y fun a b=>some (conv a b))=F x y:=by intro x y;kernel_rfl):
  FnOK Tryz.prog f (Qf args pre res post keep Ret un F):=FnOK.intro (ty:=ty) conv hcu (QsL hE) hf hb hlen hF
abbrev P3:Type:=Int×Int×Int×Unit
abbrev P4:Type:=Int×Int×Int×Int×Unit
abbrev P5:Type:=Int×Int×Int×Int×Int×Unit
abbrev P6:Type:=Int×Int×Int×Int×Int×Int×Unit
abbrev P7:Type:=Int×Int×Int×Int×Int×Int×Int×Unit
abbrev P8:Type:=Int×Int×Int×Int×Int×Int×Int×Int×Unit
abbrev P9:Type:=Int×Int×Int×Int×Int×Int×Int×Int×Int×Unit
abbrev P10:Type:=Int×Int×Int×Int×Int×Int×Int×Int×Int×Int×Unit
abbrev P11:Type:=Int×Int×Int×Int×Int×Int×Int×Int×Int×Int×Int×Unit
abbrev P12:Type:=Int×Int×Int×Int×Int×Int×Int×Int×Int×Int×Int×Int×Unit
abbrev P13:Type:=Int×Int×Int×Int×Int×Int×Int×Int×Int×Int×Int×Int×Int×Unit
abbrev kz0{A B C:Type}(a:(A×B))(b:C):=a.1
abbrev kz1{A:Type}(q:A):=((q,()),())
abbrev kz2:=fun(q:(Int×D.worker))=>((q.1,()),(q.2.Ledger.Now,q.2.Ledger.Config.Zones,q.2.Ledger.Config.People,q.2.Ledger.Config.Calendars,q.2.Ledger.Config.Schedules,q.2.Ledger.Book.Teams,q.2.Ledger.Book.Policies,q.2.Ledger.Owner,q.2.Ledger.Fence,()),q.2.Ledger.Pages,q.2.Ledger.Seen,q.2.Ledger.Calls,())
abbrev kz3{A B:Type}(q:(A×B)):=((q.1,q.2,()),())
abbrev kz4{A B C D:Type}(a:(A×(B×C)))(b:D):=(a.1,a.2.1)
abbrev kz5:=fun(a:SL [nI]) (b:OL [(101,.box [kI,.lst .Zone,.lst .Person,.lst .Calendar,.lst .Schedule,.lst .Team,.lst .Policy,.own 102,kI,kI,.own 103,.own 104]),ar 102 .Page,ar 103 .int,ar 104 .Call])=>(a.1,(D.worker.mk (D.Ledger.mk b.1.1 (D.Config.mk b.1.2.1 b.1.2.2.1 b.1.2.2.2.1 b.1.2.2.2.2.1) (D.Book.mk b.1.2.2.2.2.2.1 b.1.2.2.2.2.2.2.1) b.2.1 b.1.2.2.2.2.2.2.2.1 b.1.2.2.2.2.2.2.2.2.1 b.2.2.1 b.2.2.2.1)))
abbrev kz6:=fun(q:(D.Ledger×Int))=>(((q.1.Now,q.1.Config.Zones,q.1.Config.People,q.1.Config.Calendars,q.1.Config.Schedules,q.1.Book.Teams,q.1.Book.Policies,q.1.Owner,q.1.Fence,()),q.2,()),q.1.Pages,q.1.Seen,q.1.Calls,())
abbrev kz7:=fun(q:D.Ledger)=>(((q.Now,q.Config.Zones,q.Config.People,q.Config.Calendars,q.Config.Schedules,q.Book.Teams,q.Book.Policies,q.Owner,q.Fence,()),()),q.Pages,q.Seen,q.Calls,())
abbrev kz8{A:Type}(q:A):=((),q,())
abbrev kz9:=fun(a:SL [.agg [kI,.lst .Zone,.lst .Person,.lst .Calendar,.lst .Schedule,.lst .Team,.lst .Policy,.own 101,kI,kI,.own 102,.own 103],nI]) (b:OL [ar 101 .Page,ar 102 .int,ar 103 .Call])=>((D.Ledger.mk a.1.1 (D.Config.mk a.1.2.1 a.1.2.2.1 a.1.2.2.2.1 a.1.2.2.2.2.1) (D.Book.mk a.1.2.2.2.2.2.1 a.1.2.2.2.2.2.2.1) b.1 a.1.2.2.2.2.2.2.2.1 a.1.2.2.2.2.2.2.2.2.1 b.2.1 b.2.2.1),a.2.1)
abbrev kz10:=fun(q:(Bool×D.Page))=>((q.1,()),(q.2.ID,q.2.Policy,q.2.Start,q.2.Next,q.2.Due,q.2.State,q.2.By,q.2.Until,q.2.Last,q.2.Snoozes,q.2.Hands,()),q.2.Starts,q.2.Declined,q.2.Seen,())
abbrev kz11:=fun(q:D.worker)=>((),(q.Ledger.Now,q.Ledger.Config.Zones,q.Ledger.Config.People,q.Ledger.Config.Calendars,q.Ledger.Config.Schedules,q.Ledger.Book.Teams,q.Ledger.Book.Policies,q.Ledger.Owner,q.Ledger.Fence,()),q.Ledger.Pages,q.Ledger.Seen,q.Ledger.Calls,())
abbrev kz12{A B C:Type}(a:A)(b:(B×C)):=b.1
abbrev kz13:=fun(q:D.Page)=>(((q.ID,q.Policy,q.Start,q.Next,q.Due,q.State,q.By,q.Until,q.Last,q.Snoozes,q.Hands,()),()),q.Starts,q.Declined,q.Seen,())
abbrev kz14:=fun(a:SL []) (b:OL [(101,.box [kI,.lst .Zone,.lst .Person,.lst .Calendar,.lst .Schedule,.lst .Team,.lst .Policy,.own 102,kI,kI,.own 103,.own 104]),ar 102 .Page,ar 103 .int,ar 104 .Call])=>D.worker.mk (D.Ledger.mk b.1.1 (D.Config.mk b.1.2.1 b.1.2.2.1 b.1.2.2.2.1 b.1.2.2.2.2.1) (D.Book.mk b.1.2.2.2.2.2.1 b.1.2.2.2.2.2.2.1) b.2.1 b.1.2.2.2.2.2.2.2.1 b.1.2.2.2.2.2.2.2.2.1 b.2.2.1 b.2.2.2.1)
abbrev kz15:=fun(a:SL [.agg [kI,.lst .Zone,.lst .Person,.lst .Calendar,.lst .Schedule,.lst .Team,.lst .Policy,.own 101,kI,kI,.own 102,.own 103]]) (b:OL [ar 101 .Page,ar 102 .int,ar 103 .Call])=>D.Ledger.mk a.1.1 (D.Config.mk a.1.2.1 a.1.2.2.1 a.1.2.2.2.1 a.1.2.2.2.2.1) (D.Book.mk a.1.2.2.2.2.2.1 a.1.2.2.2.2.2.2.1) b.1 a.1.2.2.2.2.2.2.2.1 a.1.2.2.2.2.2.2.2.2.1 b.2.1 b.2.2.1
abbrev kz16:=fun(q:(Int×D.Page))=>((q.1,()),(q.2.ID,q.2.Policy,q.2.Start,q.2.Next,q.2.Due,q.2.State,q.2.By,q.2.Until,q.2.Last,q.2.Snoozes,q.2.Hands,()),q.2.Starts,q.2.Declined,q.2.Seen,())
abbrev kz17{A B:Type}(q:(A×B)):=((q.1,()),q.2,())
abbrev kz18{A B C:Type}(q:(A×(B×C))):=((q.1,q.2.1,()),q.2.2,())
abbrev kz19{A B C D:Type}(a:(A×B))(b:(C×D)):=(a.1,b.1)
abbrev kz20{A B C D E:Type}(a:(A×(B×C)))(b:(D×E)):=(a.1,a.2.1,b.1)
abbrev kz21{A B C:Type}(q:(A×(B×C))):=((q.1,q.2.1,q.2.2,()),())
variable (u:Nat)
def QcT(g:List D.Window)(i:Int):Option Bool:=Qh (X:=((Int×List D.Window×Int×Int×Unit)×Unit)) (fun j ((a,e,f,b,_),_)=>cd (b<f) (join (Y:=((Int×List D.Window×Int×Int×Unit)×Unit)) (fun((k,l,m,n,_),_)=>j ((k,l,m,(wrap .i64 (n+1)),()),())) fun h=>atc e b fun c=>cd (c.From≤a) (cd (a<c.To) sT (h ((a,e,f,b,()),()))) (h ((a,e,f,b,()),()))) sF) u ((i,g,(g.length:Int),0,()),())
theorem Qj6:FO 313 (sB [.one (.lst .Window),nI] fun x=>QcT u x.1 x.2.1):=fI u (.two .go (lp [ni 1,li 7 .Window,ni 8,ni 9] [] (gs 2 (.two (.join [ni 1,li 7 .Window,ni 8,ni 9] [] .go) .go)))) kz0 eN Tryz.func313
def U7(u:Nat)(a:Int):Option Int:=nzc 7 (nzc 7 (some (Int.tmod (wrap .i64 ((Int.tmod a 7)+10)) 7)))
theorem QcV:FO 319 (sI [nI] fun x=>U7 u x.1):=fI u .go kz0 eN Tryz.func319
def XI(a:D.Local):Option Int:=optc (U7 u a.Day) fun b=>some (wrap .i64 ((wrap .i64 (b*86400))+a.Second))
theorem Qc1:FO 314 (sI [.st .Local] fun x=>XI u x.1):=fI u .go kz0 (eC (QcV u) eN) Tryz.func314
def QeH(u:Nat)(a:Int):Option D.Local:=nzc 86400 (join (Y:=((Int×Int×Unit)×D.Local×Unit)) (fun((e,b,_),f,_)=>some (D.Local.mk b (wrap .i64 (e - (wrap .i64 (b*86400)))))) fun c=>nzc 86400 (cd ((Int.tmod a 86400)<0) (c ((a,(wrap .i64 ((wrap .i64 (Int.tdiv a 86400)) - 1)),()),(D.Local.mk 0 0),())) (c ((a,(wrap .i64 (Int.tdiv a 86400)),()),(D.Local.mk 0 0),()))))
theorem QmS:FO 329 (Qf [nI] [] [.st .Local] [] [] D.Local kz1 (fun x y=>QeH u x.1)):=fI u (gs 2 (.two (.join [ni 0,rf 2,ni 3] [bx 1002 .Local] .go) .go)) kz0 eN Tryz.func329
def Uo(u:Nat)(a:D.Table)(b:Int):Option Int:=cd (b=0) (some a.offset) (atc a.list (wrap .i64 (b - 1)) fun c=>some c.Offset)
theorem U4:FO 336 (sI [.st .Table,nI] fun x=>Uo u x.1 x.2.1):=fI u .go kz0 eN Tryz.func336
def QbB(u:Nat)(c:Int)(a:D.Table)(b:Int):Option Bool:=atc a.list c fun e=>sameC a a (sameC b b (some (decide (b<e.At))))
theorem Qd7:FO 343 (Qf [nI,.one (.ref 101),.one (.ref 102)] [bx 101 .Table,bx 102 .int] [.one .boo] [] [101,102] Bool kz1 (fun x y=>QbB u x.1 y.1 y.2.1)):=fI u .go kz0 eN Tryz.func343
def Zg(h:Int)(c101:D.Table)(c102:Int):Option Int:=Qh (X:=((Int×Int×Unit)×D.Table×(Int×Unit)×Unit)) (fun g ((a,b,_),c,(e,_),_)=>cd (a<b) (natc 1 fun f=>optc (QbB u (wrap .i64 (Int.fdiv (IntKind.wrap .u64 (wrap .i64 (a+b))) (HPow.hPow 2 (min f (Go.IntKind.bits Go.IntKind.u64))))) c e) fun i=>cnd (!i) (g (((wrap .i64 ((wrap .i64 (Int.fdiv (IntKind.wrap .u64 (wrap .i64 (a+b))) (HPow.hPow 2 (min f (Go.IntKind.bits Go.IntKind.u64)))))+1)),b,()),c,(e,()),())) (g ((a,(wrap .i64 (Int.fdiv (IntKind.wrap .u64 (wrap .i64 (a+b))) (HPow.hPow 2 (min f (Go.IntKind.bits Go.IntKind.u64))))),()),c,(e,()),()))) (sameC c c101 (sameC e c102 (some a)))) u ((0,h,()),c101,(c102,()),())
theorem W8:FO 342 (Qf [nI,.one (.clo 343 [101,102])] [bx 101 .Table,bx 102 .int] [nI] [] [101,102] Int kz1 (fun x y=>Zg u x.1 y.1 y.2.1)):=fI u (gs 2 (.two (.one (.loop [(1,.one (.clo 343 [101,102])),ni 5,ni 6] [bx 101 .Table,(102,.box [kI])] .go)) .go)) kz0 (eC (Qd7 u) eN) Tryz.func342
def XR(a:D.Table)(b:Int):Option Int:=optc (Zg u (a.list.length:Int) a b) fun c=>some c
theorem Qa1:FO 337 (sI [.st .Table,nI] fun x=>XR u x.1 x.2.1):=fI u .go kz0 (eC (W8 u) eN) Tryz.func337
def Wz(a:D.Table)(b:Int):Option Int:=optc (XR u a b) fun c=>optc (Uo u a c) fun e=>some e
theorem QeS:FO 330 (sI [.st .Table,nI] fun x=>Wz u x.1 x.2.1):=fI u .go kz0 (eC (U4 u) (eC (Qa1 u) eN)) Tryz.func330
def ZF(b:D.Table)(a:Int):Option D.Local:=optc (Wz u b a) fun c=>optc (QeH u (wrap .i64 (a+c))) fun e=>some e
theorem Va:FO 316 (Qf [.st .Table,nI] [] [.st .Local] [] [] D.Local kz1 (fun x y=>ZF u x.1 x.2.1)):=fI u .go kz0 (eC (QmS u) (eC (QeS u) eN)) Tryz.func316
def Qb8(u:Nat)(a:D.Layer):Option Int:=cd (a.Unit=2) (some (wrap .i64 (7*a.Every))) (some a.Every)
theorem Qgr:FO 365 (sI [.st .Layer] fun x=>Qb8 u x.1):=fI u .go kz0 eN Tryz.func365
def Un(n:D.Table)(o:Int)(p:Int):Option (List D.Piece):=Qh (X:=((Int×Int×Unit)×D.Table×List D.Piece×Unit)) (fun q ((c,a,_),b,j,_)=>cd (c<a) (optc (XR u b c) fun e=>join (Y:=(P4×D.Table×List D.Piece×Unit)) (fun((l,r,s,k,_),f,g,_)=>optc (Uo u f s) fun h=>lec (g.length+[(D.Piece.mk l k h)].length) 34359738368 (q ((k,r,()),f,(g++[(D.Piece.mk l k h)]),()))) fun i=>cd (e<(b.list.length:Int)) (atc b.list e fun m=>i ((c,a,e,(min a m.At),()),b,j,())) (i ((c,a,e,a,()),b,j,()))) (some j)) u ((o,p,()),n,[],())
theorem QeT:FO 368 (Qf [.st .Table,nI,nI] [] [.one (.lst .Piece)] [] [] (List D.Piece) kz1 (fun x y=>Un u x.1 x.2.1 x.2.2.1)):=fI u (gs 2 (.two (.one (.loop [ni 1,ni 2,rf 3,(7,.one (.own 1038))] [bx 1003 .Table,ar 1038 .Piece] (.two .go (.one (gs 2 (.two (.join [ni 1,ni 2,rf 3,(7,.one (.own 1038)),ni 8,ni 9] [bx 1003 .Table,ar 1038 .Piece] .go) .go)))))) .go)) kz0 (eC (U4 u) (eC (Qa1 u) eN)) Tryz.func368
def Qd9(u:Nat)(a:D.Local):Option Int:=some (wrap .i64 ((wrap .i64 ((min (max a.Day (-1048576)) 1048576)*86400))+a.Second))
theorem Qj8:FO 369 (sI [.st .Local] fun x=>Qd9 u x.1):=fI u .go kz0 eN Tryz.func369
def XQ(i:D.Table)(j:D.Local):Option (Int×Bool):=optc (Un u i 0 8589934593) fun c=>Qh (X:=((List D.Piece×Int×Int×Unit)×D.Local×Unit)) (fun k ((e,f,b,_),g,_)=>cd (b<f) (atc e b fun a=>optc (Qd9 u g) fun h=>cd ((max a.From (wrap .i64 (h - a.Offset)))<a.To) (some ((max a.From (wrap .i64 (h - a.Offset))),true)) (k ((e,f,(wrap .i64 (b+1)),()),g,()))) (some (0,false))) u ((c,(c.length:Int),0,()),j,())
theorem QfO:FO 367 (Qf [.st .Table,.st .Local] [] [nI,.one .boo] [] [] (Int×Bool) kz3 (fun x y=>XQ u x.1 x.2.1)):=fI u (.two .go (lp [rf 3,li 10 .Piece,ni 11,ni 12] [bx 1003 .Local] .go)) kz4 (eC (QeT u) (eC (Qj8 u) eN)) Tryz.func367
def ZY(e:D.Table)(a:D.Layer)(b:Int):Option (Int×Bool):=cd (8589934592<b) (some (0,false)) (cd (a.Unit≠0) (optc (Qb8 u a) fun f=>optc (XQ u e (D.Local.mk (wrap .i64 (a.Start.Day+(wrap .i64 (b*f)))) a.Start.Second)) fun(g,h)=>some (g,h)) (optc (XQ u e a.Start) fun(c,i)=>cnd i (cd ((wrap .i64 (c+(wrap .i64 ((wrap .i64 (3600*a.Every))*b))))≤8589934592) (some ((wrap .i64 (c+(wrap .i64 ((wrap .i64 (3600*a.Every))*b)))),true)) (some ((wrap .i64 (c+(wrap .i64 ((wrap .i64 (3600*a.Every))*b)))),false))) (some ((wrap .i64 (c+(wrap .i64 ((wrap .i64 (3600*a.Every))*b)))),false))))
theorem QfF:FO 364 (Qf [.st .Table,.st .Layer,nI] [] [nI,.one .boo] [] [] (Int×Bool) kz3 (fun x y=>ZY u x.1 x.2.1 x.2.2.1)):=fI u .go kz4 (eC (Qgr u) (eC (QfO u) eN)) Tryz.func364
def VQ(n:D.Table)(o:D.Layer)(p:Int):Option Int:=optc (ZY u n o 0) fun(q,Z)=>join (Y:=((Int×Int×Unit)×D.Table×D.Layer×Unit)) (fun((m,a3,_),r,g,_)=>cd (g.Unit=0) (nzc (wrap .i64 (3600*g.Every)) (some (wrap .i64 (Int.tdiv (wrap .i64 (m - a3)) (wrap .i64 (3600*g.Every)))))) (optc (ZF u r m) fun a6=>optc (Qb8 u g) fun s=>nzc s (join (Y:=((Int×Int×Unit)×D.Table×D.Layer×Unit)) (fun((a8,a9,_),t,v,_)=>Qh (X:=((Int×Int×Unit)×D.Table×D.Layer×Unit)) (fun w ((h,f,_),i,j,_)=>join (Y:=((Int×Int×Unit)×D.Table×D.Layer×Unit)) (fun((y,z,_),A,B,_)=>w ((y,(wrap .i64 (z+1)),()),A,B,())) fun C=>optc (ZY u i j (wrap .i64 (f+1))) fun(E,F)=>cnd F (cd (h<E) (some f) (C ((h,f,()),i,j,()))) (some f)) u ((a8,a9,()),t,v,())) fun k=>Qh (X:=((Int×Int×Unit)×D.Table×D.Layer×Unit)) (fun G ((b,a,_),c,e,_)=>cd (0<a) (join (Y:=((Int×Int×Unit)×D.Table×D.Layer×Unit)) (fun((H,I,_),J,L,_)=>G ((H,(wrap .i64 (I - 1)),()),J,L,())) fun l=>optc (ZY u c e a) fun(O,S)=>cnd S (cd (O≤b) (k ((b,a,()),c,e,())) (l ((b,a,()),c,e,()))) (l ((b,a,()),c,e,()))) (k ((b,a,()),c,e,()))) u ((m,(max 0 (wrap .i64 (Int.tdiv (wrap .i64 (a6.Day - g.Start.Day)) s))),()),r,g,())))) fun W=>cnd Z (cd (p<q) (some (-1)) (W ((p,q,()),n,o,()))) (some (-1))
theorem QhT:FO 361 (sI [.st .Table,.st .Layer,nI] fun x=>VQ u x.1 x.2.1 x.2.2.1):=fI u (gs 2 (.two (.join [ni 2,rf 3,rf 4,ni 7] [bx 1003 .Table,bx 1004 .Layer] .go) (gs 2 (.two (.join [ni 2,rf 3,rf 4,ni 9] [bx 1003 .Table,bx 1004 .Layer] (.one (.loop [ni 2,rf 3,rf 4,ni 9] [bx 1003 .Table,bx 1004 .Layer] (.two .go (.one (.two (.join [ni 2,rf 3,rf 4,ni 9] [bx 1003 .Table,bx 1004 .Layer] .go) .go)))))) (.one (.loop [ni 2,rf 3,rf 4,ni 9] [bx 1003 .Table,bx 1004 .Layer] (.one (.two (.join [ni 2,rf 3,rf 4,ni 9] [bx 1003 .Table,bx 1004 .Layer] .go) .go)))))))) kz0 (eC (Va u) (eC (QfF u) (eC (Qgr u) eN))) Tryz.func361
def U8(u:Nat)(a:Int):Option Bool:=some (decide (a≠a))
theorem QhI:FO 196 (sB [nI] fun x=>U8 u x.1):=fI u .go kz0 eN Tryz.func196
def Vd(a:Int)(b:Int):Option Bool:=optc (U8 u a) fun c=>cnd c (optc (U8 u b) fun e=>cnd e (cd (a<b) sT sF) sT) (cd (a<b) sT sF)
theorem QaH:FO 121 (sB [nI,nI] fun x=>Vd u x.1 x.2.1):=fI u .go kz0 (eC (QhI u) eN) Tryz.func121
def UX(u:Nat)(a:Int):Option Bool:=some (decide (a≠a))
theorem QfK:FO 366 (sB [nI] fun x=>UX u x.1):=fI u .go kz0 eN Tryz.func366
def VX(f:List Int)(m:Int):Option (Int×Bool):=Qh (X:=((List Int×Int×Int×Int×Int×Unit)×Unit)) (fun i ((b,c,g,a,e,_),_)=>cd (a<e) (natc 1 fun h=>atc b (wrap .i64 (Int.fdiv (IntKind.wrap .u64 (wrap .i64 (a+e))) (HPow.hPow 2 (min h (Go.IntKind.bits Go.IntKind.u64))))) fun n=>optc (Vd u n c) fun o=>cnd o (i ((b,c,g,(wrap .i64 ((wrap .i64 (Int.fdiv (IntKind.wrap .u64 (wrap .i64 (a+e))) (HPow.hPow 2 (min h (Go.IntKind.bits Go.IntKind.u64)))))+1)),e,()),())) (i ((b,c,g,a,(wrap .i64 (Int.fdiv (IntKind.wrap .u64 (wrap .i64 (a+e))) (HPow.hPow 2 (min h (Go.IntKind.bits Go.IntKind.u64))))),()),()))) (cd (a<g) (atc b a fun p=>cd (p=c) (some (a,true)) (atc b a fun j=>optc (UX u j) fun k=>cnd k (optc (UX u c) fun l=>cnd l (some (a,true)) (some (a,false))) (some (a,false)))) (some (a,false)))) u ((f,m,(f.length:Int),0,(f.length:Int),()),())
theorem Qbb:FO 362 (Qf [lI,nI] [] [nI,.one .boo] [] [] (Int×Bool) kz3 (fun x y=>VX u x.1 x.2.1)):=fI u (gs 3 (.two (.one (.loop [(0,lI),ni 1,ni 6,ni 7,ni 8] [] .go)) .go)) kz4 (eC (QaH u) (eC (QfK u) eN)) Tryz.func362
def Qbf(t:D.View)(v:D.Layer)(e:Int):Option (Int×Bool):=join (Y:=((Int×Unit)×D.View×D.Layer×Unit)) (fun((b,_),f,a,_)=>atc f.tables a.Zone fun i=>optc (VQ u i a b) fun g=>join (Y:=((Int×Int×Unit)×D.View×D.Layer×Unit)) (fun((w,j,_),k,h,_)=>cd (h.Mode=0) (some (j,true)) (atc k.Config.Calendars h.Calendar fun l=>atc k.tables l.Zone fun m=>optc (ZF u m w) fun n=>optc (VX u l.Days n.Day) fun(y,o)=>some (j,(decide (o=(decide (h.Mode=2))))))) fun c=>cd (g<0) (some (0,false)) (cd (0<(a.Windows.length:Int)) (optc (ZF u i b) fun p=>optc (XI u p) fun q=>optc (QcT u a.Windows q) fun r=>cnd r (c ((b,g,()),f,a,())) (some (0,false))) (c ((b,g,()),f,a,())))) fun s=>cd (e<0) (some (0,false)) (cd (8589934592<e) (some (0,false)) (s ((e,()),t,v,())))
theorem QiX:FO 358 (Qf [.st .View,.st .Layer,nI] [] [nI,.one .boo] [] [] (Int×Bool) kz3 (fun x y=>Qbf u x.1 x.2.1 x.2.2.1)):=fI u (.two .go (.two (.join [ni 2,rf 3,rf 4] [bx 1003 .View,bx 1004 .Layer] .go) (gs 2 (.two (.join [ni 2,rf 3,rf 4,ni 9] [bx 1003 .View,bx 1004 .Layer] .go) .go)))) kz4 (eC (Qj6 u) (eC (Qc1 u) (eC (Va u) (eC (QhT u) (eC (Qbb u) eN))))) Tryz.func358
def XK(b:D.View)(a:D.Layer)(c:Int):Option Int:=optc (Qbf u b a c) fun(e,f)=>cnd (!f) (some (-1)) (nzc (a.Members.length:Int) (atc a.Members (Int.tmod e (a.Members.length:Int)) fun g=>some g))
theorem Qff:FO 353 (sI [.st .View,.st .Layer,nI] fun x=>XK u x.1 x.2.1 x.2.2.1):=fI u .go kz0 (eC (QiX u) eN) Tryz.func353
def QbA(u:Nat)(c:D.Edit)(b:Int)(a:Int):Option Bool:=cd (c.Kind=0) (cd (c.A=b) (cd (c.From≤a) (cd (a<c.To) (sameC b b (sameC a a sT)) (sameC b b (sameC a a sF))) (sameC b b (sameC a a sF))) (sameC b b (sameC a a sF))) (sameC b b (sameC a a sF))
theorem QjX:FO 360 (Qf [.st .Edit,.one (.ref 101),.one (.ref 102)] [bx 101 .int,bx 102 .int] [.one .boo] [] [101,102] Bool kz1 (fun x y=>QbA u x.1 y.1 y.2.1)):=fI u .go kz0 eN Tryz.func360
def Q2(e:List D.Edit)(c101:Int)(c102:Int):Option Int:=Qh (X:=((List D.Edit×Int×Int×Unit)×(Int×Unit)×(Int×Unit)×Unit)) (fun h ((f,g,a,_),(b,_),(c,_),_)=>cd (a<g) (atc f a fun i=>optc (QbA u i b c) fun j=>cnd j (sameC b c101 (sameC c c102 (some a))) (h ((f,g,(wrap .i64 (a+1)),()),(b,()),(c,()),()))) (sameC b c101 (sameC c c102 (some (-1))))) u ((e,(e.length:Int),0,()),(c101,()),(c102,()),())
theorem Wp:FO 363 (Qf [.one (.lst .Edit),.one (.clo 360 [101,102])] [bx 101 .int,bx 102 .int] [nI] [] [101,102] Int kz1 (fun x y=>Q2 u x.1 y.1 y.2.1)):=fI u (.two .go (lp [li 0 .Edit,(1,.one (.clo 360 [101,102])),ni 7,ni 8] [(101,.box [kI]),(102,.box [kI])] .go)) kz0 (eC (QjX u) eN) Tryz.func363
def Zi(a:List D.Edit)(c101:Int)(c102:Int):Option Bool:=optc (Q2 u a c101 c102) fun b=>sameC c101 c101 (sameC c102 c102 (some (decide (0≤b))))
theorem XO:FO 359 (Qf [.one (.lst .Edit),.one (.clo 360 [101,102])] [bx 101 .int,bx 102 .int] [.one .boo] [] [101,102] Bool kz1 (fun x y=>Zi u x.1 y.1 y.2.1)):=fI u .go kz0 (eC (Wp u) eN) Tryz.func359
def Uk(a:D.Schedule)(b:Int)(c:Int):Option Bool:=optc (Zi u a.Edits b c) fun e=>some e
theorem QmK:FO 354 (sB [.st .Schedule,nI,nI] fun x=>Uk u x.1 x.2.1 x.2.2.1):=fI u .go kz0 (eC (XO u) eN) Tryz.func354
end
/-
  stack.LayerOf: a range over a function (slices.Backward), for schedules of one layer: its contract, by the kit's laws of such ranges.
-/
section
open Go Go.RowKit Go.Shelf Go.Proofs AM
attribute [local go_sem] Oper.semAt_some
set_option maxHeartbeats 400000
theorem QwB(F:Fence)(n:Nat)(h5:F.fn 352)(hro:F.round=none)(a:Option Addr)(len cap:Nat)(w:World):
  CallsIn F n Tryz.prog 352 #[.slice a len cap] w fun e w'=>e=.returned (.func (.func 357) #[] #[.pointer (some ⟨w.heap.size,0,none⟩)])∧w'=w.alloc (.cells #[.slice a len cap] 128):=by
 refine callsIn_of_wp Tryz.func352 rfl h5 ?_ hro
 simp only[Tryz.ntmps352,List.size_toArray,List.length_cons,List.length_nil,Nat.reduceAdd,Nat.reduceSub,Array.replicate_succ,Array.replicate_zero,List.push_toArray,List.append_toArray,List.nil_append,List.cons_append]
 gi_wp2
 go_ret
 exact⟨rfl,rfl⟩
theorem QqZ(n:Nat)(hn:1≤n)(Bs b off cap:Nat)(l1 l2 l3 l4 l5 l6 l7 l8 l9 l10:Value)(w:World)(hBs:Bs<w.heap.size)(hb:b<w.heap.size)(hc:w.cell? ⟨Bs,0,none⟩=some (.slice (some ⟨b,off,none⟩) 1 cap))(c1:w.cell? ⟨b,off,none⟩=some l1)(c2:w.cell? ⟨b,off+1,none⟩=some l2)(c3:w.cell? ⟨b,off+2,none⟩=some l3)(c4:w.cell? ⟨b,off+3,none⟩=some l4)(c5:w.cell? ⟨b,off+4,none⟩=some l5)(c6:w.cell? ⟨b,off+5,none⟩=some l6)(c7:w.cell? ⟨b,off+6,none⟩=some l7)(c8:w.cell? ⟨b,off+7,none⟩=some l8)(c9:w.cell? ⟨b,off+8,none⟩=some l9)(c10:w.cell? ⟨b,off+9,none⟩=some l10):
  SeqStopsK Fence.wide n Tryz.prog 357 #[.pointer (some ⟨Bs,0,none⟩)] (fun _:Unit=>#[Value.int .i64 0,.agg #[l1,l2,l3,l4,l5,l6,l7,l8,l9,l10]]) (fun _ _=>True) (fun ys=>ys=[()]) (fun pre=>pre=[()]) 1 w:=by
 intro l J Jx W hW hJ hJx hY h0
 have hc':=(hW.cell (p:=⟨Bs,0,none⟩) hBs).trans hc
 have d1:=(hW.cell (p:=⟨b,off,none⟩) hb).trans c1
 have d2:=(hW.cell (p:=⟨b,off+1,none⟩) hb).trans c2
 have d3:=(hW.cell (p:=⟨b,off+2,none⟩) hb).trans c3
 have d4:=(hW.cell (p:=⟨b,off+3,none⟩) hb).trans c4
 have d5:=(hW.cell (p:=⟨b,off+4,none⟩) hb).trans c5
 have d6:=(hW.cell (p:=⟨b,off+5,none⟩) hb).trans c6
 have d7:=(hW.cell (p:=⟨b,off+6,none⟩) hb).trans c7
 have d8:=(hW.cell (p:=⟨b,off+7,none⟩) hb).trans c8
 have d9:=(hW.cell (p:=⟨b,off+8,none⟩) hb).trans c9
 have d10:=(hW.cell (p:=⟨b,off+9,none⟩) hb).trans c10
 obtain⟨fn,tmps,assign,body,hy,hR⟩:=hY [] () W h0 (by simp)
 dsimp only at hy
 refine callsIn_of_wp Tryz.func357 rfl trivial ?_ rfl
 simp only[Tryz.ntmps357,List.size_toArray,List.length_cons,List.length_nil,Nat.reduceAdd,Nat.reduceSub,Array.replicate_succ,Array.replicate_zero,List.push_toArray,List.append_toArray,List.nil_append,List.cons_append]
 gi_wp2
 gi_loopw [3] (fun i wr=>(i=.int .i64 0∧wr=W)∨(i=.int .i64 (-1)∧J [()] wr)) (fun i _=>(intOf i+1).toNat)
 case atStart=>exact .inl ⟨by simp[wrap64],rfl⟩
 case round=>
  rcases hrel with⟨rfl,rfl⟩|⟨rfl,hJ1⟩
  ·gi_wp2
   refine hR.mono ?_
   rintro e W3 (⟨rfl,hJ3,_⟩|⟨rfl,hJx3⟩)
   ·gi_wp2
    go_roundw
    case rel=>exact .inr ⟨by simp[wrap64],hJ3⟩
    case measure=>simp[intOf,wrap64]
   ·gi_wp2
    refine bodyPost_ret (results_none rfl _ _ _) rfl ?_
    exact⟨⟨_,rfl⟩,.inr ⟨_,rfl,hJx3⟩⟩
  ·gi_wp2
   go_end0
   exact⟨⟨_,rfl⟩,.inl ⟨_,rfl,hJ1⟩⟩
def Blk(W:World)(b:Nat)(cs:Array Value)(t:TypeId):Prop:=W.heap[b]?=some (.cells cs t (0,0))
theorem Blk.new(W:World)(cs:Array Value)(t:TypeId):Blk (W.alloc (.cells cs t)) W.heap.size cs t:=World.alloc_heap_new W _
theorem Blk.lt{W:World}{b:Nat}{cs:Array Value}{t:TypeId}(h:Blk W b cs t):b<W.heap.size:=(Array.getElem?_eq_some_iff.1 h).1
theorem Blk.alloc{W:World}{b:Nat}{cs:Array Value}{t:TypeId}(h:Blk W b cs t)(o:Obj):Blk (W.alloc o) b cs t:=(Below.heap_alloc W o b h.lt).trans h
theorem Blk.cell{W:World}{b:Nat}{cs:Array Value}{t:TypeId}(h:Blk W b cs t){j:Nat}{v:Value}(hj:cs[j]?=some v):W.cell? ⟨b,j,none⟩=some v:=by
 simp[World.cell?,show W.heap[b]?=_ from h,hj]
theorem Blk.frozen{W:World}{b:Nat}{cs:Array Value}{t:TypeId}(h:Blk W b cs t){j:Nat}:W.frozen? ⟨b,j,none⟩=false:=by simp[World.frozen?,show W.heap[b]?=_ from h]
theorem Blk.own{W W':World}{B:Nat}{row:Option Nat}{b:Nat}{cs:Array Value}{t:TypeId}(h:Blk W b cs t)(hg:W.grownBy W' row)(hr:∀r,row=some r→B≤r∧∃o:Obj,W.heap[r]?=some o∧o.isCells=false):Blk W' b cs t:=by
 refine(hg.block b h.lt fun e=>?_).trans h
 obtain⟨_,o,ho,hc⟩:=hr b e.symm
 rw[show W.heap[b]?=_ from h]at ho;cases ho;cases hc
theorem Blk.ext{W W':World}{b:Nat}{cs:Array Value}{t:TypeId}(h:Blk W b cs t)(hx:AM.Ext (fun _=>False) W W'):Blk W' b cs t:=(hx.same b h.lt id).trans h
theorem QlH{w W W':World}{B:Nat}{row:Option Nat}(hB:w.heap.size≤B)(h:AM.Ext (fun _=>False) w W)(hg:W.grownBy W' row)(hr:∀r,row=some r→B≤r∧∃o:Obj,W.heap[r]?=some o∧o.isCells=false):AM.Ext (fun _=>False) w W':=
 ⟨Nat.le_trans h.size hg.size,fun b hb _=>(hg.block b (Nat.lt_of_lt_of_le hb h.size) (fun e=>by have:=(hr b e.symm).1;omega)).trans (h.same b hb id),hg.os.trans h.os,hg.output.trans h.out⟩
theorem QaK{w W:World}(h:AM.Ext (fun _=>False) w W)(o:Obj):AM.Ext (fun _=>False) w (W.alloc o):=
 ⟨Nat.le_trans h.size (by simp),fun b hb _=>(Below.heap_alloc W o b (Nat.lt_of_lt_of_le hb h.size)).trans (h.same b hb id),h.os,h.out⟩
theorem Qf1{a b c:World}(h:AM.Ext (fun _=>False) a b)(k:AM.Ext (fun _=>False) b c):AM.Ext (fun _=>False) a c:=h.trans k fun _ _ e=>e
theorem Qjh{W W':World}(h:AM.Ext (fun _=>False) W W')(B:Nat):KeepsFrom B W W':=⟨h.size,fun k o _ hk _=>(h.same k (Array.getElem?_eq_some_iff.1 hk).1 id).trans hk⟩
structure Oth (b:Nat) (W W':World):Prop where
 size:W'.heap.size=W.heap.size
 same:∀k,k≠b→W'.heap[k]?=W.heap[k]?
 os:W'.os=W.os
 out:W'.output=W.output
theorem Oth.refl(b:Nat)(W:World):Oth b W W:=⟨rfl,fun _ _=>rfl,rfl,rfl⟩
theorem Oth.trans{b:Nat}{A B C:World}(h:Oth b A B)(k:Oth b B C):Oth b A C:=⟨k.size.trans h.size,fun i hi=>(k.same i hi).trans (h.same i hi),k.os.trans h.os,k.out.trans h.out⟩
theorem Oth.set(b j:Nat)(v:Value)(W:World):Oth b W (W.setCell ⟨b,j,none⟩ v):=
 ⟨by simp[World.setCell],fun k hk=>by simp[World.setCell,Array.getElem?_modify,Ne.symm hk],rfl,rfl⟩
theorem Oth.blk{b:Nat}{W W':World}(h:Oth b W W'){k:Nat}{cs:Array Value}{t:TypeId}(hk:k≠b)(hb:Blk W k cs t):Blk W' k cs t:=(h.same k hk).trans hb
theorem Blk.set{W:World}{b:Nat}{cs:Array Value}{t:TypeId}(h:Blk W b cs t)(j:Nat)(v:Value):Blk (W.setCell ⟨b,j,none⟩ v) b (cs.setIfInBounds j v) t:=by
 have:b<W.heap.size:=h.lt
 unfold Blk at h ⊢
 simp only[World.setCell,Array.getElem?_modify,h,if_true]
 rfl
theorem Blk.store{P:Program}{W:World}{b:Nat}{cs:Array Value}{t:TypeId}(h:Blk W b cs t){j:Nat}(hj:j<cs.size){v:Value}(hv:v.oneCell'=true):(store ⟨b,j,none⟩ v).run P W=.ok () (W.setCell ⟨b,j,none⟩ v):=by
 rw[run_store P W _ v _ hv]
 have h1:=h.cell (j:=j) (v:=cs[j]) (by simp[hj])
 simp[stored,h1,h.frozen]
theorem Qi5{w W W':World}{b:Nat}(hB:w.heap.size≤b)(h:AM.Ext (fun _=>False) w W)(k:Oth b W W'):AM.Ext (fun _=>False) w W':=
 ⟨by rw[k.size];exact h.size,fun i hi _=>(k.same i (by omega)).trans (h.same i hi id),k.os.trans h.os,k.out.trans h.out⟩
theorem Qs6{W W':World}{o:Obj}(B:Nat)(k:Oth W.heap.size (W.alloc o) W'):KeepsFrom B W W':=
 ⟨by rw[k.size];simp,fun i x _ hi _=>by
  have hl:=(Array.getElem?_eq_some_iff.1 hi).1
  exact(k.same i (by omega)).trans ((Below.heap_alloc W o i hl).trans hi)⟩
theorem store1{P:Program}{A0 W:World}{b:Nat}{cs cs':Array Value}{t:TypeId}(h:Blk W b cs t)(ho:Oth b A0 W){j:Nat}{v:Value}(hj:j<cs.size)(hc:cs.setIfInBounds j v=cs')(hv:v.oneCell'=true):
  ∃W',(store ⟨b,j,none⟩ v).run P W=.ok () W'∧Oth b A0 W'∧Blk W' b cs' t:=⟨_,h.store hj hv,ho.trans (Oth.set b j v W),hc ▸ h.set j v⟩
theorem store10(P:Program)(W:World)(l1 l2 l3 l4 l5 l6 l7 l8 l9 l10:Value)(o1:l1.oneCell'=true)(o2:l2.oneCell'=true)(o3:l3.oneCell'=true)(o4:l4.oneCell'=true)(o5:l5.oneCell'=true)(o6:l6.oneCell'=true)(o7:l7.oneCell'=true)(o8:l8.oneCell'=true)(o9:l9.oneCell'=true)(o10:l10.oneCell'=true):
  ∃W3,((Sem.run P (store ⟨W.heap.size,0,none⟩ l1) (W.alloc (.cells #[.string { data:=#[] },.int .i64 0,.int .i64 0,.int .i64 0,.int .i64 0,.int .i64 0,.slice none 0 0,.slice none 0 0,.int .i64 0,.int .i64 0] 127))).andThen fun a w'=>(Sem.run P (store ⟨W.heap.size,1,none⟩ l2) w').andThen fun a w'=>(Sem.run P (store ⟨W.heap.size,2,none⟩ l3) w').andThen fun a w'=>(Sem.run P (store ⟨W.heap.size,3,none⟩ l4) w').andThen fun a w'=>(Sem.run P (store ⟨W.heap.size,4,none⟩ l5) w').andThen fun a w'=>(Sem.run P (store ⟨W.heap.size,5,none⟩ l6) w').andThen fun a w'=>(Sem.run P (store ⟨W.heap.size,6,none⟩ l7) w').andThen fun a w'=>(Sem.run P (store ⟨W.heap.size,7,none⟩ l8) w').andThen fun a w'=>(Sem.run P (store ⟨W.heap.size,8,none⟩ l9) w').andThen fun a w'=>(Sem.run P (store ⟨W.heap.size,9,none⟩ l10) w'))=.ok () W3∧Oth W.heap.size (W.alloc (.cells #[.string { data:=#[] },.int .i64 0,.int .i64 0,.int .i64 0,.int .i64 0,.int .i64 0,.slice none 0 0,.slice none 0 0,.int .i64 0,.int .i64 0] 127)) W3∧Blk W3 W.heap.size #[l1,l2,l3,l4,l5,l6,l7,l8,l9,l10] 127:=by
 have q0:=Blk.new W #[.string { data:=#[] },.int .i64 0,.int .i64 0,.int .i64 0,.int .i64 0,.int .i64 0,.slice none 0 0,.slice none 0 0,.int .i64 0,.int .i64 0] 127
 have t0:=Oth.refl W.heap.size (W.alloc (.cells #[.string { data:=#[] },.int .i64 0,.int .i64 0,.int .i64 0,.int .i64 0,.int .i64 0,.slice none 0 0,.slice none 0 0,.int .i64 0,.int .i64 0] 127))
 obtain⟨A1,r1,t1,q1⟩:=store1 (P:=P) (cs':=#[l1,.int .i64 0,.int .i64 0,.int .i64 0,.int .i64 0,.int .i64 0,.slice none 0 0,.slice none 0 0,.int .i64 0,.int .i64 0]) q0 t0 (j:=0) (v:=l1) (by simp) rfl o1
 rw[r1,Result.andThen]
 obtain⟨A2,r2,t2,q2⟩:=store1 (P:=P) (cs':=#[l1,l2,.int .i64 0,.int .i64 0,.int .i64 0,.int .i64 0,.slice none 0 0,.slice none 0 0,.int .i64 0,.int .i64 0]) q1 t1 (j:=1) (v:=l2) (by simp) rfl o2
 rw[r2,Result.andThen]
 obtain⟨A3,r3,t3,q3⟩:=store1 (P:=P) (cs':=#[l1,l2,l3,.int .i64 0,.int .i64 0,.int .i64 0,.slice none 0 0,.slice none 0 0,.int .i64 0,.int .i64 0]) q2 t2 (j:=2) (v:=l3) (by simp) rfl o3
 rw[r3,Result.andThen]
 obtain⟨A4,r4,t4,q4⟩:=store1 (P:=P) (cs':=#[l1,l2,l3,l4,.int .i64 0,.int .i64 0,.slice none 0 0,.slice none 0 0,.int .i64 0,.int .i64 0]) q3 t3 (j:=3) (v:=l4) (by simp) rfl o4
 rw[r4,Result.andThen]
 obtain⟨A5,r5,t5,q5⟩:=store1 (P:=P) (cs':=#[l1,l2,l3,l4,l5,.int .i64 0,.slice none 0 0,.slice none 0 0,.int .i64 0,.int .i64 0]) q4 t4 (j:=4) (v:=l5) (by simp) rfl o5
 rw[r5,Result.andThen]
 obtain⟨A6,r6,t6,q6⟩:=store1 (P:=P) (cs':=#[l1,l2,l3,l4,l5,l6,.slice none 0 0,.slice none 0 0,.int .i64 0,.int .i64 0]) q5 t5 (j:=5) (v:=l6) (by simp) rfl o6
 rw[r6,Result.andThen]
 obtain⟨A7,r7,t7,q7⟩:=store1 (P:=P) (cs':=#[l1,l2,l3,l4,l5,l6,l7,.slice none 0 0,.int .i64 0,.int .i64 0]) q6 t6 (j:=6) (v:=l7) (by simp) rfl o7
 rw[r7,Result.andThen]
 obtain⟨A8,r8,t8,q8⟩:=store1 (P:=P) (cs':=#[l1,l2,l3,l4,l5,l6,l7,l8,.int .i64 0,.int .i64 0]) q7 t7 (j:=7) (v:=l8) (by simp) rfl o8
 rw[r8,Result.andThen]
 obtain⟨A9,r9,t9,q9⟩:=store1 (P:=P) (cs':=#[l1,l2,l3,l4,l5,l6,l7,l8,l9,.int .i64 0]) q8 t8 (j:=8) (v:=l9) (by simp) rfl o9
 rw[r9,Result.andThen]
 obtain⟨A10,r10,t10,q10⟩:=store1 (P:=P) (cs':=#[l1,l2,l3,l4,l5,l6,l7,l8,l9,l10]) q9 t9 (j:=9) (v:=l10) (by simp) rfl o10
 rw[r10]
 exact⟨A10,rfl,t10,q10⟩
theorem Qx1(n:Nat)(hn:3≤n)(v1 v2 v3 v4 v5 s1 s3:Value)(b off cap:Nat)(t:Int)(l1 l2 l3 l4 l5 l6 l7 l8 l9 l10:Value)(w:World)(hb:b<w.heap.size)(c1:w.cell? ⟨b,off,none⟩=some l1)(c2:w.cell? ⟨b,off+1,none⟩=some l2)(c3:w.cell? ⟨b,off+2,none⟩=some l3)(c4:w.cell? ⟨b,off+3,none⟩=some l4)(c5:w.cell? ⟨b,off+4,none⟩=some l5)(c6:w.cell? ⟨b,off+5,none⟩=some l6)(c7:w.cell? ⟨b,off+6,none⟩=some l7)(c8:w.cell? ⟨b,off+7,none⟩=some l8)(c9:w.cell? ⟨b,off+8,none⟩=some l9)(c10:w.cell? ⟨b,off+9,none⟩=some l10)(o1:l1.oneCell'=true)(o2:l2.oneCell'=true)(o3:l3.oneCell'=true)(o4:l4.oneCell'=true)(o5:l5.oneCell'=true)(o6:l6.oneCell'=true)(o7:l7.oneCell'=true)(o8:l8.oneCell'=true)(o9:l9.oneCell'=true)(o10:l10.oneCell'=true)(p:Int)(hP:∀W,AM.Ext (fun _=>False) w W→Calls Tryz.prog 353 #[.agg #[v1,v2,v3,v4,v5],.agg #[l1,l2,l3,l4,l5,l6,l7,l8,l9,l10],.int .i64 t] W fun e W'=>e=.returned (.int .i64 p)∧AM.Ext (fun _=>False) W W')(aw:Bool)(hA:0≤p→∀W,AM.Ext (fun _=>False) w W→Calls Tryz.prog 354 #[.agg #[s1,.slice (some ⟨b,off,none⟩) 1 cap,s3],.int .i64 p,.int .i64 t] W fun e W'=>e=.returned (.bool aw)∧AM.Ext (fun _=>False) W W'):
  CallsIn Fence.wide n Tryz.prog 347 #[.agg #[v1,v2,v3,v4,v5],.agg #[s1,.slice (some ⟨b,off,none⟩) 1 cap,s3],.int .i64 t] w fun e w'=>
   e=.returned (.tuple #[.int .i64 (if p<0∨aw=true then -1 else 0),.int .i64 (if p<0∨aw=true then -1 else p)])∧AM.Ext (fun _=>False) w w':=by
 have h1:1≤n:=by omega
 refine callsIn_of_wp_marks Tryz.func347 rfl trivial ?_ rfl
 simp only[Tryz.ntmps347,List.size_toArray,List.length_cons,List.length_nil,Nat.reduceAdd,Nat.reduceSub,Array.replicate_succ,Array.replicate_zero,List.push_toArray,List.append_toArray,List.nil_append,List.cons_append]
 gi_wp2
 refine wpIn_wide.2 (wp_scope_straight ((wpIn_wide (n:=n)).1 ?_))
 refine wpIn_seq (wpIn_label ?_)
 show Code.wpIn _ _ _ _ _ _ _
 gi_wp2_with (refine⟨trivial,?_⟩;gi_at_call 352;refine(QwB Fence.wide (n - 1) trivial rfl _ _ _ _).mono ?_;rintro e w' ⟨rfl,rfl⟩)
 have e0:=QaK (QaK (QaK (QaK (QaK (QaK (AM.Ext.refl (fun _=>False) w) (.cells #[v1,v2,v3,v4,v5] 343)) (.cells #[s1,.slice (some ⟨b,off,none⟩) 1 cap,s3] 131)) (.cells #[.int .i64 t] 3)) (.cells #[.int .i64 0] 3)) (.cells #[.int .i64 0] 3)) (.cells #[.slice (some ⟨b,off,none⟩) 1 cap] 128)
 have b0:=((((((Blk.new w #[v1,v2,v3,v4,v5] 343).alloc (.cells #[s1,.slice (some ⟨b,off,none⟩) 1 cap,s3] 131)).alloc (.cells #[.int .i64 t] 3)).alloc (.cells #[.int .i64 0] 3)).alloc (.cells #[.int .i64 0] 3)).alloc (.cells #[.slice (some ⟨b,off,none⟩) 1 cap] 128))
 have b1:=(((((Blk.new (w.alloc (.cells #[v1,v2,v3,v4,v5] 343)) #[s1,.slice (some ⟨b,off,none⟩) 1 cap,s3] 131).alloc (.cells #[.int .i64 t] 3)).alloc (.cells #[.int .i64 0] 3)).alloc (.cells #[.int .i64 0] 3)).alloc (.cells #[.slice (some ⟨b,off,none⟩) 1 cap] 128))
 have b2:=((((Blk.new ((w.alloc (.cells #[v1,v2,v3,v4,v5] 343)).alloc (.cells #[s1,.slice (some ⟨b,off,none⟩) 1 cap,s3] 131)) #[.int .i64 t] 3).alloc (.cells #[.int .i64 0] 3)).alloc (.cells #[.int .i64 0] 3)).alloc (.cells #[.slice (some ⟨b,off,none⟩) 1 cap] 128))
 have b3:=(((Blk.new (((w.alloc (.cells #[v1,v2,v3,v4,v5] 343)).alloc (.cells #[s1,.slice (some ⟨b,off,none⟩) 1 cap,s3] 131)).alloc (.cells #[.int .i64 t] 3)) #[.int .i64 0] 3).alloc (.cells #[.int .i64 0] 3)).alloc (.cells #[.slice (some ⟨b,off,none⟩) 1 cap] 128))
 have b4:=((Blk.new ((((w.alloc (.cells #[v1,v2,v3,v4,v5] 343)).alloc (.cells #[s1,.slice (some ⟨b,off,none⟩) 1 cap,s3] 131)).alloc (.cells #[.int .i64 t] 3)).alloc (.cells #[.int .i64 0] 3)) #[.int .i64 0] 3).alloc (.cells #[.slice (some ⟨b,off,none⟩) 1 cap] 128))
 have b5:=(Blk.new (((((w.alloc (.cells #[v1,v2,v3,v4,v5] 343)).alloc (.cells #[s1,.slice (some ⟨b,off,none⟩) 1 cap,s3] 131)).alloc (.cells #[.int .i64 t] 3)).alloc (.cells #[.int .i64 0] 3)).alloc (.cells #[.int .i64 0] 3)) #[.slice (some ⟨b,off,none⟩) 1 cap] 128)
 simp only[World.size_alloc]at b1 b2 b3 b4 b5
 have hz:((((((w.alloc (.cells #[v1,v2,v3,v4,v5] 343)).alloc (.cells #[s1,.slice (some ⟨b,off,none⟩) 1 cap,s3] 131)).alloc (.cells #[.int .i64 t] 3)).alloc (.cells #[.int .i64 0] 3)).alloc (.cells #[.int .i64 0] 3)).alloc (.cells #[.slice (some ⟨b,off,none⟩) 1 cap] 128)).heap.size=w.heap.size+6:=by simp
 obtain⟨W0,hW0⟩:∃W0,((((((w.alloc (.cells #[v1,v2,v3,v4,v5] 343)).alloc (.cells #[s1,.slice (some ⟨b,off,none⟩) 1 cap,s3] 131)).alloc (.cells #[.int .i64 t] 3)).alloc (.cells #[.int .i64 0] 3)).alloc (.cells #[.int .i64 0] 3)).alloc (.cells #[.slice (some ⟨b,off,none⟩) 1 cap] 128))=W0:=⟨_,rfl⟩
 rw[hW0]at e0 b0 b1 b2 b3 b4 b5 hz ⊢
 have c0:∀o,W0.cell? ⟨b,o,none⟩=w.cell? ⟨b,o,none⟩:=fun o=>World.cell?_of_block (e0.same b hb id)
 refine wpIn_rangeFunc_ownH rfl h1 (gf:=357) (lb:=#[.pointer (some ⟨w.heap.size+1+1+1+1+1,0,none⟩)]) rfl trivial (enters_of Tryz.func357 (by kernel_rfl) rfl)
  (QqZ (n - 1) (by omega) (w.heap.size+1+1+1+1+1) b off cap l1 l2 l3 l4 l5 l6 l7 l8 l9 l10 W0 b5.lt (by omega) (b5.cell rfl) ((c0 _).trans c1) ((c0 _).trans c2) ((c0 _).trans c3) ((c0 _).trans c4) ((c0 _).trans c5) ((c0 _).trans c6) ((c0 _).trans c7) ((c0 _).trans c8) ((c0 _).trans c9) ((c0 _).trans c10)) (fun _ _=>trivial) (fun _ _ _ _ _ _ _ _=>trivial) (Below.refl _ _) (fun _=>rfl)
  (fun pre W=>((Blk W w.heap.size #[v1,v2,v3,v4,v5] 343∧Blk W (w.heap.size+1) #[s1,.slice (some ⟨b,off,none⟩) 1 cap,s3] 131∧Blk W (w.heap.size+1+1) #[.int .i64 t] 3∧Blk W (w.heap.size+1+1+1) #[.int .i64 0] 3∧Blk W (w.heap.size+1+1+1+1) #[.int .i64 0] 3)∧AM.Ext (fun _=>False) w W)∧(pre=[]∨(p<0∨aw=true)))
  (fun c pre W=>c=.ret∧¬(p<0∨aw=true)∧Blk W (w.heap.size+1+1+1) #[.int .i64 0] 3∧Blk W (w.heap.size+1+1+1+1) #[.int .i64 p] 3∧AM.Ext (fun _=>False) w W)
  (fun s A B row hs hg hr=>⟨⟨⟨hs.1.1.1.own hg hr,hs.1.1.2.1.own hg hr,hs.1.1.2.2.1.own hg hr,hs.1.1.2.2.2.1.own hg hr,hs.1.1.2.2.2.2.own hg hr⟩,QlH (by omega) hs.1.2 hg hr⟩,hs.2⟩)
  (fun c s A B row hs hg hr=>⟨hs.1,hs.2.1,hs.2.2.1.own hg hr,hs.2.2.2.1.own hg hr,QlH (by omega) hs.2.2.2.2 hg hr⟩)
  ⟨⟨⟨b0,b1,b2,b3,b4⟩,e0⟩,.inl rfl⟩
  (fun _ a' W=>∃Bx,w.heap.size+1+1+1+1<Bx∧Blk W Bx #[l1,l2,l3,l4,l5,l6,l7,l8,l9,l10] 127∧a'={ tmps:=#[.agg #[v1,v2,v3,v4,v5],.agg #[s1,.slice (some ⟨b,off,none⟩) 1 cap,s3],.int .i64 t,.pointer (some ⟨w.heap.size,0,none⟩),.pointer (some ⟨w.heap.size+1,0,none⟩),.pointer (some ⟨w.heap.size+1+1,0,none⟩),.pointer (some ⟨w.heap.size+1+1+1,0,none⟩),.pointer (some ⟨w.heap.size+1+1+1+1,0,none⟩),.int .i64 0,.pointer (some ⟨Bx,0,none⟩),undef,.pointer (some ⟨w.heap.size+1,1,none⟩),.slice (some ⟨b,off,none⟩) 1 cap,.func (.func 357) #[] #[.pointer (some ⟨w.heap.size+1+1+1+1+1,0,none⟩)],.int .i64 0,.agg #[l1,l2,l3,l4,l5,l6,l7,l8,l9,l10],undef,undef,undef,undef,undef,undef,undef,undef,undef,undef,undef,undef,undef],defers:=[] })
  (fun x a' s A B row hs hg hr=>by obtain⟨Bx,g1,g2,g3⟩:=hs;exact⟨Bx,g1,g2.own hg hr,g3⟩) ?assign ?body ?done ?stop
 case assign=>
  rintro l pre x W K ⟨⟨⟨i0,i1,i2,i3,i4⟩,ie⟩,hp⟩ hK
  gi_wp2
  obtain⟨W3,hW3,tt,q10⟩:=store10 Tryz.prog W l1 l2 l3 l4 l5 l6 l7 l8 l9 l10 o1 o2 o3 o4 o5 o6 o7 o8 o9 o10
  rw[hW3,Result.andThen]
  gi_wp2
  have hi4:=i4.lt
  exact hK _ _ (Qs6 _ tt) trivial ⟨⟨⟨tt.blk (by omega) (i0.alloc _),tt.blk (by omega) (i1.alloc _),tt.blk (by omega) (i2.alloc _),tt.blk (by omega) (i3.alloc _),tt.blk (by omega) (i4.alloc _)⟩,Qi5 (by omega) (QaK ie _) tt⟩,hp⟩ ⟨W.heap.size,hi4,q10,rfl⟩
 case body=>
  rintro l pre x a' W hl hlp ⟨⟨⟨i0,i1,i2,i3,i4⟩,ie⟩,hp⟩ ⟨Bx,hBx,bx,rfl⟩ hlen
  have a1:=i0.cell (j:=0) rfl
  have a2:=i0.cell (j:=1) rfl
  have a3:=i0.cell (j:=2) rfl
  have a4:=i0.cell (j:=3) rfl
  have a5:=i0.cell (j:=4) rfl
  have g1:=i1.cell (j:=0) rfl
  have g2:=i1.cell (j:=1) rfl
  have g3:=i1.cell (j:=2) rfl
  have g4:=i2.cell (j:=0) rfl
  have m1:=bx.cell (j:=0) rfl
  have m2:=bx.cell (j:=1) rfl
  have m3:=bx.cell (j:=2) rfl
  have m4:=bx.cell (j:=3) rfl
  have m5:=bx.cell (j:=4) rfl
  have m6:=bx.cell (j:=5) rfl
  have m7:=bx.cell (j:=6) rfl
  have m8:=bx.cell (j:=7) rfl
  have m9:=bx.cell (j:=8) rfl
  have m10:=bx.cell (j:=9) rfl
  have hmx:Tryz.prog.follows .mixedOrders=true:=by kernel_rfl
  gi_wp2
  refine⟨trivial,fun h=>absurd h (by decide),?_⟩
  refine(CallsIn.inRound l (callsIn_wide.2 (hP W ie))).mono ?_
  rintro e W4 ⟨rfl,hx⟩
  have f0:=i0.ext hx
  have f1:=i1.ext hx
  have f2:=i2.ext hx
  have f3:=i3.ext hx
  have f4:=i4.ext hx
  have fe:=Qf1 ie hx
  have g1:=f1.cell (j:=0) rfl
  have g2:=f1.cell (j:=1) rfl
  have g3:=f1.cell (j:=2) rfl
  have g4:=f2.cell (j:=0) rfl
  dsimp only
  gi_wp2
  ·exact⟨Qjh hx _,trivial,⟨⟨⟨f0,f1,f2,f3,f4⟩,fe⟩,.inr (.inl (by assumption))⟩⟩
  ·refine⟨trivial,fun h=>absurd h (by decide),?_⟩
   have hp0:0≤p:=by assumption
   refine(CallsIn.inRound l (callsIn_wide.2 (hA hp0 W4 fe))).mono ?_
   rintro e W5 ⟨rfl,hy⟩
   have k0:=f0.ext hy
   have k1:=f1.ext hy
   have k2:=f2.ext hy
   have k3:=f3.ext hy
   have k4:=f4.ext hy
   have ke:=Qf1 fe hy
   have r1:=k3.cell (j:=0) rfl
   have r2:=k4.cell (j:=0) rfl
   have r3:=k3.frozen (j:=0)
   have r4:=k4.frozen (j:=0)
   dsimp only
   gi_wp2
   ·have hno:¬(p<0∨aw=true):=fun h=>h.elim (fun h=>by omega) (fun h=>by subst h;simp_all)
    refine⟨(Qjh (Qf1 hx hy) _).trans ⟨by simp[World.setCell],fun i o _ hi hc=>?_⟩,rfl,hno,(Oth.set (w.heap.size+1+1+1+1) 0 (.int .i64 p) _).blk (by omega) (k3.set 0 (.int .i64 0)),((Oth.set (w.heap.size+1+1+1) 0 (.int .i64 0) W5).blk (by omega) k4).set 0 (.int .i64 p),Qi5 (by omega) (Qi5 (by omega) ke (Oth.set (w.heap.size+1+1+1) 0 (.int .i64 0) W5)) (Oth.set (w.heap.size+1+1+1+1) 0 (.int .i64 p) _)⟩
    have n3:i≠w.heap.size+1+1+1:=fun e=>by subst e;rw[show W5.heap[w.heap.size+1+1+1]?=_ from k3]at hi;cases hi;cases hc
    have n4:i≠w.heap.size+1+1+1+1:=fun e=>by subst e;rw[show W5.heap[w.heap.size+1+1+1+1]?=_ from k4]at hi;cases hi;cases hc
    exact((Oth.set (w.heap.size+1+1+1+1) 0 (.int .i64 p) _).same i n4).trans (((Oth.set (w.heap.size+1+1+1) 0 (.int .i64 0) W5).same i n3).trans hi)
   ·have hyes:aw=true:=by cases aw<;>simp_all
    exact⟨Qjh (Qf1 hx hy) _,trivial,⟨⟨⟨k0,k1,k2,k3,k4⟩,ke⟩,.inr (.inr hyes)⟩⟩
 case done=>
  rintro D xs W hD rfl ⟨⟨⟨i0,i1,i2,i3,i4⟩,ie⟩,hp⟩ hKD
  have r1:=i3.cell (j:=0) rfl
  have r2:=i4.cell (j:=0) rfl
  have r3:=i3.frozen (j:=0)
  have r4:=i4.frozen (j:=0)
  gi_wp2
  have hp':p<0∨aw=true:=hp.resolve_left (by simp)
  have m3:Blk ((W.setCell ⟨w.heap.size+1+1+1,0,none⟩ (.int .i64 (-1))).setCell ⟨w.heap.size+1+1+1+1,0,none⟩ (.int .i64 (-1))) (w.heap.size+1+1+1) #[.int .i64 (-1)] 3:=(Oth.set (w.heap.size+1+1+1+1) 0 (.int .i64 (-1)) _).blk (by omega) (i3.set 0 (.int .i64 (-1)))
  have m4:Blk ((W.setCell ⟨w.heap.size+1+1+1,0,none⟩ (.int .i64 (-1))).setCell ⟨w.heap.size+1+1+1+1,0,none⟩ (.int .i64 (-1))) (w.heap.size+1+1+1+1) #[.int .i64 (-1)] 3:=((Oth.set (w.heap.size+1+1+1) 0 (.int .i64 (-1)) W).blk (by omega) i4).set 0 (.int .i64 (-1))
  have me:=Qi5 (by omega) (Qi5 (by omega) ie (Oth.set (w.heap.size+1+1+1) 0 (.int .i64 (-1)) W)) (Oth.set (w.heap.size+1+1+1+1) 0 (.int .i64 (-1)) _)
  have hKD':=((Oth.set (w.heap.size+1+1+1+1) 0 (.int .i64 (-1)) (W.setCell ⟨w.heap.size+1+1+1,0,none⟩ (.int .i64 (-1)))).same D (by omega)).trans (((Oth.set (w.heap.size+1+1+1) 0 (.int .i64 (-1)) W).same D (by omega)).trans hKD)
  have u3:=m3.own (grownBy_putObj' _ D (.deferred none)) (B:=W0.heap.size) (fun r e=>by cases e;exact⟨hD,_,hKD',rfl⟩)
  have u4:=m4.own (grownBy_putObj' _ D (.deferred none)) (B:=W0.heap.size) (fun r e=>by cases e;exact⟨hD,_,hKD',rfl⟩)
  have ue:=QlH (B:=W0.heap.size) (by omega) me (grownBy_putObj' _ D (.deferred none)) (fun r e=>by cases e;exact⟨hD,_,hKD',rfl⟩)
  have y3:=u3.cell (j:=0) rfl
  have y4:=u4.cell (j:=0) rfl
  show bodyPostM _ _ _ _ _ Exit.ret _ _
  refine⟨by simp,.inl ⟨_,_,rfl,run_takeDeferred hKD',?_⟩⟩
  refine⟨.tuple #[.int .i64 (-1),.int .i64 (-1)],?_,by rw[if_pos hp',if_pos hp'],ue⟩
  simp[results,Tryz.f347,go_sem,y3,y4]
 case stop=>
  rintro D c pre W hD rfl ⟨rfl,hno,i3,i4,ie⟩ hKD
  gi_wp2
  have m3:=i3
  have m4:=i4
  have me:=ie
  have hKD':=hKD
  have u3:=m3.own (grownBy_putObj' _ D (.deferred none)) (B:=W0.heap.size) (fun r e=>by cases e;exact⟨hD,_,hKD',rfl⟩)
  have u4:=m4.own (grownBy_putObj' _ D (.deferred none)) (B:=W0.heap.size) (fun r e=>by cases e;exact⟨hD,_,hKD',rfl⟩)
  have ue:=QlH (B:=W0.heap.size) (by omega) me (grownBy_putObj' _ D (.deferred none)) (fun r e=>by cases e;exact⟨hD,_,hKD',rfl⟩)
  have y3:=u3.cell (j:=0) rfl
  have y4:=u4.cell (j:=0) rfl
  show bodyPostM _ _ _ _ _ Exit.ret _ _
  refine⟨by simp,.inl ⟨_,_,rfl,run_takeDeferred hKD',?_⟩⟩
  refine⟨.tuple #[.int .i64 0,.int .i64 p],?_,by rw[if_neg hno,if_neg hno],ue⟩
  simp[results,Tryz.f347,go_sem,y3,y4]
theorem Qn0{ρ:Name→AM.Loc}{H:Heap}{M:Nat→Prop}{W:World}{x:PV}{xs:List AV}{us:List Value}(h:AV.Rs ρ H M W (.p x::xs) us):∃u us',us=u::us'∧PV.R M W x u∧AV.Rs ρ H M W xs us':=by
 simp only[AV.Rs]at h
 obtain⟨u,us',h1,h2,h3,h4⟩:=h
 simp only[AV.R]at h3
 exact⟨u,us',h1,h3,h4⟩
theorem V6{ρ:Name→AM.Loc}{H:Heap}{M:Nat→Prop}{W:World}{x:PV}{xs:List AV}{u:Value}{us:List Value}(h:PV.R M W x u)(hs:AV.Rs ρ H M W xs us):AV.Rs ρ H M W (.p x::xs) (u::us):=by
 simp only[AV.Rs,AV.R]
 exact⟨u,us,rfl,h.flat,h,hs⟩
theorem QbE{M:Nat→Prop}{W:World}{b off:Nat}{x:PV}{xs:List PV}(h:PV.Cells M W b off (x::xs)):∃u,W.cell? ⟨b,off,none⟩=some u∧PV.R M W x u∧PV.Cells M W b (off+1) xs:=by
 simp only[PV.Cells]at h
 obtain⟨⟨u,h1,h2⟩,h3⟩:=h
 exact⟨u,h1,h2,h3⟩
noncomputable section
def Y9(fu:Nat)(p0:D.View)(p1:D.Schedule)(p2:Int):Option (Int×Int):=
 match p1.Layers with
 |[l]=>optc (XK fu p0 l p2) fun p=>cnd (decide (p<0)) (some (-1,-1)) (optc (Uk fu p1 p p2) fun a=>cnd a (some (-1,-1)) (some (0,p)))
 |_=>none
def QjY(fu:Nat):Sig:=Qf [.st .View,.st .Schedule,.one (.num .i64)] [] [.one (.num .i64),.one (.num .i64)] [] [] (Int×Int) (fun q=>((q.1,q.2,()),())) (fun x y=>Y9 fu x.1 x.2.1 x.2.2.1)
theorem QoA{P:Program}{k:FuncId}{args:List AV}{v:AV}(h:XJ P k args [] v []){G w W:World}{ρ:Name→AM.Loc}{M:Nat→Prop}{us:List Value}(hG:AM.Ground G w (fun b=>∃n o,AM.look n ([]:List (Name×AO))=some o∧(ρ n).blk=some b))(hM:∀b,M b→b<w.heap.size)(hx:Ext (fun _=>False) w W)(ha:AV.Ts ρ (Xn []) M W args us):
  Calls P k us.toArray W fun e W'=>∃u,e=.returned u∧(∃ρ' M',v.R ρ' (Xn []) M' W' u)∧Ext (fun _=>False) W W':=by
 refine(h G ρ M W us ⟨hG.laid,Nat.le_trans hG.size hx.size,fun b hb=>(hx.same b (Nat.lt_of_lt_of_le hb hG.size) id).trans (hG.same b hb),hG.out⟩ (fun b hb=>Nat.lt_of_lt_of_le (hM b hb) hx.size) ha (fun n o hn=>by simp[AM.look]at hn) (fun n m o o' b hn=>by simp[AM.look]at hn)).mono ?_
 rintro e W' ⟨u,v',h',ρ',rfl,⟨rfl,rfl⟩,hA⟩
 exact⟨u,rfl,⟨ρ',_,hA.val⟩,hA.ext.weaken fun b _ hb=>by obtain⟨n,o,hn,_⟩:=hb;simp[AM.look]at hn⟩
theorem QhW(fu:Nat):FnOK Tryz.prog 347 (QjY fu):=by
 refine⟨fun R x y K r h=>?_,fun x y a b h L0 _=>⟨L0,fun _ _=>rfl,fun n t l v hn=>by change AM.look n []=_ at hn;simp[AM.look]at hn,?_⟩⟩
 ·obtain⟨v,s,t,⟨⟩⟩:=x
  obtain⟨q,hq,h⟩:=Yg h
  change Y9 fu v s t=some q at hq
  refine⟨(q.1,q.2,()),(),?_,h⟩
  show optc (Y9 fu v s t) (fun q=>some ((q.1,q.2,()),()))=_
  rw[hq];rfl
 ·obtain⟨v,s,t,⟨⟩⟩:=x
  obtain⟨q,hq,hab⟩:=Yg h
  change Y9 fu v s t=some q at hq
  have hab':((q.1,q.2,()),())=(a,b):=Option.some.inj hab
  obtain⟨rfl,rfl⟩:=Prod.mk.inj hab'
  unfold Y9 at hq
  split at hq
  case h_2=>simp at hq
  rename_i l hl
  obtain⟨p,hp,hq⟩:=Yg hq
  obtain⟨_,_,_,sP⟩:=(Qff fu).spec (v,l,t,()) () (p,()) () (by show optc (XK fu v l t) _=_;rw[hp];rfl) L0 (fun n t l v hn=>by change AM.look n []=_ at hn;simp[AM.look]at hn)
  have hA:0≤p→∃aw,Uk fu s p t=some aw∧q=if aw=true then(-1,-1)else(0,p):=fun h0=>by
   rw[QhJ (by omega)]at hq
   obtain⟨aw,h1,h2⟩:=Yg hq
   refine⟨aw,h1,?_⟩
   cases aw<;>simpa [cnd]using h2.symm
  obtain⟨aw,haw,hqa⟩:∃aw:Bool,(0≤p→Uk fu s p t=some aw)∧q=if p<0∨aw=true then(-1,-1)else(0,p):=by
   by_cases h0:p<0
   ·rw[Qdm h0]at hq
    exact⟨true,fun h=>by omega,by rw[if_pos (.inl h0)];exact(Option.some.inj hq).symm⟩
   ·obtain⟨aw,h1,h2⟩:=hA (by omega)
    refine⟨aw,fun _=>h1,?_⟩
    rw[h2]
    cases aw<;>simp[h0]
  intro G ρ M w us hG hM hargs _ _
  change AV.Ts ρ (Xn []) M w [.agg [.p (.sl false 3 (v.Config.Zones.map D.Zone.cells)),.p (.sl false 6 (v.Config.People.map D.Person.cells)),.p (.sl false 3 (v.Config.Calendars.map D.Calendar.cells)),.p (.sl false 3 (v.Config.Schedules.map D.Schedule.cells)),.p (.sl false 2 (v.tables.map D.Table.cells))],.agg [.p (.v (.string s.Name)),.p (.sl false 10 (s.Layers.map D.Layer.cells)),.p (.sl false 5 (s.Edits.map D.Edit.cells))],.p (.v (.int .i64 t))] us at hargs
  simp only[AV.Ts,AV.R]at hargs
  obtain⟨u1,us1,rfl,⟨cs1,rfl,r1⟩,u2,us2,rfl,⟨cs2,rfl,r2⟩,u3,us3,rfl,r3,rfl⟩:=hargs
  have r1':=r1
  have r2':=r2
  obtain⟨v1,w1,e1,x1,r1⟩:=Qn0 r1
  obtain⟨v2,w2,rfl,x2,r1⟩:=Qn0 r1
  obtain⟨v3,w3,rfl,x3,r1⟩:=Qn0 r1
  obtain⟨v4,w4,rfl,x4,r1⟩:=Qn0 r1
  obtain⟨v5,w5,rfl,x5,r1⟩:=Qn0 r1
  simp only[AV.Rs]at r1
  subst r1
  obtain⟨s1,z1,e2,y1,r2⟩:=Qn0 r2
  obtain⟨s2,z2,rfl,y2,r2⟩:=Qn0 r2
  obtain⟨s3,z3,rfl,y3,r2⟩:=Qn0 r2
  simp only[AV.Rs]at r2
  subst r2
  have e1':cs1=#[v1,v2,v3,v4,v5]:=by cases cs1;simpa using e1
  have e2':cs2=#[s1,s2,s3]:=by cases cs2;simpa using e2
  subst e1'
  subst e2'
  simp only[PV.R]at r3
  obtain⟨rfl,_⟩:=r3
  rw[hl]at y2
  have y2':=y2
  simp only[PV.R,List.map_cons,List.map_nil,List.length_cons,List.length_nil]at y2
  obtain⟨ad,cap,rfl,hcap,_,hn,hrows⟩:=y2
  cases ad with
  |none=>have:=hn rfl;omega
  |some ad=>
   obtain⟨hsp,hMb,hlt,hrow⟩:=hrows ad rfl (by omega)
   obtain⟨bb,off,sp⟩:=ad
   dsimp only at hsp hMb hlt hrow
   subst hsp
   simp only[PV.Rows]at hrow
   obtain⟨_,hc,_⟩:=hrow
   change PV.Cells M w bb off [.v (.string l.Name),.v (.int .i64 l.Zone),.v (.int .i64 l.Start.Day),.v (.int .i64 l.Start.Second),.v (.int .i64 l.Unit),.v (.int .i64 l.Every),.sl false 1 (l.Members.map D.cInt),.sl false 2 (l.Windows.map D.Window.cells),.v (.int .i64 l.Calendar),.v (.int .i64 l.Mode)]at hc
   obtain⟨l1,c1,m1,hc⟩:=QbE hc
   obtain⟨l2,c2,m2,hc⟩:=QbE hc
   obtain⟨l3,c3,m3,hc⟩:=QbE hc
   obtain⟨l4,c4,m4,hc⟩:=QbE hc
   obtain⟨l5,c5,m5,hc⟩:=QbE hc
   obtain⟨l6,c6,m6,hc⟩:=QbE hc
   obtain⟨l7,c7,m7,hc⟩:=QbE hc
   obtain⟨l8,c8,m8,hc⟩:=QbE hc
   obtain⟨l9,c9,m9,hc⟩:=QbE hc
   obtain⟨l10,c10,m10,hc⟩:=QbE hc
   have hx0:∀{W:World},Ext (fun _=>False) w W→∀{x:PV} {u:Value},x.R M w u→x.R M W u:=fun hx=>fun h=>PV.R.mono hx (fun _ h=>h.elim) (fun _ _ h=>h) h
   have key:=Qx1 3 (by omega) v1 v2 v3 v4 v5 s1 s3 bb off cap t l1 l2 l3 l4 l5 l6 l7 l8 l9 l10 w hlt c1 c2 c3 c4 c5 c6 c7 c8 c9 c10 m1.flat m2.flat m3.flat m4.flat m5.flat m6.flat m7.flat m8.flat m9.flat m10.flat p
    (fun W hx=>(QoA sP hG hM hx (us:=[.agg #[v1,v2,v3,v4,v5],.agg #[l1,l2,l3,l4,l5,l6,l7,l8,l9,l10],.int .i64 t]) (by
     change AV.Ts ρ (Xn []) M W [.agg [.p (.sl false 3 (v.Config.Zones.map D.Zone.cells)),.p (.sl false 6 (v.Config.People.map D.Person.cells)),.p (.sl false 3 (v.Config.Calendars.map D.Calendar.cells)),.p (.sl false 3 (v.Config.Schedules.map D.Schedule.cells)),.p (.sl false 2 (v.tables.map D.Table.cells))],.agg [.p (.v (.string l.Name)),.p (.v (.int .i64 l.Zone)),.p (.v (.int .i64 l.Start.Day)),.p (.v (.int .i64 l.Start.Second)),.p (.v (.int .i64 l.Unit)),.p (.v (.int .i64 l.Every)),.p (.sl false 1 (l.Members.map D.cInt)),.p (.sl false 2 (l.Windows.map D.Window.cells)),.p (.v (.int .i64 l.Calendar)),.p (.v (.int .i64 l.Mode))],.p (.v (.int .i64 t))] _
     simp only[AV.Ts,AV.R]
     exact⟨_,_,rfl,⟨_,rfl,V6 (hx0 hx x1) (V6 (hx0 hx x2) (V6 (hx0 hx x3) (V6 (hx0 hx x4) (V6 (hx0 hx x5) (by simp only[AV.Rs])))))⟩,_,_,rfl,⟨_,rfl,V6 (hx0 hx m1) (V6 (hx0 hx m2) (V6 (hx0 hx m3) (V6 (hx0 hx m4) (V6 (hx0 hx m5) (V6 (hx0 hx m6) (V6 (hx0 hx m7) (V6 (hx0 hx m8) (V6 (hx0 hx m9) (V6 (hx0 hx m10) (by simp only[AV.Rs]))))))))))⟩,_,_,rfl,by simp only[PV.R];exact⟨trivial,rfl⟩,rfl⟩)).mono (by
      rintro e W' ⟨u,rfl,⟨ρ',M',hu⟩,hx'⟩
      change PV.R M' W' (.v (.int .i64 p)) u at hu
      simp only[PV.R]at hu
      exact⟨by rw[hu.1],hx'⟩))
    aw (fun h0 W hx=>by
     obtain⟨_,_,_,sA⟩:=(QmK fu).spec (s,p,t,()) () (aw,()) () (by show optc (Uk fu s p t) _=_;rw[haw h0];rfl) L0 (fun n t l v hn=>by change AM.look n []=_ at hn;simp[AM.look]at hn)
     refine(QoA sA hG hM hx (us:=[.agg #[s1,.slice (some ⟨bb,off,none⟩) 1 cap,s3],.int .i64 p,.int .i64 t]) (by
      change AV.Ts ρ (Xn []) M W [.agg [.p (.v (.string s.Name)),.p (.sl false 10 (s.Layers.map D.Layer.cells)),.p (.sl false 5 (s.Edits.map D.Edit.cells))],.p (.v (.int .i64 p)),.p (.v (.int .i64 t))] _
      simp only[AV.Ts,AV.R]
      exact⟨_,_,rfl,⟨_,rfl,V6 (hx0 hx y1) (V6 (by rw[hl];exact hx0 hx y2') (V6 (hx0 hx y3) (by simp only[AV.Rs])))⟩,_,_,rfl,by simp only[PV.R];exact⟨trivial,rfl⟩,_,_,rfl,by simp only[PV.R];exact⟨trivial,rfl⟩,rfl⟩)).mono ?_
     rintro e W' ⟨u,rfl,⟨ρ',M',hu⟩,hx'⟩
     change PV.R M' W' (.v (.bool aw)) u at hu
     simp only[PV.R]at hu
     exact⟨by rw[hu.1],hx'⟩)
   refine(callsIn_wide.1 key).mono ?_
   rintro e w' ⟨rfl,hx⟩
   refine⟨_,_,[],ρ,rfl,⟨rfl,rfl⟩,?_,fun n o hn=>?_,fun n m o o' b hn=>?_,fun n o b hn=>?_,hx.weaken fun b _ hb=>hb.elim,fun n o hn=>?_⟩
   case refine_2=>change AM.look n []=_ at hn;simp[AM.look]at hn
   case refine_3=>change AM.look n []=_ at hn;simp[AM.look]at hn
   case refine_4=>change AM.look n []=_ at hn;simp[AM.look]at hn
   case refine_5=>change AM.look n []=_ at hn;simp[AM.look]at hn
   show AV.R ρ (Xn []) _ w' (.tup [.p (.v (.int .i64 q.1)),.p (.v (.int .i64 q.2))]) _
   simp only[AV.R,AV.Ts,PV.R]
   refine⟨_,rfl,_,_,rfl,⟨?_,rfl⟩,_,_,rfl,⟨?_,rfl⟩,rfl⟩
   ·rw[hqa];split<;>rfl
   ·rw[hqa];split<;>rfl
end
end
/-
  What functions do, reckoned from their code, and their contracts. Printed by wip/gen/brun.py.
-/
open Go AM IntKind
noncomputable section
variable (u:Nat)
def Qfn(u:Nat)(a:Int):Option Bool:=cd (97≤a) (cd (a≤122) sT sF) sF
theorem Qkh:FO 177 (sB [.one (.num .u8)] fun x=>Qfn u x.1):=fI u .go kz0 eN Tryz.func177
def Qjj(u:Nat)(a:Int):Option Bool:=cd (48≤a) (cd (a≤57) sT sF) sF
theorem Qkg:FO 178 (sB [.one (.num .u8)] fun x=>Qjj u x.1):=fI u .go kz0 eN Tryz.func178
def Qas(c:ByteArray):Option Bool:=join (Y:=((ByteArray×Unit)×Unit)) (fun((i,_),_)=>Qh (X:=((ByteArray×Int×Int×Unit)×Unit)) (fun n ((a,e,b,_),_)=>cd (b<e) (join (Y:=((ByteArray×Int×Int×Unit)×Unit)) (fun((o,p,q,_),_)=>n ((o,p,(wrap .i64 (q+1)),()),())) fun g=>natc b fun f=>ltc f (ByteArray.size a) (optc (Qfn u (((bAt a f):Nat):Int)) fun j=>cnd j (g ((a,e,b,()),())) (optc (Qjj u (((bAt a f):Nat):Int)) fun k=>cnd k (g ((a,e,b,()),())) (cd ((((bAt a f):Nat):Int)≠95) (cd ((((bAt a f):Nat):Int)≠45) sF (g ((a,e,b,()),()))) (g ((a,e,b,()),())))))) sT) u ((i,(((ByteArray.size i):Nat):Int),0,()),())) fun l=>cd (c=(ByteArray.mk (List.toArray []))) sF (cd (24<(((ByteArray.size c):Nat):Int)) sF (natc 0 fun h=>ltc h (ByteArray.size c) (optc (Qfn u (((bAt c h):Nat):Int)) fun m=>cnd m (l ((c,()),())) sF)))
theorem Qcv:FO 105 (sB [.one .str] fun x=>Qas u x.1):=fI u (.two .go (.two (.join [(0,.one .str)] [] .go) (lp [(0,.one .str),ni 19,ni 20] [] (gs 2 (.two (.join [(0,.one .str),ni 19,ni 20] [] .go) .go))))) kz0 (eC (Qkh u) (eC (Qkg u) eN)) Tryz.func105
def Y2(b:ByteArray)(a:List (ByteArray×Bool)):Option (Int×List (ByteArray×Bool)):=optc (Qas u b) fun c=>cnd (!c) (some (2,a)) (cnd (memB b a) (some (4,a)) (chk (cntB b a) 0 (some (0,(a++[(b,true)])))))
theorem Wm:FO 167 (Qf [.one .str,.one (.mref 101)] [(101,.sm)] [nI] [(101,.sm)] [] (Int×List (ByteArray×Bool)) kz17 (fun x y=>Y2 u x.1 y.1)):=fI u .go kz19 (eC (Qcv u) eN) Tryz.func167
def Yc(u:Nat)(a:Int)(b:Int):Option Bool:=cd (0≤a) (cd (a<b) sT sF) sF
theorem XM:FO 237 (sB [nI,nI] fun x=>Yc u x.1 x.2.1):=fI u .go kz0 eN Tryz.func237
def Qcm(c:List D.Window):Option Int:=cd (14<(c.length:Int)) (some 5) (Qh (X:=((List D.Window×List D.Window×Int×Int×Unit)×Unit)) (fun j ((e,f,g,b,_),_)=>cd (b<g) (join (Y:=((List D.Window×List D.Window×Int×Int×Unit)×Unit)) (fun((k,l,m,n,_),_)=>j ((k,l,m,(wrap .i64 (n+1)),()),())) fun h=>atc f b fun a=>cd (a.From<0) (some 1) (cd (a.To≤a.From) (some 1) (cd (604800<a.To) (some 1) (cd (0<b) (atc e (wrap .i64 (b - 1)) fun i=>cd (a.From<i.To) (some 6) (h ((e,f,g,b,()),()))) (h ((e,f,g,b,()),())))))) (some 0)) u ((c,c,(c.length:Int),0,()),()))
theorem QgA:FO 238 (sI [.one (.lst .Window)] fun x=>Qcm u x.1):=fI u (gs 2 (lp [li 0 .Window,li 8 .Window,ni 9,ni 10] [] (gs 2 (.two (.join [li 0 .Window,li 8 .Window,ni 9,ni 10] [] .go) .go)))) kz0 eN Tryz.func238
def Vn(u:Nat)(a:Int)(b:Int)(c:Int):Option Bool:=cd (b≤a) (cd (a≤c) sT sF) sF
theorem QcL:FO 269 (sB [nI,nI,nI] fun x=>Vn u x.1 x.2.1 x.2.2.1):=fI u .go kz0 eN Tryz.func269
def Qao(a:Int):Option Bool:=optc (Vn u a 0 604800) fun b=>cnd b (nzc 3600 (cd ((Int.tmod a 3600)=0) sT sF)) sF
theorem QhV:FO 239 (sB [nI] fun x=>Qao u x.1):=fI u .go kz0 (eC (QcL u) eN) Tryz.func239
def XD(b:D.Config)(a:D.Person):Option Int:=join (Y:=(Unit×Unit)) (fun(_,_)=>some 0) fun c=>optc (Yc u a.Zone (b.Zones.length:Int)) fun e=>cnd (!e) (some 3) (optc (Qcm u a.Quiet) fun f=>cd (f≠0) (some 8) (optc (Qao u a.MaxWeek) fun g=>cnd g (optc (Qao u a.MinRest) fun h=>cnd h (c ((),())) (some 1)) (some 1)))
theorem Qc6:FO 168 (sI [.st .Config,.st .Person] fun x=>XD u x.1 x.2.1):=fI u (.two .go (.two (.join [] [] .go) .go)) kz0 (eC (XM u) (eC (QgA u) (eC (QhV u) eN))) Tryz.func168
def QdT(u:Nat)(a:D.Zone):Option ByteArray:=some a.Name
theorem Qgs:FO 165 (Qf [.st .Zone] [] [.one .str] [] [] ByteArray kz1 (fun x y=>QdT u x.1)):=fI u .go kz0 eN Tryz.func165
def QbM(u:Nat)(a:Int)(b:Int)(c:Int):Option Bool:=cd (b≤a) (cd (a≤c) sT sF) sF
theorem Qhk:FO 283 (sB [nI,nI,nI] fun x=>QbM u x.1 x.2.1 x.2.2.1):=fI u .go kz0 eN Tryz.func283
def QoR(a:D.YearRule):Option Int:=join (Y:=(Unit×Unit)) (fun(_,_)=>some 0) fun b=>optc (QbM u a.From 1970 2240) fun c=>cnd c (optc (QbM u a.To a.From 2240) fun e=>cnd e (optc (QbM u a.Month 1 12) fun f=>cnd f (optc (QbM u a.Week 1 5) fun g=>cnd g (optc (QbM u a.Weekday 0 6) fun h=>cnd h (optc (QbM u a.Second 0 86399) fun i=>cnd i (optc (QbM u a.Offset (-64800) 64800) fun j=>cnd j (b ((),())) (some 1)) (some 1)) (some 1)) (some 1)) (some 1)) (some 1)) (some 1)
theorem QoS:FO 297 (sI [.st .YearRule] fun x=>QoR u x.1):=fI u (.two .go (.two (.join [] [] .go) .go)) kz0 (eC (Qhk u) eN) Tryz.func297
def QkI(u:Nat)(a:Int):Option Bool:=nzc 4 (cd ((Int.tmod a 4)=0) (nzc 100 (cd ((Int.tmod a 100)≠0) sT (nzc 400 (cd ((Int.tmod a 400)=0) sT sF)))) sF)
theorem Qlw:FO 302 (sB [nI] fun x=>QkI u x.1):=fI u .go kz0 eN Tryz.func302
def Qar(m:Int)(c:Int):Option Int:=join (Y:=((Int×Int×Unit)×Unit)) (fun((n,e,_),_)=>join (Y:=((Int×Unit)×P12×Unit)) (fun((a,_),(o,p,q,r,s,t,v,f,g,h,i,j,_),_)=>cd ((wrap .i64 (a - 1))=((0:Nat):Int)) (some o) (cd ((wrap .i64 (a - 1))=(((0+1):Nat):Int)) (some p) (cd ((wrap .i64 (a - 1))=((((0+1)+1):Nat):Int)) (some q) (cd ((wrap .i64 (a - 1))=(((((0+1)+1)+1):Nat):Int)) (some r) (cd ((wrap .i64 (a - 1))=((((((0+1)+1)+1)+1):Nat):Int)) (some s) (cd ((wrap .i64 (a - 1))=(((((((0+1)+1)+1)+1)+1):Nat):Int)) (some t) (cd ((wrap .i64 (a - 1))=((((((((0+1)+1)+1)+1)+1)+1):Nat):Int)) (some v) (cd ((wrap .i64 (a - 1))=(((((((((0+1)+1)+1)+1)+1)+1)+1):Nat):Int)) (some f) (cd ((wrap .i64 (a - 1))=((((((((((0+1)+1)+1)+1)+1)+1)+1)+1):Nat):Int)) (some g) (cd ((wrap .i64 (a - 1))=(((((((((((0+1)+1)+1)+1)+1)+1)+1)+1)+1):Nat):Int)) (some h) (cd ((wrap .i64 (a - 1))=((((((((((((0+1)+1)+1)+1)+1)+1)+1)+1)+1)+1):Nat):Int)) (some i) (cd ((wrap .i64 (a - 1))=(((((((((((((0+1)+1)+1)+1)+1)+1)+1)+1)+1)+1)+1):Nat):Int)) (some j) none)))))))))))) fun b=>cd (e=2) (optc (QkI u n) fun k=>cnd k (some 29) (b ((e,()),(31,28,31,30,31,30,31,31,30,31,30,31,()),()))) (b ((e,()),(31,28,31,30,31,30,31,31,30,31,30,31,()),()))) fun l=>cd (c<1) (some 0) (cd (12<c) (some 0) (l ((m,c,()),())))
theorem U6:FO 286 (sI [nI,nI] fun x=>Qar u x.1 x.2.1):=fI u (.two .go (.two (.join [ni 0,ni 1] [] .go) (.two .go (.two (.join [ni 1,rf 5] [(1005,.box [kI,kI,kI,kI,kI,kI,kI,kI,kI,kI,kI,kI])] .go) .go)))) kz0 (eC (Qlw u) eN) Tryz.func286
def QiK(a:D.Date):Option Bool:=cd (1970≤a.Year) (cd (a.Year≤2240) (cd (1≤a.Day) (optc (Qar u a.Year a.Month) fun b=>cd (a.Day≤b) sT sF) sF) sF) sF
theorem Qkd:FO 317 (sB [.st .Date] fun x=>QiK u x.1):=fI u .go kz0 (eC (U6 u) eN) Tryz.func317
def QaG(u:Nat)(b:Int)(a:Int):Option Int:=nzc a (join (Y:=((Int×Unit)×Unit)) (fun((e,_),_)=>some e) fun c=>nzc a (cd ((Int.tmod b a)<0) (c (((wrap .i64 ((wrap .i64 (Int.tdiv b a)) - 1)),()),())) (c (((wrap .i64 (Int.tdiv b a)),()),()))))
theorem QeU:FO 301 (sI [nI,nI] fun x=>QaG u x.1 x.2.1):=fI u (gs 2 (.two (.join [ni 5] [] .go) .go)) kz0 eN Tryz.func301
def Ub(a:Int):Option Int:=optc (QaG u (wrap .i64 (a - 1)) 4) fun b=>optc (QaG u (wrap .i64 (a - 1)) 100) fun c=>optc (QaG u (wrap .i64 (a - 1)) 400) fun e=>some (wrap .i64 ((wrap .i64 ((wrap .i64 ((wrap .i64 ((wrap .i64 (365*(wrap .i64 (a - 1970))))+b)) - c))+e)) - 477))
theorem QbF:FO 284 (sI [nI] fun x=>Ub u x.1):=fI u .go kz0 (eC (QeU u) eN) Tryz.func284
def Qhq(a:D.Date):Option Int:=optc (Ub u a.Year) fun f=>Qh (X:=((Int×Int×Unit)×D.Date×Unit)) (fun g ((e,b,_),c,_)=>cd (b<c.Month) (optc (Qar u c.Year b) fun h=>g (((wrap .i64 (e+h)),(wrap .i64 (b+1)),()),c,())) (some e)) u (((wrap .i64 ((wrap .i64 (f+a.Day)) - 1)),1,()),a,())
theorem QiL:FO 318 (sI [.st .Date] fun x=>Qhq u x.1):=fI u (gs 2 (lp [rf 1,ni 3,ni 4] [bx 1001 .Date] .go)) kz0 (eC (QbF u) (eC (U6 u) eN)) Tryz.func318
def Qnd(b:Int)(c:Int)(e:Int)(f:Int):Option (Int×Int):=join (Y:=(P4×D.Date×Unit)) (fun((m,n,g,h,_),o,_)=>optc (Qhq u o) fun a=>optc (U7 u a) fun i=>nzc 7 (join (Y:=((Int×Unit)×Unit)) (fun((p,_),_)=>some (p,0)) fun j=>optc (Qar u m n) fun q=>cd ((wrap .i64 (a+q))≤(wrap .i64 ((wrap .i64 (a+(Int.tmod (wrap .i64 ((wrap .i64 (h - i))+7)) 7)))+(wrap .i64 (7*(wrap .i64 (g - 1))))))) (j (((wrap .i64 ((wrap .i64 ((wrap .i64 (a+(Int.tmod (wrap .i64 ((wrap .i64 (h - i))+7)) 7)))+(wrap .i64 (7*(wrap .i64 (g - 1)))))) - 7)),()),())) (j (((wrap .i64 ((wrap .i64 (a+(Int.tmod (wrap .i64 ((wrap .i64 (h - i))+7)) 7)))+(wrap .i64 (7*(wrap .i64 (g - 1)))))),()),())))) fun k=>optc (QiK u (D.Date.mk b c 1)) fun l=>cnd l (cd (e<1) (some (0,1)) (cd (5<e) (some (0,1)) (cd (f<0) (some (0,1)) (cd (6<f) (some (0,1)) (k ((b,c,e,f,()),(D.Date.mk b c 1),())))))) (some (0,1))
theorem Qne:FO 298 (Qf [nI,nI,nI,nI] [] [nI,nI] [] [] (Int×Int) kz3 (fun x y=>Qnd u x.1 x.2.1 x.2.2.1 x.2.2.2.1)):=fI u (gs 2 (.two (.join [ni 0,ni 1,ni 2,ni 3,rf 10] [bx 1010 .Date] .go) (gs 2 (.two (.join [ni 12] [] .go) .go)))) kz4 (eC (U6 u) (eC (Qkd u) (eC (QiL u) (eC (QcV u) eN)))) Tryz.func298
def QbC(u:Nat)(a:D.occurrence)(b:D.occurrence):Option Int:=some (wrap .i64 (a.local_ - b.local_))
theorem Qd8:FO 300 (sI [.st .occurrence,.st .occurrence] fun x=>QbC u x.1 x.2.1):=fI u .go kz0 eN Tryz.func300
def Qw(G:List D.occurrence)(q:Int)(H:Int):Option (List D.occurrence):=Qh (X:=(P3×List D.occurrence×Unit)) (fun I ((J,r,p,_),s,_)=>cd (p<r) (join (Y:=(P3×List D.occurrence×Unit)) (fun((L,O,S,_),W,_)=>I ((L,O,(wrap .i64 (S+1)),()),W,())) fun t=>Qh (X:=(P4×List D.occurrence×Unit)) (fun v ((f,h,i,g,_),b,_)=>join (Y:=(P4×List D.occurrence×Unit)) (fun((w,y,z,c,_),a,_)=>natc (wrap .i64 (c - 1)) fun l=>ltc l a.length (optc a[l]? fun j=>natc c fun m=>ltc m a.length (optc a[m]? fun A=>natc c fun e=>ltc e a.length (optc a[e]? fun Z=>natc (wrap .i64 (c - 1)) fun k=>ltc k (List.set a e j).length (optc (GetElem?.getElem? (List.set a e j) k) fun a0=>v ((w,y,z,(wrap .i64 (c - 1)),()),(List.set (List.set a e j) k A),())))))) fun B=>cd (f<g) (natc g fun n=>ltc n b.length (optc b[n]? fun C=>natc (wrap .i64 (g - 1)) fun o=>ltc o b.length (optc b[o]? fun E=>optc (QbC u C E) fun F=>cd (F<0) (B ((f,h,i,g,()),b,())) (t ((f,h,i,()),b,()))))) (t ((f,h,i,()),b,()))) u ((J,r,p,p,()),s,())) (some s)) u ((q,H,(wrap .i64 (q+1)),()),G,())
theorem ZN:FO 331 (Qf [.one (.own 101),nI,nI,.one (.fv 300)] [ar 101 .occurrence] [] [(101,.arrs .occurrence)] [] (List D.occurrence) kz8 (fun x y=>Qw u y.1 x.1 x.2.1)):=fI u (.two .go (.one (.loop [(0,.one (.own 101)),ni 1,ni 2,(3,.one (.fv 300)),ni 8] [ar 101 .occurrence] (.two .go (.two (.join [(0,.one (.own 101)),ni 1,ni 2,(3,.one (.fv 300)),ni 8] [ar 101 .occurrence] (.one (.two .go (.one (.loop [(0,.one (.own 101)),ni 1,ni 2,(3,.one (.fv 300)),ni 8,ni 9] [ar 101 .occurrence] (.two (.join [(0,.one (.own 101)),ni 1,ni 2,(3,.one (.fv 300)),ni 8,ni 9] [ar 101 .occurrence] .go) .go)))))) .go))))) kz12 (eC (Qd8 u) eN) Tryz.func331
def Za(q:List D.occurrence)(r:Int):Option (List D.occurrence):=Qh (X:=(P4×List D.occurrence×Unit)) (fun s ((c,i,j,e,_),f,_)=>cd (e≤c) (optc (Qw u f j e) fun k=>chk k.length f.length (s ((c,i,e,(wrap .i64 (e+i)),()),k,()))) (optc (Qw u f j c) fun l=>chk l.length f.length (Qh (X:=((Int×Int×Unit)×List D.occurrence×Unit)) (fun t ((m,a,_),g,_)=>cd (a<m) (Qh (X:=(P4×List D.occurrence×Unit)) (fun v ((b,h,n,o,_),p,_)=>cd (o≤b) none (cd ((wrap .i64 (n+h))<b) none (t ((b,(wrap .i64 (h*2)),()),p,())))) u ((m,a,0,(wrap .i64 (2*a)),()),g,())) (some g)) u ((c,i,()),l,())))) u ((r,20,0,20,()),q,())
theorem Yk:FO 320 (Qf [.one (.own 101),nI,.one (.fv 300)] [ar 101 .occurrence] [] [(101,.arrs .occurrence)] [] (List D.occurrence) kz8 (fun x y=>Za u y.1 x.1)):=fI u (gs 2 (.two (.one (.loop [(0,.one (.own 101)),ni 1,(2,.one (.fv 300)),ni 6,ni 7,ni 8] [ar 101 .occurrence] .go)) (.two .go (.one (.loop [(0,.one (.own 101)),ni 1,(2,.one (.fv 300)),ni 6] [ar 101 .occurrence] (.two .go (.one (.two .go (.two (.one (.loop [(0,.one (.own 101)),ni 1,(2,.one (.fv 300)),ni 6,ni 7,ni 8] [ar 101 .occurrence] .go)) .go))))))))) kz12 (eC (ZN u) eN) Tryz.func320
def Q6(a:List D.occurrence):Option (List D.occurrence):=optc (Za u a (a.length:Int)) fun b=>chk b.length a.length (some b)
theorem Yd:FO 299 (Qf [.one (.own 101),.one (.fv 300)] [ar 101 .occurrence] [] [(101,.arrs .occurrence)] [] (List D.occurrence) kz8 (fun x y=>Q6 u y.1)):=fI u .go kz12 (eC (Yk u) eN) Tryz.func299
def Qc2(b:D.Zone):Option (List D.occurrence×Int):=optc (QbM u b.Offset (-64800) 64800) fun z=>cnd (!z) (some ([],1)) (cd (16<(b.Rules.length:Int)) (some ([],5)) (Qh (X:=((Int×List D.YearRule×Int×Int×Unit)×D.Zone×Unit)) (fun A ((s,t,v,p,_),q,_)=>cd (p<v) (atc t p fun r=>optc (QoR u r) fun w=>cd (w≠0) (some ([],w)) (A (((wrap .i64 (s+(wrap .i64 ((wrap .i64 (r.To - r.From))+1)))),t,v,(wrap .i64 (p+1)),()),q,()))) (cd (640<s) (some ([],5)) (Qh (X:=((List D.YearRule×Int×Int×Unit)×List D.occurrence×Unit)) (fun B ((h,i,c,_),e,_)=>cd (c<i) (atc h c fun j=>Qh (X:=((Int×List D.YearRule×Int×Int×Unit)×D.YearRule×List D.occurrence×Unit)) (fun y ((f,k,l,m,_),a,g,_)=>cd (f≤a.To) (optc (Qnd u f a.Month a.Week a.Weekday) fun(n,C)=>lec (g.length+[(D.occurrence.mk (wrap .i64 ((wrap .i64 (n*86400))+a.Second)) a.Offset)].length) 34359738368 (y (((wrap .i64 (f+1)),k,l,m,()),a,(g++[(D.occurrence.mk (wrap .i64 ((wrap .i64 (n*86400))+a.Second)) a.Offset)]),()))) (B ((k,l,(wrap .i64 (m+1)),()),g,()))) u ((j.From,h,i,c,()),j,e,())) (optc (Q6 u e) fun o=>chk o.length e.length (some (o,0)))) u ((q.Rules,(q.Rules.length:Int),0,()),[],())))) u ((0,b.Rules,(b.Rules.length:Int),0,()),b,())))
theorem QfQ:FO 282 (Qf [.st .Zone] [] [.one (.lst .occurrence),nI] [] [] (List D.occurrence×Int) kz3 (fun x y=>Qc2 u x.1)):=fI u (gs 4 (.two (.two .go (.one (.loop [rf 1,ni 4,li 23 .YearRule,ni 24,ni 25] [bx 1001 .Zone] .go))) (gs 2 (lp [(8,.one (.own 1081)),li 46 .YearRule,ni 47,ni 48] [ar 1081 .occurrence] (gs 2 (.two (.one (gs 2 (.one (.loop [(8,.one (.own 1081)),rf 10,ni 11,li 46 .YearRule,ni 47,ni 48] [bx 1010 .YearRule,ar 1081 .occurrence] .go)))) .go)))))) kz4 (eC (Qhk u) (eC (QoS u) (eC (Qne u) (eC (Yd u) eN)))) Tryz.func282
def UY(n:D.Zone):Option (List D.Transition×Int):=optc (Qc2 u n) fun(o,p)=>cd (p≠0) (some ([],p)) (Qh (X:=((Int×List D.occurrence×Int×Int×Unit)×List D.Transition×Unit)) (fun A ((b,g,h,e,_),c,_)=>cd (e<h) (join (Y:=((Int×List D.occurrence×Int×Int×Unit)×List D.Transition×Unit)) (fun((B,C,q,r,_),s,_)=>A ((B,C,q,(wrap .i64 (r+1)),()),s,())) fun i=>atc g e fun a=>cd (a.offset=b) (i ((b,g,h,e,()),c,())) (join (Y:=((Int×List D.occurrence×Int×Int×Unit)×D.occurrence×List D.Transition×Unit)) (fun((j,t,v,w,_),f,k,_)=>lec (k.length+[(D.Transition.mk j f.offset)].length) 34359738368 (i ((f.offset,t,v,w,()),(k++[(D.Transition.mk j f.offset)]),()))) fun l=>cd (86400≤(wrap .i64 (a.offset - b))) (some ([],6)) (cd ((wrap .i64 (a.offset - b))≤(-86400)) (some ([],6)) (optc (QbM u (wrap .i64 (a.local_ - b)) 0 8589934592) fun y=>cnd y (cd (0<(c.length:Int)) (natc (wrap .i64 ((c.length:Int) - 1)) fun m=>ltc m c.length (optc c[m]? fun z=>cd ((wrap .i64 (a.local_ - b))<(wrap .i64 (z.At+604800))) (some ([],6)) (l (((wrap .i64 (a.local_ - b)),g,h,e,()),a,c,())))) (l (((wrap .i64 (a.local_ - b)),g,h,e,()),a,c,()))) (some ([],6)))))) (some (c,0))) u ((n.Offset,o,(o.length:Int),0,()),[],()))
theorem Qa2:FO 267 (Qf [.st .Zone] [] [.one (.lst .Transition),nI] [] [] (List D.Transition×Int) kz3 (fun x y=>UY u x.1)):=fI u (gs 5 (lp [(6,.one (.own 1074)),ni 7,li 22 .occurrence,ni 23,ni 24] [ar 1074 .Transition] (gs 2 (.two (.join [(6,.one (.own 1074)),ni 7,li 22 .occurrence,ni 23,ni 24] [ar 1074 .Transition] (.one (gs 3 (.two (.join [(6,.one (.own 1074)),rf 9,ni 10,li 22 .occurrence,ni 23,ni 24] [bx 1009 .occurrence,ar 1074 .Transition] .go) .go)))) .go)))) kz4 (eC (QfQ u) (eC (Qhk u) eN)) Tryz.func267
def Qlh(a:D.Zone):Option Int:=optc (UY u a) fun(c,b)=>some b
theorem QmR:FO 234 (sI [.st .Zone] fun x=>Qlh u x.1):=fI u .go kz0 (eC (Qa2 u) eN) Tryz.func234
def QaW(u:Nat)(a:D.YearRule):Option Bool:=nzc 60 (some (decide ((Int.tmod a.Offset 60)≠0)))
theorem Qc7:FO 236 (sB [.st .YearRule] fun x=>QaW u x.1):=fI u .go kz0 eN Tryz.func236
def ZA(b:List D.YearRule):Option Int:=Qh (X:=((List D.YearRule×Int×Int×Unit)×Unit)) (fun f ((c,e,a,_),_)=>cd (a<e) (atc c a fun g=>optc (QaW u g) fun h=>cnd h (some a) (f ((c,e,(wrap .i64 (a+1)),()),()))) (some (-1))) u ((b,(b.length:Int),0,()),())
theorem YT:FO 268 (sI [.one (.lst .YearRule),.one (.fv 236)] fun x=>ZA u x.1):=fI u (.two .go (lp [li 0 .YearRule,(1,.one (.fv 236)),ni 7,ni 8] [] .go)) kz0 (eC (Qc7 u) eN) Tryz.func268
def Zm(a:List D.YearRule):Option Bool:=optc (ZA u a) fun b=>some (decide (0≤b))
theorem YC:FO 235 (sB [.one (.lst .YearRule),.one (.fv 236)] fun x=>Zm u x.1):=fI u .go kz0 (eC (YT u) eN) Tryz.func235
def Qcb(a:D.Zone):Option Int:=join (Y:=(Unit×Unit)) (fun(_,_)=>some 0) fun b=>optc (Qlh u a) fun c=>cd (c≠0) (some 8) (nzc 60 (cd ((Int.tmod a.Offset 60)≠0) (some 8) (optc (Zm u a.Rules) fun e=>cnd e (some 8) (b ((),())))))
theorem QeN:FO 166 (sI [.st .Zone] fun x=>Qcb u x.1):=fI u (.two .go (.two (.join [] [] .go) .go)) kz0 (eC (QmR u) (eC (YC u) eN)) Tryz.func166
def QD(b:List D.Zone):Option Int:=Qh (X:=((List D.Zone×Int×Int×Unit)×List ((ByteArray×Bool))×Unit)) (fun i ((c,e,a,_),j,_)=>cd (a<e) (atc c a fun f=>optc (QdT u f) fun k=>optc (Y2 u k j) fun(g,l)=>cd (g≠0) (some g) (optc (Qcb u f) fun h=>cd (h≠0) (some h) (i ((c,e,(wrap .i64 (a+1)),()),l,())))) (some 0)) u ((b,(b.length:Int),0,()),[],())
theorem Z6:FO 164 (sI [.one (.lst .Zone),.one (.fv 165),.one (.fv 166)] fun x=>QD u x.1):=fI u (gs 2 (lp [(1,.one (.fv 165)),(2,.one (.fv 166)),(7,.one (.mref 1012)),li 13 .Zone,ni 14,ni 15] [(1012,.sm)] .go)) kz0 (eC (Qgs u) (eC (QeN u) (eC (Wm u) eN))) Tryz.func164
def QdU(u:Nat)(a:D.Calendar):Option ByteArray:=some a.Name
theorem Qgt:FO 170 (Qf [.st .Calendar] [] [.one .str] [] [] ByteArray kz1 (fun x y=>QdU u x.1)):=fI u .go kz0 eN Tryz.func170
def QkJ(b:Int):Option Int:=optc (QaG u b 366) fun e=>Qh (X:=((Int×Int×Unit)×Unit)) (fun f ((c,a,_),_)=>optc (Ub u (wrap .i64 (a+1))) fun g=>cd (g≤c) (f ((c,(wrap .i64 (a+1)),()),())) (some a)) u ((b,(wrap .i64 (1970+e)),()),())
theorem Qlx:FO 285 (sI [nI] fun x=>QkJ u x.1):=fI u (gs 2 (.two (.one (.loop [ni 0,ni 3] [] .go)) .go)) kz0 (eC (QbF u) (eC (QeU u) eN)) Tryz.func285
def Qhp(b:Int):Option (D.Date×Int):=join (Y:=((Int×Unit)×D.Date×Unit)) (fun((e,_),j,_)=>optc (QkJ u e) fun f=>optc (Ub u f) fun k=>Qh (X:=((Int×Unit)×D.Date×D.Date×Unit)) (fun l ((c,_),m,a,_)=>optc (Qar u a.Year a.Month) fun n=>cd (n≤c) (optc (Qar u a.Year a.Month) fun o=>l (((wrap .i64 (c - o)),()),m,(D.Date.mk a.Year (wrap .i64 (a.Month+1)) a.Day),())) (some ((D.Date.mk a.Year a.Month (wrap .i64 (c+1))),0))) u (((wrap .i64 (e - k)),()),j,(D.Date.mk f 1 0),())) fun g=>optc (Ub u 1970) fun h=>cd (b<h) (some ((D.Date.mk 0 0 0),1)) (optc (Ub u 2241) fun i=>cd (i≤b) (some ((D.Date.mk 0 0 0),1)) (g ((b,()),(D.Date.mk 0 0 0),())))
theorem QiJ:FO 271 (Qf [nI] [] [.st .Date,nI] [] [] (D.Date×Int) kz3 (fun x y=>Qhp u x.1)):=fI u (.two .go (.two (.join [ni 0,rf 2] [bx 1002 .Date] .go) (gs 2 (.two (.one (.loop [rf 2,rf 4,ni 5] [bx 1002 .Date,bx 1004 .Date] .go)) .go)))) kz4 (eC (QbF u) (eC (Qlx u) (eC (U6 u) eN))) Tryz.func271
def Xc(a:Int):Option Bool:=optc (Qhp u a) fun(c,b)=>some (decide (b=0))
theorem QbK:FO 242 (sB [nI] fun x=>Xc u x.1):=fI u .go kz0 (eC (QiJ u) eN) Tryz.func242
def VT(a:Int):Option Bool:=optc (Xc u a) fun b=>some (!b)
theorem Qa8:FO 241 (sB [nI] fun x=>VT u x.1):=fI u .go kz0 (eC (QbK u) eN) Tryz.func241
def ZH(b:List Int):Option Int:=Qh (X:=((List Int×Int×Int×Unit)×Unit)) (fun f ((c,e,a,_),_)=>cd (a<e) (atc c a fun g=>optc (VT u g) fun h=>cnd h (some a) (f ((c,e,(wrap .i64 (a+1)),()),()))) (some (-1))) u ((b,(b.length:Int),0,()),())
theorem YW:FO 270 (sI [lI,.one (.fv 241)] fun x=>ZH u x.1):=fI u (.two .go (lp [(0,lI),(1,.one (.fv 241)),ni 7,ni 8] [] .go)) kz0 (eC (Qa8 u) eN) Tryz.func270
def Zu(a:List Int):Option Bool:=optc (ZH u a) fun b=>some (decide (0≤b))
theorem YH:FO 240 (sB [lI,.one (.fv 241)] fun x=>Zu u x.1):=fI u .go kz0 (eC (YW u) eN) Tryz.func240
def UK(i:D.Config)(b:D.Calendar):Option Int:=optc (Yc u b.Zone (i.Zones.length:Int)) fun j=>cnd (!j) (some 3) (cd (64<(b.Days.length:Int)) (some 5) (optc (Zu u b.Days) fun k=>cnd k (some 1) (Qh (X:=((Int×Int×Unit)×D.Calendar×Unit)) (fun l ((e,a,_),c,_)=>cd (a<e) (join (Y:=((Int×Int×Unit)×D.Calendar×Unit)) (fun((m,n,_),o,_)=>l ((m,(wrap .i64 (n+1)),()),o,())) fun f=>cd (0<a) (atc c.Days a fun g=>atc c.Days (wrap .i64 (a - 1)) fun h=>cd (g≤h) (some 6) (f ((e,a,()),c,()))) (f ((e,a,()),c,()))) (some 0)) u (((b.Days.length:Int),0,()),b,()))))
theorem Qb9:FO 172 (sI [.st .Config,.st .Calendar] fun x=>UK u x.1 x.2.1):=fI u (gs 2 (lp [rf 3,ni 25,ni 26] [bx 1003 .Calendar] (gs 2 (.two (.join [rf 3,ni 25,ni 26] [bx 1003 .Calendar] .go) .go)))) kz0 (eC (XM u) (eC (YH u) eN)) Tryz.func172
def QdV(b:D.Calendar)(a:D.Config):Option Int:=optc (UK u a b) fun c=>sameC a a (some c)
theorem Qgu:FO 171 (Qf [.st .Calendar,.one (.ref 101)] [bx 101 .Config] [nI] [] [101] Int kz1 (fun x y=>QdV u x.1 y.1)):=fI u .go kz0 (eC (Qb9 u) eN) Tryz.func171
def Qp(e:List D.Calendar)(c101:D.Config):Option Int:=Qh (X:=((List D.Calendar×Int×Int×Unit)×D.Config×List ((ByteArray×Bool))×Unit)) (fun j ((f,g,c,_),a,k,_)=>cd (c<g) (atc f c fun h=>optc (QdU u h) fun l=>optc (Y2 u l k) fun(i,m)=>cd (i≠0) (sameC a c101 (some i)) (optc (QdV u h a) fun b=>cd (b≠0) (sameC a c101 (some b)) (j ((f,g,(wrap .i64 (c+1)),()),a,m,())))) (sameC a c101 (some 0))) u ((e,(e.length:Int),0,()),c101,[],())
theorem ZZ:FO 169 (Qf [.one (.lst .Calendar),.one (.fv 170),.one (.clo 171 [101])] [bx 101 .Config] [nI] [] [101] Int kz1 (fun x y=>Qp u x.1 y.1)):=fI u (gs 2 (lp [(1,.one (.fv 170)),(2,.one (.clo 171 [101])),(7,.one (.mref 1012)),li 13 .Calendar,ni 14,ni 15] [bx 101 .Config,(1012,.sm)] .go)) kz0 (eC (Wm u) (eC (Qgt u) (eC (Qgu u) eN))) Tryz.func169
def VR(u:Nat)(a:D.Schedule):Option ByteArray:=some a.Name
theorem Qgv:FO 174 (Qf [.st .Schedule] [] [.one .str] [] [] ByteArray kz1 (fun x y=>VR u x.1)):=fI u .go kz0 eN Tryz.func174
def ZU(u:Nat)(a:D.Layer):Option ByteArray:=some a.Name
theorem Qa9:FO 244 (Qf [.st .Layer] [] [.one .str] [] [] ByteArray kz1 (fun x y=>ZU u x.1)):=fI u .go kz0 eN Tryz.func244
def Xh(b:Int)(a:D.Config):Option Bool:=optc (Yc u b (a.People.length:Int)) fun c=>sameC a a (some (!c))
theorem QcK:FO 272 (Qf [nI,.one (.ref 101)] [bx 101 .Config] [.one .boo] [] [101] Bool kz1 (fun x y=>Xh u x.1 y.1)):=fI u .go kz0 (eC (XM u) eN) Tryz.func272
def QH(c:List Int)(c101:D.Config):Option Int:=Qh (X:=((List Int×Int×Int×Unit)×D.Config×Unit)) (fun g ((e,f,a,_),b,_)=>cd (a<f) (atc e a fun h=>optc (Xh u h b) fun i=>cnd i (sameC b c101 (some a)) (g ((e,f,(wrap .i64 (a+1)),()),b,()))) (sameC b c101 (some (-1)))) u ((c,(c.length:Int),0,()),c101,())
theorem Xf:FO 270 (Qf [lI,.one (.clo 272 [101])] [bx 101 .Config] [nI] [] [101] Int kz1 (fun x y=>QH u x.1 y.1)):=fI u (.two .go (lp [(0,lI),(1,.one (.clo 272 [101])),ni 7,ni 8] [bx 101 .Config] .go)) kz0 (eC (QcK u) eN) Tryz.func270
def QC(a:List Int)(c101:D.Config):Option Bool:=optc (QH u a c101) fun b=>sameC c101 c101 (some (decide (0≤b)))
theorem YU:FO 240 (Qf [lI,.one (.clo 272 [101])] [bx 101 .Config] [.one .boo] [] [101] Bool kz1 (fun x y=>QC u x.1 y.1)):=fI u .go kz0 (eC (Xf u) eN) Tryz.func240
def X4(c:D.Config)(a:D.Layer):Option Int:=join (Y:=(Unit×Unit)) (fun(_,_)=>some 0) fun b=>optc (Yc u a.Zone (c.Zones.length:Int)) fun e=>cnd (!e) (some 3) (cd (a.Start.Day<1) (some 1) (optc (Xc u a.Start.Day) fun f=>cnd f (optc (Vn u a.Start.Second 0 86399) fun g=>cnd g (optc (Vn u a.Unit 0 2) fun h=>cnd h (optc (Vn u a.Every 1 400) fun i=>cnd i (cd ((a.Members.length:Int)=0) (some 7) (cd (12<(a.Members.length:Int)) (some 5) (optc (QC u a.Members c) fun j=>cnd j (some 3) (optc (Qcm u a.Windows) fun k=>cd (k≠0) (some 8) (optc (Vn u a.Mode 0 2) fun l=>cnd (!l) (some 1) (cd (a.Mode≠0) (optc (Yc u a.Calendar (c.Calendars.length:Int)) fun m=>cnd m (cd (a.Mode=0) (cd (a.Calendar≠0) (some 1) (b ((),()))) (b ((),()))) (some 3)) (cd (a.Mode=0) (cd (a.Calendar≠0) (some 1) (b ((),()))) (b ((),()))))))))) (some 1)) (some 1)) (some 1)) (some 1)))
theorem QdW:FO 246 (sI [.st .Config,.st .Layer] fun x=>X4 u x.1 x.2.1):=fI u (.two .go (.two (.join [] [] .go) .go)) kz0 (eC (XM u) (eC (QgA u) (eC (YU u) (eC (QbK u) (eC (QcL u) eN))))) Tryz.func246
def ZV(b:D.Layer)(a:D.Config):Option Int:=optc (X4 u a b) fun c=>sameC a a (some c)
theorem Qba:FO 245 (Qf [.st .Layer,.one (.ref 101)] [bx 101 .Config] [nI] [] [101] Int kz1 (fun x y=>ZV u x.1 y.1)):=fI u .go kz0 (eC (QdW u) eN) Tryz.func245
def Qk(e:List D.Layer)(c101:D.Config):Option Int:=Qh (X:=((List D.Layer×Int×Int×Unit)×D.Config×List ((ByteArray×Bool))×Unit)) (fun j ((f,g,c,_),a,k,_)=>cd (c<g) (atc f c fun h=>optc (ZU u h) fun l=>optc (Y2 u l k) fun(i,m)=>cd (i≠0) (sameC a c101 (some i)) (optc (ZV u h a) fun b=>cd (b≠0) (sameC a c101 (some b)) (j ((f,g,(wrap .i64 (c+1)),()),a,m,())))) (sameC a c101 (some 0))) u ((e,(e.length:Int),0,()),c101,[],())
theorem Zk:FO 243 (Qf [.one (.lst .Layer),.one (.fv 244),.one (.clo 245 [101])] [bx 101 .Config] [nI] [] [101] Int kz1 (fun x y=>Qk u x.1 y.1)):=fI u (gs 2 (lp [(1,.one (.fv 244)),(2,.one (.clo 245 [101])),(7,.one (.mref 1012)),li 13 .Layer,ni 14,ni 15] [bx 101 .Config,(1012,.sm)] .go)) kz0 (eC (Wm u) (eC (Qa9 u) (eC (Qba u) eN))) Tryz.func243
def Ww(f:D.Config)(b:D.Edit):Option Int:=join (Y:=(Unit×Unit)) (fun(_,_)=>some 0) fun e=>optc (Vn u b.Kind 0 2) fun i=>cnd (!i) (some 1) (join (Y:=((Bool×Unit)×D.Edit×Unit)) (fun((j,_),a,_)=>cnd j (some 3) (cd (a.Kind≠2) (cd (a.B≠0) (some 1) (cd (a.Kind=2) (cd (a.A=a.B) (some 4) (cd (a.From<0) (some 1) (cd (a.To<0) (some 1) (nzc 86400 (optc (Xc u (wrap .i64 (Int.tdiv a.To 86400))) fun k=>cnd k (cd (a.To≤a.From) (some 6) (e ((),()))) (some 1)))))) (cd (a.From<0) (some 1) (cd (a.To<0) (some 1) (nzc 86400 (optc (Xc u (wrap .i64 (Int.tdiv a.To 86400))) fun l=>cnd l (cd (a.To≤a.From) (some 6) (e ((),()))) (some 1))))))) (cd (a.Kind=2) (cd (a.A=a.B) (some 4) (cd (a.From<0) (some 1) (cd (a.To<0) (some 1) (nzc 86400 (optc (Xc u (wrap .i64 (Int.tdiv a.To 86400))) fun m=>cnd m (cd (a.To≤a.From) (some 6) (e ((),()))) (some 1)))))) (cd (a.From<0) (some 1) (cd (a.To<0) (some 1) (nzc 86400 (optc (Xc u (wrap .i64 (Int.tdiv a.To 86400))) fun n=>cnd n (cd (a.To≤a.From) (some 6) (e ((),()))) (some 1)))))))) fun c=>optc (Yc u b.A (f.People.length:Int)) fun o=>cnd o (cd (b.Kind=2) (optc (Yc u b.B (f.People.length:Int)) fun g=>cnd g (c ((false,()),b,())) (c ((true,()),b,()))) (c ((false,()),b,()))) (cd (b.Kind=1) (cd (b.A=(-1)) (cd (b.Kind=2) (optc (Yc u b.B (f.People.length:Int)) fun h=>cnd h (c ((false,()),b,())) (c ((true,()),b,()))) (c ((false,()),b,()))) (c ((true,()),b,()))) (c ((true,()),b,()))))
theorem QeM:FO 247 (sI [.st .Config,.st .Edit] fun x=>Ww u x.1 x.2.1):=fI u (gs 2 (.two (.join [] [] (.one (gs 2 (.two (.join [rf 3,(14,.one .boo)] [bx 1003 .Edit] .go) .go)))) .go)) kz0 (eC (XM u) (eC (QbK u) (eC (QcL u) eN))) Tryz.func247
def Y1(l:D.Config)(a:D.Schedule):Option Int:=join (Y:=(Unit×D.Config×D.Schedule×Unit)) (fun(_,e,b,_)=>optc (Qk u b.Layers e) fun f=>cd (f≠0) (some f) (Qh (X:=((List D.Edit×Int×Int×Unit)×D.Config×Unit)) (fun m ((g,h,c,_),i,_)=>cd (c<h) (atc g c fun n=>optc (Ww u i n) fun j=>cd (j≠0) (some j) (m ((g,h,(wrap .i64 (c+1)),()),i,()))) (some 0)) u ((b.Edits,(b.Edits.length:Int),0,()),e,()))) fun k=>cd (6<(a.Layers.length:Int)) (some 5) (cd (48<(a.Edits.length:Int)) (some 5) (k ((),l,a,())))
theorem Qca:FO 176 (sI [.st .Config,.st .Schedule] fun x=>Y1 u x.1 x.2.1):=fI u (.two .go (.two (.join [rf 2,rf 3] [bx 1002 .Config,bx 1003 .Schedule] .go) (gs 2 (lp [rf 2,li 27 .Edit,ni 28,ni 29] [bx 1002 .Config] .go)))) kz0 (eC (Zk u) (eC (QeM u) eN)) Tryz.func176
def VS(b:D.Schedule)(a:D.Config):Option Int:=optc (Y1 u a b) fun c=>sameC a a (some c)
theorem Qgw:FO 175 (Qf [.st .Schedule,.one (.ref 101)] [bx 101 .Config] [nI] [] [101] Int kz1 (fun x y=>VS u x.1 y.1)):=fI u .go kz0 (eC (Qca u) eN) Tryz.func175
def Qq(e:List D.Schedule)(c101:D.Config):Option Int:=Qh (X:=((List D.Schedule×Int×Int×Unit)×D.Config×List ((ByteArray×Bool))×Unit)) (fun j ((f,g,c,_),a,k,_)=>cd (c<g) (atc f c fun h=>optc (VR u h) fun l=>optc (Y2 u l k) fun(i,m)=>cd (i≠0) (sameC a c101 (some i)) (optc (VS u h a) fun b=>cd (b≠0) (sameC a c101 (some b)) (j ((f,g,(wrap .i64 (c+1)),()),a,m,())))) (sameC a c101 (some 0))) u ((e,(e.length:Int),0,()),c101,[],())
theorem Z0:FO 173 (Qf [.one (.lst .Schedule),.one (.fv 174),.one (.clo 175 [101])] [bx 101 .Config] [nI] [] [101] Int kz1 (fun x y=>Qq u x.1 y.1)):=fI u (gs 2 (lp [(1,.one (.fv 174)),(2,.one (.clo 175 [101])),(7,.one (.mref 1012)),li 13 .Schedule,ni 14,ni 15] [bx 101 .Config,(1012,.sm)] .go)) kz0 (eC (Wm u) (eC (Qgv u) (eC (Qgw u) eN))) Tryz.func173
def QX(b:D.Config):Option Int:=join (Y:=(Unit×D.Config×Unit)) (fun(_,e,_)=>optc (QD u e.Zones) fun t=>cd (t≠0) (some t) (Qh (X:=((List D.Person×Int×Int×Unit)×D.Config×List ((ByteArray×Bool))×Unit)) (fun G ((r,s,f,_),a,H,_)=>cd (f<s) (atc r f fun g=>optc (Y2 u g.Name H) fun(I,h)=>join (Y:=((Int×List D.Person×Int×Int×Unit)×D.Config×D.Person×List ((ByteArray×Bool))×Unit)) (fun((i,j,k,l,_),c,v,m,_)=>join (Y:=((Int×List D.Person×Int×Int×Unit)×D.Config×List ((ByteArray×Bool))×Unit)) (fun((n,w,y,z,_),A,B,_)=>cd (n≠0) (some n) (G ((w,y,(wrap .i64 (z+1)),()),A,B,()))) fun o=>cd (i=0) (optc (XD u c v) fun C=>o ((C,j,k,l,()),c,m,())) (o ((i,j,k,l,()),c,m,()))) fun p=>cd (g.Name=(ByteArray.mk (List.toArray [110,111,98,111,100,121]))) (p ((2,r,s,f,()),a,g,h,())) (p ((I,r,s,f,()),a,g,h,()))) (optc (Qp u a.Calendars a) fun q=>cd (q≠0) (some q) (optc (Qq u a.Schedules a) fun E=>some E))) u ((e.People,(e.People.length:Int),0,()),e,[],()))) fun F=>cd (16<(b.Zones.length:Int)) (some 5) (cd (32<(b.People.length:Int)) (some 5) (cd (8<(b.Calendars.length:Int)) (some 5) (cd (12<(b.Schedules.length:Int)) (some 5) (F ((),b,())))))
theorem UU:FO 104 (sI [.st .Config] fun x=>QX u x.1):=fI u (.two .go (.two (.join [rf 1] [bx 1001 .Config] .go) (gs 2 (lp [rf 1,(4,.one (.mref 1037)),li 39 .Person,ni 40,ni 41] [bx 1001 .Config,(1037,.sm)] (gs 2 (.two (.one (gs 2 (.two (.join [rf 1,(4,.one (.mref 1037)),rf 6,ni 7,li 39 .Person,ni 40,ni 41] [bx 1001 .Config,bx 1006 .Person,(1037,.sm)] .go) (.two (.join [rf 1,(4,.one (.mref 1037)),ni 7,li 39 .Person,ni 40,ni 41] [bx 1001 .Config,(1037,.sm)] .go) .go)))) .go)))))) kz0 (eC (Z6 u) (eC (Wm u) (eC (Qc6 u) (eC (ZZ u) (eC (Z0 u) eN))))) Tryz.func104
def W9(u:Nat)(b:D.Config)(a:Int):Option Bool:=cd (0≤a) (cd (a<(b.Schedules.length:Int)) sT sF) sF
theorem Qe6:FO 265 (sB [.st .Config,nI] fun x=>W9 u x.1 x.2.1):=fI u .go kz0 eN Tryz.func265
def Xs(u:Nat)(a:List D.Zone):Option (List D.Zone):=nilC a (both (some []) (lec a.length 34359738368 (some a))) (lec a.length 34359738368 (some a))
theorem U3:FO 213 (Qf [.one (.lst .Zone)] [] [.one (.own 1007)] [ar 1007 .Zone] [] (List D.Zone) kz8 (fun x y=>Xs u x.1)):=fI u .go kz12 eN Tryz.func213
def YN(u:Nat)(a:List D.Person):Option (List D.Person):=nilC a (both (some []) (lec a.length 34359738368 (some a))) (lec a.length 34359738368 (some a))
theorem V7:FO 215 (Qf [.one (.lst .Person)] [] [.one (.own 1007)] [ar 1007 .Person] [] (List D.Person) kz8 (fun x y=>YN u x.1)):=fI u .go kz12 eN Tryz.func215
def Wo(u:Nat)(a:List D.Calendar):Option (List D.Calendar):=nilC a (both (some []) (lec a.length 34359738368 (some a))) (lec a.length 34359738368 (some a))
theorem Vo:FO 217 (Qf [.one (.lst .Calendar)] [] [.one (.own 1007)] [ar 1007 .Calendar] [] (List D.Calendar) kz8 (fun x y=>Wo u x.1)):=fI u .go kz12 eN Tryz.func217
def Yi(u:Nat)(a:List D.Schedule):Option (List D.Schedule):=nilC a (both (some []) (lec a.length 34359738368 (some a))) (lec a.length 34359738368 (some a))
theorem Vp:FO 218 (Qf [.one (.lst .Schedule)] [] [.one (.own 1007)] [ar 1007 .Schedule] [] (List D.Schedule) kz8 (fun x y=>Yi u x.1)):=fI u .go kz12 eN Tryz.func218
def Y6(u:Nat)(a:List D.YearRule):Option (List D.YearRule):=nilC a (both (some []) (lec a.length 34359738368 (some a))) (lec a.length 34359738368 (some a))
theorem Vq:FO 214 (Qf [.one (.lst .YearRule)] [] [.one (.own 1007)] [ar 1007 .YearRule] [] (List D.YearRule) kz8 (fun x y=>Y6 u x.1)):=fI u .go kz12 eN Tryz.func214
def Z7(u:Nat)(a:List D.Window):Option (List D.Window):=nilC a (both (some []) (lec a.length 34359738368 (some a))) (lec a.length 34359738368 (some a))
theorem XY:FO 216 (Qf [.one (.lst .Window)] [] [.one (.own 1007)] [ar 1007 .Window] [] (List D.Window) kz8 (fun x y=>Z7 u x.1)):=fI u .go kz12 eN Tryz.func216
def Y4(u:Nat)(a:List D.Layer):Option (List D.Layer):=nilC a (both (some []) (lec a.length 34359738368 (some a))) (lec a.length 34359738368 (some a))
theorem UL:FO 257 (Qf [.one (.lst .Layer)] [] [.one (.own 1007)] [ar 1007 .Layer] [] (List D.Layer) kz8 (fun x y=>Y4 u x.1)):=fI u .go kz12 eN Tryz.func257
def Xr(u:Nat)(a:List D.Edit):Option (List D.Edit):=nilC a (both (some []) (lec a.length 34359738368 (some a))) (lec a.length 34359738368 (some a))
theorem U2:FO 221 (Qf [.one (.lst .Edit)] [] [.one (.own 1007)] [ar 1007 .Edit] [] (List D.Edit) kz8 (fun x y=>Xr u x.1)):=fI u .go kz12 eN Tryz.func221
def Qy(u:Nat)(a:List Int):Option (List Int):=nilC a (both (some []) (lec a.length 34359738368 (some a))) (lec a.length 34359738368 (some a))
theorem Q4:FO 130 (Qf [lI] [] [.one (.own 1007)] [ar 1007 .int] [] (List Int) kz8 (fun x y=>Qy u x.1)):=fI u .go kz12 eN Tryz.func130
end
end Go.Proofs.YtadlpefpehjcoaaGreat
/-
  Regions over arrays of which one row stands at the fore: plain operations are reckoned (index, field, load, store, length, sum). No project text.
-/
namespace Go.Proofs.YtadlpefpehjcoaaGreat.AM
open Go
section
variable (P:Program) (rd:List (Nat×AV)) (hs:List (Name×AO))
def Qwe(T:TypeId)(x y:Operand):Option Out:=match Vr P T,Ql rd x,Ql rd y with
 |some e,some (.own n len),some (.p (.v (.int _ j)))=>match Zv P e,look n hs with
  |some es,some (.hole es' pre row post)=>if Nat.beq es es' && (Nat.beq len (pre.length+1+post.length) && (Nat.blt j.toNat (pre.length+1+post.length) && decide (j=(j.toNat:Int))))then some ([(n,.hole es' pre row post)],.aref n len j.toNat 0,[],[])else none
  |_,_=>none
 |_,_,_=>none
def xLen(x:Operand)(ats:Array TypeId):Option Out:=match ats[0]?.bind (Vr P),Ql rd x with
 |some _,some (.own n len)=>match look n hs with
  |some (.arr es rows)=>if Nat.beq len rows.length then some ([(n,.arr es rows)],.p (.v (.int .i64 (rows.length:Int))),[],[])else none
  |some (.hole es pre row post)=>if Nat.beq len (pre.length+1+post.length)then some ([(n,.hole es pre row post)],.p (.v (.int .i64 (len:Int))),[],[])else none
  |_=>none
 |_,_=>none
def Qyl(c:Call):Option Out:=match c with
 |{ callee:=.builtin .len,args:=aq,argTypes:=ats,.. }=>match aq.toList with
  |[x]=>xLen P rd hs x ats
  |_=>none
 |_=>none
def Qwd(S:TypeId)(x:Operand)(i:Nat):Option Out:=match Ql rd x,Qad P S i with
 |some (.aref n len j k),some fo=>match look n hs with
  |some (.hole es pre row post)=>if Nat.beq len (pre.length+1+post.length)then some ([(n,.hole es pre row post)],.aref n len j (k+fo),[],[])else none
  |_=>none
 |_,_=>none
def xNil(x:Operand):Option Out:=match Ql rd x with
 |some (.aref n len j k)=>match look n hs with
  |some (.hole es pre row post)=>if Nat.beq len (pre.length+1+post.length)then some ([(n,.hole es pre row post)],.aref n len j k,[],[])else none
  |_=>none
 |_=>none
def Qym(T:TypeId)(x:Operand):Option Out:=match Ql rd x with
 |some (.aref n len i k)=>match look n hs with
  |some (.hole es pre row post)=>if Qa7 P T && (Nat.beq len (pre.length+1+post.length) && Nat.beq i pre.length)then(row[k]?).map fun c=>([(n,.hole es pre row post)],c,[],[])else none
  |_=>none
 |_=>none
def Qwf(d:Option Nat)(T:TypeId)(x y:Operand):Option Out:=match d,Ql rd x,(Ql rd y).bind ZK with
 |none,some (.aref n len i k),some vs=>match look n hs,Zv P T with
  |some (.hole es pre row post),some z=>if Nat.beq len (pre.length+1+post.length) && (Nat.beq i pre.length && (Nat.beq z vs.length && Nat.ble (k+vs.length) row.length))then some ([(n,.hole es pre row post)],.any,[(n,.hole es pre (Qv row k vs) post)],[])else none
  |_,_=>none
 |_,_,_=>none
def xAdd(x y:Operand):Option Out:=match Ql rd x,Ql rd y with
 |some (.p (.v (.int k a))),some (.p (.v (.int k' b)))=>if kEq k k' then some ([],.p (.v (.int k (k.wrap (a+b)))),[],[])else none
 |_,_=>none
def Qwn(o:Oper):Option Out:=match o.op with
 |.indexAddr T x y=>Qwe P rd hs T x y
 |.fieldAddr S x i=>Qwd P rd hs S x i
 |.nilCheck x=>xNil rd hs x
 |.load T x=>Qym P rd hs T x
 |.store T x y=>Qwf P rd hs o.dst T x y
 |.binOp .add _ x y _=>xAdd rd x y
 |.call c=>Qyl P rd hs c
 |_=>none
end
section
variable {P:Program} {rd:List (Nat×AV)} {hs:List (Name×AO)} {o:Oper} {e:Out}
theorem Quw(h:Qwn P rd hs o=some e):OpOK P o (Qa5 rd e):=by
 unfold Qwn at h
 split at h
 ·rename_i T x y ho
  unfold Qwe at h
  split at h
  ·rename_i e' n len k j hT hx hy
   split at h
   ·rename_i es es' pre row post hz hh
    split at h
    ·rename_i hc
     simp only[bae,decide_eq_true_eq]at hc
     obtain⟨c1,c2,c3,c4⟩:=hc
     have:=nbe c1;subst this
     cases h
     exact OpOK.indexHole ho hT hz hx c2 hy c4 (by simpa [Nat.blt_eq]using c3)
    ·simp at h
   ·simp at h
  ·simp at h
 ·rename_i S x i ho
  unfold Qwd at h
  split at h
  ·rename_i n len j k fo hx hf
   split at h
   ·split at h
    ·rename_i hl;cases h;exact OpOK.fieldElemSh ho hx hf rfl rfl hl
    ·simp at h
   ·simp at h
  ·simp at h
 ·rename_i x ho
  unfold xNil at h
  split at h
  ·rename_i n len j k hx
   split at h
   ·split at h
    ·rename_i hl;cases h;exact OpOK.nilCheckSh ho hx rfl hl
    ·simp at h
   ·simp at h
  ·simp at h
 ·rename_i T x ho
  unfold Qym at h
  split at h
  ·rename_i n len i k hx
   split at h
   ·split at h
    ·rename_i hc
     simp only[bae]at hc
     obtain⟨v,hv,rfl⟩:=map_some h
     exact OpOK.loadHole ho hx hc.1 hc.2.1 (nbe hc.2.2) hv
    ·simp at h
   ·simp at h
  ·simp at h
 ·rename_i T x y ho
  unfold Qwf at h
  split at h
  ·rename_i n len i k vs hd hx hy
   split at h
   ·rename_i es pre row post z hh hz
    split at h
    ·rename_i hc
     simp only[bae]at hc
     obtain⟨c1,c2,c3,c4⟩:=hc
     cases h
     obtain⟨v,hv,hvs⟩:=Vx hy
     exact OpOK.storeHole hd ho hx hv hvs c1 (nbe c2) (by rw[hz,nbe c3]) c4 rfl
    ·simp at h
   ·simp at h
  ·simp at h
 ·rename_i T x y T' ho
  unfold xAdd at h
  split at h
  ·rename_i k a k' b hx hy
   split at h
   ·rename_i hk
    have:=QcY hk;subst this
    cases h
    exact OpOK.add ho hx hy rfl
   ·simp at h
  ·simp at h
 ·rename_i c ho
  unfold Qyl at h
  split at h
  ·rename_i aq ats
   split at h
   ·rename_i x has
    have:aq=#[x]:=by cases aq;simp at has;simp[has]
    subst this
    unfold xLen at h
    split at h
    ·rename_i e' n len hT hx
     obtain⟨T,hT1,hT2⟩:=Vx hT
     split at h
     ·split at h
      ·rename_i hl;cases h;exact OpOK.lenOwn ho hT1 hT2 hx hl rfl
      ·simp at h
     ·split at h
      ·rename_i hl;cases h;exact OpOK.lenHole ho hT1 hT2 hx hl rfl
      ·simp at h
     ·simp at h
    ·simp at h
   ·simp at h
  ·simp at h
 ·simp at h
end
def rowX(P:Program)(ops:Array Oper)(i:Nat)(ts:List (Nat×AV))(hs:List (Name×AO)):Option Row:=match rowA P ops i ts hs with
 |some r=>some r
 |none=>match ops[i]? with
  |none=>none
  |some o=>match o.guard with
   |none=>(Qwn P (rdo ts o.op.operands.toList) hs o).map fun x=>(o.dst,Qa5 (rdo ts o.op.operands.toList) x)
   |some _=>none
theorem Qxs{P:Program}{ops:Array Oper}{i:Nat}{ts:List (Nat×AV)}{hs:List (Name×AO)}{r:Row}(h:rowX P ops i ts hs=some r):Zs P ops i r.1 r.2:=by
 unfold rowX at h
 split at h
 ·rename_i r' hr;cases h;exact Qxr hr
 ·split at h
  ·simp at h
  ·rename_i o hi
   split at h
   ·rename_i hg;obtain⟨x,hx,rfl⟩:=map_some h;exact Zs.plain hi hg (Quw hx)
   ·simp at h
def Qmy(P:Program)(ops:Array Oper):Nat→List Item→List (Nat×AV)→List (Name×AO)→Option (List Row)
 |i,[],_,_=>if Nat.beq ops.size i then some []else none
 |i,.m d e::r,ts,hs=>(Qmy P ops (i+1) r (putD d e.v ts) (e.upd++hs)).map fun l=>(d,e)::l
 |i,.a::r,ts,hs=>match rowX P ops i ts hs with
  |none=>none
  |some x=>(Qmy P ops (i+1) r (putD x.1 x.2.v ts) (x.2.upd++hs)).map fun l=>x::l
theorem Qmz{P:Program}{ops:Array Oper}:∀{items:List Item} {i:Nat} {ts:List (Nat×AV)} {hs:List (Name×AO)} {L:List Row},Qmy P ops i items ts hs=some L→Man P ops i items→WC P ops i L
 |[],i,ts,hs,L,h,_=>by
  unfold Qmy at h
  split at h
  ·rename_i hb;cases h;exact nbe hb
  ·simp at h
 |.m d e::r,i,ts,hs,L,h,hm=>by
  unfold Qmy at h
  obtain⟨l,hl,rfl⟩:=map_some h
  exact⟨hm.1,Qmz hl hm.2⟩
 |.a::r,i,ts,hs,L,h,hm=>by
  unfold Qmy at h
  split at h
  ·simp at h
  ·rename_i x hx
   obtain⟨l,hl,rfl⟩:=map_some h
   exact⟨Qxs hx,Qmz hl hm⟩
def Qbz(P:Program)(ops:Array Oper)(items:List Item)(ts:List (Nat×AV))(hs:List (Name×AO)):List Row:=(Qmy P ops 0 items ts hs).getD []
def QjT(P:Program)(ops:Array Oper)(items:List Item)(ts:List (Nat×AV))(hs:List (Name×AO)):Bool:=(Qmy P ops 0 items ts hs).isSome
theorem Qgx{P:Program}{ops:Array Oper}{items:List Item}{ts:List (Nat×AV)}{hs:List (Name×AO)}(h:QjT P ops items ts hs=true)(hm:Man P ops 0 items):WC P ops 0 (Qbz P ops items ts hs):=by
 unfold QjT at h
 unfold Qbz
 cases hr:Qmy P ops 0 items ts hs with
 |none=>rw[hr]at h;simp at h
 |some L=>exact Qmz hr hm
section
variable {P:Program} {Γ:Ctx} {s:AS} {Q:Exit→AS→Prop}
theorem AWp.xr{id:Nat}{ops:Array Oper}{y:Code}{ts:List (Nat×AV)}{hs:List (Name×AO)}{n:Nat}{names:List Name}(hn:Γ.n=n)(hk:Γ.names=names)(I:List Item)(hm:Man P ops 0 I)(ts':List (Nat×AV))(hs':List (Name×AO))(h:AWp P Γ y (mk ts' hs') Q)(hb:QjT P ops I ts hs=true:=by kernel_rfl)(hf:QlJ n names (Qbz P ops I ts hs) ts hs ts' hs'=QlK (Qbz P ops I ts hs) ts' hs':=by kernel_rfl):
  AWp P Γ (.seq (.region id ops false) y) (mk ts hs) Q:=AWp.s_region hn hk _ (Qgx hb hm) ts' hs' hf h
theorem AWp.xa{id:Nat}{ops:Array Oper}{y:Code}{ts:List (Nat×AV)}{hs:List (Name×AO)}{n:Nat}{names:List Name}(hn:Γ.n=n)(hk:Γ.names=names)(k:Nat)(ts':List (Nat×AV))(hs':List (Name×AO))(h:AWp P Γ y (mk ts' hs') Q)(hb:QjT P ops (aa k) ts hs=true:=by kernel_rfl)(hf:QlJ n names (Qbz P ops (aa k) ts hs) ts hs ts' hs'=QlK (Qbz P ops (aa k) ts hs) ts' hs':=by kernel_rfl):
  AWp P Γ (.seq (.region id ops false) y) (mk ts hs) Q:=AWp.xr hn hk (aa k) (Man.aa _ _) ts' hs' h hb hf
theorem AWp.xa'{id:Nat}{ops:Array Oper}{ts:List (Nat×AV)}{hs:List (Name×AO)}{n:Nat}{names:List Name}(hn:Γ.n=n)(hk:Γ.names=names)(k:Nat)(ts':List (Nat×AV))(hs':List (Name×AO))(h:Q .normal (mk ts' hs'))(hb:QjT P ops (aa k) ts hs=true:=by kernel_rfl)(hf:QlJ n names (Qbz P ops (aa k) ts hs) ts hs ts' hs'=QlK (Qbz P ops (aa k) ts hs) ts' hs':=by kernel_rfl):
  AWp P Γ (.region id ops false) (mk ts hs) Q:=AWp.region' hn hk _ (Qgx hb (Man.aa _ _)) ts' hs' hf h
theorem AWp.xd{id:Nat}{ops:Array Oper}{y:Code}{ts:List (Nat×AV)}{hs:List (Name×AO)}{n:Nat}{names:List Name}(hn:Γ.n=n)(hk:Γ.names=names)(I:List Item)(hm:Man P ops 0 I)(ts':List (Nat×AV))(hs':List (Name×AO))(h:AWp P Γ y (mk ts' hs') Q)(hmode:P.follows .mixedOrders=true:=by kernel_rfl)(hb:QjT P ops I ts hs=true:=by kernel_rfl)(hf:QlJ n names (Qbz P ops I ts hs) ts hs ts' hs'=QlK (Qbz P ops I ts hs) ts' hs':=by kernel_rfl)(hind:indep ops (Qbz P ops I ts hs) ts hs=true:=by kernel_rfl):AWp P Γ (.seq (.region id ops true) y) (mk ts hs) Q:=AWp.s_draw hn hk hmode _ (Qgx hb hm) ts' hs' hf hind h
theorem AWp.xd'{id:Nat}{ops:Array Oper}{ts:List (Nat×AV)}{hs:List (Name×AO)}{n:Nat}{names:List Name}(hn:Γ.n=n)(hk:Γ.names=names)(I:List Item)(hm:Man P ops 0 I)(ts':List (Nat×AV))(hs':List (Name×AO))(h:Q .normal (mk ts' hs'))(hmode:P.follows .mixedOrders=true:=by kernel_rfl)(hb:QjT P ops I ts hs=true:=by kernel_rfl)(hf:QlJ n names (Qbz P ops I ts hs) ts hs ts' hs'=QlK (Qbz P ops I ts hs) ts' hs':=by kernel_rfl)(hind:indep ops (Qbz P ops I ts hs) ts hs=true:=by kernel_rfl):AWp P Γ (.region id ops true) (mk ts hs) Q:=AWp.draw' hn hk hmode _ (Qgx hb hm) ts' hs' hf hind h
end
theorem AWp.nameH{P:Program}{Γ:Ctx}{c:Code}{Q:Exit→AS→Prop}{n n0:Name}{len:Nat}{ts:List (Nat×AV)}{hs:List (Name×AO)}(m:Name)(j:Nat){es:Nat}{pre post:List (List PV)}{row:List AV}(hn0:n0∉Γ.names)(h0:look n0 hs=none)(hfree:QwS n0 ts hs=true)(hne:n≠n0)(hm:look m hs=some (.hole es pre row post))(hj:row[j]?=some (.own n len))(h:∀x,AWp P Γ c (mk ts ((n0,.fact (.own n len) x)::hs)) Q):AWp P Γ c (mk ts hs) Q:=
 AWp.nameU hn0 h0 (QuR hfree) hne (fun ρ M a w hs0=>by
  obtain⟨k0,k0',k1,b,T,cs,k3,k4,k5,k6,k7,k8,k9⟩:=hs0.objs m _ hm
  obtain⟨u,_,_,hr⟩:=k8.get j _ hj
  exact⟨u,hr⟩) h
theorem Weak.pinH{Γ:Ctx}{n n0 m:Name}{len es es':Nat}{x:Value}{o:AO}{pre post:List (List PV)}{xs ys:List AV}{ts:List (Nat×AV)}{hs:List (Name×AO)}(hmn:m≠n)(hf:look n0 hs=some (.fact (.own n len) x))(ho:look n hs=some o)(hsh:o.shape=some (es,len))(hp:PinL n len x xs ys)(hs':List (Name×AO))(h0:look m hs=some (.hole es' pre xs post))(h1:∀k,look k hs'=if k=m then some (.hole es' pre ys post)else look k hs):Weak Γ (mk ts hs) (mk ts hs'):=fun ρ M a w h=>by
 have hst:Qcn ρ (mk ts hs).heap ρ (mk ts hs').heap:=fun k ob hk=>by
  change stays ob (ρ k) (look k hs') (ρ k)
  rw[h1]
  split
  ·rename_i e;subst e
   have hk':look k hs=some ob:=hk
   rw[h0]at hk';cases hk'
   exact Xe (es:=es') (k:=pre.length+1+post.length) rfl rfl (Ze _ _)
  ·have hk':look k hs=some ob:=hk
   rw[hk'];exact Ze _ _
 have hnn:∀k,(mk ts hs).heap k=none→(mk ts hs').heap k=none:=fun k hk=>by
  change look k hs'=none
  rw[h1]
  split
  ·rename_i e;subst e;change look k hs=none at hk;rw[h0]at hk;cases hk
  ·exact hk
 have hconv:∀{v:AV} {u:Value},v.R ρ (mk ts hs).heap M w u→v.R ρ (mk ts hs').heap M w u:=fun hr=>
  hr.step (Ext.refl (fun _=>False) _) (fun _ hb=>hb.elim) (fun b _ hb=>hb) hst (fun k _=>hnn k)
 have hfact:AV.R ρ (mk ts hs).heap M w (.own n len) x:=(h.objs n0 _ hf).2
 have hx:=hfact
 simp only[AV.R]at hx
 have hxe:=(hx.2 o es len ho hsh).2 rfl
 have hpin:∀us,AV.Rs ρ (mk ts hs).heap M w xs us→AV.Rs ρ (mk ts hs').heap M w ys us:=by
  refine PinL.rec (motive_1:=fun v y _=>∀u,v.R ρ (mk ts hs).heap M w u→y.R ρ (mk ts hs').heap M w u) (motive_2:=fun vs ys _=>∀us,AV.Rs ρ (mk ts hs).heap M w vs us→AV.Rs ρ (mk ts hs').heap M w ys us) ?_ ?_ ?_ ?_ ?_ ?_ hp
  ·omega
  ·intro u hr
   simp only[AV.R]at hr
   have hu:=(hr.2 o es len ho hsh).2 rfl
   simp only[AV.R,PV.R]
   simp_all
  ·intro u hr
   simp only[AV.R,PV.R]at hr
   simp_all
  ·intro xs ys _ ih u hr
   simp only[AV.R]at hr ⊢
   grind
  ·intro us hr;simp only[AV.Rs]at hr ⊢;exact hr
  ·intro a b as1 bs _ _ ih1 ih2 us hr
   simp only[AV.Rs]at hr ⊢
   grind
 refine⟨ρ,M,QuK h (fun t y hy=>⟨y,hy,fun u hr=>hconv hr⟩) (fun k y hy=>?_) (fun k v hv=>?_)⟩
 ·change look k hs'=some y at hy
  rw[h1]at hy
  split at hy
  ·rename_i e;subst e;cases hy
   refine⟨_,h0,fun hob=>?_⟩
   obtain⟨k0,k0',k1,b,T,cs,k3,k4,k5,k6,k7,k8,k9⟩:=hob
   have hlen:xs.length=ys.length:=by
    have:=PinL.rec (motive_1:=fun _ _ (_:Pin n len x _ _)=>True) (motive_2:=fun vs ys _=>vs.length=ys.length) (by intros;trivial) (by trivial) (by trivial) (by intros;trivial) rfl (by intros;simp_all) hp
    exact this
   exact⟨k0,by rw[←hlen];exact k0',k1,b,T,cs,k3,k4,k5,k6,k7,hpin _ k8,k9⟩
  ·refine⟨y,hy,fun hob=>?_⟩
   exact V0.step (Ext.refl (fun _=>False) _) (fun _ hb=>hb.elim) (fun b _ hb=>hb) (fun b hb=>hb) hst (fun k _=>hnn k) rfl (fun _ _=>rfl) h.msize hob
 ·change look k hs=some v at hv
  by_cases e:k=m
  ·subst e
   rw[h0]at hv;cases hv
   exact⟨_,(by change look k hs'=_;rw[h1,if_pos rfl]),fun o l hst=>Xe (es:=es') (k:=pre.length+1+post.length) rfl rfl hst⟩
  ·exact⟨v,(by change look k hs'=_;rw[h1,if_neg e];exact hv),fun o l hst=>hst⟩
theorem TsLe.refl:∀ts:List (Nat×AV),TsLe ts ts
 |[]=>trivial
 |(_,x)::r=>⟨rfl,.refl x,TsLe.refl r⟩
theorem HsLe.refl:∀hs:List (Name×AO),HsLe hs hs
 |[]=>trivial
 |(_,x)::r=>⟨rfl,.refl x,HsLe.refl r⟩
theorem QgD.refl{px:Value→Prop}{n:Name}{es:Nat}{rows:List (List PV)}:∀{ts:List (Nat×AV)},ts.all (fun p=>!p.2.has n)=true→QgD px n es rows ts ts
 |[],_=>trivial
 |(_,x)::r,h=>by
  simp only[List.all_cons,bae,Bool.not_eq_true']at h
  exact⟨rfl,.same h.1,QgD.refl h.2⟩
theorem QgC.refl{px:Value→Prop}{n:Name}{es:Nat}{rows:List (List PV)}:∀{hs:List (Name×AO)},hs.all (fun p=>!p.2.has n && !Nat.beq p.1 n)=true→QgC px n es rows hs hs
 |[],_=>trivial
 |(_,x)::r,h=>by
  simp only[List.all_cons,bae,Bool.not_eq_true']at h
  exact⟨rfl,fun e=>by have:=h.1.2;subst e;simp at this,.same h.1.1,QgC.refl h.2⟩
section
variable {P:Program} {Γ:Ctx} {c:Code} {Q:Exit→AS→Prop} {ts:List (Nat×AV)} {hs:List (Name×AO)} {n n0 m:Name} {es es':Nat} {rows pre post:List (List PV)} {x:Value} {o o':AO}
theorem AWp.foc(pre post:List (List PV))(r:List PV)(hr:rows=pre++r::post)(h:AWp P Γ c (mk ts ((m,.hole es pre (r.map .p) post)::hs)) Q):AWp P Γ c (mk ts ((m,.arr es rows)::hs)) Q:=
 AWp.weaken (mk ts ((m,.hole es pre (r.map .p) post)::hs)) (Weak.le (TsLe.refl _) ⟨rfl,.focus hr rfl,HsLe.refl _⟩) h
theorem AWp.unf{row:List AV}(r:List PV)(hrow:row=r.map .p)(h:AWp P Γ c (mk ts ((m,.arr es (pre++r::post))::hs)) Q):AWp P Γ c (mk ts ((m,.hole es pre row post)::hs)) Q:=
 AWp.weaken (mk ts ((m,.arr es (pre++r::post))::hs)) (Weak.le (TsLe.refl _) ⟨rfl,.unfocus rfl hrow,HsLe.refl _⟩) h
theorem AWp.frz(hk:Γ.names=[])(hb:(ts.all (fun p=>!p.2.has n) && (hs.all (fun p=>!p.2.has n && !Nat.beq p.1 n) && !Nat.beq m n))=true)(ho:OFrz (fun _=>False) n es rows o o')(h:AWp P Γ c (mk ts ((m,o')::hs)) Q):
  AWp P Γ c (mk ts ((n,.arr es rows)::(m,o)::hs)) Q:=by
 simp only[bae,Bool.not_eq_true']at hb
 exact AWp.weaken (mk ts ((m,o')::hs)) (Weak.freeze (by rw[hk];exact List.not_mem_nil) (QgD.refl hb.1) ⟨rfl,fun e=>by have:=hb.2.2;subst e;simp at this,ho,QgC.refl hb.2.1⟩) h
theorem AWp.frzP(hk:Γ.names=[])(hb:(ts.all (fun p=>!p.2.has n) && (hs.all (fun p=>!p.2.has n && !Nat.beq p.1 n) && (!Nat.beq m n && (!Nat.beq n n0 && (look n0 ((m,o)::hs)).isNone))))=true)(ho:OFrz (fun y=>y=x) n es rows o o')(h:AWp P Γ c (mk ts ((m,o')::hs)) Q):
  AWp P Γ c (mk ts ((n,.arr es rows)::(n0,.fact (.own n rows.length) x)::(m,o)::hs)) Q:=by
 simp only[bae,Bool.not_eq_true',Option.isNone_iff_eq_none]at hb
 exact AWp.weaken (mk ts ((m,o')::hs)) (Weak.freezeP (by rw[hk];exact List.not_mem_nil) (by rw[hk];exact List.not_mem_nil) (fun e=>by have:=hb.2.2.2.1;subst e;simp at this) hb.2.2.2.2 (QgD.refl hb.1) ⟨rfl,fun e=>by have:=hb.2.2.1;subst e;simp at this,ho,QgC.refl hb.2.1⟩) h
theorem AWp.pinH{row row':List AV}{len:Nat}(hb:(!Nat.beq m n && (!Nat.beq m n0 && !Nat.beq n0 n))=true)(ho:look n hs=some o)(hsh:o.shape=some (es',len))(hp:PinL n len x row row')(h:AWp P Γ c (mk ts ((n0,.fact (.own n len) x)::(m,.hole es pre row' post)::hs)) Q):AWp P Γ c (mk ts ((n0,.fact (.own n len) x)::(m,.hole es pre row post)::hs)) Q:=by
 simp only[bae,Bool.not_eq_true']at hb
 have e1:m≠n:=fun e=>by have:=hb.1;subst e;simp at this
 have e2:n0≠m:=fun e=>by have:=hb.2.1;subst e;simp at this
 have e3:n0≠n:=fun e=>by have:=hb.2.2;subst e;simp at this
 refine AWp.weaken (mk ts ((n0,.fact (.own n len) x)::(m,.hole es pre row' post)::hs)) (Weak.pinH (n:=n) (n0:=n0) (m:=m) (x:=x) (len:=len) (es:=es') (es':=es) (pre:=pre) (post:=post) (o:=o) e1 (by simp[look]) (by simp[look,e3,e1,ho]) hsh hp _ (by simp[look,e2]) fun k=>?_) h
 simp only[look]
 grind
end
def sk:Nat→List Item→List Item
 |0,r=>r
 |n+1,r=>.a::sk n r
theorem Man.sk{P:Program}{ops:Array Oper}:∀{n i:Nat} {r:List Item},Man P ops (i+n) r→Man P ops i (AM.sk n r)
 |0,_,_,h=>h
 |n+1,i,r,h=>Man.sk (n:=n) (i:=i+1) (by rw[Nat.add_assoc,Nat.add_comm 1 n];exact h)
theorem Man.m{P:Program}{ops:Array Oper}{i:Nat}{r:List Item}{d:Option Nat}{e:Eff}(h:Zs P ops i d e)(h':Man P ops (i+1) r):Man P ops i (.m d e::r):=⟨h,h'⟩
def clI(d s:Nat)(nm:Name)(t:TC)(l:List (TT t)):Item:=.m (some d) ⟨[(s,.p (.sl false (tz t) (l.map (tcells t))))],[],.own nm (l.map (tcells t)).length,[(nm,.arr (tz t) (l.map (tcells t)))],[nm]⟩
def QaA(P:Program)(k:FuncId)(t:TC)(l:List (TT t)):Prop:=∀nm:Name,nm<10000000000→XJ P k [.p (.sl false (tz t) (l.map (tcells t)))] [] (.own nm (l.map (tcells t)).length) [(nm,.arr (tz t) (l.map (tcells t)))]
theorem Uz{P:Program}{ops:Array Oper}{i d s:Nat}{nm:Name}{t:TC}{l:List (TT t)}{k:FuncId}{o:Oper}{ats:Array TypeId}(h:QaA P k t l)(hnm:Nat.blt nm 10000000000=true)(hi:ops[i]?=some o)(hd:o.dst=some d)(hg:o.guard=none)(ho:o.op=.call { callee:=.value (.func k),args:=#[.tmp s],argTypes:=ats })(hc:callable P k=true):
  Zs P ops i (some d) ⟨[(s,.p (.sl false (tz t) (l.map (tcells t))))],[],.own nm (l.map (tcells t)).length,[(nm,.arr (tz t) (l.map (tcells t)))],[nm]⟩:=
 Zs.p hi hd hg (OpOK.call ho hc (by simp[QeI,Ql,look]) (h nm (by simpa [Nat.blt_eq]using hnm)) (by simp[Qdh,keys,AV.closed,AO.closed]))
theorem QiE{P:Program}{ops:Array Oper}{i d:Nat}{rd:List (Nat×AV)}{args:List AV}{pre h:List (Name×AO)}{v:AV}{nw:List Name}{k:FuncId}{o:Oper}{argOps:Array Operand}{ats:Array TypeId}(hs:XJ P k args pre v h)(hi:ops[i]?=some o)(hd:o.dst=some d)(hg:o.guard=none)(ho:o.op=.call { callee:=.value (.func k),args:=argOps,argTypes:=ats })(hc:callable P k=true)(ha:QeI rd argOps.toList=some args)(hok:Qdh pre h nw v=true):Zs P ops i (some d) ⟨rd,pre,v,h,nw⟩:=Zs.p hi hd hg (OpOK.call ho hc ha hs hok)
theorem Wr{P:Program}{k:FuncId}{t:TC}{F:List (TT t)→Option (List (TT t))}(h:FnOK P k (Qf [.one (.lst t)] [] [.one (.own 1007)] [(1007,.arr t)] [] (List (TT t)) (fun q=>((),(q,()))) (fun x y=>F x.1))){l:List (TT t)}(hl:F l=some l):QaA P k t l:=by
 intro nm hnm
 obtain⟨L1,_,hinv,hs⟩:=h.spec (l,()) () () (l,()) (by show optc (F l) _=_;rw[hl];rfl) (fun _ _=>0) (fun n t l v hn=>by change look n []=_ at hn;simp[look]at hn)
 have e1:L1 1007 1=(l.map (tcells t)).length:=by rw[List.length_map];exact hinv 1007 t l 1 rfl
 have hσ:∀a b:Name,(if a=1007 then nm else a+10000000000)=(if b=1007 then nm else b+10000000000)→a=b:=fun a b e=>by
  grind
 have h1:=Spec.ren (σ:=fun a:Name=>if a=1007 then nm else a+10000000000) hσ hs
 have h2:XJ P k [.p (.sl false (tz t) (l.map (tcells t)))] [] (.own (if (1007:Name)=1007 then nm else 1007+10000000000) (L1 1007 1)) [(if (1007:Name)=1007 then nm else 1007+10000000000,.arr (tz t) (l.map (tcells t)))]:=h1
 grind
end Go.Proofs.YtadlpefpehjcoaaGreat.AM
