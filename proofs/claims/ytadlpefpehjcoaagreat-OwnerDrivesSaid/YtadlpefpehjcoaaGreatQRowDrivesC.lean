/-
  The typed layer, part K: regions. No project text.
-/
import Derived.Test.YtadlpefpehjcoaaGreatQRowDrivesB
import Derived.Shelf.Sort.Plain
import Derived.Test.YtadlpefpehjcoaaGreatProg
import Derived.RangeFuncNested
import Derived.RangeFuncBound
import Derived.RangeFuncCalls
import Derived.RangeFuncLeaves
import Derived.Shelf.Abstract
import Derived.Shelf.RegionOpen
import Derived.WalkKit
import Derived.OwnWalkIn
import Derived.TacticsInMore
import Derived.LoopNIn
import Derived.LoopIn
import Derived.Scope
set_option linter.unusedVariables false
set_option linter.unusedSimpArgs false
namespace Go.Proofs.YtadlpefpehjcoaaGreat.AM
open Go
variable {L L':Lens} {ts ts':TS} {hs hs':HS}
section
variable {R:Type}
def rdB(ts:TS):List Operand→TS
 |[]=>[]
 |.tmp t::r=>match look t ts with
  |some v=>(t,v)::rdB ts r
  |none=>rdB ts r
 |.const _::r=>rdB ts r
 |.global _::r=>rdB ts r
 |.func _::r=>rdB ts r
theorem Qd9:∀{l:List Operand} {t:Nat} {v:BV},(t,v)∈rdB ts l→look t ts=some v
 |[],t,v,h=>by simp[rdB]at h
 |.tmp k::r,t,v,h=>by
  simp only[rdB]at h
  split at h
  ·rename_i hk
   rcases List.mem_cons.1 h with h|h
   ·cases h;exact hk
   ·exact Qd9 h
  ·exact Qd9 h
 |.const _::r,t,v,h=>Qd9 (l:=r) (by simpa only[rdB]using h)
 |.global _::r,t,v,h=>Qd9 (l:=r) (by simpa only[rdB]using h)
 |.func _::r,t,v,h=>Qd9 (l:=r) (by simpa only[rdB]using h)
def QnZ(rd:TS)(x:Operand):Option (FuncId×List BV):=match ZL rd x with
 |some (.v (.func (.func f) ⟨[]⟩ ⟨[]⟩))=>some (f,[])
 |some (.clo (.func f) cs)=>some (f,cs)
 |_=>none
def opK(P:Program)(ty:TypeId→Option TC)(E:Env)(sp:Bool)(nn:Nat)(x:TS)(o:Oper)(ts:TS)(hs:HS)(K:BEff→TS→HS→Option R):Option R:=
 match o.op with
 |.call c=>match c.callee with
  |.value (.func f)=>match Qfr (x++rdB ts o.op.operands.toList) c.args.toList with
   |some vs=>Qto P E sp nn o.dst f vs ts hs K
   |none=>none
  |.value (.tmp t)=>match QnZ (x++rdB ts o.op.operands.toList) (.tmp t),Qfr (x++rdB ts o.op.operands.toList) c.args.toList with
   |some q,some vs=>Qto P E sp nn o.dst q.1 (vs++q.2) ts hs K
   |_,_=>none
  |_=>bop P ty (x++rdB ts o.op.operands.toList) hs (goE sp nn o.dst ts hs K) o
 |_=>bop P ty (x++rdB ts o.op.operands.toList) hs (goE sp nn o.dst ts hs K) o
variable {r:R} {P:Program} {ty:TypeId→Option TC} {E:Env} {nn:Nat}
theorem Qpm{sp:Bool}{x:TS}{o:Oper}{K:BEff→TS→HS→Option R}(hE:QlZ P E)(hx:∀t v,(t,v)∈x→look t ts=some v)(h:opK P ty E sp nn x o ts hs K=some r)(hi:Inv L hs):
  ∃e L',Step P o (x++rdB ts o.op.operands.toList) L ts hs e L'∧QaG nn o.dst=true∧K e (putB o.dst e.v ts) (e.upd++hs)=some r:=by
 have hrd:∀t v,(t,v)∈x++rdB ts o.op.operands.toList→look t ts=some v:=fun t v hm=>by
  rcases List.mem_append.1 hm with hm|hm
  ·exact hx t v hm
  ·exact Qd9 hm
 have hb:bop P ty (x++rdB ts o.op.operands.toList) hs (goE sp nn o.dst ts hs K) o=some r→∃e L',Step P o (x++rdB ts o.op.operands.toList) L ts hs e L'∧QaG nn o.dst=true∧K e (putB o.dst e.v ts) (e.upd++hs)=some r:=fun h=>by
  obtain⟨e,h,hg⟩:=QwA h
  obtain⟨L',h1,h2,h3⟩:=Qo3 (rd:=x++rdB ts o.op.operands.toList) hg hrd h hi
  exact⟨e,L',h1,h2,h3⟩
 unfold opK at h
 split at h
 ·rename_i c ho
  split at h
  ·rename_i f hf
   obtain⟨callee,args,ats⟩:=c
   simp only at hf;subst hf
   split at h
   ·rename_i vs hvs
    exact Qge (rd:=x++rdB ts o.op.operands.toList) hE (fun hcall L pre h v nw hs hc=>OpOK.call ho hcall (Qc5 L hvs) hs hc) hrd h hi
   ·simp at h
  ·rename_i t hf
   obtain⟨callee,args,ats⟩:=c
   simp only at hf;subst hf
   split at h
   ·rename_i q vs hq hvs
    unfold QnZ at hq
    split at hq
    ·rename_i f hx
     cases hq
     rw[List.append_nil]at h
     exact Qge (rd:=x++rdB ts o.op.operands.toList) hE (fun hcall L pre h v nw hs hc=>OpOK.callFv ho (by have:=Qh L hx;simpa only[BV.er]using this) hcall (Qc5 L hvs) hs hc) hrd h hi
    ·rename_i f cs hx
     cases hq
     exact Qge (rd:=x++rdB ts o.op.operands.toList) hE (fun hcall L pre h v nw hs hc=>OpOK.callClo ho (by have:=Qh L hx;simpa only[BV.er]using this) hcall (Qc5 L hvs) (by rw[QpS]at hs;exact hs) hc) hrd h hi
    ·simp at hq
   ·simp at h
  ·exact hb h
 ·exact hb h
mutual
def Qr8:BV→List Name
 |.own m _=>[m]
 |.view m _ _ _=>[m]
 |.agg cs=>Qv0 cs
 |_=>[]
def Qv0:List BV→List Name
 |[]=>[]
 |x::r=>Qr8 x++Qv0 r
end
def Qv1(ts:TS)(x:Operand):List Name:=match ZL ts x with
 |some v=>Qr8 v
 |none=>[]
def QwX(ts:TS)(x:Operand):List Name:=match ZL ts x with
 |some (.view m _ _ _)=>[m]
 |_=>[]
def Qph:List Sh→List BV→List Name
 |.lst _::r,v::vs=>Qr8 v++Qph r vs
 |_::r,_::vs=>Qph r vs
 |_,_=>[]
def QuK(pre:List (Name×OSh))(hs:HS)(nm m:Name):List Name:=match look nm pre,look m hs with
 |some (.boxst _),some (.box cs)=>Qv0 cs
 |some (.box l),some (.box cs)=>Qph l cs
 |_,_=>[]
def Qpg(pre:List (Name×OSh))(hs:HS):List Name→List BV→List Name
 |nm::q,.ref m _::vs=>QuK pre hs nm m++Qpg pre hs q vs
 |_,_=>[]
def Uf(pre:List (Name×OSh))(hs:HS):List SSh→List BV→List Name
 |.one (.lst _)::r,v::vs=>Qr8 v++Uf pre hs r vs
 |.one (.ref nm)::r,.ref m _::vs=>QuK pre hs nm m++Uf pre hs r vs
 |.one (.clo _ ns)::r,.clo _ cs::vs=>Qpg pre hs ns cs++Uf pre hs r vs
 |.st _::r,v::vs=>Qr8 v++Uf pre hs r vs
 |.agg l::r,.agg cs::vs=>Qph l cs++Uf pre hs r vs
 |_::r,_::vs=>Uf pre hs r vs
 |_,_=>[]
def needs(E:Env)(ts:TS)(hs:HS)(o:Oper):List Name:=match o.op with
 |.buildSlice _ _ parts=>parts.toList.flatMap fun p=>Qv1 ts p.2
 |.store _ x y=>match ZL ts x with
  |some (.aref _ _ _ _)=>Qv1 ts y
  |_=>[]
 |.call c=>match c.callee,c.args.toList with
  |.builtin .append,[x,y]=>QwX ts x++Qv1 ts y
  |.value (.func f),args=>match Qfr ts args with
   |some vs=>match E o.dst f vs with
    |some g=>Uf g.pre hs g.args vs
    |none=>[]
   |none=>[]
  |.value (.tmp t),args=>match QnZ ts (.tmp t),Qfr ts args with
   |some q,some vs=>match E o.dst q.1 (vs++q.2)with
    |some g=>Uf g.pre hs g.args (vs++q.2)
    |none=>[]
   |_,_=>[]
  |_,_=>[]
 |_=>[]
def QcL{α:Type}(f:Nat→Bool):List Nat→List (Nat×α)→List (Nat×α)
 |_,[]=>[]
 |seen,(k,v)::r=>match f k && !isIn k seen with
  |true=>(k,v)::QcL f (k::seen) r
  |false=>QcL f seen r
def QnB{α R:Type}(f:Nat→Bool):List Nat→List (Nat×α)→(List (Nat×α)→R)→R
 |_,[],K=>K []
 |seen,(k,v)::r,K=>match f k && !isIn k seen with
  |true=>QnB f (k::seen) r fun q=>K ((k,v)::q)
  |false=>QnB f seen r K
theorem QhL{α R:Type}{f:Nat→Bool}:∀(seen:List Nat) (l:List (Nat×α)) (K:List (Nat×α)→R),QnB f seen l K=K (QcL f seen l)
 |_,[],K=>rfl
 |seen,(k,v)::r,K=>by
  simp only[QnB,QcL]
  split
  ·rw[QhL (k::seen) r]
  ·rw[QhL seen r]
theorem W6{α:Type}{f:Nat→Bool}(n:Nat):∀(seen:List Nat) (l:List (Nat×α)),look n (QcL f seen l)=if f n && !isIn n seen then look n l else none
 |seen,[]=>by simp[QcL,look]
 |seen,(k,v)::r=>by
  have isIn_cons:∀m,isIn m (k::seen)=(Nat.beq k m || isIn m seen):=fun m=>by simp[isIn]
  simp only[QcL]
  split
  ·rename_i h
   simp only[look]
   rw[W6 n (k::seen) r,isIn_cons]
   by_cases e:k=n
   ·subst e;rw[if_pos rfl,if_pos rfl,h];rfl
   ·have:Nat.beq k n=false:=Bool.eq_false_iff.2 fun h=>e (nbe h)
    rw[if_neg e,if_neg e,this,Bool.false_or]
  ·rename_i h
   rw[W6 n seen r]
   simp only[look]
   by_cases e:k=n
   ·subst e;rw[h];rfl
   ·rw[if_neg e]
theorem Inv.trim{f:Name→Bool}(hi:Inv L hs):Inv L (QcL f [] hs):=fun n t l v hn=>by
 rw[W6]at hn
 split at hn
 ·exact hi n t l v hn
 ·simp at hn
theorem Sim.only{f:Nat→Bool}{g:Name→Bool}{ρ:Name→Loc}{M:Nat→Prop}{a:Act}{w:World}{Γ:Ctx}(h:Sim Γ ρ M (BS L ts hs) a w)(hg:∀n,n∈Γ.names→g n=true):Sim Γ ρ M (BS L (QcL f [] ts) (QcL g [] hs)) a w:=by
 refine h.forget (fun t x hx=>?_) (fun n o hn=>?_) (fun n hn hc=>?_)
 ·rw[XQ,W6]at hx
  rw[XQ]
  split at hx
  ·exact hx
  ·simp at hx
 ·rw[X1,W6]at hn
  rw[X1]
  split at hn
  ·exact hn
  ·simp at hn
 ·rw[X1,W6,if_pos (by rw[hg n hn];rfl)]at hc
  obtain⟨o,ho,_⟩:=h.keep n hn
  rw[X1,hc]at ho;simp at ho
def QwL(n:Name)(ts:TS)(t:Nat):Bool:=match look t ts with
 |some (.tup vs)=>!BV.hasL n vs
 |_=>true
theorem Sim.onlyT{f:Nat→Bool}{ρ:Name→Loc}{M:Nat→Prop}{a:Act}{w:World}{Γ:Ctx}(h:Sim Γ ρ M (BS L ts hs) a w):Sim Γ ρ M (BS L (QcL f [] ts) hs) a w:=by
 have h2:=h.only (f:=f) (g:=fun _=>true) fun _ _=>rfl
 refine h2.congr (fun t=>rfl) (fun n=>?_)
 show(BS L (QcL f [] ts) hs).heap n=(BS L (QcL f [] ts) (QcL (fun _=>true) [] hs)).heap n
 rw[X1,X1,W6];rfl
def frzK(gn:List Name):List Name→TS→HS→(TS→HS→Option R)→Option R
 |[],ts,hs,K=>K ts hs
 |n::r,ts,hs,K=>match look n hs with
  |some (.arr t l v)=>QnB (QwL n ts) [] ts fun ts=>if !isIn n gn && fzB n ts hs then frzK gn r (fzT n v t l ts) (fzH n v t l hs) K else none
  |_=>frzK gn r ts hs K
theorem Qbw{gn:List Name}{Γ:Ctx}(hgn:Γ.names=gn):∀{ns:List Name} {ts:TS} {hs:HS} {K:TS→HS→Option R},frzK gn ns ts hs K=some r→Inv L hs→
  ∃ts' hs',K ts' hs'=some r∧Inv L hs'∧∀ρ M a w,Sim Γ ρ M (BS L ts hs) a w→∃ρ' M',Sim Γ ρ' M' (BS L ts' hs') a w
 |[],ts,hs,K,h,hi=>⟨ts,hs,h,hi,fun ρ M a w hs0=>⟨ρ,M,hs0⟩⟩
 |n::ns,ts,hs,K,h,hi=>by
  simp only[frzK]at h
  split at h
  ·rename_i t l v hl
   rw[QhL]at h
   split at h
   ·rename_i hb
    simp only[bae,Bool.not_eq_true']at hb
    have hn:n∉Γ.names:=fun hm=>by
     rw[hgn]at hm
     have:=Wl.2 hm
     rw[this]at hb;simp at hb
    have hi':Inv L (fzH n v t l hs):=by
     intro k t' l' u hk
     rw[Qpe]at hk
     split at hk
     ·simp at hk
     ·cases hx:look k hs with
      |none=>rw[hx]at hk;simp at hk
      |some x=>
       rw[hx]at hk
       simp only[Option.map_some,Option.some.injEq]at hk
       cases x with
       |box cs=>simp[BO.frz]at hk
       |arr t2 l2=>simp only[BO.frz]at hk;cases hk;exact hi k _ _ _ hx
       |sm es=>simp[BO.frz]at hk
    obtain⟨ts',hs',h1,h2,h3⟩:=Qbw hgn h hi'
    refine⟨ts',hs',h1,h2,fun ρ M a w hs0=>?_⟩
    obtain⟨⟨ρ1,M1,hs1⟩,_⟩:=(hs0.onlyT (f:=QwL n ts)).frz hi hn hl hb.2
    exact h3 ρ1 M1 a w hs1
   ·simp at h
  ·exact Qbw hgn h hi
section
variable (P:Program) (ty:TypeId→Option TC) (E:Env) (gn:List Name) (nn:Nat) (ops:Array Oper)
def exK(sp:Bool)(x:TS)(o:Oper)(ts:TS)(hs:HS)(K:TS→HS→Option R):Option R:=
 frzK gn (needs E ts hs o) ts hs fun ts hs=>opK P ty E sp nn x o (x++ts) hs fun _ ts hs=>K ts hs
def guarded(ops:Array Oper):Bool:=ops.toList.any fun o=>o.guard.isSome
def regK(sp:Bool)(K:TS→HS→Option R):Nat→Nat→TS→HS→Option R
 |0,i,ts,hs=>if Nat.beq ops.size i then K ts hs else none
 |f+1,i,ts,hs=>match ops[i]? with
  |none=>none
  |some o=>match o.guard with
   |none=>exK P ty E gn nn sp [] o ts hs fun ts hs=>regK sp K f (i+1) ts hs
   |some (j,b)=>match (ops[j]?).bind (·.dst)with
    |none=>none
    |some g=>match look g ts with
     |some (.b q)=>cnd q
       (match b with
        |true=>exK P ty E gn nn sp [(g,.b true)] o ts hs fun ts hs=>regK sp K f (i+1) ts hs
        |false=>if QaG nn o.dst then regK sp K f (i+1) (putB o.dst (.tup []) ts) hs else none)
       (match b with
        |true=>if QaG nn o.dst then regK sp K f (i+1) (putB o.dst (.tup []) ts) hs else none
        |false=>exK P ty E gn nn sp [(g,.b false)] o ts hs fun ts hs=>regK sp K f (i+1) ts hs)
     |some (.tup [])=>if QaG nn o.dst then regK sp K f (i+1) (putB o.dst (.tup []) ts) hs else none
     |_=>none
end
theorem Qwq{ops:Array Oper}{i:Nat}{o:Oper}{a:Act}{w:World}{K:Act→World→Prop}{Q:Exit→Act→World→Prop}(hi:ops[i]?=some o)(hw:Region.wanted o (yielded ops a.tmps)=true)(h:o.wp P a w K Q):wpOp P ops Q i K a w:=by
 unfold wpOp
 simp only[hi,hw,if_true]
 exact .inl h
theorem Qry{sp:Bool}{gn:List Name}{ops:Array Oper}{i:Nat}{x:TS}{o:Oper}{K:TS→HS→Option R}{Γ:Ctx}{KK:Act→World→Prop}{Q:Exit→Act→World→Prop}(hE:QlZ P E)(hgn:Γ.names=gn)(hn:Γ.n=nn)(h:exK P ty E gn nn sp x o ts hs K=some r)(hx:∀t v,(t,v)∈x→look t ts=some v)(hx1:∀t v,(t,v)∈x→∃q,v=.b q)(hxl:x.length≤1)(hi:Inv L hs)(hop:ops[i]?=some o)(hw:∀ρ M a w,Sim Γ ρ M (BS L ts hs) a w→Region.wanted o (yielded ops a.tmps)=true)(hK:∀ts' hs' L' ρ' M' a' w',K ts' hs'=some r→Inv L' hs'→Sim Γ ρ' M' (BS L' ts' hs') a' w'→KK a' w'):
  ∀ρ M a w,Sim Γ ρ M (BS L ts hs) a w→wpOp P ops Q i KK a w:=by
 intro ρ M a w hs0
 have hw0:=hw ρ M a w hs0
 obtain⟨ts1,hs1,h,hi1,hfz⟩:=Qbw hgn h hi
 obtain⟨ρ1,M1,hs1'⟩:=hfz ρ M a w hs0
 have hxx:Sim Γ ρ1 M1 (BS L (x++ts1) hs1) a w:=by
  refine⟨hs1'.n,hs1'.d,fun t y hy=>?_,hs1'.objs,hs1'.inj,hs1'.own0,hs1'.keep,hs1'.ext,hs1'.mext,hs1'.msize,hs1'.m0,hs1'.ground⟩
  obtain⟨v,hv,rfl⟩:=QlO hy
  rw[YG]at hv
  cases hl:look t x with
  |none=>rw[hl]at hv;simp only at hv;exact hs1'.slots t _ (by rw[XQ,hv];rfl)
  |some v'=>
   rw[hl]at hv;cases hv
   have hm:=Q0 hl
   obtain⟨q,rfl⟩:=hx1 t v hm
   obtain⟨u,hu,hr⟩:=hs0.slots t ((BV.b q).er L) (by rw[XQ,hx t _ hm];rfl)
   refine⟨u,hu,?_⟩
   simp only[BV.er,AV.R,PV.R]at hr ⊢
   exact hr
 obtain⟨e,L',hst,hd,hK'⟩:=Qpm hE (fun t v hm=>by
  rw[YG]
  match x,hxl,hm with
  |[(t0,v0)],_,hm=>
   simp only[List.mem_singleton,Prod.mk.injEq]at hm
   obtain⟨rfl,rfl⟩:=hm
   simp only[look,if_true]) h hi1
 exact Qwq hop hw0 (hst.go hd hn hxx fun ρ' M' a' w' hs'=>hK _ _ L' ρ' M' a' w' hK' hst.inv hs')
theorem Qwr{ops:Array Oper}{Γ:Ctx}{ρ:Name→Loc}{M:Nat→Prop}{a:Act}{w:World}{j g:Nat}{q:Bool}(hj:(ops[j]?).bind (·.dst)=some g)(hl:look g ts=some (.b q))(hs0:Sim Γ ρ M (BS L ts hs) a w):yielded ops a.tmps j=some q:=by
 obtain⟨oj,h1,h2⟩:=Vh hj
 exact QgK hs0 h1 h2 (by rw[XQ,hl];simp only[Option.map_some,BV.er])
theorem Qwe{ops:Array Oper}{i j g:Nat}{o:Oper}{b:Bool}{v:BV}{Γ:Ctx}{KK:Act→World→Prop}{Q:Exit→Act→World→Prop}(hop:ops[i]?=some o)(hg:o.guard=some (j,b))(hj:(ops[j]?).bind (·.dst)=some g)(hl:look g ts=some v)(hv:v=.b (!b)∨v=.tup [])(hd:QaG nn o.dst=true)(hn:Γ.n=nn)(hK:∀ρ' M' a' w',Sim Γ ρ' M' (BS L (putB o.dst (.tup []) ts) hs) a' w'→KK a' w'):∀ρ M a w,Sim Γ ρ M (BS L ts hs) a w→wpOp P ops Q i KK a w:=by
 intro ρ M a w hs0
 obtain⟨oj,h1,h2⟩:=Vh hj
 have hd':∀d,o.dst=some d→d<Γ.n:=fun d hd'=>by rw[hd']at hd;simp only[QaG]at hd;rw[hn];exact Nat.le_of_ble_eq_true hd
 have hrun:∀x:AV,(BS L ts hs).run o.dst ⟨[(g,x)],[],.tup [],[],[]⟩=BS L (putB o.dst (.tup []) ts) hs:=fun x=>by
  unfold BS
  rw[QmQ]
  cases o.dst with
  |none=>rfl
  |some d=>simp only[putT,putB,erT,List.map_cons,BV.er,erL,List.nil_append]
 rcases hv with rfl|rfl
 ·refine ZE.skipped hop hg h1 h2 Γ ρ M _ a w KK Q hs0 ⟨fun t x hx=>?_,fun n ob hn=>by simp at hn,fun n hn=>by simp at hn⟩ hd' (fun ρ' M' a' w' hs'=>hK ρ' M' a' w' (by rw[hrun]at hs';exact hs'))
  simp only[List.mem_singleton,Prod.mk.injEq]at hx
  obtain⟨rfl,rfl⟩:=hx
  rw[XQ,hl];simp only[Option.map_some,BV.er]
 ·refine ZE.skipped2 hop hg h1 h2 Γ ρ M _ a w KK Q hs0 ⟨fun t x hx=>?_,fun n ob hn=>by simp at hn,fun n hn=>by simp at hn⟩ hd' (fun ρ' M' a' w' hs'=>hK ρ' M' a' w' (by rw[hrun]at hs';exact hs'))
  simp only[List.mem_singleton,Prod.mk.injEq]at hx
  obtain⟨rfl,rfl⟩:=hx
  rw[XQ,hl];simp only[Option.map_some,BV.er,erL]
theorem Qsq{sp:Bool}{gn:List Name}{ops:Array Oper}{K:TS→HS→Option R}{Γ:Ctx}{Q:Exit→Act→World→Prop}(hE:QlZ P E)(hgn:Γ.names=gn)(hn:Γ.n=nn)(hQ:∀ts' hs' L' ρ' M' a' w',K ts' hs'=some r→Inv L' hs'→Sim Γ ρ' M' (BS L' ts' hs') a' w'→Q .normal a' w'):
  ∀(f i:Nat) (ts:TS) (hs:HS) (L:Lens),regK P ty E gn nn ops sp K f i ts hs=some r→Inv L hs→∀ρ M a w,Sim Γ ρ M (BS L ts hs) a w→wpOps P ops Q (List.range' i (ops.size - i)) a w
 |0,i,ts,hs,L,h,hi,ρ,M,a,w,hs0=>by
  simp only[regK]at h
  split at h
  ·rename_i e
   rw[nbe e,Nat.sub_self]
   simp only[List.range'_zero,wpOps]
   exact hQ ts hs L ρ M a w h hi hs0
  ·simp at h
 |f+1,i,ts,hs,L,h,hi,ρ,M,a,w,hs0=>by
  simp only[regK]at h
  split at h
  ·simp at h
  ·rename_i o hop
   have hlt:i<ops.size:=(Array.getElem?_eq_some_iff.1 hop).1
   rw[show ops.size - i=(ops.size - (i+1))+1 by omega,List.range'_succ,wpOps_cons]
   have ih:=Qsq (sp:=sp) (gn:=gn) (ops:=ops) (K:=K) (Γ:=Γ) (Q:=Q) hE hgn hn hQ f (i+1)
   have hskip:∀{j:Nat} {b:Bool} {g:Nat} {v:BV},o.guard=some (j,b)→(ops[j]?).bind (·.dst)=some g→look g ts=some v→(v=.b (!b)∨v=.tup [])→
     (if QaG nn o.dst then regK P ty E gn nn ops sp K f (i+1) (putB o.dst (.tup []) ts) hs else none)=some r→wpOp P ops Q i (wpOps P ops Q (List.range' (i+1) (ops.size - (i+1)))) a w:=fun hg hj hl hv h=>by
    split at h
    ·rename_i hd
     exact Qwe hop hg hj hl hv hd hn (fun ρ' M' a' w' hs'=>ih _ _ L h hi ρ' M' a' w' hs') ρ M a w hs0
    ·simp at h
   have hex:∀{j:Nat} {b:Bool} {g:Nat},o.guard=some (j,b)→(ops[j]?).bind (·.dst)=some g→look g ts=some (.b b)→
     exK P ty E gn nn sp [(g,.b b)] o ts hs (fun ts hs=>regK P ty E gn nn ops sp K f (i+1) ts hs)=some r→wpOp P ops Q i (wpOps P ops Q (List.range' (i+1) (ops.size - (i+1)))) a w:=fun{j b g} hg hj hl h=>
    Qry hE hgn hn h (fun t v hm=>by simp only[List.mem_singleton,Prod.mk.injEq]at hm;obtain⟨rfl,rfl⟩:=hm;exact hl) (fun t v hm=>by simp only[List.mem_singleton,Prod.mk.injEq]at hm;obtain⟨rfl,rfl⟩:=hm;exact⟨b,rfl⟩) (Nat.le_refl _) hi hop
     (fun ρ M a w hs0=>by unfold Region.wanted;simp only[hg,Qwr hj hl hs0,beq_self_eq_true]) (fun ts' hs' L' ρ' M' a' w' hK' hi' hs'=>ih _ _ L' hK' hi' ρ' M' a' w' hs') ρ M a w hs0
   split at h
   ·rename_i hg
    exact Qry hE hgn hn h (fun t v hm=>by simp at hm) (fun t v hm=>by simp at hm) (by simp) hi hop (fun ρ M a w _=>by unfold Region.wanted;simp only[hg]) (fun ts' hs' L' ρ' M' a' w' hK' hi' hs'=>ih _ _ L' hK' hi' ρ' M' a' w' hs') ρ M a w hs0
   ·rename_i j b hg
    split at h
    ·simp at h
    ·rename_i g hj
     split at h
     ·rename_i q hl
      rcases Qfm h with⟨rfl,h⟩|⟨rfl,h⟩
      ·cases b with
       |true=>exact hex hg hj hl h
       |false=>exact hskip hg hj hl (.inl rfl) h
      ·cases b with
       |true=>exact hskip hg hj hl (.inl rfl) h
       |false=>exact hex hg hj hl h
     ·rename_i hl
      exact hskip hg hj hl (.inr rfl) h
     ·simp at h
end
end Go.Proofs.YtadlpefpehjcoaaGreat.AM
/-
  The typed layer, part L: code. No project text.
-/
namespace Go.Proofs.YtadlpefpehjcoaaGreat.AM
open Go
abbrev BRow:=Option Nat×TS×BEff
def BRow.row(L:Lens)(b:BRow):Row:=(b.1,⟨erT L b.2.1,erH L b.2.2.hp,b.2.2.v.er L,erH L b.2.2.upd,b.2.2.nw⟩)
def L0:Lens:=fun _ _=>0
def Qiy(ops:Array Oper)(rows:List BRow)(ts:TS)(hs:HS):Bool:=indep ops (rows.map (BRow.row L0)) (erT L0 ts) (erH L0 hs)
section
variable {L L':Lens}
theorem QtM(a:TS):keys (erT L a)=keys a:=by simp[erT,keys]
theorem Qj6(n:Name)(b:BRow):(b.row L).2.has n=(b.row L').2.has n:=by
 simp only[BRow.row,Eff.has,Qo7]
 congr 1
 simp only[erH,List.any_map]
 congr 1;funext p;simp only[Function.comp,QrG]
theorem QqP(x y:BRow):QjX (x.row L) (y.row L)=QjX (x.row L') (y.row L'):=by
 simp only[QjX,BRow.row,QtM,Qb5]
 have:(fun n=>!Eff.has n ⟨erT L y.2.1,erH L y.2.2.hp,y.2.2.v.er L,erH L y.2.2.upd,y.2.2.nw⟩)=fun n=>!Eff.has n ⟨erT L' y.2.1,erH L' y.2.2.hp,y.2.2.v.er L',erH L' y.2.2.upd,y.2.2.nw⟩:=by
  funext n;have:=Qj6 (L:=L) (L':=L') n y;simp only[BRow.row]at this;rw[this]
 rw[this]
theorem QmG(i:Nat)(x:BRow):∀(j:Nat) (l:List (BRow×Nat)),QeP i (x.row L) j (l.map fun p=>(p.1.row L,p.2))=QeP i (x.row L') j (l.map fun p=>(p.1.row L',p.2))
 |_,[]=>rfl
 |j,(y,m)::r=>by simp only[List.map_cons,QeP,QqP (L:=L) (L':=L') x y,QmG i x (j+1) r]
theorem QmV:∀(i:Nat) (l:List (BRow×Nat)),QeZ i (l.map fun p=>(p.1.row L,p.2))=QeZ i (l.map fun p=>(p.1.row L',p.2))
 |_,[]=>rfl
 |i,(x,m)::r=>by simp only[List.map_cons,QeZ,QmG (L:=L) (L':=L') i x (i+1) r,QmV (i+1) r]
theorem Qpi(ts:TS)(hs:HS):∀(l past:List BRow),QgY (erT L ts) (erH L hs) (l.map (BRow.row L)) (past.map (BRow.row L))=QgY (erT L' ts) (erH L' hs) (l.map (BRow.row L')) (past.map (BRow.row L'))
 |[],past=>by simp only[List.map_nil,QgY]
 |y::r,past=>by
  have ih:=Qpi ts hs r (past++[y])
  simp only[List.map_append,List.map_cons,List.map_nil]at ih
  simp only[List.map_cons,QgY,ih]
  congr 1
  show(y.2.2.nw.all fun n=>_)=(y.2.2.nw.all fun n=>_)
  congr 1;funext n
  simp only[List.all_map,QdN,BRow.row,Qb5]
  congr 2
  congr 1;funext x
  have:=Qj6 (L:=L) (L':=L') n x
  simp only[BRow.row]at this
  simp only[Function.comp,BRow.row,this]
theorem QmF{ops:Array Oper}{rows:List BRow}{ts:TS}{hs:HS}(h:Qiy ops rows ts hs=true)(L:Lens):indep ops (rows.map (BRow.row L)) (erT L ts) (erH L hs)=true:=by
 unfold Qiy indep at h
 unfold indep
 have e:∀(L:Lens) (ms:List Nat),(rows.map (BRow.row L)).zip ms=(rows.zip ms).map fun p=>(p.1.row L,p.2):=fun L ms=>by
  rw[List.zip_map_left];rfl
 rw[e,QmV (L:=L) (L':=AM.L0),←e]
 have:=Qpi (L:=L) (L':=AM.L0) ts hs rows []
 simp only[List.map_nil]at this
 rw[this]
 exact h
end
section
variable {R:Type} (P:Program) (ty:TypeId→Option TC) (E:Env) (gn:List Name) (nn:Nat) (ops:Array Oper)
def anyB(d:Option Nat)(v:BV):Bool:=match d,v with
 |some _,_=>true
 |none,.any=>true
 |none,_=>false
def Qgf(sp:Bool)(m:Nat)(K:List BRow→TS→HS→Option R):Nat→Nat→List BRow→TS→HS→Option R
 |0,i,acc,ts,hs=>if Nat.beq m i then K acc.reverse ts hs else none
 |f+1,i,acc,ts,hs=>match ops[i]? with
  |none=>none
  |some o=>match o.guard with
   |none=>opK P ty E sp nn [] o ts hs fun e ts' hs'=>if anyB o.dst e.v then Qgf sp m K f (i+1) ((o.dst,rdB ts o.op.operands.toList,e)::acc) ts' hs' else none
   |some (j,b)=>match (ops[j]?).bind (·.dst)with
    |none=>none
    |some g=>match look g ts with
     |some (.b q)=>cnd q
       (match b with
        |true=>opK P ty E sp nn [(g,.b true)] o ts hs fun e ts' hs'=>if anyB o.dst e.v then Qgf sp m K f (i+1) ((o.dst,(g,.b true)::rdB ts o.op.operands.toList,e)::acc) ts' hs' else none
        |false=>if QaG nn o.dst then Qgf sp m K f (i+1) ((o.dst,[(g,.b true)],ev (.tup []))::acc) (putB o.dst (.tup []) ts) hs else none)
       (match b with
        |true=>if QaG nn o.dst then Qgf sp m K f (i+1) ((o.dst,[(g,.b false)],ev (.tup []))::acc) (putB o.dst (.tup []) ts) hs else none
        |false=>opK P ty E sp nn [(g,.b false)] o ts hs fun e ts' hs'=>if anyB o.dst e.v then Qgf sp m K f (i+1) ((o.dst,(g,.b false)::rdB ts o.op.operands.toList,e)::acc) ts' hs' else none)
     |some (.tup [])=>if QaG nn o.dst then Qgf sp m K f (i+1) ((o.dst,[(g,.tup [])],ev (.tup []))::acc) (putB o.dst (.tup []) ts) hs else none
     |_=>none
end
def noB:BRow:=(none,[],ev .any)
def QvJ(ops:Array Oper):Bool:=match ops[ops.size - 1]? with
 |some ⟨_,.store _ _ _,_,_,_,none⟩=>(List.range (ops.size - 1)).all fun j=>((masks ops.toList []).getD (ops.size - 1) 0).testBit j
 |_=>false
inductive Ann where
 |go
 |two (a b:Ann)
 |one (a:Ann)
 /-- The states that come out of it normally are said in this shape; what follows is said once. -/
 |join (s:List (Nat×SSh)) (o:List (Name×OSh)) (a:Ann)
 /-- A loop whose rounds begin in this shape. -/
 |loop (s:List (Nat×SSh)) (o:List (Name×OSh)) (a:Ann)
 /-- Arrays that are frozen ahead of it. -/
 |frz (ns:List Name) (a:Ann)
def Ann.l:Ann→Ann
 |.two a _=>a
 |.one a=>a
 |.loop _ _ a=>a
 |_=>.go
def Ann.r:Ann→Ann
 |.two _ b=>b
 |_=>.go
section
variable {R:Type} (P:Program) (ty:TypeId→Option TC) (E:Env) (gn:List Name) (nn fu:Nat)
abbrev Cont(R:Type):=Exit→TS→HS→Option R
def QvG(σ:Ren):Bool:=σ.all fun p=>Nat.beq p.1 p.2.1 && Qkb p.1 p.2.1 p.2.2 σ
def QwW(n:Name)(hs:HS):Nat:=match look n hs with
 |some (.arr _ _ v)=>v
 |_=>0
def getS(s:List (Nat×SSh))(o:List (Name×OSh))(ts:TS)(hs:HS)(K:STL s×OL o→Option R):Option R:=
 STL.get s ts [] fun σ x=>OL.get o hs (gn.map (fun n=>(n,(n,QwW n hs)))++σ) fun σ y=>if QvG σ && gn.all (fun n=>isIn n (keys o))then K (x,y)else none
def thawA(o:List (Name×OSh))(t:Nat):Nat→List Sh→TS→HS→(TS→HS→Option R)→Option R
 |_,[],ts,hs,K=>K ts hs
 |j,.own nm::r,ts,hs,K=>match look t ts with
  |some (.agg cells)=>match cells[j]?,look nm o with
   |some .nil,some (.arr tc)=>if (look nm hs).isNone && Qc6 nm ts hs && Nat.ble 1 (tz tc)then thawA o t (j+1) r ((t,.agg (cells.set j (.own nm 0)))::ts) ((nm,.arr tc [] 0)::hs) K else none
   |some (.ts true _ []),some (.arr tc)=>if (look nm hs).isNone && Qc6 nm ts hs && Nat.ble 1 (tz tc)then thawA o t (j+1) r ((t,.agg (cells.set j (.own nm 0)))::ts) ((nm,.arr tc [] 0)::hs) K else none
   |_,_=>thawA o t (j+1) r ts hs K
  |_=>thawA o t (j+1) r ts hs K
 |j,_::r,ts,hs,K=>thawA o t (j+1) r ts hs K
def QjQ(o:List (Name×OSh)):List (Nat×SSh)→TS→HS→(TS→HS→Option R)→Option R
 |(t,.agg l)::r,ts,hs,K=>thawA o t 0 l ts hs fun ts hs=>QjQ o r ts hs K
 |(t,.one (.own nm))::r,ts,hs,K=>match look t ts,look nm o with
  |some .nil,some (.arr tc)=>if (look nm hs).isNone && Qc6 nm ts hs && Nat.ble 1 (tz tc)then QjQ o r ((t,.own nm 0)::ts) ((nm,.arr tc [] 0)::hs) K else none
  |some (.ts true _ []),some (.arr tc)=>if (look nm hs).isNone && Qc6 nm ts hs && Nat.ble 1 (tz tc)then QjQ o r ((t,.own nm 0)::ts) ((nm,.arr tc [] 0)::hs) K else none
  |_,_=>QjQ o r ts hs K
 |_::r,ts,hs,K=>QjQ o r ts hs K
 |[],ts,hs,K=>K ts hs
def QlS(o:List (Name×OSh))(m:Name)(ts:TS):Nat→List Sh→HS→(HS→Option R)→Option R
 |_,[],hs,K=>K hs
 |j,.own nm::r,hs,K=>match look m hs with
  |some (.box cells)=>match cells[j]?,look nm o with
   |some .nil,some (.arr tc)=>if (look nm hs).isNone && Qc6 nm ts hs && Nat.ble 1 (tz tc)then QlS o m ts (j+1) r ((m,.box (cells.set j (.own nm 0)))::(nm,.arr tc [] 0)::hs) K else none
   |some (.ts true _ []),some (.arr tc)=>if (look nm hs).isNone && Qc6 nm ts hs && Nat.ble 1 (tz tc)then QlS o m ts (j+1) r ((m,.box (cells.set j (.own nm 0)))::(nm,.arr tc [] 0)::hs) K else none
   |_,_=>QlS o m ts (j+1) r hs K
  |_=>QlS o m ts (j+1) r hs K
 |j,_::r,hs,K=>QlS o m ts (j+1) r hs K
def QsR(o:List (Name×OSh))(ts:TS):List (Name×OSh)→HS→(HS→Option R)→Option R
 |(m,.box l)::r,hs,K=>QlS o m ts 0 l hs fun hs=>QsR o ts r hs K
 |_::r,hs,K=>QsR o ts r hs K
 |[],hs,K=>K hs
def QwE(s:List (Nat×SSh))(t:Nat):Bool:=(look t s).isSome
def QrN(gn:List Name)(o:List (Name×OSh))(hs:HS)(n:Name):Bool:=match look n hs with
 |some (.box _)=>(look n o).isSome || isIn n gn
 |_=>true
def QmH(gn:List Name)(o:List (Name×OSh))(ts:TS)(hs:HS)(n:Name):Bool:=match look n hs with
 |some (.arr _ _ _)=>isIn n gn || (look n o).isNone || !Qc6 n ts hs
 |_=>true
def Qkq(s:List (Nat×SSh))(o:List (Name×OSh))(ts:TS)(hs:HS)(K:STL s×OL o→Option R):Option R:=
 QnB (QwE s) [] ts fun ts'=>QnB (QrN gn o hs) [] hs fun hs'=>frzK gn (Uf o hs (s.map (·.2)) (s.map fun p=>(look p.1 ts).getD .any)) ts' hs' fun ts hs=>QnB (QmH gn o ts hs) [] hs fun hs=>QjQ o s ts hs fun ts hs=>QsR o ts o hs fun hs=>getS gn s o (Qus hs s ts) hs K
def QtU(K:Cont R)(N:TS→HS→Option R):Cont R:=fun e ts hs=>match e with
 |.normal=>N ts hs
 |e=>K e ts hs
def QuA(id:Nat)(K:Cont R):Cont R:=fun e ts hs=>match e with
 |.exit k=>if Nat.beq k id then K .normal ts hs else K (.exit k) ts hs
 |e=>K e ts hs
def around(an:Ann)(ts:TS)(hs:HS)(K:Cont R)(body:Ann→TS→HS→Cont R→Option R):Option R:=match an with
 |.join s o a=>join (fun y:STL s×OL o=>K .normal (STL.put 0 s y.1) (OL.put 0 o y.2)) fun J=>body a ts hs (QtU K fun ts hs=>Qkq gn s o ts hs J)
 |.frz ns a=>frzK gn ns ts hs fun ts hs=>body a ts hs K
 |a=>body a ts hs K
def vc[DecidableEq R]:Code→Ann→TS→HS→Cont R→Option R
 |.skip,an,ts,hs,K=>K .normal ts hs
 |.label _,an,ts,hs,K=>K .normal ts hs
 |.ret,an,ts,hs,K=>K .ret ts hs
 |.exit id,an,ts,hs,K=>K (.exit id) ts hs
 |.seq a b,an,ts,hs,K=>around gn an ts hs K fun an ts hs K=>vc a an.l ts hs (QtU K fun ts hs=>vc b an.r ts hs K)
 |.cond (.tmp t) a b,an,ts,hs,K=>around gn an ts hs K fun an ts hs K=>match look t ts with
  |some (.b q)=>cnd q (vc a an.l ts hs K) (vc b an.r ts hs K)
  |some .ub=>both (vc a an.l ts hs K) (vc b an.r ts hs K)
  |_=>none
 |.cond (.const (.bool q)) a b,an,ts,hs,K=>around gn an ts hs K fun an ts hs K=>match q with
  |true=>vc a an.l ts hs K
  |false=>vc b an.r ts hs K
 |.block id a,an,ts,hs,K=>around gn an ts hs K fun an ts hs K=>vc a an.l ts hs (QuA id K)
 |.loop a,an,ts,hs,K=>match an with
  |.loop s o an=>Qkq gn s o ts hs fun x=>Qj (fun Lp x=>vc a an (STL.put 0 s x.1) (OL.put 0 o x.2) (QtU K fun ts hs=>Qkq gn s o ts hs Lp)) fu x
  |_=>none
 |.region _ ops dr,an,ts,hs,K=>around gn an ts hs K fun an ts hs K=>match dr with
  |false=>regK P ty E gn nn ops (guarded ops) (fun ts hs=>K .normal ts hs) ops.size 0 ts hs
  |true=>if P.follows .mixedOrders then(match QvJ ops with
   |true=>Qgf P ty E nn ops (guarded ops) (ops.size - 1) (fun rows ts' hs'=>if Qiy ops (rows++[noB]) ts hs then(match ops[ops.size - 1]? with
    |some o=>exK P ty E gn nn (guarded ops) [] o ts' hs' (fun ts hs=>K .normal ts hs)
    |none=>none)else none) (ops.size - 1) 0 [] ts hs
   |false=>Qgf P ty E nn ops (guarded ops) ops.size (fun rows ts' hs'=>if Qiy ops rows ts hs then K .normal ts' hs' else none) ops.size 0 [] ts hs)else none
 |_,_,_,_,_=>none
end
end Go.Proofs.YtadlpefpehjcoaaGreat.AM
/-
  The typed layer, part M: code does what is reckoned of it. No project text.
-/
namespace Go.Proofs.YtadlpefpehjcoaaGreat.AM
open Go
theorem AWp.drawG{P:Program}{Γ:Ctx}{id:Nat}{ops:Array Oper}{ts ts':List (Nat×AV)}{hs hs':List (Name×AO)}{Q:Exit→AS→Prop}{n:Nat}(hn:Γ.n=n)(hmode:(P.follows .mixedOrders || !Region.departs ops)=true)(L:List Row)(hst:Wu P ops 0 L)(hg:got n L ts hs=(VQ L,VP L,true,ts',hs'))(hind:indep ops L ts hs=true)(hQ:Q .normal (mk ts' hs')):AWp P Γ (.region id ops true) (mk ts hs) Q:=by
 intro ρ M a w hsim
 refine wp_region_draw fun t=>?_
 have hsch:Region.schedule (P.follows .mixedOrders) ops t=Region.linearise .any ops t:=by
  unfold Region.schedule;rw[hmode];rfl
 rw[hsch]
 refine wpAny_sound ops.size t _ a _ ?_
 refine Ql5 hn hst (by rw[hg]) (by rw[hg]) (by rw[hg]) hind (Q:=fun e a' w'=>∃s' ρ' M',Q e s'∧Sim Γ ρ' M' s' a' w') (fun ρ' M' a' w' hs=>⟨_,ρ',M',hQ,by rw[hg]at hs;exact hs⟩)
  ops.size (Array.replicate ops.size false) a _ ρ M (by simp) (fun i o hi hl=>by simp[Array.getD_eq_getD_getElem?,Array.getElem?_replicate]at hl;split at hl<;>simp at hl) ?_ ?_
 ·have:∀(f:Nat→Bool) k,cnt f k≤k:=by
   intro f k
   induction k with
   |zero=>exact Nat.le_refl _
   |succ k ih=>simp only[cnt];split<;>omega
  exact this _ _
 ·refine hsim.drew.congr (fun t=>?_) (fun m=>?_)
  ·have:=VT (E:=fun i=>WJ L i) (D:=fun i=>(Array.replicate ops.size false).getD i false) (s:=mk ts hs) (t:=t) (i:=0) L.length (by omega) (fun j _ _ _=>by
    simp only[Array.getD_eq_getD_getElem?,Array.getElem?_replicate];split<;>rfl)
   exact this
  ·have:=WS (E:=fun i=>WJ L i) (D:=fun i=>(Array.replicate ops.size false).getD i false) (s:=mk ts hs) (m:=m) (i:=0) L.length (by omega) (fun j _ _ _=>by
    simp only[Array.getD_eq_getD_getElem?,Array.getElem?_replicate];split<;>rfl)
   exact this
theorem AWp.drawX{P:Program}{Γ:Ctx}{id:Nat}{ops:Array Oper}{ts ts':List (Nat×AV)}{hs hs':List (Name×AO)}{Q:Exit→AS→Prop}{n:Nat}(hn:Γ.n=n)(hmode:(P.follows .mixedOrders || !Region.departs ops)=true)(h0:0<ops.size)(L:List Row)(hst:Qbr P ops (ops.size - 1) 0 L)(hg:got n L ts hs=(VQ L,VP L,true,ts',hs'))(hind:indep ops (L++[QbA]) ts hs=true)(hm:∀j,j<ops.size - 1→((masks ops.toList []).getD (ops.size - 1) 0).testBit j=true)(hlast:∀(K:Act→World→Prop),(∀s' ρ' M' a' w',Q .normal s'→Sim Γ ρ' M' s' a' w'→K a' w')→∀ρ M a w,Sim Γ ρ M (mk ts' hs') a w→
   wpOp P ops (fun e a' w'=>∃s' ρ' M',Q e s'∧Sim Γ ρ' M' s' a' w') (ops.size - 1) K a w):AWp P Γ (.region id ops true) (mk ts hs) Q:=by
 obtain⟨hsteps,hsize⟩:=QgH hst
 have hlen:(L++[QbA]).length=ops.size:=by simp;omega
 have hL:L.length=ops.size - 1:=by omega
 intro ρ M a w hsim
 refine wp_region_draw fun t=>?_
 have hsch:Region.schedule (P.follows .mixedOrders) ops t=Region.linearise .any ops t:=by
  unfold Region.schedule;rw[hmode];rfl
 rw[hsch]
 refine wpAny_sound ops.size t _ a _ ?_
 have hgn:=QmE n L ts hs
 refine QjW (L:=L++[QbA]) true hn (Q:=fun e a' w'=>∃s' ρ' M',Q e s'∧Sim Γ ρ' M' s' a' w') (fun i y hi hlt=>?_) hlen.symm (by rw[hgn,hg,Qjn]) (by rw[hgn,hg,Qjm]) (by rw[hgn,hg]) hind
  (fun _=>?_) (fun h=>by simp at h) ops.size (Array.replicate ops.size false) a _ ρ M (by simp) (fun _=>by
   simp only[Array.getD_eq_getD_getElem?,Array.getElem?_replicate];split<;>rfl) (fun i o hi hl=>by simp[Array.getD_eq_getD_getElem?,Array.getElem?_replicate]at hl;split at hl<;>simp at hl) ?_ ?_
 ·have hi2:=hlt rfl
  rw[List.getElem?_append_left (by omega)]at hi
  have:=hsteps i y hi
  rwa [Nat.zero_add]at this
 ·rw[hlen]
  refine⟨h0,by rw[List.getElem?_append_right (by omega),hL,Nat.sub_self];rfl,hm,fun ρ M a w K hs hK=>?_⟩
  rw[hgn,hg]at hs
  exact hlast K (fun s' ρ' M' a' w' hq hs'=>hK a' w' ⟨s',ρ',M',hq,hs'⟩) ρ M a w hs
 ·have:∀(f:Nat→Bool) k,cnt f k≤k:=by
   intro f k
   induction k with
   |zero=>exact Nat.le_refl _
   |succ k ih=>simp only[cnt];split<;>omega
  exact this _ _
 ·refine hsim.drew.congr (fun t=>?_) (fun m=>?_)
  ·have:=VT (E:=fun i=>WJ (L++[QbA]) i) (D:=fun i=>(Array.replicate ops.size false).getD i false) (s:=mk ts hs) (t:=t) (i:=0) (L++[QbA]).length (by omega) (fun j _ _ _=>by
    simp only[Array.getD_eq_getD_getElem?,Array.getElem?_replicate];split<;>rfl)
   exact this
  ·have:=WS (E:=fun i=>WJ (L++[QbA]) i) (D:=fun i=>(Array.replicate ops.size false).getD i false) (s:=mk ts hs) (m:=m) (i:=0) (L++[QbA]).length (by omega) (fun j _ _ _=>by
    simp only[Array.getD_eq_getD_getElem?,Array.getElem?_replicate];split<;>rfl)
   exact this
variable {L L':Lens} {ts ts':TS} {hs hs':HS}
theorem Qvy{t:Nat}{v:BV}(h:erT L ts=erT L' ts)(hm:(t,v)∈ts):v.er L=v.er L':=by
 unfold erT at h
 have:=(List.map_inj_left.1 h) _ hm
 simpa using this
theorem Qrv{t:Name}{v:BO}(h:erH L hs=erH L' hs)(hm:(t,v)∈hs):v.er L=v.er L':=by
 unfold erH at h
 have:=(List.map_inj_left.1 h) _ hm
 simpa using this
theorem QvA{rd:TS}(h:erT L ts=erT L' ts)(hs:∀t v,(t,v)∈rd→look t ts=some v):erT L rd=erT L' rd:=by
 unfold erT
 exact List.map_congr_left fun p hp=>by rw[Qvy h (Q0 (hs p.1 p.2 hp))]
theorem Qvx{hp:HS}(h:erH L hs=erH L' hs)(hsub:∀t v,(t,v)∈hp→look t hs=some v):erH L hp=erH L' hp:=by
 unfold erH
 exact List.map_congr_left fun p hp=>by rw[Qrv h (Q0 (hsub p.1 p.2 hp))]
theorem Qvw{a b:HS}(h:erH L (a++b)=erH L' (a++b)):erH L a=erH L' a∧erH L b=erH L' b:=by
 rw[QdM,QdM]at h
 exact List.append_inj h (by simp[erH])
theorem Qvz{d:Option Nat}{v:BV}(h:erT L (putB d v ts)=erT L' (putB d v ts))(ha:anyB d v=true):erT L ts=erT L' ts∧v.er L=v.er L':=by
 cases d with
 |some d=>
  simp only[putB,erT,List.map_cons,List.cons.injEq,Prod.mk.injEq,true_and]at h
  exact⟨h.2,h.1⟩
 |none=>
  refine⟨h,?_⟩
  cases v<;>first|rfl|simp[anyB]at ha
section
variable {R:Type} {r:R} {P:Program} {ty:TypeId→Option TC} {E:Env} {nn:Nat}
theorem Qo4{d:Option Nat}{e:Eff}{rows:List Row}{ts:List (Nat×AV)}{hs:List (Name×AO)}{ts':List (Nat×AV)}{hs':List (Name×AO)}(h1:∀t x,(t,x)∈e.rd→look t ts=some x)(h2:∀n o,(n,o)∈e.hp→look n hs=some o)(hd:QaG nn d=true)(hnw:QmR e ts hs=true)(h:got nn rows (putT ts d e) (e.upd++hs)=(VQ rows,VP rows,true,ts',hs')):got nn ((d,e)::rows) ts hs=(VQ ((d,e)::rows),VP ((d,e)::rows),true,ts',hs'):=by
 simp only[got,h,VQ,VP,hd,hnw,Bool.and_self]
 have e1:e.rd.map (fun p=>look p.1 ts)=e.rd.map (fun p=>some p.2):=List.map_congr_left fun p hp=>h1 p.1 p.2 hp
 have e2:e.hp.map (fun p=>look p.1 hs)=e.hp.map (fun p=>some p.2):=List.map_congr_left fun p hp=>h2 p.1 p.2 hp
 rw[e1,e2]
theorem QdJ{sp:Bool}{mm:Nat}{ops:Array Oper}{K:List BRow→TS→HS→Option R}(hE:QlZ P E):∀(f i:Nat) (acc:List BRow) (ts:TS) (hs:HS) (L:Lens),Qgf P ty E nn ops sp mm K f i acc ts hs=some r→Inv L hs→
  ∃rows ts' hs' L',K (acc.reverse++rows) ts' hs'=some r∧Inv L' hs'∧Qbr P ops mm i (rows.map (BRow.row L'))∧erT L ts=erT L' ts∧erH L hs=erH L' hs∧
   got nn (rows.map (BRow.row L')) (erT L' ts) (erH L' hs)=(VQ (rows.map (BRow.row L')),VP (rows.map (BRow.row L')),true,erT L' ts',erH L' hs')
 |0,i,acc,ts,hs,L,h,hi=>by
  simp only[Qgf]at h
  split at h
  ·rename_i e
   exact⟨[],ts,hs,L,by simpa using h,hi,nbe e,rfl,rfl,by simp only[List.map_nil,got,VQ,VP]⟩
  ·simp at h
 |f+1,i,acc,ts,hs,L,h,hi=>by
  simp only[Qgf]at h
  split at h
  ·simp at h
  ·rename_i o hop
   have hdo:∀(x:TS),(∀t v,(t,v)∈x→look t ts=some v)→(∀e':Eff,(∀p,p∈x→(p.1,p.2.er L)∈e'.rd)→OpOK P o e'→ZE P ops i o.dst e')→
     opK P ty E sp nn x o ts hs (fun e ts' hs'=>if anyB o.dst e.v then Qgf P ty E nn ops sp mm K f (i+1) ((o.dst,x++rdB ts o.op.operands.toList,e)::acc) ts' hs' else none)=some r→
     ∃rows ts' hs' L',K (acc.reverse++rows) ts' hs'=some r∧Inv L' hs'∧Qbr P ops mm i (rows.map (BRow.row L'))∧erT L ts=erT L' ts∧erH L hs=erH L' hs∧
      got nn (rows.map (BRow.row L')) (erT L' ts) (erH L' hs)=(VQ (rows.map (BRow.row L')),VP (rows.map (BRow.row L')),true,erT L' ts',erH L' hs'):=fun x hx hstp h=>by
    obtain⟨e,L1,hst,hd,h⟩:=Qpm hE hx h hi
    split at h
    case isFalse=>simp at h
    rename_i hany
    obtain⟨rows,ts',hs',L',k1,k2,k3,k4,k5,k6⟩:=QdJ (sp:=sp) (mm:=mm) (ops:=ops) (K:=K) hE f (i+1) _ _ _ L1 h hst.inv
    obtain⟨p1,p2⟩:=Qvz k4 hany
    obtain⟨q1,q2⟩:=Qvw k5
    have hts:erT L ts=erT L' ts:=hst.ets.trans p1
    have hhs:erH L hs=erH L' hs:=hst.ehs.trans q2
    have hrd:=QvA hts hst.rds
    have hhp:=Qvx hhs hst.hps
    have hok:=hst.ok
    rw[p2,q1]at hok
    refine⟨(o.dst,x++rdB ts o.op.operands.toList,e)::rows,ts',hs',L',by simpa using k1,k2,⟨?_,k3⟩,hts,hhs,?_⟩
    ·have:=hstp _ (fun p hp=>List.mem_map.2 ⟨p,List.mem_append_left _ hp,rfl⟩) hok
     simp only[BRow.row,←hrd,←hhp];exact this
    ·simp only[List.map_cons]
     refine Qo4 (fun t y hy=>?_) (fun n ob hy=>?_) hd ?_ ?_
     ·simp only[BRow.row,erT,List.mem_map]at hy
      obtain⟨⟨t',v⟩,hm,he⟩:=hy
      cases he
      rw[UW,hst.rds _ _ hm];rfl
     ·simp only[BRow.row,erH,List.mem_map]at hy
      obtain⟨⟨t',v⟩,hm,he⟩:=hy
      cases he
      rw[Z1,hst.hps _ _ hm];rfl
     ·have hnew:=hst.new
      unfold QtT at hnew
      simp only[QmR,BRow.row,QdN,Qb5]
      refine List.all_eq_true.2 fun n hn=>?_
      have:=List.all_eq_true.1 hnew n hn
      simp only[bae]at this ⊢
      refine⟨⟨?_,this.1.2⟩,this.2⟩
      rw[Z1]
      cases hl:look n hs with
      |none=>rfl
      |some y=>rw[hl]at this;simp at this
     ·have e3:∀t1 h1,t1=erT L' (putB o.dst e.v ts)→h1=erH L' (e.upd++hs)→got nn (rows.map (BRow.row L')) t1 h1=(VQ (rows.map (BRow.row L')),VP (rows.map (BRow.row L')),true,erT L' ts',erH L' hs'):=fun t1 h1 a b=>by rw[a,b];exact k6
      exact e3 _ _ (by show putT (erT L' ts) o.dst _=_;cases o.dst<;>rfl) (by rw[QdM])
   have hskip:∀{j:Nat} {b:Bool} {g:Nat} {v:BV},o.guard=some (j,b)→(ops[j]?).bind (·.dst)=some g→look g ts=some v→(v=.b (!b)∨v=.tup [])→
     (if QaG nn o.dst then Qgf P ty E nn ops sp mm K f (i+1) ((o.dst,[(g,v)],ev (.tup []))::acc) (putB o.dst (.tup []) ts) hs else none)=some r→
     ∃rows ts' hs' L',K (acc.reverse++rows) ts' hs'=some r∧Inv L' hs'∧Qbr P ops mm i (rows.map (BRow.row L'))∧erT L ts=erT L' ts∧erH L hs=erH L' hs∧
      got nn (rows.map (BRow.row L')) (erT L' ts) (erH L' hs)=(VQ (rows.map (BRow.row L')),VP (rows.map (BRow.row L')),true,erT L' ts',erH L' hs'):=fun{j b g v} hg hj hl hv h=>by
    split at h
    case isFalse=>simp at h
    rename_i hd
    obtain⟨rows,ts',hs',L',k1,k2,k3,k4,k5,k6⟩:=QdJ (sp:=sp) (mm:=mm) (ops:=ops) (K:=K) hE f (i+1) _ _ _ L h hi
    have hts:erT L ts=erT L' ts:=by
     cases hdd:o.dst with
     |none=>rw[hdd]at k4;exact k4
     |some d=>rw[hdd]at k4;simp only[putB,erT,List.map_cons,List.cons.injEq]at k4;exact k4.2
    obtain⟨oj,h1,h2⟩:=Vh hj
    refine⟨(o.dst,[(g,v)],ev (.tup []))::rows,ts',hs',L',by simpa using k1,k2,⟨?_,k3⟩,hts,k5,?_⟩
    ·rcases hv with rfl|rfl
     ·exact ZE.skipped hop hg h1 h2
     ·exact ZE.skipped2 hop hg h1 h2
    ·simp only[List.map_cons]
     refine Qo4 (fun t y hy=>?_) (fun n ob hy=>?_) hd ?_ ?_
     ·simp only[BRow.row,erT,List.map_cons,List.map_nil,List.mem_singleton,Prod.mk.injEq]at hy
      obtain⟨rfl,rfl⟩:=hy
      rw[UW,hl];rfl
     ·simp[BRow.row,ev,erH]at hy
     ·simp[QmR,BRow.row,ev]
     ·have e3:∀t1 h1,t1=erT L' (putB o.dst (.tup []) ts)→h1=erH L' hs→got nn (rows.map (BRow.row L')) t1 h1=(VQ (rows.map (BRow.row L')),VP (rows.map (BRow.row L')),true,erT L' ts',erH L' hs'):=fun t1 h1 a b=>by rw[a,b];exact k6
      exact e3 _ _ (by show putT (erT L' ts) o.dst _=_;cases o.dst<;>rfl) rfl
   have hgd:∀{j:Nat} {b:Bool} {g:Nat},o.guard=some (j,b)→(ops[j]?).bind (·.dst)=some g→∀e':Eff,(∀p:Nat×BV,p∈[(g,BV.b b)]→(p.1,p.2.er L)∈e'.rd)→OpOK P o e'→ZE P ops i o.dst e':=fun{j b g} hg hj e' hm hok=>by
    obtain⟨oj,h1,h2⟩:=Vh hj
    have:=hm (g,BV.b b) (by simp)
    simp only[BV.er]at this
    exact ZE.guarded hop hg h1 h2 this hok
   have hx1:∀{g:Nat} {b:Bool},look g ts=some (.b b)→∀t v,(t,v)∈[(g,BV.b b)]→look t ts=some v:=fun hl t v hm=>by
    simp only[List.mem_singleton,Prod.mk.injEq]at hm;obtain⟨rfl,rfl⟩:=hm;exact hl
   split at h
   ·rename_i hg
    exact hdo [] (fun t v hm=>by simp at hm) (fun e' _ hok=>ZE.plain hop hg hok) h
   ·rename_i j b hg
    split at h
    ·simp at h
    ·rename_i g hj
     split at h
     ·rename_i q hl
      rcases Qfm h with⟨rfl,h⟩|⟨rfl,h⟩
      ·cases b with
       |true=>exact hdo [(g,.b true)] (hx1 hl) (hgd hg hj) h
       |false=>exact hskip hg hj hl (.inl rfl) h
      ·cases b with
       |true=>exact hskip hg hj hl (.inl rfl) h
       |false=>exact hdo [(g,.b false)] (hx1 hl) (hgd hg hj) h
     ·rename_i hl
      exact hskip hg hj hl (.inr rfl) h
     ·simp at h
mutual
theorem QuQ:∀x:AV,x.ren (fun n=>n)=x
 |.p _=>by simp only[AV.ren]
 |.agg cs=>by simp only[AV.ren,Qdr cs]
 |.ref _ _=>by simp only[AV.ren]
 |.own _ _=>by simp only[AV.ren]
 |.aref _ _ _ _=>by simp only[AV.ren]
 |.view _ _ _ _=>by simp only[AV.ren]
 |.eptr _=>by simp only[AV.ren]
 |.tup vs=>by simp only[AV.ren,Qdr vs]
 |.clo f a c=>by simp only[AV.ren,Qdr a,Qdr c]
 |.oref _ _=>by simp only[AV.ren]
 |.err _=>by simp only[AV.ren]
 |.ub=>by simp only[AV.ren]
 |.any=>by simp only[AV.ren]
theorem Qdr:∀l:List AV,renL (fun n=>n) l=l
 |[]=>by simp only[renL]
 |x::r=>by simp only[renL,QuQ x,Qdr r]
end
theorem QnD{σ:Ren}(h:QvG σ=true):Fit (fun n=>n) (Qf3 σ) σ:=fun nm m hm=>by
 have:=List.all_eq_true.1 h _ hm
 simp only[bae]at this
 refine⟨nbe this.1,?_⟩
 unfold Qf3;rw[QiE this.2]
theorem QrD{gn:List Name}{s:List (Nat×SSh)}{o:List (Name×OSh)}{K:STL s×OL o→Option R}(h:getS gn s o ts hs K=some r)(hi:Inv L hs):
  ∃x L',K x=some r∧Inv L' (OL.put 0 o x.2)∧SLe L ts hs L' (STL.put 0 s x.1) (OL.put 0 o x.2)∧∀n,n∈gn→look n (OL.put 0 o x.2)≠none:=by
 obtain⟨σ1,x,h,hs1,g1⟩:=STL.get_some h
 obtain⟨σ2,y,h,hs2,g2⟩:=OL.get_some h
 split at h
 case isFalse=>simp at h
 rename_i hid
 simp only[bae]at hid
 have hf2:=QnD hid.1
 have hf1:Fit (fun n=>n) (Qf3 σ2) σ1:=hf2.mono fun p hp=>hs2 p (List.mem_append_right _ hp)
 refine⟨(x,y),UH L (fun n=>n) (Qf3 σ2),h,fun n t l v hn=>?_,⟨fun t b hb=>?_,fun n cs' hn=>?_,fun n t l v hn=>?_,fun n es hn=>?_⟩,fun n hn hc=>?_⟩
 ·obtain⟨a,ha,hle⟩:=g2 _ _ L hf2 n _ hn
  rcases hle with⟨cs,ds,_,h2,_⟩|⟨t',l',rfl,h2⟩|⟨es,_,h2⟩
  ·cases h2
  ·cases h2;exact hi n t l _ ha
  ·cases h2
 ·obtain⟨a,ha,hle⟩:=g1 _ _ L hf1 t b hb
  rw[QuQ]at hle
  exact⟨a,ha,hle⟩
 ·obtain⟨a,ha,hle⟩:=g2 _ _ L hf2 n _ hn
  rcases hle with⟨cs,ds,rfl,h2,h3⟩|⟨t',l',rfl,h2⟩|⟨es,_,h2⟩
  ·cases h2;rw[Qdr]at h3;exact⟨cs,ha,h3⟩
  ·cases h2
  ·cases h2
 ·obtain⟨a,ha,hle⟩:=g2 _ _ L hf2 n _ hn
  rcases hle with⟨cs,ds,_,h2,_⟩|⟨t',l',rfl,h2⟩|⟨es,_,h2⟩
  ·cases h2
  ·cases h2;exact⟨_,ha⟩
  ·cases h2
 ·obtain⟨a,ha,hle⟩:=g2 _ _ L hf2 n _ hn
  rcases hle with⟨cs,ds,_,h2,_⟩|⟨t',l',rfl,h2⟩|⟨es,rfl,h2⟩
  ·cases h2
  ·cases h2
  ·cases h2;exact ha
 ·have:=Wl.1 (List.all_eq_true.1 hid.2 n hn)
  obtain⟨b,hb⟩:=QdP (u:=0) (y:=y) this
  rw[hb]at hc;simp at hc
theorem Qpf:∀(l:List (Nat×AV)),∃l',(∀k,look k l'=look k l)∧l'.map (fun p=>look p.1 l)=l'.map (fun p=>some p.2):=by
  intro l
  induction l with
  |nil=>exact⟨[],fun _=>rfl,rfl⟩
  |cons p l ih=>
   obtain⟨l',g1,g2⟩:=ih
   refine⟨p::(l'.filter fun q=>!(q.1 == p.1)),fun k=>?_,?_⟩
   ·simp only[look]
    split
    ·rfl
    ·rename_i hne
     rw[←g1]
     clear g1 g2
     induction l' with
     |nil=>rfl
     |cons q l' ih=>
      by_cases hq:q.1=p.1
      ·rw[List.filter_cons_of_neg (by simp[hq]),ih]
       simp only[look]
       rw[if_neg (by rw[hq];exact hne)]
      ·rw[List.filter_cons_of_pos (by simp[hq])]
       simp only[look]
       split
       ·rfl
       ·exact ih
   ·simp only[List.map_cons,look,if_true]
    congr 1
    refine List.map_congr_left fun q hq=>?_
    have hq':=List.mem_filter.1 hq
    have hne:¬p.1=q.1:=fun e=>by have:=hq'.2;rw[e]at this;simp at this
    rw[if_neg hne]
    exact(List.map_inj_left.1 g2) q hq'.1
theorem Quo{Γ:Ctx}{t nm:Nat}{j es0:Nat}{tc:TC}{cells:List BV}{v:BV}(hm:look t ts=some (.agg cells))(hj:cells[j]?=some v)(hv:∀L,v.er L=.p (.sl true es0 []))(hb:(look nm hs).isNone=true)(hf:Qc6 nm ts hs=true)(ht:Nat.ble 1 (tz tc)=true)(hi:Inv L hs):
  ∃L',Inv L' ((nm,.arr tc [] 0)::hs)∧Weak Γ (BS L ts hs) (BS L' ((t,.agg (cells.set j (.own nm 0)))::ts) ((nm,.arr tc [] 0)::hs)):=by
 let L1:Lens:=fun n u=>if n=nm then 0 else L n u
 have hnm:look nm hs=none:=Option.isNone_iff_eq_none.1 hb
 obtain⟨e1,e2⟩:=Qfp (L:=L) (L':=L1) (nw:=[nm]) (nv:=[]) (ts:=ts) (hs:=hs) (fun n hn=>by simp only[List.mem_singleton]at hn;subst hn;exact hf) (fun p hp=>by simp at hp) (fun n u hn _=>if_neg (by simpa using hn))
 have ec:erL L cells=erL L1 cells:=by
  have h1:look t (erT L ts)=look t (erT L1 ts):=by rw[e1]
  rw[UW,UW,hm,Option.map_some,Option.map_some]at h1
  simp only[BV.er,Option.some.injEq,AV.agg.injEq]at h1
  exact h1
 have hi1:Inv L1 ((nm,.arr tc [] 0)::hs):=fun n t' l u hn=>by
  simp only[look]at hn
  split at hn
  ·rename_i e;subst e;cases hn;exact if_pos rfl
  ·rename_i e;show(if n=nm then 0 else L n u)=_;rw[if_neg (Ne.symm e)];exact hi n t' l u hn
 refine⟨L1,hi1,fun ρ M a w hs0=>?_⟩
 obtain⟨l',g1,g2⟩:=Qpf ((t,AV.agg ((erL L cells).set j (.own nm 0)))::erT L ts)
 have hw:=Weak.thawA (Γ:=Γ) (ts:=erT L ts) (ts':=l') (hs:=erH L hs) (t:=t) (j:=j) (es0:=es0) (es:=tz tc) (n:=nm) (cells:=erL L cells) ht (by rw[UW,hm,Option.map_some];simp only[BV.er])
  (by rw[Qgh,hj,Option.map_some,hv L]) (by rw[Z1,hnm];rfl) (by rw[QdN];exact hf) g2
 obtain⟨ρ',M',hs1⟩:=hw ρ M a w hs0
 refine⟨ρ',M',hs1.congr (fun k=>?_) (fun k=>?_)⟩
 ·show look k (erT L1 ((t,.agg (cells.set j (.own nm 0)))::ts))=look k l'
  rw[g1]
  have:erL L1 (cells.set j (.own nm 0))=(erL L cells).set j (.own nm 0):=by
   rw[ec,Vj,Vj,List.map_set]
   simp only[BV.er,show L1 nm 0=0 from if_pos rfl]
  show look k ((t,(BV.agg (cells.set j (.own nm 0))).er L1)::erT L1 ts)=_
  simp only[BV.er,this,←e1]
 ·show look k (erH L1 ((nm,.arr tc [] 0)::hs))=look k ((nm,.arr (tz tc) [])::erH L hs)
  show look k ((nm,(BO.arr tc [] 0).er L1)::erH L1 hs)=_
  simp only[BO.er,List.map_nil,←e2]
theorem QbU{o:List (Name×OSh)}{t:Nat}{Γ:Ctx}:∀{l:List Sh} {j:Nat} {ts:TS} {hs:HS} {L:Lens} {K:TS→HS→Option R},thawA o t j l ts hs K=some r→Inv L hs→
  ∃ts' hs' L',K ts' hs'=some r∧Inv L' hs'∧Weak Γ (BS L ts hs) (BS L' ts' hs')
 |[],j,ts,hs,L,K,h,hi=>⟨ts,hs,L,h,hi,Weak.refl _ _⟩
 |s::l,j,ts,hs,L,K,h,hi=>by
  have hth:∀{nm:Name} {tc:TC} {v:BV} {es0:Nat} {cells:List BV},look t ts=some (.agg cells)→cells[j]?=some v→(∀L,v.er L=.p (.sl true es0 []))→
    (if (look nm hs).isNone && Qc6 nm ts hs && Nat.ble 1 (tz tc)then thawA o t (j+1) l ((t,.agg (cells.set j (.own nm 0)))::ts) ((nm,.arr tc [] 0)::hs) K else none)=some r→
    ∃ts' hs' L',K ts' hs'=some r∧Inv L' hs'∧Weak Γ (BS L ts hs) (BS L' ts' hs'):=fun{nm tc v es0 cells} hm hj hv h=>by
   split at h
   case isFalse=>simp at h
   rename_i hb
   simp only[bae]at hb
   obtain⟨L1,hi1,hw1⟩:=Quo (Γ:=Γ) hm hj hv hb.1.1 hb.1.2 hb.2 hi
   obtain⟨ts',hs',L',k1,k2,k3⟩:=QbU h hi1
   exact⟨ts',hs',L',k1,k2,Weak.trans hw1 k3⟩
  unfold thawA at h
  split at h
  ·rename_i heq;cases heq
  ·rename_i nm r0 heq
   cases heq
   split at h
   ·rename_i cells hm
    split at h
    ·rename_i tc hj ho;exact hth (es0:=0) hm hj (fun L=>by simp only[BV.er]) h
    ·rename_i t0 tc hj ho;exact hth (es0:=tz t0) hm hj (fun L=>by simp only[BV.er,List.map_nil]) h
    ·exact QbU h hi
   ·exact QbU h hi
  ·rename_i heq;cases heq;exact QbU h hi
theorem Qac{o:List (Name×OSh)}{Γ:Ctx}:∀{s:List (Nat×SSh)} {ts:TS} {hs:HS} {L:Lens} {K:TS→HS→Option R},QjQ o s ts hs K=some r→Inv L hs→
  ∃ts' hs' L',K ts' hs'=some r∧Inv L' hs'∧Weak Γ (BS L ts hs) (BS L' ts' hs')
 |[],ts,hs,L,K,h,hi=>⟨ts,hs,L,h,hi,Weak.refl _ _⟩
 |p::s,ts,hs,L,K,h,hi=>by
  obtain⟨t,sh⟩:=p
  have hth:∀{nm:Name} {tc:TC} {v:BV} {es0:Nat},look t ts=some v→(∀L,v.er L=.p (.sl true es0 []))→
    (if (look nm hs).isNone && Qc6 nm ts hs && Nat.ble 1 (tz tc)then QjQ o s ((t,.own nm 0)::ts) ((nm,.arr tc [] 0)::hs) K else none)=some r→
    ∃ts' hs' L',K ts' hs'=some r∧Inv L' hs'∧Weak Γ (BS L ts hs) (BS L' ts' hs'):=fun{nm tc v es0} hv hv2 h=>by
   split at h
   case isFalse=>simp at h
   rename_i hb
   simp only[bae,Option.isNone_iff_eq_none]at hb
   let L1:Lens:=fun n u=>if n=nm then 0 else L n u
   obtain⟨e1,e2⟩:=Qfp (L:=L) (L':=L1) (nw:=[nm]) (nv:=[]) (ts:=ts) (hs:=hs) (fun n hn=>by simp only[List.mem_singleton]at hn;subst hn;exact hb.1.2) (fun p hp=>by simp at hp) (fun n u hn _=>if_neg (by simpa using hn))
   have hi1:Inv L1 ((nm,.arr tc [] 0)::hs):=fun n t' l u hn=>by
    simp only[look]at hn
    split at hn
    ·rename_i e;subst e;cases hn;exact if_pos rfl
    ·rename_i e;show(if n=nm then 0 else L n u)=_;rw[if_neg (Ne.symm e)];exact hi n t' l u hn
   obtain⟨ts',hs',L',k1,k2,k3⟩:=Qac (Γ:=Γ) h hi1
   refine⟨ts',hs',L',k1,k2,Weak.trans ?_ k3⟩
   obtain⟨l',g1,g2⟩:=Qpf ((t,.own nm 0)::erT L ts)
   have hw:=Weak.thaw (Γ:=Γ) (ts:=erT L ts) (ts':=l') (hs:=erH L hs) (t:=t) (es0:=es0) (es:=tz tc) (n:=nm) hb.2 (by rw[UW,hv,Option.map_some,hv2 L]) (by rw[Z1,hb.1.1];rfl) (by rw[QdN];exact hb.1.2) g2
   refine fun ρ M a w hs0=>?_
   obtain⟨ρ',M',hs1⟩:=hw ρ M a w hs0
   refine⟨ρ',M',hs1.congr (fun k=>?_) (fun k=>?_)⟩
   ·show look k (erT L1 ((t,.own nm 0)::ts))=look k l'
    rw[g1]
    show look k ((t,(BV.own nm 0).er L1)::erT L1 ts)=_
    simp only[BV.er,show L1 nm 0=0 from if_pos rfl,←e1]
   ·show look k (erH L1 ((nm,.arr tc [] 0)::hs))=look k ((nm,.arr (tz tc) [])::erH L hs)
    show look k ((nm,(BO.arr tc [] 0).er L1)::erH L1 hs)=_
    simp only[BO.er,List.map_nil,←e2]
  unfold QjQ at h
  split at h
  ·rename_i t1 l1 r0 heq
   cases heq
   obtain⟨ts1,hs1,L1,h,hi1,hw1⟩:=QbU (Γ:=Γ) h hi
   obtain⟨ts2,hs2,L2,h,hi2,hw2⟩:=Qac (Γ:=Γ) h hi1
   exact⟨ts2,hs2,L2,h,hi2,Weak.trans hw1 hw2⟩
  ·rename_i nm r0 heq
   split at h
   ·rename_i tc hv ho
    cases heq
    exact hth (es0:=0) hv (fun L=>by simp only[BV.er]) h
   ·rename_i t0 tc hv ho
    cases heq
    exact hth (es0:=tz t0) hv (fun L=>by simp only[BV.er,List.map_nil]) h
   ·cases heq;exact Qac h hi
  ·rename_i heq;cases heq;exact Qac h hi
  ·rename_i heq;cases heq
theorem QsS{Γ:Ctx}{m nm:Name}{j es0:Nat}{tc:TC}{cells:List BV}{v:BV}(hm:look m hs=some (.box cells))(hj:cells[j]?=some v)(hv:∀L,v.er L=.p (.sl true es0 []))(hb:(look nm hs).isNone=true)(hf:Qc6 nm ts hs=true)(ht:Nat.ble 1 (tz tc)=true)(hi:Inv L hs):
  ∃L',Inv L' ((m,.box (cells.set j (.own nm 0)))::(nm,.arr tc [] 0)::hs)∧Weak Γ (BS L ts hs) (BS L' ts ((m,.box (cells.set j (.own nm 0)))::(nm,.arr tc [] 0)::hs)):=by
 let L1:Lens:=fun n u=>if n=nm then 0 else L n u
 have hnm:look nm hs=none:=Option.isNone_iff_eq_none.1 hb
 have hne:m≠nm:=fun e=>by subst e;rw[hnm]at hm;simp at hm
 obtain⟨e1,e2⟩:=Qfp (L:=L) (L':=L1) (nw:=[nm]) (nv:=[]) (ts:=ts) (hs:=hs) (fun n hn=>by simp only[List.mem_singleton]at hn;subst hn;exact hf) (fun p hp=>by simp at hp) (fun n u hn _=>if_neg (by simpa using hn))
 have ec:erL L cells=erL L1 cells:=by
  have:=Qrv e2 (Q0 hm)
  simp only[BO.er,AO.box.injEq]at this
  exact this
 refine⟨L1,fun n t' l u hn=>?_,fun ρ M a w hs0=>?_⟩
 ·simp only[look]at hn
  split at hn
  ·cases hn
  ·split at hn
   ·rename_i e;subst e;cases hn;exact if_pos rfl
   ·rename_i e;show(if n=nm then 0 else L n u)=_;rw[if_neg (Ne.symm e)];exact hi n t' l u hn
 ·have hs1:Sim Γ ρ M (mk (erT L ts) ((m,.box (erL L cells))::erH L hs)) a w:=hs0.congr (fun k=>rfl) (fun k=>by
   show look k ((m,AO.box (erL L cells))::erH L hs)=look k (erH L hs)
   simp only[look]
   split
   ·rename_i e;subst e;rw[Z1,hm];rfl
   ·rfl)
  have hfree:Qcy nm (erT L ts) ((m,.box (erL L cells))::erH L hs)=true:=by
   have h1:=hf
   rw[←QdN (L:=L)]at h1
   simp only[Qcy,bae,List.all_cons]at h1 ⊢
   have h2:=List.all_eq_true.1 h1.2 _ (show(m,AO.box (erL L cells))∈erH L hs from Q0 (by rw[Z1,hm];rfl))
   exact⟨h1.1,h2,h1.2⟩
  obtain⟨ρ',M',hs2⟩:=Weak.thawCell (Γ:=Γ) (ts:=erT L ts) (hs':=erH L hs) (m:=m) (j:=j) (es0:=es0) (es:=tz tc) (n:=nm) (cells:=erL L cells) ht rfl (by rw[Qgh,hj,Option.map_some,hv L])
   (by simp only[look,if_neg hne,Z1,hnm];rfl) hfree rfl ρ M a w hs1
  refine⟨ρ',M',hs2.congr (fun k=>?_) (fun k=>?_)⟩
  ·show look k (erT L1 ts)=look k (erT L ts)
   rw[e1]
  ·show look k (erH L1 ((m,.box (cells.set j (.own nm 0)))::(nm,.arr tc [] 0)::hs))=look k ((m,.box ((erL L cells).set j (.own nm 0)))::(nm,.arr (tz tc) [])::erH L hs)
   have:erL L1 (cells.set j (.own nm 0))=(erL L cells).set j (.own nm 0):=by
    rw[ec,Vj,Vj,List.map_set]
    simp only[BV.er,show L1 nm 0=0 from if_pos rfl]
   show look k ((m,AO.box (erL L1 (cells.set j (.own nm 0))))::(nm,(BO.arr tc [] 0).er L1)::erH L1 hs)=_
   rw[this,←e2]
   simp only[BO.er,List.map_nil]
theorem QbV{o:List (Name×OSh)}{m:Name}{Γ:Ctx}:∀{l:List Sh} {j:Nat} {hs:HS} {L:Lens} {K:HS→Option R},QlS o m ts j l hs K=some r→Inv L hs→
  ∃hs' L',K hs'=some r∧Inv L' hs'∧Weak Γ (BS L ts hs) (BS L' ts hs')
 |[],j,hs,L,K,h,hi=>⟨hs,L,h,hi,Weak.refl _ _⟩
 |s::l,j,hs,L,K,h,hi=>by
  have hth:∀{nm:Name} {tc:TC} {v:BV} {es0:Nat} {cells:List BV},look m hs=some (.box cells)→cells[j]?=some v→(∀L,v.er L=.p (.sl true es0 []))→
    (if (look nm hs).isNone && Qc6 nm ts hs && Nat.ble 1 (tz tc)then QlS o m ts (j+1) l ((m,.box (cells.set j (.own nm 0)))::(nm,.arr tc [] 0)::hs) K else none)=some r→
    ∃hs' L',K hs'=some r∧Inv L' hs'∧Weak Γ (BS L ts hs) (BS L' ts hs'):=fun{nm tc v es0 cells} hm hj hv h=>by
   split at h
   case isFalse=>simp at h
   rename_i hb
   simp only[bae]at hb
   obtain⟨L1,hi1,hw1⟩:=QsS (Γ:=Γ) hm hj hv hb.1.1 hb.1.2 hb.2 hi
   obtain⟨hs',L',k1,k2,k3⟩:=QbV h hi1
   exact⟨hs',L',k1,k2,Weak.trans hw1 k3⟩
  unfold QlS at h
  split at h
  ·rename_i heq;cases heq
  ·rename_i nm r0 heq
   cases heq
   split at h
   ·rename_i cells hm
    split at h
    ·rename_i tc hj ho;exact hth (es0:=0) hm hj (fun L=>by simp only[BV.er]) h
    ·rename_i t0 tc hj ho;exact hth (es0:=tz t0) hm hj (fun L=>by simp only[BV.er,List.map_nil]) h
    ·exact QbV h hi
   ·exact QbV h hi
  ·rename_i heq;cases heq;exact QbV h hi
theorem QgI{o:List (Name×OSh)}{Γ:Ctx}:∀{l:List (Name×OSh)} {hs:HS} {L:Lens} {K:HS→Option R},QsR o ts l hs K=some r→Inv L hs→
  ∃hs' L',K hs'=some r∧Inv L' hs'∧Weak Γ (BS L ts hs) (BS L' ts hs')
 |[],hs,L,K,h,hi=>⟨hs,L,h,hi,Weak.refl _ _⟩
 |p::l,hs,L,K,h,hi=>by
  unfold QsR at h
  split at h
  ·rename_i m l0 r0 heq
   cases heq
   obtain⟨hs1,L1,h,hi1,hw1⟩:=QbV (Γ:=Γ) h hi
   obtain⟨hs2,L2,h,hi2,hw2⟩:=QgI h hi1
   exact⟨hs2,L2,h,hi2,Weak.trans hw1 hw2⟩
  ·rename_i heq;cases heq;exact QgI h hi
  ·rename_i heq;cases heq
end
end Go.Proofs.YtadlpefpehjcoaaGreat.AM
/-
  The typed layer, part N: the code of a function; its contract. No project text.
-/
namespace Go.Proofs.YtadlpefpehjcoaaGreat.AM
open Go
theorem QrP{ops:Array Oper}{o:Oper}(h:QvJ ops=true)(ho:ops[ops.size - 1]?=some o):o.guard=none∧∀j,j<ops.size - 1→((masks ops.toList []).getD (ops.size - 1) 0).testBit j=true:=by
 unfold QvJ at h
 rw[ho]at h
 split at h
 ·rename_i e
  cases e
  refine⟨rfl,fun j hj=>?_⟩
  rw[List.all_eq_true]at h
  exact h j (List.mem_range.2 hj)
 ·simp at h
variable {L L':Lens} {ts ts':TS} {hs hs':HS}
section
variable {R:Type} {r:R} {P:Program} {ty:TypeId→Option TC} {E:Env} {gn:List Name} {nn fu:Nat} {Γ:Ctx}
def QK(K:Cont R)(r:R):Exit→AS→Prop:=fun e s'=>∃ts' hs' L',s'=BS L' ts' hs'∧Inv L' hs'∧K e ts' hs'=some r
theorem QtL{o:List (Name×OSh)}{n:Name}(hn:n∈gn):QrN gn o hs n=true:=by
 unfold QrN
 split
 ·rw[Wl.2 hn,Bool.or_true]
 ·rfl
theorem QtK{o:List (Name×OSh)}{n:Name}(hn:n∈gn):QmH gn o ts hs n=true:=by
 unfold QmH
 split
 ·rw[Wl.2 hn,Bool.true_or,Bool.true_or]
 ·rfl
theorem Qfb{s:List (Nat×SSh)}{o:List (Name×OSh)}{K:STL s×OL o→Option R}(hgn:Γ.names=gn)(h:Qkq gn s o ts hs K=some r)(hi:Inv L hs):
  ∃x L',K x=some r∧Inv L' (OL.put 0 o x.2)∧Weak Γ (BS L ts hs) (BS L' (STL.put 0 s x.1) (OL.put 0 o x.2)):=by
 unfold Qkq at h
 simp only[QhL]at h
 obtain⟨ts1,hs1,h,hi1,hw1⟩:=Qbw hgn h (hi.trim (f:=QrN gn o hs))
 obtain⟨ts2,hs2,L2,h,hi2,hw2⟩:=Qac (Γ:=Γ) h (hi1.trim (f:=QmH gn o ts1 hs1))
 obtain⟨hs2',L2',h,hi2',hw2'⟩:=QgI (Γ:=Γ) h hi2
 obtain⟨x,L3,h,hi3,hle,hk⟩:=QrD h hi2'
 refine⟨x,L3,h,hi3,fun ρ M a w hs0=>?_⟩
 obtain⟨ρ1,M1,h1⟩:=hw1 ρ M a w (hs0.only (f:=QwE s) (g:=QrN gn o hs) fun n hn=>QtL (by rw[←hgn];exact hn))
 have h1':Sim Γ ρ1 M1 (BS L ts1 (QcL (QmH gn o ts1 hs1) [] hs1)) a w:=by
  have h2:=h1.only (f:=fun _=>true) (g:=QmH gn o ts1 hs1) fun n hn=>QtK (by rw[←hgn];exact hn)
  refine h2.congr (fun t=>?_) (fun n=>rfl)
  show(BS L ts1 (QcL (QmH gn o ts1 hs1) [] hs1)).slot t=(BS L (QcL (fun _=>true) [] ts1) (QcL (QmH gn o ts1 hs1) [] hs1)).slot t
  rw[XQ,XQ,W6];rfl
 obtain⟨ρ2',M2',h2'⟩:=hw2 ρ1 M1 a w h1'
 obtain⟨ρ2,M2,h2⟩:=hw2' ρ2' M2' a w h2'
 have h3:Sim Γ ρ2 M2 (BS L2' (Qus hs2' s ts2) hs2') a w:=by
  refine h2.leS (fun t y hy=>?_) (fun n=>⟨fun y hy=>⟨y,hy,.refl _⟩,fun x hx=>⟨x,hx,.refl _⟩⟩) (fun n x y hx hy=>?_)
  ·obtain⟨y',hy',rfl⟩:=QlO hy
   obtain⟨x',hx',hle'⟩:=Qut hi2' hy'
   exact⟨x'.er L2',by rw[XQ,hx'];rfl,hle'⟩
  ·rw[X1]at hx hy;rw[hx]at hy;cases hy;exact .inl rfl
 exact⟨ρ2,M2,h3.sle hle (by rw[hgn];exact hk)⟩
theorem QcR{c:Code}{an:Ann}{K:Cont R}{body:Ann→TS→HS→Cont R→Option R}(hgn:Γ.names=gn)(h:around gn an ts hs K body=some r)(hi:Inv L hs)(hb:∀an ts hs L K,body an ts hs K=some r→Inv L hs→AWp P Γ c (BS L ts hs) (QK K r)):AWp P Γ c (BS L ts hs) (QK K r):=by
 unfold around at h
 split at h
 ·rename_i s o a
  refine AWp.post ((hb _ _ _ L _ h hi).mono fun e s'=>?_)
  rintro⟨ts',hs',L',rfl,hi',hk⟩
  cases e with
  |normal=>
   obtain⟨x,L2,h2,hi2,hw⟩:=Qfb hgn hk hi'
   exact⟨_,hw,_,_,L2,rfl,hi2,h2⟩
  |_=>exact⟨_,Weak.refl _ _,_,_,L',rfl,hi',hk⟩
 ·obtain⟨ts1,hs1,h,hi1,hw1⟩:=Qbw hgn h hi
  exact AWp.weaken _ (fun ρ M a w hs0=>hw1 ρ M a w hs0) (hb _ _ _ L _ h hi1)
 ·exact hb _ _ _ L _ h hi
theorem Qjj[DecidableEq R](hE:QlZ P E)(hgn:Γ.names=gn)(hn:Γ.n=nn):∀(c:Code) (an:Ann) (ts:TS) (hs:HS) (L:Lens) (K:Cont R),vc P ty E gn nn fu c an ts hs K=some r→Inv L hs→AWp P Γ c (BS L ts hs) (QK K r)
 |.skip,an,ts,hs,L,K,h,hi=>AWp.skip ⟨_,_,L,rfl,hi,by simpa only[vc]using h⟩
 |.label _,an,ts,hs,L,K,h,hi=>AWp.label ⟨_,_,L,rfl,hi,by simpa only[vc]using h⟩
 |.ret,an,ts,hs,L,K,h,hi=>AWp.ret ⟨_,_,L,rfl,hi,by simpa only[vc]using h⟩
 |.exit id,an,ts,hs,L,K,h,hi=>AWp.exit ⟨_,_,L,rfl,hi,by simpa only[vc]using h⟩
 |.seq a b,an,ts,hs,L,K,h,hi=>by
  simp only[vc]at h
  refine QcR hgn h hi fun an ts hs L K h hi=>AWp.seq ((Qjj hE hgn hn a _ _ _ L _ h hi).mono fun e s'=>?_)
  rintro⟨ts',hs',L',rfl,hi',hk⟩
  cases e with
  |normal=>exact Qjj hE hgn hn b _ _ _ L' _ hk hi'
  |_=>exact⟨_,_,L',rfl,hi',hk⟩
 |.cond (.tmp t) a b,an,ts,hs,L,K,h,hi=>by
  simp only[vc]at h
  refine QcR hgn h hi fun an ts hs L K h hi=>?_
  split at h
  ·rename_i q hl
   refine AWp.cond q (by rw[XQ,hl];simp only[Option.map_some,BV.er]) (fun hq=>?_) (fun hq=>?_)
   ·subst hq;exact Qjj hE hgn hn a _ _ _ L _ h hi
   ·subst hq;exact Qjj hE hgn hn b _ _ _ L _ h hi
  ·rename_i hl
   obtain⟨h1,h2⟩:=Qra h
   intro ρ M w0 w hs0
   obtain⟨u,hu,hr⟩:=hs0.slots t _ (show(BS L ts hs).slot t=some .ub by rw[XQ,hl];simp only[Option.map_some,BV.er])
   simp only[AV.R]at hr
   obtain⟨q,rfl⟩:=hr
   have he:w0.eval (.tmp t)=.bool q:=by simp[Act.eval,Array.getD_eq_getD_getElem?,hu]
   cases q with
   |true=>exact wp_cond_true he (Qjj hE hgn hn a _ _ _ L _ h1 hi ρ M w0 w hs0)
   |false=>exact wp_cond_false he (Qjj hE hgn hn b _ _ _ L _ h2 hi ρ M w0 w hs0)
  ·simp at h
 |.cond (.const c) a b,an,ts,hs,L,K,h,hi=>by
  cases c with
  |bool q=>
   simp only[vc]at h
   refine QcR hgn h hi fun an ts hs L K h hi=>?_
   cases q with
   |true=>exact fun ρ M w0 w hs0=>wp_cond_true rfl (Qjj hE hgn hn a _ _ _ L _ h hi ρ M w0 w hs0)
   |false=>exact fun ρ M w0 w hs0=>wp_cond_false rfl (Qjj hE hgn hn b _ _ _ L _ h hi ρ M w0 w hs0)
  |_=>simp[vc]at h
 |.cond (.global _) a b,an,ts,hs,L,K,h,hi=>by simp[vc]at h
 |.cond (.func _) a b,an,ts,hs,L,K,h,hi=>by simp[vc]at h
 |.block id a,an,ts,hs,L,K,h,hi=>by
  simp only[vc]at h
  refine QcR hgn h hi fun an ts hs L K h hi=>AWp.block ((Qjj hE hgn hn a _ _ _ L _ h hi).mono fun e s'=>?_)
  rintro⟨ts',hs',L',rfl,hi',hk⟩
  cases e with
  |exit k=>
   simp only[QjZ]
   simp only[QuA]at hk
   split at hk
   ·rename_i he;rw[if_pos (nbe he)];exact⟨_,_,L',rfl,hi',hk⟩
   ·rename_i he;rw[if_neg (fun e=>he (by rw[e];exact Nat.beq_refl _))];exact⟨_,_,L',rfl,hi',hk⟩
  |_=>exact⟨_,_,L',rfl,hi',hk⟩
 |.loop a,an,ts,hs,L,K,h,hi=>by
  simp only[vc]at h
  split at h
  ·rename_i s o an
   obtain⟨x,L1,h,hi1,hw⟩:=Qfb hgn h hi
   refine AWp.weaken _ hw (AWp.loop (fun m s'=>∃x L',s'=BS L' (STL.put 0 s x.1) (OL.put 0 o x.2)∧Inv L' (OL.put 0 o x.2)∧Qj (fun Lp x=>vc P ty E gn nn fu a an (STL.put 0 s x.1) (OL.put 0 o x.2) (QtU K fun ts hs=>Qkq gn s o ts hs Lp)) m x=some r)
    ⟨fu,x,L1,rfl,hi1,h⟩ ?_)
   rintro m s' ⟨x,L',rfl,hi',hm⟩
   cases m with
   |zero=>simp[Qj]at hm
   |succ m=>
    simp only[Qj]at hm
    refine AWp.post ((Qjj hE hgn hn a _ _ _ L' _ hm hi').mono fun e s'=>?_)
    rintro⟨ts2,hs2,L2,rfl,hi2,hk⟩
    cases e with
    |normal=>
     obtain⟨x',L3,h3,hi3,hw3⟩:=Qfb hgn hk hi2
     exact⟨_,hw3,m,Nat.lt_succ_self m,x',L3,rfl,hi3,h3⟩
    |_=>exact⟨_,Weak.refl _ _,_,_,L2,rfl,hi2,hk⟩
  ·simp at h
 |.region id ops dr,an,ts,hs,L,K,h,hi=>by
  simp only[vc]at h
  refine QcR hgn h hi fun an ts hs L K h hi=>?_
  cases dr with
  |false=>
   intro ρ M a w hs0
   refine wp_region ?_
   have:=Qsq (gn:=gn) (Γ:=Γ) (ops:=ops) (Q:=fun e a' w'=>∃s' ρ' M',QK K r e s'∧Sim Γ ρ' M' s' a' w') hE hgn hn (fun ts' hs' L' ρ' M' a' w' hk hi' hs'=>⟨_,ρ',M',⟨_,_,L',rfl,hi',hk⟩,hs'⟩) ops.size 0 ts hs L h hi ρ M a w hs0
   rwa [Nat.sub_zero,←List.range_eq_range']at this
  |true=>
   simp only at h
   split at h
   case isFalse=>simp at h
   rename_i hm
   split at h
   ·rename_i hlb
    obtain⟨rows,ts',hs',L',hk,hi',hst,hts,hhs,hg⟩:=QdJ hE (ops.size - 1) 0 [] ts hs L h hi
    change (if Qiy ops (rows++[noB]) ts hs=true then(match ops[ops.size - 1]? with
     |some o=>exK P ty E gn nn (guarded ops) [] o ts' hs' (fun ts hs=>K .normal ts hs)
     |none=>none)else none)=some r at hk
    by_cases hind:Qiy ops (rows++[noB]) ts hs=true
    case neg=>rw[if_neg hind]at hk;simp at hk
    rw[if_pos hind]at hk
    cases hop:ops[ops.size - 1]? with
    |none=>rw[hop]at hk;simp at hk
    |some o=>
    rw[hop]at hk
    replace hk:exK P ty E gn nn (guarded ops) [] o ts' hs' (fun ts hs=>K .normal ts hs)=some r:=hk
    have h0:0<ops.size:=by
     rcases Nat.eq_zero_or_pos ops.size with h0|h0
     ·rw[Array.getElem?_eq_none (by omega)]at hop;simp at hop
     ·exact h0
    obtain⟨hg0,hmask⟩:=QrP hlb hop
    show AWp P Γ _ (mk (erT L ts) (erH L hs)) _
    rw[hts,hhs]
    have hrow:(rows++[noB]).map (BRow.row L')=rows.map (BRow.row L')++[QbA]:=by simp[noB,QbA,BRow.row,ev,erT,erH,BV.er]
    have hind':=QmF hind L'
    rw[hrow]at hind'
    refine AWp.drawX hn (by rw[hm,Bool.true_or]) h0 _ hst hg hind' hmask fun KK hKK=>?_
    exact Qry hE hgn hn hk (fun t v h=>by simp at h) (fun t v h=>by simp at h) (by simp) hi' hop (fun ρ M a w _=>by simp[Region.wanted,hg0]) (fun ts2 hs2 L2 ρ' M' a' w' hk2 hi2 hs2'=>hKK _ ρ' M' a' w' ⟨_,_,L2,rfl,hi2,hk2⟩ hs2')
   obtain⟨rows,ts',hs',L',hk,hi',hst,hts,hhs,hg⟩:=QdJ hE ops.size 0 [] ts hs L h hi
   change (if Qiy ops rows ts hs=true then K .normal ts' hs' else none)=some r at hk
   split at hk
   case isFalse=>simp at hk
   rename_i hind
   show AWp P Γ _ (mk (erT L ts) (erH L hs)) _
   rw[hts,hhs]
   exact AWp.drawG hn (by rw[hm,Bool.true_or]) _ hst hg (QmF hind L') ⟨_,_,L',rfl,hi',hk⟩
 |.rangeFunc ..,an,ts,hs,L,K,h,hi=>by simp[vc]at h
 |.scope _,an,ts,hs,L,K,h,hi=>by simp[vc]at h
 |.goto _,an,ts,hs,L,K,h,hi=>by simp[vc]at h
 |.refuse _,an,ts,hs,L,K,h,hi=>by simp[vc]at h
end
section
variable {R:Type} (P:Program)
def resV(ts:TS)(hs:HS):ResultVar→Option BV
 |.tmp t=>look t ts
 |.cell t T=>match look t ts with
  |some (.ref n 0)=>match look n hs with
   |some (.box cells)=>if aggT P T then(match Zx P T with|some z=>if Nat.beq z cells.length then some (.agg cells)else none|none=>none)
    else if QaJ P T then(match cells with|[v]=>some v|_=>none)else none
   |_=>none
  |_=>none
def QoB(ts:TS)(hs:HS):List ResultVar→Option (List BV)
 |[]=>some []
 |x::q=>match resV P ts hs x,QoB ts hs q with
  |some v,some vs=>some (v::vs)
  |_,_=>none
def Sh.owns:Sh→List Name
 |.own nm=>[nm]
 |.view nm=>[nm]
 |_=>[]
def SSh.owns:SSh→List Name
 |.one s=>s.owns
 |.st _=>[]
 |.agg l=>l.flatMap Sh.owns
def OSh.owns:OSh→List Name
 |.box l=>l.flatMap Sh.owns
 |_=>[]
def arrB(l:List (Name×OSh))(n:Name):Bool:=match look n l with
 |some (.arr _)=>true
 |_=>false
def sameC{α:Type}[DecidableEq α](a b:α)(x:Option R):Option R:=if a=b then x else none
def QfA(hs:HS):(l:List (Name×OSh))→List Name→OL l→Option R→Option R
 |[],_,_,x=>x
 |(nm,.arr t)::l,ks,y,x=>if isIn nm ks then(match look nm hs with
   |some (.arr t' z _)=>if h:t'=t then sameC (Qmg h z) y.1 (QfA hs l ks y.2 x)else none
   |_=>none)else QfA hs l ks y.2 x
 |(nm,.box _)::l,ks,y,x=>if isIn nm ks then none else QfA hs l ks y.2 x
 |(nm,.arrs _)::l,ks,y,x=>if isIn nm ks then none else QfA hs l ks y.2 x
 |(nm,.sm)::l,ks,y,x=>if isIn nm ks then none else QfA hs l ks y.2 x
 |(nm,.boxst t)::l,ks,y,x=>if isIn nm ks then(match look nm hs with
   |some (.box cs)=>tpop t cs fun z rest=>match rest with
    |[]=>sameC z y.1 (QfA hs l ks y.2 x)
    |_=>none
   |_=>none)else QfA hs l ks y.2 x
def QsE:List ResultVar→List SSh→List (Nat×SSh)
 |.tmp t::r,s::q=>(t,s)::QsE r q
 |_::r,_::q=>QsE r q
 |_,_=>[]
def endK(gn:List Name)(rs:List ResultVar)(g:Sig)(y:OL g.pre)(K:SL g.res→OL g.post→Option R)(ts:TS)(hs:HS):Option R:=
 QjQ g.post (QsE rs g.res) ts hs fun ts hs=>match QoB P ts hs rs with
 |none=>none
 |some vs=>frzK gn (Uf g.post hs g.res vs) ts hs fun ts hs=>match QoB P ts hs rs with
  |none=>none
  |some vs=>SL.get g.res (QlT hs g.res vs) [] fun σ a=>OL.get g.post hs ((keys g.post).map (fun n=>(n,(n,QwW n hs)))++σ) fun σ b=>
    if QvG σ && (keys g.pre).all (fun n=>isIn n (keys g.post) || isIn n g.keep) && g.keep.all (fun n=>isIn n (keys g.pre)) && (g.res.flatMap SSh.owns).all (arrB g.post) && (g.post.flatMap fun p=>p.2.owns).all (arrB g.post)then QfA hs g.pre g.keep y (K a b)else none
end
end Go.Proofs.YtadlpefpehjcoaaGreat.AM
/-
  The typed layer, part P: the contract of a function, out of what is reckoned of its code. No project text.
-/
namespace Go.Proofs.YtadlpefpehjcoaaGreat.AM
open Go
variable {L L':Lens} {ts ts':TS} {hs hs':HS}
theorem QrX{M:Nat→Prop}{ρ:Name→Loc}{h h':List (Name×AO)}(h1:∀n o',look n h'=some o'→∃o,look n h=some o)(h2:∀n o,look n h=some o→∃o',look n h'=some o'):newM M ρ h=newM M ρ h':=by
 funext b
 exact propext (or_congr_right ⟨fun⟨n,o,k1,k2⟩=>by obtain⟨o',k3⟩:=h2 n o k1;exact⟨n,o',k3,k2⟩,fun⟨n,o,k1,k2⟩=>by obtain⟨o',k3⟩:=h1 n o k1;exact⟨n,o',k3,k2⟩⟩)
theorem After.le{ρ:Name→Loc}{M:Nat→Prop}{w:World}{pre:List (Name×AO)}{u:Value}{v v':AV}{h h':List (Name×AO)}{ρ':Name→Loc}{w':World}(ha:After ρ M w pre u v h ρ' w')(hv:∀(ρ:Name→Loc) (H:Heap) (M:Nat→Prop) (w:World) (u:Value),v.R ρ H M w u→v'.R ρ H M w u)(h1:∀n o',look n h'=some o'→∃o,look n h=some o∧(o=o'∨∃cs ds,o=.box cs∧o'=.box ds∧Xs cs ds))(h2:∀n o,look n h=some o→∃o',look n h'=some o'):After ρ M w pre u v' h' ρ' w':=by
 have hM:newM M ρ' h=newM M ρ' h':=QrX (fun n o' hn=>by obtain⟨o,k,_⟩:=h1 n o' hn;exact⟨o,k⟩) h2
 have hst:QbY ρ' (Xi h) ρ' (Xi h'):=fun n o hn=>by
  obtain⟨o',ho'⟩:=h2 n o hn
  obtain⟨o2,ho2,hle⟩:=h1 n o' ho'
  change look n h=some o at hn
  rw[hn]at ho2;cases ho2
  change stays o (ρ' n) (look n h') (ρ' n)
  rw[ho']
  rcases hle with rfl|⟨cs,ds,rfl,rfl,_⟩
  ·exact Zd _ _
  ·rfl
 have hnn:∀n,Xi h n=none→Xi h' n=none:=fun n hn=>by
  cases hc:Xi h' n with
  |none=>rfl
  |some o'=>
   obtain⟨o,ho,_⟩:=h1 n o' hc
   change look n h=none at hn
   rw[ho]at hn;simp at hn
 have hconvs:∀{xs:List AV} {us:List Value},AV.Rs ρ' (Xi h) (newM M ρ' h) w' xs us→AV.Rs ρ' (Xi h') (newM M ρ' h) w' xs us:=fun hr=>
  hr.step (Ext.refl (fun _=>False) _) (fun _ hb=>hb.elim) (fun b _ hb=>hb) hst (fun n _=>hnn n)
 refine⟨?_,fun n o' hn=>?_,fun n m o o' b g1 g2=>?_,fun n o b g1 g2=>?_,ha.ext,fun n o hn=>?_⟩
 ·rw[←hM]
  exact hv _ _ _ _ _ (ha.val.step (Ext.refl (fun _=>False) _) (fun _ hb=>hb.elim) (fun b _ hb=>hb) hst (fun n _=>hnn n))
 ·obtain⟨o,ho,hle⟩:=h1 n o' hn
  have hobj:=ha.objs n o ho
  rw[←hM]
  rcases hle with rfl|⟨cs,ds,rfl,rfl,hle⟩
  ·cases o with
   |box cells=>obtain⟨b,T,cs,k1,k2,k3,k4⟩:=hobj;exact⟨b,T,cs,k1,k2,k3,hconvs k4⟩
   |arr es rows=>exact hobj
   |hole es pre row post=>obtain⟨k0,k0',k1,b,T,cs,k3,k4,k5,k6,k7,k8,k9⟩:=hobj;exact⟨k0,k0',k1,b,T,cs,k3,k4,k5,k6,k7,hconvs k8,k9⟩
   |fact a x=>exact⟨hobj.1,hobj.2.step (Ext.refl (fun _=>False) _) (fun _ hb=>hb.elim) (fun b _ hb=>hb) hst (fun n _=>hnn n)⟩
   |obj x=>exact hobj
  ·obtain⟨b,T,us',k1,k2,k3,k4⟩:=hobj
   exact⟨b,T,us',k1,k2,k3,QqD hle _ (hconvs k4)⟩
 ·obtain⟨p,k1,_⟩:=h1 n o g1
  obtain⟨q,k2,_⟩:=h1 m o' g2
  exact ha.inj n m p q b k1 k2
 ·obtain⟨p,k1,_⟩:=h1 n o g1
  exact ha.own n p b k1 g2
 ·obtain⟨o1,k1,k2⟩:=ha.keep n o hn
  obtain⟨o2,k3⟩:=h2 n o1 k1
  refine⟨o2,k3,?_⟩
  obtain⟨o3,k4,hle⟩:=h1 n o2 k3
  rw[k1]at k4;cases k4
  rcases hle with rfl|⟨cs,ds,rfl,rfl,_⟩
  ·exact k2
  ·cases o<;>simp only[stays]at k2⊢<;>exact k2
section
variable {u v:Nat}
theorem Sh.put_ver{s:Sh}{X:Type}{x:s.prod X}(h:∀n,n∈s.owns→L n u=L' n v):(s.put u X x).1.er L=(s.put v X x).1.er L'∧(s.put u X x).2=(s.put v X x).2:=by
 cases s with
 |own nm=>exact⟨by simp only[Sh.put,BV.er];rw[h nm (by simp[Sh.owns])],rfl⟩
 |view nm=>exact⟨by simp only[Sh.put,BV.er];rw[h nm (by simp[Sh.owns])],rfl⟩
 |clo f caps=>exact⟨by simp only[Sh.put,BV.er];congr 1;simp only[Vj,List.map_map];exact List.map_congr_left fun n _=>by simp only[Function.comp,BV.er],rfl⟩
 |_=>exact⟨by simp only[Sh.put,BV.er],rfl⟩
theorem TL.put_ver:∀{l:List Sh} {x:TL l},(∀n,n∈l.flatMap Sh.owns→L n u=L' n v)→erL L (TL.put u l x)=erL L' (TL.put v l x)
 |[],x,_=>by simp only[TL.put,erL]
 |s::r,x,h=>by
  have h1:=Sh.put_ver (s:=s) (x:=x) (L:=L) (L':=L') (u:=u) (v:=v) (fun n hn=>h n (by simp[hn]))
  have h2:=TL.put_ver (l:=r) (x:=(s.put u _ x).2) (fun n hn=>h n (by rw[List.flatMap_cons];exact List.mem_append_right _ hn))
  simp only[TL.put,erL,h1.1,h2]
  rw[h1.2]
theorem SSh.put_ver{s:SSh}{X:Type}{x:s.prod X}(h:∀n,n∈s.owns→L n u=L' n v):(s.put u X x).1.er L=(s.put v X x).1.er L'∧(s.put u X x).2=(s.put v X x).2:=by
 cases s with
 |one s=>exact Sh.put_ver h
 |st t=>simp only[SSh.put,BV.er,and_true];rw[Vi (QbT t x.1),Vi (QbT t x.1)]
 |agg l=>simp only[SSh.put,BV.er,and_true];rw[TL.put_ver h]
theorem SL.put_ver:∀{l:List SSh} {x:SL l},(∀n,n∈l.flatMap SSh.owns→L n u=L' n v)→erL L (SL.put u l x)=erL L' (SL.put v l x)
 |[],x,_=>by simp only[SL.put,erL]
 |s::r,x,h=>by
  have h1:=SSh.put_ver (s:=s) (x:=x) (L:=L) (L':=L') (u:=u) (v:=v) (fun n hn=>h n (by simp[hn]))
  have h2:=SL.put_ver (l:=r) (x:=(s.put u _ x).2) (fun n hn=>h n (by rw[List.flatMap_cons];exact List.mem_append_right _ hn))
  simp only[SL.put,erL,h1.1,h2]
  rw[h1.2]
theorem OSh.put_ver{s:OSh}{x:s.T}(h:∀n,n∈s.owns→L n u=L' n v):(s.put u x).er L=(s.put v x).er L':=by
 cases s with
 |box l=>exact congrArg AO.box (TL.put_ver (l:=l) (x:=x) h)
 |boxst t=>simp only[OSh.put,BO.er];rw[Vi (QbT t x),Vi (QbT t x)]
 |arr t=>simp only[OSh.put,BO.er]
 |arrs t=>simp only[OSh.put,BO.er]
 |sm=>simp only[OSh.put,BO.er]
end
theorem Qob{u:Nat}{n:Name}{b:BO}:∀{l:List (Name×OSh)} {y:OL l},look n (OL.put u l y)=some b→∃(p:Name×OSh) (x:p.2.T),p∈l∧look n l=some p.2∧b=p.2.put u x∧∀w,look n (OL.put w l y)=some (p.2.put w x)
 |[],y,h=>by change look n []=some b at h;simp[look]at h
 |p::l,y,h=>by
  change look n ((p.1,p.2.put u y.1)::OL.put u l y.2)=some b at h
  simp only[look]at h
  split at h
  ·rename_i e
   cases h
   refine⟨p,y.1,by simp,by obtain⟨k,o⟩:=p;simp only[look];rw[if_pos e],rfl,fun w=>?_⟩
   change look n ((p.1,p.2.put w y.1)::OL.put w l y.2)=_
   simp only[look];rw[if_pos e]
  ·rename_i e
   obtain⟨q,x,h1,h2,h3,h4⟩:=Qob h
   refine⟨q,x,List.mem_cons_of_mem _ h1,by obtain⟨k,o⟩:=p;simp only[look];rw[if_neg e];exact h2,h3,fun w=>?_⟩
   change look n ((p.1,p.2.put w y.1)::OL.put w l y.2)=_
   simp only[look];rw[if_neg e];exact h4 w
def Qbs:Nat→List BV→TS
 |_,[]=>[]
 |i,x::r=>(i,x)::Qbs (i+1) r
theorem QhT:∀(i:Nat) (l:List BV),UN i (erL L l)=erT L (Qbs i l)
 |_,[]=>by simp only[erL,UN,Qbs];rfl
 |i,x::r=>by simp only[erL,UN,Qbs,QhT (i+1) r];rfl
theorem Xs.Ts{ρ:Name→Loc}{H:Heap}{M:Nat→Prop}{w:World}:∀{xs ys:List AV} {us:List Value},Xs xs ys→AV.Ts ρ H M w xs us→AV.Ts ρ H M w ys us
 |[],ys,us,h,hr=>by cases h;exact hr
 |x::xs,ys,us,h,hr=>by
  cases h with
  |cons h1 h2=>
   simp only[AV.Ts]at hr ⊢
   obtain⟨u,us',rfl,h3,h4⟩:=hr
   exact⟨u,us',rfl,h1.sound u h3,Xs.Ts h2 h4⟩
theorem Qsw{vs ws:List BV}(h:Xs (erL L vs) (erL L' ws))(ρ:Name→Loc)(H:Heap)(M:Nat→Prop)(w:World)(u:Value)(hr:((resB vs).er L).R ρ H M w u):((resB ws).er L').R ρ H M w u:=by
 have hl:vs.length=ws.length:=by have:=h.len;rwa [Xg,Xg]at this
 match vs,ws,hl with
 |[],[],_=>exact hr
 |[v],[x],_=>
  simp only[erL]at h
  cases h with
  |cons h1 _=>exact h1.sound u hr
 |v1::v2::vs,x1::x2::ws,_=>
  simp only[resB,BV.er,AV.R]at hr ⊢
  obtain⟨us,rfl,h2⟩:=hr
  exact⟨us,rfl,Xs.Ts h h2⟩
section
variable {P:Program}
theorem Qkl:∀{rs:List ResultVar} {vs:List BV},QoB P ts hs rs=some vs→vs.length=rs.length∧Res1s P (BS L ts hs) rs (erL L vs)
 |[],vs,h=>by simp only[QoB,Option.some.injEq]at h;subst h;exact⟨rfl,by simp only[erL];rfl⟩
 |x::q,vs,h=>by
  simp only[QoB]at h
  split at h
  ·rename_i v vs' h1 h2
   cases h
   obtain⟨k1,k2⟩:=Qkl h2
   refine⟨by simp[k1],⟨v.er L,erL L vs',by simp only[erL],?_,k2⟩⟩
   cases x with
   |tmp t=>
    simp only[resV]at h1
    show(BS L ts hs).slot t=_
    rw[XQ,h1];rfl
   |cell t T=>
    simp only[resV]at h1
    split at h1
    ·rename_i n ht
     split at h1
     ·rename_i cells hc
      refine⟨n,erL L cells,by rw[XQ,ht];simp only[Option.map_some,BV.er],by rw[X1,hc];rfl,?_⟩
      split at h1
      ·rename_i hT
       split at h1
       ·rename_i z hz
        split at h1
        ·rename_i hb;cases h1;exact .inl ⟨hT,by rw[hz,Xg,nbe hb],by simp only[BV.er]⟩
        ·simp at h1
       ·simp at h1
      ·split at h1
       ·rename_i hT
        split at h1
        ·cases h1;exact .inr ⟨hT,by simp only[erL]⟩
        ·simp at h1
       ·simp at h1
     ·simp at h1
    ·simp at h1
  ·simp at h
theorem QwP{rs:Array ResultVar}{vs:List BV}(h:QoB P ts hs rs.toList=some vs):Res P (BS L ts hs) rs ((resB vs).er L):=by
 obtain⟨h1,h2⟩:=Qkl (L:=L) h
 unfold Res
 match vs,h1 with
 |[],h1=>
  have:¬rs.size=1:=fun e=>by rw[←Array.length_toList,←h1]at e;simp at e
  rw[if_neg this];exact⟨_,by simp only[resB,BV.er],h2⟩
 |[v],h1=>
  have:rs.size=1:=by rw[←Array.length_toList,←h1];rfl
  rw[if_pos this];simpa only[resB,erL]using h2
 |v1::v2::vs,h1=>
  have:¬rs.size=1:=fun e=>by rw[←Array.length_toList,←h1]at e;simp at e
  rw[if_neg this];exact⟨_,by simp only[resB,BV.er],h2⟩
theorem W2{R:Type}{r:R}:∀{l:List (Name×OSh)} {ks:List Name} {y:OL l} {x:Option R},QfA hs l ks y x=some r→
  x=some r∧∀n b,n∈ks→look n (OL.put 0 l y)=some b→(∃t z v,b=.arr t z 0∧look n hs=some (.arr t z v))∨∃t z cs,b=.box (tb t z)∧look n hs=some (.box cs)∧Le cs (tb t z)
 |[],ks,y,x,h=>⟨h,fun n b _ hn=>by change look n []=some b at hn;simp[look]at hn⟩
 |(nm,o)::l,ks,y,x,h=>by
  have hrest:(x=some r∧∀n b,n∈ks→look n (OL.put 0 l y.2)=some b→(∃t z v,b=.arr t z 0∧look n hs=some (.arr t z v))∨∃t z cs,b=.box (tb t z)∧look n hs=some (.box cs)∧Le cs (tb t z))→
    (isIn nm ks=true→(∃t z v,o.put 0 y.1=.arr t z 0∧look nm hs=some (.arr t z v))∨∃t z cs,o.put 0 y.1=.box (tb t z)∧look nm hs=some (.box cs)∧Le cs (tb t z))→
    x=some r∧∀n b,n∈ks→look n (OL.put 0 ((nm,o)::l) y)=some b→(∃t z v,b=.arr t z 0∧look n hs=some (.arr t z v))∨∃t z cs,b=.box (tb t z)∧look n hs=some (.box cs)∧Le cs (tb t z):=fun hr hq=>by
   refine⟨hr.1,fun n b hn hb=>?_⟩
   change look n ((nm,o.put 0 y.1)::OL.put 0 l y.2)=some b at hb
   simp only[look]at hb
   split at hb
   ·rename_i e
    subst e;cases hb
    exact hq (Wl.2 hn)
   ·exact hr.2 n b hn hb
  cases o with
  |arr t=>
   simp only[QfA]at h
   split at h
   ·split at h
    ·rename_i t' z v hl
     split at h
     ·rename_i he
      subst he
      unfold sameC at h
      split at h
      ·rename_i hz
       exact hrest (W2 h) (fun _=>.inl ⟨_,_,v,rfl,by rw[hl,←hz];rfl⟩)
      ·simp at h
     ·simp at h
    ·simp at h
   ·rename_i hin
    exact hrest (W2 h) (fun hi=>absurd hi hin)
  |boxst t=>
   simp only[QfA]at h
   split at h
   ·split at h
    ·rename_i cs hl
     obtain⟨z,rest,hle,h⟩:=QbW t h
     split at h
     ·unfold sameC at h
      split at h
      ·rename_i hz
       refine hrest (W2 h) (fun _=>.inr ⟨t,y.1,cs,rfl,hl,?_⟩)
       rw[List.append_nil]at hle
       rw[←hz];exact hle
      ·simp at h
     ·simp at h
    ·simp at h
   ·rename_i hin
    exact hrest (W2 h) (fun hi=>absurd hi hin)
  |box c=>
   simp only[QfA]at h
   split at h
   ·simp at h
   ·rename_i hin
    exact hrest (W2 h) (fun hi=>absurd hi hin)
  |arrs c=>
   simp only[QfA]at h
   split at h
   ·simp at h
   ·rename_i hin
    exact hrest (W2 h) (fun hi=>absurd hi hin)
  |sm=>
   simp only[QfA]at h
   split at h
   ·simp at h
   ·rename_i hin
    exact hrest (W2 h) (fun hi=>absurd hi hin)
theorem QgN{u:Nat}:∀{l:List SSh} {x:SL l},(SL.put u l x).length=l.length
 |[],_=>rfl
 |s::r,x=>by simp only[SL.put,List.length_cons,QgN (l:=r)]
def Qgp:(l:List (Name×OSh))→OL l→Name→Option Nat
 |[],_,_=>none
 |(k,.arr _)::r,y,n=>if Nat.beq k n then some y.1.length else Qgp r y.2 n
 |(k,.arrs _)::r,y,n=>if Nat.beq k n then none else Qgp r y.2 n
 |(k,.box _)::r,y,n=>if Nat.beq k n then none else Qgp r y.2 n
 |(k,.boxst _)::r,y,n=>if Nat.beq k n then none else Qgp r y.2 n
 |(k,.sm)::r,y,n=>if Nat.beq k n then none else Qgp r y.2 n
def lenB{R:Type}(pre:List (Name×OSh))(y:OL pre):(l:List (Name×OSh))→OL l→Option R→Option R
 |[],_,x=>x
 |(n,.arrs _)::r,b,x=>match Qgp pre y n with
  |some m=>chk b.1.length m (lenB pre y r b.2 x)
  |none=>none
 |(_,.arr _)::r,b,x=>lenB pre y r b.2 x
 |(_,.box _)::r,b,x=>lenB pre y r b.2 x
 |(_,.boxst _)::r,b,x=>lenB pre y r b.2 x
 |(_,.sm)::r,b,x=>lenB pre y r b.2 x
theorem Qka:∀{l:List (Name×OSh)} {y:OL l} {n:Name} {m:Nat},Qgp l y n=some m→∃(t:TC) (z:List (TT t)),look n (OL.put 0 l y)=some (.arr t z 0)∧z.length=m
 |[],y,n,m,h=>by simp[Qgp]at h
 |(k,o)::r,y,n,m,h=>by
  have hrest:Qgp r y.2 n=some m→k≠n→∃(t:TC) (z:List (TT t)),look n (OL.put 0 ((k,o)::r) y)=some (.arr t z 0)∧z.length=m:=fun h e=>by
   obtain⟨t,z,h1,h2⟩:=Qka h
   refine⟨t,z,?_,h2⟩
   change look n ((k,o.put 0 y.1)::OL.put 0 r y.2)=_
   simp only[look];rw[if_neg e];exact h1
  cases o<;>simp only[Qgp]at h<;>split at h
  all_goals first
   |(simp at h;done)
   |(rename_i e;exact hrest h (fun h'=>e (by rw[h'];exact Nat.beq_refl _)))
   |skip
  rename_i t e
  have:=nbe e;subst this
  refine⟨t,y.1,?_,by simpa using h⟩
  change look k ((k,_)::OL.put 0 r y.2)=_
  simp only[look,if_true];rfl
theorem Qam{R:Type}{r:R}{pre:List (Name×OSh)}{y:OL pre}:∀{l:List (Name×OSh)} {b:OL l} {x:Option R},lenB pre y l b x=some r→
  x=some r∧∀n (t:TC) (z:List (TT t)),look n (OL.put 1 l b)=some (.arr t z 0)→Qgp pre y n=some z.length
 |[],b,x,h=>⟨h,fun n t z hn=>by change look n []=_ at hn;simp[look]at hn⟩
 |(k,o)::l,b,x,h=>by
  have hrest:lenB pre y l b.2 x=some r→(∀(t:TC) (z:List (TT t)),o.put 1 b.1=.arr t z 0→Qgp pre y k=some z.length)→
    x=some r∧∀n (t:TC) (z:List (TT t)),look n (OL.put 1 ((k,o)::l) b)=some (.arr t z 0)→Qgp pre y n=some z.length:=fun h hq=>by
   obtain⟨h1,h2⟩:=Qam h
   refine⟨h1,fun n t z hn=>?_⟩
   change look n ((k,o.put 1 b.1)::OL.put 1 l b.2)=_ at hn
   simp only[look]at hn
   split at hn
   ·rename_i e;subst e;exact hq t z (Option.some.inj hn)
   ·exact h2 n t z hn
  cases o with
  |arrs t=>
   simp only[lenB]at h
   split at h
   ·rename_i m hm
    obtain⟨e,h⟩:=Qfl h
    refine hrest h fun t' z hz=>?_
    simp only[OSh.put]at hz
    cases hz
    rw[hm,←e]
   ·simp at h
  |arr t=>exact hrest h fun t' z hz=>by simp only[OSh.put]at hz;injection hz with _ _ h3;simp at h3
  |box t=>exact hrest h fun t' z hz=>by simp[OSh.put]at hz
  |boxst t=>exact hrest h fun t' z hz=>by simp[OSh.put]at hz
  |sm=>exact hrest h fun t' z hz=>by simp[OSh.put]at hz
theorem QaU{R R':Type}{r:R}{r':R'}{pre:List (Name×OSh)}{y:OL pre}:∀{l:List (Name×OSh)} {b:OL l} {x:Option R},lenB pre y l b x=some r→lenB pre y l b (some r')=some r'
 |[],b,x,h=>rfl
 |(k,.arrs t)::l,b,x,h=>by
  simp only[lenB]at h ⊢
  split at h
  ·obtain⟨e,h⟩:=Qfl h
   unfold chk;rw[if_pos e];exact QaU h
  ·simp at h
 |(k,.arr t)::l,b,x,h=>QaU (l:=l) h
 |(k,.box t)::l,b,x,h=>QaU (l:=l) h
 |(k,.boxst t)::l,b,x,h=>QaU (l:=l) h
 |(k,.sm)::l,b,x,h=>QaU (l:=l) h
def Qf(args:List SSh)(pre:List (Name×OSh))(res:List SSh)(post:List (Name×OSh))(keep:List Name)(Ret:Type)(un:Ret→SL res×OL post)(f:SL args→OL pre→Option Ret):Sig:=
 ⟨args,pre,res,post,keep,fun _ x y K=>optc (f x y) fun q=>lenB pre y post (un q).2 (K (un q).1 (un q).2)⟩
def finK{R:Type}(P:Program)(gn:List Name)(rs:List ResultVar)(g:Sig)(y:OL g.pre)(K:SL g.res→OL g.post→Option R):Cont R:=fun e ts hs=>match e with
 |.normal=>endK P gn rs g y K ts hs
 |.ret=>endK P gn rs g y K ts hs
 |_=>none
theorem FnOK.intro{ty:TypeId→Option TC}{E:Env}{fu:Nat}{f:FuncId}{fn:Func}{c:Code}{an:Ann}{args:List SSh}{pre:List (Name×OSh)}{res:List SSh}{post:List (Name×OSh)}{keep:List Name}{Ret:Type}[DecidableEq Ret]{un:Ret→SL res×OL post}{F:SL args→OL pre→Option Ret}(conv:SL res→OL post→Ret)(hcu:∀a b,un (conv a b)=(a,b))(hE:QlZ P E)(hf:P.funcs[f]?=some fn)(hb:fn.body=some c)(hlen:Nat.ble args.length fn.ntmps=true)(hF:∀x y,vc P ty E (keys pre) fn.ntmps fu c an (Qbs 0 (SL.put 0 args x)) (OL.put 0 pre y) (finK P (keys pre) fn.results.toList (Qf args pre res post keep Ret un F) y fun a b=>some (conv a b))=F x y):
  FnOK P f (Qf args pre res post keep Ret un F):=by
 refine⟨fun R x y K r h=>?_,fun x y a b h L0 hL0=>?_⟩
 ·obtain⟨q,hq,h⟩:=Yf h
  obtain⟨h',hle⟩:=Qam h
  refine⟨(un q).1,(un q).2,?_,h'⟩
  show optc (F x y) _=_
  rw[hq]
  exact QaU h
 ·change SL args at x
  change OL pre at y
  change SL res at a
  change OL post at b
  obtain⟨q,hq,h⟩:=Yf h
  obtain⟨h,hlens⟩:=Qam h
  simp only[Option.some.injEq]at h
  have hvc:=(hF x y).trans hq
  let g:Sig:=Qf args pre res post keep Ret un F
  let L1:Lens:=fun n v=>match look n (g.posts y b)with
   |some (.arr t l u)=>if v=u then l.length else L0 n v
   |_=>L0 n v
  have hL1:∀n t l v,look n (g.posts y b)=some (.arr t l v)→L1 n v=l.length:=fun n t l v hn=>by
   show(match look n (g.posts y b)with|some (.arr t l u)=>if v=u then l.length else L0 n v|_=>L0 n v)=_
   rw[hn];simp only[if_true]
  have hpost:∀n b0,look n (OL.put 1 post b)=some b0→look n (g.posts y b)=some b0:=fun n b0 hn=>by
   show look n (OL.put 1 post b++_)=_
   rw[YG,hn]
  have hpre:∀n b0,look n (OL.put 1 post b)=none→n∈keep→look n (OL.put 0 pre y)=some b0→look n (g.posts y b)=some b0:=fun n b0 h1 h2 h3=>by
   show look n (OL.put 1 post b++(OL.put 0 pre y).filter (fun p=>keep.contains p.1))=_
   rw[YG,h1]
   simp only[Qan (f:=fun n=>keep.contains n)]
   rw[if_pos (by simpa using h2),h3]
  refine⟨L1,fun n hn=>?_,hL1,?_⟩
  ·show(match look n (g.posts y b)with|some (.arr t l u)=>if 0=u then l.length else L0 n 0|_=>L0 n 0)=_
   split
   ·rename_i t l u hl
    split
    ·rename_i e
     subst e
     change look n (OL.put 1 post b++(OL.put 0 pre y).filter (fun p=>keep.contains p.1))=_ at hl
     rw[YG]at hl
     cases h1:look n (OL.put 1 post b)with
     |some b1=>
      rw[h1]at hl;cases hl
      have hab:(un q).2=b:=congrArg Prod.snd h
      rw[hab]at hlens
      obtain⟨t',z,k1,k2⟩:=Qka (hlens n t l h1)
      rw[←k2];exact(hL0 n t' z 0 k1).symm
     |none=>
      rw[h1]at hl
      simp only[Qan (f:=fun n=>keep.contains n)]at hl
      split at hl
      ·exact(hL0 n t l 0 hl).symm
      ·simp at hl
    ·rfl
   ·rfl
  ·have hspec:Spec P f (erL L0 (SL.put 0 args x)) (erH L0 (OL.put 0 pre y)) fun v h'=>
     (∀(ρ:Name→Loc) (H:Heap) (M:Nat→Prop) (w:World) (u:Value),v.R ρ H M w u→((resB (SL.put 1 res a)).er L1).R ρ H M w u)∧
     (∀n o',look n (erH L1 (g.posts y b))=some o'→∃o,look n h'=some o∧(o=o'∨∃cs ds,o=.box cs∧o'=.box ds∧Xs cs ds))∧(∀n o,look n h'=some o→∃o',look n (erH L1 (g.posts y b))=some o'):=by
    refine Spec.intro hf hb (by rw[Xg,QgN];exact hlen) fun Γ hn hk=>?_
    rw[Qb5,Qk2]at hk
    rw[QhT]
    refine AWp.post ((Qjj hE hk hn c an _ _ L0 _ hvc hL0).mono fun e s'=>?_)
    rintro⟨ts',hs',L',rfl,hi',hk'⟩
    have hend:(e=.normal∨e=.ret)∧endK P (keys pre) fn.results.toList g y (fun a b=>some (conv a b)) ts' hs'=some q:=by
     cases e with
     |normal=>exact⟨.inl rfl,hk'⟩
     |ret=>exact⟨.inr rfl,hk'⟩
     |_=>simp[finK]at hk'
    obtain⟨he,hk'⟩:=hend
    unfold endK at hk'
    obtain⟨ts2,hs2,L2,hk',hi2,hw0⟩:=Qac (Γ:=Γ) hk' hi'
    split at hk'
    ·simp at hk'
    rename_i vs0 hvs0
    obtain⟨ts1,hs1,hk',hi1,hw1⟩:=Qbw hk hk' hi2
    split at hk'
    ·simp at hk'
    rename_i vs hvs
    obtain⟨σ1,a',hk',hs1',g1⟩:=SL.get_some hk'
    obtain⟨σ2,b',hk',hs2',g2⟩:=OL.get_some hk'
    split at hk'
    case isFalse=>simp at hk'
    rename_i hchk
    simp only[bae]at hchk
    obtain⟨⟨⟨⟨hid,hall⟩,hkp⟩,hown1⟩,hown2⟩:=hchk
    obtain⟨hq',hkept⟩:=W2 hk'
    simp only[Option.some.injEq]at hq'
    have hab:(a',b')=(a,b):=(hcu a' b').symm.trans ((congrArg un hq').trans h)
    obtain⟨hab1,hab2⟩:=Prod.mk.inj hab
    rw[hab1]at g1
    rw[hab2]at g2
    have hf2:=QnD hid
    have hf1:Fit (fun n=>n) (Qf3 σ2) σ1:=hf2.mono fun p hp=>hs2' p (List.mem_append_right _ hp)
    have hlen2:∀n,arrB post n=true→UH L2 (fun n=>n) (Qf3 σ2) n 0=L1 n 1:=fun n hn=>by
     have hkn:n∈keys post:=by
      unfold arrB at hn
      split at hn
      ·rename_i hl;exact Zt (by rw[hl];simp)
      ·simp at hn
     obtain⟨b0,hb0⟩:=QdP (u:=0) (y:=b) hkn
     obtain⟨p,z,hp1,hp2,hp3,hp4⟩:=Qob hb0
     unfold arrB at hn
     rw[hp2]at hn
     obtain⟨k,o⟩:=p
     cases o with
     |arr t=>
      have h1:=hL1 n t z 1 (hpost n _ (hp4 1))
      obtain⟨ob,hob,hle⟩:=g2 _ _ L2 hf2 n _ (hp4 0)
      rcases hle with⟨cs,ds,_,h2,_⟩|⟨t',l',rfl,h2⟩|⟨es,_,h2⟩
      ·cases h2
      ·cases h2
       rw[h1];exact hi1 n t z _ hob
      ·cases h2
     |box l=>simp at hn
     |boxst t=>simp at hn
     |arrs t=>simp at hn
     |sm=>simp at hn
    have hle1:Xs (erL L2 (QlT hs1 g.res vs)) (erL L1 (SL.put 1 res a)):=by
     have:=g1 _ _ L2 hf1
     rw[Qdr]at this
     have e:=SL.put_ver (l:=res) (x:=a) (L:=UH L2 (fun n=>n) (Qf3 σ2)) (L':=L1) (u:=0) (v:=1) (fun n hn=>hlen2 n (List.all_eq_true.1 hown1 n hn))
     exact Eq.mp (congrArg (Xs (erL L2 (QlT hs1 g.res vs))) e) this
    have hobj:∀n b0,look n (g.posts y b)=some b0→∃ob,look n hs1=some ob∧(ob.er L2=b0.er L1∨∃cs ds,ob.er L2=.box cs∧b0.er L1=.box ds∧Xs cs ds):=fun n b0 hb0=>by
     cases hp0:look n (OL.put 1 post b)with
     |some b1=>
      rw[hpost n b1 hp0]at hb0;cases hb0
      obtain⟨p,z,hp1,hp2,hp3,hp4⟩:=Qob hp0
      subst hp3
      obtain⟨ob,hob,hle⟩:=g2 _ _ L2 hf2 n _ (hp4 0)
      refine⟨ob,hob,?_⟩
      have hv:=OSh.put_ver (s:=p.2) (x:=z) (L:=UH L2 (fun n=>n) (Qf3 σ2)) (L':=L1) (u:=0) (v:=1) (fun m hm=>hlen2 m (List.all_eq_true.1 hown2 m (List.mem_flatMap.2 ⟨p,hp1,hm⟩)))
      rw[←hv]
      rcases hle with⟨cs,ds,rfl,h2,h3⟩|⟨t',l',rfl,h2⟩|⟨es,rfl,h2⟩
      ·rw[Qdr]at h3
       exact .inr ⟨_,_,rfl,by rw[h2];rfl,h3⟩
      ·exact .inl (by rw[h2];rfl)
      ·exact .inl (by rw[h2];rfl)
     |none=>
      change look n (OL.put 1 post b++(OL.put 0 pre y).filter (fun p=>keep.contains p.1))=_ at hb0
      rw[YG,hp0]at hb0
      simp only[Qan (f:=fun n=>keep.contains n)]at hb0
      split at hb0
      ·rename_i hc
       have hc':n∈keep:=by simpa using hc
       rcases hkept n b0 hc' hb0 with⟨t,z,v,rfl,hz⟩|⟨t,z,cs,rfl,hz,hle⟩
       ·exact⟨_,hz,.inl rfl⟩
       ·refine⟨_,hz,.inr ⟨_,_,rfl,rfl,?_⟩⟩
        rw[show erL L1 (tb t z)=erL L2 (tb t z)from by rw[Vi (QbT t z),Vi (QbT t z)]]
        exact hle L2
      ·simp at hb0
    refine⟨BS L2 ts1 hs1,fun ρ M a w hs0=>by obtain⟨ρ',M',h0⟩:=hw0 ρ M a w hs0;exact hw1 ρ' M' a w h0,he,(resB vs).er L2,erH L2 (hpOf (fun n=>n) hs1 (keys (g.posts y b))),QwP hvs,fun n o hn'=>?_,fun n hn'=>?_,fun ρ H M w u hr=>Qsw hle1 ρ H M w u (Qsw (QlU hi1) ρ H M w u hr),fun n o' hn'=>?_,fun n o hn'=>?_⟩
    ·rw[Z1]at hn'
     cases hl:look n (hpOf (fun n=>n) hs1 (keys (g.posts y b)))with
     |none=>rw[hl]at hn';simp at hn'
     |some ob=>rw[hl]at hn';rw[X1,Qhu (Q0 hl)];exact hn'
    ·rw[Qb5,Qk2]at hn'
     have hkey:∃b0,look n (g.posts y b)=some b0:=by
      cases hp0:look n (OL.put 1 post b)with
      |some b1=>exact⟨b1,hpost n b1 hp0⟩
      |none=>
       have:=List.all_eq_true.1 hall n hn'
       simp only[Bool.or_eq_true]at this
       rcases this with h1|h1
       ·obtain⟨b1,hb1⟩:=QdP (u:=1) (y:=b) (Wl.1 h1)
        change look n (OL.put 1 post b)=_ at hb1
        rw[hb1]at hp0;simp at hp0
       ·obtain⟨b1,hb1⟩:=QdP (u:=0) (y:=y) hn'
        exact⟨b1,hpre n b1 hp0 (Wl.1 h1) hb1⟩
     obtain⟨b0,hb0⟩:=hkey
     obtain⟨ob,hob,_⟩:=hobj n b0 hb0
     rw[Z1,Qc7 (rr:=fun n=>n) (fun _ _ h=>h) hob (Zt (by rw[hb0];simp))];simp
    ·rw[Z1]at hn'
     cases hb0:look n (g.posts y b)with
     |none=>rw[hb0]at hn';simp at hn'
     |some b0=>
      rw[hb0]at hn'
      simp only[Option.map_some,Option.some.injEq]at hn'
      obtain⟨ob,hob,hle⟩:=hobj n b0 hb0
      refine⟨ob.er L2,by rw[Z1,Qc7 (rr:=fun n=>n) (fun _ _ h=>h) hob (Zt (by rw[hb0];simp))];rfl,?_⟩
      rw[←hn'];exact hle
    ·rw[Z1]at hn'
     cases hl:look n (hpOf (fun n=>n) hs1 (keys (g.posts y b)))with
     |none=>rw[hl]at hn';simp at hn'
     |some ob=>
      obtain⟨m,hm,rfl⟩:=Qht (Q0 hl)
      obtain⟨b0,hb0⟩:=WB hm
      exact⟨_,by rw[Z1,hb0];rfl⟩
   intro G ρ M w us hG hM hargs hobjs hinj
   exact(hspec G ρ M w us hG hM hargs hobjs hinj).mono fun e w' ⟨u,v,h',ρ',e1,⟨c1,c2,c3⟩,ha⟩=>⟨u,_,_,ρ',e1,⟨rfl,rfl⟩,ha.le c1 c2 c3⟩
end
def fitC:List Sh→List BV→Bool
 |.own _::r,v::vs=>(match v with|.own _ _=>true|_=>false) && fitC r vs
 |_::r,_::vs=>fitC r vs
 |_,_=>true
def fitB:List SSh→List BV→Bool
 |.one (.own _)::r,v::vs=>(match v with|.own _ _=>true|_=>false) && fitB r vs
 |.one (.clo f _)::r,v::vs=>(match v with|.clo (.func k) _=>Nat.beq k f|_=>false) && fitB r vs
 |.one (.fv f)::r,v::vs=>(match v with|.v (.func (.func k) _ _)=>Nat.beq k f|_=>false) && fitB r vs
 |.agg l::r,v::vs=>(match v with|.agg cs=>fitC l cs|_=>false) && fitB r vs
 |_::r,_::vs=>fitB r vs
 |_,_=>true
def fitD:Nat→Option Nat→Bool
 |0,_=>true
 |n+1,some d=>Nat.beq n d
 |_,none=>false
def QtQ(d:Option Nat)(k:Nat)(vs:List BV):List (Nat×Nat×Sig)→Option Sig
 |[]=>none
 |(j,q,g)::r=>if Nat.beq j k && fitD q d && fitB g.args vs then some g else QtQ d k vs r
def envL(l:List (Nat×Nat×Sig)):Env:=fun d k vs=>QtQ d k vs l
def QgM(P:Program):List (Nat×Nat×Sig)→Prop
 |[]=>True
 |p::r=>FnOK P p.1 p.2.2∧QgM P r
theorem Qru{P:Program}:∀{l:List (Nat×Nat×Sig)},QgM P l→QlZ P (envL l)
 |[],_,d,k,vs,g,h=>by simp[envL,QtQ]at h
 |(j,q,g0)::r,hl,d,k,vs,g,h=>by
  simp only[envL,QtQ]at h
  split at h
  ·rename_i e
   simp only[bae]at e
   rw[←nbe e.1.1];cases h;exact hl.1
  ·exact Qru hl.2 d k vs g h
end Go.Proofs.YtadlpefpehjcoaaGreat.AM
/-
  How what is reckoned of code is evaluated: plain laws of its words. No project text.
-/
namespace Go.Proofs.YtadlpefpehjcoaaGreat.AM
open Go
section
variable {R α:Type} {r:R}
theorem QcX{p:Prop}[Decidable p]{x y:Option R}(h:p):cnd (decide p) x y=x:=by simp only[h,decide_true,cnd]
theorem Qg9{p:Prop}[Decidable p]{x y:Option R}(h:¬p):cnd (decide p) x y=y:=by simp only[h,decide_false,cnd]
theorem QuB{p:Prop}[Decidable p]{x y:Option R}:cnd (decide p) x y=if p then x else y:=by
 by_cases h:p
 ·rw[QcX h,if_pos h]
 ·rw[Qg9 h,if_neg h]
theorem QuJ{j:Int}{k:Nat→Option R}(h:0≤j):natc j k=k j.toNat:=by unfold natc;rw[if_pos h]
theorem QwK(i:Nat){k:Nat→Option R}:natc (i:Int) k=k i:=by unfold natc;rw[if_pos (Int.natCast_nonneg i)];rfl
theorem ZK{x:α}{k:α→Option R}:optc (some x) k=k x:=rfl
theorem Ws{o:Option α}{x:α}{k:α→Option R}(h:o=some x):optc o k=k x:=by subst h;rfl
theorem Qww[Inhabited α]{l:List α}{j:Int}{k:α→Option R}(h:0≤j)(h':j<(l.length:Int)):atc l j k=k (nth l j.toNat):=by
 unfold atc;rw[QuJ h]
 have:j.toNat<l.length:=by omega
 rw[List.getElem?_eq_getElem this]
 simp[optc,nth,List.getD_eq_getElem?_getD,List.getElem?_eq_getElem this]
theorem Qwv[Inhabited α]{l:List α}{i:Nat}{k:α→Option R}(h':i<l.length):atc l (i:Int) k=k (nth l i):=by
 rw[Qww (Int.natCast_nonneg i) (by omega)];rfl
theorem QvV[Inhabited α]{l:List α}{i:Nat}{k:α→Option R}(h':i<l.length):optc l[i]? k=k (nth l i):=by
 rw[List.getElem?_eq_getElem h']
 simp[optc,nth,List.getD_eq_getElem?_getD,List.getElem?_eq_getElem h']
theorem Qw2{a b:Nat}{x:Option R}(h:a=b):chk a b x=x:=by unfold chk;rw[if_pos h]
theorem Qw3{a b:Nat}{x:Option R}(h:a<b):ltc a b x=x:=by unfold ltc;rw[if_pos h]
theorem QwG{a b:Nat}{x:Option R}(h:a≤b):lec a b x=x:=by unfold lec;rw[if_pos h]
theorem Qr3{b:Int}{x:Option R}(h:b≠0):nzc b x=x:=by unfold nzc;rw[if_neg h]
theorem We{a:α}[DecidableEq α]{x:Option R}:sameC a a x=x:=by unfold sameC;rw[if_pos rfl]
theorem Qf6{x:Int}(h : -9223372036854775808≤x)(h':x≤9223372036854775807):IntKind.i64.wrap x=x:=by rw[IntKind.wrap_i64];omega
theorem QrL{X:Type}{B:(X→Option R)→X→Option R}{Q:Option R→Prop}(I:Nat→X→Prop)(hB:∀m x,I m x→∀k:X→Option R,(∀m' x',m'<m→I m' x'→Q (k x'))→Q (B k x)):
  ∀(m:Nat) (x:X) {fu:Nat},m<fu→I m x→Q (Qj B fu x):=by
 intro m
 induction m using Nat.strongRecOn with
 |_ m ih=>
  intro x fu hf hI
  obtain⟨f,rfl⟩:∃f,fu=f+1:=⟨fu - 1,by omega⟩
  show Q (B (Qj B f) x)
  exact hB m x hI _ fun m' x' hm hI'=>ih m' hm x' (by omega) hI'
def Ok(o:Option R)(Q:R→Prop):Prop:=∃x,o=some x∧Q x
variable {Q Q':R→Prop}
theorem Ok.s{x:R}(h:Q x):Ok (some x) Q:=⟨x,rfl,h⟩
theorem Ok.mono{o:Option R}(h:Ok o Q)(hq:∀x,Q x→Q' x):Ok o Q':=by obtain⟨x,h1,h2⟩:=h;exact⟨x,h1,hq x h2⟩
theorem Ok.cnd{b:Bool}{x y:Option R}(h1:b=true→Ok x Q)(h2:b=false→Ok y Q):Ok (AM.cnd b x y) Q:=by
 cases b
 ·exact h2 rfl
 ·exact h1 rfl
theorem Ok.ite{p:Prop}[Decidable p]{x y:Option R}(h1:p→Ok x Q)(h2:¬p→Ok y Q):Ok (AM.cnd (decide p) x y) Q:=
 Ok.cnd (fun h=>h1 (of_decide_eq_true h)) (fun h=>h2 (of_decide_eq_false h))
theorem Ok.opt{o:Option α}{P:α→Prop}{k:α→Option R}(h:Ok o P)(hk:∀x,P x→Ok (k x) Q):Ok (optc o k) Q:=by
 obtain⟨x,rfl,h2⟩:=h;exact hk x h2
theorem Ok.at[Inhabited α]{l:List α}{j:Int}{k:α→Option R}(h:0≤j)(h':j<(l.length:Int))(hk:Ok (k (nth l j.toNat)) Q):Ok (atc l j k) Q:=by rw[Qww h h'];exact hk
theorem Ok.lec{a b:Nat}{x:Option R}(h:a≤b)(hx:Ok x Q):Ok (AM.lec a b x) Q:=by rw[QwG h];exact hx
theorem Ok.nzc{b:Int}{x:Option R}(h:b≠0)(hx:Ok x Q):Ok (AM.nzc b x) Q:=by rw[Qr3 h];exact hx
theorem Ok.sameC{a:α}[DecidableEq α]{x:Option R}(hx:Ok x Q):Ok (AM.sameC a a x) Q:=by rw[We];exact hx
theorem Ok.join{Y:Type}{k:Y→Option R}{f:(Y→Option R)→Option R}(J:Y→Prop)(h1:∀y,J y→Ok (k y) Q)(h2:∀k:Y→Option R,(∀y,J y→Ok (k y) Q)→Ok (f k) Q):Ok (AM.join k f) Q:=h2 k h1
theorem Ok.loop{X:Type}{B:(X→Option R)→X→Option R}(I:Nat→X→Prop){m:Nat}{x:X}{fu:Nat}(hm:m<fu)(h0:I m x)(hB:∀m x,I m x→∀k:X→Option R,(∀m' x',m'<m→I m' x'→Ok (k x') Q)→Ok (B k x) Q):Ok (Qj B fu x) Q:=
 QrL (Q:=fun o=>Ok o Q) I hB m x hm h0
theorem Ok.eq{o:Option R}{v:R}(h:Ok o (·=v)):o=some v:=by obtain⟨x,rfl,rfl⟩:=h;rfl
end
end Go.Proofs.YtadlpefpehjcoaaGreat.AM
/-
  How what is reckoned of code is evaluated, step by step, where its conditions are known. No project text.
-/
namespace Go.Proofs.YtadlpefpehjcoaaGreat.AM
open Go
section
variable {R α:Type} {Q:R→Prop}
theorem Ok.p{p:Prop}[Decidable p]{x y:Option R}(h:p)(hx:Ok x Q):Ok (AM.cnd (decide p) x y) Q:=by rw[QcX h];exact hx
theorem Ok.n{p:Prop}[Decidable p]{x y:Option R}(h:¬p)(hx:Ok y Q):Ok (AM.cnd (decide p) x y) Q:=by rw[Qg9 h];exact hx
theorem Ok.np{p:Prop}[Decidable p]{x y:Option R}(h:p)(hx:Ok y Q):Ok (AM.cnd (!decide p) x y) Q:=by simp only[h,decide_true,Bool.not_true];exact hx
theorem Ok.nn{p:Prop}[Decidable p]{x y:Option R}(h:¬p)(hx:Ok x Q):Ok (AM.cnd (!decide p) x y) Q:=by simp only[h,decide_false,Bool.not_false];exact hx
theorem Ok.t{x y:Option R}(hx:Ok x Q):Ok (AM.cnd true x y) Q:=hx
theorem Ok.f{x y:Option R}(hx:Ok y Q):Ok (AM.cnd false x y) Q:=hx
theorem Ok.bt{b:Bool}{x y:Option R}(h:b=true)(hx:Ok x Q):Ok (AM.cnd b x y) Q:=by rw[h];exact hx
theorem Ok.bf{b:Bool}{x y:Option R}(h:b=false)(hx:Ok y Q):Ok (AM.cnd b x y) Q:=by rw[h];exact hx
theorem Ok.nt{b:Bool}{x y:Option R}(h:b=true)(hx:Ok y Q):Ok (AM.cnd (!b) x y) Q:=by rw[h];exact hx
theorem Ok.nf{b:Bool}{x y:Option R}(h:b=false)(hx:Ok x Q):Ok (AM.cnd (!b) x y) Q:=by rw[h];exact hx
theorem Ok.ncnd{b:Bool}{x y:Option R}(h1:b=false→Ok x Q)(h2:b=true→Ok y Q):Ok (AM.cnd (!b) x y) Q:=by
 cases b
 ·exact h1 rfl
 ·exact h2 rfl
theorem Ok.j{Y:Type}{k:Y→Option R}{f:(Y→Option R)→Option R}(h:Ok (f k) Q):Ok (AM.join k f) Q:=h
theorem Ok.oe{o:Option α}{v:α}{k:α→Option R}(h:o=some v)(hk:Ok (k v) Q):Ok (optc o k) Q:=by rw[h];exact hk
theorem Ok.os{v:α}{k:α→Option R}(hk:Ok (k v) Q):Ok (optc (some v) k) Q:=hk
theorem Ok.ck{a b:Nat}{x:Option R}(h:a=b)(hx:Ok x Q):Ok (AM.chk a b x) Q:=by rw[Qw2 h];exact hx
theorem Ok.lt{a b:Nat}{x:Option R}(h:a<b)(hx:Ok x Q):Ok (AM.ltc a b x) Q:=by rw[Qw3 h];exact hx
theorem Ok.nat{j:Int}{k:Nat→Option R}(h:0≤j)(hk:Ok (k j.toNat) Q):Ok (AM.natc j k) Q:=by rw[QuJ h];exact hk
theorem Ok.natn{i:Nat}{k:Nat→Option R}(hk:Ok (k i) Q):Ok (AM.natc (i:Int) k) Q:=by rw[QwK];exact hk
theorem Ok.get[Inhabited α]{l:List α}{i:Nat}{k:α→Option R}(h:i<l.length)(hk:Ok (k (nth l i)) Q):Ok (optc (GetElem?.getElem? l i) k) Q:=by rw[QvV h];exact hk
theorem Ok.atn[Inhabited α]{l:List α}{i:Nat}{k:α→Option R}(h:i<l.length)(hk:Ok (k (nth l i)) Q):Ok (atc l (i:Int) k) Q:=by rw[Qwv h];exact hk
theorem Xc[DecidableEq α]{l:List α}(h:l.length≤34359738368):nilC l (AM.both (some []) (AM.lec l.length 34359738368 (some l))) (AM.lec l.length 34359738368 (some l))=some l:=by
 rw[QwG h]
 cases l with
 |nil=>unfold AM.both;rfl
 |cons a l=>rfl
theorem Qc{x:Int}(h : -9223372036854775808≤x∧x≤9223372036854775807):IntKind.wrap .i64 x=x:=Qf6 h.1 h.2
theorem Ok.run{X:Type}{B:(X→Option R)→X→Option R}(n:Nat)(st:Nat→X){fu:Nat}{x:X}(hx:x=st 0)(hf:n<fu)(hs:∀i,i<n→∀k,(Ok (k (st (i+1))) Q→Ok (B k (st i)) Q))(h:∀k,Ok (B k (st n)) Q):Ok (Qj B fu x) Q:=by
 subst hx
 revert st fu
 induction n with
 |zero=>
  intro st fu hf _ h
  obtain⟨f,rfl⟩:∃f,fu=f+1:=⟨fu - 1,by omega⟩
  exact h _
 |succ n ih=>
  intro st fu hf hs h
  obtain⟨f,rfl⟩:∃f,fu=f+1:=⟨fu - 1,by omega⟩
  show Ok (B (Qj B f) (st 0)) Q
  exact hs 0 (by omega) _ (ih (fun i=>st (i+1)) (by omega) (fun i hi k=>hs (i+1) (by omega) k) h)
theorem Ok.scan{X:Type}{B:(X→Option R)→X→Option R}(n:Nat)(st:Nat→X)(q:Nat→Bool){fu:Nat}{x:X}(hx:x=st 0)(hf:n<fu)(hy:∀i,i<n→q i=true→(∀j,j<i→q j=false)→∀k,Ok (B k (st i)) Q)(hn:∀i,i<n→q i=false→∀k,(Ok (k (st (i+1))) Q→Ok (B k (st i)) Q))(he:(∀j,j<n→q j=false)→∀k,Ok (B k (st n)) Q):Ok (Qj B fu x) Q:=by
 refine Ok.loop (fun m x=>∃i,i≤n∧m=n - i∧x=st i∧∀j,j<i→q j=false) (m:=n) hf ⟨0,by omega,rfl,hx,fun j hj=>by omega⟩ ?_
 rintro m x ⟨i,h1,h2,rfl,h3⟩ k hk
 by_cases h:i<n
 ·cases hq:q i with
  |true=>exact hy i h hq h3 k
  |false=>exact hn i h hq k (hk (n - (i+1)) _ (by omega) ⟨i+1,by omega,rfl,rfl,fun j hj=>by
    by_cases e:j=i
    ·subst e;exact hq
    ·exact h3 j (by omega)⟩)
 ·obtain rfl:i=n:=by omega
  exact he h3 k
theorem QhR{l:List α}[Inhabited α]{p:α→Bool}{i:Nat}(hi:i<l.length)(h:p (nth l i)=true):l.any p=true:=List.any_eq_true.2 ⟨_,Qi hi,h⟩
theorem Ql4{l:List α}[Inhabited α]{p:α→Bool}(h:∀j,j<l.length→p (nth l j)=false):l.any p=false:=by
 rw[List.any_eq_false]
 intro x hx
 obtain⟨j,hj,rfl⟩:=List.getElem_of_mem hx
 have:=h j hj
 simp only[nth,List.getD_eq_getElem?_getD,List.getElem?_eq_getElem hj,Option.getD_some]at this
 simp[this]
theorem cnd2{p q:Prop}[Decidable p][Decidable q]:AM.cnd (decide p) (AM.cnd (decide q) (some true) (some false)) (some false)=some (decide (p∧q)):=by
 by_cases hp:p<;>by_cases hq:q<;>simp[AM.cnd,hp,hq]
theorem Ok.of{o:Option R}{v:R}(h:o=some v)(hq:Q v):Ok o Q:=⟨v,h,hq⟩
theorem Ok.N{p:Prop}[Decidable p]{x y:Option R}(hx:Ok y Q)(h:¬p:=by omega):Ok (AM.cnd (decide p) x y) Q:=.n h hx
theorem Ok.P{p:Prop}[Decidable p]{x y:Option R}(hx:Ok x Q)(h:p:=by omega):Ok (AM.cnd (decide p) x y) Q:=.p h hx
theorem Ok.NS{p:Prop}[Decidable p]{x y:Option R}(hx:Ok y Q)(h:¬p:=by simp):Ok (AM.cnd (decide p) x y) Q:=.n h hx
theorem Ok.PS{p:Prop}[Decidable p]{x y:Option R}(hx:Ok x Q)(h:p:=by simp):Ok (AM.cnd (decide p) x y) Q:=.p h hx
theorem Ok.L{a b:Nat}{x:Option R}(hx:Ok x Q)(h:a≤b:=by omega):Ok (AM.lec a b x) Q:=.lec h hx
theorem Ok.LS{a b:Nat}{x:Option R}(hx:Ok x Q)(h:a≤b:=by simp;omega):Ok (AM.lec a b x) Q:=.lec h hx
theorem Ok.E{a b:Nat}{x:Option R}(hx:Ok x Q)(h:a<b:=by omega):Ok (AM.ltc a b x) Q:=.lt h hx
theorem Ok.A[Inhabited α]{l:List α}{i:Nat}{k:α→Option R}(hk:Ok (k (nth l i)) Q)(h:i<l.length:=by omega):Ok (atc l (i:Int) k) Q:=.atn h hk
theorem Ok.G[Inhabited α]{l:List α}{i:Nat}{k:α→Option R}(hk:Ok (k (nth l i)) Q)(h:i<l.length:=by omega):Ok (optc (GetElem?.getElem? l i) k) Q:=.get h hk
theorem Ok.Z{b:Int}{x:Option R}(hx:Ok x Q)(h:b≠0:=by omega):Ok (AM.nzc b x) Q:=.nzc h hx
end
end Go.Proofs.YtadlpefpehjcoaaGreat.AM
/-
  Sets of numbers as ascending lists, in plain Lean: With, sorting, leaving out what comes twice.
-/
namespace Go.Proofs.YtadlpefpehjcoaaGreat
open Go AM
def Asc(l:List Int):Prop:=l.Pairwise (·<·)
theorem QcS:∀{a b:List Int},Asc a→Asc b→(∀x,x∈a↔x∈b)→a=b
 |[],[],_,_,_=>rfl
 |[],y::b,_,_,h=>by have:=(h y).2 (List.mem_cons_self ..);simp at this
 |x::a,[],_,_,h=>by have:=(h x).1 (List.mem_cons_self ..);simp at this
 |x::a,y::b,ha,hb,h=>by
  have ha':=List.pairwise_cons.1 ha
  have hb':=List.pairwise_cons.1 hb
  have e:x=y:=by
   rcases List.mem_cons.1 ((h x).1 (List.mem_cons_self ..))with e|hx
   ·exact e
   ·rcases List.mem_cons.1 ((h y).2 (List.mem_cons_self ..))with e|hy
    ·exact e.symm
    ·have h1:=hb'.1 x hx
     have h2:=ha'.1 y hy
     omega
  subst e
  congr 1
  refine QcS ha'.2 hb'.2 fun z=>⟨fun hz=>?_,fun hz=>?_⟩
  ·have h1:=ha'.1 z hz
   rcases List.mem_cons.1 ((h z).1 (List.mem_cons_of_mem _ hz))with e|h2
   ·omega
   ·exact h2
  ·have h1:=hb'.1 z hz
   rcases List.mem_cons.1 ((h z).2 (List.mem_cons_of_mem _ hz))with e|h2
   ·omega
   ·exact h2
def WA(l:List Int)(x:Int):Nat→List Int×Bool
 |0=>([],false)
 |i+1=>((WA l x i).1++(if (WA l x i).2=false∧x≤nth l i then[x]else[])++(if nth l i≠x then[nth l i]else[]),(WA l x i).2 || decide (x≤nth l i))
def QnG(l:List Int)(x:Int):List Int:=if (WA l x l.length).2=true then(WA l x l.length).1 else(WA l x l.length).1++[x]
theorem Qgb{l:List Int}(h:Asc l){i j:Nat}(hij:i<j)(hj:j<l.length):nth l i<nth l j:=by
 have:=List.pairwise_iff_getElem.1 h i j (by omega) hj hij
 simpa [nth,List.getD_eq_getElem?_getD,List.getElem?_eq_getElem hj,List.getElem?_eq_getElem (show i<l.length by omega)]using this
theorem Vp{l:List Int}{i:Nat}(h:i<l.length)(z:Int):z∈l.take (i+1)↔z∈l.take i∨z=nth l i:=by
 rw[List.take_succ_eq_append_getElem h,List.mem_append,List.mem_singleton]
 simp[nth,List.getD_eq_getElem?_getD,List.getElem?_eq_getElem h]
theorem QpC{l:List Int}{x:Int}(h:Asc l):∀i,i≤l.length→Asc (WA l x i).1∧(∀z,z∈(WA l x i).1↔z∈l.take i∧z≠x∨(WA l x i).2=true∧z=x)∧
  ((WA l x i).2=false→∀z∈l.take i,z<x)∧((WA l x i).2=true→∀j,i≤j→j<l.length→x<nth l j)
 |0,_=>by simp[WA,Asc]
 |i+1,hi=>by
  obtain⟨h1,h2,h3,h4⟩:=QpC h i (by omega)
  have hlt:∀z∈l.take i,z<nth l i:=fun z hz=>by
   obtain⟨j,hj,rfl⟩:=List.getElem_of_mem hz
   rw[List.length_take]at hj
   have:=Qgb h (show j<i by omega) (show i<l.length by omega)
   simpa [nth,List.getD_eq_getElem?_getD,List.getElem?_eq_getElem (show j<l.length by omega)]using this
  simp only[WA]
  cases hd:(WA l x i).2 with
  |true=>
   have hx:=h4 hd i (Nat.le_refl _) (by omega)
   rw[if_neg (by simp),if_pos (by omega),List.append_nil]
   refine⟨?_,fun z=>?_,by simp,fun _ j hj hl=>h4 hd j (by omega) hl⟩
   ·refine List.pairwise_append.2 ⟨h1,List.pairwise_singleton _ _,fun a ha b hb=>?_⟩
    rw[List.mem_singleton.1 hb]
    rcases(h2 a).1 ha with⟨g,_⟩|⟨_,rfl⟩
    ·exact hlt a g
    ·exact hx
   ·rw[List.mem_append,h2,Vp (by omega),List.mem_singleton,hd]
    simp only[Bool.true_or,true_and]
    constructor
    ·rintro((⟨g,g'⟩|g)|g)
     ·exact .inl ⟨.inl g,g'⟩
     ·exact .inr g
     ·exact .inl ⟨.inr g,by omega⟩
    ·rintro(⟨g|g,g'⟩|g)
     ·exact .inl (.inl ⟨g,g'⟩)
     ·exact .inr g
     ·exact .inl (.inr g)
  |false=>
   have hb:=h3 hd
   by_cases hx:x≤nth l i
   ·rw[if_pos ⟨rfl,hx⟩]
    have e:(false || decide (x≤nth l i))=true:=by simp[hx]
    rw[e]
    have hm:∀z,z∈(WA l x i).1↔z∈l.take i:=fun z=>by
     rw[h2,hd]
     refine⟨fun g=>?_,fun g=>.inl ⟨g,by have:=hb z g;omega⟩⟩
     rcases g with⟨g,_⟩|⟨g,_⟩
     ·exact g
     ·simp at g
    refine⟨?_,fun z=>?_,by simp,fun _ j hj hl=>?_⟩
    ·refine List.pairwise_append.2 ⟨List.pairwise_append.2 ⟨h1,List.pairwise_singleton _ _,fun a ha b hb'=>?_⟩,?_,fun a ha b hb'=>?_⟩
     ·rw[List.mem_singleton.1 hb'];exact hb a ((hm a).1 ha)
     ·split<;>simp
     ·split at hb'
      ·rename_i hne
       rw[List.mem_singleton.1 hb']
       rcases List.mem_append.1 ha with ha|ha
       ·exact hlt a ((hm a).1 ha)
       ·rw[List.mem_singleton.1 ha];omega
      ·simp at hb'
    ·rw[List.mem_append,List.mem_append,hm,Vp (by omega),List.mem_singleton]
     by_cases hne:nth l i≠x
     ·rw[if_pos hne,List.mem_singleton]
      constructor
      ·rintro((g|g)|g)
       ·exact .inl ⟨.inl g,by have:=hb z g;omega⟩
       ·exact .inr ⟨rfl,g⟩
       ·exact .inl ⟨.inr g,by omega⟩
      ·rintro(⟨g|g,_⟩|⟨_,g⟩)
       ·exact .inl (.inl g)
       ·exact .inr g
       ·exact .inl (.inr g)
     ·rw[if_neg hne]
      simp only[List.not_mem_nil,or_false]
      constructor
      ·rintro(g|g)
       ·exact .inl ⟨.inl g,by have:=hb z g;omega⟩
       ·exact .inr ⟨trivial,g⟩
      ·rintro(⟨g|g,g'⟩|⟨_,g⟩)
       ·exact .inl g
       ·omega
       ·exact .inr g
    ·have:=Qgb h (show i<j by omega) hl
     omega
   ·rw[if_neg (by simp[hx]),if_pos (by omega),List.append_nil]
    have e:(false || decide (x≤nth l i))=false:=by simp[hx]
    rw[e]
    refine⟨?_,fun z=>?_,fun _ z hz=>?_,by simp⟩
    ·refine List.pairwise_append.2 ⟨h1,List.pairwise_singleton _ _,fun a ha b hb'=>?_⟩
     rw[List.mem_singleton.1 hb']
     rcases(h2 a).1 ha with⟨g,_⟩|⟨g,_⟩
     ·exact hlt a g
     ·rw[hd]at g;simp at g
    ·rw[List.mem_append,h2,Vp (by omega),List.mem_singleton,hd]
     simp only[Bool.false_eq_true,false_and,or_false]
     constructor
     ·rintro(⟨g,g'⟩|g)
      ·exact⟨.inl g,g'⟩
      ·exact⟨.inr g,by omega⟩
     ·rintro⟨g|g,g'⟩
      ·exact .inl ⟨g,g'⟩
      ·exact .inr g
    ·rcases(Vp (show i<l.length by omega) z).1 hz with g|g
     ·exact hb z g
     ·omega
theorem Qec{l:List Int}{x:Int}(h:Asc l):Asc (QnG l x)∧∀z,z∈QnG l x↔z∈l∨z=x:=by
 obtain⟨h1,h2,h3,h4⟩:=QpC (x:=x) h l.length (Nat.le_refl _)
 rw[List.take_length]at h2 h3
 unfold QnG
 split
 ·rename_i hd
  refine⟨h1,fun z=>?_⟩
  rw[h2,hd]
  simp only[true_and]
  by_cases hz:z=x
  ·simp[hz]
  ·simp[hz]
 ·rename_i hd
  have hd:(WA l x l.length).2=false:=by cases hb:(WA l x l.length).2<;>simp_all
  have hm:∀z,z∈(WA l x l.length).1↔z∈l:=fun z=>by
   rw[h2,hd]
   refine⟨fun g=>?_,fun g=>.inl ⟨g,by have:=h3 hd z g;omega⟩⟩
   rcases g with⟨g,_⟩|⟨g,_⟩
   ·exact g
   ·simp at g
  refine⟨List.pairwise_append.2 ⟨h1,List.pairwise_singleton _ _,fun a ha b hb=>?_⟩,fun z=>?_⟩
  ·rw[List.mem_singleton.1 hb];exact h3 hd a ((hm a).1 ha)
  ·rw[List.mem_append,hm,List.mem_singleton]
def Qnz(l:List Int)(j:Nat):List Int:=(l.set j (nth l (j - 1))).set (j - 1) (nth l j)
theorem Qul(l:List Int)(j:Nat):(Qnz l j).length=l.length:=by simp[Qnz]
theorem QiJ{l:List Int}{j k:Nat}{x:Int}(hj:j<l.length):nth (l.set j x) k=if k=j then x else nth l k:=by
 by_cases h:k=j
 ·subst h;rw[if_pos rfl];simp[nth,List.getD_eq_getElem?_getD,hj]
 ·rw[if_neg h];simp[nth,List.getD_eq_getElem?_getD,List.getElem?_set_ne (Ne.symm h)]
theorem QdQ{l:List Int}{j k:Nat}(h1:1≤j)(hj:j<l.length):nth (Qnz l j) k=if k=j - 1 then nth l j else if k=j then nth l (j - 1)else nth l k:=by
 unfold Qnz
 rw[QiJ (by simp;omega)]
 split
 ·rfl
 ·rw[QiJ hj]
def Wi(l:List Int)(n:Nat):Prop:=∀a b,a<b→b<n→nth l a≤nth l b
def QlY(l:List Int)(n j:Nat):Prop:=∀a b,a<b→b<n→b≠j→nth l a≤nth l b
theorem Qme{l:List Int}{i:Nat}(h:Wi l i):QlY l (i+1) i:=fun a b h1 h2 h3=>h a b h1 (by omega)
theorem QnX{l:List Int}{n j:Nat}(h:QlY l n j)(h1:1≤j)(hj:j<l.length)(hn:j<n)(hlt:nth l j<nth l (j - 1)):QlY (Qnz l j) n (j - 1):=by
 intro a b hab hb hne
 rw[QdQ h1 hj,QdQ h1 hj,if_neg hne]
 by_cases g1:b=j
 ·subst g1
  rw[if_pos rfl]
  by_cases g2:a=b - 1
  ·rw[if_pos g2];omega
  ·rw[if_neg g2,if_neg (by omega)]
   exact h a (b - 1) (by omega) (by omega) (by omega)
 ·rw[if_neg g1]
  by_cases g2:a=j - 1
  ·rw[if_pos g2];exact h j b (by omega) hb g1
  ·rw[if_neg g2]
   by_cases g3:a=j
   ·rw[if_pos g3];exact h (j - 1) b (by omega) hb g1
   ·rw[if_neg g3];exact h a b hab hb g1
theorem QpL{l:List Int}{n j:Nat}(h:QlY l n j)(he:j=0∨nth l (j - 1)≤nth l j):Wi l n:=by
 intro a b hab hb
 by_cases g:b=j
 ·subst g
  rcases he with he|he
  ·omega
  ·by_cases g2:a=b - 1
   ·rw[g2];exact he
   ·have:=h a (b - 1) (by omega) (by omega) (by omega);omega
 ·exact h a b hab hb g
theorem Quy{l:List Int}(h:Wi l l.length)(hd:∀k,1≤k→k<l.length→nth l (k - 1)≠nth l k):Asc l:=by
 refine List.pairwise_iff_getElem.2 fun i j hi hj hij=>?_
 have e:∀k (hk:k<l.length),l[k]=nth l k:=fun k hk=>by simp[nth,List.getD_eq_getElem?_getD,List.getElem?_eq_getElem hk]
 rw[e i hi,e j hj]
 have h1:=hd j (by omega) hj
 have h2:=h (j - 1) j (by omega) hj
 rcases Nat.eq_or_lt_of_le (show i≤j - 1 by omega)with g|g
 ·rw[g];omega
 ·have:=h i (j - 1) g (by omega);omega
end Go.Proofs.YtadlpefpehjcoaaGreat
/-
  Crews (one zone without rules, schedules of one layer without windows and calendar): who is on call, in plain Lean.
-/
set_option maxRecDepth 100000
namespace Go.Proofs.YtadlpefpehjcoaaGreat
open Go AM
structure Qae (x:D.Edit):Prop where
 kind:0≤x.Kind∧x.Kind≤2
 a:(0≤x.A∧x.A<4)∨(x.Kind=1∧x.A = -1)
 b:x.Kind=2→0≤x.B∧x.B<4∧x.A≠x.B
 b0:x.Kind≠2→x.B=0
 time:864000≤x.From∧x.From<x.To∧x.To<950400
structure YE (l:D.Layer):Prop where
 name:l.Name=ByteArray.mk #[108]
 zone:l.Zone=0
 day:l.Start.Day=1∨l.Start.Day=9∨l.Start.Day=10
 second:0≤l.Start.Second∧l.Start.Second≤43200
 unit:l.Unit=0∨l.Unit=1
 every:1≤l.Every∧l.Every≤3
 len:1≤l.Members.length∧l.Members.length≤3
 mem:∀x∈l.Members,0≤x∧x<4
 win:l.Windows=[]
 cal:l.Calendar=0∧l.Mode=0
structure Ub (p:D.Person):Prop where
 zone:p.Zone=0
 max:p.MaxWeek=0∧p.MinRest=0
 quiet:p.Quiet=[]∨∃a b,p.Quiet=[⟨a,b⟩]∧(a=0∨a=3600)∧(b=7200∨b=86400∨b=604800)
structure QcO (n:Nat) (s:D.Schedule):Prop where
 layers:∃l,s.Layers=[l]∧YE l
 len:s.Edits.length≤n
 edit:∀x∈s.Edits,Qae x
def bZ:ByteArray:=ByteArray.mk #[122]
def Ye:List ByteArray:=[ByteArray.mk #[97,110,110],ByteArray.mk #[98,111,98],ByteArray.mk #[99,97,116],ByteArray.mk #[100,97,110]]
def Yw:List ByteArray:=[ByteArray.mk #[102,105,114,115,116],ByteArray.mk #[115,101,99,111,110,100]]
structure Q3 (n:Nat) (c:D.Config):Prop where
 zone:∃off,c.Zones=[⟨bZ,off,[]⟩]∧(off=0∨off=3600∨off = -7200)
 pname:c.People.map (·.Name)=Ye
 person:∀p∈c.People,Ub p
 cal:c.Calendars=[]
 sname:c.Schedules.map (·.Name)=Yw
 sched:∀s∈c.Schedules,QcO n s
theorem Q3.plen{n:Nat}{c:D.Config}(h:Q3 n c):c.People.length=4:=by
 have:=congrArg List.length h.pname;simpa [Ye]using this
theorem Q3.slen{n:Nat}{c:D.Config}(h:Q3 n c):c.Schedules.length=2:=by
 have:=congrArg List.length h.sname;simpa [Yw]using this
theorem Q3.mono{n m:Nat}{c:D.Config}(h:Q3 n c)(hm:n≤m):Q3 m c:=
 ⟨h.zone,h.pname,h.person,h.cal,h.sname,fun s hs=>⟨(h.sched s hs).layers,Nat.le_trans (h.sched s hs).len hm,(h.sched s hs).edit⟩⟩
def YN(c:D.Config):Int:=(nth c.Zones 0).Offset
theorem Q3.zones{n:Nat}{c:D.Config}(h:Q3 n c):c.Zones=[⟨bZ,YN c,[]⟩]∧(YN c=0∨YN c=3600∨YN c = -7200):=by
 obtain⟨off,h1,h2⟩:=h.zone
 have:YN c=off:=by unfold YN;rw[h1];rfl
 rw[this];exact⟨h1,h2⟩
def Quq(l:D.Layer):Int:=if l.Unit=0 then 3600 else 86400
def Qct(l:D.Layer):Int:=Quq l*l.Every
def Yq(off:Int)(l:D.Layer):Int:=l.Start.Day*86400+l.Start.Second - off
def YM(off:Int)(l:D.Layer)(k:Int):Int:=Yq off l+Qct l*k
def ZU(off:Int)(l:D.Layer)(t:Int):Int:=if t<Yq off l then -1 else(t - Yq off l) / Qct l
theorem QlP{l:D.Layer}(h:YE l):3600≤Qct l∧Qct l≤259200:=by
 have h2:=h.every
 have h1:=h.unit
 unfold Qct Quq
 split<;>omega
theorem Qfu{off:Int}{l:D.Layer}(h:YE l)(ho:off=0∨off=3600∨off = -7200):0<Yq off l∧Yq off l≤1000000:=by
 have h1:=h.day
 have h2:=h.second
 unfold Yq;omega
theorem QlM{off:Int}{l:D.Layer}{t k:Int}(h:YE l)(h0:0≤k)(h1:YM off l k≤t)(h2:t<YM off l (k+1)):ZU off l t=k:=by
 have hs:=(QlP h).1
 unfold YM at h1 h2
 rw[Int.mul_add,Int.mul_one]at h2
 have h3:0≤Qct l*k:=Int.mul_nonneg (by omega) h0
 unfold ZU
 rw[if_neg (by omega)]
 have h4:k≤(t - Yq off l) / Qct l:=(Int.le_ediv_iff_mul_le (by omega)).2 (by rw[Int.mul_comm];omega)
 have h5:(t - Yq off l) / Qct l<k+1:=(Int.ediv_lt_iff_lt_mul (by omega)).2 (by rw[Int.mul_comm,Int.mul_add,Int.mul_one];omega)
 omega
theorem QlN{off:Int}{l:D.Layer}{t:Int}(h:t<YM off l 0):ZU off l t = -1:=by
 unfold YM at h;rw[Int.mul_zero,Int.add_zero]at h
 unfold ZU;rw[if_pos h]
theorem Quf{off:Int}{l:D.Layer}{t:Int}(h:YE l)(h0:Yq off l≤t):0≤ZU off l t∧YM off l (ZU off l t)≤t∧t<YM off l (ZU off l t+1):=by
 have hs:=(QlP h).1
 have e:ZU off l t=(t - Yq off l) / Qct l:=by unfold ZU;rw[if_neg (by omega)]
 have h1:=Int.mul_ediv_add_emod (t - Yq off l) (Qct l)
 have h2:=Int.emod_nonneg (t - Yq off l) (b:=Qct l) (by omega)
 have h3:=Int.emod_lt_of_pos (t - Yq off l) (b:=Qct l) (by omega)
 have h4:0≤(t - Yq off l) / Qct l:=Int.ediv_nonneg (by omega) (by omega)
 rw[e]
 unfold YM
 rw[Int.mul_add,Int.mul_one]
 omega
theorem Qnv{off:Int}{l:D.Layer}{t:Int}(h:YE l)(ho:off=0∨off=3600∨off = -7200)(ht:t≤8589934592): -1≤ZU off l t∧ZU off l t≤8589934592:=by
 by_cases h0:Yq off l≤t
 ·have h1:=Quf h h0
  have h2:=(QlP h).1
  have h3:=(Qfu h ho).1
  have h4:3600*ZU off l t≤Qct l*ZU off l t:=Int.mul_le_mul_of_nonneg_right h2 h1.1
  unfold YM at h1
  omega
 ·unfold ZU;rw[if_pos (by omega)];omega
def Qb1(off:Int)(l:D.Layer)(t:Int):Int:=if ZU off l t<0 then -1 else nth l.Members ((ZU off l t).toNat % l.Members.length)
theorem Qts{off:Int}{l:D.Layer}{t:Int}(h:YE l): -1≤Qb1 off l t∧Qb1 off l t<4:=by
 unfold Qb1
 split
 ·omega
 ·have hl:=h.len
  have:=h.mem (nth l.Members ((ZU off l t).toNat % l.Members.length)) (Qi (Nat.mod_lt _ (by omega)))
  omega
def QnQ(p t:Int)(x:D.Edit):Bool:=decide (x.Kind=0) && decide (x.A=p) && decide (x.From≤t) && decide (t<x.To)
def QhW(es:List D.Edit)(p t:Int):Bool:=es.any (QnQ p t)
def QmC(t:Int)(p:Int)(x:D.Edit):Int:=
 if ¬(x.From≤t∧t<x.To)∨x.Kind=0 then p else if x.Kind=1 then x.A else if x.Kind≠2 then p else if p=x.A then x.B else if p=x.B then x.A else p
def Qfw(es:List D.Edit)(p t:Int):Int:=es.foldl (QmC t) p
theorem Qtx{p t:Int}{x:D.Edit}(h:Qae x)(hp : -1≤p∧p<4): -1≤QmC t p x∧QmC t p x<4:=by
 have ha:=h.a
 have hb:=h.b
 unfold QmC
 repeat' split
 all_goals omega
theorem Qo1{t:Int}:∀{es:List D.Edit} {p:Int},(∀x∈es,Qae x)→(-1≤p∧p<4)→-1≤Qfw es p t∧Qfw es p t<4
 |[],p,_,hp=>hp
 |x::es,p,h,hp=>Qo1 (es:=es) (fun y hy=>h y (List.mem_cons_of_mem _ hy)) (Qtx (h x (List.mem_cons_self ..)) hp)
theorem Qj8{es:List D.Edit}{p t:Int}{k:Nat}(hk:k<es.length):Qfw (es.take (k+1)) p t=QmC t (Qfw (es.take k) p t) (nth es k):=by
 unfold Qfw
 rw[List.take_succ_eq_append_getElem hk,List.foldl_append]
 simp[nth,List.getD_eq_getElem?_getD,List.getElem?_eq_getElem hk]
def layP(off:Int)(s:D.Schedule)(t:Int):Int:=if 0≤Qb1 off (nth s.Layers 0) t∧QhW s.Edits (Qb1 off (nth s.Layers 0) t) t=false then Qb1 off (nth s.Layers 0) t else -1
def whoS(off:Int)(s:D.Schedule)(t:Int):Int:=Qfw s.Edits (layP off s t) t
def whoV(c:D.Config)(i t:Int):Int:=if 0≤i∧i<2∧0≤t∧t≤8589934592 then whoS (YN c) (nth c.Schedules i.toNat) t else -1
theorem QvK{n:Nat}{off:Int}{s:D.Schedule}{t:Int}(h:QcO n s): -1≤layP off s t∧layP off s t<4:=by
 obtain⟨l,h1,h2⟩:=h.layers
 have:=Qts (off:=off) (t:=t) h2
 unfold layP
 rw[h1,show nth [l] 0=l from rfl]
 split<;>omega
theorem Qwp{n:Nat}{c:D.Config}(h:Q3 n c){i t:Int}: -1≤whoV c i t∧whoV c i t<4:=by
 unfold whoV
 split
 ·have hs:=h.sched (nth c.Schedules i.toNat) (Qi (by rw[h.slen];omega))
  exact Qo1 hs.edit (QvK hs)
 ·omega
theorem Qo5{off:Int}{l:D.Layer}{k n:Int}(hs:Qct l=86400*n):(l.Start.Day+k*n)*86400+l.Start.Second - off=YM off l k:=by
 unfold YM Yq
 rw[hs,Int.mul_assoc,Int.add_mul,Int.mul_comm k n,Int.mul_comm (n*k) 86400]
 omega
theorem Qjd{l:D.Layer}(h:l.Unit=1):Qct l=86400*l.Every:=by unfold Qct Quq;rw[if_neg (by omega)]
theorem QgG{l:D.Layer}(h:l.Unit=0):Qct l=3600*l.Every:=by unfold Qct Quq;rw[if_pos h]
def Qbz(c:D.Config)(b:D.Book)(x:D.Target)(t:Int):List Int:=
 if x.Kind=0 then[x.Index]else if x.Kind=1 then(if whoV c x.Index t<0 then[]else[whoV c x.Index t])else
  if x.Kind=2∧0≤x.Index∧x.Index<(b.Teams.length:Int)then(nth b.Teams x.Index.toNat).Members else[]
def Means(c:D.Config)(b:D.Book)(l:List D.Target)(t z:Int):Prop:=0≤z∧z<4∧∃x∈l,z∈Qbz c b x t
def U6(off t:Int):Int:=((t+off) / 86400+3) % 7*86400+(t+off) % 86400
def Qde(ws:List D.Window)(s:Int):Bool:=ws.any fun w=>decide (w.From≤s) && decide (s<w.To)
def Wt(c:D.Config)(p t:Int)(urgent:Bool):Bool:=
 decide (0≤p∧p<4∧0≤t∧t≤8589934592) && (urgent && (nth c.People p.toNat).Consent || !Qde (nth c.People p.toNat).Quiet (U6 (YN c) t))
/-
  Pages on their way through their policies, in plain Lean: what steps, runs and answers make of them.
-/
def Qfk:List ByteArray:=[ByteArray.mk #[99,111,114,101],ByteArray.mk #[119,101,98]]
def Qjt:List ByteArray:=[ByteArray.mk #[112],ByteArray.mk #[113],ByteArray.mk #[114]]
structure Ql0 (t:D.Team):Prop where
 asc:Asc t.Members
 len:1≤t.Members.length∧t.Members.length≤2
 mem:∀x∈t.Members,0≤x∧x<4
structure Vf (n:Nat) (t:D.Target):Prop where
 kind:t.Kind=0∨t.Kind=1∨t.Kind=2
 lo:0≤t.Index
 person:t.Kind=0→t.Index<4
 sched:t.Kind=1→t.Index<2
 team:t.Kind=2→t.Index<(n:Int)
structure StepOK' (n:Nat) (s:D.PolicyStep):Prop where
 wait:0≤s.Wait∧s.Wait≤900
 len:s.Targets.length≤2
 target:∀t∈s.Targets,Vf n t
structure Qbp (n:Nat) (p:D.Policy):Prop where
 rep:0≤p.Repeat∧p.Repeat≤2
 len:1≤p.Steps.length∧p.Steps.length≤3
 step:∀s∈p.Steps,StepOK' n s
structure QJ (b:D.Book):Prop where
 tlen:b.Teams.length≤2
 tname:b.Teams.map (·.Name)=Qfk.take b.Teams.length
 team:∀t∈b.Teams,Ql0 t
 plen:1≤b.Policies.length∧b.Policies.length≤3
 pname:b.Policies.map (·.Name)=Qjt.take b.Policies.length
 pol:∀p∈b.Policies,Qbp b.Teams.length p
def Yp(p:D.Policy):Int:=if 0≤p.Repeat∧p.Repeat≤8∧p.Steps.length≤8 then(p.Steps.length:Int)*(p.Repeat+1)else 0
theorem Yd{n:Nat}{p:D.Policy}(h:Qbp n p):Yp p=(p.Steps.length:Int)*(p.Repeat+1)∧1≤Yp p∧Yp p≤9:=by
 have h1:=h.rep
 have h2:=h.len
 have e:Yp p=(p.Steps.length:Int)*(p.Repeat+1):=by unfold Yp;rw[if_pos (by omega)]
 refine⟨e,?_⟩
 rw[e]
 have h3:p.Repeat=0∨p.Repeat=1∨p.Repeat=2:=by omega
 rcases h3 with h3|h3|h3<;>rw[h3]<;>omega
def Wx(c:D.Config)(b:D.Book)(l:List D.Target)(t:Int):List Int:=([0,1,2,3]:List Int).filter fun z=>l.any fun x=>(Qbz c b x t).contains z
theorem Qar{c:D.Config}{b:D.Book}{l:List D.Target}{t z:Int}:z∈Wx c b l t↔Means c b l t z:=by
 unfold Wx Means
 simp only[List.mem_filter,List.any_eq_true,List.contains_iff_mem,List.mem_cons,List.not_mem_nil,or_false]
 constructor
 ·rintro⟨h,x,hx⟩;exact⟨by omega,by omega,x,hx⟩
 ·rintro⟨h1,h2,x,hx⟩;exact⟨by omega,x,hx⟩
theorem asc4:Asc [0,1,2,3]:=by unfold Asc;decide
theorem Qe1{c:D.Config}{b:D.Book}{l:List D.Target}{t:Int}:Asc (Wx c b l t):=List.Pairwise.filter _ asc4
theorem Qe2{c:D.Config}{b:D.Book}{l:List D.Target}{t:Int}:(Wx c b l t).length≤4:=List.length_filter_le _ _
theorem Qkf{c:D.Config}{b:D.Book}{l:List D.Target}{t:Int}{r:List Int}(h:Asc r)(hm:∀z,z∈r↔Means c b l t z):r=Wx c b l t:=
 QcS h Qe1 fun z=>(hm z).trans Qar.symm
def QaF(c:D.Config)(b:D.Book)(s:D.PolicyStep)(t:Int):List Int:=(Wx c b s.Targets t).filter fun z=>Wt c z t s.Urgent
theorem Qrd{c:D.Config}{b:D.Book}{s:D.PolicyStep}{t:Int}:Asc (QaF c b s t):=List.Pairwise.filter _ Qe1
theorem Qmf{c:D.Config}{b:D.Book}{s:D.PolicyStep}{t:Int}:(QaF c b s t).length≤4:=Nat.le_trans (List.length_filter_le _ _) Qe2
theorem Qre{c:D.Config}{b:D.Book}{s:D.PolicyStep}{t z:Int}:z∈QaF c b s t→0≤z∧z<4:=fun h=>by
 have:=Qar.1 (List.mem_filter.1 h).1
 exact⟨this.1,this.2.1⟩
def YO(b:D.Book)(p:D.Page):D.Policy:=nth b.Policies p.Policy.toNat
def dueV(p:D.Page):Int×Bool:=if p.State=0 then(p.Due,true)else if p.State=2 then(p.Until,true)else(0,false)
def Xt(p:D.Page):List Int:=if p.Starts=[]then[]else(nth p.Starts (p.Starts.length - 1)).People
def setF(n:Int):Int→List Int→Bool
 |_,[]=>true
 |k,x::r=>decide (0≤x) && decide (x<n) && decide (k<x) && setF n x r
def setV(l:List Int):Bool:=setF 32 (-1) l
def XV(next:Int):Int→Int→List D.Start→Bool
 |_,_,[]=>true
 |k,t,x::r=>decide (t≤x.At) && (decide (x.K = -1) || decide (0≤x.K) && decide (k<x.K) && decide (x.K<next)) && setV x.People && XV next (max k x.K) x.At r
def Qfe(p:D.Page):Bool:=XV p.Next (-1) p.Start p.Starts && decide (p.Starts.length≤200)
def QjP(l:List Int):Bool:=decide l.Nodup && decide (l.length≤64)
def QnE(p:D.Policy):Bool:=p.Steps.all fun s=>decide (0≤s.Wait) && decide (s.Wait≤86400)
def farV:Int:=17179869184
def inV(n lo hi:Int):Bool:=decide (lo≤n) && decide (n≤hi)
def QQ(b:D.Book)(p:D.Page):Bool:=
 inV p.ID 1 999999 && inV p.Policy 0 ((b.Policies.length:Int) - 1) && inV p.Start 0 8589934592 && QnE (YO b p) && inV p.Next 0 (Yp (YO b p)) &&
 inV p.State 0 4 && inV p.By (-1) 31 && inV p.Last p.Start farV && inV p.Due 0 farV && inV p.Until 0 farV && inV p.Snoozes 0 4 && inV p.Hands 0 4 && Qfe p && setV p.Declined && QjP p.Seen
def page0:D.Page:=D.Page.mk 0 0 0 0 0 0 0 0 0 0 0 [] [] []
def Zm(b:D.Book)(p:D.Page):D.PolicyStep:=nth (YO b p).Steps (p.Next % ((YO b p).Steps.length:Int)).toNat
def stepQ(c:D.Config)(b:D.Book)(p:D.Page):D.Page:=
 if p.State=2 then{ p with State:=0,Due:=p.Until,Last:=max p.Until p.Last }
 else if Yp (YO b p)≤p.Next then{ p with State:=3,Last:=max p.Due p.Last }
 else{ p with Last:=max p.Due p.Last,Starts:=p.Starts++[⟨p.Next,p.Due,QaF c b (Zm b p) p.Due⟩],Declined:=[],Next:=p.Next+1,Due:=if QaF c b (Zm b p) p.Due=[]then p.Due else p.Due+(Zm b p).Wait }
def stepV(c:D.Config)(b:D.Book)(p:D.Page):D.Page×Int:=
 if QQ b p=false then(page0,8)else if (dueV p).2=false then(page0,9)else if p.Starts.length=200 then(page0,5)else(stepQ c b p,0)
def Yk(p:D.Page)(now:Int):Bool:=(dueV p).2 && decide ((dueV p).1≤now)
def runN(c:D.Config)(b:D.Book)(now:Int):Nat→D.Page→D.Page×Int
 |0,p=>(p,0)
 |n+1,p=>if Yk p now=true then(if (stepV c b p).2≠0 then(page0,(stepV c b p).2)else runN c b now n (stepV c b p).1)else(p,0)
def runV(c:D.Config)(b:D.Book)(p:D.Page)(now:Int):D.Page×Int:=if QQ b p=false then(page0,8)else runN c b now 100 p
def YB(a:D.Answer):Bool:=
 inV a.ID 1 999999 && inV a.Page 1 999999 && inV a.Person (-1) 31 && inV a.At 0 8589934592 && inV a.Kind 1 5 && (if a.Kind=3 then inV a.Arg 1 86400 else if a.Kind=4 then inV a.Arg 0 31 else decide (a.Arg=0))
def Xy(p:D.Page)(a:D.Answer):Int:=
 if a.At<p.Last∨Yk p a.At=true then 6
 else if p.State=4∨(p.State=3∧a.Kind≠5)∨(p.State=1∧a.Kind=2)then 9
 else if p.Seen.length=64∨(a.Kind=3∧p.Snoozes=4)∨(a.Kind=4∧(p.Hands=4∨p.Starts.length=200))then 5 else 0
def QfK(l:List Int)(x:Int):List Int:=l.filter (fun z=>decide (z<x))++x::l.filter (fun z=>decide (x<z))
def VM(p:D.Page)(a:D.Answer):List Int:=if (Xt p).contains a.Person=true then QfK p.Declined a.Person else p.Declined
def VU(p:D.Page)(a:D.Answer):Bool:=decide (Xt p≠[]) && (Xt p).all fun z=>(VM p a).contains z
def Y6(p:D.Page)(a:D.Answer):D.Page:=
 if a.Kind=1 then(if p.State=1 then{ p with Seen:=p.Seen++[a.ID] }else{ p with Seen:=p.Seen++[a.ID],Last:=a.At,State:=1,By:=a.Person })
 else if a.Kind=2 then{ p with Seen:=p.Seen++[a.ID],Last:=a.At,Declined:=VM p a,Due:=if VU p a=true∧p.State=0 then a.At else p.Due }
 else if a.Kind=3 then{ p with Seen:=p.Seen++[a.ID],Last:=a.At,State:=2,By:=a.Person,Until:=a.At+a.Arg,Snoozes:=p.Snoozes+1 }
 else if a.Kind=4 then{ p with Seen:=p.Seen++[a.ID],Last:=a.At,State:=0,Due:=a.At+600,Hands:=p.Hands+1,Declined:=[],Starts:=p.Starts++[⟨-1,a.At,[a.Arg]⟩] }
 else{ p with Seen:=p.Seen++[a.ID],Last:=a.At,State:=4,By:=a.Person }
def answerV(b:D.Book)(p:D.Page)(a:D.Answer):D.Page×Int:=
 if QQ b p=false∨YB a=false then(page0,8)else if a.Page≠p.ID then(page0,3)else if p.Seen.contains a.ID=true then(p,0)
 else if Xy p a≠0 then(page0,Xy p a)else(Y6 p a,0)
/-
  What holds of pages on their way, in plain Lean: invariants of steps, runs and answers.
-/
open Go AM
inductive Goes (Q:D.Start→Prop) (st:Int):List D.Start→Int→Int→Int→Prop
 |nil:Goes Q st [] 0 st 0
 |step {l k t h a P}:Goes Q st l k t h→t≤a→(l=[]→a=st)→setV P=true→Q ⟨k,a,P⟩→Goes Q st (l++[⟨k,a,P⟩]) (k+1) a h
 |hand {l k t h a x}:Goes Q st l k t h→t≤a→l≠[]→0≤x→x≤31→Goes Q st (l++[⟨-1,a,[x]⟩]) k a (h+1)
section
variable {Q:D.Start→Prop} {st k t h:Int} {l:List D.Start}
theorem Goes.pos(g:Goes Q st l k t h):0≤k∧0≤h∧(l.length:Int)=k+h∧st≤t:=by
 induction g with
 |nil=>simp
 |step g h1 _ _ _ ih=>simp only[List.length_append,List.length_cons,List.length_nil];omega
 |hand g h1 _ _ _ ih=>simp only[List.length_append,List.length_cons,List.length_nil];omega
def kF:Int→List D.Start→Int
 |k,[]=>k
 |k,x::r=>kF (max k x.K) r
def tF:Int→List D.Start→Int
 |t,[]=>t
 |t,x::r=>tF x.At r
theorem Qn8{x:D.Start}:∀{l:List D.Start} {k:Int},kF k (l++[x])=max (kF k l) x.K
 |[],_=>rfl
 |y::l,k=>Qn8 (l:=l) (k:=max k y.K)
theorem QoJ{x:D.Start}:∀{l:List D.Start} {t:Int},tF t (l++[x])=x.At
 |[],_=>rfl
 |y::l,t=>QoJ (l:=l) (t:=y.At)
theorem QdE{nx:Int}{x:D.Start}:∀{l:List D.Start} {k t:Int},XV nx k t (l++[x])=(XV nx k t l &&
  (decide (tF t l≤x.At) && (decide (x.K = -1) || decide (0≤x.K) && decide (kF k l<x.K) && decide (x.K<nx)) && setV x.People))
 |[],k,t=>by
  show(_ && true)=(true && _)
  rw[Bool.and_true,Bool.true_and];rfl
 |y::l,k,t=>by
  rw[List.cons_append,XV,QdE (l:=l),XV,kF,tF]
  simp only[Bool.and_assoc]
theorem Qpx{x:Int}(h0:0≤x)(h1:x≤31):setV [x]=true:=by
 unfold setV setF setF;simp;omega
theorem Goes.fit(g:Goes Q st l k t h):kF (-1) l=k - 1∧tF st l=t∧∀nx,k≤nx→XV nx (-1) st l=true:=by
 induction g with
 |nil=>exact⟨rfl,rfl,fun _ _=>rfl⟩
 |step g h1 h2 h3 h4 ih=>
  obtain⟨i1,i2,i3⟩:=ih
  have hp:=g.pos
  refine⟨by rw[Qn8,i1];dsimp only;omega,QoJ,fun nx hn=>?_⟩
  rw[QdE,i3 nx (by omega),i1,i2]
  simp only[h3,Bool.true_and,Bool.and_true,bae,Bool.or_eq_true,decide_eq_true_eq]
  omega
 |hand g h1 h2 h3 h4 ih=>
  obtain⟨i1,i2,i3⟩:=ih
  have hp:=g.pos
  refine⟨by rw[Qn8,i1];dsimp only;omega,QoJ,fun nx hn=>?_⟩
  rw[QdE,i3 nx hn,i1,i2,Qpx h3 h4]
  simp[h1]
end
theorem QsA{n:Int}:∀{l:List Int} {k:Int},setF n k l=true↔Asc l∧∀x∈l,0≤x∧x<n∧k<x
 |[],k=>by simp[setF,Asc]
 |y::l,k=>by
  rw[setF]
  simp only[bae,decide_eq_true_eq,QsA (l:=l),Asc,List.pairwise_cons,List.mem_cons,forall_eq_or_imp]
  constructor
  ·rintro⟨⟨⟨h1,h2⟩,h3⟩,h4,h5⟩
   exact⟨⟨fun z hz=>(h5 z hz).2.2,h4⟩,⟨h1,h2,h3⟩,fun z hz=>⟨(h5 z hz).1,(h5 z hz).2.1,by have:=(h5 z hz).2.2;omega⟩⟩
  ·rintro⟨⟨h1,h2⟩,⟨h3,h4,h5⟩,h6⟩
   exact⟨⟨⟨h3,h4⟩,h5⟩,h2,fun z hz=>⟨(h6 z hz).1,(h6 z hz).2.1,h1 z hz⟩⟩
theorem VG{l:List Int}:setV l=true↔Asc l∧∀x∈l,0≤x∧x<32:=by
 unfold setV;rw[QsA]
 constructor
 ·rintro⟨h1,h2⟩;exact⟨h1,fun x hx=>⟨(h2 x hx).1,(h2 x hx).2.1⟩⟩
 ·rintro⟨h1,h2⟩;exact⟨h1,fun x hx=>⟨(h2 x hx).1,(h2 x hx).2,by have:=h2 x hx;omega⟩⟩
theorem QsB{c:D.Config}{b:D.Book}{s:D.PolicyStep}{t:Int}:setV (QaF c b s t)=true:=
 VG.2 ⟨Qrd,fun x hx=>by have:=Qre hx;omega⟩
theorem Qa1{l:List Int}{x:Int}(h:Asc l):Asc (QfK l x)∧∀z,z∈QfK l x↔z∈l∨z=x:=by
 unfold QfK
 refine⟨?_,fun z=>?_⟩
 ·refine List.pairwise_append.2 ⟨List.Pairwise.filter _ h,List.pairwise_cons.2 ⟨fun a ha=>?_,List.Pairwise.filter _ h⟩,fun a ha b hb=>?_⟩
  ·simpa using(List.mem_filter.1 ha).2
  ·have h1:a<x:=by simpa using(List.mem_filter.1 ha).2
   rcases List.mem_cons.1 hb with rfl|hb
   ·exact h1
   ·have h2:x<b:=by simpa using(List.mem_filter.1 hb).2
    omega
 ·simp only[List.mem_append,List.mem_cons,List.mem_filter,decide_eq_true_eq]
  constructor
  ·rintro(⟨h1,_⟩|h1|⟨h1,_⟩)
   ·exact .inl h1
   ·exact .inr h1
   ·exact .inl h1
  ·rintro(h1|h1)
   ·rcases Int.lt_trichotomy z x with h2|h2|h2
    ·exact .inl ⟨h1,h2⟩
    ·exact .inr (.inl h2)
    ·exact .inr (.inr ⟨h1,h2⟩)
   ·exact .inr (.inl h1)
theorem Qse{l:List Int}{x:Int}(h:Asc l)(hx:x∈l):QfK l x=l:=
 QcS (Qa1 h).1 h fun z=>by rw[(Qa1 h).2];exact⟨fun g=>g.elim id (fun e=>e ▸ hx),.inl⟩
theorem Qc0{p:D.Page}(hd:(dueV p).2=true):p.State=0∨p.State=2:=by
 unfold dueV at hd
 split at hd
 ·exact .inl ‹_›
 ·split at hd
  ·exact .inr ‹_›
  ·simp at hd
structure QH (Q:Int→D.Start→Prop) (M:Int) (b:D.Book) (p:D.Page):Prop where
 top:M≤8000000000
 id:1≤p.ID∧p.ID≤999999
 pol:0≤p.Policy∧p.Policy<(b.Policies.length:Int)
 start:0≤p.Start∧p.Start≤M - 20000
 goes:∃t,Goes (Q p.Policy) p.Start p.Starts p.Next t p.Hands∧t≤p.Last∧(p.State=0→t≤p.Due)∧(p.State=2→t≤p.Until)
 next:p.Next≤Yp (YO b p)
 state:0≤p.State∧p.State≤4
 by_ : -1≤p.By∧p.By≤31
 last:p.Last≤M
 due:0≤p.Due∧p.Due≤M
 until_:0≤p.Until∧p.Until≤M
 dueO:p.State=0→p.Due+900*(Yp (YO b p) - p.Next)≤M
 untilS:p.State=2→p.Until+900*(Yp (YO b p) - p.Next)≤M
 snoozes:0≤p.Snoozes∧p.Snoozes≤4
 hands:p.Hands≤4
 first:p.Starts=[]→p.State=0∧p.Due=p.Start
 ended:p.State=3→p.Next=Yp (YO b p)
 declined:setV p.Declined=true
 seen:QjP p.Seen=true
section
variable {Q:Int→D.Start→Prop} {M:Int} {b:D.Book} {p:D.Page}
theorem QH.polOK(h:QH Q M b p)(hb:QJ b):Qbp b.Teams.length (YO b p):=hb.pol _ (Qi (by have:=h.pol;omega))
theorem Qbp.waits{n:Nat}{q:D.Policy}(h:Qbp n q):QnE q=true:=by
 unfold QnE
 refine List.all_eq_true.2 fun s hs=>?_
 have:=(h.step s hs).wait
 simp;omega
theorem QL{n lo hi:Int}:inV n lo hi=true↔lo≤n∧n≤hi:=by simp[inV]
theorem QH.len(h:QH Q M b p)(hb:QJ b):p.Starts.length≤13∧0≤p.Next∧0≤p.Hands:=by
 obtain⟨t,h1,_⟩:=h.goes
 have h2:=h1.pos
 have h3:=Yd (h.polOK hb)
 have h4:=h.next
 have h5:=h.hands
 omega
theorem QH.check(h:QH Q M b p)(hb:QJ b):QQ b p=true:=by
 obtain⟨t,h1,h2,_⟩:=h.goes
 have h3:=h1.pos
 have h4:=h1.fit
 have h5:=h.len hb
 have g0:=h.top;have g1:=h.id;have g2:=h.pol;have g3:=h.start;have g4:=h.next;have g5:=h.state;have g6:=h.by_;have g7:=h.last;have g8:=h.due;have g9:=h.until_;have g10:=h.snoozes;have g11:=h.hands
 unfold QQ Qfe farV
 rw[h4.2.2 _ (Int.le_refl _),h.declined,h.seen,(h.polOK hb).waits]
 simp only[Bool.and_true,Bool.true_and,bae,QL,decide_eq_true_eq]
 omega
theorem QH.mono{Q':Int→D.Start→Prop}(h:QH Q M b p)(hq:∀s,Q p.Policy s→Q' p.Policy s):QH Q' M b p:=by
 obtain⟨t,h1,h2⟩:=h.goes
 refine{ h with goes:=⟨t,?_,h2⟩ }
 generalize p.Hands=hh at h1
 generalize p.Next=nn at h1
 generalize p.Starts=ss at h1
 clear h2
 induction h1 with
 |nil=>exact .nil
 |step g a1 a2 a3 a4 ih=>exact .step ih a1 a2 a3 (hq _ a4)
 |hand g a1 a2 a3 a4 ih=>exact .hand ih a1 a2 a3 a4
theorem QoH{n:Nat}{q:D.Policy}(h:Qbp n q){k:Int}(hk:0≤k):nth q.Steps (k % (q.Steps.length:Int)).toNat∈q.Steps:=by
 have:=h.len
 refine Qi ?_
 have h1:=Int.emod_nonneg k (b:=(q.Steps.length:Int)) (by omega)
 have h2:=Int.emod_lt_of_pos k (b:=(q.Steps.length:Int)) (by omega)
 omega
theorem QH.stepQ_inv{c:D.Config}(h:QH Q M b p)(hb:QJ b)(hd:(dueV p).2=true)(hQ:p.State=0→p.Next<Yp (YO b p)→Q p.Policy ⟨p.Next,p.Due,QaF c b (Zm b p) p.Due⟩):QH Q M b (stepQ c b p):=by
 obtain⟨t,h1,h2,h3,h4⟩:=h.goes
 have hp:=h1.pos
 have hs:p.State=0∨p.State=2:=Qc0 hd
 have g0:=h.top;have g3:=h.start;have g7:=h.last;have g8:=h.due;have g9:=h.until_
 have g10:=h.dueO;have g11:=h.untilS;have gn:=h.next
 unfold stepQ
 split
 ·rename_i e2
  have e3:=h4 e2
  have hne:p.Starts≠[]:=fun e=>by have:=(h.first e).1;omega
  exact⟨h.top,h.id,h.pol,h.start,⟨t,h1,by dsimp only;omega,fun _=>e3,fun e=>by simp at e⟩,h.next,by dsimp only;omega,h.by_,by dsimp only;omega,g9,g9,fun _=>g11 e2,fun e=>by simp at e,h.snoozes,h.hands,fun e=>absurd e hne,fun e=>by simp at e,h.declined,h.seen⟩
 ·rename_i e2
  have e0:p.State=0:=by omega
  have e3:=h3 e0
  have e4:=g10 e0
  split
  ·rename_i e5
   have hc:=Yd (h.polOK hb)
   have hne:p.Starts≠[]:=fun e=>by
    have:(p.Starts.length:Int)=p.Next+p.Hands:=hp.2.2.1
    rw[e]at this
    have h0:=hp.1;have h9:=hp.2.1
    simp at this;omega
   exact⟨h.top,h.id,h.pol,h.start,⟨t,h1,by dsimp only;omega,fun e=>by simp at e,fun e=>by simp at e⟩,h.next,by dsimp only;omega,h.by_,by dsimp only;omega,g8,g9,fun e=>by simp at e,fun e=>by simp at e,h.snoozes,h.hands,fun e=>absurd e hne,fun _=>by show p.Next=Yp (YO b p);omega,h.declined,h.seen⟩
  ·rename_i e5
   have hw:=(h.polOK hb).step _ (QoH (h.polOK hb) hp.1)
   have hw':0≤(Zm b p).Wait∧(Zm b p).Wait≤900:=hw.wait
   have hdue:(if QaF c b (Zm b p) p.Due=[]then p.Due else p.Due+(Zm b p).Wait)≤p.Due+900∧p.Due≤(if QaF c b (Zm b p) p.Due=[]then p.Due else p.Due+(Zm b p).Wait):=by split<;>omega
   refine⟨h.top,h.id,h.pol,h.start,⟨p.Due,.step h1 e3 (fun e=>?_) QsB (hQ e0 (by omega)),by dsimp only;omega,fun _=>hdue.2,fun e=>?_⟩,?_,h.state,h.by_,by dsimp only;omega,?_,g9,fun _=>?_,fun e=>absurd e e2,h.snoozes,h.hands,fun e=>by simp at e,fun e=>?_,by dsimp only;decide,h.seen⟩
   ·exact(h.first e).2
   ·exact absurd e e2
   ·show p.Next+1≤Yp (YO b p);omega
   ·dsimp only;omega
   ·show(if QaF c b (Zm b p) p.Due=[]then p.Due else p.Due+(Zm b p).Wait)+900*(Yp (YO b p) - (p.Next+1))≤M
    omega
   ·exact absurd e (by dsimp only;omega)
theorem QH.answerQ_inv{a:D.Answer}(h:QH Q M b p)(hb:QJ b)(hv:YB a=true)(ha:a.At≤M - 20000)(hs:a.Kind=3→a.Arg≤5000)(hseen:p.Seen.contains a.ID=false)(hr:Xy p a=0):QH Q M b (Y6 p a):=by
 obtain⟨t,h1,h2,h3,h4⟩:=h.goes
 have hp:=h1.pos
 unfold YB at hv
 simp only[bae,QL]at hv
 obtain⟨⟨⟨⟨⟨v1,v2⟩,v3⟩,v4⟩,v5⟩,v6⟩:=hv
 unfold Xy at hr
 split at hr
 ·simp at hr
 rename_i r1
 split at hr
 ·simp at hr
 rename_i r2
 split at hr
 ·simp at hr
 rename_i r3
 have hw:Yk p a.At=false:=by cases hb:Yk p a.At<;>simp_all
 have hla:p.Last≤a.At:=by omega
 have hne:p.Starts≠[]:=fun e=>by
  obtain⟨e1,e2⟩:=h.first e
  have hst:p.Start≤t:=hp.2.2.2
  unfold Yk dueV at hw
  rw[if_pos e1]at hw
  simp at hw;omega
 have g0:=h.top;have g3:=h.start;have g7:=h.last;have g8:=h.due;have g9:=h.until_
 have g10:=h.dueO;have g11:=h.untilS;have gn:=h.next;have gs:=h.snoozes;have gh:=h.hands;have gst:=h.state
 have hc:=Yd (h.polOK hb)
 have hsn:QjP (p.Seen++[a.ID])=true:=by
  have:=h.seen
  unfold QjP at this ⊢
  simp only[bae,decide_eq_true_eq]at this ⊢
  refine⟨List.nodup_append.2 ⟨this.1,by simp,fun x hx y hy e=>?_⟩,by simp only[List.length_append,List.length_cons,List.length_nil];omega⟩
  rw[List.mem_singleton.1 hy]at e
  subst e
  rw[List.contains_iff_mem.2 hx]at hseen;simp at hseen
 have hdec:setV (VM p a)=true:=by
  have hd:=VG.1 h.declined
  unfold VM
  split
  ·rename_i hcal
   refine VG.2 ⟨(Qa1 hd.1).1,fun x hx=>?_⟩
   rcases((Qa1 hd.1).2 x).1 hx with hx|rfl
   ·exact hd.2 x hx
   ·have hm:=List.contains_iff_mem.1 hcal
    have hst:=(h1.fit.2.2 _ (Int.le_refl _))
    have hall:∀{nx:Int} {l:List D.Start} {k t:Int},XV nx k t l=true→∀s∈l,setV s.People=true:=by
     intro nx l
     induction l with
     |nil=>intro k t _ s hs;simp at hs
     |cons y l ih=>
      intro k t hq s hs
      rw[XV]at hq
      simp only[bae]at hq
      rcases List.mem_cons.1 hs with rfl|hs
      ·exact hq.1.2
      ·exact ih hq.2 s hs
    unfold Xt at hm
    rw[if_neg hne]at hm
    have hlen:0<p.Starts.length:=List.length_pos_iff.2 hne
    exact(VG.1 (hall hst _ (Qi (by omega)))).2 _ hm
  ·exact h.declined
 unfold Y6
 split
 ·split
  ·exact⟨h.top,h.id,h.pol,h.start,⟨t,h1,h2,h3,h4⟩,h.next,h.state,h.by_,h.last,h.due,h.until_,h.dueO,h.untilS,h.snoozes,h.hands,fun e=>absurd e hne,h.ended,h.declined,hsn⟩
  ·exact⟨h.top,h.id,h.pol,h.start,⟨t,h1,by dsimp only;omega,fun e=>by simp at e,fun e=>by simp at e⟩,h.next,by dsimp only;omega,v3,by dsimp only;omega,h.due,h.until_,fun e=>by simp at e,fun e=>by simp at e,h.snoozes,h.hands,fun e=>absurd e hne,fun e=>by simp at e,h.declined,hsn⟩
 ·split
  ·have hdue:(if VU p a=true∧p.State=0 then a.At else p.Due)=p.Due∨((if VU p a=true∧p.State=0 then a.At else p.Due)=a.At∧p.State=0):=by
    split
    ·rename_i hx;exact .inr ⟨rfl,hx.2⟩
    ·exact .inl rfl
   refine⟨h.top,h.id,h.pol,h.start,⟨t,h1,by dsimp only;omega,fun e=>?_,h4⟩,h.next,h.state,h.by_,by dsimp only;omega,?_,h.until_,fun e=>?_,h.untilS,h.snoozes,h.hands,fun e=>absurd e hne,h.ended,hdec,hsn⟩
   ·have:=h3 e;dsimp only;omega
   ·dsimp only;omega
   ·have:=g10 e
    show(if VU p a=true∧p.State=0 then a.At else p.Due)+900*(Yp (YO b p) - p.Next)≤M
    omega
  ·split
   ·rename_i k3
    rw[if_pos k3]at v6
    have v6:=QL.1 v6
    have:=hs k3
    exact⟨h.top,h.id,h.pol,h.start,⟨t,h1,by dsimp only;omega,fun e=>by simp at e,fun e=>by dsimp only;omega⟩,h.next,by dsimp only;omega,v3,by dsimp only;omega,h.due,by dsimp only;omega,fun e=>by simp at e,fun _=>by show a.At+a.Arg+900*(Yp (YO b p) - p.Next)≤M;omega,by dsimp only;omega,h.hands,fun e=>absurd e hne,fun e=>by simp at e,h.declined,hsn⟩
   ·rename_i k3
    split
    ·rename_i k4
     rw[if_neg k3,if_pos k4]at v6
     have v6:=QL.1 v6
     exact⟨h.top,h.id,h.pol,h.start,⟨a.At,.hand h1 (by omega) hne v6.1 v6.2,by dsimp only;omega,fun e=>by dsimp only;omega,fun e=>by simp at e⟩,h.next,by dsimp only;omega,h.by_,by dsimp only;omega,by dsimp only;omega,h.until_,fun _=>by show a.At+600+900*(Yp (YO b p) - p.Next)≤M;omega,fun e=>by simp at e,h.snoozes,by dsimp only;omega,fun e=>by simp at e,fun e=>by simp at e,by dsimp only;decide,hsn⟩
    ·exact⟨h.top,h.id,h.pol,h.start,⟨t,h1,by dsimp only;omega,fun e=>by simp at e,fun e=>by simp at e⟩,h.next,by dsimp only;omega,v3,by dsimp only;omega,h.due,h.until_,fun e=>by simp at e,fun e=>by simp at e,h.snoozes,h.hands,fun e=>absurd e hne,fun e=>by simp at e,h.declined,hsn⟩
def newP(id pol start:Int):D.Page:=D.Page.mk id pol start 0 start 0 (-1) 0 start 0 0 [] [] []
theorem QvT{id pol start:Int}(hM:M≤8000000000)(hb:QJ b)(h1:1≤id∧id≤999999)(h2:0≤pol∧pol<(b.Policies.length:Int))(h3:0≤start∧start≤M - 20000):QH Q M b (newP id pol start):=by
 have hp:Qbp b.Teams.length (YO b (newP id pol start)):=hb.pol _ (Qi (by show pol.toNat<_;omega))
 have hc:=Yd hp
 exact⟨hM,h1,h2,h3,⟨start,.nil,Int.le_refl _,fun _=>Int.le_refl _,fun e=>by simp[newP]at e⟩,by show 0≤_;omega,by simp[newP],by simp[newP],by show start≤_;omega,by show 0≤start∧start≤_;omega,by show(0:Int)≤0∧(0:Int)≤M;omega,fun _=>by show start+900*(_ - 0)≤_;omega,fun e=>by simp[newP]at e,by simp[newP],by simp[newP],fun _=>⟨rfl,rfl⟩,fun e=>by simp[newP]at e,by dsimp only[newP];decide,by dsimp only[newP];decide⟩
def Uo(b:D.Book)(p:D.Page):Nat:=if p.State=2 then(Yp (YO b p) - p.Next).toNat+2 else if p.State=0 then(Yp (YO b p) - p.Next).toNat+1 else 0
theorem Qqr{c:D.Config}:YO b (stepQ c b p)=YO b p:=by
 unfold stepQ YO
 split
 ·rfl
 ·split<;>rfl
theorem QbS{c:D.Config}(hd:(dueV p).2=true):Uo b (stepQ c b p)<Uo b p:=by
 have hs:p.State=0∨p.State=2:=Qc0 hd
 unfold Uo
 rw[Qqr]
 unfold stepQ
 split
 ·dsimp only;rw[if_neg (by omega),if_pos rfl];omega
 ·rename_i e2
  have e0:p.State=0:=by omega
  rw[if_pos e0]
  split
  ·dsimp only;rw[if_neg (by omega),if_neg (by omega)];omega
  ·dsimp only;omega
theorem Uy{now:Int}(h:Yk p now=true):(dueV p).2=true∧(dueV p).1≤now:=by
 unfold Yk at h;simpa using h
theorem QgJ{now:Int}(h:Uo b p=0):Yk p now=false:=by
 unfold Uo at h
 unfold Yk dueV
 split at h
 ·omega
 ·rename_i e2
  split at h
  ·omega
  ·rename_i e0
   rw[if_neg e0,if_neg e2];rfl
theorem QH.stepVis{c:D.Config}(h:QH Q M b p)(hb:QJ b)(hd:(dueV p).2=true):stepV c b p=(stepQ c b p,0):=by
 unfold stepV
 rw[h.check hb,hd,if_neg (by simp),if_neg (by simp),if_neg (by have:=(h.len hb).1;omega)]
def Qg6(Q:Int→D.Start→Prop)(M:Int)(c:D.Config)(b:D.Book):Prop:=∀p,QH Q M b p→p.State=0→p.Next<Yp (YO b p)→Q p.Policy ⟨p.Next,p.Due,QaF c b (Zm b p) p.Due⟩
theorem QlI{c:D.Config}{now:Int}(hb:QJ b)(hQ:Qg6 Q M c b):∀(n:Nat) {p:D.Page},QH Q M b p→Uo b p≤n→QH Q M b (runN c b now n p).1∧(runN c b now n p).2=0∧Yk (runN c b now n p).1 now=false
 |0,p,h,hl=>⟨h,rfl,QgJ (b:=b) (show Uo b p=0 by omega)⟩
 |n+1,p,h,hl=>by
  rw[runN]
  split
  ·rename_i hw
   have hd:=Uy hw
   rw[h.stepVis hb hd.1,if_neg (by simp)]
   exact QlI hb hQ n (h.stepQ_inv hb hd.1 (hQ p h)) (by have:=QbS (c:=c) (b:=b) hd.1;dsimp only;omega)
  ·rename_i hw
   exact⟨h,rfl,by dsimp only;cases hb:Yk p now<;>simp_all⟩
theorem Qpd(hb:QJ b)(h:QH Q M b p):Uo b p≤11:=by
 have hc:=Yd (h.polOK hb)
 have:=(h.len hb).2
 unfold Uo
 split
 ·omega
 ·split<;>omega
theorem Qco{c:D.Config}{now:Int}(hb:QJ b)(hQ:Qg6 Q M c b)(h:QH Q M b p):QH Q M b (runV c b p now).1∧(runV c b p now).2=0∧Yk (runV c b p now).1 now=false:=by
 unfold runV
 rw[h.check hb,if_neg (by simp)]
 exact QlI hb hQ 100 h (by have:=Qpd hb h;omega)
theorem Qnn{c:D.Config}{now:Int}(hb:QJ b)(hQ:Qg6 Q M c b):∀(n m:Nat) {p:D.Page},QH Q M b p→Uo b p≤n→Uo b p≤m→runN c b now n p=runN c b now m p
 |0,0,p,h,h1,h2=>rfl
 |0,m+1,p,h,h1,h2=>by rw[runN,runN,QgJ (b:=b) (by omega),if_neg (by simp)]
 |n+1,0,p,h,h1,h2=>by rw[runN,runN,QgJ (b:=b) (by omega),if_neg (by simp)]
 |n+1,m+1,p,h,h1,h2=>by
  rw[runN,runN]
  split
  ·rename_i hw
   have hd:=Uy hw
   rw[h.stepVis hb hd.1,if_neg (by simp),if_neg (by simp)]
   have:=QbS (c:=c) (b:=b) hd.1
   exact Qnn hb hQ n m (h.stepQ_inv hb hd.1 (hQ p h)) (by dsimp only;omega) (by dsimp only;omega)
  ·rfl
theorem Qkn{c:D.Config}{a z:Int}(hb:QJ b)(hQ:Qg6 Q M c b)(haz:a≤z):∀(n:Nat) {p:D.Page},QH Q M b p→Uo b p≤n→runN c b z n (runN c b a n p).1=runN c b z n p
 |0,p,h,hl=>rfl
 |n+1,p,h,hl=>by
  by_cases hw:Yk p a=true
  ·have hd:=Uy hw
   have hz:Yk p z=true:=by unfold Yk;rw[hd.1];simp;omega
   have hl':=QbS (c:=c) (b:=b) hd.1
   have hi:=h.stepQ_inv hb hd.1 (hQ p h)
   rw[show runN c b a (n+1) p=runN c b a n (stepQ c b p)from by rw[runN,if_pos hw,h.stepVis hb hd.1,if_neg (by simp)],show runN c b z (n+1) p=runN c b z n (stepQ c b p)from by rw[runN,if_pos hz,h.stepVis hb hd.1,if_neg (by simp)],←Qkn hb hQ haz n hi (by omega)]
   have hr:=QlI (now:=a) hb hQ n hi (by omega)
   have hle:∀(n:Nat) {p:D.Page},QH Q M b p→Uo b (runN c b a n p).1≤Uo b p:=by
    intro n
    induction n with
    |zero=>intro p _;exact Nat.le_refl _
    |succ n ih=>
     intro p h
     rw[runN]
     split
     ·rename_i hw
      have hd:=Uy hw
      rw[h.stepVis hb hd.1,if_neg (by simp)]
      exact Nat.le_trans (ih (h.stepQ_inv hb hd.1 (hQ p h))) (Nat.le_of_lt (QbS hd.1))
     ·exact Nat.le_refl _
   have:=hle n hi
   exact Qnn hb hQ (n+1) n hr.1 (by omega) (by omega)
  ·rw[show runN c b a (n+1) p=(p,0)from by rw[runN,if_neg hw]]
theorem QgE{c:D.Config}{now:Int}(h:QQ b p=true):runV c b p now=runN c b now 100 p:=by unfold runV;rw[h,if_neg (by simp)]
theorem Qko{c:D.Config}{a z:Int}(hb:QJ b)(hQ:Qg6 Q M c b)(haz:a≤z)(h:QH Q M b p):runV c b (runV c b p a).1 z=runV c b p z:=by
 have hr:=Qco (now:=a) hb hQ h
 rw[QgE (hr.1.check hb),QgE (h.check hb),QgE (h.check hb)]
 exact Qkn hb hQ haz 100 h (by have:=Qpd hb h;omega)
end
end Go.Proofs.YtadlpefpehjcoaaGreat
/-
  What the kit's contracts of Go's library ask, at this dump: bodies, types, variables, compared by the kernel. Printed by wip/gen/laid.py.
-/
namespace Go.Proofs.YtadlpefpehjcoaaGreat
open Go Go.Shelf
def Qn9:Go.Shelf.Ren:=⟨fun|189=>47|125=>79|257=>78|128=>124|129=>125|294=>115|295=>116|296=>117|297=>118|298=>119|299=>120|216=>121|300=>122|301=>123|328=>191|329=>192|330=>193|331=>194|332=>195|215=>196|343=>250|n=>n,fun|28=>22|3=>3|46=>156|0=>0|51=>192|53=>194|4=>4|183=>185|182=>184|131=>103|5=>5|9=>9|218=>243|222=>247|228=>289|229=>290|n=>n,fun|n=>n⟩
theorem lays189:Go.Proofs.Lays.n189 Tryz.prog Qn9:={
 mixed:=by kernel_rfl,f125:=Tryz.func79.trans (congrArg some (by kernel_rfl)),f128:=Tryz.func124.trans (congrArg some (by kernel_rfl)),f129:=Tryz.func125.trans (congrArg some (by kernel_rfl)),f189:=Tryz.func47.trans (congrArg some (by kernel_rfl)),f215:=Tryz.func196.trans (congrArg some (by kernel_rfl)),f216:=Tryz.func121.trans (congrArg some (by kernel_rfl)),f257:=Tryz.func78.trans (congrArg some (by kernel_rfl)),f294:=Tryz.func115.trans (congrArg some (by kernel_rfl)),f295:=Tryz.func116.trans (congrArg some (by kernel_rfl)),f296:=Tryz.func117.trans (congrArg some (by kernel_rfl)),f297:=Tryz.func118.trans (congrArg some (by kernel_rfl)),f298:=Tryz.func119.trans (congrArg some (by kernel_rfl)),f299:=Tryz.func120.trans (congrArg some (by kernel_rfl)),f300:=Tryz.func122.trans (congrArg some (by kernel_rfl)),f301:=Tryz.func123.trans (congrArg some (by kernel_rfl)),f328:=Tryz.func191.trans (congrArg some (by kernel_rfl)),f329:=Tryz.func192.trans (congrArg some (by kernel_rfl)),f330:=Tryz.func193.trans (congrArg some (by kernel_rfl)),f331:=Tryz.func194.trans (congrArg some (by kernel_rfl)),f332:=Tryz.func195.trans (congrArg some (by kernel_rfl)),f343:=Tryz.func250.trans (congrArg some (by kernel_rfl)),t0:=Tryz.underlying0,a0:=Tryz.isAgg0,z0:=Tryz.sizeOf0,v0:=Tryz.zeroValue0,t3:=Tryz.underlying3,a3:=Tryz.isAgg3,z3:=Tryz.sizeOf3,v3:=Tryz.zeroValue3,t4:=Tryz.underlying4,a4:=Tryz.isAgg4,z4:=Tryz.sizeOf4,v4:=Tryz.zeroValue4,t5:=Tryz.underlying5,a5:=Tryz.isAgg5,z5:=Tryz.sizeOf5,v5:=Tryz.zeroValue5,t9:=Tryz.underlying9,a9:=Tryz.isAgg9,z9:=Tryz.sizeOf9,v9:=Tryz.zeroValue9,t28:=Tryz.underlying22,a28:=Tryz.isAgg22,z28:=Tryz.sizeOf22,v28:=Tryz.zeroValue22,t46:=Tryz.underlying156,a46:=Tryz.isAgg156,z46:=Tryz.sizeOf156,v46:=Tryz.zeroValue156,t51:=Tryz.underlying192,a51:=Tryz.isAgg192,z51:=Tryz.sizeOf192,v51:=Tryz.zeroValue192,t53:=Tryz.underlying194,a53:=Tryz.isAgg194,z53:=Tryz.sizeOf194,v53:=Tryz.zeroValue194,t131:=Tryz.underlying103,a131:=Tryz.isAgg103,z131:=Tryz.sizeOf103,v131:=Tryz.zeroValue103,t182:=Tryz.underlying184,a182:=Tryz.isAgg184,z182:=Tryz.sizeOf184,v182:=Tryz.zeroValue184,t183:=Tryz.underlying185,a183:=Tryz.isAgg185,z183:=Tryz.sizeOf185,v183:=Tryz.zeroValue185,t218:=Tryz.underlying243,a218:=Tryz.isAgg243,z218:=Tryz.sizeOf243,v218:=Tryz.zeroValue243,t222:=Tryz.underlying247,a222:=Tryz.isAgg247,z222:=Tryz.sizeOf247,v222:=Tryz.zeroValue247,t228:=Tryz.underlying289,a228:=Tryz.isAgg289,z228:=Tryz.sizeOf289,v228:=Tryz.zeroValue289,t229:=Tryz.underlying290,a229:=Tryz.isAgg290,z229:=Tryz.sizeOf290,v229:=Tryz.zeroValue290 }
/-
  What functions do, reckoned from their code, and their contracts. Printed by wip/gen/brun.py.
-/
open Go AM IntKind
noncomputable section
def tyL:List (Nat×TC):=[(2,.int),(3,.int),(4,.bool),(5,.u8),(6,.u8),(9,.str),(10,.str),(11,.str),(32,.Config),(36,.Book),(40,.Ledger),(46,.Answer),(48,.Edit),(50,.Op),(51,.int),(59,.Call),(71,.Page),(73,.Start),(75,.Contact),(83,.Arr3Int),(93,.Dice),(106,.fence),(117,.Zone),(121,.Person),(123,.Window),(125,.Local),(127,.Layer),(131,.Schedule),(133,.Team),(136,.Policy),(139,.PolicyStep),(141,.Target),(172,.worker),(184,.int),(210,.Calendar),(264,.YearRule),(307,.Date),(313,.Occurrence),(314,.Transition),(324,.occurrence),(343,.View),(347,.Table),(391,.Piece),(398,.u8),(399,.u8)]
def ty(t:Nat):Option TC:=AM.look t tyL
abbrev nI:SSh:=.one (.num .i64)
abbrev kI:Sh:=.num .i64
abbrev lI:SSh:=.one (.lst .int)
abbrev rf(n:Nat):Nat×SSh:=(n,.one (.ref (1000+n)))
abbrev ni(n:Nat):Nat×SSh:=(n,.one (.num .i64))
def gs:Nat→Ann→Ann
 |0,a=>a
 |n+1,a=>.two .go (gs n a)
def lp(s:List (Nat×SSh))(o:List (Name×OSh))(a:Ann):Ann:=.two (.two .go (.one (.loop s o a))) .go
abbrev li(n:Nat)(t:TC):Nat×SSh:=(n,.one (.lst t))
abbrev bx(n:Nat)(t:TC):Name×OSh:=(n,.boxst t)
abbrev ar(n:Nat)(t:TC):Name×OSh:=(n,.arr t)
abbrev sF:Option Bool:=some false
abbrev sT:Option Bool:=some true
abbrev cd{R:Type}(p:Prop)[Decidable p](x y:Option R):Option R:=cnd (decide p) x y
abbrev FO(k:FuncId)(g:Sig):Prop:=FnOK Tryz.prog k g
abbrev sI(A:List SSh)(F:SL A→Option Int):Sig:=Qf A [] [.one (.num .i64)] [] [] Int (fun q=>((q,()),())) fun x _=>F x
abbrev sB(A:List SSh)(F:SL A→Option Bool):Sig:=Qf A [] [.one .boo] [] [] Bool (fun q=>((q,()),())) fun x _=>F x
theorem eN{P:Program}:QgM P []:=trivial
theorem eC{P:Program}{l:List (Nat×Nat×Sig)}{k:Nat}{g:Sig}(h:FnOK P k g)(hl:QgM P l):QgM P ((k,0,g)::l):=⟨h,hl⟩
theorem eD(d:Nat){P:Program}{l:List (Nat×Nat×Sig)}{k:Nat}{g:Sig}(h:FnOK P k g)(hl:QgM P l):QgM P ((k,d,g)::l):=⟨h,hl⟩
theorem fI{l:List (Nat×Nat×Sig)}{f:FuncId}(fu:Nat){fn:Func}{c:Code}(an:Ann){args:List SSh}{pre:List (Name×OSh)}{res:List SSh}{post:List (Name×OSh)}{keep:List Name}{Ret:Type}[DecidableEq Ret]{un:Ret→SL res×OL post}{F:SL args→OL pre→Option Ret}(conv:SL res→OL post→Ret)(hE:QgM Tryz.prog l)(hf:Tryz.prog.funcs[f]?=some fn)(hb:fn.body=some c:=by rfl)(hlen:Nat.ble args.length fn.ntmps=true:=by rfl)(hcu:∀a b,un (conv a b)=(a,b):=by exact fun _ _=>rfl)(hF:∀x y,vc Tryz.prog ty (envL l) (keys pre) fn.ntmps fu c an (Qbs 0 (SL.put 0 args x)) (OL.put 0 pre y) (finK Tryz.prog (keys pre) fn.results.toList (Qf args pre res post keep Ret un F) y fun a b=>some (conv a b))=F x y:=by intro x y;kernel_rfl):
  FnOK Tryz.prog f (Qf args pre res post keep Ret un F):=FnOK.intro (ty:=ty) conv hcu (Qru hE) hf hb hlen hF
abbrev P3:Type:=Int×Int×Int×Unit
abbrev P4:Type:=Int×Int×Int×Int×Unit
abbrev P5:Type:=Int×Int×Int×Int×Int×Unit
abbrev P6:Type:=Int×Int×Int×Int×Int×Int×Unit
abbrev P7:Type:=Int×Int×Int×Int×Int×Int×Int×Unit
abbrev P8:Type:=Int×Int×Int×Int×Int×Int×Int×Int×Unit
abbrev P9:Type:=Int×Int×Int×Int×Int×Int×Int×Int×Int×Unit
abbrev P10:Type:=Int×Int×Int×Int×Int×Int×Int×Int×Int×Int×Unit
abbrev P11:Type:=Int×Int×Int×Int×Int×Int×Int×Int×Int×Int×Int×Unit
abbrev P12:Type:=Int×Int×Int×Int×Int×Int×Int×Int×Int×Int×Int×Int×Unit
abbrev P13:Type:=Int×Int×Int×Int×Int×Int×Int×Int×Int×Int×Int×Int×Int×Unit
abbrev kz0{A B C:Type}(a:(A×B))(b:C):=a.1
abbrev kz1{A:Type}(q:A):=((q,()),())
abbrev kz2:=fun(q:(Int×D.worker))=>((q.1,()),(q.2.Ledger.Now,q.2.Ledger.Config.Zones,q.2.Ledger.Config.People,q.2.Ledger.Config.Calendars,q.2.Ledger.Config.Schedules,q.2.Ledger.Book.Teams,q.2.Ledger.Book.Policies,q.2.Ledger.Owner,q.2.Ledger.Fence,()),q.2.Ledger.Pages,q.2.Ledger.Seen,q.2.Ledger.Calls,())
abbrev kz3{A B:Type}(q:(A×B)):=((q.1,q.2,()),())
abbrev kz4{A B C D:Type}(a:(A×(B×C)))(b:D):=(a.1,a.2.1)
abbrev kz5:=fun(a:SL [nI]) (b:OL [(101,.box [kI,.lst .Zone,.lst .Person,.lst .Calendar,.lst .Schedule,.lst .Team,.lst .Policy,.own 102,kI,kI,.own 103,.own 104]),ar 102 .Page,ar 103 .int,ar 104 .Call])=>(a.1,(D.worker.mk (D.Ledger.mk b.1.1 (D.Config.mk b.1.2.1 b.1.2.2.1 b.1.2.2.2.1 b.1.2.2.2.2.1) (D.Book.mk b.1.2.2.2.2.2.1 b.1.2.2.2.2.2.2.1) b.2.1 b.1.2.2.2.2.2.2.2.1 b.1.2.2.2.2.2.2.2.2.1 b.2.2.1 b.2.2.2.1)))
abbrev kz6:=fun(q:(D.Ledger×Int))=>(((q.1.Now,q.1.Config.Zones,q.1.Config.People,q.1.Config.Calendars,q.1.Config.Schedules,q.1.Book.Teams,q.1.Book.Policies,q.1.Owner,q.1.Fence,()),q.2,()),q.1.Pages,q.1.Seen,q.1.Calls,())
abbrev kz7:=fun(q:D.Ledger)=>(((q.Now,q.Config.Zones,q.Config.People,q.Config.Calendars,q.Config.Schedules,q.Book.Teams,q.Book.Policies,q.Owner,q.Fence,()),()),q.Pages,q.Seen,q.Calls,())
abbrev kz8{A:Type}(q:A):=((),q,())
abbrev kz9:=fun(a:SL [.agg [kI,.lst .Zone,.lst .Person,.lst .Calendar,.lst .Schedule,.lst .Team,.lst .Policy,.own 101,kI,kI,.own 102,.own 103],nI]) (b:OL [ar 101 .Page,ar 102 .int,ar 103 .Call])=>((D.Ledger.mk a.1.1 (D.Config.mk a.1.2.1 a.1.2.2.1 a.1.2.2.2.1 a.1.2.2.2.2.1) (D.Book.mk a.1.2.2.2.2.2.1 a.1.2.2.2.2.2.2.1) b.1 a.1.2.2.2.2.2.2.2.1 a.1.2.2.2.2.2.2.2.2.1 b.2.1 b.2.2.1),a.2.1)
abbrev kz10:=fun(q:(Bool×D.Page))=>((q.1,()),(q.2.ID,q.2.Policy,q.2.Start,q.2.Next,q.2.Due,q.2.State,q.2.By,q.2.Until,q.2.Last,q.2.Snoozes,q.2.Hands,()),q.2.Starts,q.2.Declined,q.2.Seen,())
abbrev kz11:=fun(q:D.worker)=>((),(q.Ledger.Now,q.Ledger.Config.Zones,q.Ledger.Config.People,q.Ledger.Config.Calendars,q.Ledger.Config.Schedules,q.Ledger.Book.Teams,q.Ledger.Book.Policies,q.Ledger.Owner,q.Ledger.Fence,()),q.Ledger.Pages,q.Ledger.Seen,q.Ledger.Calls,())
abbrev kz12{A B C:Type}(a:A)(b:(B×C)):=b.1
abbrev kz13:=fun(q:D.Page)=>(((q.ID,q.Policy,q.Start,q.Next,q.Due,q.State,q.By,q.Until,q.Last,q.Snoozes,q.Hands,()),()),q.Starts,q.Declined,q.Seen,())
abbrev kz14:=fun(a:SL []) (b:OL [(101,.box [kI,.lst .Zone,.lst .Person,.lst .Calendar,.lst .Schedule,.lst .Team,.lst .Policy,.own 102,kI,kI,.own 103,.own 104]),ar 102 .Page,ar 103 .int,ar 104 .Call])=>D.worker.mk (D.Ledger.mk b.1.1 (D.Config.mk b.1.2.1 b.1.2.2.1 b.1.2.2.2.1 b.1.2.2.2.2.1) (D.Book.mk b.1.2.2.2.2.2.1 b.1.2.2.2.2.2.2.1) b.2.1 b.1.2.2.2.2.2.2.2.1 b.1.2.2.2.2.2.2.2.2.1 b.2.2.1 b.2.2.2.1)
abbrev kz15:=fun(a:SL [.agg [kI,.lst .Zone,.lst .Person,.lst .Calendar,.lst .Schedule,.lst .Team,.lst .Policy,.own 101,kI,kI,.own 102,.own 103]]) (b:OL [ar 101 .Page,ar 102 .int,ar 103 .Call])=>D.Ledger.mk a.1.1 (D.Config.mk a.1.2.1 a.1.2.2.1 a.1.2.2.2.1 a.1.2.2.2.2.1) (D.Book.mk a.1.2.2.2.2.2.1 a.1.2.2.2.2.2.2.1) b.1 a.1.2.2.2.2.2.2.2.1 a.1.2.2.2.2.2.2.2.2.1 b.2.1 b.2.2.1
abbrev kz16:=fun(q:(Int×D.Page))=>((q.1,()),(q.2.ID,q.2.Policy,q.2.Start,q.2.Next,q.2.Due,q.2.State,q.2.By,q.2.Until,q.2.Last,q.2.Snoozes,q.2.Hands,()),q.2.Starts,q.2.Declined,q.2.Seen,())
abbrev kz17{A B:Type}(q:(A×B)):=((q.1,()),q.2,())
abbrev kz18{A B C:Type}(q:(A×(B×C))):=((q.1,q.2.1,()),q.2.2,())
abbrev kz19{A B C D:Type}(a:(A×B))(b:(C×D)):=(a.1,b.1)
abbrev kz20{A B C D E:Type}(a:(A×(B×C)))(b:(D×E)):=(a.1,a.2.1,b.1)
abbrev kz21{A B C:Type}(q:(A×(B×C))):=((q.1,q.2.1,q.2.2,()),())
variable (fu:Nat)
def Qcv(p0:List D.Window)(p1:Int):Option Bool:=Qj (X:=((Int×List D.Window×Int×Int×Unit)×Unit)) (fun L0 ((a1,a2,a3,a4,_),_)=>cd (a4<a3) (join (Y:=((Int×List D.Window×Int×Int×Unit)×Unit)) (fun((a5,a6,a7,a8,_),_)=>L0 ((a5,a6,a7,(wrap .i64 (a8+1)),()),())) fun J9=>atc a2 a4 fun a10=>cd (a10.From≤a1) (cd (a1<a10.To) sT (J9 ((a1,a2,a3,a4,()),()))) (J9 ((a1,a2,a3,a4,()),()))) sF) fu ((p1,p0,((p0.length:Nat):Int),0,()),())
theorem Qjo:FO 313 (sB [.one (.lst .Window),nI] fun x=>Qcv fu x.1 x.2.1):=fI fu (.two .go (lp [ni 1,li 7 .Window,ni 8,ni 9] [] (gs 2 (.two (.join [ni 1,li 7 .Window,ni 8,ni 9] [] .go) .go)))) kz0 eN Tryz.func313
def UP(fu:Nat)(p0:Int):Option Int:=nzc 7 (nzc 7 (some (Int.tmod (wrap .i64 ((Int.tmod p0 7)+10)) 7)))
theorem Qcw:FO 319 (sI [nI] fun x=>UP fu x.1):=fI fu .go kz0 eN Tryz.func319
def XE(p0:D.Local):Option Int:=optc (UP fu p0.Day) fun a0=>some (wrap .i64 ((wrap .i64 (a0*86400))+p0.Second))
theorem QcC:FO 314 (sI [.st .Local] fun x=>XE fu x.1):=fI fu .go kz0 (eC (Qcw fu) eN) Tryz.func314
def Qed(fu:Nat)(p0:Int):Option D.Local:=nzc 86400 (join (Y:=((Int×Int×Unit)×D.Local×Unit)) (fun((a0,a1,_),a2,_)=>some (D.Local.mk a1 (wrap .i64 (a0 - (wrap .i64 (a1*86400)))))) fun J3=>nzc 86400 (cd ((Int.tmod p0 86400)<0) (J3 ((p0,(wrap .i64 ((wrap .i64 (Int.tdiv p0 86400)) - 1)),()),(D.Local.mk 0 0),())) (J3 ((p0,(wrap .i64 (Int.tdiv p0 86400)),()),(D.Local.mk 0 0),()))))
theorem QlX:FO 329 (Qf [nI] [] [.st .Local] [] [] D.Local kz1 (fun x y=>Qed fu x.1)):=fI fu (gs 2 (.two (.join [ni 0,rf 2,ni 3] [bx 1002 .Local] .go) .go)) kz0 eN Tryz.func329
def Ua(fu:Nat)(p0:D.Table)(p1:Int):Option Int:=cd (p1=0) (some p0.offset) (atc p0.list (wrap .i64 (p1 - 1)) fun a0=>some a0.Offset)
theorem UM:FO 336 (sI [.st .Table,nI] fun x=>Ua fu x.1 x.2.1):=fI fu .go kz0 eN Tryz.func336
def Qbd(fu:Nat)(p0:Int)(p1:D.Table)(p2:Int):Option Bool:=atc p1.list p0 fun a0=>sameC p1 p1 (sameC p2 p2 (some (decide (p2<a0.At))))
theorem QdF:FO 343 (Qf [nI,.one (.ref 101),.one (.ref 102)] [bx 101 .Table,bx 102 .int] [.one .boo] [] [101,102] Bool kz1 (fun x y=>Qbd fu x.1 y.1 y.2.1)):=fI fu .go kz0 eN Tryz.func343
def Zf(p0:Int)(c101:D.Table)(c102:Int):Option Int:=Qj (X:=((Int×Int×Unit)×D.Table×(Int×Unit)×Unit)) (fun L0 ((a1,a2,_),a3,(a4,_),_)=>cd (a1<a2) (natc 1 fun a5=>optc (Qbd fu (wrap .i64 (Int.fdiv (IntKind.wrap .u64 (wrap .i64 (a1+a2))) (HPow.hPow 2 (min a5 (Go.IntKind.bits Go.IntKind.u64))))) a3 a4) fun a6=>cnd (!a6) (L0 (((wrap .i64 ((wrap .i64 (Int.fdiv (IntKind.wrap .u64 (wrap .i64 (a1+a2))) (HPow.hPow 2 (min a5 (Go.IntKind.bits Go.IntKind.u64)))))+1)),a2,()),a3,(a4,()),())) (L0 ((a1,(wrap .i64 (Int.fdiv (IntKind.wrap .u64 (wrap .i64 (a1+a2))) (HPow.hPow 2 (min a5 (Go.IntKind.bits Go.IntKind.u64))))),()),a3,(a4,()),()))) (sameC a3 c101 (sameC a4 c102 (some a1)))) fu ((0,p0,()),c101,(c102,()),())
theorem WU:FO 342 (Qf [nI,.one (.clo 343 [101,102])] [bx 101 .Table,bx 102 .int] [nI] [] [101,102] Int kz1 (fun x y=>Zf fu x.1 y.1 y.2.1)):=fI fu (gs 2 (.two (.one (.loop [(1,.one (.clo 343 [101,102])),ni 5,ni 6] [bx 101 .Table,(102,.box [kI])] .go)) .go)) kz0 (eC (QdF fu) eN) Tryz.func342
def XN(p0:D.Table)(p1:Int):Option Int:=optc (Zf fu ((p0.list.length:Nat):Int) p0 p1) fun a0=>some a0
theorem QaD:FO 337 (sI [.st .Table,nI] fun x=>XN fu x.1 x.2.1):=fI fu .go kz0 (eC (WU fu) eN) Tryz.func337
def Wr(p0:D.Table)(p1:Int):Option Int:=optc (XN fu p0 p1) fun a0=>optc (Ua fu p0 a0) fun a1=>some a1
theorem Qeo:FO 330 (sI [.st .Table,nI] fun x=>Wr fu x.1 x.2.1):=fI fu .go kz0 (eC (UM fu) (eC (QaD fu) eN)) Tryz.func330
def ZD(p0:D.Table)(p1:Int):Option D.Local:=optc (Wr fu p0 p1) fun a0=>optc (Qed fu (wrap .i64 (p1+a0))) fun a1=>some a1
theorem WW:FO 316 (Qf [.st .Table,nI] [] [.st .Local] [] [] D.Local kz1 (fun x y=>ZD fu x.1 x.2.1)):=fI fu .go kz0 (eC (QlX fu) (eC (Qeo fu) eN)) Tryz.func316
def QbL(fu:Nat)(p0:D.Layer):Option Int:=cd (p0.Unit=2) (some (wrap .i64 (7*p0.Every))) (some p0.Every)
theorem QfV:FO 365 (sI [.st .Layer] fun x=>QbL fu x.1):=fI fu .go kz0 eN Tryz.func365
def V9(p0:D.Table)(p1:Int)(p2:Int):Option (List D.Piece):=Qj (X:=((Int×Int×Unit)×D.Table×List D.Piece×Unit)) (fun L0 ((a1,a2,_),a3,a4,_)=>cd (a1<a2) (optc (XN fu a3 a1) fun a5=>join (Y:=(P4×D.Table×List D.Piece×Unit)) (fun((a6,a7,a8,a9,_),a10,a11,_)=>optc (Ua fu a10 a8) fun a12=>lec (a11.length+(List.length ((D.Piece.mk a6 a9 a12)::[]))) 34359738368 (L0 ((a9,a7,()),a10,(a11++((D.Piece.mk a6 a9 a12)::[])),()))) fun J13=>cd (a5<((a3.list.length:Nat):Int)) (atc a3.list a5 fun a14=>J13 ((a1,a2,a5,(min a2 a14.At),()),a3,a4,())) (J13 ((a1,a2,a5,a2,()),a3,a4,()))) (some a4)) fu ((p1,p2,()),p0,[],())
theorem Qep:FO 368 (Qf [.st .Table,nI,nI] [] [.one (.lst .Piece)] [] [] (List D.Piece) kz1 (fun x y=>V9 fu x.1 x.2.1 x.2.2.1)):=fI fu (gs 2 (.two (.one (.loop [ni 1,ni 2,rf 3,(7,.one (.own 1038))] [bx 1003 .Table,ar 1038 .Piece] (.two .go (.one (gs 2 (.two (.join [ni 1,ni 2,rf 3,(7,.one (.own 1038)),ni 8,ni 9] [bx 1003 .Table,ar 1038 .Piece] .go) .go)))))) .go)) kz0 (eC (UM fu) (eC (QaD fu) eN)) Tryz.func368
def QdH(fu:Nat)(p0:D.Local):Option Int:=some (wrap .i64 ((wrap .i64 ((min (max p0.Day (-1048576)) 1048576)*86400))+p0.Second))
theorem Qjq:FO 369 (sI [.st .Local] fun x=>QdH fu x.1):=fI fu .go kz0 eN Tryz.func369
def XM(p0:D.Table)(p1:D.Local):Option (Int×Bool):=optc (V9 fu p0 0 8589934593) fun a0=>Qj (X:=((List D.Piece×Int×Int×Unit)×D.Local×Unit)) (fun L1 ((a2,a3,a4,_),a5,_)=>cd (a4<a3) (atc a2 a4 fun a6=>optc (QdH fu a5) fun a7=>cd ((max a6.From (wrap .i64 (a7 - a6.Offset)))<a6.To) (some ((max a6.From (wrap .i64 (a7 - a6.Offset))),true)) (L1 ((a2,a3,(wrap .i64 (a4+1)),()),a5,()))) (some (0,false))) fu ((a0,((a0.length:Nat):Int),0,()),p1,())
theorem Qfh:FO 367 (Qf [.st .Table,.st .Local] [] [nI,.one .boo] [] [] (Int×Bool) kz3 (fun x y=>XM fu x.1 x.2.1)):=fI fu (.two .go (lp [rf 3,li 10 .Piece,ni 11,ni 12] [bx 1003 .Local] .go)) kz4 (eC (Qep fu) (eC (Qjq fu) eN)) Tryz.func367
def ZX(p0:D.Table)(p1:D.Layer)(p2:Int):Option (Int×Bool):=cd (8589934592<p2) (some (0,false)) (cd (p1.Unit≠0) (optc (QbL fu p1) fun a0=>optc (XM fu p0 (D.Local.mk (wrap .i64 (p1.Start.Day+(wrap .i64 (p2*a0)))) p1.Start.Second)) fun(a1,a2)=>some (a1,a2)) (optc (XM fu p0 p1.Start) fun(a3,a4)=>cnd a4 (cd ((wrap .i64 (a3+(wrap .i64 ((wrap .i64 (3600*p1.Every))*p2))))≤8589934592) (some ((wrap .i64 (a3+(wrap .i64 ((wrap .i64 (3600*p1.Every))*p2)))),true)) (some ((wrap .i64 (a3+(wrap .i64 ((wrap .i64 (3600*p1.Every))*p2)))),false))) (some ((wrap .i64 (a3+(wrap .i64 ((wrap .i64 (3600*p1.Every))*p2)))),false))))
theorem Qe8:FO 364 (Qf [.st .Table,.st .Layer,nI] [] [nI,.one .boo] [] [] (Int×Bool) kz3 (fun x y=>ZX fu x.1 x.2.1 x.2.2.1)):=fI fu .go kz4 (eC (QfV fu) (eC (Qfh fu) eN)) Tryz.func364
def VA(p0:D.Table)(p1:D.Layer)(p2:Int):Option Int:=optc (ZX fu p0 p1 0) fun(a0,a1)=>join (Y:=((Int×Int×Unit)×D.Table×D.Layer×Unit)) (fun((a2,a3,_),a4,a5,_)=>cd (a5.Unit=0) (nzc (wrap .i64 (3600*a5.Every)) (some (wrap .i64 (Int.tdiv (wrap .i64 (a2 - a3)) (wrap .i64 (3600*a5.Every)))))) (optc (ZD fu a4 a2) fun a6=>optc (QbL fu a5) fun a7=>nzc a7 (join (Y:=((Int×Int×Unit)×D.Table×D.Layer×Unit)) (fun((a8,a9,_),a10,a11,_)=>Qj (X:=((Int×Int×Unit)×D.Table×D.Layer×Unit)) (fun L12 ((a13,a14,_),a15,a16,_)=>join (Y:=((Int×Int×Unit)×D.Table×D.Layer×Unit)) (fun((a17,a18,_),a19,a20,_)=>L12 ((a17,(wrap .i64 (a18+1)),()),a19,a20,())) fun J21=>optc (ZX fu a15 a16 (wrap .i64 (a14+1))) fun(a22,a23)=>cnd a23 (cd (a13<a22) (some a14) (J21 ((a13,a14,()),a15,a16,()))) (some a14)) fu ((a8,a9,()),a10,a11,())) fun J24=>Qj (X:=((Int×Int×Unit)×D.Table×D.Layer×Unit)) (fun L25 ((a26,a27,_),a28,a29,_)=>cd (0<a27) (join (Y:=((Int×Int×Unit)×D.Table×D.Layer×Unit)) (fun((a30,a31,_),a32,a33,_)=>L25 ((a30,(wrap .i64 (a31 - 1)),()),a32,a33,())) fun J34=>optc (ZX fu a28 a29 a27) fun(a35,a36)=>cnd a36 (cd (a35≤a26) (J24 ((a26,a27,()),a28,a29,())) (J34 ((a26,a27,()),a28,a29,()))) (J34 ((a26,a27,()),a28,a29,()))) (J24 ((a26,a27,()),a28,a29,()))) fu ((a2,(max 0 (wrap .i64 (Int.tdiv (wrap .i64 (a6.Day - a5.Start.Day)) a7))),()),a4,a5,())))) fun J37=>cnd a1 (cd (p2<a0) (some (-1)) (J37 ((p2,a0,()),p0,p1,()))) (some (-1))
theorem Qhj:FO 361 (sI [.st .Table,.st .Layer,nI] fun x=>VA fu x.1 x.2.1 x.2.2.1):=fI fu (gs 2 (.two (.join [ni 2,rf 3,rf 4,ni 7] [bx 1003 .Table,bx 1004 .Layer] .go) (gs 2 (.two (.join [ni 2,rf 3,rf 4,ni 9] [bx 1003 .Table,bx 1004 .Layer] (.one (.loop [ni 2,rf 3,rf 4,ni 9] [bx 1003 .Table,bx 1004 .Layer] (.two .go (.one (.two (.join [ni 2,rf 3,rf 4,ni 9] [bx 1003 .Table,bx 1004 .Layer] .go) .go)))))) (.one (.loop [ni 2,rf 3,rf 4,ni 9] [bx 1003 .Table,bx 1004 .Layer] (.one (.two (.join [ni 2,rf 3,rf 4,ni 9] [bx 1003 .Table,bx 1004 .Layer] .go) .go)))))))) kz0 (eC (WW fu) (eC (Qe8 fu) (eC (QfV fu) eN))) Tryz.func361
def UQ(fu:Nat)(p0:Int):Option Bool:=some (decide (p0≠p0))
theorem Qg8:FO 196 (sB [nI] fun x=>UQ fu x.1):=fI fu .go kz0 eN Tryz.func196
def WZ(p0:Int)(p1:Int):Option Bool:=optc (UQ fu p0) fun a0=>cnd a0 (optc (UQ fu p1) fun a1=>cnd a1 (cd (p0<p1) sT sF) sT) (cd (p0<p1) sT sF)
theorem Qak:FO 121 (sB [nI,nI] fun x=>WZ fu x.1 x.2.1):=fI fu .go kz0 (eC (Qg8 fu) eN) Tryz.func121
def UF(fu:Nat)(p0:Int):Option Bool:=some (decide (p0≠p0))
theorem Qfd:FO 366 (sB [nI] fun x=>UF fu x.1):=fI fu .go kz0 eN Tryz.func366
def VH(p0:List Int)(p1:Int):Option (Int×Bool):=Qj (X:=((List Int×Int×Int×Int×Int×Unit)×Unit)) (fun L0 ((a1,a2,a3,a4,a5,_),_)=>cd (a4<a5) (natc 1 fun a6=>atc a1 (wrap .i64 (Int.fdiv (IntKind.wrap .u64 (wrap .i64 (a4+a5))) (HPow.hPow 2 (min a6 (Go.IntKind.bits Go.IntKind.u64))))) fun a7=>optc (WZ fu a7 a2) fun a8=>cnd a8 (L0 ((a1,a2,a3,(wrap .i64 ((wrap .i64 (Int.fdiv (IntKind.wrap .u64 (wrap .i64 (a4+a5))) (HPow.hPow 2 (min a6 (Go.IntKind.bits Go.IntKind.u64)))))+1)),a5,()),())) (L0 ((a1,a2,a3,a4,(wrap .i64 (Int.fdiv (IntKind.wrap .u64 (wrap .i64 (a4+a5))) (HPow.hPow 2 (min a6 (Go.IntKind.bits Go.IntKind.u64))))),()),()))) (cd (a4<a3) (atc a1 a4 fun a9=>cd (a9=a2) (some (a4,true)) (atc a1 a4 fun a10=>optc (UF fu a10) fun a11=>cnd a11 (optc (UF fu a2) fun a12=>cnd a12 (some (a4,true)) (some (a4,false))) (some (a4,false)))) (some (a4,false)))) fu ((p0,p1,((p0.length:Nat):Int),0,((p0.length:Nat):Int),()),())
theorem QaN:FO 362 (Qf [lI,nI] [] [nI,.one .boo] [] [] (Int×Bool) kz3 (fun x y=>VH fu x.1 x.2.1)):=fI fu (gs 3 (.two (.one (.loop [(0,lI),ni 1,ni 6,ni 7,ni 8] [] .go)) .go)) kz4 (eC (Qak fu) (eC (Qfd fu) eN)) Tryz.func362
def QaR(p0:D.View)(p1:D.Layer)(p2:Int):Option (Int×Bool):=join (Y:=((Int×Unit)×D.View×D.Layer×Unit)) (fun((a0,_),a1,a2,_)=>atc a1.tables a2.Zone fun a3=>optc (VA fu a3 a2 a0) fun a4=>join (Y:=((Int×Int×Unit)×D.View×D.Layer×Unit)) (fun((a5,a6,_),a7,a8,_)=>cd (a8.Mode=0) (some (a6,true)) (atc a7.Config.Calendars a8.Calendar fun a9=>atc a7.tables a9.Zone fun a10=>optc (ZD fu a10 a5) fun a11=>optc (VH fu a9.Days a11.Day) fun(a12,a13)=>some (a6,(decide (a13=(decide (a8.Mode=2))))))) fun J14=>cd (a4<0) (some (0,false)) (cd (0<((a2.Windows.length:Nat):Int)) (optc (ZD fu a3 a0) fun a15=>optc (XE fu a15) fun a16=>optc (Qcv fu a2.Windows a16) fun a17=>cnd a17 (J14 ((a0,a4,()),a1,a2,())) (some (0,false))) (J14 ((a0,a4,()),a1,a2,())))) fun J18=>cd (p2<0) (some (0,false)) (cd (8589934592<p2) (some (0,false)) (J18 ((p2,()),p0,p1,())))
theorem Qih:FO 358 (Qf [.st .View,.st .Layer,nI] [] [nI,.one .boo] [] [] (Int×Bool) kz3 (fun x y=>QaR fu x.1 x.2.1 x.2.2.1)):=fI fu (.two .go (.two (.join [ni 2,rf 3,rf 4] [bx 1003 .View,bx 1004 .Layer] .go) (gs 2 (.two (.join [ni 2,rf 3,rf 4,ni 9] [bx 1003 .View,bx 1004 .Layer] .go) .go)))) kz4 (eC (Qjo fu) (eC (QcC fu) (eC (WW fu) (eC (Qhj fu) (eC (QaN fu) eN))))) Tryz.func358
def XG(p0:D.View)(p1:D.Layer)(p2:Int):Option Int:=optc (QaR fu p0 p1 p2) fun(a0,a1)=>cnd (!a1) (some (-1)) (nzc ((p1.Members.length:Nat):Int) (atc p1.Members (Int.tmod a0 ((p1.Members.length:Nat):Int)) fun a2=>some a2))
theorem QeJ:FO 353 (sI [.st .View,.st .Layer,nI] fun x=>XG fu x.1 x.2.1 x.2.2.1):=fI fu .go kz0 (eC (Qih fu) eN) Tryz.func353
def Qbc(fu:Nat)(p0:D.Edit)(p1:Int)(p2:Int):Option Bool:=cd (p0.Kind=0) (cd (p0.A=p1) (cd (p0.From≤p2) (cd (p2<p0.To) (sameC p1 p1 (sameC p2 p2 sT)) (sameC p1 p1 (sameC p2 p2 sF))) (sameC p1 p1 (sameC p2 p2 sF))) (sameC p1 p1 (sameC p2 p2 sF))) (sameC p1 p1 (sameC p2 p2 sF))
theorem Qjf:FO 360 (Qf [.st .Edit,.one (.ref 101),.one (.ref 102)] [bx 101 .int,bx 102 .int] [.one .boo] [] [101,102] Bool kz1 (fun x y=>Qbc fu x.1 y.1 y.2.1)):=fI fu .go kz0 eN Tryz.func360
def Q2(p0:List D.Edit)(c101:Int)(c102:Int):Option Int:=Qj (X:=((List D.Edit×Int×Int×Unit)×(Int×Unit)×(Int×Unit)×Unit)) (fun L0 ((a1,a2,a3,_),(a4,_),(a5,_),_)=>cd (a3<a2) (atc a1 a3 fun a6=>optc (Qbc fu a6 a4 a5) fun a7=>cnd a7 (sameC a4 c101 (sameC a5 c102 (some a3))) (L0 ((a1,a2,(wrap .i64 (a3+1)),()),(a4,()),(a5,()),()))) (sameC a4 c101 (sameC a5 c102 (some (-1))))) fu ((p0,((p0.length:Nat):Int),0,()),(c101,()),(c102,()),())
theorem Wg:FO 363 (Qf [.one (.lst .Edit),.one (.clo 360 [101,102])] [bx 101 .int,bx 102 .int] [nI] [] [101,102] Int kz1 (fun x y=>Q2 fu x.1 y.1 y.2.1)):=fI fu (.two .go (lp [li 0 .Edit,(1,.one (.clo 360 [101,102])),ni 7,ni 8] [(101,.box [kI]),(102,.box [kI])] .go)) kz0 (eC (Qjf fu) eN) Tryz.func363
def Zh(p0:List D.Edit)(c101:Int)(c102:Int):Option Bool:=optc (Q2 fu p0 c101 c102) fun a0=>sameC c101 c101 (sameC c102 c102 (some (decide (0≤a0))))
theorem XK:FO 359 (Qf [.one (.lst .Edit),.one (.clo 360 [101,102])] [bx 101 .int,bx 102 .int] [.one .boo] [] [101,102] Bool kz1 (fun x y=>Zh fu x.1 y.1 y.2.1)):=fI fu .go kz0 (eC (Wg fu) eN) Tryz.func359
def V6(p0:D.Schedule)(p1:Int)(p2:Int):Option Bool:=optc (Zh fu p0.Edits p1 p2) fun a0=>some a0
theorem QlQ:FO 354 (sB [.st .Schedule,nI,nI] fun x=>V6 fu x.1 x.2.1 x.2.2.1):=fI fu .go kz0 (eC (XK fu) eN) Tryz.func354
end
end Go.Proofs.YtadlpefpehjcoaaGreat
/-
  stack.LayerOf: a range over a function (slices.Backward), for schedules of one layer: its contract, by the kit's laws of such ranges.
-/
namespace Go.Proofs.YtadlpefpehjcoaaGreat
open Go Go.RowKit Go.Shelf Go.Proofs AM
attribute [local go_sem] Oper.semAt_some
set_option maxHeartbeats 400000
theorem Qvk(F:Fence)(n:Nat)(h5:F.fn 352)(hro:F.round=none)(a:Option Addr)(len cap:Nat)(w:World):
  CallsIn F n Tryz.prog 352 #[.slice a len cap] w fun e w'=>e=.returned (.func (.func 357) #[] #[.pointer (some ⟨w.heap.size,0,none⟩)])∧w'=w.alloc (.cells #[.slice a len cap] 128):=by
 refine callsIn_of_wp Tryz.func352 rfl h5 ?_ hro
 simp only[Tryz.ntmps352,List.size_toArray,List.length_cons,List.length_nil,Nat.reduceAdd,Nat.reduceSub,Array.replicate_succ,Array.replicate_zero,List.push_toArray,List.append_toArray,List.nil_append,List.cons_append]
 gi_wp2
 go_ret
 exact⟨rfl,rfl⟩
theorem QpK(n:Nat)(hn:1≤n)(Bs b off cap:Nat)(l1 l2 l3 l4 l5 l6 l7 l8 l9 l10:Value)(w:World)(hBs:Bs<w.heap.size)(hb:b<w.heap.size)(hc:w.cell? ⟨Bs,0,none⟩=some (.slice (some ⟨b,off,none⟩) 1 cap))(c1:w.cell? ⟨b,off,none⟩=some l1)(c2:w.cell? ⟨b,off+1,none⟩=some l2)(c3:w.cell? ⟨b,off+2,none⟩=some l3)(c4:w.cell? ⟨b,off+3,none⟩=some l4)(c5:w.cell? ⟨b,off+4,none⟩=some l5)(c6:w.cell? ⟨b,off+5,none⟩=some l6)(c7:w.cell? ⟨b,off+6,none⟩=some l7)(c8:w.cell? ⟨b,off+7,none⟩=some l8)(c9:w.cell? ⟨b,off+8,none⟩=some l9)(c10:w.cell? ⟨b,off+9,none⟩=some l10):
  SeqStopsK Fence.wide n Tryz.prog 357 #[.pointer (some ⟨Bs,0,none⟩)] (fun _:Unit=>#[Value.int .i64 0,.agg #[l1,l2,l3,l4,l5,l6,l7,l8,l9,l10]]) (fun _ _=>True) (fun ys=>ys=[()]) (fun pre=>pre=[()]) 1 w:=by
 intro l J Jx W hW hJ hJx hY h0
 have hc':=(hW.cell (p:=⟨Bs,0,none⟩) hBs).trans hc
 have d1:=(hW.cell (p:=⟨b,off,none⟩) hb).trans c1
 have d2:=(hW.cell (p:=⟨b,off+1,none⟩) hb).trans c2
 have d3:=(hW.cell (p:=⟨b,off+2,none⟩) hb).trans c3
 have d4:=(hW.cell (p:=⟨b,off+3,none⟩) hb).trans c4
 have d5:=(hW.cell (p:=⟨b,off+4,none⟩) hb).trans c5
 have d6:=(hW.cell (p:=⟨b,off+5,none⟩) hb).trans c6
 have d7:=(hW.cell (p:=⟨b,off+6,none⟩) hb).trans c7
 have d8:=(hW.cell (p:=⟨b,off+7,none⟩) hb).trans c8
 have d9:=(hW.cell (p:=⟨b,off+8,none⟩) hb).trans c9
 have d10:=(hW.cell (p:=⟨b,off+9,none⟩) hb).trans c10
 obtain⟨fn,tmps,assign,body,hy,hR⟩:=hY [] () W h0 (by simp)
 dsimp only at hy
 refine callsIn_of_wp Tryz.func357 rfl trivial ?_ rfl
 simp only[Tryz.ntmps357,List.size_toArray,List.length_cons,List.length_nil,Nat.reduceAdd,Nat.reduceSub,Array.replicate_succ,Array.replicate_zero,List.push_toArray,List.append_toArray,List.nil_append,List.cons_append]
 gi_wp2
 gi_loopw [3] (fun i wr=>(i=.int .i64 0∧wr=W)∨(i=.int .i64 (-1)∧J [()] wr)) (fun i _=>(intOf i+1).toNat)
 case atStart=>exact .inl ⟨by simp[wrap64],rfl⟩
 case round=>
  rcases hrel with⟨rfl,rfl⟩|⟨rfl,hJ1⟩
  ·gi_wp2
   refine hR.mono ?_
   rintro e W3 (⟨rfl,hJ3,_⟩|⟨rfl,hJx3⟩)
   ·gi_wp2
    go_roundw
    case rel=>exact .inr ⟨by simp[wrap64],hJ3⟩
    case measure=>simp[intOf,wrap64]
   ·gi_wp2
    refine bodyPost_ret (results_none rfl _ _ _) rfl ?_
    exact⟨⟨_,rfl⟩,.inr ⟨_,rfl,hJx3⟩⟩
  ·gi_wp2
   go_end0
   exact⟨⟨_,rfl⟩,.inl ⟨_,rfl,hJ1⟩⟩
def Blk(W:World)(b:Nat)(cs:Array Value)(t:TypeId):Prop:=W.heap[b]?=some (.cells cs t (0,0))
theorem Blk.new(W:World)(cs:Array Value)(t:TypeId):Blk (W.alloc (.cells cs t)) W.heap.size cs t:=World.alloc_heap_new W _
theorem Blk.lt{W:World}{b:Nat}{cs:Array Value}{t:TypeId}(h:Blk W b cs t):b<W.heap.size:=(Array.getElem?_eq_some_iff.1 h).1
theorem Blk.alloc{W:World}{b:Nat}{cs:Array Value}{t:TypeId}(h:Blk W b cs t)(o:Obj):Blk (W.alloc o) b cs t:=(Below.heap_alloc W o b h.lt).trans h
theorem Blk.cell{W:World}{b:Nat}{cs:Array Value}{t:TypeId}(h:Blk W b cs t){j:Nat}{v:Value}(hj:cs[j]?=some v):W.cell? ⟨b,j,none⟩=some v:=by
 simp[World.cell?,show W.heap[b]?=_ from h,hj]
theorem Blk.frozen{W:World}{b:Nat}{cs:Array Value}{t:TypeId}(h:Blk W b cs t){j:Nat}:W.frozen? ⟨b,j,none⟩=false:=by simp[World.frozen?,show W.heap[b]?=_ from h]
theorem Blk.own{W W':World}{B:Nat}{row:Option Nat}{b:Nat}{cs:Array Value}{t:TypeId}(h:Blk W b cs t)(hg:W.grownBy W' row)(hr:∀r,row=some r→B≤r∧∃o:Obj,W.heap[r]?=some o∧o.isCells=false):Blk W' b cs t:=by
 refine(hg.block b h.lt fun e=>?_).trans h
 obtain⟨_,o,ho,hc⟩:=hr b e.symm
 rw[show W.heap[b]?=_ from h]at ho;cases ho;cases hc
theorem Blk.ext{W W':World}{b:Nat}{cs:Array Value}{t:TypeId}(h:Blk W b cs t)(hx:AM.Ext (fun _=>False) W W'):Blk W' b cs t:=(hx.same b h.lt id).trans h
theorem QkV{w W W':World}{B:Nat}{row:Option Nat}(hB:w.heap.size≤B)(h:AM.Ext (fun _=>False) w W)(hg:W.grownBy W' row)(hr:∀r,row=some r→B≤r∧∃o:Obj,W.heap[r]?=some o∧o.isCells=false):AM.Ext (fun _=>False) w W':=
 ⟨Nat.le_trans h.size hg.size,fun b hb _=>(hg.block b (Nat.lt_of_lt_of_le hb h.size) (fun e=>by have:=(hr b e.symm).1;omega)).trans (h.same b hb id),hg.os.trans h.os,hg.output.trans h.out⟩
theorem Qal{w W:World}(h:AM.Ext (fun _=>False) w W)(o:Obj):AM.Ext (fun _=>False) w (W.alloc o):=
 ⟨Nat.le_trans h.size (by simp),fun b hb _=>(Below.heap_alloc W o b (Nat.lt_of_lt_of_le hb h.size)).trans (h.same b hb id),h.os,h.out⟩
theorem Qfs{a b c:World}(h:AM.Ext (fun _=>False) a b)(k:AM.Ext (fun _=>False) b c):AM.Ext (fun _=>False) a c:=h.trans k fun _ _ e=>e
theorem QiA{W W':World}(h:AM.Ext (fun _=>False) W W')(B:Nat):KeepsFrom B W W':=⟨h.size,fun k o _ hk _=>(h.same k (Array.getElem?_eq_some_iff.1 hk).1 id).trans hk⟩
structure Oth (b:Nat) (W W':World):Prop where
 size:W'.heap.size=W.heap.size
 same:∀k,k≠b→W'.heap[k]?=W.heap[k]?
 os:W'.os=W.os
 out:W'.output=W.output
theorem Oth.refl(b:Nat)(W:World):Oth b W W:=⟨rfl,fun _ _=>rfl,rfl,rfl⟩
theorem Oth.trans{b:Nat}{A B C:World}(h:Oth b A B)(k:Oth b B C):Oth b A C:=⟨k.size.trans h.size,fun i hi=>(k.same i hi).trans (h.same i hi),k.os.trans h.os,k.out.trans h.out⟩
theorem Oth.set(b j:Nat)(v:Value)(W:World):Oth b W (W.setCell ⟨b,j,none⟩ v):=
 ⟨by simp[World.setCell],fun k hk=>by simp[World.setCell,Array.getElem?_modify,Ne.symm hk],rfl,rfl⟩
theorem Oth.blk{b:Nat}{W W':World}(h:Oth b W W'){k:Nat}{cs:Array Value}{t:TypeId}(hk:k≠b)(hb:Blk W k cs t):Blk W' k cs t:=(h.same k hk).trans hb
theorem Blk.set{W:World}{b:Nat}{cs:Array Value}{t:TypeId}(h:Blk W b cs t)(j:Nat)(v:Value):Blk (W.setCell ⟨b,j,none⟩ v) b (cs.setIfInBounds j v) t:=by
 have:b<W.heap.size:=h.lt
 unfold Blk at h ⊢
 simp only[World.setCell,Array.getElem?_modify,h,if_true]
 rfl
theorem Blk.store{P:Program}{W:World}{b:Nat}{cs:Array Value}{t:TypeId}(h:Blk W b cs t){j:Nat}(hj:j<cs.size){v:Value}(hv:v.oneCell'=true):(store ⟨b,j,none⟩ v).run P W=.ok () (W.setCell ⟨b,j,none⟩ v):=by
 rw[run_store P W _ v _ hv]
 have h1:=h.cell (j:=j) (v:=cs[j]) (by simp[hj])
 simp[stored,h1,h.frozen]
theorem Qip{w W W':World}{b:Nat}(hB:w.heap.size≤b)(h:AM.Ext (fun _=>False) w W)(k:Oth b W W'):AM.Ext (fun _=>False) w W':=
 ⟨by rw[k.size];exact h.size,fun i hi _=>(k.same i (by omega)).trans (h.same i hi id),k.os.trans h.os,k.out.trans h.out⟩
theorem QrO{W W':World}{o:Obj}(B:Nat)(k:Oth W.heap.size (W.alloc o) W'):KeepsFrom B W W':=
 ⟨by rw[k.size];simp,fun i x _ hi _=>by
  have hl:=(Array.getElem?_eq_some_iff.1 hi).1
  exact(k.same i (by omega)).trans ((Below.heap_alloc W o i hl).trans hi)⟩
theorem store1{P:Program}{A0 W:World}{b:Nat}{cs cs':Array Value}{t:TypeId}(h:Blk W b cs t)(ho:Oth b A0 W){j:Nat}{v:Value}(hj:j<cs.size)(hc:cs.setIfInBounds j v=cs')(hv:v.oneCell'=true):
  ∃W',(store ⟨b,j,none⟩ v).run P W=.ok () W'∧Oth b A0 W'∧Blk W' b cs' t:=⟨_,h.store hj hv,ho.trans (Oth.set b j v W),hc ▸ h.set j v⟩
theorem store10(P:Program)(W:World)(l1 l2 l3 l4 l5 l6 l7 l8 l9 l10:Value)(o1:l1.oneCell'=true)(o2:l2.oneCell'=true)(o3:l3.oneCell'=true)(o4:l4.oneCell'=true)(o5:l5.oneCell'=true)(o6:l6.oneCell'=true)(o7:l7.oneCell'=true)(o8:l8.oneCell'=true)(o9:l9.oneCell'=true)(o10:l10.oneCell'=true):
  ∃W3,((Sem.run P (store ⟨W.heap.size,0,none⟩ l1) (W.alloc (.cells #[.string { data:=#[] },.int .i64 0,.int .i64 0,.int .i64 0,.int .i64 0,.int .i64 0,.slice none 0 0,.slice none 0 0,.int .i64 0,.int .i64 0] 127))).andThen fun a w'=>(Sem.run P (store ⟨W.heap.size,1,none⟩ l2) w').andThen fun a w'=>(Sem.run P (store ⟨W.heap.size,2,none⟩ l3) w').andThen fun a w'=>(Sem.run P (store ⟨W.heap.size,3,none⟩ l4) w').andThen fun a w'=>(Sem.run P (store ⟨W.heap.size,4,none⟩ l5) w').andThen fun a w'=>(Sem.run P (store ⟨W.heap.size,5,none⟩ l6) w').andThen fun a w'=>(Sem.run P (store ⟨W.heap.size,6,none⟩ l7) w').andThen fun a w'=>(Sem.run P (store ⟨W.heap.size,7,none⟩ l8) w').andThen fun a w'=>(Sem.run P (store ⟨W.heap.size,8,none⟩ l9) w').andThen fun a w'=>(Sem.run P (store ⟨W.heap.size,9,none⟩ l10) w'))=.ok () W3∧Oth W.heap.size (W.alloc (.cells #[.string { data:=#[] },.int .i64 0,.int .i64 0,.int .i64 0,.int .i64 0,.int .i64 0,.slice none 0 0,.slice none 0 0,.int .i64 0,.int .i64 0] 127)) W3∧Blk W3 W.heap.size #[l1,l2,l3,l4,l5,l6,l7,l8,l9,l10] 127:=by
 have q0:=Blk.new W #[.string { data:=#[] },.int .i64 0,.int .i64 0,.int .i64 0,.int .i64 0,.int .i64 0,.slice none 0 0,.slice none 0 0,.int .i64 0,.int .i64 0] 127
 have t0:=Oth.refl W.heap.size (W.alloc (.cells #[.string { data:=#[] },.int .i64 0,.int .i64 0,.int .i64 0,.int .i64 0,.int .i64 0,.slice none 0 0,.slice none 0 0,.int .i64 0,.int .i64 0] 127))
 obtain⟨A1,r1,t1,q1⟩:=store1 (P:=P) (cs':=#[l1,.int .i64 0,.int .i64 0,.int .i64 0,.int .i64 0,.int .i64 0,.slice none 0 0,.slice none 0 0,.int .i64 0,.int .i64 0]) q0 t0 (j:=0) (v:=l1) (by simp) rfl o1
 rw[r1,Result.andThen]
 obtain⟨A2,r2,t2,q2⟩:=store1 (P:=P) (cs':=#[l1,l2,.int .i64 0,.int .i64 0,.int .i64 0,.int .i64 0,.slice none 0 0,.slice none 0 0,.int .i64 0,.int .i64 0]) q1 t1 (j:=1) (v:=l2) (by simp) rfl o2
 rw[r2,Result.andThen]
 obtain⟨A3,r3,t3,q3⟩:=store1 (P:=P) (cs':=#[l1,l2,l3,.int .i64 0,.int .i64 0,.int .i64 0,.slice none 0 0,.slice none 0 0,.int .i64 0,.int .i64 0]) q2 t2 (j:=2) (v:=l3) (by simp) rfl o3
 rw[r3,Result.andThen]
 obtain⟨A4,r4,t4,q4⟩:=store1 (P:=P) (cs':=#[l1,l2,l3,l4,.int .i64 0,.int .i64 0,.slice none 0 0,.slice none 0 0,.int .i64 0,.int .i64 0]) q3 t3 (j:=3) (v:=l4) (by simp) rfl o4
 rw[r4,Result.andThen]
 obtain⟨A5,r5,t5,q5⟩:=store1 (P:=P) (cs':=#[l1,l2,l3,l4,l5,.int .i64 0,.slice none 0 0,.slice none 0 0,.int .i64 0,.int .i64 0]) q4 t4 (j:=4) (v:=l5) (by simp) rfl o5
 rw[r5,Result.andThen]
 obtain⟨A6,r6,t6,q6⟩:=store1 (P:=P) (cs':=#[l1,l2,l3,l4,l5,l6,.slice none 0 0,.slice none 0 0,.int .i64 0,.int .i64 0]) q5 t5 (j:=5) (v:=l6) (by simp) rfl o6
 rw[r6,Result.andThen]
 obtain⟨A7,r7,t7,q7⟩:=store1 (P:=P) (cs':=#[l1,l2,l3,l4,l5,l6,l7,.slice none 0 0,.int .i64 0,.int .i64 0]) q6 t6 (j:=6) (v:=l7) (by simp) rfl o7
 rw[r7,Result.andThen]
 obtain⟨A8,r8,t8,q8⟩:=store1 (P:=P) (cs':=#[l1,l2,l3,l4,l5,l6,l7,l8,.int .i64 0,.int .i64 0]) q7 t7 (j:=7) (v:=l8) (by simp) rfl o8
 rw[r8,Result.andThen]
 obtain⟨A9,r9,t9,q9⟩:=store1 (P:=P) (cs':=#[l1,l2,l3,l4,l5,l6,l7,l8,l9,.int .i64 0]) q8 t8 (j:=8) (v:=l9) (by simp) rfl o9
 rw[r9,Result.andThen]
 obtain⟨A10,r10,t10,q10⟩:=store1 (P:=P) (cs':=#[l1,l2,l3,l4,l5,l6,l7,l8,l9,l10]) q9 t9 (j:=9) (v:=l10) (by simp) rfl o10
 rw[r10]
 exact⟨A10,rfl,t10,q10⟩
theorem QwF(n:Nat)(hn:3≤n)(v1 v2 v3 v4 v5 s1 s3:Value)(b off cap:Nat)(t:Int)(l1 l2 l3 l4 l5 l6 l7 l8 l9 l10:Value)(w:World)(hb:b<w.heap.size)(c1:w.cell? ⟨b,off,none⟩=some l1)(c2:w.cell? ⟨b,off+1,none⟩=some l2)(c3:w.cell? ⟨b,off+2,none⟩=some l3)(c4:w.cell? ⟨b,off+3,none⟩=some l4)(c5:w.cell? ⟨b,off+4,none⟩=some l5)(c6:w.cell? ⟨b,off+5,none⟩=some l6)(c7:w.cell? ⟨b,off+6,none⟩=some l7)(c8:w.cell? ⟨b,off+7,none⟩=some l8)(c9:w.cell? ⟨b,off+8,none⟩=some l9)(c10:w.cell? ⟨b,off+9,none⟩=some l10)(o1:l1.oneCell'=true)(o2:l2.oneCell'=true)(o3:l3.oneCell'=true)(o4:l4.oneCell'=true)(o5:l5.oneCell'=true)(o6:l6.oneCell'=true)(o7:l7.oneCell'=true)(o8:l8.oneCell'=true)(o9:l9.oneCell'=true)(o10:l10.oneCell'=true)(p:Int)(hP:∀W,AM.Ext (fun _=>False) w W→Calls Tryz.prog 353 #[.agg #[v1,v2,v3,v4,v5],.agg #[l1,l2,l3,l4,l5,l6,l7,l8,l9,l10],.int .i64 t] W fun e W'=>e=.returned (.int .i64 p)∧AM.Ext (fun _=>False) W W')(aw:Bool)(hA:0≤p→∀W,AM.Ext (fun _=>False) w W→Calls Tryz.prog 354 #[.agg #[s1,.slice (some ⟨b,off,none⟩) 1 cap,s3],.int .i64 p,.int .i64 t] W fun e W'=>e=.returned (.bool aw)∧AM.Ext (fun _=>False) W W'):
  CallsIn Fence.wide n Tryz.prog 347 #[.agg #[v1,v2,v3,v4,v5],.agg #[s1,.slice (some ⟨b,off,none⟩) 1 cap,s3],.int .i64 t] w fun e w'=>
   e=.returned (.tuple #[.int .i64 (if p<0∨aw=true then -1 else 0),.int .i64 (if p<0∨aw=true then -1 else p)])∧AM.Ext (fun _=>False) w w':=by
 have h1:1≤n:=by omega
 refine callsIn_of_wp_marks Tryz.func347 rfl trivial ?_ rfl
 simp only[Tryz.ntmps347,List.size_toArray,List.length_cons,List.length_nil,Nat.reduceAdd,Nat.reduceSub,Array.replicate_succ,Array.replicate_zero,List.push_toArray,List.append_toArray,List.nil_append,List.cons_append]
 gi_wp2
 refine wpIn_wide.2 (wp_scope_straight ((wpIn_wide (n:=n)).1 ?_))
 refine wpIn_seq (wpIn_label ?_)
 show Code.wpIn _ _ _ _ _ _ _
 gi_wp2_with (refine⟨trivial,?_⟩;gi_at_call 352;refine(Qvk Fence.wide (n - 1) trivial rfl _ _ _ _).mono ?_;rintro e w' ⟨rfl,rfl⟩)
 have e0:=Qal (Qal (Qal (Qal (Qal (Qal (AM.Ext.refl (fun _=>False) w) (.cells #[v1,v2,v3,v4,v5] 343)) (.cells #[s1,.slice (some ⟨b,off,none⟩) 1 cap,s3] 131)) (.cells #[.int .i64 t] 3)) (.cells #[.int .i64 0] 3)) (.cells #[.int .i64 0] 3)) (.cells #[.slice (some ⟨b,off,none⟩) 1 cap] 128)
 have b0:=((((((Blk.new w #[v1,v2,v3,v4,v5] 343).alloc (.cells #[s1,.slice (some ⟨b,off,none⟩) 1 cap,s3] 131)).alloc (.cells #[.int .i64 t] 3)).alloc (.cells #[.int .i64 0] 3)).alloc (.cells #[.int .i64 0] 3)).alloc (.cells #[.slice (some ⟨b,off,none⟩) 1 cap] 128))
 have b1:=(((((Blk.new (w.alloc (.cells #[v1,v2,v3,v4,v5] 343)) #[s1,.slice (some ⟨b,off,none⟩) 1 cap,s3] 131).alloc (.cells #[.int .i64 t] 3)).alloc (.cells #[.int .i64 0] 3)).alloc (.cells #[.int .i64 0] 3)).alloc (.cells #[.slice (some ⟨b,off,none⟩) 1 cap] 128))
 have b2:=((((Blk.new ((w.alloc (.cells #[v1,v2,v3,v4,v5] 343)).alloc (.cells #[s1,.slice (some ⟨b,off,none⟩) 1 cap,s3] 131)) #[.int .i64 t] 3).alloc (.cells #[.int .i64 0] 3)).alloc (.cells #[.int .i64 0] 3)).alloc (.cells #[.slice (some ⟨b,off,none⟩) 1 cap] 128))
 have b3:=(((Blk.new (((w.alloc (.cells #[v1,v2,v3,v4,v5] 343)).alloc (.cells #[s1,.slice (some ⟨b,off,none⟩) 1 cap,s3] 131)).alloc (.cells #[.int .i64 t] 3)) #[.int .i64 0] 3).alloc (.cells #[.int .i64 0] 3)).alloc (.cells #[.slice (some ⟨b,off,none⟩) 1 cap] 128))
 have b4:=((Blk.new ((((w.alloc (.cells #[v1,v2,v3,v4,v5] 343)).alloc (.cells #[s1,.slice (some ⟨b,off,none⟩) 1 cap,s3] 131)).alloc (.cells #[.int .i64 t] 3)).alloc (.cells #[.int .i64 0] 3)) #[.int .i64 0] 3).alloc (.cells #[.slice (some ⟨b,off,none⟩) 1 cap] 128))
 have b5:=(Blk.new (((((w.alloc (.cells #[v1,v2,v3,v4,v5] 343)).alloc (.cells #[s1,.slice (some ⟨b,off,none⟩) 1 cap,s3] 131)).alloc (.cells #[.int .i64 t] 3)).alloc (.cells #[.int .i64 0] 3)).alloc (.cells #[.int .i64 0] 3)) #[.slice (some ⟨b,off,none⟩) 1 cap] 128)
 simp only[World.size_alloc]at b1 b2 b3 b4 b5
 have hz:((((((w.alloc (.cells #[v1,v2,v3,v4,v5] 343)).alloc (.cells #[s1,.slice (some ⟨b,off,none⟩) 1 cap,s3] 131)).alloc (.cells #[.int .i64 t] 3)).alloc (.cells #[.int .i64 0] 3)).alloc (.cells #[.int .i64 0] 3)).alloc (.cells #[.slice (some ⟨b,off,none⟩) 1 cap] 128)).heap.size=w.heap.size+6:=by simp
 obtain⟨W0,hW0⟩:∃W0,((((((w.alloc (.cells #[v1,v2,v3,v4,v5] 343)).alloc (.cells #[s1,.slice (some ⟨b,off,none⟩) 1 cap,s3] 131)).alloc (.cells #[.int .i64 t] 3)).alloc (.cells #[.int .i64 0] 3)).alloc (.cells #[.int .i64 0] 3)).alloc (.cells #[.slice (some ⟨b,off,none⟩) 1 cap] 128))=W0:=⟨_,rfl⟩
 rw[hW0]at e0 b0 b1 b2 b3 b4 b5 hz ⊢
 have c0:∀o,W0.cell? ⟨b,o,none⟩=w.cell? ⟨b,o,none⟩:=fun o=>World.cell?_of_block (e0.same b hb id)
 refine wpIn_rangeFunc_ownH rfl h1 (gf:=357) (lb:=#[.pointer (some ⟨w.heap.size+1+1+1+1+1,0,none⟩)]) rfl trivial (enters_of Tryz.func357 (by kernel_rfl) rfl)
  (QpK (n - 1) (by omega) (w.heap.size+1+1+1+1+1) b off cap l1 l2 l3 l4 l5 l6 l7 l8 l9 l10 W0 b5.lt (by omega) (b5.cell rfl) ((c0 _).trans c1) ((c0 _).trans c2) ((c0 _).trans c3) ((c0 _).trans c4) ((c0 _).trans c5) ((c0 _).trans c6) ((c0 _).trans c7) ((c0 _).trans c8) ((c0 _).trans c9) ((c0 _).trans c10)) (fun _ _=>trivial) (fun _ _ _ _ _ _ _ _=>trivial) (Below.refl _ _) (fun _=>rfl)
  (fun pre W=>((Blk W w.heap.size #[v1,v2,v3,v4,v5] 343∧Blk W (w.heap.size+1) #[s1,.slice (some ⟨b,off,none⟩) 1 cap,s3] 131∧Blk W (w.heap.size+1+1) #[.int .i64 t] 3∧Blk W (w.heap.size+1+1+1) #[.int .i64 0] 3∧Blk W (w.heap.size+1+1+1+1) #[.int .i64 0] 3)∧AM.Ext (fun _=>False) w W)∧(pre=[]∨(p<0∨aw=true)))
  (fun c pre W=>c=.ret∧¬(p<0∨aw=true)∧Blk W (w.heap.size+1+1+1) #[.int .i64 0] 3∧Blk W (w.heap.size+1+1+1+1) #[.int .i64 p] 3∧AM.Ext (fun _=>False) w W)
  (fun s A B row hs hg hr=>⟨⟨⟨hs.1.1.1.own hg hr,hs.1.1.2.1.own hg hr,hs.1.1.2.2.1.own hg hr,hs.1.1.2.2.2.1.own hg hr,hs.1.1.2.2.2.2.own hg hr⟩,QkV (by omega) hs.1.2 hg hr⟩,hs.2⟩)
  (fun c s A B row hs hg hr=>⟨hs.1,hs.2.1,hs.2.2.1.own hg hr,hs.2.2.2.1.own hg hr,QkV (by omega) hs.2.2.2.2 hg hr⟩)
  ⟨⟨⟨b0,b1,b2,b3,b4⟩,e0⟩,.inl rfl⟩
  (fun _ a' W=>∃Bx,w.heap.size+1+1+1+1<Bx∧Blk W Bx #[l1,l2,l3,l4,l5,l6,l7,l8,l9,l10] 127∧a'={ tmps:=#[.agg #[v1,v2,v3,v4,v5],.agg #[s1,.slice (some ⟨b,off,none⟩) 1 cap,s3],.int .i64 t,.pointer (some ⟨w.heap.size,0,none⟩),.pointer (some ⟨w.heap.size+1,0,none⟩),.pointer (some ⟨w.heap.size+1+1,0,none⟩),.pointer (some ⟨w.heap.size+1+1+1,0,none⟩),.pointer (some ⟨w.heap.size+1+1+1+1,0,none⟩),.int .i64 0,.pointer (some ⟨Bx,0,none⟩),undef,.pointer (some ⟨w.heap.size+1,1,none⟩),.slice (some ⟨b,off,none⟩) 1 cap,.func (.func 357) #[] #[.pointer (some ⟨w.heap.size+1+1+1+1+1,0,none⟩)],.int .i64 0,.agg #[l1,l2,l3,l4,l5,l6,l7,l8,l9,l10],undef,undef,undef,undef,undef,undef,undef,undef,undef,undef,undef,undef,undef],defers:=[] })
  (fun x a' s A B row hs hg hr=>by obtain⟨Bx,g1,g2,g3⟩:=hs;exact⟨Bx,g1,g2.own hg hr,g3⟩) ?assign ?body ?done ?stop
 case assign=>
  rintro l pre x W K ⟨⟨⟨i0,i1,i2,i3,i4⟩,ie⟩,hp⟩ hK
  gi_wp2
  obtain⟨W3,hW3,tt,q10⟩:=store10 Tryz.prog W l1 l2 l3 l4 l5 l6 l7 l8 l9 l10 o1 o2 o3 o4 o5 o6 o7 o8 o9 o10
  rw[hW3,Result.andThen]
  gi_wp2
  have hi4:=i4.lt
  exact hK _ _ (QrO _ tt) trivial ⟨⟨⟨tt.blk (by omega) (i0.alloc _),tt.blk (by omega) (i1.alloc _),tt.blk (by omega) (i2.alloc _),tt.blk (by omega) (i3.alloc _),tt.blk (by omega) (i4.alloc _)⟩,Qip (by omega) (Qal ie _) tt⟩,hp⟩ ⟨W.heap.size,hi4,q10,rfl⟩
 case body=>
  rintro l pre x a' W hl hlp ⟨⟨⟨i0,i1,i2,i3,i4⟩,ie⟩,hp⟩ ⟨Bx,hBx,bx,rfl⟩ hlen
  have a1:=i0.cell (j:=0) rfl
  have a2:=i0.cell (j:=1) rfl
  have a3:=i0.cell (j:=2) rfl
  have a4:=i0.cell (j:=3) rfl
  have a5:=i0.cell (j:=4) rfl
  have g1:=i1.cell (j:=0) rfl
  have g2:=i1.cell (j:=1) rfl
  have g3:=i1.cell (j:=2) rfl
  have g4:=i2.cell (j:=0) rfl
  have m1:=bx.cell (j:=0) rfl
  have m2:=bx.cell (j:=1) rfl
  have m3:=bx.cell (j:=2) rfl
  have m4:=bx.cell (j:=3) rfl
  have m5:=bx.cell (j:=4) rfl
  have m6:=bx.cell (j:=5) rfl
  have m7:=bx.cell (j:=6) rfl
  have m8:=bx.cell (j:=7) rfl
  have m9:=bx.cell (j:=8) rfl
  have m10:=bx.cell (j:=9) rfl
  have hmx:Tryz.prog.follows .mixedOrders=true:=by kernel_rfl
  gi_wp2
  refine⟨trivial,fun h=>absurd h (by decide),?_⟩
  refine(CallsIn.inRound l (callsIn_wide.2 (hP W ie))).mono ?_
  rintro e W4 ⟨rfl,hx⟩
  have f0:=i0.ext hx
  have f1:=i1.ext hx
  have f2:=i2.ext hx
  have f3:=i3.ext hx
  have f4:=i4.ext hx
  have fe:=Qfs ie hx
  have g1:=f1.cell (j:=0) rfl
  have g2:=f1.cell (j:=1) rfl
  have g3:=f1.cell (j:=2) rfl
  have g4:=f2.cell (j:=0) rfl
  dsimp only
  gi_wp2
  ·exact⟨QiA hx _,trivial,⟨⟨⟨f0,f1,f2,f3,f4⟩,fe⟩,.inr (.inl (by assumption))⟩⟩
  ·refine⟨trivial,fun h=>absurd h (by decide),?_⟩
   have hp0:0≤p:=by assumption
   refine(CallsIn.inRound l (callsIn_wide.2 (hA hp0 W4 fe))).mono ?_
   rintro e W5 ⟨rfl,hy⟩
   have k0:=f0.ext hy
   have k1:=f1.ext hy
   have k2:=f2.ext hy
   have k3:=f3.ext hy
   have k4:=f4.ext hy
   have ke:=Qfs fe hy
   have r1:=k3.cell (j:=0) rfl
   have r2:=k4.cell (j:=0) rfl
   have r3:=k3.frozen (j:=0)
   have r4:=k4.frozen (j:=0)
   dsimp only
   gi_wp2
   ·have hno:¬(p<0∨aw=true):=fun h=>h.elim (fun h=>by omega) (fun h=>by subst h;simp_all)
    refine⟨(QiA (Qfs hx hy) _).trans ⟨by simp[World.setCell],fun i o _ hi hc=>?_⟩,rfl,hno,(Oth.set (w.heap.size+1+1+1+1) 0 (.int .i64 p) _).blk (by omega) (k3.set 0 (.int .i64 0)),((Oth.set (w.heap.size+1+1+1) 0 (.int .i64 0) W5).blk (by omega) k4).set 0 (.int .i64 p),Qip (by omega) (Qip (by omega) ke (Oth.set (w.heap.size+1+1+1) 0 (.int .i64 0) W5)) (Oth.set (w.heap.size+1+1+1+1) 0 (.int .i64 p) _)⟩
    have n3:i≠w.heap.size+1+1+1:=fun e=>by subst e;rw[show W5.heap[w.heap.size+1+1+1]?=_ from k3]at hi;cases hi;cases hc
    have n4:i≠w.heap.size+1+1+1+1:=fun e=>by subst e;rw[show W5.heap[w.heap.size+1+1+1+1]?=_ from k4]at hi;cases hi;cases hc
    exact((Oth.set (w.heap.size+1+1+1+1) 0 (.int .i64 p) _).same i n4).trans (((Oth.set (w.heap.size+1+1+1) 0 (.int .i64 0) W5).same i n3).trans hi)
   ·have hyes:aw=true:=by cases aw<;>simp_all
    exact⟨QiA (Qfs hx hy) _,trivial,⟨⟨⟨k0,k1,k2,k3,k4⟩,ke⟩,.inr (.inr hyes)⟩⟩
 case done=>
  rintro D xs W hD rfl ⟨⟨⟨i0,i1,i2,i3,i4⟩,ie⟩,hp⟩ hKD
  have r1:=i3.cell (j:=0) rfl
  have r2:=i4.cell (j:=0) rfl
  have r3:=i3.frozen (j:=0)
  have r4:=i4.frozen (j:=0)
  gi_wp2
  have hp':p<0∨aw=true:=hp.resolve_left (by simp)
  have m3:Blk ((W.setCell ⟨w.heap.size+1+1+1,0,none⟩ (.int .i64 (-1))).setCell ⟨w.heap.size+1+1+1+1,0,none⟩ (.int .i64 (-1))) (w.heap.size+1+1+1) #[.int .i64 (-1)] 3:=(Oth.set (w.heap.size+1+1+1+1) 0 (.int .i64 (-1)) _).blk (by omega) (i3.set 0 (.int .i64 (-1)))
  have m4:Blk ((W.setCell ⟨w.heap.size+1+1+1,0,none⟩ (.int .i64 (-1))).setCell ⟨w.heap.size+1+1+1+1,0,none⟩ (.int .i64 (-1))) (w.heap.size+1+1+1+1) #[.int .i64 (-1)] 3:=((Oth.set (w.heap.size+1+1+1) 0 (.int .i64 (-1)) W).blk (by omega) i4).set 0 (.int .i64 (-1))
  have me:=Qip (by omega) (Qip (by omega) ie (Oth.set (w.heap.size+1+1+1) 0 (.int .i64 (-1)) W)) (Oth.set (w.heap.size+1+1+1+1) 0 (.int .i64 (-1)) _)
  have hKD':=((Oth.set (w.heap.size+1+1+1+1) 0 (.int .i64 (-1)) (W.setCell ⟨w.heap.size+1+1+1,0,none⟩ (.int .i64 (-1)))).same D (by omega)).trans (((Oth.set (w.heap.size+1+1+1) 0 (.int .i64 (-1)) W).same D (by omega)).trans hKD)
  have u3:=m3.own (grownBy_putObj' _ D (.deferred none)) (B:=W0.heap.size) (fun r e=>by cases e;exact⟨hD,_,hKD',rfl⟩)
  have u4:=m4.own (grownBy_putObj' _ D (.deferred none)) (B:=W0.heap.size) (fun r e=>by cases e;exact⟨hD,_,hKD',rfl⟩)
  have ue:=QkV (B:=W0.heap.size) (by omega) me (grownBy_putObj' _ D (.deferred none)) (fun r e=>by cases e;exact⟨hD,_,hKD',rfl⟩)
  have y3:=u3.cell (j:=0) rfl
  have y4:=u4.cell (j:=0) rfl
  show bodyPostM _ _ _ _ _ Exit.ret _ _
  refine⟨by simp,.inl ⟨_,_,rfl,run_takeDeferred hKD',?_⟩⟩
  refine⟨.tuple #[.int .i64 (-1),.int .i64 (-1)],?_,by rw[if_pos hp',if_pos hp'],ue⟩
  simp[results,Tryz.f347,go_sem,y3,y4]
 case stop=>
  rintro D c pre W hD rfl ⟨rfl,hno,i3,i4,ie⟩ hKD
  gi_wp2
  have m3:=i3
  have m4:=i4
  have me:=ie
  have hKD':=hKD
  have u3:=m3.own (grownBy_putObj' _ D (.deferred none)) (B:=W0.heap.size) (fun r e=>by cases e;exact⟨hD,_,hKD',rfl⟩)
  have u4:=m4.own (grownBy_putObj' _ D (.deferred none)) (B:=W0.heap.size) (fun r e=>by cases e;exact⟨hD,_,hKD',rfl⟩)
  have ue:=QkV (B:=W0.heap.size) (by omega) me (grownBy_putObj' _ D (.deferred none)) (fun r e=>by cases e;exact⟨hD,_,hKD',rfl⟩)
  have y3:=u3.cell (j:=0) rfl
  have y4:=u4.cell (j:=0) rfl
  show bodyPostM _ _ _ _ _ Exit.ret _ _
  refine⟨by simp,.inl ⟨_,_,rfl,run_takeDeferred hKD',?_⟩⟩
  refine⟨.tuple #[.int .i64 0,.int .i64 p],?_,by rw[if_neg hno,if_neg hno],ue⟩
  simp[results,Tryz.f347,go_sem,y3,y4]
theorem QmX{ρ:Name→AM.Loc}{H:Heap}{M:Nat→Prop}{W:World}{x:PV}{xs:List AV}{us:List Value}(h:AV.Rs ρ H M W (.p x::xs) us):∃u us',us=u::us'∧PV.R M W x u∧AV.Rs ρ H M W xs us':=by
 simp only[AV.Rs]at h
 obtain⟨u,us',h1,h2,h3,h4⟩:=h
 simp only[AV.R]at h3
 exact⟨u,us',h1,h3,h4⟩
theorem VR{ρ:Name→AM.Loc}{H:Heap}{M:Nat→Prop}{W:World}{x:PV}{xs:List AV}{u:Value}{us:List Value}(h:PV.R M W x u)(hs:AV.Rs ρ H M W xs us):AV.Rs ρ H M W (.p x::xs) (u::us):=by
 simp only[AV.Rs,AV.R]
 exact⟨u,us,rfl,h.flat,h,hs⟩
theorem Qbg{M:Nat→Prop}{W:World}{b off:Nat}{x:PV}{xs:List PV}(h:PV.Cells M W b off (x::xs)):∃u,W.cell? ⟨b,off,none⟩=some u∧PV.R M W x u∧PV.Cells M W b (off+1) xs:=by
 simp only[PV.Cells]at h
 obtain⟨⟨u,h1,h2⟩,h3⟩:=h
 exact⟨u,h1,h2,h3⟩
noncomputable section
def Y5(fu:Nat)(p0:D.View)(p1:D.Schedule)(p2:Int):Option (Int×Int):=
 match p1.Layers with
 |[l]=>optc (XG fu p0 l p2) fun p=>cnd (decide (p<0)) (some (-1,-1)) (optc (V6 fu p1 p p2) fun a=>cnd a (some (-1,-1)) (some (0,p)))
 |_=>none
def Qjg(fu:Nat):Sig:=Qf [.st .View,.st .Schedule,.one (.num .i64)] [] [.one (.num .i64),.one (.num .i64)] [] [] (Int×Int) (fun q=>((q.1,q.2,()),())) (fun x y=>Y5 fu x.1 x.2.1 x.2.2.1)
theorem Qnw{P:Program}{k:FuncId}{args:List AV}{v:AV}(h:XF P k args [] v []){G w W:World}{ρ:Name→AM.Loc}{M:Nat→Prop}{us:List Value}(hG:AM.Ground G w (fun b=>∃n o,AM.look n ([]:List (Name×AO))=some o∧(ρ n).blk=some b))(hM:∀b,M b→b<w.heap.size)(hx:Ext (fun _=>False) w W)(ha:AV.Ts ρ (Xi []) M W args us):
  Calls P k us.toArray W fun e W'=>∃u,e=.returned u∧(∃ρ' M',v.R ρ' (Xi []) M' W' u)∧Ext (fun _=>False) W W':=by
 refine(h G ρ M W us ⟨hG.laid,Nat.le_trans hG.size hx.size,fun b hb=>(hx.same b (Nat.lt_of_lt_of_le hb hG.size) id).trans (hG.same b hb),hG.out⟩ (fun b hb=>Nat.lt_of_lt_of_le (hM b hb) hx.size) ha (fun n o hn=>by simp[AM.look]at hn) (fun n m o o' b hn=>by simp[AM.look]at hn)).mono ?_
 rintro e W' ⟨u,v',h',ρ',rfl,⟨rfl,rfl⟩,hA⟩
 exact⟨u,rfl,⟨ρ',_,hA.val⟩,hA.ext.weaken fun b _ hb=>by obtain⟨n,o,hn,_⟩:=hb;simp[AM.look]at hn⟩
theorem Qhm(fu:Nat):FnOK Tryz.prog 347 (Qjg fu):=by
 refine⟨fun R x y K r h=>?_,fun x y a b h L0 _=>⟨L0,fun _ _=>rfl,fun n t l v hn=>by change AM.look n []=_ at hn;simp[AM.look]at hn,?_⟩⟩
 ·obtain⟨v,s,t,⟨⟩⟩:=x
  obtain⟨q,hq,h⟩:=Yf h
  change Y5 fu v s t=some q at hq
  refine⟨(q.1,q.2,()),(),?_,h⟩
  show optc (Y5 fu v s t) (fun q=>some ((q.1,q.2,()),()))=_
  rw[hq];rfl
 ·obtain⟨v,s,t,⟨⟩⟩:=x
  obtain⟨q,hq,hab⟩:=Yf h
  change Y5 fu v s t=some q at hq
  have hab':((q.1,q.2,()),())=(a,b):=Option.some.inj hab
  obtain⟨rfl,rfl⟩:=Prod.mk.inj hab'
  unfold Y5 at hq
  split at hq
  case h_2=>simp at hq
  rename_i l hl
  obtain⟨p,hp,hq⟩:=Yf hq
  obtain⟨_,_,_,sP⟩:=(QeJ fu).spec (v,l,t,()) () (p,()) () (by show optc (XG fu v l t) _=_;rw[hp];rfl) L0 (fun n t l v hn=>by change AM.look n []=_ at hn;simp[AM.look]at hn)
  have hA:0≤p→∃aw,V6 fu s p t=some aw∧q=if aw=true then(-1,-1)else(0,p):=fun h0=>by
   rw[Qg9 (by omega)]at hq
   obtain⟨aw,h1,h2⟩:=Yf hq
   refine⟨aw,h1,?_⟩
   cases aw<;>simpa [cnd]using h2.symm
  obtain⟨aw,haw,hqa⟩:∃aw:Bool,(0≤p→V6 fu s p t=some aw)∧q=if p<0∨aw=true then(-1,-1)else(0,p):=by
   by_cases h0:p<0
   ·rw[QcX h0]at hq
    exact⟨true,fun h=>by omega,by rw[if_pos (.inl h0)];exact(Option.some.inj hq).symm⟩
   ·obtain⟨aw,h1,h2⟩:=hA (by omega)
    refine⟨aw,fun _=>h1,?_⟩
    rw[h2]
    cases aw<;>simp[h0]
  intro G ρ M w us hG hM hargs _ _
  change AV.Ts ρ (Xi []) M w [.agg [.p (.sl false 3 (v.Config.Zones.map D.Zone.cells)),.p (.sl false 6 (v.Config.People.map D.Person.cells)),.p (.sl false 3 (v.Config.Calendars.map D.Calendar.cells)),.p (.sl false 3 (v.Config.Schedules.map D.Schedule.cells)),.p (.sl false 2 (v.tables.map D.Table.cells))],.agg [.p (.v (.string s.Name)),.p (.sl false 10 (s.Layers.map D.Layer.cells)),.p (.sl false 5 (s.Edits.map D.Edit.cells))],.p (.v (.int .i64 t))] us at hargs
  simp only[AV.Ts,AV.R]at hargs
  obtain⟨u1,us1,rfl,⟨cs1,rfl,r1⟩,u2,us2,rfl,⟨cs2,rfl,r2⟩,u3,us3,rfl,r3,rfl⟩:=hargs
  have r1':=r1
  have r2':=r2
  obtain⟨v1,w1,e1,x1,r1⟩:=QmX r1
  obtain⟨v2,w2,rfl,x2,r1⟩:=QmX r1
  obtain⟨v3,w3,rfl,x3,r1⟩:=QmX r1
  obtain⟨v4,w4,rfl,x4,r1⟩:=QmX r1
  obtain⟨v5,w5,rfl,x5,r1⟩:=QmX r1
  simp only[AV.Rs]at r1
  subst r1
  obtain⟨s1,z1,e2,y1,r2⟩:=QmX r2
  obtain⟨s2,z2,rfl,y2,r2⟩:=QmX r2
  obtain⟨s3,z3,rfl,y3,r2⟩:=QmX r2
  simp only[AV.Rs]at r2
  subst r2
  have e1':cs1=#[v1,v2,v3,v4,v5]:=by cases cs1;simpa using e1
  have e2':cs2=#[s1,s2,s3]:=by cases cs2;simpa using e2
  subst e1'
  subst e2'
  simp only[PV.R]at r3
  obtain⟨rfl,_⟩:=r3
  rw[hl]at y2
  have y2':=y2
  simp only[PV.R,List.map_cons,List.map_nil,List.length_cons,List.length_nil]at y2
  obtain⟨ad,cap,rfl,hcap,_,hn,hrows⟩:=y2
  cases ad with
  |none=>have:=hn rfl;omega
  |some ad=>
   obtain⟨hsp,hMb,hlt,hrow⟩:=hrows ad rfl (by omega)
   obtain⟨bb,off,sp⟩:=ad
   dsimp only at hsp hMb hlt hrow
   subst hsp
   simp only[PV.Rows]at hrow
   obtain⟨_,hc,_⟩:=hrow
   change PV.Cells M w bb off [.v (.string l.Name),.v (.int .i64 l.Zone),.v (.int .i64 l.Start.Day),.v (.int .i64 l.Start.Second),.v (.int .i64 l.Unit),.v (.int .i64 l.Every),.sl false 1 (l.Members.map D.cInt),.sl false 2 (l.Windows.map D.Window.cells),.v (.int .i64 l.Calendar),.v (.int .i64 l.Mode)]at hc
   obtain⟨l1,c1,m1,hc⟩:=Qbg hc
   obtain⟨l2,c2,m2,hc⟩:=Qbg hc
   obtain⟨l3,c3,m3,hc⟩:=Qbg hc
   obtain⟨l4,c4,m4,hc⟩:=Qbg hc
   obtain⟨l5,c5,m5,hc⟩:=Qbg hc
   obtain⟨l6,c6,m6,hc⟩:=Qbg hc
   obtain⟨l7,c7,m7,hc⟩:=Qbg hc
   obtain⟨l8,c8,m8,hc⟩:=Qbg hc
   obtain⟨l9,c9,m9,hc⟩:=Qbg hc
   obtain⟨l10,c10,m10,hc⟩:=Qbg hc
   have hx0:∀{W:World},Ext (fun _=>False) w W→∀{x:PV} {u:Value},x.R M w u→x.R M W u:=fun hx=>fun h=>PV.R.mono hx (fun _ h=>h.elim) (fun _ _ h=>h) h
   have key:=QwF 3 (by omega) v1 v2 v3 v4 v5 s1 s3 bb off cap t l1 l2 l3 l4 l5 l6 l7 l8 l9 l10 w hlt c1 c2 c3 c4 c5 c6 c7 c8 c9 c10 m1.flat m2.flat m3.flat m4.flat m5.flat m6.flat m7.flat m8.flat m9.flat m10.flat p
    (fun W hx=>(Qnw sP hG hM hx (us:=[.agg #[v1,v2,v3,v4,v5],.agg #[l1,l2,l3,l4,l5,l6,l7,l8,l9,l10],.int .i64 t]) (by
     change AV.Ts ρ (Xi []) M W [.agg [.p (.sl false 3 (v.Config.Zones.map D.Zone.cells)),.p (.sl false 6 (v.Config.People.map D.Person.cells)),.p (.sl false 3 (v.Config.Calendars.map D.Calendar.cells)),.p (.sl false 3 (v.Config.Schedules.map D.Schedule.cells)),.p (.sl false 2 (v.tables.map D.Table.cells))],.agg [.p (.v (.string l.Name)),.p (.v (.int .i64 l.Zone)),.p (.v (.int .i64 l.Start.Day)),.p (.v (.int .i64 l.Start.Second)),.p (.v (.int .i64 l.Unit)),.p (.v (.int .i64 l.Every)),.p (.sl false 1 (l.Members.map D.cInt)),.p (.sl false 2 (l.Windows.map D.Window.cells)),.p (.v (.int .i64 l.Calendar)),.p (.v (.int .i64 l.Mode))],.p (.v (.int .i64 t))] _
     simp only[AV.Ts,AV.R]
     exact⟨_,_,rfl,⟨_,rfl,VR (hx0 hx x1) (VR (hx0 hx x2) (VR (hx0 hx x3) (VR (hx0 hx x4) (VR (hx0 hx x5) (by simp only[AV.Rs])))))⟩,_,_,rfl,⟨_,rfl,VR (hx0 hx m1) (VR (hx0 hx m2) (VR (hx0 hx m3) (VR (hx0 hx m4) (VR (hx0 hx m5) (VR (hx0 hx m6) (VR (hx0 hx m7) (VR (hx0 hx m8) (VR (hx0 hx m9) (VR (hx0 hx m10) (by simp only[AV.Rs]))))))))))⟩,_,_,rfl,by simp only[PV.R];exact⟨trivial,rfl⟩,rfl⟩)).mono (by
      rintro e W' ⟨u,rfl,⟨ρ',M',hu⟩,hx'⟩
      change PV.R M' W' (.v (.int .i64 p)) u at hu
      simp only[PV.R]at hu
      exact⟨by rw[hu.1],hx'⟩))
    aw (fun h0 W hx=>by
     obtain⟨_,_,_,sA⟩:=(QlQ fu).spec (s,p,t,()) () (aw,()) () (by show optc (V6 fu s p t) _=_;rw[haw h0];rfl) L0 (fun n t l v hn=>by change AM.look n []=_ at hn;simp[AM.look]at hn)
     refine(Qnw sA hG hM hx (us:=[.agg #[s1,.slice (some ⟨bb,off,none⟩) 1 cap,s3],.int .i64 p,.int .i64 t]) (by
      change AV.Ts ρ (Xi []) M W [.agg [.p (.v (.string s.Name)),.p (.sl false 10 (s.Layers.map D.Layer.cells)),.p (.sl false 5 (s.Edits.map D.Edit.cells))],.p (.v (.int .i64 p)),.p (.v (.int .i64 t))] _
      simp only[AV.Ts,AV.R]
      exact⟨_,_,rfl,⟨_,rfl,VR (hx0 hx y1) (VR (by rw[hl];exact hx0 hx y2') (VR (hx0 hx y3) (by simp only[AV.Rs])))⟩,_,_,rfl,by simp only[PV.R];exact⟨trivial,rfl⟩,_,_,rfl,by simp only[PV.R];exact⟨trivial,rfl⟩,rfl⟩)).mono ?_
     rintro e W' ⟨u,rfl,⟨ρ',M',hu⟩,hx'⟩
     change PV.R M' W' (.v (.bool aw)) u at hu
     simp only[PV.R]at hu
     exact⟨by rw[hu.1],hx'⟩)
   refine(callsIn_wide.1 key).mono ?_
   rintro e w' ⟨rfl,hx⟩
   refine⟨_,_,[],ρ,rfl,⟨rfl,rfl⟩,?_,fun n o hn=>?_,fun n m o o' b hn=>?_,fun n o b hn=>?_,hx.weaken fun b _ hb=>hb.elim,fun n o hn=>?_⟩
   case refine_2=>change AM.look n []=_ at hn;simp[AM.look]at hn
   case refine_3=>change AM.look n []=_ at hn;simp[AM.look]at hn
   case refine_4=>change AM.look n []=_ at hn;simp[AM.look]at hn
   case refine_5=>change AM.look n []=_ at hn;simp[AM.look]at hn
   show AV.R ρ (Xi []) _ w' (.tup [.p (.v (.int .i64 q.1)),.p (.v (.int .i64 q.2))]) _
   simp only[AV.R,AV.Ts,PV.R]
   refine⟨_,rfl,_,_,rfl,⟨?_,rfl⟩,_,_,rfl,⟨?_,rfl⟩,rfl⟩
   ·rw[hqa];split<;>rfl
   ·rw[hqa];split<;>rfl
end
end Go.Proofs.YtadlpefpehjcoaaGreat
/-
  What functions do, reckoned from their code, and their contracts. Printed by wip/gen/brun.py.
-/
namespace Go.Proofs.YtadlpefpehjcoaaGreat
open Go AM IntKind
noncomputable section
variable (fu:Nat)
def QeQ(fu:Nat)(p0:Int):Option Bool:=cd (97≤p0) (cd (p0≤122) sT sF) sF
theorem Qjy:FO 177 (sB [.one (.num .u8)] fun x=>QeQ fu x.1):=fI fu .go kz0 eN Tryz.func177
def QiD(fu:Nat)(p0:Int):Option Bool:=cd (48≤p0) (cd (p0≤57) sT sF) sF
theorem Qjx:FO 178 (sB [.one (.num .u8)] fun x=>QiD fu x.1):=fI fu .go kz0 eN Tryz.func178
def U8(p0:ByteArray):Option Bool:=join (Y:=((ByteArray×Unit)×Unit)) (fun((a0,_),_)=>Qj (X:=((ByteArray×Int×Int×Unit)×Unit)) (fun L1 ((a2,a3,a4,_),_)=>cd (a4<a3) (join (Y:=((ByteArray×Int×Int×Unit)×Unit)) (fun((a5,a6,a7,_),_)=>L1 ((a5,a6,(wrap .i64 (a7+1)),()),())) fun J8=>natc a4 fun a9=>ltc a9 (ByteArray.size a2) (optc (QeQ fu (((bAt a2 a9):Nat):Int)) fun a10=>cnd a10 (J8 ((a2,a3,a4,()),())) (optc (QiD fu (((bAt a2 a9):Nat):Int)) fun a11=>cnd a11 (J8 ((a2,a3,a4,()),())) (cd ((((bAt a2 a9):Nat):Int)≠95) (cd ((((bAt a2 a9):Nat):Int)≠45) sF (J8 ((a2,a3,a4,()),()))) (J8 ((a2,a3,a4,()),())))))) sT) fu ((a0,(((ByteArray.size a0):Nat):Int),0,()),())) fun J12=>cd (p0=(ByteArray.mk (List.toArray []))) sF (cd (24<(((ByteArray.size p0):Nat):Int)) sF (natc 0 fun a13=>ltc a13 (ByteArray.size p0) (optc (QeQ fu (((bAt p0 a13):Nat):Int)) fun a14=>cnd a14 (J12 ((p0,()),())) sF)))
theorem Qb6:FO 105 (sB [.one .str] fun x=>U8 fu x.1):=fI fu (.two .go (.two (.join [(0,.one .str)] [] .go) (lp [(0,.one .str),ni 19,ni 20] [] (gs 2 (.two (.join [(0,.one .str),ni 19,ni 20] [] .go) .go))))) kz0 (eC (Qjy fu) (eC (Qjx fu) eN)) Tryz.func105
def YZ(p0:ByteArray)(p1:List (ByteArray×Bool)):Option (Int×List (ByteArray×Bool)):=optc (U8 fu p0) fun a0=>cnd (!a0) (some (2,p1)) (cnd (memB p0 p1) (some (4,p1)) (chk (cntB p0 p1) 0 (some (0,(p1++((p0,true)::[]))))))
theorem Wd:FO 167 (Qf [.one .str,.one (.mref 101)] [(101,.sm)] [nI] [(101,.sm)] [] (Int×List (ByteArray×Bool)) kz17 (fun x y=>YZ fu x.1 y.1)):=fI fu .go kz19 (eC (Qb6 fu) eN) Tryz.func167
def Yb(fu:Nat)(p0:Int)(p1:Int):Option Bool:=cd (0≤p0) (cd (p0<p1) sT sF) sF
theorem XI:FO 237 (sB [nI,nI] fun x=>Yb fu x.1 x.2.1):=fI fu .go kz0 eN Tryz.func237
def QbX(p0:List D.Window):Option Int:=cd (14<((p0.length:Nat):Int)) (some 5) (Qj (X:=((List D.Window×List D.Window×Int×Int×Unit)×Unit)) (fun L0 ((a1,a2,a3,a4,_),_)=>cd (a4<a3) (join (Y:=((List D.Window×List D.Window×Int×Int×Unit)×Unit)) (fun((a5,a6,a7,a8,_),_)=>L0 ((a5,a6,a7,(wrap .i64 (a8+1)),()),())) fun J9=>atc a2 a4 fun a10=>cd (a10.From<0) (some 1) (cd (a10.To≤a10.From) (some 1) (cd (604800<a10.To) (some 1) (cd (0<a4) (atc a1 (wrap .i64 (a4 - 1)) fun a11=>cd (a10.From<a11.To) (some 6) (J9 ((a1,a2,a3,a4,()),()))) (J9 ((a1,a2,a3,a4,()),())))))) (some 0)) fu ((p0,p0,((p0.length:Nat):Int),0,()),()))
theorem Qf5:FO 238 (sI [.one (.lst .Window)] fun x=>QbX fu x.1):=fI fu (gs 2 (lp [li 0 .Window,li 8 .Window,ni 9,ni 10] [] (gs 2 (.two (.join [li 0 .Window,li 8 .Window,ni 9,ni 10] [] .go) .go)))) kz0 eN Tryz.func238
def W7(fu:Nat)(p0:Int)(p1:Int)(p2:Int):Option Bool:=cd (p1≤p0) (cd (p0≤p2) sT sF) sF
theorem Qcn:FO 269 (sB [nI,nI,nI] fun x=>W7 fu x.1 x.2.1 x.2.2.1):=fI fu .go kz0 eN Tryz.func269
def U5(p0:Int):Option Bool:=optc (W7 fu p0 0 604800) fun a0=>cnd a0 (nzc 3600 (cd ((Int.tmod p0 3600)=0) sT sF)) sF
theorem Qhl:FO 239 (sB [nI] fun x=>U5 fu x.1):=fI fu .go kz0 (eC (Qcn fu) eN) Tryz.func239
def Xz(p0:D.Config)(p1:D.Person):Option Int:=join (Y:=(Unit×Unit)) (fun(_,_)=>some 0) fun J0=>optc (Yb fu p1.Zone ((p0.Zones.length:Nat):Int)) fun a1=>cnd (!a1) (some 3) (optc (QbX fu p1.Quiet) fun a2=>cd (a2≠0) (some 8) (optc (U5 fu p1.MaxWeek) fun a3=>cnd a3 (optc (U5 fu p1.MinRest) fun a4=>cnd a4 (J0 ((),())) (some 1)) (some 1)))
theorem QcH:FO 168 (sI [.st .Config,.st .Person] fun x=>Xz fu x.1 x.2.1):=fI fu (.two .go (.two (.join [] [] .go) .go)) kz0 (eC (XI fu) (eC (Qf5 fu) (eC (Qhl fu) eN))) Tryz.func168
def Qds(fu:Nat)(p0:D.Zone):Option ByteArray:=some p0.Name
theorem QfW:FO 165 (Qf [.st .Zone] [] [.one .str] [] [] ByteArray kz1 (fun x y=>Qds fu x.1)):=fI fu .go kz0 eN Tryz.func165
def Qbo(fu:Nat)(p0:Int)(p1:Int)(p2:Int):Option Bool:=cd (p1≤p0) (cd (p0≤p2) sT sF) sF
theorem QgL:FO 283 (sB [nI,nI,nI] fun x=>Qbo fu x.1 x.2.1 x.2.2.1):=fI fu .go kz0 eN Tryz.func283
def QnJ(p0:D.YearRule):Option Int:=join (Y:=(Unit×Unit)) (fun(_,_)=>some 0) fun J0=>optc (Qbo fu p0.From 1970 2240) fun a1=>cnd a1 (optc (Qbo fu p0.To p0.From 2240) fun a2=>cnd a2 (optc (Qbo fu p0.Month 1 12) fun a3=>cnd a3 (optc (Qbo fu p0.Week 1 5) fun a4=>cnd a4 (optc (Qbo fu p0.Weekday 0 6) fun a5=>cnd a5 (optc (Qbo fu p0.Second 0 86399) fun a6=>cnd a6 (optc (Qbo fu p0.Offset (-64800) 64800) fun a7=>cnd a7 (J0 ((),())) (some 1)) (some 1)) (some 1)) (some 1)) (some 1)) (some 1)) (some 1)
theorem QnK:FO 297 (sI [.st .YearRule] fun x=>QnJ fu x.1):=fI fu (.two .go (.two (.join [] [] .go) .go)) kz0 (eC (QgL fu) eN) Tryz.func297
def Qj1(fu:Nat)(p0:Int):Option Bool:=nzc 4 (cd ((Int.tmod p0 4)=0) (nzc 100 (cd ((Int.tmod p0 100)≠0) sT (nzc 400 (cd ((Int.tmod p0 400)=0) sT sF)))) sF)
theorem QkL:FO 302 (sB [nI] fun x=>Qj1 fu x.1):=fI fu .go kz0 eN Tryz.func302
def U7(p0:Int)(p1:Int):Option Int:=join (Y:=((Int×Int×Unit)×Unit)) (fun((a0,a1,_),_)=>join (Y:=((Int×Unit)×P12×Unit)) (fun((a2,_),(a3,a4,a5,a6,a7,a8,a9,a10,a11,a12,a13,a14,_),_)=>cd ((wrap .i64 (a2 - 1))=((0:Nat):Int)) (some a3) (cd ((wrap .i64 (a2 - 1))=(((0+1):Nat):Int)) (some a4) (cd ((wrap .i64 (a2 - 1))=((((0+1)+1):Nat):Int)) (some a5) (cd ((wrap .i64 (a2 - 1))=(((((0+1)+1)+1):Nat):Int)) (some a6) (cd ((wrap .i64 (a2 - 1))=((((((0+1)+1)+1)+1):Nat):Int)) (some a7) (cd ((wrap .i64 (a2 - 1))=(((((((0+1)+1)+1)+1)+1):Nat):Int)) (some a8) (cd ((wrap .i64 (a2 - 1))=((((((((0+1)+1)+1)+1)+1)+1):Nat):Int)) (some a9) (cd ((wrap .i64 (a2 - 1))=(((((((((0+1)+1)+1)+1)+1)+1)+1):Nat):Int)) (some a10) (cd ((wrap .i64 (a2 - 1))=((((((((((0+1)+1)+1)+1)+1)+1)+1)+1):Nat):Int)) (some a11) (cd ((wrap .i64 (a2 - 1))=(((((((((((0+1)+1)+1)+1)+1)+1)+1)+1)+1):Nat):Int)) (some a12) (cd ((wrap .i64 (a2 - 1))=((((((((((((0+1)+1)+1)+1)+1)+1)+1)+1)+1)+1):Nat):Int)) (some a13) (cd ((wrap .i64 (a2 - 1))=(((((((((((((0+1)+1)+1)+1)+1)+1)+1)+1)+1)+1)+1):Nat):Int)) (some a14) none)))))))))))) fun J15=>cd (a1=2) (optc (Qj1 fu a0) fun a16=>cnd a16 (some 29) (J15 ((a1,()),(31,28,31,30,31,30,31,31,30,31,30,31,()),()))) (J15 ((a1,()),(31,28,31,30,31,30,31,31,30,31,30,31,()),()))) fun J17=>cd (p1<1) (some 0) (cd (12<p1) (some 0) (J17 ((p0,p1,()),())))
theorem UO:FO 286 (sI [nI,nI] fun x=>U7 fu x.1 x.2.1):=fI fu (.two .go (.two (.join [ni 0,ni 1] [] .go) (.two .go (.two (.join [ni 1,rf 5] [(1005,.box [kI,kI,kI,kI,kI,kI,kI,kI,kI,kI,kI,kI])] .go) .go)))) kz0 (eC (QkL fu) eN) Tryz.func286
def Qh7(p0:D.Date):Option Bool:=cd (1970≤p0.Year) (cd (p0.Year≤2240) (cd (1≤p0.Day) (optc (U7 fu p0.Year p0.Month) fun a0=>cd (p0.Day≤a0) sT sF) sF) sF) sF
theorem Qjv:FO 317 (sB [.st .Date] fun x=>Qh7 fu x.1):=fI fu .go kz0 (eC (UO fu) eN) Tryz.func317
def Qaj(fu:Nat)(p0:Int)(p1:Int):Option Int:=nzc p1 (join (Y:=((Int×Unit)×Unit)) (fun((a0,_),_)=>some a0) fun J1=>nzc p1 (cd ((Int.tmod p0 p1)<0) (J1 (((wrap .i64 ((wrap .i64 (Int.tdiv p0 p1)) - 1)),()),())) (J1 (((wrap .i64 (Int.tdiv p0 p1)),()),()))))
theorem Qeq:FO 301 (sI [nI,nI] fun x=>Qaj fu x.1 x.2.1):=fI fu (gs 2 (.two (.join [ni 5] [] .go) .go)) kz0 eN Tryz.func301
def VX(p0:Int):Option Int:=optc (Qaj fu (wrap .i64 (p0 - 1)) 4) fun a0=>optc (Qaj fu (wrap .i64 (p0 - 1)) 100) fun a1=>optc (Qaj fu (wrap .i64 (p0 - 1)) 400) fun a2=>some (wrap .i64 ((wrap .i64 ((wrap .i64 ((wrap .i64 ((wrap .i64 (365*(wrap .i64 (p0 - 1970))))+a0)) - a1))+a2)) - 477))
theorem Qbh:FO 284 (sI [nI] fun x=>VX fu x.1):=fI fu .go kz0 (eC (Qeq fu) eN) Tryz.func284
def QgR(p0:D.Date):Option Int:=optc (VX fu p0.Year) fun a0=>Qj (X:=((Int×Int×Unit)×D.Date×Unit)) (fun L1 ((a2,a3,_),a4,_)=>cd (a3<a4.Month) (optc (U7 fu a4.Year a3) fun a5=>L1 (((wrap .i64 (a2+a5)),(wrap .i64 (a3+1)),()),a4,())) (some a2)) fu (((wrap .i64 ((wrap .i64 (a0+p0.Day)) - 1)),1,()),p0,())
theorem Qh8:FO 318 (sI [.st .Date] fun x=>QgR fu x.1):=fI fu (gs 2 (lp [rf 1,ni 3,ni 4] [bx 1001 .Date] .go)) kz0 (eC (Qbh fu) (eC (UO fu) eN)) Tryz.func318
def Qmi(p0:Int)(p1:Int)(p2:Int)(p3:Int):Option (Int×Int):=join (Y:=(P4×D.Date×Unit)) (fun((a0,a1,a2,a3,_),a4,_)=>optc (QgR fu a4) fun a5=>optc (UP fu a5) fun a6=>nzc 7 (join (Y:=((Int×Unit)×Unit)) (fun((a7,_),_)=>some (a7,0)) fun J8=>optc (U7 fu a0 a1) fun a9=>cd ((wrap .i64 (a5+a9))≤(wrap .i64 ((wrap .i64 (a5+(Int.tmod (wrap .i64 ((wrap .i64 (a3 - a6))+7)) 7)))+(wrap .i64 (7*(wrap .i64 (a2 - 1))))))) (J8 (((wrap .i64 ((wrap .i64 ((wrap .i64 (a5+(Int.tmod (wrap .i64 ((wrap .i64 (a3 - a6))+7)) 7)))+(wrap .i64 (7*(wrap .i64 (a2 - 1)))))) - 7)),()),())) (J8 (((wrap .i64 ((wrap .i64 (a5+(Int.tmod (wrap .i64 ((wrap .i64 (a3 - a6))+7)) 7)))+(wrap .i64 (7*(wrap .i64 (a2 - 1)))))),()),())))) fun J10=>optc (Qh7 fu (D.Date.mk p0 p1 1)) fun a11=>cnd a11 (cd (p2<1) (some (0,1)) (cd (5<p2) (some (0,1)) (cd (p3<0) (some (0,1)) (cd (6<p3) (some (0,1)) (J10 ((p0,p1,p2,p3,()),(D.Date.mk p0 p1 1),())))))) (some (0,1))
theorem Qmj:FO 298 (Qf [nI,nI,nI,nI] [] [nI,nI] [] [] (Int×Int) kz3 (fun x y=>Qmi fu x.1 x.2.1 x.2.2.1 x.2.2.2.1)):=fI fu (gs 2 (.two (.join [ni 0,ni 1,ni 2,ni 3,rf 10] [bx 1010 .Date] .go) (gs 2 (.two (.join [ni 12] [] .go) .go)))) kz4 (eC (UO fu) (eC (Qjv fu) (eC (Qh8 fu) (eC (Qcw fu) eN)))) Tryz.func298
def Qbe(fu:Nat)(p0:D.occurrence)(p1:D.occurrence):Option Int:=some (wrap .i64 (p0.local_ - p1.local_))
theorem QdG:FO 300 (sI [.st .occurrence,.st .occurrence] fun x=>Qbe fu x.1 x.2.1):=fI fu .go kz0 eN Tryz.func300
def Qv(p0:List D.occurrence)(p1:Int)(p2:Int):Option (List D.occurrence):=Qj (X:=(P3×List D.occurrence×Unit)) (fun L0 ((a1,a2,a3,_),a4,_)=>cd (a3<a2) (join (Y:=(P3×List D.occurrence×Unit)) (fun((a5,a6,a7,_),a8,_)=>L0 ((a5,a6,(wrap .i64 (a7+1)),()),a8,())) fun J9=>Qj (X:=(P4×List D.occurrence×Unit)) (fun L10 ((a11,a12,a13,a14,_),a15,_)=>join (Y:=(P4×List D.occurrence×Unit)) (fun((a16,a17,a18,a19,_),a20,_)=>natc (wrap .i64 (a19 - 1)) fun a21=>ltc a21 a20.length (optc (GetElem?.getElem? a20 a21) fun a22=>natc a19 fun a23=>ltc a23 a20.length (optc (GetElem?.getElem? a20 a23) fun a24=>natc a19 fun a25=>ltc a25 a20.length (optc (GetElem?.getElem? a20 a25) fun a26=>natc (wrap .i64 (a19 - 1)) fun a27=>ltc a27 (List.length (List.set a20 a25 a22)) (optc (GetElem?.getElem? (List.set a20 a25 a22) a27) fun a28=>L10 ((a16,a17,a18,(wrap .i64 (a19 - 1)),()),(List.set (List.set a20 a25 a22) a27 a24),())))))) fun J29=>cd (a11<a14) (natc a14 fun a30=>ltc a30 a15.length (optc (GetElem?.getElem? a15 a30) fun a31=>natc (wrap .i64 (a14 - 1)) fun a32=>ltc a32 a15.length (optc (GetElem?.getElem? a15 a32) fun a33=>optc (Qbe fu a31 a33) fun a34=>cd (a34<0) (J29 ((a11,a12,a13,a14,()),a15,())) (J9 ((a11,a12,a13,()),a15,()))))) (J9 ((a11,a12,a13,()),a15,()))) fu ((a1,a2,a3,a3,()),a4,())) (some a4)) fu ((p1,p2,(wrap .i64 (p1+1)),()),p0,())
theorem ZM:FO 331 (Qf [.one (.own 101),nI,nI,.one (.fv 300)] [ar 101 .occurrence] [] [(101,.arrs .occurrence)] [] (List D.occurrence) kz8 (fun x y=>Qv fu y.1 x.1 x.2.1)):=fI fu (.two .go (.one (.loop [(0,.one (.own 101)),ni 1,ni 2,(3,.one (.fv 300)),ni 8] [ar 101 .occurrence] (.two .go (.two (.join [(0,.one (.own 101)),ni 1,ni 2,(3,.one (.fv 300)),ni 8] [ar 101 .occurrence] (.one (.two .go (.one (.loop [(0,.one (.own 101)),ni 1,ni 2,(3,.one (.fv 300)),ni 8,ni 9] [ar 101 .occurrence] (.two (.join [(0,.one (.own 101)),ni 1,ni 2,(3,.one (.fv 300)),ni 8,ni 9] [ar 101 .occurrence] .go) .go)))))) .go))))) kz12 (eC (QdG fu) eN) Tryz.func331
def Za(p0:List D.occurrence)(p1:Int):Option (List D.occurrence):=Qj (X:=(P4×List D.occurrence×Unit)) (fun L0 ((a1,a2,a3,a4,_),a5,_)=>cd (a4≤a1) (optc (Qv fu a5 a3 a4) fun a6=>chk a6.length a5.length (L0 ((a1,a2,a4,(wrap .i64 (a4+a2)),()),a6,()))) (optc (Qv fu a5 a3 a1) fun a7=>chk a7.length a5.length (Qj (X:=((Int×Int×Unit)×List D.occurrence×Unit)) (fun L8 ((a9,a10,_),a11,_)=>cd (a10<a9) (Qj (X:=(P4×List D.occurrence×Unit)) (fun L12 ((a13,a14,a15,a16,_),a17,_)=>cd (a16≤a13) none (cd ((wrap .i64 (a15+a14))<a13) none (L8 ((a13,(wrap .i64 (a14*2)),()),a17,())))) fu ((a9,a10,0,(wrap .i64 (2*a10)),()),a11,())) (some a11)) fu ((a1,a2,()),a7,())))) fu ((p1,20,0,20,()),p0,())
theorem Yj:FO 320 (Qf [.one (.own 101),nI,.one (.fv 300)] [ar 101 .occurrence] [] [(101,.arrs .occurrence)] [] (List D.occurrence) kz8 (fun x y=>Za fu y.1 x.1)):=fI fu (gs 2 (.two (.one (.loop [(0,.one (.own 101)),ni 1,(2,.one (.fv 300)),ni 6,ni 7,ni 8] [ar 101 .occurrence] .go)) (.two .go (.one (.loop [(0,.one (.own 101)),ni 1,(2,.one (.fv 300)),ni 6] [ar 101 .occurrence] (.two .go (.one (.two .go (.two (.one (.loop [(0,.one (.own 101)),ni 1,(2,.one (.fv 300)),ni 6,ni 7,ni 8] [ar 101 .occurrence] .go)) .go))))))))) kz12 (eC (ZM fu) eN) Tryz.func320
def Q5(p0:List D.occurrence):Option (List D.occurrence):=optc (Za fu p0 ((p0.length:Nat):Int)) fun a0=>chk a0.length p0.length (some a0)
theorem Yc:FO 299 (Qf [.one (.own 101),.one (.fv 300)] [ar 101 .occurrence] [] [(101,.arrs .occurrence)] [] (List D.occurrence) kz8 (fun x y=>Q5 fu y.1)):=fI fu .go kz12 (eC (Yj fu) eN) Tryz.func299
def QcD(p0:D.Zone):Option (List D.occurrence×Int):=optc (Qbo fu p0.Offset (-64800) 64800) fun a0=>cnd (!a0) (some ([],1)) (cd (16<((p0.Rules.length:Nat):Int)) (some ([],5)) (Qj (X:=((Int×List D.YearRule×Int×Int×Unit)×D.Zone×Unit)) (fun L1 ((a2,a3,a4,a5,_),a6,_)=>cd (a5<a4) (atc a3 a5 fun a7=>optc (QnJ fu a7) fun a8=>cd (a8≠0) (some ([],a8)) (L1 (((wrap .i64 (a2+(wrap .i64 ((wrap .i64 (a7.To - a7.From))+1)))),a3,a4,(wrap .i64 (a5+1)),()),a6,()))) (cd (640<a2) (some ([],5)) (Qj (X:=((List D.YearRule×Int×Int×Unit)×List D.occurrence×Unit)) (fun L9 ((a10,a11,a12,_),a13,_)=>cd (a12<a11) (atc a10 a12 fun a14=>Qj (X:=((Int×List D.YearRule×Int×Int×Unit)×D.YearRule×List D.occurrence×Unit)) (fun L15 ((a16,a17,a18,a19,_),a20,a21,_)=>cd (a16≤a20.To) (optc (Qmi fu a16 a20.Month a20.Week a20.Weekday) fun(a22,a23)=>lec (a21.length+(List.length ((D.occurrence.mk (wrap .i64 ((wrap .i64 (a22*86400))+a20.Second)) a20.Offset)::[]))) 34359738368 (L15 (((wrap .i64 (a16+1)),a17,a18,a19,()),a20,(a21++((D.occurrence.mk (wrap .i64 ((wrap .i64 (a22*86400))+a20.Second)) a20.Offset)::[])),()))) (L9 ((a17,a18,(wrap .i64 (a19+1)),()),a21,()))) fu ((a14.From,a10,a11,a12,()),a14,a13,())) (optc (Q5 fu a13) fun a24=>chk a24.length a13.length (some (a24,0)))) fu ((a6.Rules,((a6.Rules.length:Nat):Int),0,()),[],())))) fu ((0,p0.Rules,((p0.Rules.length:Nat):Int),0,()),p0,())))
theorem Qfj:FO 282 (Qf [.st .Zone] [] [.one (.lst .occurrence),nI] [] [] (List D.occurrence×Int) kz3 (fun x y=>QcD fu x.1)):=fI fu (gs 4 (.two (.two .go (.one (.loop [rf 1,ni 4,li 23 .YearRule,ni 24,ni 25] [bx 1001 .Zone] .go))) (gs 2 (lp [(8,.one (.own 1081)),li 46 .YearRule,ni 47,ni 48] [ar 1081 .occurrence] (gs 2 (.two (.one (gs 2 (.one (.loop [(8,.one (.own 1081)),rf 10,ni 11,li 46 .YearRule,ni 47,ni 48] [bx 1010 .YearRule,ar 1081 .occurrence] .go)))) .go)))))) kz4 (eC (QgL fu) (eC (QnK fu) (eC (Qmj fu) (eC (Yc fu) eN)))) Tryz.func282
def UG(p0:D.Zone):Option (List D.Transition×Int):=optc (QcD fu p0) fun(a0,a1)=>cd (a1≠0) (some ([],a1)) (Qj (X:=((Int×List D.occurrence×Int×Int×Unit)×List D.Transition×Unit)) (fun L2 ((a3,a4,a5,a6,_),a7,_)=>cd (a6<a5) (join (Y:=((Int×List D.occurrence×Int×Int×Unit)×List D.Transition×Unit)) (fun((a8,a9,a10,a11,_),a12,_)=>L2 ((a8,a9,a10,(wrap .i64 (a11+1)),()),a12,())) fun J13=>atc a4 a6 fun a14=>cd (a14.offset=a3) (J13 ((a3,a4,a5,a6,()),a7,())) (join (Y:=((Int×List D.occurrence×Int×Int×Unit)×D.occurrence×List D.Transition×Unit)) (fun((a15,a16,a17,a18,_),a19,a20,_)=>lec (a20.length+(List.length ((D.Transition.mk a15 a19.offset)::[]))) 34359738368 (J13 ((a19.offset,a16,a17,a18,()),(a20++((D.Transition.mk a15 a19.offset)::[])),()))) fun J21=>cd (86400≤(wrap .i64 (a14.offset - a3))) (some ([],6)) (cd ((wrap .i64 (a14.offset - a3))≤(-86400)) (some ([],6)) (optc (Qbo fu (wrap .i64 (a14.local_ - a3)) 0 8589934592) fun a22=>cnd a22 (cd (0<((a7.length:Nat):Int)) (natc (wrap .i64 (((a7.length:Nat):Int) - 1)) fun a23=>ltc a23 a7.length (optc (GetElem?.getElem? a7 a23) fun a24=>cd ((wrap .i64 (a14.local_ - a3))<(wrap .i64 (a24.At+604800))) (some ([],6)) (J21 (((wrap .i64 (a14.local_ - a3)),a4,a5,a6,()),a14,a7,())))) (J21 (((wrap .i64 (a14.local_ - a3)),a4,a5,a6,()),a14,a7,()))) (some ([],6)))))) (some (a7,0))) fu ((p0.Offset,a0,((a0.length:Nat):Int),0,()),[],()))
theorem QaE:FO 267 (Qf [.st .Zone] [] [.one (.lst .Transition),nI] [] [] (List D.Transition×Int) kz3 (fun x y=>UG fu x.1)):=fI fu (gs 5 (lp [(6,.one (.own 1074)),ni 7,li 22 .occurrence,ni 23,ni 24] [ar 1074 .Transition] (gs 2 (.two (.join [(6,.one (.own 1074)),ni 7,li 22 .occurrence,ni 23,ni 24] [ar 1074 .Transition] (.one (gs 3 (.two (.join [(6,.one (.own 1074)),rf 9,ni 10,li 22 .occurrence,ni 23,ni 24] [bx 1009 .occurrence,ar 1074 .Transition] .go) .go)))) .go)))) kz4 (eC (Qfj fu) (eC (QgL fu) eN)) Tryz.func267
def Qkx(p0:D.Zone):Option Int:=optc (UG fu p0) fun(a0,a1)=>some a1
theorem QlW:FO 234 (sI [.st .Zone] fun x=>Qkx fu x.1):=fI fu .go kz0 (eC (QaE fu) eN) Tryz.func234
def Qax(fu:Nat)(p0:D.YearRule):Option Bool:=nzc 60 (some (decide ((Int.tmod p0.Offset 60)≠0)))
theorem QcI:FO 236 (sB [.st .YearRule] fun x=>Qax fu x.1):=fI fu .go kz0 eN Tryz.func236
def Zy(p0:List D.YearRule):Option Int:=Qj (X:=((List D.YearRule×Int×Int×Unit)×Unit)) (fun L0 ((a1,a2,a3,_),_)=>cd (a3<a2) (atc a1 a3 fun a4=>optc (Qax fu a4) fun a5=>cnd a5 (some a3) (L0 ((a1,a2,(wrap .i64 (a3+1)),()),()))) (some (-1))) fu ((p0,((p0.length:Nat):Int),0,()),())
theorem YP:FO 268 (sI [.one (.lst .YearRule),.one (.fv 236)] fun x=>Zy fu x.1):=fI fu (.two .go (lp [li 0 .YearRule,(1,.one (.fv 236)),ni 7,ni 8] [] .go)) kz0 (eC (QcI fu) eN) Tryz.func268
def Zl(p0:List D.YearRule):Option Bool:=optc (Zy fu p0) fun a0=>some (decide (0≤a0))
theorem Yy:FO 235 (sB [.one (.lst .YearRule),.one (.fv 236)] fun x=>Zl fu x.1):=fI fu .go kz0 (eC (YP fu) eN) Tryz.func235
def QbO(p0:D.Zone):Option Int:=join (Y:=(Unit×Unit)) (fun(_,_)=>some 0) fun J0=>optc (Qkx fu p0) fun a1=>cd (a1≠0) (some 8) (nzc 60 (cd ((Int.tmod p0.Offset 60)≠0) (some 8) (optc (Zl fu p0.Rules) fun a2=>cnd a2 (some 8) (J0 ((),())))))
theorem Qej:FO 166 (sI [.st .Zone] fun x=>QbO fu x.1):=fI fu (.two .go (.two (.join [] [] .go) .go)) kz0 (eC (QlW fu) (eC (Yy fu) eN)) Tryz.func166
def QC(p0:List D.Zone):Option Int:=Qj (X:=((List D.Zone×Int×Int×Unit)×List ((ByteArray×Bool))×Unit)) (fun L0 ((a1,a2,a3,_),a4,_)=>cd (a3<a2) (atc a1 a3 fun a5=>optc (Qds fu a5) fun a6=>optc (YZ fu a6 a4) fun(a7,a8)=>cd (a7≠0) (some a7) (optc (QbO fu a5) fun a9=>cd (a9≠0) (some a9) (L0 ((a1,a2,(wrap .i64 (a3+1)),()),a8,())))) (some 0)) fu ((p0,((p0.length:Nat):Int),0,()),[],())
theorem Z5:FO 164 (sI [.one (.lst .Zone),.one (.fv 165),.one (.fv 166)] fun x=>QC fu x.1):=fI fu (gs 2 (lp [(1,.one (.fv 165)),(2,.one (.fv 166)),(7,.one (.mref 1012)),li 13 .Zone,ni 14,ni 15] [(1012,.sm)] .go)) kz0 (eC (QfW fu) (eC (Qej fu) (eC (Wd fu) eN))) Tryz.func164
def Qdt(fu:Nat)(p0:D.Calendar):Option ByteArray:=some p0.Name
theorem QfX:FO 170 (Qf [.st .Calendar] [] [.one .str] [] [] ByteArray kz1 (fun x y=>Qdt fu x.1)):=fI fu .go kz0 eN Tryz.func170
def Qj2(p0:Int):Option Int:=optc (Qaj fu p0 366) fun a0=>Qj (X:=((Int×Int×Unit)×Unit)) (fun L1 ((a2,a3,_),_)=>optc (VX fu (wrap .i64 (a3+1))) fun a4=>cd (a4≤a2) (L1 ((a2,(wrap .i64 (a3+1)),()),())) (some a3)) fu ((p0,(wrap .i64 (1970+a0)),()),())
theorem QkM:FO 285 (sI [nI] fun x=>Qj2 fu x.1):=fI fu (gs 2 (.two (.one (.loop [ni 0,ni 3] [] .go)) .go)) kz0 (eC (Qbh fu) (eC (Qeq fu) eN)) Tryz.func285
def QgQ(p0:Int):Option (D.Date×Int):=join (Y:=((Int×Unit)×D.Date×Unit)) (fun((a0,_),a1,_)=>optc (Qj2 fu a0) fun a2=>optc (VX fu a2) fun a3=>Qj (X:=((Int×Unit)×D.Date×D.Date×Unit)) (fun L4 ((a5,_),a6,a7,_)=>optc (U7 fu a7.Year a7.Month) fun a8=>cd (a8≤a5) (optc (U7 fu a7.Year a7.Month) fun a9=>L4 (((wrap .i64 (a5 - a9)),()),a6,(D.Date.mk a7.Year (wrap .i64 (a7.Month+1)) a7.Day),())) (some ((D.Date.mk a7.Year a7.Month (wrap .i64 (a5+1))),0))) fu (((wrap .i64 (a0 - a3)),()),a1,(D.Date.mk a2 1 0),())) fun J10=>optc (VX fu 1970) fun a11=>cd (p0<a11) (some ((D.Date.mk 0 0 0),1)) (optc (VX fu 2241) fun a12=>cd (a12≤p0) (some ((D.Date.mk 0 0 0),1)) (J10 ((p0,()),(D.Date.mk 0 0 0),())))
theorem Qh6:FO 271 (Qf [nI] [] [.st .Date,nI] [] [] (D.Date×Int) kz3 (fun x y=>QgQ fu x.1)):=fI fu (.two .go (.two (.join [ni 0,rf 2] [bx 1002 .Date] .go) (gs 2 (.two (.one (.loop [rf 2,rf 4,ni 5] [bx 1002 .Date,bx 1004 .Date] .go)) .go)))) kz4 (eC (Qbh fu) (eC (QkM fu) (eC (UO fu) eN))) Tryz.func271
def Y7(p0:Int):Option Bool:=optc (QgQ fu p0) fun(a0,a1)=>some (decide (a1=0))
theorem Qbn:FO 242 (sB [nI] fun x=>Y7 fu x.1):=fI fu .go kz0 (eC (Qh6 fu) eN) Tryz.func242
def VD(p0:Int):Option Bool:=optc (Y7 fu p0) fun a0=>some (!a0)
theorem QaK:FO 241 (sB [nI] fun x=>VD fu x.1):=fI fu .go kz0 (eC (Qbn fu) eN) Tryz.func241
def ZF(p0:List Int):Option Int:=Qj (X:=((List Int×Int×Int×Unit)×Unit)) (fun L0 ((a1,a2,a3,_),_)=>cd (a3<a2) (atc a1 a3 fun a4=>optc (VD fu a4) fun a5=>cnd a5 (some a3) (L0 ((a1,a2,(wrap .i64 (a3+1)),()),()))) (some (-1))) fu ((p0,((p0.length:Nat):Int),0,()),())
theorem YS:FO 270 (sI [lI,.one (.fv 241)] fun x=>ZF fu x.1):=fI fu (.two .go (lp [(0,lI),(1,.one (.fv 241)),ni 7,ni 8] [] .go)) kz0 (eC (QaK fu) eN) Tryz.func270
def Zs(p0:List Int):Option Bool:=optc (ZF fu p0) fun a0=>some (decide (0≤a0))
theorem YD:FO 240 (sB [lI,.one (.fv 241)] fun x=>Zs fu x.1):=fI fu .go kz0 (eC (YS fu) eN) Tryz.func240
def Uu(p0:D.Config)(p1:D.Calendar):Option Int:=optc (Yb fu p1.Zone ((p0.Zones.length:Nat):Int)) fun a0=>cnd (!a0) (some 3) (cd (64<((p1.Days.length:Nat):Int)) (some 5) (optc (Zs fu p1.Days) fun a1=>cnd a1 (some 1) (Qj (X:=((Int×Int×Unit)×D.Calendar×Unit)) (fun L2 ((a3,a4,_),a5,_)=>cd (a4<a3) (join (Y:=((Int×Int×Unit)×D.Calendar×Unit)) (fun((a6,a7,_),a8,_)=>L2 ((a6,(wrap .i64 (a7+1)),()),a8,())) fun J9=>cd (0<a4) (atc a5.Days a4 fun a10=>atc a5.Days (wrap .i64 (a4 - 1)) fun a11=>cd (a10≤a11) (some 6) (J9 ((a3,a4,()),a5,()))) (J9 ((a3,a4,()),a5,()))) (some 0)) fu ((((p1.Days.length:Nat):Int),0,()),p1,()))))
theorem QbM:FO 172 (sI [.st .Config,.st .Calendar] fun x=>Uu fu x.1 x.2.1):=fI fu (gs 2 (lp [rf 3,ni 25,ni 26] [bx 1003 .Calendar] (gs 2 (.two (.join [rf 3,ni 25,ni 26] [bx 1003 .Calendar] .go) .go)))) kz0 (eC (XI fu) (eC (YD fu) eN)) Tryz.func172
def Qdu(p0:D.Calendar)(p1:D.Config):Option Int:=optc (Uu fu p1 p0) fun a0=>sameC p1 p1 (some a0)
theorem QfY:FO 171 (Qf [.st .Calendar,.one (.ref 101)] [bx 101 .Config] [nI] [] [101] Int kz1 (fun x y=>Qdu fu x.1 y.1)):=fI fu .go kz0 (eC (QbM fu) eN) Tryz.func171
def Qp(p0:List D.Calendar)(c101:D.Config):Option Int:=Qj (X:=((List D.Calendar×Int×Int×Unit)×D.Config×List ((ByteArray×Bool))×Unit)) (fun L0 ((a1,a2,a3,_),a4,a5,_)=>cd (a3<a2) (atc a1 a3 fun a6=>optc (Qdt fu a6) fun a7=>optc (YZ fu a7 a5) fun(a8,a9)=>cd (a8≠0) (sameC a4 c101 (some a8)) (optc (Qdu fu a6 a4) fun a10=>cd (a10≠0) (sameC a4 c101 (some a10)) (L0 ((a1,a2,(wrap .i64 (a3+1)),()),a4,a9,())))) (sameC a4 c101 (some 0))) fu ((p0,((p0.length:Nat):Int),0,()),c101,[],())
theorem ZY:FO 169 (Qf [.one (.lst .Calendar),.one (.fv 170),.one (.clo 171 [101])] [bx 101 .Config] [nI] [] [101] Int kz1 (fun x y=>Qp fu x.1 y.1)):=fI fu (gs 2 (lp [(1,.one (.fv 170)),(2,.one (.clo 171 [101])),(7,.one (.mref 1012)),li 13 .Calendar,ni 14,ni 15] [bx 101 .Config,(1012,.sm)] .go)) kz0 (eC (Wd fu) (eC (QfX fu) (eC (QfY fu) eN))) Tryz.func169
def VB(fu:Nat)(p0:D.Schedule):Option ByteArray:=some p0.Name
theorem QfZ:FO 174 (Qf [.st .Schedule] [] [.one .str] [] [] ByteArray kz1 (fun x y=>VB fu x.1)):=fI fu .go kz0 eN Tryz.func174
def ZS(fu:Nat)(p0:D.Layer):Option ByteArray:=some p0.Name
theorem QaL:FO 244 (Qf [.st .Layer] [] [.one .str] [] [] ByteArray kz1 (fun x y=>ZS fu x.1)):=fI fu .go kz0 eN Tryz.func244
def Xd(p0:Int)(p1:D.Config):Option Bool:=optc (Yb fu p0 ((p1.People.length:Nat):Int)) fun a0=>sameC p1 p1 (some (!a0))
theorem Qcm:FO 272 (Qf [nI,.one (.ref 101)] [bx 101 .Config] [.one .boo] [] [101] Bool kz1 (fun x y=>Xd fu x.1 y.1)):=fI fu .go kz0 (eC (XI fu) eN) Tryz.func272
def QG(p0:List Int)(c101:D.Config):Option Int:=Qj (X:=((List Int×Int×Int×Unit)×D.Config×Unit)) (fun L0 ((a1,a2,a3,_),a4,_)=>cd (a3<a2) (atc a1 a3 fun a5=>optc (Xd fu a5 a4) fun a6=>cnd a6 (sameC a4 c101 (some a3)) (L0 ((a1,a2,(wrap .i64 (a3+1)),()),a4,()))) (sameC a4 c101 (some (-1)))) fu ((p0,((p0.length:Nat):Int),0,()),c101,())
theorem Xa:FO 270 (Qf [lI,.one (.clo 272 [101])] [bx 101 .Config] [nI] [] [101] Int kz1 (fun x y=>QG fu x.1 y.1)):=fI fu (.two .go (lp [(0,lI),(1,.one (.clo 272 [101])),ni 7,ni 8] [bx 101 .Config] .go)) kz0 (eC (Qcm fu) eN) Tryz.func270
def QB(p0:List Int)(c101:D.Config):Option Bool:=optc (QG fu p0 c101) fun a0=>sameC c101 c101 (some (decide (0≤a0)))
theorem YQ:FO 240 (Qf [lI,.one (.clo 272 [101])] [bx 101 .Config] [.one .boo] [] [101] Bool kz1 (fun x y=>QB fu x.1 y.1)):=fI fu .go kz0 (eC (Xa fu) eN) Tryz.func240
def XY(p0:D.Config)(p1:D.Layer):Option Int:=join (Y:=(Unit×Unit)) (fun(_,_)=>some 0) fun J0=>optc (Yb fu p1.Zone ((p0.Zones.length:Nat):Int)) fun a1=>cnd (!a1) (some 3) (cd (p1.Start.Day<1) (some 1) (optc (Y7 fu p1.Start.Day) fun a2=>cnd a2 (optc (W7 fu p1.Start.Second 0 86399) fun a3=>cnd a3 (optc (W7 fu p1.Unit 0 2) fun a4=>cnd a4 (optc (W7 fu p1.Every 1 400) fun a5=>cnd a5 (cd (((p1.Members.length:Nat):Int)=0) (some 7) (cd (12<((p1.Members.length:Nat):Int)) (some 5) (optc (QB fu p1.Members p0) fun a6=>cnd a6 (some 3) (optc (QbX fu p1.Windows) fun a7=>cd (a7≠0) (some 8) (optc (W7 fu p1.Mode 0 2) fun a8=>cnd (!a8) (some 1) (cd (p1.Mode≠0) (optc (Yb fu p1.Calendar ((p0.Calendars.length:Nat):Int)) fun a9=>cnd a9 (cd (p1.Mode=0) (cd (p1.Calendar≠0) (some 1) (J0 ((),()))) (J0 ((),()))) (some 3)) (cd (p1.Mode=0) (cd (p1.Calendar≠0) (some 1) (J0 ((),()))) (J0 ((),()))))))))) (some 1)) (some 1)) (some 1)) (some 1)))
theorem Qdv:FO 246 (sI [.st .Config,.st .Layer] fun x=>XY fu x.1 x.2.1):=fI fu (.two .go (.two (.join [] [] .go) .go)) kz0 (eC (XI fu) (eC (Qf5 fu) (eC (YQ fu) (eC (Qbn fu) (eC (Qcn fu) eN))))) Tryz.func246
def ZT(p0:D.Layer)(p1:D.Config):Option Int:=optc (XY fu p1 p0) fun a0=>sameC p1 p1 (some a0)
theorem QaM:FO 245 (Qf [.st .Layer,.one (.ref 101)] [bx 101 .Config] [nI] [] [101] Int kz1 (fun x y=>ZT fu x.1 y.1)):=fI fu .go kz0 (eC (Qdv fu) eN) Tryz.func245
def Qk(p0:List D.Layer)(c101:D.Config):Option Int:=Qj (X:=((List D.Layer×Int×Int×Unit)×D.Config×List ((ByteArray×Bool))×Unit)) (fun L0 ((a1,a2,a3,_),a4,a5,_)=>cd (a3<a2) (atc a1 a3 fun a6=>optc (ZS fu a6) fun a7=>optc (YZ fu a7 a5) fun(a8,a9)=>cd (a8≠0) (sameC a4 c101 (some a8)) (optc (ZT fu a6 a4) fun a10=>cd (a10≠0) (sameC a4 c101 (some a10)) (L0 ((a1,a2,(wrap .i64 (a3+1)),()),a4,a9,())))) (sameC a4 c101 (some 0))) fu ((p0,((p0.length:Nat):Int),0,()),c101,[],())
theorem Zj:FO 243 (Qf [.one (.lst .Layer),.one (.fv 244),.one (.clo 245 [101])] [bx 101 .Config] [nI] [] [101] Int kz1 (fun x y=>Qk fu x.1 y.1)):=fI fu (gs 2 (lp [(1,.one (.fv 244)),(2,.one (.clo 245 [101])),(7,.one (.mref 1012)),li 13 .Layer,ni 14,ni 15] [bx 101 .Config,(1012,.sm)] .go)) kz0 (eC (Wd fu) (eC (QaL fu) (eC (QaM fu) eN))) Tryz.func243
def Wo(p0:D.Config)(p1:D.Edit):Option Int:=join (Y:=(Unit×Unit)) (fun(_,_)=>some 0) fun J0=>optc (W7 fu p1.Kind 0 2) fun a1=>cnd (!a1) (some 1) (join (Y:=((Bool×Unit)×D.Edit×Unit)) (fun((a2,_),a3,_)=>cnd a2 (some 3) (cd (a3.Kind≠2) (cd (a3.B≠0) (some 1) (cd (a3.Kind=2) (cd (a3.A=a3.B) (some 4) (cd (a3.From<0) (some 1) (cd (a3.To<0) (some 1) (nzc 86400 (optc (Y7 fu (wrap .i64 (Int.tdiv a3.To 86400))) fun a4=>cnd a4 (cd (a3.To≤a3.From) (some 6) (J0 ((),()))) (some 1)))))) (cd (a3.From<0) (some 1) (cd (a3.To<0) (some 1) (nzc 86400 (optc (Y7 fu (wrap .i64 (Int.tdiv a3.To 86400))) fun a5=>cnd a5 (cd (a3.To≤a3.From) (some 6) (J0 ((),()))) (some 1))))))) (cd (a3.Kind=2) (cd (a3.A=a3.B) (some 4) (cd (a3.From<0) (some 1) (cd (a3.To<0) (some 1) (nzc 86400 (optc (Y7 fu (wrap .i64 (Int.tdiv a3.To 86400))) fun a6=>cnd a6 (cd (a3.To≤a3.From) (some 6) (J0 ((),()))) (some 1)))))) (cd (a3.From<0) (some 1) (cd (a3.To<0) (some 1) (nzc 86400 (optc (Y7 fu (wrap .i64 (Int.tdiv a3.To 86400))) fun a7=>cnd a7 (cd (a3.To≤a3.From) (some 6) (J0 ((),()))) (some 1)))))))) fun J8=>optc (Yb fu p1.A ((p0.People.length:Nat):Int)) fun a9=>cnd a9 (cd (p1.Kind=2) (optc (Yb fu p1.B ((p0.People.length:Nat):Int)) fun a10=>cnd a10 (J8 ((false,()),p1,())) (J8 ((true,()),p1,()))) (J8 ((false,()),p1,()))) (cd (p1.Kind=1) (cd (p1.A=(-1)) (cd (p1.Kind=2) (optc (Yb fu p1.B ((p0.People.length:Nat):Int)) fun a11=>cnd a11 (J8 ((false,()),p1,())) (J8 ((true,()),p1,()))) (J8 ((false,()),p1,()))) (J8 ((true,()),p1,()))) (J8 ((true,()),p1,()))))
theorem Qei:FO 247 (sI [.st .Config,.st .Edit] fun x=>Wo fu x.1 x.2.1):=fI fu (gs 2 (.two (.join [] [] (.one (gs 2 (.two (.join [rf 3,(14,.one .boo)] [bx 1003 .Edit] .go) .go)))) .go)) kz0 (eC (XI fu) (eC (Qbn fu) (eC (Qcn fu) eN))) Tryz.func247
def YY(p0:D.Config)(p1:D.Schedule):Option Int:=join (Y:=(Unit×D.Config×D.Schedule×Unit)) (fun(_,a0,a1,_)=>optc (Qk fu a1.Layers a0) fun a2=>cd (a2≠0) (some a2) (Qj (X:=((List D.Edit×Int×Int×Unit)×D.Config×Unit)) (fun L3 ((a4,a5,a6,_),a7,_)=>cd (a6<a5) (atc a4 a6 fun a8=>optc (Wo fu a7 a8) fun a9=>cd (a9≠0) (some a9) (L3 ((a4,a5,(wrap .i64 (a6+1)),()),a7,()))) (some 0)) fu ((a1.Edits,((a1.Edits.length:Nat):Int),0,()),a0,()))) fun J10=>cd (6<((p1.Layers.length:Nat):Int)) (some 5) (cd (48<((p1.Edits.length:Nat):Int)) (some 5) (J10 ((),p0,p1,())))
theorem QbN:FO 176 (sI [.st .Config,.st .Schedule] fun x=>YY fu x.1 x.2.1):=fI fu (.two .go (.two (.join [rf 2,rf 3] [bx 1002 .Config,bx 1003 .Schedule] .go) (gs 2 (lp [rf 2,li 27 .Edit,ni 28,ni 29] [bx 1002 .Config] .go)))) kz0 (eC (Zj fu) (eC (Qei fu) eN)) Tryz.func176
def VC(p0:D.Schedule)(p1:D.Config):Option Int:=optc (YY fu p1 p0) fun a0=>sameC p1 p1 (some a0)
theorem Qf0:FO 175 (Qf [.st .Schedule,.one (.ref 101)] [bx 101 .Config] [nI] [] [101] Int kz1 (fun x y=>VC fu x.1 y.1)):=fI fu .go kz0 (eC (QbN fu) eN) Tryz.func175
def Qq(p0:List D.Schedule)(c101:D.Config):Option Int:=Qj (X:=((List D.Schedule×Int×Int×Unit)×D.Config×List ((ByteArray×Bool))×Unit)) (fun L0 ((a1,a2,a3,_),a4,a5,_)=>cd (a3<a2) (atc a1 a3 fun a6=>optc (VB fu a6) fun a7=>optc (YZ fu a7 a5) fun(a8,a9)=>cd (a8≠0) (sameC a4 c101 (some a8)) (optc (VC fu a6 a4) fun a10=>cd (a10≠0) (sameC a4 c101 (some a10)) (L0 ((a1,a2,(wrap .i64 (a3+1)),()),a4,a9,())))) (sameC a4 c101 (some 0))) fu ((p0,((p0.length:Nat):Int),0,()),c101,[],())
theorem ZZ:FO 173 (Qf [.one (.lst .Schedule),.one (.fv 174),.one (.clo 175 [101])] [bx 101 .Config] [nI] [] [101] Int kz1 (fun x y=>Qq fu x.1 y.1)):=fI fu (gs 2 (lp [(1,.one (.fv 174)),(2,.one (.clo 175 [101])),(7,.one (.mref 1012)),li 13 .Schedule,ni 14,ni 15] [bx 101 .Config,(1012,.sm)] .go)) kz0 (eC (Wd fu) (eC (QfZ fu) (eC (Qf0 fu) eN))) Tryz.func173
def QX(p0:D.Config):Option Int:=join (Y:=(Unit×D.Config×Unit)) (fun(_,a0,_)=>optc (QC fu a0.Zones) fun a1=>cd (a1≠0) (some a1) (Qj (X:=((List D.Person×Int×Int×Unit)×D.Config×List ((ByteArray×Bool))×Unit)) (fun L2 ((a3,a4,a5,_),a6,a7,_)=>cd (a5<a4) (atc a3 a5 fun a8=>optc (YZ fu a8.Name a7) fun(a9,a10)=>join (Y:=((Int×List D.Person×Int×Int×Unit)×D.Config×D.Person×List ((ByteArray×Bool))×Unit)) (fun((a11,a12,a13,a14,_),a15,a16,a17,_)=>join (Y:=((Int×List D.Person×Int×Int×Unit)×D.Config×List ((ByteArray×Bool))×Unit)) (fun((a18,a19,a20,a21,_),a22,a23,_)=>cd (a18≠0) (some a18) (L2 ((a19,a20,(wrap .i64 (a21+1)),()),a22,a23,()))) fun J24=>cd (a11=0) (optc (Xz fu a15 a16) fun a25=>J24 ((a25,a12,a13,a14,()),a15,a17,())) (J24 ((a11,a12,a13,a14,()),a15,a17,()))) fun J26=>cd (a8.Name=(ByteArray.mk (List.toArray (110::(111::(98::(111::(100::(121::[]))))))))) (J26 ((2,a3,a4,a5,()),a6,a8,a10,())) (J26 ((a9,a3,a4,a5,()),a6,a8,a10,()))) (optc (Qp fu a6.Calendars a6) fun a27=>cd (a27≠0) (some a27) (optc (Qq fu a6.Schedules a6) fun a28=>some a28))) fu ((a0.People,((a0.People.length:Nat):Int),0,()),a0,[],()))) fun J29=>cd (16<((p0.Zones.length:Nat):Int)) (some 5) (cd (32<((p0.People.length:Nat):Int)) (some 5) (cd (8<((p0.Calendars.length:Nat):Int)) (some 5) (cd (12<((p0.Schedules.length:Nat):Int)) (some 5) (J29 ((),p0,())))))
theorem UC:FO 104 (sI [.st .Config] fun x=>QX fu x.1):=fI fu (.two .go (.two (.join [rf 1] [bx 1001 .Config] .go) (gs 2 (lp [rf 1,(4,.one (.mref 1037)),li 39 .Person,ni 40,ni 41] [bx 1001 .Config,(1037,.sm)] (gs 2 (.two (.one (gs 2 (.two (.join [rf 1,(4,.one (.mref 1037)),rf 6,ni 7,li 39 .Person,ni 40,ni 41] [bx 1001 .Config,bx 1006 .Person,(1037,.sm)] .go) (.two (.join [rf 1,(4,.one (.mref 1037)),ni 7,li 39 .Person,ni 40,ni 41] [bx 1001 .Config,(1037,.sm)] .go) .go)))) .go)))))) kz0 (eC (Z5 fu) (eC (Wd fu) (eC (QcH fu) (eC (ZY fu) (eC (ZZ fu) eN))))) Tryz.func104
def WV(fu:Nat)(p0:D.Config)(p1:Int):Option Bool:=cd (0≤p1) (cd (p1<((p0.Schedules.length:Nat):Int)) sT sF) sF
theorem QeB:FO 265 (sB [.st .Config,nI] fun x=>WV fu x.1 x.2.1):=fI fu .go kz0 eN Tryz.func265
def Xn(fu:Nat)(p0:List D.Zone):Option (List D.Zone):=nilC p0 (both (some []) (lec p0.length 34359738368 (some p0))) (lec p0.length 34359738368 (some p0))
theorem UL:FO 213 (Qf [.one (.lst .Zone)] [] [.one (.own 1007)] [ar 1007 .Zone] [] (List D.Zone) kz8 (fun x y=>Xn fu x.1)):=fI fu .go kz12 eN Tryz.func213
def YJ(fu:Nat)(p0:List D.Person):Option (List D.Person):=nilC p0 (both (some []) (lec p0.length 34359738368 (some p0))) (lec p0.length 34359738368 (some p0))
theorem VS:FO 215 (Qf [.one (.lst .Person)] [] [.one (.own 1007)] [ar 1007 .Person] [] (List D.Person) kz8 (fun x y=>YJ fu x.1)):=fI fu .go kz12 eN Tryz.func215
def Wf(fu:Nat)(p0:List D.Calendar):Option (List D.Calendar):=nilC p0 (both (some []) (lec p0.length 34359738368 (some p0))) (lec p0.length 34359738368 (some p0))
theorem W8:FO 217 (Qf [.one (.lst .Calendar)] [] [.one (.own 1007)] [ar 1007 .Calendar] [] (List D.Calendar) kz8 (fun x y=>Wf fu x.1)):=fI fu .go kz12 eN Tryz.func217
def Yh(fu:Nat)(p0:List D.Schedule):Option (List D.Schedule):=nilC p0 (both (some []) (lec p0.length 34359738368 (some p0))) (lec p0.length 34359738368 (some p0))
theorem W9:FO 218 (Qf [.one (.lst .Schedule)] [] [.one (.own 1007)] [ar 1007 .Schedule] [] (List D.Schedule) kz8 (fun x y=>Yh fu x.1)):=fI fu .go kz12 eN Tryz.func218
def Y2(fu:Nat)(p0:List D.YearRule):Option (List D.YearRule):=nilC p0 (both (some []) (lec p0.length 34359738368 (some p0))) (lec p0.length 34359738368 (some p0))
theorem Va:FO 214 (Qf [.one (.lst .YearRule)] [] [.one (.own 1007)] [ar 1007 .YearRule] [] (List D.YearRule) kz8 (fun x y=>Y2 fu x.1)):=fI fu .go kz12 eN Tryz.func214
def Z6(fu:Nat)(p0:List D.Window):Option (List D.Window):=nilC p0 (both (some []) (lec p0.length 34359738368 (some p0))) (lec p0.length 34359738368 (some p0))
theorem XT:FO 216 (Qf [.one (.lst .Window)] [] [.one (.own 1007)] [ar 1007 .Window] [] (List D.Window) kz8 (fun x y=>Z6 fu x.1)):=fI fu .go kz12 eN Tryz.func216
def Y0(fu:Nat)(p0:List D.Layer):Option (List D.Layer):=nilC p0 (both (some []) (lec p0.length 34359738368 (some p0))) (lec p0.length 34359738368 (some p0))
theorem Uv:FO 257 (Qf [.one (.lst .Layer)] [] [.one (.own 1007)] [ar 1007 .Layer] [] (List D.Layer) kz8 (fun x y=>Y0 fu x.1)):=fI fu .go kz12 eN Tryz.func257
def Xm(fu:Nat)(p0:List D.Edit):Option (List D.Edit):=nilC p0 (both (some []) (lec p0.length 34359738368 (some p0))) (lec p0.length 34359738368 (some p0))
theorem UK:FO 221 (Qf [.one (.lst .Edit)] [] [.one (.own 1007)] [ar 1007 .Edit] [] (List D.Edit) kz8 (fun x y=>Xm fu x.1)):=fI fu .go kz12 eN Tryz.func221
def Qx(fu:Nat)(p0:List Int):Option (List Int):=nilC p0 (both (some []) (lec p0.length 34359738368 (some p0))) (lec p0.length 34359738368 (some p0))
theorem Q4:FO 130 (Qf [lI] [] [.one (.own 1007)] [ar 1007 .int] [] (List Int) kz8 (fun x y=>Qx fu x.1)):=fI fu .go kz12 eN Tryz.func130
end
end Go.Proofs.YtadlpefpehjcoaaGreat
/-
  Regions over arrays of which one row stands at the fore: plain operations are reckoned (index, field, load, store, length, sum). No project text.
-/
namespace Go.Proofs.YtadlpefpehjcoaaGreat.AM
open Go
section
variable (P:Program) (rd:List (Nat×AV)) (hs:List (Name×AO))
def QuX(T:TypeId)(x y:Operand):Option Out:=match Vb P T,Ql rd x,Ql rd y with
 |some e,some (.own n len),some (.p (.v (.int _ j)))=>match Zx P e,look n hs with
  |some es,some (.hole es' pre row post)=>if Nat.beq es es' && (Nat.beq len (pre.length+1+post.length) && (Nat.blt j.toNat (pre.length+1+post.length) && decide (j=(j.toNat:Int))))then some ([(n,.hole es' pre row post)],.aref n len j.toNat 0,[],[])else none
  |_,_=>none
 |_,_,_=>none
def xLen(x:Operand)(ats:Array TypeId):Option Out:=match ats[0]?.bind (Vb P),Ql rd x with
 |some _,some (.own n len)=>match look n hs with
  |some (.arr es rows)=>if Nat.beq len rows.length then some ([(n,.arr es rows)],.p (.v (.int .i64 (rows.length:Int))),[],[])else none
  |some (.hole es pre row post)=>if Nat.beq len (pre.length+1+post.length)then some ([(n,.hole es pre row post)],.p (.v (.int .i64 (len:Int))),[],[])else none
  |_=>none
 |_,_=>none
def QwZ(c:Call):Option Out:=match c with
 |{ callee:=.builtin .len,args:=aq,argTypes:=ats,.. }=>match aq.toList with
  |[x]=>xLen P rd hs x ats
  |_=>none
 |_=>none
def QuW(S:TypeId)(x:Operand)(i:Nat):Option Out:=match Ql rd x,UV P S i with
 |some (.aref n len j k),some fo=>match look n hs with
  |some (.hole es pre row post)=>if Nat.beq len (pre.length+1+post.length)then some ([(n,.hole es pre row post)],.aref n len j (k+fo),[],[])else none
  |_=>none
 |_,_=>none
def xNil(x:Operand):Option Out:=match Ql rd x with
 |some (.aref n len j k)=>match look n hs with
  |some (.hole es pre row post)=>if Nat.beq len (pre.length+1+post.length)then some ([(n,.hole es pre row post)],.aref n len j k,[],[])else none
  |_=>none
 |_=>none
def Qw0(T:TypeId)(x:Operand):Option Out:=match Ql rd x with
 |some (.aref n len i k)=>match look n hs with
  |some (.hole es pre row post)=>if QaJ P T && (Nat.beq len (pre.length+1+post.length) && Nat.beq i pre.length)then(row[k]?).map fun c=>([(n,.hole es pre row post)],c,[],[])else none
  |_=>none
 |_=>none
def QuY(d:Option Nat)(T:TypeId)(x y:Operand):Option Out:=match d,Ql rd x,(Ql rd y).bind ZI with
 |none,some (.aref n len i k),some vs=>match look n hs,Zx P T with
  |some (.hole es pre row post),some z=>if Nat.beq len (pre.length+1+post.length) && (Nat.beq i pre.length && (Nat.beq z vs.length && Nat.ble (k+vs.length) row.length))then some ([(n,.hole es pre row post)],.any,[(n,.hole es pre (Qu row k vs) post)],[])else none
  |_,_=>none
 |_,_,_=>none
def xAdd(x y:Operand):Option Out:=match Ql rd x,Ql rd y with
 |some (.p (.v (.int k a))),some (.p (.v (.int k' b)))=>if kEq k k' then some ([],.p (.v (.int k (k.wrap (a+b)))),[],[])else none
 |_,_=>none
def Qu6(o:Oper):Option Out:=match o.op with
 |.indexAddr T x y=>QuX P rd hs T x y
 |.fieldAddr S x i=>QuW P rd hs S x i
 |.nilCheck x=>xNil rd hs x
 |.load T x=>Qw0 P rd hs T x
 |.store T x y=>QuY P rd hs o.dst T x y
 |.binOp .add _ x y _=>xAdd rd x y
 |.call c=>QwZ P rd hs c
 |_=>none
end
section
variable {P:Program} {rd:List (Nat×AV)} {hs:List (Name×AO)} {o:Oper} {e:Out}
theorem Qtc(h:Qu6 P rd hs o=some e):OpOK P o (QaH rd e):=by
 unfold Qu6 at h
 split at h
 ·rename_i T x y ho
  unfold QuX at h
  split at h
  ·rename_i e' n len k j hT hx hy
   split at h
   ·rename_i es es' pre row post hz hh
    split at h
    ·rename_i hc
     simp only[bae,decide_eq_true_eq]at hc
     obtain⟨c1,c2,c3,c4⟩:=hc
     have:=nbe c1;subst this
     cases h
     exact OpOK.indexHole ho hT hz hx c2 hy c4 (by simpa [Nat.blt_eq]using c3)
    ·simp at h
   ·simp at h
  ·simp at h
 ·rename_i S x i ho
  unfold QuW at h
  split at h
  ·rename_i n len j k fo hx hf
   split at h
   ·split at h
    ·rename_i hl;cases h;exact OpOK.fieldElemSh ho hx hf rfl rfl hl
    ·simp at h
   ·simp at h
  ·simp at h
 ·rename_i x ho
  unfold xNil at h
  split at h
  ·rename_i n len j k hx
   split at h
   ·split at h
    ·rename_i hl;cases h;exact OpOK.nilCheckSh ho hx rfl hl
    ·simp at h
   ·simp at h
  ·simp at h
 ·rename_i T x ho
  unfold Qw0 at h
  split at h
  ·rename_i n len i k hx
   split at h
   ·split at h
    ·rename_i hc
     simp only[bae]at hc
     obtain⟨v,hv,rfl⟩:=map_some h
     exact OpOK.loadHole ho hx hc.1 hc.2.1 (nbe hc.2.2) hv
    ·simp at h
   ·simp at h
  ·simp at h
 ·rename_i T x y ho
  unfold QuY at h
  split at h
  ·rename_i n len i k vs hd hx hy
   split at h
   ·rename_i es pre row post z hh hz
    split at h
    ·rename_i hc
     simp only[bae]at hc
     obtain⟨c1,c2,c3,c4⟩:=hc
     cases h
     obtain⟨v,hv,hvs⟩:=Vh hy
     exact OpOK.storeHole hd ho hx hv hvs c1 (nbe c2) (by rw[hz,nbe c3]) c4 rfl
    ·simp at h
   ·simp at h
  ·simp at h
 ·rename_i T x y T' ho
  unfold xAdd at h
  split at h
  ·rename_i k a k' b hx hy
   split at h
   ·rename_i hk
    have:=Qcz hk;subst this
    cases h
    exact OpOK.add ho hx hy rfl
   ·simp at h
  ·simp at h
 ·rename_i c ho
  unfold QwZ at h
  split at h
  ·rename_i aq ats
   split at h
   ·rename_i x has
    have:aq=#[x]:=by cases aq;simp at has;simp[has]
    subst this
    unfold xLen at h
    split at h
    ·rename_i e' n len hT hx
     obtain⟨T,hT1,hT2⟩:=Vh hT
     split at h
     ·split at h
      ·rename_i hl;cases h;exact OpOK.lenOwn ho hT1 hT2 hx hl rfl
      ·simp at h
     ·split at h
      ·rename_i hl;cases h;exact OpOK.lenHole ho hT1 hT2 hx hl rfl
      ·simp at h
     ·simp at h
    ·simp at h
   ·simp at h
  ·simp at h
 ·simp at h
end
def rowX(P:Program)(ops:Array Oper)(i:Nat)(ts:List (Nat×AV))(hs:List (Name×AO)):Option Row:=match rowA P ops i ts hs with
 |some r=>some r
 |none=>match ops[i]? with
  |none=>none
  |some o=>match o.guard with
   |none=>(Qu6 P (rdo ts o.op.operands.toList) hs o).map fun x=>(o.dst,QaH (rdo ts o.op.operands.toList) x)
   |some _=>none
theorem Qwa{P:Program}{ops:Array Oper}{i:Nat}{ts:List (Nat×AV)}{hs:List (Name×AO)}{r:Row}(h:rowX P ops i ts hs=some r):ZE P ops i r.1 r.2:=by
 unfold rowX at h
 split at h
 ·rename_i r' hr;cases h;exact Qv9 hr
 ·split at h
  ·simp at h
  ·rename_i o hi
   split at h
   ·rename_i hg;obtain⟨x,hx,rfl⟩:=map_some h;exact ZE.plain hi hg (Qtc hx)
   ·simp at h
def QlE(P:Program)(ops:Array Oper):Nat→List Item→List (Nat×AV)→List (Name×AO)→Option (List Row)
 |i,[],_,_=>if Nat.beq ops.size i then some []else none
 |i,.m d e::r,ts,hs=>(QlE P ops (i+1) r (putD d e.v ts) (e.upd++hs)).map fun l=>(d,e)::l
 |i,.a::r,ts,hs=>match rowX P ops i ts hs with
  |none=>none
  |some x=>(QlE P ops (i+1) r (putD x.1 x.2.v ts) (x.2.upd++hs)).map fun l=>x::l
theorem QlF{P:Program}{ops:Array Oper}:∀{items:List Item} {i:Nat} {ts:List (Nat×AV)} {hs:List (Name×AO)} {L:List Row},QlE P ops i items ts hs=some L→Man P ops i items→Wu P ops i L
 |[],i,ts,hs,L,h,_=>by
  unfold QlE at h
  split at h
  ·rename_i hb;cases h;exact nbe hb
  ·simp at h
 |.m d e::r,i,ts,hs,L,h,hm=>by
  unfold QlE at h
  obtain⟨l,hl,rfl⟩:=map_some h
  exact⟨hm.1,QlF hl hm.2⟩
 |.a::r,i,ts,hs,L,h,hm=>by
  unfold QlE at h
  split at h
  ·simp at h
  ·rename_i x hx
   obtain⟨l,hl,rfl⟩:=map_some h
   exact⟨Qwa hx,QlF hl hm⟩
def Qbb(P:Program)(ops:Array Oper)(items:List Item)(ts:List (Nat×AV))(hs:List (Name×AO)):List Row:=(QlE P ops 0 items ts hs).getD []
def Qjb(P:Program)(ops:Array Oper)(items:List Item)(ts:List (Nat×AV))(hs:List (Name×AO)):Bool:=(QlE P ops 0 items ts hs).isSome
theorem Qf1{P:Program}{ops:Array Oper}{items:List Item}{ts:List (Nat×AV)}{hs:List (Name×AO)}(h:Qjb P ops items ts hs=true)(hm:Man P ops 0 items):Wu P ops 0 (Qbb P ops items ts hs):=by
 unfold Qjb at h
 unfold Qbb
 cases hr:QlE P ops 0 items ts hs with
 |none=>rw[hr]at h;simp at h
 |some L=>exact QlF hr hm
section
variable {P:Program} {Γ:Ctx} {s:AS} {Q:Exit→AS→Prop}
theorem AWp.xr{id:Nat}{ops:Array Oper}{y:Code}{ts:List (Nat×AV)}{hs:List (Name×AO)}{n:Nat}{names:List Name}(hn:Γ.n=n)(hk:Γ.names=names)(I:List Item)(hm:Man P ops 0 I)(ts':List (Nat×AV))(hs':List (Name×AO))(h:AWp P Γ y (mk ts' hs') Q)(hb:Qjb P ops I ts hs=true:=by kernel_rfl)(hf:QkX n names (Qbb P ops I ts hs) ts hs ts' hs'=QkY (Qbb P ops I ts hs) ts' hs':=by kernel_rfl):
  AWp P Γ (.seq (.region id ops false) y) (mk ts hs) Q:=AWp.s_region hn hk _ (Qf1 hb hm) ts' hs' hf h
theorem AWp.xa{id:Nat}{ops:Array Oper}{y:Code}{ts:List (Nat×AV)}{hs:List (Name×AO)}{n:Nat}{names:List Name}(hn:Γ.n=n)(hk:Γ.names=names)(k:Nat)(ts':List (Nat×AV))(hs':List (Name×AO))(h:AWp P Γ y (mk ts' hs') Q)(hb:Qjb P ops (aa k) ts hs=true:=by kernel_rfl)(hf:QkX n names (Qbb P ops (aa k) ts hs) ts hs ts' hs'=QkY (Qbb P ops (aa k) ts hs) ts' hs':=by kernel_rfl):
  AWp P Γ (.seq (.region id ops false) y) (mk ts hs) Q:=AWp.xr hn hk (aa k) (Man.aa _ _) ts' hs' h hb hf
theorem AWp.xa'{id:Nat}{ops:Array Oper}{ts:List (Nat×AV)}{hs:List (Name×AO)}{n:Nat}{names:List Name}(hn:Γ.n=n)(hk:Γ.names=names)(k:Nat)(ts':List (Nat×AV))(hs':List (Name×AO))(h:Q .normal (mk ts' hs'))(hb:Qjb P ops (aa k) ts hs=true:=by kernel_rfl)(hf:QkX n names (Qbb P ops (aa k) ts hs) ts hs ts' hs'=QkY (Qbb P ops (aa k) ts hs) ts' hs':=by kernel_rfl):
  AWp P Γ (.region id ops false) (mk ts hs) Q:=AWp.region' hn hk _ (Qf1 hb (Man.aa _ _)) ts' hs' hf h
theorem AWp.xd{id:Nat}{ops:Array Oper}{y:Code}{ts:List (Nat×AV)}{hs:List (Name×AO)}{n:Nat}{names:List Name}(hn:Γ.n=n)(hk:Γ.names=names)(I:List Item)(hm:Man P ops 0 I)(ts':List (Nat×AV))(hs':List (Name×AO))(h:AWp P Γ y (mk ts' hs') Q)(hmode:P.follows .mixedOrders=true:=by kernel_rfl)(hb:Qjb P ops I ts hs=true:=by kernel_rfl)(hf:QkX n names (Qbb P ops I ts hs) ts hs ts' hs'=QkY (Qbb P ops I ts hs) ts' hs':=by kernel_rfl)(hind:indep ops (Qbb P ops I ts hs) ts hs=true:=by kernel_rfl):AWp P Γ (.seq (.region id ops true) y) (mk ts hs) Q:=AWp.s_draw hn hk hmode _ (Qf1 hb hm) ts' hs' hf hind h
theorem AWp.xd'{id:Nat}{ops:Array Oper}{ts:List (Nat×AV)}{hs:List (Name×AO)}{n:Nat}{names:List Name}(hn:Γ.n=n)(hk:Γ.names=names)(I:List Item)(hm:Man P ops 0 I)(ts':List (Nat×AV))(hs':List (Name×AO))(h:Q .normal (mk ts' hs'))(hmode:P.follows .mixedOrders=true:=by kernel_rfl)(hb:Qjb P ops I ts hs=true:=by kernel_rfl)(hf:QkX n names (Qbb P ops I ts hs) ts hs ts' hs'=QkY (Qbb P ops I ts hs) ts' hs':=by kernel_rfl)(hind:indep ops (Qbb P ops I ts hs) ts hs=true:=by kernel_rfl):AWp P Γ (.region id ops true) (mk ts hs) Q:=AWp.draw' hn hk hmode _ (Qf1 hb hm) ts' hs' hf hind h
end
theorem AWp.nameH{P:Program}{Γ:Ctx}{c:Code}{Q:Exit→AS→Prop}{n n0:Name}{len:Nat}{ts:List (Nat×AV)}{hs:List (Name×AO)}(m:Name)(j:Nat){es:Nat}{pre post:List (List PV)}{row:List AV}(hn0:n0∉Γ.names)(h0:look n0 hs=none)(hfree:QvC n0 ts hs=true)(hne:n≠n0)(hm:look m hs=some (.hole es pre row post))(hj:row[j]?=some (.own n len))(h:∀x,AWp P Γ c (mk ts ((n0,.fact (.own n len) x)::hs)) Q):AWp P Γ c (mk ts hs) Q:=
 AWp.nameU hn0 h0 (Qty hfree) hne (fun ρ M a w hs0=>by
  obtain⟨k0,k0',k1,b,T,cs,k3,k4,k5,k6,k7,k8,k9⟩:=hs0.objs m _ hm
  obtain⟨u,_,_,hr⟩:=k8.get j _ hj
  exact⟨u,hr⟩) h
theorem Weak.pinH{Γ:Ctx}{n n0 m:Name}{len es es':Nat}{x:Value}{o:AO}{pre post:List (List PV)}{xs ys:List AV}{ts:List (Nat×AV)}{hs:List (Name×AO)}(hmn:m≠n)(hf:look n0 hs=some (.fact (.own n len) x))(ho:look n hs=some o)(hsh:o.shape=some (es,len))(hp:PinL n len x xs ys)(hs':List (Name×AO))(h0:look m hs=some (.hole es' pre xs post))(h1:∀k,look k hs'=if k=m then some (.hole es' pre ys post)else look k hs):Weak Γ (mk ts hs) (mk ts hs'):=fun ρ M a w h=>by
 have hst:QbY ρ (mk ts hs).heap ρ (mk ts hs').heap:=fun k ob hk=>by
  change stays ob (ρ k) (look k hs') (ρ k)
  rw[h1]
  split
  ·rename_i e;subst e
   have hk':look k hs=some ob:=hk
   rw[h0]at hk';cases hk'
   exact Y9 (es:=es') (k:=pre.length+1+post.length) rfl rfl (Zd _ _)
  ·have hk':look k hs=some ob:=hk
   rw[hk'];exact Zd _ _
 have hnn:∀k,(mk ts hs).heap k=none→(mk ts hs').heap k=none:=fun k hk=>by
  change look k hs'=none
  rw[h1]
  split
  ·rename_i e;subst e;change look k hs=none at hk;rw[h0]at hk;cases hk
  ·exact hk
 have hconv:∀{v:AV} {u:Value},v.R ρ (mk ts hs).heap M w u→v.R ρ (mk ts hs').heap M w u:=fun hr=>
  hr.step (Ext.refl (fun _=>False) _) (fun _ hb=>hb.elim) (fun b _ hb=>hb) hst (fun k _=>hnn k)
 have hfact:AV.R ρ (mk ts hs).heap M w (.own n len) x:=(h.objs n0 _ hf).2
 have hx:=hfact
 simp only[AV.R]at hx
 have hxe:=(hx.2 o es len ho hsh).2 rfl
 have hpin:∀us,AV.Rs ρ (mk ts hs).heap M w xs us→AV.Rs ρ (mk ts hs').heap M w ys us:=by
  refine PinL.rec (motive_1:=fun v y _=>∀u,v.R ρ (mk ts hs).heap M w u→y.R ρ (mk ts hs').heap M w u) (motive_2:=fun vs ys _=>∀us,AV.Rs ρ (mk ts hs).heap M w vs us→AV.Rs ρ (mk ts hs').heap M w ys us) ?_ ?_ ?_ ?_ ?_ ?_ hp
  ·exact fun _ u hr=>hconv hr
  ·intro u hr
   simp only[AV.R]at hr
   have hu:=(hr.2 o es len ho hsh).2 rfl
   simp only[AV.R,PV.R]
   exact⟨by rw[hu,hxe],hx.1⟩
  ·intro u hr
   simp only[AV.R,PV.R]at hr
   rw[hr.1];exact hconv hfact
  ·intro xs ys _ ih u hr
   simp only[AV.R]at hr ⊢
   obtain⟨us,g1,g2⟩:=hr
   exact⟨us,g1,ih _ g2⟩
  ·intro us hr;simp only[AV.Rs]at hr ⊢;exact hr
  ·intro a b as1 bs _ _ ih1 ih2 us hr
   simp only[AV.Rs]at hr ⊢
   obtain⟨u,us',g1,g2,g3,g4⟩:=hr
   exact⟨u,us',g1,g2,ih1 _ g3,ih2 _ g4⟩
 refine⟨ρ,M,Qtq h (fun t y hy=>⟨y,hy,fun u hr=>hconv hr⟩) (fun k y hy=>?_) (fun k v hv=>?_)⟩
 ·change look k hs'=some y at hy
  rw[h1]at hy
  split at hy
  ·rename_i e;subst e;cases hy
   refine⟨_,h0,fun hob=>?_⟩
   obtain⟨k0,k0',k1,b,T,cs,k3,k4,k5,k6,k7,k8,k9⟩:=hob
   have hlen:xs.length=ys.length:=by
    have:=PinL.rec (motive_1:=fun _ _ (_:Pin n len x _ _)=>True) (motive_2:=fun vs ys _=>vs.length=ys.length) (by intros;trivial) (by trivial) (by trivial) (by intros;trivial) rfl (by intros;simp_all) hp
    exact this
   exact⟨k0,by rw[←hlen];exact k0',k1,b,T,cs,k3,k4,k5,k6,k7,hpin _ k8,k9⟩
  ·refine⟨y,hy,fun hob=>?_⟩
   exact VL.step (Ext.refl (fun _=>False) _) (fun _ hb=>hb.elim) (fun b _ hb=>hb) (fun b hb=>hb) hst (fun k _=>hnn k) rfl (fun _ _=>rfl) h.msize hob
 ·change look k hs=some v at hv
  by_cases e:k=m
  ·subst e
   rw[h0]at hv;cases hv
   exact⟨_,(by change look k hs'=_;rw[h1,if_pos rfl]),fun o l hst=>Y9 (es:=es') (k:=pre.length+1+post.length) rfl rfl hst⟩
  ·exact⟨v,(by change look k hs'=_;rw[h1,if_neg e];exact hv),fun o l hst=>hst⟩
theorem TsLe.refl:∀ts:List (Nat×AV),TsLe ts ts
 |[]=>trivial
 |(_,x)::r=>⟨rfl,.refl x,TsLe.refl r⟩
theorem HsLe.refl:∀hs:List (Name×AO),HsLe hs hs
 |[]=>trivial
 |(_,x)::r=>⟨rfl,.refl x,HsLe.refl r⟩
theorem Qf8.refl{px:Value→Prop}{n:Name}{es:Nat}{rows:List (List PV)}:∀{ts:List (Nat×AV)},ts.all (fun p=>!p.2.has n)=true→Qf8 px n es rows ts ts
 |[],_=>trivial
 |(_,x)::r,h=>by
  simp only[List.all_cons,bae,Bool.not_eq_true']at h
  exact⟨rfl,.same h.1,Qf8.refl h.2⟩
theorem Qf7.refl{px:Value→Prop}{n:Name}{es:Nat}{rows:List (List PV)}:∀{hs:List (Name×AO)},hs.all (fun p=>!p.2.has n && !Nat.beq p.1 n)=true→Qf7 px n es rows hs hs
 |[],_=>trivial
 |(_,x)::r,h=>by
  simp only[List.all_cons,bae,Bool.not_eq_true']at h
  exact⟨rfl,fun e=>by have:=h.1.2;subst e;simp at this,.same h.1.1,Qf7.refl h.2⟩
section
variable {P:Program} {Γ:Ctx} {c:Code} {Q:Exit→AS→Prop} {ts:List (Nat×AV)} {hs:List (Name×AO)} {n n0 m:Name} {es es':Nat} {rows pre post:List (List PV)} {x:Value} {o o':AO}
theorem AWp.foc(pre post:List (List PV))(r:List PV)(hr:rows=pre++r::post)(h:AWp P Γ c (mk ts ((m,.hole es pre (r.map .p) post)::hs)) Q):AWp P Γ c (mk ts ((m,.arr es rows)::hs)) Q:=
 AWp.weaken (mk ts ((m,.hole es pre (r.map .p) post)::hs)) (Weak.le (TsLe.refl _) ⟨rfl,.focus hr rfl,HsLe.refl _⟩) h
theorem AWp.unf{row:List AV}(r:List PV)(hrow:row=r.map .p)(h:AWp P Γ c (mk ts ((m,.arr es (pre++r::post))::hs)) Q):AWp P Γ c (mk ts ((m,.hole es pre row post)::hs)) Q:=
 AWp.weaken (mk ts ((m,.arr es (pre++r::post))::hs)) (Weak.le (TsLe.refl _) ⟨rfl,.unfocus rfl hrow,HsLe.refl _⟩) h
theorem AWp.frz(hk:Γ.names=[])(hb:(ts.all (fun p=>!p.2.has n) && (hs.all (fun p=>!p.2.has n && !Nat.beq p.1 n) && !Nat.beq m n))=true)(ho:OFrz (fun _=>False) n es rows o o')(h:AWp P Γ c (mk ts ((m,o')::hs)) Q):
  AWp P Γ c (mk ts ((n,.arr es rows)::(m,o)::hs)) Q:=by
 simp only[bae,Bool.not_eq_true']at hb
 exact AWp.weaken (mk ts ((m,o')::hs)) (Weak.freeze (by rw[hk];exact List.not_mem_nil) (Qf8.refl hb.1) ⟨rfl,fun e=>by have:=hb.2.2;subst e;simp at this,ho,Qf7.refl hb.2.1⟩) h
theorem AWp.frzP(hk:Γ.names=[])(hb:(ts.all (fun p=>!p.2.has n) && (hs.all (fun p=>!p.2.has n && !Nat.beq p.1 n) && (!Nat.beq m n && (!Nat.beq n n0 && (look n0 ((m,o)::hs)).isNone))))=true)(ho:OFrz (fun y=>y=x) n es rows o o')(h:AWp P Γ c (mk ts ((m,o')::hs)) Q):
  AWp P Γ c (mk ts ((n,.arr es rows)::(n0,.fact (.own n rows.length) x)::(m,o)::hs)) Q:=by
 simp only[bae,Bool.not_eq_true',Option.isNone_iff_eq_none]at hb
 exact AWp.weaken (mk ts ((m,o')::hs)) (Weak.freezeP (by rw[hk];exact List.not_mem_nil) (by rw[hk];exact List.not_mem_nil) (fun e=>by have:=hb.2.2.2.1;subst e;simp at this) hb.2.2.2.2 (Qf8.refl hb.1) ⟨rfl,fun e=>by have:=hb.2.2.1;subst e;simp at this,ho,Qf7.refl hb.2.1⟩) h
theorem AWp.pinH{row row':List AV}{len:Nat}(hb:(!Nat.beq m n && (!Nat.beq m n0 && !Nat.beq n0 n))=true)(ho:look n hs=some o)(hsh:o.shape=some (es',len))(hp:PinL n len x row row')(h:AWp P Γ c (mk ts ((n0,.fact (.own n len) x)::(m,.hole es pre row' post)::hs)) Q):AWp P Γ c (mk ts ((n0,.fact (.own n len) x)::(m,.hole es pre row post)::hs)) Q:=by
 simp only[bae,Bool.not_eq_true']at hb
 have e1:m≠n:=fun e=>by have:=hb.1;subst e;simp at this
 have e2:n0≠m:=fun e=>by have:=hb.2.1;subst e;simp at this
 have e3:n0≠n:=fun e=>by have:=hb.2.2;subst e;simp at this
 refine AWp.weaken (mk ts ((n0,.fact (.own n len) x)::(m,.hole es pre row' post)::hs)) (Weak.pinH (n:=n) (n0:=n0) (m:=m) (x:=x) (len:=len) (es:=es') (es':=es) (pre:=pre) (post:=post) (o:=o) e1 (by simp[look]) (by simp[look,e3,e1,ho]) hsh hp _ (by simp[look,e2]) fun k=>?_) h
 simp only[look]
 by_cases g1:n0=k
 ·subst g1;simp[e2]
 ·by_cases g2:m=k
  ·subst g2;simp[e2]
  ·simp[g1,g2,Ne.symm g2]
end
def sk:Nat→List Item→List Item
 |0,r=>r
 |n+1,r=>.a::sk n r
theorem Man.sk{P:Program}{ops:Array Oper}:∀{n i:Nat} {r:List Item},Man P ops (i+n) r→Man P ops i (AM.sk n r)
 |0,_,_,h=>h
 |n+1,i,r,h=>Man.sk (n:=n) (i:=i+1) (by rw[Nat.add_assoc,Nat.add_comm 1 n];exact h)
theorem Man.m{P:Program}{ops:Array Oper}{i:Nat}{r:List Item}{d:Option Nat}{e:Eff}(h:ZE P ops i d e)(h':Man P ops (i+1) r):Man P ops i (.m d e::r):=⟨h,h'⟩
def clI(d s:Nat)(nm:Name)(t:TC)(l:List (TT t)):Item:=.m (some d) ⟨[(s,.p (.sl false (tz t) (l.map (tcells t))))],[],.own nm (l.map (tcells t)).length,[(nm,.arr (tz t) (l.map (tcells t)))],[nm]⟩
def Qad(P:Program)(k:FuncId)(t:TC)(l:List (TT t)):Prop:=∀nm:Name,nm<10000000000→XF P k [.p (.sl false (tz t) (l.map (tcells t)))] [] (.own nm (l.map (tcells t)).length) [(nm,.arr (tz t) (l.map (tcells t)))]
theorem Uk{P:Program}{ops:Array Oper}{i d s:Nat}{nm:Name}{t:TC}{l:List (TT t)}{k:FuncId}{o:Oper}{ats:Array TypeId}(h:Qad P k t l)(hnm:Nat.blt nm 10000000000=true)(hi:ops[i]?=some o)(hd:o.dst=some d)(hg:o.guard=none)(ho:o.op=.call { callee:=.value (.func k),args:=#[.tmp s],argTypes:=ats })(hc:callable P k=true):
  ZE P ops i (some d) ⟨[(s,.p (.sl false (tz t) (l.map (tcells t))))],[],.own nm (l.map (tcells t)).length,[(nm,.arr (tz t) (l.map (tcells t)))],[nm]⟩:=
 ZE.p hi hd hg (OpOK.call ho hc (by simp[Qee,Ql,look]) (h nm (by simpa [Nat.blt_eq]using hnm)) (by simp[QcT,keys,AV.closed,AO.closed]))
theorem Qh2{P:Program}{ops:Array Oper}{i d:Nat}{rd:List (Nat×AV)}{args:List AV}{pre h:List (Name×AO)}{v:AV}{nw:List Name}{k:FuncId}{o:Oper}{argOps:Array Operand}{ats:Array TypeId}(hs:XF P k args pre v h)(hi:ops[i]?=some o)(hd:o.dst=some d)(hg:o.guard=none)(ho:o.op=.call { callee:=.value (.func k),args:=argOps,argTypes:=ats })(hc:callable P k=true)(ha:Qee rd argOps.toList=some args)(hok:QcT pre h nw v=true):ZE P ops i (some d) ⟨rd,pre,v,h,nw⟩:=ZE.p hi hd hg (OpOK.call ho hc ha hs hok)
theorem Wj{P:Program}{k:FuncId}{t:TC}{F:List (TT t)→Option (List (TT t))}(h:FnOK P k (Qf [.one (.lst t)] [] [.one (.own 1007)] [(1007,.arr t)] [] (List (TT t)) (fun q=>((),(q,()))) (fun x y=>F x.1))){l:List (TT t)}(hl:F l=some l):Qad P k t l:=by
 intro nm hnm
 obtain⟨L1,_,hinv,hs⟩:=h.spec (l,()) () () (l,()) (by show optc (F l) _=_;rw[hl];rfl) (fun _ _=>0) (fun n t l v hn=>by change look n []=_ at hn;simp[look]at hn)
 have e1:L1 1007 1=(l.map (tcells t)).length:=by rw[List.length_map];exact hinv 1007 t l 1 rfl
 have hσ:∀a b:Name,(if a=1007 then nm else a+10000000000)=(if b=1007 then nm else b+10000000000)→a=b:=fun a b e=>by
  change Nat at a;change Nat at b
  have h0:(nm:Nat)<10000000000:=hnm
  split at e<;>split at e
  ·rename_i e1 e2;exact e1.trans e2.symm
  ·exact absurd h0 (by have e':(nm:Nat)=b+10000000000:=e;rw[e'];exact Nat.not_lt.2 (Nat.le_add_left _ _))
  ·exact absurd h0 (by have e':a+10000000000=(nm:Nat):=e;rw[←e'];exact Nat.not_lt.2 (Nat.le_add_left _ _))
  ·exact Nat.add_right_cancel e
 have h1:=Spec.ren (σ:=fun a:Name=>if a=1007 then nm else a+10000000000) hσ hs
 have h2:XF P k [.p (.sl false (tz t) (l.map (tcells t)))] [] (.own (if (1007:Name)=1007 then nm else 1007+10000000000) (L1 1007 1)) [(if (1007:Name)=1007 then nm else 1007+10000000000,.arr (tz t) (l.map (tcells t)))]:=h1
 rw[if_pos rfl,e1]at h2
 exact h2
end Go.Proofs.YtadlpefpehjcoaaGreat.AM
