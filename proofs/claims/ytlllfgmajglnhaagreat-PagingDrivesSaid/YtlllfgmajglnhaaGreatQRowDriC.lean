/-
  The typed layer, part M: code does what is reckoned of it. No project text.
-/
import Derived.Test.YtlllfgmajglnhaaGreatQRowDriB
import Derived.Test.YtlllfgmajglnhaaGreatProg
import Derived.RangeFuncNested
import Derived.RangeFuncBound
import Derived.RangeFuncCalls
import Derived.RangeFuncLeaves
import Derived.Shelf.Abstract
import Derived.Shelf.RegionOpen
import Derived.WalkKit
import Derived.OwnWalkIn
import Derived.TacticsInMore
import Derived.LoopNIn
import Derived.LoopIn
import Derived.Scope
import Derived.Shelf.Spec.SlicesInsertGrow
set_option linter.defProp false
set_option linter.constructorNameAsVariable false
set_option linter.unusedVariables false
set_option linter.unusedSimpArgs false
set_option autoImplicit true
set_option relaxedAutoImplicit true
namespace Go.Proofs.YtlllfgmajglnhaaGreat.AM
open Go
section
def TJ.drawG{id:Nat}(hn:Γ.n=n)(hmode:(P.follows .mixedOrders || !Region.departs ops)=true)(L)(hst:VH P ops 0 L)(hg:got n L ts hs=(Qam L,Qal L,true,ts',hs'))(hind:indep ops L ts hs=true)(hQ:Q .normal (mk ts' hs')):TJ P Γ (.region id ops true) (mk ts hs) Q:=by
 intro ρ M a w hsim
 refine wp_region_draw fun t=>?_
 have hsch:Region.schedule (P.follows .mixedOrders) ops t=Region.linearise .any ops t:=by
  unfold Region.schedule;rw[hmode];rfl
 rw[hsch]
 refine wpAny_sound ops.size t _ a _ ?_
 refine Qqe hn hst (by rw[hg]) (by rw[hg]) (by rw[hg]) hind (Q:=fun e a' w'=>∃s' ρ' M',Q e s'/\Sim Γ ρ' M' s' a' w') (fun ρ' M' a' w' hs=>⟨_,ρ',M',hQ,by rw[hg]at hs;exact hs⟩)
  ops.size (Array.replicate ops.size false) a _ ρ M Ob (fun i o hi hl=>by simp[BH,Bu]at hl;split at hl<;>simp at hl) ?_ ?_
 .have:∀(f:Nat->AH) k,cnt f k<=k:=by
   intro f k
   induction k with
   |zero=>exact AN _
   |succ k ih=>simp only[cnt];split<;>omega
  exact this _ _
 .refine hsim.drew.congr (fun t=>?_) (fun m=>?_)
  .have:=Qar (E:=fun i=>VY L i) (D:=fun i=>(Array.replicate ops.size false).getD i false) (s:=mk ts hs) (t:=t) (i:=0) L.length U (fun j _ _ _=>by
    simp only[BH,Bu];split<;>rfl)
   exact this
  .have:=V8 (E:=fun i=>VY L i) (D:=fun i=>(Array.replicate ops.size false).getD i false) (s:=mk ts hs) (m:=m) (i:=0) L.length U (fun j _ _ _=>by
    simp only[BH,Bu];split<;>rfl)
   exact this
def TJ.drawX{id:Nat}(hn:Γ.n=n)(hmode:(P.follows .mixedOrders || !Region.departs ops)=true)(h0:0<ops.size)(L)(hst:Qdm P ops (ops.size - 1) 0 L)(hg:got n L ts hs=(Qam L,Qal L,true,ts',hs'))(hind:indep ops (L++[Qdv]) ts hs=true)(hm:∀j,j<ops.size - 1->((masks ops.toList []).getD (ops.size - 1) 0).testBit j=true)(hlast:∀(K:Act->AG->Prop),(∀s' ρ' M' a' w',Q .normal s'->Sim Γ ρ' M' s' a' w'->K a' w')->∀ρ M a w,Sim Γ ρ M (mk ts' hs') a w->
   wpOp P ops (fun e a' w'=>∃s' ρ' M',Q e s'/\Sim Γ ρ' M' s' a' w') (ops.size - 1) K a w):TJ P Γ (.region id ops true) (mk ts hs) Q:=by
 obtain⟨hsteps,hsize⟩:=Qj1 hst
 have hlen:(L++[Qdv]).length=ops.size:=by simp;omega
 have hL:L.length=ops.size - 1:=U
 intro ρ M a w hsim
 refine wp_region_draw fun t=>?_
 have hsch:Region.schedule (P.follows .mixedOrders) ops t=Region.linearise .any ops t:=by
  unfold Region.schedule;rw[hmode];rfl
 rw[hsch]
 refine wpAny_sound ops.size t _ a _ ?_
 have hgn:=QqS n L ts hs
 refine QnG (L:=L++[Qdv]) true hn (Q:=fun e a' w'=>∃s' ρ' M',Q e s'/\Sim Γ ρ' M' s' a' w') (fun i y hi hlt=>?_) hlen.symm (by rw[hgn,hg,Qm1]) (by rw[hgn,hg,Qm0]) (by rw[hgn,hg]) hind
  (fun _=>?_) (fun h=>by simp at h) ops.size (Array.replicate ops.size false) a _ ρ M Ob (fun _=>by
   simp only[BH,Bu];split<;>rfl) (fun i o hi hl=>by simp[BH,Bu]at hl;split at hl<;>simp at hl) ?_ ?_
 .grind
 .grind
 .have:∀(f:Nat->AH) k,cnt f k<=k:=by
   intro f k
   induction k with
   |zero=>exact AN _
   |succ k ih=>simp only[cnt];split<;>omega
  exact this _ _
 .refine hsim.drew.congr (fun t=>?_) (fun m=>?_)
  .have:=Qar (E:=fun i=>VY (L++[Qdv]) i) (D:=fun i=>(Array.replicate ops.size false).getD i false) (s:=mk ts hs) (t:=t) (i:=0) (L++[Qdv]).length U (fun j _ _ _=>by
    simp only[BH,Bu];split<;>rfl)
   exact this
  .have:=V8 (E:=fun i=>VY (L++[Qdv]) i) (D:=fun i=>(Array.replicate ops.size false).getD i false) (s:=mk ts hs) (m:=m) (i:=0) (L++[Qdv]).length U (fun j _ _ _=>by
    simp only[BH,Bu];split<;>rfl)
   exact this
variable {L L':Lens} {ts ts':TS} {hs hs':HS}
def QA3(h:erT L ts=erT L' ts)(hm:(t,v)∈ts):v.er L=v.er L':=by
 unfold erT at h
 have:=(EL.1 h) _ hm
 simpa using this
def Qwt(h:erH L hs=erH L' hs)(hm:(t,v)∈hs):v.er L=v.er L':=by
 unfold erH at h
 have:=(EL.1 h) _ hm
 simpa using this
def QA5(h:erT L ts=erT L' ts)(hs:∀t v,(t,v)∈rd->X t ts=some v):erT L rd=erT L' rd:=by
 unfold erT
 exact Bn fun p hp=>by rw[QA3 h (Q5 (hs p.1 p.2 hp))]
def QA2(h:erH L hs=erH L' hs)(hsub:∀t v,(t,v)∈hp->X t hs=some v):erH L hp=erH L' hp:=by
 unfold erH
 exact Bn fun p hp=>by rw[Qwt h (Q5 (hsub p.1 p.2 hp))]
def QA1(h:erH L (a++b)=erH L' (a++b)):erH L a=erH L' a/\erH L b=erH L' b:=by
 rw[Qgs,Qgs]at h
 exact List.append_inj h (by simp[erH])
def QA4(h:erT L (TX d v ts)=erT L' (TX d v ts))(ha:anyB d v=true):erT L ts=erT L' ts/\v.er L=v.er L':=by
 cases d with
 |some d=>
  simp only[TX,erT,AU,Cr,Bb,true_and]at h
  exact⟨h.2,h.1⟩
 |none=>
  refine⟨h,?_⟩
  cases v<;>first|rfl|simp[anyB]at ha
section
variable {R:Type} {r:R} {P:AF} {ty:AD->I TC} {E:Env} {nn:Nat}
def Qty{ts:Y (Nat×AV)}{hs:Y (Name×AO)}{ts':Y (Nat×AV)}{hs':Y (Name×AO)}(h1:∀t x,(t,x)∈e.rd->X t ts=some x)(h2:∀n o,(n,o)∈e.hp->X n hs=some o)(hd:Qcv nn d=true)(hnw:Qq5 e ts hs=true)(h:got nn rows (putT ts d e) (e.upd++hs)=(Qam rows,Qal rows,true,ts',hs')):got nn ((d,e)::rows) ts hs=(Qam ((d,e)::rows),Qal ((d,e)::rows),true,ts',hs'):=by
 simp only[got,h,Qam,Qal,hd,hnw,Bool.and_self]
 have e1:e.rd.map (fun p=>X p.1 ts)=e.rd.map (fun p=>some p.2):=Bn fun p hp=>h1 p.1 p.2 hp
 have e2:e.hp.map (fun p=>X p.1 hs)=e.hp.map (fun p=>some p.2):=Bn fun p hp=>h2 p.1 p.2 hp
 rw[e1,e2]
def Qgp(hE:Qp9 P E):∀(f i:Nat) (acc:Y BRow) (ts:TS) (hs:HS) (L:Lens),Qjy P ty E nn ops sp mm K f i acc ts hs=some r->Inv L hs->
  ∃rows ts' hs' L',K (acc.reverse++rows) ts' hs'=some r/\Inv L' hs'/\Qdm P ops mm i (rows.map (BRow.row L'))/\erT L ts=erT L' ts/\erH L hs=erH L' hs/\
   got nn (rows.map (BRow.row L')) (erT L' ts) (erH L' hs)=(Qam (rows.map (BRow.row L')),Qal (rows.map (BRow.row L')),true,erT L' ts',erH L' hs')
 |0,i,acc,ts,hs,L,h,hi=>by
  simp only[Qjy]at h
  split at h
  .rename_i e
   exact⟨[],ts,hs,L,by simpa using h,hi,nbe e,rfl,rfl,by simp only[Al,got,Qam,Qal]⟩
  .simp at h
 |f+1,i,acc,ts,hs,L,h,hi=>by
  simp only[Qjy]at h
  split at h
  .simp at h
  .rename_i o hop
   have hdo:∀(x:TS),(∀t v,(t,v)∈x->X t ts=some v)->(∀e':Eff,(∀p,p∈x->(p.1,p.2.er L)∈e'.rd)->TE P o e'->ZT P ops i o.dst e')->
     opK P ty E sp nn x o ts hs (fun e ts' hs'=>if anyB o.dst e.v then Qjy P ty E nn ops sp mm K f (i+1) ((o.dst,x++rdB ts o.op.operands.toList,e)::acc) ts' hs' else none)=some r->
     ∃rows ts' hs' L',K (acc.reverse++rows) ts' hs'=some r/\Inv L' hs'/\Qdm P ops mm i (rows.map (BRow.row L'))/\erT L ts=erT L' ts/\erH L hs=erH L' hs/\
      got nn (rows.map (BRow.row L')) (erT L' ts) (erH L' hs)=(Qam (rows.map (BRow.row L')),Qal (rows.map (BRow.row L')),true,erT L' ts',erH L' hs'):=fun x hx hstp h=>by
    obtain⟨e,L1,hst,hd,h⟩:=QtR hE hx h hi
    split at h
    case isFalse=>simp at h
    rename_i hany
    obtain⟨rows,ts',hs',L',k1,k2,k3,k4,k5,k6⟩:=Qgp (sp:=sp) (mm:=mm) (ops:=ops) (K:=K) hE f (i+1) _ _ _ L1 h hst.inv
    obtain⟨p1,p2⟩:=QA4 k4 hany
    obtain⟨q1,q2⟩:=QA1 k5
    have hts:erT L ts=erT L' ts:=hst.ets.trans p1
    have hhs:erH L hs=erH L' hs:=hst.ehs.trans q2
    have hrd:=QA5 hts hst.rds
    have hhp:=QA2 hhs hst.hps
    have hok:=hst.ok
    rw[p2,q1]at hok
    refine⟨(o.dst,x++rdB ts o.op.operands.toList,e)::rows,ts',hs',L',by simpa using k1,k2,⟨?_,k3⟩,hts,hhs,?_⟩
    .have:=hstp _ (fun p hp=>BQ.2 ⟨p,C1 _ hp,rfl⟩) hok
     simp only[BRow.row,<-hrd,<-hhp];exact this
    .simp only[AU]
     refine Qty (fun t y hy=>?_) (fun n ob hy=>?_) hd ?_ ?_
     .simp only[BRow.row,erT,BQ]at hy
      obtain⟨⟨t',v⟩,hm,he⟩:=hy
      cases he
      rw[UL,hst.rds _ _ hm];rfl
     .simp only[BRow.row,erH,BQ]at hy
      obtain⟨⟨t',v⟩,hm,he⟩:=hy
      cases he
      rw[ZP,hst.hps _ _ hm];rfl
     .have hnew:=hst.new
      unfold Qza at hnew
      simp only[Qq5,BRow.row,Qd9,Qeb]
      refine AW.2 fun n hn=>?_
      have:=AW.1 hnew n hn
      simp only[bae]at this |-
      refine⟨⟨?_,this.1.2⟩,this.2⟩
      rw[ZP]
      cases hl:X n hs with
      |none=>rfl
      |some y=>rw[hl]at this;simp at this
     .have e3:∀t1 h1,t1=erT L' (TX o.dst e.v ts)->h1=erH L' (e.upd++hs)->got nn (rows.map (BRow.row L')) t1 h1=(Qam (rows.map (BRow.row L')),Qal (rows.map (BRow.row L')),true,erT L' ts',erH L' hs'):=fun t1 h1 a b=>by rw[a,b];exact k6
      exact e3 _ _ (by show putT (erT L' ts) o.dst _=_;cases o.dst<;>rfl) (by rw[Qgs])
   have hskip:∀{j:Nat} {b:AH} {g:Nat} {v:BV},o.guard=some (j,b)->(ops[j]?).bind (·.dst)=some g->X g ts=some v->(v=.b (!b)\/v=.tup [])->
     (if Qcv nn o.dst then Qjy P ty E nn ops sp mm K f (i+1) ((o.dst,[(g,v)],ev (.tup []))::acc) (TX o.dst (.tup []) ts) hs else none)=some r->
     ∃rows ts' hs' L',K (acc.reverse++rows) ts' hs'=some r/\Inv L' hs'/\Qdm P ops mm i (rows.map (BRow.row L'))/\erT L ts=erT L' ts/\erH L hs=erH L' hs/\
      got nn (rows.map (BRow.row L')) (erT L' ts) (erH L' hs)=(Qam (rows.map (BRow.row L')),Qal (rows.map (BRow.row L')),true,erT L' ts',erH L' hs'):=fun{j b g v} hg hj hl hv h=>by
    split at h
    case isFalse=>simp at h
    rename_i hd
    obtain⟨rows,ts',hs',L',k1,k2,k3,k4,k5,k6⟩:=Qgp (sp:=sp) (mm:=mm) (ops:=ops) (K:=K) hE f (i+1) _ _ _ L h hi
    have hts:erT L ts=erT L' ts:=by
     cases hdd:o.dst with
     |none=>rw[hdd]at k4;exact k4
     |some d=>rw[hdd]at k4;simp only[TX,erT,AU,Cr]at k4;exact k4.2
    obtain⟨oj,h1,h2⟩:=UF hj
    refine⟨(o.dst,[(g,v)],ev (.tup []))::rows,ts',hs',L',by simpa using k1,k2,⟨?_,k3⟩,hts,k5,?_⟩
    .rcases hv with rfl|rfl
     .exact ZT.skipped hop hg h1 h2
     .exact ZT.skipped2 hop hg h1 h2
    .simp only[AU]
     refine Qty (fun t y hy=>?_) (fun n ob hy=>?_) hd ?_ ?_
     .simp only[BRow.row,erT,AU,Al,Ai,Bb]at hy
      obtain⟨rfl,rfl⟩:=hy
      rw[UL,hl];rfl
     .simp[BRow.row,ev,erH]at hy
     .simp[Qq5,BRow.row,ev]
     .have e3:∀t1 h1,t1=erT L' (TX o.dst (.tup []) ts)->h1=erH L' hs->got nn (rows.map (BRow.row L')) t1 h1=(Qam (rows.map (BRow.row L')),Qal (rows.map (BRow.row L')),true,erT L' ts',erH L' hs'):=fun t1 h1 a b=>by rw[a,b];exact k6
      exact e3 _ _ (by show putT (erT L' ts) o.dst _=_;cases o.dst<;>rfl) rfl
   have hgd:∀{j:Nat} {b:AH} {g:Nat},o.guard=some (j,b)->(ops[j]?).bind (·.dst)=some g->∀e':Eff,(∀p:Nat×BV,p∈[(g,BV.b b)]->(p.1,p.2.er L)∈e'.rd)->TE P o e'->ZT P ops i o.dst e':=fun{j b g} hg hj e' hm hok=>by
    obtain⟨oj,h1,h2⟩:=UF hj
    have:=hm (g,BV.b b) Ob
    simp only[BV.er]at this
    exact ZT.guarded hop hg h1 h2 this hok
   have hx1:∀{g:Nat} {b:AH},X g ts=some (.b b)->∀t v,(t,v)∈[(g,BV.b b)]->X t ts=some v:=fun hl t v hm=>by
    grind
   split at h
   .rename_i hg
    exact hdo [] (fun t v hm=>by simp at hm) (fun e' _ hok=>ZT.plain hop hg hok) h
   .rename_i j b hg
    split at h
    .simp at h
    .rename_i g hj
     split at h
     .rename_i q hl
      rcases Qik h with⟨rfl,h⟩|⟨rfl,h⟩
      .grind
      .grind
     .grind
     .simp at h
mutual
def QAb:∀x:AV,x.ren (fun n=>n)=x
 |.p _=>by simp only[AV.ren]
 |.agg cs=>by simp only[AV.ren,Qf4 cs]
 |.TM _ _=>by simp only[AV.ren]
 |.own _ _=>by simp only[AV.ren]
 |.aref _ _ _ _=>by simp only[AV.ren]
 |.view _ _ _ _=>by simp only[AV.ren]
 |.cut _ _ _=>by simp only[AV.ren]
 |.eptr _=>by simp only[AV.ren]
 |.tup vs=>by simp only[AV.ren,Qf4 vs]
 |.clo f a c=>by simp only[AV.ren,Qf4 a,Qf4 c]
 |.oref _ _=>by simp only[AV.ren]
 |.err _=>by simp only[AV.ren]
 |.ub=>by simp only[AV.ren]
 |.any=>by simp only[AV.ren]
def Qf4:∀l:Y AV,renL (fun n=>n) l=l
 |[]=>by simp only[renL]
 |x::r=>by simp only[renL,QAb x,Qf4 r]
end
def QrP(h:QBd σ=true):Fit (fun n=>n) (Qjj σ) σ:=fun nm m hm=>by
 have:=AW.1 h _ hm
 simp only[bae]at this
 refine⟨nbe this.1,?_⟩
 unfold Qjj;rw[Ql1 this.2]
def QwD(h:getS gn s o ts hs K=some r)(hi:Inv L hs):
  ∃x L',K x=some r/\Inv L' (OL.put 0 o x.2)/\SLe L ts hs L' (STL.put 0 s x.1) (OL.put 0 o x.2)/\∀n,n∈gn->X n (OL.put 0 o x.2)≠none:=by
 obtain⟨σ1,x,h,hs1,g1⟩:=STL.get_some h
 obtain⟨σ2,y,h,hs2,g2⟩:=OL.get_some h
 split at h
 case isFalse=>simp at h
 rename_i hid
 simp only[bae]at hid
 have hf2:=QrP hid.1
 have hf1:Fit (fun n=>n) (Qjj σ2) σ1:=hf2.mono fun p hp=>hs2 p (CD _ hp)
 refine⟨(x,y),Qbq L (fun n=>n) (Qjj σ2),h,fun n t l v hn=>?_,⟨fun t b hb=>?_,fun n cs' hn=>?_,fun n t l v hn=>?_,fun n es hn=>?_⟩,fun n hn hc=>?_⟩
 .obtain⟨a,ha,hle⟩:=g2 _ _ L hf2 n _ hn
  rcases hle with⟨cs,ds,_,h2,_⟩|⟨t',l',rfl,h2⟩|⟨es,_,h2⟩
  .cases h2
  .cases h2;exact hi n t l _ ha
  .cases h2
 .obtain⟨a,ha,hle⟩:=g1 _ _ L hf1 t b hb
  rw[QAb]at hle
  exact⟨a,ha,hle⟩
 .obtain⟨a,ha,hle⟩:=g2 _ _ L hf2 n _ hn
  rcases hle with⟨cs,ds,rfl,h2,h3⟩|⟨t',l',rfl,h2⟩|⟨es,_,h2⟩
  .cases h2;rw[Qf4]at h3;exact⟨cs,ha,h3.1⟩
  .cases h2
  .cases h2
 .obtain⟨a,ha,hle⟩:=g2 _ _ L hf2 n _ hn
  rcases hle with⟨cs,ds,_,h2,_⟩|⟨t',l',rfl,h2⟩|⟨es,_,h2⟩
  .cases h2
  .cases h2;exact⟨_,ha⟩
  .cases h2
 .obtain⟨a,ha,hle⟩:=g2 _ _ L hf2 n _ hn
  rcases hle with⟨cs,ds,_,h2,_⟩|⟨t',l',rfl,h2⟩|⟨es,rfl,h2⟩
  .cases h2
  .cases h2
  .cases h2;exact ha
 .have:=Wk.1 (AW.1 hid.2 n hn)
  obtain⟨b,hb⟩:=Qgt (u:=0) (y:=y) this
  simp_all
def QtK:∀(l:Y (Nat×AV)),∃l',(∀k,X k l'=X k l)/\l'.map (fun p=>X p.1 l)=l'.map (fun p=>some p.2):=by
  intro l
  induction l with
  |nil=>exact⟨[],fun _=>rfl,rfl⟩
  |cons p l ih=>
   obtain⟨l',g1,g2⟩:=ih
   refine⟨p::(l'.filter fun q=>!(q.1 == p.1)),fun k=>?_,?_⟩
   .simp only[X]
    split
    .rfl
    .rename_i hne
     rw[<-g1]
     clear g1 g2
     induction l' with
     |nil=>rfl
     |cons q l' ih=>
      by_cases hq:q.1=p.1
      .rw[Es (by simp[hq]),ih]
       simp only[X]
       simp_all
      .rw[Er (by simp[hq])]
       simp only[X]
       simp_all
   .simp only[AU,X,if_true]
    congr 1
    refine Bn fun q hq=>?_
    have hq':=Bl.1 hq
    have hne:¬p.1=q.1:=fun e=>by have:=hq'.2;rw[e]at this;simp at this
    rw[iA hne]
    exact(EL.1 g2) q hq'.1
def QzG(hm:X t ts=some (.agg cells))(hj:cells[j]?=some v)(hv:∀L,v.er L=.p (.sl true es0 []))(hb:(X nm hs).isNone=true)(hf:Qe2 nm ts hs=true)(ht:Nat.ble 1 (tz tc)=true)(hi:Inv L hs):
  ∃L',Inv L' ((nm,.TI tc [] 0)::hs)/\Weak Γ (BS L ts hs) (BS L' ((t,.agg (cells.set j (.own nm 0)))::ts) ((nm,.TI tc [] 0)::hs)):=by
 let L1:Lens:=fun n u=>if n=nm then 0 else L n u
 have hnm:X nm hs=none:=Bk.1 hb
 obtain⟨e1,e2⟩:=Qfu (L:=L) (L':=L1) (nw:=[nm]) (nv:=[]) (ts:=ts) (hs:=hs) (fun n hn=>by simp only[Ai]at hn;subst hn;exact hf) (fun p hp=>by simp at hp) (fun n u hn _=>iA (by simpa using hn))
 have ec:erL L cells=erL L1 cells:=by
  have h1:X t (erT L ts)=X t (erT L1 ts):=by rw[e1]
  rw[UL,UL,hm,Aa,Aa]at h1
  simp only[BV.er,AP,AV.agg.injEq]at h1
  exact h1
 have hi1:Inv L1 ((nm,.TI tc [] 0)::hs):=fun n t' l u hn=>by
  simp only[X]at hn
  split at hn
  .grind
  .rename_i e;show(if n=nm then 0 else L n u)=_;rw[iA (Ag e)];exact hi n t' l u hn
 refine⟨L1,hi1,fun ρ M a w hs0=>?_⟩
 obtain⟨l',g1,g2⟩:=QtK ((t,AV.agg ((erL L cells).set j (.own nm 0)))::erT L ts)
 have hw:=Weak.thawA (Γ:=Γ) (ts:=erT L ts) (ts':=l') (hs:=erH L hs) (t:=t) (j:=j) (es0:=es0) (es:=tz tc) (n:=nm) (cells:=erL L cells) ht (by rw[UL,hm,Aa];simp only[BV.er])
  (by rw[QjA,hj,Aa,hv L]) (by rw[ZP,hnm];rfl) (by rw[Qd9];exact hf) g2
 obtain⟨ρ',M',hs1⟩:=hw ρ M a w hs0
 refine⟨ρ',M',hs1.congr (fun k=>?_) (fun k=>?_)⟩
 .show X k (erT L1 ((t,.agg (cells.set j (.own nm 0)))::ts))=X k l'
  rw[g1]
  have:erL L1 (cells.set j (.own nm 0))=(erL L cells).set j (.own nm 0):=by
   rw[ec,UG,UG,List.map_set]
   simp only[BV.er,show L1 nm 0=0 from iB rfl]
  show X k ((t,(BV.agg (cells.set j (.own nm 0))).er L1)::erT L1 ts)=_
  simp only[BV.er,this,<-e1]
 .show X k (erH L1 ((nm,.TI tc [] 0)::hs))=X k ((nm,.TI (tz tc) [])::erH L hs)
  show X k ((nm,(BO.TI tc [] 0).er L1)::erH L1 hs)=_
  simp only[BO.er,Al,<-e2]
def QdY:∀{l:Y Sh} {j:Nat} {ts:TS} {hs:HS} {L:Lens} {K:TS->HS->I R},thawA o t j l ts hs K=some r->Inv L hs->
  ∃ts' hs' L',K ts' hs'=some r/\Inv L' hs'/\Weak Γ (BS L ts hs) (BS L' ts' hs')
 |[],j,ts,hs,L,K,h,hi=>⟨ts,hs,L,h,hi,Weak.refl _ _⟩
 |s::l,j,ts,hs,L,K,h,hi=>by
  have hth:∀{nm:Name} {tc:TC} {v:BV} {es0:Nat} {cells:Y BV},X t ts=some (.agg cells)->cells[j]?=some v->(∀L,v.er L=.p (.sl true es0 []))->
    (if (X nm hs).isNone && Qe2 nm ts hs && Nat.ble 1 (tz tc)then thawA o t (j+1) l ((t,.agg (cells.set j (.own nm 0)))::ts) ((nm,.TI tc [] 0)::hs) K else none)=some r->
    ∃ts' hs' L',K ts' hs'=some r/\Inv L' hs'/\Weak Γ (BS L ts hs) (BS L' ts' hs'):=fun{nm tc v es0 cells} hm hj hv h=>by
   split at h
   case isFalse=>simp at h
   rename_i hb
   simp only[bae]at hb
   obtain⟨L1,hi1,hw1⟩:=QzG (Γ:=Γ) hm hj hv hb.1.1 hb.1.2 hb.2 hi
   obtain⟨ts',hs',L',k1,k2,k3⟩:=QdY h hi1
   exact⟨ts',hs',L',k1,k2,Weak.trans hw1 k3⟩
  unfold thawA at h
  split at h
  .rename_i heq;cases heq
  .rename_i nm r0 heq
   cases heq
   split at h
   .rename_i cells hm
    split at h
    .rename_i tc hj ho;exact hth (es0:=0) hm hj (fun L=>by simp only[BV.er]) h
    .rename_i t0 tc hj ho;exact hth (es0:=tz t0) hm hj (fun L=>by simp only[BV.er,Al]) h
    .exact QdY h hi
   .exact QdY h hi
  .rename_i heq;cases heq;exact QdY h hi
def QbY:∀{s:Y (Nat×SSh)} {ts:TS} {hs:HS} {L:Lens} {K:TS->HS->I R},Qnv o s ts hs K=some r->Inv L hs->
  ∃ts' hs' L',K ts' hs'=some r/\Inv L' hs'/\Weak Γ (BS L ts hs) (BS L' ts' hs')
 |[],ts,hs,L,K,h,hi=>⟨ts,hs,L,h,hi,Weak.refl _ _⟩
 |p::s,ts,hs,L,K,h,hi=>by
  obtain⟨t,sh⟩:=p
  have hth:∀{nm:Name} {tc:TC} {v:BV} {es0:Nat},X t ts=some v->(∀L,v.er L=.p (.sl true es0 []))->
    (if (X nm hs).isNone && Qe2 nm ts hs && Nat.ble 1 (tz tc)then Qnv o s ((t,.own nm 0)::ts) ((nm,.TI tc [] 0)::hs) K else none)=some r->
    ∃ts' hs' L',K ts' hs'=some r/\Inv L' hs'/\Weak Γ (BS L ts hs) (BS L' ts' hs'):=fun{nm tc v es0} hv hv2 h=>by
   split at h
   case isFalse=>simp at h
   rename_i hb
   simp only[bae,Bk]at hb
   let L1:Lens:=fun n u=>if n=nm then 0 else L n u
   obtain⟨e1,e2⟩:=Qfu (L:=L) (L':=L1) (nw:=[nm]) (nv:=[]) (ts:=ts) (hs:=hs) (fun n hn=>by simp only[Ai]at hn;subst hn;exact hb.1.2) (fun p hp=>by simp at hp) (fun n u hn _=>iA (by simpa using hn))
   have hi1:Inv L1 ((nm,.TI tc [] 0)::hs):=fun n t' l u hn=>by
    simp only[X]at hn
    split at hn
    .rename_i e;subst e;cases hn;exact iB rfl
    .rename_i e;show(if n=nm then 0 else L n u)=_;rw[iA (Ag e)];exact hi n t' l u hn
   obtain⟨ts',hs',L',k1,k2,k3⟩:=QbY (Γ:=Γ) h hi1
   refine⟨ts',hs',L',k1,k2,Weak.trans ?_ k3⟩
   obtain⟨l',g1,g2⟩:=QtK ((t,.own nm 0)::erT L ts)
   have hw:=Weak.thaw (Γ:=Γ) (ts:=erT L ts) (ts':=l') (hs:=erH L hs) (t:=t) (es0:=es0) (es:=tz tc) (n:=nm) hb.2 (by rw[UL,hv,Aa,hv2 L]) (by rw[ZP,hb.1.1];rfl) (by rw[Qd9];exact hb.1.2) g2
   refine fun ρ M a w hs0=>?_
   obtain⟨ρ',M',hs1⟩:=hw ρ M a w hs0
   refine⟨ρ',M',hs1.congr (fun k=>?_) (fun k=>?_)⟩
   .show X k (erT L1 ((t,.own nm 0)::ts))=X k l'
    rw[g1]
    show X k ((t,(BV.own nm 0).er L1)::erT L1 ts)=_
    simp only[BV.er,show L1 nm 0=0 from iB rfl,<-e1]
   .show X k (erH L1 ((nm,.TI tc [] 0)::hs))=X k ((nm,.TI (tz tc) [])::erH L hs)
    show X k ((nm,(BO.TI tc [] 0).er L1)::erH L1 hs)=_
    simp only[BO.er,Al,<-e2]
  unfold Qnv at h
  split at h
  .rename_i t1 l1 r0 heq
   cases heq
   obtain⟨ts1,hs1,L1,h,hi1,hw1⟩:=QdY (Γ:=Γ) h hi
   obtain⟨ts2,hs2,L2,h,hi2,hw2⟩:=QbY (Γ:=Γ) h hi1
   exact⟨ts2,hs2,L2,h,hi2,Weak.trans hw1 hw2⟩
  .rename_i nm r0 heq
   split at h
   .rename_i tc hv ho
    cases heq
    exact hth (es0:=0) hv (fun L=>by simp only[BV.er]) h
   .rename_i t0 tc hv ho
    cases heq
    exact hth (es0:=tz t0) hv (fun L=>by simp only[BV.er,Al]) h
   .cases heq;exact QbY h hi
  .rename_i heq;cases heq;exact QbY h hi
  .rename_i heq;cases heq
def QxY(hm:X m hs=some (.box cells))(hj:cells[j]?=some v)(hv:∀L,v.er L=.p (.sl true es0 []))(hb:(X nm hs).isNone=true)(hf:Qe2 nm ts hs=true)(ht:Nat.ble 1 (tz tc)=true)(hi:Inv L hs):
  ∃L',Inv L' ((m,.box (cells.set j (.own nm 0)))::(nm,.TI tc [] 0)::hs)/\Weak Γ (BS L ts hs) (BS L' ts ((m,.box (cells.set j (.own nm 0)))::(nm,.TI tc [] 0)::hs)):=by
 let L1:Lens:=fun n u=>if n=nm then 0 else L n u
 have hnm:X nm hs=none:=Bk.1 hb
 have hne:m≠nm:=fun e=>by subst e;rw[hnm]at hm;simp at hm
 obtain⟨e1,e2⟩:=Qfu (L:=L) (L':=L1) (nw:=[nm]) (nv:=[]) (ts:=ts) (hs:=hs) (fun n hn=>by simp only[Ai]at hn;subst hn;exact hf) (fun p hp=>by simp at hp) (fun n u hn _=>iA (by simpa using hn))
 have ec:erL L cells=erL L1 cells:=by
  have:=Qwt e2 (Q5 hm)
  simp only[BO.er,AO.box.injEq]at this
  exact this
 refine⟨L1,fun n t' l u hn=>?_,fun ρ M a w hs0=>?_⟩
 .simp only[X]at hn
  split at hn
  .cases hn
  .split at hn
   .grind
   .rename_i e;show(if n=nm then 0 else L n u)=_;rw[iA (Ag e)];exact hi n t' l u hn
 .have hs1:Sim Γ ρ M (mk (erT L ts) ((m,.box (erL L cells))::erH L hs)) a w:=hs0.congr (fun k=>rfl) (fun k=>by
   show X k ((m,AO.box (erL L cells))::erH L hs)=X k (erH L hs)
   simp only[X]
   split
   .rename_i e;subst e;rw[ZP,hm];rfl
   .rfl)
  have hfree:QeS nm (erT L ts) ((m,.box (erL L cells))::erH L hs)=true:=by
   have h1:=hf
   rw[<-Qd9 (L:=L)]at h1
   simp only[QeS,bae,BX]at h1 |-
   have h2:=AW.1 h1.2 _ (show(m,AO.box (erL L cells))∈erH L hs from Q5 (by rw[ZP,hm];rfl))
   exact⟨h1.1,h2,h1.2⟩
  obtain⟨ρ',M',hs2⟩:=Weak.thawCell (Γ:=Γ) (ts:=erT L ts) (hs':=erH L hs) (m:=m) (j:=j) (es0:=es0) (es:=tz tc) (n:=nm) (cells:=erL L cells) ht rfl (by rw[QjA,hj,Aa,hv L])
   (by simp only[X,iA hne,ZP,hnm];rfl) hfree rfl ρ M a w hs1
  refine⟨ρ',M',hs2.congr (fun k=>?_) (fun k=>?_)⟩
  .show X k (erT L1 ts)=X k (erT L ts)
   rw[e1]
  .show X k (erH L1 ((m,.box (cells.set j (.own nm 0)))::(nm,.TI tc [] 0)::hs))=X k ((m,.box ((erL L cells).set j (.own nm 0)))::(nm,.TI (tz tc) [])::erH L hs)
   have:erL L1 (cells.set j (.own nm 0))=(erL L cells).set j (.own nm 0):=by
    rw[ec,UG,UG,List.map_set]
    simp only[BV.er,show L1 nm 0=0 from iB rfl]
   show X k ((m,AO.box (erL L1 (cells.set j (.own nm 0))))::(nm,(BO.TI tc [] 0).er L1)::erH L1 hs)=_
   rw[this,<-e2]
   simp only[BO.er,Al]
def QdZ:∀{l:Y Sh} {j:Nat} {hs:HS} {L:Lens} {K:HS->I R},Qp1 o m ts j l hs K=some r->Inv L hs->
  ∃hs' L',K hs'=some r/\Inv L' hs'/\Weak Γ (BS L ts hs) (BS L' ts hs')
 |[],j,hs,L,K,h,hi=>⟨hs,L,h,hi,Weak.refl _ _⟩
 |s::l,j,hs,L,K,h,hi=>by
  have hth:∀{nm:Name} {tc:TC} {v:BV} {es0:Nat} {cells:Y BV},X m hs=some (.box cells)->cells[j]?=some v->(∀L,v.er L=.p (.sl true es0 []))->
    (if (X nm hs).isNone && Qe2 nm ts hs && Nat.ble 1 (tz tc)then Qp1 o m ts (j+1) l ((m,.box (cells.set j (.own nm 0)))::(nm,.TI tc [] 0)::hs) K else none)=some r->
    ∃hs' L',K hs'=some r/\Inv L' hs'/\Weak Γ (BS L ts hs) (BS L' ts hs'):=fun{nm tc v es0 cells} hm hj hv h=>by
   split at h
   case isFalse=>simp at h
   rename_i hb
   simp only[bae]at hb
   obtain⟨L1,hi1,hw1⟩:=QxY (Γ:=Γ) hm hj hv hb.1.1 hb.1.2 hb.2 hi
   obtain⟨hs',L',k1,k2,k3⟩:=QdZ h hi1
   exact⟨hs',L',k1,k2,Weak.trans hw1 k3⟩
  unfold Qp1 at h
  split at h
  .rename_i heq;cases heq
  .rename_i nm r0 heq
   cases heq
   split at h
   .rename_i cells hm
    split at h
    .rename_i tc hj ho;exact hth (es0:=0) hm hj (fun L=>by simp only[BV.er]) h
    .rename_i t0 tc hj ho;exact hth (es0:=tz t0) hm hj (fun L=>by simp only[BV.er,Al]) h
    .exact QdZ h hi
   .exact QdZ h hi
  .rename_i heq;cases heq;exact QdZ h hi
def QgW:∀{l:Y (Name×OSh)} {hs:HS} {L:Lens} {K:HS->I R},Qvi o ts l hs K=some r->Inv L hs->
  ∃hs' L',K hs'=some r/\Inv L' hs'/\Weak Γ (BS L ts hs) (BS L' ts hs')
 |[],hs,L,K,h,hi=>⟨hs,L,h,hi,Weak.refl _ _⟩
 |p::l,hs,L,K,h,hi=>by
  unfold Qvi at h
  split at h
  .rename_i m l0 r0 heq
   cases heq
   obtain⟨hs1,L1,h,hi1,hw1⟩:=QdZ (Γ:=Γ) h hi
   obtain⟨hs2,L2,h,hi2,hw2⟩:=QgW h hi1
   exact⟨hs2,L2,h,hi2,Weak.trans hw1 hw2⟩
  .rename_i heq;cases heq;exact QgW h hi
  .rename_i heq;cases heq
end
end
def QwU(h:QBh ops=true)(ho:ops[ops.size - 1]?=some o):o.guard=none/\∀j,j<ops.size - 1->((masks ops.toList []).getD (ops.size - 1) 0).testBit j=true:=by
 unfold QBh at h
 grind
section
variable {P:AF}
def QK(K:Cont R)(r:R):Exit->AS->Prop:=fun e s'=>∃ts' hs' L',s'=BS L' ts' hs'/\Inv L' hs'/\K e ts' hs'=some r
def Qy0(hn:n∈gn):QwS gn o hs n=true:=by
 unfold QwS
 split
 .rw[Wk.2 hn,CJ]
 .rfl
def QyZ(hn:n∈gn):QqV gn o ts hs n=true:=by
 unfold QqV
 split
 .rw[Wk.2 hn,Bc,Bc]
 .rfl
def Qh6{L:Lens}{ts:TS}{hs:HS}{R:Type}{r:R}{gn:Y Name}{Γ:Ctx}{s:Y (Nat×SSh)}{o:Y (Name×OSh)}{K:STL s×OL o->I R}(hgn:Γ.names=gn)(h:Qoh gn s o ts hs K=some r)(hi:Inv L hs):
  ∃x L',K x=some r/\Inv L' (OL.put 0 o x.2)/\Weak Γ (BS L ts hs) (BS L' (STL.put 0 s x.1) (OL.put 0 o x.2)):=by
 unfold Qoh at h
 simp only[Qlb]at h
 obtain⟨ts1,hs1,h,hi1,hw1⟩:=Qdp hgn h (hi.trim (f:=QwS gn o hs))
 obtain⟨ts2,hs2,L2,h,hi2,hw2⟩:=QbY (Γ:=Γ) h (hi1.trim (f:=QqV gn o ts1 hs1))
 obtain⟨hs2',L2',h,hi2',hw2'⟩:=QgW (Γ:=Γ) h hi2
 obtain⟨x,L3,h,hi3,hle,hk⟩:=QwD h hi2'
 refine⟨x,L3,h,hi3,fun ρ M a w hs0=>?_⟩
 obtain⟨ρ1,M1,h1⟩:=hw1 ρ M a w (hs0.only (f:=QCq s) (g:=QwS gn o hs) fun n hn=>Qy0 (by rw[<-hgn];exact hn))
 have h1':Sim Γ ρ1 M1 (BS L ts1 (Qfa (QqV gn o ts1 hs1) [] hs1)) a w:=by
  have h2:=h1.only (f:=fun _=>true) (g:=QqV gn o ts1 hs1) fun n hn=>QyZ (by rw[<-hgn];exact hn)
  refine h2.congr (fun t=>?_) (fun n=>rfl)
  show(BS L ts1 (Qfa (QqV gn o ts1 hs1) [] hs1)).slot t=(BS L (Qfa (fun _=>true) [] ts1) (Qfa (QqV gn o ts1 hs1) [] hs1)).slot t
  rw[XJ,XJ,Uq];rfl
 obtain⟨ρ2',M2',h2'⟩:=hw2 ρ1 M1 a w h1'
 obtain⟨ρ2,M2,h2⟩:=hw2' ρ2' M2' a w h2'
 have h3:Sim Γ ρ2 M2 (BS L2' (QzL hs2' s ts2) hs2') a w:=by
  refine h2.leS (fun t y hy=>?_) (fun n=>⟨fun y hy=>⟨y,hy,.refl _⟩,fun x hx=>⟨x,hx,.refl _⟩⟩) (fun n x y hx hy=>?_)
  .obtain⟨y',hy',rfl⟩:=QpX hy
   obtain⟨x',hx',hle'⟩:=QzM hi2' hy'
   exact⟨x'.er L2',by rw[XJ,hx'];rfl,hle'⟩
  .rw[XI]at hx hy;rw[hx]at hy;cases hy;exact .inl rfl
 exact⟨ρ2,M2,h3.sle hle (by rw[hgn];exact hk)⟩
def Qff{L:Lens}{ts:TS}{hs:HS}{R:Type}{r:R}{gn:Y Name}{Γ:Ctx}{c:Code}{an:Ann}{K:Cont R}{body:Ann->TS->HS->Cont R->I R}(hgn:Γ.names=gn)(h:around gn an ts hs K body=some r)(hi:Inv L hs)(hb:∀an ts hs L K,body an ts hs K=some r->Inv L hs->TJ P Γ c (BS L ts hs) (QK K r)):TJ P Γ c (BS L ts hs) (QK K r):=by
 unfold around at h
 split at h
 .rename_i s o a
  refine TJ.post ((hb _ _ _ L _ h hi).mono fun e s'=>?_)
  rintro⟨ts',hs',L',rfl,hi',hk⟩
  cases e with
  |normal=>
   obtain⟨x,L2,h2,hi2,hw⟩:=Qh6 hgn hk hi'
   exact⟨_,hw,_,_,L2,rfl,hi2,h2⟩
  |_=>exact⟨_,Weak.refl _ _,_,_,L',rfl,hi',hk⟩
 .obtain⟨ts1,hs1,h,hi1,hw1⟩:=Qdp hgn h hi
  exact TJ.weaken _ (fun ρ M a w hs0=>hw1 ρ M a w hs0) (hb _ _ _ L _ h hi1)
 .simp at h
 .exact hb _ _ _ L _ h hi
def QmX[AL R](hE:Qp9 P E)(hgn:Γ.names=gn)(hn:Γ.n=nn):∀(c:Code) (an:Ann) (ts:TS) (hs:HS) (L:Lens) (K:Cont R),vc P ty E gn nn fu c an ts hs K=some r->Inv L hs->TJ P Γ c (BS L ts hs) (QK K r)
 |.skip,an,ts,hs,L,K,h,hi=>TJ.skip ⟨_,_,L,rfl,hi,by simpa only[vc]using h⟩
 |.label _,an,ts,hs,L,K,h,hi=>TJ.label ⟨_,_,L,rfl,hi,by simpa only[vc]using h⟩
 |.ret,an,ts,hs,L,K,h,hi=>TJ.ret ⟨_,_,L,rfl,hi,by simpa only[vc]using h⟩
 |.exit id,an,ts,hs,L,K,h,hi=>TJ.exit ⟨_,_,L,rfl,hi,by simpa only[vc]using h⟩
 |.seq a b,an,ts,hs,L,K,h,hi=>by
  simp only[vc]at h
  refine Qff hgn h hi fun an ts hs L K h hi=>TJ.seq ((QmX hE hgn hn a _ _ _ L _ h hi).mono fun e s'=>?_)
  rintro⟨ts',hs',L',rfl,hi',hk⟩
  cases e with
  |normal=>exact QmX hE hgn hn b _ _ _ L' _ hk hi'
  |_=>exact⟨_,_,L',rfl,hi',hk⟩
 |.cond (.tmp t) a b,an,ts,hs,L,K,h,hi=>by
  simp only[vc]at h
  refine Qff hgn h hi fun an ts hs L K h hi=>?_
  split at h
  .rename_i q hl
   refine TJ.cond q (by rw[XJ,hl];simp only[Aa,BV.er]) (fun hq=>?_) (fun hq=>?_)
   .subst hq;exact QmX hE hgn hn a _ _ _ L _ h hi
   .subst hq;exact QmX hE hgn hn b _ _ _ L _ h hi
  .rename_i hl
   obtain⟨h1,h2⟩:=Qv7 h
   intro ρ M w0 w hs0
   obtain⟨u,hu,hr⟩:=hs0.slots t _ (show(BS L ts hs).slot t=some .ub by rw[XJ,hl];simp only[Aa,BV.er])
   simp only[AV.R]at hr
   obtain⟨q,rfl⟩:=hr
   have he:w0.eval (.tmp t)=.bool q:=by simp[Act.eval,BH,hu]
   cases q with
   |true=>exact wp_cond_true he (QmX hE hgn hn a _ _ _ L _ h1 hi ρ M w0 w hs0)
   |false=>exact wp_cond_false he (QmX hE hgn hn b _ _ _ L _ h2 hi ρ M w0 w hs0)
  .simp at h
 |.cond (.const c) a b,an,ts,hs,L,K,h,hi=>by
  cases c with
  |bool q=>
   simp only[vc]at h
   refine Qff hgn h hi fun an ts hs L K h hi=>?_
   cases q with
   |true=>exact fun ρ M w0 w hs0=>wp_cond_true rfl (QmX hE hgn hn a _ _ _ L _ h hi ρ M w0 w hs0)
   |false=>exact fun ρ M w0 w hs0=>wp_cond_false rfl (QmX hE hgn hn b _ _ _ L _ h hi ρ M w0 w hs0)
  |_=>simp[vc]at h
 |.cond (.global _) a b,an,ts,hs,L,K,h,hi=>by simp[vc]at h
 |.cond (.func _) a b,an,ts,hs,L,K,h,hi=>by simp[vc]at h
 |.block id a,an,ts,hs,L,K,h,hi=>by
  simp only[vc]at h
  refine Qff hgn h hi fun an ts hs L K h hi=>TJ.block ((QmX hE hgn hn a _ _ _ L _ h hi).mono fun e s'=>?_)
  rintro⟨ts',hs',L',rfl,hi',hk⟩
  cases e with
  |exit k=>
   simp only[QnJ]
   simp only[QzU]at hk
   split at hk
   .rename_i he;rw[iB (nbe he)];exact⟨_,_,L',rfl,hi',hk⟩
   .rename_i he;rw[iA (fun e=>he (by rw[e];exact B3 _))];exact⟨_,_,L',rfl,hi',hk⟩
  |_=>exact⟨_,_,L',rfl,hi',hk⟩
 |.loop a,an,ts,hs,L,K,h,hi=>by
  simp only[vc]at h
  split at h
  .rename_i s o an
   obtain⟨x,L1,h,hi1,hw⟩:=Qh6 hgn h hi
   refine TJ.weaken _ hw (TJ.loop (fun m s'=>∃x L',s'=BS L' (STL.put 0 s x.1) (OL.put 0 o x.2)/\Inv L' (OL.put 0 o x.2)/\Qe (fun Lp x=>vc P ty E gn nn fu a an (STL.put 0 s x.1) (OL.put 0 o x.2) (Qzb K fun ts hs=>Qoh gn s o ts hs Lp)) m x=some r)
    ⟨fu,x,L1,rfl,hi1,h⟩ ?_)
   rintro m s' ⟨x,L',rfl,hi',hm⟩
   cases m with
   |zero=>simp[Qe]at hm
   |succ m=>
    simp only[Qe]at hm
    refine TJ.post ((QmX hE hgn hn a _ _ _ L' _ hm hi').mono fun e s'=>?_)
    rintro⟨ts2,hs2,L2,rfl,hi2,hk⟩
    cases e with
    |normal=>
     obtain⟨x',L3,h3,hi3,hw3⟩:=Qh6 hgn hk hi2
     exact⟨_,hw3,m,Nat.lt_succ_self m,x',L3,rfl,hi3,h3⟩
    |_=>exact⟨_,Weak.refl _ _,_,_,L2,rfl,hi2,hk⟩
  .simp at h
 |.region id ops dr,an,ts,hs,L,K,h,hi=>by
  simp only[vc]at h
  refine Qff hgn h hi fun an ts hs L K h hi=>?_
  cases dr with
  |false=>
   intro ρ M a w hs0
   refine wp_region ?_
   have:=Qxx (gn:=gn) (Γ:=Γ) (ops:=ops) (Q:=fun e a' w'=>∃s' ρ' M',QK K r e s'/\Sim Γ ρ' M' s' a' w') hE hgn hn (fun ts' hs' L' ρ' M' a' w' hk hi' hs'=>⟨_,ρ',M',⟨_,_,L',rfl,hi',hk⟩,hs'⟩) ops.size 0 ts hs L h hi ρ M a w hs0
   rwa [Br,<-Eb]at this
  |true=>
   simp only at h
   split at h
   case isFalse=>simp at h
   rename_i hm
   split at h
   .rename_i hlb
    obtain⟨rows,ts',hs',L',hk,hi',hst,hts,hhs,hg⟩:=Qgp hE (ops.size - 1) 0 [] ts hs L h hi
    change (if QlX ops (rows++[noB]) ts hs=true then(match ops[ops.size - 1]? with
     |some o=>exK P ty E gn nn (guarded ops) [] o ts' hs' (fun ts hs=>K .normal ts hs)
     |none=>none)else none)=some r at hk
    by_cases hind:QlX ops (rows++[noB]) ts hs=true
    case neg=>rw[iA hind]at hk;simp at hk
    rw[iB hind]at hk
    cases hop:ops[ops.size - 1]? with
    |none=>rw[hop]at hk;simp at hk
    |some o=>
    rw[hop]at hk
    replace hk:exK P ty E gn nn (guarded ops) [] o ts' hs' (fun ts hs=>K .normal ts hs)=some r:=hk
    have h0:0<ops.size:=by
     grind
    obtain⟨hg0,hmask⟩:=QwU hlb hop
    show TJ P Γ _ (mk (erT L ts) (erH L hs)) _
    rw[hts,hhs]
    have hrow:(rows++[noB]).map (BRow.row L')=rows.map (BRow.row L')++[Qdv]:=by simp[noB,Qdv,BRow.row,ev,erT,erH,BV.er]
    have hind':=QqT hind L'
    rw[hrow]at hind'
    refine TJ.drawX hn (by rw[hm,Bc]) h0 _ hst hg hind' hmask fun KK hKK=>?_
    exact Qww hE hgn hn hk (fun t v h=>by simp at h) (fun t v h=>by simp at h) Ob hi' hop (fun ρ M a w _=>by simp[Region.wanted,hg0]) (fun ts2 hs2 L2 ρ' M' a' w' hk2 hi2 hs2'=>hKK _ ρ' M' a' w' ⟨_,_,L2,rfl,hi2,hk2⟩ hs2')
   obtain⟨rows,ts',hs',L',hk,hi',hst,hts,hhs,hg⟩:=Qgp hE ops.size 0 [] ts hs L h hi
   change (if QlX ops rows ts hs=true then K .normal ts' hs' else none)=some r at hk
   split at hk
   case isFalse=>simp at hk
   rename_i hind
   show TJ P Γ _ (mk (erT L ts) (erH L hs)) _
   rw[hts,hhs]
   exact TJ.drawG hn (by rw[hm,Bc]) _ hst hg (QqT hind L') ⟨_,_,L',rfl,hi',hk⟩
 |.rangeFunc ..,an,ts,hs,L,K,h,hi=>by simp[vc]at h
 |.scope _,an,ts,hs,L,K,h,hi=>by simp[vc]at h
 |.goto _,an,ts,hs,L,K,h,hi=>by simp[vc]at h
 |.refuse _,an,ts,hs,L,K,h,hi=>by simp[vc]at h
end
section
variable (P:AF)
def resV(ts:TS)(hs:HS):ResultVar->I BV
 |.tmp t=>X t ts
 |.cell t T=>match X t ts with
  |some (.TM n 0)=>match X n hs with
   |some (.box cells)=>if aggT P T then(match Zl P T with|some z=>if Nat.beq z cells.length then some (.agg cells)else none|none=>none)
    else if Qcy P T then(match cells with|[v]=>some v|_=>none)else none
   |_=>none
  |_=>none
def QsT(ts:TS)(hs:HS):Y ResultVar->I (Y BV)
 |[]=>some []
 |x::q=>match resV P ts hs x,QsT ts hs q with
  |some v,some vs=>some (v::vs)
  |_,_=>none
def Sh.owns:Sh->Y Name
 |.own nm=>[nm]
 |.view nm=>[nm]
 |_=>[]
def SSh.owns:SSh->Y Name
 |.one s=>s.owns
 |.st _=>[]
 |.agg l=>l.flatMap Sh.owns
def OSh.owns:OSh->Y Name
 |.box l=>l.flatMap Sh.owns
 |_=>[]
def arrB(l:Y (Name×OSh))(n:Name):AH:=match X n l with
 |some (.TI _)=>true
 |_=>false
def TF[AL α](a b:α)(x:I R):I R:=if a=b then x else none
def QiA(hs:HS):(l:Y (Name×OSh))->Y Name->OL l->I R->I R
 |[],_,_,x=>x
 |(nm,.TI t)::l,ks,y,x=>if isIn nm ks then(match X nm hs with
   |some (.TI t' z _)=>if h:t'=t then TF (Qqn h z) y.1 (QiA hs l ks y.2 x)else none
   |_=>none)else QiA hs l ks y.2 x
 |(nm,.box _)::l,ks,y,x=>if isIn nm ks then none else QiA hs l ks y.2 x
 |(nm,.arrs _)::l,ks,y,x=>if isIn nm ks then none else QiA hs l ks y.2 x
 |(nm,.sm)::l,ks,y,x=>if isIn nm ks then none else QiA hs l ks y.2 x
 |(nm,.TV t)::l,ks,y,x=>if isIn nm ks then(match X nm hs with
   |some (.box cs)=>tpop t cs fun z rest=>match rest with
    |[]=>TF z y.1 (QiA hs l ks y.2 x)
    |_=>none
   |_=>none)else QiA hs l ks y.2 x
def QxM:Y ResultVar->Y SSh->Y (Nat×SSh)
 |.tmp t::r,s::q=>(t,s)::QxM r q
 |_::r,_::q=>QxM r q
 |_,_=>[]
def Qte(ts:TS):Y ResultVar->Y SSh->Y (Name×OSh)
 |.cell t _::r,.agg l::q=>(match X t ts with
  |some (.TM m 0)=>(m,.box l)::Qte ts r q
  |_=>Qte ts r q)
 |_::r,_::q=>Qte ts r q
 |_,_=>[]
def endK(gn:Y Name)(rs:Y ResultVar)(g:Sig)(y:OL g.pre)(K:SL g.res->OL g.post->I R)(ts:TS)(hs:HS):I R:=
 Qnv g.post (QxM rs g.res) ts hs fun ts hs=>Qvi g.post ts (Qte ts rs g.res) hs fun hs=>match QsT P ts hs rs with
 |none=>none
 |some vs=>Tb gn (QaQ g.post hs g.res vs) ts hs fun ts hs=>match QsT P ts hs rs with
  |none=>none
  |some vs=>SL.get g.res (Qp3 hs g.res vs) [] fun σ a=>OL.get g.post hs ((keys g.post).map (fun n=>(n,(n,QCL n hs)))++σ) fun σ b=>
    if QBd σ && (keys g.pre).all (fun n=>isIn n (keys g.post) || isIn n g.keep) && g.keep.all (fun n=>isIn n (keys g.pre)) && (g.res.flatMap SSh.owns).all (arrB g.post) && (g.post.flatMap fun p=>p.2.owns).all (arrB g.post)then QiA hs g.pre g.keep y (K a b)else none
end
open Go
def Qw5(h1:∀n o',X n h'=some o'->∃o,X n h=some o)(h2:∀n o,X n h=some o->∃o',X n h'=some o'):newM M ρ h=newM M ρ h':=by
 funext b
 exact propext (or_congr_right ⟨fun⟨n,o,k1,k2⟩=>by obtain⟨o',k3⟩:=h2 n o k1;exact⟨n,o',k3,k2⟩,fun⟨n,o,k1,k2⟩=>by obtain⟨o',k3⟩:=h1 n o k1;exact⟨n,o',k3,k2⟩⟩)
def After.le(ha:After ρ M w pre u v h ρ' w')(hv:∀(ρ:Name->Loc) (H:Heap) (M:Nat->Prop) (w:AG) (u:AE),v.R ρ H M w u->v'.R ρ H M w u)(h1:∀n o',X n h'=some o'->∃o,X n h=some o/\(o=o'\/∃cs ds,o=.box cs/\o'=.box ds/\Wh cs ds))(h2:∀n o,X n h=some o->∃o',X n h'=some o'):After ρ M w pre u v' h' ρ' w':=by
 have hM:newM M ρ' h=newM M ρ' h':=Qw5 (fun n o' hn=>by obtain⟨o,k,_⟩:=h1 n o' hn;exact⟨o,k⟩) h2
 have hst:Qdk ρ' (X2 h) ρ' (X2 h'):=fun n o hn=>by
  obtain⟨o',ho'⟩:=h2 n o hn
  obtain⟨o2,ho2,hle⟩:=h1 n o' ho'
  change X n h=some o at hn
  rw[hn]at ho2;cases ho2
  change stays o (ρ' n) (X n h') (ρ' n)
  rw[ho']
  rcases hle with rfl|⟨cs,ds,rfl,rfl,_⟩
  .exact Zj _ _
  .rfl
 have hnn:∀n,X2 h n=none->X2 h' n=none:=fun n hn=>by
  cases hc:X2 h' n with
  |none=>rfl
  |some o'=>
   obtain⟨o,ho,_⟩:=h1 n o' hc
   change X n h=none at hn
   simp_all
 have hconvs:∀{xs:Y AV} {us:Y AE},AV.Rs ρ' (X2 h) (newM M ρ' h) w' xs us->AV.Rs ρ' (X2 h') (newM M ρ' h) w' xs us:=fun hr=>
  hr.step (Ext.refl (fun _=>False) _) (fun _ hb=>hb.elim) (fun b _ hb=>hb) hst (fun n _=>hnn n)
 refine⟨?_,fun n o' hn=>?_,fun n m o o' b g1 g2=>?_,fun n o b g1 g2=>?_,ha.ext,fun n o hn=>?_⟩
 .rw[<-hM]
  exact hv _ _ _ _ _ (ha.val.step (Ext.refl (fun _=>False) _) (fun _ hb=>hb.elim) (fun b _ hb=>hb) hst (fun n _=>hnn n))
 .obtain⟨o,ho,hle⟩:=h1 n o' hn
  have hobj:=ha.objs n o ho
  rw[<-hM]
  rcases hle with rfl|⟨cs,ds,rfl,rfl,hle⟩
  .cases o with
   |box cells=>obtain⟨b,T,cs,k1,k2,k3,k4⟩:=hobj;exact⟨b,T,cs,k1,k2,k3,hconvs k4⟩
   |TI es rows=>exact hobj
   |hole es pre row post=>obtain⟨k0,k0',k1,b,T,cs,k3,k4,k5,k6,k7,k8,k9⟩:=hobj;exact⟨k0,k0',k1,b,T,cs,k3,k4,k5,k6,k7,hconvs k8,k9⟩
   |fact a x=>exact⟨hobj.1,hobj.2.step (Ext.refl (fun _=>False) _) (fun _ hb=>hb.elim) (fun b _ hb=>hb) hst (fun n _=>hnn n)⟩
   |obj x=>exact hobj
  .obtain⟨b,T,us',k1,k2,k3,k4⟩:=hobj
   exact⟨b,T,us',k1,k2,k3,Qvv hle _ (hconvs k4)⟩
 .obtain⟨p,k1,_⟩:=h1 n o g1
  obtain⟨q,k2,_⟩:=h1 m o' g2
  exact ha.inj n m p q b k1 k2
 .obtain⟨p,k1,_⟩:=h1 n o g1
  exact ha.own n p b k1 g2
 .obtain⟨o1,k1,k2⟩:=ha.keep n o hn
  obtain⟨o2,k3⟩:=h2 n o1 k1
  refine⟨o2,k3,?_⟩
  obtain⟨o3,k4,hle⟩:=h1 n o2 k3
  rw[k1]at k4;cases k4
  rcases hle with rfl|⟨cs,ds,rfl,rfl,_⟩
  .exact k2
  .cases o<;>simp only[stays]at k2|-<;>exact k2
section
def Sh.put_ver{s:Sh}{x:s.prod zF}(h:∀n,n∈s.owns->L n u=L' n v):(s.put u zF x).1.er L=(s.put v zF x).1.er L'/\(s.put u zF x).2=(s.put v zF x).2:=by
 cases s with
 |own nm=>exact⟨by simp only[Sh.put,BV.er];rw[h nm (by simp[Sh.owns])],rfl⟩
 |view nm=>exact⟨by simp only[Sh.put,BV.er];rw[h nm (by simp[Sh.owns])],rfl⟩
 |clo f caps=>exact⟨by simp only[Sh.put,BV.er];congr 1;simp only[UG,CN];exact Bn fun n _=>by simp only[Function.comp,BV.er],rfl⟩
 |_=>exact⟨by simp only[Sh.put,BV.er],rfl⟩
def TL.put_ver:∀{l:Y Sh} {x:TL l},(∀n,n∈l.flatMap Sh.owns->L n u=L' n v)->erL L (TL.put u l x)=erL L' (TL.put v l x)
 |[],x,_=>by simp only[TL.put,erL]
 |s::r,x,h=>by
  have h1:=Sh.put_ver (s:=s) (x:=x) (L:=L) (L':=L') (u:=u) (v:=v) (fun n hn=>h n (by simp[hn]))
  have h2:=TL.put_ver (l:=r) (x:=(s.put u _ x).2) (fun n hn=>h n (by rw[EM];exact CD _ hn))
  simp only[TL.put,erL,h1.1,h2]
  rw[h1.2]
def SSh.put_ver{s:SSh}{x:s.prod zF}(h:∀n,n∈s.owns->L n u=L' n v):(s.put u zF x).1.er L=(s.put v zF x).1.er L'/\(s.put u zF x).2=(s.put v zF x).2:=by
 cases s with
 |one s=>exact Sh.put_ver h
 |st t=>simp only[SSh.put,BV.er,and_true];rw[V9 (QdX t x.1),V9 (QdX t x.1)]
 |agg l=>simp only[SSh.put,BV.er,and_true];rw[TL.put_ver h]
def SL.put_ver:∀{l:Y SSh} {x:SL l},(∀n,n∈l.flatMap SSh.owns->L n u=L' n v)->erL L (SL.put u l x)=erL L' (SL.put v l x)
 |[],x,_=>by simp only[SL.put,erL]
 |s::r,x,h=>by
  have h1:=SSh.put_ver (s:=s) (x:=x) (L:=L) (L':=L') (u:=u) (v:=v) (fun n hn=>h n (by simp[hn]))
  have h2:=SL.put_ver (l:=r) (x:=(s.put u _ x).2) (fun n hn=>h n (by rw[EM];exact CD _ hn))
  simp only[SL.put,erL,h1.1,h2]
  rw[h1.2]
def OSh.put_ver{s:OSh}{x:s.T}(h:∀n,n∈s.owns->L n u=L' n v):(s.put u x).er L=(s.put v x).er L':=by
 cases s with
 |box l=>exact BC AO.box (TL.put_ver (l:=l) (x:=x) h)
 |TV t=>simp only[OSh.put,BO.er];rw[V9 (QdX t x),V9 (QdX t x)]
 |TI t=>simp only[OSh.put,BO.er]
 |arrs t=>simp only[OSh.put,BO.er]
 |sm=>simp only[OSh.put,BO.er]
end
def Qsp:∀{l:Y (Name×OSh)} {y:OL l},X n (OL.put u l y)=some b->∃(p:Name×OSh) (x:p.2.T),p∈l/\X n l=some p.2/\b=p.2.put u x/\∀w,X n (OL.put w l y)=some (p.2.put w x)
 |[],y,h=>by change X n []=some b at h;simp[X]at h
 |p::l,y,h=>by
  change X n ((p.1,p.2.put u y.1)::OL.put u l y.2)=some b at h
  simp only[X]at h
  split at h
  .rename_i e
   cases h
   refine⟨p,y.1,Ob,by obtain⟨k,o⟩:=p;simp only[X];rw[iB e],rfl,fun w=>?_⟩
   change X n ((p.1,p.2.put w y.1)::OL.put w l y.2)=_
   simp only[X];rw[iB e]
  .rename_i e
   obtain⟨q,x,h1,h2,h3,h4⟩:=Qsp h
   refine⟨q,x,BB _ h1,by obtain⟨k,o⟩:=p;simp only[X];rw[iA e];exact h2,h3,fun w=>?_⟩
   change X n ((p.1,p.2.put w y.1)::OL.put w l y.2)=_
   simp only[X];rw[iA e];exact h4 w
def Qb3:Nat->Y BV->TS
 |_,[]=>[]
 |i,x::r=>(i,x)::Qb3 (i+1) r
def Qlh:∀(i:Nat) (l:Y BV),Qbx i (erL L l)=erT L (Qb3 i l)
 |_,[]=>by simp only[erL,Qbx,Qb3];rfl
 |i,x::r=>by simp only[erL,Qbx,Qb3,Qlh (i+1) r];rfl
def Wh.Ts:∀{xs ys:Y AV} {us:Y AE},Wh xs ys->AV.Ts ρ H M w xs us->AV.Ts ρ H M w ys us
 |[],ys,us,h,hr=>by cases h;exact hr
 |x::xs,ys,us,h,hr=>by
  cases h with
  |cons h1 h2=>
   simp only[AV.Ts]at hr |-
   obtain⟨u,us',rfl,h3,h4⟩:=hr
   exact⟨u,us',rfl,h1.sound u h3,Wh.Ts h2 h4⟩
def QxD(h:Wh (erL L vs) (erL L' ws))(ρ)(H)(M)(w)(u)(hr:((resB vs).er L).R ρ H M w u):((resB ws).er L').R ρ H M w u:=by
 have hl:vs.length=ws.length:=by have:=h.len;rwa [X0,X0]at this
 match vs,ws,hl with
 |[],[],_=>exact hr
 |[v],[x],_=>
  simp only[erL]at h
  cases h with
  |cons h1 _=>exact h1.sound u hr
 |v1::v2::vs,x1::x2::ws,_=>
  simp only[resB,BV.er,AV.R]at hr |-
  obtain⟨us,rfl,h2⟩:=hr
  exact⟨us,rfl,Wh.Ts h h2⟩
section
def Qoa:∀{rs:Y ResultVar} {vs:Y BV},QsT P ts hs rs=some vs->vs.length=rs.length/\Res1s P (BS L ts hs) rs (erL L vs)
 |[],vs,h=>by simp only[QsT,AP]at h;subst h;exact⟨rfl,by simp only[erL];rfl⟩
 |x::q,vs,h=>by
  simp only[QsT]at h
  split at h
  .rename_i v vs' h1 h2
   cases h
   obtain⟨k1,k2⟩:=Qoa h2
   refine⟨by simp[k1],⟨v.er L,erL L vs',by simp only[erL],?_,k2⟩⟩
   cases x with
   |tmp t=>
    simp only[resV]at h1
    show(BS L ts hs).slot t=_
    rw[XJ,h1];rfl
   |cell t T=>
    simp only[resV]at h1
    split at h1
    .rename_i n ht
     split at h1
     .rename_i cells hc
      refine⟨n,erL L cells,by rw[XJ,ht];simp only[Aa,BV.er],by rw[XI,hc];rfl,?_⟩
      split at h1
      .rename_i hT
       split at h1
       .rename_i z hz
        split at h1
        .rename_i hb;cases h1;exact .inl ⟨hT,by rw[hz,X0,nbe hb],by simp only[BV.er]⟩
        .simp at h1
       .simp at h1
      .split at h1
       .rename_i hT
        split at h1
        .cases h1;exact .inr ⟨hT,by simp only[erL]⟩
        .simp at h1
       .simp at h1
     .simp at h1
    .simp at h1
  .simp at h
def QCB(h:QsT P ts hs rs.toList=some vs):Res P (BS L ts hs) rs ((resB vs).er L):=by
 obtain⟨h1,h2⟩:=Qoa (L:=L) h
 unfold Res
 match vs,h1 with
 |[],h1=>
  have:¬rs.size=1:=fun e=>by rw[<-BW,<-h1]at e;simp at e
  rw[iA this];exact⟨_,by simp only[resB,BV.er],h2⟩
 |[v],h1=>
  have:rs.size=1:=by rw[<-BW,<-h1];rfl
  rw[iB this];simpa only[resB,erL]using h2
 |v1::v2::vs,h1=>
  have:¬rs.size=1:=fun e=>by rw[<-BW,<-h1]at e;simp at e
  rw[iA this];exact⟨_,by simp only[resB,BV.er],h2⟩
def Up:∀{l:Y (Name×OSh)} {ks:Y Name} {y:OL l} {x:I R},QiA hs l ks y x=some r->
  x=some r/\∀n b,n∈ks->X n (OL.put 0 l y)=some b->(∃t z v,b=.TI t z 0/\X n hs=some (.TI t z v))\/∃t z cs,b=.box (tb t z)/\X n hs=some (.box cs)/\Le cs (tb t z)
 |[],ks,y,x,h=>⟨h,fun n b _ hn=>by change X n []=some b at hn;simp[X]at hn⟩
 |(nm,o)::l,ks,y,x,h=>by
  have hrest:(x=some r/\∀n b,n∈ks->X n (OL.put 0 l y.2)=some b->(∃t z v,b=.TI t z 0/\X n hs=some (.TI t z v))\/∃t z cs,b=.box (tb t z)/\X n hs=some (.box cs)/\Le cs (tb t z))->
    (isIn nm ks=true->(∃t z v,o.put 0 y.1=.TI t z 0/\X nm hs=some (.TI t z v))\/∃t z cs,o.put 0 y.1=.box (tb t z)/\X nm hs=some (.box cs)/\Le cs (tb t z))->
    x=some r/\∀n b,n∈ks->X n (OL.put 0 ((nm,o)::l) y)=some b->(∃t z v,b=.TI t z 0/\X n hs=some (.TI t z v))\/∃t z cs,b=.box (tb t z)/\X n hs=some (.box cs)/\Le cs (tb t z):=fun hr hq=>by
   refine⟨hr.1,fun n b hn hb=>?_⟩
   change X n ((nm,o.put 0 y.1)::OL.put 0 l y.2)=some b at hb
   simp only[X]at hb
   split at hb
   .rename_i e
    subst e;cases hb
    exact hq (Wk.2 hn)
   .exact hr.2 n b hn hb
  cases o with
  |TI t=>
   simp only[QiA]at h
   split at h
   .split at h
    .rename_i t' z v hl
     split at h
     .rename_i he
      subst he
      unfold TF at h
      split at h
      .rename_i hz
       exact hrest (Up h) (fun _=>.inl ⟨_,_,v,rfl,by rw[hl,<-hz];rfl⟩)
      .simp at h
     .simp at h
    .simp at h
   .rename_i hin
    exact hrest (Up h) (fun hi=>absurd hi hin)
  |TV t=>
   simp only[QiA]at h
   split at h
   .split at h
    .rename_i cs hl
     obtain⟨z,rest,hle,h⟩:=Qd0 t h
     split at h
     .unfold TF at h
      split at h
      .rename_i hz
       refine hrest (Up h) (fun _=>.inr ⟨t,y.1,cs,rfl,hl,?_⟩)
       rw[An]at hle
       rw[<-hz];exact hle
      .simp at h
     .simp at h
    .simp at h
   .rename_i hin
    exact hrest (Up h) (fun hi=>absurd hi hin)
  |box c=>
   simp only[QiA]at h
   split at h
   .simp at h
   .rename_i hin
    exact hrest (Up h) (fun hi=>absurd hi hin)
  |arrs c=>
   simp only[QiA]at h
   split at h
   .simp at h
   .rename_i hin
    exact hrest (Up h) (fun hi=>absurd hi hin)
  |sm=>
   simp only[QiA]at h
   split at h
   .simp at h
   .rename_i hin
    exact hrest (Up h) (fun hi=>absurd hi hin)
def Qj5:∀{l:Y SSh} {x:SL l},(SL.put u l x).length=l.length
 |[],_=>rfl
 |s::r,x=>by simp only[SL.put,Ad,Qj5 (l:=r)]
def QjI:(l:Y (Name×OSh))->OL l->Name->I Nat
 |[],_,_=>none
 |(k,.TI _)::r,y,n=>if Nat.beq k n then some y.1.length else QjI r y.2 n
 |(k,.arrs _)::r,y,n=>if Nat.beq k n then none else QjI r y.2 n
 |(k,.box _)::r,y,n=>if Nat.beq k n then none else QjI r y.2 n
 |(k,.TV _)::r,y,n=>if Nat.beq k n then none else QjI r y.2 n
 |(k,.sm)::r,y,n=>if Nat.beq k n then none else QjI r y.2 n
def lenB(pre:Y (Name×OSh))(y:OL pre):(l:Y (Name×OSh))->OL l->I R->I R
 |[],_,x=>x
 |(n,.arrs _)::r,b,x=>match QjI pre y n with
  |some m=>chk b.1.length m (lenB pre y r b.2 x)
  |none=>none
 |(_,.TI _)::r,b,x=>lenB pre y r b.2 x
 |(_,.box _)::r,b,x=>lenB pre y r b.2 x
 |(_,.TV _)::r,b,x=>lenB pre y r b.2 x
 |(_,.sm)::r,b,x=>lenB pre y r b.2 x
def QnV:∀{l:Y (Name×OSh)} {y:OL l} {n:Name} {m:Nat},QjI l y n=some m->∃(t:TC) (z:Y (TT t)),X n (OL.put 0 l y)=some (.TI t z 0)/\z.length=m
 |[],y,n,m,h=>by simp[QjI]at h
 |(k,o)::r,y,n,m,h=>by
  have hrest:QjI r y.2 n=some m->k≠n->∃(t:TC) (z:Y (TT t)),X n (OL.put 0 ((k,o)::r) y)=some (.TI t z 0)/\z.length=m:=fun h e=>by
   obtain⟨t,z,h1,h2⟩:=QnV h
   refine⟨t,z,?_,h2⟩
   change X n ((k,o.put 0 y.1)::OL.put 0 r y.2)=_
   simp only[X];rw[iA e];exact h1
  cases o<;>simp only[QjI]at h<;>split at h
  all_goals first
   |(simp at h;done)
   |(rename_i e;exact hrest h (fun h'=>e (by rw[h'];exact B3 _)))
   |skip
  rename_i t e
  have:=nbe e;subst this
  refine⟨t,y.1,?_,by simpa using h⟩
  change X k ((k,_)::OL.put 0 r y.2)=_
  simp only[X,if_true];rfl
def QfB:∀{l:Y (Name×OSh)} {b:OL l} {x:I R},lenB pre y l b x=some r->
  x=some r/\∀n (t:TC) (z:Y (TT t)),X n (OL.put 1 l b)=some (.TI t z 0)->QjI pre y n=some z.length
 |[],b,x,h=>⟨h,fun n t z hn=>by change X n []=_ at hn;simp[X]at hn⟩
 |(k,o)::l,b,x,h=>by
  have hrest:lenB pre y l b.2 x=some r->(∀(t:TC) (z:Y (TT t)),o.put 1 b.1=.TI t z 0->QjI pre y k=some z.length)->
    x=some r/\∀n (t:TC) (z:Y (TT t)),X n (OL.put 1 ((k,o)::l) b)=some (.TI t z 0)->QjI pre y n=some z.length:=fun h hq=>by
   obtain⟨h1,h2⟩:=QfB h
   refine⟨h1,fun n t z hn=>?_⟩
   change X n ((k,o.put 1 b.1)::OL.put 1 l b.2)=_ at hn
   simp only[X]at hn
   split at hn
   .rename_i e;subst e;exact hq t z (Be hn)
   .exact h2 n t z hn
  cases o with
  |arrs t=>
   simp only[lenB]at h
   split at h
   .rename_i m hm
    obtain⟨e,h⟩:=Qgo h
    refine hrest h fun t' z hz=>?_
    simp only[OSh.put]at hz
    cases hz
    rw[hm,<-e]
   .simp at h
  |TI t=>exact hrest h fun t' z hz=>by simp at hz;injection hz with _ _ h3;simp at h3
  |box t=>exact hrest h fun t' z hz=>by simp[OSh.put]at hz
  |TV t=>exact hrest h fun t' z hz=>by simp[OSh.put]at hz
  |sm=>exact hrest h fun t' z hz=>by simp[OSh.put]at hz
def Qec{R R':Type}{r:R}{r':R'}{pre:Y (Name×OSh)}{y:OL pre}:∀{l:Y (Name×OSh)} {b:OL l} {x:I R},lenB pre y l b x=some r->lenB pre y l b (some r')=some r'
 |[],b,x,h=>rfl
 |(k,.arrs t)::l,b,x,h=>by
  simp only[lenB]at h |-
  split at h
  .obtain⟨e,h⟩:=Qgo h
   unfold chk;rw[iB e];exact Qec h
  .simp at h
 |(k,.TI t)::l,b,x,h=>Qec (l:=l) h
 |(k,.box t)::l,b,x,h=>Qec (l:=l) h
 |(k,.TV t)::l,b,x,h=>Qec (l:=l) h
 |(k,.sm)::l,b,x,h=>Qec (l:=l) h
def Qn(args:Y SSh)(pre:Y (Name×OSh))(res:Y SSh)(post:Y (Name×OSh))(keep:Y Name)(Ret:Type)(un:Ret->SL res×OL post)(f:SL args->OL pre->I Ret):Sig:=
 ⟨args,pre,res,post,keep,fun _ x y K=>O (f x y) fun q=>lenB pre y post (un q).2 (K (un q).1 (un q).2)⟩
def finK(P:AF)(gn:Y Name)(rs:Y ResultVar)(g:Sig)(y:OL g.pre)(K:SL g.res->OL g.post->I R):Cont R:=fun e ts hs=>match e with
 |.normal=>endK P gn rs g y K ts hs
 |.ret=>endK P gn rs g y K ts hs
 |_=>none
def FnOK.intro[AL Ret](conv:SL res->OL post->Ret)(hcu:∀a b,un (conv a b)=(a,b))(hE:Qp9 P E)(hf:P.funcs[f]?=some fn)(hb:fn.body=some c)(hlen:Nat.ble args.length fn.ntmps=true)(hF:∀x y,vc P ty E (keys pre) fn.ntmps fu c an (Qb3 0 (SL.put 0 args x)) (OL.put 0 pre y) (finK P (keys pre) fn.results.toList (Qn args pre res post keep Ret un F) y fun a b=>some (conv a b))=F x y):
  FnOK P f (Qn args pre res post keep Ret un F):=by
 refine⟨fun R x y K r h=>?_,fun x y a b h L0 hL0=>?_⟩
 .obtain⟨q,hq,h⟩:=Y5 h
  obtain⟨h',hle⟩:=QfB h
  refine⟨(un q).1,(un q).2,?_,h'⟩
  show O (F x y) _=_
  rw[hq]
  exact Qec h
 .change SL args at x
  change OL pre at y
  change SL res at a
  change OL post at b
  obtain⟨q,hq,h⟩:=Y5 h
  obtain⟨h,hlens⟩:=QfB h
  simp only[AP]at h
  have hvc:=(hF x y).trans hq
  let g:Sig:=Qn args pre res post keep Ret un F
  let L1:Lens:=fun n v=>match X n (g.posts y b)with
   |some (.TI t l u)=>if v=u then l.length else L0 n v
   |_=>L0 n v
  have hL1:∀n t l v,X n (g.posts y b)=some (.TI t l v)->L1 n v=l.length:=fun n t l v hn=>by
   grind
  have hpost:∀n b0,X n (OL.put 1 post b)=some b0->X n (g.posts y b)=some b0:=fun n b0 hn=>by
   show X n (OL.put 1 post b++_)=_
   rw[Z2,hn]
  have hpre:∀n b0,X n (OL.put 1 post b)=none->n∈keep->X n (OL.put 0 pre y)=some b0->X n (g.posts y b)=some b0:=fun n b0 h1 h2 h3=>by
   show X n (OL.put 1 post b++(OL.put 0 pre y).filter (fun p=>keep.contains p.1))=_
   rw[Z2,h1]
   simp only[Ua (f:=fun n=>keep.contains n)]
   simp_all
  refine⟨L1,fun n hn=>?_,hL1,?_⟩
  .show(match X n (g.posts y b)with|some (.TI t l u)=>if 0=u then l.length else L0 n 0|_=>L0 n 0)=_
   split
   .rename_i t l u hl
    split
    .rename_i e
     subst e
     change X n (OL.put 1 post b++(OL.put 0 pre y).filter (fun p=>keep.contains p.1))=_ at hl
     rw[Z2]at hl
     cases h1:X n (OL.put 1 post b)with
     |some b1=>
      rw[h1]at hl;cases hl
      have hab:(un q).2=b:=BC Prod.snd h
      rw[hab]at hlens
      obtain⟨t',z,k1,k2⟩:=QnV (hlens n t l h1)
      rw[<-k2];exact(hL0 n t' z 0 k1).symm
     |none=>
      rw[h1]at hl
      simp only[Ua (f:=fun n=>keep.contains n)]at hl
      split at hl
      .exact(hL0 n t l 0 hl).symm
      .simp at hl
    .rfl
   .rfl
  .have hspec:Spec P f (erL L0 (SL.put 0 args x)) (erH L0 (OL.put 0 pre y)) fun v h'=>
     (∀(ρ:Name->Loc) (H:Heap) (M:Nat->Prop) (w:AG) (u:AE),v.R ρ H M w u->((resB (SL.put 1 res a)).er L1).R ρ H M w u)/\
     (∀n o',X n (erH L1 (g.posts y b))=some o'->∃o,X n h'=some o/\(o=o'\/∃cs ds,o=.box cs/\o'=.box ds/\Wh cs ds))/\(∀n o,X n h'=some o->∃o',X n (erH L1 (g.posts y b))=some o'):=by
    refine Spec.intro hf hb (by rw[X0,Qj5];exact hlen) fun Γ hn hk=>?_
    rw[Qeb,QkY]at hk
    rw[Qlh]
    refine TJ.post ((QmX hE hk hn c an _ _ L0 _ hvc hL0).mono fun e s'=>?_)
    rintro⟨ts',hs',L',rfl,hi',hk'⟩
    have hend:(e=.normal\/e=.ret)/\endK P (keys pre) fn.results.toList g y (fun a b=>some (conv a b)) ts' hs'=some q:=by
     cases e with
     |normal=>exact⟨.inl rfl,hk'⟩
     |ret=>exact⟨.inr rfl,hk'⟩
     |_=>simp[finK]at hk'
    obtain⟨he,hk'⟩:=hend
    unfold endK at hk'
    obtain⟨ts2,hs2',L2',hk',hi2',hw0'⟩:=QbY (Γ:=Γ) hk' hi'
    obtain⟨hs2,L2,hk',hi2,hw0''⟩:=QgW (Γ:=Γ) hk' hi2'
    have hw0:=hw0'.trans hw0''
    split at hk'
    .simp at hk'
    rename_i vs0 hvs0
    obtain⟨ts1,hs1,hk',hi1,hw1⟩:=Qdp hk hk' hi2
    split at hk'
    .simp at hk'
    rename_i vs hvs
    obtain⟨σ1,a',hk',hs1',g1⟩:=SL.get_some hk'
    obtain⟨σ2,b',hk',hs2',g2⟩:=OL.get_some hk'
    split at hk'
    case isFalse=>simp at hk'
    rename_i hchk
    simp only[bae]at hchk
    obtain⟨⟨⟨⟨hid,hall⟩,hkp⟩,hown1⟩,hown2⟩:=hchk
    obtain⟨hq',hkept⟩:=Up hk'
    simp only[AP]at hq'
    have hab:(a',b')=(a,b):=(hcu a' b').symm.trans ((BC un hq').trans h)
    obtain⟨hab1,hab2⟩:=C4 hab
    rw[hab1]at g1
    rw[hab2]at g2
    have hf2:=QrP hid
    have hf1:Fit (fun n=>n) (Qjj σ2) σ1:=hf2.mono fun p hp=>hs2' p (CD _ hp)
    have hlen2:∀n,arrB post n=true->Qbq L2 (fun n=>n) (Qjj σ2) n 0=L1 n 1:=fun n hn=>by
     have hkn:n∈keys post:=by
      unfold arrB at hn
      split at hn
      .rename_i hl;exact Zu (by rw[hl];simp)
      .simp at hn
     obtain⟨b0,hb0⟩:=Qgt (u:=0) (y:=b) hkn
     obtain⟨p,z,hp1,hp2,hp3,hp4⟩:=Qsp hb0
     unfold arrB at hn
     rw[hp2]at hn
     obtain⟨k,o⟩:=p
     cases o with
     |TI t=>
      have h1:=hL1 n t z 1 (hpost n _ (hp4 1))
      obtain⟨ob,hob,hle⟩:=g2 _ _ L2 hf2 n _ (hp4 0)
      rcases hle with⟨cs,ds,_,h2,_⟩|⟨t',l',rfl,h2⟩|⟨es,_,h2⟩
      .cases h2
      .cases h2
       rw[h1];exact hi1 n t z _ hob
      .cases h2
     |box l=>simp at hn
     |TV t=>simp at hn
     |arrs t=>simp at hn
     |sm=>simp at hn
    have hle1:Wh (erL L2 (Qp3 hs1 g.res vs)) (erL L1 (SL.put 1 res a)):=by
     have:=g1 _ _ L2 hf1
     rw[Qf4]at this
     have e:=SL.put_ver (l:=res) (x:=a) (L:=Qbq L2 (fun n=>n) (Qjj σ2)) (L':=L1) (u:=0) (v:=1) (fun n hn=>hlen2 n (AW.1 hown1 n hn))
     exact Eq.mp (BC (Wh (erL L2 (Qp3 hs1 g.res vs))) e) this
    have hobj:∀n b0,X n (g.posts y b)=some b0->∃ob,X n hs1=some ob/\(ob.er L2=b0.er L1\/∃cs ds,ob.er L2=.box cs/\b0.er L1=.box ds/\Wh cs ds):=fun n b0 hb0=>by
     cases hp0:X n (OL.put 1 post b)with
     |some b1=>
      rw[hpost n b1 hp0]at hb0;cases hb0
      obtain⟨p,z,hp1,hp2,hp3,hp4⟩:=Qsp hp0
      subst hp3
      obtain⟨ob,hob,hle⟩:=g2 _ _ L2 hf2 n _ (hp4 0)
      refine⟨ob,hob,?_⟩
      have hv:=OSh.put_ver (s:=p.2) (x:=z) (L:=Qbq L2 (fun n=>n) (Qjj σ2)) (L':=L1) (u:=0) (v:=1) (fun m hm=>hlen2 m (AW.1 hown2 m (List.mem_flatMap.2 ⟨p,hp1,hm⟩)))
      rw[<-hv]
      rcases hle with⟨cs,ds,rfl,h2,h3⟩|⟨t',l',rfl,h2⟩|⟨es,rfl,h2⟩
      .rw[Qf4]at h3
       exact .inr ⟨_,_,rfl,by rw[h2];rfl,h3.1⟩
      .exact .inl (by rw[h2];rfl)
      .exact .inl (by rw[h2];rfl)
     |none=>
      change X n (OL.put 1 post b++(OL.put 0 pre y).filter (fun p=>keep.contains p.1))=_ at hb0
      rw[Z2,hp0]at hb0
      simp only[Ua (f:=fun n=>keep.contains n)]at hb0
      split at hb0
      .rename_i hc
       have hc':n∈keep:=by simpa using hc
       rcases hkept n b0 hc' hb0 with⟨t,z,v,rfl,hz⟩|⟨t,z,cs,rfl,hz,hle⟩
       .exact⟨_,hz,.inl rfl⟩
       .refine⟨_,hz,.inr ⟨_,_,rfl,rfl,?_⟩⟩
        rw[show erL L1 (tb t z)=erL L2 (tb t z)from by rw[V9 (QdX t z),V9 (QdX t z)]]
        exact hle.1 L2
      .simp at hb0
    refine⟨BS L2 ts1 hs1,fun ρ M a w hs0=>by obtain⟨ρ',M',h0⟩:=hw0 ρ M a w hs0;exact hw1 ρ' M' a w h0,he,(resB vs).er L2,erH L2 (hpOf (fun n=>n) hs1 (keys (g.posts y b))),QCB hvs,fun n o hn'=>?_,fun n hn'=>?_,fun ρ H M w u hr=>QxD hle1 ρ H M w u (QxD (Qp4 hi1) ρ H M w u hr),fun n o' hn'=>?_,fun n o hn'=>?_⟩
    .rw[ZP]at hn'
     cases hl:X n (hpOf (fun n=>n) hs1 (keys (g.posts y b)))with
     |none=>rw[hl]at hn';simp at hn'
     |some ob=>rw[hl]at hn';rw[XI,QkW (Q5 hl)];exact hn'
    .rw[Qeb,QkY]at hn'
     have hkey:∃b0,X n (g.posts y b)=some b0:=by
      cases hp0:X n (OL.put 1 post b)with
      |some b1=>exact⟨b1,hpost n b1 hp0⟩
      |none=>
       have:=AW.1 hall n hn'
       simp only[Bz]at this
       rcases this with h1|h1
       .obtain⟨b1,hb1⟩:=Qgt (u:=1) (y:=b) (Wk.1 h1)
        simp_all
       .obtain⟨b1,hb1⟩:=Qgt (u:=0) (y:=y) hn'
        exact⟨b1,hpre n b1 hp0 (Wk.1 h1) hb1⟩
     obtain⟨b0,hb0⟩:=hkey
     obtain⟨ob,hob,_⟩:=hobj n b0 hb0
     rw[ZP,Qdq (rr:=fun n=>n) (fun _ _ h=>h) hob (Zu (by rw[hb0];simp))];simp
    .rw[ZP]at hn'
     cases hb0:X n (g.posts y b)with
     |none=>rw[hb0]at hn';simp at hn'
     |some b0=>
      rw[hb0]at hn'
      simp only[Aa,AP]at hn'
      obtain⟨ob,hob,hle⟩:=hobj n b0 hb0
      refine⟨ob.er L2,by rw[ZP,Qdq (rr:=fun n=>n) (fun _ _ h=>h) hob (Zu (by rw[hb0];simp))];rfl,?_⟩
      rw[<-hn'];exact hle
    .rw[ZP]at hn'
     cases hl:X n (hpOf (fun n=>n) hs1 (keys (g.posts y b)))with
     |none=>rw[hl]at hn';simp at hn'
     |some ob=>
      obtain⟨m,hm,rfl⟩:=QkV (Q5 hl)
      obtain⟨b0,hb0⟩:=VQ hm
      exact⟨_,by rw[ZP,hb0];rfl⟩
   intro G ρ M w us hG hM hargs hobjs hinj
   exact(hspec G ρ M w us hG hM hargs hobjs hinj).mono fun e w' ⟨u,v,h',ρ',e1,⟨c1,c2,c3⟩,ha⟩=>⟨u,_,_,ρ',e1,⟨rfl,rfl⟩,ha.le c1 c2 c3⟩
end
def fitC:Y Sh->Y BV->AH
 |.own _::r,v::vs=>(match v with|.own _ _=>true|_=>false) && fitC r vs
 |_::r,_::vs=>fitC r vs
 |_,_=>true
def fitB:Y SSh->Y BV->AH
 |.one (.own _)::r,v::vs=>(match v with|.own _ _=>true|_=>false) && fitB r vs
 |.one (.clo f _)::r,v::vs=>(match v with|.clo (.func k) _=>Nat.beq k f|_=>false) && fitB r vs
 |.one (.fv f)::r,v::vs=>(match v with|.v (.func (.func k) _ _)=>Nat.beq k f|_=>false) && fitB r vs
 |.agg l::r,v::vs=>(match v with|.agg cs=>fitC l cs|_=>false) && fitB r vs
 |_::r,_::vs=>fitB r vs
 |_,_=>true
def fitD:Nat->I Nat->AH
 |0,_=>true
 |n+1,some d=>Nat.beq n d
 |_,none=>false
def Qy5(d:I Nat)(k:Nat)(vs:Y BV):Y (Nat×Nat×Sig)->I Sig
 |[]=>none
 |(j,q,g)::r=>if Nat.beq j k && fitD q d && fitB g.args vs then some g else Qy5 d k vs r
def envL(l:Y (Nat×Nat×Sig)):Env:=fun d k vs=>Qy5 d k vs l
def Qih(P:AF):Y (Nat×Nat×Sig)->Prop
 |[]=>True
 |p::r=>FnOK P p.1 p.2.2/\Qih P r
def Qsh:∀{l:Y (Nat×Nat×Sig)},Qih P l->Qp9 P (envL l)
 |[],_,d,k,vs,g,h=>by simp[envL,Qy5]at h
 |(j,q,g0)::r,hl,d,k,vs,g,h=>by
  simp only[envL,Qy5]at h
  split at h
  .rename_i e
   simp only[bae]at e
   rw[<-nbe e.1.1];cases h;exact hl.1
  .exact Qsh hl.2 d k vs g h
abbrev J(x:Int):Int:=IntKind.wrap .i64 x
section
variable {R α:Type} {r:R}
def Qfn{p:Prop}[Decidable p]{x y:I R}(h:p):C (decide p) x y=x:=by simp only[h,decide_true,C]
def Qkv{p:Prop}[Decidable p]{x y:I R}(h:¬p):C (decide p) x y=y:=by simp only[h,decide_false,C]
def QzV{p:Prop}[Decidable p]{x y:I R}:C (decide p) x y=if p then x else y:=by
 by_cases h:p
 .rw[Qfn h,iB h]
 .rw[Qkv h,iA h]
def Qz4{j:Int}{k:Nat->I R}(h:0<=j):TK j k=k j.toNat:=by unfold TK;rw[iB h]
def QCv(i:Nat){k:Nat->I R}:TK (i:Int) k=k i:=by unfold TK;rw[iB (Int.natCast_nonneg i)];rfl
def Z0{x:α}{k:α->I R}:O (some x) k=k x:=rfl
def VF{o:I α}{x:α}{k:α->I R}(h:o=some x):O o k=k x:=by subst h;rfl
def QCc[AK α]{l:Y α}{j:Int}{k:α->I R}(h:0<=j)(h':j<(l.length:Int)):TN l j k=k (V l j.toNat):=by
 unfold TN;rw[Qz4 h]
 have:j.toNat<l.length:=U
 rw[AR this]
 simp[O,V,AQ,AR this]
def QCb[AK α]{l:Y α}{i:Nat}{k:α->I R}(h':i<l.length):TN l (i:Int) k=k (V l i):=by
 rw[QCc (Int.natCast_nonneg i) U];rfl
def QBu[AK α]{l:Y α}{i:Nat}{k:α->I R}(h':i<l.length):O l[i]? k=k (V l i):=by
 rw[AR h']
 simp[O,V,AQ,AR h']
def QCY{a b:Nat}{x:I R}(h:a=b):chk a b x=x:=by unfold chk;rw[iB h]
def QC1{a b:Nat}{x:I R}(h:a<b):TP a b x=x:=by unfold TP;rw[iB h]
def QCs{a b:Nat}{x:I R}(h:a<=b):TO a b x=x:=by unfold TO;rw[iB h]
def Qw7{b:Int}{x:I R}(h:b≠0):nzc b x=x:=by unfold nzc;rw[iA h]
def Vq{a:α}[AL α]{x:I R}:TF a a x=x:=by unfold TF;rw[iB rfl]
def Qjn{x:Int}(h : -9223372036854775808<=x)(h':x<=9223372036854775807):J x=x:=by show IntKind.i64.wrap x=x;rw[IntKind.wrap_i64];omega
def QwO{zF:Type}{B:(zF->I R)->zF->I R}{Q:I R->Prop}(zE:Nat->zF->Prop)(hB:∀m x,zE m x->∀k:zF->I R,(∀m' x',m'<m->zE m' x'->Q (k x'))->Q (B k x)):
  ∀(m:Nat) (x:zF) {fu:Nat},m<fu->zE m x->Q (Qe B fu x):=by
 intro m
 induction m using Nat.strongRecOn with
 |_ m ih=>
  intro x fu hf hI
  obtain⟨f,rfl⟩:∃f,fu=f+1:=⟨fu - 1,U⟩
  show Q (B (Qe B f) x)
  grind
def Ok(o:I R)(Q:R->Prop):Prop:=∃x,o=some x/\Q x
variable {Q Q':R->Prop}
def Ok.s{x:R}(h:Q x):Ok (some x) Q:=⟨x,rfl,h⟩
def Ok.mono{o:I R}(h:Ok o Q)(hq:∀x,Q x->Q' x):Ok o Q':=by obtain⟨x,h1,h2⟩:=h;exact⟨x,h1,hq x h2⟩
def Ok.C{b:AH}{x y:I R}(h1:b=true->Ok x Q)(h2:b=false->Ok y Q):Ok (AM.C b x y) Q:=by
 cases b
 .exact h2 rfl
 .exact h1 rfl
def Ok.ite{p:Prop}[Decidable p]{x y:I R}(h1:p->Ok x Q)(h2:¬p->Ok y Q):Ok (AM.C (decide p) x y) Q:=
 Ok.C (fun h=>h1 (BF h)) (fun h=>h2 (BM h))
def Ok.opt{o:I α}{P:α->Prop}{k:α->I R}(h:Ok o P)(hk:∀x,P x->Ok (k x) Q):Ok (O o k) Q:=by
 obtain⟨x,rfl,h2⟩:=h;exact hk x h2
def Ok.at[AK α]{l:Y α}{j:Int}{k:α->I R}(h:0<=j)(h':j<(l.length:Int))(hk:Ok (k (V l j.toNat)) Q):Ok (TN l j k) Q:=by rw[QCc h h'];exact hk
def Ok.TO{a b:Nat}{x:I R}(h:a<=b)(hx:Ok x Q):Ok (AM.TO a b x) Q:=by rw[QCs h];exact hx
def Ok.nzc{b:Int}{x:I R}(h:b≠0)(hx:Ok x Q):Ok (AM.nzc b x) Q:=by rw[Qw7 h];exact hx
def Ok.TF{a:α}[AL α]{x:I R}(hx:Ok x Q):Ok (AM.TF a a x) Q:=by rw[Vq];exact hx
def Ok.TG{zB:Type}{k:zB->I R}{f:(zB->I R)->I R}(zG:zB->Prop)(h1:∀y,zG y->Ok (k y) Q)(h2:∀k:zB->I R,(∀y,zG y->Ok (k y) Q)->Ok (f k) Q):Ok (AM.TG k f) Q:=h2 k h1
def Ok.loop{zF:Type}{B:(zF->I R)->zF->I R}(zE:Nat->zF->Prop){m:Nat}{x:zF}{fu:Nat}(hm:m<fu)(h0:zE m x)(hB:∀m x,zE m x->∀k:zF->I R,(∀m' x',m'<m->zE m' x'->Ok (k x') Q)->Ok (B k x) Q):Ok (Qe B fu x) Q:=
 QwO (Q:=fun o=>Ok o Q) zE hB m x hm h0
def Ok.eq{o:I R}{v:R}(h:Ok o (·=v)):o=some v:=by obtain⟨x,rfl,rfl⟩:=h;rfl
end
open Go
section
variable {R α:Type} {Q:R->Prop}
def Ok.p{p:Prop}[Decidable p]{x y:I R}(h:p)(hx:Ok x Q):Ok (AM.C (decide p) x y) Q:=by rw[Qfn h];exact hx
def Ok.n{p:Prop}[Decidable p]{x y:I R}(h:¬p)(hx:Ok y Q):Ok (AM.C (decide p) x y) Q:=by rw[Qkv h];exact hx
def Ok.np{p:Prop}[Decidable p]{x y:I R}(h:p)(hx:Ok y Q):Ok (AM.C (!decide p) x y) Q:=by simp only[h,decide_true,CT];exact hx
def Ok.nn{p:Prop}[Decidable p]{x y:I R}(h:¬p)(hx:Ok x Q):Ok (AM.C (!decide p) x y) Q:=by simp only[h,decide_false,Bool.not_false];exact hx
def Ok.t{x y:I R}(hx:Ok x Q):Ok (AM.C true x y) Q:=hx
def Ok.f{x y:I R}(hx:Ok y Q):Ok (AM.C false x y) Q:=hx
def Ok.bt{b:AH}{x y:I R}(h:b=true)(hx:Ok x Q):Ok (AM.C b x y) Q:=by rw[h];exact hx
def Ok.bf{b:AH}{x y:I R}(h:b=false)(hx:Ok y Q):Ok (AM.C b x y) Q:=by rw[h];exact hx
def Ok.nt{b:AH}{x y:I R}(h:b=true)(hx:Ok y Q):Ok (AM.C (!b) x y) Q:=by rw[h];exact hx
def Ok.nf{b:AH}{x y:I R}(h:b=false)(hx:Ok x Q):Ok (AM.C (!b) x y) Q:=by rw[h];exact hx
def Ok.ncnd{b:AH}{x y:I R}(h1:b=false->Ok x Q)(h2:b=true->Ok y Q):Ok (AM.C (!b) x y) Q:=by
 cases b
 .exact h1 rfl
 .exact h2 rfl
def Ok.j{zB:Type}{k:zB->I R}{f:(zB->I R)->I R}(h:Ok (f k) Q):Ok (AM.TG k f) Q:=h
def Ok.oe{o:I α}{v:α}{k:α->I R}(h:o=some v)(hk:Ok (k v) Q):Ok (O o k) Q:=by rw[h];exact hk
def Ok.os{v:α}{k:α->I R}(hk:Ok (k v) Q):Ok (O (some v) k) Q:=hk
def Ok.ck{a b:Nat}{x:I R}(h:a=b)(hx:Ok x Q):Ok (AM.chk a b x) Q:=by rw[QCY h];exact hx
def Ok.lt{a b:Nat}{x:I R}(h:a<b)(hx:Ok x Q):Ok (AM.TP a b x) Q:=by rw[QC1 h];exact hx
def Ok.nat{j:Int}{k:Nat->I R}(h:0<=j)(hk:Ok (k j.toNat) Q):Ok (AM.TK j k) Q:=by rw[Qz4 h];exact hk
def Ok.natn{i:Nat}{k:Nat->I R}(hk:Ok (k i) Q):Ok (AM.TK (i:Int) k) Q:=by rw[QCv];exact hk
def Ok.get[AK α]{l:Y α}{i:Nat}{k:α->I R}(h:i<l.length)(hk:Ok (k (V l i)) Q):Ok (O (GetElem?.getElem? l i) k) Q:=by rw[QBu h];exact hk
def Ok.atn[AK α]{l:Y α}{i:Nat}{k:α->I R}(h:i<l.length)(hk:Ok (k (V l i)) Q):Ok (TN l (i:Int) k) Q:=by rw[QCb h];exact hk
def Ok.nil{l:Y α}{x y:I R}(h1:l=[]->Ok x Q)(h2:l≠[]->Ok y Q):Ok (TR l x y) Q:=by
 cases l with
 |nil=>exact h1 rfl
 |cons a l=>exact h2 Ob
def Yh[AL α]{l:Y α}(h:l.length<=34359738368):TR l (AM.TU (some []) (AM.TO l.length 34359738368 (some l))) (AM.TO l.length 34359738368 (some l))=some l:=by
 rw[QCs h]
 cases l with
 |nil=>unfold AM.TU;rfl
 |cons a l=>rfl
def Qb{x:Int}(h : -9223372036854775808<=x/\x<=9223372036854775807):J x=x:=Qjn h.1 h.2
def Ok.run{zF:Type}{B:(zF->I R)->zF->I R}(n:Nat)(st:Nat->zF){fu:Nat}{x:zF}(hx:x=st 0)(hf:n<fu)(hs:∀i,i<n->∀k,(Ok (k (st (i+1))) Q->Ok (B k (st i)) Q))(h:∀k,Ok (B k (st n)) Q):Ok (Qe B fu x) Q:=by
 subst hx
 revert st fu
 induction n with
 |zero=>
  intro st fu hf _ h
  obtain⟨f,rfl⟩:∃f,fu=f+1:=⟨fu - 1,U⟩
  exact h _
 |succ n ih=>
  intro st fu hf hs h
  obtain⟨f,rfl⟩:∃f,fu=f+1:=⟨fu - 1,U⟩
  show Ok (B (Qe B f) (st 0)) Q
  exact hs 0 U _ (ih (fun i=>st (i+1)) U (fun i hi k=>hs (i+1) U k) h)
def Ok.scan{zF:Type}{B:(zF->I R)->zF->I R}(n:Nat)(st:Nat->zF)(q:Nat->AH){fu:Nat}{x:zF}(hx:x=st 0)(hf:n<fu)(hy:∀i,i<n->q i=true->(∀j,j<i->q j=false)->∀k,Ok (B k (st i)) Q)(hn:∀i,i<n->q i=false->∀k,(Ok (k (st (i+1))) Q->Ok (B k (st i)) Q))(he:(∀j,j<n->q j=false)->∀k,Ok (B k (st n)) Q):Ok (Qe B fu x) Q:=by
 refine Ok.loop (fun m x=>∃i,i<=n/\m=n - i/\x=st i/\∀j,j<i->q j=false) (m:=n) hf ⟨0,U,rfl,hx,fun j hj=>U⟩ ?_
 rintro m x ⟨i,h1,h2,rfl,h3⟩ k hk
 by_cases h:i<n
 .cases hq:q i with
  |true=>exact hy i h hq h3 k
  |false=>exact hn i h hq k (hk (n - (i+1)) _ U ⟨i+1,U,rfl,rfl,fun j hj=>by
    by_cases e:j=i
    .subst e;exact hq
    .exact h3 j U⟩)
 .obtain rfl:i=n:=U
  exact he h3 k
def Qjs{l:Y α}[AK α]{p:α->AH}{i:Nat}(hi:i<l.length)(h:p (V l i)=true):l.any p=true:=EN.2 ⟨_,Qf hi,h⟩
def QnF{l:Y α}[AK α]{p:α->AH}(h:∀j,j<l.length->p (V l j)=false):l.any p=false:=by
 rw[Cx]
 intro x hx
 obtain⟨j,hj,rfl⟩:=BZ hx
 have:=h j hj
 simp only[V,AQ,AR hj,B0]at this
 simp[this]
def cnd2{p q:Prop}[Decidable p][Decidable q]:AM.C (decide p) (AM.C (decide q) (some true) (some false)) (some false)=some (decide (p/\q)):=by
 by_cases hp:p<;>by_cases hq:q<;>simp[AM.C,hp,hq]
def Ok.of{o:I R}{v:R}(h:o=some v)(hq:Q v):Ok o Q:=⟨v,h,hq⟩
def Ok.N{p:Prop}[Decidable p]{x y:I R}(hx:Ok y Q)(h:¬p:=by omega):Ok (AM.C (decide p) x y) Q:=.n h hx
def Ok.P{p:Prop}[Decidable p]{x y:I R}(hx:Ok x Q)(h:p:=by omega):Ok (AM.C (decide p) x y) Q:=.p h hx
def Ok.NS{p:Prop}[Decidable p]{x y:I R}(hx:Ok y Q)(h:¬p:=by simp):Ok (AM.C (decide p) x y) Q:=.n h hx
def Ok.PS{p:Prop}[Decidable p]{x y:I R}(hx:Ok x Q)(h:p:=by simp):Ok (AM.C (decide p) x y) Q:=.p h hx
def Ok.L{a b:Nat}{x:I R}(hx:Ok x Q)(h:a<=b:=by omega):Ok (AM.TO a b x) Q:=.TO h hx
def Ok.LS{a b:Nat}{x:I R}(hx:Ok x Q)(h:a<=b:=by simp;omega):Ok (AM.TO a b x) Q:=.TO h hx
def Ok.E{a b:Nat}{x:I R}(hx:Ok x Q)(h:a<b:=by omega):Ok (AM.TP a b x) Q:=.lt h hx
def Ok.A[AK α]{l:Y α}{i:Nat}{k:α->I R}(hk:Ok (k (V l i)) Q)(h:i<l.length:=by omega):Ok (TN l (i:Int) k) Q:=.atn h hk
def Ok.G[AK α]{l:Y α}{i:Nat}{k:α->I R}(hk:Ok (k (V l i)) Q)(h:i<l.length:=by omega):Ok (O (GetElem?.getElem? l i) k) Q:=.get h hk
def Ok.Z{b:Int}{x:I R}(hx:Ok x Q)(h:b≠0:=by omega):Ok (AM.nzc b x) Q:=.nzc h hx
end
end Go.Proofs.YtlllfgmajglnhaaGreat.AM
namespace Go.Proofs.YtlllfgmajglnhaaGreat
open Go AM
def Asc(l:Y Int):Prop:=l.Pairwise (·<·)
def Qfg:∀{a b:Y Int},Asc a->Asc b->(∀x,x∈a↔x∈b)->a=b
 |[],[],_,_,_=>rfl
 |[],y::b,_,_,h=>by have:=(h y).2 (BA ..);simp at this
 |x::a,[],_,_,h=>by have:=(h x).1 (BA ..);simp at this
 |x::a,y::b,ha,hb,h=>by
  have ha':=CF.1 ha
  have hb':=CF.1 hb
  have e:x=y:=by
   rcases AZ.1 ((h x).1 (BA ..))with e|hx
   .exact e
   .rcases AZ.1 ((h y).2 (BA ..))with e|hy
    .exact e.symm
    .grind
  subst e
  congr 1
  refine Qfg ha'.2 hb'.2 fun z=>⟨fun hz=>?_,fun hz=>?_⟩
  .grind
  .grind
def Qan(l:Y Int)(x:Int):Nat->Y Int×AH
 |0=>([],false)
 |i+1=>((Qan l x i).1++(if (Qan l x i).2=false/\x<=V l i then[x]else[])++(if V l i≠x then[V l i]else[]),(Qan l x i).2 || decide (x<=V l i))
def QrT(l:Y Int)(x:Int):Y Int:=if (Qan l x l.length).2=true then(Qan l x l.length).1 else(Qan l x l.length).1++[x]
def Qjt(h:Asc l)(hij:i<j)(hj:j<l.length):V l i<V l j:=by
 have:=CP.1 h i j U hj hij
 simpa [V,AQ,AR hj,AR (show i<l.length by omega)]using this
def UO(h:i<l.length)(z:Int):z∈l.take (i+1)↔z∈l.take i\/z=V l i:=by
 rw[Cu h,Af,Ai]
 simp[V,AQ,AR h]
def Qud(h:Asc l):∀i,i<=l.length->Asc (Qan l x i).1/\(∀z,z∈(Qan l x i).1↔z∈l.take i/\z≠x\/(Qan l x i).2=true/\z=x)/\
  ((Qan l x i).2=false->∀z∈l.take i,z<x)/\((Qan l x i).2=true->∀j,i<=j->j<l.length->x<V l j)
 |0,_=>by simp[Qan,Asc]
 |i+1,hi=>by
  obtain⟨h1,h2,h3,h4⟩:=Qud h i U
  have hlt:∀z∈l.take i,z<V l i:=fun z hz=>by
   obtain⟨j,hj,rfl⟩:=BZ hz
   rw[Ae]at hj
   have:=Qjt h (show j<i by omega) (show i<l.length by omega)
   simpa [V,AQ,AR (show j<l.length by omega)]using this
  simp only[Qan]
  cases hd:(Qan l x i).2 with
  |true=>
   have hx:=h4 hd i (AN _) U
   rw[iA Ob,iB U,An]
   refine⟨?_,fun z=>?_,Ob,fun _ j hj hl=>h4 hd j U hl⟩
   .refine CH.2 ⟨h1,C5 _ _,fun a ha b hb=>?_⟩
    rw[Ai.1 hb]
    rcases(h2 a).1 ha with⟨g,_⟩|⟨_,rfl⟩
    .exact hlt a g
    .exact hx
   .rw[Af,h2,UO U,Ai,hd]
    simp only[Bc,true_and]
    constructor
    .rintro((⟨g,g'⟩|g)|g)
     .exact .inl ⟨.inl g,g'⟩
     .exact .inr g
     .exact .inl ⟨.inr g,U⟩
    .rintro(⟨g|g,g'⟩|g)
     .exact .inl (.inl ⟨g,g'⟩)
     .exact .inr g
     .exact .inl (.inr g)
  |false=>
   have hb:=h3 hd
   by_cases hx:x<=V l i
   .rw[iB ⟨rfl,hx⟩]
    have e:(false || decide (x<=V l i))=true:=by simp[hx]
    rw[e]
    have hm:∀z,z∈(Qan l x i).1↔z∈l.take i:=fun z=>by
     rw[h2,hd]
     refine⟨fun g=>?_,fun g=>.inl ⟨g,by have:=hb z g;omega⟩⟩
     rcases g with⟨g,_⟩|⟨g,_⟩
     .exact g
     .simp at g
    refine⟨?_,fun z=>?_,Ob,fun _ j hj hl=>?_⟩
    .refine CH.2 ⟨CH.2 ⟨h1,C5 _ _,fun a ha b hb'=>?_⟩,?_,fun a ha b hb'=>?_⟩
     .rw[Ai.1 hb'];exact hb a ((hm a).1 ha)
     .split<;>simp
     .split at hb'
      .rename_i hne
       rw[Ai.1 hb']
       rcases Af.1 ha with ha|ha
       .exact hlt a ((hm a).1 ha)
       .rw[Ai.1 ha];omega
      .simp at hb'
    .rw[Af,Af,hm,UO U,Ai]
     by_cases hne:V l i≠x
     .rw[iB hne,Ai]
      constructor
      .rintro((g|g)|g)
       .exact .inl ⟨.inl g,by have:=hb z g;omega⟩
       .exact .inr ⟨rfl,g⟩
       .exact .inl ⟨.inr g,U⟩
      .rintro(⟨g|g,_⟩|⟨_,g⟩)
       .exact .inl (.inl g)
       .exact .inr g
       .exact .inl (.inr g)
     .rw[iA hne]
      simp only[BI,or_false]
      constructor
      .rintro(g|g)
       .exact .inl ⟨.inl g,by have:=hb z g;omega⟩
       .exact .inr ⟨trivial,g⟩
      .rintro(⟨g|g,g'⟩|⟨_,g⟩)
       .exact .inl g
       .omega
       .exact .inr g
    .have:=Qjt h (show i<j by omega) hl
     omega
   .rw[iA (by simp[hx]),iB U,An]
    have e:(false || decide (x<=V l i))=false:=by simp[hx]
    rw[e]
    refine⟨?_,fun z=>?_,fun _ z hz=>?_,Ob⟩
    .refine CH.2 ⟨h1,C5 _ _,fun a ha b hb'=>?_⟩
     rw[Ai.1 hb']
     rcases(h2 a).1 ha with⟨g,_⟩|⟨g,_⟩
     .exact hlt a g
     .rw[hd]at g;simp at g
    .rw[Af,h2,UO U,Ai,hd]
     simp only[Bj,false_and,or_false]
     constructor
     .rintro(⟨g,g'⟩|g)
      .exact⟨.inl g,g'⟩
      .exact⟨.inr g,U⟩
     .rintro⟨g|g,g'⟩
      .exact .inl ⟨g,g'⟩
      .exact .inr g
    .rcases(UO (show i<l.length by omega) z).1 hz with g|g
     .exact hb z g
     .omega
def QgY(h:Asc l):Asc (QrT l x)/\∀z,z∈QrT l x↔z∈l\/z=x:=by
 obtain⟨h1,h2,h3,h4⟩:=Qud (x:=x) h l.length (AN _)
 rw[Ac]at h2 h3
 unfold QrT
 split
 .grind
 .rename_i hd
  have hd:(Qan l x l.length).2=false:=by cases hb:(Qan l x l.length).2<;>simp_all
  have hm:∀z,z∈(Qan l x l.length).1↔z∈l:=fun z=>by
   grind
  refine⟨CH.2 ⟨h1,C5 _ _,fun a ha b hb=>?_⟩,fun z=>?_⟩
  .simp_all
  .simp_all
def QkM(l:Y Int)(j:Nat):Y Int:=(l.set j (V l (j - 1))).set (j - 1) (V l j)
def QzD(l)(j):(QkM l j).length=l.length:=by simp[QkM]
def Ql8{l:Y Int}{j k:Nat}{x:Int}(hj:j<l.length):V (l.set j x) k=if k=j then x else V l k:=by
 by_cases h:k=j
 .subst h;rw[iB rfl];simp[V,AQ,hj]
 .rw[iA h];simp[V,AQ,List.getElem?_set_ne (Ag h)]
def Qgv(h1:1<=j)(hj:j<l.length):V (QkM l j) k=if k=j - 1 then V l j else if k=j then V l (j - 1)else V l k:=by
 unfold QkM
 rw[Ql8 (by simp;omega)]
 split
 .rfl
 .rw[Ql8 hj]
def Xp(l:Y Int)(n:Nat):Prop:=∀a b,a<b->b<n->V l a<=V l b
def QnA(l:Y Int)(n j:Nat):Prop:=∀a b,a<b->b<n->b≠j->V l a<=V l b
def Qj7(h:Xp l i):QnA l (i+1) i:=fun a b h1 h2 h3=>h a b h1 U
def Qlq(h:QnA l n j)(h1:1<=j)(hj:j<l.length)(hn:j<n)(hlt:V l j<V l (j - 1)):QnA (QkM l j) n (j - 1):=by
 intro a b hab hb hne
 rw[Qgv h1 hj,Qgv h1 hj,iA hne]
 by_cases g1:b=j
 .subst g1
  rw[iB rfl]
  by_cases g2:a=b - 1
  .rw[iB g2];omega
  .rw[iA g2,iA U]
   exact h a (b - 1) U U U
 .rw[iA g1]
  by_cases g2:a=j - 1
  .rw[iB g2];exact h j b U hb g1
  .rw[iA g2]
   by_cases g3:a=j
   .rw[iB g3];exact h (j - 1) b U hb g1
   .rw[iA g3];exact h a b hab hb g1
def QnK(h:QnA l n j)(he:j=0\/V l (j - 1)<=V l j):Xp l n:=by
 intro a b hab hb
 by_cases g:b=j
 .subst g
  rcases he with he|he
  .omega
  .by_cases g2:a=b - 1
   .rw[g2];exact he
   .have:=h a (b - 1) U U U;omega
 .exact h a b hab hb g
def QzS(h:Xp l l.length)(hd:∀k,1<=k->k<l.length->V l (k - 1)≠V l k):Asc l:=by
 refine CP.2 fun i j hi hj hij=>?_
 have e:∀k (hk:k<l.length),l[k]=V l k:=fun k hk=>by simp[V,AQ,AR hk]
 rw[e i hi,e j hj]
 have h1:=hd j U hj
 have h2:=h (j - 1) j U hj
 rcases Nat.eq_or_lt_of_le (show i<=j - 1 by omega)with g|g
 .rw[g];omega
 .have:=h i (j - 1) g U;omega
end Go.Proofs.YtlllfgmajglnhaaGreat
set_option maxRecDepth 100000
namespace Go.Proofs.YtlllfgmajglnhaaGreat
open Go AM
section
structure Qb0 (x:D.t):Prop where
 kind:0<=x.Z/\x.Z<=2
 a:(0<=x.A/\x.A<4)\/(x.Z=1/\x.A = -1)
 b:x.Z=2->0<=x.B/\x.B<4/\x.A≠x.B
 b0:x.Z≠2->x.B=0
 time:864000<=x.w/\x.w<x.To/\x.To<950400
structure Y2 (l:D.x):Prop where
 name:l.Name=ByteArray.mk #[108]
 zone:l.r=0
 day:l.T.Fj=1\/l.T.Fj=9\/l.T.Fj=10
 second:0<=l.T.Fb/\l.T.Fb<=43200
 unit:l.Unit=0\/l.Unit=1
 every:1<=l.FH/\l.FH<=3
 len:1<=l.s.length/\l.s.length<=3
 mem:∀x∈l.s,0<=x/\x<4
 win:l.Fi=[]
 cal:l.n=0/\l.Fx=0
structure QaN (p:D.R):Prop where
 zone:p.r=0
 max:p.Fv=0/\p.Fw=0
 quiet:p.Ff=[]\/∃a b,p.Ff=[⟨a,b⟩]/\(a=0\/a=3600)/\(b=7200\/b=86400\/b=604800)
structure Qfd (n:Nat) (s:D.e):Prop where
 layers:∃l,s.Fk=[l]/\Y2 l
 len:s.FS.length<=n
 edit:∀x∈s.FS,Qb0 x
def bZ:AJ:=ByteArray.mk #[122]
def Yw:Y AJ:=[ByteArray.mk #[97,110,110],ByteArray.mk #[98,111,98],ByteArray.mk #[99,97,116],ByteArray.mk #[100,97,110]]
def YS:Y AJ:=[ByteArray.mk #[102,105,114,115,116],ByteArray.mk #[115,101,99,111,110,100]]
structure Zg (n:Nat) (c:D.F):Prop where
 zone:∃off,c.FG=[⟨bZ,off,[]⟩]/\(off=0\/off=3600\/off = -7200)
 pname:c.l.map (·.Name)=Yw
 person:∀p∈c.l,QaN p
 cal:c.o=[]
 sname:c.f.map (·.Name)=YS
 sched:∀s∈c.f,Qfd n s
def Zg.plen(h:Zg n c):c.l.length=4:=by
 have:=BC List.length h.pname;simpa [Yw]using this
def Zg.slen(h:Zg n c):c.f.length=2:=by
 have:=BC List.length h.sname;simpa [YS]using this
def Zg.mono(h:Zg n c)(hm:n<=m):Zg m c:=
 ⟨h.zone,h.pname,h.person,h.cal,h.sname,fun s hs=>⟨(h.sched s hs).layers,AY (h.sched s hs).len hm,(h.sched s hs).edit⟩⟩
def Xe(c:D.F):Int:=(V c.FG 0).Fa
def Zg.zones(h:Zg n c):c.FG=[⟨bZ,Xe c,[]⟩]/\(Xe c=0\/Xe c=3600\/Xe c = -7200):=by
 obtain⟨off,h1,h2⟩:=h.zone
 have:Xe c=off:=by unfold Xe;rw[h1];rfl
 simp_all
def QzJ(l:D.x):Int:=if l.Unit=0 then 3600 else 86400
def QeK(l:D.x):Int:=QzJ l*l.FH
def YL(off:Int)(l:D.x):Int:=l.T.Fj*86400+l.T.Fb - off
def Xd(off:Int)(l:D.x)(k:Int):Int:=YL off l+QeK l*k
def Z9(off:Int)(l:D.x)(t:Int):Int:=if t<YL off l then -1 else(t - YL off l) / QeK l
def QpY(h:Y2 l):3600<=QeK l/\QeK l<=259200:=by
 have h2:=h.every
 have h1:=h.unit
 unfold QeK QzJ
 split<;>omega
def Qiu(h:Y2 l)(ho:off=0\/off=3600\/off = -7200):0<YL off l/\YL off l<=1000000:=by
 have h1:=h.day
 have h2:=h.second
 unfold YL;omega
def QpV(h:Y2 l)(h0:0<=k)(h1:Xd off l k<=t)(h2:t<Xd off l (k+1)):Z9 off l t=k:=by
 have hs:=(QpY h).1
 unfold Xd at h1 h2
 rw[Int.mul_add,Int.mul_one]at h2
 have h3:0<=QeK l*k:=Int.mul_nonneg U h0
 unfold Z9
 rw[iA U]
 have h4:k<=(t - YL off l) / QeK l:=(Int.le_ediv_iff_mul_le U).2 (by rw[Int.mul_comm];omega)
 have h5:(t - YL off l) / QeK l<k+1:=(Int.ediv_lt_iff_lt_mul U).2 (by rw[Int.mul_comm,Int.mul_add,Int.mul_one];omega)
 omega
def QpW(h:t<Xd off l 0):Z9 off l t = -1:=by
 unfold Xd at h;rw[Int.mul_zero,Int.add_zero]at h
 unfold Z9;rw[iB h]
def Qzx(h:Y2 l)(h0:YL off l<=t):0<=Z9 off l t/\Xd off l (Z9 off l t)<=t/\t<Xd off l (Z9 off l t+1):=by
 have hs:=(QpY h).1
 have e:Z9 off l t=(t - YL off l) / QeK l:=by unfold Z9;rw[iA U]
 have h1:=Int.mul_ediv_add_emod (t - YL off l) (QeK l)
 have h2:=Co (t - YL off l) (b:=QeK l) U
 have h3:=Cp (t - YL off l) (b:=QeK l) U
 have h4:0<=(t - YL off l) / QeK l:=EO U U
 rw[e]
 unfold Xd
 grind
def QrI(h:Y2 l)(ho:off=0\/off=3600\/off = -7200)(ht:t<=8589934592): -1<=Z9 off l t/\Z9 off l t<=8589934592:=by
 by_cases h0:YL off l<=t
 .have h1:=Qzx h h0
  have h2:=(QpY h).1
  have h3:=(Qiu h ho).1
  have h4:3600*Z9 off l t<=QeK l*Z9 off l t:=Int.mul_le_mul_of_nonneg_right h2 h1.1
  unfold Xd at h1
  omega
 .unfold Z9;rw[iB U];omega
def Qd8(off:Int)(l:D.x)(t:Int):Int:=if Z9 off l t<0 then -1 else V l.s ((Z9 off l t).toNat % l.s.length)
def QyG(h:Y2 l): -1<=Qd8 off l t/\Qd8 off l t<4:=by
 unfold Qd8
 split
 .omega
 .have hl:=h.len
  have:=h.mem (V l.s ((Z9 off l t).toNat % l.s.length)) (Qf (Cj _ U))
  omega
def Qr3(p t:Int)(x:D.t):AH:=decide (x.Z=0) && decide (x.A=p) && decide (x.w<=t) && decide (t<x.To)
def Qlk(es:Y D.t)(p t:Int):AH:=es.any (Qr3 p t)
def QqP(t:Int)(p:Int)(x:D.t):Int:=
 if ¬(x.w<=t/\t<x.To)\/x.Z=0 then p else if x.Z=1 then x.A else if x.Z≠2 then p else if p=x.A then x.B else if p=x.B then x.A else p
def Qiw(es:Y D.t)(p t:Int):Int:=es.foldl (QqP t) p
def QyL(h:Qb0 x)(hp : -1<=p/\p<4): -1<=QqP t p x/\QqP t p x<4:=by
 have ha:=h.a
 have hb:=h.b
 unfold QqP
 repeat' split
 all_goals omega
def Qtv:∀{es:Y D.t} {p:Int},(∀x∈es,Qb0 x)->(-1<=p/\p<4)->-1<=Qiw es p t/\Qiw es p t<4
 |[],p,_,hp=>hp
 |x::es,p,h,hp=>Qtv (es:=es) (fun y hy=>h y (BB _ hy)) (QyL (h x (BA ..)) hp)
def QnT(hk:k<es.length):Qiw (es.take (k+1)) p t=QqP t (Qiw (es.take k) p t) (V es k):=by
 unfold Qiw
 rw[Cu hk,Ec]
 simp[V,AQ,AR hk]
def layP(off:Int)(s:D.e)(t:Int):Int:=if 0<=Qd8 off (V s.Fk 0) t/\Qlk s.FS (Qd8 off (V s.Fk 0) t) t=false then Qd8 off (V s.Fk 0) t else -1
def whoS(off:Int)(s:D.e)(t:Int):Int:=Qiw s.FS (layP off s t) t
def whoV(c:D.F)(i t:Int):Int:=if 0<=i/\i<2/\0<=t/\t<=8589934592 then whoS (Xe c) (V c.f i.toNat) t else -1
def QBi(h:Qfd n s): -1<=layP off s t/\layP off s t<4:=by
 obtain⟨l,h1,h2⟩:=h.layers
 have:=QyG (off:=off) (t:=t) h2
 unfold layP
 rw[h1,show V [l] 0=l from rfl]
 split<;>omega
def QB3(h:Zg n c): -1<=whoV c i t/\whoV c i t<4:=by
 unfold whoV
 split
 .have hs:=h.sched (V c.f i.toNat) (Qf (by rw[h.slen];omega))
  exact Qtv hs.edit (QBi hs)
 .omega
def Qtz(hs:QeK l=86400*n):(l.T.Fj+k*n)*86400+l.T.Fb - off=Xd off l k:=by
 unfold Xd YL
 grind
def QmO(h:l.Unit=1):QeK l=86400*l.FH:=by unfold QeK QzJ;rw[iA U]
def QjZ(h:l.Unit=0):QeK l=3600*l.FH:=by unfold QeK QzJ;rw[iB h]
def Qdu(c:D.F)(b:D.b)(x:D.FL)(t:Int):Y Int:=
 if x.Z=0 then[x.FW]else if x.Z=1 then(if whoV c x.FW t<0 then[]else[whoV c x.FW t])else
  if x.Z=2/\0<=x.FW/\x.FW<(b.v.length:Int)then(V b.v x.FW.toNat).s else[]
def Means(c:D.F)(b:D.b)(l:Y D.FL)(t z:Int):Prop:=0<=z/\z<4/\∃x∈l,z∈Qdu c b x t
def QbS(off t:Int):Int:=((t+off) / 86400+3) % 7*86400+(t+off) % 86400
def QfN(ws:Y D.FE)(s:Int):AH:=ws.any fun w=>decide (w.w<=s) && decide (s<w.To)
def VG(c:D.F)(p t:Int)(urgent:AH):AH:=
 decide (0<=p/\p<4/\0<=t/\t<=8589934592) && (urgent && (V c.l p.toNat).Ft || !QfN (V c.l p.toNat).Ff (QbS (Xe c) t))
end
def Qii:Y AJ:=[ByteArray.mk #[99,111,114,101],ByteArray.mk #[119,101,98]]
def Qm8:Y AJ:=[ByteArray.mk #[112],ByteArray.mk #[113],ByteArray.mk #[114]]
structure Qqa (t:D.FU):Prop where
 asc:Asc t.s
 len:1<=t.s.length/\t.s.length<=2
 mem:∀x∈t.s,0<=x/\x<4
structure UD (n:Nat) (t:D.FL):Prop where
 kind:t.Z=0\/t.Z=1\/t.Z=2
 lo:0<=t.FW
 person:t.Z=0->t.FW<4
 sched:t.Z=1->t.FW<2
 team:t.Z=2->t.FW<(n:Int)
structure StepOK' (n:Nat) (s:D.y):Prop where
 wait:0<=s.Fs/\s.Fs<=900
 len:s.Fe.length<=2
 target:∀t∈s.Fe,UD n t
structure Qdl (n:Nat) (p:D.W):Prop where
 rep:0<=p.Fh/\p.Fh<=2
 len:1<=p.Steps.length/\p.Steps.length<=3
 step:∀s∈p.Steps,StepOK' n s
structure QU (b:D.b):Prop where
 tlen:b.v.length<=2
 tname:b.v.map (·.Name)=Qii.take b.v.length
 team:∀t∈b.v,Qqa t
 plen:1<=b.k.length/\b.k.length<=3
 pname:b.k.map (·.Name)=Qm8.take b.k.length
 pol:∀p∈b.k,Qdl b.v.length p
def YK(p:D.W):Int:=if 0<=p.Fh/\p.Fh<=8/\p.Steps.length<=8 then(p.Steps.length:Int)*(p.Fh+1)else 0
def Yv(h:Qdl n p):YK p=(p.Steps.length:Int)*(p.Fh+1)/\1<=YK p/\YK p<=9:=by
 have h1:=h.rep
 have h2:=h.len
 have e:YK p=(p.Steps.length:Int)*(p.Fh+1):=by unfold YK;rw[iB U]
 refine⟨e,?_⟩
 rw[e]
 have h3:p.Fh=0\/p.Fh=1\/p.Fh=2:=U
 grind
def VK(c:D.F)(b:D.b)(l:Y D.FL)(t:Int):Y Int:=([0,1,2,3]:Y Int).filter fun z=>l.any fun x=>(Qdu c b x t).contains z
def Qcf:z∈VK c b l t↔Means c b l t z:=by
 unfold VK Means
 simp only[Bl,EN,Bi,AZ,BI,or_false]
 grind
def asc4:Asc [0,1,2,3]:=by unfold Asc;decide
def QhT:Asc (VK c b l t):=CQ _ asc4
def QhU:(VK c b l t).length<=4:=CR _ _
def Qn2(h:Asc r)(hm:∀z,z∈r↔Means c b l t z):r=VK c b l t:=
 Qfg h QhT fun z=>(hm z).trans Qcf.symm
def Qcu(c:D.F)(b:D.b)(s:D.y)(t:Int):Y Int:=(VK c b s.Fe t).filter fun z=>VG c z t s.Fm
def Qv9:Asc (Qcu c b s t):=CQ _ QhT
def Qqm:(Qcu c b s t).length<=4:=AY (CR _ _) QhU
def Qwa:z∈Qcu c b s t->0<=z/\z<4:=fun h=>by
 have:=Qcf.1 (Bl.1 h).1
 exact⟨this.1,this.2.1⟩
def Xf(b:D.b)(p:D.Page):D.W:=V b.k p.W.toNat
def dueV(p:D.Page):Int×AH:=if p.p=0 then(p.FJ,true)else if p.p=2 then(p.FK,true)else(0,false)
def Wj(p:D.Page):Y Int:=if p.P=[]then[]else(V p.P (p.P.length - 1)).l
def setF(n:Int):Int->Y Int->AH
 |_,[]=>true
 |k,x::r=>decide (0<=x) && decide (x<n) && decide (k<x) && setF n x r
def setV(l:Y Int):AH:=setF 32 (-1) l
def WQ(next:Int):Int->Int->Y D.T->AH
 |_,_,[]=>true
 |k,t,x::r=>decide (t<=x.At) && (decide (x.K = -1) || decide (0<=x.K) && decide (k<x.K) && decide (x.K<next)) && setV x.l && WQ next (max k x.K) x.At r
def Qia(p:D.Page):AH:=WQ p.E7 (-1) p.T p.P && decide (p.P.length<=200)
def Qnu(l:Y Int):AH:=decide l.Nodup && decide (l.length<=64)
def QrR(p:D.W):AH:=p.Steps.all fun s=>decide (0<=s.Fs) && decide (s.Fs<=86400)
def farV:Int:=17179869184
def inV(n lo hi:Int):AH:=decide (lo<=n) && decide (n<=hi)
def QG(b:D.b)(p:D.Page):AH:=
 inV p.S 1 999999 && inV p.W 0 ((b.k.length:Int) - 1) && inV p.T 0 8589934592 && QrR (Xf b p) && inV p.E7 0 (YK (Xf b p)) &&
 inV p.p 0 4 && inV p.By (-1) 31 && inV p.FM p.T farV && inV p.FJ 0 farV && inV p.FK 0 farV && inV p.E6 0 4 && inV p.FI 0 4 && Qia p && setV p.i && Qnu p.h
def page0:D.Page:=D.Page.mk 0 0 0 0 0 0 0 0 0 0 0 [] [] []
def Zz(b:D.b)(p:D.Page):D.y:=V (Xf b p).Steps (p.E7 % ((Xf b p).Steps.length:Int)).toNat
def stepQ(c:D.F)(b:D.b)(p:D.Page):D.Page:=
 if p.p=2 then{ p with p:=0,FJ:=p.FK,FM:=max p.FK p.FM }
 else if YK (Xf b p)<=p.E7 then{ p with p:=3,FM:=max p.FJ p.FM }
 else{ p with FM:=max p.FJ p.FM,P:=p.P++[⟨p.E7,p.FJ,Qcu c b (Zz b p) p.FJ⟩],i:=[],E7:=p.E7+1,FJ:=if Qcu c b (Zz b p) p.FJ=[]then p.FJ else p.FJ+(Zz b p).Fs }
def stepV(c:D.F)(b:D.b)(p:D.Page):D.Page×Int:=
 if QG b p=false then(page0,8)else if (dueV p).2=false then(page0,9)else if p.P.length=200 then(page0,5)else(stepQ c b p,0)
def Yp(p:D.Page)(now:Int):AH:=(dueV p).2 && decide ((dueV p).1<=now)
def runN(c:D.F)(b:D.b)(now:Int):Nat->D.Page->D.Page×Int
 |0,p=>(p,0)
 |n+1,p=>if Yp p now=true then(if (stepV c b p).2≠0 then(page0,(stepV c b p).2)else runN c b now n (stepV c b p).1)else(p,0)
def runV(c:D.F)(b:D.b)(p:D.Page)(now:Int):D.Page×Int:=if QG b p=false then(page0,8)else runN c b now 100 p
def YY(a:D.a):AH:=
 inV a.S 1 999999 && inV a.Page 1 999999 && inV a.R (-1) 31 && inV a.At 0 8589934592 && inV a.Z 1 5 && (if a.Z=3 then inV a.Fo 1 86400 else if a.Z=4 then inV a.Fo 0 31 else decide (a.Fo=0))
def Wr(p:D.Page)(a:D.a):Int:=
 if a.At<p.FM\/Yp p a.At=true then 6
 else if p.p=4\/(p.p=3/\a.Z≠5)\/(p.p=1/\a.Z=2)then 9
 else if p.h.length=64\/(a.Z=3/\p.E6=4)\/(a.Z=4/\(p.FI=4\/p.P.length=200))then 5 else 0
def QiM(l:Y Int)(x:Int):Y Int:=l.filter (fun z=>decide (z<x))++x::l.filter (fun z=>decide (x<z))
def Qai(p:D.Page)(a:D.a):Y Int:=if (Wj p).contains a.R=true then QiM p.i a.R else p.i
def Qas(p:D.Page)(a:D.a):AH:=decide (Wj p≠[]) && (Wj p).all fun z=>(Qai p a).contains z
def XL(p:D.Page)(a:D.a):D.Page:=
 if a.Z=1 then(if p.p=1 then{ p with h:=p.h++[a.S] }else{ p with h:=p.h++[a.S],FM:=a.At,p:=1,By:=a.R })
 else if a.Z=2 then{ p with h:=p.h++[a.S],FM:=a.At,i:=Qai p a,FJ:=if Qas p a=true/\p.p=0 then a.At else p.FJ }
 else if a.Z=3 then{ p with h:=p.h++[a.S],FM:=a.At,p:=2,By:=a.R,FK:=a.At+a.Fo,E6:=p.E6+1 }
 else if a.Z=4 then{ p with h:=p.h++[a.S],FM:=a.At,p:=0,FJ:=a.At+600,FI:=p.FI+1,i:=[],P:=p.P++[⟨-1,a.At,[a.Fo]⟩] }
 else{ p with h:=p.h++[a.S],FM:=a.At,p:=4,By:=a.R }
def answerV(b:D.b)(p:D.Page)(a:D.a):D.Page×Int:=
 if QG b p=false\/YY a=false then(page0,8)else if a.Page≠p.S then(page0,3)else if p.h.contains a.S=true then(p,0)
 else if Wr p a≠0 then(page0,Wr p a)else(XL p a,0)
open Go AM
inductive Goes (Q:D.T->Prop) (st:Int):List D.T->Int->Int->Int->Prop
 |nil:Goes Q st [] 0 st 0
 |step {l k t h a P}:Goes Q st l k t h->t<=a->(l=[]->a=st)->setV P=true->Q ⟨k,a,P⟩->Goes Q st (l++[⟨k,a,P⟩]) (k+1) a h
 |hand {l k t h a x}:Goes Q st l k t h->t<=a->l≠[]->0<=x->x<=31->Goes Q st (l++[⟨-1,a,[x]⟩]) k a (h+1)
section
def Goes.pos(g:Goes Q st l k t h):0<=k/\0<=h/\(l.length:Int)=k+h/\st<=t:=by
 induction g with
 |nil=>simp
 |step g h1 _ _ _ ih=>simp only[Ab,Ad,Ao];omega
 |hand g h1 _ _ _ ih=>simp only[Ab,Ad,Ao];omega
def kF:Int->Y D.T->Int
 |k,[]=>k
 |k,x::r=>kF (max k x.K) r
def tF:Int->Y D.T->Int
 |t,[]=>t
 |t,x::r=>tF x.At r
def Qsn:∀{l:Y D.T} {k:Int},kF k (l++[x])=max (kF k l) x.K
 |[],_=>rfl
 |y::l,k=>Qsn (l:=l) (k:=max k y.K)
def Qs2:∀{l:Y D.T} {t:Int},tF t (l++[x])=x.At
 |[],_=>rfl
 |y::l,t=>Qs2 (l:=l) (t:=y.At)
def Qgh:∀{l:Y D.T} {k t:Int},WQ nx k t (l++[x])=(WQ nx k t l &&
  (decide (tF t l<=x.At) && (decide (x.K = -1) || decide (0<=x.K) && decide (kF k l<x.K) && decide (x.K<nx)) && setV x.l))
 |[],k,t=>by
  show(_ && true)=(true && _)
  rw[EP,B8];rfl
 |y::l,k,t=>by
  rw[BE,WQ,Qgh (l:=l),WQ,kF,tF]
  simp only[Bool.and_assoc]
def Qt5(h0:0<=x)(h1:x<=31):setV [x]=true:=by
 unfold setV setF setF;simp;omega
def Goes.fit(g:Goes Q st l k t h):kF (-1) l=k - 1/\tF st l=t/\∀nx,k<=nx->WQ nx (-1) st l=true:=by
 induction g with
 |nil=>exact⟨rfl,rfl,fun _ _=>rfl⟩
 |step g h1 h2 h3 h4 ih=>
  obtain⟨i1,i2,i3⟩:=ih
  have hp:=g.pos
  refine⟨by rw[Qsn,i1];dsimp only;omega,Qs2,fun nx hn=>?_⟩
  rw[Qgh,i3 nx U,i1,i2]
  grind
 |hand g h1 h2 h3 h4 ih=>
  obtain⟨i1,i2,i3⟩:=ih
  have hp:=g.pos
  refine⟨by rw[Qsn,i1];dsimp only;omega,Qs2,fun nx hn=>?_⟩
  rw[Qgh,i3 nx hn,i1,i2,Qt5 h3 h4]
  simp[h1]
end
def QxI:∀{l:Y Int} {k:Int},setF n k l=true↔Asc l/\∀x∈l,0<=x/\x<n/\k<x
 |[],k=>by simp[setF,Asc]
 |y::l,k=>by
  rw[setF]
  simp only[bae,BK,QxI (l:=l),Asc,CF,AZ,forall_eq_or_imp]
  constructor
  .rintro⟨⟨⟨h1,h2⟩,h3⟩,h4,h5⟩
   exact⟨⟨fun z hz=>(h5 z hz).2.2,h4⟩,⟨h1,h2,h3⟩,fun z hz=>⟨(h5 z hz).1,(h5 z hz).2.1,by have:=(h5 z hz).2.2;omega⟩⟩
  .rintro⟨⟨h1,h2⟩,⟨h3,h4,h5⟩,h6⟩
   exact⟨⟨⟨h3,h4⟩,h5⟩,h2,fun z hz=>⟨(h6 z hz).1,(h6 z hz).2.1,h1 z hz⟩⟩
def QaH:setV l=true↔Asc l/\∀x∈l,0<=x/\x<32:=by
 unfold setV;rw[QxI]
 grind
def QxK:setV (Qcu c b s t)=true:=
 QaH.2 ⟨Qv9,fun x hx=>by have:=Qwa hx;omega⟩
def QcO(h:Asc l):Asc (QiM l x)/\∀z,z∈QiM l x↔z∈l\/z=x:=by
 unfold QiM
 refine⟨?_,fun z=>?_⟩
 .refine CH.2 ⟨CQ _ h,CF.2 ⟨fun a ha=>?_,CQ _ h⟩,fun a ha b hb=>?_⟩
  .simp_all
  .grind
 .grind
def Qxg(h:Asc l)(hx:x∈l):QiM l x=l:=
 Qfg (QcO h).1 h fun z=>by rw[(QcO h).2];exact⟨fun g=>g.elim id (fun e=>e ▸ hx),.inl⟩
def Qfs(hd:(dueV p).2=true):p.p=0\/p.p=2:=by
 unfold dueV at hd
 grind
structure QN (Q:Int->D.T->Prop) (M:Int) (b:D.b) (p:D.Page):Prop where
 top:M<=8000000000
 id:1<=p.S/\p.S<=999999
 pol:0<=p.W/\p.W<(b.k.length:Int)
 start:0<=p.T/\p.T<=M - 20000
 goes:∃t,Goes (Q p.W) p.T p.P p.E7 t p.FI/\t<=p.FM/\(p.p=0->t<=p.FJ)/\(p.p=2->t<=p.FK)
 next:p.E7<=YK (Xf b p)
 state:0<=p.p/\p.p<=4
 by_ : -1<=p.By/\p.By<=31
 last:p.FM<=M
 due:0<=p.FJ/\p.FJ<=M
 until_:0<=p.FK/\p.FK<=M
 dueO:p.p=0->p.FJ+900*(YK (Xf b p) - p.E7)<=M
 untilS:p.p=2->p.FK+900*(YK (Xf b p) - p.E7)<=M
 snoozes:0<=p.E6/\p.E6<=4
 hands:p.FI<=4
 first:p.P=[]->p.p=0/\p.FJ=p.T
 ended:p.p=3->p.E7=YK (Xf b p)
 declined:setV p.i=true
 seen:Qnu p.h=true
section
def QN.polOK(h:QN Q M b p)(hb:QU b):Qdl b.v.length (Xf b p):=hb.pol _ (Qf (by have:=h.pol;omega))
def Qdl.waits(h:Qdl n q):QrR q=true:=by
 unfold QrR
 refine AW.2 fun s hs=>?_
 have:=(h.step s hs).wait
 simp;omega
def Qu:inV n lo hi=true↔lo<=n/\n<=hi:=by simp[inV]
def QN.len(h:QN Q M b p)(hb:QU b):p.P.length<=13/\0<=p.E7/\0<=p.FI:=by
 obtain⟨t,h1,_⟩:=h.goes
 have h2:=h1.pos
 have h3:=Yv (h.polOK hb)
 have h4:=h.next
 have h5:=h.hands
 omega
def QN.check(h:QN Q M b p)(hb:QU b):QG b p=true:=by
 obtain⟨t,h1,h2,_⟩:=h.goes
 have h3:=h1.pos
 have h4:=h1.fit
 have h5:=h.len hb
 have g0:=h.top;have g1:=h.id;have g2:=h.pol;have g3:=h.start;have g4:=h.next;have g5:=h.state;have g6:=h.by_;have g7:=h.last;have g8:=h.due;have g9:=h.until_;have g10:=h.snoozes;have g11:=h.hands
 unfold QG Qia farV
 rw[h4.2.2 _ (Aj _),h.declined,h.seen,(h.polOK hb).waits]
 simp only[EP,B8,bae,Qu,BK]
 omega
def QN.mono(h:QN Q M b p)(hq:∀s,Q p.W s->Q' p.W s):QN Q' M b p:=by
 obtain⟨t,h1,h2⟩:=h.goes
 refine{ h with goes:=⟨t,?_,h2⟩ }
 generalize p.FI=hh at h1
 generalize p.E7=nn at h1
 generalize p.P=ss at h1
 clear h2
 induction h1 with
 |nil=>exact .nil
 |step g a1 a2 a3 a4 ih=>exact .step ih a1 a2 a3 (hq _ a4)
 |hand g a1 a2 a3 a4 ih=>exact .hand ih a1 a2 a3 a4
def Qs0(h:Qdl n q)(hk:0<=k):V q.Steps (k % (q.Steps.length:Int)).toNat∈q.Steps:=by
 have:=h.len
 refine Qf ?_
 have h1:=Co k (b:=(q.Steps.length:Int)) U
 have h2:=Cp k (b:=(q.Steps.length:Int)) U
 omega
def QN.stepQ_inv(h:QN Q M b p)(hb:QU b)(hd:(dueV p).2=true)(hQ:p.p=0->p.E7<YK (Xf b p)->Q p.W ⟨p.E7,p.FJ,Qcu c b (Zz b p) p.FJ⟩):QN Q M b (stepQ c b p):=by
 obtain⟨t,h1,h2,h3,h4⟩:=h.goes
 have hp:=h1.pos
 have hs:p.p=0\/p.p=2:=Qfs hd
 have g0:=h.top;have g3:=h.start;have g7:=h.last;have g8:=h.due;have g9:=h.until_
 have g10:=h.dueO;have g11:=h.untilS;have gn:=h.next
 unfold stepQ
 split
 .rename_i e2
  have e3:=h4 e2
  have hne:p.P≠[]:=fun e=>by have:=(h.first e).1;omega
  exact⟨h.top,h.id,h.pol,h.start,⟨t,h1,by dsimp only;omega,fun _=>e3,fun e=>by simp at e⟩,h.next,by dsimp only;omega,h.by_,by dsimp only;omega,g9,g9,fun _=>g11 e2,fun e=>by simp at e,h.snoozes,h.hands,fun e=>absurd e hne,fun e=>by simp at e,h.declined,h.seen⟩
 .rename_i e2
  have e0:p.p=0:=U
  have e3:=h3 e0
  have e4:=g10 e0
  split
  .rename_i e5
   have hc:=Yv (h.polOK hb)
   have hne:p.P≠[]:=fun e=>by
    grind
   exact⟨h.top,h.id,h.pol,h.start,⟨t,h1,by dsimp only;omega,fun e=>by simp at e,fun e=>by simp at e⟩,h.next,by dsimp only;omega,h.by_,by dsimp only;omega,g8,g9,fun e=>by simp at e,fun e=>by simp at e,h.snoozes,h.hands,fun e=>absurd e hne,fun _=>by show p.E7=YK (Xf b p);omega,h.declined,h.seen⟩
  .rename_i e5
   have hw:=(h.polOK hb).step _ (Qs0 (h.polOK hb) hp.1)
   have hw':0<=(Zz b p).Fs/\(Zz b p).Fs<=900:=hw.wait
   have hdue:(if Qcu c b (Zz b p) p.FJ=[]then p.FJ else p.FJ+(Zz b p).Fs)<=p.FJ+900/\p.FJ<=(if Qcu c b (Zz b p) p.FJ=[]then p.FJ else p.FJ+(Zz b p).Fs):=by split<;>omega
   refine⟨h.top,h.id,h.pol,h.start,⟨p.FJ,.step h1 e3 (fun e=>?_) QxK (hQ e0 U),by dsimp only;omega,fun _=>hdue.2,fun e=>?_⟩,?_,h.state,h.by_,by dsimp only;omega,?_,g9,fun _=>?_,fun e=>absurd e e2,h.snoozes,h.hands,fun e=>by simp at e,fun e=>?_,by dsimp only;decide,h.seen⟩
   .exact(h.first e).2
   .exact absurd e e2
   .show p.E7+1<=YK (Xf b p);omega
   .dsimp only;omega
   .show(if Qcu c b (Zz b p) p.FJ=[]then p.FJ else p.FJ+(Zz b p).Fs)+900*(YK (Xf b p) - (p.E7+1))<=M
    omega
   .simp_all
def QN.answerQ_inv(h:QN Q M b p)(hb:QU b)(hv:YY a=true)(ha:a.At<=M - 20000)(hs:a.Z=3->a.Fo<=5000)(hseen:p.h.contains a.S=false)(hr:Wr p a=0):QN Q M b (XL p a):=by
 obtain⟨t,h1,h2,h3,h4⟩:=h.goes
 have hp:=h1.pos
 unfold YY at hv
 simp only[bae,Qu]at hv
 obtain⟨⟨⟨⟨⟨v1,v2⟩,v3⟩,v4⟩,v5⟩,v6⟩:=hv
 unfold Wr at hr
 split at hr
 .simp at hr
 rename_i r1
 split at hr
 .simp at hr
 rename_i r2
 split at hr
 .simp at hr
 rename_i r3
 have hw:Yp p a.At=false:=by cases hb:Yp p a.At<;>simp_all
 have hla:p.FM<=a.At:=U
 have hne:p.P≠[]:=fun e=>by
  obtain⟨e1,e2⟩:=h.first e
  have hst:p.T<=t:=hp.2.2.2
  unfold Yp dueV at hw
  grind
 have g0:=h.top;have g3:=h.start;have g7:=h.last;have g8:=h.due;have g9:=h.until_
 have g10:=h.dueO;have g11:=h.untilS;have gn:=h.next;have gs:=h.snoozes;have gh:=h.hands;have gst:=h.state
 have hc:=Yv (h.polOK hb)
 have hsn:Qnu (p.h++[a.S])=true:=by
  have:=h.seen
  unfold Qnu at this |-
  grind
 have hdec:setV (Qai p a)=true:=by
  have hd:=QaH.1 h.declined
  unfold Qai
  split
  .rename_i hcal
   refine QaH.2 ⟨(QcO hd.1).1,fun x hx=>?_⟩
   rcases((QcO hd.1).2 x).1 hx with hx|rfl
   .exact hd.2 x hx
   .have hm:=Bi.1 hcal
    have hst:=(h1.fit.2.2 _ (Aj _))
    have hall:∀{nx:Int} {l:Y D.T} {k t:Int},WQ nx k t l=true->∀s∈l,setV s.l=true:=by
     intro nx l
     induction l with
     |nil=>intro k t _ s hs;simp at hs
     |cons y l ih=>
      intro k t hq s hs
      rw[WQ]at hq
      grind
    unfold Wj at hm
    rw[iA hne]at hm
    have hlen:0<p.P.length:=B1.2 hne
    exact(QaH.1 (hall hst _ (Qf U))).2 _ hm
  .exact h.declined
 unfold XL
 split
 .split
  .exact⟨h.top,h.id,h.pol,h.start,⟨t,h1,h2,h3,h4⟩,h.next,h.state,h.by_,h.last,h.due,h.until_,h.dueO,h.untilS,h.snoozes,h.hands,fun e=>absurd e hne,h.ended,h.declined,hsn⟩
  .exact⟨h.top,h.id,h.pol,h.start,⟨t,h1,by dsimp only;omega,fun e=>by simp at e,fun e=>by simp at e⟩,h.next,by dsimp only;omega,v3,by dsimp only;omega,h.due,h.until_,fun e=>by simp at e,fun e=>by simp at e,h.snoozes,h.hands,fun e=>absurd e hne,fun e=>by simp at e,h.declined,hsn⟩
 .split
  .have hdue:(if Qas p a=true/\p.p=0 then a.At else p.FJ)=p.FJ\/((if Qas p a=true/\p.p=0 then a.At else p.FJ)=a.At/\p.p=0):=by
    omega
   refine⟨h.top,h.id,h.pol,h.start,⟨t,h1,by dsimp only;omega,fun e=>?_,h4⟩,h.next,h.state,h.by_,by dsimp only;omega,?_,h.until_,fun e=>?_,h.untilS,h.snoozes,h.hands,fun e=>absurd e hne,h.ended,hdec,hsn⟩
   .grind
   .dsimp only;omega
   .have:=g10 e
    show(if Qas p a=true/\p.p=0 then a.At else p.FJ)+900*(YK (Xf b p) - p.E7)<=M
    omega
  .split
   .rename_i k3
    rw[iB k3]at v6
    have v6:=Qu.1 v6
    have:=hs k3
    exact⟨h.top,h.id,h.pol,h.start,⟨t,h1,by dsimp only;omega,fun e=>by simp at e,fun e=>by dsimp only;omega⟩,h.next,by dsimp only;omega,v3,by dsimp only;omega,h.due,by dsimp only;omega,fun e=>by simp at e,fun _=>by show a.At+a.Fo+900*(YK (Xf b p) - p.E7)<=M;omega,by dsimp only;omega,h.hands,fun e=>absurd e hne,fun e=>by simp at e,h.declined,hsn⟩
   .rename_i k3
    split
    .rename_i k4
     rw[iA k3,iB k4]at v6
     have v6:=Qu.1 v6
     exact⟨h.top,h.id,h.pol,h.start,⟨a.At,.hand h1 U hne v6.1 v6.2,by dsimp only;omega,fun e=>by dsimp only;omega,fun e=>by simp at e⟩,h.next,by dsimp only;omega,h.by_,by dsimp only;omega,by dsimp only;omega,h.until_,fun _=>by show a.At+600+900*(YK (Xf b p) - p.E7)<=M;omega,fun e=>by simp at e,h.snoozes,by dsimp only;omega,fun e=>by simp at e,fun e=>by simp at e,by dsimp only;decide,hsn⟩
    .exact⟨h.top,h.id,h.pol,h.start,⟨t,h1,by dsimp only;omega,fun e=>by simp at e,fun e=>by simp at e⟩,h.next,by dsimp only;omega,v3,by dsimp only;omega,h.due,h.until_,fun e=>by simp at e,fun e=>by simp at e,h.snoozes,h.hands,fun e=>absurd e hne,fun e=>by simp at e,h.declined,hsn⟩
def newP(id pol start:Int):D.Page:=D.Page.mk id pol start 0 start 0 (-1) 0 start 0 0 [] [] []
def QBs{id pol start:Int}(hM:M<=8000000000)(hb:QU b)(h1:1<=id/\id<=999999)(h2:0<=pol/\pol<(b.k.length:Int))(h3:0<=start/\start<=M - 20000):QN Q M b (newP id pol start):=by
 have hp:Qdl b.v.length (Xf b (newP id pol start)):=hb.pol _ (Qf (by show pol.toNat<_;omega))
 have hc:=Yv hp
 exact⟨hM,h1,h2,h3,⟨start,.nil,Aj _,fun _=>Aj _,fun e=>by simp[newP]at e⟩,by show 0<=_;omega,by simp[newP],by simp[newP],by show start<=_;omega,by show 0<=start/\start<=_;omega,by show(0:Int)<=0/\(0:Int)<=M;omega,fun _=>by show start+900*(_ - 0)<=_;omega,fun e=>by simp[newP]at e,by simp[newP],by simp[newP],fun _=>⟨rfl,rfl⟩,fun e=>by simp[newP]at e,by dsimp only[newP];decide,by dsimp only[newP];decide⟩
def QaZ(b:D.b)(p:D.Page):Nat:=if p.p=2 then(YK (Xf b p) - p.E7).toNat+2 else if p.p=0 then(YK (Xf b p) - p.E7).toNat+1 else 0
def Qvg:Xf b (stepQ c b p)=Xf b p:=by
 unfold stepQ Xf
 grind
def QdW(hd:(dueV p).2=true):QaZ b (stepQ c b p)<QaZ b p:=by
 have hs:p.p=0\/p.p=2:=Qfs hd
 unfold QaZ
 rw[Qvg]
 unfold stepQ
 grind
def Qbf(h:Yp p now=true):(dueV p).2=true/\(dueV p).1<=now:=by
 unfold Yp at h;simpa using h
def Qj3(h:QaZ b p=0):Yp p now=false:=by
 unfold QaZ at h
 unfold Yp dueV
 grind
def QN.stepVis(h:QN Q M b p)(hb:QU b)(hd:(dueV p).2=true):stepV c b p=(stepQ c b p,0):=by
 unfold stepV
 rw[h.check hb,hd,iA Ob,iA Ob,iA (by have:=(h.len hb).1;omega)]
def Qkr(Q:Int->D.T->Prop)(M:Int)(c:D.F)(b:D.b):Prop:=∀p,QN Q M b p->p.p=0->p.E7<YK (Xf b p)->Q p.W ⟨p.E7,p.FJ,Qcu c b (Zz b p) p.FJ⟩
def QpQ(hb:QU b)(hQ:Qkr Q M c b):∀(n:Nat) {p:D.Page},QN Q M b p->QaZ b p<=n->QN Q M b (runN c b now n p).1/\(runN c b now n p).2=0/\Yp (runN c b now n p).1 now=false
 |0,p,h,hl=>⟨h,rfl,Qj3 (b:=b) (show QaZ b p=0 by omega)⟩
 |n+1,p,h,hl=>by
  rw[runN]
  split
  .rename_i hw
   have hd:=Qbf hw
   rw[h.stepVis hb hd.1,iA Ob]
   exact QpQ hb hQ n (h.stepQ_inv hb hd.1 (hQ p h)) (by have:=QdW (c:=c) (b:=b) hd.1;dsimp only;omega)
  .rename_i hw
   exact⟨h,rfl,by dsimp only;cases hb:Yp p now<;>simp_all⟩
def QtI(hb:QU b)(h:QN Q M b p):QaZ b p<=11:=by
 have hc:=Yv (h.polOK hb)
 have:=(h.len hb).2
 unfold QaZ
 grind
def QeB(hb:QU b)(hQ:Qkr Q M c b)(h:QN Q M b p):QN Q M b (runV c b p now).1/\(runV c b p now).2=0/\Yp (runV c b p now).1 now=false:=by
 unfold runV
 rw[h.check hb,iA Ob]
 exact QpQ hb hQ 100 h (by have:=QtI hb h;omega)
def QrA(hb:QU b)(hQ:Qkr Q M c b):∀(n m:Nat) {p:D.Page},QN Q M b p->QaZ b p<=n->QaZ b p<=m->runN c b now n p=runN c b now m p
 |0,0,p,h,h1,h2=>rfl
 |0,m+1,p,h,h1,h2=>by rw[runN,runN,Qj3 (b:=b) U,iA Ob]
 |n+1,0,p,h,h1,h2=>by rw[runN,runN,Qj3 (b:=b) U,iA Ob]
 |n+1,m+1,p,h,h1,h2=>by
  rw[runN,runN]
  split
  .rename_i hw
   have hd:=Qbf hw
   rw[h.stepVis hb hd.1,iA Ob,iA Ob]
   have:=QdW (c:=c) (b:=b) hd.1
   exact QrA hb hQ n m (h.stepQ_inv hb hd.1 (hQ p h)) (by dsimp only;omega) (by dsimp only;omega)
  .rfl
def Qod(hb:QU b)(hQ:Qkr Q M c b)(haz:a<=z):∀(n:Nat) {p:D.Page},QN Q M b p->QaZ b p<=n->runN c b z n (runN c b a n p).1=runN c b z n p
 |0,p,h,hl=>rfl
 |n+1,p,h,hl=>by
  by_cases hw:Yp p a=true
  .have hd:=Qbf hw
   have hz:Yp p z=true:=by unfold Yp;rw[hd.1];simp;omega
   have hl':=QdW (c:=c) (b:=b) hd.1
   have hi:=h.stepQ_inv hb hd.1 (hQ p h)
   rw[show runN c b a (n+1) p=runN c b a n (stepQ c b p)from by rw[runN,iB hw,h.stepVis hb hd.1,iA Ob],show runN c b z (n+1) p=runN c b z n (stepQ c b p)from by rw[runN,iB hz,h.stepVis hb hd.1,iA Ob],<-Qod hb hQ haz n hi U]
   have hr:=QpQ (now:=a) hb hQ n hi U
   have hle:∀(n:Nat) {p:D.Page},QN Q M b p->QaZ b (runN c b a n p).1<=QaZ b p:=by
    intro n
    induction n with
    |zero=>intro p _;exact AN _
    |succ n ih=>
     intro p h
     rw[runN]
     split
     .rename_i hw
      have hd:=Qbf hw
      rw[h.stepVis hb hd.1,iA Ob]
      exact AY (ih (h.stepQ_inv hb hd.1 (hQ p h))) (EK (QdW hd.1))
     .exact AN _
   have:=hle n hi
   exact QrA hb hQ (n+1) n hr.1 U U
  .rw[show runN c b a (n+1) p=(p,0)from by rw[runN,iA hw]]
def QjX(h:QG b p=true):runV c b p now=runN c b now 100 p:=by unfold runV;rw[h,iA Ob]
def Qoe(hb:QU b)(hQ:Qkr Q M c b)(haz:a<=z)(h:QN Q M b p):runV c b (runV c b p a).1 z=runV c b p z:=by
 have hr:=QeB (now:=a) hb hQ h
 rw[QjX (hr.1.check hb),QjX (h.check hb),QjX (h.check hb)]
 exact Qod hb hQ haz 100 h (by have:=QtI hb h;omega)
end
open Go AM IntKind
noncomputable section
def tyL:Y (Nat×TC):=[(2,.int),(3,.int),(4,.bool),(5,.u8),(6,.u8),(9,.TY),(10,.TY),(11,.TY),(32,.F),(36,.b),(40,.G),(46,.M),(48,.g),(53,.N),(55,.a),(57,.t),(59,.Op),(61,.m),(65,.int),(83,.Page),(104,.T),(106,.Call),(116,.FC),(124,.r),(128,.R),(130,.FE),(132,.Fd),(134,.x),(138,.e),(141,.FU),(144,.W),(147,.y),(149,.FL),(158,.site),(178,.c),(212,.FD),(218,.n),(226,.fence),(257,.worker),(272,.FF),(348,.Fq),(368,.FV),(369,.FB),(372,.Fu),(388,.occurrence),(403,.int),(423,.Fl),(427,.FY),(480,.Fr),(487,.u8),(488,.u8)]
def ty(t:Nat):I TC:=AM.X t tyL
abbrev nI:SSh:=.one (.TZ .i64)
abbrev kI:Sh:=.TZ .i64
abbrev lI:SSh:=.one (.TQ .int)
abbrev rf(n:Nat):Nat×SSh:=(n,.one (.TM (1000+n)))
abbrev nJ(n:Nat):Nat×SSh:=(n,.one (.TZ .i64))
def gS:Nat->Ann->Ann
 |0,a=>a
 |n+1,a=>.Ta .go (gS n a)
def lp(s:Y (Nat×SSh))(o:Y (Name×OSh))(a:Ann):Ann:=.Ta (.Ta .go (.one (.loop s o a))) .go
abbrev li(n:Nat)(t:TC):Nat×SSh:=(n,.one (.TQ t))
abbrev bx(n:Nat)(t:TC):Name×OSh:=(n,.TV t)
abbrev ar(n:Nat)(t:TC):Name×OSh:=(n,.TI t)
def shF:Sh->Type->Type
 |.TZ _,zF=>Int->zF
 |.Tc,zF=>AH->zF
 |.TY,zF=>AJ->zF
 |.TQ t,zF=>Y (TT t)->zF
 |.view _,zF=>Nat->Nat->zF
 |.nul,zF=>zF
 |.TM _,zF=>zF
 |.own _,zF=>zF
 |.clo _ _,zF=>zF
 |.fv _,zF=>zF
 |.mref _,zF=>zF
def shA:(s:Sh)->{zF zB:Type}->shF s zF->s.prod zB->zF×zB
 |.TZ _,_,_,f,p=>(f p.1,p.2)
 |.Tc,_,_,f,p=>(f p.1,p.2)
 |.TY,_,_,f,p=>(f p.1,p.2)
 |.TQ _,_,_,f,p=>(f p.1,p.2)
 |.view _,_,_,f,p=>(f p.1 p.2.1,p.2.2)
 |.nul,_,_,f,p=>(f,p)
 |.TM _,_,_,f,p=>(f,p)
 |.own _,_,_,f,p=>(f,p)
 |.clo _ _,_,_,f,p=>(f,p)
 |.fv _,_,_,f,p=>(f,p)
 |.mref _,_,_,f,p=>(f,p)
def ssF:SSh->Type->Type
 |.one s,zF=>shF s zF
 |.st t,zF=>TT t->zF
 |.agg l,zF=>TL l->zF
def ssA:(s:SSh)->{zF zB:Type}->ssF s zF->s.prod zB->zF×zB
 |.one s,_,_,f,p=>shA s f p
 |.st _,_,_,f,p=>(f p.1,p.2)
 |.agg _,_,_,f,p=>(f p.1,p.2)
def cuR:Y SSh->Type->Type
 |[],zF=>zF
 |s::r,zF=>ssF s (cuR r zF)
def unc:(l:Y SSh)->{R:Type}->cuR l R->SL l->R
 |[],_,f,_=>f
 |s::r,_,f,x=>unc r (ssA s f x).1 (ssA s f x).2
abbrev sP(A R:Y SSh){T:Type}[AL T](F:cuR A (I T))(un:T->SL R×OL []:=by first|exact fun q=>((q,()),())|exact fun q=>((q.1,q.2,()),())|exact fun q=>((q.1,q.2.1,q.2.2,()),())):Sig:=Qn A [] R [] [] T un fun x _=>unc A F x
abbrev sF:I AH:=some false
abbrev sT:I AH:=some true
abbrev cd{R:Type}(p:Prop)[Decidable p](x y:I R):I R:=C (decide p) x y
abbrev FO(k:FuncId)(g:Sig):Prop:=FnOK Tryz.prog k g
abbrev sI(A:Y SSh)(F:SL A->I Int):Sig:=Qn A [] [.one (.TZ .i64)] [] [] Int (fun q=>((q,()),())) fun x _=>F x
abbrev sB(A:Y SSh)(F:SL A->I AH):Sig:=Qn A [] [.one .Tc] [] [] AH (fun q=>((q,()),())) fun x _=>F x
def eN{P:AF}:Qih P []:=trivial
def eC{P:AF}{l:Y (Nat×Nat×Sig)}{k:Nat}{g:Sig}(h:FnOK P k g)(hl:Qih P l):Qih P ((k,0,g)::l):=⟨h,hl⟩
def eD(d:Nat){P:AF}{l:Y (Nat×Nat×Sig)}{k:Nat}{g:Sig}(h:FnOK P k g)(hl:Qih P l):Qih P ((k,d,g)::l):=⟨h,hl⟩
def fI{l:Y (Nat×Nat×Sig)}{f:FuncId}(u:Nat){fn:Func}{c:Code}(an:Ann){args:Y SSh}{pre:Y (Name×OSh)}{res:Y SSh}{post:Y (Name×OSh)}{keep:Y Name}{Ret:Type}[AL Ret]{un:Ret->SL res×OL post}{F:SL args->OL pre->I Ret}(conv:SL res->OL post->Ret)(hE:Qih Tryz.prog l)(hf:Tryz.prog.funcs[f]?=some fn)(hb:fn.body=some c:=by rfl)(hlen:Nat.ble args.length fn.ntmps=true:=by rfl)(hcu:∀a b,un (conv a b)=(a,b):=by exact fun _ _=>rfl)(hF:∀x y,vc Tryz.prog ty (envL l) (keys pre) fn.ntmps u c an (Qb3 0 (SL.put 0 args x)) (OL.put 0 pre y) (finK Tryz.prog (keys pre) fn.results.toList (Qn args pre res post keep Ret un F) y fun a b=>some (conv a b))=F x y:=by intro x y;kernel_rfl):
  FnOK Tryz.prog f (Qn args pre res post keep Ret un F):=FnOK.intro (ty:=ty) conv hcu (Qsh hE) hf hb hlen hF
def fP{l:Y (Nat×Nat×Sig)}{f:FuncId}(u:Nat){fn:Func}{c:Code}(an:Ann){A R:Y SSh}{T:Type}[AL T]{F:cuR A (I T)}{un:T->SL R×OL []}(hE:Qih Tryz.prog l)(hf:Tryz.prog.funcs[f]?=some fn)(conv:SL R->OL []->T:=by first|exact fun a _=>a.1|exact fun a _=>(a.1,a.2.1)|exact fun a _=>(a.1,a.2.1,a.2.2.1))(hb:fn.body=some c:=by rfl)(hlen:Nat.ble A.length fn.ntmps=true:=by rfl)(hcu:∀a b,un (conv a b)=(a,b):=by exact fun _ _=>rfl)(hF:∀x y,vc Tryz.prog ty (envL l) (keys ([]:Y (Name×OSh))) fn.ntmps u c an (Qb3 0 (SL.put 0 A x)) (OL.put 0 [] y) (finK Tryz.prog (keys ([]:Y (Name×OSh))) fn.results.toList (Qn A [] R [] [] T un fun x _=>unc A F x) y fun a b=>some (conv a b))=unc A F x:=by intro x y;kernel_rfl):
  FnOK Tryz.prog f (Qn A [] R [] [] T un fun x _=>unc A F x):=FnOK.intro (ty:=ty) conv hcu (Qsh hE) hf hb hlen hF
abbrev P3:Type:=Int×Int×Int×Unit
abbrev P4:Type:=Int×Int×Int×Int×Unit
abbrev P5:Type:=Int×Int×Int×Int×Int×Unit
abbrev P6:Type:=Int×Int×Int×Int×Int×Int×Unit
abbrev P7:Type:=Int×Int×Int×Int×Int×Int×Int×Unit
abbrev P8:Type:=Int×Int×Int×Int×Int×Int×Int×Int×Unit
abbrev P9:Type:=Int×Int×Int×Int×Int×Int×Int×Int×Int×Unit
abbrev P10:Type:=Int×Int×Int×Int×Int×Int×Int×Int×Int×Int×Unit
abbrev P11:Type:=Int×Int×Int×Int×Int×Int×Int×Int×Int×Int×Int×Unit
abbrev P12:Type:=Int×Int×Int×Int×Int×Int×Int×Int×Int×Int×Int×Int×Unit
abbrev P13:Type:=Int×Int×Int×Int×Int×Int×Int×Int×Int×Int×Int×Int×Int×Unit
abbrev kz0:=fun(q:(Int×D.worker))=>((q.1,()),(q.2.G.E9,q.2.G.F.FG,q.2.G.F.l,q.2.G.F.o,q.2.G.F.f,q.2.G.b.v,q.2.G.b.k,q.2.G.E5,q.2.G.Fence,()),q.2.G.H,q.2.G.h,q.2.G.Calls,())
abbrev kz1:=fun(a:SL [nI]) (b:OL [(101,.box [kI,.TQ .r,.TQ .R,.TQ .n,.TQ .e,.TQ .FU,.TQ .W,.own 102,kI,kI,.own 103,.own 104]),ar 102 .Page,ar 103 .int,ar 104 .Call])=>(a.1,(D.worker.mk (D.G.mk b.1.1 (D.F.mk b.1.2.1 b.1.2.2.1 b.1.2.2.2.1 b.1.2.2.2.2.1) (D.b.mk b.1.2.2.2.2.2.1 b.1.2.2.2.2.2.2.1) b.2.1 b.1.2.2.2.2.2.2.2.1 b.1.2.2.2.2.2.2.2.2.1 b.2.2.1 b.2.2.2.1)))
abbrev kz2{A:Type}(q:A):=((q,()),())
abbrev kz3:=fun(q:(D.G×Int))=>(((q.1.E9,q.1.F.FG,q.1.F.l,q.1.F.o,q.1.F.f,q.1.b.v,q.1.b.k,q.1.E5,q.1.Fence,()),q.2,()),q.1.H,q.1.h,q.1.Calls,())
abbrev kz4{A B zH:Type}(a:(A×B))(b:zH):=a.1
abbrev kz5:=fun(q:D.G)=>(((q.E9,q.F.FG,q.F.l,q.F.o,q.F.f,q.b.v,q.b.k,q.E5,q.Fence,()),()),q.H,q.h,q.Calls,())
abbrev kz6{A:Type}(q:A):=((),q,())
abbrev kz7:=fun(a:SL [.agg [kI,.TQ .r,.TQ .R,.TQ .n,.TQ .e,.TQ .FU,.TQ .W,.own 101,kI,kI,.own 102,.own 103],nI]) (b:OL [ar 101 .Page,ar 102 .int,ar 103 .Call])=>((D.G.mk a.1.1 (D.F.mk a.1.2.1 a.1.2.2.1 a.1.2.2.2.1 a.1.2.2.2.2.1) (D.b.mk a.1.2.2.2.2.2.1 a.1.2.2.2.2.2.2.1) b.1 a.1.2.2.2.2.2.2.2.1 a.1.2.2.2.2.2.2.2.2.1 b.2.1 b.2.2.1),a.2.1)
abbrev kz8:=fun(q:(AH×D.Page))=>((q.1,()),(q.2.S,q.2.W,q.2.T,q.2.E7,q.2.FJ,q.2.p,q.2.By,q.2.FK,q.2.FM,q.2.E6,q.2.FI,()),q.2.P,q.2.i,q.2.h,())
abbrev kz9:=fun(q:D.worker)=>((),(q.G.E9,q.G.F.FG,q.G.F.l,q.G.F.o,q.G.F.f,q.G.b.v,q.G.b.k,q.G.E5,q.G.Fence,()),q.G.H,q.G.h,q.G.Calls,())
abbrev kz10{A B zH:Type}(a:A)(b:(B×zH)):=b.1
abbrev kz11:=fun(a:SL [.one .Tc]) (b:OL [(101,.box [kI,kI,kI,kI,kI,kI,kI,kI,kI,kI,kI,.own 102,.own 103,.own 104]),ar 102 .T,ar 103 .int,ar 104 .int])=>(a.1,(D.Page.mk b.1.1 b.1.2.1 b.1.2.2.1 b.1.2.2.2.1 b.1.2.2.2.2.1 b.1.2.2.2.2.2.1 b.1.2.2.2.2.2.2.1 b.1.2.2.2.2.2.2.2.1 b.1.2.2.2.2.2.2.2.2.1 b.1.2.2.2.2.2.2.2.2.2.1 b.1.2.2.2.2.2.2.2.2.2.2.1 b.2.1 b.2.2.1 b.2.2.2.1))
abbrev kz12:=fun(q:D.Page)=>(((q.S,q.W,q.T,q.E7,q.FJ,q.p,q.By,q.FK,q.FM,q.E6,q.FI,()),()),q.P,q.i,q.h,())
abbrev kz13:=fun(a:SL []) (b:OL [(101,.box [kI,.TQ .r,.TQ .R,.TQ .n,.TQ .e,.TQ .FU,.TQ .W,.own 102,kI,kI,.own 103,.own 104]),ar 102 .Page,ar 103 .int,ar 104 .Call])=>D.worker.mk (D.G.mk b.1.1 (D.F.mk b.1.2.1 b.1.2.2.1 b.1.2.2.2.1 b.1.2.2.2.2.1) (D.b.mk b.1.2.2.2.2.2.1 b.1.2.2.2.2.2.2.1) b.2.1 b.1.2.2.2.2.2.2.2.1 b.1.2.2.2.2.2.2.2.2.1 b.2.2.1 b.2.2.2.1)
abbrev kz14:=fun(a:SL [.agg [kI,.TQ .r,.TQ .R,.TQ .n,.TQ .e,.TQ .FU,.TQ .W,.own 101,kI,kI,.own 102,.own 103]]) (b:OL [ar 101 .Page,ar 102 .int,ar 103 .Call])=>D.G.mk a.1.1 (D.F.mk a.1.2.1 a.1.2.2.1 a.1.2.2.2.1 a.1.2.2.2.2.1) (D.b.mk a.1.2.2.2.2.2.1 a.1.2.2.2.2.2.2.1) b.1 a.1.2.2.2.2.2.2.2.1 a.1.2.2.2.2.2.2.2.2.1 b.2.1 b.2.2.1
abbrev kz15{A B:Type}(q:(A×B)):=((q.1,()),q.2,())
abbrev kz16:=fun(q:(Int×D.Page))=>((q.1,()),(q.2.S,q.2.W,q.2.T,q.2.E7,q.2.FJ,q.2.p,q.2.By,q.2.FK,q.2.FM,q.2.E6,q.2.FI,()),q.2.P,q.2.i,q.2.h,())
abbrev kz17{A B zH D:Type}(a:(A×B))(b:(zH×D)):=(a.1,b.1)
abbrev kz18{A B zH:Type}(q:(A×(B×zH))):=((q.1,q.2.1,()),q.2.2,())
abbrev kz19:=fun(q:D.N)=>(((q.S,q.Q,q.FZ,q.FA,q.d,()),()),q.j,q.FQ,q.E8,())
abbrev kz20{A B zH D E:Type}(a:(A×(B×zH)))(b:(D×E)):=(a.1,a.2.1,b.1)
abbrev kz21:=fun(q:D.M)=>(((),()),q.E,q.u,q.FP,q.Fg,())
abbrev kz22{A B:Type}(q:(A×B)):=((q.1,q.2,()),())
abbrev kz23{A B zH D:Type}(a:(A×(B×zH)))(b:D):=(a.1,a.2.1)
abbrev kz24{A:Type}(q:A):=((q,()),(),())
inductive JS where
 |n (k:Nat)
 |r (k:Nat) (t:TC)
 |l (k:Nat) (t:TC)
 |o (k m:Nat) (t:TC)
 |s (k:Nat) (x:SSh)
def jS:Y JS->Y (Nat×SSh)
 |[]=>[]
 |.n k::r=>nJ k::jS r
 |.r k _::r=>rf k::jS r
 |.l k t::r=>li k t::jS r
 |.o k m _::r=>(k,.one (.own m))::jS r
 |.s k x::r=>(k,x)::jS r
def jO:Y JS->Y (Name×OSh)
 |[]=>[]
 |.r k t::r=>bx (1000+k) t::jO r
 |.o _ m t::r=>ar m t::jO r
 |_::r=>jO r
def jn(s:Y JS)(a:Ann)(o:Y (Name×OSh):=[]):Ann:=.TG (jS s) (jO s++o) a
def lO(s:Y JS)(a:Ann)(o:Y (Name×OSh):=[]):Ann:=.loop (jS s) (jO s++o) a
def lq(s:Y JS)(a:Ann)(o:Y (Name×OSh):=[]):Ann:=.Ta (.Ta .go (.one (.loop (jS s) (jO s++o) a))) .go
abbrev bo:SSh:=.one .Tc
abbrev tx:SSh:=.one .TY
abbrev ls(t:TC):SSh:=.one (.TQ t)
abbrev tO:SSh:=.st .F
abbrev t1:SSh:=.st .N
abbrev t2:SSh:=.st .M
abbrev t3:SSh:=.st .Page
abbrev t4:SSh:=.st .G
abbrev t5:SSh:=.st .b
abbrev t6:SSh:=.st .Op
abbrev t7:SSh:=.st .r
abbrev t8:SSh:=.st .g
abbrev t9:SSh:=.st .x
namespace fk
abbrev g:=Ann.go
abbrev c:=Ann.Ta
def e:=@eC
def t:=@eN
def f:=@fP
abbrev s:=@sP
def i:=@fI
abbrev j:=@jn
abbrev k:=@lO
abbrev m:=@lq
abbrev n:=@gS
abbrev o:=@FO
abbrev d:=@nI
abbrev l:=@ls
abbrev h:=@bo
abbrev v:=@kI
abbrev p:=@ar
abbrev w:=@bx
abbrev r:=@rf
abbrev G:=@nJ
abbrev zG:=@t1
abbrev K:=@t2
abbrev E:=@t3
abbrev H:=@t4
abbrev L:=@t5
end fk
open fk Tryz
abbrev t10:SSh:=.st .FY
abbrev t11:SSh:=.st .Fd
abbrev t12:SSh:=.st .a
abbrev t13:SSh:=.st .e
abbrev t15:SSh:=.st .W
abbrev t16:SSh:=.st .c
abbrev z0:=D.g.mk (D.G.mk 0 (D.F.mk [] [] [] []) (D.b.mk [] []) [] 0 0 [] []) (D.M.mk [] [] [] []) 0
abbrev z1:=D.Page.mk 0 0 0 0 0 0 0 0 0 0 0 [] [] []
abbrev z2:=D.G.mk 0 (D.F.mk [] [] [] []) (D.b.mk [] []) [] 0 0 [] []
abbrev z3:=D.Op.mk 0 0 0 0 0 0 0 0 0 (D.a.mk 0 0 0 0 0 0) (D.t.mk 0 0 0 0 0)
abbrev z4:=D.N.mk 0 0 0 0 [] 0 [] []
abbrev z5:=D.M.mk [] [] [] []
abbrev z6:=D.a.mk 0 0 0 0 0 0
abbrev z7:=D.t.mk 0 0 0 0 0
abbrev z8:=D.F.mk [] [] [] []
abbrev z9:=D.FL.mk 0 0
abbrev z10:=D.Fl.mk (D.F.mk [] [] [] []) []
abbrev z12:=D.Fu.mk 0 0 0
abbrev z13:=D.Fd.mk 0 0
variable (u:Nat)
def QeQ(g:Y D.FE)(i:Int):I AH:=Qe (fun j ((a,e,f,b,_),_)=>cd (b<f) (TG (fun((k,l,m,n,_),_)=>j ((k,l,m,(J (n+1)),()),())) fun h=>TN e b fun c=>cd (c.w<=a) (cd (a<c.To) sT (h ((a,e,f,b,()),()))) (h ((a,e,f,b,()),()))) sF) u ((i,g,(g.length:Int),0,()),())
def Qm2:o 414 (s [l .FE,d] [h] (QeQ u)):=f u (c g (m [.n 1,.l 7 .FE,.n 8,.n 9] (n 2 (c (j [.n 1,.l 7 .FE,.n 8,.n 9] g) g)))) t func414
def Qd6(u:Nat)(a:Int):I Int:=nzc 7 (nzc 7 (some (Int.tmod (J ((Int.tmod a 7)+10)) 7)))
def Qkt:o 408 (s [d] [d] (Qd6 u)):=f u g t func408
def Wy(a:D.Fd):I Int:=O (Qd6 u a.Fj) fun b=>some (J ((J (b*86400))+a.Fb))
def QeZ:o 415 (s [t11] [d] (Wy u)):=f u g (e (Qkt u) t) func415
def QgZ(u:Nat)(a:Int):I D.Fd:=nzc 86400 (TG (fun((e,b,_),f,_)=>some (D.Fd.mk b (J (e - (J (b*86400)))))) fun c=>nzc 86400 (cd ((Int.tmod a 86400)<0) (c ((a,(J ((J (Int.tdiv a 86400)) - 1)),()),z13,())) (c ((a,(J (Int.tdiv a 86400)),()),z13,()))))
def Qp8:o 433 (s [d] [t11] (QgZ u)):=f u (n 2 (c (j [.n 0,.r 2 .Fd,.n 3] g) g)) t func433
def QaM(u:Nat)(a:D.FY)(b:Int):I Int:=cd (b=0) (some a.offset) (TN a.list (J (b - 1)) fun c=>some c.Fa)
def Qbw:o 442 (s [t10,d] [d] (QaM u)):=f u g t func442
def Qc3(u:Nat)(c:Int)(a:D.FY)(b:Int):I AH:=TN a.list c fun e=>TF a a (TF b b (some (decide (b<e.At))))
def Qgk:o 449 (Qn [d,.one (.TM 101),.one (.TM 102)] [w 101 .FY,w 102 .int] [h] [] [101,102] AH kz2 (fun x y=>Qc3 u x.1 y.1 y.2.1)):=i u g kz4 t func449
def Zt(h:Int)(c101:D.FY)(c102:Int):I Int:=Qe (fun g ((a,b,_),c,(e,_),_)=>cd (a<b) (TK 1 fun f=>O (Qc3 u (J (Int.fdiv (IntKind.wrap .u64 (J (a+b))) (HPow.hPow 2 (min f (Go.IntKind.bits Go.IntKind.u64))))) c e) fun i=>C (!i) (g (((J ((J (Int.fdiv (IntKind.wrap .u64 (J (a+b))) (HPow.hPow 2 (min f (Go.IntKind.bits Go.IntKind.u64)))))+1)),b,()),c,(e,()),())) (g ((a,(J (Int.fdiv (IntKind.wrap .u64 (J (a+b))) (HPow.hPow 2 (min f (Go.IntKind.bits Go.IntKind.u64))))),()),c,(e,()),()))) (TF c c101 (TF e c102 (some a)))) u ((0,h,()),c101,(c102,()),())
def Ud:o 448 (Qn [d,.one (.clo 449 [101,102])] [w 101 .FY,w 102 .int] [d] [] [101,102] Int kz2 (fun x y=>Zt u x.1 y.1 y.2.1)):=i u (n 2 (c (.one (k [.s 1 (.one (.clo 449 [101,102])),.n 5,.n 6] g [w 101 .FY,(102,.box [v])])) g)) kz4 (e (Qgk u) t) func448
def WI(a:D.FY)(b:Int):I Int:=O (Zt u (a.list.length:Int) a b) fun c=>some c
def Qcs:o 443 (s [t10,d] [d] (WI u)):=f u g (e (Ud u) t) func443
def VE(a:D.FY)(b:Int):I Int:=O (WI u a b) fun c=>O (QaM u a c) fun e=>some e
def Qha:o 434 (s [t10,d] [d] (VE u)):=f u g (e (Qbw u) (e (Qcs u) t)) func434
def ZS(b:D.FY)(a:Int):I D.Fd:=O (VE u b a) fun c=>O (QgZ u (J (a+c))) fun e=>some e
def Uj:o 417 (s [t10,d] [t11] (ZS u)):=f u g (e (Qp8 u) (e (Qha u) t)) func417
def QdN(u:Nat)(a:D.x):I Int:=cd (a.Unit=2) (some (J (7*a.FH))) (some a.FH)
def Qi9:o 471 (s [t9] [d] (QdN u)):=f u g t func471
def QaL(n:D.FY)(o:Int)(p:Int):I (Y D.Fr):=Qe (fun q ((c,a,_),b,j,_)=>cd (c<a) (O (WI u b c) fun e=>TG (fun((l,r,s,k,_),f,g,_)=>O (QaM u f s) fun h=>TO (g.length+[(D.Fr.mk l k h)].length) 34359738368 (q ((k,r,()),f,(g++[(D.Fr.mk l k h)]),()))) fun i=>cd (e<(b.list.length:Int)) (TN b.list e fun m=>i ((c,a,e,(min a m.At),()),b,j,())) (i ((c,a,e,a,()),b,j,()))) (some j)) u ((o,p,()),n,[],())
def Qhb:o 474 (s [t10,d,d] [l .Fr] (QaL u)):=f u (n 2 (c (.one (k [.n 1,.n 2,.r 3 .FY,.o 7 1038 .Fr] (c g (.one (n 2 (c (j [.n 1,.n 2,.r 3 .FY,.o 7 1038 .Fr,.n 8,.n 9] g) g)))))) g)) (e (Qbw u) (e (Qcs u) t)) func474
def Qgm(u:Nat)(a:D.Fd):I Int:=some (J ((J ((min (max a.Fj (-1048576)) 1048576)*86400))+a.Fb))
def Qm5:o 475 (s [t11] [d] (Qgm u)):=f u g t func475
def WH(i:D.FY)(j:D.Fd):I (Int×AH):=O (QaL u i 0 8589934593) fun c=>Qe (fun k ((e,f,b,_),g,_)=>cd (b<f) (TN e b fun a=>O (Qgm u g) fun h=>cd ((max a.w (J (h - a.Fa)))<a.To) (some ((max a.w (J (h - a.Fa))),true)) (k ((e,f,(J (b+1)),()),g,()))) (some (0,false))) u ((c,(c.length:Int),0,()),j,())
def Qie:o 473 (s [t10,t11] [d,h] (WH u)):=f u (c g (m [.r 3 .Fd,.l 10 .Fr,.n 11,.n 12] g)) (e (Qhb u) (e (Qm5 u) t)) func473
def Yd(e:D.FY)(a:D.x)(b:Int):I (Int×AH):=cd (8589934592<b) (some (0,false)) (cd (a.Unit≠0) (O (QdN u a) fun f=>O (WH u e (D.Fd.mk (J (a.T.Fj+(J (b*f)))) a.T.Fb)) fun(g,h)=>some (g,h)) (O (WH u e a.T) fun(c,i)=>C i (cd ((J (c+(J ((J (3600*a.FH))*b))))<=8589934592) (some ((J (c+(J ((J (3600*a.FH))*b)))),true)) (some ((J (c+(J ((J (3600*a.FH))*b)))),false))) (some ((J (c+(J ((J (3600*a.FH))*b)))),false))))
def Qh2:o 470 (s [t10,t9,d] [d,h] (Yd u)):=f u g (e (Qi9 u) (e (Qie u) t)) func470
def U3(n:D.FY)(o:D.x)(p:Int):I Int:=O (Yd u n o 0) fun(q,Z)=>TG (fun((m,a3,_),r,g,_)=>cd (g.Unit=0) (nzc (J (3600*g.FH)) (some (J (Int.tdiv (J (m - a3)) (J (3600*g.FH)))))) (O (ZS u r m) fun a6=>O (QdN u g) fun s=>nzc s (TG (fun((a8,a9,_),t,v,_)=>Qe (fun w ((h,f,_),i,j,_)=>TG (fun((y,z,_),A,B,_)=>w ((y,(J (z+1)),()),A,B,())) fun zH=>O (Yd u i j (J (f+1))) fun(E,F)=>C F (cd (h<E) (some f) (zH ((h,f,()),i,j,()))) (some f)) u ((a8,a9,()),t,v,())) fun k=>Qe (fun G ((b,a,_),c,e,_)=>cd (0<a) (TG (fun((H,zE,_),zG,L,_)=>G ((H,(J (zE - 1)),()),zG,L,())) fun l=>O (Yd u c e a) fun(zC,zI)=>C zI (cd (zC<=b) (k ((b,a,()),c,e,())) (l ((b,a,()),c,e,()))) (l ((b,a,()),c,e,()))) (k ((b,a,()),c,e,()))) u ((m,(max 0 (J (Int.tdiv (J (a6.Fj - g.T.Fj)) s))),()),r,g,())))) fun W=>C Z (cd (p<q) (some (-1)) (W ((p,q,()),n,o,()))) (some (-1))
def QkI:o 467 (s [t10,t9,d] [d] (U3 u)):=f u (n 2 (c (j [.n 2,.r 3 .FY,.r 4 .x,.n 7] g) (n 2 (c (j [.n 2,.r 3 .FY,.r 4 .x,.n 9] (.one (k [.n 2,.r 3 .FY,.r 4 .x,.n 9] (c g (.one (c (j [.n 2,.r 3 .FY,.r 4 .x,.n 9] g) g)))))) (.one (k [.n 2,.r 3 .FY,.r 4 .x,.n 9] (.one (c (j [.n 2,.r 3 .FY,.r 4 .x,.n 9] g) g)))))))) (e (Uj u) (e (Qh2 u) (e (Qi9 u) t))) func467
def Qby(u:Nat)(a:Int):I AH:=some (decide (a≠a))
def Qku:o 423 (s [d] [h] (Qby u)):=f u g t func423
def Un(a:Int)(b:Int):I AH:=O (Qby u a) fun c=>C c (O (Qby u b) fun e=>C e (cd (a<b) sT sF) sT) (cd (a<b) sT sF)
def Qb9:o 395 (s [d,d] [h] (Un u)):=f u g (e (Qku u) t) func395
def Qbn(u:Nat)(a:Int):I AH:=some (decide (a≠a))
def Qh9:o 472 (s [d] [h] (Qbn u)):=f u g t func472
def Qab(f:Y Int)(m:Int):I (Int×AH):=Qe (fun i ((b,c,g,a,e,_),_)=>cd (a<e) (TK 1 fun h=>TN b (J (Int.fdiv (IntKind.wrap .u64 (J (a+e))) (HPow.hPow 2 (min h (Go.IntKind.bits Go.IntKind.u64))))) fun n=>O (Un u n c) fun o=>C o (i ((b,c,g,(J ((J (Int.fdiv (IntKind.wrap .u64 (J (a+e))) (HPow.hPow 2 (min h (Go.IntKind.bits Go.IntKind.u64)))))+1)),e,()),())) (i ((b,c,g,a,(J (Int.fdiv (IntKind.wrap .u64 (J (a+e))) (HPow.hPow 2 (min h (Go.IntKind.bits Go.IntKind.u64))))),()),()))) (cd (a<g) (TN b a fun p=>cd (p=c) (some (a,true)) (TN b a fun j=>O (Qbn u j) fun k=>C k (O (Qbn u c) fun l=>C l (some (a,true)) (some (a,false))) (some (a,false)))) (some (a,false)))) u ((f,m,(f.length:Int),0,(f.length:Int),()),())
def QcC:o 468 (s [lI,d] [d,h] (Qab u)):=f u (n 3 (c (.one (k [.s 0 lI,.n 1,.n 6,.n 7,.n 8] g)) g)) (e (Qb9 u) (e (Qh9 u) t)) func468
def QcF(t:D.Fl)(v:D.x)(e:Int):I (Int×AH):=TG (fun((b,_),f,a,_)=>TN f.tables a.r fun i=>O (U3 u i a b) fun g=>TG (fun((w,j,_),k,h,_)=>cd (h.Fx=0) (some (j,true)) (TN k.F.o h.n fun l=>TN k.tables l.r fun m=>O (ZS u m w) fun n=>O (Qab u l.Fy n.Fj) fun(y,o)=>some (j,(decide (o=(decide (h.Fx=2))))))) fun c=>cd (g<0) (some (0,false)) (cd (0<(a.Fi.length:Int)) (O (ZS u i b) fun p=>O (Wy u p) fun q=>O (QeQ u a.Fi q) fun r=>C r (c ((b,g,()),f,a,())) (some (0,false))) (c ((b,g,()),f,a,())))) fun s=>cd (e<0) (some (0,false)) (cd (8589934592<e) (some (0,false)) (s ((e,()),t,v,())))
def QlG:o 463 (s [.st .Fl,t9,d] [d,h] (QcF u)):=f u (c g (c (j [.n 2,.r 3 .Fl,.r 4 .x] g) (n 2 (c (j [.n 2,.r 3 .Fl,.r 4 .x,.n 9] g) g)))) (e (Qm2 u) (e (QeZ u) (e (Uj u) (e (QkI u) (e (QcC u) t))))) func463
def Wz(b:D.Fl)(a:D.x)(c:Int):I Int:=O (QcF u b a c) fun(e,f)=>C (!f) (some (-1)) (nzc (a.s.length:Int) (TN a.s (Int.tmod e (a.s.length:Int)) fun g=>some g))
def Qhz:o 457 (sI [.st .Fl,t9,d] fun x=>Wz u x.1 x.2.1 x.2.2.1):=i u g kz4 (e (QlG u) t) func457
def Qc2(u:Nat)(c:D.t)(b:Int)(a:Int):I AH:=cd (c.Z=0) (cd (c.A=b) (cd (c.w<=a) (cd (a<c.To) (TF b b (TF a a sT)) (TF b b (TF a a sF))) (TF b b (TF a a sF))) (TF b b (TF a a sF))) (TF b b (TF a a sF))
def QmQ:o 465 (Qn [.st .t,.one (.TM 101),.one (.TM 102)] [w 101 .int,w 102 .int] [h] [] [101,102] AH kz2 (fun x y=>Qc2 u x.1 y.1 y.2.1)):=i u g kz4 t func465
def Zc(e:Y D.t)(c101:Int)(c102:Int):I Int:=Qe (fun h ((f,g,a,_),(b,_),(c,_),_)=>cd (a<g) (TN f a fun i=>O (Qc2 u i b c) fun j=>C j (TF b c101 (TF c c102 (some a))) (h ((f,g,(J (a+1)),()),(b,()),(c,()),()))) (TF b c101 (TF c c102 (some (-1))))) u ((e,(e.length:Int),0,()),(c101,()),(c102,()),())
def Vs:o 469 (Qn [l .t,.one (.clo 465 [101,102])] [w 101 .int,w 102 .int] [d] [] [101,102] Int kz2 (fun x y=>Zc u x.1 y.1 y.2.1)):=i u (c g (m [.l 0 .t,.s 1 (.one (.clo 465 [101,102])),.n 7,.n 8] g [(101,.box [v]),(102,.box [v])])) kz4 (e (QmQ u) t) func469
def Zv(a:Y D.t)(c101:Int)(c102:Int):I AH:=O (Zc u a c101 c102) fun b=>TF c101 c101 (TF c102 c102 (some (decide (0<=b))))
def WD:o 464 (Qn [l .t,.one (.clo 465 [101,102])] [w 101 .int,w 102 .int] [h] [] [101,102] AH kz2 (fun x y=>Zv u x.1 y.1 y.2.1)):=i u g kz4 (e (Vs u) t) func464
def QaJ(a:D.e)(b:Int)(c:Int):I AH:=O (Zv u a.FS b c) fun e=>some e
def QpZ:o 458 (sB [t13,d,d] fun x=>QaJ u x.1 x.2.1 x.2.2.1):=i u g kz4 (e (WD u) t) func458
end
section
open Go Go.RowKit Go.Shelf Go.Proofs AM
attribute [local go_sem] Oper.semAt_some
set_option maxHeartbeats 400000
def QAI(F)(n)(h5:F.fn 456)(hro:F.round=none)(a)(len cap)(w):
  CallsIn F n Tryz.prog 456 #[.slice a len cap] w fun e w'=>e=.returned (.func (.func 462) #[] #[.pointer (some ⟨w.heap.size,0,none⟩)])/\w'=w.alloc (.cells #[.slice a len cap] 135):=by
 refine callsIn_of_wp Tryz.func456 rfl h5 ?_ hro
 simp
 gi_wp2
 go_ret
 exact⟨rfl,rfl⟩
def Qul(n)(hn:1<=n)(Bs b off cap)(l1 l2 l3 l4 l5 l6 l7 l8 l9 l10)(w)(hBs:Bs<w.heap.size)(hb:b<w.heap.size)(hc:w.cell? ⟨Bs,0,none⟩=some (.slice (some ⟨b,off,none⟩) 1 cap))(c1:w.cell? ⟨b,off,none⟩=some l1)(c2:w.cell? ⟨b,off+1,none⟩=some l2)(c3:w.cell? ⟨b,off+2,none⟩=some l3)(c4:w.cell? ⟨b,off+3,none⟩=some l4)(c5:w.cell? ⟨b,off+4,none⟩=some l5)(c6:w.cell? ⟨b,off+5,none⟩=some l6)(c7:w.cell? ⟨b,off+6,none⟩=some l7)(c8:w.cell? ⟨b,off+7,none⟩=some l8)(c9:w.cell? ⟨b,off+8,none⟩=some l9)(c10:w.cell? ⟨b,off+9,none⟩=some l10):
  SeqStopsK Fence.wide n Tryz.prog 462 #[.pointer (some ⟨Bs,0,none⟩)] (fun _:Unit=>#[Value.int .i64 0,.agg #[l1,l2,l3,l4,l5,l6,l7,l8,l9,l10]]) (fun _ _=>True) (fun ys=>ys=[()]) (fun pre=>pre=[()]) 1 w:=by
 intro l zG Jx W hW hJ hJx hY h0
 have hc':=(hW.cell (p:=⟨Bs,0,none⟩) hBs).trans hc
 have d1:=(hW.cell (p:=⟨b,off,none⟩) hb).trans c1
 have d2:=(hW.cell (p:=⟨b,off+1,none⟩) hb).trans c2
 have d3:=(hW.cell (p:=⟨b,off+2,none⟩) hb).trans c3
 have d4:=(hW.cell (p:=⟨b,off+3,none⟩) hb).trans c4
 have d5:=(hW.cell (p:=⟨b,off+4,none⟩) hb).trans c5
 have d6:=(hW.cell (p:=⟨b,off+5,none⟩) hb).trans c6
 have d7:=(hW.cell (p:=⟨b,off+6,none⟩) hb).trans c7
 have d8:=(hW.cell (p:=⟨b,off+7,none⟩) hb).trans c8
 have d9:=(hW.cell (p:=⟨b,off+8,none⟩) hb).trans c9
 have d10:=(hW.cell (p:=⟨b,off+9,none⟩) hb).trans c10
 obtain⟨fn,tmps,assign,body,hy,hR⟩:=hY [] () W h0 Ob
 dsimp only at hy
 refine callsIn_of_wp Tryz.func462 rfl trivial ?_ rfl
 simp only[Tryz.ntmps462,CB,Ad,Ao,Nat.reduceAdd,Nat.reduceSub,Et,Eu,Ev,Ew,BU,BE]
 gi_wp2
 gi_loopw [3] (fun i wr=>(i=.int .i64 0/\wr=W)\/(i=.int .i64 (-1)/\zG [()] wr)) (fun i _=>(intOf i+1).toNat)
 case atStart=>exact .inl ⟨by simp[wrap64],rfl⟩
 case round=>
  rcases hrel with⟨rfl,rfl⟩|⟨rfl,hJ1⟩
  .gi_wp2
   refine hR.mono ?_
   rintro e W3 (⟨rfl,hJ3,_⟩|⟨rfl,hJx3⟩)
   .gi_wp2
    go_roundw
    case rel=>exact .inr ⟨by simp[wrap64],hJ3⟩
    case measure=>simp[intOf,wrap64]
   .gi_wp2
    refine bodyPost_ret (results_none rfl _ _ _) rfl ?_
    exact⟨⟨_,rfl⟩,.inr ⟨_,rfl,hJx3⟩⟩
  .gi_wp2
   go_end0
   exact⟨⟨_,rfl⟩,.inl ⟨_,rfl,hJ1⟩⟩
def Blk(W:AG)(b:Nat)(cs:Array AE)(t:AD):Prop:=W.heap[b]?=some (.cells cs t (0,0))
def Blk.new(W:AG)(cs:Array AE)(t:AD):Blk (W.alloc (.cells cs t)) W.heap.size cs t:=World.alloc_heap_new W _
def Blk.lt(h:Blk W b cs t):b<W.heap.size:=(CE.1 h).1
def Blk.alloc(h:Blk W b cs t)(o):Blk (W.alloc o) b cs t:=(Below.heap_alloc W o b h.lt).trans h
def Blk.cell(h:Blk W b cs t)(hj:cs[j]?=some v):W.cell? ⟨b,j,none⟩=some v:=by
 simp[World.cell?,show W.heap[b]?=_ from h,hj]
def Blk.frozen(h:Blk W b cs t):W.frozen? ⟨b,j,none⟩=false:=by simp[World.frozen?,show W.heap[b]?=_ from h]
def Blk.own(h:Blk W b cs t)(hg:W.grownBy W' row)(hr:∀r,row=some r->B<=r/\∃o:Obj,W.heap[r]?=some o/\o.isCells=false):Blk W' b cs t:=by
 refine(hg.block b h.lt fun e=>?_).trans h
 obtain⟨_,o,ho,hc⟩:=hr b e.symm
 rw[show W.heap[b]?=_ from h]at ho;cases ho;cases hc
def Blk.ext(h:Blk W b cs t)(hx:AM.Ext (fun _=>False) W W'):Blk W' b cs t:=(hx.same b h.lt id).trans h
def QoP(hB:w.heap.size<=B)(h:AM.Ext (fun _=>False) w W)(hg:W.grownBy W' row)(hr:∀r,row=some r->B<=r/\∃o:Obj,W.heap[r]?=some o/\o.isCells=false):AM.Ext (fun _=>False) w W':=
 ⟨AY h.size hg.size,fun b hb _=>(hg.block b (BD hb h.size) (fun e=>by have:=(hr b e.symm).1;omega)).trans (h.same b hb id),hg.os.trans h.os,hg.output.trans h.out⟩
def Qcb(h:AM.Ext (fun _=>False) w W)(o):AM.Ext (fun _=>False) w (W.alloc o):=
 ⟨AY h.size Ob,fun b hb _=>(Below.heap_alloc W o b (BD hb h.size)).trans (h.same b hb id),h.os,h.out⟩
def Qis(h:AM.Ext (fun _=>False) a b)(k:AM.Ext (fun _=>False) b c):AM.Ext (fun _=>False) a c:=h.trans k fun _ _ e=>e
def QlZ(h:AM.Ext (fun _=>False) W W')(B):KeepsFrom B W W':=⟨h.size,fun k o _ hk _=>(h.same k (CE.1 hk).1 id).trans hk⟩
structure Oth (b:Nat) (W W':AG):Prop where
 size:W'.heap.size=W.heap.size
 same:∀k,k≠b->W'.heap[k]?=W.heap[k]?
 os:W'.os=W.os
 out:W'.output=W.output
def Oth.refl(b)(W):Oth b W W:=⟨rfl,fun _ _=>rfl,rfl,rfl⟩
def Oth.trans(h:Oth b A B)(k:Oth b B zH):Oth b A zH:=⟨k.size.trans h.size,fun i hi=>(k.same i hi).trans (h.same i hi),k.os.trans h.os,k.out.trans h.out⟩
def Oth.set(b j)(v)(W):Oth b W (W.setCell ⟨b,j,none⟩ v):=
 ⟨by simp[World.setCell],fun k hk=>by simp[World.setCell,Ex,Ag hk],rfl,rfl⟩
def Oth.blk(h:Oth b W W')(hk:k≠b)(hb:Blk W k cs t):Blk W' k cs t:=(h.same k hk).trans hb
def Blk.set(h:Blk W b cs t)(j)(v):Blk (W.setCell ⟨b,j,none⟩ v) b (cs.setIfInBounds j v) t:=by
 have:b<W.heap.size:=h.lt
 unfold Blk at h |-
 simp only[World.setCell,Ex,h,if_true]
 rfl
def Blk.store{P:AF}{W:AG}{b:Nat}{cs:Array AE}{t:AD}(h:Blk W b cs t){j:Nat}(hj:j<cs.size){v:AE}(hv:v.oneCell'=true):(store ⟨b,j,none⟩ v).run P W=.ok () (W.setCell ⟨b,j,none⟩ v):=by
 rw[run_store P W _ v _ hv]
 have h1:=h.cell (j:=j) (v:=cs[j]) (by simp[hj])
 simp[stored,h1,h.frozen]
def QlN(hB:w.heap.size<=b)(h:AM.Ext (fun _=>False) w W)(k:Oth b W W'):AM.Ext (fun _=>False) w W':=
 ⟨by rw[k.size];exact h.size,fun i hi _=>(k.same i U).trans (h.same i hi id),k.os.trans h.os,k.out.trans h.out⟩
def QwT(B:Nat)(k:Oth W.heap.size (W.alloc o) W'):KeepsFrom B W W':=
 ⟨by rw[k.size];simp,fun i x _ hi _=>by
  have hl:=(CE.1 hi).1
  exact(k.same i U).trans ((Below.heap_alloc W o i hl).trans hi)⟩
def store1(h:Blk W b cs t)(ho:Oth b A0 W)(hj:j<cs.size)(hc:cs.setIfInBounds j v=cs')(hv:v.oneCell'=true):
  ∃W',(store ⟨b,j,none⟩ v).run P W=.ok () W'/\Oth b A0 W'/\Blk W' b cs' t:=⟨_,h.store hj hv,ho.trans (Oth.set b j v W),hc ▸ h.set j v⟩
def store10(P:AF)(W:AG)(l1 l2 l3 l4 l5 l6 l7 l8 l9 l10:AE)(o1:l1.oneCell'=true)(o2:l2.oneCell'=true)(o3:l3.oneCell'=true)(o4:l4.oneCell'=true)(o5:l5.oneCell'=true)(o6:l6.oneCell'=true)(o7:l7.oneCell'=true)(o8:l8.oneCell'=true)(o9:l9.oneCell'=true)(o10:l10.oneCell'=true):
  ∃W3,((Sem.run P (store ⟨W.heap.size,0,none⟩ l1) (W.alloc (.cells #[.string { data:=#[] },.int .i64 0,.int .i64 0,.int .i64 0,.int .i64 0,.int .i64 0,.slice none 0 0,.slice none 0 0,.int .i64 0,.int .i64 0] 134))).andThen fun a w'=>(Sem.run P (store ⟨W.heap.size,1,none⟩ l2) w').andThen fun a w'=>(Sem.run P (store ⟨W.heap.size,2,none⟩ l3) w').andThen fun a w'=>(Sem.run P (store ⟨W.heap.size,3,none⟩ l4) w').andThen fun a w'=>(Sem.run P (store ⟨W.heap.size,4,none⟩ l5) w').andThen fun a w'=>(Sem.run P (store ⟨W.heap.size,5,none⟩ l6) w').andThen fun a w'=>(Sem.run P (store ⟨W.heap.size,6,none⟩ l7) w').andThen fun a w'=>(Sem.run P (store ⟨W.heap.size,7,none⟩ l8) w').andThen fun a w'=>(Sem.run P (store ⟨W.heap.size,8,none⟩ l9) w').andThen fun a w'=>(Sem.run P (store ⟨W.heap.size,9,none⟩ l10) w'))=.ok () W3/\Oth W.heap.size (W.alloc (.cells #[.string { data:=#[] },.int .i64 0,.int .i64 0,.int .i64 0,.int .i64 0,.int .i64 0,.slice none 0 0,.slice none 0 0,.int .i64 0,.int .i64 0] 134)) W3/\Blk W3 W.heap.size #[l1,l2,l3,l4,l5,l6,l7,l8,l9,l10] 134:=by
 have q0:=Blk.new W #[.string { data:=#[] },.int .i64 0,.int .i64 0,.int .i64 0,.int .i64 0,.int .i64 0,.slice none 0 0,.slice none 0 0,.int .i64 0,.int .i64 0] 134
 have t0:=Oth.refl W.heap.size (W.alloc (.cells #[.string { data:=#[] },.int .i64 0,.int .i64 0,.int .i64 0,.int .i64 0,.int .i64 0,.slice none 0 0,.slice none 0 0,.int .i64 0,.int .i64 0] 134))
 obtain⟨A1,r1,t1,q1⟩:=store1 (P:=P) (cs':=#[l1,.int .i64 0,.int .i64 0,.int .i64 0,.int .i64 0,.int .i64 0,.slice none 0 0,.slice none 0 0,.int .i64 0,.int .i64 0]) q0 t0 (j:=0) (v:=l1) Ob rfl o1
 rw[r1,Result.andThen]
 obtain⟨A2,r2,t2,q2⟩:=store1 (P:=P) (cs':=#[l1,l2,.int .i64 0,.int .i64 0,.int .i64 0,.int .i64 0,.slice none 0 0,.slice none 0 0,.int .i64 0,.int .i64 0]) q1 t1 (j:=1) (v:=l2) Ob rfl o2
 rw[r2,Result.andThen]
 obtain⟨A3,r3,t3,q3⟩:=store1 (P:=P) (cs':=#[l1,l2,l3,.int .i64 0,.int .i64 0,.int .i64 0,.slice none 0 0,.slice none 0 0,.int .i64 0,.int .i64 0]) q2 t2 (j:=2) (v:=l3) Ob rfl o3
 rw[r3,Result.andThen]
 obtain⟨A4,r4,t4,q4⟩:=store1 (P:=P) (cs':=#[l1,l2,l3,l4,.int .i64 0,.int .i64 0,.slice none 0 0,.slice none 0 0,.int .i64 0,.int .i64 0]) q3 t3 (j:=3) (v:=l4) Ob rfl o4
 rw[r4,Result.andThen]
 obtain⟨A5,r5,t5,q5⟩:=store1 (P:=P) (cs':=#[l1,l2,l3,l4,l5,.int .i64 0,.slice none 0 0,.slice none 0 0,.int .i64 0,.int .i64 0]) q4 t4 (j:=4) (v:=l5) Ob rfl o5
 rw[r5,Result.andThen]
 obtain⟨A6,r6,t6,q6⟩:=store1 (P:=P) (cs':=#[l1,l2,l3,l4,l5,l6,.slice none 0 0,.slice none 0 0,.int .i64 0,.int .i64 0]) q5 t5 (j:=5) (v:=l6) Ob rfl o6
 rw[r6,Result.andThen]
 obtain⟨A7,r7,t7,q7⟩:=store1 (P:=P) (cs':=#[l1,l2,l3,l4,l5,l6,l7,.slice none 0 0,.int .i64 0,.int .i64 0]) q6 t6 (j:=6) (v:=l7) Ob rfl o7
 rw[r7,Result.andThen]
 obtain⟨A8,r8,t8,q8⟩:=store1 (P:=P) (cs':=#[l1,l2,l3,l4,l5,l6,l7,l8,.int .i64 0,.int .i64 0]) q7 t7 (j:=7) (v:=l8) Ob rfl o8
 rw[r8,Result.andThen]
 obtain⟨A9,r9,t9,q9⟩:=store1 (P:=P) (cs':=#[l1,l2,l3,l4,l5,l6,l7,l8,l9,.int .i64 0]) q8 t8 (j:=8) (v:=l9) Ob rfl o9
 rw[r9,Result.andThen]
 obtain⟨A10,r10,t10,q10⟩:=store1 (P:=P) (cs':=#[l1,l2,l3,l4,l5,l6,l7,l8,l9,l10]) q9 t9 (j:=9) (v:=l10) Ob rfl o10
 rw[r10]
 exact⟨A10,rfl,t10,q10⟩
def QCr(n)(hn:3<=n)(v1 v2 v3 v4 v5 s1 s3)(b off cap)(t)(l1 l2 l3 l4 l5 l6 l7 l8 l9 l10)(w)(hb:b<w.heap.size)(c1:w.cell? ⟨b,off,none⟩=some l1)(c2:w.cell? ⟨b,off+1,none⟩=some l2)(c3:w.cell? ⟨b,off+2,none⟩=some l3)(c4:w.cell? ⟨b,off+3,none⟩=some l4)(c5:w.cell? ⟨b,off+4,none⟩=some l5)(c6:w.cell? ⟨b,off+5,none⟩=some l6)(c7:w.cell? ⟨b,off+6,none⟩=some l7)(c8:w.cell? ⟨b,off+7,none⟩=some l8)(c9:w.cell? ⟨b,off+8,none⟩=some l9)(c10:w.cell? ⟨b,off+9,none⟩=some l10)(o1:l1.oneCell'=true)(o2:l2.oneCell'=true)(o3:l3.oneCell'=true)(o4:l4.oneCell'=true)(o5:l5.oneCell'=true)(o6:l6.oneCell'=true)(o7:l7.oneCell'=true)(o8:l8.oneCell'=true)(o9:l9.oneCell'=true)(o10:l10.oneCell'=true)(p)(hP:∀W,AM.Ext (fun _=>False) w W->Calls Tryz.prog 457 #[.agg #[v1,v2,v3,v4,v5],.agg #[l1,l2,l3,l4,l5,l6,l7,l8,l9,l10],.int .i64 t] W fun e W'=>e=.returned (.int .i64 p)/\AM.Ext (fun _=>False) W W')(aw)(hA:0<=p->∀W,AM.Ext (fun _=>False) w W->Calls Tryz.prog 458 #[.agg #[s1,.slice (some ⟨b,off,none⟩) 1 cap,s3],.int .i64 p,.int .i64 t] W fun e W'=>e=.returned (.bool aw)/\AM.Ext (fun _=>False) W W'):
  CallsIn Fence.wide n Tryz.prog 451 #[.agg #[v1,v2,v3,v4,v5],.agg #[s1,.slice (some ⟨b,off,none⟩) 1 cap,s3],.int .i64 t] w fun e w'=>
   e=.returned (.tuple #[.int .i64 (if p<0\/aw=true then -1 else 0),.int .i64 (if p<0\/aw=true then -1 else p)])/\AM.Ext (fun _=>False) w w':=by
 have h1:1<=n:=U
 refine callsIn_of_wp_marks Tryz.func451 rfl trivial ?_ rfl
 simp only[Tryz.ntmps451,CB,Ad,Ao,Nat.reduceAdd,Nat.reduceSub,Et,Eu,Ev,Ew,BU,BE]
 gi_wp2
 refine wpIn_wide.2 (wp_scope_straight ((wpIn_wide (n:=n)).1 ?_))
 refine wpIn_seq (wpIn_label ?_)
 show Code.wpIn _ _ _ _ _ _ _
 gi_wp2_with (refine⟨trivial,?_⟩;gi_at_call 456;refine(QAI Fence.wide (n - 1) trivial rfl _ _ _ _).mono ?_;rintro e w' ⟨rfl,rfl⟩)
 have e0:=Qcb (Qcb (Qcb (Qcb (Qcb (Qcb (AM.Ext.refl (fun _=>False) w) (.cells #[v1,v2,v3,v4,v5] 423)) (.cells #[s1,.slice (some ⟨b,off,none⟩) 1 cap,s3] 138)) (.cells #[.int .i64 t] 3)) (.cells #[.int .i64 0] 3)) (.cells #[.int .i64 0] 3)) (.cells #[.slice (some ⟨b,off,none⟩) 1 cap] 135)
 have b0:=((((((Blk.new w #[v1,v2,v3,v4,v5] 423).alloc (.cells #[s1,.slice (some ⟨b,off,none⟩) 1 cap,s3] 138)).alloc (.cells #[.int .i64 t] 3)).alloc (.cells #[.int .i64 0] 3)).alloc (.cells #[.int .i64 0] 3)).alloc (.cells #[.slice (some ⟨b,off,none⟩) 1 cap] 135))
 have b1:=(((((Blk.new (w.alloc (.cells #[v1,v2,v3,v4,v5] 423)) #[s1,.slice (some ⟨b,off,none⟩) 1 cap,s3] 138).alloc (.cells #[.int .i64 t] 3)).alloc (.cells #[.int .i64 0] 3)).alloc (.cells #[.int .i64 0] 3)).alloc (.cells #[.slice (some ⟨b,off,none⟩) 1 cap] 135))
 have b2:=((((Blk.new ((w.alloc (.cells #[v1,v2,v3,v4,v5] 423)).alloc (.cells #[s1,.slice (some ⟨b,off,none⟩) 1 cap,s3] 138)) #[.int .i64 t] 3).alloc (.cells #[.int .i64 0] 3)).alloc (.cells #[.int .i64 0] 3)).alloc (.cells #[.slice (some ⟨b,off,none⟩) 1 cap] 135))
 have b3:=(((Blk.new (((w.alloc (.cells #[v1,v2,v3,v4,v5] 423)).alloc (.cells #[s1,.slice (some ⟨b,off,none⟩) 1 cap,s3] 138)).alloc (.cells #[.int .i64 t] 3)) #[.int .i64 0] 3).alloc (.cells #[.int .i64 0] 3)).alloc (.cells #[.slice (some ⟨b,off,none⟩) 1 cap] 135))
 have b4:=((Blk.new ((((w.alloc (.cells #[v1,v2,v3,v4,v5] 423)).alloc (.cells #[s1,.slice (some ⟨b,off,none⟩) 1 cap,s3] 138)).alloc (.cells #[.int .i64 t] 3)).alloc (.cells #[.int .i64 0] 3)) #[.int .i64 0] 3).alloc (.cells #[.slice (some ⟨b,off,none⟩) 1 cap] 135))
 have b5:=(Blk.new (((((w.alloc (.cells #[v1,v2,v3,v4,v5] 423)).alloc (.cells #[s1,.slice (some ⟨b,off,none⟩) 1 cap,s3] 138)).alloc (.cells #[.int .i64 t] 3)).alloc (.cells #[.int .i64 0] 3)).alloc (.cells #[.int .i64 0] 3)) #[.slice (some ⟨b,off,none⟩) 1 cap] 135)
 simp only[World.size_alloc]at b1 b2 b3 b4 b5
 have hz:((((((w.alloc (.cells #[v1,v2,v3,v4,v5] 423)).alloc (.cells #[s1,.slice (some ⟨b,off,none⟩) 1 cap,s3] 138)).alloc (.cells #[.int .i64 t] 3)).alloc (.cells #[.int .i64 0] 3)).alloc (.cells #[.int .i64 0] 3)).alloc (.cells #[.slice (some ⟨b,off,none⟩) 1 cap] 135)).heap.size=w.heap.size+6:=Ob
 obtain⟨W0,hW0⟩:∃W0,((((((w.alloc (.cells #[v1,v2,v3,v4,v5] 423)).alloc (.cells #[s1,.slice (some ⟨b,off,none⟩) 1 cap,s3] 138)).alloc (.cells #[.int .i64 t] 3)).alloc (.cells #[.int .i64 0] 3)).alloc (.cells #[.int .i64 0] 3)).alloc (.cells #[.slice (some ⟨b,off,none⟩) 1 cap] 135))=W0:=⟨_,rfl⟩
 rw[hW0]at e0 b0 b1 b2 b3 b4 b5 hz |-
 have c0:∀o,W0.cell? ⟨b,o,none⟩=w.cell? ⟨b,o,none⟩:=fun o=>World.cell?_of_block (e0.same b hb id)
 refine wpIn_rangeFunc_ownH rfl h1 (gf:=462) (lb:=#[.pointer (some ⟨w.heap.size+1+1+1+1+1,0,none⟩)]) rfl trivial (enters_of Tryz.func462 (by kernel_rfl) rfl)
  (Qul (n - 1) U (w.heap.size+1+1+1+1+1) b off cap l1 l2 l3 l4 l5 l6 l7 l8 l9 l10 W0 b5.lt U (b5.cell rfl) ((c0 _).trans c1) ((c0 _).trans c2) ((c0 _).trans c3) ((c0 _).trans c4) ((c0 _).trans c5) ((c0 _).trans c6) ((c0 _).trans c7) ((c0 _).trans c8) ((c0 _).trans c9) ((c0 _).trans c10)) (fun _ _=>trivial) (fun _ _ _ _ _ _ _ _=>trivial) (Below.refl _ _) (fun _=>rfl)
  (fun pre W=>((Blk W w.heap.size #[v1,v2,v3,v4,v5] 423/\Blk W (w.heap.size+1) #[s1,.slice (some ⟨b,off,none⟩) 1 cap,s3] 138/\Blk W (w.heap.size+1+1) #[.int .i64 t] 3/\Blk W (w.heap.size+1+1+1) #[.int .i64 0] 3/\Blk W (w.heap.size+1+1+1+1) #[.int .i64 0] 3)/\AM.Ext (fun _=>False) w W)/\(pre=[]\/(p<0\/aw=true)))
  (fun c pre W=>c=.ret/\¬(p<0\/aw=true)/\Blk W (w.heap.size+1+1+1) #[.int .i64 0] 3/\Blk W (w.heap.size+1+1+1+1) #[.int .i64 p] 3/\AM.Ext (fun _=>False) w W)
  (fun s A B row hs hg hr=>⟨⟨⟨hs.1.1.1.own hg hr,hs.1.1.2.1.own hg hr,hs.1.1.2.2.1.own hg hr,hs.1.1.2.2.2.1.own hg hr,hs.1.1.2.2.2.2.own hg hr⟩,QoP U hs.1.2 hg hr⟩,hs.2⟩)
  (fun c s A B row hs hg hr=>⟨hs.1,hs.2.1,hs.2.2.1.own hg hr,hs.2.2.2.1.own hg hr,QoP U hs.2.2.2.2 hg hr⟩)
  ⟨⟨⟨b0,b1,b2,b3,b4⟩,e0⟩,.inl rfl⟩
  (fun _ a' W=>∃Bx,w.heap.size+1+1+1+1<Bx/\Blk W Bx #[l1,l2,l3,l4,l5,l6,l7,l8,l9,l10] 134/\a'={ tmps:=#[.agg #[v1,v2,v3,v4,v5],.agg #[s1,.slice (some ⟨b,off,none⟩) 1 cap,s3],.int .i64 t,.pointer (some ⟨w.heap.size,0,none⟩),.pointer (some ⟨w.heap.size+1,0,none⟩),.pointer (some ⟨w.heap.size+1+1,0,none⟩),.pointer (some ⟨w.heap.size+1+1+1,0,none⟩),.pointer (some ⟨w.heap.size+1+1+1+1,0,none⟩),.int .i64 0,.pointer (some ⟨Bx,0,none⟩),undef,.pointer (some ⟨w.heap.size+1,1,none⟩),.slice (some ⟨b,off,none⟩) 1 cap,.func (.func 462) #[] #[.pointer (some ⟨w.heap.size+1+1+1+1+1,0,none⟩)],.int .i64 0,.agg #[l1,l2,l3,l4,l5,l6,l7,l8,l9,l10],undef,undef,undef,undef,undef,undef,undef,undef,undef,undef,undef,undef,undef],defers:=[] })
  (fun x a' s A B row hs hg hr=>by obtain⟨Bx,g1,g2,g3⟩:=hs;exact⟨Bx,g1,g2.own hg hr,g3⟩) ?assign ?body ?done ?stop
 case assign=>
  rintro l pre x W K ⟨⟨⟨i0,i1,i2,i3,i4⟩,ie⟩,hp⟩ hK
  gi_wp2
  obtain⟨W3,hW3,tt,q10⟩:=store10 Tryz.prog W l1 l2 l3 l4 l5 l6 l7 l8 l9 l10 o1 o2 o3 o4 o5 o6 o7 o8 o9 o10
  rw[hW3,Result.andThen]
  gi_wp2
  have hi4:=i4.lt
  exact hK _ _ (QwT _ tt) trivial ⟨⟨⟨tt.blk U (i0.alloc _),tt.blk U (i1.alloc _),tt.blk U (i2.alloc _),tt.blk U (i3.alloc _),tt.blk U (i4.alloc _)⟩,QlN U (Qcb ie _) tt⟩,hp⟩ ⟨W.heap.size,hi4,q10,rfl⟩
 case body=>
  rintro l pre x a' W hl hlp ⟨⟨⟨i0,i1,i2,i3,i4⟩,ie⟩,hp⟩ ⟨Bx,hBx,bx,rfl⟩ hlen
  have a1:=i0.cell (j:=0) rfl
  have a2:=i0.cell (j:=1) rfl
  have a3:=i0.cell (j:=2) rfl
  have a4:=i0.cell (j:=3) rfl
  have a5:=i0.cell (j:=4) rfl
  have g1:=i1.cell (j:=0) rfl
  have g2:=i1.cell (j:=1) rfl
  have g3:=i1.cell (j:=2) rfl
  have g4:=i2.cell (j:=0) rfl
  have m1:=bx.cell (j:=0) rfl
  have m2:=bx.cell (j:=1) rfl
  have m3:=bx.cell (j:=2) rfl
  have m4:=bx.cell (j:=3) rfl
  have m5:=bx.cell (j:=4) rfl
  have m6:=bx.cell (j:=5) rfl
  have m7:=bx.cell (j:=6) rfl
  have m8:=bx.cell (j:=7) rfl
  have m9:=bx.cell (j:=8) rfl
  have m10:=bx.cell (j:=9) rfl
  have hmx:Tryz.prog.follows .mixedOrders=true:=by kernel_rfl
  gi_wp2
  refine⟨trivial,fun h=>absurd h (by decide),?_⟩
  refine(CallsIn.inRound l (callsIn_wide.2 (hP W ie))).mono ?_
  rintro e W4 ⟨rfl,hx⟩
  have f0:=i0.ext hx
  have f1:=i1.ext hx
  have f2:=i2.ext hx
  have f3:=i3.ext hx
  have f4:=i4.ext hx
  have fe:=Qis ie hx
  have g1:=f1.cell (j:=0) rfl
  have g2:=f1.cell (j:=1) rfl
  have g3:=f1.cell (j:=2) rfl
  have g4:=f2.cell (j:=0) rfl
  dsimp only
  gi_wp2
  .exact⟨QlZ hx _,trivial,⟨⟨⟨f0,f1,f2,f3,f4⟩,fe⟩,.inr (.inl (by assumption))⟩⟩
  .refine⟨trivial,fun h=>absurd h (by decide),?_⟩
   have hp0:0<=p:=by assumption
   refine(CallsIn.inRound l (callsIn_wide.2 (hA hp0 W4 fe))).mono ?_
   rintro e W5 ⟨rfl,hy⟩
   have k0:=f0.ext hy
   have k1:=f1.ext hy
   have k2:=f2.ext hy
   have k3:=f3.ext hy
   have k4:=f4.ext hy
   have ke:=Qis fe hy
   have r1:=k3.cell (j:=0) rfl
   have r2:=k4.cell (j:=0) rfl
   have r3:=k3.frozen (j:=0)
   have r4:=k4.frozen (j:=0)
   dsimp only
   gi_wp2
   .have hno:¬(p<0\/aw=true):=fun h=>h.elim (fun h=>U) (fun h=>by subst h;simp_all)
    refine⟨(QlZ (Qis hx hy) _).trans ⟨by simp[World.setCell],fun i o _ hi hc=>?_⟩,rfl,hno,(Oth.set (w.heap.size+1+1+1+1) 0 (.int .i64 p) _).blk U (k3.set 0 (.int .i64 0)),((Oth.set (w.heap.size+1+1+1) 0 (.int .i64 0) W5).blk U k4).set 0 (.int .i64 p),QlN U (QlN U ke (Oth.set (w.heap.size+1+1+1) 0 (.int .i64 0) W5)) (Oth.set (w.heap.size+1+1+1+1) 0 (.int .i64 p) _)⟩
    have n3:i≠w.heap.size+1+1+1:=fun e=>by subst e;rw[show W5.heap[w.heap.size+1+1+1]?=_ from k3]at hi;cases hi;cases hc
    have n4:i≠w.heap.size+1+1+1+1:=fun e=>by subst e;rw[show W5.heap[w.heap.size+1+1+1+1]?=_ from k4]at hi;cases hi;cases hc
    exact((Oth.set (w.heap.size+1+1+1+1) 0 (.int .i64 p) _).same i n4).trans (((Oth.set (w.heap.size+1+1+1) 0 (.int .i64 0) W5).same i n3).trans hi)
   .have hyes:aw=true:=by cases aw<;>simp_all
    exact⟨QlZ (Qis hx hy) _,trivial,⟨⟨⟨k0,k1,k2,k3,k4⟩,ke⟩,.inr (.inr hyes)⟩⟩
 case done=>
  rintro D xs W hD rfl ⟨⟨⟨i0,i1,i2,i3,i4⟩,ie⟩,hp⟩ hKD
  have r1:=i3.cell (j:=0) rfl
  have r2:=i4.cell (j:=0) rfl
  have r3:=i3.frozen (j:=0)
  have r4:=i4.frozen (j:=0)
  gi_wp2
  have hp':p<0\/aw=true:=hp.resolve_left Ob
  have m3:Blk ((W.setCell ⟨w.heap.size+1+1+1,0,none⟩ (.int .i64 (-1))).setCell ⟨w.heap.size+1+1+1+1,0,none⟩ (.int .i64 (-1))) (w.heap.size+1+1+1) #[.int .i64 (-1)] 3:=(Oth.set (w.heap.size+1+1+1+1) 0 (.int .i64 (-1)) _).blk U (i3.set 0 (.int .i64 (-1)))
  have m4:Blk ((W.setCell ⟨w.heap.size+1+1+1,0,none⟩ (.int .i64 (-1))).setCell ⟨w.heap.size+1+1+1+1,0,none⟩ (.int .i64 (-1))) (w.heap.size+1+1+1+1) #[.int .i64 (-1)] 3:=((Oth.set (w.heap.size+1+1+1) 0 (.int .i64 (-1)) W).blk U i4).set 0 (.int .i64 (-1))
  have me:=QlN U (QlN U ie (Oth.set (w.heap.size+1+1+1) 0 (.int .i64 (-1)) W)) (Oth.set (w.heap.size+1+1+1+1) 0 (.int .i64 (-1)) _)
  have hKD':=((Oth.set (w.heap.size+1+1+1+1) 0 (.int .i64 (-1)) (W.setCell ⟨w.heap.size+1+1+1,0,none⟩ (.int .i64 (-1)))).same D U).trans (((Oth.set (w.heap.size+1+1+1) 0 (.int .i64 (-1)) W).same D U).trans hKD)
  have u3:=m3.own (grownBy_putObj' _ D (.deferred none)) (B:=W0.heap.size) (fun r e=>by cases e;exact⟨hD,_,hKD',rfl⟩)
  have u4:=m4.own (grownBy_putObj' _ D (.deferred none)) (B:=W0.heap.size) (fun r e=>by cases e;exact⟨hD,_,hKD',rfl⟩)
  have ue:=QoP (B:=W0.heap.size) U me (grownBy_putObj' _ D (.deferred none)) (fun r e=>by cases e;exact⟨hD,_,hKD',rfl⟩)
  have y3:=u3.cell (j:=0) rfl
  have y4:=u4.cell (j:=0) rfl
  show bodyPostM _ _ _ _ _ Exit.ret _ _
  refine⟨Ob,.inl ⟨_,_,rfl,run_takeDeferred hKD',?_⟩⟩
  refine⟨.tuple #[.int .i64 (-1),.int .i64 (-1)],?_,by rw[iB hp',iB hp'],ue⟩
  simp[results,Tryz.f451,go_sem,y3,y4]
 case stop=>
  rintro D c pre W hD rfl ⟨rfl,hno,i3,i4,ie⟩ hKD
  gi_wp2
  have m3:=i3
  have m4:=i4
  have me:=ie
  have hKD':=hKD
  have u3:=m3.own (grownBy_putObj' _ D (.deferred none)) (B:=W0.heap.size) (fun r e=>by cases e;exact⟨hD,_,hKD',rfl⟩)
  have u4:=m4.own (grownBy_putObj' _ D (.deferred none)) (B:=W0.heap.size) (fun r e=>by cases e;exact⟨hD,_,hKD',rfl⟩)
  have ue:=QoP (B:=W0.heap.size) U me (grownBy_putObj' _ D (.deferred none)) (fun r e=>by cases e;exact⟨hD,_,hKD',rfl⟩)
  have y3:=u3.cell (j:=0) rfl
  have y4:=u4.cell (j:=0) rfl
  show bodyPostM _ _ _ _ _ Exit.ret _ _
  refine⟨Ob,.inl ⟨_,_,rfl,run_takeDeferred hKD',?_⟩⟩
  refine⟨.tuple #[.int .i64 0,.int .i64 p],?_,by rw[iA hno,iA hno],ue⟩
  simp[results,Tryz.f451,go_sem,y3,y4]
def Qrb(h:AV.Rs ρ H M W (.p x::xs) us):∃u us',us=u::us'/\PV.R M W x u/\AV.Rs ρ H M W xs us':=by
 simp only[AV.Rs]at h
 obtain⟨u,us',h1,h2,h3,h4⟩:=h
 simp only[AV.R]at h3
 exact⟨u,us',h1,h3,h4⟩
def Qap(h:PV.R M W x u)(hs:AV.Rs ρ H M W xs us):AV.Rs ρ H M W (.p x::xs) (u::us):=by
 simp only[AV.Rs,AV.R]
 exact⟨u,us,rfl,h.flat,h,hs⟩
def Qc7(h:PV.Cells M W b off (x::xs)):∃u,W.cell? ⟨b,off,none⟩=some u/\PV.R M W x u/\PV.Cells M W b (off+1) xs:=by
 simp only[PV.Cells]at h
 obtain⟨⟨u,h1,h2⟩,h3⟩:=h
 exact⟨u,h1,h2,h3⟩
noncomputable section
def XH(fu:Nat)(p0:D.Fl)(p1:D.e)(p2:Int):I (Int×Int):=
 match p1.Fk with
 |[l]=>O (Wz fu p0 l p2) fun p=>C (decide (p<0)) (some (-1,-1)) (O (QaJ fu p1 p p2) fun a=>C a (some (-1,-1)) (some (0,p)))
 |_=>none
def QmR(fu:Nat):Sig:=Qn [.st .Fl,.st .e,.one (.TZ .i64)] [] [.one (.TZ .i64),.one (.TZ .i64)] [] [] (Int×Int) (fun q=>((q.1,q.2,()),())) (fun x y=>XH fu x.1 x.2.1 x.2.2.1)
def QrJ(h:WT P k args [] v [])(hG:AM.Ground G w (fun b=>∃n o,AM.X n ([]:Y (Name×AO))=some o/\(ρ n).blk=some b))(hM:∀b,M b->b<w.heap.size)(hx:Ext (fun _=>False) w W)(ha:AV.Ts ρ (X2 []) M W args us):
  Calls P k us.toArray W fun e W'=>∃u,e=.returned u/\(∃ρ' M',v.R ρ' (X2 []) M' W' u)/\Ext (fun _=>False) W W':=by
 refine(h G ρ M W us ⟨hG.laid,AY hG.size hx.size,fun b hb=>(hx.same b (BD hb hG.size) id).trans (hG.same b hb),hG.out⟩ (fun b hb=>BD (hM b hb) hx.size) ha (fun n o hn=>by simp[AM.X]at hn) (fun n m o o' b hn=>by simp[AM.X]at hn)).mono ?_
 rintro e W' ⟨u,v',h',ρ',rfl,⟨rfl,rfl⟩,hA⟩
 exact⟨u,rfl,⟨ρ',_,hA.val⟩,hA.ext.weaken fun b _ hb=>by obtain⟨n,o,hn,_⟩:=hb;simp[AM.X]at hn⟩
def QkL(fu):FnOK Tryz.prog 451 (QmR fu):=by
 refine⟨fun R x y K r h=>?_,fun x y a b h L0 _=>⟨L0,fun _ _=>rfl,fun n t l v hn=>by change AM.X n []=_ at hn;simp[AM.X]at hn,?_⟩⟩
 .obtain⟨v,s,t,⟨⟩⟩:=x
  obtain⟨q,hq,h⟩:=Y5 h
  change XH fu v s t=some q at hq
  refine⟨(q.1,q.2,()),(),?_,h⟩
  show O (XH fu v s t) (fun q=>some ((q.1,q.2,()),()))=_
  rw[hq];rfl
 .obtain⟨v,s,t,⟨⟩⟩:=x
  obtain⟨q,hq,hab⟩:=Y5 h
  change XH fu v s t=some q at hq
  have hab':((q.1,q.2,()),())=(a,b):=Be hab
  obtain⟨rfl,rfl⟩:=C4 hab'
  unfold XH at hq
  split at hq
  case h_2=>simp at hq
  rename_i l hl
  obtain⟨p,hp,hq⟩:=Y5 hq
  obtain⟨_,_,_,sP⟩:=(Qhz fu).spec (v,l,t,()) () (p,()) () (by show O (Wz fu v l t) _=_;rw[hp];rfl) L0 (fun n t l v hn=>by change AM.X n []=_ at hn;simp[AM.X]at hn)
  have hA:0<=p->∃aw,QaJ fu s p t=some aw/\q=if aw=true then(-1,-1)else(0,p):=fun h0=>by
   rw[Qkv U]at hq
   obtain⟨aw,h1,h2⟩:=Y5 hq
   refine⟨aw,h1,?_⟩
   cases aw<;>simpa [C]using h2.symm
  obtain⟨aw,haw,hqa⟩:∃aw:AH,(0<=p->QaJ fu s p t=some aw)/\q=if p<0\/aw=true then(-1,-1)else(0,p):=by
   by_cases h0:p<0
   .rw[Qfn h0]at hq
    exact⟨true,fun h=>U,by rw[iB (.inl h0)];exact(Be hq).symm⟩
   .obtain⟨aw,h1,h2⟩:=hA U
    refine⟨aw,fun _=>h1,?_⟩
    rw[h2]
    cases aw<;>simp[h0]
  intro G ρ M w us hG hM hargs _ _
  change AV.Ts ρ (X2 []) M w [.agg [.p (.sl false 3 (v.F.FG.map D.r.cells)),.p (.sl false 6 (v.F.l.map D.R.cells)),.p (.sl false 3 (v.F.o.map D.n.cells)),.p (.sl false 3 (v.F.f.map D.e.cells)),.p (.sl false 2 (v.tables.map D.FY.cells))],.agg [.p (.v (.string s.Name)),.p (.sl false 10 (s.Fk.map D.x.cells)),.p (.sl false 5 (s.FS.map D.t.cells))],.p (.v (.int .i64 t))] us at hargs
  simp only[AV.Ts,AV.R]at hargs
  obtain⟨u1,us1,rfl,⟨cs1,rfl,r1⟩,u2,us2,rfl,⟨cs2,rfl,r2⟩,u3,us3,rfl,r3,rfl⟩:=hargs
  have r1':=r1
  have r2':=r2
  obtain⟨v1,w1,e1,x1,r1⟩:=Qrb r1
  obtain⟨v2,w2,rfl,x2,r1⟩:=Qrb r1
  obtain⟨v3,w3,rfl,x3,r1⟩:=Qrb r1
  obtain⟨v4,w4,rfl,x4,r1⟩:=Qrb r1
  obtain⟨v5,w5,rfl,x5,r1⟩:=Qrb r1
  simp only[AV.Rs]at r1
  subst r1
  obtain⟨s1,z1,e2,y1,r2⟩:=Qrb r2
  obtain⟨s2,z2,rfl,y2,r2⟩:=Qrb r2
  obtain⟨s3,z3,rfl,y3,r2⟩:=Qrb r2
  simp only[AV.Rs]at r2
  subst r2
  have e1':cs1=#[v1,v2,v3,v4,v5]:=by cases cs1;simpa using e1
  have e2':cs2=#[s1,s2,s3]:=by cases cs2;simpa using e2
  subst e1'
  subst e2'
  simp only[PV.R]at r3
  obtain⟨rfl,_⟩:=r3
  rw[hl]at y2
  have y2':=y2
  simp only[PV.R,AU,Al,Ad,Ao]at y2
  obtain⟨ad,cap,rfl,hcap,_,hn,hrows⟩:=y2
  cases ad with
  |none=>have:=hn rfl;omega
  |some ad=>
   obtain⟨hsp,hMb,hlt,hrow⟩:=hrows ad rfl U
   obtain⟨bb,off,sp⟩:=ad
   dsimp only at hsp hMb hlt hrow
   subst hsp
   simp only[PV.Rows]at hrow
   obtain⟨_,hc,_⟩:=hrow
   change PV.Cells M w bb off [.v (.string l.Name),.v (.int .i64 l.r),.v (.int .i64 l.T.Fj),.v (.int .i64 l.T.Fb),.v (.int .i64 l.Unit),.v (.int .i64 l.FH),.sl false 1 (l.s.map D.cInt),.sl false 2 (l.Fi.map D.FE.cells),.v (.int .i64 l.n),.v (.int .i64 l.Fx)]at hc
   obtain⟨l1,c1,m1,hc⟩:=Qc7 hc
   obtain⟨l2,c2,m2,hc⟩:=Qc7 hc
   obtain⟨l3,c3,m3,hc⟩:=Qc7 hc
   obtain⟨l4,c4,m4,hc⟩:=Qc7 hc
   obtain⟨l5,c5,m5,hc⟩:=Qc7 hc
   obtain⟨l6,c6,m6,hc⟩:=Qc7 hc
   obtain⟨l7,c7,m7,hc⟩:=Qc7 hc
   obtain⟨l8,c8,m8,hc⟩:=Qc7 hc
   obtain⟨l9,c9,m9,hc⟩:=Qc7 hc
   obtain⟨l10,c10,m10,hc⟩:=Qc7 hc
   have hx0:∀{W:AG},Ext (fun _=>False) w W->∀{x:PV} {u:AE},x.R M w u->x.R M W u:=fun hx=>fun h=>PV.R.mono hx (fun _ h=>h.elim) (fun _ _ h=>h) h
   have key:=QCr 3 U v1 v2 v3 v4 v5 s1 s3 bb off cap t l1 l2 l3 l4 l5 l6 l7 l8 l9 l10 w hlt c1 c2 c3 c4 c5 c6 c7 c8 c9 c10 m1.flat m2.flat m3.flat m4.flat m5.flat m6.flat m7.flat m8.flat m9.flat m10.flat p
    (fun W hx=>(QrJ sP hG hM hx (us:=[.agg #[v1,v2,v3,v4,v5],.agg #[l1,l2,l3,l4,l5,l6,l7,l8,l9,l10],.int .i64 t]) (by
     change AV.Ts ρ (X2 []) M W [.agg [.p (.sl false 3 (v.F.FG.map D.r.cells)),.p (.sl false 6 (v.F.l.map D.R.cells)),.p (.sl false 3 (v.F.o.map D.n.cells)),.p (.sl false 3 (v.F.f.map D.e.cells)),.p (.sl false 2 (v.tables.map D.FY.cells))],.agg [.p (.v (.string l.Name)),.p (.v (.int .i64 l.r)),.p (.v (.int .i64 l.T.Fj)),.p (.v (.int .i64 l.T.Fb)),.p (.v (.int .i64 l.Unit)),.p (.v (.int .i64 l.FH)),.p (.sl false 1 (l.s.map D.cInt)),.p (.sl false 2 (l.Fi.map D.FE.cells)),.p (.v (.int .i64 l.n)),.p (.v (.int .i64 l.Fx))],.p (.v (.int .i64 t))] _
     simp only[AV.Ts,AV.R]
     exact⟨_,_,rfl,⟨_,rfl,Qap (hx0 hx x1) (Qap (hx0 hx x2) (Qap (hx0 hx x3) (Qap (hx0 hx x4) (Qap (hx0 hx x5) (by simp only[AV.Rs])))))⟩,_,_,rfl,⟨_,rfl,Qap (hx0 hx m1) (Qap (hx0 hx m2) (Qap (hx0 hx m3) (Qap (hx0 hx m4) (Qap (hx0 hx m5) (Qap (hx0 hx m6) (Qap (hx0 hx m7) (Qap (hx0 hx m8) (Qap (hx0 hx m9) (Qap (hx0 hx m10) (by simp only[AV.Rs]))))))))))⟩,_,_,rfl,by simp only[PV.R];exact⟨trivial,rfl⟩,rfl⟩)).mono (by
      rintro e W' ⟨u,rfl,⟨ρ',M',hu⟩,hx'⟩
      change PV.R M' W' (.v (.int .i64 p)) u at hu
      simp only[PV.R]at hu
      exact⟨by rw[hu.1],hx'⟩))
    aw (fun h0 W hx=>by
     obtain⟨_,_,_,sA⟩:=(QpZ fu).spec (s,p,t,()) () (aw,()) () (by show O (QaJ fu s p t) _=_;rw[haw h0];rfl) L0 (fun n t l v hn=>by change AM.X n []=_ at hn;simp[AM.X]at hn)
     refine(QrJ sA hG hM hx (us:=[.agg #[s1,.slice (some ⟨bb,off,none⟩) 1 cap,s3],.int .i64 p,.int .i64 t]) (by
      change AV.Ts ρ (X2 []) M W [.agg [.p (.v (.string s.Name)),.p (.sl false 10 (s.Fk.map D.x.cells)),.p (.sl false 5 (s.FS.map D.t.cells))],.p (.v (.int .i64 p)),.p (.v (.int .i64 t))] _
      simp only[AV.Ts,AV.R]
      exact⟨_,_,rfl,⟨_,rfl,Qap (hx0 hx y1) (Qap (by rw[hl];exact hx0 hx y2') (Qap (hx0 hx y3) (by simp only[AV.Rs])))⟩,_,_,rfl,by simp only[PV.R];exact⟨trivial,rfl⟩,_,_,rfl,by simp only[PV.R];exact⟨trivial,rfl⟩,rfl⟩)).mono ?_
     rintro e W' ⟨u,rfl,⟨ρ',M',hu⟩,hx'⟩
     change PV.R M' W' (.v (.bool aw)) u at hu
     simp only[PV.R]at hu
     exact⟨by rw[hu.1],hx'⟩)
   refine(callsIn_wide.1 key).mono ?_
   rintro e w' ⟨rfl,hx⟩
   refine⟨_,_,[],ρ,rfl,⟨rfl,rfl⟩,?_,fun n o hn=>?_,fun n m o o' b hn=>?_,fun n o b hn=>?_,hx.weaken fun b _ hb=>hb.elim,fun n o hn=>?_⟩
   case refine_2=>change AM.X n []=_ at hn;simp[AM.X]at hn
   case refine_3=>change AM.X n []=_ at hn;simp[AM.X]at hn
   case refine_4=>change AM.X n []=_ at hn;simp[AM.X]at hn
   case refine_5=>change AM.X n []=_ at hn;simp[AM.X]at hn
   show AV.R ρ (X2 []) _ w' (.tup [.p (.v (.int .i64 q.1)),.p (.v (.int .i64 q.2))]) _
   simp only[AV.R,AV.Ts,PV.R]
   refine⟨_,rfl,_,_,rfl,⟨?_,rfl⟩,_,_,rfl,⟨?_,rfl⟩,rfl⟩
   .rw[hqa];split<;>rfl
   .rw[hqa];split<;>rfl
end
end
open Go AM IntKind
noncomputable section
open fk Tryz
variable (u:Nat)
def QhG(u:Nat)(a:Int):I AH:=cd (97<=a) (cd (a<=122) sT sF) sF
def Qnb:o 253 (s [.one (.TZ .u8)] [h] (QhG u)):=f u g t func253
def QbV(a:AJ):I AH:=TG (zB:=((AJ×Unit)×Unit)) (fun((e,_),_)=>Qe (zF:=((AJ×Int×Int×Unit)×Unit)) (fun i ((b,f,c,_),_)=>cd (c<f) (TK c fun g=>TP g (ByteArray.size b) (O (QhG u (((bAt b g):Nat):Int)) fun j=>C j (i ((b,f,(J (c+1)),()),())) none)) sT) u ((e,(((ByteArray.size e):Nat):Int),0,()),())) fun k=>cd (a=(ByteArray.mk (List.toArray []))) sF (cd (24<(((ByteArray.size a):Nat):Int)) sF (TK 0 fun h=>TP h (ByteArray.size a) (O (QhG u (((bAt a h):Nat):Int)) fun l=>C l (k ((a,()),())) sF)))
def Qed:o 173 (s [tx] [h] (QbV u)):=f u (c g (c (j [.s 0 tx] g) (m [.s 0 tx,.n 19,.n 20] g))) (e (Qnb u) t) func173
def Xx(b:AJ)(a:Y (AJ×AH)):I (Int×Y (AJ×AH)):=O (QbV u b) fun c=>C (!c) (some (2,a)) (C (memB b a) (some (4,a)) (chk (cntB b a) 0 (some (0,(a++[(b,true)])))))
def Vp:o 243 (Qn [tx,.one (.mref 101)] [(101,.sm)] [d] [(101,.sm)] [] (Int×Y (AJ×AH)) kz15 (fun x y=>Xx u x.1 y.1)):=i u g kz17 (e (Qed u) t) func243
def Yu(u:Nat)(a:Int)(b:Int):I AH:=cd (0<=a) (cd (a<b) sT sF) sF
def WB:o 315 (s [d,d] [h] (Yu u)):=f u g t func315
def Qd4(c:Y D.FE):I Int:=cd (14<(c.length:Int)) (some 5) (Qe (fun j ((e,f,g,b,_),_)=>cd (b<g) (TG (fun((k,l,m,n,_),_)=>j ((k,l,m,(J (n+1)),()),())) fun h=>TN f b fun a=>cd (a.w<0) (some 1) (cd (a.To<=a.w) (some 1) (cd (604800<a.To) (some 1) (cd (0<b) (TN e (J (b - 1)) fun i=>cd (a.w<i.To) (some 6) (h ((e,f,g,b,()),()))) (h ((e,f,g,b,()),())))))) (some 0)) u ((c,c,(c.length:Int),0,()),()))
def Qjm:o 316 (s [l .FE] [d] (Qd4 u)):=f u (n 2 (m [.l 0 .FE,.l 8 .FE,.n 9,.n 10] (n 2 (c (j [.l 0 .FE,.l 8 .FE,.n 9,.n 10] g) g)))) t func316
def Uv(u:Nat)(a:Int)(b:Int)(c:Int):I AH:=cd (b<=a) (cd (a<=c) sT sF) sF
def QeA:o 347 (s [d,d,d] [h] (Uv u)):=f u g t func347
def QbR(a:Int):I AH:=O (Uv u a 0 604800) fun b=>C b (nzc 3600 (cd ((Int.tmod a 3600)=0) sT sF)) sF
def QkK:o 317 (s [d] [h] (QbR u)):=f u g (e (QeA u) t) func317
def Ws(b:D.F)(a:D.R):I Int:=TG (fun(_,_)=>some 0) fun c=>O (Yu u a.r (b.FG.length:Int)) fun e=>C (!e) (some 3) (O (Qd4 u a.Ff) fun f=>cd (f≠0) (some 8) (O (QbR u a.Fv) fun g=>C g (O (QbR u a.Fw) fun h=>C h (c ((),())) (some 1)) (some 1)))
def Qe6:o 244 (s [tO,.st .R] [d] (Ws u)):=f u (c g (c (j [] g) g)) (e (WB u) (e (Qjm u) (e (QkK u) t))) func244
def Qf5(u:Nat)(a:D.r):I AJ:=some a.Name
def Qjb:o 241 (s [t7] [tx] (Qf5 u)):=f u g t func241
def Qs9(u:Nat)(a:Int)(b:Int)(c:Int):I AH:=cd (b<=a) (cd (a<=c) sT sF) sF
def Qop:o 363 (s [d,d,d] [h] (Qs9 u)):=f u g t func363
def Qc4(u:Nat)(a:D.occurrence)(b:D.occurrence):I Int:=some (J (a.local_ - b.local_))
def Qgl:o 381 (s [.st .occurrence,.st .occurrence] [d] (Qc4 u)):=f u g t func381
def QA(q:Y D.occurrence)(j:Int)(r:Int):I Unit:=Qe (fun s ((t,v,k,i,_),_)=>cd (i<k) (TG (fun((w,y,z,A,_),_)=>s ((w,y,z,(J (A+1)),()),())) fun l=>Qe (fun B ((a,b,e,f,c,_),_)=>TG (fun((g,zH,E,F,h,_),_)=>TN g (J (h - 1)) fun G=>TN g h fun H=>TN g h fun zE=>none) fun m=>cd (b<c) (TN a c fun n=>TN a (J (c - 1)) fun o=>O (Qc4 u n o) fun p=>cd (p<0) (m ((a,b,e,f,c,()),())) (l ((a,b,e,f,()),()))) (l ((a,b,e,f,()),()))) u ((t,v,k,i,i,()),())) (some ())) u ((q,j,r,(J (j+1)),()),())
def Yb:o 428 (Qn [l .occurrence,d,d,.one (.fv 381)] [] [] [] [] Unit (fun q=>((),())) (fun x y=>QA u x.1 x.2.1 x.2.2.1)):=i u (c g (.one (k [.l 0 .occurrence,.n 1,.n 2,.s 3 (.one (.fv 381)),.n 8] (c g (c (j [.l 0 .occurrence,.n 1,.n 2,.s 3 (.one (.fv 381)),.n 8] (.one (c g (.one (k [.l 0 .occurrence,.n 1,.n 2,.s 3 (.one (.fv 381)),.n 8,.n 9] (c (j [.l 0 .occurrence,.n 1,.n 2,.s 3 (.one (.fv 381)),.n 8,.n 9] g) g)))))) g))))) (fun _ _=>()) (e (Qgl u) t) func428
def Zq(n:Y D.occurrence)(o:Int):I Unit:=Qe (zF:=((Y D.occurrence×Int×Int×Int×Int×Unit)×Unit)) (fun p ((b,c,g,i,e,_),_)=>cd (e<=c) (O (QA u b i e) fun _=>p ((b,c,g,e,(J (e+g)),()),())) (O (QA u b i c) fun _=>Qe (zF:=((Y D.occurrence×Int×Int×Unit)×Unit)) (fun q ((r,j,h,_),_)=>cd (h<j) (Qe (zF:=((Y D.occurrence×Int×Int×Int×Int×Unit)×Unit)) (fun s ((k,a,f,l,m,_),_)=>cd (m<=a) none (cd ((J (l+f))<a) none (q ((k,a,(J (f*2)),()),())))) u ((r,j,h,0,(J (2*h)),()),())) (some ())) u ((b,c,g,()),()))) u ((n,o,20,0,20,()),())
def YI:o 409 (Qn [l .occurrence,d,.one (.fv 381)] [] [] [] [] Unit (fun q=>((),())) (fun x y=>Zq u x.1 x.2.1)):=i u (n 2 (c (.one (k [.l 0 .occurrence,.n 1,.s 2 (.one (.fv 381)),.n 6,.n 7,.n 8] g)) (c g (.one (k [.l 0 .occurrence,.n 1,.s 2 (.one (.fv 381)),.n 6] (c g (.one (c g (c (.one (k [.l 0 .occurrence,.n 1,.s 2 (.one (.fv 381)),.n 6,.n 7,.n 8] g)) g))))))))) (fun _ _=>()) (e (Yb u) t) func409
def Zm(a:Y D.occurrence):I Unit:=O (Zq u a (a.length:Int)) fun _=>some ()
def YC:o 380 (Qn [l .occurrence,.one (.fv 381)] [] [] [] [] Unit (fun q=>((),())) (fun x y=>Zm u x.1)):=i u g (fun _ _=>()) (e (YI u) t) func380
def Qe0(a:D.r):I (Y D.occurrence×Int):=O (Qs9 u a.Fa (-64800) 64800) fun p=>C (!p) (some ([],1)) (cd (16<(a.Fp.length:Int)) (some ([],5)) (Qe (zF:=((Int×Y D.FF×Int×Int×Unit)×D.r×Unit)) (fun w ((q,r,s,h,_),i,_)=>cd (h<s) (TN r h fun y=>none) (cd (640<q) (some ([],5)) (Qe (zF:=((Y D.occurrence×Y D.FF×Int×Int×Unit)×Unit)) (fun t ((g,c,e,b,_),_)=>cd (b<e) (TN c b fun f=>Qe (zF:=((Y D.occurrence×Int×Y D.FF×Int×Int×Unit)×D.FF×Unit)) (fun v ((j,k,l,m,n,_),o,_)=>cd (k<=o.To) none (t ((j,l,m,(J (n+1)),()),()))) u ((g,f.w,c,e,b,()),f,())) (O (Zm u g) fun _=>some (g,0))) u (([],i.Fp,(i.Fp.length:Int),0,()),())))) u ((0,a.Fp,(a.Fp.length:Int),0,()),a,())))
def Qig:o 362 (s [t7] [l .occurrence,d] (Qe0 u)):=f u (n 4 (c (c g (.one (k [.r 1 .r,.n 4,.l 23 .FF,.n 24,.n 25] g))) (n 2 (m [.l 8 .occurrence,.l 46 .FF,.n 47,.n 48] (n 2 (c (.one (n 2 (.one (k [.l 8 .occurrence,.r 10 .FF,.n 11,.l 46 .FF,.n 47,.n 48] g)))) g)))))) (e (Qop u) (e (YC u) t)) func362
def Qbo(n:D.r):I (Y D.FB×Int):=O (Qe0 u n) fun(o,p)=>cd (p≠0) (some ([],p)) (Qe (zF:=((Int×Y D.occurrence×Int×Int×Unit)×Y D.FB×Unit)) (fun A ((b,g,h,e,_),c,_)=>cd (e<h) (TG (zB:=((Int×Y D.occurrence×Int×Int×Unit)×Y D.FB×Unit)) (fun((B,zH,q,r,_),s,_)=>A ((B,zH,q,(J (r+1)),()),s,())) fun i=>TN g e fun a=>cd (a.offset=b) (i ((b,g,h,e,()),c,())) (TG (zB:=((Int×Y D.occurrence×Int×Int×Unit)×D.occurrence×Y D.FB×Unit)) (fun((j,t,v,w,_),f,k,_)=>TO (k.length+[(D.FB.mk j f.offset)].length) 34359738368 (i ((f.offset,t,v,w,()),(k++[(D.FB.mk j f.offset)]),()))) fun l=>cd (86400<=(J (a.offset - b))) (some ([],6)) (cd ((J (a.offset - b))<=(-86400)) (some ([],6)) (O (Qs9 u (J (a.local_ - b)) 0 8589934592) fun y=>C y (cd (0<(c.length:Int)) (TK (J ((c.length:Int) - 1)) fun m=>TP m c.length (O c[m]? fun z=>cd ((J (a.local_ - b))<(J (z.At+604800))) (some ([],6)) (l (((J (a.local_ - b)),g,h,e,()),a,c,())))) (l (((J (a.local_ - b)),g,h,e,()),a,c,()))) (some ([],6)))))) (some (c,0))) u ((n.Fa,o,(o.length:Int),0,()),[],()))
def Qct:o 345 (s [t7] [l .FB,d] (Qbo u)):=f u (n 5 (m [.o 6 1074 .FB,.n 7,.l 22 .occurrence,.n 23,.n 24] (n 2 (c (j [.o 6 1074 .FB,.n 7,.l 22 .occurrence,.n 23,.n 24] (.one (n 3 (c (.TG [(6,.one (.own 1074)),r 9,G 10,li 22 .occurrence,G 23,G 24] [w 1009 .occurrence,p 1074 .FB] g) g)))) g)))) (e (Qig u) (e (Qop u) t)) func345
def Qoo(a:D.r):I Int:=O (Qbo u a) fun(c,b)=>some b
def Qp7:o 312 (s [t7] [d] (Qoo u)):=f u g (e (Qct u) t) func312
def Qcq(u:Nat)(a:D.FF):I AH:=nzc 60 (some (decide ((Int.tmod a.Fa 60)≠0)))
def Qe7:o 314 (s [.st .FF] [h] (Qcq u)):=f u g t func314
def ZN(b:Y D.FF):I Int:=Qe (fun f ((c,e,a,_),_)=>cd (a<e) (TN c a fun g=>O (Qcq u g) fun h=>C h (some a) (f ((c,e,(J (a+1)),()),()))) (some (-1))) u ((b,(b.length:Int),0,()),())
def Xh:o 346 (s [l .FF,.one (.fv 314)] [d] (ZN u)):=f u (c g (m [.l 0 .FF,.s 1 (.one (.fv 314)),.n 7,.n 8] g)) (e (Qe7 u) t) func346
def Zy(a:Y D.FF):I AH:=O (ZN u a) fun b=>some (decide (0<=b))
def YV:o 313 (s [l .FF,.one (.fv 314)] [h] (Zy u)):=f u g (e (Xh u) t) func313
def QdR(a:D.r):I Int:=TG (fun(_,_)=>some 0) fun b=>O (Qoo u a) fun c=>cd (c≠0) (some 8) (nzc 60 (cd ((Int.tmod a.Fa 60)≠0) (some 8) (O (Zy u a.Fp) fun e=>C e (some 8) (b ((),())))))
def Qg6:o 242 (s [t7] [d] (QdR u)):=f u (c g (c (j [] g) g)) (e (Qp7 u) (e (YV u) t)) func242
def QF(b:Y D.r):I Int:=Qe (fun i ((c,e,a,_),j,_)=>cd (a<e) (TN c a fun f=>O (Qf5 u f) fun k=>O (Xx u k j) fun(g,l)=>cd (g≠0) (some g) (O (QdR u f) fun h=>cd (h≠0) (some h) (i ((c,e,(J (a+1)),()),l,())))) (some 0)) u ((b,(b.length:Int),0,()),[],())
def Ym:o 240 (s [l .r,.one (.fv 241),.one (.fv 242)] [d] (QF u)):=f u (n 2 (m [.s 1 (.one (.fv 241)),.s 2 (.one (.fv 242)),.s 7 (.one (.mref 1012)),.l 13 .r,.n 14,.n 15] g [(1012,.sm)])) (e (Qjb u) (e (Qg6 u) (e (Vp u) t))) func240
def Qf6(u:Nat)(a:D.n):I AJ:=some a.Name
def Qjc:o 246 (s [.st .n] [tx] (Qf6 u)):=f u g t func246
def Qb8(u:Nat)(b:Int)(a:Int):I Int:=nzc a (TG (fun((e,_),_)=>some e) fun c=>nzc a (cd ((Int.tmod b a)<0) (c (((J ((J (Int.tdiv b a)) - 1)),()),())) (c (((J (Int.tdiv b a)),()),()))))
def Qhe:o 382 (s [d,d] [d] (Qb8 u)):=f u (n 2 (c (j [.n 5] g) g)) t func382
def Qb7(a:Int):I Int:=O (Qb8 u (J (a - 1)) 4) fun b=>O (Qb8 u (J (a - 1)) 100) fun c=>O (Qb8 u (J (a - 1)) 400) fun e=>some (J ((J ((J ((J ((J (365*(J (a - 1970))))+b)) - c))+e)) - 477))
def Qhd:o 364 (s [d] [d] (Qb7 u)):=f u g (e (Qhe u) t) func364
def QnM(b:Int):I Int:=O (Qb8 u b 366) fun e=>Qe (fun f ((c,a,_),_)=>O (Qb7 u (J (a+1))) fun g=>cd (g<=c) (f ((c,(J (a+1)),()),())) (some a)) u ((b,(J (1970+e)),()),())
def QoE:o 365 (s [d] [d] (QnM u)):=f u (n 2 (c (.one (k [.n 0,.n 3] g)) g)) (e (Qhd u) (e (Qhe u) t)) func365
def Qjx(u:Nat)(c:Int)(b:Int):I Int:=TG (zB:=((Int×Int×Unit)×Unit)) (fun((f,a,_),_)=>cd (a=2) none (cd ((J (a - 1))=((0:Nat):Int)) (some 31) (cd ((J (a - 1))=(((0+1):Nat):Int)) (some 28) (cd ((J (a - 1))=((((0+1)+1):Nat):Int)) (some 31) (cd ((J (a - 1))=(((((0+1)+1)+1):Nat):Int)) (some 30) (cd ((J (a - 1))=((((((0+1)+1)+1)+1):Nat):Int)) (some 31) (cd ((J (a - 1))=(((((((0+1)+1)+1)+1)+1):Nat):Int)) (some 30) (cd ((J (a - 1))=((((((((0+1)+1)+1)+1)+1)+1):Nat):Int)) (some 31) (cd ((J (a - 1))=(((((((((0+1)+1)+1)+1)+1)+1)+1):Nat):Int)) (some 31) (cd ((J (a - 1))=((((((((((0+1)+1)+1)+1)+1)+1)+1)+1):Nat):Int)) (some 30) (cd ((J (a - 1))=(((((((((((0+1)+1)+1)+1)+1)+1)+1)+1)+1):Nat):Int)) (some 31) (cd ((J (a - 1))=((((((((((((0+1)+1)+1)+1)+1)+1)+1)+1)+1)+1):Nat):Int)) (some 30) (cd ((J (a - 1))=(((((((((((((0+1)+1)+1)+1)+1)+1)+1)+1)+1)+1)+1):Nat):Int)) (some 31) none))))))))))))) fun e=>cd (b<1) (some 0) (cd (12<b) (some 0) (e ((c,b,()),())))
def QoD:o 366 (s [d,d] [d] (Qjx u)):=f u (c g (c (j [.n 0,.n 1] g) g)) t func366
def Qj9(b:Int):I (D.Fu×Int):=TG (zB:=((Int×Unit)×D.Fu×Unit)) (fun((e,_),j,_)=>O (QnM u e) fun f=>O (Qb7 u f) fun k=>Qe (zF:=((Int×Unit)×D.Fu×D.Fu×Unit)) (fun l ((c,_),m,a,_)=>O (Qjx u a.F0 a.Fz) fun n=>cd (n<=c) (O (Qjx u a.F0 a.Fz) fun o=>l (((J (c - o)),()),m,(D.Fu.mk a.F0 (J (a.Fz+1)) a.Fj),())) (some ((D.Fu.mk a.F0 a.Fz (J (c+1))),0))) u (((J (e - k)),()),j,(D.Fu.mk f 1 0),())) fun g=>O (Qb7 u 1970) fun h=>cd (b<h) (some (z12,1)) (O (Qb7 u 2241) fun i=>cd (i<=b) (some (z12,1)) (g ((b,()),z12,())))
def Qlx:o 348 (s [d] [.st .Fu,d] (Qj9 u)):=f u (c g (c (j [.n 0,.r 2 .Fu] g) (n 2 (c (.one (k [.r 2 .Fu,.r 4 .Fu,.n 5] g)) g)))) (e (Qhd u) (e (QoE u) (e (QoD u) t))) func348
def XN(a:Int):I AH:=O (Qj9 u a) fun(c,b)=>some (decide (b=0))
def Qdi:o 319 (s [d] [h] (XN u)):=f u g (e (Qlx u) t) func319
def U7(a:Int):I AH:=O (XN u a) fun b=>some (!b)
def Qcz:o 318 (s [d] [h] (U7 u)):=f u g (e (Qdi u) t) func318
def ZU(b:Y Int):I Int:=Qe (fun f ((c,e,a,_),_)=>cd (a<e) (TN c a fun g=>O (U7 u g) fun h=>C h (some a) (f ((c,e,(J (a+1)),()),()))) (some (-1))) u ((b,(b.length:Int),0,()),())
def Xl:o 341 (s [lI,.one (.fv 318)] [d] (ZU u)):=f u (c g (m [.s 0 lI,.s 1 (.one (.fv 318)),.n 7,.n 8] g)) (e (Qcz u) t) func341
def ZH(a:Y Int):I AH:=O (ZU u a) fun b=>some (decide (0<=b))
def Y1:o 307 (s [lI,.one (.fv 318)] [h] (ZH u)):=f u g (e (Xl u) t) func307
def Qa9(i:D.F)(b:D.n):I Int:=O (Yu u b.r (i.FG.length:Int)) fun j=>C (!j) (some 3) (cd (64<(b.Fy.length:Int)) (some 5) (O (ZH u b.Fy) fun k=>C k (some 1) (Qe (fun l ((e,a,_),c,_)=>cd (a<e) (TG (fun((m,n,_),o,_)=>l ((m,(J (n+1)),()),o,())) fun f=>cd (0<a) (TN c.Fy a fun g=>TN c.Fy (J (a - 1)) fun h=>cd (g<=h) (some 6) (f ((e,a,()),c,()))) (f ((e,a,()),c,()))) (some 0)) u (((b.Fy.length:Int),0,()),b,()))))
def QdP:o 248 (s [tO,.st .n] [d] (Qa9 u)):=f u (n 2 (m [.r 3 .n,.n 25,.n 26] (n 2 (c (j [.r 3 .n,.n 25,.n 26] g) g)))) (e (Y1 u) (e (WB u) t)) func248
def Qf7(b:D.n)(a:D.F):I Int:=O (Qa9 u a b) fun c=>TF a a (some c)
def Qjd:o 247 (Qn [.st .n,.one (.TM 101)] [w 101 .F] [d] [] [101] Int kz2 (fun x y=>Qf7 u x.1 y.1)):=i u g kz4 (e (QdP u) t) func247
def Qs(e:Y D.n)(c101:D.F):I Int:=Qe (fun j ((f,g,c,_),a,k,_)=>cd (c<g) (TN f c fun h=>O (Qf6 u h) fun l=>O (Xx u l k) fun(i,m)=>cd (i≠0) (TF a c101 (some i)) (O (Qf7 u h a) fun b=>cd (b≠0) (TF a c101 (some b)) (j ((f,g,(J (c+1)),()),a,m,())))) (TF a c101 (some 0))) u ((e,(e.length:Int),0,()),c101,[],())
def Yf:o 245 (Qn [l .n,.one (.fv 246),.one (.clo 247 [101])] [w 101 .F] [d] [] [101] Int kz2 (fun x y=>Qs u x.1 y.1)):=i u (n 2 (m [.s 1 (.one (.fv 246)),.s 2 (.one (.clo 247 [101])),.s 7 (.one (.mref 1012)),.l 13 .n,.n 14,.n 15] g [w 101 .F,(1012,.sm)])) kz4 (e (Vp u) (e (Qjc u) (e (Qjd u) t))) func245
def U5(u:Nat)(a:D.e):I AJ:=some a.Name
def Qje:o 250 (s [t13] [tx] (U5 u)):=f u g t func250
def Z7(u:Nat)(a:D.x):I AJ:=some a.Name
def QcA:o 321 (s [t9] [tx] (Z7 u)):=f u g t func321
def XU(b:Int)(a:D.F):I AH:=O (Yu u b (a.l.length:Int)) fun c=>TF a a (some (!c))
def Qez:o 349 (Qn [d,.one (.TM 101)] [w 101 .F] [h] [] [101] AH kz2 (fun x y=>XU u x.1 y.1)):=i u g kz4 (e (WB u) t) func349
def QM(c:Y Int)(c101:D.F):I Int:=Qe (fun g ((e,f,a,_),b,_)=>cd (a<f) (TN e a fun h=>O (XU u h b) fun i=>C i (TF b c101 (some a)) (g ((e,f,(J (a+1)),()),b,()))) (TF b c101 (some (-1)))) u ((c,(c.length:Int),0,()),c101,())
def XS:o 341 (Qn [lI,.one (.clo 349 [101])] [w 101 .F] [d] [] [101] Int kz2 (fun x y=>QM u x.1 y.1)):=i u (c g (m [.s 0 lI,.s 1 (.one (.clo 349 [101])),.n 7,.n 8] g [w 101 .F])) kz4 (e (Qez u) t) func341
def QE(a:Y Int)(c101:D.F):I AH:=O (QM u a c101) fun b=>TF c101 c101 (some (decide (0<=b)))
def Xj:o 307 (Qn [lI,.one (.clo 349 [101])] [w 101 .F] [h] [] [101] AH kz2 (fun x y=>QE u x.1 y.1)):=i u g kz4 (e (XS u) t) func307
def WX(c:D.F)(a:D.x):I Int:=TG (fun(_,_)=>some 0) fun b=>O (Yu u a.r (c.FG.length:Int)) fun e=>C (!e) (some 3) (cd (a.T.Fj<1) (some 1) (O (XN u a.T.Fj) fun f=>C f (O (Uv u a.T.Fb 0 86399) fun g=>C g (O (Uv u a.Unit 0 2) fun h=>C h (O (Uv u a.FH 1 400) fun i=>C i (cd ((a.s.length:Int)=0) (some 7) (cd (12<(a.s.length:Int)) (some 5) (O (QE u a.s c) fun j=>C j (some 3) (O (Qd4 u a.Fi) fun k=>cd (k≠0) (some 8) (O (Uv u a.Fx 0 2) fun l=>C (!l) (some 1) (cd (a.Fx≠0) (O (Yu u a.n (c.o.length:Int)) fun m=>C m (cd (a.Fx=0) (cd (a.n≠0) (some 1) (b ((),()))) (b ((),()))) (some 3)) (cd (a.Fx=0) (cd (a.n≠0) (some 1) (b ((),()))) (b ((),()))))))))) (some 1)) (some 1)) (some 1)) (some 1)))
def Qf8:o 323 (s [tO,t9] [d] (WX u)):=f u (c g (c (j [] g) g)) (e (Xj u) (e (WB u) (e (Qjm u) (e (Qdi u) (e (QeA u) t))))) func323
def Z8(b:D.x)(a:D.F):I Int:=O (WX u a b) fun c=>TF a a (some c)
def QcB:o 322 (Qn [t9,.one (.TM 101)] [w 101 .F] [d] [] [101] Int kz2 (fun x y=>Z8 u x.1 y.1)):=i u g kz4 (e (Qf8 u) t) func322
def Qk(e:Y D.x)(c101:D.F):I Int:=Qe (fun j ((f,g,c,_),a,k,_)=>cd (c<g) (TN f c fun h=>O (Z7 u h) fun l=>O (Xx u l k) fun(i,m)=>cd (i≠0) (TF a c101 (some i)) (O (Z8 u h a) fun b=>cd (b≠0) (TF a c101 (some b)) (j ((f,g,(J (c+1)),()),a,m,())))) (TF a c101 (some 0))) u ((e,(e.length:Int),0,()),c101,[],())
def Zx:o 320 (Qn [l .x,.one (.fv 321),.one (.clo 322 [101])] [w 101 .F] [d] [] [101] Int kz2 (fun x y=>Qk u x.1 y.1)):=i u (n 2 (m [.s 1 (.one (.fv 321)),.s 2 (.one (.clo 322 [101])),.s 7 (.one (.mref 1012)),.l 13 .x,.n 14,.n 15] g [w 101 .F,(1012,.sm)])) kz4 (e (Vp u) (e (QcA u) (e (QcB u) t))) func320
def VA(f:D.F)(b:D.t):I Int:=TG (fun(_,_)=>some 0) fun e=>O (Uv u b.Z 0 2) fun i=>C (!i) (some 1) (TG (fun((j,_),a,_)=>C j (some 3) (cd (a.Z≠2) (cd (a.B≠0) (some 1) (cd (a.Z=2) (cd (a.A=a.B) (some 4) (cd (a.w<0) (some 1) (cd (a.To<0) (some 1) (nzc 86400 (O (XN u (J (Int.tdiv a.To 86400))) fun k=>C k (cd (a.To<=a.w) (some 6) (e ((),()))) (some 1)))))) (cd (a.w<0) (some 1) (cd (a.To<0) (some 1) (nzc 86400 (O (XN u (J (Int.tdiv a.To 86400))) fun l=>C l (cd (a.To<=a.w) (some 6) (e ((),()))) (some 1))))))) (cd (a.Z=2) (cd (a.A=a.B) (some 4) (cd (a.w<0) (some 1) (cd (a.To<0) (some 1) (nzc 86400 (O (XN u (J (Int.tdiv a.To 86400))) fun m=>C m (cd (a.To<=a.w) (some 6) (e ((),()))) (some 1)))))) (cd (a.w<0) (some 1) (cd (a.To<0) (some 1) (nzc 86400 (O (XN u (J (Int.tdiv a.To 86400))) fun n=>C n (cd (a.To<=a.w) (some 6) (e ((),()))) (some 1)))))))) fun c=>O (Yu u b.A (f.l.length:Int)) fun o=>C o (cd (b.Z=2) (O (Yu u b.B (f.l.length:Int)) fun g=>C g (c ((false,()),b,())) (c ((true,()),b,()))) (c ((false,()),b,()))) (cd (b.Z=1) (cd (b.A=(-1)) (cd (b.Z=2) (O (Yu u b.B (f.l.length:Int)) fun h=>C h (c ((false,()),b,())) (c ((true,()),b,()))) (c ((false,()),b,()))) (c ((true,()),b,()))) (c ((true,()),b,()))))
def Qg5:o 324 (s [tO,.st .t] [d] (VA u)):=f u (n 2 (c (j [] (.one (n 2 (c (j [.r 3 .t,.s 14 h] g) g)))) g)) (e (WB u) (e (Qdi u) (e (QeA u) t))) func324
def Xw(l:D.F)(a:D.e):I Int:=TG (fun(_,e,b,_)=>O (Qk u b.Fk e) fun f=>cd (f≠0) (some f) (Qe (fun m ((g,h,c,_),i,_)=>cd (c<h) (TN g c fun n=>O (VA u i n) fun j=>cd (j≠0) (some j) (m ((g,h,(J (c+1)),()),i,()))) (some 0)) u ((b.FS,(b.FS.length:Int),0,()),e,()))) fun k=>cd (6<(a.Fk.length:Int)) (some 5) (cd (48<(a.FS.length:Int)) (some 5) (k ((),l,a,())))
def QdQ:o 252 (s [tO,t13] [d] (Xw u)):=f u (c g (c (j [.r 2 .F,.r 3 .e] g) (n 2 (m [.r 2 .F,.l 27 .t,.n 28,.n 29] g)))) (e (Zx u) (e (Qg5 u) t)) func252
def U6(b:D.e)(a:D.F):I Int:=O (Xw u a b) fun c=>TF a a (some c)
def Qjf:o 251 (Qn [t13,.one (.TM 101)] [w 101 .F] [d] [] [101] Int kz2 (fun x y=>U6 u x.1 y.1)):=i u g kz4 (e (QdQ u) t) func251
def Qt(e:Y D.e)(c101:D.F):I Int:=Qe (fun j ((f,g,c,_),a,k,_)=>cd (c<g) (TN f c fun h=>O (U5 u h) fun l=>O (Xx u l k) fun(i,m)=>cd (i≠0) (TF a c101 (some i)) (O (U6 u h a) fun b=>cd (b≠0) (TF a c101 (some b)) (j ((f,g,(J (c+1)),()),a,m,())))) (TF a c101 (some 0))) u ((e,(e.length:Int),0,()),c101,[],())
def Yg:o 249 (Qn [l .e,.one (.fv 250),.one (.clo 251 [101])] [w 101 .F] [d] [] [101] Int kz2 (fun x y=>Qt u x.1 y.1)):=i u (n 2 (m [.s 1 (.one (.fv 250)),.s 2 (.one (.clo 251 [101])),.s 7 (.one (.mref 1012)),.l 13 .e,.n 14,.n 15] g [w 101 .F,(1012,.sm)])) kz4 (e (Vp u) (e (Qje u) (e (Qjf u) t))) func249
def Q6(b:D.F):I Int:=TG (fun(_,e,_)=>O (QF u e.FG) fun t=>cd (t≠0) (some t) (Qe (fun G ((r,s,f,_),a,H,_)=>cd (f<s) (TN r f fun g=>O (Xx u g.Name H) fun(zE,h)=>TG (fun((i,j,k,l,_),c,v,m,_)=>TG (fun((n,w,y,z,_),A,B,_)=>cd (n≠0) (some n) (G ((w,y,(J (z+1)),()),A,B,()))) fun o=>cd (i=0) (O (Ws u c v) fun zH=>o ((zH,j,k,l,()),c,m,())) (o ((i,j,k,l,()),c,m,()))) fun p=>cd (g.Name=(ByteArray.mk (List.toArray [110,111,98,111,100,121]))) (p ((2,r,s,f,()),a,g,h,())) (p ((zE,r,s,f,()),a,g,h,()))) (O (Qs u a.o a) fun q=>cd (q≠0) (some q) (O (Qt u a.f a) fun E=>some E))) u ((e.l,(e.l.length:Int),0,()),e,[],()))) fun F=>cd (16<(b.FG.length:Int)) (some 5) (cd (32<(b.l.length:Int)) (some 5) (cd (8<(b.o.length:Int)) (some 5) (cd (12<(b.f.length:Int)) (some 5) (F ((),b,())))))
def Qbk:o 172 (sI [tO] fun x=>Q6 u x.1):=i u (c g (c (j [.r 1 .F] g) (n 2 (m [.r 1 .F,.s 4 (.one (.mref 1037)),.l 39 .R,.n 40,.n 41] (n 2 (c (.one (n 2 (c (j [.r 1 .F,.s 4 (.one (.mref 1037)),.r 6 .R,.n 7,.l 39 .R,.n 40,.n 41] g [(1037,.sm)]) (c (j [.r 1 .F,.s 4 (.one (.mref 1037)),.n 7,.l 39 .R,.n 40,.n 41] g [(1037,.sm)]) g)))) g)) [(1037,.sm)])))) kz4 (e (Ym u) (e (Vp u) (e (Qe6 u) (e (Yf u) (e (Yg u) t))))) func172
def Ue(u:Nat)(b:D.F)(a:Int):I AH:=cd (0<=a) (cd (a<(b.f.length:Int)) sT sF) sF
def Qhr:o 356 (sB [tO,d] fun x=>Ue u x.1 x.2.1):=i u g kz4 t func356
def Wa(u:Nat)(a:Y D.r):I (Y D.r):=TR a (TU (some []) (TO a.length 34359738368 (some a))) (TO a.length 34359738368 (some a))
def Qbv:o 267 (Qn [l .r] [] [.one (.own 1007)] [p 1007 .r] [] (Y D.r) kz6 (fun x y=>Wa u x.1)):=i u g kz10 t func267
def Y8(u:Nat)(a:Y D.R):I (Y D.R):=TR a (TU (some []) (TO a.length 34359738368 (some a))) (TO a.length 34359738368 (some a))
def Qaq:o 269 (Qn [l .R] [] [.one (.own 1007)] [p 1007 .R] [] (Y D.R) kz6 (fun x y=>Y8 u x.1)):=i u g kz10 t func269
def Vr(u:Nat)(a:Y D.n):I (Y D.n):=TR a (TU (some []) (TO a.length 34359738368 (some a))) (TO a.length 34359738368 (some a))
def Uw:o 271 (Qn [l .n] [] [.one (.own 1007)] [p 1007 .n] [] (Y D.n) kz6 (fun x y=>Vr u x.1)):=i u g kz10 t func271
def Yz(u:Nat)(a:Y D.e):I (Y D.e):=TR a (TU (some []) (TO a.length 34359738368 (some a))) (TO a.length 34359738368 (some a))
def Ux:o 272 (Qn [l .e] [] [.one (.own 1007)] [p 1007 .e] [] (Y D.e) kz6 (fun x y=>Yz u x.1)):=i u g kz10 t func272
def XB(u:Nat)(a:Y D.FF):I (Y D.FF):=TR a (TU (some []) (TO a.length 34359738368 (some a))) (TO a.length 34359738368 (some a))
def Uy:o 268 (Qn [l .FF] [] [.one (.own 1007)] [p 1007 .FF] [] (Y D.FF) kz6 (fun x y=>XB u x.1)):=i u g kz10 t func268
def Yn(u:Nat)(a:Y D.FE):I (Y D.FE):=TR a (TU (some []) (TO a.length 34359738368 (some a))) (TO a.length 34359738368 (some a))
def WO:o 270 (Qn [l .FE] [] [.one (.own 1007)] [p 1007 .FE] [] (Y D.FE) kz6 (fun x y=>Yn u x.1)):=i u g kz10 t func270
def Xz(u:Nat)(a:Y D.x):I (Y D.x):=TR a (TU (some []) (TO a.length 34359738368 (some a))) (TO a.length 34359738368 (some a))
def Qbc:o 327 (Qn [l .x] [] [.one (.own 1007)] [p 1007 .x] [] (Y D.x) kz6 (fun x y=>Xz u x.1)):=i u g kz10 t func327
def X9(u:Nat)(a:Y D.t):I (Y D.t):=TR a (TU (some []) (TO a.length 34359738368 (some a))) (TO a.length 34359738368 (some a))
def Qbu:o 275 (Qn [l .t] [] [.one (.own 1007)] [p 1007 .t] [] (Y D.t) kz6 (fun x y=>X9 u x.1)):=i u g kz10 t func275
def Qy(u:Nat)(a:Y Int):I (Y Int):=TR a (TU (some []) (TO a.length 34359738368 (some a))) (TO a.length 34359738368 (some a))
def Q1:o 198 (Qn [lI] [] [.one (.own 1007)] [p 1007 .int] [] (Y Int) kz6 (fun x y=>Qy u x.1)):=i u g kz10 t func198
end
end Go.Proofs.YtlllfgmajglnhaaGreat
namespace Go.Proofs.YtlllfgmajglnhaaGreat.AM
open Go
section
variable (P:AF) (rd:Y (Nat×AV)) (hs:Y (Name×AO))
def QAi(T:AD)(x y:AC):I Out:=match W9 P T,Qi rd x,Qi rd y with
 |some e,some (.own n len),some (.p (.v (.int _ j)))=>match Zl P e,X n hs with
  |some es,some (.hole es' pre row post)=>if Nat.beq es es' && (Nat.beq len (pre.length+1+post.length) && (Nat.blt j.toNat (pre.length+1+post.length) && decide (j=(j.toNat:Int))))then some ([(n,.hole es' pre row post)],.aref n len j.toNat 0,[],[])else none
  |_,_=>none
 |_,_,_=>none
def xLen(x:AC)(ats:Array AD):I Out:=match ats[0]?.bind (W9 P),Qi rd x with
 |some _,some (.own n len)=>match X n hs with
  |some (.TI es rows)=>if Nat.beq len rows.length then some ([(n,.TI es rows)],.p (.v (.int .i64 (rows.length:Int))),[],[])else none
  |some (.hole es pre row post)=>if Nat.beq len (pre.length+1+post.length)then some ([(n,.hole es pre row post)],.p (.v (.int .i64 (len:Int))),[],[])else none
  |_=>none
 |_,_=>none
def QCP(c:Call):I Out:=match c with
 |{ callee:=.builtin .len,args:=aq,argTypes:=ats,.. }=>match aq.toList with
  |[x]=>xLen P rd hs x ats
  |_=>none
 |_=>none
def QAh(zI:AD)(x:AC)(i:Nat):I Out:=match Qi rd x,QbD P zI i with
 |some (.aref n len j k),some fo=>match X n hs with
  |some (.hole es pre row post)=>if Nat.beq len (pre.length+1+post.length)then some ([(n,.hole es pre row post)],.aref n len j (k+fo),[],[])else none
  |_=>none
 |_,_=>none
def xNil(x:AC):I Out:=match Qi rd x with
 |some (.aref n len j k)=>match X n hs with
  |some (.hole es pre row post)=>if Nat.beq len (pre.length+1+post.length)then some ([(n,.hole es pre row post)],.aref n len j k,[],[])else none
  |_=>none
 |_=>none
def QCQ(T:AD)(x:AC):I Out:=match Qi rd x with
 |some (.aref n len i k)=>match X n hs with
  |some (.hole es pre row post)=>if Qcy P T && (Nat.beq len (pre.length+1+post.length) && Nat.beq i pre.length)then(row[k]?).map fun c=>([(n,.hole es pre row post)],c,[],[])else none
  |_=>none
 |_=>none
def QAj(d:I Nat)(T:AD)(x y:AC):I Out:=match d,Qi rd x,(Qi rd y).bind ZV with
 |none,some (.aref n len i k),some vs=>match X n hs,Zl P T with
  |some (.hole es pre row post),some z=>if Nat.beq len (pre.length+1+post.length) && (Nat.beq i pre.length && (Nat.beq z vs.length && Nat.ble (k+vs.length) row.length))then some ([(n,.hole es pre row post)],.any,[(n,.hole es pre (Qz row k vs) post)],[])else none
  |_,_=>none
 |_,_,_=>none
def xAdd(x y:AC):I Out:=match Qi rd x,Qi rd y with
 |some (.p (.v (.int k a))),some (.p (.v (.int k' b)))=>if kEq k k' then some ([],.p (.v (.int k (k.wrap (a+b)))),[],[])else none
 |_,_=>none
def QAt(o:Oper):I Out:=match o.op with
 |.indexAddr T x y=>QAi P rd hs T x y
 |.fieldAddr zI x i=>QAh P rd hs zI x i
 |.nilCheck x=>xNil rd hs x
 |.load T x=>QCQ P rd hs T x
 |.store T x y=>QAj P rd hs o.dst T x y
 |.binOp .add _ x y _=>xAdd rd x y
 |.call c=>QCP P rd hs c
 |_=>none
end
section
variable {P:AF} {rd:Y (Nat×AV)} {hs:Y (Name×AO)} {o:Oper} {e:Out}
def Qyn(h:QAt P rd hs o=some e):TE P o (Qcw rd e):=by
 unfold QAt at h
 split at h
 .rename_i T x y ho
  unfold QAi at h
  split at h
  .rename_i e' n len k j hT hx hy
   split at h
   .rename_i es es' pre row post hz hh
    split at h
    .rename_i hc
     simp only[bae,BK]at hc
     obtain⟨c1,c2,c3,c4⟩:=hc
     have:=nbe c1;subst this
     cases h
     exact TE.indexHole ho hT hz hx c2 hy c4 (by simpa [Nat.blt_eq]using c3)
    .simp at h
   .simp at h
  .simp at h
 .rename_i zI x i ho
  unfold QAh at h
  split at h
  .rename_i n len j k fo hx hf
   split at h
   .split at h
    .rename_i hl;cases h;exact TE.fieldElemSh ho hx hf rfl rfl hl
    .simp at h
   .simp at h
  .simp at h
 .rename_i x ho
  unfold xNil at h
  split at h
  .rename_i n len j k hx
   split at h
   .split at h
    .rename_i hl;cases h;exact TE.nilCheckSh ho hx rfl hl
    .simp at h
   .simp at h
  .simp at h
 .rename_i T x ho
  unfold QCQ at h
  split at h
  .rename_i n len i k hx
   split at h
   .split at h
    .rename_i hc
     simp only[bae]at hc
     obtain⟨v,hv,rfl⟩:=map_some h
     exact TE.loadHole ho hx hc.1 hc.2.1 (nbe hc.2.2) hv
    .simp at h
   .simp at h
  .simp at h
 .rename_i T x y ho
  unfold QAj at h
  split at h
  .rename_i n len i k vs hd hx hy
   split at h
   .rename_i es pre row post z hh hz
    split at h
    .rename_i hc
     simp only[bae]at hc
     obtain⟨c1,c2,c3,c4⟩:=hc
     cases h
     obtain⟨v,hv,hvs⟩:=UF hy
     exact TE.storeHole hd ho hx hv hvs c1 (nbe c2) (by rw[hz,nbe c3]) c4 rfl
    .simp at h
   .simp at h
  .simp at h
 .rename_i T x y T' ho
  unfold xAdd at h
  split at h
  .rename_i k a k' b hx hy
   split at h
   .rename_i hk
    have:=QeT hk;subst this
    cases h
    exact TE.add ho hx hy rfl
   .simp at h
  .simp at h
 .rename_i c ho
  unfold QCP at h
  split at h
  .rename_i aq ats
   split at h
   .rename_i x has
    have:aq=#[x]:=by cases aq;simp at has;simp[has]
    subst this
    unfold xLen at h
    split at h
    .rename_i e' n len hT hx
     obtain⟨T,hT1,hT2⟩:=UF hT
     split at h
     .split at h
      .rename_i hl;cases h;exact TE.lenOwn ho hT1 hT2 hx hl rfl
      .simp at h
     .split at h
      .rename_i hl;cases h;exact TE.lenHole ho hT1 hT2 hx hl rfl
      .simp at h
     .simp at h
    .simp at h
   .simp at h
  .simp at h
 .simp at h
end
def rowX(P:AF)(ops:Array Oper)(i:Nat)(ts:Y (Nat×AV))(hs:Y (Name×AO)):I Row:=match rowA P ops i ts hs with
 |some r=>some r
 |none=>match ops[i]? with
  |none=>none
  |some o=>match o.guard with
   |none=>(QAt P (rdo ts o.op.operands.toList) hs o).map fun x=>(o.dst,Qcw (rdo ts o.op.operands.toList) x)
   |some _=>none
def QBK(h:rowX P ops i ts hs=some r):ZT P ops i r.1 r.2:=by
 unfold rowX at h
 split at h
 .rename_i r' hr;cases h;exact QBJ hr
 .split at h
  .simp at h
  .rename_i o hi
   split at h
   .rename_i hg;obtain⟨x,hx,rfl⟩:=map_some h;exact ZT.plain hi hg (Qyn hx)
   .simp at h
def QpM(P:AF)(ops:Array Oper):Nat->Y Item->Y (Nat×AV)->Y (Name×AO)->I (Y Row)
 |i,[],_,_=>if Nat.beq ops.size i then some []else none
 |i,.m d e::r,ts,hs=>(QpM P ops (i+1) r (putD d e.v ts) (e.upd++hs)).map fun l=>(d,e)::l
 |i,.a::r,ts,hs=>match rowX P ops i ts hs with
  |none=>none
  |some x=>(QpM P ops (i+1) r (putD x.1 x.2.v ts) (x.2.upd++hs)).map fun l=>x::l
def QpN:∀{items:Y Item} {i:Nat} {ts:Y (Nat×AV)} {hs:Y (Name×AO)} {L:Y Row},QpM P ops i items ts hs=some L->Man P ops i items->VH P ops i L
 |[],i,ts,hs,L,h,_=>by
  unfold QpM at h
  split at h
  .rename_i hb;cases h;exact nbe hb
  .simp at h
 |.m d e::r,i,ts,hs,L,h,hm=>by
  unfold QpM at h
  obtain⟨l,hl,rfl⟩:=map_some h
  exact⟨hm.1,QpN hl hm.2⟩
 |.a::r,i,ts,hs,L,h,hm=>by
  unfold QpM at h
  split at h
  .simp at h
  .rename_i x hx
   obtain⟨l,hl,rfl⟩:=map_some h
   exact⟨QBK hx,QpN hl hm⟩
def Qc0(P:AF)(ops:Array Oper)(items:Y Item)(ts:Y (Nat×AV))(hs:Y (Name×AO)):Y Row:=(QpM P ops 0 items ts hs).getD []
def QmL(P:AF)(ops:Array Oper)(items:Y Item)(ts:Y (Nat×AV))(hs:Y (Name×AO)):AH:=(QpM P ops 0 items ts hs).isSome
def Qjg(h:QmL P ops items ts hs=true)(hm:Man P ops 0 items):VH P ops 0 (Qc0 P ops items ts hs):=by
 unfold QmL at h
 unfold Qc0
 cases hr:QpM P ops 0 items ts hs with
 |none=>rw[hr]at h;simp at h
 |some L=>exact QpN hr hm
section
variable {P:AF} {Γ:Ctx} {s:AS} {Q:Exit->AS->Prop}
def TJ.xr{id:Nat}(hn:Γ.n=n)(hk:Γ.names=names)(zE)(hm:Man P ops 0 zE)(ts')(hs':Y (Name×AO))(h:TJ P Γ y (mk ts' hs') Q)(hb:QmL P ops zE ts hs=true:=by kernel_rfl)(hf:QoR n names (Qc0 P ops zE ts hs) ts hs ts' hs'=QoS (Qc0 P ops zE ts hs) ts' hs':=by kernel_rfl):
  TJ P Γ (.seq (.region id ops false) y) (mk ts hs) Q:=TJ.s_region hn hk _ (Qjg hb hm) ts' hs' hf h
def TJ.xa{id:Nat}(hn:Γ.n=n)(hk:Γ.names=names)(k)(ts')(hs':Y (Name×AO))(h:TJ P Γ y (mk ts' hs') Q)(hb:QmL P ops (aa k) ts hs=true:=by kernel_rfl)(hf:QoR n names (Qc0 P ops (aa k) ts hs) ts hs ts' hs'=QoS (Qc0 P ops (aa k) ts hs) ts' hs':=by kernel_rfl):
  TJ P Γ (.seq (.region id ops false) y) (mk ts hs) Q:=TJ.xr hn hk (aa k) (Man.aa _ _) ts' hs' h hb hf
def TJ.xa'{id:Nat}(hn:Γ.n=n)(hk:Γ.names=names)(k)(ts')(hs':Y (Name×AO))(h:Q .normal (mk ts' hs'))(hb:QmL P ops (aa k) ts hs=true:=by kernel_rfl)(hf:QoR n names (Qc0 P ops (aa k) ts hs) ts hs ts' hs'=QoS (Qc0 P ops (aa k) ts hs) ts' hs':=by kernel_rfl):
  TJ P Γ (.region id ops false) (mk ts hs) Q:=TJ.region' hn hk _ (Qjg hb (Man.aa _ _)) ts' hs' hf h
def TJ.xd{id:Nat}{ops:Array Oper}{y:Code}{ts:Y (Nat×AV)}{hs:Y (Name×AO)}{n:Nat}{names:Y Name}(hn:Γ.n=n)(hk:Γ.names=names)(zE:Y Item)(hm:Man P ops 0 zE)(ts':Y (Nat×AV))(hs':Y (Name×AO))(h:TJ P Γ y (mk ts' hs') Q)(hmode:P.follows .mixedOrders=true:=by kernel_rfl)(hb:QmL P ops zE ts hs=true:=by kernel_rfl)(hf:QoR n names (Qc0 P ops zE ts hs) ts hs ts' hs'=QoS (Qc0 P ops zE ts hs) ts' hs':=by kernel_rfl)(hind:indep ops (Qc0 P ops zE ts hs) ts hs=true:=by kernel_rfl):TJ P Γ (.seq (.region id ops true) y) (mk ts hs) Q:=TJ.s_draw hn hk hmode _ (Qjg hb hm) ts' hs' hf hind h
def TJ.xd'{id:Nat}{ops:Array Oper}{ts:Y (Nat×AV)}{hs:Y (Name×AO)}{n:Nat}{names:Y Name}(hn:Γ.n=n)(hk:Γ.names=names)(zE:Y Item)(hm:Man P ops 0 zE)(ts':Y (Nat×AV))(hs':Y (Name×AO))(h:Q .normal (mk ts' hs'))(hmode:P.follows .mixedOrders=true:=by kernel_rfl)(hb:QmL P ops zE ts hs=true:=by kernel_rfl)(hf:QoR n names (Qc0 P ops zE ts hs) ts hs ts' hs'=QoS (Qc0 P ops zE ts hs) ts' hs':=by kernel_rfl)(hind:indep ops (Qc0 P ops zE ts hs) ts hs=true:=by kernel_rfl):TJ P Γ (.region id ops true) (mk ts hs) Q:=TJ.draw' hn hk hmode _ (Qjg hb hm) ts' hs' hf hind h
end
def TJ.nameH(m)(j:Nat){pre post:Y (Y PV)}(hn0:n0∉Γ.names)(h0:X n0 hs=none)(hfree:QA8 n0 ts hs=true)(hne:n≠n0)(hm:X m hs=some (.hole es pre row post))(hj:row[j]?=some (.own n len))(h:∀x,TJ P Γ c (mk ts ((n0,.fact (.own n len) x)::hs)) Q):TJ P Γ c (mk ts hs) Q:=
 TJ.nameU hn0 h0 (QyM hfree) hne (fun ρ M a w hs0=>by
  obtain⟨k0,k0',k1,b,T,cs,k3,k4,k5,k6,k7,k8,k9⟩:=hs0.objs m _ hm
  obtain⟨u,_,_,hr⟩:=k8.get j _ hj
  exact⟨u,hr⟩) h
def Weak.pinH(hmn:m≠n)(hf:X n0 hs=some (.fact (.own n len) x))(ho:X n hs=some o)(hsh:o.shape=some (es,len))(hp:PinL n len x xs ys)(hs':Y (Name×AO))(h0:X m hs=some (.hole es' pre xs post))(h1:∀k,X k hs'=if k=m then some (.hole es' pre ys post)else X k hs):Weak Γ (mk ts hs) (mk ts hs'):=fun ρ M a w h=>by
 have hst:Qdk ρ (mk ts hs).heap ρ (mk ts hs').heap:=fun k ob hk=>by
  change stays ob (ρ k) (X k hs') (ρ k)
  rw[h1]
  split
  .rename_i e;subst e
   have hk':X k hs=some ob:=hk
   rw[h0]at hk';cases hk'
   exact XR (es:=es') (k:=pre.length+1+post.length) rfl rfl (Zj _ _)
  .have hk':X k hs=some ob:=hk
   rw[hk'];exact Zj _ _
 have hnn:∀k,(mk ts hs).heap k=none->(mk ts hs').heap k=none:=fun k hk=>by
  change X k hs'=none
  rw[h1]
  split
  .rename_i e;subst e;change X k hs=none at hk;rw[h0]at hk;cases hk
  .exact hk
 have hconv:∀{v:AV} {u:AE},v.R ρ (mk ts hs).heap M w u->v.R ρ (mk ts hs').heap M w u:=fun hr=>
  hr.step (Ext.refl (fun _=>False) _) (fun _ hb=>hb.elim) (fun b _ hb=>hb) hst (fun k _=>hnn k)
 have hfact:AV.R ρ (mk ts hs).heap M w (.own n len) x:=(h.objs n0 _ hf).2
 have hx:=hfact
 simp only[AV.R]at hx
 have hxe:=(hx.2 o es len ho hsh).2 rfl
 have hpin:∀us,AV.Rs ρ (mk ts hs).heap M w xs us->AV.Rs ρ (mk ts hs').heap M w ys us:=by
  refine PinL.rec (motive_1:=fun v y _=>∀u,v.R ρ (mk ts hs).heap M w u->y.R ρ (mk ts hs').heap M w u) (motive_2:=fun vs ys _=>∀us,AV.Rs ρ (mk ts hs).heap M w vs us->AV.Rs ρ (mk ts hs').heap M w ys us) ?_ ?_ ?_ ?_ ?_ ?_ hp
  .omega
  .intro u hr
   simp only[AV.R]at hr
   have hu:=(hr.2 o es len ho hsh).2 rfl
   simp only[AV.R,PV.R]
   simp_all
  .intro u hr
   simp only[AV.R,PV.R]at hr
   simp_all
  .intro xs ys _ ih u hr
   simp only[AV.R]at hr |-
   grind
  .intro us hr;simp only[AV.Rs]at hr |-;exact hr
  .intro a b as1 bs _ _ ih1 ih2 us hr
   simp only[AV.Rs]at hr |-
   grind
 refine⟨ρ,M,QyE h (fun t y hy=>⟨y,hy,fun u hr=>hconv hr⟩) (fun k y hy=>?_) (fun k v hv=>?_)⟩
 .change X k hs'=some y at hy
  rw[h1]at hy
  split at hy
  .rename_i e;subst e;cases hy
   refine⟨_,h0,fun hob=>?_⟩
   obtain⟨k0,k0',k1,b,T,cs,k3,k4,k5,k6,k7,k8,k9⟩:=hob
   have hlen:xs.length=ys.length:=by
    have:=PinL.rec (motive_1:=fun _ _ (_:Pin n len x _ _)=>True) (motive_2:=fun vs ys _=>vs.length=ys.length) (by intros;trivial) (by trivial) (by trivial) (by intros;trivial) rfl (by intros;simp_all) hp
    exact this
   exact⟨k0,by rw[<-hlen];exact k0',k1,b,T,cs,k3,k4,k5,k6,k7,hpin _ k8,k9⟩
  .refine⟨y,hy,fun hob=>?_⟩
   exact Qah.step (Ext.refl (fun _=>False) _) (fun _ hb=>hb.elim) (fun b _ hb=>hb) (fun b hb=>hb) hst (fun k _=>hnn k) rfl (fun _ _=>rfl) h.msize hob
 .change X k hs=some v at hv
  by_cases e:k=m
  .subst e
   rw[h0]at hv;cases hv
   exact⟨_,(by change X k hs'=_;rw[h1,iB rfl]),fun o l hst=>XR (es:=es') (k:=pre.length+1+post.length) rfl rfl hst⟩
  .exact⟨v,(by change X k hs'=_;rw[h1,iA e];exact hv),fun o l hst=>hst⟩
def TsLe.refl:∀ts:Y (Nat×AV),TsLe ts ts
 |[]=>trivial
 |(_,x)::r=>⟨rfl,.refl x,TsLe.refl r⟩
def HsLe.refl:∀hs:Y (Name×AO),HsLe hs hs
 |[]=>trivial
 |(_,x)::r=>⟨rfl,.refl x,HsLe.refl r⟩
def Qjp.refl:∀{ts:Y (Nat×AV)},ts.all (fun p=>!p.2.has n)=true->Qjp px n es rows ts ts
 |[],_=>trivial
 |(_,x)::r,h=>by
  simp only[BX,bae,BG]at h
  exact⟨rfl,.same h.1,Qjp.refl h.2⟩
def Qjo.refl:∀{hs:Y (Name×AO)},hs.all (fun p=>!p.2.has n && !Nat.beq p.1 n)=true->Qjo px n es rows hs hs
 |[],_=>trivial
 |(_,x)::r,h=>by
  simp only[BX,bae,BG]at h
  exact⟨rfl,fun e=>by have:=h.1.2;subst e;simp at this,.same h.1.1,Qjo.refl h.2⟩
section
variable {P:AF} {Γ:Ctx} {c:Code} {Q:Exit->AS->Prop} {ts:Y (Nat×AV)} {hs:Y (Name×AO)} {n n0 m:Name} {es es':Nat} {rows pre post:Y (Y PV)} {x:AE} {o o':AO}
def TJ.foc(pre post)(r)(hr:rows=pre++r::post)(h:TJ P Γ c (mk ts ((m,.hole es pre (r.map .p) post)::hs)) Q):TJ P Γ c (mk ts ((m,.TI es rows)::hs)) Q:=
 TJ.weaken (mk ts ((m,.hole es pre (r.map .p) post)::hs)) (Weak.le (TsLe.refl _) ⟨rfl,.focus hr rfl,HsLe.refl _⟩) h
def TJ.unf(r)(hrow:row=r.map .p)(h:TJ P Γ c (mk ts ((m,.TI es (pre++r::post))::hs)) Q):TJ P Γ c (mk ts ((m,.hole es pre row post)::hs)) Q:=
 TJ.weaken (mk ts ((m,.TI es (pre++r::post))::hs)) (Weak.le (TsLe.refl _) ⟨rfl,.unfocus rfl hrow,HsLe.refl _⟩) h
def TJ.frz(hk:Γ.names=[])(hb:(ts.all (fun p=>!p.2.has n) && (hs.all (fun p=>!p.2.has n && !Nat.beq p.1 n) && !Nat.beq m n))=true)(ho:OFrz (fun _=>False) n es rows o o')(h:TJ P Γ c (mk ts ((m,o')::hs)) Q):
  TJ P Γ c (mk ts ((n,.TI es rows)::(m,o)::hs)) Q:=by
 simp only[bae,BG]at hb
 exact TJ.weaken (mk ts ((m,o')::hs)) (Weak.freeze (by rw[hk];exact BI) (Qjp.refl hb.1) ⟨rfl,fun e=>by have:=hb.2.2;subst e;simp at this,ho,Qjo.refl hb.2.1⟩) h
def TJ.frzP(hk:Γ.names=[])(hb:(ts.all (fun p=>!p.2.has n) && (hs.all (fun p=>!p.2.has n && !Nat.beq p.1 n) && (!Nat.beq m n && (!Nat.beq n n0 && (X n0 ((m,o)::hs)).isNone))))=true)(ho:OFrz (fun y=>y=x) n es rows o o')(h:TJ P Γ c (mk ts ((m,o')::hs)) Q):
  TJ P Γ c (mk ts ((n,.TI es rows)::(n0,.fact (.own n rows.length) x)::(m,o)::hs)) Q:=by
 simp only[bae,BG,Bk]at hb
 exact TJ.weaken (mk ts ((m,o')::hs)) (Weak.freezeP (by rw[hk];exact BI) (by rw[hk];exact BI) (fun e=>by have:=hb.2.2.2.1;subst e;simp at this) hb.2.2.2.2 (Qjp.refl hb.1) ⟨rfl,fun e=>by have:=hb.2.2.1;subst e;simp at this,ho,Qjo.refl hb.2.1⟩) h
def TJ.pinH(hb:(!Nat.beq m n && (!Nat.beq m n0 && !Nat.beq n0 n))=true)(ho:X n hs=some o)(hsh:o.shape=some (es',len))(hp:PinL n len x row row')(h:TJ P Γ c (mk ts ((n0,.fact (.own n len) x)::(m,.hole es pre row' post)::hs)) Q):TJ P Γ c (mk ts ((n0,.fact (.own n len) x)::(m,.hole es pre row post)::hs)) Q:=by
 simp only[bae,BG]at hb
 have e1:m≠n:=fun e=>by have:=hb.1;subst e;simp at this
 have e2:n0≠m:=fun e=>by have:=hb.2.1;subst e;simp at this
 have e3:n0≠n:=fun e=>by have:=hb.2.2;subst e;simp at this
 refine TJ.weaken (mk ts ((n0,.fact (.own n len) x)::(m,.hole es pre row' post)::hs)) (Weak.pinH (n:=n) (n0:=n0) (m:=m) (x:=x) (len:=len) (es:=es') (es':=es) (pre:=pre) (post:=post) (o:=o) e1 (by simp[X]) (by simp[X,e3,e1,ho]) hsh hp _ (by simp[X,e2]) fun k=>?_) h
 simp only[X]
 grind
end
def sk:Nat->Y Item->Y Item
 |0,r=>r
 |n+1,r=>.a::sk n r
def Man.sk:∀{n i:Nat} {r:Y Item},Man P ops (i+n) r->Man P ops i (AM.sk n r)
 |0,_,_,h=>h
 |n+1,i,r,h=>Man.sk (n:=n) (i:=i+1) (by rw[B6,EA 1 n];exact h)
def Man.m(h:ZT P ops i d e)(h':Man P ops (i+1) r):Man P ops i (.m d e::r):=⟨h,h'⟩
def clI(d s:Nat)(nm:Name)(t:TC)(l:Y (TT t)):Item:=.m (some d) ⟨[(s,.p (.sl false (tz t) (l.map (tcells t))))],[],.own nm (l.map (tcells t)).length,[(nm,.TI (tz t) (l.map (tcells t)))],[nm]⟩
def QbZ(P:AF)(k:FuncId)(t:TC)(l:Y (TT t)):Prop:=∀nm:Name,nm<10000000000->WT P k [.p (.sl false (tz t) (l.map (tcells t)))] [] (.own nm (l.map (tcells t)).length) [(nm,.TI (tz t) (l.map (tcells t)))]
def QaV{P:AF}{ops:Array Oper}{i d s:Nat}{nm:Name}{t:TC}{l:Y (TT t)}{k:FuncId}{o:Oper}{ats:Array AD}(h:QbZ P k t l)(hnm:Nat.blt nm 10000000000=true)(hi:ops[i]?=some o)(hd:o.dst=some d)(hg:o.guard=none)(ho:o.op=.call { callee:=.value (.func k),args:=#[.tmp s],argTypes:=ats })(hc:callable P k=true):
  ZT P ops i (some d) ⟨[(s,.p (.sl false (tz t) (l.map (tcells t))))],[],.own nm (l.map (tcells t)).length,[(nm,.TI (tz t) (l.map (tcells t)))],[nm]⟩:=
 ZT.p hi hd hg (TE.call ho hc (by simp[Qg0,Qi,X]) (h nm (by simpa [Nat.blt_eq]using hnm)) (by simp[Qfh,keys,AV.closed,AO.closed]))
def Qls(hs:WT P k args pre v h)(hi:ops[i]?=some o)(hd:o.dst=some d)(hg:o.guard=none)(ho:o.op=.call { callee:=.value (.func k),args:=argOps,argTypes:=ats })(hc:callable P k=true)(ha:Qg0 rd argOps.toList=some args)(hok:Qfh pre h nw v=true):ZT P ops i (some d) ⟨rd,pre,v,h,nw⟩:=ZT.p hi hd hg (TE.call ho hc ha hs hok)
def Vv{F:Y (TT t)->I (Y (TT t))}(h:FnOK P k (Qn [.one (.TQ t)] [] [.one (.own 1007)] [(1007,.TI t)] [] (Y (TT t)) (fun q=>((),(q,()))) (fun x y=>F x.1))){l:Y (TT t)}(hl:F l=some l):QbZ P k t l:=by
 intro nm hnm
 obtain⟨L1,_,hinv,hs⟩:=h.spec (l,()) () () (l,()) (by show O (F l) _=_;rw[hl];rfl) (fun _ _=>0) (fun n t l v hn=>by change X n []=_ at hn;simp[X]at hn)
 have e1:L1 1007 1=(l.map (tcells t)).length:=by rw[AX];exact hinv 1007 t l 1 rfl
 have hσ:∀a b:Name,(if a=1007 then nm else a+10000000000)=(if b=1007 then nm else b+10000000000)->a=b:=fun a b e=>by
  grind
 have h1:=Spec.ren (σ:=fun a:Name=>if a=1007 then nm else a+10000000000) hσ hs
 have h2:WT P k [.p (.sl false (tz t) (l.map (tcells t)))] [] (.own (if (1007:Name)=1007 then nm else 1007+10000000000) (L1 1007 1)) [(if (1007:Name)=1007 then nm else 1007+10000000000,.TI (tz t) (l.map (tcells t)))]:=h1
 grind
end Go.Proofs.YtlllfgmajglnhaaGreat.AM
namespace Go.Proofs.YtlllfgmajglnhaaGreat
open Go AM
def clone0[AL α]{l:Y α}(h:l.length<=34359738368):TR l (TU (some []) (TO l.length 34359738368 (some l))) (TO l.length 34359738368 (some l))=some l:=by
 cases l<;>simp[TR,TU,TO]at h |-
 exact h
abbrev nl:AV:=.p (.sl true 0 [])
abbrev sl0(es:Nat)(rows:Y (Y PV)):AV:=.p (.sl false es rows)
abbrev own(n k:Nat):AV:=.own n k
abbrev schR(n:AJ)(l:D.x)(e:Y D.t):Y PV:=[.v (.string n),.sl false 10 [D.x.cells l],.sl false 5 (e.map D.t.cells)]
structure QnC (fu:Nat) (z:D.r) (ps:Y D.R) (la lb:D.x) (ea eb:Y D.t):Prop where
 rules:z.Fp.length<=1000000
 quiet:∀p∈ps,p.Ff.length<=1000000
 lam:la.s.length<=1000000
 law:la.Fi.length<=1000000
 lbm:lb.s.length<=1000000
 lbw:lb.Fi.length<=1000000
 ea:ea.length<=1000000
 eb:eb.length<=1000000
section
abbrev cfgA(z:D.r)(p1 p2 p3 p4:D.R)(na nb:AJ)(la lb:D.x)(ea eb:Y D.t):Y AV:=
 [sl0 3 [D.r.cells z],sl0 6 [D.R.cells p1,D.R.cells p2,D.R.cells p3,D.R.cells p4],sl0 3 [],sl0 3 [schR na la ea,schR nb lb eb]]
abbrev boxC:AO:=.box [own 2011 1,own 2014 4,own 2017 0,own 2020 2]
abbrev box0:AO:=.box [nl,nl,nl,nl]
def QqE(h:QnC fu z [p1,p2,p3,p4] la lb ea eb)(r)(h':Y (Name×AO))(hh:h'=bif r then[(2011,.TI 3 [D.r.cells z]),(2014,.TI 6 [D.R.cells p1,D.R.cells p2,D.R.cells p3,D.R.cells p4]),(2017,.TI 3 []),(2020,.hole 3 [schR na la ea] [.p (.v (.string nb)),sl0 10 [D.x.cells lb],own 3001 (eb.map (tcells .t)).length] []),(3001,.TI 5 (eb.map (tcells .t)))]
   else[(2011,.TI 3 [D.r.cells z]),(2014,.TI 6 [D.R.cells p1,D.R.cells p2,D.R.cells p3,D.R.cells p4]),(2017,.TI 3 []),(2020,.hole 3 [] [.p (.v (.string na)),sl0 10 [D.x.cells la],own 3000 (ea.map (tcells .t)).length] [schR nb lb eb]),(3000,.TI 5 (ea.map (tcells .t)))]):
  WT Tryz.prog 357 [.agg (cfgA z p1 p2 p3 p4 na nb la lb ea eb)] [] (.agg [own 2011 1,own 2014 4,own 2017 0,own 2020 2]) h':=by
 have cZ:∀l:Y D.r,l.length<=1000000->QbZ Tryz.prog 267 .r l:=fun l hl=>Vv (t:=.r) (F:=Wa fu) (Qbv fu) (clone0 (α:=D.r) (AY hl (by decide)))
 have cY:∀l:Y D.FF,l.length<=1000000->QbZ Tryz.prog 268 .FF l:=fun l hl=>Vv (t:=.FF) (F:=XB fu) (Uy fu) (clone0 (α:=D.FF) (AY hl (by decide)))
 have cP:∀l:Y D.R,l.length<=1000000->QbZ Tryz.prog 269 .R l:=fun l hl=>Vv (t:=.R) (F:=Y8 fu) (Qaq fu) (clone0 (α:=D.R) (AY hl (by decide)))
 have cC:∀l:Y D.n,l.length<=1000000->QbZ Tryz.prog 271 .n l:=fun l hl=>Vv (t:=.n) (F:=Vr fu) (Uw fu) (clone0 (α:=D.n) (AY hl (by decide)))
 have cS:∀l:Y D.e,l.length<=1000000->QbZ Tryz.prog 272 .e l:=fun l hl=>Vv (t:=.e) (F:=Yz fu) (Ux fu) (clone0 (α:=D.e) (AY hl (by decide)))
 have cW:∀l:Y D.FE,l.length<=1000000->QbZ Tryz.prog 270 .FE l:=fun l hl=>Vv (t:=.FE) (F:=Yn fu) (WO fu) (clone0 (α:=D.FE) (AY hl (by decide)))
 have cL:∀l:Y D.x,l.length<=1000000->QbZ Tryz.prog 327 .x l:=fun l hl=>Vv (t:=.x) (F:=Xz fu) (Qbc fu) (clone0 (α:=D.x) (AY hl (by decide)))
 have cE:∀l:Y D.t,l.length<=1000000->QbZ Tryz.prog 275 .t l:=fun l hl=>Vv (t:=.t) (F:=X9 fu) (Qbu fu) (clone0 (α:=D.t) (AY hl (by decide)))
 have cI:∀l:Y Int,l.length<=1000000->QbZ Tryz.prog 198 .int l:=fun l hl=>Vv (t:=.int) (F:=Qy fu) (Q1 fu) (clone0 (α:=Int) (AY hl (by decide)))
 refine Spec.intro Tryz.func357 rfl (by kernel_rfl) ?_
 intro Γ hGn hGk
 replace hGn:Γ.n=_:=hGn
 replace hGk:Γ.names=[]:=hGk
 refine TJ.xa hGn hGk 2 [(1,.TM 1001 0),(2,.TM 1002 0)] [(1001,.box (cfgA z p1 p2 p3 p4 na nb la lb ea eb)),(1002,box0)] ?_
 refine TJ.xd hGn hGk [.a,.a,clI 11 10 2011 .r [z],.a,.a,clI 14 13 2014 .R [p1,p2,p3,p4],.a,.a,clI 17 16 2017 .n [],.a,.a,clI 20 19 2020 .e [⟨na,[la],ea⟩,⟨nb,[lb],eb⟩],.a,.a,.a,.a,.a,.a,.a,.a]
  ⟨QaV (cZ _ Ob) rfl rfl rfl rfl rfl (by kernel_rfl),QaV (cP _ Ob) rfl rfl rfl rfl rfl (by kernel_rfl),QaV (cC _ Ob) rfl rfl rfl rfl rfl (by kernel_rfl),QaV (cS _ Ob) rfl rfl rfl rfl rfl (by kernel_rfl),trivial⟩
  [(1,.TM 1001 0),(2,.TM 1002 0)] [(2011,.TI 3 [D.r.cells z]),(2014,.TI 6 [D.R.cells p1,D.R.cells p2,D.R.cells p3,D.R.cells p4]),(2017,.TI 3 []),(2020,.TI 3 [schR na la ea,schR nb lb eb]),(1001,boxC),(1002,box0)] ?_
 let hZ:Name×AO:=(2011,.TI 3 [D.r.cells z])
 let hP:Name×AO:=(2014,.TI 6 [D.R.cells p1,D.R.cells p2,D.R.cells p3,D.R.cells p4])
 let hC:Name×AO:=(2017,.TI 3 [])
 let hS:Name×AO:=(2020,.TI 3 [schR na la ea,schR nb lb eb])
 let hB:Name×AO:=(1001,boxC)
 let hO:Name×AO:=(1002,box0)
 let a1:Nat×AV:=(1,.TM 1001 0)
 let a2:Nat×AV:=(2,.TM 1002 0)
 let o1:Name×AO:=(2098,.TI 10 [D.x.cells lb])
 let o2:Name×AO:=(3000,.TI 5 (ea.map (tcells .t)))
 let o3:Name×AO:=(3001,.TI 5 (eb.map (tcells .t)))
 let o4:Name×AO:=(2143,.TI 2 (la.Fi.map (tcells .FE)))
 let o5:Name×AO:=(2143,.TI 2 (lb.Fi.map (tcells .FE)))
 let o6:AE->Name×AO:=fun x0=>(3100,.fact (own 3000 (ea.map (tcells .t)).length) x0)
 let o7:AE->Name×AO:=fun x1=>(3101,.fact (own 3001 (eb.map (tcells .t)).length) x1)
 let o8:AE->Name×AO:=fun x0=>(2020,.TI 3 [[.v (.string na),.sl false 10 [D.x.cells la],.v x0],schR nb lb eb])
 let o9:AE->Name×AO:=fun x0=>(2020,.hole 3 [] [.p (.v (.string na)),sl0 10 [D.x.cells la],.p (.v x0)] [schR nb lb eb])
 let o10:Name×AO:=(2020,.hole 3 [] [.p (.v (.string na)),own 2098 1,own 3000 (ea.map (tcells .t)).length] [schR nb lb eb])
 let o11:AE->AE->Name×AO:=fun x0 x1=>(2020,.TI 3 [[.v (.string na),.sl false 10 [D.x.cells la],.v x0],[.v (.string nb),.sl false 10 [D.x.cells lb],.v x1]])
 let o12:AE->AE->Name×AO:=fun x0 x1=>(2020,.hole 3 [[.v (.string na),.sl false 10 [D.x.cells la],.v x0]] [.p (.v (.string nb)),sl0 10 [D.x.cells lb],.p (.v x1)] [])
 let o13:AE->Name×AO:=fun x0=>(2020,.hole 3 [[.v (.string na),.sl false 10 [D.x.cells la],.v x0]] [.p (.v (.string nb)),own 2098 1,own 3001 (eb.map (tcells .t)).length] [])
 let s1:Y (Nat×AV):=[a1,a2,(84,vI 2),(85,vI 0),(7,.aref 2020 2 0 0)]
 let s2:Y (Nat×AV):=[a1,a2,(84,vI 2),(85,vI 1),(7,.aref 2020 2 1 0)]
 let s3:Y (Name×AO):=[(2020,.TI 3 [schR na la ea,schR nb lb eb]),hZ,hP,hC,hB,hO]
 let s4:Y (Nat×AV):=[a1,a2,(84,vI 2),(85,vI 0),(7,.aref 2020 2 0 0),(112,vI 1),(113,vI 0)]
 let s5:Y (Nat×AV):=[a1,a2,(84,vI 2),(85,vI 1),(7,.aref 2020 2 1 0),(112,vI 1),(113,vI 0)]
 let s6:Y (Name×AO):=[(2098,.TI 10 [D.x.cells la]),o10,hZ,hP,hC,hB,hO,o2]
 refine TJ.seq (TJ.seq ?_)
 refine TJ.xa' hGn hGk 4 [a1,a2,(27,vI 1),(28,vI 0)] [hZ,hP,hC,hS,hB,hO] ?_
 refine Qh (TJ.block ?_)
 refine TJ.loop (fun m s=>∃i:Nat,i+m=1/\s=mk [a1,a2,(27,vI 1),(28,vI (i:Int))] [hZ,hP,hC,hS,hB,hO]) ⟨1,0,rfl,rfl⟩ ?_
 rintro m s ⟨i,hi,rfl⟩
 have hc:i=0\/i=1:=U
 rcases hc with rfl|rfl
 .skip
  refine TJ.xa hGn hGk 1 [a1,a2,(27,vI 1),(28,vI 0),(29,vB true)] [hZ,hP,hC,hS,hB,hO] ?_
  refine TJ.seq (TJ.cond_true rfl (TJ.skip (Qh ?_)))
  refine TJ.seq (TJ.block ?_)
  refine TJ.xa hGn hGk 2 [a1,a2,(27,vI 1),(28,vI 0),(3,vI 0)] [hZ,hP,hC,hS,hB,hO] ?_
  refine TJ.foc [] [] (D.r.cells z) rfl ?_
  refine TJ.xd' hGn hGk (sk 9 (clI 40 39 2040 .FF z.Fp::aa 3)) (.sk (.m (QaV (cY _ h.rules) rfl rfl rfl rfl rfl (by kernel_rfl)) (Man.aa _ _)))
   [a1,a2,(27,vI 1),(28,vI 0)] [(2040,.TI 7 (z.Fp.map (tcells .FF))),(2011,.hole 3 [] [.p (.v (.string z.Name)),.p (.v (.int .i64 z.Fa)),own 2040 (z.Fp.map (tcells .FF)).length] []),hP,hC,hS,hB,hO] ?_
  refine YP (Qh ?_)
  refine TJ.frz hGk rfl (.hole (.cons (.same rfl) (.cons (.same rfl) (.cons .own .nil)))) ?_
  refine TJ.unf (D.r.cells z) rfl ?_
  refine TJ.xa' hGn hGk 2 [a1,a2,(27,vI 1),(28,vI 1)] [hZ,hP,hC,hS,hB,hO] ?_
  exact Qh ⟨0,U,1,rfl,rfl⟩
 refine TJ.xa hGn hGk 1 [a1,a2,(29,vB false)] [hZ,hP,hC,hS,hB,hO] ?_
 refine TJ.seq (TJ.cond_false rfl (TJ.exit ?_))
 refine Xn (Xn (Qat (Qh ?_)))
 refine TJ.seq (TJ.seq ?_)
 refine TJ.xa' hGn hGk 4 [a1,a2,(46,vI 4),(47,vI 0)] [hP,hZ,hC,hS,hB,hO] ?_
 refine Qh (TJ.block ?_)
 refine TJ.loop (fun m s=>∃i:Nat,i+m=4/\s=mk [a1,a2,(46,vI 4),(47,vI (i:Int))] [hP,hZ,hC,hS,hB,hO]) ⟨4,0,rfl,rfl⟩ ?_
 rintro m s ⟨i,hi,rfl⟩
 have hc:i=0\/i=1\/i=2\/i=3\/i=4:=U
 rcases hc with rfl|rfl|rfl|rfl|rfl
 .skip
  refine TJ.xa hGn hGk 1 [a1,a2,(46,vI 4),(47,vI 0),(48,vB true)] [hP,hZ,hC,hS,hB,hO] ?_
  refine TJ.seq (TJ.cond_true rfl (TJ.skip (Qh ?_)))
  refine TJ.seq (TJ.block ?_)
  refine TJ.xa hGn hGk 2 [a1,a2,(46,vI 4),(47,vI 0),(4,vI 0)] [hP,hZ,hC,hS,hB,hO] ?_
  refine TJ.foc [] [D.R.cells p2,D.R.cells p3,D.R.cells p4] (D.R.cells p1) rfl ?_
  refine TJ.xd' hGn hGk (sk 9 (clI 59 58 2059 .FE p1.Ff::aa 3)) (.sk (.m (QaV (cW _ (h.quiet _ Ob)) rfl rfl rfl rfl rfl (by kernel_rfl)) (Man.aa _ _)))
   [a1,a2,(46,vI 4),(47,vI 0)] [(2059,.TI 2 (p1.Ff.map (tcells .FE))),(2014,.hole 6 [] [.p (.v (.string p1.Name)),.p (.v (.int .i64 p1.r)),own 2059 (p1.Ff.map (tcells .FE)).length,.p (.v (.int .i64 p1.Fv)),.p (.v (.int .i64 p1.Fw)),.p (.v (.bool p1.Ft))] [D.R.cells p2,D.R.cells p3,D.R.cells p4]),hZ,hC,hS,hB,hO] ?_
  refine YP (Qh ?_)
  refine TJ.frz hGk rfl (.hole (.cons (.same rfl) (.cons (.same rfl) (.cons .own (.cons (.same rfl) (.cons (.same rfl) (.cons (.same rfl) .nil))))))) ?_
  refine TJ.unf (D.R.cells p1) rfl ?_
  refine TJ.xa' hGn hGk 2 [a1,a2,(46,vI 4),(47,vI 1)] [hP,hZ,hC,hS,hB,hO] ?_
  exact Qh ⟨3,U,1,rfl,rfl⟩
 .skip
  refine TJ.xa hGn hGk 1 [a1,a2,(46,vI 4),(47,vI 1),(48,vB true)] [hP,hZ,hC,hS,hB,hO] ?_
  refine TJ.seq (TJ.cond_true rfl (TJ.skip (Qh ?_)))
  refine TJ.seq (TJ.block ?_)
  refine TJ.xa hGn hGk 2 [a1,a2,(46,vI 4),(47,vI 1),(4,vI 1)] [hP,hZ,hC,hS,hB,hO] ?_
  refine TJ.foc [D.R.cells p1] [D.R.cells p3,D.R.cells p4] (D.R.cells p2) rfl ?_
  refine TJ.xd' hGn hGk (sk 9 (clI 59 58 2059 .FE p2.Ff::aa 3)) (.sk (.m (QaV (cW _ (h.quiet _ Ob)) rfl rfl rfl rfl rfl (by kernel_rfl)) (Man.aa _ _)))
   [a1,a2,(46,vI 4),(47,vI 1)] [(2059,.TI 2 (p2.Ff.map (tcells .FE))),(2014,.hole 6 [D.R.cells p1] [.p (.v (.string p2.Name)),.p (.v (.int .i64 p2.r)),own 2059 (p2.Ff.map (tcells .FE)).length,.p (.v (.int .i64 p2.Fv)),.p (.v (.int .i64 p2.Fw)),.p (.v (.bool p2.Ft))] [D.R.cells p3,D.R.cells p4]),hZ,hC,hS,hB,hO] ?_
  refine YP (Qh ?_)
  refine TJ.frz hGk rfl (.hole (.cons (.same rfl) (.cons (.same rfl) (.cons .own (.cons (.same rfl) (.cons (.same rfl) (.cons (.same rfl) .nil))))))) ?_
  refine TJ.unf (D.R.cells p2) rfl ?_
  refine TJ.xa' hGn hGk 2 [a1,a2,(46,vI 4),(47,vI 2)] [hP,hZ,hC,hS,hB,hO] ?_
  exact Qh ⟨2,U,2,rfl,rfl⟩
 .skip
  refine TJ.xa hGn hGk 1 [a1,a2,(46,vI 4),(47,vI 2),(48,vB true)] [hP,hZ,hC,hS,hB,hO] ?_
  refine TJ.seq (TJ.cond_true rfl (TJ.skip (Qh ?_)))
  refine TJ.seq (TJ.block ?_)
  refine TJ.xa hGn hGk 2 [a1,a2,(46,vI 4),(47,vI 2),(4,vI 2)] [hP,hZ,hC,hS,hB,hO] ?_
  refine TJ.foc [D.R.cells p1,D.R.cells p2] [D.R.cells p4] (D.R.cells p3) rfl ?_
  refine TJ.xd' hGn hGk (sk 9 (clI 59 58 2059 .FE p3.Ff::aa 3)) (.sk (.m (QaV (cW _ (h.quiet _ Ob)) rfl rfl rfl rfl rfl (by kernel_rfl)) (Man.aa _ _)))
   [a1,a2,(46,vI 4),(47,vI 2)] [(2059,.TI 2 (p3.Ff.map (tcells .FE))),(2014,.hole 6 [D.R.cells p1,D.R.cells p2] [.p (.v (.string p3.Name)),.p (.v (.int .i64 p3.r)),own 2059 (p3.Ff.map (tcells .FE)).length,.p (.v (.int .i64 p3.Fv)),.p (.v (.int .i64 p3.Fw)),.p (.v (.bool p3.Ft))] [D.R.cells p4]),hZ,hC,hS,hB,hO] ?_
  refine YP (Qh ?_)
  refine TJ.frz hGk rfl (.hole (.cons (.same rfl) (.cons (.same rfl) (.cons .own (.cons (.same rfl) (.cons (.same rfl) (.cons (.same rfl) .nil))))))) ?_
  refine TJ.unf (D.R.cells p3) rfl ?_
  refine TJ.xa' hGn hGk 2 [a1,a2,(46,vI 4),(47,vI 3)] [hP,hZ,hC,hS,hB,hO] ?_
  exact Qh ⟨1,U,3,rfl,rfl⟩
 .skip
  refine TJ.xa hGn hGk 1 [a1,a2,(46,vI 4),(47,vI 3),(48,vB true)] [hP,hZ,hC,hS,hB,hO] ?_
  refine TJ.seq (TJ.cond_true rfl (TJ.skip (Qh ?_)))
  refine TJ.seq (TJ.block ?_)
  refine TJ.xa hGn hGk 2 [a1,a2,(46,vI 4),(47,vI 3),(4,vI 3)] [hP,hZ,hC,hS,hB,hO] ?_
  refine TJ.foc [D.R.cells p1,D.R.cells p2,D.R.cells p3] [] (D.R.cells p4) rfl ?_
  refine TJ.xd' hGn hGk (sk 9 (clI 59 58 2059 .FE p4.Ff::aa 3)) (.sk (.m (QaV (cW _ (h.quiet _ Ob)) rfl rfl rfl rfl rfl (by kernel_rfl)) (Man.aa _ _)))
   [a1,a2,(46,vI 4),(47,vI 3)] [(2059,.TI 2 (p4.Ff.map (tcells .FE))),(2014,.hole 6 [D.R.cells p1,D.R.cells p2,D.R.cells p3] [.p (.v (.string p4.Name)),.p (.v (.int .i64 p4.r)),own 2059 (p4.Ff.map (tcells .FE)).length,.p (.v (.int .i64 p4.Fv)),.p (.v (.int .i64 p4.Fw)),.p (.v (.bool p4.Ft))] []),hZ,hC,hS,hB,hO] ?_
  refine YP (Qh ?_)
  refine TJ.frz hGk rfl (.hole (.cons (.same rfl) (.cons (.same rfl) (.cons .own (.cons (.same rfl) (.cons (.same rfl) (.cons (.same rfl) .nil))))))) ?_
  refine TJ.unf (D.R.cells p4) rfl ?_
  refine TJ.xa' hGn hGk 2 [a1,a2,(46,vI 4),(47,vI 4)] [hP,hZ,hC,hS,hB,hO] ?_
  exact Qh ⟨0,U,4,rfl,rfl⟩
 refine TJ.xa hGn hGk 1 [a1,a2,(48,vB false)] [hP,hZ,hC,hS,hB,hO] ?_
 refine TJ.seq (TJ.cond_false rfl (TJ.exit ?_))
 refine Xn (Xn (Qat (Qh ?_)))
 refine TJ.seq (TJ.seq ?_)
 refine TJ.xa' hGn hGk 4 [a1,a2,(65,vI 0),(66,vI 0)] [hZ,hP,hC,hS,hB,hO] ?_
 refine Qh (TJ.block ?_)
 refine TJ.loop (fun m s=>∃i:Nat,i+m=0/\s=mk [a1,a2,(65,vI 0),(66,vI (i:Int))] [hZ,hP,hC,hS,hB,hO]) ⟨0,0,rfl,rfl⟩ ?_
 rintro m s ⟨i,hi,rfl⟩
 obtain rfl:i=0:=U
 refine TJ.xa hGn hGk 1 [a1,a2,(67,vB false)] [hZ,hP,hC,hS,hB,hO] ?_
 refine TJ.seq (TJ.cond_false rfl (TJ.exit ?_))
 refine Xn (Xn (Qat (Qh ?_)))
 refine TJ.seq (TJ.seq ?_)
 refine TJ.xa' hGn hGk 4 [a1,a2,(84,vI 2),(85,vI 0)] s3 ?_
 refine Qh (TJ.block ?_)
 refine TJ.loop (fun m s=>(m=2/\s=mk [a1,a2,(84,vI 2),(85,vI 0)] s3)\/(∃x0:AE,m=1/\s=mk [a1,a2,(84,vI 2),(85,vI 1)] [(o8 x0),hZ,hP,hC,hB,hO,(o6 x0),o2])\/(∃x0 x1:AE,m=0/\s=mk [a1,a2,(84,vI 2),(85,vI 2)] [(o11 x0 x1),hZ,hP,hC,hB,hO,(o6 x0),o2,(o7 x1),o3])) ⟨2,.inl ⟨rfl,rfl⟩⟩ ?_
 rintro m s (⟨rfl,rfl⟩|⟨x0,rfl,rfl⟩|⟨x0,x1,rfl,rfl⟩)
 .skip
  refine TJ.xa hGn hGk 1 [a1,a2,(84,vI 2),(85,vI 0),(86,vB true)] s3 ?_
  refine TJ.seq (TJ.cond_true rfl (TJ.skip (Qh ?_)))
  refine TJ.seq (TJ.block ?_)
  refine TJ.xa hGn hGk 2 [a1,a2,(84,vI 2),(85,vI 0),(6,vI 0)] s3 ?_
  refine TJ.foc [] [schR nb lb eb] (schR na la ea) rfl ?_
  refine TJ.xa hGn hGk 5 s1 [(2020,.hole 3 [] [.p (.v (.string na)),sl0 10 [D.x.cells la],sl0 5 (ea.map D.t.cells)] [schR nb lb eb]),hZ,hP,hC,hB,hO] ?_
  refine TJ.xd hGn hGk (sk 6 (clI 98 97 2098 .x [la]::sk 4 (clI 103 102 3000 .t ea::aa 6))) (.sk (.m (QaV (cL _ Ob) rfl rfl rfl rfl rfl (by kernel_rfl)) (.sk (.m (QaV (cE _ h.ea) rfl rfl rfl rfl rfl (by kernel_rfl)) (Man.aa _ _)))))
   s1 s6 ?_
  refine TJ.xa hGn hGk 6 s4 s6 ?_
  refine TJ.block ?_
  refine TJ.loop (fun m s=>∃j:Nat,j+m=1/\s=mk [a1,a2,(84,vI 2),(85,vI 0),(7,.aref 2020 2 0 0),(112,vI 1),(113,vI (j:Int))] s6) ⟨1,0,rfl,rfl⟩ ?_
  rintro m s ⟨j,hj,rfl⟩
  have hc:j=0\/j=1:=U
  rcases hc with rfl|rfl
  .skip
   refine TJ.xa hGn hGk 1 [a1,a2,(84,vI 2),(85,vI 0),(7,.aref 2020 2 0 0),(112,vI 1),(113,vI 0),(114,vB true)] s6 ?_
   refine TJ.seq (TJ.cond_true rfl (TJ.skip (Qh ?_)))
   refine TJ.seq (TJ.block ?_)
   refine TJ.xa hGn hGk 2 [a1,a2,(84,vI 2),(85,vI 0),(7,.aref 2020 2 0 0),(112,vI 1),(113,vI 0),(8,vI 0)] s6 ?_
   refine TJ.foc [] [] (D.x.cells la) rfl ?_
   refine TJ.xd' hGn hGk (sk 18 (clI 134 133 2134 .int la.s::sk 8 (clI 143 142 2143 .FE la.Fi::aa 6))) (.sk (.m (QaV (cI _ h.lam) rfl rfl rfl rfl rfl (by kernel_rfl)) (.sk (.m (QaV (cW _ h.law) rfl rfl rfl rfl rfl (by kernel_rfl)) (Man.aa _ _)))))
    s4 [(2134,.TI 1 (la.s.map (tcells .int))),(2098,.hole 10 [] [.p (.v (.string la.Name)),.p (.v (.int .i64 la.r)),.p (.v (.int .i64 la.T.Fj)),.p (.v (.int .i64 la.T.Fb)),.p (.v (.int .i64 la.Unit)),.p (.v (.int .i64 la.FH)),own 2134 (la.s.map (tcells .int)).length,own 2143 (la.Fi.map (tcells .FE)).length,.p (.v (.int .i64 la.n)),.p (.v (.int .i64 la.Fx))] []),o4,o10,hZ,hP,hC,hB,hO,o2] ?_
   refine YP (Qh ?_)
   refine TJ.frz hGk rfl (.hole (.cons (.same rfl) (.cons (.same rfl) (.cons (.same rfl) (.cons (.same rfl) (.cons (.same rfl) (.cons (.same rfl) (.cons .own (.cons (.same rfl) (.cons (.same rfl) (.cons (.same rfl) (.nil)))))))))))) ?_
   refine TJ.weaken (mk s4 [o4,(2098,.hole 10 [] [.p (.v (.string la.Name)),.p (.v (.int .i64 la.r)),.p (.v (.int .i64 la.T.Fj)),.p (.v (.int .i64 la.T.Fb)),.p (.v (.int .i64 la.Unit)),.p (.v (.int .i64 la.FH)),sl0 1 (la.s.map (tcells .int)),own 2143 (la.Fi.map (tcells .FE)).length,.p (.v (.int .i64 la.n)),.p (.v (.int .i64 la.Fx))] []),o10,hZ,hP,hC,hB,hO,o2]) (Weak.sub' hGk (by kernel_rfl)) ?_
   refine TJ.frz hGk rfl (.hole (.cons (.same rfl) (.cons (.same rfl) (.cons (.same rfl) (.cons (.same rfl) (.cons (.same rfl) (.cons (.same rfl) (.cons (.same rfl) (.cons .own (.cons (.same rfl) (.cons (.same rfl) (.nil)))))))))))) ?_
   refine TJ.unf (D.x.cells la) rfl ?_
   refine TJ.xa' hGn hGk 2 [a1,a2,(84,vI 2),(85,vI 0),(7,.aref 2020 2 0 0),(112,vI 1),(113,vI 1)] s6 ?_
   exact Qh ⟨0,U,1,rfl,rfl⟩
  refine TJ.xa hGn hGk 1 [a1,a2,(84,vI 2),(85,vI 0),(114,vB false)] s6 ?_
  refine TJ.seq (TJ.cond_false rfl (TJ.exit ?_))
  refine Xn (Xn (Qat (YP (Qh ?_))))
  refine TJ.frz hGk rfl (.hole (.cons (.same rfl) (.cons .own (.cons (.same rfl) .nil)))) ?_
  refine TJ.nameH (n:=3000) (n0:=3100) 2020 2 (by rw[hGk];exact BI) rfl rfl (by decide) rfl rfl (fun x0=>?_)
  refine TJ.pinH rfl rfl rfl (.cons (.same _) (.cons (.same _) (.cons .pin .nil))) ?_
  refine TJ.weaken (mk [a1,a2,(84,vI 2),(85,vI 0)] [(o9 x0),hZ,hP,hC,hB,hO,o2,(o6 x0)]) (Weak.sub' hGk (by kernel_rfl)) ?_
  refine TJ.unf [.v (.string na),.sl false 10 [D.x.cells la],.v x0] rfl ?_
  refine TJ.xa' hGn hGk 2 [a1,a2,(84,vI 2),(85,vI 1)] [(o8 x0),hZ,hP,hC,hB,hO,(o6 x0),o2] ?_
  exact Qh ⟨1,U,.inr (.inl ⟨x0,rfl,rfl⟩)⟩
 .skip
  refine TJ.xa hGn hGk 1 [a1,a2,(84,vI 2),(85,vI 1),(86,vB true)] [(o8 x0),hZ,hP,hC,hB,hO,(o6 x0),o2] ?_
  refine TJ.seq (TJ.cond_true rfl (TJ.skip (Qh ?_)))
  refine TJ.seq (TJ.block ?_)
  refine TJ.xa hGn hGk 2 [a1,a2,(84,vI 2),(85,vI 1),(6,vI 1)] [(o8 x0),hZ,hP,hC,hB,hO,(o6 x0),o2] ?_
  refine TJ.foc [[.v (.string na),.sl false 10 [D.x.cells la],.v x0]] [] (schR nb lb eb) rfl ?_
  refine TJ.xa hGn hGk 5 s2 [(2020,.hole 3 [[.v (.string na),.sl false 10 [D.x.cells la],.v x0]] [.p (.v (.string nb)),sl0 10 [D.x.cells lb],sl0 5 (eb.map D.t.cells)] []),hZ,hP,hC,hB,hO,(o6 x0),o2] ?_
  refine TJ.xd hGn hGk (sk 6 (clI 98 97 2098 .x [lb]::sk 4 (clI 103 102 3001 .t eb::aa 6))) (.sk (.m (QaV (cL _ Ob) rfl rfl rfl rfl rfl (by kernel_rfl)) (.sk (.m (QaV (cE _ h.eb) rfl rfl rfl rfl rfl (by kernel_rfl)) (Man.aa _ _)))))
   s2 [o1,(o13 x0),hZ,hP,hC,hB,hO,(o6 x0),o2,o3] ?_
  refine TJ.xa hGn hGk 6 s5 [o1,(o13 x0),hZ,hP,hC,hB,hO,(o6 x0),o2,o3] ?_
  refine TJ.block ?_
  refine TJ.loop (fun m s=>∃j:Nat,j+m=1/\s=mk [a1,a2,(84,vI 2),(85,vI 1),(7,.aref 2020 2 1 0),(112,vI 1),(113,vI (j:Int))] [o1,(o13 x0),hZ,hP,hC,hB,hO,(o6 x0),o2,o3]) ⟨1,0,rfl,rfl⟩ ?_
  rintro m s ⟨j,hj,rfl⟩
  have hc:j=0\/j=1:=U
  rcases hc with rfl|rfl
  .skip
   refine TJ.xa hGn hGk 1 [a1,a2,(84,vI 2),(85,vI 1),(7,.aref 2020 2 1 0),(112,vI 1),(113,vI 0),(114,vB true)] [o1,(o13 x0),hZ,hP,hC,hB,hO,(o6 x0),o2,o3] ?_
   refine TJ.seq (TJ.cond_true rfl (TJ.skip (Qh ?_)))
   refine TJ.seq (TJ.block ?_)
   refine TJ.xa hGn hGk 2 [a1,a2,(84,vI 2),(85,vI 1),(7,.aref 2020 2 1 0),(112,vI 1),(113,vI 0),(8,vI 0)] [o1,(o13 x0),hZ,hP,hC,hB,hO,(o6 x0),o2,o3] ?_
   refine TJ.foc [] [] (D.x.cells lb) rfl ?_
   refine TJ.xd' hGn hGk (sk 18 (clI 134 133 2134 .int lb.s::sk 8 (clI 143 142 2143 .FE lb.Fi::aa 6))) (.sk (.m (QaV (cI _ h.lbm) rfl rfl rfl rfl rfl (by kernel_rfl)) (.sk (.m (QaV (cW _ h.lbw) rfl rfl rfl rfl rfl (by kernel_rfl)) (Man.aa _ _)))))
    s5 [(2134,.TI 1 (lb.s.map (tcells .int))),(2098,.hole 10 [] [.p (.v (.string lb.Name)),.p (.v (.int .i64 lb.r)),.p (.v (.int .i64 lb.T.Fj)),.p (.v (.int .i64 lb.T.Fb)),.p (.v (.int .i64 lb.Unit)),.p (.v (.int .i64 lb.FH)),own 2134 (lb.s.map (tcells .int)).length,own 2143 (lb.Fi.map (tcells .FE)).length,.p (.v (.int .i64 lb.n)),.p (.v (.int .i64 lb.Fx))] []),o5,(o13 x0),hZ,hP,hC,hB,hO,(o6 x0),o2,o3] ?_
   refine YP (Qh ?_)
   refine TJ.frz hGk rfl (.hole (.cons (.same rfl) (.cons (.same rfl) (.cons (.same rfl) (.cons (.same rfl) (.cons (.same rfl) (.cons (.same rfl) (.cons .own (.cons (.same rfl) (.cons (.same rfl) (.cons (.same rfl) (.nil)))))))))))) ?_
   refine TJ.weaken (mk s5 [o5,(2098,.hole 10 [] [.p (.v (.string lb.Name)),.p (.v (.int .i64 lb.r)),.p (.v (.int .i64 lb.T.Fj)),.p (.v (.int .i64 lb.T.Fb)),.p (.v (.int .i64 lb.Unit)),.p (.v (.int .i64 lb.FH)),sl0 1 (lb.s.map (tcells .int)),own 2143 (lb.Fi.map (tcells .FE)).length,.p (.v (.int .i64 lb.n)),.p (.v (.int .i64 lb.Fx))] []),(o13 x0),hZ,hP,hC,hB,hO,(o6 x0),o2,o3]) (Weak.sub' hGk (by kernel_rfl)) ?_
   refine TJ.frz hGk rfl (.hole (.cons (.same rfl) (.cons (.same rfl) (.cons (.same rfl) (.cons (.same rfl) (.cons (.same rfl) (.cons (.same rfl) (.cons (.same rfl) (.cons .own (.cons (.same rfl) (.cons (.same rfl) (.nil)))))))))))) ?_
   refine TJ.unf (D.x.cells lb) rfl ?_
   refine TJ.xa' hGn hGk 2 [a1,a2,(84,vI 2),(85,vI 1),(7,.aref 2020 2 1 0),(112,vI 1),(113,vI 1)] [o1,(o13 x0),hZ,hP,hC,hB,hO,(o6 x0),o2,o3] ?_
   exact Qh ⟨0,U,1,rfl,rfl⟩
  refine TJ.xa hGn hGk 1 [a1,a2,(84,vI 2),(85,vI 1),(114,vB false)] [o1,(o13 x0),hZ,hP,hC,hB,hO,(o6 x0),o2,o3] ?_
  refine TJ.seq (TJ.cond_false rfl (TJ.exit ?_))
  refine Xn (Xn (Qat (YP (Qh ?_))))
  refine TJ.frz hGk rfl (.hole (.cons (.same rfl) (.cons .own (.cons (.same rfl) .nil)))) ?_
  refine TJ.nameH (n:=3001) (n0:=3101) 2020 2 (by rw[hGk];exact BI) rfl rfl (by decide) rfl rfl (fun x1=>?_)
  refine TJ.pinH rfl rfl rfl (.cons (.same _) (.cons (.same _) (.cons .pin .nil))) ?_
  refine TJ.weaken (mk [a1,a2,(84,vI 2),(85,vI 1)] [(o12 x0 x1),hZ,hP,hC,hB,hO,(o6 x0),o2,o3,(o7 x1)]) (Weak.sub' hGk (by kernel_rfl)) ?_
  refine TJ.unf [.v (.string nb),.sl false 10 [D.x.cells lb],.v x1] rfl ?_
  refine TJ.xa' hGn hGk 2 [a1,a2,(84,vI 2),(85,vI 2)] [(o11 x0 x1),hZ,hP,hC,hB,hO,(o6 x0),o2,(o7 x1),o3] ?_
  exact Qh ⟨0,U,.inr (.inr ⟨x0,x1,rfl,rfl⟩)⟩
 refine TJ.xa hGn hGk 1 [a1,a2,(86,vB false)] [(o11 x0 x1),hZ,hP,hC,hB,hO,(o6 x0),o2,(o7 x1),o3] ?_
 refine TJ.seq (TJ.cond_false rfl (TJ.exit ?_))
 refine Xn (Xn (Qat (Qh ?_)))
 subst hh
 cases r
 .skip
  refine TJ.weaken (mk [a1,a2] [(o11 x0 x1),hZ,hP,hC,hB,hO,(o6 x0),o2,(o7 x1),o3]) (Weak.sub' hGk (by kernel_rfl)) ?_
  refine TJ.foc [[.v (.string na),.sl false 10 [D.x.cells la],.v x0]] [] ([.v (.string nb),.sl false 10 [D.x.cells lb],.v x1]) rfl ?_
  refine TJ.weaken (mk [a1,a2] [o3,(o7 x1),(o12 x0 x1),hZ,hP,hC,hB,hO,(o6 x0),o2]) (Weak.sub' hGk (by kernel_rfl)) ?_
  refine TJ.frzP hGk rfl (.hole (.cons (.same rfl) (.cons (.same rfl) (.cons (.pin rfl) .nil)))) ?_
  refine TJ.unf (schR nb lb eb) rfl ?_
  refine TJ.foc [] [schR nb lb eb] ([.v (.string na),.sl false 10 [D.x.cells la],.v x0]) rfl ?_
  refine TJ.weaken (mk [a1,a2] [(o6 x0),(o9 x0),hZ,hP,hC,hB,hO,o2]) (Weak.sub' hGk (by kernel_rfl)) ?_
  refine TJ.pinH rfl rfl rfl (.cons (.same _) (.cons (.same _) (.cons .unpin .nil))) ?_
  refine TJ.xa hGn hGk 2 [a2] [(1002,boxC),hZ,hP,hC,(2020,.hole 3 [] [.p (.v (.string na)),sl0 10 [D.x.cells la],own 3000 (ea.map (tcells .t)).length] [schR nb lb eb]),o2] ?_
  refine TJ.ret (Qkc (.inr rfl) (Res.agg rfl rfl rfl (by kernel_rfl) (by kernel_rfl)) rfl rfl ⟨rfl,rfl⟩)
 .skip
  refine TJ.weaken (mk [a1,a2] [(o11 x0 x1),hZ,hP,hC,hB,hO,(o6 x0),o2,(o7 x1),o3]) (Weak.sub' hGk (by kernel_rfl)) ?_
  refine TJ.foc [] [[.v (.string nb),.sl false 10 [D.x.cells lb],.v x1]] ([.v (.string na),.sl false 10 [D.x.cells la],.v x0]) rfl ?_
  refine TJ.weaken (mk [a1,a2] [o2,(o6 x0),(2020,.hole 3 [] [.p (.v (.string na)),sl0 10 [D.x.cells la],.p (.v x0)] [[.v (.string nb),.sl false 10 [D.x.cells lb],.v x1]]),hZ,hP,hC,hB,hO,(o7 x1),o3]) (Weak.sub' hGk (by kernel_rfl)) ?_
  refine TJ.frzP hGk rfl (.hole (.cons (.same rfl) (.cons (.same rfl) (.cons (.pin rfl) .nil)))) ?_
  refine TJ.unf (schR na la ea) rfl ?_
  refine TJ.foc [schR na la ea] [] ([.v (.string nb),.sl false 10 [D.x.cells lb],.v x1]) rfl ?_
  refine TJ.weaken (mk [a1,a2] [(o7 x1),(2020,.hole 3 [schR na la ea] [.p (.v (.string nb)),sl0 10 [D.x.cells lb],.p (.v x1)] []),hZ,hP,hC,hB,hO,o3]) (Weak.sub' hGk (by kernel_rfl)) ?_
  refine TJ.pinH rfl rfl rfl (.cons (.same _) (.cons (.same _) (.cons .unpin .nil))) ?_
  refine TJ.xa hGn hGk 2 [a2] [(1002,boxC),hZ,hP,hC,(2020,.hole 3 [schR na la ea] [.p (.v (.string nb)),sl0 10 [D.x.cells lb],own 3001 (eb.map (tcells .t)).length] []),o3] ?_
  refine TJ.ret (Qkc (.inr rfl) (Res.agg rfl rfl rfl (by kernel_rfl) (by kernel_rfl)) rfl rfl ⟨rfl,rfl⟩)
end
noncomputable section
def cfg0:D.F:={ FG:=[],l:=[],o:=[],f:=[] }
def addE(c:D.F)(a b:D.e)(s:Int)(x:D.t):D.F:=
 if s=0 then{ c with f:=[{ a with FS:=a.FS++[x] },b] }else{ c with f:=[a,{ b with FS:=b.FS++[x] }] }
open Classical in
def Uo(fu:Nat)(p0:D.F)(p1:Int)(p2:D.t):I (D.F×Int):=
 match p0.FG,p0.l,p0.o,p0.f with
 |[z],[q1,q2,q3,q4],[],[a,b]=>match a.Fk,b.Fk with
  |[la],[lb]=>if QnC fu z [q1,q2,q3,q4] la lb a.FS b.FS then
    O (Q6 fu p0) fun e=>C (decide (e≠0)) none (C (decide (0<=p1/\p1<2))
     (O (Q6 fu (addE p0 a b p1 p2)) fun e=>C (decide (e≠0)) none (some (addE p0 a b p1 p2,0))) (some (cfg0,3)))else none
  |_,_=>none
 |_,_,_,_=>none
def QqD(fu:Nat):Sig:=Qn [.st .F,.one (.TZ .i64),.st .t] [] [.st .F,.one (.TZ .i64)] [] [] (D.F×Int) (fun q=>((q.1,q.2,()),())) (fun x y=>Uo fu x.1 x.2.1 x.2.2.1)
section
abbrev cfgD(z:D.r)(p1 p2 p3 p4:D.R)(na nb:AJ)(la lb:D.x)(ea eb:Y D.t):D.F:=⟨[z],[p1,p2,p3,p4],[],[⟨na,[la],ea⟩,⟨nb,[lb],eb⟩]⟩
def QkR(he:Q6 fu (cfgD z p1 p2 p3 p4 na nb la lb ea eb)=some e):WT Tryz.prog 172 [.agg (cfgA z p1 p2 p3 p4 na nb la lb ea eb)] [] (vI e) []:=by
 obtain⟨L1,_,_,hs⟩:=(Qbk fu).spec (cfgD z p1 p2 p3 p4 na nb la lb ea eb,()) () (e,()) () (by show O (Q6 fu _) _=_;rw[he];rfl) (fun _ _=>0) (fun n t l v hn=>by change AM.X n []=_ at hn;simp[AM.X]at hn)
 exact hs
def QtD(he:Ue fu (cfgD z p1 p2 p3 p4 na nb la lb ea eb) s=some q):WT Tryz.prog 356 [.agg (cfgA z p1 p2 p3 p4 na nb la lb ea eb),vI s] [] (vB q) []:=by
 obtain⟨L1,_,_,hs⟩:=(Qhr fu).spec (cfgD z p1 p2 p3 p4 na nb la lb ea eb,s,()) () (q,()) () (by show O (Ue fu _ s) _=_;rw[he];rfl) (fun _ _=>0) (fun n t l v hn=>by change AM.X n []=_ at hn;simp[AM.X]at hn)
 exact hs
abbrev ownA:AV:=.agg [own 2011 1,own 2014 4,own 2017 0,own 2020 2]
abbrev QoF(z:D.r)(p1 p2 p3 p4:D.R)(na nb:AJ)(la lb:D.x)(ea eb:Y D.t)(r:AH):Y (Name×AO):=
 bif r then[(2011,.TI 3 [D.r.cells z]),(2014,.TI 6 [D.R.cells p1,D.R.cells p2,D.R.cells p3,D.R.cells p4]),(2017,.TI 3 []),(2020,.hole 3 [schR na la ea] [.p (.v (.string nb)),sl0 10 [D.x.cells lb],own 3001 (eb.map (tcells .t)).length] []),(3001,.TI 5 (eb.map (tcells .t)))]
   else[(2011,.TI 3 [D.r.cells z]),(2014,.TI 6 [D.R.cells p1,D.R.cells p2,D.R.cells p3,D.R.cells p4]),(2017,.TI 3 []),(2020,.hole 3 [] [.p (.v (.string na)),sl0 10 [D.x.cells la],own 3000 (ea.map (tcells .t)).length] [schR nb lb eb]),(3000,.TI 5 (ea.map (tcells .t)))]
abbrev newN(r:AH):Y Name:=bif r then[2011,2014,2017,2020,3001]else[2011,2014,2017,2020,3000]
def Qkb(h:QnC fu z [p1,p2,p3,p4] la lb ea eb)(hc:Q6 fu (cfgD z p1 p2 p3 p4 na nb la lb ea eb)=some 0)(r):
  WT Tryz.prog 337 [.agg (cfgA z p1 p2 p3 p4 na nb la lb ea eb),vI (bif r then 1 else 0)] [] (.tup [ownA,vI 0]) (QoF z p1 p2 p3 p4 na nb la lb ea eb r):=by
 have hK:=QqE (na:=na) (nb:=nb) h r _ rfl
 have hI:Ue fu (cfgD z p1 p2 p3 p4 na nb la lb ea eb) (bif r then 1 else 0)=some true:=by cases r<;>rfl
 refine Spec.intro Tryz.func337 rfl (by kernel_rfl) ?_
 intro Γ hGn hGk
 replace hGn:Γ.n=_:=hGn
 replace hGk:Γ.names=[]:=hGk
 let hA:Name×AO:=(1002,.box (cfgA z p1 p2 p3 p4 na nb la lb ea eb))
 refine TJ.xa hGn hGk 3 [(1,vI (bif r then 1 else 0)),(2,.TM 1002 0),(4,.TM 1004 0)] [hA,(1004,box0)] ?_
 refine TJ.seq ?_
 refine TJ.xr hGn hGk (sk 1 (.m (some 7) ⟨[(6,.agg (cfgA z p1 p2 p3 p4 na nb la lb ea eb))],[],vI 0,[],[]⟩::aa 1)) (.sk (.m (Qls (QkR hc) rfl rfl rfl rfl (by kernel_rfl) (by rfl) (by kernel_rfl)) (Man.aa _ _)))
  [(1,vI (bif r then 1 else 0)),(2,.TM 1002 0),(4,.TM 1004 0),(8,vB false)] [hA,(1004,box0)] ?_
 refine TJ.cond_false rfl (TJ.skip (Qh ?_))
 refine TJ.seq ?_
 refine TJ.xr hGn hGk (sk 2 (.m (some 12) ⟨[(10,.agg (cfgA z p1 p2 p3 p4 na nb la lb ea eb)),(11,vI (bif r then 1 else 0))],[],vB true,[],[]⟩::aa 1)) (.sk (.m (Qls (QtD hI) rfl rfl rfl rfl (by kernel_rfl) (by rfl) (by kernel_rfl)) (Man.aa _ _)))
  [(2,.TM 1002 0),(4,.TM 1004 0),(13,vB false)] [hA,(1004,box0)] ?_
 refine TJ.cond_false rfl (TJ.skip (Qh ?_))
 cases r
 .refine TJ.xr hGn hGk (sk 1 (.m (some 16) ⟨[(15,.agg (cfgA z p1 p2 p3 p4 na nb la lb ea eb))],[],ownA,QoF z p1 p2 p3 p4 na nb la lb ea eb false,newN false⟩::aa 2)) (.sk (.m (Qls hK rfl rfl rfl rfl (by kernel_rfl) (by rfl) (by kernel_rfl)) (Man.aa _ _)))
   [(4,.TM 1004 0),(5,vI 0)] ((1004,boxC)::QoF z p1 p2 p3 p4 na nb la lb ea eb false) ?_
  exact TJ.ret (Qkc (.inr rfl) (Res.many rfl (.cons (Res1.agg rfl rfl (by kernel_rfl) (by kernel_rfl)) (.cons (Res1.tmp rfl) .nil))) rfl rfl ⟨rfl,rfl⟩)
 .refine TJ.xr hGn hGk (sk 1 (.m (some 16) ⟨[(15,.agg (cfgA z p1 p2 p3 p4 na nb la lb ea eb))],[],ownA,QoF z p1 p2 p3 p4 na nb la lb ea eb true,newN true⟩::aa 2)) (.sk (.m (Qls hK rfl rfl rfl rfl (by kernel_rfl) (by rfl) (by kernel_rfl)) (Man.aa _ _)))
   [(4,.TM 1004 0),(5,vI 0)] ((1004,boxC)::QoF z p1 p2 p3 p4 na nb la lb ea eb true) ?_
  exact TJ.ret (Qkc (.inr rfl) (Res.many rfl (.cons (Res1.agg rfl rfl (by kernel_rfl) (by kernel_rfl)) (.cons (Res1.tmp rfl) .nil))) rfl rfl ⟨rfl,rfl⟩)
def QqG(hc:Q6 fu (cfgD z p1 p2 p3 p4 na nb la lb ea eb)=some 0)(hs:¬(0<=s/\s<2)):
  WT Tryz.prog 337 [.agg (cfgA z p1 p2 p3 p4 na nb la lb ea eb),vI s] [] (.tup [.agg [nl,nl,nl,nl],vI 3]) []:=by
 have hI:Ue fu (cfgD z p1 p2 p3 p4 na nb la lb ea eb) s=some false:=by
  show C (decide (0<=s)) (C (decide (s<((2:Nat):Int))) (some true) (some false)) (some false)=some false
  by_cases h0:0<=s
  .have h1:¬s<((2:Nat):Int):=U
   rw[Ax h0,Au h1];rfl
  .rw[Au h0];rfl
 refine Spec.intro Tryz.func337 rfl (by kernel_rfl) ?_
 intro Γ hGn hGk
 replace hGn:Γ.n=_:=hGn
 replace hGk:Γ.names=[]:=hGk
 let hA:Name×AO:=(1002,.box (cfgA z p1 p2 p3 p4 na nb la lb ea eb))
 refine TJ.xa hGn hGk 3 [(1,vI s),(2,.TM 1002 0),(4,.TM 1004 0)] [hA,(1004,box0)] ?_
 refine TJ.seq ?_
 refine TJ.xr hGn hGk (sk 1 (.m (some 7) ⟨[(6,.agg (cfgA z p1 p2 p3 p4 na nb la lb ea eb))],[],vI 0,[],[]⟩::aa 1)) (.sk (.m (Qls (QkR hc) rfl rfl rfl rfl (by kernel_rfl) (by rfl) (by kernel_rfl)) (Man.aa _ _)))
  [(1,vI s),(2,.TM 1002 0),(4,.TM 1004 0),(8,vB false)] [hA,(1004,box0)] ?_
 refine TJ.cond_false rfl (TJ.skip (Qh ?_))
 refine TJ.seq ?_
 refine TJ.xr hGn hGk (sk 2 (.m (some 12) ⟨[(10,.agg (cfgA z p1 p2 p3 p4 na nb la lb ea eb)),(11,vI s)],[],vB false,[],[]⟩::aa 1)) (.sk (.m (Qls (QtD hI) rfl rfl rfl rfl (by kernel_rfl) (by rfl) (by kernel_rfl)) (Man.aa _ _)))
  [(2,.TM 1002 0),(4,.TM 1004 0),(13,vB true)] [hA,(1004,box0)] ?_
 refine TJ.cond_true rfl ?_
 refine TJ.xa hGn hGk 3 [(4,.TM 1004 0),(5,vI 3)] [(1004,box0)] ?_
 exact TJ.ret (Qq6 (Qkc (.inr rfl) (Res.many rfl (.cons (Res1.agg rfl rfl (by kernel_rfl) (by kernel_rfl)) (.cons (Res1.tmp rfl) .nil))) rfl rfl ⟨rfl,rfl⟩))
def QoL(hc:Q6 fu (cfgD z p1 p2 p3 p4 na nb la lb ea eb)=some 0)(hs:¬(0<=s/\s<2)):
  WT Tryz.prog 290 [.agg (cfgA z p1 p2 p3 p4 na nb la lb ea eb),vI s,.agg ((D.t.cells x).map .p)] [] (.tup [.agg [sl0 3 [],sl0 6 [],sl0 3 [],sl0 3 []],vI 3]) []:=by
 have hO:=QqG hc hs
 refine Spec.intro Tryz.func290 rfl (by kernel_rfl) ?_
 intro Γ hGn hGk
 replace hGn:Γ.n=_:=hGn
 replace hGk:Γ.names=[]:=hGk
 let hE:Name×AO:=(1005,.box ((D.t.cells x).map .p))
 refine TJ.xa hGn hGk 4 [(1,vI s),(3,.TM 1003 0),(5,.TM 1005 0),(6,.TM 1006 0)] [(1003,.box (cfgA z p1 p2 p3 p4 na nb la lb ea eb)),hE,(1006,box0)] ?_
 refine TJ.xr hGn hGk (sk 2 (.m (some 14) ⟨[(12,.agg (cfgA z p1 p2 p3 p4 na nb la lb ea eb)),(13,vI s)],[],.tup [.agg [nl,nl,nl,nl],vI 3],[],[]⟩::aa 5)) (.sk (.m (Qls hO rfl rfl rfl rfl (by kernel_rfl) (by rfl) (by kernel_rfl)) (Man.aa _ _)))
  [(6,.TM 1006 0),(8,vI 3)] [(1006,box0)] ?_
 refine TJ.seq ?_
 refine TJ.xa hGn hGk 2 [(6,.TM 1006 0),(8,vI 3),(18,vB true)] [(1006,box0)] ?_
 refine TJ.cond_true rfl ?_
 refine TJ.xa hGn hGk 4 [(6,.TM 1006 0),(7,vI 3)] [(1006,box0)] ?_
 refine TJ.weaken (mk [(6,.TM 1006 0),(7,vI 3)] [(1006,.box [sl0 3 [],sl0 6 [],sl0 3 [],sl0 3 []])]) (Weak.le (TsLe.refl _) ⟨rfl,.box (.cons (.p (PVle.nil Ob)) (.cons (.p (PVle.nil Ob)) (.cons (.p (PVle.nil Ob)) (.cons (.p (PVle.nil Ob)) .nil)))),trivial⟩) ?_
 exact TJ.ret (Qq6 (Qkc (.inr rfl) (Res.many rfl (.cons (Res1.agg rfl rfl (by kernel_rfl) (by kernel_rfl)) (.cons (Res1.tmp rfl) .nil))) rfl rfl ⟨rfl,rfl⟩))
def QqB(h:QnC fu z [p1,p2,p3,p4] la lb ea eb)(hc:Q6 fu (cfgD z p1 p2 p3 p4 na nb la lb ea eb)=some 0)(hc2:Q6 fu (cfgD z p1 p2 p3 p4 na nb la lb (ea++[x]) eb)=some 0):
  WT Tryz.prog 290 [.agg (cfgA z p1 p2 p3 p4 na nb la lb ea eb),vI 0,.agg ((D.t.cells x).map .p)] [] (.tup [.agg (cfgA z p1 p2 p3 p4 na nb la lb (ea++[x]) eb),vI 0]) []:=by
 have hO:=Qkb h hc false
 have hl:=h.ea
 refine Spec.intro Tryz.func290 rfl (by kernel_rfl) ?_
 intro Γ hGn hGk
 replace hGn:Γ.n=_:=hGn
 replace hGk:Γ.names=[]:=hGk
 let hE:Name×AO:=(1005,.box ((D.t.cells x).map .p))
 refine TJ.xa hGn hGk 4 [(1,vI 0),(3,.TM 1003 0),(5,.TM 1005 0),(6,.TM 1006 0)] [(1003,.box (cfgA z p1 p2 p3 p4 na nb la lb ea eb)),hE,(1006,box0)] ?_
 refine TJ.xr hGn hGk (sk 2 (.m (some 14) ⟨[(12,.agg (cfgA z p1 p2 p3 p4 na nb la lb ea eb)),(13,vI 0)],[],.tup [ownA,vI 0],QoF z p1 p2 p3 p4 na nb la lb ea eb false,newN false⟩::aa 5)) (.sk (.m (Qls hO rfl rfl rfl rfl (by kernel_rfl) (by rfl) (by kernel_rfl)) (Man.aa _ _)))
  [(1,vI 0),(3,.TM 1003 0),(5,.TM 1005 0),(6,.TM 1006 0),(8,vI 0)] ((1003,boxC)::hE::(1006,box0)::QoF z p1 p2 p3 p4 na nb la lb ea eb false) ?_
 refine TJ.seq ?_
 refine TJ.xa hGn hGk 2 [(1,vI 0),(3,.TM 1003 0),(5,.TM 1005 0),(6,.TM 1006 0),(18,vB false)] [(1003,boxC),hE,(1006,box0),(2011,.TI 3 [D.r.cells z]),(2014,.TI 6 [D.R.cells p1,D.R.cells p2,D.R.cells p3,D.R.cells p4]),(2017,.TI 3 []),(2020,.hole 3 [] [.p (.v (.string na)),sl0 10 [D.x.cells la],own 3000 (ea.map (tcells .t)).length] [schR nb lb eb]),(3000,.TI 5 (ea.map (tcells .t)))] ?_
 refine TJ.cond_false rfl (TJ.skip (Qh ?_))
 refine TJ.xa hGn hGk 5 [(3,.TM 1003 0),(5,.TM 1005 0),(6,.TM 1006 0),(9,.aref 2020 2 0 0)] [(1003,boxC),hE,(1006,box0),(2011,.TI 3 [D.r.cells z]),(2014,.TI 6 [D.R.cells p1,D.R.cells p2,D.R.cells p3,D.R.cells p4]),(2017,.TI 3 []),(2020,.hole 3 [] [.p (.v (.string na)),sl0 10 [D.x.cells la],own 3000 (ea.map (tcells .t)).length] [schR nb lb eb]),(3000,.TI 5 (ea.map (tcells .t)))] ?_
 refine TJ.xd hGn hGk (sk 7 (.m (some 32) ⟨[(29,own 3000 (ea.map (tcells .t)).length),(31,.p (.sl true 5 [D.t.cells x]))],[(3000,.TI 5 (ea.map (tcells .t)))],own 3000 ((ea++[x]).map (tcells .t)).length,[(3000,.TI 5 ((ea++[x]).map (tcells .t)))],[]⟩::aa 3))
  (.sk (.m (ZT.p (o:=_) rfl rfl rfl (TE.appendOwn (T:=136) (e:=57) (bytes:=40) rfl rfl (by kernel_rfl) (by kernel_rfl) rfl (B3 _) rfl (by rw[Aq];rfl) rfl (by simp only[AX,Ad,Ao];omega) (by simp only[AX,Ad,Ao];omega))) (Man.aa _ _)))
  [(3,.TM 1003 0),(5,.TM 1005 0),(6,.TM 1006 0)] [(3000,.TI 5 ((ea++[x]).map (tcells .t))),(2020,.hole 3 [] [.p (.v (.string na)),sl0 10 [D.x.cells la],own 3000 ((ea++[x]).map (tcells .t)).length] [schR nb lb eb]),(1003,boxC),hE,(1006,box0),(2011,.TI 3 [D.r.cells z]),(2014,.TI 6 [D.R.cells p1,D.R.cells p2,D.R.cells p3,D.R.cells p4]),(2017,.TI 3 [])] ?_
 refine TJ.frz hGk rfl (.hole (.cons (.same rfl) (.cons (.same rfl) (.cons .own .nil)))) ?_
 refine TJ.unf (schR na la (ea++[x])) rfl ?_
 refine TJ.weaken (mk [(3,.TM 1003 0),(5,.TM 1005 0),(6,.TM 1006 0)] [(2011,.TI 3 [D.r.cells z]),(1003,.box [own 2011 1,own 2014 4,own 2017 0,own 2020 2]),hE,(1006,box0),(2014,.TI 6 [D.R.cells p1,D.R.cells p2,D.R.cells p3,D.R.cells p4]),(2017,.TI 3 []),(2020,.TI 3 [schR na la (ea++[x]),schR nb lb eb])]) (Weak.sub' hGk (by kernel_rfl)) ?_
 refine TJ.frz hGk rfl (.box (.cons .own (.cons (.same rfl) (.cons (.same rfl) (.cons (.same rfl) (.nil)))))) ?_
 refine TJ.weaken (mk [(3,.TM 1003 0),(5,.TM 1005 0),(6,.TM 1006 0)] [(2014,.TI 6 [D.R.cells p1,D.R.cells p2,D.R.cells p3,D.R.cells p4]),(1003,.box [sl0 3 [D.r.cells z],own 2014 4,own 2017 0,own 2020 2]),hE,(1006,box0),(2017,.TI 3 []),(2020,.TI 3 [schR na la (ea++[x]),schR nb lb eb])]) (Weak.sub' hGk (by kernel_rfl)) ?_
 refine TJ.frz hGk rfl (.box (.cons (.same rfl) (.cons .own (.cons (.same rfl) (.cons (.same rfl) (.nil)))))) ?_
 refine TJ.weaken (mk [(3,.TM 1003 0),(5,.TM 1005 0),(6,.TM 1006 0)] [(2017,.TI 3 []),(1003,.box [sl0 3 [D.r.cells z],sl0 6 [D.R.cells p1,D.R.cells p2,D.R.cells p3,D.R.cells p4],own 2017 0,own 2020 2]),hE,(1006,box0),(2020,.TI 3 [schR na la (ea++[x]),schR nb lb eb])]) (Weak.sub' hGk (by kernel_rfl)) ?_
 refine TJ.frz hGk rfl (.box (.cons (.same rfl) (.cons (.same rfl) (.cons .own (.cons (.same rfl) (.nil)))))) ?_
 refine TJ.weaken (mk [(3,.TM 1003 0),(5,.TM 1005 0),(6,.TM 1006 0)] [(2020,.TI 3 [schR na la (ea++[x]),schR nb lb eb]),(1003,.box [sl0 3 [D.r.cells z],sl0 6 [D.R.cells p1,D.R.cells p2,D.R.cells p3,D.R.cells p4],sl0 3 [],own 2020 2]),hE,(1006,box0)]) (Weak.sub' hGk (by kernel_rfl)) ?_
 refine TJ.frz hGk rfl (.box (.cons (.same rfl) (.cons (.same rfl) (.cons (.same rfl) (.cons .own (.nil)))))) ?_
 refine TJ.seq ?_
 refine TJ.xr hGn hGk (sk 1 (.m (some 36) ⟨[(35,.agg (cfgA z p1 p2 p3 p4 na nb la lb (ea++[x]) eb))],[],vI 0,[],[]⟩::aa 1)) (.sk (.m (Qls (QkR hc2) rfl rfl rfl rfl (by kernel_rfl) (by rfl) (by kernel_rfl)) (Man.aa _ _)))
  [(3,.TM 1003 0),(6,.TM 1006 0),(10,vI 0)] [(1003,.box (cfgA z p1 p2 p3 p4 na nb la lb (ea++[x]) eb)),(1006,box0)] ?_
 refine TJ.xa hGn hGk 2 [(3,.TM 1003 0),(6,.TM 1006 0),(38,vB false)] [(1003,.box (cfgA z p1 p2 p3 p4 na nb la lb (ea++[x]) eb)),(1006,box0)] ?_
 refine TJ.cond_false rfl (TJ.skip (Qh ?_))
 refine TJ.xa hGn hGk 3 [(6,.TM 1006 0),(7,vI 0)] [(1006,.box (cfgA z p1 p2 p3 p4 na nb la lb (ea++[x]) eb))] ?_
 exact TJ.ret (Qkc (.inr rfl) (Res.many rfl (.cons (Res1.agg rfl rfl (by kernel_rfl) (by kernel_rfl)) (.cons (Res1.tmp rfl) .nil))) rfl rfl ⟨rfl,rfl⟩)
def QqC(h:QnC fu z [p1,p2,p3,p4] la lb ea eb)(hc:Q6 fu (cfgD z p1 p2 p3 p4 na nb la lb ea eb)=some 0)(hc2:Q6 fu (cfgD z p1 p2 p3 p4 na nb la lb ea (eb++[x]))=some 0):
  WT Tryz.prog 290 [.agg (cfgA z p1 p2 p3 p4 na nb la lb ea eb),vI 1,.agg ((D.t.cells x).map .p)] [] (.tup [.agg (cfgA z p1 p2 p3 p4 na nb la lb ea (eb++[x])),vI 0]) []:=by
 have hO:=Qkb h hc true
 have hl:=h.eb
 refine Spec.intro Tryz.func290 rfl (by kernel_rfl) ?_
 intro Γ hGn hGk
 replace hGn:Γ.n=_:=hGn
 replace hGk:Γ.names=[]:=hGk
 let hE:Name×AO:=(1005,.box ((D.t.cells x).map .p))
 refine TJ.xa hGn hGk 4 [(1,vI 1),(3,.TM 1003 0),(5,.TM 1005 0),(6,.TM 1006 0)] [(1003,.box (cfgA z p1 p2 p3 p4 na nb la lb ea eb)),hE,(1006,box0)] ?_
 refine TJ.xr hGn hGk (sk 2 (.m (some 14) ⟨[(12,.agg (cfgA z p1 p2 p3 p4 na nb la lb ea eb)),(13,vI 1)],[],.tup [ownA,vI 0],QoF z p1 p2 p3 p4 na nb la lb ea eb true,newN true⟩::aa 5)) (.sk (.m (Qls hO rfl rfl rfl rfl (by kernel_rfl) (by rfl) (by kernel_rfl)) (Man.aa _ _)))
  [(1,vI 1),(3,.TM 1003 0),(5,.TM 1005 0),(6,.TM 1006 0),(8,vI 0)] ((1003,boxC)::hE::(1006,box0)::QoF z p1 p2 p3 p4 na nb la lb ea eb true) ?_
 refine TJ.seq ?_
 refine TJ.xa hGn hGk 2 [(1,vI 1),(3,.TM 1003 0),(5,.TM 1005 0),(6,.TM 1006 0),(18,vB false)] [(1003,boxC),hE,(1006,box0),(2011,.TI 3 [D.r.cells z]),(2014,.TI 6 [D.R.cells p1,D.R.cells p2,D.R.cells p3,D.R.cells p4]),(2017,.TI 3 []),(2020,.hole 3 [schR na la ea] [.p (.v (.string nb)),sl0 10 [D.x.cells lb],own 3001 (eb.map (tcells .t)).length] []),(3001,.TI 5 (eb.map (tcells .t)))] ?_
 refine TJ.cond_false rfl (TJ.skip (Qh ?_))
 refine TJ.xa hGn hGk 5 [(3,.TM 1003 0),(5,.TM 1005 0),(6,.TM 1006 0),(9,.aref 2020 2 1 0)] [(1003,boxC),hE,(1006,box0),(2011,.TI 3 [D.r.cells z]),(2014,.TI 6 [D.R.cells p1,D.R.cells p2,D.R.cells p3,D.R.cells p4]),(2017,.TI 3 []),(2020,.hole 3 [schR na la ea] [.p (.v (.string nb)),sl0 10 [D.x.cells lb],own 3001 (eb.map (tcells .t)).length] []),(3001,.TI 5 (eb.map (tcells .t)))] ?_
 refine TJ.xd hGn hGk (sk 7 (.m (some 32) ⟨[(29,own 3001 (eb.map (tcells .t)).length),(31,.p (.sl true 5 [D.t.cells x]))],[(3001,.TI 5 (eb.map (tcells .t)))],own 3001 ((eb++[x]).map (tcells .t)).length,[(3001,.TI 5 ((eb++[x]).map (tcells .t)))],[]⟩::aa 3))
  (.sk (.m (ZT.p (o:=_) rfl rfl rfl (TE.appendOwn (T:=136) (e:=57) (bytes:=40) rfl rfl (by kernel_rfl) (by kernel_rfl) rfl (B3 _) rfl (by rw[Aq];rfl) rfl (by simp only[AX,Ad,Ao];omega) (by simp only[AX,Ad,Ao];omega))) (Man.aa _ _)))
  [(3,.TM 1003 0),(5,.TM 1005 0),(6,.TM 1006 0)] [(3001,.TI 5 ((eb++[x]).map (tcells .t))),(2020,.hole 3 [schR na la ea] [.p (.v (.string nb)),sl0 10 [D.x.cells lb],own 3001 ((eb++[x]).map (tcells .t)).length] []),(1003,boxC),hE,(1006,box0),(2011,.TI 3 [D.r.cells z]),(2014,.TI 6 [D.R.cells p1,D.R.cells p2,D.R.cells p3,D.R.cells p4]),(2017,.TI 3 [])] ?_
 refine TJ.frz hGk rfl (.hole (.cons (.same rfl) (.cons (.same rfl) (.cons .own .nil)))) ?_
 refine TJ.unf (schR nb lb (eb++[x])) rfl ?_
 refine TJ.weaken (mk [(3,.TM 1003 0),(5,.TM 1005 0),(6,.TM 1006 0)] [(2011,.TI 3 [D.r.cells z]),(1003,.box [own 2011 1,own 2014 4,own 2017 0,own 2020 2]),hE,(1006,box0),(2014,.TI 6 [D.R.cells p1,D.R.cells p2,D.R.cells p3,D.R.cells p4]),(2017,.TI 3 []),(2020,.TI 3 [schR na la ea,schR nb lb (eb++[x])])]) (Weak.sub' hGk (by kernel_rfl)) ?_
 refine TJ.frz hGk rfl (.box (.cons .own (.cons (.same rfl) (.cons (.same rfl) (.cons (.same rfl) (.nil)))))) ?_
 refine TJ.weaken (mk [(3,.TM 1003 0),(5,.TM 1005 0),(6,.TM 1006 0)] [(2014,.TI 6 [D.R.cells p1,D.R.cells p2,D.R.cells p3,D.R.cells p4]),(1003,.box [sl0 3 [D.r.cells z],own 2014 4,own 2017 0,own 2020 2]),hE,(1006,box0),(2017,.TI 3 []),(2020,.TI 3 [schR na la ea,schR nb lb (eb++[x])])]) (Weak.sub' hGk (by kernel_rfl)) ?_
 refine TJ.frz hGk rfl (.box (.cons (.same rfl) (.cons .own (.cons (.same rfl) (.cons (.same rfl) (.nil)))))) ?_
 refine TJ.weaken (mk [(3,.TM 1003 0),(5,.TM 1005 0),(6,.TM 1006 0)] [(2017,.TI 3 []),(1003,.box [sl0 3 [D.r.cells z],sl0 6 [D.R.cells p1,D.R.cells p2,D.R.cells p3,D.R.cells p4],own 2017 0,own 2020 2]),hE,(1006,box0),(2020,.TI 3 [schR na la ea,schR nb lb (eb++[x])])]) (Weak.sub' hGk (by kernel_rfl)) ?_
 refine TJ.frz hGk rfl (.box (.cons (.same rfl) (.cons (.same rfl) (.cons .own (.cons (.same rfl) (.nil)))))) ?_
 refine TJ.weaken (mk [(3,.TM 1003 0),(5,.TM 1005 0),(6,.TM 1006 0)] [(2020,.TI 3 [schR na la ea,schR nb lb (eb++[x])]),(1003,.box [sl0 3 [D.r.cells z],sl0 6 [D.R.cells p1,D.R.cells p2,D.R.cells p3,D.R.cells p4],sl0 3 [],own 2020 2]),hE,(1006,box0)]) (Weak.sub' hGk (by kernel_rfl)) ?_
 refine TJ.frz hGk rfl (.box (.cons (.same rfl) (.cons (.same rfl) (.cons (.same rfl) (.cons .own (.nil)))))) ?_
 refine TJ.seq ?_
 refine TJ.xr hGn hGk (sk 1 (.m (some 36) ⟨[(35,.agg (cfgA z p1 p2 p3 p4 na nb la lb ea (eb++[x])))],[],vI 0,[],[]⟩::aa 1)) (.sk (.m (Qls (QkR hc2) rfl rfl rfl rfl (by kernel_rfl) (by rfl) (by kernel_rfl)) (Man.aa _ _)))
  [(3,.TM 1003 0),(6,.TM 1006 0),(10,vI 0)] [(1003,.box (cfgA z p1 p2 p3 p4 na nb la lb ea (eb++[x]))),(1006,box0)] ?_
 refine TJ.xa hGn hGk 2 [(3,.TM 1003 0),(6,.TM 1006 0),(38,vB false)] [(1003,.box (cfgA z p1 p2 p3 p4 na nb la lb ea (eb++[x]))),(1006,box0)] ?_
 refine TJ.cond_false rfl (TJ.skip (Qh ?_))
 refine TJ.xa hGn hGk 3 [(6,.TM 1006 0),(7,vI 0)] [(1006,.box (cfgA z p1 p2 p3 p4 na nb la lb ea (eb++[x])))] ?_
 exact TJ.ret (Qkc (.inr rfl) (Res.many rfl (.cons (Res1.agg rfl rfl (by kernel_rfl) (by kernel_rfl)) (.cons (Res1.tmp rfl) .nil))) rfl rfl ⟨rfl,rfl⟩)
end
def QoM(fu):FnOK Tryz.prog 290 (QqD fu):=by
 refine⟨fun R x y K r h=>?_,fun x y a b h L0 _=>⟨L0,fun _ _=>rfl,fun n t l v hn=>by change AM.X n []=_ at hn;simp[AM.X]at hn,?_⟩⟩
 .obtain⟨c,s,e,⟨⟩⟩:=x
  obtain⟨q,hq,h⟩:=Y5 h
  change Uo fu c s e=some q at hq
  refine⟨(q.1,q.2,()),(),?_,h⟩
  show O (Uo fu c s e) (fun q=>some ((q.1,q.2,()),()))=_
  rw[hq];rfl
 .obtain⟨c,s,x,⟨⟩⟩:=x
  obtain⟨q,hq,hab⟩:=Y5 h
  change Uo fu c s x=some q at hq
  have hab':((q.1,q.2,()),())=(a,b):=Be hab
  obtain⟨rfl,rfl⟩:=C4 hab'
  obtain⟨zs,ps,cs,ss⟩:=c
  unfold Uo at hq
  dsimp only at hq
  split at hq
  case h_2=>simp at hq
  rename_i z p1 p2 p3 p4 a b
  split at hq
  case h_2=>simp at hq
  rename_i la lb hla hlb
  obtain⟨na,las,ea⟩:=a
  obtain⟨nb,lbs,eb⟩:=b
  dsimp only at hla hlb
  subst hla hlb
  split at hq
  case isFalse=>simp at hq
  rename_i hin
  obtain⟨e1,he1,hq⟩:=Y5 hq
  have h1:e1=0:=by
   by_cases h:e1=0
   .exact h
   .rw[Ax h]at hq;simp[C]at hq
  subst h1
  replace hq:C (decide (0<=s/\s<2)) _ _=some q:=hq
  by_cases hs:0<=s/\s<2
  .rw[Ax hs]at hq
   obtain⟨e2,he2,hq⟩:=Y5 hq
   have h2:e2=0:=by
    by_cases h:e2=0
    .exact h
    .rw[Ax h]at hq;simp[C]at hq
   subst h2
   have hq2:=Be hq
   subst hq2
   rcases(show s=0\/s=1 by omega)with rfl|rfl
   .exact QqB hin he1 he2
   .exact QqC hin he1 he2
  .rw[Au hs]at hq
   have hq2:=Be hq
   subst hq2
   exact QoL he1 hs
end
open Go AM IntKind
noncomputable section
open fk Tryz
variable (u:Nat)
def XY(u:Nat)(a:Y D.Page)(c:Int)(b:Y D.Page):I (Y D.Page):=TK c fun e=>TO e a.length (cd ((b.length:Int)=0) (some a) (cd (c=(a.length:Int)) (TO (a.length+b.length) 34359738368 (some (a++b))) none))
def QeI:o 284 (Qn [.one (.own 101),d,l .Page] [p 101 .Page] [.one (.own 101)] [p 101 .Page] [] (Y D.Page) kz6 (fun x y=>XY u y.1 x.1 x.2.1)):=i u g kz10 t func284
end
open Go Go.RowKit Go.Shelf Go.Proofs AM
section
def QkS(W)(T e ty)(es)(hT:P.underlying T=some (.slice e))(hz:Zl P e=some es)(b o l1 c1)(a2)(l2 c2 m)(cur)(t)(vs)(hg:W.heap[b]?=some (.cells cur t (0,0)))(hm:Nat.min l2 l1=m)(hn:vs.length=m*es)(hsrc:∀j v,vs[j]?=some v->W.cell? (a2.add j)=some v)(hfit:o+vs.length<=cur.size)(h1:∀v∈vs,v.oneCell'=true):
  (Builtin.copy_ #[T,T] ty #[.slice (some ⟨b,o,none⟩) l1 c1,.slice (some a2) l2 c2]).run P W=.ok (goInt ((m:Nat):Int)) (W.setRow b (Qz cur.toList o vs).toArray):=by
 have hsz:=AM.run_sizeOf (P:=P) (w:=W) hz
 have hload:=run_loadCells_list (P:=P) W a2 vs hsrc
 have hstore:=run_storeCells_at (P:=P) b o t vs 0 cur W hg U h1
 rw[hn]at hload
 have hw:(Qz cur.toList o vs).toArray=(cur.toList.take (o+0)++vs++cur.toList.drop (o+0+vs.length)).toArray:=by unfold Qz;rfl
 simp[Builtin.copy_,run_underlying hT,Builtin.lenOf,Builtin.firstCells,hsz,hm,hload,Result.andThen]
 rw[hstore,hw]
def Qnh(w)(tS tR e)(ht:P.underlying tS=some (.slice e))(size)(hz:∀w,(Go.sizeOf e).run P w=.ok size w)(a b)(la ca lb cb)(hne:a.block≠b.block)(ha:w.heap[a.block]?=some (.cells csA tA fA))(hb:w.heap[b.block]?=some (.cells cs t (0,0)))(hk:cs.size≠0)(hkA:csA.size≠0):
  (Extern.SlicesOverlaps.overlaps #[tS,tS] #[tR] #[.slice (some a) la ca,.slice (some b) lb cb]).run P w=.ok (.bool false) w:=by
 have hnb:(a.block != b.block)=true:=by simpa using hne
 have hnb':(a.block == b.block)=false:=by simpa using hne
 have hsa:w.shape? a.block=some (tA,csA.size):=by simp[World.shape?,ha]
 have hsb:w.shape? b.block=some (t,cs.size):=by simp[World.shape?,hb]
 have hfb:∀o s,w.frozen? { block:=b.block,off:=o,spot:=s }=false:=fun o s=>by simp[World.frozen?,hb]
 have hfb':w.frozen? b=false:=by simp[World.frozen?,hb]
 obtain⟨f1,hf1⟩:∃f1,w.frozen? a=f1:=⟨_,rfl⟩
 obtain⟨f2,hf2⟩:∃f2,w.frozen? { block:=a.block,off:=csA.size }=f2:=⟨_,rfl⟩
 change Sem.run P (α:=AE) (do
  let some t:=(#[tS,tS]:Array AD)[0]?|stuck "slices.overlaps: no parameter types"
  let .slice elem <-underlying t|stuck "slices.overlaps: slice type expected"
  let size <-sizeOf elem
  match (some a:I Addr),(some b:I Addr)with
  |some a,some b=>
   if la=0\/lb=0\/size=0 then pure (Value.bool false)
   else if a.block != b.block && (<-frozen a) && (<-frozen b)then unsupported .addressObserved
   else do
    if a.block != b.block then do
     noView a;noView b
     if <-mayBeOne a b then return Value.bool ((<-choose (.extern "sameAddr.stringBytes" 2)) == 1)
    pure (Value.bool (a.block == b.block && a.off<b.off+lb*size && b.off<a.off+la*size))
  |_,_=>pure (Value.bool false)) w=_
 by_cases h0:la=0\/lb=0\/size=0
 .simp[run_underlying ht,hz,h0]
 .obtain⟨kB,hkB⟩:∃kB,cs.size=kB+1:=⟨cs.size - 1,U⟩
  rw[hkB]at hsb
  obtain⟨kA,hkA'⟩:∃kA,csA.size=kA+1:=⟨csA.size - 1,U⟩
  rw[hkA']at hsa hf2
  cases f1<;>cases f2<;>
   simp[run_underlying ht,hz,h0,hnb,hnb',frozen,noView,viewAt,mayBeOne,stringish,shape,Sem.run,hsa,hsb,hfb,hfb',hf1,hf2]
end
def Qoj{α:Type}{l vs:Y α}{k:Nat}(h:k<=l.length):(Qz l k vs).take (k+vs.length)=l.take k++vs:=by
 unfold Qz
 grind
set_option maxHeartbeats 4000000 in
def QwL(b n c i vb voff vc)(cs csv)(t tv)(fv)(v)(w)(hi:i<n)(hroom:n+1<=c)(hbig:n<=10000000)(hvb:vb≠b)(hb:w.heap[b]?=some (.cells cs t (0,0)))(hsz:c*14<=cs.size)(hv:v.length=14)(hvw:w.heap[vb]?=some (.cells csv tv fv))(hvz:csv.size≠0)(hvs:∀j x,v[j]?=some x->w.cell? ⟨vb,voff+j,none⟩=some x)(h1c:∀x∈(cs.toList.drop (i*14)).take ((n - i)*14),x.oneCell'=true)(h1v:∀x∈v,x.oneCell'=true):
  Calls Tryz.prog 284 #[.slice (some ⟨b,0,none⟩) n c,.int .i64 i,.slice (some ⟨vb,voff,none⟩) 1 vc] w fun e w'=>
   e=.returned (.slice (some ⟨b,0,none⟩) (n+1) c)/\w'=(w.drew.setRow b (Qz cs.toList ((i+1)*14) ((cs.toList.drop (i*14)).take ((n - i)*14))).toArray).setRow b (Qz (Qz cs.toList ((i+1)*14) ((cs.toList.drop (i*14)).take ((n - i)*14))) (i*14) v).toArray:=by
 have hmix:Tryz.prog.follows .mixedOrders=true:=by kernel_rfl
 have hT:Tryz.prog.underlying 37=some (.slice 83):=by kernel_rfl
 have hz:Zl Tryz.prog 83=some 14:=by kernel_rfl
 have hsize:∀w,(Go.sizeOf 83).run Tryz.prog w=.ok 14 w:=fun w=>AM.run_sizeOf hz w
 have hle:(n+1)*14<=cs.size:=AY (As 14 hroom) hsz
 obtain⟨vs,hvs1⟩:∃vs,(cs.toList.drop (i*14)).take ((n - i)*14)=vs:=⟨_,rfl⟩
 have hvl:vs.length=(n - i)*14:=by rw[<-hvs1];simp;omega
 obtain⟨A1,hA1⟩:∃A1,(Qz cs.toList ((i+1)*14) vs).toArray=A1:=⟨_,rfl⟩
 have hA1s:A1.size=cs.size:=by rw[<-hA1];simp[Qz,hvl];omega
 rw[hvs1]at h1c |-
 have hA1l:Qz cs.toList ((i+1)*14) vs=A1.toList:=by rw[<-hA1]
 rw[hA1l,Ey]
 have hov:∀o lb cb,(callFunc 331 #[.slice (some ⟨vb,voff,none⟩) 1 vc,.slice (some ⟨b,o,none⟩) lb cb]).run Tryz.prog w=.ok (.value (.bool false)) w:=fun o lb cb=>by
  rw[run_callFunc_extern Tryz.func331 (by kernel_rfl) (by kernel_rfl) (by kernel_rfl) (e:=Extern.SlicesOverlaps.overlaps #[37,37] #[4]) (by kernel_rfl),Qnh w 37 4 83 hT 14 hsize ⟨vb,voff,none⟩ ⟨b,o,none⟩ 1 vc lb cb hvb hvw hb U hvz]
  rfl
 have hold:∀q,w.cell? ⟨b,q,none⟩=cs.toList[q]?:=fun q=>by simp[World.cell?,hb]
 have hcp1:∀ty c1 c2,(Builtin.copy_ #[37,37] ty #[.slice (some ⟨b,(i+1)*14,none⟩) (n - i) c1,.slice (some ⟨b,i*14,none⟩) (n+1 - i) c2]).run Tryz.prog w.drew=.ok (goInt ((n - i:Nat):Int)) (w.drew.setRow b A1):=fun ty c1 c2=>by
  rw[<-hA1]
  exact QkS w.drew 37 83 ty 14 hT hz b _ (n - i) c1 ⟨b,i*14,none⟩ (n+1 - i) c2 (n - i) cs t vs hb (Nat.min_eq_right U) hvl (fun j x hj=>by
   have hj':j<(n - i)*14:=by rw[<-hvl];exact(Az.1 hj).1
   rw[Addr.add_lit]
   rw[<-hvs1,Ar,iB hj',Ap]at hj
   exact(hold _).trans hj) (by rw[hvl];omega) h1c
 have hcp2:∀(W:AG),W.heap=(w.drew.setRow b A1).heap->∀ty c1,(Builtin.copy_ #[37,37] ty #[.slice (some ⟨b,i*14,none⟩) (n+1 - i) c1,.slice (some ⟨vb,voff,none⟩) 1 vc]).run Tryz.prog W=.ok (goInt ((1:Nat):Int)) (W.setRow b (Qz A1.toList (i*14) v).toArray):=fun W hW ty c1=>by
  have hWb:W.heap[b]?=some (.cells A1 t (0,0)):=by rw[hW];exact setRow_heap w.drew b cs A1 t (0,0) hb
  exact QkS W 37 83 ty 14 hT hz b _ (n+1 - i) c1 ⟨vb,voff,none⟩ 1 vc 1 A1 t v hWb (CC U) (by rw[hv]) (fun j x hj=>by
   rw[Addr.add_lit]
   have:=hvs j x hj
   unfold World.cell? at this |-
   dsimp only at this |-
   rw[hW,setRow_other w.drew b vb A1 hvb]
   exact this) (by rw[hv,hA1s];omega) h1v
 have hcp3:=hcp2 (w.drew.setRow b A1).drew rfl
 have hcp4:=hcp2 (w.drew.setRow b A1) rfl
 have hz2:¬((i:Int)=(n:Int)):=U
 have hw1:IntKind.i64.wrap ((i:Int)+1)=(i:Int)+1:=by rw[IntKind.wrap_i64];omega
 have hw2:IntKind.i64.wrap ((n:Int)+1)=(n:Int)+1:=by rw[IntKind.wrap_i64];omega
 have hb1:(0:Int)<=(i:Int)+1:=U
 have hin:i<=n:=U
 have htn:((i:Int)+1).toNat=i+1:=U
 have htn2:((n:Int)+1).toNat=n+1:=U
 have hb2:¬(c=i+1):=U
 have hb3:(i:Int)<=(n:Int)+1:=U
 have hb4:¬(c=i):=U
 go_enter Tryz.func284,Tryz.ntmps284
 go_wp2_with (simp only[hov])
 go_region_law_o (refine step_copy_runI rfl _ _ 37 37 rfl _ _ (by simp[Act.eval,Act.put]) (by simp[Act.eval,Act.put]) (hcp1 _ _ _) ?_)
 go_wp2
 go_ret
 first|exact⟨rfl,rfl⟩|exact⟨rfl,by rw[Ey]⟩
set_option maxHeartbeats 4000000 in
def QyU(b n c i vb voff vc)(cs csv)(t tv)(fv)(v)(w)(hi:i<n)(hnc:n<=c)(hroom:c<n+1)(hbig:n<=10000000)(hb:w.heap[b]?=some (.cells cs t (0,0)))(hsz:c*14<=cs.size)(hv:v.length=14)(hvw:w.heap[vb]?=some (.cells csv tv fv))(hvs:∀j x,v[j]?=some x->w.cell? ⟨vb,voff+j,none⟩=some x)(h1c:∀x∈(cs.toList.drop (i*14)).take ((n - i)*14),x.oneCell'=true)(h1v:∀x∈v,x.oneCell'=true):
  Calls Tryz.prog 284 #[.slice (some ⟨b,0,none⟩) n c,.int .i64 i,.slice (some ⟨vb,voff,none⟩) 1 vc] w fun e w'=>
   ∃(G:Nat) (A:Array AE),e=.returned (.slice (some ⟨w.heap.size,0,none⟩) (n+1) G)/\n+1<=G/\A.size=G*14/\A.toList.take ((n+1)*14)=cs.toList.take (i*14)++v++(cs.toList.drop (i*14)).take ((n - i)*14)/\
    w'.heap[w.heap.size]?=some (.cells A 83 (0,0))/\Ext (fun _=>False) w w':=by
 have hmix:Tryz.prog.follows .mixedOrders=true:=by kernel_rfl
 have hT:Tryz.prog.underlying 37=some (.slice 83):=by kernel_rfl
 have hT3:Tryz.prog.underlying 3=some (.int .i64):=by kernel_rfl
 have hz:Zl Tryz.prog 83=some 14:=by kernel_rfl
 obtain⟨i0,z,hi0,hz0,hzs,hzb,hzc⟩:=Qca (P:=Tryz.prog) (e:=83) (es:=14) (bytes:=160) (by kernel_rfl)
 have hbw:b<w.heap.size:=(CE.1 hb).1
 have hvw':vb<w.heap.size:=(CE.1 hvw).1
 have hle:n*14<=cs.size:=AY (As 14 hnc) hsz
 have hold:∀q,w.cell? ⟨b,q,none⟩=cs.toList[q]?:=fun q=>by simp[World.cell?,hb]
 obtain⟨vs,hvs1⟩:∃vs,(cs.toList.drop (i*14)).take ((n - i)*14)=vs:=⟨_,rfl⟩
 have hvl:vs.length=(n - i)*14:=by rw[<-hvs1];simp;omega
 rw[hvs1]at h1c |-
 have hold0:(Builtin.firstCells i0.size i (.slice (some ⟨b,0,none⟩) i c)).run Tryz.prog w.drew=.ok (cs.toList.take (i*14)).toArray w.drew:=by
  rw[hzs]
  exact run_firstCells_some w.drew 14 i ⟨b,0,none⟩ i c (cs.toList.take (i*14)) (by rw[Ae];simp;omega) (fun j x hj=>by
   rw[Addr.add_lit,Ah]
   rw[Ar]at hj
   split at hj
   .exact(hold _).trans hj
   .cases hj)
 obtain⟨G,hG⟩:∃G,G=grownCap w (n+1) c 83:=⟨_,rfl⟩
 obtain⟨ROW,hROW⟩:∃ROW:Array AE,ROW=(cs.toList.take (i*14)).toArray++Builtin.zeroCells z.cells (n+1 - i)++Builtin.zeroCells z.cells (G - (n+1)):=⟨_,rfl⟩
 have hGn:n+1<=G:=by rw[hG];exact grownCap_ge w _ _ _
 have hG63:G<=9223372036854775807:=by
  have:=grownCap_le_maxLen w (n+1) c 83 (by unfold maxLen;omega)
  rw[<-hG]at this
  unfold maxLen at this
  omega
 have hik:i+(n+1 - i)=n+1:=U
 have hrz:∀ty,(Builtin.append_ #[37,3] ty #[.slice (some ⟨b,0,none⟩) i c,.int .i64 ((n:Int)+1 - (i:Int))]).run Tryz.prog w =
   .ok (.slice (some ⟨w.heap.size,0,none⟩) (n+1) G) (w.drew.alloc (.cells ROW 83)):=fun ty=>by
  have h:=Lib.run_append_grow_zeros w 37 3 ty 83 i0 _ .i64 .i64 hT hT3 hi0 hz0 (some ⟨b,0,none⟩) i c (cs.toList.take (i*14)) hold0 (n+1 - i) U U U U (by rw[hzb];omega) (by rw[hzb,hik];exact growslice_fits hroom U)
  rw[hik,<-hG,<-hROW]at h
  rw[show(n:Int)+1 - (i:Int)=((n+1 - i:Nat):Int)by omega]
  exact h
 have hRs:ROW.size=G*14:=by
  rw[hROW]
  simp only[Ej,Qaa,hzc,CB,Ae,BW]
  omega
 have hNb:(w.drew.alloc (.cells ROW 83)).heap[w.heap.size]?=some (.cells ROW 83 (0,0)):=Yt w.drew _
 have hOth:∀k,k<w.heap.size->(w.drew.alloc (.cells ROW 83)).heap[k]?=w.heap[k]?:=fun k hk=>Below.heap_alloc w.drew _ k hk
 obtain⟨A1,hA1⟩:∃A1,(Qz ROW.toList (i*14) v).toArray=A1:=⟨_,rfl⟩
 have hA1s:A1.size=ROW.size:=by rw[<-hA1];simp[Qz,hv];omega
 obtain⟨A2,hA2⟩:∃A2,(Qz A1.toList ((i+1)*14) vs).toArray=A2:=⟨_,rfl⟩
 have hA2s:A2.size=ROW.size:=by rw[<-hA2,<-hA1s];simp[Qz,hvl];omega
 have hfin:A2.toList.take ((n+1)*14)=cs.toList.take (i*14)++v++vs:=by
  have e1:A1.toList.take ((i+1)*14)=cs.toList.take (i*14)++v:=by
   rw[<-hA1,show(i+1)*14=i*14+v.length by omega,C6,Qoj (by simp;omega),hROW]
   congr 1
   simp only[Array.toList_append,C6,Aw]
   rw[CZ (by simp;omega),Ca,C7]
  rw[<-hA2,show(n+1)*14=(i+1)*14+vs.length by omega,C6,Qoj (by simp;omega),e1]
 have hcpA:∀(W:AG),W.heap=(w.drew.alloc (.cells ROW 83)).heap->∀ty c1,(Builtin.copy_ #[37,37] ty #[.slice (some ⟨w.heap.size,i*14,none⟩) (n+1 - i) c1,.slice (some ⟨vb,voff,none⟩) 1 vc]).run Tryz.prog W=.ok (goInt ((1:Nat):Int)) (W.setRow w.heap.size A1):=fun W hW ty c1=>by
  rw[<-hA1]
  exact QkS W 37 83 ty 14 hT hz _ _ (n+1 - i) c1 ⟨vb,voff,none⟩ 1 vc 1 ROW 83 v (by rw[hW];exact hNb) (CC U) (by rw[hv]) (fun j x hj=>by
   rw[Addr.add_lit]
   have:=hvs j x hj
   unfold World.cell? at this |-
   dsimp only at this |-
   rw[hW,hOth vb hvw']
   exact this) (by rw[hv];omega) h1v
 have hcpB:∀(W:AG),W.heap=((w.drew.alloc (.cells ROW 83)).setRow w.heap.size A1).heap->∀ty c1 c2,(Builtin.copy_ #[37,37] ty #[.slice (some ⟨w.heap.size,(i+1)*14,none⟩) (n - i) c1,.slice (some ⟨b,i*14,none⟩) (n - i) c2]).run Tryz.prog W=.ok (goInt ((n - i:Nat):Int)) (W.setRow w.heap.size A2):=fun W hW ty c1 c2=>by
  rw[<-hA2]
  exact QkS W 37 83 ty 14 hT hz _ _ (n - i) c1 ⟨b,i*14,none⟩ (n - i) c2 (n - i) A1 83 vs (by rw[hW];exact setRow_heap _ _ ROW A1 83 (0,0) hNb) (C7 _) hvl (fun j x hj=>by
   have hj':j<(n - i)*14:=by rw[<-hvl];exact(Az.1 hj).1
   rw[Addr.add_lit]
   rw[<-hvs1,Ar,iB hj',Ap]at hj
   have:=(hold (i*14+j)).trans hj
   unfold World.cell? at this |-
   dsimp only at this |-
   rw[hW,setRow_other _ _ _ A1 U,hOth b hbw]
   exact this) (by rw[hvl];omega) h1c
 have hz2:¬((i:Int)=(n:Int)):=U
 have hz3:(c:Int)<(n:Int)+1:=U
 have hw1:IntKind.i64.wrap ((i:Int)+1)=(i:Int)+1:=by rw[IntKind.wrap_i64];omega
 have hw2:IntKind.i64.wrap ((n:Int)+1)=(n:Int)+1:=by rw[IntKind.wrap_i64];omega
 have hw3:IntKind.i64.wrap ((n:Int)+1 - (i:Int))=(n:Int)+1 - (i:Int):=by rw[IntKind.wrap_i64];omega
 have hb1:(0:Int)<=(i:Int)+1:=U
 have hin:i<=n:=U
 have htn:((i:Int)+1).toNat=i+1:=U
 have hb3:(i:Int)<=(n:Int)+1:=U
 have hb4:¬(c=i):=U
 have hGi:¬(G=i):=U
 have hGim:¬(G=i+1):=U
 have hcpA1:=hcpA (w.drew.alloc (.cells ROW 83)) rfl
 have hcpA2:=hcpA ((w.alloc (.cells ROW 83)).drew) rfl
 have hcpB1:=hcpB (((w.alloc (.cells ROW 83)).drew.setRow w.heap.size A1).drew) rfl
 clear hG hROW hold0 hik hA1 hA2
 go_enter Tryz.func284,Tryz.ntmps284
 go_wp2_with (at_builtin;refine Lib.wpList_append_run _ rfl _ _ _ _ rfl _ _ rfl rfl _ _ (hrz _) ?_)
 go_region_law_o (refine step_copy_runI rfl _ _ 37 37 rfl _ _ (by simp[Act.eval,Act.put]) (by simp[Act.eval,Act.put]) (hcpB _ rfl _ _ _) ?_)
 go_wp2
 go_ret
 refine⟨G,A2,rfl,hGn,by rw[hA2s,hRs],hfin,?_,?_⟩
 .exact setRow_heap _ _ A1 A2 83 (0,0) (setRow_heap _ _ ROW A1 83 (0,0) hNb)
 .refine⟨by simp[World.setRow],fun k hk _=>?_,rfl,rfl⟩
  exact(setRow_other _ _ _ A2 U).trans ((setRow_other _ _ _ A1 U).trans (hOth k hk))
def QyW(h:RR ρ H M w rows cr)(h2:AV.Rs ρ H M w (pcells row) c):
  RR ρ H M w (rows.take i++row::rows.drop i) (cr.take i++c::cr.drop i):=by
 have htake:∀{rows:Y (Y PV)} {cr:Y (Y AE)} (i:Nat),RR ρ H M w rows cr->RR ρ H M w (rows.take i) (cr.take i)/\RR ρ H M w (rows.drop i) (cr.drop i):=by
  intro rows
  induction rows with
  |nil=>intro cr i h;simp only[RR]at h;subst h;simp[RR]
  |cons r rs ih=>
   intro cr i h
   cases i with
   |zero=>exact⟨by simp[RR],by simpa using h⟩
   |succ i=>
    simp only[RR]at h
    obtain⟨c0,cr',rfl,g1,g2⟩:=h
    obtain⟨k1,k2⟩:=ih i g2
    simp only[CS,Ci,RR]
    grind
 obtain⟨k1,k2⟩:=htake i h
 refine k1.append ?_
 simp only[RR]
 grind
def QyX{rows:Y (Y PV)}{row:Y PV}{i:Nat}(f:AH)(hi:i<rows.length)(hl:rows.length<=10000000)(hrow:row.length=14):
  WT Tryz.prog 284 [.own 101 rows.length,.p (.v (.int .i64 i)),.p (.sl f 14 [row])] [(101,.TI 14 rows)] (.own 101 (rows.length+1)) [(101,.TI 14 (rows.take i++row::rows.drop i))]:=by
 intro G ρ M w us hG hM hargs hobj hinj
 simp only[AV.Ts]at hargs
 obtain⟨u0,_,rfl,a0,u1,_,rfl,a1,u2,_,rfl,a2,rfl⟩:=hargs
 simp only[AV.R,PV.R]at a0 a1 a2
 have hob:=hobj 101 _ (show AM.X 101 [(101,AO.TI 14 rows)]=some (.TI 14 rows)from rfl)
 have hu0:=(a0.2 (.TI 14 rows) 14 rows.length rfl rfl).2 rfl
 obtain⟨hes,hcap,hobj'⟩:=hob
 obtain⟨ad,vc,rfl,hvc,_,hnone,hsome⟩:=a2
 have hvc':1<=vc:=by simpa using hvc
 cases ad with
 |none=>exact absurd (hnone rfl) U
 |some ad=>
 obtain⟨hspot,hMad,hadw,hrows⟩:=hsome ad rfl U
 obtain⟨vb,voff,sp⟩:=ad
 dsimp only at hspot hMad hadw hrows
 subst hspot
 rcases hobj' with h0|⟨b,T,cs,h3,h4,h5,h6,h7⟩
 .exact absurd hcap (by rw[h0];omega)
 simp only[PV.Rows]at hrows
 obtain⟨_,hcells,_⟩:=hrows
 obtain⟨cv,cv1,cv2⟩:=Qb2 (ρ:=ρ) (H:=X2 [(101,AO.TI 14 rows)]) hcells
 obtain⟨cr,m1,m2,m3⟩:=RR.of_Rows (ρ:=ρ) (H:=X2 [(101,AO.TI 14 rows)]) h7
 have hcvl:cv.length=14:=by rw[cv1.length];simp[pcells,hrow]
 have hcrl:=m1.length
 have hlen:=m1.len m2
 have hflat:cr.flatten.length=rows.length*14:=by rw[WU hlen,hcrl]
 have hcsl:rows.length*14<=cs.size:=AY (As 14 hcap) h6
 have hcs:cs.toList.take (rows.length*14)=cr.flatten:=by
  refine Cg fun j=>?_
  rw[Ar]
  split
  .rename_i hj
   have:=m3 j (cr.flatten[j]'U) (AR U)
   rw[Ah]at this
   rw[AR (l:=cr.flatten) U,<-this]
   simp[World.cell?,h5]
  .rw[ED U]
 have hmid:(cs.toList.drop (i*14)).take ((rows.length - i)*14)=(cr.drop i).flatten:=by
  rw[<-Qiv i hlen,<-hcs,C8,Nat.sub_mul]
 have hpre:cs.toList.take (i*14)=(cr.take i).flatten:=by
  rw[<-QlR i hlen,<-hcs,Ca,CC (As 14 U)]
 have hvb:vb≠b:=fun e=>hMad (by rw[e];exact h4)
 have hvblk:∃csv tv fv,w.heap[vb]?=some (.cells csv tv fv)/\csv.size≠0:=by
  have hc:=cv2 0 (cv[0]'U) (AR U)
  simp only[World.cell?]at hc
  split at hc
  .rename_i csv tv fv hh
   refine⟨csv,tv,fv,hh,fun e=>?_⟩
   have:csv=#[]:=Array.eq_empty_of_size_eq_zero e
   subst this;simp at hc
  all_goals simp at hc
 obtain⟨csv,tv,fv,hvw,hvz⟩:=hvblk
 have h1c:∀x∈(cs.toList.drop (i*14)).take ((rows.length - i)*14),x.oneCell'=true:=by
  rw[hmid]
  intro x hx
  refine m1.one x ?_
  rw[<-B2 i cr,List.flatten_append]
  exact CD _ hx
 have h1v:∀x∈cv,x.oneCell'=true:=QnD cv1
 have hfl2:(cr.take i++cv::cr.drop i).flatten=(cr.take i).flatten++cv++(cr.drop i).flatten:=Ob
 have hrl:(rows.take i++row::rows.drop i).length=rows.length+1:=by simp;omega
 have hr14:∀r∈rows.take i++row::rows.drop i,r.length=14:=by
  intro r hr
  rcases Af.1 hr with hr|hr
  .exact m2 r (Bo hr)
  .rcases AZ.1 hr with rfl|hr
   .exact hrow
   .exact m2 r (Bp hr)
 have hall:=QyW (i:=i) m1 cv1
 have hfl3:(cr.take i++cv::cr.drop i).flatten.length=(rows.length+1)*14:=by rw[WU (hall.len hr14),hall.length,hrl]
 rw[hu0,h3,a1.1]
 have hblk:(ρ 101).blk=some b:=by
  have:(ρ 101).cap≠0:=U
  simp[Loc.blk,this,h3]
 have hown:∀(n:Name) (o:AO),AM.X n [(101,AO.TI 14 (rows.take i++row::rows.drop i))]=some o->n=101/\o=.TI 14 (rows.take i++row::rows.drop i):=fun n o hn=>by
  simp only[AM.X]at hn
  split at hn
  .rename_i e;cases hn;exact⟨e.symm,rfl⟩
  .simp at hn
 have fin:∀(ρ':Name->AM.Loc) (w':AG) (u:AE) (b':Nat) (T':AD) (A:Array AE),(ρ' 101).base=some ⟨b',0,none⟩->rows.length+1<=(ρ' 101).cap->(ρ' 101).cap*14<=A.size->w'.heap[b']?=some (.cells A T' (0,0))->
   A.toList.take ((rows.length+1)*14)=(cr.take i++cv::cr.drop i).flatten->(∀b1,b1<w.heap.size->newM M ρ' [(101,AO.TI 14 (rows.take i++row::rows.drop i))] b1->M b1)->Ext (fun b1=>b1=b) w w'->
   ((ρ' 101).blk=some b->(ρ 101).blk=some b\/w.heap.size<=b)->(∀b1,(ρ' 101).blk=some b1->b1=b\/w.heap.size<=b1)->u=.slice (ρ' 101).base (rows.length+1) (ρ' 101).cap->
   After ρ M w [(101,AO.TI 14 rows)] u (.own 101 (rows.length+1)) [(101,AO.TI 14 (rows.take i++row::rows.drop i))] ρ' w':=fun ρ' w' u b' T' A e1 e2 e3 e4 e5 e6 e7 _ e9 e10=>by
  have hst:=hall.step (ρ':=ρ') (H':=X2 [(101,AO.TI 14 (rows.take i++row::rows.drop i))]) (M':=newM M ρ' [(101,AO.TI 14 (rows.take i++row::rows.drop i))]) e7 (fun b1 hb1=>by rw[hb1];exact h4) e6
  refine⟨?_,?_,?_,?_,?_,?_⟩
  .simp only[AV.R]
   refine⟨by rw[e10];rfl,fun o es k hn hs=>?_⟩
   obtain⟨_,rfl⟩:=hown _ _ hn
   cases hs
   exact⟨U,fun _=>e10⟩
  .intro n o hn
   obtain⟨rfl,rfl⟩:=hown _ _ hn
   refine⟨U,by rw[hrl];exact e2,.inr ⟨b',T',A,e1,.inr ⟨101,_,rfl,?_⟩,e4,e3,?_⟩⟩
   .have:(ρ' 101).cap≠0:=U
    simp[Loc.blk,this,e1]
   .refine QbT hst hr14 fun j x hj=>?_
    have hj':j<(rows.length+1)*14:=by rw[<-hfl3];exact(Az.1 hj).1
    rw[<-e5,Ar,iB hj']at hj
    simpa [World.cell?,e4]using hj
  .intro n m o o' b1 hn hm _ _
   rw[(hown _ _ hn).1,(hown _ _ hm).1]
  .intro n o b1 hn hb1
   obtain⟨rfl,rfl⟩:=hown _ _ hn
   rcases e9 b1 hb1 with rfl|h
   .exact .inl ⟨_,rfl,hblk⟩
   .exact .inr h
  .exact e7.weaken fun b1 _ hb1=>⟨101,_,rfl,by rw[hb1];exact hblk⟩
  .intro n o hn
   have hn':n=101/\o=.TI 14 rows:=by
    simp only[AM.X]at hn
    split at hn
    .rename_i e;cases hn;exact⟨e.symm,rfl⟩
    .simp at hn
   obtain⟨rfl,rfl⟩:=hn'
   exact⟨_,rfl,rfl,by rw[hrl];omega,fun e=>by rw[hrl]at e;omega⟩
 by_cases hroom:rows.length+1<=(ρ 101).cap
 .refine(QwL b rows.length (ρ 101).cap i vb voff vc cs csv T tv fv cv w hi hroom hl hvb h5 h6 hcvl hvw hvz cv2 h1c h1v).mono ?_
  rintro e w' ⟨rfl,rfl⟩
  rw[hmid]
  have hml:(cr.drop i).flatten.length=(rows.length - i)*14:=by rw[WU fun r hr=>hlen r (Bp hr),Bg,hcrl]
  have hs1:(Qz cs.toList ((i+1)*14) (cr.drop i).flatten).toArray.size=cs.size:=by simp[Qz,hml];omega
  have hb1:=setRow_heap w.drew b cs (Qz cs.toList ((i+1)*14) (cr.drop i).flatten).toArray T (0,0) h5
  have hb2:=setRow_heap _ b _ (Qz (Qz cs.toList ((i+1)*14) (cr.drop i).flatten) (i*14) cv).toArray T (0,0) hb1
  refine⟨_,_,_,ρ,rfl,⟨rfl,rfl⟩,fin ρ _ _ b T _ h3 hroom ?_ hb2 ?_ ?_ ?_ (fun h=>.inl h) (fun b1 h=>.inl (by rw[hblk]at h;exact(Be h).symm)) (by rw[h3])⟩
  .refine AY h6 ?_;simp[Qz,hml,hcvl];omega
  .rw[C6,hfl2]
   have e1:(Qz cs.toList ((i+1)*14) (cr.drop i).flatten).take (i*14)=(cr.take i).flatten:=by
    unfold Qz
    rw[Aw,CZ (by simp;omega),Ca,CC U,hpre]
   have e2:(Qz cs.toList ((i+1)*14) (cr.drop i).flatten).drop (i*14+cv.length)=(cr.drop i).flatten++cs.toList.drop ((i+1)*14+(cr.drop i).flatten.length):=by
    unfold Qz
    rw[Aw,show i*14+cv.length=(cs.toList.take ((i+1)*14)).length by simp;omega,List.drop_left]
   show(List.take (i*14) _++cv++List.drop (i*14+cv.length) _).take _=_
   rw[e1,e2,<-Aw,CZ (by simp only[Ab,hml,hcvl];rw[<-hpre];simp;omega),Bf (by simp only[Ab,hml,hcvl];rw[<-hpre];simp;omega)]
  .rintro b1 _ (h|⟨n,o,hn,h⟩)
   .exact h
   .obtain⟨rfl,_⟩:=hown _ _ hn
    rw[hblk]at h
    rw[<-Be h];exact h4
  .refine⟨by simp[World.setRow],fun b1 _ hne=>?_,rfl,rfl⟩
   exact(setRow_other _ b b1 _ hne).trans (setRow_other _ b b1 _ hne)
 .refine(QyU b rows.length (ρ 101).cap i vb voff vc cs csv T tv fv cv w hi hcap U hl h5 h6 hcvl hvw cv2 h1c h1v).mono ?_
  rintro e w' ⟨G',A,rfl,g1,g2,g3,g4,g5⟩
  have hcap':(G':Nat)≠0:=U
  refine⟨_,_,_,(fun m=>if m=101 then⟨some ⟨w.heap.size,0,none⟩,G'⟩else ρ m),rfl,⟨rfl,rfl⟩,fin _ _ _ w.heap.size 83 A rfl g1 (EQ g2.symm) g4 ?_ ?_ ?_ ?_ ?_ rfl⟩
  .rw[g3,hfl2,hpre,hmid]
  .rintro b1 hb1 (h|⟨n,o,hn,h⟩)
   .exact h
   .obtain⟨rfl,_⟩:=hown _ _ hn
    have:w.heap.size=b1:=by simpa [Loc.blk,hcap']using h
    omega
  .exact g5.weaken fun b1 _ h=>h.elim
  .intro h
   have:w.heap.size=b:=by simpa [Loc.blk,hcap']using h
   exact .inr U
  .intro b1 h
   have:w.heap.size=b1:=by simpa [Loc.blk,hcap']using h
   exact .inr U
noncomputable section
def QD(fu:Nat)(p0:Y D.Page)(p1:Int)(p2:Y D.Page):I (Y D.Page):=
 if p1=(p0.length:Int)then XY fu p0 p1 p2 else TK p1 fun i=>TP i p0.length (TO p0.length 10000000 (match p2 with|[x]=>some (p0.take i++x::p0.drop i)|_=>none))
def QeJ(fu:Nat):Sig:=Qn [.one (.own 101),.one (.TZ .i64),.one (.TQ .Page)] [(101,.TI .Page)] [.one (.own 101)] [(101,.TI .Page)] [] (Y D.Page) (fun q=>((),(q,()))) (fun x y=>QD fu y.1 x.1 x.2.1)
def QdV(fu):FnOK Tryz.prog 284 (QeJ fu):=by
 refine⟨fun R x y K r h=>?_,fun x y a b h L0 hL0=>?_⟩
 .obtain⟨q,hq,h⟩:=Y5 h
  obtain⟨h',hle⟩:=QfB h
  refine⟨_,_,?_,h'⟩
  show O (QD fu y.1 x.1 x.2.1) _=_
  rw[show QD fu y.1 x.1 x.2.1=some q from hq]
  exact Qec h
 .obtain⟨j,vl,⟨⟩⟩:=x
  obtain⟨l,⟨⟩⟩:=y
  change Y D.Page at l
  change Y D.Page at vl
  change Int at j
  by_cases hj:j=(l.length:Int)
  .refine(QeI fu).spec (j,vl,()) (l,()) a b ?_ L0 hL0
   have e:QD fu l j vl=XY fu l j vl:=by unfold QD;rw[iB hj]
   have h':(O (QD fu l j vl) fun q=>lenB [(101,OSh.TI .Page)] (l,()) [(101,OSh.TI .Page)] (q,()) (some ((),(q,()))))=some (a,b):=h
   rw[e]at h'
   exact h'
  .obtain⟨q,hq,h⟩:=Y5 h
   obtain⟨h',_⟩:=QfB h
   obtain⟨rfl,rfl⟩:=C4 (Be h')
   replace hq:QD fu l j vl=some q:=hq
   unfold QD at hq
   rw[iA hj]at hq
   obtain⟨i,rfl,hq⟩:=Qa1 hq
   obtain⟨hi,hq⟩:=QiD hq
   obtain⟨hl,hq⟩:=ZY hq
   have hvl:∃x,vl=[x]:=by
    rcases vl with _|⟨x,_|⟨x2,r⟩⟩
    .exact absurd hq Ob
    .exact⟨x,rfl⟩
    .exact absurd hq Ob
   obtain⟨x,rfl⟩:=hvl
   replace hi:i<l.length:=hi
   replace hq:some (l.take i++x::l.drop i)=some q:=hq
   have hq:=Be hq
   have e0:L0 101 0=l.length:=hL0 101 _ _ 0 rfl
   have hlm:(l.map (tcells .Page)).length=l.length:=AX ..
   have hs:=QyX (rows:=l.map (tcells .Page)) (row:=tcells .Page x) (i:=i) false (hlm ▸ hi) (hlm ▸ hl) rfl
   have e1:(l.map (tcells .Page)).take i++tcells .Page x::(l.map (tcells .Page)).drop i=q.map (tcells .Page):=by rw[<-hq];simp
   have e2:(l.map (tcells .Page)).length+1=q.length:=by rw[<-hq];simp;omega
   rw[e1,e2,hlm,<-e0]at hs
   refine⟨fun m u=>if m=101/\u=1 then q.length else L0 m u,fun n hn=>?_,fun n t l' v hn=>?_,?_⟩
   .show(if n=101/\(0:Nat)=1 then q.length else L0 n 0)=L0 n 0
    rw[iA Ob]
   .change AM.X n [(101,BO.TI .Page q 1)]=_ at hn
    simp only[AM.X]at hn
    split at hn
    .rename_i e;cases hn;exact iB ⟨e.symm,rfl⟩
    .simp at hn
   .exact hs
end
end Go.Proofs.YtlllfgmajglnhaaGreat
