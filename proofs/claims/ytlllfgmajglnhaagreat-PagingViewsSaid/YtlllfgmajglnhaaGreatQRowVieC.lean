/-
  The typed layer, part M: code does what is reckoned of it. No project text.
-/
import Derived.Test.YtlllfgmajglnhaaGreatQRowVieB
import Derived.Test.YtlllfgmajglnhaaGreatProg
import Derived.RangeFuncNested
import Derived.RangeFuncBound
import Derived.RangeFuncCalls
import Derived.RangeFuncLeaves
import Derived.Shelf.Abstract
import Derived.Shelf.RegionOpen
import Derived.WalkKit
import Derived.OwnWalkIn
import Derived.TacticsInMore
import Derived.LoopNIn
import Derived.LoopIn
import Derived.Scope
import Derived.Shelf.Spec.SlicesInsertGrow
set_option linter.defProp false
set_option linter.constructorNameAsVariable false
set_option linter.unusedVariables false
set_option linter.unusedSimpArgs false
set_option autoImplicit true
set_option relaxedAutoImplicit true
namespace Go.Proofs.YtlllfgmajglnhaaGreat.AM
open Go
section
def TJ.drawG{id:Nat}(hn:Γ.n=n)(hmode:(P.follows .mixedOrders || !Region.departs ops)=true)(L)(hst:Vv P ops 0 L)(hg:got n L ts hs=(Qab L,Qaa L,true,ts',hs'))(hind:indep ops L ts hs=true)(hQ:Q .normal (mk ts' hs')):TJ P Γ (.region id ops true) (mk ts hs) Q:=by
 intro ρ M a w hsim
 refine wp_region_draw fun t=>?_
 have hsch:Region.schedule (P.follows .mixedOrders) ops t=Region.linearise .any ops t:=by
  unfold Region.schedule;rw[hmode];rfl
 rw[hsch]
 refine wpAny_sound ops.size t _ a _ ?_
 refine QqX hn hst (by rw[hg]) (by rw[hg]) (by rw[hg]) hind (Q:=fun e a' w'=>∃s' ρ' M',Q e s'/\Sim Γ ρ' M' s' a' w') (fun ρ' M' a' w' hs=>⟨_,ρ',M',hQ,by rw[hg]at hs;exact hs⟩)
  ops.size (Array.replicate ops.size false) a _ ρ M Ob (fun i o hi hl=>by simp[BJ,Bv]at hl;split at hl<;>simp at hl) ?_ ?_
 .have:∀(f:Nat->AH) k,cnt f k<=k:=by
   intro f k
   induction k with
   |zero=>exact AP _
   |succ k ih=>simp only[cnt];split<;>omega
  exact this _ _
 .refine hsim.drew.congr (fun t=>?_) (fun m=>?_)
  .have:=Qai (E:=fun i=>VL L i) (D:=fun i=>(Array.replicate ops.size false).getD i false) (s:=mk ts hs) (t:=t) (i:=0) L.length U (fun j _ _ _=>by
    simp only[BJ,Bv];split<;>rfl)
   exact this
  .have:=VV (E:=fun i=>VL L i) (D:=fun i=>(Array.replicate ops.size false).getD i false) (s:=mk ts hs) (m:=m) (i:=0) L.length U (fun j _ _ _=>by
    simp only[BJ,Bv];split<;>rfl)
   exact this
def TJ.drawX{id:Nat}(hn:Γ.n=n)(hmode:(P.follows .mixedOrders || !Region.departs ops)=true)(h0:0<ops.size)(L)(hst:QdC P ops (ops.size - 1) 0 L)(hg:got n L ts hs=(Qab L,Qaa L,true,ts',hs'))(hind:indep ops (L++[QdK]) ts hs=true)(hm:∀j,j<ops.size - 1->((masks ops.toList []).getD (ops.size - 1) 0).testBit j=true)(hlast:∀(K:Act->AG->Prop),(∀s' ρ' M' a' w',Q .normal s'->Sim Γ ρ' M' s' a' w'->K a' w')->∀ρ M a w,Sim Γ ρ M (mk ts' hs') a w->
   wpOp P ops (fun e a' w'=>∃s' ρ' M',Q e s'/\Sim Γ ρ' M' s' a' w') (ops.size - 1) K a w):TJ P Γ (.region id ops true) (mk ts hs) Q:=by
 obtain⟨hsteps,hsize⟩:=Qkp hst
 have hlen:(L++[QdK]).length=ops.size:=by simp;omega
 have hL:L.length=ops.size - 1:=U
 intro ρ M a w hsim
 refine wp_region_draw fun t=>?_
 have hsch:Region.schedule (P.follows .mixedOrders) ops t=Region.linearise .any ops t:=by
  unfold Region.schedule;rw[hmode];rfl
 rw[hsch]
 refine wpAny_sound ops.size t _ a _ ?_
 have hgn:=QrD n L ts hs
 refine Qof (L:=L++[QdK]) true hn (Q:=fun e a' w'=>∃s' ρ' M',Q e s'/\Sim Γ ρ' M' s' a' w') (fun i y hi hlt=>?_) hlen.symm (by rw[hgn,hg,Qny]) (by rw[hgn,hg,Qnx]) (by rw[hgn,hg]) hind
  (fun _=>?_) (fun h=>by simp at h) ops.size (Array.replicate ops.size false) a _ ρ M Ob (fun _=>by
   simp only[BJ,Bv];split<;>rfl) (fun i o hi hl=>by simp[BJ,Bv]at hl;split at hl<;>simp at hl) ?_ ?_
 .grind
 .grind
 .have:∀(f:Nat->AH) k,cnt f k<=k:=by
   intro f k
   induction k with
   |zero=>exact AP _
   |succ k ih=>simp only[cnt];split<;>omega
  exact this _ _
 .refine hsim.drew.congr (fun t=>?_) (fun m=>?_)
  .have:=Qai (E:=fun i=>VL (L++[QdK]) i) (D:=fun i=>(Array.replicate ops.size false).getD i false) (s:=mk ts hs) (t:=t) (i:=0) (L++[QdK]).length U (fun j _ _ _=>by
    simp only[BJ,Bv];split<;>rfl)
   exact this
  .have:=VV (E:=fun i=>VL (L++[QdK]) i) (D:=fun i=>(Array.replicate ops.size false).getD i false) (s:=mk ts hs) (m:=m) (i:=0) (L++[QdK]).length U (fun j _ _ _=>by
    simp only[BJ,Bv];split<;>rfl)
   exact this
variable {L L':Lens} {ts ts':TS} {hs hs':HS}
def QBH(h:erT L ts=erT L' ts)(hm:(t,v)∈ts):v.er L=v.er L':=by
 unfold erT at h
 have:=(EN.1 h) _ hm
 simpa using this
def Qxh(h:erH L hs=erH L' hs)(hm:(t,v)∈hs):v.er L=v.er L':=by
 unfold erH at h
 have:=(EN.1 h) _ hm
 simpa using this
def QBJ(h:erT L ts=erT L' ts)(hs:∀t v,(t,v)∈rd->C t ts=some v):erT L rd=erT L' rd:=by
 unfold erT
 exact Bo fun p hp=>by rw[QBH h (Q4 (hs p.1 p.2 hp))]
def QBG(h:erH L hs=erH L' hs)(hsub:∀t v,(t,v)∈hp->C t hs=some v):erH L hp=erH L' hp:=by
 unfold erH
 exact Bo fun p hp=>by rw[Qxh h (Q4 (hsub p.1 p.2 hp))]
def QBF(h:erH L (a++b)=erH L' (a++b)):erH L a=erH L' a/\erH L b=erH L' b:=by
 rw[QgJ,QgJ]at h
 exact List.append_inj h (by simp[erH])
def QBI(h:erT L (TX d v ts)=erT L' (TX d v ts))(ha:anyB d v=true):erT L ts=erT L' ts/\v.er L=v.er L':=by
 cases d with
 |some d=>
  simp only[TX,erT,AR,Cs,BK,true_and]at h
  exact⟨h.2,h.1⟩
 |none=>
  refine⟨h,?_⟩
  cases v<;>first|rfl|simp[anyB]at ha
section
variable {R:Type} {r:R} {P:AF} {ty:AD->I TC} {E:Env} {nn:Nat}
def Quq{ts:Y (Nat×AV)}{hs:Y (Name×AO)}{ts':Y (Nat×AV)}{hs':Y (Name×AO)}(h1:∀t x,(t,x)∈e.rd->C t ts=some x)(h2:∀n o,(n,o)∈e.hp->C n hs=some o)(hd:QcI nn d=true)(hnw:QrQ e ts hs=true)(h:got nn rows (putT ts d e) (e.upd++hs)=(Qab rows,Qaa rows,true,ts',hs')):got nn ((d,e)::rows) ts hs=(Qab ((d,e)::rows),Qaa ((d,e)::rows),true,ts',hs'):=by
 simp only[got,h,Qab,Qaa,hd,hnw,Bool.and_self]
 have e1:e.rd.map (fun p=>C p.1 ts)=e.rd.map (fun p=>some p.2):=Bo fun p hp=>h1 p.1 p.2 hp
 have e2:e.hp.map (fun p=>C p.1 hs)=e.hp.map (fun p=>some p.2):=Bo fun p hp=>h2 p.1 p.2 hp
 rw[e1,e2]
def QgG(hE:QqS P E):∀(f i:Nat) (acc:Y BRow) (ts:TS) (hs:HS) (L:Lens),QjS P ty E nn ops sp mm K f i acc ts hs=some r->Inv L hs->
  ∃rows ts' hs' L',K (acc.reverse++rows) ts' hs'=some r/\Inv L' hs'/\QdC P ops mm i (rows.map (BRow.row L'))/\erT L ts=erT L' ts/\erH L hs=erH L' hs/\
   got nn (rows.map (BRow.row L')) (erT L' ts) (erH L' hs)=(Qab (rows.map (BRow.row L')),Qaa (rows.map (BRow.row L')),true,erT L' ts',erH L' hs')
 |0,i,acc,ts,hs,L,h,hi=>by
  simp only[QjS]at h
  split at h
  .rename_i e
   exact⟨[],ts,hs,L,by simpa using h,hi,nbe e,rfl,rfl,by simp only[Ak,got,Qab,Qaa]⟩
  .simp at h
 |f+1,i,acc,ts,hs,L,h,hi=>by
  simp only[QjS]at h
  split at h
  .simp at h
  .rename_i o hop
   have hdo:∀(x:TS),(∀t v,(t,v)∈x->C t ts=some v)->(∀e':Eff,(∀p,p∈x->(p.1,p.2.er L)∈e'.rd)->TD P o e'->ZP P ops i o.dst e')->
     opK P ty E sp nn x o ts hs (fun e ts' hs'=>if anyB o.dst e.v then QjS P ty E nn ops sp mm K f (i+1) ((o.dst,x++rdB ts o.op.operands.toList,e)::acc) ts' hs' else none)=some r->
     ∃rows ts' hs' L',K (acc.reverse++rows) ts' hs'=some r/\Inv L' hs'/\QdC P ops mm i (rows.map (BRow.row L'))/\erT L ts=erT L' ts/\erH L hs=erH L' hs/\
      got nn (rows.map (BRow.row L')) (erT L' ts) (erH L' hs)=(Qab (rows.map (BRow.row L')),Qaa (rows.map (BRow.row L')),true,erT L' ts',erH L' hs'):=fun x hx hstp h=>by
    obtain⟨e,L1,hst,hd,h⟩:=QuI hE hx h hi
    split at h
    case isFalse=>simp at h
    rename_i hany
    obtain⟨rows,ts',hs',L',k1,k2,k3,k4,k5,k6⟩:=QgG (sp:=sp) (mm:=mm) (ops:=ops) (K:=K) hE f (i+1) _ _ _ L1 h hst.inv
    obtain⟨p1,p2⟩:=QBI k4 hany
    obtain⟨q1,q2⟩:=QBF k5
    have hts:erT L ts=erT L' ts:=hst.ets.trans p1
    have hhs:erH L hs=erH L' hs:=hst.ehs.trans q2
    have hrd:=QBJ hts hst.rds
    have hhp:=QBG hhs hst.hps
    have hok:=hst.ok
    rw[p2,q1]at hok
    refine⟨(o.dst,x++rdB ts o.op.operands.toList,e)::rows,ts',hs',L',by simpa using k1,k2,⟨?_,k3⟩,hts,hhs,?_⟩
    .have:=hstp _ (fun p hp=>BT.2 ⟨p,C2 _ hp,rfl⟩) hok
     simp only[BRow.row,<-hrd,<-hhp];exact this
    .simp only[AR]
     refine Quq (fun t y hy=>?_) (fun n ob hy=>?_) hd ?_ ?_
     .simp only[BRow.row,erT,BT]at hy
      obtain⟨⟨t',v⟩,hm,he⟩:=hy
      cases he
      rw[Uy,hst.rds _ _ hm];rfl
     .simp only[BRow.row,erH,BT]at hy
      obtain⟨⟨t',v⟩,hm,he⟩:=hy
      cases he
      rw[ZL,hst.hps _ _ hm];rfl
     .have hnew:=hst.new
      unfold QzS at hnew
      simp only[QrQ,BRow.row,Qen,Qep]
      refine AW.2 fun n hn=>?_
      have:=AW.1 hnew n hn
      simp only[bae]at this |-
      refine⟨⟨?_,this.1.2⟩,this.2⟩
      rw[ZL]
      cases hl:C n hs with
      |none=>rfl
      |some y=>rw[hl]at this;simp at this
     .have e3:∀t1 h1,t1=erT L' (TX o.dst e.v ts)->h1=erH L' (e.upd++hs)->got nn (rows.map (BRow.row L')) t1 h1=(Qab (rows.map (BRow.row L')),Qaa (rows.map (BRow.row L')),true,erT L' ts',erH L' hs'):=fun t1 h1 a b=>by rw[a,b];exact k6
      exact e3 _ _ (by show putT (erT L' ts) o.dst _=_;cases o.dst<;>rfl) (by rw[QgJ])
   have hskip:∀{j:Nat} {b:AH} {g:Nat} {v:BV},o.guard=some (j,b)->(ops[j]?).bind (·.dst)=some g->C g ts=some v->(v=.b (!b)\/v=.tup [])->
     (if QcI nn o.dst then QjS P ty E nn ops sp mm K f (i+1) ((o.dst,[(g,v)],ev (.tup []))::acc) (TX o.dst (.tup []) ts) hs else none)=some r->
     ∃rows ts' hs' L',K (acc.reverse++rows) ts' hs'=some r/\Inv L' hs'/\QdC P ops mm i (rows.map (BRow.row L'))/\erT L ts=erT L' ts/\erH L hs=erH L' hs/\
      got nn (rows.map (BRow.row L')) (erT L' ts) (erH L' hs)=(Qab (rows.map (BRow.row L')),Qaa (rows.map (BRow.row L')),true,erT L' ts',erH L' hs'):=fun{j b g v} hg hj hl hv h=>by
    split at h
    case isFalse=>simp at h
    rename_i hd
    obtain⟨rows,ts',hs',L',k1,k2,k3,k4,k5,k6⟩:=QgG (sp:=sp) (mm:=mm) (ops:=ops) (K:=K) hE f (i+1) _ _ _ L h hi
    have hts:erT L ts=erT L' ts:=by
     cases hdd:o.dst with
     |none=>rw[hdd]at k4;exact k4
     |some d=>rw[hdd]at k4;simp only[TX,erT,AR,Cs]at k4;exact k4.2
    obtain⟨oj,h1,h2⟩:=Us hj
    refine⟨(o.dst,[(g,v)],ev (.tup []))::rows,ts',hs',L',by simpa using k1,k2,⟨?_,k3⟩,hts,k5,?_⟩
    .rcases hv with rfl|rfl
     .exact ZP.skipped hop hg h1 h2
     .exact ZP.skipped2 hop hg h1 h2
    .simp only[AR]
     refine Quq (fun t y hy=>?_) (fun n ob hy=>?_) hd ?_ ?_
     .simp only[BRow.row,erT,AR,Ak,Ae,BK]at hy
      obtain⟨rfl,rfl⟩:=hy
      rw[Uy,hl];rfl
     .simp[BRow.row,ev,erH]at hy
     .simp[QrQ,BRow.row,ev]
     .have e3:∀t1 h1,t1=erT L' (TX o.dst (.tup []) ts)->h1=erH L' hs->got nn (rows.map (BRow.row L')) t1 h1=(Qab (rows.map (BRow.row L')),Qaa (rows.map (BRow.row L')),true,erT L' ts',erH L' hs'):=fun t1 h1 a b=>by rw[a,b];exact k6
      exact e3 _ _ (by show putT (erT L' ts) o.dst _=_;cases o.dst<;>rfl) rfl
   have hgd:∀{j:Nat} {b:AH} {g:Nat},o.guard=some (j,b)->(ops[j]?).bind (·.dst)=some g->∀e':Eff,(∀p:Nat×BV,p∈[(g,BV.b b)]->(p.1,p.2.er L)∈e'.rd)->TD P o e'->ZP P ops i o.dst e':=fun{j b g} hg hj e' hm hok=>by
    obtain⟨oj,h1,h2⟩:=Us hj
    have:=hm (g,BV.b b) Ob
    simp only[BV.er]at this
    exact ZP.guarded hop hg h1 h2 this hok
   have hx1:∀{g:Nat} {b:AH},C g ts=some (.b b)->∀t v,(t,v)∈[(g,BV.b b)]->C t ts=some v:=fun hl t v hm=>by
    grind
   split at h
   .rename_i hg
    exact hdo [] (fun t v hm=>by simp at hm) (fun e' _ hok=>ZP.plain hop hg hok) h
   .rename_i j b hg
    split at h
    .simp at h
    .rename_i g hj
     split at h
     .rename_i q hl
      rcases QiB h with⟨rfl,h⟩|⟨rfl,h⟩
      .grind
      .grind
     .grind
     .simp at h
mutual
def QAU:∀x:AV,x.ren (fun n=>n)=x
 |.p _=>by simp only[AV.ren]
 |.agg cs=>by simp only[AV.ren,Qgm cs]
 |.TN _ _=>by simp only[AV.ren]
 |.own _ _=>by simp only[AV.ren]
 |.aref _ _ _ _=>by simp only[AV.ren]
 |.view _ _ _ _=>by simp only[AV.ren]
 |.cut _ _ _=>by simp only[AV.ren]
 |.eptr _=>by simp only[AV.ren]
 |.tup vs=>by simp only[AV.ren,Qgm vs]
 |.clo f a c=>by simp only[AV.ren,Qgm a,Qgm c]
 |.oref _ _=>by simp only[AV.ren]
 |.err _=>by simp only[AV.ren]
 |.ub=>by simp only[AV.ren]
 |.any=>by simp only[AV.ren]
def Qgm:∀l:Y AV,renL (fun n=>n) l=l
 |[]=>by simp only[renL]
 |x::r=>by simp only[renL,QAU x,Qgm r]
end
def QsH(h:QBR σ=true):Fit (fun n=>n) (QjC σ) σ:=fun nm m hm=>by
 have:=AW.1 h _ hm
 simp only[bae]at this
 refine⟨nbe this.1,?_⟩
 unfold QjC;rw[Qmw this.2]
def Qxo(h:getS gn s o ts hs K=some r)(hi:Inv L hs):
  ∃x L',K x=some r/\Inv L' (OL.put 0 o x.2)/\SLe L ts hs L' (STL.put 0 s x.1) (OL.put 0 o x.2)/\∀n,n∈gn->C n (OL.put 0 o x.2)≠none:=by
 obtain⟨σ1,x,h,hs1,g1⟩:=STL.get_some h
 obtain⟨σ2,y,h,hs2,g2⟩:=OL.get_some h
 split at h
 case isFalse=>simp at h
 rename_i hid
 simp only[bae]at hid
 have hf2:=QsH hid.1
 have hf1:Fit (fun n=>n) (QjC σ2) σ1:=hf2.mono fun p hp=>hs2 p (CD _ hp)
 refine⟨(x,y),Qbr L (fun n=>n) (QjC σ2),h,fun n t l v hn=>?_,⟨fun t b hb=>?_,fun n cs' hn=>?_,fun n t l v hn=>?_,fun n es hn=>?_⟩,fun n hn hc=>?_⟩
 .obtain⟨a,ha,hle⟩:=g2 _ _ L hf2 n _ hn
  rcases hle with⟨cs,ds,_,h2,_⟩|⟨t',l',rfl,h2⟩|⟨es,_,h2⟩
  .cases h2
  .cases h2;exact hi n t l _ ha
  .cases h2
 .obtain⟨a,ha,hle⟩:=g1 _ _ L hf1 t b hb
  rw[QAU]at hle
  exact⟨a,ha,hle⟩
 .obtain⟨a,ha,hle⟩:=g2 _ _ L hf2 n _ hn
  rcases hle with⟨cs,ds,rfl,h2,h3⟩|⟨t',l',rfl,h2⟩|⟨es,_,h2⟩
  .cases h2;rw[Qgm]at h3;exact⟨cs,ha,h3.1⟩
  .cases h2
  .cases h2
 .obtain⟨a,ha,hle⟩:=g2 _ _ L hf2 n _ hn
  rcases hle with⟨cs,ds,_,h2,_⟩|⟨t',l',rfl,h2⟩|⟨es,_,h2⟩
  .cases h2
  .cases h2;exact⟨_,ha⟩
  .cases h2
 .obtain⟨a,ha,hle⟩:=g2 _ _ L hf2 n _ hn
  rcases hle with⟨cs,ds,_,h2,_⟩|⟨t',l',rfl,h2⟩|⟨es,rfl,h2⟩
  .cases h2
  .cases h2
  .cases h2;exact ha
 .have:=Wa.1 (AW.1 hid.2 n hn)
  obtain⟨b,hb⟩:=QgL (u:=0) (y:=y) this
  simp_all
def QuB:∀(l:Y (Nat×AV)),∃l',(∀k,C k l'=C k l)/\l'.map (fun p=>C p.1 l)=l'.map (fun p=>some p.2):=by
  intro l
  induction l with
  |nil=>exact⟨[],fun _=>rfl,rfl⟩
  |cons p l ih=>
   obtain⟨l',g1,g2⟩:=ih
   refine⟨p::(l'.filter fun q=>!(q.1 == p.1)),fun k=>?_,?_⟩
   .simp only[C]
    split
    .rfl
    .rename_i hne
     rw[<-g1]
     clear g1 g2
     induction l' with
     |nil=>rfl
     |cons q l' ih=>
      by_cases hq:q.1=p.1
      .rw[Ex (by simp[hq]),ih]
       simp only[C]
       simp_all
      .rw[Ew (by simp[hq])]
       simp only[C]
       simp_all
   .simp only[AR,C,if_true]
    congr 1
    refine Bo fun q hq=>?_
    have hq':=Bk.1 hq
    have hne:¬p.1=q.1:=fun e=>by have:=hq'.2;rw[e]at this;simp at this
    rw[iA hne]
    exact(EN.1 g2) q hq'.1
def QAn(hm:C t ts=some (.agg cells))(hj:cells[j]?=some v)(hv:∀L,v.er L=.p (.sl true es0 []))(hb:(C nm hs).isNone=true)(hf:Qfj nm ts hs=true)(ht:Nat.ble 1 (tz tc)=true)(hi:Inv L hs):
  ∃L',Inv L' ((nm,.TI tc [] 0)::hs)/\Weak Γ (BS L ts hs) (BS L' ((t,.agg (cells.set j (.own nm 0)))::ts) ((nm,.TI tc [] 0)::hs)):=by
 let L1:Lens:=fun n u=>if n=nm then 0 else L n u
 have hnm:C nm hs=none:=Bi.1 hb
 obtain⟨e1,e2⟩:=QfK (L:=L) (L':=L1) (nw:=[nm]) (nv:=[]) (ts:=ts) (hs:=hs) (fun n hn=>by simp only[Ae]at hn;subst hn;exact hf) (fun p hp=>by simp at hp) (fun n u hn _=>iA (by simpa using hn))
 have ec:erL L cells=erL L1 cells:=by
  have h1:C t (erT L ts)=C t (erT L1 ts):=by rw[e1]
  rw[Uy,Uy,hm,Aa,Aa]at h1
  simp only[BV.er,AN,AV.agg.injEq]at h1
  exact h1
 have hi1:Inv L1 ((nm,.TI tc [] 0)::hs):=fun n t' l u hn=>by
  simp only[C]at hn
  split at hn
  .grind
  .rename_i e;show(if n=nm then 0 else L n u)=_;rw[iA (Aj e)];exact hi n t' l u hn
 refine⟨L1,hi1,fun ρ M a w hs0=>?_⟩
 obtain⟨l',g1,g2⟩:=QuB ((t,AV.agg ((erL L cells).set j (.own nm 0)))::erT L ts)
 have hw:=Weak.thawA (Γ:=Γ) (ts:=erT L ts) (ts':=l') (hs:=erH L hs) (t:=t) (j:=j) (es0:=es0) (es:=tz tc) (n:=nm) (cells:=erL L cells) ht (by rw[Uy,hm,Aa];simp only[BV.er])
  (by rw[QjU,hj,Aa,hv L]) (by rw[ZL,hnm];rfl) (by rw[Qen];exact hf) g2
 obtain⟨ρ',M',hs1⟩:=hw ρ M a w hs0
 refine⟨ρ',M',hs1.congr (fun k=>?_) (fun k=>?_)⟩
 .show C k (erT L1 ((t,.agg (cells.set j (.own nm 0)))::ts))=C k l'
  rw[g1]
  have:erL L1 (cells.set j (.own nm 0))=(erL L cells).set j (.own nm 0):=by
   rw[ec,Ut,Ut,List.map_set]
   simp only[BV.er,show L1 nm 0=0 from iB rfl]
  show C k ((t,(BV.agg (cells.set j (.own nm 0))).er L1)::erT L1 ts)=_
  simp only[BV.er,this,<-e1]
 .show C k (erH L1 ((nm,.TI tc [] 0)::hs))=C k ((nm,.TI (tz tc) [])::erH L hs)
  show C k ((nm,(BO.TI tc [] 0).er L1)::erH L1 hs)=_
  simp only[BO.er,Ak,<-e2]
def Qec:∀{l:Y Sh} {j:Nat} {ts:TS} {hs:HS} {L:Lens} {K:TS->HS->I R},thawA o t j l ts hs K=some r->Inv L hs->
  ∃ts' hs' L',K ts' hs'=some r/\Inv L' hs'/\Weak Γ (BS L ts hs) (BS L' ts' hs')
 |[],j,ts,hs,L,K,h,hi=>⟨ts,hs,L,h,hi,Weak.refl _ _⟩
 |s::l,j,ts,hs,L,K,h,hi=>by
  have hth:∀{nm:Name} {tc:TC} {v:BV} {es0:Nat} {cells:Y BV},C t ts=some (.agg cells)->cells[j]?=some v->(∀L,v.er L=.p (.sl true es0 []))->
    (if (C nm hs).isNone && Qfj nm ts hs && Nat.ble 1 (tz tc)then thawA o t (j+1) l ((t,.agg (cells.set j (.own nm 0)))::ts) ((nm,.TI tc [] 0)::hs) K else none)=some r->
    ∃ts' hs' L',K ts' hs'=some r/\Inv L' hs'/\Weak Γ (BS L ts hs) (BS L' ts' hs'):=fun{nm tc v es0 cells} hm hj hv h=>by
   split at h
   case isFalse=>simp at h
   rename_i hb
   simp only[bae]at hb
   obtain⟨L1,hi1,hw1⟩:=QAn (Γ:=Γ) hm hj hv hb.1.1 hb.1.2 hb.2 hi
   obtain⟨ts',hs',L',k1,k2,k3⟩:=Qec h hi1
   exact⟨ts',hs',L',k1,k2,Weak.trans hw1 k3⟩
  unfold thawA at h
  split at h
  .rename_i heq;cases heq
  .rename_i nm r0 heq
   cases heq
   split at h
   .rename_i cells hm
    split at h
    .rename_i tc hj ho;exact hth (es0:=0) hm hj (fun L=>by simp only[BV.er]) h
    .rename_i t0 tc hj ho;exact hth (es0:=tz t0) hm hj (fun L=>by simp only[BV.er,Ak]) h
    .exact Qec h hi
   .exact Qec h hi
  .rename_i heq;cases heq;exact Qec h hi
def Qb8:∀{s:Y (Nat×SSh)} {ts:TS} {hs:HS} {L:Lens} {K:TS->HS->I R},Qn4 o s ts hs K=some r->Inv L hs->
  ∃ts' hs' L',K ts' hs'=some r/\Inv L' hs'/\Weak Γ (BS L ts hs) (BS L' ts' hs')
 |[],ts,hs,L,K,h,hi=>⟨ts,hs,L,h,hi,Weak.refl _ _⟩
 |p::s,ts,hs,L,K,h,hi=>by
  obtain⟨t,sh⟩:=p
  have hth:∀{nm:Name} {tc:TC} {v:BV} {es0:Nat},C t ts=some v->(∀L,v.er L=.p (.sl true es0 []))->
    (if (C nm hs).isNone && Qfj nm ts hs && Nat.ble 1 (tz tc)then Qn4 o s ((t,.own nm 0)::ts) ((nm,.TI tc [] 0)::hs) K else none)=some r->
    ∃ts' hs' L',K ts' hs'=some r/\Inv L' hs'/\Weak Γ (BS L ts hs) (BS L' ts' hs'):=fun{nm tc v es0} hv hv2 h=>by
   split at h
   case isFalse=>simp at h
   rename_i hb
   simp only[bae,Bi]at hb
   let L1:Lens:=fun n u=>if n=nm then 0 else L n u
   obtain⟨e1,e2⟩:=QfK (L:=L) (L':=L1) (nw:=[nm]) (nv:=[]) (ts:=ts) (hs:=hs) (fun n hn=>by simp only[Ae]at hn;subst hn;exact hb.1.2) (fun p hp=>by simp at hp) (fun n u hn _=>iA (by simpa using hn))
   have hi1:Inv L1 ((nm,.TI tc [] 0)::hs):=fun n t' l u hn=>by
    simp only[C]at hn
    split at hn
    .rename_i e;subst e;cases hn;exact iB rfl
    .rename_i e;show(if n=nm then 0 else L n u)=_;rw[iA (Aj e)];exact hi n t' l u hn
   obtain⟨ts',hs',L',k1,k2,k3⟩:=Qb8 (Γ:=Γ) h hi1
   refine⟨ts',hs',L',k1,k2,Weak.trans ?_ k3⟩
   obtain⟨l',g1,g2⟩:=QuB ((t,.own nm 0)::erT L ts)
   have hw:=Weak.thaw (Γ:=Γ) (ts:=erT L ts) (ts':=l') (hs:=erH L hs) (t:=t) (es0:=es0) (es:=tz tc) (n:=nm) hb.2 (by rw[Uy,hv,Aa,hv2 L]) (by rw[ZL,hb.1.1];rfl) (by rw[Qen];exact hb.1.2) g2
   refine fun ρ M a w hs0=>?_
   obtain⟨ρ',M',hs1⟩:=hw ρ M a w hs0
   refine⟨ρ',M',hs1.congr (fun k=>?_) (fun k=>?_)⟩
   .show C k (erT L1 ((t,.own nm 0)::ts))=C k l'
    rw[g1]
    show C k ((t,(BV.own nm 0).er L1)::erT L1 ts)=_
    simp only[BV.er,show L1 nm 0=0 from iB rfl,<-e1]
   .show C k (erH L1 ((nm,.TI tc [] 0)::hs))=C k ((nm,.TI (tz tc) [])::erH L hs)
    show C k ((nm,(BO.TI tc [] 0).er L1)::erH L1 hs)=_
    simp only[BO.er,Ak,<-e2]
  unfold Qn4 at h
  split at h
  .rename_i t1 l1 r0 heq
   cases heq
   obtain⟨ts1,hs1,L1,h,hi1,hw1⟩:=Qec (Γ:=Γ) h hi
   obtain⟨ts2,hs2,L2,h,hi2,hw2⟩:=Qb8 (Γ:=Γ) h hi1
   exact⟨ts2,hs2,L2,h,hi2,Weak.trans hw1 hw2⟩
  .rename_i nm r0 heq
   split at h
   .rename_i tc hv ho
    cases heq
    exact hth (es0:=0) hv (fun L=>by simp only[BV.er]) h
   .rename_i t0 tc hv ho
    cases heq
    exact hth (es0:=tz t0) hv (fun L=>by simp only[BV.er,Ak]) h
   .cases heq;exact Qb8 h hi
  .rename_i heq;cases heq;exact Qb8 h hi
  .rename_i heq;cases heq
def QyI(hm:C m hs=some (.box cells))(hj:cells[j]?=some v)(hv:∀L,v.er L=.p (.sl true es0 []))(hb:(C nm hs).isNone=true)(hf:Qfj nm ts hs=true)(ht:Nat.ble 1 (tz tc)=true)(hi:Inv L hs):
  ∃L',Inv L' ((m,.box (cells.set j (.own nm 0)))::(nm,.TI tc [] 0)::hs)/\Weak Γ (BS L ts hs) (BS L' ts ((m,.box (cells.set j (.own nm 0)))::(nm,.TI tc [] 0)::hs)):=by
 let L1:Lens:=fun n u=>if n=nm then 0 else L n u
 have hnm:C nm hs=none:=Bi.1 hb
 have hne:m≠nm:=fun e=>by subst e;rw[hnm]at hm;simp at hm
 obtain⟨e1,e2⟩:=QfK (L:=L) (L':=L1) (nw:=[nm]) (nv:=[]) (ts:=ts) (hs:=hs) (fun n hn=>by simp only[Ae]at hn;subst hn;exact hf) (fun p hp=>by simp at hp) (fun n u hn _=>iA (by simpa using hn))
 have ec:erL L cells=erL L1 cells:=by
  have:=Qxh e2 (Q4 hm)
  simp only[BO.er,AO.box.injEq]at this
  exact this
 refine⟨L1,fun n t' l u hn=>?_,fun ρ M a w hs0=>?_⟩
 .simp only[C]at hn
  split at hn
  .cases hn
  .split at hn
   .grind
   .rename_i e;show(if n=nm then 0 else L n u)=_;rw[iA (Aj e)];exact hi n t' l u hn
 .have hs1:Sim Γ ρ M (mk (erT L ts) ((m,.box (erL L cells))::erH L hs)) a w:=hs0.congr (fun k=>rfl) (fun k=>by
   show C k ((m,AO.box (erL L cells))::erH L hs)=C k (erH L hs)
   simp only[C]
   split
   .rename_i e;subst e;rw[ZL,hm];rfl
   .rfl)
  have hfree:Qe8 nm (erT L ts) ((m,.box (erL L cells))::erH L hs)=true:=by
   have h1:=hf
   rw[<-Qen (L:=L)]at h1
   simp only[Qe8,bae,BW]at h1 |-
   have h2:=AW.1 h1.2 _ (show(m,AO.box (erL L cells))∈erH L hs from Q4 (by rw[ZL,hm];rfl))
   exact⟨h1.1,h2,h1.2⟩
  obtain⟨ρ',M',hs2⟩:=Weak.thawCell (Γ:=Γ) (ts:=erT L ts) (hs':=erH L hs) (m:=m) (j:=j) (es0:=es0) (es:=tz tc) (n:=nm) (cells:=erL L cells) ht rfl (by rw[QjU,hj,Aa,hv L])
   (by simp only[C,iA hne,ZL,hnm];rfl) hfree rfl ρ M a w hs1
  refine⟨ρ',M',hs2.congr (fun k=>?_) (fun k=>?_)⟩
  .show C k (erT L1 ts)=C k (erT L ts)
   rw[e1]
  .show C k (erH L1 ((m,.box (cells.set j (.own nm 0)))::(nm,.TI tc [] 0)::hs))=C k ((m,.box ((erL L cells).set j (.own nm 0)))::(nm,.TI (tz tc) [])::erH L hs)
   have:erL L1 (cells.set j (.own nm 0))=(erL L cells).set j (.own nm 0):=by
    rw[ec,Ut,Ut,List.map_set]
    simp only[BV.er,show L1 nm 0=0 from iB rfl]
   show C k ((m,AO.box (erL L1 (cells.set j (.own nm 0))))::(nm,(BO.TI tc [] 0).er L1)::erH L1 hs)=_
   rw[this,<-e2]
   simp only[BO.er,Ak]
def Qed:∀{l:Y Sh} {j:Nat} {hs:HS} {L:Lens} {K:HS->I R},QqJ o m ts j l hs K=some r->Inv L hs->
  ∃hs' L',K hs'=some r/\Inv L' hs'/\Weak Γ (BS L ts hs) (BS L' ts hs')
 |[],j,hs,L,K,h,hi=>⟨hs,L,h,hi,Weak.refl _ _⟩
 |s::l,j,hs,L,K,h,hi=>by
  have hth:∀{nm:Name} {tc:TC} {v:BV} {es0:Nat} {cells:Y BV},C m hs=some (.box cells)->cells[j]?=some v->(∀L,v.er L=.p (.sl true es0 []))->
    (if (C nm hs).isNone && Qfj nm ts hs && Nat.ble 1 (tz tc)then QqJ o m ts (j+1) l ((m,.box (cells.set j (.own nm 0)))::(nm,.TI tc [] 0)::hs) K else none)=some r->
    ∃hs' L',K hs'=some r/\Inv L' hs'/\Weak Γ (BS L ts hs) (BS L' ts hs'):=fun{nm tc v es0 cells} hm hj hv h=>by
   split at h
   case isFalse=>simp at h
   rename_i hb
   simp only[bae]at hb
   obtain⟨L1,hi1,hw1⟩:=QyI (Γ:=Γ) hm hj hv hb.1.1 hb.1.2 hb.2 hi
   obtain⟨hs',L',k1,k2,k3⟩:=Qed h hi1
   exact⟨hs',L',k1,k2,Weak.trans hw1 k3⟩
  unfold QqJ at h
  split at h
  .rename_i heq;cases heq
  .rename_i nm r0 heq
   cases heq
   split at h
   .rename_i cells hm
    split at h
    .rename_i tc hj ho;exact hth (es0:=0) hm hj (fun L=>by simp only[BV.er]) h
    .rename_i t0 tc hj ho;exact hth (es0:=tz t0) hm hj (fun L=>by simp only[BV.er,Ak]) h
    .exact Qed h hi
   .exact Qed h hi
  .rename_i heq;cases heq;exact Qed h hi
def Qhf:∀{l:Y (Name×OSh)} {hs:HS} {L:Lens} {K:HS->I R},Qv4 o ts l hs K=some r->Inv L hs->
  ∃hs' L',K hs'=some r/\Inv L' hs'/\Weak Γ (BS L ts hs) (BS L' ts hs')
 |[],hs,L,K,h,hi=>⟨hs,L,h,hi,Weak.refl _ _⟩
 |p::l,hs,L,K,h,hi=>by
  unfold Qv4 at h
  split at h
  .rename_i m l0 r0 heq
   cases heq
   obtain⟨hs1,L1,h,hi1,hw1⟩:=Qed (Γ:=Γ) h hi
   obtain⟨hs2,L2,h,hi2,hw2⟩:=Qhf h hi1
   exact⟨hs2,L2,h,hi2,Weak.trans hw1 hw2⟩
  .rename_i heq;cases heq;exact Qhf h hi
  .rename_i heq;cases heq
end
end
def QxD(h:QBV ops=true)(ho:ops[ops.size - 1]?=some o):o.guard=none/\∀j,j<ops.size - 1->((masks ops.toList []).getD (ops.size - 1) 0).testBit j=true:=by
 unfold QBV at h
 grind
section
variable {P:AF}
def QK(K:Cont R)(r:R):Exit->AS->Prop:=fun e s'=>∃ts' hs' L',s'=BS L' ts' hs'/\Inv L' hs'/\K e ts' hs'=some r
def QzI(hn:n∈gn):QxB gn o hs n=true:=by
 unfold QxB
 split
 .rw[Wa.2 hn,CK]
 .rfl
def QzH(hn:n∈gn):QrG gn o ts hs n=true:=by
 unfold QrG
 split
 .rw[Wa.2 hn,Bb,Bb]
 .rfl
def Qin{L:Lens}{ts:TS}{hs:HS}{R:Type}{r:R}{gn:Y Name}{Γ:Ctx}{s:Y (Nat×SSh)}{o:Y (Name×OSh)}{K:STL s×OL o->I R}(hgn:Γ.names=gn)(h:QoW gn s o ts hs K=some r)(hi:Inv L hs):
  ∃x L',K x=some r/\Inv L' (OL.put 0 o x.2)/\Weak Γ (BS L ts hs) (BS L' (STL.put 0 s x.1) (OL.put 0 o x.2)):=by
 unfold QoW at h
 simp only[QlE]at h
 obtain⟨ts1,hs1,h,hi1,hw1⟩:=QdF hgn h (hi.trim (f:=QxB gn o hs))
 obtain⟨ts2,hs2,L2,h,hi2,hw2⟩:=Qb8 (Γ:=Γ) h (hi1.trim (f:=QrG gn o ts1 hs1))
 obtain⟨hs2',L2',h,hi2',hw2'⟩:=Qhf (Γ:=Γ) h hi2
 obtain⟨x,L3,h,hi3,hle,hk⟩:=Qxo h hi2'
 refine⟨x,L3,h,hi3,fun ρ M a w hs0=>?_⟩
 obtain⟨ρ1,M1,h1⟩:=hw1 ρ M a w (hs0.only (f:=QC3 s) (g:=QxB gn o hs) fun n hn=>QzI (by rw[<-hgn];exact hn))
 have h1':Sim Γ ρ1 M1 (BS L ts1 (Qfr (QrG gn o ts1 hs1) [] hs1)) a w:=by
  have h2:=h1.only (f:=fun _=>true) (g:=QrG gn o ts1 hs1) fun n hn=>QzH (by rw[<-hgn];exact hn)
  refine h2.congr (fun t=>?_) (fun n=>rfl)
  show(BS L ts1 (Qfr (QrG gn o ts1 hs1) [] hs1)).slot t=(BS L (Qfr (fun _=>true) [] ts1) (Qfr (QrG gn o ts1 hs1) [] hs1)).slot t
  rw[XF,XF,Ud];rfl
 obtain⟨ρ2',M2',h2'⟩:=hw2 ρ1 M1 a w h1'
 obtain⟨ρ2,M2,h2⟩:=hw2' ρ2' M2' a w h2'
 have h3:Sim Γ ρ2 M2 (BS L2' (QAu hs2' s ts2) hs2') a w:=by
  refine h2.leS (fun t y hy=>?_) (fun n=>⟨fun y hy=>⟨y,hy,.refl _⟩,fun x hx=>⟨x,hx,.refl _⟩⟩) (fun n x y hx hy=>?_)
  .obtain⟨y',hy',rfl⟩:=QqF hy
   obtain⟨x',hx',hle'⟩:=QAv hi2' hy'
   exact⟨x'.er L2',by rw[XF,hx'];rfl,hle'⟩
  .rw[XE]at hx hy;rw[hx]at hy;cases hy;exact .inl rfl
 exact⟨ρ2,M2,h3.sle hle (by rw[hgn];exact hk)⟩
def Qfw{L:Lens}{ts:TS}{hs:HS}{R:Type}{r:R}{gn:Y Name}{Γ:Ctx}{c:Code}{an:Ann}{K:Cont R}{body:Ann->TS->HS->Cont R->I R}(hgn:Γ.names=gn)(h:around gn an ts hs K body=some r)(hi:Inv L hs)(hb:∀an ts hs L K,body an ts hs K=some r->Inv L hs->TJ P Γ c (BS L ts hs) (QK K r)):TJ P Γ c (BS L ts hs) (QK K r):=by
 unfold around at h
 split at h
 .rename_i s o a
  refine TJ.post ((hb _ _ _ L _ h hi).mono fun e s'=>?_)
  rintro⟨ts',hs',L',rfl,hi',hk⟩
  cases e with
  |normal=>
   obtain⟨x,L2,h2,hi2,hw⟩:=Qin hgn hk hi'
   exact⟨_,hw,_,_,L2,rfl,hi2,h2⟩
  |_=>exact⟨_,Weak.refl _ _,_,_,L',rfl,hi',hk⟩
 .obtain⟨ts1,hs1,h,hi1,hw1⟩:=QdF hgn h hi
  exact TJ.weaken _ (fun ρ M a w hs0=>hw1 ρ M a w hs0) (hb _ _ _ L _ h hi1)
 .simp at h
 .exact hb _ _ _ L _ h hi
def Qnt[AL R](hE:QqS P E)(hgn:Γ.names=gn)(hn:Γ.n=nn):∀(c:Code) (an:Ann) (ts:TS) (hs:HS) (L:Lens) (K:Cont R),vc P ty E gn nn fu c an ts hs K=some r->Inv L hs->TJ P Γ c (BS L ts hs) (QK K r)
 |.skip,an,ts,hs,L,K,h,hi=>TJ.skip ⟨_,_,L,rfl,hi,by simpa only[vc]using h⟩
 |.label _,an,ts,hs,L,K,h,hi=>TJ.label ⟨_,_,L,rfl,hi,by simpa only[vc]using h⟩
 |.ret,an,ts,hs,L,K,h,hi=>TJ.ret ⟨_,_,L,rfl,hi,by simpa only[vc]using h⟩
 |.exit id,an,ts,hs,L,K,h,hi=>TJ.exit ⟨_,_,L,rfl,hi,by simpa only[vc]using h⟩
 |.seq a b,an,ts,hs,L,K,h,hi=>by
  simp only[vc]at h
  refine Qfw hgn h hi fun an ts hs L K h hi=>TJ.seq ((Qnt hE hgn hn a _ _ _ L _ h hi).mono fun e s'=>?_)
  rintro⟨ts',hs',L',rfl,hi',hk⟩
  cases e with
  |normal=>exact Qnt hE hgn hn b _ _ _ L' _ hk hi'
  |_=>exact⟨_,_,L',rfl,hi',hk⟩
 |.cond (.tmp t) a b,an,ts,hs,L,K,h,hi=>by
  simp only[vc]at h
  refine Qfw hgn h hi fun an ts hs L K h hi=>?_
  split at h
  .rename_i q hl
   refine TJ.cond q (by rw[XF,hl];simp only[Aa,BV.er]) (fun hq=>?_) (fun hq=>?_)
   .subst hq;exact Qnt hE hgn hn a _ _ _ L _ h hi
   .subst hq;exact Qnt hE hgn hn b _ _ _ L _ h hi
  .rename_i hl
   obtain⟨h1,h2⟩:=QwT h
   intro ρ M w0 w hs0
   obtain⟨u,hu,hr⟩:=hs0.slots t _ (show(BS L ts hs).slot t=some .ub by rw[XF,hl];simp only[Aa,BV.er])
   simp only[AV.R]at hr
   obtain⟨q,rfl⟩:=hr
   have he:w0.eval (.tmp t)=.bool q:=by simp[Act.eval,BJ,hu]
   cases q with
   |true=>exact wp_cond_true he (Qnt hE hgn hn a _ _ _ L _ h1 hi ρ M w0 w hs0)
   |false=>exact wp_cond_false he (Qnt hE hgn hn b _ _ _ L _ h2 hi ρ M w0 w hs0)
  .simp at h
 |.cond (.const c) a b,an,ts,hs,L,K,h,hi=>by
  cases c with
  |bool q=>
   simp only[vc]at h
   refine Qfw hgn h hi fun an ts hs L K h hi=>?_
   cases q with
   |true=>exact fun ρ M w0 w hs0=>wp_cond_true rfl (Qnt hE hgn hn a _ _ _ L _ h hi ρ M w0 w hs0)
   |false=>exact fun ρ M w0 w hs0=>wp_cond_false rfl (Qnt hE hgn hn b _ _ _ L _ h hi ρ M w0 w hs0)
  |_=>simp[vc]at h
 |.cond (.global _) a b,an,ts,hs,L,K,h,hi=>by simp[vc]at h
 |.cond (.func _) a b,an,ts,hs,L,K,h,hi=>by simp[vc]at h
 |.block id a,an,ts,hs,L,K,h,hi=>by
  simp only[vc]at h
  refine Qfw hgn h hi fun an ts hs L K h hi=>TJ.block ((Qnt hE hgn hn a _ _ _ L _ h hi).mono fun e s'=>?_)
  rintro⟨ts',hs',L',rfl,hi',hk⟩
  cases e with
  |exit k=>
   simp only[Qoj]
   simp only[QAD]at hk
   split at hk
   .rename_i he;rw[iB (nbe he)];exact⟨_,_,L',rfl,hi',hk⟩
   .rename_i he;rw[iA (fun e=>he (by rw[e];exact B2 _))];exact⟨_,_,L',rfl,hi',hk⟩
  |_=>exact⟨_,_,L',rfl,hi',hk⟩
 |.loop a,an,ts,hs,L,K,h,hi=>by
  simp only[vc]at h
  split at h
  .rename_i s o an
   obtain⟨x,L1,h,hi1,hw⟩:=Qin hgn h hi
   refine TJ.weaken _ hw (TJ.loop (fun m s'=>∃x L',s'=BS L' (STL.put 0 s x.1) (OL.put 0 o x.2)/\Inv L' (OL.put 0 o x.2)/\Qe (fun Lp x=>vc P ty E gn nn fu a an (STL.put 0 s x.1) (OL.put 0 o x.2) (QzT K fun ts hs=>QoW gn s o ts hs Lp)) m x=some r)
    ⟨fu,x,L1,rfl,hi1,h⟩ ?_)
   rintro m s' ⟨x,L',rfl,hi',hm⟩
   cases m with
   |zero=>simp[Qe]at hm
   |succ m=>
    simp only[Qe]at hm
    refine TJ.post ((Qnt hE hgn hn a _ _ _ L' _ hm hi').mono fun e s'=>?_)
    rintro⟨ts2,hs2,L2,rfl,hi2,hk⟩
    cases e with
    |normal=>
     obtain⟨x',L3,h3,hi3,hw3⟩:=Qin hgn hk hi2
     exact⟨_,hw3,m,Nat.lt_succ_self m,x',L3,rfl,hi3,h3⟩
    |_=>exact⟨_,Weak.refl _ _,_,_,L2,rfl,hi2,hk⟩
  .simp at h
 |.region id ops dr,an,ts,hs,L,K,h,hi=>by
  simp only[vc]at h
  refine Qfw hgn h hi fun an ts hs L K h hi=>?_
  cases dr with
  |false=>
   intro ρ M a w hs0
   refine wp_region ?_
   have:=Qyh (gn:=gn) (Γ:=Γ) (ops:=ops) (Q:=fun e a' w'=>∃s' ρ' M',QK K r e s'/\Sim Γ ρ' M' s' a' w') hE hgn hn (fun ts' hs' L' ρ' M' a' w' hk hi' hs'=>⟨_,ρ',M',⟨_,_,L',rfl,hi',hk⟩,hs'⟩) ops.size 0 ts hs L h hi ρ M a w hs0
   rwa [Bj,<-Ed]at this
  |true=>
   simp only at h
   split at h
   case isFalse=>simp at h
   rename_i hm
   split at h
   .rename_i hlb
    obtain⟨rows,ts',hs',L',hk,hi',hst,hts,hhs,hg⟩:=QgG hE (ops.size - 1) 0 [] ts hs L h hi
    change (if Qmq ops (rows++[noB]) ts hs=true then(match ops[ops.size - 1]? with
     |some o=>exK P ty E gn nn (guarded ops) [] o ts' hs' (fun ts hs=>K .normal ts hs)
     |none=>none)else none)=some r at hk
    by_cases hind:Qmq ops (rows++[noB]) ts hs=true
    case neg=>rw[iA hind]at hk;simp at hk
    rw[iB hind]at hk
    cases hop:ops[ops.size - 1]? with
    |none=>rw[hop]at hk;simp at hk
    |some o=>
    rw[hop]at hk
    replace hk:exK P ty E gn nn (guarded ops) [] o ts' hs' (fun ts hs=>K .normal ts hs)=some r:=hk
    have h0:0<ops.size:=by
     grind
    obtain⟨hg0,hmask⟩:=QxD hlb hop
    show TJ P Γ _ (mk (erT L ts) (erH L hs)) _
    rw[hts,hhs]
    have hrow:(rows++[noB]).map (BRow.row L')=rows.map (BRow.row L')++[QdK]:=by simp[noB,QdK,BRow.row,ev,erT,erH,BV.er]
    have hind':=QrE hind L'
    rw[hrow]at hind'
    refine TJ.drawX hn (by rw[hm,Bb]) h0 _ hst hg hind' hmask fun KK hKK=>?_
    exact Qxk hE hgn hn hk (fun t v h=>by simp at h) (fun t v h=>by simp at h) Ob hi' hop (fun ρ M a w _=>by simp[Region.wanted,hg0]) (fun ts2 hs2 L2 ρ' M' a' w' hk2 hi2 hs2'=>hKK _ ρ' M' a' w' ⟨_,_,L2,rfl,hi2,hk2⟩ hs2')
   obtain⟨rows,ts',hs',L',hk,hi',hst,hts,hhs,hg⟩:=QgG hE ops.size 0 [] ts hs L h hi
   change (if Qmq ops rows ts hs=true then K .normal ts' hs' else none)=some r at hk
   split at hk
   case isFalse=>simp at hk
   rename_i hind
   show TJ P Γ _ (mk (erT L ts) (erH L hs)) _
   rw[hts,hhs]
   exact TJ.drawG hn (by rw[hm,Bb]) _ hst hg (QrE hind L') ⟨_,_,L',rfl,hi',hk⟩
 |.rangeFunc ..,an,ts,hs,L,K,h,hi=>by simp[vc]at h
 |.scope _,an,ts,hs,L,K,h,hi=>by simp[vc]at h
 |.goto _,an,ts,hs,L,K,h,hi=>by simp[vc]at h
 |.refuse _,an,ts,hs,L,K,h,hi=>by simp[vc]at h
end
section
variable (P:AF)
def resV(ts:TS)(hs:HS):ResultVar->I BV
 |.tmp t=>C t ts
 |.cell t T=>match C t ts with
  |some (.TN n 0)=>match C n hs with
   |some (.box cells)=>if aggT P T then(match Zk P T with|some z=>if Nat.beq z cells.length then some (.agg cells)else none|none=>none)
    else if QcL P T then(match cells with|[v]=>some v|_=>none)else none
   |_=>none
  |_=>none
def QtP(ts:TS)(hs:HS):Y ResultVar->I (Y BV)
 |[]=>some []
 |x::q=>match resV P ts hs x,QtP ts hs q with
  |some v,some vs=>some (v::vs)
  |_,_=>none
def Sh.owns:Sh->Y Name
 |.own nm=>[nm]
 |.view nm=>[nm]
 |_=>[]
def SSh.owns:SSh->Y Name
 |.one s=>s.owns
 |.st _=>[]
 |.agg l=>l.flatMap Sh.owns
def OSh.owns:OSh->Y Name
 |.box l=>l.flatMap Sh.owns
 |_=>[]
def arrB(l:Y (Name×OSh))(n:Name):AH:=match C n l with
 |some (.TI _)=>true
 |_=>false
def TF[AL α](a b:α)(x:I R):I R:=if a=b then x else none
def QiT(hs:HS):(l:Y (Name×OSh))->Y Name->OL l->I R->I R
 |[],_,_,x=>x
 |(nm,.TI t)::l,ks,y,x=>if isIn nm ks then(match C nm hs with
   |some (.TI t' z _)=>if h:t'=t then TF (Qq7 h z) y.1 (QiT hs l ks y.2 x)else none
   |_=>none)else QiT hs l ks y.2 x
 |(nm,.box _)::l,ks,y,x=>if isIn nm ks then none else QiT hs l ks y.2 x
 |(nm,.arrs _)::l,ks,y,x=>if isIn nm ks then none else QiT hs l ks y.2 x
 |(nm,.sm)::l,ks,y,x=>if isIn nm ks then none else QiT hs l ks y.2 x
 |(nm,.TV t)::l,ks,y,x=>if isIn nm ks then(match C nm hs with
   |some (.box cs)=>tpop t cs fun z rest=>match rest with
    |[]=>TF z y.1 (QiT hs l ks y.2 x)
    |_=>none
   |_=>none)else QiT hs l ks y.2 x
def Qyw:Y ResultVar->Y SSh->Y (Nat×SSh)
 |.tmp t::r,s::q=>(t,s)::Qyw r q
 |_::r,_::q=>Qyw r q
 |_,_=>[]
def Qt7(ts:TS):Y ResultVar->Y SSh->Y (Name×OSh)
 |.cell t _::r,.agg l::q=>(match C t ts with
  |some (.TN m 0)=>(m,.box l)::Qt7 ts r q
  |_=>Qt7 ts r q)
 |_::r,_::q=>Qt7 ts r q
 |_,_=>[]
def endK(gn:Y Name)(rs:Y ResultVar)(g:Sig)(y:OL g.pre)(K:SL g.res->OL g.post->I R)(ts:TS)(hs:HS):I R:=
 Qn4 g.post (Qyw rs g.res) ts hs fun ts hs=>Qv4 g.post ts (Qt7 ts rs g.res) hs fun hs=>match QtP P ts hs rs with
 |none=>none
 |some vs=>Ta gn (QaJ g.post hs g.res vs) ts hs fun ts hs=>match QtP P ts hs rs with
  |none=>none
  |some vs=>SL.get g.res (QqM hs g.res vs) [] fun σ a=>OL.get g.post hs ((keys g.post).map (fun n=>(n,(n,QDr n hs)))++σ) fun σ b=>
    if QBR σ && (keys g.pre).all (fun n=>isIn n (keys g.post) || isIn n g.keep) && g.keep.all (fun n=>isIn n (keys g.pre)) && (g.res.flatMap SSh.owns).all (arrB g.post) && (g.post.flatMap fun p=>p.2.owns).all (arrB g.post)then QiT hs g.pre g.keep y (K a b)else none
end
open Go
def QxN(h1:∀n o',C n h'=some o'->∃o,C n h=some o)(h2:∀n o,C n h=some o->∃o',C n h'=some o'):newM M ρ h=newM M ρ h':=by
 funext b
 exact propext (or_congr_right ⟨fun⟨n,o,k1,k2⟩=>by obtain⟨o',k3⟩:=h2 n o k1;exact⟨n,o',k3,k2⟩,fun⟨n,o,k1,k2⟩=>by obtain⟨o',k3⟩:=h1 n o k1;exact⟨n,o',k3,k2⟩⟩)
def After.le(ha:After ρ M w pre u v h ρ' w')(hv:∀(ρ:Name->Loc) (H:Heap) (M:Nat->Prop) (w:AG) (u:AE),v.R ρ H M w u->v'.R ρ H M w u)(h1:∀n o',C n h'=some o'->∃o,C n h=some o/\(o=o'\/∃cs ds,o=.box cs/\o'=.box ds/\X7 cs ds))(h2:∀n o,C n h=some o->∃o',C n h'=some o'):After ρ M w pre u v' h' ρ' w':=by
 have hM:newM M ρ' h=newM M ρ' h':=QxN (fun n o' hn=>by obtain⟨o,k,_⟩:=h1 n o' hn;exact⟨o,k⟩) h2
 have hst:QdA ρ' (XV h) ρ' (XV h'):=fun n o hn=>by
  obtain⟨o',ho'⟩:=h2 n o hn
  obtain⟨o2,ho2,hle⟩:=h1 n o' ho'
  change C n h=some o at hn
  rw[hn]at ho2;cases ho2
  change stays o (ρ' n) (C n h') (ρ' n)
  rw[ho']
  rcases hle with rfl|⟨cs,ds,rfl,rfl,_⟩
  .exact Zi _ _
  .rfl
 have hnn:∀n,XV h n=none->XV h' n=none:=fun n hn=>by
  cases hc:XV h' n with
  |none=>rfl
  |some o'=>
   obtain⟨o,ho,_⟩:=h1 n o' hc
   change C n h=none at hn
   simp_all
 have hconvs:∀{xs:Y AV} {us:Y AE},AV.Rs ρ' (XV h) (newM M ρ' h) w' xs us->AV.Rs ρ' (XV h') (newM M ρ' h) w' xs us:=fun hr=>
  hr.step (Ext.refl (fun _=>False) _) (fun _ hb=>hb.elim) (fun b _ hb=>hb) hst (fun n _=>hnn n)
 refine⟨?_,fun n o' hn=>?_,fun n m o o' b g1 g2=>?_,fun n o b g1 g2=>?_,ha.ext,fun n o hn=>?_⟩
 .rw[<-hM]
  exact hv _ _ _ _ _ (ha.val.step (Ext.refl (fun _=>False) _) (fun _ hb=>hb.elim) (fun b _ hb=>hb) hst (fun n _=>hnn n))
 .obtain⟨o,ho,hle⟩:=h1 n o' hn
  have hobj:=ha.objs n o ho
  rw[<-hM]
  rcases hle with rfl|⟨cs,ds,rfl,rfl,hle⟩
  .cases o with
   |box cells=>obtain⟨b,T,cs,k1,k2,k3,k4⟩:=hobj;exact⟨b,T,cs,k1,k2,k3,hconvs k4⟩
   |TI es rows=>exact hobj
   |hole es pre row post=>obtain⟨k0,k0',k1,b,T,cs,k3,k4,k5,k6,k7,k8,k9⟩:=hobj;exact⟨k0,k0',k1,b,T,cs,k3,k4,k5,k6,k7,hconvs k8,k9⟩
   |fact a x=>exact⟨hobj.1,hobj.2.step (Ext.refl (fun _=>False) _) (fun _ hb=>hb.elim) (fun b _ hb=>hb) hst (fun n _=>hnn n)⟩
   |obj x=>exact hobj
  .obtain⟨b,T,us',k1,k2,k3,k4⟩:=hobj
   exact⟨b,T,us',k1,k2,k3,Qwh hle _ (hconvs k4)⟩
 .obtain⟨p,k1,_⟩:=h1 n o g1
  obtain⟨q,k2,_⟩:=h1 m o' g2
  exact ha.inj n m p q b k1 k2
 .obtain⟨p,k1,_⟩:=h1 n o g1
  exact ha.own n p b k1 g2
 .obtain⟨o1,k1,k2⟩:=ha.keep n o hn
  obtain⟨o2,k3⟩:=h2 n o1 k1
  refine⟨o2,k3,?_⟩
  obtain⟨o3,k4,hle⟩:=h1 n o2 k3
  rw[k1]at k4;cases k4
  rcases hle with rfl|⟨cs,ds,rfl,rfl,_⟩
  .exact k2
  .cases o<;>simp only[stays]at k2|-<;>exact k2
section
def Sh.put_ver{s:Sh}{x:s.prod zF}(h:∀n,n∈s.owns->L n u=L' n v):(s.put u zF x).1.er L=(s.put v zF x).1.er L'/\(s.put u zF x).2=(s.put v zF x).2:=by
 cases s with
 |own nm=>exact⟨by simp only[Sh.put,BV.er];rw[h nm (by simp[Sh.owns])],rfl⟩
 |view nm=>exact⟨by simp only[Sh.put,BV.er];rw[h nm (by simp[Sh.owns])],rfl⟩
 |clo f caps=>exact⟨by simp only[Sh.put,BV.er];congr 1;simp only[Ut,CY];exact Bo fun n _=>by simp only[Function.comp,BV.er],rfl⟩
 |_=>exact⟨by simp only[Sh.put,BV.er],rfl⟩
def TL.put_ver:∀{l:Y Sh} {x:TL l},(∀n,n∈l.flatMap Sh.owns->L n u=L' n v)->erL L (TL.put u l x)=erL L' (TL.put v l x)
 |[],x,_=>by simp only[TL.put,erL]
 |s::r,x,h=>by
  have h1:=Sh.put_ver (s:=s) (x:=x) (L:=L) (L':=L') (u:=u) (v:=v) (fun n hn=>h n (by simp[hn]))
  have h2:=TL.put_ver (l:=r) (x:=(s.put u _ x).2) (fun n hn=>h n (by rw[EO];exact CD _ hn))
  simp only[TL.put,erL,h1.1,h2]
  rw[h1.2]
def SSh.put_ver{s:SSh}{x:s.prod zF}(h:∀n,n∈s.owns->L n u=L' n v):(s.put u zF x).1.er L=(s.put v zF x).1.er L'/\(s.put u zF x).2=(s.put v zF x).2:=by
 cases s with
 |one s=>exact Sh.put_ver h
 |st t=>simp only[SSh.put,BV.er,and_true];rw[VW (Qeb t x.1),VW (Qeb t x.1)]
 |agg l=>simp only[SSh.put,BV.er,and_true];rw[TL.put_ver h]
def SL.put_ver:∀{l:Y SSh} {x:SL l},(∀n,n∈l.flatMap SSh.owns->L n u=L' n v)->erL L (SL.put u l x)=erL L' (SL.put v l x)
 |[],x,_=>by simp only[SL.put,erL]
 |s::r,x,h=>by
  have h1:=SSh.put_ver (s:=s) (x:=x) (L:=L) (L':=L') (u:=u) (v:=v) (fun n hn=>h n (by simp[hn]))
  have h2:=SL.put_ver (l:=r) (x:=(s.put u _ x).2) (fun n hn=>h n (by rw[EO];exact CD _ hn))
  simp only[SL.put,erL,h1.1,h2]
  rw[h1.2]
def OSh.put_ver{s:OSh}{x:s.T}(h:∀n,n∈s.owns->L n u=L' n v):(s.put u x).er L=(s.put v x).er L':=by
 cases s with
 |box l=>exact BD AO.box (TL.put_ver (l:=l) (x:=x) h)
 |TV t=>simp only[OSh.put,BO.er];rw[VW (Qeb t x),VW (Qeb t x)]
 |TI t=>simp only[OSh.put,BO.er]
 |arrs t=>simp only[OSh.put,BO.er]
 |sm=>simp only[OSh.put,BO.er]
end
def Qtk:∀{l:Y (Name×OSh)} {y:OL l},C n (OL.put u l y)=some b->∃(p:Name×OSh) (x:p.2.T),p∈l/\C n l=some p.2/\b=p.2.put u x/\∀w,C n (OL.put w l y)=some (p.2.put w x)
 |[],y,h=>by change C n []=some b at h;simp[C]at h
 |p::l,y,h=>by
  change C n ((p.1,p.2.put u y.1)::OL.put u l y.2)=some b at h
  simp only[C]at h
  split at h
  .rename_i e
   cases h
   refine⟨p,y.1,Ob,by obtain⟨k,o⟩:=p;simp only[C];rw[iB e],rfl,fun w=>?_⟩
   change C n ((p.1,p.2.put w y.1)::OL.put w l y.2)=_
   simp only[C];rw[iB e]
  .rename_i e
   obtain⟨q,x,h1,h2,h3,h4⟩:=Qtk h
   refine⟨q,x,BB _ h1,by obtain⟨k,o⟩:=p;simp only[C];rw[iA e];exact h2,h3,fun w=>?_⟩
   change C n ((p.1,p.2.put w y.1)::OL.put w l y.2)=_
   simp only[C];rw[iA e];exact h4 w
def Qcc:Nat->Y BV->TS
 |_,[]=>[]
 |i,x::r=>(i,x)::Qcc (i+1) r
def QlK:∀(i:Nat) (l:Y BV),Qbz i (erL L l)=erT L (Qcc i l)
 |_,[]=>by simp only[erL,Qbz,Qcc];rfl
 |i,x::r=>by simp only[erL,Qbz,Qcc,QlK (i+1) r];rfl
def X7.Ts:∀{xs ys:Y AV} {us:Y AE},X7 xs ys->AV.Ts ρ H M w xs us->AV.Ts ρ H M w ys us
 |[],ys,us,h,hr=>by cases h;exact hr
 |x::xs,ys,us,h,hr=>by
  cases h with
  |cons h1 h2=>
   simp only[AV.Ts]at hr |-
   obtain⟨u,us',rfl,h3,h4⟩:=hr
   exact⟨u,us',rfl,h1.sound u h3,X7.Ts h2 h4⟩
def Qyn(h:X7 (erL L vs) (erL L' ws))(ρ)(H)(M)(w)(u)(hr:((resB vs).er L).R ρ H M w u):((resB ws).er L').R ρ H M w u:=by
 have hl:vs.length=ws.length:=by have:=h.len;rwa [XT,XT]at this
 match vs,ws,hl with
 |[],[],_=>exact hr
 |[v],[x],_=>
  simp only[erL]at h
  cases h with
  |cons h1 _=>exact h1.sound u hr
 |v1::v2::vs,x1::x2::ws,_=>
  simp only[resB,BV.er,AV.R]at hr |-
  obtain⟨us,rfl,h2⟩:=hr
  exact⟨us,rfl,X7.Ts h h2⟩
section
def QoP:∀{rs:Y ResultVar} {vs:Y BV},QtP P ts hs rs=some vs->vs.length=rs.length/\Res1s P (BS L ts hs) rs (erL L vs)
 |[],vs,h=>by simp only[QtP,AN]at h;subst h;exact⟨rfl,by simp only[erL];rfl⟩
 |x::q,vs,h=>by
  simp only[QtP]at h
  split at h
  .rename_i v vs' h1 h2
   cases h
   obtain⟨k1,k2⟩:=QoP h2
   refine⟨by simp[k1],⟨v.er L,erL L vs',by simp only[erL],?_,k2⟩⟩
   cases x with
   |tmp t=>
    simp only[resV]at h1
    show(BS L ts hs).slot t=_
    rw[XF,h1];rfl
   |cell t T=>
    simp only[resV]at h1
    split at h1
    .rename_i n ht
     split at h1
     .rename_i cells hc
      refine⟨n,erL L cells,by rw[XF,ht];simp only[Aa,BV.er],by rw[XE,hc];rfl,?_⟩
      split at h1
      .rename_i hT
       split at h1
       .rename_i z hz
        split at h1
        .rename_i hb;cases h1;exact .inl ⟨hT,by rw[hz,XT,nbe hb],by simp only[BV.er]⟩
        .simp at h1
       .simp at h1
      .split at h1
       .rename_i hT
        split at h1
        .cases h1;exact .inr ⟨hT,by simp only[erL]⟩
        .simp at h1
       .simp at h1
     .simp at h1
    .simp at h1
  .simp at h
def QDe(h:QtP P ts hs rs.toList=some vs):Res P (BS L ts hs) rs ((resB vs).er L):=by
 obtain⟨h1,h2⟩:=QoP (L:=L) h
 unfold Res
 match vs,h1 with
 |[],h1=>
  have:¬rs.size=1:=fun e=>by rw[<-BU,<-h1]at e;simp at e
  rw[iA this];exact⟨_,by simp only[resB,BV.er],h2⟩
 |[v],h1=>
  have:rs.size=1:=by rw[<-BU,<-h1];rfl
  rw[iB this];simpa only[resB,erL]using h2
 |v1::v2::vs,h1=>
  have:¬rs.size=1:=fun e=>by rw[<-BU,<-h1]at e;simp at e
  rw[iA this];exact⟨_,by simp only[resB,BV.er],h2⟩
def Uc:∀{l:Y (Name×OSh)} {ks:Y Name} {y:OL l} {x:I R},QiT hs l ks y x=some r->
  x=some r/\∀n b,n∈ks->C n (OL.put 0 l y)=some b->(∃t z v,b=.TI t z 0/\C n hs=some (.TI t z v))\/∃t z cs,b=.box (tb t z)/\C n hs=some (.box cs)/\Le cs (tb t z)
 |[],ks,y,x,h=>⟨h,fun n b _ hn=>by change C n []=some b at hn;simp[C]at hn⟩
 |(nm,o)::l,ks,y,x,h=>by
  have hrest:(x=some r/\∀n b,n∈ks->C n (OL.put 0 l y.2)=some b->(∃t z v,b=.TI t z 0/\C n hs=some (.TI t z v))\/∃t z cs,b=.box (tb t z)/\C n hs=some (.box cs)/\Le cs (tb t z))->
    (isIn nm ks=true->(∃t z v,o.put 0 y.1=.TI t z 0/\C nm hs=some (.TI t z v))\/∃t z cs,o.put 0 y.1=.box (tb t z)/\C nm hs=some (.box cs)/\Le cs (tb t z))->
    x=some r/\∀n b,n∈ks->C n (OL.put 0 ((nm,o)::l) y)=some b->(∃t z v,b=.TI t z 0/\C n hs=some (.TI t z v))\/∃t z cs,b=.box (tb t z)/\C n hs=some (.box cs)/\Le cs (tb t z):=fun hr hq=>by
   refine⟨hr.1,fun n b hn hb=>?_⟩
   change C n ((nm,o.put 0 y.1)::OL.put 0 l y.2)=some b at hb
   simp only[C]at hb
   split at hb
   .rename_i e
    subst e;cases hb
    exact hq (Wa.2 hn)
   .exact hr.2 n b hn hb
  cases o with
  |TI t=>
   simp only[QiT]at h
   split at h
   .split at h
    .rename_i t' z v hl
     split at h
     .rename_i he
      subst he
      unfold TF at h
      split at h
      .rename_i hz
       exact hrest (Uc h) (fun _=>.inl ⟨_,_,v,rfl,by rw[hl,<-hz];rfl⟩)
      .simp at h
     .simp at h
    .simp at h
   .rename_i hin
    exact hrest (Uc h) (fun hi=>absurd hi hin)
  |TV t=>
   simp only[QiT]at h
   split at h
   .split at h
    .rename_i cs hl
     obtain⟨z,rest,hle,h⟩:=Qee t h
     split at h
     .unfold TF at h
      split at h
      .rename_i hz
       refine hrest (Uc h) (fun _=>.inr ⟨t,y.1,cs,rfl,hl,?_⟩)
       rw[Ao]at hle
       rw[<-hz];exact hle
      .simp at h
     .simp at h
    .simp at h
   .rename_i hin
    exact hrest (Uc h) (fun hi=>absurd hi hin)
  |box c=>
   simp only[QiT]at h
   split at h
   .simp at h
   .rename_i hin
    exact hrest (Uc h) (fun hi=>absurd hi hin)
  |arrs c=>
   simp only[QiT]at h
   split at h
   .simp at h
   .rename_i hin
    exact hrest (Uc h) (fun hi=>absurd hi hin)
  |sm=>
   simp only[QiT]at h
   split at h
   .simp at h
   .rename_i hin
    exact hrest (Uc h) (fun hi=>absurd hi hin)
def Qku:∀{l:Y SSh} {x:SL l},(SL.put u l x).length=l.length
 |[],_=>rfl
 |s::r,x=>by simp only[SL.put,Ab,Qku (l:=r)]
def Qj2:(l:Y (Name×OSh))->OL l->Name->I Nat
 |[],_,_=>none
 |(k,.TI _)::r,y,n=>if Nat.beq k n then some y.1.length else Qj2 r y.2 n
 |(k,.arrs _)::r,y,n=>if Nat.beq k n then none else Qj2 r y.2 n
 |(k,.box _)::r,y,n=>if Nat.beq k n then none else Qj2 r y.2 n
 |(k,.TV _)::r,y,n=>if Nat.beq k n then none else Qj2 r y.2 n
 |(k,.sm)::r,y,n=>if Nat.beq k n then none else Qj2 r y.2 n
def lenB(pre:Y (Name×OSh))(y:OL pre):(l:Y (Name×OSh))->OL l->I R->I R
 |[],_,x=>x
 |(n,.arrs _)::r,b,x=>match Qj2 pre y n with
  |some m=>chk b.1.length m (lenB pre y r b.2 x)
  |none=>none
 |(_,.TI _)::r,b,x=>lenB pre y r b.2 x
 |(_,.box _)::r,b,x=>lenB pre y r b.2 x
 |(_,.TV _)::r,b,x=>lenB pre y r b.2 x
 |(_,.sm)::r,b,x=>lenB pre y r b.2 x
def Qow:∀{l:Y (Name×OSh)} {y:OL l} {n:Name} {m:Nat},Qj2 l y n=some m->∃(t:TC) (z:Y (TT t)),C n (OL.put 0 l y)=some (.TI t z 0)/\z.length=m
 |[],y,n,m,h=>by simp[Qj2]at h
 |(k,o)::r,y,n,m,h=>by
  have hrest:Qj2 r y.2 n=some m->k≠n->∃(t:TC) (z:Y (TT t)),C n (OL.put 0 ((k,o)::r) y)=some (.TI t z 0)/\z.length=m:=fun h e=>by
   obtain⟨t,z,h1,h2⟩:=Qow h
   refine⟨t,z,?_,h2⟩
   change C n ((k,o.put 0 y.1)::OL.put 0 r y.2)=_
   simp only[C];rw[iA e];exact h1
  cases o<;>simp only[Qj2]at h<;>split at h
  all_goals first
   |(simp at h;done)
   |(rename_i e;exact hrest h (fun h'=>e (by rw[h'];exact B2 _)))
   |skip
  rename_i t e
  have:=nbe e;subst this
  refine⟨t,y.1,?_,by simpa using h⟩
  change C k ((k,_)::OL.put 0 r y.2)=_
  simp only[C,if_true];rfl
def QfQ:∀{l:Y (Name×OSh)} {b:OL l} {x:I R},lenB pre y l b x=some r->
  x=some r/\∀n (t:TC) (z:Y (TT t)),C n (OL.put 1 l b)=some (.TI t z 0)->Qj2 pre y n=some z.length
 |[],b,x,h=>⟨h,fun n t z hn=>by change C n []=_ at hn;simp[C]at hn⟩
 |(k,o)::l,b,x,h=>by
  have hrest:lenB pre y l b.2 x=some r->(∀(t:TC) (z:Y (TT t)),o.put 1 b.1=.TI t z 0->Qj2 pre y k=some z.length)->
    x=some r/\∀n (t:TC) (z:Y (TT t)),C n (OL.put 1 ((k,o)::l) b)=some (.TI t z 0)->Qj2 pre y n=some z.length:=fun h hq=>by
   obtain⟨h1,h2⟩:=QfQ h
   refine⟨h1,fun n t z hn=>?_⟩
   change C n ((k,o.put 1 b.1)::OL.put 1 l b.2)=_ at hn
   simp only[C]at hn
   split at hn
   .rename_i e;subst e;exact hq t z (Be hn)
   .exact h2 n t z hn
  cases o with
  |arrs t=>
   simp only[lenB]at h
   split at h
   .rename_i m hm
    obtain⟨e,h⟩:=QgF h
    refine hrest h fun t' z hz=>?_
    simp only[OSh.put]at hz
    cases hz
    rw[hm,<-e]
   .simp at h
  |TI t=>exact hrest h fun t' z hz=>by simp only[OSh.put]at hz;injection hz with _ _ h3;simp at h3
  |box t=>exact hrest h fun t' z hz=>by simp[OSh.put]at hz
  |TV t=>exact hrest h fun t' z hz=>by simp[OSh.put]at hz
  |sm=>exact hrest h fun t' z hz=>by simp[OSh.put]at hz
def Qer{R R':Type}{r:R}{r':R'}{pre:Y (Name×OSh)}{y:OL pre}:∀{l:Y (Name×OSh)} {b:OL l} {x:I R},lenB pre y l b x=some r->lenB pre y l b (some r')=some r'
 |[],b,x,h=>rfl
 |(k,.arrs t)::l,b,x,h=>by
  simp only[lenB]at h |-
  split at h
  .obtain⟨e,h⟩:=QgF h
   unfold chk;rw[iB e];exact Qer h
  .simp at h
 |(k,.TI t)::l,b,x,h=>Qer (l:=l) h
 |(k,.box t)::l,b,x,h=>Qer (l:=l) h
 |(k,.TV t)::l,b,x,h=>Qer (l:=l) h
 |(k,.sm)::l,b,x,h=>Qer (l:=l) h
def Ql(args:Y SSh)(pre:Y (Name×OSh))(res:Y SSh)(post:Y (Name×OSh))(keep:Y Name)(Ret:Type)(un:Ret->SL res×OL post)(f:SL args->OL pre->I Ret):Sig:=
 ⟨args,pre,res,post,keep,fun _ x y K=>V (f x y) fun q=>lenB pre y post (un q).2 (K (un q).1 (un q).2)⟩
def finK(P:AF)(gn:Y Name)(rs:Y ResultVar)(g:Sig)(y:OL g.pre)(K:SL g.res->OL g.post->I R):Cont R:=fun e ts hs=>match e with
 |.normal=>endK P gn rs g y K ts hs
 |.ret=>endK P gn rs g y K ts hs
 |_=>none
def FnOK.intro[AL Ret](conv:SL res->OL post->Ret)(hcu:∀a b,un (conv a b)=(a,b))(hE:QqS P E)(hf:P.funcs[f]?=some fn)(hb:fn.body=some c)(hlen:Nat.ble args.length fn.ntmps=true)(hF:∀x y,vc P ty E (keys pre) fn.ntmps fu c an (Qcc 0 (SL.put 0 args x)) (OL.put 0 pre y) (finK P (keys pre) fn.results.toList (Ql args pre res post keep Ret un F) y fun a b=>some (conv a b))=F x y):
  FnOK P f (Ql args pre res post keep Ret un F):=by
 refine⟨fun R x y K r h=>?_,fun x y a b h L0 hL0=>?_⟩
 .obtain⟨q,hq,h⟩:=Y4 h
  obtain⟨h',hle⟩:=QfQ h
  refine⟨(un q).1,(un q).2,?_,h'⟩
  show V (F x y) _=_
  rw[hq]
  exact Qer h
 .change SL args at x
  change OL pre at y
  change SL res at a
  change OL post at b
  obtain⟨q,hq,h⟩:=Y4 h
  obtain⟨h,hlens⟩:=QfQ h
  simp only[AN]at h
  have hvc:=(hF x y).trans hq
  let g:Sig:=Ql args pre res post keep Ret un F
  let L1:Lens:=fun n v=>match C n (g.posts y b)with
   |some (.TI t l u)=>if v=u then l.length else L0 n v
   |_=>L0 n v
  have hL1:∀n t l v,C n (g.posts y b)=some (.TI t l v)->L1 n v=l.length:=fun n t l v hn=>by
   grind
  have hpost:∀n b0,C n (OL.put 1 post b)=some b0->C n (g.posts y b)=some b0:=fun n b0 hn=>by
   show C n (OL.put 1 post b++_)=_
   rw[Z1,hn]
  have hpre:∀n b0,C n (OL.put 1 post b)=none->n∈keep->C n (OL.put 0 pre y)=some b0->C n (g.posts y b)=some b0:=fun n b0 h1 h2 h3=>by
   show C n (OL.put 1 post b++(OL.put 0 pre y).filter (fun p=>keep.contains p.1))=_
   rw[Z1,h1]
   simp only[VZ (f:=fun n=>keep.contains n)]
   simp_all
  refine⟨L1,fun n hn=>?_,hL1,?_⟩
  .show(match C n (g.posts y b)with|some (.TI t l u)=>if 0=u then l.length else L0 n 0|_=>L0 n 0)=_
   split
   .rename_i t l u hl
    split
    .rename_i e
     subst e
     change C n (OL.put 1 post b++(OL.put 0 pre y).filter (fun p=>keep.contains p.1))=_ at hl
     rw[Z1]at hl
     cases h1:C n (OL.put 1 post b)with
     |some b1=>
      rw[h1]at hl;cases hl
      have hab:(un q).2=b:=BD Prod.snd h
      rw[hab]at hlens
      obtain⟨t',z,k1,k2⟩:=Qow (hlens n t l h1)
      rw[<-k2];exact(hL0 n t' z 0 k1).symm
     |none=>
      rw[h1]at hl
      simp only[VZ (f:=fun n=>keep.contains n)]at hl
      split at hl
      .exact(hL0 n t l 0 hl).symm
      .simp at hl
    .rfl
   .rfl
  .have hspec:Spec P f (erL L0 (SL.put 0 args x)) (erH L0 (OL.put 0 pre y)) fun v h'=>
     (∀(ρ:Name->Loc) (H:Heap) (M:Nat->Prop) (w:AG) (u:AE),v.R ρ H M w u->((resB (SL.put 1 res a)).er L1).R ρ H M w u)/\
     (∀n o',C n (erH L1 (g.posts y b))=some o'->∃o,C n h'=some o/\(o=o'\/∃cs ds,o=.box cs/\o'=.box ds/\X7 cs ds))/\(∀n o,C n h'=some o->∃o',C n (erH L1 (g.posts y b))=some o'):=by
    refine Spec.intro hf hb (by rw[XT,Qku];exact hlen) fun Γ hn hk=>?_
    rw[Qep,Qln]at hk
    rw[QlK]
    refine TJ.post ((Qnt hE hk hn c an _ _ L0 _ hvc hL0).mono fun e s'=>?_)
    rintro⟨ts',hs',L',rfl,hi',hk'⟩
    have hend:(e=.normal\/e=.ret)/\endK P (keys pre) fn.results.toList g y (fun a b=>some (conv a b)) ts' hs'=some q:=by
     cases e with
     |normal=>exact⟨.inl rfl,hk'⟩
     |ret=>exact⟨.inr rfl,hk'⟩
     |_=>simp[finK]at hk'
    obtain⟨he,hk'⟩:=hend
    unfold endK at hk'
    obtain⟨ts2,hs2',L2',hk',hi2',hw0'⟩:=Qb8 (Γ:=Γ) hk' hi'
    obtain⟨hs2,L2,hk',hi2,hw0''⟩:=Qhf (Γ:=Γ) hk' hi2'
    have hw0:=hw0'.trans hw0''
    split at hk'
    .simp at hk'
    rename_i vs0 hvs0
    obtain⟨ts1,hs1,hk',hi1,hw1⟩:=QdF hk hk' hi2
    split at hk'
    .simp at hk'
    rename_i vs hvs
    obtain⟨σ1,a',hk',hs1',g1⟩:=SL.get_some hk'
    obtain⟨σ2,b',hk',hs2',g2⟩:=OL.get_some hk'
    split at hk'
    case isFalse=>simp at hk'
    rename_i hchk
    simp only[bae]at hchk
    obtain⟨⟨⟨⟨hid,hall⟩,hkp⟩,hown1⟩,hown2⟩:=hchk
    obtain⟨hq',hkept⟩:=Uc hk'
    simp only[AN]at hq'
    have hab:(a',b')=(a,b):=(hcu a' b').symm.trans ((BD un hq').trans h)
    obtain⟨hab1,hab2⟩:=C5 hab
    rw[hab1]at g1
    rw[hab2]at g2
    have hf2:=QsH hid
    have hf1:Fit (fun n=>n) (QjC σ2) σ1:=hf2.mono fun p hp=>hs2' p (CD _ hp)
    have hlen2:∀n,arrB post n=true->Qbr L2 (fun n=>n) (QjC σ2) n 0=L1 n 1:=fun n hn=>by
     have hkn:n∈keys post:=by
      unfold arrB at hn
      split at hn
      .rename_i hl;exact Zr (by rw[hl];simp)
      .simp at hn
     obtain⟨b0,hb0⟩:=QgL (u:=0) (y:=b) hkn
     obtain⟨p,z,hp1,hp2,hp3,hp4⟩:=Qtk hb0
     unfold arrB at hn
     rw[hp2]at hn
     obtain⟨k,o⟩:=p
     cases o with
     |TI t=>
      have h1:=hL1 n t z 1 (hpost n _ (hp4 1))
      obtain⟨ob,hob,hle⟩:=g2 _ _ L2 hf2 n _ (hp4 0)
      rcases hle with⟨cs,ds,_,h2,_⟩|⟨t',l',rfl,h2⟩|⟨es,_,h2⟩
      .cases h2
      .cases h2
       rw[h1];exact hi1 n t z _ hob
      .cases h2
     |box l=>simp at hn
     |TV t=>simp at hn
     |arrs t=>simp at hn
     |sm=>simp at hn
    have hle1:X7 (erL L2 (QqM hs1 g.res vs)) (erL L1 (SL.put 1 res a)):=by
     have:=g1 _ _ L2 hf1
     rw[Qgm]at this
     have e:=SL.put_ver (l:=res) (x:=a) (L:=Qbr L2 (fun n=>n) (QjC σ2)) (L':=L1) (u:=0) (v:=1) (fun n hn=>hlen2 n (AW.1 hown1 n hn))
     exact Eq.mp (BD (X7 (erL L2 (QqM hs1 g.res vs))) e) this
    have hobj:∀n b0,C n (g.posts y b)=some b0->∃ob,C n hs1=some ob/\(ob.er L2=b0.er L1\/∃cs ds,ob.er L2=.box cs/\b0.er L1=.box ds/\X7 cs ds):=fun n b0 hb0=>by
     cases hp0:C n (OL.put 1 post b)with
     |some b1=>
      rw[hpost n b1 hp0]at hb0;cases hb0
      obtain⟨p,z,hp1,hp2,hp3,hp4⟩:=Qtk hp0
      subst hp3
      obtain⟨ob,hob,hle⟩:=g2 _ _ L2 hf2 n _ (hp4 0)
      refine⟨ob,hob,?_⟩
      have hv:=OSh.put_ver (s:=p.2) (x:=z) (L:=Qbr L2 (fun n=>n) (QjC σ2)) (L':=L1) (u:=0) (v:=1) (fun m hm=>hlen2 m (AW.1 hown2 m (List.mem_flatMap.2 ⟨p,hp1,hm⟩)))
      rw[<-hv]
      rcases hle with⟨cs,ds,rfl,h2,h3⟩|⟨t',l',rfl,h2⟩|⟨es,rfl,h2⟩
      .rw[Qgm]at h3
       exact .inr ⟨_,_,rfl,by rw[h2];rfl,h3.1⟩
      .exact .inl (by rw[h2];rfl)
      .exact .inl (by rw[h2];rfl)
     |none=>
      change C n (OL.put 1 post b++(OL.put 0 pre y).filter (fun p=>keep.contains p.1))=_ at hb0
      rw[Z1,hp0]at hb0
      simp only[VZ (f:=fun n=>keep.contains n)]at hb0
      split at hb0
      .rename_i hc
       have hc':n∈keep:=by simpa using hc
       rcases hkept n b0 hc' hb0 with⟨t,z,v,rfl,hz⟩|⟨t,z,cs,rfl,hz,hle⟩
       .exact⟨_,hz,.inl rfl⟩
       .refine⟨_,hz,.inr ⟨_,_,rfl,rfl,?_⟩⟩
        rw[show erL L1 (tb t z)=erL L2 (tb t z)from by rw[VW (Qeb t z),VW (Qeb t z)]]
        exact hle.1 L2
      .simp at hb0
    refine⟨BS L2 ts1 hs1,fun ρ M a w hs0=>by obtain⟨ρ',M',h0⟩:=hw0 ρ M a w hs0;exact hw1 ρ' M' a w h0,he,(resB vs).er L2,erH L2 (hpOf (fun n=>n) hs1 (keys (g.posts y b))),QDe hvs,fun n o hn'=>?_,fun n hn'=>?_,fun ρ H M w u hr=>Qyn hle1 ρ H M w u (Qyn (QqN hi1) ρ H M w u hr),fun n o' hn'=>?_,fun n o hn'=>?_⟩
    .rw[ZL]at hn'
     cases hl:C n (hpOf (fun n=>n) hs1 (keys (g.posts y b)))with
     |none=>rw[hl]at hn';simp at hn'
     |some ob=>rw[hl]at hn';rw[XE,Qlk (Q4 hl)];exact hn'
    .rw[Qep,Qln]at hn'
     have hkey:∃b0,C n (g.posts y b)=some b0:=by
      cases hp0:C n (OL.put 1 post b)with
      |some b1=>exact⟨b1,hpost n b1 hp0⟩
      |none=>
       have:=AW.1 hall n hn'
       simp only[B0]at this
       rcases this with h1|h1
       .obtain⟨b1,hb1⟩:=QgL (u:=1) (y:=b) (Wa.1 h1)
        simp_all
       .obtain⟨b1,hb1⟩:=QgL (u:=0) (y:=y) hn'
        exact⟨b1,hpre n b1 hp0 (Wa.1 h1) hb1⟩
     obtain⟨b0,hb0⟩:=hkey
     obtain⟨ob,hob,_⟩:=hobj n b0 hb0
     rw[ZL,QdG (rr:=fun n=>n) (fun _ _ h=>h) hob (Zr (by rw[hb0];simp))];simp
    .rw[ZL]at hn'
     cases hb0:C n (g.posts y b)with
     |none=>rw[hb0]at hn';simp at hn'
     |some b0=>
      rw[hb0]at hn'
      simp only[Aa,AN]at hn'
      obtain⟨ob,hob,hle⟩:=hobj n b0 hb0
      refine⟨ob.er L2,by rw[ZL,QdG (rr:=fun n=>n) (fun _ _ h=>h) hob (Zr (by rw[hb0];simp))];rfl,?_⟩
      rw[<-hn'];exact hle
    .rw[ZL]at hn'
     cases hl:C n (hpOf (fun n=>n) hs1 (keys (g.posts y b)))with
     |none=>rw[hl]at hn';simp at hn'
     |some ob=>
      obtain⟨m,hm,rfl⟩:=Qlj (Q4 hl)
      obtain⟨b0,hb0⟩:=VD hm
      exact⟨_,by rw[ZL,hb0];rfl⟩
   intro G ρ M w us hG hM hargs hobjs hinj
   exact(hspec G ρ M w us hG hM hargs hobjs hinj).mono fun e w' ⟨u,v,h',ρ',e1,⟨c1,c2,c3⟩,ha⟩=>⟨u,_,_,ρ',e1,⟨rfl,rfl⟩,ha.le c1 c2 c3⟩
end
def fitC:Y Sh->Y BV->AH
 |.own _::r,v::vs=>(match v with|.own _ _=>true|_=>false) && fitC r vs
 |_::r,_::vs=>fitC r vs
 |_,_=>true
def fitB:Y SSh->Y BV->AH
 |.one (.own _)::r,v::vs=>(match v with|.own _ _=>true|_=>false) && fitB r vs
 |.one (.clo f _)::r,v::vs=>(match v with|.clo (.func k) _=>Nat.beq k f|_=>false) && fitB r vs
 |.one (.fv f)::r,v::vs=>(match v with|.v (.func (.func k) _ _)=>Nat.beq k f|_=>false) && fitB r vs
 |.agg l::r,v::vs=>(match v with|.agg cs=>fitC l cs|_=>false) && fitB r vs
 |_::r,_::vs=>fitB r vs
 |_,_=>true
def fitD:Nat->I Nat->AH
 |0,_=>true
 |n+1,some d=>Nat.beq n d
 |_,none=>false
def QzO(d:I Nat)(k:Nat)(vs:Y BV):Y (Nat×Nat×Sig)->I Sig
 |[]=>none
 |(j,q,g)::r=>if Nat.beq j k && fitD q d && fitB g.args vs then some g else QzO d k vs r
def envL(l:Y (Nat×Nat×Sig)):Env:=fun d k vs=>QzO d k vs l
def Qiz(P:AF):Y (Nat×Nat×Sig)->Prop
 |[]=>True
 |p::r=>FnOK P p.1 p.2.2/\Qiz P r
def Qtc:∀{l:Y (Nat×Nat×Sig)},Qiz P l->QqS P (envL l)
 |[],_,d,k,vs,g,h=>by simp[envL,QzO]at h
 |(j,q,g0)::r,hl,d,k,vs,g,h=>by
  simp only[envL,QzO]at h
  split at h
  .rename_i e
   simp only[bae]at e
   rw[<-nbe e.1.1];cases h;exact hl.1
  .exact Qtc hl.2 d k vs g h
abbrev X(x:Int):Int:=IntKind.wrap .i64 x
section
variable {R α:Type} {r:R}
def QfE{p:Prop}[Decidable p]{x y:I R}(h:p):J (decide p) x y=x:=by simp only[h,decide_true,J]
def QkT{p:Prop}[Decidable p]{x y:I R}(h:¬p):J (decide p) x y=y:=by simp only[h,decide_false,J]
def QAE{p:Prop}[Decidable p]{x y:I R}:J (decide p) x y=if p then x else y:=by
 by_cases h:p
 .rw[QfE h,iB h]
 .rw[QkT h,iA h]
def QAM{j:Int}{k:Nat->I R}(h:0<=j):TK j k=k j.toNat:=by unfold TK;rw[iB h]
def QC9(i:Nat){k:Nat->I R}:TK (i:Int) k=k i:=by unfold TK;rw[iB (Int.natCast_nonneg i)];rfl
def ZX{x:α}{k:α->I R}:V (some x) k=k x:=rfl
def Vt{o:I α}{x:α}{k:α->I R}(h:o=some x):V o k=k x:=by subst h;rfl
def QCQ[AK α]{l:Y α}{j:Int}{k:α->I R}(h:0<=j)(h':j<(l.length:Int)):TM l j k=k (O l j.toNat):=by
 unfold TM;rw[QAM h]
 have:j.toNat<l.length:=U
 rw[AU this]
 simp[V,O,AQ,AU this]
def QCP[AK α]{l:Y α}{i:Nat}{k:α->I R}(h':i<l.length):TM l (i:Int) k=k (O l i):=by
 rw[QCQ (Int.natCast_nonneg i) U];rfl
def QB8[AK α]{l:Y α}{i:Nat}{k:α->I R}(h':i<l.length):V l[i]? k=k (O l i):=by
 rw[AU h']
 simp[V,O,AQ,AU h']
def QDD{a b:Nat}{x:I R}(h:a=b):chk a b x=x:=by unfold chk;rw[iB h]
def QDE{a b:Nat}{x:I R}(h:a<b):TP a b x=x:=by unfold TP;rw[iB h]
def QC5{a b:Nat}{x:I R}(h:a<=b):TO a b x=x:=by unfold TO;rw[iB h]
def QxP{b:Int}{x:I R}(h:b≠0):nzc b x=x:=by unfold nzc;rw[iA h]
def Ve{a:α}[AL α]{x:I R}:TF a a x=x:=by unfold TF;rw[iB rfl]
def QjG{x:Int}(h : -9223372036854775808<=x)(h':x<=9223372036854775807):X x=x:=by show IntKind.i64.wrap x=x;rw[IntKind.wrap_i64];omega
def Qxy{zF:Type}{B:(zF->I R)->zF->I R}{Q:I R->Prop}(zE:Nat->zF->Prop)(hB:∀m x,zE m x->∀k:zF->I R,(∀m' x',m'<m->zE m' x'->Q (k x'))->Q (B k x)):
  ∀(m:Nat) (x:zF) {fu:Nat},m<fu->zE m x->Q (Qe B fu x):=by
 intro m
 induction m using Nat.strongRecOn with
 |_ m ih=>
  intro x fu hf hI
  obtain⟨f,rfl⟩:∃f,fu=f+1:=⟨fu - 1,U⟩
  show Q (B (Qe B f) x)
  grind
def Ok(o:I R)(Q:R->Prop):Prop:=∃x,o=some x/\Q x
variable {Q Q':R->Prop}
def Ok.s{x:R}(h:Q x):Ok (some x) Q:=⟨x,rfl,h⟩
def Ok.mono{o:I R}(h:Ok o Q)(hq:∀x,Q x->Q' x):Ok o Q':=by obtain⟨x,h1,h2⟩:=h;exact⟨x,h1,hq x h2⟩
def Ok.J{b:AH}{x y:I R}(h1:b=true->Ok x Q)(h2:b=false->Ok y Q):Ok (AM.J b x y) Q:=by
 cases b
 .exact h2 rfl
 .exact h1 rfl
def Ok.ite{p:Prop}[Decidable p]{x y:I R}(h1:p->Ok x Q)(h2:¬p->Ok y Q):Ok (AM.J (decide p) x y) Q:=
 Ok.J (fun h=>h1 (BE h)) (fun h=>h2 (BG h))
def Ok.opt{o:I α}{P:α->Prop}{k:α->I R}(h:Ok o P)(hk:∀x,P x->Ok (k x) Q):Ok (V o k) Q:=by
 obtain⟨x,rfl,h2⟩:=h;exact hk x h2
def Ok.at[AK α]{l:Y α}{j:Int}{k:α->I R}(h:0<=j)(h':j<(l.length:Int))(hk:Ok (k (O l j.toNat)) Q):Ok (TM l j k) Q:=by rw[QCQ h h'];exact hk
def Ok.TO{a b:Nat}{x:I R}(h:a<=b)(hx:Ok x Q):Ok (AM.TO a b x) Q:=by rw[QC5 h];exact hx
def Ok.nzc{b:Int}{x:I R}(h:b≠0)(hx:Ok x Q):Ok (AM.nzc b x) Q:=by rw[QxP h];exact hx
def Ok.TF{a:α}[AL α]{x:I R}(hx:Ok x Q):Ok (AM.TF a a x) Q:=by rw[Ve];exact hx
def Ok.TG{zB:Type}{k:zB->I R}{f:(zB->I R)->I R}(zG:zB->Prop)(h1:∀y,zG y->Ok (k y) Q)(h2:∀k:zB->I R,(∀y,zG y->Ok (k y) Q)->Ok (f k) Q):Ok (AM.TG k f) Q:=h2 k h1
def Ok.loop{zF:Type}{B:(zF->I R)->zF->I R}(zE:Nat->zF->Prop){m:Nat}{x:zF}{fu:Nat}(hm:m<fu)(h0:zE m x)(hB:∀m x,zE m x->∀k:zF->I R,(∀m' x',m'<m->zE m' x'->Ok (k x') Q)->Ok (B k x) Q):Ok (Qe B fu x) Q:=
 Qxy (Q:=fun o=>Ok o Q) zE hB m x hm h0
def Ok.eq{o:I R}{v:R}(h:Ok o (·=v)):o=some v:=by obtain⟨x,rfl,rfl⟩:=h;rfl
end
open Go
section
variable {R α:Type} {Q:R->Prop}
def Ok.p{p:Prop}[Decidable p]{x y:I R}(h:p)(hx:Ok x Q):Ok (AM.J (decide p) x y) Q:=by rw[QfE h];exact hx
def Ok.n{p:Prop}[Decidable p]{x y:I R}(h:¬p)(hx:Ok y Q):Ok (AM.J (decide p) x y) Q:=by rw[QkT h];exact hx
def Ok.np{p:Prop}[Decidable p]{x y:I R}(h:p)(hx:Ok y Q):Ok (AM.J (!decide p) x y) Q:=by simp only[h,decide_true,CS];exact hx
def Ok.nn{p:Prop}[Decidable p]{x y:I R}(h:¬p)(hx:Ok x Q):Ok (AM.J (!decide p) x y) Q:=by simp only[h,decide_false,Bool.not_false];exact hx
def Ok.t{x y:I R}(hx:Ok x Q):Ok (AM.J true x y) Q:=hx
def Ok.f{x y:I R}(hx:Ok y Q):Ok (AM.J false x y) Q:=hx
def Ok.bt{b:AH}{x y:I R}(h:b=true)(hx:Ok x Q):Ok (AM.J b x y) Q:=by rw[h];exact hx
def Ok.bf{b:AH}{x y:I R}(h:b=false)(hx:Ok y Q):Ok (AM.J b x y) Q:=by rw[h];exact hx
def Ok.nt{b:AH}{x y:I R}(h:b=true)(hx:Ok y Q):Ok (AM.J (!b) x y) Q:=by rw[h];exact hx
def Ok.nf{b:AH}{x y:I R}(h:b=false)(hx:Ok x Q):Ok (AM.J (!b) x y) Q:=by rw[h];exact hx
def Ok.ncnd{b:AH}{x y:I R}(h1:b=false->Ok x Q)(h2:b=true->Ok y Q):Ok (AM.J (!b) x y) Q:=by
 cases b
 .exact h1 rfl
 .exact h2 rfl
def Ok.j{zB:Type}{k:zB->I R}{f:(zB->I R)->I R}(h:Ok (f k) Q):Ok (AM.TG k f) Q:=h
def Ok.oe{o:I α}{v:α}{k:α->I R}(h:o=some v)(hk:Ok (k v) Q):Ok (V o k) Q:=by rw[h];exact hk
def Ok.os{v:α}{k:α->I R}(hk:Ok (k v) Q):Ok (V (some v) k) Q:=hk
def Ok.ck{a b:Nat}{x:I R}(h:a=b)(hx:Ok x Q):Ok (AM.chk a b x) Q:=by rw[QDD h];exact hx
def Ok.lt{a b:Nat}{x:I R}(h:a<b)(hx:Ok x Q):Ok (AM.TP a b x) Q:=by rw[QDE h];exact hx
def Ok.nat{j:Int}{k:Nat->I R}(h:0<=j)(hk:Ok (k j.toNat) Q):Ok (AM.TK j k) Q:=by rw[QAM h];exact hk
def Ok.natn{i:Nat}{k:Nat->I R}(hk:Ok (k i) Q):Ok (AM.TK (i:Int) k) Q:=by rw[QC9];exact hk
def Ok.get[AK α]{l:Y α}{i:Nat}{k:α->I R}(h:i<l.length)(hk:Ok (k (O l i)) Q):Ok (V (GetElem?.getElem? l i) k) Q:=by rw[QB8 h];exact hk
def Ok.atn[AK α]{l:Y α}{i:Nat}{k:α->I R}(h:i<l.length)(hk:Ok (k (O l i)) Q):Ok (TM l (i:Int) k) Q:=by rw[QCP h];exact hk
def Ok.nil{l:Y α}{x y:I R}(h1:l=[]->Ok x Q)(h2:l≠[]->Ok y Q):Ok (TR l x y) Q:=by
 cases l with
 |nil=>exact h1 rfl
 |cons a l=>exact h2 Ob
def Yg[AL α]{l:Y α}(h:l.length<=34359738368):TR l (AM.TU (some []) (AM.TO l.length 34359738368 (some l))) (AM.TO l.length 34359738368 (some l))=some l:=by
 rw[QC5 h]
 cases l with
 |nil=>unfold AM.TU;rfl
 |cons a l=>rfl
def Qc{x:Int}(h : -9223372036854775808<=x/\x<=9223372036854775807):X x=x:=QjG h.1 h.2
def Ok.run{zF:Type}{B:(zF->I R)->zF->I R}(n:Nat)(st:Nat->zF){fu:Nat}{x:zF}(hx:x=st 0)(hf:n<fu)(hs:∀i,i<n->∀k,(Ok (k (st (i+1))) Q->Ok (B k (st i)) Q))(h:∀k,Ok (B k (st n)) Q):Ok (Qe B fu x) Q:=by
 subst hx
 revert st fu
 induction n with
 |zero=>
  intro st fu hf _ h
  obtain⟨f,rfl⟩:∃f,fu=f+1:=⟨fu - 1,U⟩
  exact h _
 |succ n ih=>
  intro st fu hf hs h
  obtain⟨f,rfl⟩:∃f,fu=f+1:=⟨fu - 1,U⟩
  show Ok (B (Qe B f) (st 0)) Q
  exact hs 0 U _ (ih (fun i=>st (i+1)) U (fun i hi k=>hs (i+1) U k) h)
def Ok.scan{zF:Type}{B:(zF->I R)->zF->I R}(n:Nat)(st:Nat->zF)(q:Nat->AH){fu:Nat}{x:zF}(hx:x=st 0)(hf:n<fu)(hy:∀i,i<n->q i=true->(∀j,j<i->q j=false)->∀k,Ok (B k (st i)) Q)(hn:∀i,i<n->q i=false->∀k,(Ok (k (st (i+1))) Q->Ok (B k (st i)) Q))(he:(∀j,j<n->q j=false)->∀k,Ok (B k (st n)) Q):Ok (Qe B fu x) Q:=by
 refine Ok.loop (fun m x=>∃i,i<=n/\m=n - i/\x=st i/\∀j,j<i->q j=false) (m:=n) hf ⟨0,U,rfl,hx,fun j hj=>U⟩ ?_
 rintro m x ⟨i,h1,h2,rfl,h3⟩ k hk
 by_cases h:i<n
 .cases hq:q i with
  |true=>exact hy i h hq h3 k
  |false=>exact hn i h hq k (hk (n - (i+1)) _ U ⟨i+1,U,rfl,rfl,fun j hj=>by
    by_cases e:j=i
    .subst e;exact hq
    .exact h3 j U⟩)
 .obtain rfl:i=n:=U
  exact he h3 k
def QjL{l:Y α}[AK α]{p:α->AH}{i:Nat}(hi:i<l.length)(h:p (O l i)=true):l.any p=true:=EP.2 ⟨_,Qf hi,h⟩
def Qoe{l:Y α}[AK α]{p:α->AH}(h:∀j,j<l.length->p (O l j)=false):l.any p=false:=by
 rw[Ei]
 intro x hx
 obtain⟨j,hj,rfl⟩:=BZ hx
 have:=h j hj
 simp only[O,AQ,AU hj,Bt]at this
 simp[this]
def cnd2{p q:Prop}[Decidable p][Decidable q]:AM.J (decide p) (AM.J (decide q) (some true) (some false)) (some false)=some (decide (p/\q)):=by
 by_cases hp:p<;>by_cases hq:q<;>simp[AM.J,hp,hq]
def Ok.of{o:I R}{v:R}(h:o=some v)(hq:Q v):Ok o Q:=⟨v,h,hq⟩
def Ok.N{p:Prop}[Decidable p]{x y:I R}(hx:Ok y Q)(h:¬p:=by omega):Ok (AM.J (decide p) x y) Q:=.n h hx
def Ok.P{p:Prop}[Decidable p]{x y:I R}(hx:Ok x Q)(h:p:=by omega):Ok (AM.J (decide p) x y) Q:=.p h hx
def Ok.NS{p:Prop}[Decidable p]{x y:I R}(hx:Ok y Q)(h:¬p:=by simp):Ok (AM.J (decide p) x y) Q:=.n h hx
def Ok.PS{p:Prop}[Decidable p]{x y:I R}(hx:Ok x Q)(h:p:=by simp):Ok (AM.J (decide p) x y) Q:=.p h hx
def Ok.L{a b:Nat}{x:I R}(hx:Ok x Q)(h:a<=b:=by omega):Ok (AM.TO a b x) Q:=.TO h hx
def Ok.LS{a b:Nat}{x:I R}(hx:Ok x Q)(h:a<=b:=by simp;omega):Ok (AM.TO a b x) Q:=.TO h hx
def Ok.E{a b:Nat}{x:I R}(hx:Ok x Q)(h:a<b:=by omega):Ok (AM.TP a b x) Q:=.lt h hx
def Ok.A[AK α]{l:Y α}{i:Nat}{k:α->I R}(hk:Ok (k (O l i)) Q)(h:i<l.length:=by omega):Ok (TM l (i:Int) k) Q:=.atn h hk
def Ok.G[AK α]{l:Y α}{i:Nat}{k:α->I R}(hk:Ok (k (O l i)) Q)(h:i<l.length:=by omega):Ok (V (GetElem?.getElem? l i) k) Q:=.get h hk
def Ok.Z{b:Int}{x:I R}(hx:Ok x Q)(h:b≠0:=by omega):Ok (AM.nzc b x) Q:=.nzc h hx
end
end Go.Proofs.YtlllfgmajglnhaaGreat.AM
namespace Go.Proofs.YtlllfgmajglnhaaGreat
open Go AM
def Asc(l:Y Int):Prop:=l.Pairwise (·<·)
def Qfx:∀{a b:Y Int},Asc a->Asc b->(∀x,x∈a↔x∈b)->a=b
 |[],[],_,_,_=>rfl
 |[],y::b,_,_,h=>by have:=(h y).2 (BA ..);simp at this
 |x::a,[],_,_,h=>by have:=(h x).1 (BA ..);simp at this
 |x::a,y::b,ha,hb,h=>by
  have ha':=CF.1 ha
  have hb':=CF.1 hb
  have e:x=y:=by
   rcases AY.1 ((h x).1 (BA ..))with e|hx
   .exact e
   .rcases AY.1 ((h y).2 (BA ..))with e|hy
    .exact e.symm
    .grind
  subst e
  congr 1
  refine Qfx ha'.2 hb'.2 fun z=>⟨fun hz=>?_,fun hz=>?_⟩
  .grind
  .grind
def Qac(l:Y Int)(x:Int):Nat->Y Int×AH
 |0=>([],false)
 |i+1=>((Qac l x i).1++(if (Qac l x i).2=false/\x<=O l i then[x]else[])++(if O l i≠x then[O l i]else[]),(Qac l x i).2 || decide (x<=O l i))
def QsM(l:Y Int)(x:Int):Y Int:=if (Qac l x l.length).2=true then(Qac l x l.length).1 else(Qac l x l.length).1++[x]
def QjN(h:Asc l)(hij:i<j)(hj:j<l.length):O l i<O l j:=by
 have:=CZ.1 h i j U hj hij
 simpa [O,AQ,AU hj,AU (show i<l.length by omega)]using this
def UB(h:i<l.length)(z:Int):z∈l.take (i+1)↔z∈l.take i\/z=O l i:=by
 rw[Cv h,Ah,Ae]
 simp[O,AQ,AU h]
def Qu0(h:Asc l):∀i,i<=l.length->Asc (Qac l x i).1/\(∀z,z∈(Qac l x i).1↔z∈l.take i/\z≠x\/(Qac l x i).2=true/\z=x)/\
  ((Qac l x i).2=false->∀z∈l.take i,z<x)/\((Qac l x i).2=true->∀j,i<=j->j<l.length->x<O l j)
 |0,_=>by simp[Qac,Asc]
 |i+1,hi=>by
  obtain⟨h1,h2,h3,h4⟩:=Qu0 h i U
  have hlt:∀z∈l.take i,z<O l i:=fun z hz=>by
   obtain⟨j,hj,rfl⟩:=BZ hz
   rw[Af]at hj
   have:=QjN h (show j<i by omega) (show i<l.length by omega)
   simpa [O,AQ,AU (show j<l.length by omega)]using this
  simp only[Qac]
  cases hd:(Qac l x i).2 with
  |true=>
   have hx:=h4 hd i (AP _) U
   rw[iA Ob,iB U,Ao]
   refine⟨?_,fun z=>?_,Ob,fun _ j hj hl=>h4 hd j U hl⟩
   .refine CH.2 ⟨h1,C6 _ _,fun a ha b hb=>?_⟩
    rw[Ae.1 hb]
    rcases(h2 a).1 ha with⟨g,_⟩|⟨_,rfl⟩
    .exact hlt a g
    .exact hx
   .rw[Ah,h2,UB U,Ae,hd]
    simp only[Bb,true_and]
    constructor
    .rintro((⟨g,g'⟩|g)|g)
     .exact .inl ⟨.inl g,g'⟩
     .exact .inr g
     .exact .inl ⟨.inr g,U⟩
    .rintro(⟨g|g,g'⟩|g)
     .exact .inl (.inl ⟨g,g'⟩)
     .exact .inr g
     .exact .inl (.inr g)
  |false=>
   have hb:=h3 hd
   by_cases hx:x<=O l i
   .rw[iB ⟨rfl,hx⟩]
    have e:(false || decide (x<=O l i))=true:=by simp[hx]
    rw[e]
    have hm:∀z,z∈(Qac l x i).1↔z∈l.take i:=fun z=>by
     rw[h2,hd]
     refine⟨fun g=>?_,fun g=>.inl ⟨g,by have:=hb z g;omega⟩⟩
     rcases g with⟨g,_⟩|⟨g,_⟩
     .exact g
     .simp at g
    refine⟨?_,fun z=>?_,Ob,fun _ j hj hl=>?_⟩
    .refine CH.2 ⟨CH.2 ⟨h1,C6 _ _,fun a ha b hb'=>?_⟩,?_,fun a ha b hb'=>?_⟩
     .rw[Ae.1 hb'];exact hb a ((hm a).1 ha)
     .split<;>simp
     .split at hb'
      .rename_i hne
       rw[Ae.1 hb']
       rcases Ah.1 ha with ha|ha
       .exact hlt a ((hm a).1 ha)
       .rw[Ae.1 ha];omega
      .simp at hb'
    .rw[Ah,Ah,hm,UB U,Ae]
     by_cases hne:O l i≠x
     .rw[iB hne,Ae]
      constructor
      .rintro((g|g)|g)
       .exact .inl ⟨.inl g,by have:=hb z g;omega⟩
       .exact .inr ⟨rfl,g⟩
       .exact .inl ⟨.inr g,U⟩
      .rintro(⟨g|g,_⟩|⟨_,g⟩)
       .exact .inl (.inl g)
       .exact .inr g
       .exact .inl (.inr g)
     .rw[iA hne]
      simp only[BH,or_false]
      constructor
      .rintro(g|g)
       .exact .inl ⟨.inl g,by have:=hb z g;omega⟩
       .exact .inr ⟨trivial,g⟩
      .rintro(⟨g|g,g'⟩|⟨_,g⟩)
       .exact .inl g
       .omega
       .exact .inr g
    .have:=QjN h (show i<j by omega) hl
     omega
   .rw[iA (by simp[hx]),iB U,Ao]
    have e:(false || decide (x<=O l i))=false:=by simp[hx]
    rw[e]
    refine⟨?_,fun z=>?_,fun _ z hz=>?_,Ob⟩
    .refine CH.2 ⟨h1,C6 _ _,fun a ha b hb'=>?_⟩
     rw[Ae.1 hb']
     rcases(h2 a).1 ha with⟨g,_⟩|⟨g,_⟩
     .exact hlt a g
     .rw[hd]at g;simp at g
    .rw[Ah,h2,UB U,Ae,hd]
     simp only[Bh,false_and,or_false]
     constructor
     .rintro(⟨g,g'⟩|g)
      .exact⟨.inl g,g'⟩
      .exact⟨.inr g,U⟩
     .rintro⟨g|g,g'⟩
      .exact .inl ⟨g,g'⟩
      .exact .inr g
    .rcases(UB (show i<l.length by omega) z).1 hz with g|g
     .exact hb z g
     .omega
def Qhg(h:Asc l):Asc (QsM l x)/\∀z,z∈QsM l x↔z∈l\/z=x:=by
 obtain⟨h1,h2,h3,h4⟩:=Qu0 (x:=x) h l.length (AP _)
 rw[Ad]at h2 h3
 unfold QsM
 split
 .grind
 .rename_i hd
  have hd:(Qac l x l.length).2=false:=by cases hb:(Qac l x l.length).2<;>simp_all
  have hm:∀z,z∈(Qac l x l.length).1↔z∈l:=fun z=>by
   grind
  refine⟨CH.2 ⟨h1,C6 _ _,fun a ha b hb=>?_⟩,fun z=>?_⟩
  .simp_all
  .simp_all
def Qla(l:Y Int)(j:Nat):Y Int:=(l.set j (O l (j - 1))).set (j - 1) (O l j)
def QAl(l)(j):(Qla l j).length=l.length:=by simp[Qla]
def QmC{l:Y Int}{j k:Nat}{x:Int}(hj:j<l.length):O (l.set j x) k=if k=j then x else O l k:=by
 by_cases h:k=j
 .subst h;rw[iB rfl];simp[O,AQ,hj]
 .rw[iA h];simp[O,AQ,List.getElem?_set_ne (Aj h)]
def QgN(h1:1<=j)(hj:j<l.length):O (Qla l j) k=if k=j - 1 then O l j else if k=j then O l (j - 1)else O l k:=by
 unfold Qla
 rw[QmC (by simp;omega)]
 split
 .rfl
 .rw[QmC hj]
def Xl(l:Y Int)(n:Nat):Prop:=∀a b,a<b->b<n->O l a<=O l b
def Qn9(l:Y Int)(n j:Nat):Prop:=∀a b,a<b->b<n->b≠j->O l a<=O l b
def Qkw(h:Xl l i):Qn9 l (i+1) i:=fun a b h1 h2 h3=>h a b h1 U
def QlT(h:Qn9 l n j)(h1:1<=j)(hj:j<l.length)(hn:j<n)(hlt:O l j<O l (j - 1)):Qn9 (Qla l j) n (j - 1):=by
 intro a b hab hb hne
 rw[QgN h1 hj,QgN h1 hj,iA hne]
 by_cases g1:b=j
 .subst g1
  rw[iB rfl]
  by_cases g2:a=b - 1
  .rw[iB g2];omega
  .rw[iA g2,iA U]
   exact h a (b - 1) U U U
 .rw[iA g1]
  by_cases g2:a=j - 1
  .rw[iB g2];exact h j b U hb g1
  .rw[iA g2]
   by_cases g3:a=j
   .rw[iB g3];exact h (j - 1) b U hb g1
   .rw[iA g3];exact h a b hab hb g1
def Qok(h:Qn9 l n j)(he:j=0\/O l (j - 1)<=O l j):Xl l n:=by
 intro a b hab hb
 by_cases g:b=j
 .subst g
  rcases he with he|he
  .omega
  .by_cases g2:a=b - 1
   .rw[g2];exact he
   .have:=h a (b - 1) U U U;omega
 .exact h a b hab hb g
def QAB(h:Xl l l.length)(hd:∀k,1<=k->k<l.length->O l (k - 1)≠O l k):Asc l:=by
 refine CZ.2 fun i j hi hj hij=>?_
 have e:∀k (hk:k<l.length),l[k]=O l k:=fun k hk=>by simp[O,AQ,AU hk]
 rw[e i hi,e j hj]
 have h1:=hd j U hj
 have h2:=h (j - 1) j U hj
 rcases Nat.eq_or_lt_of_le (show i<=j - 1 by omega)with g|g
 .rw[g];omega
 .have:=h i (j - 1) g U;omega
end Go.Proofs.YtlllfgmajglnhaaGreat
set_option maxRecDepth 100000
namespace Go.Proofs.YtlllfgmajglnhaaGreat
open Go AM
section
structure Qca (x:D.r):Prop where
 kind:0<=x.b/\x.b<=2
 a:(0<=x.A/\x.A<4)\/(x.b=1/\x.A = -1)
 b:x.b=2->0<=x.B/\x.B<4/\x.A≠x.B
 b0:x.b≠2->x.B=0
 time:864000<=x.v/\x.v<x.To/\x.To<950400
structure Y1 (l:D.w):Prop where
 name:l.Name=ByteArray.mk #[108]
 zone:l.p=0
 day:l.R.Fl=1\/l.R.Fl=9\/l.R.Fl=10
 second:0<=l.R.FU/\l.R.FU<=43200
 unit:l.Unit=0\/l.Unit=1
 every:1<=l.FI/\l.FI<=3
 len:1<=l.s.length/\l.s.length<=3
 mem:∀x∈l.s,0<=x/\x<4
 win:l.Fk=[]
 cal:l.m=0/\l.F0=0
structure QaG (p:D.Q):Prop where
 zone:p.p=0
 max:p.Fx=0/\p.Fy=0
 quiet:p.Fg=[]\/∃a b,p.Fg=[⟨a,b⟩]/\(a=0\/a=3600)/\(b=7200\/b=86400\/b=604800)
structure Qej (n:Nat) (s:D.c):Prop where
 layers:∃l,s.Fi=[l]/\Y1 l
 len:s.FS.length<=n
 edit:∀x∈s.FS,Qca x
def bZ:AJ:=ByteArray.mk #[122]
def Yu:Y AJ:=[ByteArray.mk #[97,110,110],ByteArray.mk #[98,111,98],ByteArray.mk #[99,97,116],ByteArray.mk #[100,97,110]]
def YQ:Y AJ:=[ByteArray.mk #[102,105,114,115,116],ByteArray.mk #[115,101,99,111,110,100]]
structure Zc (n:Nat) (c:D.E):Prop where
 zone:∃off,c.FF=[⟨bZ,off,[]⟩]/\(off=0\/off=3600\/off = -7200)
 pname:c.k.map (·.Name)=Yu
 person:∀p∈c.k,QaG p
 cal:c.n=[]
 sname:c.f.map (·.Name)=YQ
 sched:∀s∈c.f,Qej n s
def Zc.plen(h:Zc n c):c.k.length=4:=by
 have:=BD List.length h.pname;simpa [Yu]using this
def Zc.slen(h:Zc n c):c.f.length=2:=by
 have:=BD List.length h.sname;simpa [YQ]using this
def Zc.mono(h:Zc n c)(hm:n<=m):Zc m c:=
 ⟨h.zone,h.pname,h.person,h.cal,h.sname,fun s hs=>⟨(h.sched s hs).layers,AX (h.sched s hs).len hm,(h.sched s hs).edit⟩⟩
def Xb(c:D.E):Int:=(O c.FF 0).FT
def Zc.zones(h:Zc n c):c.FF=[⟨bZ,Xb c,[]⟩]/\(Xb c=0\/Xb c=3600\/Xb c = -7200):=by
 obtain⟨off,h1,h2⟩:=h.zone
 have:Xb c=off:=by unfold Xb;rw[h1];rfl
 simp_all
def QAs(l:D.w):Int:=if l.Unit=0 then 3600 else 86400
def Qe1(l:D.w):Int:=QAs l*l.FI
def YH(off:Int)(l:D.w):Int:=l.R.Fl*86400+l.R.FU - off
def Xa(off:Int)(l:D.w)(k:Int):Int:=YH off l+Qe1 l*k
def Z8(off:Int)(l:D.w)(t:Int):Int:=if t<YH off l then -1 else(t - YH off l) / Qe1 l
def QqG(h:Y1 l):3600<=Qe1 l/\Qe1 l<=259200:=by
 have h2:=h.every
 have h1:=h.unit
 unfold Qe1 QAs
 split<;>omega
def QiN(h:Y1 l)(ho:off=0\/off=3600\/off = -7200):0<YH off l/\YH off l<=1000000:=by
 have h1:=h.day
 have h2:=h.second
 unfold YH;omega
def QqD(h:Y1 l)(h0:0<=k)(h1:Xa off l k<=t)(h2:t<Xa off l (k+1)):Z8 off l t=k:=by
 have hs:=(QqG h).1
 unfold Xa at h1 h2
 rw[Int.mul_add,Int.mul_one]at h2
 have h3:0<=Qe1 l*k:=Int.mul_nonneg U h0
 unfold Z8
 rw[iA U]
 have h4:k<=(t - YH off l) / Qe1 l:=(Int.le_ediv_iff_mul_le U).2 (by rw[Int.mul_comm];omega)
 have h5:(t - YH off l) / Qe1 l<k+1:=(Int.ediv_lt_iff_lt_mul U).2 (by rw[Int.mul_comm,Int.mul_add,Int.mul_one];omega)
 omega
def QqE(h:t<Xa off l 0):Z8 off l t = -1:=by
 unfold Xa at h;rw[Int.mul_zero,Int.add_zero]at h
 unfold Z8;rw[iB h]
def QAf(h:Y1 l)(h0:YH off l<=t):0<=Z8 off l t/\Xa off l (Z8 off l t)<=t/\t<Xa off l (Z8 off l t+1):=by
 have hs:=(QqG h).1
 have e:Z8 off l t=(t - YH off l) / Qe1 l:=by unfold Z8;rw[iA U]
 have h1:=Int.mul_ediv_add_emod (t - YH off l) (Qe1 l)
 have h2:=Cp (t - YH off l) (b:=Qe1 l) U
 have h3:=Cq (t - YH off l) (b:=Qe1 l) U
 have h4:0<=(t - YH off l) / Qe1 l:=EQ U U
 rw[e]
 unfold Xa
 grind
def Qsz(h:Y1 l)(ho:off=0\/off=3600\/off = -7200)(ht:t<=8589934592): -1<=Z8 off l t/\Z8 off l t<=8589934592:=by
 by_cases h0:YH off l<=t
 .have h1:=QAf h h0
  have h2:=(QqG h).1
  have h3:=(QiN h ho).1
  have h4:3600*Z8 off l t<=Qe1 l*Z8 off l t:=Int.mul_le_mul_of_nonneg_right h2 h1.1
  unfold Xa at h1
  omega
 .unfold Z8;rw[iB U];omega
def Qem(off:Int)(l:D.w)(t:Int):Int:=if Z8 off l t<0 then -1 else O l.s ((Z8 off l t).toNat % l.s.length)
def Qzp(h:Y1 l): -1<=Qem off l t/\Qem off l t<4:=by
 unfold Qem
 split
 .omega
 .have hl:=h.len
  have:=h.mem (O l.s ((Z8 off l t).toNat % l.s.length)) (Qf (Ck _ U))
  omega
def QsY(p t:Int)(x:D.r):AH:=decide (x.b=0) && decide (x.A=p) && decide (x.v<=t) && decide (t<x.To)
def QlN(es:Y D.r)(p t:Int):AH:=es.any (QsY p t)
def QrA(t:Int)(p:Int)(x:D.r):Int:=
 if ¬(x.v<=t/\t<x.To)\/x.b=0 then p else if x.b=1 then x.A else if x.b≠2 then p else if p=x.A then x.B else if p=x.B then x.A else p
def QiQ(es:Y D.r)(p t:Int):Int:=es.foldl (QrA t) p
def Qzu(h:Qca x)(hp : -1<=p/\p<4): -1<=QrA t p x/\QrA t p x<4:=by
 have ha:=h.a
 have hb:=h.b
 unfold QrA
 repeat' split
 all_goals omega
def Qun:∀{es:Y D.r} {p:Int},(∀x∈es,Qca x)->(-1<=p/\p<4)->-1<=QiQ es p t/\QiQ es p t<4
 |[],p,_,hp=>hp
 |x::es,p,h,hp=>Qun (es:=es) (fun y hy=>h y (BB _ hy)) (Qzu (h x (BA ..)) hp)
def Qou(hk:k<es.length):QiQ (es.take (k+1)) p t=QrA t (QiQ (es.take k) p t) (O es k):=by
 unfold QiQ
 rw[Cv hk,Ef]
 simp[O,AQ,AU hk]
def layP(off:Int)(s:D.c)(t:Int):Int:=if 0<=Qem off (O s.Fi 0) t/\QlN s.FS (Qem off (O s.Fi 0) t) t=false then Qem off (O s.Fi 0) t else -1
def whoS(off:Int)(s:D.c)(t:Int):Int:=QiQ s.FS (layP off s t) t
def whoV(c:D.E)(i t:Int):Int:=if 0<=i/\i<2/\0<=t/\t<=8589934592 then whoS (Xb c) (O c.f i.toNat) t else -1
def QBW(h:Qej n s): -1<=layP off s t/\layP off s t<4:=by
 obtain⟨l,h1,h2⟩:=h.layers
 have:=Qzp (off:=off) (t:=t) h2
 unfold layP
 rw[h1,show O [l] 0=l from rfl]
 split<;>omega
def QCG(h:Zc n c): -1<=whoV c i t/\whoV c i t<4:=by
 unfold whoV
 split
 .have hs:=h.sched (O c.f i.toNat) (Qf (by rw[h.slen];omega))
  exact Qun hs.edit (QBW hs)
 .omega
def Qur(hs:Qe1 l=86400*n):(l.R.Fl+k*n)*86400+l.R.FU - off=Xa off l k:=by
 unfold Xa YH
 grind
def Qnl(h:l.Unit=1):Qe1 l=86400*l.FI:=by unfold Qe1 QAs;rw[iA U]
def Qko(h:l.Unit=0):Qe1 l=3600*l.FI:=by unfold Qe1 QAs;rw[iB h]
def QdJ(c:D.E)(b:D.a)(x:D.FP)(t:Int):Y Int:=
 if x.b=0 then[x.FY]else if x.b=1 then(if whoV c x.FY t<0 then[]else[whoV c x.FY t])else
  if x.b=2/\0<=x.FY/\x.FY<(b.t.length:Int)then(O b.t x.FY.toNat).s else[]
def Means(c:D.E)(b:D.a)(l:Y D.FP)(t z:Int):Prop:=0<=z/\z<4/\∃x∈l,z∈QdJ c b x t
def Qb0(off t:Int):Int:=((t+off) / 86400+3) % 7*86400+(t+off) % 86400
def Qf3(ws:Y D.FA)(s:Int):AH:=ws.any fun w=>decide (w.v<=s) && decide (s<w.To)
def Vu(c:D.E)(p t:Int)(urgent:AH):AH:=
 decide (0<=p/\p<4/\0<=t/\t<=8589934592) && (urgent && (O c.k p.toNat).Ft || !Qf3 (O c.k p.toNat).Fg (Qb0 (Xb c) t))
end
def QiA:Y AJ:=[ByteArray.mk #[99,111,114,101],ByteArray.mk #[119,101,98]]
def QnF:Y AJ:=[ByteArray.mk #[112],ByteArray.mk #[113],ByteArray.mk #[114]]
structure QqT (t:D.Fa):Prop where
 asc:Asc t.s
 len:1<=t.s.length/\t.s.length<=2
 mem:∀x∈t.s,0<=x/\x<4
structure Up (n:Nat) (t:D.FP):Prop where
 kind:t.b=0\/t.b=1\/t.b=2
 lo:0<=t.FY
 person:t.b=0->t.FY<4
 sched:t.b=1->t.FY<2
 team:t.b=2->t.FY<(n:Int)
structure StepOK' (n:Nat) (s:D.u):Prop where
 wait:0<=s.Fv/\s.Fv<=900
 len:s.Fb.length<=2
 target:∀t∈s.Fb,Up n t
structure QdB (n:Nat) (p:D.W):Prop where
 rep:0<=p.Fj/\p.Fj<=2
 len:1<=p.Steps.length/\p.Steps.length<=3
 step:∀s∈p.Steps,StepOK' n s
structure QP (b:D.a):Prop where
 tlen:b.t.length<=2
 tname:b.t.map (·.Name)=QiA.take b.t.length
 team:∀t∈b.t,QqT t
 plen:1<=b.j.length/\b.j.length<=3
 pname:b.j.map (·.Name)=QnF.take b.j.length
 pol:∀p∈b.j,QdB b.t.length p
def YG(p:D.W):Int:=if 0<=p.Fj/\p.Fj<=8/\p.Steps.length<=8 then(p.Steps.length:Int)*(p.Fj+1)else 0
def Yt(h:QdB n p):YG p=(p.Steps.length:Int)*(p.Fj+1)/\1<=YG p/\YG p<=9:=by
 have h1:=h.rep
 have h2:=h.len
 have e:YG p=(p.Steps.length:Int)*(p.Fj+1):=by unfold YG;rw[iB U]
 refine⟨e,?_⟩
 rw[e]
 have h3:p.Fj=0\/p.Fj=1\/p.Fj=2:=U
 grind
def Vy(c:D.E)(b:D.a)(l:Y D.FP)(t:Int):Y Int:=([0,1,2,3]:Y Int).filter fun z=>l.any fun x=>(QdJ c b x t).contains z
def Qcq:z∈Vy c b l t↔Means c b l t z:=by
 unfold Vy Means
 simp only[Bk,EP,Bg,AY,BH,or_false]
 grind
def asc4:Asc [0,1,2,3]:=by unfold Asc;decide
def Qic:Asc (Vy c b l t):=CO _ asc4
def Qid:(Vy c b l t).length<=4:=CP _ _
def QoD(h:Asc r)(hm:∀z,z∈r↔Means c b l t z):r=Vy c b l t:=
 Qfx h Qic fun z=>(hm z).trans Qcq.symm
def QcH(c:D.E)(b:D.a)(s:D.u)(t:Int):Y Int:=(Vy c b s.Fb t).filter fun z=>Vu c z t s.Fp
def QwV:Asc (QcH c b s t):=CO _ Qic
def Qq6:(QcH c b s t).length<=4:=AX (CP _ _) Qid
def QwW:z∈QcH c b s t->0<=z/\z<4:=fun h=>by
 have:=Qcq.1 (Bk.1 h).1
 exact⟨this.1,this.2.1⟩
def Xc(b:D.a)(p:D.Page):D.W:=O b.j p.W.toNat
def dueV(p:D.Page):Int×AH:=if p.q=0 then(p.FM,true)else if p.q=2 then(p.FL,true)else(0,false)
def X9(p:D.Page):Y Int:=if p.P=[]then[]else(O p.P (p.P.length - 1)).k
def setF(n:Int):Int->Y Int->AH
 |_,[]=>true
 |k,x::r=>decide (0<=x) && decide (x<n) && decide (k<x) && setF n x r
def setV(l:Y Int):AH:=setF 32 (-1) l
def WG(next:Int):Int->Int->Y D.R->AH
 |_,_,[]=>true
 |k,t,x::r=>decide (t<=x.At) && (decide (x.K = -1) || decide (0<=x.K) && decide (k<x.K) && decide (x.K<next)) && setV x.k && WG next (max k x.K) x.At r
def Qis(p:D.Page):AH:=WG p.E7 (-1) p.R p.P && decide (p.P.length<=200)
def Qn3(l:Y Int):AH:=decide l.Nodup && decide (l.length<=64)
def QsK(p:D.W):AH:=p.Steps.all fun s=>decide (0<=s.Fv) && decide (s.Fv<=86400)
def farV:Int:=17179869184
def inV(n lo hi:Int):AH:=decide (lo<=n) && decide (n<=hi)
def QG(b:D.a)(p:D.Page):AH:=
 inV p.S 1 999999 && inV p.W 0 ((b.j.length:Int) - 1) && inV p.R 0 8589934592 && QsK (Xc b p) && inV p.E7 0 (YG (Xc b p)) &&
 inV p.q 0 4 && inV p.By (-1) 31 && inV p.FN p.R farV && inV p.FM 0 farV && inV p.FL 0 farV && inV p.z 0 4 && inV p.FK 0 4 && Qis p && setV p.g && Qn3 p.i
def page0:D.Page:=D.Page.mk 0 0 0 0 0 0 0 0 0 0 0 [] [] []
def Zw(b:D.a)(p:D.Page):D.u:=O (Xc b p).Steps (p.E7 % ((Xc b p).Steps.length:Int)).toNat
def stepQ(c:D.E)(b:D.a)(p:D.Page):D.Page:=
 if p.q=2 then{ p with q:=0,FM:=p.FL,FN:=max p.FL p.FN }
 else if YG (Xc b p)<=p.E7 then{ p with q:=3,FN:=max p.FM p.FN }
 else{ p with FN:=max p.FM p.FN,P:=p.P++[⟨p.E7,p.FM,QcH c b (Zw b p) p.FM⟩],g:=[],E7:=p.E7+1,FM:=if QcH c b (Zw b p) p.FM=[]then p.FM else p.FM+(Zw b p).Fv }
def stepV(c:D.E)(b:D.a)(p:D.Page):D.Page×Int:=
 if QG b p=false then(page0,8)else if (dueV p).2=false then(page0,9)else if p.P.length=200 then(page0,5)else(stepQ c b p,0)
def Y0(p:D.Page)(now:Int):AH:=(dueV p).2 && decide ((dueV p).1<=now)
def runN(c:D.E)(b:D.a)(now:Int):Nat->D.Page->D.Page×Int
 |0,p=>(p,0)
 |n+1,p=>if Y0 p now=true then(if (stepV c b p).2≠0 then(page0,(stepV c b p).2)else runN c b now n (stepV c b p).1)else(p,0)
def runV(c:D.E)(b:D.a)(p:D.Page)(now:Int):D.Page×Int:=if QG b p=false then(page0,8)else runN c b now 100 p
def YW(a:D.Z):AH:=
 inV a.S 1 999999 && inV a.Page 1 999999 && inV a.Q (-1) 31 && inV a.At 0 8589934592 && inV a.b 1 5 && (if a.b=3 then inV a.Fs 1 86400 else if a.b=4 then inV a.Fs 0 31 else decide (a.Fs=0))
def Wh(p:D.Page)(a:D.Z):Int:=
 if a.At<p.FN\/Y0 p a.At=true then 6
 else if p.q=4\/(p.q=3/\a.b≠5)\/(p.q=1/\a.b=2)then 9
 else if p.i.length=64\/(a.b=3/\p.z=4)\/(a.b=4/\(p.FK=4\/p.P.length=200))then 5 else 0
def Qi7(l:Y Int)(x:Int):Y Int:=l.filter (fun z=>decide (z<x))++x::l.filter (fun z=>decide (x<z))
def U7(p:D.Page)(a:D.Z):Y Int:=if (X9 p).contains a.Q=true then Qi7 p.g a.Q else p.g
def Qaj(p:D.Page)(a:D.Z):AH:=decide (X9 p≠[]) && (X9 p).all fun z=>(U7 p a).contains z
def XG(p:D.Page)(a:D.Z):D.Page:=
 if a.b=1 then(if p.q=1 then{ p with i:=p.i++[a.S] }else{ p with i:=p.i++[a.S],FN:=a.At,q:=1,By:=a.Q })
 else if a.b=2 then{ p with i:=p.i++[a.S],FN:=a.At,g:=U7 p a,FM:=if Qaj p a=true/\p.q=0 then a.At else p.FM }
 else if a.b=3 then{ p with i:=p.i++[a.S],FN:=a.At,q:=2,By:=a.Q,FL:=a.At+a.Fs,z:=p.z+1 }
 else if a.b=4 then{ p with i:=p.i++[a.S],FN:=a.At,q:=0,FM:=a.At+600,FK:=p.FK+1,g:=[],P:=p.P++[⟨-1,a.At,[a.Fs]⟩] }
 else{ p with i:=p.i++[a.S],FN:=a.At,q:=4,By:=a.Q }
def answerV(b:D.a)(p:D.Page)(a:D.Z):D.Page×Int:=
 if QG b p=false\/YW a=false then(page0,8)else if a.Page≠p.S then(page0,3)else if p.i.contains a.S=true then(p,0)
 else if Wh p a≠0 then(page0,Wh p a)else(XG p a,0)
open Go AM
inductive Goes (Q:D.R->Prop) (st:Int):List D.R->Int->Int->Int->Prop
 |nil:Goes Q st [] 0 st 0
 |step {l k t h a P}:Goes Q st l k t h->t<=a->(l=[]->a=st)->setV P=true->Q ⟨k,a,P⟩->Goes Q st (l++[⟨k,a,P⟩]) (k+1) a h
 |hand {l k t h a x}:Goes Q st l k t h->t<=a->l≠[]->0<=x->x<=31->Goes Q st (l++[⟨-1,a,[x]⟩]) k a (h+1)
section
def Goes.pos(g:Goes Q st l k t h):0<=k/\0<=h/\(l.length:Int)=k+h/\st<=t:=by
 induction g with
 |nil=>simp
 |step g h1 _ _ _ ih=>simp only[Ac,Ab,Am];omega
 |hand g h1 _ _ _ ih=>simp only[Ac,Ab,Am];omega
def kF:Int->Y D.R->Int
 |k,[]=>k
 |k,x::r=>kF (max k x.K) r
def tF:Int->Y D.R->Int
 |t,[]=>t
 |t,x::r=>tF x.At r
def Qti:∀{l:Y D.R} {k:Int},kF k (l++[x])=max (kF k l) x.K
 |[],_=>rfl
 |y::l,k=>Qti (l:=l) (k:=max k y.K)
def QtX:∀{l:Y D.R} {t:Int},tF t (l++[x])=x.At
 |[],_=>rfl
 |y::l,t=>QtX (l:=l) (t:=y.At)
def Qgz:∀{l:Y D.R} {k t:Int},WG nx k t (l++[x])=(WG nx k t l &&
  (decide (tF t l<=x.At) && (decide (x.K = -1) || decide (0<=x.K) && decide (kF k l<x.K) && decide (x.K<nx)) && setV x.k))
 |[],k,t=>by
  show(_ && true)=(true && _)
  rw[ER,B8];rfl
 |y::l,k,t=>by
  rw[Ar,WG,Qgz (l:=l),WG,kF,tF]
  simp only[Bool.and_assoc]
def QuU(h0:0<=x)(h1:x<=31):setV [x]=true:=by
 unfold setV setF setF;simp;omega
def Goes.fit(g:Goes Q st l k t h):kF (-1) l=k - 1/\tF st l=t/\∀nx,k<=nx->WG nx (-1) st l=true:=by
 induction g with
 |nil=>exact⟨rfl,rfl,fun _ _=>rfl⟩
 |step g h1 h2 h3 h4 ih=>
  obtain⟨i1,i2,i3⟩:=ih
  have hp:=g.pos
  refine⟨by rw[Qti,i1];dsimp only;omega,QtX,fun nx hn=>?_⟩
  rw[Qgz,i3 nx U,i1,i2]
  grind
 |hand g h1 h2 h3 h4 ih=>
  obtain⟨i1,i2,i3⟩:=ih
  have hp:=g.pos
  refine⟨by rw[Qti,i1];dsimp only;omega,QtX,fun nx hn=>?_⟩
  rw[Qgz,i3 nx hn,i1,i2,QuU h3 h4]
  simp[h1]
end
def Qys:∀{l:Y Int} {k:Int},setF n k l=true↔Asc l/\∀x∈l,0<=x/\x<n/\k<x
 |[],k=>by simp[setF,Asc]
 |y::l,k=>by
  rw[setF]
  simp only[bae,BL,Qys (l:=l),Asc,CF,AY,forall_eq_or_imp]
  constructor
  .rintro⟨⟨⟨h1,h2⟩,h3⟩,h4,h5⟩
   exact⟨⟨fun z hz=>(h5 z hz).2.2,h4⟩,⟨h1,h2,h3⟩,fun z hz=>⟨(h5 z hz).1,(h5 z hz).2.1,by have:=(h5 z hz).2.2;omega⟩⟩
  .rintro⟨⟨h1,h2⟩,⟨h3,h4,h5⟩,h6⟩
   exact⟨⟨⟨h3,h4⟩,h5⟩,h2,fun z hz=>⟨(h6 z hz).1,(h6 z hz).2.1,h1 z hz⟩⟩
def QaA:setV l=true↔Asc l/\∀x∈l,0<=x/\x<32:=by
 unfold setV;rw[Qys]
 grind
def Qyu:setV (QcH c b s t)=true:=
 QaA.2 ⟨QwV,fun x hx=>by have:=QwW hx;omega⟩
def Qc1(h:Asc l):Asc (Qi7 l x)/\∀z,z∈Qi7 l x↔z∈l\/z=x:=by
 unfold Qi7
 refine⟨?_,fun z=>?_⟩
 .refine CH.2 ⟨CO _ h,CF.2 ⟨fun a ha=>?_,CO _ h⟩,fun a ha b hb=>?_⟩
  .simp_all
  .grind
 .grind
def QxZ(h:Asc l)(hx:x∈l):Qi7 l x=l:=
 Qfx (Qc1 h).1 h fun z=>by rw[(Qc1 h).2];exact⟨fun g=>g.elim id (fun e=>e ▸ hx),.inl⟩
def QfI(hd:(dueV p).2=true):p.q=0\/p.q=2:=by
 unfold dueV at hd
 grind
structure QM (Q:Int->D.R->Prop) (M:Int) (b:D.a) (p:D.Page):Prop where
 top:M<=8000000000
 id:1<=p.S/\p.S<=999999
 pol:0<=p.W/\p.W<(b.j.length:Int)
 start:0<=p.R/\p.R<=M - 20000
 goes:∃t,Goes (Q p.W) p.R p.P p.E7 t p.FK/\t<=p.FN/\(p.q=0->t<=p.FM)/\(p.q=2->t<=p.FL)
 next:p.E7<=YG (Xc b p)
 state:0<=p.q/\p.q<=4
 by_ : -1<=p.By/\p.By<=31
 last:p.FN<=M
 due:0<=p.FM/\p.FM<=M
 until_:0<=p.FL/\p.FL<=M
 dueO:p.q=0->p.FM+900*(YG (Xc b p) - p.E7)<=M
 untilS:p.q=2->p.FL+900*(YG (Xc b p) - p.E7)<=M
 snoozes:0<=p.z/\p.z<=4
 hands:p.FK<=4
 first:p.P=[]->p.q=0/\p.FM=p.R
 ended:p.q=3->p.E7=YG (Xc b p)
 declined:setV p.g=true
 seen:Qn3 p.i=true
section
def QM.polOK(h:QM Q M b p)(hb:QP b):QdB b.t.length (Xc b p):=hb.pol _ (Qf (by have:=h.pol;omega))
def QdB.waits(h:QdB n q):QsK q=true:=by
 unfold QsK
 refine AW.2 fun s hs=>?_
 have:=(h.step s hs).wait
 simp;omega
def Qt:inV n lo hi=true↔lo<=n/\n<=hi:=by simp[inV]
def QM.len(h:QM Q M b p)(hb:QP b):p.P.length<=13/\0<=p.E7/\0<=p.FK:=by
 obtain⟨t,h1,_⟩:=h.goes
 have h2:=h1.pos
 have h3:=Yt (h.polOK hb)
 have h4:=h.next
 have h5:=h.hands
 omega
def QM.check(h:QM Q M b p)(hb:QP b):QG b p=true:=by
 obtain⟨t,h1,h2,_⟩:=h.goes
 have h3:=h1.pos
 have h4:=h1.fit
 have h5:=h.len hb
 have g0:=h.top;have g1:=h.id;have g2:=h.pol;have g3:=h.start;have g4:=h.next;have g5:=h.state;have g6:=h.by_;have g7:=h.last;have g8:=h.due;have g9:=h.until_;have g10:=h.snoozes;have g11:=h.hands
 unfold QG Qis farV
 rw[h4.2.2 _ (Al _),h.declined,h.seen,(h.polOK hb).waits]
 simp only[ER,B8,bae,Qt,BL]
 omega
def QM.mono(h:QM Q M b p)(hq:∀s,Q p.W s->Q' p.W s):QM Q' M b p:=by
 obtain⟨t,h1,h2⟩:=h.goes
 refine{ h with goes:=⟨t,?_,h2⟩ }
 generalize p.FK=hh at h1
 generalize p.E7=nn at h1
 generalize p.P=ss at h1
 clear h2
 induction h1 with
 |nil=>exact .nil
 |step g a1 a2 a3 a4 ih=>exact .step ih a1 a2 a3 (hq _ a4)
 |hand g a1 a2 a3 a4 ih=>exact .hand ih a1 a2 a3 a4
def QtV(h:QdB n q)(hk:0<=k):O q.Steps (k % (q.Steps.length:Int)).toNat∈q.Steps:=by
 have:=h.len
 refine Qf ?_
 have h1:=Cp k (b:=(q.Steps.length:Int)) U
 have h2:=Cq k (b:=(q.Steps.length:Int)) U
 omega
def QM.stepQ_inv(h:QM Q M b p)(hb:QP b)(hd:(dueV p).2=true)(hQ:p.q=0->p.E7<YG (Xc b p)->Q p.W ⟨p.E7,p.FM,QcH c b (Zw b p) p.FM⟩):QM Q M b (stepQ c b p):=by
 obtain⟨t,h1,h2,h3,h4⟩:=h.goes
 have hp:=h1.pos
 have hs:p.q=0\/p.q=2:=QfI hd
 have g0:=h.top;have g3:=h.start;have g7:=h.last;have g8:=h.due;have g9:=h.until_
 have g10:=h.dueO;have g11:=h.untilS;have gn:=h.next
 unfold stepQ
 split
 .rename_i e2
  have e3:=h4 e2
  have hne:p.P≠[]:=fun e=>by have:=(h.first e).1;omega
  exact⟨h.top,h.id,h.pol,h.start,⟨t,h1,by dsimp only;omega,fun _=>e3,fun e=>by simp at e⟩,h.next,by dsimp only;omega,h.by_,by dsimp only;omega,g9,g9,fun _=>g11 e2,fun e=>by simp at e,h.snoozes,h.hands,fun e=>absurd e hne,fun e=>by simp at e,h.declined,h.seen⟩
 .rename_i e2
  have e0:p.q=0:=U
  have e3:=h3 e0
  have e4:=g10 e0
  split
  .rename_i e5
   have hc:=Yt (h.polOK hb)
   have hne:p.P≠[]:=fun e=>by
    grind
   exact⟨h.top,h.id,h.pol,h.start,⟨t,h1,by dsimp only;omega,fun e=>by simp at e,fun e=>by simp at e⟩,h.next,by dsimp only;omega,h.by_,by dsimp only;omega,g8,g9,fun e=>by simp at e,fun e=>by simp at e,h.snoozes,h.hands,fun e=>absurd e hne,fun _=>by show p.E7=YG (Xc b p);omega,h.declined,h.seen⟩
  .rename_i e5
   have hw:=(h.polOK hb).step _ (QtV (h.polOK hb) hp.1)
   have hw':0<=(Zw b p).Fv/\(Zw b p).Fv<=900:=hw.wait
   have hdue:(if QcH c b (Zw b p) p.FM=[]then p.FM else p.FM+(Zw b p).Fv)<=p.FM+900/\p.FM<=(if QcH c b (Zw b p) p.FM=[]then p.FM else p.FM+(Zw b p).Fv):=by split<;>omega
   refine⟨h.top,h.id,h.pol,h.start,⟨p.FM,.step h1 e3 (fun e=>?_) Qyu (hQ e0 U),by dsimp only;omega,fun _=>hdue.2,fun e=>?_⟩,?_,h.state,h.by_,by dsimp only;omega,?_,g9,fun _=>?_,fun e=>absurd e e2,h.snoozes,h.hands,fun e=>by simp at e,fun e=>?_,by dsimp only;decide,h.seen⟩
   .exact(h.first e).2
   .exact absurd e e2
   .show p.E7+1<=YG (Xc b p);omega
   .dsimp only;omega
   .show(if QcH c b (Zw b p) p.FM=[]then p.FM else p.FM+(Zw b p).Fv)+900*(YG (Xc b p) - (p.E7+1))<=M
    omega
   .simp_all
def QM.answerQ_inv(h:QM Q M b p)(hb:QP b)(hv:YW a=true)(ha:a.At<=M - 20000)(hs:a.b=3->a.Fs<=5000)(hseen:p.i.contains a.S=false)(hr:Wh p a=0):QM Q M b (XG p a):=by
 obtain⟨t,h1,h2,h3,h4⟩:=h.goes
 have hp:=h1.pos
 unfold YW at hv
 simp only[bae,Qt]at hv
 obtain⟨⟨⟨⟨⟨v1,v2⟩,v3⟩,v4⟩,v5⟩,v6⟩:=hv
 unfold Wh at hr
 split at hr
 .simp at hr
 rename_i r1
 split at hr
 .simp at hr
 rename_i r2
 split at hr
 .simp at hr
 rename_i r3
 have hw:Y0 p a.At=false:=by cases hb:Y0 p a.At<;>simp_all
 have hla:p.FN<=a.At:=U
 have hne:p.P≠[]:=fun e=>by
  obtain⟨e1,e2⟩:=h.first e
  have hst:p.R<=t:=hp.2.2.2
  unfold Y0 dueV at hw
  grind
 have g0:=h.top;have g3:=h.start;have g7:=h.last;have g8:=h.due;have g9:=h.until_
 have g10:=h.dueO;have g11:=h.untilS;have gn:=h.next;have gs:=h.snoozes;have gh:=h.hands;have gst:=h.state
 have hc:=Yt (h.polOK hb)
 have hsn:Qn3 (p.i++[a.S])=true:=by
  have:=h.seen
  unfold Qn3 at this |-
  grind
 have hdec:setV (U7 p a)=true:=by
  have hd:=QaA.1 h.declined
  unfold U7
  split
  .rename_i hcal
   refine QaA.2 ⟨(Qc1 hd.1).1,fun x hx=>?_⟩
   rcases((Qc1 hd.1).2 x).1 hx with hx|rfl
   .exact hd.2 x hx
   .have hm:=Bg.1 hcal
    have hst:=(h1.fit.2.2 _ (Al _))
    have hall:∀{nx:Int} {l:Y D.R} {k t:Int},WG nx k t l=true->∀s∈l,setV s.k=true:=by
     intro nx l
     induction l with
     |nil=>intro k t _ s hs;simp at hs
     |cons y l ih=>
      intro k t hq s hs
      rw[WG]at hq
      grind
    unfold X9 at hm
    rw[iA hne]at hm
    have hlen:0<p.P.length:=CB.2 hne
    exact(QaA.1 (hall hst _ (Qf U))).2 _ hm
  .exact h.declined
 unfold XG
 split
 .split
  .exact⟨h.top,h.id,h.pol,h.start,⟨t,h1,h2,h3,h4⟩,h.next,h.state,h.by_,h.last,h.due,h.until_,h.dueO,h.untilS,h.snoozes,h.hands,fun e=>absurd e hne,h.ended,h.declined,hsn⟩
  .exact⟨h.top,h.id,h.pol,h.start,⟨t,h1,by dsimp only;omega,fun e=>by simp at e,fun e=>by simp at e⟩,h.next,by dsimp only;omega,v3,by dsimp only;omega,h.due,h.until_,fun e=>by simp at e,fun e=>by simp at e,h.snoozes,h.hands,fun e=>absurd e hne,fun e=>by simp at e,h.declined,hsn⟩
 .split
  .have hdue:(if Qaj p a=true/\p.q=0 then a.At else p.FM)=p.FM\/((if Qaj p a=true/\p.q=0 then a.At else p.FM)=a.At/\p.q=0):=by
    omega
   refine⟨h.top,h.id,h.pol,h.start,⟨t,h1,by dsimp only;omega,fun e=>?_,h4⟩,h.next,h.state,h.by_,by dsimp only;omega,?_,h.until_,fun e=>?_,h.untilS,h.snoozes,h.hands,fun e=>absurd e hne,h.ended,hdec,hsn⟩
   .grind
   .dsimp only;omega
   .have:=g10 e
    show(if Qaj p a=true/\p.q=0 then a.At else p.FM)+900*(YG (Xc b p) - p.E7)<=M
    omega
  .split
   .rename_i k3
    rw[iB k3]at v6
    have v6:=Qt.1 v6
    have:=hs k3
    exact⟨h.top,h.id,h.pol,h.start,⟨t,h1,by dsimp only;omega,fun e=>by simp at e,fun e=>by dsimp only;omega⟩,h.next,by dsimp only;omega,v3,by dsimp only;omega,h.due,by dsimp only;omega,fun e=>by simp at e,fun _=>by show a.At+a.Fs+900*(YG (Xc b p) - p.E7)<=M;omega,by dsimp only;omega,h.hands,fun e=>absurd e hne,fun e=>by simp at e,h.declined,hsn⟩
   .rename_i k3
    split
    .rename_i k4
     rw[iA k3,iB k4]at v6
     have v6:=Qt.1 v6
     exact⟨h.top,h.id,h.pol,h.start,⟨a.At,.hand h1 U hne v6.1 v6.2,by dsimp only;omega,fun e=>by dsimp only;omega,fun e=>by simp at e⟩,h.next,by dsimp only;omega,h.by_,by dsimp only;omega,by dsimp only;omega,h.until_,fun _=>by show a.At+600+900*(YG (Xc b p) - p.E7)<=M;omega,fun e=>by simp at e,h.snoozes,by dsimp only;omega,fun e=>by simp at e,fun e=>by simp at e,by dsimp only;decide,hsn⟩
    .exact⟨h.top,h.id,h.pol,h.start,⟨t,h1,by dsimp only;omega,fun e=>by simp at e,fun e=>by simp at e⟩,h.next,by dsimp only;omega,v3,by dsimp only;omega,h.due,h.until_,fun e=>by simp at e,fun e=>by simp at e,h.snoozes,h.hands,fun e=>absurd e hne,fun e=>by simp at e,h.declined,hsn⟩
def newP(id pol start:Int):D.Page:=D.Page.mk id pol start 0 start 0 (-1) 0 start 0 0 [] [] []
def QB6{id pol start:Int}(hM:M<=8000000000)(hb:QP b)(h1:1<=id/\id<=999999)(h2:0<=pol/\pol<(b.j.length:Int))(h3:0<=start/\start<=M - 20000):QM Q M b (newP id pol start):=by
 have hp:QdB b.t.length (Xc b (newP id pol start)):=hb.pol _ (Qf (by show pol.toNat<_;omega))
 have hc:=Yt hp
 exact⟨hM,h1,h2,h3,⟨start,.nil,Al _,fun _=>Al _,fun e=>by simp[newP]at e⟩,by show 0<=_;omega,by simp[newP],by simp[newP],by show start<=_;omega,by show 0<=start/\start<=_;omega,by show(0:Int)<=0/\(0:Int)<=M;omega,fun _=>by show start+900*(_ - 0)<=_;omega,fun e=>by simp[newP]at e,by simp[newP],by simp[newP],fun _=>⟨rfl,rfl⟩,fun e=>by simp[newP]at e,by dsimp only[newP];decide,by dsimp only[newP];decide⟩
def QaW(b:D.a)(p:D.Page):Nat:=if p.q=2 then(YG (Xc b p) - p.E7).toNat+2 else if p.q=0 then(YG (Xc b p) - p.E7).toNat+1 else 0
def Qv2:Xc b (stepQ c b p)=Xc b p:=by
 unfold stepQ Xc
 grind
def Qea(hd:(dueV p).2=true):QaW b (stepQ c b p)<QaW b p:=by
 have hs:p.q=0\/p.q=2:=QfI hd
 unfold QaW
 rw[Qv2]
 unfold stepQ
 grind
def Qbe(h:Y0 p now=true):(dueV p).2=true/\(dueV p).1<=now:=by
 unfold Y0 at h;simpa using h
def Qkr(h:QaW b p=0):Y0 p now=false:=by
 unfold QaW at h
 unfold Y0 dueV
 grind
def QM.stepVis(h:QM Q M b p)(hb:QP b)(hd:(dueV p).2=true):stepV c b p=(stepQ c b p,0):=by
 unfold stepV
 rw[h.check hb,hd,iA Ob,iA Ob,iA (by have:=(h.len hb).1;omega)]
def QkQ(Q:Int->D.R->Prop)(M:Int)(c:D.E)(b:D.a):Prop:=∀p,QM Q M b p->p.q=0->p.E7<YG (Xc b p)->Q p.W ⟨p.E7,p.FM,QcH c b (Zw b p) p.FM⟩
def Qqx(hb:QP b)(hQ:QkQ Q M c b):∀(n:Nat) {p:D.Page},QM Q M b p->QaW b p<=n->QM Q M b (runN c b now n p).1/\(runN c b now n p).2=0/\Y0 (runN c b now n p).1 now=false
 |0,p,h,hl=>⟨h,rfl,Qkr (b:=b) (show QaW b p=0 by omega)⟩
 |n+1,p,h,hl=>by
  rw[runN]
  split
  .rename_i hw
   have hd:=Qbe hw
   rw[h.stepVis hb hd.1,iA Ob]
   exact Qqx hb hQ n (h.stepQ_inv hb hd.1 (hQ p h)) (by have:=Qea (c:=c) (b:=b) hd.1;dsimp only;omega)
  .rename_i hw
   exact⟨h,rfl,by dsimp only;cases hb:Y0 p now<;>simp_all⟩
def Quz(hb:QP b)(h:QM Q M b p):QaW b p<=11:=by
 have hc:=Yt (h.polOK hb)
 have:=(h.len hb).2
 unfold QaW
 grind
def QeS(hb:QP b)(hQ:QkQ Q M c b)(h:QM Q M b p):QM Q M b (runV c b p now).1/\(runV c b p now).2=0/\Y0 (runV c b p now).1 now=false:=by
 unfold runV
 rw[h.check hb,iA Ob]
 exact Qqx hb hQ 100 h (by have:=Quz hb h;omega)
def Qsr(hb:QP b)(hQ:QkQ Q M c b):∀(n m:Nat) {p:D.Page},QM Q M b p->QaW b p<=n->QaW b p<=m->runN c b now n p=runN c b now m p
 |0,0,p,h,h1,h2=>rfl
 |0,m+1,p,h,h1,h2=>by rw[runN,runN,Qkr (b:=b) U,iA Ob]
 |n+1,0,p,h,h1,h2=>by rw[runN,runN,Qkr (b:=b) U,iA Ob]
 |n+1,m+1,p,h,h1,h2=>by
  rw[runN,runN]
  split
  .rename_i hw
   have hd:=Qbe hw
   rw[h.stepVis hb hd.1,iA Ob,iA Ob]
   have:=Qea (c:=c) (b:=b) hd.1
   exact Qsr hb hQ n m (h.stepQ_inv hb hd.1 (hQ p h)) (by dsimp only;omega) (by dsimp only;omega)
  .rfl
def QoR(hb:QP b)(hQ:QkQ Q M c b)(haz:a<=z):∀(n:Nat) {p:D.Page},QM Q M b p->QaW b p<=n->runN c b z n (runN c b a n p).1=runN c b z n p
 |0,p,h,hl=>rfl
 |n+1,p,h,hl=>by
  by_cases hw:Y0 p a=true
  .have hd:=Qbe hw
   have hz:Y0 p z=true:=by unfold Y0;rw[hd.1];simp;omega
   have hl':=Qea (c:=c) (b:=b) hd.1
   have hi:=h.stepQ_inv hb hd.1 (hQ p h)
   rw[show runN c b a (n+1) p=runN c b a n (stepQ c b p)from by rw[runN,iB hw,h.stepVis hb hd.1,iA Ob],show runN c b z (n+1) p=runN c b z n (stepQ c b p)from by rw[runN,iB hz,h.stepVis hb hd.1,iA Ob],<-QoR hb hQ haz n hi U]
   have hr:=Qqx (now:=a) hb hQ n hi U
   have hle:∀(n:Nat) {p:D.Page},QM Q M b p->QaW b (runN c b a n p).1<=QaW b p:=by
    intro n
    induction n with
    |zero=>intro p _;exact AP _
    |succ n ih=>
     intro p h
     rw[runN]
     split
     .rename_i hw
      have hd:=Qbe hw
      rw[h.stepVis hb hd.1,iA Ob]
      exact AX (ih (h.stepQ_inv hb hd.1 (hQ p h))) (EM (Qea hd.1))
     .exact AP _
   have:=hle n hi
   exact Qsr hb hQ (n+1) n hr.1 U U
  .rw[show runN c b a (n+1) p=(p,0)from by rw[runN,iA hw]]
def Qkl(h:QG b p=true):runV c b p now=runN c b now 100 p:=by unfold runV;rw[h,iA Ob]
def QoS(hb:QP b)(hQ:QkQ Q M c b)(haz:a<=z)(h:QM Q M b p):runV c b (runV c b p a).1 z=runV c b p z:=by
 have hr:=QeS (now:=a) hb hQ h
 rw[Qkl (hr.1.check hb),Qkl (h.check hb),Qkl (h.check hb)]
 exact QoR hb hQ haz 100 h (by have:=Quz hb h;omega)
end
open Go AM IntKind
noncomputable section
def tyL:Y (Nat×TC):=[(2,.int),(3,.int),(4,.bool),(5,.u8),(6,.u8),(9,.TY),(10,.TY),(11,.TY),(32,.E),(36,.a),(40,.F),(46,.H),(48,.d),(53,.N),(55,.Z),(57,.r),(59,.Op),(61,.o),(65,.int),(83,.Page),(104,.R),(106,.Call),(116,.y),(124,.p),(128,.Q),(130,.FA),(132,.Fh),(134,.w),(138,.c),(141,.Fa),(144,.W),(147,.u),(149,.FP),(158,.site),(178,.e),(212,.FD),(218,.m),(226,.fence),(257,.worker),(272,.FG),(348,.Fu),(368,.FW),(369,.FH),(372,.Fr),(388,.occurrence),(403,.int),(423,.Fq),(427,.Fd),(480,.Fz),(487,.u8),(488,.u8)]
def ty(t:Nat):I TC:=AM.C t tyL
abbrev nI:SSh:=.one (.TZ .i64)
abbrev kI:Sh:=.TZ .i64
abbrev lI:SSh:=.one (.TQ .int)
abbrev rf(n:Nat):Nat×SSh:=(n,.one (.TN (1000+n)))
abbrev nJ(n:Nat):Nat×SSh:=(n,.one (.TZ .i64))
def gS:Nat->Ann->Ann
 |0,a=>a
 |n+1,a=>.Tb .go (gS n a)
def lp(s:Y (Nat×SSh))(o:Y (Name×OSh))(a:Ann):Ann:=.Tb (.Tb .go (.one (.loop s o a))) .go
abbrev li(n:Nat)(t:TC):Nat×SSh:=(n,.one (.TQ t))
abbrev bx(n:Nat)(t:TC):Name×OSh:=(n,.TV t)
abbrev ar(n:Nat)(t:TC):Name×OSh:=(n,.TI t)
def shF:Sh->Type->Type
 |.TZ _,zF=>Int->zF
 |.Tc,zF=>AH->zF
 |.TY,zF=>AJ->zF
 |.TQ t,zF=>Y (TT t)->zF
 |.view _,zF=>Nat->Nat->zF
 |.nul,zF=>zF
 |.TN _,zF=>zF
 |.own _,zF=>zF
 |.clo _ _,zF=>zF
 |.fv _,zF=>zF
 |.mref _,zF=>zF
def shA:(s:Sh)->{zF zB:Type}->shF s zF->s.prod zB->zF×zB
 |.TZ _,_,_,f,p=>(f p.1,p.2)
 |.Tc,_,_,f,p=>(f p.1,p.2)
 |.TY,_,_,f,p=>(f p.1,p.2)
 |.TQ _,_,_,f,p=>(f p.1,p.2)
 |.view _,_,_,f,p=>(f p.1 p.2.1,p.2.2)
 |.nul,_,_,f,p=>(f,p)
 |.TN _,_,_,f,p=>(f,p)
 |.own _,_,_,f,p=>(f,p)
 |.clo _ _,_,_,f,p=>(f,p)
 |.fv _,_,_,f,p=>(f,p)
 |.mref _,_,_,f,p=>(f,p)
def ssF:SSh->Type->Type
 |.one s,zF=>shF s zF
 |.st t,zF=>TT t->zF
 |.agg l,zF=>TL l->zF
def ssA:(s:SSh)->{zF zB:Type}->ssF s zF->s.prod zB->zF×zB
 |.one s,_,_,f,p=>shA s f p
 |.st _,_,_,f,p=>(f p.1,p.2)
 |.agg _,_,_,f,p=>(f p.1,p.2)
def cuR:Y SSh->Type->Type
 |[],zF=>zF
 |s::r,zF=>ssF s (cuR r zF)
def unc:(l:Y SSh)->{R:Type}->cuR l R->SL l->R
 |[],_,f,_=>f
 |s::r,_,f,x=>unc r (ssA s f x).1 (ssA s f x).2
abbrev sP(A R:Y SSh){T:Type}[AL T](F:cuR A (I T))(un:T->SL R×OL []:=by first|exact fun q=>((q,()),())|exact fun q=>((q.1,q.2,()),())|exact fun q=>((q.1,q.2.1,q.2.2,()),())):Sig:=Ql A [] R [] [] T un fun x _=>unc A F x
abbrev sF:I AH:=some false
abbrev sT:I AH:=some true
abbrev cd{R:Type}(p:Prop)[Decidable p](x y:I R):I R:=J (decide p) x y
abbrev FO(k:FuncId)(g:Sig):Prop:=FnOK Tryz.prog k g
abbrev sI(A:Y SSh)(F:SL A->I Int):Sig:=Ql A [] [.one (.TZ .i64)] [] [] Int (fun q=>((q,()),())) fun x _=>F x
abbrev sB(A:Y SSh)(F:SL A->I AH):Sig:=Ql A [] [.one .Tc] [] [] AH (fun q=>((q,()),())) fun x _=>F x
def eN{P:AF}:Qiz P []:=trivial
def eC{P:AF}{l:Y (Nat×Nat×Sig)}{k:Nat}{g:Sig}(h:FnOK P k g)(hl:Qiz P l):Qiz P ((k,0,g)::l):=⟨h,hl⟩
def eD(d:Nat){P:AF}{l:Y (Nat×Nat×Sig)}{k:Nat}{g:Sig}(h:FnOK P k g)(hl:Qiz P l):Qiz P ((k,d,g)::l):=⟨h,hl⟩
def fI{l:Y (Nat×Nat×Sig)}{f:FuncId}(u:Nat){fn:Func}{c:Code}(an:Ann){args:Y SSh}{pre:Y (Name×OSh)}{res:Y SSh}{post:Y (Name×OSh)}{keep:Y Name}{Ret:Type}[AL Ret]{un:Ret->SL res×OL post}{F:SL args->OL pre->I Ret}(conv:SL res->OL post->Ret)(hE:Qiz Tryz.prog l)(hf:Tryz.prog.funcs[f]?=some fn)(hb:fn.body=some c:=by rfl)(hlen:Nat.ble args.length fn.ntmps=true:=by rfl)(hcu:∀a b,un (conv a b)=(a,b):=by exact fun _ _=>rfl)(hF:∀x y,vc Tryz.prog ty (envL l) (keys pre) fn.ntmps u c an (Qcc 0 (SL.put 0 args x)) (OL.put 0 pre y) (finK Tryz.prog (keys pre) fn.results.toList (Ql args pre res post keep Ret un F) y fun a b=>some (conv a b))=F x y:=by intro x y;kernel_rfl):
  FnOK Tryz.prog f (Ql args pre res post keep Ret un F):=FnOK.intro (ty:=ty) conv hcu (Qtc hE) hf hb hlen hF
def fP{l:Y (Nat×Nat×Sig)}{f:FuncId}(u:Nat){fn:Func}{c:Code}(an:Ann){A R:Y SSh}{T:Type}[AL T]{F:cuR A (I T)}{un:T->SL R×OL []}(hE:Qiz Tryz.prog l)(hf:Tryz.prog.funcs[f]?=some fn)(conv:SL R->OL []->T:=by first|exact fun a _=>a.1|exact fun a _=>(a.1,a.2.1)|exact fun a _=>(a.1,a.2.1,a.2.2.1))(hb:fn.body=some c:=by rfl)(hlen:Nat.ble A.length fn.ntmps=true:=by rfl)(hcu:∀a b,un (conv a b)=(a,b):=by exact fun _ _=>rfl)(hF:∀x y,vc Tryz.prog ty (envL l) (keys ([]:Y (Name×OSh))) fn.ntmps u c an (Qcc 0 (SL.put 0 A x)) (OL.put 0 [] y) (finK Tryz.prog (keys ([]:Y (Name×OSh))) fn.results.toList (Ql A [] R [] [] T un fun x _=>unc A F x) y fun a b=>some (conv a b))=unc A F x:=by intro x y;kernel_rfl):
  FnOK Tryz.prog f (Ql A [] R [] [] T un fun x _=>unc A F x):=FnOK.intro (ty:=ty) conv hcu (Qtc hE) hf hb hlen hF
abbrev P3:Type:=Int×Int×Int×Unit
abbrev P4:Type:=Int×Int×Int×Int×Unit
abbrev P5:Type:=Int×Int×Int×Int×Int×Unit
abbrev P6:Type:=Int×Int×Int×Int×Int×Int×Unit
abbrev P7:Type:=Int×Int×Int×Int×Int×Int×Int×Unit
abbrev P8:Type:=Int×Int×Int×Int×Int×Int×Int×Int×Unit
abbrev P9:Type:=Int×Int×Int×Int×Int×Int×Int×Int×Int×Unit
abbrev P10:Type:=Int×Int×Int×Int×Int×Int×Int×Int×Int×Int×Unit
abbrev P11:Type:=Int×Int×Int×Int×Int×Int×Int×Int×Int×Int×Int×Unit
abbrev P12:Type:=Int×Int×Int×Int×Int×Int×Int×Int×Int×Int×Int×Int×Unit
abbrev P13:Type:=Int×Int×Int×Int×Int×Int×Int×Int×Int×Int×Int×Int×Int×Unit
abbrev kz0:=fun(q:(Int×D.worker))=>((q.1,()),(q.2.F.E8,q.2.F.E.FF,q.2.F.E.k,q.2.F.E.n,q.2.F.E.f,q.2.F.a.t,q.2.F.a.j,q.2.F.FB,q.2.F.Fence,()),q.2.F.G,q.2.F.i,q.2.F.Calls,())
abbrev kz1:=fun(a:SL [nI]) (b:OL [(101,.box [kI,.TQ .p,.TQ .Q,.TQ .m,.TQ .c,.TQ .Fa,.TQ .W,.own 102,kI,kI,.own 103,.own 104]),ar 102 .Page,ar 103 .int,ar 104 .Call])=>(a.1,(D.worker.mk (D.F.mk b.1.1 (D.E.mk b.1.2.1 b.1.2.2.1 b.1.2.2.2.1 b.1.2.2.2.2.1) (D.a.mk b.1.2.2.2.2.2.1 b.1.2.2.2.2.2.2.1) b.2.1 b.1.2.2.2.2.2.2.2.1 b.1.2.2.2.2.2.2.2.2.1 b.2.2.1 b.2.2.2.1)))
abbrev kz2{A:Type}(q:A):=((q,()),())
abbrev kz3:=fun(q:(D.F×Int))=>(((q.1.E8,q.1.E.FF,q.1.E.k,q.1.E.n,q.1.E.f,q.1.a.t,q.1.a.j,q.1.FB,q.1.Fence,()),q.2,()),q.1.G,q.1.i,q.1.Calls,())
abbrev kz4{A B zH:Type}(a:(A×B))(b:zH):=a.1
abbrev kz5{A:Type}(q:A):=((),q,())
abbrev kz6:=fun(q:D.F)=>(((q.E8,q.E.FF,q.E.k,q.E.n,q.E.f,q.a.t,q.a.j,q.FB,q.Fence,()),()),q.G,q.i,q.Calls,())
abbrev kz7:=fun(a:SL [.agg [kI,.TQ .p,.TQ .Q,.TQ .m,.TQ .c,.TQ .Fa,.TQ .W,.own 101,kI,kI,.own 102,.own 103],nI]) (b:OL [ar 101 .Page,ar 102 .int,ar 103 .Call])=>((D.F.mk a.1.1 (D.E.mk a.1.2.1 a.1.2.2.1 a.1.2.2.2.1 a.1.2.2.2.2.1) (D.a.mk a.1.2.2.2.2.2.1 a.1.2.2.2.2.2.2.1) b.1 a.1.2.2.2.2.2.2.2.1 a.1.2.2.2.2.2.2.2.2.1 b.2.1 b.2.2.1),a.2.1)
abbrev kz8{A B zH:Type}(a:A)(b:(B×zH)):=b.1
abbrev kz9:=fun(q:(AH×D.Page))=>((q.1,()),(q.2.S,q.2.W,q.2.R,q.2.E7,q.2.FM,q.2.q,q.2.By,q.2.FL,q.2.FN,q.2.z,q.2.FK,()),q.2.P,q.2.g,q.2.i,())
abbrev kz10:=fun(q:D.worker)=>((),(q.F.E8,q.F.E.FF,q.F.E.k,q.F.E.n,q.F.E.f,q.F.a.t,q.F.a.j,q.F.FB,q.F.Fence,()),q.F.G,q.F.i,q.F.Calls,())
abbrev kz11:=fun(a:SL [.one .Tc]) (b:OL [(101,.box [kI,kI,kI,kI,kI,kI,kI,kI,kI,kI,kI,.own 102,.own 103,.own 104]),ar 102 .R,ar 103 .int,ar 104 .int])=>(a.1,(D.Page.mk b.1.1 b.1.2.1 b.1.2.2.1 b.1.2.2.2.1 b.1.2.2.2.2.1 b.1.2.2.2.2.2.1 b.1.2.2.2.2.2.2.1 b.1.2.2.2.2.2.2.2.1 b.1.2.2.2.2.2.2.2.2.1 b.1.2.2.2.2.2.2.2.2.2.1 b.1.2.2.2.2.2.2.2.2.2.2.1 b.2.1 b.2.2.1 b.2.2.2.1))
abbrev kz12:=fun(q:D.Page)=>(((q.S,q.W,q.R,q.E7,q.FM,q.q,q.By,q.FL,q.FN,q.z,q.FK,()),()),q.P,q.g,q.i,())
abbrev kz13:=fun(a:SL []) (b:OL [(101,.box [kI,.TQ .p,.TQ .Q,.TQ .m,.TQ .c,.TQ .Fa,.TQ .W,.own 102,kI,kI,.own 103,.own 104]),ar 102 .Page,ar 103 .int,ar 104 .Call])=>D.worker.mk (D.F.mk b.1.1 (D.E.mk b.1.2.1 b.1.2.2.1 b.1.2.2.2.1 b.1.2.2.2.2.1) (D.a.mk b.1.2.2.2.2.2.1 b.1.2.2.2.2.2.2.1) b.2.1 b.1.2.2.2.2.2.2.2.1 b.1.2.2.2.2.2.2.2.2.1 b.2.2.1 b.2.2.2.1)
abbrev kz14:=fun(a:SL [.agg [kI,.TQ .p,.TQ .Q,.TQ .m,.TQ .c,.TQ .Fa,.TQ .W,.own 101,kI,kI,.own 102,.own 103]]) (b:OL [ar 101 .Page,ar 102 .int,ar 103 .Call])=>D.F.mk a.1.1 (D.E.mk a.1.2.1 a.1.2.2.1 a.1.2.2.2.1 a.1.2.2.2.2.1) (D.a.mk a.1.2.2.2.2.2.1 a.1.2.2.2.2.2.2.1) b.1 a.1.2.2.2.2.2.2.2.1 a.1.2.2.2.2.2.2.2.2.1 b.2.1 b.2.2.1
abbrev kz15{A B:Type}(q:(A×B)):=((q.1,()),q.2,())
abbrev kz16:=fun(q:(Int×D.Page))=>((q.1,()),(q.2.S,q.2.W,q.2.R,q.2.E7,q.2.FM,q.2.q,q.2.By,q.2.FL,q.2.FN,q.2.z,q.2.FK,()),q.2.P,q.2.g,q.2.i,())
abbrev kz17{A B zH D:Type}(a:(A×B))(b:(zH×D)):=(a.1,b.1)
abbrev kz18{A B zH:Type}(q:(A×(B×zH))):=((q.1,q.2.1,()),q.2.2,())
abbrev kz19:=fun(q:D.N)=>(((q.S,q.T,q.Fe,q.FJ,q.h,()),()),q.l,q.FR,q.FE,())
abbrev kz20{A B zH D E:Type}(a:(A×(B×zH)))(b:(D×E)):=(a.1,a.2.1,b.1)
abbrev kz21:=fun(q:D.H)=>(((),()),q.M,q.FC,q.FV,q.Fm,())
abbrev kz22{A B:Type}(q:(A×B)):=((q.1,q.2,()),())
abbrev kz23{A B zH D:Type}(a:(A×(B×zH)))(b:D):=(a.1,a.2.1)
abbrev kz24{A:Type}(q:A):=((q,()),(),())
inductive JS where
 |n (k:Nat)
 |r (k:Nat) (t:TC)
 |l (k:Nat) (t:TC)
 |o (k m:Nat) (t:TC)
 |s (k:Nat) (x:SSh)
def jS:Y JS->Y (Nat×SSh)
 |[]=>[]
 |.n k::r=>nJ k::jS r
 |.r k _::r=>rf k::jS r
 |.l k t::r=>li k t::jS r
 |.o k m _::r=>(k,.one (.own m))::jS r
 |.s k x::r=>(k,x)::jS r
def jO:Y JS->Y (Name×OSh)
 |[]=>[]
 |.r k t::r=>bx (1000+k) t::jO r
 |.o _ m t::r=>ar m t::jO r
 |_::r=>jO r
def jn(s:Y JS)(a:Ann)(o:Y (Name×OSh):=[]):Ann:=.TG (jS s) (jO s++o) a
def lO(s:Y JS)(a:Ann)(o:Y (Name×OSh):=[]):Ann:=.loop (jS s) (jO s++o) a
def lq(s:Y JS)(a:Ann)(o:Y (Name×OSh):=[]):Ann:=.Tb (.Tb .go (.one (.loop (jS s) (jO s++o) a))) .go
abbrev bo:SSh:=.one .Tc
abbrev tx:SSh:=.one .TY
abbrev ls(t:TC):SSh:=.one (.TQ t)
abbrev tO:SSh:=.st .E
abbrev t1:SSh:=.st .H
abbrev t2:SSh:=.st .N
abbrev t3:SSh:=.st .Page
abbrev t4:SSh:=.st .F
abbrev t5:SSh:=.st .a
abbrev t6:SSh:=.st .Op
abbrev t7:SSh:=.st .p
abbrev t8:SSh:=.st .d
abbrev t9:SSh:=.st .w
namespace fk
abbrev g:=Ann.go
abbrev c:=Ann.Tb
def e:=@eC
def t:=@eN
def f:=@fP
abbrev s:=@sP
def i:=@fI
abbrev j:=@jn
abbrev k:=@lO
abbrev m:=@lq
abbrev n:=@gS
abbrev o:=@FO
abbrev d:=@nI
abbrev l:=@ls
abbrev h:=@bo
abbrev v:=@kI
abbrev p:=@ar
abbrev w:=@bx
abbrev r:=@rf
abbrev G:=@nJ
abbrev zG:=@t1
abbrev K:=@t2
abbrev E:=@t3
abbrev H:=@t4
abbrev L:=@t5
end fk
open fk Tryz
abbrev t10:SSh:=.st .Fd
abbrev t11:SSh:=.st .c
abbrev t12:SSh:=.st .Fh
abbrev t13:SSh:=.st .Z
abbrev t15:SSh:=.st .W
abbrev t16:SSh:=.st .e
abbrev t19:SSh:=.st .m
abbrev z0:=D.d.mk (D.F.mk 0 (D.E.mk [] [] [] []) (D.a.mk [] []) [] 0 0 [] []) (D.H.mk [] [] [] []) 0
abbrev z1:=D.Page.mk 0 0 0 0 0 0 0 0 0 0 0 [] [] []
abbrev z2:=D.F.mk 0 (D.E.mk [] [] [] []) (D.a.mk [] []) [] 0 0 [] []
abbrev z3:=D.Op.mk 0 0 0 0 0 0 0 0 0 (D.Z.mk 0 0 0 0 0 0) (D.r.mk 0 0 0 0 0)
abbrev z4:=D.N.mk 0 0 0 0 [] 0 [] []
abbrev z5:=D.H.mk [] [] [] []
abbrev z6:=D.Z.mk 0 0 0 0 0 0
abbrev z7:=D.r.mk 0 0 0 0 0
abbrev z8:=D.E.mk [] [] [] []
abbrev z9:=D.FP.mk 0 0
abbrev z10:=D.Fq.mk (D.E.mk [] [] [] []) []
abbrev z12:=D.Fr.mk 0 0 0
abbrev z13:=D.Fh.mk 0 0
variable (u:Nat)
def Qe5(g:Y D.FA)(i:Int):I AH:=Qe (fun j ((a,e,f,b,_),_)=>cd (b<f) (TG (fun((k,l,m,n,_),_)=>j ((k,l,m,(X (n+1)),()),())) fun h=>TM e b fun c=>cd (c.v<=a) (cd (a<c.To) sT (h ((a,e,f,b,()),()))) (h ((a,e,f,b,()),()))) sF) u ((i,g,(g.length:Int),0,()),())
def Qnz:o 414 (s [l .FA,d] [h] (Qe5 u)):=f u (c g (m [.n 1,.l 7 .FA,.n 8,.n 9] (n 2 (c (j [.n 1,.l 7 .FA,.n 8,.n 9] g) g)))) t func414
def QbB(u:Nat)(a:Int):I Int:=nzc 7 (nzc 7 (some (Int.tmod (X ((Int.tmod a 7)+10)) 7)))
def Qe6:o 408 (s [d] [d] (QbB u)):=f u g t func408
def Wp(a:D.Fh):I Int:=V (QbB u a.Fl) fun b=>some (X ((X (b*86400))+a.FU))
def Qfg:o 415 (s [t12] [d] (Wp u)):=f u g (e (Qe6 u) t) func415
def Qhh(u:Nat)(a:Int):I D.Fh:=nzc 86400 (TG (fun((e,b,_),f,_)=>some (D.Fh.mk b (X (e - (X (b*86400)))))) fun c=>nzc 86400 (cd ((Int.tmod a 86400)<0) (c ((a,(X ((X (Int.tdiv a 86400)) - 1)),()),z13,())) (c ((a,(X (Int.tdiv a 86400)),()),z13,()))))
def QqR:o 433 (s [d] [t12] (Qhh u)):=f u (n 2 (c (j [.n 0,.r 2 .Fh,.n 3] g) g)) t func433
def QaF(u:Nat)(a:D.Fd)(b:Int):I Int:=cd (b=0) (some a.offset) (TM a.list (X (b - 1)) fun c=>some c.FT)
def Qby:o 442 (s [t10,d] [d] (QaF u)):=f u g t func442
def Qdi(u:Nat)(c:Int)(a:D.Fd)(b:Int):I AH:=TM a.list c fun e=>TF a a (TF b b (some (decide (b<e.At))))
def QgB:o 449 (Ql [d,.one (.TN 101),.one (.TN 102)] [w 101 .Fd,w 102 .int] [h] [] [101,102] AH kz2 (fun x y=>Qdi u x.1 y.1 y.2.1)):=i u g kz4 t func449
def Zq(h:Int)(c101:D.Fd)(c102:Int):I Int:=Qe (fun g ((a,b,_),c,(e,_),_)=>cd (a<b) (TK 1 fun f=>V (Qdi u (X (Int.fdiv (IntKind.wrap .u64 (X (a+b))) (HPow.hPow 2 (min f (Go.IntKind.bits Go.IntKind.u64))))) c e) fun i=>J (!i) (g (((X ((X (Int.fdiv (IntKind.wrap .u64 (X (a+b))) (HPow.hPow 2 (min f (Go.IntKind.bits Go.IntKind.u64)))))+1)),b,()),c,(e,()),())) (g ((a,(X (Int.fdiv (IntKind.wrap .u64 (X (a+b))) (HPow.hPow 2 (min f (Go.IntKind.bits Go.IntKind.u64))))),()),c,(e,()),()))) (TF c c101 (TF e c102 (some a)))) u ((0,h,()),c101,(c102,()),())
def V2:o 448 (Ql [d,.one (.clo 449 [101,102])] [w 101 .Fd,w 102 .int] [d] [] [101,102] Int kz2 (fun x y=>Zq u x.1 y.1 y.2.1)):=i u (n 2 (c (.one (k [.s 1 (.one (.clo 449 [101,102])),.n 5,.n 6] g [w 101 .Fd,(102,.box [v])])) g)) kz4 (e (QgB u) t) func448
def Wy(a:D.Fd)(b:Int):I Int:=V (Zq u (a.list.length:Int) a b) fun c=>some c
def QcF:o 443 (s [t10,d] [d] (Wy u)):=f u g (e (V2 u) t) func443
def Vs(a:D.Fd)(b:Int):I Int:=V (Wy u a b) fun c=>V (QaF u a c) fun e=>some e
def Qht:o 434 (s [t10,d] [d] (Vs u)):=f u g (e (Qby u) (e (QcF u) t)) func434
def ZO(b:D.Fd)(a:Int):I D.Fh:=V (Vs u b a) fun c=>V (Qhh u (X (a+c))) fun e=>some e
def V7:o 417 (s [t10,d] [t12] (ZO u)):=f u g (e (QqR u) (e (Qht u) t)) func417
def Qd2(u:Nat)(a:D.w):I Int:=cd (a.Unit=2) (some (X (7*a.FI))) (some a.FI)
def Qjs:o 471 (s [t9] [d] (Qd2 u)):=f u g t func471
def QaE(n:D.Fd)(o:Int)(p:Int):I (Y D.Fz):=Qe (fun q ((c,a,_),b,j,_)=>cd (c<a) (V (Wy u b c) fun e=>TG (fun((l,r,s,k,_),f,g,_)=>V (QaF u f s) fun h=>TO (g.length+[(D.Fz.mk l k h)].length) 34359738368 (q ((k,r,()),f,(g++[(D.Fz.mk l k h)]),()))) fun i=>cd (e<(b.list.length:Int)) (TM b.list e fun m=>i ((c,a,e,(min a m.At),()),b,j,())) (i ((c,a,e,a,()),b,j,()))) (some j)) u ((o,p,()),n,[],())
def Qhu:o 474 (s [t10,d,d] [l .Fz] (QaE u)):=f u (n 2 (c (.one (k [.n 1,.n 2,.r 3 .Fd,.o 7 1038 .Fz] (c g (.one (n 2 (c (j [.n 1,.n 2,.r 3 .Fd,.o 7 1038 .Fz,.n 8,.n 9] g) g)))))) g)) (e (Qby u) (e (QcF u) t)) func474
def QgD(u:Nat)(a:D.Fh):I Int:=some (X ((X ((min (max a.Fl (-1048576)) 1048576)*86400))+a.FU))
def QnC:o 475 (s [t12] [d] (QgD u)):=f u g t func475
def Wx(i:D.Fd)(j:D.Fh):I (Int×AH):=V (QaE u i 0 8589934593) fun c=>Qe (fun k ((e,f,b,_),g,_)=>cd (b<f) (TM e b fun a=>V (QgD u g) fun h=>cd ((max a.v (X (h - a.FT)))<a.To) (some ((max a.v (X (h - a.FT))),true)) (k ((e,f,(X (b+1)),()),g,()))) (some (0,false))) u ((c,(c.length:Int),0,()),j,())
def Qiw:o 473 (s [t10,t12] [d,h] (Wx u)):=f u (c g (m [.r 3 .Fh,.l 10 .Fz,.n 11,.n 12] g)) (e (Qhu u) (e (QnC u) t)) func473
def Yc(e:D.Fd)(a:D.w)(b:Int):I (Int×AH):=cd (8589934592<b) (some (0,false)) (cd (a.Unit≠0) (V (Qd2 u a) fun f=>V (Wx u e (D.Fh.mk (X (a.R.Fl+(X (b*f)))) a.R.FU)) fun(g,h)=>some (g,h)) (V (Wx u e a.R) fun(c,i)=>J i (cd ((X (c+(X ((X (3600*a.FI))*b))))<=8589934592) (some ((X (c+(X ((X (3600*a.FI))*b)))),true)) (some ((X (c+(X ((X (3600*a.FI))*b)))),false))) (some ((X (c+(X ((X (3600*a.FI))*b)))),false))))
def Qil:o 470 (s [t10,t9,d] [d,h] (Yc u)):=f u g (e (Qjs u) (e (Qiw u) t)) func470
def UQ(n:D.Fd)(o:D.w)(p:Int):I Int:=V (Yc u n o 0) fun(q,Z)=>TG (fun((m,a3,_),r,g,_)=>cd (g.Unit=0) (nzc (X (3600*g.FI)) (some (X (Int.tdiv (X (m - a3)) (X (3600*g.FI)))))) (V (ZO u r m) fun a6=>V (Qd2 u g) fun s=>nzc s (TG (fun((a8,a9,_),t,v,_)=>Qe (fun w ((h,f,_),i,j,_)=>TG (fun((y,z,_),A,B,_)=>w ((y,(X (z+1)),()),A,B,())) fun zH=>V (Yc u i j (X (f+1))) fun(E,F)=>J F (cd (h<E) (some f) (zH ((h,f,()),i,j,()))) (some f)) u ((a8,a9,()),t,v,())) fun k=>Qe (fun G ((b,a,_),c,e,_)=>cd (0<a) (TG (fun((H,zE,_),zG,L,_)=>G ((H,(X (zE - 1)),()),zG,L,())) fun l=>V (Yc u c e a) fun(zD,zI)=>J zI (cd (zD<=b) (k ((b,a,()),c,e,())) (l ((b,a,()),c,e,()))) (l ((b,a,()),c,e,()))) (k ((b,a,()),c,e,()))) u ((m,(max 0 (X (Int.tdiv (X (a6.Fl - g.R.Fl)) s))),()),r,g,())))) fun W=>J Z (cd (p<q) (some (-1)) (W ((p,q,()),n,o,()))) (some (-1))
def Qk6:o 467 (s [t10,t9,d] [d] (UQ u)):=f u (n 2 (c (j [.n 2,.r 3 .Fd,.r 4 .w,.n 7] g) (n 2 (c (j [.n 2,.r 3 .Fd,.r 4 .w,.n 9] (.one (k [.n 2,.r 3 .Fd,.r 4 .w,.n 9] (c g (.one (c (j [.n 2,.r 3 .Fd,.r 4 .w,.n 9] g) g)))))) (.one (k [.n 2,.r 3 .Fd,.r 4 .w,.n 9] (.one (c (j [.n 2,.r 3 .Fd,.r 4 .w,.n 9] g) g)))))))) (e (V7 u) (e (Qil u) (e (Qjs u) t))) func467
def QbC(u:Nat)(a:Int):I AH:=some (decide (a≠a))
def QkS:o 423 (s [d] [h] (QbC u)):=f u g t func423
def Ua(a:Int)(b:Int):I AH:=V (QbC u a) fun c=>J c (V (QbC u b) fun e=>J e (cd (a<b) sT sF) sT) (cd (a<b) sT sF)
def Qch:o 395 (s [d,d] [h] (Ua u)):=f u g (e (QkS u) t) func395
def Qbn(u:Nat)(a:Int):I AH:=some (decide (a≠a))
def Qiq:o 472 (s [d] [h] (Qbn u)):=f u g t func472
def U0(f:Y Int)(m:Int):I (Int×AH):=Qe (fun i ((b,c,g,a,e,_),_)=>cd (a<e) (TK 1 fun h=>TM b (X (Int.fdiv (IntKind.wrap .u64 (X (a+e))) (HPow.hPow 2 (min h (Go.IntKind.bits Go.IntKind.u64))))) fun n=>V (Ua u n c) fun o=>J o (i ((b,c,g,(X ((X (Int.fdiv (IntKind.wrap .u64 (X (a+e))) (HPow.hPow 2 (min h (Go.IntKind.bits Go.IntKind.u64)))))+1)),e,()),())) (i ((b,c,g,a,(X (Int.fdiv (IntKind.wrap .u64 (X (a+e))) (HPow.hPow 2 (min h (Go.IntKind.bits Go.IntKind.u64))))),()),()))) (cd (a<g) (TM b a fun p=>cd (p=c) (some (a,true)) (TM b a fun j=>V (Qbn u j) fun k=>J k (V (Qbn u c) fun l=>J l (some (a,true)) (some (a,false))) (some (a,false)))) (some (a,false)))) u ((f,m,(f.length:Int),0,(f.length:Int),()),())
def QcQ:o 468 (s [lI,d] [d,h] (U0 u)):=f u (n 3 (c (.one (k [.s 0 lI,.n 1,.n 6,.n 7,.n 8] g)) g)) (e (Qch u) (e (Qiq u) t)) func468
def QcT(t:D.Fq)(v:D.w)(e:Int):I (Int×AH):=TG (fun((b,_),f,a,_)=>TM f.tables a.p fun i=>V (UQ u i a b) fun g=>TG (fun((w,j,_),k,h,_)=>cd (h.F0=0) (some (j,true)) (TM k.E.n h.m fun l=>TM k.tables l.p fun m=>V (ZO u m w) fun n=>V (U0 u l.F1 n.Fl) fun(y,o)=>some (j,(decide (o=(decide (h.F0=2))))))) fun c=>cd (g<0) (some (0,false)) (cd (0<(a.Fk.length:Int)) (V (ZO u i b) fun p=>V (Wp u p) fun q=>V (Qe5 u a.Fk q) fun r=>J r (c ((b,g,()),f,a,())) (some (0,false))) (c ((b,g,()),f,a,())))) fun s=>cd (e<0) (some (0,false)) (cd (8589934592<e) (some (0,false)) (s ((e,()),t,v,())))
def Qmb:o 463 (s [.st .Fq,t9,d] [d,h] (QcT u)):=f u (c g (c (j [.n 2,.r 3 .Fq,.r 4 .w] g) (n 2 (c (j [.n 2,.r 3 .Fq,.r 4 .w,.n 9] g) g)))) (e (Qnz u) (e (Qfg u) (e (V7 u) (e (Qk6 u) (e (QcQ u) t))))) func463
def Wq(b:D.Fq)(a:D.w)(c:Int):I Int:=V (QcT u b a c) fun(e,f)=>J (!f) (some (-1)) (nzc (a.s.length:Int) (TM a.s (Int.tmod e (a.s.length:Int)) fun g=>some g))
def QhU:o 457 (sI [.st .Fq,t9,d] fun x=>Wq u x.1 x.2.1 x.2.2.1):=i u g kz4 (e (Qmb u) t) func457
def Qdh(u:Nat)(c:D.r)(b:Int)(a:Int):I AH:=cd (c.b=0) (cd (c.A=b) (cd (c.v<=a) (cd (a<c.To) (TF b b (TF a a sT)) (TF b b (TF a a sF))) (TF b b (TF a a sF))) (TF b b (TF a a sF))) (TF b b (TF a a sF))
def Qnn:o 465 (Ql [.st .r,.one (.TN 101),.one (.TN 102)] [w 101 .int,w 102 .int] [h] [] [101,102] AH kz2 (fun x y=>Qdh u x.1 y.1 y.2.1)):=i u g kz4 t func465
def Za(e:Y D.r)(c101:Int)(c102:Int):I Int:=Qe (fun h ((f,g,a,_),(b,_),(c,_),_)=>cd (a<g) (TM f a fun i=>V (Qdh u i b c) fun j=>J j (TF b c101 (TF c c102 (some a))) (h ((f,g,(X (a+1)),()),(b,()),(c,()),()))) (TF b c101 (TF c c102 (some (-1))))) u ((e,(e.length:Int),0,()),(c101,()),(c102,()),())
def Vh:o 469 (Ql [l .r,.one (.clo 465 [101,102])] [w 101 .int,w 102 .int] [d] [] [101,102] Int kz2 (fun x y=>Za u x.1 y.1 y.2.1)):=i u (c g (m [.l 0 .r,.s 1 (.one (.clo 465 [101,102])),.n 7,.n 8] g [(101,.box [v]),(102,.box [v])])) kz4 (e (Qnn u) t) func469
def Zs(a:Y D.r)(c101:Int)(c102:Int):I AH:=V (Za u a c101 c102) fun b=>TF c101 c101 (TF c102 c102 (some (decide (0<=b))))
def Wu:o 464 (Ql [l .r,.one (.clo 465 [101,102])] [w 101 .int,w 102 .int] [h] [] [101,102] AH kz2 (fun x y=>Zs u x.1 y.1 y.2.1)):=i u g kz4 (e (Vh u) t) func464
def QaC(a:D.c)(b:Int)(c:Int):I AH:=V (Zs u a.FS b c) fun e=>some e
def QqH:o 458 (sB [t11,d,d] fun x=>QaC u x.1 x.2.1 x.2.2.1):=i u g kz4 (e (Wu u) t) func458
end
section
open Go Go.RowKit Go.Shelf Go.Proofs AM
attribute [local go_sem] Oper.semAt_some
set_option maxHeartbeats 400000
def QBr(F)(n)(h5:F.fn 456)(hro:F.round=none)(a)(len cap)(w):
  CallsIn F n Tryz.prog 456 #[.slice a len cap] w fun e w'=>e=.returned (.func (.func 462) #[] #[.pointer (some ⟨w.heap.size,0,none⟩)])/\w'=w.alloc (.cells #[.slice a len cap] 135):=by
 refine callsIn_of_wp Tryz.func456 rfl h5 ?_ hro
 simp only[Tryz.ntmps456,B1,Ab,Am,Nat.reduceAdd,Nat.reduceSub,ES,ET,EU,EV,BQ,Ar]
 gi_wp2
 go_ret
 exact⟨rfl,rfl⟩
def Qu8(n)(hn:1<=n)(Bs b off cap)(l1 l2 l3 l4 l5 l6 l7 l8 l9 l10)(w)(hBs:Bs<w.heap.size)(hb:b<w.heap.size)(hc:w.cell? ⟨Bs,0,none⟩=some (.slice (some ⟨b,off,none⟩) 1 cap))(c1:w.cell? ⟨b,off,none⟩=some l1)(c2:w.cell? ⟨b,off+1,none⟩=some l2)(c3:w.cell? ⟨b,off+2,none⟩=some l3)(c4:w.cell? ⟨b,off+3,none⟩=some l4)(c5:w.cell? ⟨b,off+4,none⟩=some l5)(c6:w.cell? ⟨b,off+5,none⟩=some l6)(c7:w.cell? ⟨b,off+6,none⟩=some l7)(c8:w.cell? ⟨b,off+7,none⟩=some l8)(c9:w.cell? ⟨b,off+8,none⟩=some l9)(c10:w.cell? ⟨b,off+9,none⟩=some l10):
  SeqStopsK Fence.wide n Tryz.prog 462 #[.pointer (some ⟨Bs,0,none⟩)] (fun _:Unit=>#[Value.int .i64 0,.agg #[l1,l2,l3,l4,l5,l6,l7,l8,l9,l10]]) (fun _ _=>True) (fun ys=>ys=[()]) (fun pre=>pre=[()]) 1 w:=by
 intro l zG Jx W hW hJ hJx hY h0
 have hc':=(hW.cell (p:=⟨Bs,0,none⟩) hBs).trans hc
 have d1:=(hW.cell (p:=⟨b,off,none⟩) hb).trans c1
 have d2:=(hW.cell (p:=⟨b,off+1,none⟩) hb).trans c2
 have d3:=(hW.cell (p:=⟨b,off+2,none⟩) hb).trans c3
 have d4:=(hW.cell (p:=⟨b,off+3,none⟩) hb).trans c4
 have d5:=(hW.cell (p:=⟨b,off+4,none⟩) hb).trans c5
 have d6:=(hW.cell (p:=⟨b,off+5,none⟩) hb).trans c6
 have d7:=(hW.cell (p:=⟨b,off+6,none⟩) hb).trans c7
 have d8:=(hW.cell (p:=⟨b,off+7,none⟩) hb).trans c8
 have d9:=(hW.cell (p:=⟨b,off+8,none⟩) hb).trans c9
 have d10:=(hW.cell (p:=⟨b,off+9,none⟩) hb).trans c10
 obtain⟨fn,tmps,assign,body,hy,hR⟩:=hY [] () W h0 Ob
 dsimp only at hy
 refine callsIn_of_wp Tryz.func462 rfl trivial ?_ rfl
 simp only[Tryz.ntmps462,B1,Ab,Am,Nat.reduceAdd,Nat.reduceSub,ES,ET,EU,EV,BQ,Ar]
 gi_wp2
 gi_loopw [3] (fun i wr=>(i=.int .i64 0/\wr=W)\/(i=.int .i64 (-1)/\zG [()] wr)) (fun i _=>(intOf i+1).toNat)
 case atStart=>exact .inl ⟨by simp[wrap64],rfl⟩
 case round=>
  rcases hrel with⟨rfl,rfl⟩|⟨rfl,hJ1⟩
  .gi_wp2
   refine hR.mono ?_
   rintro e W3 (⟨rfl,hJ3,_⟩|⟨rfl,hJx3⟩)
   .gi_wp2
    go_roundw
    case rel=>exact .inr ⟨by simp[wrap64],hJ3⟩
    case measure=>simp[intOf,wrap64]
   .gi_wp2
    refine bodyPost_ret (results_none rfl _ _ _) rfl ?_
    exact⟨⟨_,rfl⟩,.inr ⟨_,rfl,hJx3⟩⟩
  .gi_wp2
   go_end0
   exact⟨⟨_,rfl⟩,.inl ⟨_,rfl,hJ1⟩⟩
def Blk(W:AG)(b:Nat)(cs:Array AE)(t:AD):Prop:=W.heap[b]?=some (.cells cs t (0,0))
def Blk.new(W:AG)(cs:Array AE)(t:AD):Blk (W.alloc (.cells cs t)) W.heap.size cs t:=World.alloc_heap_new W _
def Blk.lt(h:Blk W b cs t):b<W.heap.size:=(CE.1 h).1
def Blk.alloc(h:Blk W b cs t)(o):Blk (W.alloc o) b cs t:=(Below.heap_alloc W o b h.lt).trans h
def Blk.cell(h:Blk W b cs t)(hj:cs[j]?=some v):W.cell? ⟨b,j,none⟩=some v:=by
 simp[World.cell?,show W.heap[b]?=_ from h,hj]
def Blk.frozen(h:Blk W b cs t):W.frozen? ⟨b,j,none⟩=false:=by simp[World.frozen?,show W.heap[b]?=_ from h]
def Blk.own(h:Blk W b cs t)(hg:W.grownBy W' row)(hr:∀r,row=some r->B<=r/\∃o:Obj,W.heap[r]?=some o/\o.isCells=false):Blk W' b cs t:=by
 refine(hg.block b h.lt fun e=>?_).trans h
 obtain⟨_,o,ho,hc⟩:=hr b e.symm
 rw[show W.heap[b]?=_ from h]at ho;cases ho;cases hc
def Blk.ext(h:Blk W b cs t)(hx:AM.Ext (fun _=>False) W W'):Blk W' b cs t:=(hx.same b h.lt id).trans h
def Qpu(hB:w.heap.size<=B)(h:AM.Ext (fun _=>False) w W)(hg:W.grownBy W' row)(hr:∀r,row=some r->B<=r/\∃o:Obj,W.heap[r]?=some o/\o.isCells=false):AM.Ext (fun _=>False) w W':=
 ⟨AX h.size hg.size,fun b hb _=>(hg.block b (BF hb h.size) (fun e=>by have:=(hr b e.symm).1;omega)).trans (h.same b hb id),hg.os.trans h.os,hg.output.trans h.out⟩
def Qcj(h:AM.Ext (fun _=>False) w W)(o):AM.Ext (fun _=>False) w (W.alloc o):=
 ⟨AX h.size Ob,fun b hb _=>(Below.heap_alloc W o b (BF hb h.size)).trans (h.same b hb id),h.os,h.out⟩
def QiL(h:AM.Ext (fun _=>False) a b)(k:AM.Ext (fun _=>False) b c):AM.Ext (fun _=>False) a c:=h.trans k fun _ _ e=>e
def Qms(h:AM.Ext (fun _=>False) W W')(B):KeepsFrom B W W':=⟨h.size,fun k o _ hk _=>(h.same k (CE.1 hk).1 id).trans hk⟩
structure Oth (b:Nat) (W W':AG):Prop where
 size:W'.heap.size=W.heap.size
 same:∀k,k≠b->W'.heap[k]?=W.heap[k]?
 os:W'.os=W.os
 out:W'.output=W.output
def Oth.refl(b)(W):Oth b W W:=⟨rfl,fun _ _=>rfl,rfl,rfl⟩
def Oth.trans(h:Oth b A B)(k:Oth b B zH):Oth b A zH:=⟨k.size.trans h.size,fun i hi=>(k.same i hi).trans (h.same i hi),k.os.trans h.os,k.out.trans h.out⟩
def Oth.set(b j)(v)(W):Oth b W (W.setCell ⟨b,j,none⟩ v):=
 ⟨by simp[World.setCell],fun k hk=>by simp[World.setCell,Ey,Aj hk],rfl,rfl⟩
def Oth.blk(h:Oth b W W')(hk:k≠b)(hb:Blk W k cs t):Blk W' k cs t:=(h.same k hk).trans hb
def Blk.set(h:Blk W b cs t)(j)(v):Blk (W.setCell ⟨b,j,none⟩ v) b (cs.setIfInBounds j v) t:=by
 have:b<W.heap.size:=h.lt
 unfold Blk at h |-
 simp only[World.setCell,Ey,h,if_true]
 rfl
def Blk.store{P:AF}{W:AG}{b:Nat}{cs:Array AE}{t:AD}(h:Blk W b cs t){j:Nat}(hj:j<cs.size){v:AE}(hv:v.oneCell'=true):(store ⟨b,j,none⟩ v).run P W=.ok () (W.setCell ⟨b,j,none⟩ v):=by
 rw[run_store P W _ v _ hv]
 have h1:=h.cell (j:=j) (v:=cs[j]) (by simp[hj])
 simp[stored,h1,h.frozen]
def Qmi(hB:w.heap.size<=b)(h:AM.Ext (fun _=>False) w W)(k:Oth b W W'):AM.Ext (fun _=>False) w W':=
 ⟨by rw[k.size];exact h.size,fun i hi _=>(k.same i U).trans (h.same i hi id),k.os.trans h.os,k.out.trans h.out⟩
def QxC(B:Nat)(k:Oth W.heap.size (W.alloc o) W'):KeepsFrom B W W':=
 ⟨by rw[k.size];simp,fun i x _ hi _=>by
  have hl:=(CE.1 hi).1
  exact(k.same i U).trans ((Below.heap_alloc W o i hl).trans hi)⟩
def store1(h:Blk W b cs t)(ho:Oth b A0 W)(hj:j<cs.size)(hc:cs.setIfInBounds j v=cs')(hv:v.oneCell'=true):
  ∃W',(store ⟨b,j,none⟩ v).run P W=.ok () W'/\Oth b A0 W'/\Blk W' b cs' t:=⟨_,h.store hj hv,ho.trans (Oth.set b j v W),hc ▸ h.set j v⟩
def store10(P:AF)(W:AG)(l1 l2 l3 l4 l5 l6 l7 l8 l9 l10:AE)(o1:l1.oneCell'=true)(o2:l2.oneCell'=true)(o3:l3.oneCell'=true)(o4:l4.oneCell'=true)(o5:l5.oneCell'=true)(o6:l6.oneCell'=true)(o7:l7.oneCell'=true)(o8:l8.oneCell'=true)(o9:l9.oneCell'=true)(o10:l10.oneCell'=true):
  ∃W3,((Sem.run P (store ⟨W.heap.size,0,none⟩ l1) (W.alloc (.cells #[.string { data:=#[] },.int .i64 0,.int .i64 0,.int .i64 0,.int .i64 0,.int .i64 0,.slice none 0 0,.slice none 0 0,.int .i64 0,.int .i64 0] 134))).andThen fun a w'=>(Sem.run P (store ⟨W.heap.size,1,none⟩ l2) w').andThen fun a w'=>(Sem.run P (store ⟨W.heap.size,2,none⟩ l3) w').andThen fun a w'=>(Sem.run P (store ⟨W.heap.size,3,none⟩ l4) w').andThen fun a w'=>(Sem.run P (store ⟨W.heap.size,4,none⟩ l5) w').andThen fun a w'=>(Sem.run P (store ⟨W.heap.size,5,none⟩ l6) w').andThen fun a w'=>(Sem.run P (store ⟨W.heap.size,6,none⟩ l7) w').andThen fun a w'=>(Sem.run P (store ⟨W.heap.size,7,none⟩ l8) w').andThen fun a w'=>(Sem.run P (store ⟨W.heap.size,8,none⟩ l9) w').andThen fun a w'=>(Sem.run P (store ⟨W.heap.size,9,none⟩ l10) w'))=.ok () W3/\Oth W.heap.size (W.alloc (.cells #[.string { data:=#[] },.int .i64 0,.int .i64 0,.int .i64 0,.int .i64 0,.int .i64 0,.slice none 0 0,.slice none 0 0,.int .i64 0,.int .i64 0] 134)) W3/\Blk W3 W.heap.size #[l1,l2,l3,l4,l5,l6,l7,l8,l9,l10] 134:=by
 have q0:=Blk.new W #[.string { data:=#[] },.int .i64 0,.int .i64 0,.int .i64 0,.int .i64 0,.int .i64 0,.slice none 0 0,.slice none 0 0,.int .i64 0,.int .i64 0] 134
 have t0:=Oth.refl W.heap.size (W.alloc (.cells #[.string { data:=#[] },.int .i64 0,.int .i64 0,.int .i64 0,.int .i64 0,.int .i64 0,.slice none 0 0,.slice none 0 0,.int .i64 0,.int .i64 0] 134))
 obtain⟨A1,r1,t1,q1⟩:=store1 (P:=P) (cs':=#[l1,.int .i64 0,.int .i64 0,.int .i64 0,.int .i64 0,.int .i64 0,.slice none 0 0,.slice none 0 0,.int .i64 0,.int .i64 0]) q0 t0 (j:=0) (v:=l1) Ob rfl o1
 rw[r1,Result.andThen]
 obtain⟨A2,r2,t2,q2⟩:=store1 (P:=P) (cs':=#[l1,l2,.int .i64 0,.int .i64 0,.int .i64 0,.int .i64 0,.slice none 0 0,.slice none 0 0,.int .i64 0,.int .i64 0]) q1 t1 (j:=1) (v:=l2) Ob rfl o2
 rw[r2,Result.andThen]
 obtain⟨A3,r3,t3,q3⟩:=store1 (P:=P) (cs':=#[l1,l2,l3,.int .i64 0,.int .i64 0,.int .i64 0,.slice none 0 0,.slice none 0 0,.int .i64 0,.int .i64 0]) q2 t2 (j:=2) (v:=l3) Ob rfl o3
 rw[r3,Result.andThen]
 obtain⟨A4,r4,t4,q4⟩:=store1 (P:=P) (cs':=#[l1,l2,l3,l4,.int .i64 0,.int .i64 0,.slice none 0 0,.slice none 0 0,.int .i64 0,.int .i64 0]) q3 t3 (j:=3) (v:=l4) Ob rfl o4
 rw[r4,Result.andThen]
 obtain⟨A5,r5,t5,q5⟩:=store1 (P:=P) (cs':=#[l1,l2,l3,l4,l5,.int .i64 0,.slice none 0 0,.slice none 0 0,.int .i64 0,.int .i64 0]) q4 t4 (j:=4) (v:=l5) Ob rfl o5
 rw[r5,Result.andThen]
 obtain⟨A6,r6,t6,q6⟩:=store1 (P:=P) (cs':=#[l1,l2,l3,l4,l5,l6,.slice none 0 0,.slice none 0 0,.int .i64 0,.int .i64 0]) q5 t5 (j:=5) (v:=l6) Ob rfl o6
 rw[r6,Result.andThen]
 obtain⟨A7,r7,t7,q7⟩:=store1 (P:=P) (cs':=#[l1,l2,l3,l4,l5,l6,l7,.slice none 0 0,.int .i64 0,.int .i64 0]) q6 t6 (j:=6) (v:=l7) Ob rfl o7
 rw[r7,Result.andThen]
 obtain⟨A8,r8,t8,q8⟩:=store1 (P:=P) (cs':=#[l1,l2,l3,l4,l5,l6,l7,l8,.int .i64 0,.int .i64 0]) q7 t7 (j:=7) (v:=l8) Ob rfl o8
 rw[r8,Result.andThen]
 obtain⟨A9,r9,t9,q9⟩:=store1 (P:=P) (cs':=#[l1,l2,l3,l4,l5,l6,l7,l8,l9,.int .i64 0]) q8 t8 (j:=8) (v:=l9) Ob rfl o9
 rw[r9,Result.andThen]
 obtain⟨A10,r10,t10,q10⟩:=store1 (P:=P) (cs':=#[l1,l2,l3,l4,l5,l6,l7,l8,l9,l10]) q9 t9 (j:=9) (v:=l10) Ob rfl o10
 rw[r10]
 exact⟨A10,rfl,t10,q10⟩
def QC4(n)(hn:3<=n)(v1 v2 v3 v4 v5 s1 s3)(b off cap)(t)(l1 l2 l3 l4 l5 l6 l7 l8 l9 l10)(w)(hb:b<w.heap.size)(c1:w.cell? ⟨b,off,none⟩=some l1)(c2:w.cell? ⟨b,off+1,none⟩=some l2)(c3:w.cell? ⟨b,off+2,none⟩=some l3)(c4:w.cell? ⟨b,off+3,none⟩=some l4)(c5:w.cell? ⟨b,off+4,none⟩=some l5)(c6:w.cell? ⟨b,off+5,none⟩=some l6)(c7:w.cell? ⟨b,off+6,none⟩=some l7)(c8:w.cell? ⟨b,off+7,none⟩=some l8)(c9:w.cell? ⟨b,off+8,none⟩=some l9)(c10:w.cell? ⟨b,off+9,none⟩=some l10)(o1:l1.oneCell'=true)(o2:l2.oneCell'=true)(o3:l3.oneCell'=true)(o4:l4.oneCell'=true)(o5:l5.oneCell'=true)(o6:l6.oneCell'=true)(o7:l7.oneCell'=true)(o8:l8.oneCell'=true)(o9:l9.oneCell'=true)(o10:l10.oneCell'=true)(p)(hP:∀W,AM.Ext (fun _=>False) w W->Calls Tryz.prog 457 #[.agg #[v1,v2,v3,v4,v5],.agg #[l1,l2,l3,l4,l5,l6,l7,l8,l9,l10],.int .i64 t] W fun e W'=>e=.returned (.int .i64 p)/\AM.Ext (fun _=>False) W W')(aw)(hA:0<=p->∀W,AM.Ext (fun _=>False) w W->Calls Tryz.prog 458 #[.agg #[s1,.slice (some ⟨b,off,none⟩) 1 cap,s3],.int .i64 p,.int .i64 t] W fun e W'=>e=.returned (.bool aw)/\AM.Ext (fun _=>False) W W'):
  CallsIn Fence.wide n Tryz.prog 451 #[.agg #[v1,v2,v3,v4,v5],.agg #[s1,.slice (some ⟨b,off,none⟩) 1 cap,s3],.int .i64 t] w fun e w'=>
   e=.returned (.tuple #[.int .i64 (if p<0\/aw=true then -1 else 0),.int .i64 (if p<0\/aw=true then -1 else p)])/\AM.Ext (fun _=>False) w w':=by
 have h1:1<=n:=U
 refine callsIn_of_wp_marks Tryz.func451 rfl trivial ?_ rfl
 simp only[Tryz.ntmps451,B1,Ab,Am,Nat.reduceAdd,Nat.reduceSub,ES,ET,EU,EV,BQ,Ar]
 gi_wp2
 refine wpIn_wide.2 (wp_scope_straight ((wpIn_wide (n:=n)).1 ?_))
 refine wpIn_seq (wpIn_label ?_)
 show Code.wpIn _ _ _ _ _ _ _
 gi_wp2_with (refine⟨trivial,?_⟩;gi_at_call 456;refine(QBr Fence.wide (n - 1) trivial rfl _ _ _ _).mono ?_;rintro e w' ⟨rfl,rfl⟩)
 have e0:=Qcj (Qcj (Qcj (Qcj (Qcj (Qcj (AM.Ext.refl (fun _=>False) w) (.cells #[v1,v2,v3,v4,v5] 423)) (.cells #[s1,.slice (some ⟨b,off,none⟩) 1 cap,s3] 138)) (.cells #[.int .i64 t] 3)) (.cells #[.int .i64 0] 3)) (.cells #[.int .i64 0] 3)) (.cells #[.slice (some ⟨b,off,none⟩) 1 cap] 135)
 have b0:=((((((Blk.new w #[v1,v2,v3,v4,v5] 423).alloc (.cells #[s1,.slice (some ⟨b,off,none⟩) 1 cap,s3] 138)).alloc (.cells #[.int .i64 t] 3)).alloc (.cells #[.int .i64 0] 3)).alloc (.cells #[.int .i64 0] 3)).alloc (.cells #[.slice (some ⟨b,off,none⟩) 1 cap] 135))
 have b1:=(((((Blk.new (w.alloc (.cells #[v1,v2,v3,v4,v5] 423)) #[s1,.slice (some ⟨b,off,none⟩) 1 cap,s3] 138).alloc (.cells #[.int .i64 t] 3)).alloc (.cells #[.int .i64 0] 3)).alloc (.cells #[.int .i64 0] 3)).alloc (.cells #[.slice (some ⟨b,off,none⟩) 1 cap] 135))
 have b2:=((((Blk.new ((w.alloc (.cells #[v1,v2,v3,v4,v5] 423)).alloc (.cells #[s1,.slice (some ⟨b,off,none⟩) 1 cap,s3] 138)) #[.int .i64 t] 3).alloc (.cells #[.int .i64 0] 3)).alloc (.cells #[.int .i64 0] 3)).alloc (.cells #[.slice (some ⟨b,off,none⟩) 1 cap] 135))
 have b3:=(((Blk.new (((w.alloc (.cells #[v1,v2,v3,v4,v5] 423)).alloc (.cells #[s1,.slice (some ⟨b,off,none⟩) 1 cap,s3] 138)).alloc (.cells #[.int .i64 t] 3)) #[.int .i64 0] 3).alloc (.cells #[.int .i64 0] 3)).alloc (.cells #[.slice (some ⟨b,off,none⟩) 1 cap] 135))
 have b4:=((Blk.new ((((w.alloc (.cells #[v1,v2,v3,v4,v5] 423)).alloc (.cells #[s1,.slice (some ⟨b,off,none⟩) 1 cap,s3] 138)).alloc (.cells #[.int .i64 t] 3)).alloc (.cells #[.int .i64 0] 3)) #[.int .i64 0] 3).alloc (.cells #[.slice (some ⟨b,off,none⟩) 1 cap] 135))
 have b5:=(Blk.new (((((w.alloc (.cells #[v1,v2,v3,v4,v5] 423)).alloc (.cells #[s1,.slice (some ⟨b,off,none⟩) 1 cap,s3] 138)).alloc (.cells #[.int .i64 t] 3)).alloc (.cells #[.int .i64 0] 3)).alloc (.cells #[.int .i64 0] 3)) #[.slice (some ⟨b,off,none⟩) 1 cap] 135)
 simp only[World.size_alloc]at b1 b2 b3 b4 b5
 have hz:((((((w.alloc (.cells #[v1,v2,v3,v4,v5] 423)).alloc (.cells #[s1,.slice (some ⟨b,off,none⟩) 1 cap,s3] 138)).alloc (.cells #[.int .i64 t] 3)).alloc (.cells #[.int .i64 0] 3)).alloc (.cells #[.int .i64 0] 3)).alloc (.cells #[.slice (some ⟨b,off,none⟩) 1 cap] 135)).heap.size=w.heap.size+6:=Ob
 obtain⟨W0,hW0⟩:∃W0,((((((w.alloc (.cells #[v1,v2,v3,v4,v5] 423)).alloc (.cells #[s1,.slice (some ⟨b,off,none⟩) 1 cap,s3] 138)).alloc (.cells #[.int .i64 t] 3)).alloc (.cells #[.int .i64 0] 3)).alloc (.cells #[.int .i64 0] 3)).alloc (.cells #[.slice (some ⟨b,off,none⟩) 1 cap] 135))=W0:=⟨_,rfl⟩
 rw[hW0]at e0 b0 b1 b2 b3 b4 b5 hz |-
 have c0:∀o,W0.cell? ⟨b,o,none⟩=w.cell? ⟨b,o,none⟩:=fun o=>World.cell?_of_block (e0.same b hb id)
 refine wpIn_rangeFunc_ownH rfl h1 (gf:=462) (lb:=#[.pointer (some ⟨w.heap.size+1+1+1+1+1,0,none⟩)]) rfl trivial (enters_of Tryz.func462 (by kernel_rfl) rfl)
  (Qu8 (n - 1) U (w.heap.size+1+1+1+1+1) b off cap l1 l2 l3 l4 l5 l6 l7 l8 l9 l10 W0 b5.lt U (b5.cell rfl) ((c0 _).trans c1) ((c0 _).trans c2) ((c0 _).trans c3) ((c0 _).trans c4) ((c0 _).trans c5) ((c0 _).trans c6) ((c0 _).trans c7) ((c0 _).trans c8) ((c0 _).trans c9) ((c0 _).trans c10)) (fun _ _=>trivial) (fun _ _ _ _ _ _ _ _=>trivial) (Below.refl _ _) (fun _=>rfl)
  (fun pre W=>((Blk W w.heap.size #[v1,v2,v3,v4,v5] 423/\Blk W (w.heap.size+1) #[s1,.slice (some ⟨b,off,none⟩) 1 cap,s3] 138/\Blk W (w.heap.size+1+1) #[.int .i64 t] 3/\Blk W (w.heap.size+1+1+1) #[.int .i64 0] 3/\Blk W (w.heap.size+1+1+1+1) #[.int .i64 0] 3)/\AM.Ext (fun _=>False) w W)/\(pre=[]\/(p<0\/aw=true)))
  (fun c pre W=>c=.ret/\¬(p<0\/aw=true)/\Blk W (w.heap.size+1+1+1) #[.int .i64 0] 3/\Blk W (w.heap.size+1+1+1+1) #[.int .i64 p] 3/\AM.Ext (fun _=>False) w W)
  (fun s A B row hs hg hr=>⟨⟨⟨hs.1.1.1.own hg hr,hs.1.1.2.1.own hg hr,hs.1.1.2.2.1.own hg hr,hs.1.1.2.2.2.1.own hg hr,hs.1.1.2.2.2.2.own hg hr⟩,Qpu U hs.1.2 hg hr⟩,hs.2⟩)
  (fun c s A B row hs hg hr=>⟨hs.1,hs.2.1,hs.2.2.1.own hg hr,hs.2.2.2.1.own hg hr,Qpu U hs.2.2.2.2 hg hr⟩)
  ⟨⟨⟨b0,b1,b2,b3,b4⟩,e0⟩,.inl rfl⟩
  (fun _ a' W=>∃Bx,w.heap.size+1+1+1+1<Bx/\Blk W Bx #[l1,l2,l3,l4,l5,l6,l7,l8,l9,l10] 134/\a'={ tmps:=#[.agg #[v1,v2,v3,v4,v5],.agg #[s1,.slice (some ⟨b,off,none⟩) 1 cap,s3],.int .i64 t,.pointer (some ⟨w.heap.size,0,none⟩),.pointer (some ⟨w.heap.size+1,0,none⟩),.pointer (some ⟨w.heap.size+1+1,0,none⟩),.pointer (some ⟨w.heap.size+1+1+1,0,none⟩),.pointer (some ⟨w.heap.size+1+1+1+1,0,none⟩),.int .i64 0,.pointer (some ⟨Bx,0,none⟩),undef,.pointer (some ⟨w.heap.size+1,1,none⟩),.slice (some ⟨b,off,none⟩) 1 cap,.func (.func 462) #[] #[.pointer (some ⟨w.heap.size+1+1+1+1+1,0,none⟩)],.int .i64 0,.agg #[l1,l2,l3,l4,l5,l6,l7,l8,l9,l10],undef,undef,undef,undef,undef,undef,undef,undef,undef,undef,undef,undef,undef],defers:=[] })
  (fun x a' s A B row hs hg hr=>by obtain⟨Bx,g1,g2,g3⟩:=hs;exact⟨Bx,g1,g2.own hg hr,g3⟩) ?assign ?body ?done ?stop
 case assign=>
  rintro l pre x W K ⟨⟨⟨i0,i1,i2,i3,i4⟩,ie⟩,hp⟩ hK
  gi_wp2
  obtain⟨W3,hW3,tt,q10⟩:=store10 Tryz.prog W l1 l2 l3 l4 l5 l6 l7 l8 l9 l10 o1 o2 o3 o4 o5 o6 o7 o8 o9 o10
  rw[hW3,Result.andThen]
  gi_wp2
  have hi4:=i4.lt
  exact hK _ _ (QxC _ tt) trivial ⟨⟨⟨tt.blk U (i0.alloc _),tt.blk U (i1.alloc _),tt.blk U (i2.alloc _),tt.blk U (i3.alloc _),tt.blk U (i4.alloc _)⟩,Qmi U (Qcj ie _) tt⟩,hp⟩ ⟨W.heap.size,hi4,q10,rfl⟩
 case body=>
  rintro l pre x a' W hl hlp ⟨⟨⟨i0,i1,i2,i3,i4⟩,ie⟩,hp⟩ ⟨Bx,hBx,bx,rfl⟩ hlen
  have a1:=i0.cell (j:=0) rfl
  have a2:=i0.cell (j:=1) rfl
  have a3:=i0.cell (j:=2) rfl
  have a4:=i0.cell (j:=3) rfl
  have a5:=i0.cell (j:=4) rfl
  have g1:=i1.cell (j:=0) rfl
  have g2:=i1.cell (j:=1) rfl
  have g3:=i1.cell (j:=2) rfl
  have g4:=i2.cell (j:=0) rfl
  have m1:=bx.cell (j:=0) rfl
  have m2:=bx.cell (j:=1) rfl
  have m3:=bx.cell (j:=2) rfl
  have m4:=bx.cell (j:=3) rfl
  have m5:=bx.cell (j:=4) rfl
  have m6:=bx.cell (j:=5) rfl
  have m7:=bx.cell (j:=6) rfl
  have m8:=bx.cell (j:=7) rfl
  have m9:=bx.cell (j:=8) rfl
  have m10:=bx.cell (j:=9) rfl
  have hmx:Tryz.prog.follows .mixedOrders=true:=by kernel_rfl
  gi_wp2
  refine⟨trivial,fun h=>absurd h (by decide),?_⟩
  refine(CallsIn.inRound l (callsIn_wide.2 (hP W ie))).mono ?_
  rintro e W4 ⟨rfl,hx⟩
  have f0:=i0.ext hx
  have f1:=i1.ext hx
  have f2:=i2.ext hx
  have f3:=i3.ext hx
  have f4:=i4.ext hx
  have fe:=QiL ie hx
  have g1:=f1.cell (j:=0) rfl
  have g2:=f1.cell (j:=1) rfl
  have g3:=f1.cell (j:=2) rfl
  have g4:=f2.cell (j:=0) rfl
  dsimp only
  gi_wp2
  .exact⟨Qms hx _,trivial,⟨⟨⟨f0,f1,f2,f3,f4⟩,fe⟩,.inr (.inl (by assumption))⟩⟩
  .refine⟨trivial,fun h=>absurd h (by decide),?_⟩
   have hp0:0<=p:=by assumption
   refine(CallsIn.inRound l (callsIn_wide.2 (hA hp0 W4 fe))).mono ?_
   rintro e W5 ⟨rfl,hy⟩
   have k0:=f0.ext hy
   have k1:=f1.ext hy
   have k2:=f2.ext hy
   have k3:=f3.ext hy
   have k4:=f4.ext hy
   have ke:=QiL fe hy
   have r1:=k3.cell (j:=0) rfl
   have r2:=k4.cell (j:=0) rfl
   have r3:=k3.frozen (j:=0)
   have r4:=k4.frozen (j:=0)
   dsimp only
   gi_wp2
   .have hno:¬(p<0\/aw=true):=fun h=>h.elim (fun h=>U) (fun h=>by subst h;simp_all)
    refine⟨(Qms (QiL hx hy) _).trans ⟨by simp[World.setCell],fun i o _ hi hc=>?_⟩,rfl,hno,(Oth.set (w.heap.size+1+1+1+1) 0 (.int .i64 p) _).blk U (k3.set 0 (.int .i64 0)),((Oth.set (w.heap.size+1+1+1) 0 (.int .i64 0) W5).blk U k4).set 0 (.int .i64 p),Qmi U (Qmi U ke (Oth.set (w.heap.size+1+1+1) 0 (.int .i64 0) W5)) (Oth.set (w.heap.size+1+1+1+1) 0 (.int .i64 p) _)⟩
    have n3:i≠w.heap.size+1+1+1:=fun e=>by subst e;rw[show W5.heap[w.heap.size+1+1+1]?=_ from k3]at hi;cases hi;cases hc
    have n4:i≠w.heap.size+1+1+1+1:=fun e=>by subst e;rw[show W5.heap[w.heap.size+1+1+1+1]?=_ from k4]at hi;cases hi;cases hc
    exact((Oth.set (w.heap.size+1+1+1+1) 0 (.int .i64 p) _).same i n4).trans (((Oth.set (w.heap.size+1+1+1) 0 (.int .i64 0) W5).same i n3).trans hi)
   .have hyes:aw=true:=by cases aw<;>simp_all
    exact⟨Qms (QiL hx hy) _,trivial,⟨⟨⟨k0,k1,k2,k3,k4⟩,ke⟩,.inr (.inr hyes)⟩⟩
 case done=>
  rintro D xs W hD rfl ⟨⟨⟨i0,i1,i2,i3,i4⟩,ie⟩,hp⟩ hKD
  have r1:=i3.cell (j:=0) rfl
  have r2:=i4.cell (j:=0) rfl
  have r3:=i3.frozen (j:=0)
  have r4:=i4.frozen (j:=0)
  gi_wp2
  have hp':p<0\/aw=true:=hp.resolve_left Ob
  have m3:Blk ((W.setCell ⟨w.heap.size+1+1+1,0,none⟩ (.int .i64 (-1))).setCell ⟨w.heap.size+1+1+1+1,0,none⟩ (.int .i64 (-1))) (w.heap.size+1+1+1) #[.int .i64 (-1)] 3:=(Oth.set (w.heap.size+1+1+1+1) 0 (.int .i64 (-1)) _).blk U (i3.set 0 (.int .i64 (-1)))
  have m4:Blk ((W.setCell ⟨w.heap.size+1+1+1,0,none⟩ (.int .i64 (-1))).setCell ⟨w.heap.size+1+1+1+1,0,none⟩ (.int .i64 (-1))) (w.heap.size+1+1+1+1) #[.int .i64 (-1)] 3:=((Oth.set (w.heap.size+1+1+1) 0 (.int .i64 (-1)) W).blk U i4).set 0 (.int .i64 (-1))
  have me:=Qmi U (Qmi U ie (Oth.set (w.heap.size+1+1+1) 0 (.int .i64 (-1)) W)) (Oth.set (w.heap.size+1+1+1+1) 0 (.int .i64 (-1)) _)
  have hKD':=((Oth.set (w.heap.size+1+1+1+1) 0 (.int .i64 (-1)) (W.setCell ⟨w.heap.size+1+1+1,0,none⟩ (.int .i64 (-1)))).same D U).trans (((Oth.set (w.heap.size+1+1+1) 0 (.int .i64 (-1)) W).same D U).trans hKD)
  have u3:=m3.own (grownBy_putObj' _ D (.deferred none)) (B:=W0.heap.size) (fun r e=>by cases e;exact⟨hD,_,hKD',rfl⟩)
  have u4:=m4.own (grownBy_putObj' _ D (.deferred none)) (B:=W0.heap.size) (fun r e=>by cases e;exact⟨hD,_,hKD',rfl⟩)
  have ue:=Qpu (B:=W0.heap.size) U me (grownBy_putObj' _ D (.deferred none)) (fun r e=>by cases e;exact⟨hD,_,hKD',rfl⟩)
  have y3:=u3.cell (j:=0) rfl
  have y4:=u4.cell (j:=0) rfl
  show bodyPostM _ _ _ _ _ Exit.ret _ _
  refine⟨Ob,.inl ⟨_,_,rfl,run_takeDeferred hKD',?_⟩⟩
  refine⟨.tuple #[.int .i64 (-1),.int .i64 (-1)],?_,by rw[iB hp',iB hp'],ue⟩
  simp[results,Tryz.f451,go_sem,y3,y4]
 case stop=>
  rintro D c pre W hD rfl ⟨rfl,hno,i3,i4,ie⟩ hKD
  gi_wp2
  have m3:=i3
  have m4:=i4
  have me:=ie
  have hKD':=hKD
  have u3:=m3.own (grownBy_putObj' _ D (.deferred none)) (B:=W0.heap.size) (fun r e=>by cases e;exact⟨hD,_,hKD',rfl⟩)
  have u4:=m4.own (grownBy_putObj' _ D (.deferred none)) (B:=W0.heap.size) (fun r e=>by cases e;exact⟨hD,_,hKD',rfl⟩)
  have ue:=Qpu (B:=W0.heap.size) U me (grownBy_putObj' _ D (.deferred none)) (fun r e=>by cases e;exact⟨hD,_,hKD',rfl⟩)
  have y3:=u3.cell (j:=0) rfl
  have y4:=u4.cell (j:=0) rfl
  show bodyPostM _ _ _ _ _ Exit.ret _ _
  refine⟨Ob,.inl ⟨_,_,rfl,run_takeDeferred hKD',?_⟩⟩
  refine⟨.tuple #[.int .i64 0,.int .i64 p],?_,by rw[iA hno,iA hno],ue⟩
  simp[results,Tryz.f451,go_sem,y3,y4]
def QrW(h:AV.Rs ρ H M W (.p x::xs) us):∃u us',us=u::us'/\PV.R M W x u/\AV.Rs ρ H M W xs us':=by
 simp only[AV.Rs]at h
 obtain⟨u,us',h1,h2,h3,h4⟩:=h
 simp only[AV.R]at h3
 exact⟨u,us',h1,h3,h4⟩
def Qad(h:PV.R M W x u)(hs:AV.Rs ρ H M W xs us):AV.Rs ρ H M W (.p x::xs) (u::us):=by
 simp only[AV.Rs,AV.R]
 exact⟨u,us,rfl,h.flat,h,hs⟩
def Qdl(h:PV.Cells M W b off (x::xs)):∃u,W.cell? ⟨b,off,none⟩=some u/\PV.R M W x u/\PV.Cells M W b (off+1) xs:=by
 simp only[PV.Cells]at h
 obtain⟨⟨u,h1,h2⟩,h3⟩:=h
 exact⟨u,h1,h2,h3⟩
noncomputable section
def XD(fu:Nat)(p0:D.Fq)(p1:D.c)(p2:Int):I (Int×Int):=
 match p1.Fi with
 |[l]=>V (Wq fu p0 l p2) fun p=>J (decide (p<0)) (some (-1,-1)) (V (QaC fu p1 p p2) fun a=>J a (some (-1,-1)) (some (0,p)))
 |_=>none
def Qno(fu:Nat):Sig:=Ql [.st .Fq,.st .c,.one (.TZ .i64)] [] [.one (.TZ .i64),.one (.TZ .i64)] [] [] (Int×Int) (fun q=>((q.1,q.2,()),())) (fun x y=>XD fu x.1 x.2.1 x.2.2.1)
def QsA(h:WH P k args [] v [])(hG:AM.Ground G w (fun b=>∃n o,AM.C n ([]:Y (Name×AO))=some o/\(ρ n).blk=some b))(hM:∀b,M b->b<w.heap.size)(hx:Ext (fun _=>False) w W)(ha:AV.Ts ρ (XV []) M W args us):
  Calls P k us.toArray W fun e W'=>∃u,e=.returned u/\(∃ρ' M',v.R ρ' (XV []) M' W' u)/\Ext (fun _=>False) W W':=by
 refine(h G ρ M W us ⟨hG.laid,AX hG.size hx.size,fun b hb=>(hx.same b (BF hb hG.size) id).trans (hG.same b hb),hG.out⟩ (fun b hb=>BF (hM b hb) hx.size) ha (fun n o hn=>by simp[AM.C]at hn) (fun n m o o' b hn=>by simp[AM.C]at hn)).mono ?_
 rintro e W' ⟨u,v',h',ρ',rfl,⟨rfl,rfl⟩,hA⟩
 exact⟨u,rfl,⟨ρ',_,hA.val⟩,hA.ext.weaken fun b _ hb=>by obtain⟨n,o,hn,_⟩:=hb;simp[AM.C]at hn⟩
def Qk9(fu):FnOK Tryz.prog 451 (Qno fu):=by
 refine⟨fun R x y K r h=>?_,fun x y a b h L0 _=>⟨L0,fun _ _=>rfl,fun n t l v hn=>by change AM.C n []=_ at hn;simp[AM.C]at hn,?_⟩⟩
 .obtain⟨v,s,t,⟨⟩⟩:=x
  obtain⟨q,hq,h⟩:=Y4 h
  change XD fu v s t=some q at hq
  refine⟨(q.1,q.2,()),(),?_,h⟩
  show V (XD fu v s t) (fun q=>some ((q.1,q.2,()),()))=_
  rw[hq];rfl
 .obtain⟨v,s,t,⟨⟩⟩:=x
  obtain⟨q,hq,hab⟩:=Y4 h
  change XD fu v s t=some q at hq
  have hab':((q.1,q.2,()),())=(a,b):=Be hab
  obtain⟨rfl,rfl⟩:=C5 hab'
  unfold XD at hq
  split at hq
  case h_2=>simp at hq
  rename_i l hl
  obtain⟨p,hp,hq⟩:=Y4 hq
  obtain⟨_,_,_,sP⟩:=(QhU fu).spec (v,l,t,()) () (p,()) () (by show V (Wq fu v l t) _=_;rw[hp];rfl) L0 (fun n t l v hn=>by change AM.C n []=_ at hn;simp[AM.C]at hn)
  have hA:0<=p->∃aw,QaC fu s p t=some aw/\q=if aw=true then(-1,-1)else(0,p):=fun h0=>by
   rw[QkT U]at hq
   obtain⟨aw,h1,h2⟩:=Y4 hq
   refine⟨aw,h1,?_⟩
   cases aw<;>simpa [J]using h2.symm
  obtain⟨aw,haw,hqa⟩:∃aw:AH,(0<=p->QaC fu s p t=some aw)/\q=if p<0\/aw=true then(-1,-1)else(0,p):=by
   by_cases h0:p<0
   .rw[QfE h0]at hq
    exact⟨true,fun h=>U,by rw[iB (.inl h0)];exact(Be hq).symm⟩
   .obtain⟨aw,h1,h2⟩:=hA U
    refine⟨aw,fun _=>h1,?_⟩
    rw[h2]
    cases aw<;>simp[h0]
  intro G ρ M w us hG hM hargs _ _
  change AV.Ts ρ (XV []) M w [.agg [.p (.sl false 3 (v.E.FF.map D.p.cells)),.p (.sl false 6 (v.E.k.map D.Q.cells)),.p (.sl false 3 (v.E.n.map D.m.cells)),.p (.sl false 3 (v.E.f.map D.c.cells)),.p (.sl false 2 (v.tables.map D.Fd.cells))],.agg [.p (.v (.string s.Name)),.p (.sl false 10 (s.Fi.map D.w.cells)),.p (.sl false 5 (s.FS.map D.r.cells))],.p (.v (.int .i64 t))] us at hargs
  simp only[AV.Ts,AV.R]at hargs
  obtain⟨u1,us1,rfl,⟨cs1,rfl,r1⟩,u2,us2,rfl,⟨cs2,rfl,r2⟩,u3,us3,rfl,r3,rfl⟩:=hargs
  have r1':=r1
  have r2':=r2
  obtain⟨v1,w1,e1,x1,r1⟩:=QrW r1
  obtain⟨v2,w2,rfl,x2,r1⟩:=QrW r1
  obtain⟨v3,w3,rfl,x3,r1⟩:=QrW r1
  obtain⟨v4,w4,rfl,x4,r1⟩:=QrW r1
  obtain⟨v5,w5,rfl,x5,r1⟩:=QrW r1
  simp only[AV.Rs]at r1
  subst r1
  obtain⟨s1,z1,e2,y1,r2⟩:=QrW r2
  obtain⟨s2,z2,rfl,y2,r2⟩:=QrW r2
  obtain⟨s3,z3,rfl,y3,r2⟩:=QrW r2
  simp only[AV.Rs]at r2
  subst r2
  have e1':cs1=#[v1,v2,v3,v4,v5]:=by cases cs1;simpa using e1
  have e2':cs2=#[s1,s2,s3]:=by cases cs2;simpa using e2
  subst e1'
  subst e2'
  simp only[PV.R]at r3
  obtain⟨rfl,_⟩:=r3
  rw[hl]at y2
  have y2':=y2
  simp only[PV.R,AR,Ak,Ab,Am]at y2
  obtain⟨ad,cap,rfl,hcap,_,hn,hrows⟩:=y2
  cases ad with
  |none=>have:=hn rfl;omega
  |some ad=>
   obtain⟨hsp,hMb,hlt,hrow⟩:=hrows ad rfl U
   obtain⟨bb,off,sp⟩:=ad
   dsimp only at hsp hMb hlt hrow
   subst hsp
   simp only[PV.Rows]at hrow
   obtain⟨_,hc,_⟩:=hrow
   change PV.Cells M w bb off [.v (.string l.Name),.v (.int .i64 l.p),.v (.int .i64 l.R.Fl),.v (.int .i64 l.R.FU),.v (.int .i64 l.Unit),.v (.int .i64 l.FI),.sl false 1 (l.s.map D.cInt),.sl false 2 (l.Fk.map D.FA.cells),.v (.int .i64 l.m),.v (.int .i64 l.F0)]at hc
   obtain⟨l1,c1,m1,hc⟩:=Qdl hc
   obtain⟨l2,c2,m2,hc⟩:=Qdl hc
   obtain⟨l3,c3,m3,hc⟩:=Qdl hc
   obtain⟨l4,c4,m4,hc⟩:=Qdl hc
   obtain⟨l5,c5,m5,hc⟩:=Qdl hc
   obtain⟨l6,c6,m6,hc⟩:=Qdl hc
   obtain⟨l7,c7,m7,hc⟩:=Qdl hc
   obtain⟨l8,c8,m8,hc⟩:=Qdl hc
   obtain⟨l9,c9,m9,hc⟩:=Qdl hc
   obtain⟨l10,c10,m10,hc⟩:=Qdl hc
   have hx0:∀{W:AG},Ext (fun _=>False) w W->∀{x:PV} {u:AE},x.R M w u->x.R M W u:=fun hx=>fun h=>PV.R.mono hx (fun _ h=>h.elim) (fun _ _ h=>h) h
   have key:=QC4 3 U v1 v2 v3 v4 v5 s1 s3 bb off cap t l1 l2 l3 l4 l5 l6 l7 l8 l9 l10 w hlt c1 c2 c3 c4 c5 c6 c7 c8 c9 c10 m1.flat m2.flat m3.flat m4.flat m5.flat m6.flat m7.flat m8.flat m9.flat m10.flat p
    (fun W hx=>(QsA sP hG hM hx (us:=[.agg #[v1,v2,v3,v4,v5],.agg #[l1,l2,l3,l4,l5,l6,l7,l8,l9,l10],.int .i64 t]) (by
     change AV.Ts ρ (XV []) M W [.agg [.p (.sl false 3 (v.E.FF.map D.p.cells)),.p (.sl false 6 (v.E.k.map D.Q.cells)),.p (.sl false 3 (v.E.n.map D.m.cells)),.p (.sl false 3 (v.E.f.map D.c.cells)),.p (.sl false 2 (v.tables.map D.Fd.cells))],.agg [.p (.v (.string l.Name)),.p (.v (.int .i64 l.p)),.p (.v (.int .i64 l.R.Fl)),.p (.v (.int .i64 l.R.FU)),.p (.v (.int .i64 l.Unit)),.p (.v (.int .i64 l.FI)),.p (.sl false 1 (l.s.map D.cInt)),.p (.sl false 2 (l.Fk.map D.FA.cells)),.p (.v (.int .i64 l.m)),.p (.v (.int .i64 l.F0))],.p (.v (.int .i64 t))] _
     simp only[AV.Ts,AV.R]
     exact⟨_,_,rfl,⟨_,rfl,Qad (hx0 hx x1) (Qad (hx0 hx x2) (Qad (hx0 hx x3) (Qad (hx0 hx x4) (Qad (hx0 hx x5) (by simp only[AV.Rs])))))⟩,_,_,rfl,⟨_,rfl,Qad (hx0 hx m1) (Qad (hx0 hx m2) (Qad (hx0 hx m3) (Qad (hx0 hx m4) (Qad (hx0 hx m5) (Qad (hx0 hx m6) (Qad (hx0 hx m7) (Qad (hx0 hx m8) (Qad (hx0 hx m9) (Qad (hx0 hx m10) (by simp only[AV.Rs]))))))))))⟩,_,_,rfl,by simp only[PV.R];exact⟨trivial,rfl⟩,rfl⟩)).mono (by
      rintro e W' ⟨u,rfl,⟨ρ',M',hu⟩,hx'⟩
      change PV.R M' W' (.v (.int .i64 p)) u at hu
      simp only[PV.R]at hu
      exact⟨by rw[hu.1],hx'⟩))
    aw (fun h0 W hx=>by
     obtain⟨_,_,_,sA⟩:=(QqH fu).spec (s,p,t,()) () (aw,()) () (by show V (QaC fu s p t) _=_;rw[haw h0];rfl) L0 (fun n t l v hn=>by change AM.C n []=_ at hn;simp[AM.C]at hn)
     refine(QsA sA hG hM hx (us:=[.agg #[s1,.slice (some ⟨bb,off,none⟩) 1 cap,s3],.int .i64 p,.int .i64 t]) (by
      change AV.Ts ρ (XV []) M W [.agg [.p (.v (.string s.Name)),.p (.sl false 10 (s.Fi.map D.w.cells)),.p (.sl false 5 (s.FS.map D.r.cells))],.p (.v (.int .i64 p)),.p (.v (.int .i64 t))] _
      simp only[AV.Ts,AV.R]
      exact⟨_,_,rfl,⟨_,rfl,Qad (hx0 hx y1) (Qad (by rw[hl];exact hx0 hx y2') (Qad (hx0 hx y3) (by simp only[AV.Rs])))⟩,_,_,rfl,by simp only[PV.R];exact⟨trivial,rfl⟩,_,_,rfl,by simp only[PV.R];exact⟨trivial,rfl⟩,rfl⟩)).mono ?_
     rintro e W' ⟨u,rfl,⟨ρ',M',hu⟩,hx'⟩
     change PV.R M' W' (.v (.bool aw)) u at hu
     simp only[PV.R]at hu
     exact⟨by rw[hu.1],hx'⟩)
   refine(callsIn_wide.1 key).mono ?_
   rintro e w' ⟨rfl,hx⟩
   refine⟨_,_,[],ρ,rfl,⟨rfl,rfl⟩,?_,fun n o hn=>?_,fun n m o o' b hn=>?_,fun n o b hn=>?_,hx.weaken fun b _ hb=>hb.elim,fun n o hn=>?_⟩
   case refine_2=>change AM.C n []=_ at hn;simp[AM.C]at hn
   case refine_3=>change AM.C n []=_ at hn;simp[AM.C]at hn
   case refine_4=>change AM.C n []=_ at hn;simp[AM.C]at hn
   case refine_5=>change AM.C n []=_ at hn;simp[AM.C]at hn
   show AV.R ρ (XV []) _ w' (.tup [.p (.v (.int .i64 q.1)),.p (.v (.int .i64 q.2))]) _
   simp only[AV.R,AV.Ts,PV.R]
   refine⟨_,rfl,_,_,rfl,⟨?_,rfl⟩,_,_,rfl,⟨?_,rfl⟩,rfl⟩
   .rw[hqa];split<;>rfl
   .rw[hqa];split<;>rfl
end
end
open Go AM IntKind
noncomputable section
open fk Tryz
variable (u:Nat)
def Qh2(u:Nat)(a:Int):I AH:=cd (97<=a) (cd (a<=122) sT sF) sF
def QnL:o 253 (s [.one (.TZ .u8)] [h] (Qh2 u)):=f u g t func253
def Qmv(u:Nat)(a:Int):I AH:=cd (48<=a) (cd (a<=57) sT sF) sF
def QnK:o 254 (s [.one (.TZ .u8)] [h] (Qmv u)):=f u g t func254
def Qb3(c:AJ):I AH:=TG (fun((i,_),_)=>Qe (fun n ((a,e,b,_),_)=>cd (b<e) (TG (fun((o,p,q,_),_)=>n ((o,p,(X (q+1)),()),())) fun g=>TK b fun f=>TP f (ByteArray.size a) (V (Qh2 u (((bAt a f):Nat):Int)) fun j=>J j (g ((a,e,b,()),())) (V (Qmv u (((bAt a f):Nat):Int)) fun k=>J k (g ((a,e,b,()),())) (cd ((((bAt a f):Nat):Int)≠95) (cd ((((bAt a f):Nat):Int)≠45) sF (g ((a,e,b,()),()))) (g ((a,e,b,()),())))))) sT) u ((i,(((ByteArray.size i):Nat):Int),0,()),())) fun l=>cd (c=(ByteArray.mk (List.toArray []))) sF (cd (24<(((ByteArray.size c):Nat):Int)) sF (TK 0 fun h=>TP h (ByteArray.size c) (V (Qh2 u (((bAt c h):Nat):Int)) fun m=>J m (l ((c,()),())) sF)))
def Qes:o 173 (s [tx] [h] (Qb3 u)):=f u (c g (c (j [.s 0 tx] g) (m [.s 0 tx,.n 19,.n 20] (n 2 (c (j [.s 0 tx,.n 19,.n 20] g) g))))) (e (QnL u) (e (QnK u) t)) func173
def Xs(b:AJ)(a:Y (AJ×AH)):I (Int×Y (AJ×AH)):=V (Qb3 u b) fun c=>J (!c) (some (2,a)) (J (memB b a) (some (4,a)) (chk (cntB b a) 0 (some (0,(a++[(b,true)])))))
def Vd:o 243 (Ql [tx,.one (.mref 101)] [(101,.sm)] [d] [(101,.sm)] [] (Int×Y (AJ×AH)) kz15 (fun x y=>Xs u x.1 y.1)):=i u g kz17 (e (Qes u) t) func243
def Yr(u:Nat)(a:Int)(b:Int):I AH:=cd (0<=a) (cd (a<b) sT sF) sF
def Ws:o 315 (s [d,d] [h] (Yr u)):=f u g t func315
def Qei(c:Y D.FA):I Int:=cd (14<(c.length:Int)) (some 5) (Qe (fun j ((e,f,g,b,_),_)=>cd (b<g) (TG (fun((k,l,m,n,_),_)=>j ((k,l,m,(X (n+1)),()),())) fun h=>TM f b fun a=>cd (a.v<0) (some 1) (cd (a.To<=a.v) (some 1) (cd (604800<a.To) (some 1) (cd (0<b) (TM e (X (b - 1)) fun i=>cd (a.v<i.To) (some 6) (h ((e,f,g,b,()),()))) (h ((e,f,g,b,()),())))))) (some 0)) u ((c,c,(c.length:Int),0,()),()))
def QjF:o 316 (s [l .FA] [d] (Qei u)):=f u (n 2 (m [.l 0 .FA,.l 8 .FA,.n 9,.n 10] (n 2 (c (j [.l 0 .FA,.l 8 .FA,.n 9,.n 10] g) g)))) t func316
def Uh(u:Nat)(a:Int)(b:Int)(c:Int):I AH:=cd (b<=a) (cd (a<=c) sT sF) sF
def QeR:o 347 (s [d,d,d] [h] (Uh u)):=f u g t func347
def QbZ(a:Int):I AH:=V (Uh u a 0 604800) fun b=>J b (nzc 3600 (cd ((Int.tmod a 3600)=0) sT sF)) sF
def Qk8:o 317 (s [d] [h] (QbZ u)):=f u g (e (QeR u) t) func317
def Wi(b:D.E)(a:D.Q):I Int:=TG (fun(_,_)=>some 0) fun c=>V (Yr u a.p (b.FF.length:Int)) fun e=>J (!e) (some 3) (V (Qei u a.Fg) fun f=>cd (f≠0) (some 8) (V (QbZ u a.Fx) fun g=>J g (V (QbZ u a.Fy) fun h=>J h (c ((),())) (some 1)) (some 1)))
def Qfn:o 244 (s [tO,.st .Q] [d] (Wi u)):=f u (c g (c (j [] g) g)) (e (Ws u) (e (QjF u) (e (Qk8 u) t))) func244
def Qgn(u:Nat)(a:D.p):I AJ:=some a.Name
def Qjv:o 241 (s [t7] [tx] (Qgn u)):=f u g t func241
def Qdz(u:Nat)(a:Int)(b:Int)(c:Int):I AH:=cd (b<=a) (cd (a<=c) sT sF) sF
def Qkt:o 363 (s [d,d,d] [h] (Qdz u)):=f u g t func363
def QsO(a:D.FG):I Int:=TG (fun(_,_)=>some 0) fun b=>V (Qdz u a.v 1970 2240) fun c=>J c (V (Qdz u a.To a.v 2240) fun e=>J e (V (Qdz u a.Fw 1 12) fun f=>J f (V (Qdz u a.F4 1 5) fun g=>J g (V (Qdz u a.F2 0 6) fun h=>J h (V (Qdz u a.FU 0 86399) fun i=>J i (V (Qdz u a.FT (-64800) 64800) fun j=>J j (b ((),())) (some 1)) (some 1)) (some 1)) (some 1)) (some 1)) (some 1)) (some 1)
def QsP:o 378 (s [.st .FG] [d] (QsO u)):=f u (c g (c (j [] g) g)) (e (Qkt u) t) func378
def Qom(u:Nat)(a:Int):I AH:=nzc 4 (cd ((Int.tmod a 4)=0) (nzc 100 (cd ((Int.tmod a 100)≠0) sT (nzc 400 (cd ((Int.tmod a 400)=0) sT sF)))) sF)
def Qpi:o 383 (s [d] [h] (Qom u)):=f u g t func383
def Qb2(m:Int)(c:Int):I Int:=TG (fun((n,e,_),_)=>TG (fun((a,_),(o,p,q,r,s,t,v,f,g,h,i,j,_),_)=>cd ((X (a - 1))=((0:Nat):Int)) (some o) (cd ((X (a - 1))=(((0+1):Nat):Int)) (some p) (cd ((X (a - 1))=((((0+1)+1):Nat):Int)) (some q) (cd ((X (a - 1))=(((((0+1)+1)+1):Nat):Int)) (some r) (cd ((X (a - 1))=((((((0+1)+1)+1)+1):Nat):Int)) (some s) (cd ((X (a - 1))=(((((((0+1)+1)+1)+1)+1):Nat):Int)) (some t) (cd ((X (a - 1))=((((((((0+1)+1)+1)+1)+1)+1):Nat):Int)) (some v) (cd ((X (a - 1))=(((((((((0+1)+1)+1)+1)+1)+1)+1):Nat):Int)) (some f) (cd ((X (a - 1))=((((((((((0+1)+1)+1)+1)+1)+1)+1)+1):Nat):Int)) (some g) (cd ((X (a - 1))=(((((((((((0+1)+1)+1)+1)+1)+1)+1)+1)+1):Nat):Int)) (some h) (cd ((X (a - 1))=((((((((((((0+1)+1)+1)+1)+1)+1)+1)+1)+1)+1):Nat):Int)) (some i) (cd ((X (a - 1))=(((((((((((((0+1)+1)+1)+1)+1)+1)+1)+1)+1)+1)+1):Nat):Int)) (some j) none)))))))))))) fun b=>cd (e=2) (V (Qom u n) fun k=>J k (some 29) (b ((e,()),(31,28,31,30,31,30,31,31,30,31,30,31,()),()))) (b ((e,()),(31,28,31,30,31,30,31,31,30,31,30,31,()),()))) fun l=>cd (c<1) (some 0) (cd (12<c) (some 0) (l ((m,c,()),())))
def QbA:o 366 (s [d,d] [d] (Qb2 u)):=f u (c g (c (j [.n 0,.n 1] g) (c g (c (j [.n 1,.s 5 (.one (.TN 1005))] g [(1005,.box [v,v,v,v,v,v,v,v,v,v,v,v])]) g)))) (e (Qpi u) t) func366
def Ql0(a:D.Fr):I AH:=cd (1970<=a.F3) (cd (a.F3<=2240) (cd (1<=a.Fl) (V (Qb2 u a.F3 a.Fw) fun b=>cd (a.Fl<=b) sT sF) sF) sF) sF
def QnH:o 406 (s [.st .Fr] [h] (Ql0 u)):=f u g (e (QbA u) t) func406
def Qcg(u:Nat)(b:Int)(a:Int):I Int:=nzc a (TG (fun((e,_),_)=>some e) fun c=>nzc a (cd ((Int.tmod b a)<0) (c (((X ((X (Int.tdiv b a)) - 1)),()),())) (c (((X (Int.tdiv b a)),()),()))))
def Qhv:o 382 (s [d,d] [d] (Qcg u)):=f u (n 2 (c (j [.n 5] g) g)) t func382
def Qal(a:Int):I Int:=V (Qcg u (X (a - 1)) 4) fun b=>V (Qcg u (X (a - 1)) 100) fun c=>V (Qcg u (X (a - 1)) 400) fun e=>some (X ((X ((X ((X ((X (365*(X (a - 1970))))+b)) - c))+e)) - 477))
def Qdm:o 364 (s [d] [d] (Qal u)):=f u g (e (Qhv u) t) func364
def Qkz(a:D.Fr):I Int:=V (Qal u a.F3) fun f=>Qe (fun g ((e,b,_),c,_)=>cd (b<c.Fw) (V (Qb2 u c.F3 b) fun h=>g (((X (e+h)),(X (b+1)),()),c,())) (some e)) u (((X ((X (f+a.Fl)) - 1)),1,()),a,())
def Ql1:o 407 (s [.st .Fr] [d] (Qkz u)):=f u (n 2 (m [.r 1 .Fr,.n 3,.n 4] g)) (e (Qdm u) (e (QbA u) t)) func407
def Qq9(b:Int)(c:Int)(e:Int)(f:Int):I (Int×Int):=TG (fun((m,n,g,h,_),o,_)=>V (Qkz u o) fun a=>V (QbB u a) fun i=>nzc 7 (TG (fun((p,_),_)=>some (p,0)) fun j=>V (Qb2 u m n) fun q=>cd ((X (a+q))<=(X ((X (a+(Int.tmod (X ((X (h - i))+7)) 7)))+(X (7*(X (g - 1))))))) (j (((X ((X ((X (a+(Int.tmod (X ((X (h - i))+7)) 7)))+(X (7*(X (g - 1)))))) - 7)),()),())) (j (((X ((X (a+(Int.tmod (X ((X (h - i))+7)) 7)))+(X (7*(X (g - 1)))))),()),())))) fun k=>V (Ql0 u (D.Fr.mk b c 1)) fun l=>J l (cd (e<1) (some (0,1)) (cd (5<e) (some (0,1)) (cd (f<0) (some (0,1)) (cd (6<f) (some (0,1)) (k ((b,c,e,f,()),(D.Fr.mk b c 1),())))))) (some (0,1))
def Qra:o 379 (s [d,d,d,d] [d,d] (Qq9 u)):=f u (n 2 (c (j [.n 0,.n 1,.n 2,.n 3,.r 10 .Fr] g) (n 2 (c (j [.n 12] g) g)))) (e (QbA u) (e (QnH u) (e (Ql1 u) (e (Qe6 u) t)))) func379
def Qdj(u:Nat)(a:D.occurrence)(b:D.occurrence):I Int:=some (X (a.local_ - b.local_))
def QgC:o 381 (s [.st .occurrence,.st .occurrence] [d] (Qdj u)):=f u g t func381
def Qx(G:Y D.occurrence)(q:Int)(H:Int):I (Y D.occurrence):=Qe (fun zE ((zG,r,p,_),s,_)=>cd (p<r) (TG (fun((L,zD,zI,_),W,_)=>zE ((L,zD,(X (zI+1)),()),W,())) fun t=>Qe (fun v ((f,h,i,g,_),b,_)=>TG (fun((w,y,z,c,_),a,_)=>TK (X (c - 1)) fun l=>TP l a.length (V a[l]? fun j=>TK c fun m=>TP m a.length (V a[m]? fun A=>TK c fun e=>TP e a.length (V a[e]? fun Z=>TK (X (c - 1)) fun k=>TP k (List.set a e j).length (V (GetElem?.getElem? (List.set a e j) k) fun a0=>v ((w,y,z,(X (c - 1)),()),(List.set (List.set a e j) k A),())))))) fun B=>cd (f<g) (TK g fun n=>TP n b.length (V b[n]? fun zH=>TK (X (g - 1)) fun o=>TP o b.length (V b[o]? fun E=>V (Qdj u zH E) fun F=>cd (F<0) (B ((f,h,i,g,()),b,())) (t ((f,h,i,()),b,()))))) (t ((f,h,i,()),b,()))) u ((zG,r,p,p,()),s,())) (some s)) u ((q,H,(X (q+1)),()),G,())
def ZY:o 428 (Ql [.one (.own 101),d,d,.one (.fv 381)] [p 101 .occurrence] [] [(101,.arrs .occurrence)] [] (Y D.occurrence) kz5 (fun x y=>Qx u y.1 x.1 x.2.1)):=i u (c g (.one (k [.o 0 101 .occurrence,.n 1,.n 2,.s 3 (.one (.fv 381)),.n 8] (c g (c (j [.o 0 101 .occurrence,.n 1,.n 2,.s 3 (.one (.fv 381)),.n 8] (.one (c g (.one (k [.o 0 101 .occurrence,.n 1,.n 2,.s 3 (.one (.fv 381)),.n 8,.n 9] (c (j [.o 0 101 .occurrence,.n 1,.n 2,.s 3 (.one (.fv 381)),.n 8,.n 9] g) g)))))) g))))) kz8 (e (QgC u) t) func428
def Zj(q:Y D.occurrence)(r:Int):I (Y D.occurrence):=Qe (fun s ((c,i,j,e,_),f,_)=>cd (e<=c) (V (Qx u f j e) fun k=>chk k.length f.length (s ((c,i,e,(X (e+i)),()),k,()))) (V (Qx u f j c) fun l=>chk l.length f.length (Qe (fun t ((m,a,_),g,_)=>cd (a<m) (Qe (fun v ((b,h,n,o,_),p,_)=>cd (o<=b) none (cd ((X (n+h))<b) none (t ((b,(X (h*2)),()),p,())))) u ((m,a,0,(X (2*a)),()),g,())) (some g)) u ((c,i,()),l,())))) u ((r,20,0,20,()),q,())
def Yz:o 409 (Ql [.one (.own 101),d,.one (.fv 381)] [p 101 .occurrence] [] [(101,.arrs .occurrence)] [] (Y D.occurrence) kz5 (fun x y=>Zj u y.1 x.1)):=i u (n 2 (c (.one (k [.o 0 101 .occurrence,.n 1,.s 2 (.one (.fv 381)),.n 6,.n 7,.n 8] g)) (c g (.one (k [.o 0 101 .occurrence,.n 1,.s 2 (.one (.fv 381)),.n 6] (c g (.one (c g (c (.one (k [.o 0 101 .occurrence,.n 1,.s 2 (.one (.fv 381)),.n 6,.n 7,.n 8] g)) g))))))))) kz8 (e (ZY u) t) func409
def Zf(a:Y D.occurrence):I (Y D.occurrence):=V (Zj u a (a.length:Int)) fun b=>chk b.length a.length (some b)
def Ys:o 380 (Ql [.one (.own 101),.one (.fv 381)] [p 101 .occurrence] [] [(101,.arrs .occurrence)] [] (Y D.occurrence) kz5 (fun x y=>Zf u y.1)):=i u g kz8 (e (Yz u) t) func380
def Qfh(b:D.p):I (Y D.occurrence×Int):=V (Qdz u b.FT (-64800) 64800) fun z=>J (!z) (some ([],1)) (cd (16<(b.Fo.length:Int)) (some ([],5)) (Qe (fun A ((s,t,v,p,_),q,_)=>cd (p<v) (TM t p fun r=>V (QsO u r) fun w=>cd (w≠0) (some ([],w)) (A (((X (s+(X ((X (r.To - r.v))+1)))),t,v,(X (p+1)),()),q,()))) (cd (640<s) (some ([],5)) (Qe (fun B ((h,i,c,_),e,_)=>cd (c<i) (TM h c fun j=>Qe (fun y ((f,k,l,m,_),a,g,_)=>cd (f<=a.To) (V (Qq9 u f a.Fw a.F4 a.F2) fun(n,zH)=>TO (g.length+[(D.occurrence.mk (X ((X (n*86400))+a.FU)) a.FT)].length) 34359738368 (y (((X (f+1)),k,l,m,()),a,(g++[(D.occurrence.mk (X ((X (n*86400))+a.FU)) a.FT)]),()))) (B ((k,l,(X (m+1)),()),g,()))) u ((j.v,h,i,c,()),j,e,())) (V (Zf u e) fun o=>chk o.length e.length (some (o,0)))) u ((q.Fo,(q.Fo.length:Int),0,()),[],())))) u ((0,b.Fo,(b.Fo.length:Int),0,()),b,())))
def Qiy:o 362 (s [t7] [l .occurrence,d] (Qfh u)):=f u (n 4 (c (c g (.one (k [.r 1 .p,.n 4,.l 23 .FG,.n 24,.n 25] g))) (n 2 (m [.o 8 1081 .occurrence,.l 46 .FG,.n 47,.n 48] (n 2 (c (.one (n 2 (.one (.loop [(8,.one (.own 1081)),r 10,G 11,li 46 .FG,G 47,G 48] [w 1010 .FG,p 1081 .occurrence] g)))) g)))))) (e (Qkt u) (e (QsP u) (e (Qra u) (e (Ys u) t)))) func362
def Qbp(n:D.p):I (Y D.FH×Int):=V (Qfh u n) fun(o,p)=>cd (p≠0) (some ([],p)) (Qe (fun A ((b,g,h,e,_),c,_)=>cd (e<h) (TG (fun((B,zH,q,r,_),s,_)=>A ((B,zH,q,(X (r+1)),()),s,())) fun i=>TM g e fun a=>cd (a.offset=b) (i ((b,g,h,e,()),c,())) (TG (fun((j,t,v,w,_),f,k,_)=>TO (k.length+[(D.FH.mk j f.offset)].length) 34359738368 (i ((f.offset,t,v,w,()),(k++[(D.FH.mk j f.offset)]),()))) fun l=>cd (86400<=(X (a.offset - b))) (some ([],6)) (cd ((X (a.offset - b))<=(-86400)) (some ([],6)) (V (Qdz u (X (a.local_ - b)) 0 8589934592) fun y=>J y (cd (0<(c.length:Int)) (TK (X ((c.length:Int) - 1)) fun m=>TP m c.length (V c[m]? fun z=>cd ((X (a.local_ - b))<(X (z.At+604800))) (some ([],6)) (l (((X (a.local_ - b)),g,h,e,()),a,c,())))) (l (((X (a.local_ - b)),g,h,e,()),a,c,()))) (some ([],6)))))) (some (c,0))) u ((n.FT,o,(o.length:Int),0,()),[],()))
def QcG:o 345 (s [t7] [l .FH,d] (Qbp u)):=f u (n 5 (m [.o 6 1074 .FH,.n 7,.l 22 .occurrence,.n 23,.n 24] (n 2 (c (j [.o 6 1074 .FH,.n 7,.l 22 .occurrence,.n 23,.n 24] (.one (n 3 (c (.TG [(6,.one (.own 1074)),r 9,G 10,li 22 .occurrence,G 23,G 24] [w 1009 .occurrence,p 1074 .FH] g) g)))) g)))) (e (Qiy u) (e (Qkt u) t)) func345
def Qo3(a:D.p):I Int:=V (Qbp u a) fun(c,b)=>some b
def QqQ:o 312 (s [t7] [d] (Qo3 u)):=f u g (e (QcG u) t) func312
def QcB(u:Nat)(a:D.FG):I AH:=nzc 60 (some (decide ((Int.tmod a.FT 60)≠0)))
def Qfo:o 314 (s [.st .FG] [h] (QcB u)):=f u g t func314
def ZJ(b:Y D.FG):I Int:=Qe (fun f ((c,e,a,_),_)=>cd (a<e) (TM c a fun g=>V (QcB u g) fun h=>J h (some a) (f ((c,e,(X (a+1)),()),()))) (some (-1))) u ((b,(b.length:Int),0,()),())
def Xe:o 346 (s [l .FG,.one (.fv 314)] [d] (ZJ u)):=f u (c g (m [.l 0 .FG,.s 1 (.one (.fv 314)),.n 7,.n 8] g)) (e (Qfo u) t) func346
def Zv(a:Y D.FG):I AH:=V (ZJ u a) fun b=>some (decide (0<=b))
def YT:o 313 (s [l .FG,.one (.fv 314)] [h] (Zv u)):=f u g (e (Xe u) t) func313
def Qd5(a:D.p):I Int:=TG (fun(_,_)=>some 0) fun b=>V (Qo3 u a) fun c=>cd (c≠0) (some 8) (nzc 60 (cd ((Int.tmod a.FT 60)≠0) (some 8) (V (Zv u a.Fo) fun e=>J e (some 8) (b ((),())))))
def Qhp:o 242 (s [t7] [d] (Qd5 u)):=f u (c g (c (j [] g) g)) (e (QqQ u) (e (YT u) t)) func242
def QD(b:Y D.p):I Int:=Qe (fun i ((c,e,a,_),j,_)=>cd (a<e) (TM c a fun f=>V (Qgn u f) fun k=>V (Xs u k j) fun(g,l)=>cd (g≠0) (some g) (V (Qd5 u f) fun h=>cd (h≠0) (some h) (i ((c,e,(X (a+1)),()),l,())))) (some 0)) u ((b,(b.length:Int),0,()),[],())
def Yl:o 240 (s [l .p,.one (.fv 241),.one (.fv 242)] [d] (QD u)):=f u (n 2 (m [.s 1 (.one (.fv 241)),.s 2 (.one (.fv 242)),.s 7 (.one (.mref 1012)),.l 13 .p,.n 14,.n 15] g [(1012,.sm)])) (e (Qjv u) (e (Qhp u) (e (Vd u) t))) func240
def Qgo(u:Nat)(a:D.m):I AJ:=some a.Name
def Qjw:o 246 (s [t19] [tx] (Qgo u)):=f u g t func246
def Qon(b:Int):I Int:=V (Qcg u b 366) fun e=>Qe (fun f ((c,a,_),_)=>V (Qal u (X (a+1))) fun g=>cd (g<=c) (f ((c,(X (a+1)),()),())) (some a)) u ((b,(X (1970+e)),()),())
def Qpj:o 365 (s [d] [d] (Qon u)):=f u (n 2 (c (.one (k [.n 0,.n 3] g)) g)) (e (Qdm u) (e (Qhv u) t)) func365
def Qky(b:Int):I (D.Fr×Int):=TG (fun((e,_),j,_)=>V (Qon u e) fun f=>V (Qal u f) fun k=>Qe (fun l ((c,_),m,a,_)=>V (Qb2 u a.F3 a.Fw) fun n=>cd (n<=c) (V (Qb2 u a.F3 a.Fw) fun o=>l (((X (c - o)),()),m,(D.Fr.mk a.F3 (X (a.Fw+1)) a.Fl),())) (some ((D.Fr.mk a.F3 a.Fw (X (c+1))),0))) u (((X (e - k)),()),j,(D.Fr.mk f 1 0),())) fun g=>V (Qal u 1970) fun h=>cd (b<h) (some (z12,1)) (V (Qal u 2241) fun i=>cd (i<=b) (some (z12,1)) (g ((b,()),z12,())))
def QlZ:o 348 (s [d] [.st .Fr,d] (Qky u)):=f u (c g (c (j [.n 0,.r 2 .Fr] g) (n 2 (c (.one (k [.r 2 .Fr,.r 4 .Fr,.n 5] g)) g)))) (e (Qdm u) (e (Qpj u) (e (QbA u) t))) func348
def XI(a:Int):I AH:=V (Qky u a) fun(c,b)=>some (decide (b=0))
def Qdw:o 319 (s [d] [h] (XI u)):=f u g (e (QlZ u) t) func319
def UW(a:Int):I AH:=V (XI u a) fun b=>some (!b)
def QcN:o 318 (s [d] [h] (UW u)):=f u g (e (Qdw u) t) func318
def ZQ(b:Y Int):I Int:=Qe (fun f ((c,e,a,_),_)=>cd (a<e) (TM c a fun g=>V (UW u g) fun h=>J h (some a) (f ((c,e,(X (a+1)),()),()))) (some (-1))) u ((b,(b.length:Int),0,()),())
def Xh:o 341 (s [lI,.one (.fv 318)] [d] (ZQ u)):=f u (c g (m [.s 0 lI,.s 1 (.one (.fv 318)),.n 7,.n 8] g)) (e (QcN u) t) func341
def ZE(a:Y Int):I AH:=V (ZQ u a) fun b=>some (decide (0<=b))
def YZ:o 307 (s [lI,.one (.fv 318)] [h] (ZE u)):=f u g (e (Xh u) t) func307
def Qa8(i:D.E)(b:D.m):I Int:=V (Yr u b.p (i.FF.length:Int)) fun j=>J (!j) (some 3) (cd (64<(b.F1.length:Int)) (some 5) (V (ZE u b.F1) fun k=>J k (some 1) (Qe (fun l ((e,a,_),c,_)=>cd (a<e) (TG (fun((m,n,_),o,_)=>l ((m,(X (n+1)),()),o,())) fun f=>cd (0<a) (TM c.F1 a fun g=>TM c.F1 (X (a - 1)) fun h=>cd (g<=h) (some 6) (f ((e,a,()),c,()))) (f ((e,a,()),c,()))) (some 0)) u (((b.F1.length:Int),0,()),b,()))))
def Qd3:o 248 (s [tO,t19] [d] (Qa8 u)):=f u (n 2 (m [.r 3 .m,.n 25,.n 26] (n 2 (c (j [.r 3 .m,.n 25,.n 26] g) g)))) (e (YZ u) (e (Ws u) t)) func248
def Qgp(b:D.m)(a:D.E):I Int:=V (Qa8 u a b) fun c=>TF a a (some c)
def Qjx:o 247 (Ql [t19,.one (.TN 101)] [w 101 .E] [d] [] [101] Int kz2 (fun x y=>Qgp u x.1 y.1)):=i u g kz4 (e (Qd3 u) t) func247
def Qo(e:Y D.m)(c101:D.E):I Int:=Qe (fun j ((f,g,c,_),a,k,_)=>cd (c<g) (TM f c fun h=>V (Qgo u h) fun l=>V (Xs u l k) fun(i,m)=>cd (i≠0) (TF a c101 (some i)) (V (Qgp u h a) fun b=>cd (b≠0) (TF a c101 (some b)) (j ((f,g,(X (c+1)),()),a,m,())))) (TF a c101 (some 0))) u ((e,(e.length:Int),0,()),c101,[],())
def Ye:o 245 (Ql [l .m,.one (.fv 246),.one (.clo 247 [101])] [w 101 .E] [d] [] [101] Int kz2 (fun x y=>Qo u x.1 y.1)):=i u (n 2 (m [.s 1 (.one (.fv 246)),.s 2 (.one (.clo 247 [101])),.s 7 (.one (.mref 1012)),.l 13 .m,.n 14,.n 15] g [w 101 .E,(1012,.sm)])) kz4 (e (Vd u) (e (Qjw u) (e (Qjx u) t))) func245
def UU(u:Nat)(a:D.c):I AJ:=some a.Name
def Qjy:o 250 (s [t11] [tx] (UU u)):=f u g t func250
def Z6(u:Nat)(a:D.w):I AJ:=some a.Name
def QcO:o 321 (s [t9] [tx] (Z6 u)):=f u g t func321
def XN(b:Int)(a:D.E):I AH:=V (Yr u b (a.k.length:Int)) fun c=>TF a a (some (!c))
def QeQ:o 349 (Ql [d,.one (.TN 101)] [w 101 .E] [h] [] [101] AH kz2 (fun x y=>XN u x.1 y.1)):=i u g kz4 (e (Ws u) t) func349
def QL(c:Y Int)(c101:D.E):I Int:=Qe (fun g ((e,f,a,_),b,_)=>cd (a<f) (TM e a fun h=>V (XN u h b) fun i=>J i (TF b c101 (some a)) (g ((e,f,(X (a+1)),()),b,()))) (TF b c101 (some (-1)))) u ((c,(c.length:Int),0,()),c101,())
def XM:o 341 (Ql [lI,.one (.clo 349 [101])] [w 101 .E] [d] [] [101] Int kz2 (fun x y=>QL u x.1 y.1)):=i u (c g (m [.s 0 lI,.s 1 (.one (.clo 349 [101])),.n 7,.n 8] g [w 101 .E])) kz4 (e (QeQ u) t) func341
def QC(a:Y Int)(c101:D.E):I AH:=V (QL u a c101) fun b=>TF c101 c101 (some (decide (0<=b)))
def Xf:o 307 (Ql [lI,.one (.clo 349 [101])] [w 101 .E] [h] [] [101] AH kz2 (fun x y=>QC u x.1 y.1)):=i u g kz4 (e (XM u) t) func307
def WL(c:D.E)(a:D.w):I Int:=TG (fun(_,_)=>some 0) fun b=>V (Yr u a.p (c.FF.length:Int)) fun e=>J (!e) (some 3) (cd (a.R.Fl<1) (some 1) (V (XI u a.R.Fl) fun f=>J f (V (Uh u a.R.FU 0 86399) fun g=>J g (V (Uh u a.Unit 0 2) fun h=>J h (V (Uh u a.FI 1 400) fun i=>J i (cd ((a.s.length:Int)=0) (some 7) (cd (12<(a.s.length:Int)) (some 5) (V (QC u a.s c) fun j=>J j (some 3) (V (Qei u a.Fk) fun k=>cd (k≠0) (some 8) (V (Uh u a.F0 0 2) fun l=>J (!l) (some 1) (cd (a.F0≠0) (V (Yr u a.m (c.n.length:Int)) fun m=>J m (cd (a.F0=0) (cd (a.m≠0) (some 1) (b ((),()))) (b ((),()))) (some 3)) (cd (a.F0=0) (cd (a.m≠0) (some 1) (b ((),()))) (b ((),()))))))))) (some 1)) (some 1)) (some 1)) (some 1)))
def Qgq:o 323 (s [tO,t9] [d] (WL u)):=f u (c g (c (j [] g) g)) (e (Xf u) (e (Ws u) (e (QjF u) (e (Qdw u) (e (QeR u) t))))) func323
def Z7(b:D.w)(a:D.E):I Int:=V (WL u a b) fun c=>TF a a (some c)
def QcP:o 322 (Ql [t9,.one (.TN 101)] [w 101 .E] [d] [] [101] Int kz2 (fun x y=>Z7 u x.1 y.1)):=i u g kz4 (e (Qgq u) t) func322
def Qk(e:Y D.w)(c101:D.E):I Int:=Qe (fun j ((f,g,c,_),a,k,_)=>cd (c<g) (TM f c fun h=>V (Z6 u h) fun l=>V (Xs u l k) fun(i,m)=>cd (i≠0) (TF a c101 (some i)) (V (Z7 u h a) fun b=>cd (b≠0) (TF a c101 (some b)) (j ((f,g,(X (c+1)),()),a,m,())))) (TF a c101 (some 0))) u ((e,(e.length:Int),0,()),c101,[],())
def Zu:o 320 (Ql [l .w,.one (.fv 321),.one (.clo 322 [101])] [w 101 .E] [d] [] [101] Int kz2 (fun x y=>Qk u x.1 y.1)):=i u (n 2 (m [.s 1 (.one (.fv 321)),.s 2 (.one (.clo 322 [101])),.s 7 (.one (.mref 1012)),.l 13 .w,.n 14,.n 15] g [w 101 .E,(1012,.sm)])) kz4 (e (Vd u) (e (QcO u) (e (QcP u) t))) func320
def Vo(f:D.E)(b:D.r):I Int:=TG (fun(_,_)=>some 0) fun e=>V (Uh u b.b 0 2) fun i=>J (!i) (some 1) (TG (fun((j,_),a,_)=>J j (some 3) (cd (a.b≠2) (cd (a.B≠0) (some 1) (cd (a.b=2) (cd (a.A=a.B) (some 4) (cd (a.v<0) (some 1) (cd (a.To<0) (some 1) (nzc 86400 (V (XI u (X (Int.tdiv a.To 86400))) fun k=>J k (cd (a.To<=a.v) (some 6) (e ((),()))) (some 1)))))) (cd (a.v<0) (some 1) (cd (a.To<0) (some 1) (nzc 86400 (V (XI u (X (Int.tdiv a.To 86400))) fun l=>J l (cd (a.To<=a.v) (some 6) (e ((),()))) (some 1))))))) (cd (a.b=2) (cd (a.A=a.B) (some 4) (cd (a.v<0) (some 1) (cd (a.To<0) (some 1) (nzc 86400 (V (XI u (X (Int.tdiv a.To 86400))) fun m=>J m (cd (a.To<=a.v) (some 6) (e ((),()))) (some 1)))))) (cd (a.v<0) (some 1) (cd (a.To<0) (some 1) (nzc 86400 (V (XI u (X (Int.tdiv a.To 86400))) fun n=>J n (cd (a.To<=a.v) (some 6) (e ((),()))) (some 1)))))))) fun c=>V (Yr u b.A (f.k.length:Int)) fun o=>J o (cd (b.b=2) (V (Yr u b.B (f.k.length:Int)) fun g=>J g (c ((false,()),b,())) (c ((true,()),b,()))) (c ((false,()),b,()))) (cd (b.b=1) (cd (b.A=(-1)) (cd (b.b=2) (V (Yr u b.B (f.k.length:Int)) fun h=>J h (c ((false,()),b,())) (c ((true,()),b,()))) (c ((false,()),b,()))) (c ((true,()),b,()))) (c ((true,()),b,()))))
def Qho:o 324 (s [tO,.st .r] [d] (Vo u)):=f u (n 2 (c (j [] (.one (n 2 (c (j [.r 3 .r,.s 14 h] g) g)))) g)) (e (Ws u) (e (Qdw u) (e (QeR u) t))) func324
def Xr(l:D.E)(a:D.c):I Int:=TG (fun(_,e,b,_)=>V (Qk u b.Fi e) fun f=>cd (f≠0) (some f) (Qe (fun m ((g,h,c,_),i,_)=>cd (c<h) (TM g c fun n=>V (Vo u i n) fun j=>cd (j≠0) (some j) (m ((g,h,(X (c+1)),()),i,()))) (some 0)) u ((b.FS,(b.FS.length:Int),0,()),e,()))) fun k=>cd (6<(a.Fi.length:Int)) (some 5) (cd (48<(a.FS.length:Int)) (some 5) (k ((),l,a,())))
def Qd4:o 252 (s [tO,t11] [d] (Xr u)):=f u (c g (c (j [.r 2 .E,.r 3 .c] g) (n 2 (m [.r 2 .E,.l 27 .r,.n 28,.n 29] g)))) (e (Zu u) (e (Qho u) t)) func252
def UV(b:D.c)(a:D.E):I Int:=V (Xr u a b) fun c=>TF a a (some c)
def Qjz:o 251 (Ql [t11,.one (.TN 101)] [w 101 .E] [d] [] [101] Int kz2 (fun x y=>UV u x.1 y.1)):=i u g kz4 (e (Qd4 u) t) func251
def Qp(e:Y D.c)(c101:D.E):I Int:=Qe (fun j ((f,g,c,_),a,k,_)=>cd (c<g) (TM f c fun h=>V (UU u h) fun l=>V (Xs u l k) fun(i,m)=>cd (i≠0) (TF a c101 (some i)) (V (UV u h a) fun b=>cd (b≠0) (TF a c101 (some b)) (j ((f,g,(X (c+1)),()),a,m,())))) (TF a c101 (some 0))) u ((e,(e.length:Int),0,()),c101,[],())
def Yf:o 249 (Ql [l .c,.one (.fv 250),.one (.clo 251 [101])] [w 101 .E] [d] [] [101] Int kz2 (fun x y=>Qp u x.1 y.1)):=i u (n 2 (m [.s 1 (.one (.fv 250)),.s 2 (.one (.clo 251 [101])),.s 7 (.one (.mref 1012)),.l 13 .c,.n 14,.n 15] g [w 101 .E,(1012,.sm)])) kz4 (e (Vd u) (e (Qjy u) (e (Qjz u) t))) func249
def Q5(b:D.E):I Int:=TG (fun(_,e,_)=>V (QD u e.FF) fun t=>cd (t≠0) (some t) (Qe (fun G ((r,s,f,_),a,H,_)=>cd (f<s) (TM r f fun g=>V (Xs u g.Name H) fun(zE,h)=>TG (fun((i,j,k,l,_),c,v,m,_)=>TG (fun((n,w,y,z,_),A,B,_)=>cd (n≠0) (some n) (G ((w,y,(X (z+1)),()),A,B,()))) fun o=>cd (i=0) (V (Wi u c v) fun zH=>o ((zH,j,k,l,()),c,m,())) (o ((i,j,k,l,()),c,m,()))) fun p=>cd (g.Name=(ByteArray.mk (List.toArray [110,111,98,111,100,121]))) (p ((2,r,s,f,()),a,g,h,())) (p ((zE,r,s,f,()),a,g,h,()))) (V (Qo u a.n a) fun q=>cd (q≠0) (some q) (V (Qp u a.f a) fun E=>some E))) u ((e.k,(e.k.length:Int),0,()),e,[],()))) fun F=>cd (16<(b.FF.length:Int)) (some 5) (cd (32<(b.k.length:Int)) (some 5) (cd (8<(b.n.length:Int)) (some 5) (cd (12<(b.f.length:Int)) (some 5) (F ((),b,())))))
def Qbk:o 172 (sI [tO] fun x=>Q5 u x.1):=i u (c g (c (j [.r 1 .E] g) (n 2 (m [.r 1 .E,.s 4 (.one (.mref 1037)),.l 39 .Q,.n 40,.n 41] (n 2 (c (.one (n 2 (c (j [.r 1 .E,.s 4 (.one (.mref 1037)),.r 6 .Q,.n 7,.l 39 .Q,.n 40,.n 41] g [(1037,.sm)]) (c (j [.r 1 .E,.s 4 (.one (.mref 1037)),.n 7,.l 39 .Q,.n 40,.n 41] g [(1037,.sm)]) g)))) g)) [(1037,.sm)])))) kz4 (e (Yl u) (e (Vd u) (e (Qfn u) (e (Ye u) (e (Yf u) t))))) func172
def V3(u:Nat)(b:D.E)(a:Int):I AH:=cd (0<=a) (cd (a<(b.f.length:Int)) sT sF) sF
def QhM:o 356 (sB [tO,d] fun x=>V3 u x.1 x.2.1):=i u g kz4 t func356
def X2(u:Nat)(a:Y D.p):I (Y D.p):=TR a (TU (some []) (TO a.length 34359738368 (some a))) (TO a.length 34359738368 (some a))
def Qbx:o 267 (Ql [l .p] [] [.one (.own 1007)] [p 1007 .p] [] (Y D.p) kz5 (fun x y=>X2 u x.1)):=i u g kz8 t func267
def Y5(u:Nat)(a:Y D.Q):I (Y D.Q):=TR a (TU (some []) (TO a.length 34359738368 (some a))) (TO a.length 34359738368 (some a))
def Qae:o 269 (Ql [l .Q] [] [.one (.own 1007)] [p 1007 .Q] [] (Y D.Q) kz5 (fun x y=>Y5 u x.1)):=i u g kz8 t func269
def Vg(u:Nat)(a:Y D.m):I (Y D.m):=TR a (TU (some []) (TO a.length 34359738368 (some a))) (TO a.length 34359738368 (some a))
def Ui:o 271 (Ql [l .m] [] [.one (.own 1007)] [p 1007 .m] [] (Y D.m) kz5 (fun x y=>Vg u x.1)):=i u g kz8 t func271
def Yw(u:Nat)(a:Y D.c):I (Y D.c):=TR a (TU (some []) (TO a.length 34359738368 (some a))) (TO a.length 34359738368 (some a))
def Uj:o 272 (Ql [l .c] [] [.one (.own 1007)] [p 1007 .c] [] (Y D.c) kz5 (fun x y=>Yw u x.1)):=i u g kz8 t func272
def Xx(u:Nat)(a:Y D.FG):I (Y D.FG):=TR a (TU (some []) (TO a.length 34359738368 (some a))) (TO a.length 34359738368 (some a))
def Uk:o 268 (Ql [l .FG] [] [.one (.own 1007)] [p 1007 .FG] [] (Y D.FG) kz5 (fun x y=>Xx u x.1)):=i u g kz8 t func268
def Ym(u:Nat)(a:Y D.FA):I (Y D.FA):=TR a (TU (some []) (TO a.length 34359738368 (some a))) (TO a.length 34359738368 (some a))
def WE:o 270 (Ql [l .FA] [] [.one (.own 1007)] [p 1007 .FA] [] (Y D.FA) kz5 (fun x y=>Ym u x.1)):=i u g kz8 t func270
def Xv(u:Nat)(a:Y D.w):I (Y D.w):=TR a (TU (some []) (TO a.length 34359738368 (some a))) (TO a.length 34359738368 (some a))
def Qbb:o 327 (Ql [l .w] [] [.one (.own 1007)] [p 1007 .w] [] (Y D.w) kz5 (fun x y=>Xv u x.1)):=i u g kz8 t func327
def X1(u:Nat)(a:Y D.r):I (Y D.r):=TR a (TU (some []) (TO a.length 34359738368 (some a))) (TO a.length 34359738368 (some a))
def Qbw:o 275 (Ql [l .r] [] [.one (.own 1007)] [p 1007 .r] [] (Y D.r) kz5 (fun x y=>X1 u x.1)):=i u g kz8 t func275
def Qu(u:Nat)(a:Y Int):I (Y Int):=TR a (TU (some []) (TO a.length 34359738368 (some a))) (TO a.length 34359738368 (some a))
def QQ:o 198 (Ql [lI] [] [.one (.own 1007)] [p 1007 .int] [] (Y Int) kz5 (fun x y=>Qu u x.1)):=i u g kz8 t func198
end
end Go.Proofs.YtlllfgmajglnhaaGreat
namespace Go.Proofs.YtlllfgmajglnhaaGreat.AM
open Go
section
variable (P:AF) (rd:Y (Nat×AV)) (hs:Y (Name×AO))
def QA1(T:AD)(x y:AC):I Out:=match WU P T,Qi rd x,Qi rd y with
 |some e,some (.own n len),some (.p (.v (.int _ j)))=>match Zk P e,C n hs with
  |some es,some (.hole es' pre row post)=>if Nat.beq es es' && (Nat.beq len (pre.length+1+post.length) && (Nat.blt j.toNat (pre.length+1+post.length) && decide (j=(j.toNat:Int))))then some ([(n,.hole es' pre row post)],.aref n len j.toNat 0,[],[])else none
  |_,_=>none
 |_,_,_=>none
def xLen(x:AC)(ats:Array AD):I Out:=match ats[0]?.bind (WU P),Qi rd x with
 |some _,some (.own n len)=>match C n hs with
  |some (.TI es rows)=>if Nat.beq len rows.length then some ([(n,.TI es rows)],.p (.v (.int .i64 (rows.length:Int))),[],[])else none
  |some (.hole es pre row post)=>if Nat.beq len (pre.length+1+post.length)then some ([(n,.hole es pre row post)],.p (.v (.int .i64 (len:Int))),[],[])else none
  |_=>none
 |_,_=>none
def QDv(c:Call):I Out:=match c with
 |{ callee:=.builtin .len,args:=aq,argTypes:=ats,.. }=>match aq.toList with
  |[x]=>xLen P rd hs x ats
  |_=>none
 |_=>none
def QA0(zI:AD)(x:AC)(i:Nat):I Out:=match Qi rd x,QbI P zI i with
 |some (.aref n len j k),some fo=>match C n hs with
  |some (.hole es pre row post)=>if Nat.beq len (pre.length+1+post.length)then some ([(n,.hole es pre row post)],.aref n len j (k+fo),[],[])else none
  |_=>none
 |_,_=>none
def xNil(x:AC):I Out:=match Qi rd x with
 |some (.aref n len j k)=>match C n hs with
  |some (.hole es pre row post)=>if Nat.beq len (pre.length+1+post.length)then some ([(n,.hole es pre row post)],.aref n len j k,[],[])else none
  |_=>none
 |_=>none
def QDw(T:AD)(x:AC):I Out:=match Qi rd x with
 |some (.aref n len i k)=>match C n hs with
  |some (.hole es pre row post)=>if QcL P T && (Nat.beq len (pre.length+1+post.length) && Nat.beq i pre.length)then(row[k]?).map fun c=>([(n,.hole es pre row post)],c,[],[])else none
  |_=>none
 |_=>none
def QA2(d:I Nat)(T:AD)(x y:AC):I Out:=match d,Qi rd x,(Qi rd y).bind ZR with
 |none,some (.aref n len i k),some vs=>match C n hs,Zk P T with
  |some (.hole es pre row post),some z=>if Nat.beq len (pre.length+1+post.length) && (Nat.beq i pre.length && (Nat.beq z vs.length && Nat.ble (k+vs.length) row.length))then some ([(n,.hole es pre row post)],.any,[(n,.hole es pre (Qy row k vs) post)],[])else none
  |_,_=>none
 |_,_,_=>none
def xAdd(x y:AC):I Out:=match Qi rd x,Qi rd y with
 |some (.p (.v (.int k a))),some (.p (.v (.int k' b)))=>if kEq k k' then some ([],.p (.v (.int k (k.wrap (a+b)))),[],[])else none
 |_,_=>none
def QBc(o:Oper):I Out:=match o.op with
 |.indexAddr T x y=>QA1 P rd hs T x y
 |.fieldAddr zI x i=>QA0 P rd hs zI x i
 |.nilCheck x=>xNil rd hs x
 |.load T x=>QDw P rd hs T x
 |.store T x y=>QA2 P rd hs o.dst T x y
 |.binOp .add _ x y _=>xAdd rd x y
 |.call c=>QDv P rd hs c
 |_=>none
end
section
variable {P:AF} {rd:Y (Nat×AV)} {hs:Y (Name×AO)} {o:Oper} {e:Out}
def Qy6(h:QBc P rd hs o=some e):TD P o (QcJ rd e):=by
 unfold QBc at h
 split at h
 .rename_i T x y ho
  unfold QA1 at h
  split at h
  .rename_i e' n len k j hT hx hy
   split at h
   .rename_i es es' pre row post hz hh
    split at h
    .rename_i hc
     simp only[bae,BL]at hc
     obtain⟨c1,c2,c3,c4⟩:=hc
     have:=nbe c1;subst this
     cases h
     exact TD.indexHole ho hT hz hx c2 hy c4 (by simpa [EL]using c3)
    .simp at h
   .simp at h
  .simp at h
 .rename_i zI x i ho
  unfold QA0 at h
  split at h
  .rename_i n len j k fo hx hf
   split at h
   .split at h
    .rename_i hl;cases h;exact TD.fieldElemSh ho hx hf rfl rfl hl
    .simp at h
   .simp at h
  .simp at h
 .rename_i x ho
  unfold xNil at h
  split at h
  .rename_i n len j k hx
   split at h
   .split at h
    .rename_i hl;cases h;exact TD.nilCheckSh ho hx rfl hl
    .simp at h
   .simp at h
  .simp at h
 .rename_i T x ho
  unfold QDw at h
  split at h
  .rename_i n len i k hx
   split at h
   .split at h
    .rename_i hc
     simp only[bae]at hc
     obtain⟨v,hv,rfl⟩:=map_some h
     exact TD.loadHole ho hx hc.1 hc.2.1 (nbe hc.2.2) hv
    .simp at h
   .simp at h
  .simp at h
 .rename_i T x y ho
  unfold QA2 at h
  split at h
  .rename_i n len i k vs hd hx hy
   split at h
   .rename_i es pre row post z hh hz
    split at h
    .rename_i hc
     simp only[bae]at hc
     obtain⟨c1,c2,c3,c4⟩:=hc
     cases h
     obtain⟨v,hv,hvs⟩:=Us hy
     exact TD.storeHole hd ho hx hv hvs c1 (nbe c2) (by rw[hz,nbe c3]) c4 rfl
    .simp at h
   .simp at h
  .simp at h
 .rename_i T x y T' ho
  unfold xAdd at h
  split at h
  .rename_i k a k' b hx hy
   split at h
   .rename_i hk
    have:=Qe9 hk;subst this
    cases h
    exact TD.add ho hx hy rfl
   .simp at h
  .simp at h
 .rename_i c ho
  unfold QDv at h
  split at h
  .rename_i aq ats
   split at h
   .rename_i x has
    have:aq=#[x]:=by cases aq;simp at has;simp[has]
    subst this
    unfold xLen at h
    split at h
    .rename_i e' n len hT hx
     obtain⟨T,hT1,hT2⟩:=Us hT
     split at h
     .split at h
      .rename_i hl;cases h;exact TD.lenOwn ho hT1 hT2 hx hl rfl
      .simp at h
     .split at h
      .rename_i hl;cases h;exact TD.lenHole ho hT1 hT2 hx hl rfl
      .simp at h
     .simp at h
    .simp at h
   .simp at h
  .simp at h
 .simp at h
end
def rowX(P:AF)(ops:Array Oper)(i:Nat)(ts:Y (Nat×AV))(hs:Y (Name×AO)):I Row:=match rowA P ops i ts hs with
 |some r=>some r
 |none=>match ops[i]? with
  |none=>none
  |some o=>match o.guard with
   |none=>(QBc P (rdo ts o.op.operands.toList) hs o).map fun x=>(o.dst,QcJ (rdo ts o.op.operands.toList) x)
   |some _=>none
def QCn(h:rowX P ops i ts hs=some r):ZP P ops i r.1 r.2:=by
 unfold rowX at h
 split at h
 .rename_i r' hr;cases h;exact QCm hr
 .split at h
  .simp at h
  .rename_i o hi
   split at h
   .rename_i hg;obtain⟨x,hx,rfl⟩:=map_some h;exact ZP.plain hi hg (Qy6 hx)
   .simp at h
def Qqt(P:AF)(ops:Array Oper):Nat->Y Item->Y (Nat×AV)->Y (Name×AO)->I (Y Row)
 |i,[],_,_=>if Nat.beq ops.size i then some []else none
 |i,.m d e::r,ts,hs=>(Qqt P ops (i+1) r (putD d e.v ts) (e.upd++hs)).map fun l=>(d,e)::l
 |i,.a::r,ts,hs=>match rowX P ops i ts hs with
  |none=>none
  |some x=>(Qqt P ops (i+1) r (putD x.1 x.2.v ts) (x.2.upd++hs)).map fun l=>x::l
def Qqu:∀{items:Y Item} {i:Nat} {ts:Y (Nat×AV)} {hs:Y (Name×AO)} {L:Y Row},Qqt P ops i items ts hs=some L->Man P ops i items->Vv P ops i L
 |[],i,ts,hs,L,h,_=>by
  unfold Qqt at h
  split at h
  .rename_i hb;cases h;exact nbe hb
  .simp at h
 |.m d e::r,i,ts,hs,L,h,hm=>by
  unfold Qqt at h
  obtain⟨l,hl,rfl⟩:=map_some h
  exact⟨hm.1,Qqu hl hm.2⟩
 |.a::r,i,ts,hs,L,h,hm=>by
  unfold Qqt at h
  split at h
  .simp at h
  .rename_i x hx
   obtain⟨l,hl,rfl⟩:=map_some h
   exact⟨QCn hx,Qqu hl hm⟩
def Qdf(P:AF)(ops:Array Oper)(items:Y Item)(ts:Y (Nat×AV))(hs:Y (Name×AO)):Y Row:=(Qqt P ops 0 items ts hs).getD []
def Qnf(P:AF)(ops:Array Oper)(items:Y Item)(ts:Y (Nat×AV))(hs:Y (Name×AO)):AH:=(Qqt P ops 0 items ts hs).isSome
def QjA(h:Qnf P ops items ts hs=true)(hm:Man P ops 0 items):Vv P ops 0 (Qdf P ops items ts hs):=by
 unfold Qnf at h
 unfold Qdf
 cases hr:Qqt P ops 0 items ts hs with
 |none=>rw[hr]at h;simp at h
 |some L=>exact Qqu hr hm
section
variable {P:AF} {Γ:Ctx} {s:AS} {Q:Exit->AS->Prop}
def TJ.xr{id:Nat}(hn:Γ.n=n)(hk:Γ.names=names)(zE)(hm:Man P ops 0 zE)(ts')(hs':Y (Name×AO))(h:TJ P Γ y (mk ts' hs') Q)(hb:Qnf P ops zE ts hs=true:=by kernel_rfl)(hf:Qpw n names (Qdf P ops zE ts hs) ts hs ts' hs'=Qpx (Qdf P ops zE ts hs) ts' hs':=by kernel_rfl):
  TJ P Γ (.seq (.region id ops false) y) (mk ts hs) Q:=TJ.s_region hn hk _ (QjA hb hm) ts' hs' hf h
def TJ.xa{id:Nat}(hn:Γ.n=n)(hk:Γ.names=names)(k)(ts')(hs':Y (Name×AO))(h:TJ P Γ y (mk ts' hs') Q)(hb:Qnf P ops (aa k) ts hs=true:=by kernel_rfl)(hf:Qpw n names (Qdf P ops (aa k) ts hs) ts hs ts' hs'=Qpx (Qdf P ops (aa k) ts hs) ts' hs':=by kernel_rfl):
  TJ P Γ (.seq (.region id ops false) y) (mk ts hs) Q:=TJ.xr hn hk (aa k) (Man.aa _ _) ts' hs' h hb hf
def TJ.xa'{id:Nat}(hn:Γ.n=n)(hk:Γ.names=names)(k)(ts')(hs':Y (Name×AO))(h:Q .normal (mk ts' hs'))(hb:Qnf P ops (aa k) ts hs=true:=by kernel_rfl)(hf:Qpw n names (Qdf P ops (aa k) ts hs) ts hs ts' hs'=Qpx (Qdf P ops (aa k) ts hs) ts' hs':=by kernel_rfl):
  TJ P Γ (.region id ops false) (mk ts hs) Q:=TJ.region' hn hk _ (QjA hb (Man.aa _ _)) ts' hs' hf h
def TJ.xd{id:Nat}{ops:Array Oper}{y:Code}{ts:Y (Nat×AV)}{hs:Y (Name×AO)}{n:Nat}{names:Y Name}(hn:Γ.n=n)(hk:Γ.names=names)(zE:Y Item)(hm:Man P ops 0 zE)(ts':Y (Nat×AV))(hs':Y (Name×AO))(h:TJ P Γ y (mk ts' hs') Q)(hmode:P.follows .mixedOrders=true:=by kernel_rfl)(hb:Qnf P ops zE ts hs=true:=by kernel_rfl)(hf:Qpw n names (Qdf P ops zE ts hs) ts hs ts' hs'=Qpx (Qdf P ops zE ts hs) ts' hs':=by kernel_rfl)(hind:indep ops (Qdf P ops zE ts hs) ts hs=true:=by kernel_rfl):TJ P Γ (.seq (.region id ops true) y) (mk ts hs) Q:=TJ.s_draw hn hk hmode _ (QjA hb hm) ts' hs' hf hind h
def TJ.xd'{id:Nat}{ops:Array Oper}{ts:Y (Nat×AV)}{hs:Y (Name×AO)}{n:Nat}{names:Y Name}(hn:Γ.n=n)(hk:Γ.names=names)(zE:Y Item)(hm:Man P ops 0 zE)(ts':Y (Nat×AV))(hs':Y (Name×AO))(h:Q .normal (mk ts' hs'))(hmode:P.follows .mixedOrders=true:=by kernel_rfl)(hb:Qnf P ops zE ts hs=true:=by kernel_rfl)(hf:Qpw n names (Qdf P ops zE ts hs) ts hs ts' hs'=Qpx (Qdf P ops zE ts hs) ts' hs':=by kernel_rfl)(hind:indep ops (Qdf P ops zE ts hs) ts hs=true:=by kernel_rfl):TJ P Γ (.region id ops true) (mk ts hs) Q:=TJ.draw' hn hk hmode _ (QjA hb hm) ts' hs' hf hind h
end
def TJ.nameH(m)(j:Nat){pre post:Y (Y PV)}(hn0:n0∉Γ.names)(h0:C n0 hs=none)(hfree:QBM n0 ts hs=true)(hne:n≠n0)(hm:C m hs=some (.hole es pre row post))(hj:row[j]?=some (.own n len))(h:∀x,TJ P Γ c (mk ts ((n0,.fact (.own n len) x)::hs)) Q):TJ P Γ c (mk ts hs) Q:=
 TJ.nameU hn0 h0 (Qzv hfree) hne (fun ρ M a w hs0=>by
  obtain⟨k0,k0',k1,b,T,cs,k3,k4,k5,k6,k7,k8,k9⟩:=hs0.objs m _ hm
  obtain⟨u,_,_,hr⟩:=k8.get j _ hj
  exact⟨u,hr⟩) h
def Weak.pinH(hmn:m≠n)(hf:C n0 hs=some (.fact (.own n len) x))(ho:C n hs=some o)(hsh:o.shape=some (es,len))(hp:PinL n len x xs ys)(hs':Y (Name×AO))(h0:C m hs=some (.hole es' pre xs post))(h1:∀k,C k hs'=if k=m then some (.hole es' pre ys post)else C k hs):Weak Γ (mk ts hs) (mk ts hs'):=fun ρ M a w h=>by
 have hst:QdA ρ (mk ts hs).heap ρ (mk ts hs').heap:=fun k ob hk=>by
  change stays ob (ρ k) (C k hs') (ρ k)
  rw[h1]
  split
  .rename_i e;subst e
   have hk':C k hs=some ob:=hk
   rw[h0]at hk';cases hk'
   exact XL (es:=es') (k:=pre.length+1+post.length) rfl rfl (Zi _ _)
  .have hk':C k hs=some ob:=hk
   rw[hk'];exact Zi _ _
 have hnn:∀k,(mk ts hs).heap k=none->(mk ts hs').heap k=none:=fun k hk=>by
  change C k hs'=none
  rw[h1]
  split
  .rename_i e;subst e;change C k hs=none at hk;rw[h0]at hk;cases hk
  .exact hk
 have hconv:∀{v:AV} {u:AE},v.R ρ (mk ts hs).heap M w u->v.R ρ (mk ts hs').heap M w u:=fun hr=>
  hr.step (Ext.refl (fun _=>False) _) (fun _ hb=>hb.elim) (fun b _ hb=>hb) hst (fun k _=>hnn k)
 have hfact:AV.R ρ (mk ts hs).heap M w (.own n len) x:=(h.objs n0 _ hf).2
 have hx:=hfact
 simp only[AV.R]at hx
 have hxe:=(hx.2 o es len ho hsh).2 rfl
 have hpin:∀us,AV.Rs ρ (mk ts hs).heap M w xs us->AV.Rs ρ (mk ts hs').heap M w ys us:=by
  refine PinL.rec (motive_1:=fun v y _=>∀u,v.R ρ (mk ts hs).heap M w u->y.R ρ (mk ts hs').heap M w u) (motive_2:=fun vs ys _=>∀us,AV.Rs ρ (mk ts hs).heap M w vs us->AV.Rs ρ (mk ts hs').heap M w ys us) ?_ ?_ ?_ ?_ ?_ ?_ hp
  .omega
  .intro u hr
   simp only[AV.R]at hr
   have hu:=(hr.2 o es len ho hsh).2 rfl
   simp only[AV.R,PV.R]
   simp_all
  .intro u hr
   simp only[AV.R,PV.R]at hr
   simp_all
  .intro xs ys _ ih u hr
   simp only[AV.R]at hr |-
   grind
  .intro us hr;simp only[AV.Rs]at hr |-;exact hr
  .intro a b as1 bs _ _ ih1 ih2 us hr
   simp only[AV.Rs]at hr |-
   grind
 refine⟨ρ,M,Qzm h (fun t y hy=>⟨y,hy,fun u hr=>hconv hr⟩) (fun k y hy=>?_) (fun k v hv=>?_)⟩
 .change C k hs'=some y at hy
  rw[h1]at hy
  split at hy
  .rename_i e;subst e;cases hy
   refine⟨_,h0,fun hob=>?_⟩
   obtain⟨k0,k0',k1,b,T,cs,k3,k4,k5,k6,k7,k8,k9⟩:=hob
   have hlen:xs.length=ys.length:=by
    have:=PinL.rec (motive_1:=fun _ _ (_:Pin n len x _ _)=>True) (motive_2:=fun vs ys _=>vs.length=ys.length) (by intros;trivial) (by trivial) (by trivial) (by intros;trivial) rfl (by intros;simp_all) hp
    exact this
   exact⟨k0,by rw[<-hlen];exact k0',k1,b,T,cs,k3,k4,k5,k6,k7,hpin _ k8,k9⟩
  .refine⟨y,hy,fun hob=>?_⟩
   exact U6.step (Ext.refl (fun _=>False) _) (fun _ hb=>hb.elim) (fun b _ hb=>hb) (fun b hb=>hb) hst (fun k _=>hnn k) rfl (fun _ _=>rfl) h.msize hob
 .change C k hs=some v at hv
  by_cases e:k=m
  .subst e
   rw[h0]at hv;cases hv
   exact⟨_,(by change C k hs'=_;rw[h1,iB rfl]),fun o l hst=>XL (es:=es') (k:=pre.length+1+post.length) rfl rfl hst⟩
  .exact⟨v,(by change C k hs'=_;rw[h1,iA e];exact hv),fun o l hst=>hst⟩
def TsLe.refl:∀ts:Y (Nat×AV),TsLe ts ts
 |[]=>trivial
 |(_,x)::r=>⟨rfl,.refl x,TsLe.refl r⟩
def HsLe.refl:∀hs:Y (Name×AO),HsLe hs hs
 |[]=>trivial
 |(_,x)::r=>⟨rfl,.refl x,HsLe.refl r⟩
def QjI.refl:∀{ts:Y (Nat×AV)},ts.all (fun p=>!p.2.has n)=true->QjI px n es rows ts ts
 |[],_=>trivial
 |(_,x)::r,h=>by
  simp only[BW,bae,BI]at h
  exact⟨rfl,.same h.1,QjI.refl h.2⟩
def QjH.refl:∀{hs:Y (Name×AO)},hs.all (fun p=>!p.2.has n && !Nat.beq p.1 n)=true->QjH px n es rows hs hs
 |[],_=>trivial
 |(_,x)::r,h=>by
  simp only[BW,bae,BI]at h
  exact⟨rfl,fun e=>by have:=h.1.2;subst e;simp at this,.same h.1.1,QjH.refl h.2⟩
section
variable {P:AF} {Γ:Ctx} {c:Code} {Q:Exit->AS->Prop} {ts:Y (Nat×AV)} {hs:Y (Name×AO)} {n n0 m:Name} {es es':Nat} {rows pre post:Y (Y PV)} {x:AE} {o o':AO}
def TJ.foc(pre post)(r)(hr:rows=pre++r::post)(h:TJ P Γ c (mk ts ((m,.hole es pre (r.map .p) post)::hs)) Q):TJ P Γ c (mk ts ((m,.TI es rows)::hs)) Q:=
 TJ.weaken (mk ts ((m,.hole es pre (r.map .p) post)::hs)) (Weak.le (TsLe.refl _) ⟨rfl,.focus hr rfl,HsLe.refl _⟩) h
def TJ.unf(r)(hrow:row=r.map .p)(h:TJ P Γ c (mk ts ((m,.TI es (pre++r::post))::hs)) Q):TJ P Γ c (mk ts ((m,.hole es pre row post)::hs)) Q:=
 TJ.weaken (mk ts ((m,.TI es (pre++r::post))::hs)) (Weak.le (TsLe.refl _) ⟨rfl,.unfocus rfl hrow,HsLe.refl _⟩) h
def TJ.frz(hk:Γ.names=[])(hb:(ts.all (fun p=>!p.2.has n) && (hs.all (fun p=>!p.2.has n && !Nat.beq p.1 n) && !Nat.beq m n))=true)(ho:OFrz (fun _=>False) n es rows o o')(h:TJ P Γ c (mk ts ((m,o')::hs)) Q):
  TJ P Γ c (mk ts ((n,.TI es rows)::(m,o)::hs)) Q:=by
 simp only[bae,BI]at hb
 exact TJ.weaken (mk ts ((m,o')::hs)) (Weak.freeze (by rw[hk];exact BH) (QjI.refl hb.1) ⟨rfl,fun e=>by have:=hb.2.2;subst e;simp at this,ho,QjH.refl hb.2.1⟩) h
def TJ.frzP(hk:Γ.names=[])(hb:(ts.all (fun p=>!p.2.has n) && (hs.all (fun p=>!p.2.has n && !Nat.beq p.1 n) && (!Nat.beq m n && (!Nat.beq n n0 && (C n0 ((m,o)::hs)).isNone))))=true)(ho:OFrz (fun y=>y=x) n es rows o o')(h:TJ P Γ c (mk ts ((m,o')::hs)) Q):
  TJ P Γ c (mk ts ((n,.TI es rows)::(n0,.fact (.own n rows.length) x)::(m,o)::hs)) Q:=by
 simp only[bae,BI,Bi]at hb
 exact TJ.weaken (mk ts ((m,o')::hs)) (Weak.freezeP (by rw[hk];exact BH) (by rw[hk];exact BH) (fun e=>by have:=hb.2.2.2.1;subst e;simp at this) hb.2.2.2.2 (QjI.refl hb.1) ⟨rfl,fun e=>by have:=hb.2.2.1;subst e;simp at this,ho,QjH.refl hb.2.1⟩) h
def TJ.pinH(hb:(!Nat.beq m n && (!Nat.beq m n0 && !Nat.beq n0 n))=true)(ho:C n hs=some o)(hsh:o.shape=some (es',len))(hp:PinL n len x row row')(h:TJ P Γ c (mk ts ((n0,.fact (.own n len) x)::(m,.hole es pre row' post)::hs)) Q):TJ P Γ c (mk ts ((n0,.fact (.own n len) x)::(m,.hole es pre row post)::hs)) Q:=by
 simp only[bae,BI]at hb
 have e1:m≠n:=fun e=>by have:=hb.1;subst e;simp at this
 have e2:n0≠m:=fun e=>by have:=hb.2.1;subst e;simp at this
 have e3:n0≠n:=fun e=>by have:=hb.2.2;subst e;simp at this
 refine TJ.weaken (mk ts ((n0,.fact (.own n len) x)::(m,.hole es pre row' post)::hs)) (Weak.pinH (n:=n) (n0:=n0) (m:=m) (x:=x) (len:=len) (es:=es') (es':=es) (pre:=pre) (post:=post) (o:=o) e1 (by simp[C]) (by simp[C,e3,e1,ho]) hsh hp _ (by simp[C,e2]) fun k=>?_) h
 simp only[C]
 grind
end
def sk:Nat->Y Item->Y Item
 |0,r=>r
 |n+1,r=>.a::sk n r
def Man.sk:∀{n i:Nat} {r:Y Item},Man P ops (i+n) r->Man P ops i (AM.sk n r)
 |0,_,_,h=>h
 |n+1,i,r,h=>Man.sk (n:=n) (i:=i+1) (by rw[B5,ED 1 n];exact h)
def Man.m(h:ZP P ops i d e)(h':Man P ops (i+1) r):Man P ops i (.m d e::r):=⟨h,h'⟩
def clI(d s:Nat)(nm:Name)(t:TC)(l:Y (TT t)):Item:=.m (some d) ⟨[(s,.p (.sl false (tz t) (l.map (tcells t))))],[],.own nm (l.map (tcells t)).length,[(nm,.TI (tz t) (l.map (tcells t)))],[nm]⟩
def Qb9(P:AF)(k:FuncId)(t:TC)(l:Y (TT t)):Prop:=∀nm:Name,nm<10000000000->WH P k [.p (.sl false (tz t) (l.map (tcells t)))] [] (.own nm (l.map (tcells t)).length) [(nm,.TI (tz t) (l.map (tcells t)))]
def QaS{P:AF}{ops:Array Oper}{i d s:Nat}{nm:Name}{t:TC}{l:Y (TT t)}{k:FuncId}{o:Oper}{ats:Array AD}(h:Qb9 P k t l)(hnm:Nat.blt nm 10000000000=true)(hi:ops[i]?=some o)(hd:o.dst=some d)(hg:o.guard=none)(ho:o.op=.call { callee:=.value (.func k),args:=#[.tmp s],argTypes:=ats })(hc:callable P k=true):
  ZP P ops i (some d) ⟨[(s,.p (.sl false (tz t) (l.map (tcells t))))],[],.own nm (l.map (tcells t)).length,[(nm,.TI (tz t) (l.map (tcells t)))],[nm]⟩:=
 ZP.p hi hd hg (TD.call ho hc (by simp[Qhj,Qi,C]) (h nm (by simpa [EL]using hnm)) (by simp[Qfy,keys,AV.closed,AO.closed]))
def QlV(hs:WH P k args pre v h)(hi:ops[i]?=some o)(hd:o.dst=some d)(hg:o.guard=none)(ho:o.op=.call { callee:=.value (.func k),args:=argOps,argTypes:=ats })(hc:callable P k=true)(ha:Qhj rd argOps.toList=some args)(hok:Qfy pre h nw v=true):ZP P ops i (some d) ⟨rd,pre,v,h,nw⟩:=ZP.p hi hd hg (TD.call ho hc ha hs hok)
def Vi{F:Y (TT t)->I (Y (TT t))}(h:FnOK P k (Ql [.one (.TQ t)] [] [.one (.own 1007)] [(1007,.TI t)] [] (Y (TT t)) (fun q=>((),(q,()))) (fun x y=>F x.1))){l:Y (TT t)}(hl:F l=some l):Qb9 P k t l:=by
 intro nm hnm
 obtain⟨L1,_,hinv,hs⟩:=h.spec (l,()) () () (l,()) (by show V (F l) _=_;rw[hl];rfl) (fun _ _=>0) (fun n t l v hn=>by change C n []=_ at hn;simp[C]at hn)
 have e1:L1 1007 1=(l.map (tcells t)).length:=by rw[AZ];exact hinv 1007 t l 1 rfl
 have hσ:∀a b:Name,(if a=1007 then nm else a+10000000000)=(if b=1007 then nm else b+10000000000)->a=b:=fun a b e=>by
  grind
 have h1:=Spec.ren (σ:=fun a:Name=>if a=1007 then nm else a+10000000000) hσ hs
 have h2:WH P k [.p (.sl false (tz t) (l.map (tcells t)))] [] (.own (if (1007:Name)=1007 then nm else 1007+10000000000) (L1 1007 1)) [(if (1007:Name)=1007 then nm else 1007+10000000000,.TI (tz t) (l.map (tcells t)))]:=h1
 grind
end Go.Proofs.YtlllfgmajglnhaaGreat.AM
namespace Go.Proofs.YtlllfgmajglnhaaGreat
open Go AM
def clone0[AL α]{l:Y α}(h:l.length<=34359738368):TR l (TU (some []) (TO l.length 34359738368 (some l))) (TO l.length 34359738368 (some l))=some l:=by
 cases l<;>simp[TR,TU,TO]at h |-
 exact h
abbrev nl:AV:=.p (.sl true 0 [])
abbrev sl0(es:Nat)(rows:Y (Y PV)):AV:=.p (.sl false es rows)
abbrev own(n k:Nat):AV:=.own n k
abbrev schR(n:AJ)(l:D.w)(e:Y D.r):Y PV:=[.v (.string n),.sl false 10 [D.w.cells l],.sl false 5 (e.map D.r.cells)]
structure Qob (fu:Nat) (z:D.p) (ps:Y D.Q) (la lb:D.w) (ea eb:Y D.r):Prop where
 rules:z.Fo.length<=1000000
 quiet:∀p∈ps,p.Fg.length<=1000000
 lam:la.s.length<=1000000
 law:la.Fk.length<=1000000
 lbm:lb.s.length<=1000000
 lbw:lb.Fk.length<=1000000
 ea:ea.length<=1000000
 eb:eb.length<=1000000
section
abbrev cfgA(z:D.p)(p1 p2 p3 p4:D.Q)(na nb:AJ)(la lb:D.w)(ea eb:Y D.r):Y AV:=
 [sl0 3 [D.p.cells z],sl0 6 [D.Q.cells p1,D.Q.cells p2,D.Q.cells p3,D.Q.cells p4],sl0 3 [],sl0 3 [schR na la ea,schR nb lb eb]]
abbrev boxC:AO:=.box [own 2011 1,own 2014 4,own 2017 0,own 2020 2]
abbrev box0:AO:=.box [nl,nl,nl,nl]
def Qrq(h:Qob fu z [p1,p2,p3,p4] la lb ea eb)(r)(h':Y (Name×AO))(hh:h'=bif r then[(2011,.TI 3 [D.p.cells z]),(2014,.TI 6 [D.Q.cells p1,D.Q.cells p2,D.Q.cells p3,D.Q.cells p4]),(2017,.TI 3 []),(2020,.hole 3 [schR na la ea] [.p (.v (.string nb)),sl0 10 [D.w.cells lb],own 3001 (eb.map (tcells .r)).length] []),(3001,.TI 5 (eb.map (tcells .r)))]
   else[(2011,.TI 3 [D.p.cells z]),(2014,.TI 6 [D.Q.cells p1,D.Q.cells p2,D.Q.cells p3,D.Q.cells p4]),(2017,.TI 3 []),(2020,.hole 3 [] [.p (.v (.string na)),sl0 10 [D.w.cells la],own 3000 (ea.map (tcells .r)).length] [schR nb lb eb]),(3000,.TI 5 (ea.map (tcells .r)))]):
  WH Tryz.prog 357 [.agg (cfgA z p1 p2 p3 p4 na nb la lb ea eb)] [] (.agg [own 2011 1,own 2014 4,own 2017 0,own 2020 2]) h':=by
 have cZ:∀l:Y D.p,l.length<=1000000->Qb9 Tryz.prog 267 .p l:=fun l hl=>Vi (t:=.p) (F:=X2 fu) (Qbx fu) (clone0 (α:=D.p) (AX hl (by decide)))
 have cY:∀l:Y D.FG,l.length<=1000000->Qb9 Tryz.prog 268 .FG l:=fun l hl=>Vi (t:=.FG) (F:=Xx fu) (Uk fu) (clone0 (α:=D.FG) (AX hl (by decide)))
 have cP:∀l:Y D.Q,l.length<=1000000->Qb9 Tryz.prog 269 .Q l:=fun l hl=>Vi (t:=.Q) (F:=Y5 fu) (Qae fu) (clone0 (α:=D.Q) (AX hl (by decide)))
 have cC:∀l:Y D.m,l.length<=1000000->Qb9 Tryz.prog 271 .m l:=fun l hl=>Vi (t:=.m) (F:=Vg fu) (Ui fu) (clone0 (α:=D.m) (AX hl (by decide)))
 have cS:∀l:Y D.c,l.length<=1000000->Qb9 Tryz.prog 272 .c l:=fun l hl=>Vi (t:=.c) (F:=Yw fu) (Uj fu) (clone0 (α:=D.c) (AX hl (by decide)))
 have cW:∀l:Y D.FA,l.length<=1000000->Qb9 Tryz.prog 270 .FA l:=fun l hl=>Vi (t:=.FA) (F:=Ym fu) (WE fu) (clone0 (α:=D.FA) (AX hl (by decide)))
 have cL:∀l:Y D.w,l.length<=1000000->Qb9 Tryz.prog 327 .w l:=fun l hl=>Vi (t:=.w) (F:=Xv fu) (Qbb fu) (clone0 (α:=D.w) (AX hl (by decide)))
 have cE:∀l:Y D.r,l.length<=1000000->Qb9 Tryz.prog 275 .r l:=fun l hl=>Vi (t:=.r) (F:=X1 fu) (Qbw fu) (clone0 (α:=D.r) (AX hl (by decide)))
 have cI:∀l:Y Int,l.length<=1000000->Qb9 Tryz.prog 198 .int l:=fun l hl=>Vi (t:=.int) (F:=Qu fu) (QQ fu) (clone0 (α:=Int) (AX hl (by decide)))
 refine Spec.intro Tryz.func357 rfl (by kernel_rfl) ?_
 intro Γ hGn hGk
 replace hGn:Γ.n=_:=hGn
 replace hGk:Γ.names=[]:=hGk
 refine TJ.xa hGn hGk 2 [(1,.TN 1001 0),(2,.TN 1002 0)] [(1001,.box (cfgA z p1 p2 p3 p4 na nb la lb ea eb)),(1002,box0)] ?_
 refine TJ.xd hGn hGk [.a,.a,clI 11 10 2011 .p [z],.a,.a,clI 14 13 2014 .Q [p1,p2,p3,p4],.a,.a,clI 17 16 2017 .m [],.a,.a,clI 20 19 2020 .c [⟨na,[la],ea⟩,⟨nb,[lb],eb⟩],.a,.a,.a,.a,.a,.a,.a,.a]
  ⟨QaS (cZ _ Ob) rfl rfl rfl rfl rfl (by kernel_rfl),QaS (cP _ Ob) rfl rfl rfl rfl rfl (by kernel_rfl),QaS (cC _ Ob) rfl rfl rfl rfl rfl (by kernel_rfl),QaS (cS _ Ob) rfl rfl rfl rfl rfl (by kernel_rfl),trivial⟩
  [(1,.TN 1001 0),(2,.TN 1002 0)] [(2011,.TI 3 [D.p.cells z]),(2014,.TI 6 [D.Q.cells p1,D.Q.cells p2,D.Q.cells p3,D.Q.cells p4]),(2017,.TI 3 []),(2020,.TI 3 [schR na la ea,schR nb lb eb]),(1001,boxC),(1002,box0)] ?_
 let hZ:Name×AO:=(2011,.TI 3 [D.p.cells z])
 let hP:Name×AO:=(2014,.TI 6 [D.Q.cells p1,D.Q.cells p2,D.Q.cells p3,D.Q.cells p4])
 let hC:Name×AO:=(2017,.TI 3 [])
 let hS:Name×AO:=(2020,.TI 3 [schR na la ea,schR nb lb eb])
 let hB:Name×AO:=(1001,boxC)
 let hO:Name×AO:=(1002,box0)
 let a1:Nat×AV:=(1,.TN 1001 0)
 let a2:Nat×AV:=(2,.TN 1002 0)
 let o1:Name×AO:=(2098,.TI 10 [D.w.cells lb])
 let o2:Name×AO:=(3000,.TI 5 (ea.map (tcells .r)))
 let o3:Name×AO:=(3001,.TI 5 (eb.map (tcells .r)))
 let o4:Name×AO:=(2143,.TI 2 (la.Fk.map (tcells .FA)))
 let o5:Name×AO:=(2143,.TI 2 (lb.Fk.map (tcells .FA)))
 let o6:AE->Name×AO:=fun x0=>(3100,.fact (own 3000 (ea.map (tcells .r)).length) x0)
 let o7:AE->Name×AO:=fun x1=>(3101,.fact (own 3001 (eb.map (tcells .r)).length) x1)
 let o8:AE->Name×AO:=fun x0=>(2020,.TI 3 [[.v (.string na),.sl false 10 [D.w.cells la],.v x0],schR nb lb eb])
 let o9:AE->Name×AO:=fun x0=>(2020,.hole 3 [] [.p (.v (.string na)),sl0 10 [D.w.cells la],.p (.v x0)] [schR nb lb eb])
 let o10:Name×AO:=(2020,.hole 3 [] [.p (.v (.string na)),own 2098 1,own 3000 (ea.map (tcells .r)).length] [schR nb lb eb])
 let o11:AE->AE->Name×AO:=fun x0 x1=>(2020,.TI 3 [[.v (.string na),.sl false 10 [D.w.cells la],.v x0],[.v (.string nb),.sl false 10 [D.w.cells lb],.v x1]])
 let o12:AE->AE->Name×AO:=fun x0 x1=>(2020,.hole 3 [[.v (.string na),.sl false 10 [D.w.cells la],.v x0]] [.p (.v (.string nb)),sl0 10 [D.w.cells lb],.p (.v x1)] [])
 let o13:AE->Name×AO:=fun x0=>(2020,.hole 3 [[.v (.string na),.sl false 10 [D.w.cells la],.v x0]] [.p (.v (.string nb)),own 2098 1,own 3001 (eb.map (tcells .r)).length] [])
 let s1:Y (Nat×AV):=[a1,a2,(84,vI 2),(85,vI 0),(7,.aref 2020 2 0 0)]
 let s2:Y (Nat×AV):=[a1,a2,(84,vI 2),(85,vI 1),(7,.aref 2020 2 1 0)]
 let s3:Y (Name×AO):=[(2020,.TI 3 [schR na la ea,schR nb lb eb]),hZ,hP,hC,hB,hO]
 let s4:Y (Nat×AV):=[a1,a2,(84,vI 2),(85,vI 0),(7,.aref 2020 2 0 0),(112,vI 1),(113,vI 0)]
 let s5:Y (Nat×AV):=[a1,a2,(84,vI 2),(85,vI 1),(7,.aref 2020 2 1 0),(112,vI 1),(113,vI 0)]
 let s6:Y (Name×AO):=[(2098,.TI 10 [D.w.cells la]),o10,hZ,hP,hC,hB,hO,o2]
 refine TJ.seq (TJ.seq ?_)
 refine TJ.xa' hGn hGk 4 [a1,a2,(27,vI 1),(28,vI 0)] [hZ,hP,hC,hS,hB,hO] ?_
 refine Qh (TJ.block ?_)
 refine TJ.loop (fun m s=>∃i:Nat,i+m=1/\s=mk [a1,a2,(27,vI 1),(28,vI (i:Int))] [hZ,hP,hC,hS,hB,hO]) ⟨1,0,rfl,rfl⟩ ?_
 rintro m s ⟨i,hi,rfl⟩
 have hc:i=0\/i=1:=U
 rcases hc with rfl|rfl
 .skip
  refine TJ.xa hGn hGk 1 [a1,a2,(27,vI 1),(28,vI 0),(29,vB true)] [hZ,hP,hC,hS,hB,hO] ?_
  refine TJ.seq (TJ.cond_true rfl (TJ.skip (Qh ?_)))
  refine TJ.seq (TJ.block ?_)
  refine TJ.xa hGn hGk 2 [a1,a2,(27,vI 1),(28,vI 0),(3,vI 0)] [hZ,hP,hC,hS,hB,hO] ?_
  refine TJ.foc [] [] (D.p.cells z) rfl ?_
  refine TJ.xd' hGn hGk (sk 9 (clI 40 39 2040 .FG z.Fo::aa 3)) (.sk (.m (QaS (cY _ h.rules) rfl rfl rfl rfl rfl (by kernel_rfl)) (Man.aa _ _)))
   [a1,a2,(27,vI 1),(28,vI 0)] [(2040,.TI 7 (z.Fo.map (tcells .FG))),(2011,.hole 3 [] [.p (.v (.string z.Name)),.p (.v (.int .i64 z.FT)),own 2040 (z.Fo.map (tcells .FG)).length] []),hP,hC,hS,hB,hO] ?_
  refine YM (Qh ?_)
  refine TJ.frz hGk rfl (.hole (.cons (.same rfl) (.cons (.same rfl) (.cons .own .nil)))) ?_
  refine TJ.unf (D.p.cells z) rfl ?_
  refine TJ.xa' hGn hGk 2 [a1,a2,(27,vI 1),(28,vI 1)] [hZ,hP,hC,hS,hB,hO] ?_
  exact Qh ⟨0,U,1,rfl,rfl⟩
 refine TJ.xa hGn hGk 1 [a1,a2,(29,vB false)] [hZ,hP,hC,hS,hB,hO] ?_
 refine TJ.seq (TJ.cond_false rfl (TJ.exit ?_))
 refine Xj (Xj (Qak (Qh ?_)))
 refine TJ.seq (TJ.seq ?_)
 refine TJ.xa' hGn hGk 4 [a1,a2,(46,vI 4),(47,vI 0)] [hP,hZ,hC,hS,hB,hO] ?_
 refine Qh (TJ.block ?_)
 refine TJ.loop (fun m s=>∃i:Nat,i+m=4/\s=mk [a1,a2,(46,vI 4),(47,vI (i:Int))] [hP,hZ,hC,hS,hB,hO]) ⟨4,0,rfl,rfl⟩ ?_
 rintro m s ⟨i,hi,rfl⟩
 have hc:i=0\/i=1\/i=2\/i=3\/i=4:=U
 rcases hc with rfl|rfl|rfl|rfl|rfl
 .skip
  refine TJ.xa hGn hGk 1 [a1,a2,(46,vI 4),(47,vI 0),(48,vB true)] [hP,hZ,hC,hS,hB,hO] ?_
  refine TJ.seq (TJ.cond_true rfl (TJ.skip (Qh ?_)))
  refine TJ.seq (TJ.block ?_)
  refine TJ.xa hGn hGk 2 [a1,a2,(46,vI 4),(47,vI 0),(4,vI 0)] [hP,hZ,hC,hS,hB,hO] ?_
  refine TJ.foc [] [D.Q.cells p2,D.Q.cells p3,D.Q.cells p4] (D.Q.cells p1) rfl ?_
  refine TJ.xd' hGn hGk (sk 9 (clI 59 58 2059 .FA p1.Fg::aa 3)) (.sk (.m (QaS (cW _ (h.quiet _ Ob)) rfl rfl rfl rfl rfl (by kernel_rfl)) (Man.aa _ _)))
   [a1,a2,(46,vI 4),(47,vI 0)] [(2059,.TI 2 (p1.Fg.map (tcells .FA))),(2014,.hole 6 [] [.p (.v (.string p1.Name)),.p (.v (.int .i64 p1.p)),own 2059 (p1.Fg.map (tcells .FA)).length,.p (.v (.int .i64 p1.Fx)),.p (.v (.int .i64 p1.Fy)),.p (.v (.bool p1.Ft))] [D.Q.cells p2,D.Q.cells p3,D.Q.cells p4]),hZ,hC,hS,hB,hO] ?_
  refine YM (Qh ?_)
  refine TJ.frz hGk rfl (.hole (.cons (.same rfl) (.cons (.same rfl) (.cons .own (.cons (.same rfl) (.cons (.same rfl) (.cons (.same rfl) .nil))))))) ?_
  refine TJ.unf (D.Q.cells p1) rfl ?_
  refine TJ.xa' hGn hGk 2 [a1,a2,(46,vI 4),(47,vI 1)] [hP,hZ,hC,hS,hB,hO] ?_
  exact Qh ⟨3,U,1,rfl,rfl⟩
 .skip
  refine TJ.xa hGn hGk 1 [a1,a2,(46,vI 4),(47,vI 1),(48,vB true)] [hP,hZ,hC,hS,hB,hO] ?_
  refine TJ.seq (TJ.cond_true rfl (TJ.skip (Qh ?_)))
  refine TJ.seq (TJ.block ?_)
  refine TJ.xa hGn hGk 2 [a1,a2,(46,vI 4),(47,vI 1),(4,vI 1)] [hP,hZ,hC,hS,hB,hO] ?_
  refine TJ.foc [D.Q.cells p1] [D.Q.cells p3,D.Q.cells p4] (D.Q.cells p2) rfl ?_
  refine TJ.xd' hGn hGk (sk 9 (clI 59 58 2059 .FA p2.Fg::aa 3)) (.sk (.m (QaS (cW _ (h.quiet _ Ob)) rfl rfl rfl rfl rfl (by kernel_rfl)) (Man.aa _ _)))
   [a1,a2,(46,vI 4),(47,vI 1)] [(2059,.TI 2 (p2.Fg.map (tcells .FA))),(2014,.hole 6 [D.Q.cells p1] [.p (.v (.string p2.Name)),.p (.v (.int .i64 p2.p)),own 2059 (p2.Fg.map (tcells .FA)).length,.p (.v (.int .i64 p2.Fx)),.p (.v (.int .i64 p2.Fy)),.p (.v (.bool p2.Ft))] [D.Q.cells p3,D.Q.cells p4]),hZ,hC,hS,hB,hO] ?_
  refine YM (Qh ?_)
  refine TJ.frz hGk rfl (.hole (.cons (.same rfl) (.cons (.same rfl) (.cons .own (.cons (.same rfl) (.cons (.same rfl) (.cons (.same rfl) .nil))))))) ?_
  refine TJ.unf (D.Q.cells p2) rfl ?_
  refine TJ.xa' hGn hGk 2 [a1,a2,(46,vI 4),(47,vI 2)] [hP,hZ,hC,hS,hB,hO] ?_
  exact Qh ⟨2,U,2,rfl,rfl⟩
 .skip
  refine TJ.xa hGn hGk 1 [a1,a2,(46,vI 4),(47,vI 2),(48,vB true)] [hP,hZ,hC,hS,hB,hO] ?_
  refine TJ.seq (TJ.cond_true rfl (TJ.skip (Qh ?_)))
  refine TJ.seq (TJ.block ?_)
  refine TJ.xa hGn hGk 2 [a1,a2,(46,vI 4),(47,vI 2),(4,vI 2)] [hP,hZ,hC,hS,hB,hO] ?_
  refine TJ.foc [D.Q.cells p1,D.Q.cells p2] [D.Q.cells p4] (D.Q.cells p3) rfl ?_
  refine TJ.xd' hGn hGk (sk 9 (clI 59 58 2059 .FA p3.Fg::aa 3)) (.sk (.m (QaS (cW _ (h.quiet _ Ob)) rfl rfl rfl rfl rfl (by kernel_rfl)) (Man.aa _ _)))
   [a1,a2,(46,vI 4),(47,vI 2)] [(2059,.TI 2 (p3.Fg.map (tcells .FA))),(2014,.hole 6 [D.Q.cells p1,D.Q.cells p2] [.p (.v (.string p3.Name)),.p (.v (.int .i64 p3.p)),own 2059 (p3.Fg.map (tcells .FA)).length,.p (.v (.int .i64 p3.Fx)),.p (.v (.int .i64 p3.Fy)),.p (.v (.bool p3.Ft))] [D.Q.cells p4]),hZ,hC,hS,hB,hO] ?_
  refine YM (Qh ?_)
  refine TJ.frz hGk rfl (.hole (.cons (.same rfl) (.cons (.same rfl) (.cons .own (.cons (.same rfl) (.cons (.same rfl) (.cons (.same rfl) .nil))))))) ?_
  refine TJ.unf (D.Q.cells p3) rfl ?_
  refine TJ.xa' hGn hGk 2 [a1,a2,(46,vI 4),(47,vI 3)] [hP,hZ,hC,hS,hB,hO] ?_
  exact Qh ⟨1,U,3,rfl,rfl⟩
 .skip
  refine TJ.xa hGn hGk 1 [a1,a2,(46,vI 4),(47,vI 3),(48,vB true)] [hP,hZ,hC,hS,hB,hO] ?_
  refine TJ.seq (TJ.cond_true rfl (TJ.skip (Qh ?_)))
  refine TJ.seq (TJ.block ?_)
  refine TJ.xa hGn hGk 2 [a1,a2,(46,vI 4),(47,vI 3),(4,vI 3)] [hP,hZ,hC,hS,hB,hO] ?_
  refine TJ.foc [D.Q.cells p1,D.Q.cells p2,D.Q.cells p3] [] (D.Q.cells p4) rfl ?_
  refine TJ.xd' hGn hGk (sk 9 (clI 59 58 2059 .FA p4.Fg::aa 3)) (.sk (.m (QaS (cW _ (h.quiet _ Ob)) rfl rfl rfl rfl rfl (by kernel_rfl)) (Man.aa _ _)))
   [a1,a2,(46,vI 4),(47,vI 3)] [(2059,.TI 2 (p4.Fg.map (tcells .FA))),(2014,.hole 6 [D.Q.cells p1,D.Q.cells p2,D.Q.cells p3] [.p (.v (.string p4.Name)),.p (.v (.int .i64 p4.p)),own 2059 (p4.Fg.map (tcells .FA)).length,.p (.v (.int .i64 p4.Fx)),.p (.v (.int .i64 p4.Fy)),.p (.v (.bool p4.Ft))] []),hZ,hC,hS,hB,hO] ?_
  refine YM (Qh ?_)
  refine TJ.frz hGk rfl (.hole (.cons (.same rfl) (.cons (.same rfl) (.cons .own (.cons (.same rfl) (.cons (.same rfl) (.cons (.same rfl) .nil))))))) ?_
  refine TJ.unf (D.Q.cells p4) rfl ?_
  refine TJ.xa' hGn hGk 2 [a1,a2,(46,vI 4),(47,vI 4)] [hP,hZ,hC,hS,hB,hO] ?_
  exact Qh ⟨0,U,4,rfl,rfl⟩
 refine TJ.xa hGn hGk 1 [a1,a2,(48,vB false)] [hP,hZ,hC,hS,hB,hO] ?_
 refine TJ.seq (TJ.cond_false rfl (TJ.exit ?_))
 refine Xj (Xj (Qak (Qh ?_)))
 refine TJ.seq (TJ.seq ?_)
 refine TJ.xa' hGn hGk 4 [a1,a2,(65,vI 0),(66,vI 0)] [hZ,hP,hC,hS,hB,hO] ?_
 refine Qh (TJ.block ?_)
 refine TJ.loop (fun m s=>∃i:Nat,i+m=0/\s=mk [a1,a2,(65,vI 0),(66,vI (i:Int))] [hZ,hP,hC,hS,hB,hO]) ⟨0,0,rfl,rfl⟩ ?_
 rintro m s ⟨i,hi,rfl⟩
 obtain rfl:i=0:=U
 refine TJ.xa hGn hGk 1 [a1,a2,(67,vB false)] [hZ,hP,hC,hS,hB,hO] ?_
 refine TJ.seq (TJ.cond_false rfl (TJ.exit ?_))
 refine Xj (Xj (Qak (Qh ?_)))
 refine TJ.seq (TJ.seq ?_)
 refine TJ.xa' hGn hGk 4 [a1,a2,(84,vI 2),(85,vI 0)] s3 ?_
 refine Qh (TJ.block ?_)
 refine TJ.loop (fun m s=>(m=2/\s=mk [a1,a2,(84,vI 2),(85,vI 0)] s3)\/(∃x0:AE,m=1/\s=mk [a1,a2,(84,vI 2),(85,vI 1)] [(o8 x0),hZ,hP,hC,hB,hO,(o6 x0),o2])\/(∃x0 x1:AE,m=0/\s=mk [a1,a2,(84,vI 2),(85,vI 2)] [(o11 x0 x1),hZ,hP,hC,hB,hO,(o6 x0),o2,(o7 x1),o3])) ⟨2,.inl ⟨rfl,rfl⟩⟩ ?_
 rintro m s (⟨rfl,rfl⟩|⟨x0,rfl,rfl⟩|⟨x0,x1,rfl,rfl⟩)
 .skip
  refine TJ.xa hGn hGk 1 [a1,a2,(84,vI 2),(85,vI 0),(86,vB true)] s3 ?_
  refine TJ.seq (TJ.cond_true rfl (TJ.skip (Qh ?_)))
  refine TJ.seq (TJ.block ?_)
  refine TJ.xa hGn hGk 2 [a1,a2,(84,vI 2),(85,vI 0),(6,vI 0)] s3 ?_
  refine TJ.foc [] [schR nb lb eb] (schR na la ea) rfl ?_
  refine TJ.xa hGn hGk 5 s1 [(2020,.hole 3 [] [.p (.v (.string na)),sl0 10 [D.w.cells la],sl0 5 (ea.map D.r.cells)] [schR nb lb eb]),hZ,hP,hC,hB,hO] ?_
  refine TJ.xd hGn hGk (sk 6 (clI 98 97 2098 .w [la]::sk 4 (clI 103 102 3000 .r ea::aa 6))) (.sk (.m (QaS (cL _ Ob) rfl rfl rfl rfl rfl (by kernel_rfl)) (.sk (.m (QaS (cE _ h.ea) rfl rfl rfl rfl rfl (by kernel_rfl)) (Man.aa _ _)))))
   s1 s6 ?_
  refine TJ.xa hGn hGk 6 s4 s6 ?_
  refine TJ.block ?_
  refine TJ.loop (fun m s=>∃j:Nat,j+m=1/\s=mk [a1,a2,(84,vI 2),(85,vI 0),(7,.aref 2020 2 0 0),(112,vI 1),(113,vI (j:Int))] s6) ⟨1,0,rfl,rfl⟩ ?_
  rintro m s ⟨j,hj,rfl⟩
  have hc:j=0\/j=1:=U
  rcases hc with rfl|rfl
  .skip
   refine TJ.xa hGn hGk 1 [a1,a2,(84,vI 2),(85,vI 0),(7,.aref 2020 2 0 0),(112,vI 1),(113,vI 0),(114,vB true)] s6 ?_
   refine TJ.seq (TJ.cond_true rfl (TJ.skip (Qh ?_)))
   refine TJ.seq (TJ.block ?_)
   refine TJ.xa hGn hGk 2 [a1,a2,(84,vI 2),(85,vI 0),(7,.aref 2020 2 0 0),(112,vI 1),(113,vI 0),(8,vI 0)] s6 ?_
   refine TJ.foc [] [] (D.w.cells la) rfl ?_
   refine TJ.xd' hGn hGk (sk 18 (clI 134 133 2134 .int la.s::sk 8 (clI 143 142 2143 .FA la.Fk::aa 6))) (.sk (.m (QaS (cI _ h.lam) rfl rfl rfl rfl rfl (by kernel_rfl)) (.sk (.m (QaS (cW _ h.law) rfl rfl rfl rfl rfl (by kernel_rfl)) (Man.aa _ _)))))
    s4 [(2134,.TI 1 (la.s.map (tcells .int))),(2098,.hole 10 [] [.p (.v (.string la.Name)),.p (.v (.int .i64 la.p)),.p (.v (.int .i64 la.R.Fl)),.p (.v (.int .i64 la.R.FU)),.p (.v (.int .i64 la.Unit)),.p (.v (.int .i64 la.FI)),own 2134 (la.s.map (tcells .int)).length,own 2143 (la.Fk.map (tcells .FA)).length,.p (.v (.int .i64 la.m)),.p (.v (.int .i64 la.F0))] []),o4,o10,hZ,hP,hC,hB,hO,o2] ?_
   refine YM (Qh ?_)
   refine TJ.frz hGk rfl (.hole (.cons (.same rfl) (.cons (.same rfl) (.cons (.same rfl) (.cons (.same rfl) (.cons (.same rfl) (.cons (.same rfl) (.cons .own (.cons (.same rfl) (.cons (.same rfl) (.cons (.same rfl) (.nil)))))))))))) ?_
   refine TJ.weaken (mk s4 [o4,(2098,.hole 10 [] [.p (.v (.string la.Name)),.p (.v (.int .i64 la.p)),.p (.v (.int .i64 la.R.Fl)),.p (.v (.int .i64 la.R.FU)),.p (.v (.int .i64 la.Unit)),.p (.v (.int .i64 la.FI)),sl0 1 (la.s.map (tcells .int)),own 2143 (la.Fk.map (tcells .FA)).length,.p (.v (.int .i64 la.m)),.p (.v (.int .i64 la.F0))] []),o10,hZ,hP,hC,hB,hO,o2]) (Weak.sub' hGk (by kernel_rfl)) ?_
   refine TJ.frz hGk rfl (.hole (.cons (.same rfl) (.cons (.same rfl) (.cons (.same rfl) (.cons (.same rfl) (.cons (.same rfl) (.cons (.same rfl) (.cons (.same rfl) (.cons .own (.cons (.same rfl) (.cons (.same rfl) (.nil)))))))))))) ?_
   refine TJ.unf (D.w.cells la) rfl ?_
   refine TJ.xa' hGn hGk 2 [a1,a2,(84,vI 2),(85,vI 0),(7,.aref 2020 2 0 0),(112,vI 1),(113,vI 1)] s6 ?_
   exact Qh ⟨0,U,1,rfl,rfl⟩
  refine TJ.xa hGn hGk 1 [a1,a2,(84,vI 2),(85,vI 0),(114,vB false)] s6 ?_
  refine TJ.seq (TJ.cond_false rfl (TJ.exit ?_))
  refine Xj (Xj (Qak (YM (Qh ?_))))
  refine TJ.frz hGk rfl (.hole (.cons (.same rfl) (.cons .own (.cons (.same rfl) .nil)))) ?_
  refine TJ.nameH (n:=3000) (n0:=3100) 2020 2 (by rw[hGk];exact BH) rfl rfl (by decide) rfl rfl (fun x0=>?_)
  refine TJ.pinH rfl rfl rfl (.cons (.same _) (.cons (.same _) (.cons .pin .nil))) ?_
  refine TJ.weaken (mk [a1,a2,(84,vI 2),(85,vI 0)] [(o9 x0),hZ,hP,hC,hB,hO,o2,(o6 x0)]) (Weak.sub' hGk (by kernel_rfl)) ?_
  refine TJ.unf [.v (.string na),.sl false 10 [D.w.cells la],.v x0] rfl ?_
  refine TJ.xa' hGn hGk 2 [a1,a2,(84,vI 2),(85,vI 1)] [(o8 x0),hZ,hP,hC,hB,hO,(o6 x0),o2] ?_
  exact Qh ⟨1,U,.inr (.inl ⟨x0,rfl,rfl⟩)⟩
 .skip
  refine TJ.xa hGn hGk 1 [a1,a2,(84,vI 2),(85,vI 1),(86,vB true)] [(o8 x0),hZ,hP,hC,hB,hO,(o6 x0),o2] ?_
  refine TJ.seq (TJ.cond_true rfl (TJ.skip (Qh ?_)))
  refine TJ.seq (TJ.block ?_)
  refine TJ.xa hGn hGk 2 [a1,a2,(84,vI 2),(85,vI 1),(6,vI 1)] [(o8 x0),hZ,hP,hC,hB,hO,(o6 x0),o2] ?_
  refine TJ.foc [[.v (.string na),.sl false 10 [D.w.cells la],.v x0]] [] (schR nb lb eb) rfl ?_
  refine TJ.xa hGn hGk 5 s2 [(2020,.hole 3 [[.v (.string na),.sl false 10 [D.w.cells la],.v x0]] [.p (.v (.string nb)),sl0 10 [D.w.cells lb],sl0 5 (eb.map D.r.cells)] []),hZ,hP,hC,hB,hO,(o6 x0),o2] ?_
  refine TJ.xd hGn hGk (sk 6 (clI 98 97 2098 .w [lb]::sk 4 (clI 103 102 3001 .r eb::aa 6))) (.sk (.m (QaS (cL _ Ob) rfl rfl rfl rfl rfl (by kernel_rfl)) (.sk (.m (QaS (cE _ h.eb) rfl rfl rfl rfl rfl (by kernel_rfl)) (Man.aa _ _)))))
   s2 [o1,(o13 x0),hZ,hP,hC,hB,hO,(o6 x0),o2,o3] ?_
  refine TJ.xa hGn hGk 6 s5 [o1,(o13 x0),hZ,hP,hC,hB,hO,(o6 x0),o2,o3] ?_
  refine TJ.block ?_
  refine TJ.loop (fun m s=>∃j:Nat,j+m=1/\s=mk [a1,a2,(84,vI 2),(85,vI 1),(7,.aref 2020 2 1 0),(112,vI 1),(113,vI (j:Int))] [o1,(o13 x0),hZ,hP,hC,hB,hO,(o6 x0),o2,o3]) ⟨1,0,rfl,rfl⟩ ?_
  rintro m s ⟨j,hj,rfl⟩
  have hc:j=0\/j=1:=U
  rcases hc with rfl|rfl
  .skip
   refine TJ.xa hGn hGk 1 [a1,a2,(84,vI 2),(85,vI 1),(7,.aref 2020 2 1 0),(112,vI 1),(113,vI 0),(114,vB true)] [o1,(o13 x0),hZ,hP,hC,hB,hO,(o6 x0),o2,o3] ?_
   refine TJ.seq (TJ.cond_true rfl (TJ.skip (Qh ?_)))
   refine TJ.seq (TJ.block ?_)
   refine TJ.xa hGn hGk 2 [a1,a2,(84,vI 2),(85,vI 1),(7,.aref 2020 2 1 0),(112,vI 1),(113,vI 0),(8,vI 0)] [o1,(o13 x0),hZ,hP,hC,hB,hO,(o6 x0),o2,o3] ?_
   refine TJ.foc [] [] (D.w.cells lb) rfl ?_
   refine TJ.xd' hGn hGk (sk 18 (clI 134 133 2134 .int lb.s::sk 8 (clI 143 142 2143 .FA lb.Fk::aa 6))) (.sk (.m (QaS (cI _ h.lbm) rfl rfl rfl rfl rfl (by kernel_rfl)) (.sk (.m (QaS (cW _ h.lbw) rfl rfl rfl rfl rfl (by kernel_rfl)) (Man.aa _ _)))))
    s5 [(2134,.TI 1 (lb.s.map (tcells .int))),(2098,.hole 10 [] [.p (.v (.string lb.Name)),.p (.v (.int .i64 lb.p)),.p (.v (.int .i64 lb.R.Fl)),.p (.v (.int .i64 lb.R.FU)),.p (.v (.int .i64 lb.Unit)),.p (.v (.int .i64 lb.FI)),own 2134 (lb.s.map (tcells .int)).length,own 2143 (lb.Fk.map (tcells .FA)).length,.p (.v (.int .i64 lb.m)),.p (.v (.int .i64 lb.F0))] []),o5,(o13 x0),hZ,hP,hC,hB,hO,(o6 x0),o2,o3] ?_
   refine YM (Qh ?_)
   refine TJ.frz hGk rfl (.hole (.cons (.same rfl) (.cons (.same rfl) (.cons (.same rfl) (.cons (.same rfl) (.cons (.same rfl) (.cons (.same rfl) (.cons .own (.cons (.same rfl) (.cons (.same rfl) (.cons (.same rfl) (.nil)))))))))))) ?_
   refine TJ.weaken (mk s5 [o5,(2098,.hole 10 [] [.p (.v (.string lb.Name)),.p (.v (.int .i64 lb.p)),.p (.v (.int .i64 lb.R.Fl)),.p (.v (.int .i64 lb.R.FU)),.p (.v (.int .i64 lb.Unit)),.p (.v (.int .i64 lb.FI)),sl0 1 (lb.s.map (tcells .int)),own 2143 (lb.Fk.map (tcells .FA)).length,.p (.v (.int .i64 lb.m)),.p (.v (.int .i64 lb.F0))] []),(o13 x0),hZ,hP,hC,hB,hO,(o6 x0),o2,o3]) (Weak.sub' hGk (by kernel_rfl)) ?_
   refine TJ.frz hGk rfl (.hole (.cons (.same rfl) (.cons (.same rfl) (.cons (.same rfl) (.cons (.same rfl) (.cons (.same rfl) (.cons (.same rfl) (.cons (.same rfl) (.cons .own (.cons (.same rfl) (.cons (.same rfl) (.nil)))))))))))) ?_
   refine TJ.unf (D.w.cells lb) rfl ?_
   refine TJ.xa' hGn hGk 2 [a1,a2,(84,vI 2),(85,vI 1),(7,.aref 2020 2 1 0),(112,vI 1),(113,vI 1)] [o1,(o13 x0),hZ,hP,hC,hB,hO,(o6 x0),o2,o3] ?_
   exact Qh ⟨0,U,1,rfl,rfl⟩
  refine TJ.xa hGn hGk 1 [a1,a2,(84,vI 2),(85,vI 1),(114,vB false)] [o1,(o13 x0),hZ,hP,hC,hB,hO,(o6 x0),o2,o3] ?_
  refine TJ.seq (TJ.cond_false rfl (TJ.exit ?_))
  refine Xj (Xj (Qak (YM (Qh ?_))))
  refine TJ.frz hGk rfl (.hole (.cons (.same rfl) (.cons .own (.cons (.same rfl) .nil)))) ?_
  refine TJ.nameH (n:=3001) (n0:=3101) 2020 2 (by rw[hGk];exact BH) rfl rfl (by decide) rfl rfl (fun x1=>?_)
  refine TJ.pinH rfl rfl rfl (.cons (.same _) (.cons (.same _) (.cons .pin .nil))) ?_
  refine TJ.weaken (mk [a1,a2,(84,vI 2),(85,vI 1)] [(o12 x0 x1),hZ,hP,hC,hB,hO,(o6 x0),o2,o3,(o7 x1)]) (Weak.sub' hGk (by kernel_rfl)) ?_
  refine TJ.unf [.v (.string nb),.sl false 10 [D.w.cells lb],.v x1] rfl ?_
  refine TJ.xa' hGn hGk 2 [a1,a2,(84,vI 2),(85,vI 2)] [(o11 x0 x1),hZ,hP,hC,hB,hO,(o6 x0),o2,(o7 x1),o3] ?_
  exact Qh ⟨0,U,.inr (.inr ⟨x0,x1,rfl,rfl⟩)⟩
 refine TJ.xa hGn hGk 1 [a1,a2,(86,vB false)] [(o11 x0 x1),hZ,hP,hC,hB,hO,(o6 x0),o2,(o7 x1),o3] ?_
 refine TJ.seq (TJ.cond_false rfl (TJ.exit ?_))
 refine Xj (Xj (Qak (Qh ?_)))
 subst hh
 cases r
 .skip
  refine TJ.weaken (mk [a1,a2] [(o11 x0 x1),hZ,hP,hC,hB,hO,(o6 x0),o2,(o7 x1),o3]) (Weak.sub' hGk (by kernel_rfl)) ?_
  refine TJ.foc [[.v (.string na),.sl false 10 [D.w.cells la],.v x0]] [] ([.v (.string nb),.sl false 10 [D.w.cells lb],.v x1]) rfl ?_
  refine TJ.weaken (mk [a1,a2] [o3,(o7 x1),(o12 x0 x1),hZ,hP,hC,hB,hO,(o6 x0),o2]) (Weak.sub' hGk (by kernel_rfl)) ?_
  refine TJ.frzP hGk rfl (.hole (.cons (.same rfl) (.cons (.same rfl) (.cons (.pin rfl) .nil)))) ?_
  refine TJ.unf (schR nb lb eb) rfl ?_
  refine TJ.foc [] [schR nb lb eb] ([.v (.string na),.sl false 10 [D.w.cells la],.v x0]) rfl ?_
  refine TJ.weaken (mk [a1,a2] [(o6 x0),(o9 x0),hZ,hP,hC,hB,hO,o2]) (Weak.sub' hGk (by kernel_rfl)) ?_
  refine TJ.pinH rfl rfl rfl (.cons (.same _) (.cons (.same _) (.cons .unpin .nil))) ?_
  refine TJ.xa hGn hGk 2 [a2] [(1002,boxC),hZ,hP,hC,(2020,.hole 3 [] [.p (.v (.string na)),sl0 10 [D.w.cells la],own 3000 (ea.map (tcells .r)).length] [schR nb lb eb]),o2] ?_
  refine TJ.ret (QkC (.inr rfl) (Res.agg rfl rfl rfl (by kernel_rfl) (by kernel_rfl)) rfl rfl ⟨rfl,rfl⟩)
 .skip
  refine TJ.weaken (mk [a1,a2] [(o11 x0 x1),hZ,hP,hC,hB,hO,(o6 x0),o2,(o7 x1),o3]) (Weak.sub' hGk (by kernel_rfl)) ?_
  refine TJ.foc [] [[.v (.string nb),.sl false 10 [D.w.cells lb],.v x1]] ([.v (.string na),.sl false 10 [D.w.cells la],.v x0]) rfl ?_
  refine TJ.weaken (mk [a1,a2] [o2,(o6 x0),(2020,.hole 3 [] [.p (.v (.string na)),sl0 10 [D.w.cells la],.p (.v x0)] [[.v (.string nb),.sl false 10 [D.w.cells lb],.v x1]]),hZ,hP,hC,hB,hO,(o7 x1),o3]) (Weak.sub' hGk (by kernel_rfl)) ?_
  refine TJ.frzP hGk rfl (.hole (.cons (.same rfl) (.cons (.same rfl) (.cons (.pin rfl) .nil)))) ?_
  refine TJ.unf (schR na la ea) rfl ?_
  refine TJ.foc [schR na la ea] [] ([.v (.string nb),.sl false 10 [D.w.cells lb],.v x1]) rfl ?_
  refine TJ.weaken (mk [a1,a2] [(o7 x1),(2020,.hole 3 [schR na la ea] [.p (.v (.string nb)),sl0 10 [D.w.cells lb],.p (.v x1)] []),hZ,hP,hC,hB,hO,o3]) (Weak.sub' hGk (by kernel_rfl)) ?_
  refine TJ.pinH rfl rfl rfl (.cons (.same _) (.cons (.same _) (.cons .unpin .nil))) ?_
  refine TJ.xa hGn hGk 2 [a2] [(1002,boxC),hZ,hP,hC,(2020,.hole 3 [schR na la ea] [.p (.v (.string nb)),sl0 10 [D.w.cells lb],own 3001 (eb.map (tcells .r)).length] []),o3] ?_
  refine TJ.ret (QkC (.inr rfl) (Res.agg rfl rfl rfl (by kernel_rfl) (by kernel_rfl)) rfl rfl ⟨rfl,rfl⟩)
end
noncomputable section
def cfg0:D.E:={ FF:=[],k:=[],n:=[],f:=[] }
def addE(c:D.E)(a b:D.c)(s:Int)(x:D.r):D.E:=
 if s=0 then{ c with f:=[{ a with FS:=a.FS++[x] },b] }else{ c with f:=[a,{ b with FS:=b.FS++[x] }] }
open Classical in
def Ub(fu:Nat)(p0:D.E)(p1:Int)(p2:D.r):I (D.E×Int):=
 match p0.FF,p0.k,p0.n,p0.f with
 |[z],[q1,q2,q3,q4],[],[a,b]=>match a.Fi,b.Fi with
  |[la],[lb]=>if Qob fu z [q1,q2,q3,q4] la lb a.FS b.FS then
    V (Q5 fu p0) fun e=>J (decide (e≠0)) none (J (decide (0<=p1/\p1<2))
     (V (Q5 fu (addE p0 a b p1 p2)) fun e=>J (decide (e≠0)) none (some (addE p0 a b p1 p2,0))) (some (cfg0,3)))else none
  |_,_=>none
 |_,_,_,_=>none
def Qrp(fu:Nat):Sig:=Ql [.st .E,.one (.TZ .i64),.st .r] [] [.st .E,.one (.TZ .i64)] [] [] (D.E×Int) (fun q=>((q.1,q.2,()),())) (fun x y=>Ub fu x.1 x.2.1 x.2.2.1)
section
abbrev cfgD(z:D.p)(p1 p2 p3 p4:D.Q)(na nb:AJ)(la lb:D.w)(ea eb:Y D.r):D.E:=⟨[z],[p1,p2,p3,p4],[],[⟨na,[la],ea⟩,⟨nb,[lb],eb⟩]⟩
def Qlf(he:Q5 fu (cfgD z p1 p2 p3 p4 na nb la lb ea eb)=some e):WH Tryz.prog 172 [.agg (cfgA z p1 p2 p3 p4 na nb la lb ea eb)] [] (vI e) []:=by
 obtain⟨L1,_,_,hs⟩:=(Qbk fu).spec (cfgD z p1 p2 p3 p4 na nb la lb ea eb,()) () (e,()) () (by show V (Q5 fu _) _=_;rw[he];rfl) (fun _ _=>0) (fun n t l v hn=>by change AM.C n []=_ at hn;simp[AM.C]at hn)
 exact hs
def Quv(he:V3 fu (cfgD z p1 p2 p3 p4 na nb la lb ea eb) s=some q):WH Tryz.prog 356 [.agg (cfgA z p1 p2 p3 p4 na nb la lb ea eb),vI s] [] (vB q) []:=by
 obtain⟨L1,_,_,hs⟩:=(QhM fu).spec (cfgD z p1 p2 p3 p4 na nb la lb ea eb,s,()) () (q,()) () (by show V (V3 fu _ s) _=_;rw[he];rfl) (fun _ _=>0) (fun n t l v hn=>by change AM.C n []=_ at hn;simp[AM.C]at hn)
 exact hs
abbrev ownA:AV:=.agg [own 2011 1,own 2014 4,own 2017 0,own 2020 2]
abbrev Qpk(z:D.p)(p1 p2 p3 p4:D.Q)(na nb:AJ)(la lb:D.w)(ea eb:Y D.r)(r:AH):Y (Name×AO):=
 bif r then[(2011,.TI 3 [D.p.cells z]),(2014,.TI 6 [D.Q.cells p1,D.Q.cells p2,D.Q.cells p3,D.Q.cells p4]),(2017,.TI 3 []),(2020,.hole 3 [schR na la ea] [.p (.v (.string nb)),sl0 10 [D.w.cells lb],own 3001 (eb.map (tcells .r)).length] []),(3001,.TI 5 (eb.map (tcells .r)))]
   else[(2011,.TI 3 [D.p.cells z]),(2014,.TI 6 [D.Q.cells p1,D.Q.cells p2,D.Q.cells p3,D.Q.cells p4]),(2017,.TI 3 []),(2020,.hole 3 [] [.p (.v (.string na)),sl0 10 [D.w.cells la],own 3000 (ea.map (tcells .r)).length] [schR nb lb eb]),(3000,.TI 5 (ea.map (tcells .r)))]
abbrev newN(r:AH):Y Name:=bif r then[2011,2014,2017,2020,3001]else[2011,2014,2017,2020,3000]
def QkB(h:Qob fu z [p1,p2,p3,p4] la lb ea eb)(hc:Q5 fu (cfgD z p1 p2 p3 p4 na nb la lb ea eb)=some 0)(r):
  WH Tryz.prog 337 [.agg (cfgA z p1 p2 p3 p4 na nb la lb ea eb),vI (bif r then 1 else 0)] [] (.tup [ownA,vI 0]) (Qpk z p1 p2 p3 p4 na nb la lb ea eb r):=by
 have hK:=Qrq (na:=na) (nb:=nb) h r _ rfl
 have hI:V3 fu (cfgD z p1 p2 p3 p4 na nb la lb ea eb) (bif r then 1 else 0)=some true:=by cases r<;>rfl
 refine Spec.intro Tryz.func337 rfl (by kernel_rfl) ?_
 intro Γ hGn hGk
 replace hGn:Γ.n=_:=hGn
 replace hGk:Γ.names=[]:=hGk
 let hA:Name×AO:=(1002,.box (cfgA z p1 p2 p3 p4 na nb la lb ea eb))
 refine TJ.xa hGn hGk 3 [(1,vI (bif r then 1 else 0)),(2,.TN 1002 0),(4,.TN 1004 0)] [hA,(1004,box0)] ?_
 refine TJ.seq ?_
 refine TJ.xr hGn hGk (sk 1 (.m (some 7) ⟨[(6,.agg (cfgA z p1 p2 p3 p4 na nb la lb ea eb))],[],vI 0,[],[]⟩::aa 1)) (.sk (.m (QlV (Qlf hc) rfl rfl rfl rfl (by kernel_rfl) (by rfl) (by kernel_rfl)) (Man.aa _ _)))
  [(1,vI (bif r then 1 else 0)),(2,.TN 1002 0),(4,.TN 1004 0),(8,vB false)] [hA,(1004,box0)] ?_
 refine TJ.cond_false rfl (TJ.skip (Qh ?_))
 refine TJ.seq ?_
 refine TJ.xr hGn hGk (sk 2 (.m (some 12) ⟨[(10,.agg (cfgA z p1 p2 p3 p4 na nb la lb ea eb)),(11,vI (bif r then 1 else 0))],[],vB true,[],[]⟩::aa 1)) (.sk (.m (QlV (Quv hI) rfl rfl rfl rfl (by kernel_rfl) (by rfl) (by kernel_rfl)) (Man.aa _ _)))
  [(2,.TN 1002 0),(4,.TN 1004 0),(13,vB false)] [hA,(1004,box0)] ?_
 refine TJ.cond_false rfl (TJ.skip (Qh ?_))
 cases r
 .refine TJ.xr hGn hGk (sk 1 (.m (some 16) ⟨[(15,.agg (cfgA z p1 p2 p3 p4 na nb la lb ea eb))],[],ownA,Qpk z p1 p2 p3 p4 na nb la lb ea eb false,newN false⟩::aa 2)) (.sk (.m (QlV hK rfl rfl rfl rfl (by kernel_rfl) (by rfl) (by kernel_rfl)) (Man.aa _ _)))
   [(4,.TN 1004 0),(5,vI 0)] ((1004,boxC)::Qpk z p1 p2 p3 p4 na nb la lb ea eb false) ?_
  exact TJ.ret (QkC (.inr rfl) (Res.many rfl (.cons (Res1.agg rfl rfl (by kernel_rfl) (by kernel_rfl)) (.cons (Res1.tmp rfl) .nil))) rfl rfl ⟨rfl,rfl⟩)
 .refine TJ.xr hGn hGk (sk 1 (.m (some 16) ⟨[(15,.agg (cfgA z p1 p2 p3 p4 na nb la lb ea eb))],[],ownA,Qpk z p1 p2 p3 p4 na nb la lb ea eb true,newN true⟩::aa 2)) (.sk (.m (QlV hK rfl rfl rfl rfl (by kernel_rfl) (by rfl) (by kernel_rfl)) (Man.aa _ _)))
   [(4,.TN 1004 0),(5,vI 0)] ((1004,boxC)::Qpk z p1 p2 p3 p4 na nb la lb ea eb true) ?_
  exact TJ.ret (QkC (.inr rfl) (Res.many rfl (.cons (Res1.agg rfl rfl (by kernel_rfl) (by kernel_rfl)) (.cons (Res1.tmp rfl) .nil))) rfl rfl ⟨rfl,rfl⟩)
def Qrs(hc:Q5 fu (cfgD z p1 p2 p3 p4 na nb la lb ea eb)=some 0)(hs:¬(0<=s/\s<2)):
  WH Tryz.prog 337 [.agg (cfgA z p1 p2 p3 p4 na nb la lb ea eb),vI s] [] (.tup [.agg [nl,nl,nl,nl],vI 3]) []:=by
 have hI:V3 fu (cfgD z p1 p2 p3 p4 na nb la lb ea eb) s=some false:=by
  show J (decide (0<=s)) (J (decide (s<((2:Nat):Int))) (some true) (some false)) (some false)=some false
  by_cases h0:0<=s
  .have h1:¬s<((2:Nat):Int):=U
   rw[Au h0,Av h1];rfl
  .rw[Av h0];rfl
 refine Spec.intro Tryz.func337 rfl (by kernel_rfl) ?_
 intro Γ hGn hGk
 replace hGn:Γ.n=_:=hGn
 replace hGk:Γ.names=[]:=hGk
 let hA:Name×AO:=(1002,.box (cfgA z p1 p2 p3 p4 na nb la lb ea eb))
 refine TJ.xa hGn hGk 3 [(1,vI s),(2,.TN 1002 0),(4,.TN 1004 0)] [hA,(1004,box0)] ?_
 refine TJ.seq ?_
 refine TJ.xr hGn hGk (sk 1 (.m (some 7) ⟨[(6,.agg (cfgA z p1 p2 p3 p4 na nb la lb ea eb))],[],vI 0,[],[]⟩::aa 1)) (.sk (.m (QlV (Qlf hc) rfl rfl rfl rfl (by kernel_rfl) (by rfl) (by kernel_rfl)) (Man.aa _ _)))
  [(1,vI s),(2,.TN 1002 0),(4,.TN 1004 0),(8,vB false)] [hA,(1004,box0)] ?_
 refine TJ.cond_false rfl (TJ.skip (Qh ?_))
 refine TJ.seq ?_
 refine TJ.xr hGn hGk (sk 2 (.m (some 12) ⟨[(10,.agg (cfgA z p1 p2 p3 p4 na nb la lb ea eb)),(11,vI s)],[],vB false,[],[]⟩::aa 1)) (.sk (.m (QlV (Quv hI) rfl rfl rfl rfl (by kernel_rfl) (by rfl) (by kernel_rfl)) (Man.aa _ _)))
  [(2,.TN 1002 0),(4,.TN 1004 0),(13,vB true)] [hA,(1004,box0)] ?_
 refine TJ.cond_true rfl ?_
 refine TJ.xa hGn hGk 3 [(4,.TN 1004 0),(5,vI 3)] [(1004,box0)] ?_
 exact TJ.ret (QrR (QkC (.inr rfl) (Res.many rfl (.cons (Res1.agg rfl rfl (by kernel_rfl) (by kernel_rfl)) (.cons (Res1.tmp rfl) .nil))) rfl rfl ⟨rfl,rfl⟩))
def Qpq(hc:Q5 fu (cfgD z p1 p2 p3 p4 na nb la lb ea eb)=some 0)(hs:¬(0<=s/\s<2)):
  WH Tryz.prog 290 [.agg (cfgA z p1 p2 p3 p4 na nb la lb ea eb),vI s,.agg ((D.r.cells x).map .p)] [] (.tup [.agg [sl0 3 [],sl0 6 [],sl0 3 [],sl0 3 []],vI 3]) []:=by
 have hO:=Qrs hc hs
 refine Spec.intro Tryz.func290 rfl (by kernel_rfl) ?_
 intro Γ hGn hGk
 replace hGn:Γ.n=_:=hGn
 replace hGk:Γ.names=[]:=hGk
 let hE:Name×AO:=(1005,.box ((D.r.cells x).map .p))
 refine TJ.xa hGn hGk 4 [(1,vI s),(3,.TN 1003 0),(5,.TN 1005 0),(6,.TN 1006 0)] [(1003,.box (cfgA z p1 p2 p3 p4 na nb la lb ea eb)),hE,(1006,box0)] ?_
 refine TJ.xr hGn hGk (sk 2 (.m (some 14) ⟨[(12,.agg (cfgA z p1 p2 p3 p4 na nb la lb ea eb)),(13,vI s)],[],.tup [.agg [nl,nl,nl,nl],vI 3],[],[]⟩::aa 5)) (.sk (.m (QlV hO rfl rfl rfl rfl (by kernel_rfl) (by rfl) (by kernel_rfl)) (Man.aa _ _)))
  [(6,.TN 1006 0),(8,vI 3)] [(1006,box0)] ?_
 refine TJ.seq ?_
 refine TJ.xa hGn hGk 2 [(6,.TN 1006 0),(8,vI 3),(18,vB true)] [(1006,box0)] ?_
 refine TJ.cond_true rfl ?_
 refine TJ.xa hGn hGk 4 [(6,.TN 1006 0),(7,vI 3)] [(1006,box0)] ?_
 refine TJ.weaken (mk [(6,.TN 1006 0),(7,vI 3)] [(1006,.box [sl0 3 [],sl0 6 [],sl0 3 [],sl0 3 []])]) (Weak.le (TsLe.refl _) ⟨rfl,.box (.cons (.p (PVle.nil Ob)) (.cons (.p (PVle.nil Ob)) (.cons (.p (PVle.nil Ob)) (.cons (.p (PVle.nil Ob)) .nil)))),trivial⟩) ?_
 exact TJ.ret (QrR (QkC (.inr rfl) (Res.many rfl (.cons (Res1.agg rfl rfl (by kernel_rfl) (by kernel_rfl)) (.cons (Res1.tmp rfl) .nil))) rfl rfl ⟨rfl,rfl⟩))
def Qrn(h:Qob fu z [p1,p2,p3,p4] la lb ea eb)(hc:Q5 fu (cfgD z p1 p2 p3 p4 na nb la lb ea eb)=some 0)(hc2:Q5 fu (cfgD z p1 p2 p3 p4 na nb la lb (ea++[x]) eb)=some 0):
  WH Tryz.prog 290 [.agg (cfgA z p1 p2 p3 p4 na nb la lb ea eb),vI 0,.agg ((D.r.cells x).map .p)] [] (.tup [.agg (cfgA z p1 p2 p3 p4 na nb la lb (ea++[x]) eb),vI 0]) []:=by
 have hO:=QkB h hc false
 have hl:=h.ea
 refine Spec.intro Tryz.func290 rfl (by kernel_rfl) ?_
 intro Γ hGn hGk
 replace hGn:Γ.n=_:=hGn
 replace hGk:Γ.names=[]:=hGk
 let hE:Name×AO:=(1005,.box ((D.r.cells x).map .p))
 refine TJ.xa hGn hGk 4 [(1,vI 0),(3,.TN 1003 0),(5,.TN 1005 0),(6,.TN 1006 0)] [(1003,.box (cfgA z p1 p2 p3 p4 na nb la lb ea eb)),hE,(1006,box0)] ?_
 refine TJ.xr hGn hGk (sk 2 (.m (some 14) ⟨[(12,.agg (cfgA z p1 p2 p3 p4 na nb la lb ea eb)),(13,vI 0)],[],.tup [ownA,vI 0],Qpk z p1 p2 p3 p4 na nb la lb ea eb false,newN false⟩::aa 5)) (.sk (.m (QlV hO rfl rfl rfl rfl (by kernel_rfl) (by rfl) (by kernel_rfl)) (Man.aa _ _)))
  [(1,vI 0),(3,.TN 1003 0),(5,.TN 1005 0),(6,.TN 1006 0),(8,vI 0)] ((1003,boxC)::hE::(1006,box0)::Qpk z p1 p2 p3 p4 na nb la lb ea eb false) ?_
 refine TJ.seq ?_
 refine TJ.xa hGn hGk 2 [(1,vI 0),(3,.TN 1003 0),(5,.TN 1005 0),(6,.TN 1006 0),(18,vB false)] [(1003,boxC),hE,(1006,box0),(2011,.TI 3 [D.p.cells z]),(2014,.TI 6 [D.Q.cells p1,D.Q.cells p2,D.Q.cells p3,D.Q.cells p4]),(2017,.TI 3 []),(2020,.hole 3 [] [.p (.v (.string na)),sl0 10 [D.w.cells la],own 3000 (ea.map (tcells .r)).length] [schR nb lb eb]),(3000,.TI 5 (ea.map (tcells .r)))] ?_
 refine TJ.cond_false rfl (TJ.skip (Qh ?_))
 refine TJ.xa hGn hGk 5 [(3,.TN 1003 0),(5,.TN 1005 0),(6,.TN 1006 0),(9,.aref 2020 2 0 0)] [(1003,boxC),hE,(1006,box0),(2011,.TI 3 [D.p.cells z]),(2014,.TI 6 [D.Q.cells p1,D.Q.cells p2,D.Q.cells p3,D.Q.cells p4]),(2017,.TI 3 []),(2020,.hole 3 [] [.p (.v (.string na)),sl0 10 [D.w.cells la],own 3000 (ea.map (tcells .r)).length] [schR nb lb eb]),(3000,.TI 5 (ea.map (tcells .r)))] ?_
 refine TJ.xd hGn hGk (sk 7 (.m (some 32) ⟨[(29,own 3000 (ea.map (tcells .r)).length),(31,.p (.sl true 5 [D.r.cells x]))],[(3000,.TI 5 (ea.map (tcells .r)))],own 3000 ((ea++[x]).map (tcells .r)).length,[(3000,.TI 5 ((ea++[x]).map (tcells .r)))],[]⟩::aa 3))
  (.sk (.m (ZP.p (o:=_) rfl rfl rfl (TD.appendOwn (T:=136) (e:=57) (bytes:=40) rfl rfl (by kernel_rfl) (by kernel_rfl) rfl (B2 _) rfl (by rw[Ax];rfl) rfl (by simp only[AZ,Ab,Am];omega) (by simp only[AZ,Ab,Am];omega))) (Man.aa _ _)))
  [(3,.TN 1003 0),(5,.TN 1005 0),(6,.TN 1006 0)] [(3000,.TI 5 ((ea++[x]).map (tcells .r))),(2020,.hole 3 [] [.p (.v (.string na)),sl0 10 [D.w.cells la],own 3000 ((ea++[x]).map (tcells .r)).length] [schR nb lb eb]),(1003,boxC),hE,(1006,box0),(2011,.TI 3 [D.p.cells z]),(2014,.TI 6 [D.Q.cells p1,D.Q.cells p2,D.Q.cells p3,D.Q.cells p4]),(2017,.TI 3 [])] ?_
 refine TJ.frz hGk rfl (.hole (.cons (.same rfl) (.cons (.same rfl) (.cons .own .nil)))) ?_
 refine TJ.unf (schR na la (ea++[x])) rfl ?_
 refine TJ.weaken (mk [(3,.TN 1003 0),(5,.TN 1005 0),(6,.TN 1006 0)] [(2011,.TI 3 [D.p.cells z]),(1003,.box [own 2011 1,own 2014 4,own 2017 0,own 2020 2]),hE,(1006,box0),(2014,.TI 6 [D.Q.cells p1,D.Q.cells p2,D.Q.cells p3,D.Q.cells p4]),(2017,.TI 3 []),(2020,.TI 3 [schR na la (ea++[x]),schR nb lb eb])]) (Weak.sub' hGk (by kernel_rfl)) ?_
 refine TJ.frz hGk rfl (.box (.cons .own (.cons (.same rfl) (.cons (.same rfl) (.cons (.same rfl) (.nil)))))) ?_
 refine TJ.weaken (mk [(3,.TN 1003 0),(5,.TN 1005 0),(6,.TN 1006 0)] [(2014,.TI 6 [D.Q.cells p1,D.Q.cells p2,D.Q.cells p3,D.Q.cells p4]),(1003,.box [sl0 3 [D.p.cells z],own 2014 4,own 2017 0,own 2020 2]),hE,(1006,box0),(2017,.TI 3 []),(2020,.TI 3 [schR na la (ea++[x]),schR nb lb eb])]) (Weak.sub' hGk (by kernel_rfl)) ?_
 refine TJ.frz hGk rfl (.box (.cons (.same rfl) (.cons .own (.cons (.same rfl) (.cons (.same rfl) (.nil)))))) ?_
 refine TJ.weaken (mk [(3,.TN 1003 0),(5,.TN 1005 0),(6,.TN 1006 0)] [(2017,.TI 3 []),(1003,.box [sl0 3 [D.p.cells z],sl0 6 [D.Q.cells p1,D.Q.cells p2,D.Q.cells p3,D.Q.cells p4],own 2017 0,own 2020 2]),hE,(1006,box0),(2020,.TI 3 [schR na la (ea++[x]),schR nb lb eb])]) (Weak.sub' hGk (by kernel_rfl)) ?_
 refine TJ.frz hGk rfl (.box (.cons (.same rfl) (.cons (.same rfl) (.cons .own (.cons (.same rfl) (.nil)))))) ?_
 refine TJ.weaken (mk [(3,.TN 1003 0),(5,.TN 1005 0),(6,.TN 1006 0)] [(2020,.TI 3 [schR na la (ea++[x]),schR nb lb eb]),(1003,.box [sl0 3 [D.p.cells z],sl0 6 [D.Q.cells p1,D.Q.cells p2,D.Q.cells p3,D.Q.cells p4],sl0 3 [],own 2020 2]),hE,(1006,box0)]) (Weak.sub' hGk (by kernel_rfl)) ?_
 refine TJ.frz hGk rfl (.box (.cons (.same rfl) (.cons (.same rfl) (.cons (.same rfl) (.cons .own (.nil)))))) ?_
 refine TJ.seq ?_
 refine TJ.xr hGn hGk (sk 1 (.m (some 36) ⟨[(35,.agg (cfgA z p1 p2 p3 p4 na nb la lb (ea++[x]) eb))],[],vI 0,[],[]⟩::aa 1)) (.sk (.m (QlV (Qlf hc2) rfl rfl rfl rfl (by kernel_rfl) (by rfl) (by kernel_rfl)) (Man.aa _ _)))
  [(3,.TN 1003 0),(6,.TN 1006 0),(10,vI 0)] [(1003,.box (cfgA z p1 p2 p3 p4 na nb la lb (ea++[x]) eb)),(1006,box0)] ?_
 refine TJ.xa hGn hGk 2 [(3,.TN 1003 0),(6,.TN 1006 0),(38,vB false)] [(1003,.box (cfgA z p1 p2 p3 p4 na nb la lb (ea++[x]) eb)),(1006,box0)] ?_
 refine TJ.cond_false rfl (TJ.skip (Qh ?_))
 refine TJ.xa hGn hGk 3 [(6,.TN 1006 0),(7,vI 0)] [(1006,.box (cfgA z p1 p2 p3 p4 na nb la lb (ea++[x]) eb))] ?_
 exact TJ.ret (QkC (.inr rfl) (Res.many rfl (.cons (Res1.agg rfl rfl (by kernel_rfl) (by kernel_rfl)) (.cons (Res1.tmp rfl) .nil))) rfl rfl ⟨rfl,rfl⟩)
def Qro(h:Qob fu z [p1,p2,p3,p4] la lb ea eb)(hc:Q5 fu (cfgD z p1 p2 p3 p4 na nb la lb ea eb)=some 0)(hc2:Q5 fu (cfgD z p1 p2 p3 p4 na nb la lb ea (eb++[x]))=some 0):
  WH Tryz.prog 290 [.agg (cfgA z p1 p2 p3 p4 na nb la lb ea eb),vI 1,.agg ((D.r.cells x).map .p)] [] (.tup [.agg (cfgA z p1 p2 p3 p4 na nb la lb ea (eb++[x])),vI 0]) []:=by
 have hO:=QkB h hc true
 have hl:=h.eb
 refine Spec.intro Tryz.func290 rfl (by kernel_rfl) ?_
 intro Γ hGn hGk
 replace hGn:Γ.n=_:=hGn
 replace hGk:Γ.names=[]:=hGk
 let hE:Name×AO:=(1005,.box ((D.r.cells x).map .p))
 refine TJ.xa hGn hGk 4 [(1,vI 1),(3,.TN 1003 0),(5,.TN 1005 0),(6,.TN 1006 0)] [(1003,.box (cfgA z p1 p2 p3 p4 na nb la lb ea eb)),hE,(1006,box0)] ?_
 refine TJ.xr hGn hGk (sk 2 (.m (some 14) ⟨[(12,.agg (cfgA z p1 p2 p3 p4 na nb la lb ea eb)),(13,vI 1)],[],.tup [ownA,vI 0],Qpk z p1 p2 p3 p4 na nb la lb ea eb true,newN true⟩::aa 5)) (.sk (.m (QlV hO rfl rfl rfl rfl (by kernel_rfl) (by rfl) (by kernel_rfl)) (Man.aa _ _)))
  [(1,vI 1),(3,.TN 1003 0),(5,.TN 1005 0),(6,.TN 1006 0),(8,vI 0)] ((1003,boxC)::hE::(1006,box0)::Qpk z p1 p2 p3 p4 na nb la lb ea eb true) ?_
 refine TJ.seq ?_
 refine TJ.xa hGn hGk 2 [(1,vI 1),(3,.TN 1003 0),(5,.TN 1005 0),(6,.TN 1006 0),(18,vB false)] [(1003,boxC),hE,(1006,box0),(2011,.TI 3 [D.p.cells z]),(2014,.TI 6 [D.Q.cells p1,D.Q.cells p2,D.Q.cells p3,D.Q.cells p4]),(2017,.TI 3 []),(2020,.hole 3 [schR na la ea] [.p (.v (.string nb)),sl0 10 [D.w.cells lb],own 3001 (eb.map (tcells .r)).length] []),(3001,.TI 5 (eb.map (tcells .r)))] ?_
 refine TJ.cond_false rfl (TJ.skip (Qh ?_))
 refine TJ.xa hGn hGk 5 [(3,.TN 1003 0),(5,.TN 1005 0),(6,.TN 1006 0),(9,.aref 2020 2 1 0)] [(1003,boxC),hE,(1006,box0),(2011,.TI 3 [D.p.cells z]),(2014,.TI 6 [D.Q.cells p1,D.Q.cells p2,D.Q.cells p3,D.Q.cells p4]),(2017,.TI 3 []),(2020,.hole 3 [schR na la ea] [.p (.v (.string nb)),sl0 10 [D.w.cells lb],own 3001 (eb.map (tcells .r)).length] []),(3001,.TI 5 (eb.map (tcells .r)))] ?_
 refine TJ.xd hGn hGk (sk 7 (.m (some 32) ⟨[(29,own 3001 (eb.map (tcells .r)).length),(31,.p (.sl true 5 [D.r.cells x]))],[(3001,.TI 5 (eb.map (tcells .r)))],own 3001 ((eb++[x]).map (tcells .r)).length,[(3001,.TI 5 ((eb++[x]).map (tcells .r)))],[]⟩::aa 3))
  (.sk (.m (ZP.p (o:=_) rfl rfl rfl (TD.appendOwn (T:=136) (e:=57) (bytes:=40) rfl rfl (by kernel_rfl) (by kernel_rfl) rfl (B2 _) rfl (by rw[Ax];rfl) rfl (by simp only[AZ,Ab,Am];omega) (by simp only[AZ,Ab,Am];omega))) (Man.aa _ _)))
  [(3,.TN 1003 0),(5,.TN 1005 0),(6,.TN 1006 0)] [(3001,.TI 5 ((eb++[x]).map (tcells .r))),(2020,.hole 3 [schR na la ea] [.p (.v (.string nb)),sl0 10 [D.w.cells lb],own 3001 ((eb++[x]).map (tcells .r)).length] []),(1003,boxC),hE,(1006,box0),(2011,.TI 3 [D.p.cells z]),(2014,.TI 6 [D.Q.cells p1,D.Q.cells p2,D.Q.cells p3,D.Q.cells p4]),(2017,.TI 3 [])] ?_
 refine TJ.frz hGk rfl (.hole (.cons (.same rfl) (.cons (.same rfl) (.cons .own .nil)))) ?_
 refine TJ.unf (schR nb lb (eb++[x])) rfl ?_
 refine TJ.weaken (mk [(3,.TN 1003 0),(5,.TN 1005 0),(6,.TN 1006 0)] [(2011,.TI 3 [D.p.cells z]),(1003,.box [own 2011 1,own 2014 4,own 2017 0,own 2020 2]),hE,(1006,box0),(2014,.TI 6 [D.Q.cells p1,D.Q.cells p2,D.Q.cells p3,D.Q.cells p4]),(2017,.TI 3 []),(2020,.TI 3 [schR na la ea,schR nb lb (eb++[x])])]) (Weak.sub' hGk (by kernel_rfl)) ?_
 refine TJ.frz hGk rfl (.box (.cons .own (.cons (.same rfl) (.cons (.same rfl) (.cons (.same rfl) (.nil)))))) ?_
 refine TJ.weaken (mk [(3,.TN 1003 0),(5,.TN 1005 0),(6,.TN 1006 0)] [(2014,.TI 6 [D.Q.cells p1,D.Q.cells p2,D.Q.cells p3,D.Q.cells p4]),(1003,.box [sl0 3 [D.p.cells z],own 2014 4,own 2017 0,own 2020 2]),hE,(1006,box0),(2017,.TI 3 []),(2020,.TI 3 [schR na la ea,schR nb lb (eb++[x])])]) (Weak.sub' hGk (by kernel_rfl)) ?_
 refine TJ.frz hGk rfl (.box (.cons (.same rfl) (.cons .own (.cons (.same rfl) (.cons (.same rfl) (.nil)))))) ?_
 refine TJ.weaken (mk [(3,.TN 1003 0),(5,.TN 1005 0),(6,.TN 1006 0)] [(2017,.TI 3 []),(1003,.box [sl0 3 [D.p.cells z],sl0 6 [D.Q.cells p1,D.Q.cells p2,D.Q.cells p3,D.Q.cells p4],own 2017 0,own 2020 2]),hE,(1006,box0),(2020,.TI 3 [schR na la ea,schR nb lb (eb++[x])])]) (Weak.sub' hGk (by kernel_rfl)) ?_
 refine TJ.frz hGk rfl (.box (.cons (.same rfl) (.cons (.same rfl) (.cons .own (.cons (.same rfl) (.nil)))))) ?_
 refine TJ.weaken (mk [(3,.TN 1003 0),(5,.TN 1005 0),(6,.TN 1006 0)] [(2020,.TI 3 [schR na la ea,schR nb lb (eb++[x])]),(1003,.box [sl0 3 [D.p.cells z],sl0 6 [D.Q.cells p1,D.Q.cells p2,D.Q.cells p3,D.Q.cells p4],sl0 3 [],own 2020 2]),hE,(1006,box0)]) (Weak.sub' hGk (by kernel_rfl)) ?_
 refine TJ.frz hGk rfl (.box (.cons (.same rfl) (.cons (.same rfl) (.cons (.same rfl) (.cons .own (.nil)))))) ?_
 refine TJ.seq ?_
 refine TJ.xr hGn hGk (sk 1 (.m (some 36) ⟨[(35,.agg (cfgA z p1 p2 p3 p4 na nb la lb ea (eb++[x])))],[],vI 0,[],[]⟩::aa 1)) (.sk (.m (QlV (Qlf hc2) rfl rfl rfl rfl (by kernel_rfl) (by rfl) (by kernel_rfl)) (Man.aa _ _)))
  [(3,.TN 1003 0),(6,.TN 1006 0),(10,vI 0)] [(1003,.box (cfgA z p1 p2 p3 p4 na nb la lb ea (eb++[x]))),(1006,box0)] ?_
 refine TJ.xa hGn hGk 2 [(3,.TN 1003 0),(6,.TN 1006 0),(38,vB false)] [(1003,.box (cfgA z p1 p2 p3 p4 na nb la lb ea (eb++[x]))),(1006,box0)] ?_
 refine TJ.cond_false rfl (TJ.skip (Qh ?_))
 refine TJ.xa hGn hGk 3 [(6,.TN 1006 0),(7,vI 0)] [(1006,.box (cfgA z p1 p2 p3 p4 na nb la lb ea (eb++[x])))] ?_
 exact TJ.ret (QkC (.inr rfl) (Res.many rfl (.cons (Res1.agg rfl rfl (by kernel_rfl) (by kernel_rfl)) (.cons (Res1.tmp rfl) .nil))) rfl rfl ⟨rfl,rfl⟩)
end
def Qpr(fu):FnOK Tryz.prog 290 (Qrp fu):=by
 refine⟨fun R x y K r h=>?_,fun x y a b h L0 _=>⟨L0,fun _ _=>rfl,fun n t l v hn=>by change AM.C n []=_ at hn;simp[AM.C]at hn,?_⟩⟩
 .obtain⟨c,s,e,⟨⟩⟩:=x
  obtain⟨q,hq,h⟩:=Y4 h
  change Ub fu c s e=some q at hq
  refine⟨(q.1,q.2,()),(),?_,h⟩
  show V (Ub fu c s e) (fun q=>some ((q.1,q.2,()),()))=_
  rw[hq];rfl
 .obtain⟨c,s,x,⟨⟩⟩:=x
  obtain⟨q,hq,hab⟩:=Y4 h
  change Ub fu c s x=some q at hq
  have hab':((q.1,q.2,()),())=(a,b):=Be hab
  obtain⟨rfl,rfl⟩:=C5 hab'
  obtain⟨zs,ps,cs,ss⟩:=c
  unfold Ub at hq
  dsimp only at hq
  split at hq
  case h_2=>simp at hq
  rename_i z p1 p2 p3 p4 a b
  split at hq
  case h_2=>simp at hq
  rename_i la lb hla hlb
  obtain⟨na,las,ea⟩:=a
  obtain⟨nb,lbs,eb⟩:=b
  dsimp only at hla hlb
  subst hla hlb
  split at hq
  case isFalse=>simp at hq
  rename_i hin
  obtain⟨e1,he1,hq⟩:=Y4 hq
  have h1:e1=0:=by
   by_cases h:e1=0
   .exact h
   .rw[Au h]at hq;simp[J]at hq
  subst h1
  replace hq:J (decide (0<=s/\s<2)) _ _=some q:=hq
  by_cases hs:0<=s/\s<2
  .rw[Au hs]at hq
   obtain⟨e2,he2,hq⟩:=Y4 hq
   have h2:e2=0:=by
    by_cases h:e2=0
    .exact h
    .rw[Au h]at hq;simp[J]at hq
   subst h2
   have hq2:=Be hq
   subst hq2
   rcases(show s=0\/s=1 by omega)with rfl|rfl
   .exact Qrn hin he1 he2
   .exact Qro hin he1 he2
  .rw[Av hs]at hq
   have hq2:=Be hq
   subst hq2
   exact Qpq he1 hs
end
open Go AM IntKind
noncomputable section
open fk Tryz
variable (u:Nat)
def XR(u:Nat)(a:Y D.Page)(c:Int)(b:Y D.Page):I (Y D.Page):=TK c fun e=>TO e a.length (cd ((b.length:Int)=0) (some a) (cd (c=(a.length:Int)) (TO (a.length+b.length) 34359738368 (some (a++b))) none))
def QeZ:o 284 (Ql [.one (.own 101),d,l .Page] [p 101 .Page] [.one (.own 101)] [p 101 .Page] [] (Y D.Page) kz5 (fun x y=>XR u y.1 x.1 x.2.1)):=i u g kz8 t func284
end
open Go Go.RowKit Go.Shelf Go.Proofs AM
section
def Qlg(W)(T e ty)(es)(hT:P.underlying T=some (.slice e))(hz:Zk P e=some es)(b o l1 c1)(a2)(l2 c2 m)(cur)(t)(vs)(hg:W.heap[b]?=some (.cells cur t (0,0)))(hm:Nat.min l2 l1=m)(hn:vs.length=m*es)(hsrc:∀j v,vs[j]?=some v->W.cell? (a2.add j)=some v)(hfit:o+vs.length<=cur.size)(h1:∀v∈vs,v.oneCell'=true):
  (Builtin.copy_ #[T,T] ty #[.slice (some ⟨b,o,none⟩) l1 c1,.slice (some a2) l2 c2]).run P W=.ok (goInt ((m:Nat):Int)) (W.setRow b (Qy cur.toList o vs).toArray):=by
 have hsz:=AM.run_sizeOf (P:=P) (w:=W) hz
 have hload:=run_loadCells_list (P:=P) W a2 vs hsrc
 have hstore:=run_storeCells_at (P:=P) b o t vs 0 cur W hg U h1
 rw[hn]at hload
 have hw:(Qy cur.toList o vs).toArray=(cur.toList.take (o+0)++vs++cur.toList.drop (o+0+vs.length)).toArray:=by unfold Qy;rfl
 simp[Builtin.copy_,run_underlying hT,Builtin.lenOf,Builtin.firstCells,hsz,hm,hload,Result.andThen]
 rw[hstore,hw]
def QnR(w)(tS tR e)(ht:P.underlying tS=some (.slice e))(size)(hz:∀w,(Go.sizeOf e).run P w=.ok size w)(a b)(la ca lb cb)(hne:a.block≠b.block)(ha:w.heap[a.block]?=some (.cells csA tA fA))(hb:w.heap[b.block]?=some (.cells cs t (0,0)))(hk:cs.size≠0)(hkA:csA.size≠0):
  (Extern.SlicesOverlaps.overlaps #[tS,tS] #[tR] #[.slice (some a) la ca,.slice (some b) lb cb]).run P w=.ok (.bool false) w:=by
 have hnb:(a.block != b.block)=true:=by simpa using hne
 have hnb':(a.block == b.block)=false:=by simpa using hne
 have hsa:w.shape? a.block=some (tA,csA.size):=by simp[World.shape?,ha]
 have hsb:w.shape? b.block=some (t,cs.size):=by simp[World.shape?,hb]
 have hfb:∀o s,w.frozen? { block:=b.block,off:=o,spot:=s }=false:=fun o s=>by simp[World.frozen?,hb]
 have hfb':w.frozen? b=false:=by simp[World.frozen?,hb]
 obtain⟨f1,hf1⟩:∃f1,w.frozen? a=f1:=⟨_,rfl⟩
 obtain⟨f2,hf2⟩:∃f2,w.frozen? { block:=a.block,off:=csA.size }=f2:=⟨_,rfl⟩
 change Sem.run P (α:=AE) (do
  let some t:=(#[tS,tS]:Array AD)[0]?|stuck "slices.overlaps: no parameter types"
  let .slice elem <-underlying t|stuck "slices.overlaps: slice type expected"
  let size <-sizeOf elem
  match (some a:I Addr),(some b:I Addr)with
  |some a,some b=>
   if la=0\/lb=0\/size=0 then pure (Value.bool false)
   else if a.block != b.block && (<-frozen a) && (<-frozen b)then unsupported .addressObserved
   else do
    if a.block != b.block then do
     noView a;noView b
     if <-mayBeOne a b then return Value.bool ((<-choose (.extern "sameAddr.stringBytes" 2)) == 1)
    pure (Value.bool (a.block == b.block && a.off<b.off+lb*size && b.off<a.off+la*size))
  |_,_=>pure (Value.bool false)) w=_
 by_cases h0:la=0\/lb=0\/size=0
 .simp[run_underlying ht,hz,h0]
 .obtain⟨kB,hkB⟩:∃kB,cs.size=kB+1:=⟨cs.size - 1,U⟩
  rw[hkB]at hsb
  obtain⟨kA,hkA'⟩:∃kA,csA.size=kA+1:=⟨csA.size - 1,U⟩
  rw[hkA']at hsa hf2
  cases f1<;>cases f2<;>
   simp[run_underlying ht,hz,h0,hnb,hnb',frozen,noView,viewAt,mayBeOne,stringish,shape,Sem.run,hsa,hsb,hfb,hfb',hf1,hf2]
end
def QoZ{α:Type}{l vs:Y α}{k:Nat}(h:k<=l.length):(Qy l k vs).take (k+vs.length)=l.take k++vs:=by
 unfold Qy
 grind
set_option maxHeartbeats 4000000 in
def Qxv(b n c i vb voff vc)(cs csv)(t tv)(fv)(v)(w)(hi:i<n)(hroom:n+1<=c)(hbig:n<=10000000)(hvb:vb≠b)(hb:w.heap[b]?=some (.cells cs t (0,0)))(hsz:c*14<=cs.size)(hv:v.length=14)(hvw:w.heap[vb]?=some (.cells csv tv fv))(hvz:csv.size≠0)(hvs:∀j x,v[j]?=some x->w.cell? ⟨vb,voff+j,none⟩=some x)(h1c:∀x∈(cs.toList.drop (i*14)).take ((n - i)*14),x.oneCell'=true)(h1v:∀x∈v,x.oneCell'=true):
  Calls Tryz.prog 284 #[.slice (some ⟨b,0,none⟩) n c,.int .i64 i,.slice (some ⟨vb,voff,none⟩) 1 vc] w fun e w'=>
   e=.returned (.slice (some ⟨b,0,none⟩) (n+1) c)/\w'=(w.drew.setRow b (Qy cs.toList ((i+1)*14) ((cs.toList.drop (i*14)).take ((n - i)*14))).toArray).setRow b (Qy (Qy cs.toList ((i+1)*14) ((cs.toList.drop (i*14)).take ((n - i)*14))) (i*14) v).toArray:=by
 have hmix:Tryz.prog.follows .mixedOrders=true:=by kernel_rfl
 have hT:Tryz.prog.underlying 37=some (.slice 83):=by kernel_rfl
 have hz:Zk Tryz.prog 83=some 14:=by kernel_rfl
 have hsize:∀w,(Go.sizeOf 83).run Tryz.prog w=.ok 14 w:=fun w=>AM.run_sizeOf hz w
 have hle:(n+1)*14<=cs.size:=AX (As 14 hroom) hsz
 obtain⟨vs,hvs1⟩:∃vs,(cs.toList.drop (i*14)).take ((n - i)*14)=vs:=⟨_,rfl⟩
 have hvl:vs.length=(n - i)*14:=by rw[<-hvs1];simp;omega
 obtain⟨A1,hA1⟩:∃A1,(Qy cs.toList ((i+1)*14) vs).toArray=A1:=⟨_,rfl⟩
 have hA1s:A1.size=cs.size:=by rw[<-hA1];simp[Qy,hvl];omega
 rw[hvs1]at h1c |-
 have hA1l:Qy cs.toList ((i+1)*14) vs=A1.toList:=by rw[<-hA1]
 rw[hA1l,Ez]
 have hov:∀o lb cb,(callFunc 331 #[.slice (some ⟨vb,voff,none⟩) 1 vc,.slice (some ⟨b,o,none⟩) lb cb]).run Tryz.prog w=.ok (.value (.bool false)) w:=fun o lb cb=>by
  rw[run_callFunc_extern Tryz.func331 (by kernel_rfl) (by kernel_rfl) (by kernel_rfl) (e:=Extern.SlicesOverlaps.overlaps #[37,37] #[4]) (by kernel_rfl),QnR w 37 4 83 hT 14 hsize ⟨vb,voff,none⟩ ⟨b,o,none⟩ 1 vc lb cb hvb hvw hb U hvz]
  rfl
 have hold:∀q,w.cell? ⟨b,q,none⟩=cs.toList[q]?:=fun q=>by simp[World.cell?,hb]
 have hcp1:∀ty c1 c2,(Builtin.copy_ #[37,37] ty #[.slice (some ⟨b,(i+1)*14,none⟩) (n - i) c1,.slice (some ⟨b,i*14,none⟩) (n+1 - i) c2]).run Tryz.prog w.drew=.ok (goInt ((n - i:Nat):Int)) (w.drew.setRow b A1):=fun ty c1 c2=>by
  rw[<-hA1]
  exact Qlg w.drew 37 83 ty 14 hT hz b _ (n - i) c1 ⟨b,i*14,none⟩ (n+1 - i) c2 (n - i) cs t vs hb (Nat.min_eq_right U) hvl (fun j x hj=>by
   have hj':j<(n - i)*14:=by rw[<-hvl];exact(Az.1 hj).1
   rw[Addr.add_lit]
   rw[<-hvs1,Aq,iB hj',Ap]at hj
   exact(hold _).trans hj) (by rw[hvl];omega) h1c
 have hcp2:∀(W:AG),W.heap=(w.drew.setRow b A1).heap->∀ty c1,(Builtin.copy_ #[37,37] ty #[.slice (some ⟨b,i*14,none⟩) (n+1 - i) c1,.slice (some ⟨vb,voff,none⟩) 1 vc]).run Tryz.prog W=.ok (goInt ((1:Nat):Int)) (W.setRow b (Qy A1.toList (i*14) v).toArray):=fun W hW ty c1=>by
  have hWb:W.heap[b]?=some (.cells A1 t (0,0)):=by rw[hW];exact setRow_heap w.drew b cs A1 t (0,0) hb
  exact Qlg W 37 83 ty 14 hT hz b _ (n+1 - i) c1 ⟨vb,voff,none⟩ 1 vc 1 A1 t v hWb (CC U) (by rw[hv]) (fun j x hj=>by
   rw[Addr.add_lit]
   have:=hvs j x hj
   unfold World.cell? at this |-
   dsimp only at this |-
   rw[hW,setRow_other w.drew b vb A1 hvb]
   exact this) (by rw[hv,hA1s];omega) h1v
 have hcp3:=hcp2 (w.drew.setRow b A1).drew rfl
 have hcp4:=hcp2 (w.drew.setRow b A1) rfl
 have hz2:¬((i:Int)=(n:Int)):=U
 have hw1:IntKind.i64.wrap ((i:Int)+1)=(i:Int)+1:=by rw[IntKind.wrap_i64];omega
 have hw2:IntKind.i64.wrap ((n:Int)+1)=(n:Int)+1:=by rw[IntKind.wrap_i64];omega
 have hb1:(0:Int)<=(i:Int)+1:=U
 have hin:i<=n:=U
 have htn:((i:Int)+1).toNat=i+1:=U
 have htn2:((n:Int)+1).toNat=n+1:=U
 have hb2:¬(c=i+1):=U
 have hb3:(i:Int)<=(n:Int)+1:=U
 have hb4:¬(c=i):=U
 go_enter Tryz.func284,Tryz.ntmps284
 go_wp2_with (simp only[hov])
 go_region_law_o (refine step_copy_runI rfl _ _ 37 37 rfl _ _ (by simp[Act.eval,Act.put]) (by simp[Act.eval,Act.put]) (hcp1 _ _ _) ?_)
 go_wp2
 go_ret
 first|exact⟨rfl,rfl⟩|exact⟨rfl,by rw[Ez]⟩
set_option maxHeartbeats 4000000 in
def QzC(b n c i vb voff vc)(cs csv)(t tv)(fv)(v)(w)(hi:i<n)(hnc:n<=c)(hroom:c<n+1)(hbig:n<=10000000)(hb:w.heap[b]?=some (.cells cs t (0,0)))(hsz:c*14<=cs.size)(hv:v.length=14)(hvw:w.heap[vb]?=some (.cells csv tv fv))(hvs:∀j x,v[j]?=some x->w.cell? ⟨vb,voff+j,none⟩=some x)(h1c:∀x∈(cs.toList.drop (i*14)).take ((n - i)*14),x.oneCell'=true)(h1v:∀x∈v,x.oneCell'=true):
  Calls Tryz.prog 284 #[.slice (some ⟨b,0,none⟩) n c,.int .i64 i,.slice (some ⟨vb,voff,none⟩) 1 vc] w fun e w'=>
   ∃(G:Nat) (A:Array AE),e=.returned (.slice (some ⟨w.heap.size,0,none⟩) (n+1) G)/\n+1<=G/\A.size=G*14/\A.toList.take ((n+1)*14)=cs.toList.take (i*14)++v++(cs.toList.drop (i*14)).take ((n - i)*14)/\
    w'.heap[w.heap.size]?=some (.cells A 83 (0,0))/\Ext (fun _=>False) w w':=by
 have hmix:Tryz.prog.follows .mixedOrders=true:=by kernel_rfl
 have hT:Tryz.prog.underlying 37=some (.slice 83):=by kernel_rfl
 have hT3:Tryz.prog.underlying 3=some (.int .i64):=by kernel_rfl
 have hz:Zk Tryz.prog 83=some 14:=by kernel_rfl
 obtain⟨i0,z,hi0,hz0,hzs,hzb,hzc⟩:=Qci (P:=Tryz.prog) (e:=83) (es:=14) (bytes:=160) (by kernel_rfl)
 have hbw:b<w.heap.size:=(CE.1 hb).1
 have hvw':vb<w.heap.size:=(CE.1 hvw).1
 have hle:n*14<=cs.size:=AX (As 14 hnc) hsz
 have hold:∀q,w.cell? ⟨b,q,none⟩=cs.toList[q]?:=fun q=>by simp[World.cell?,hb]
 obtain⟨vs,hvs1⟩:∃vs,(cs.toList.drop (i*14)).take ((n - i)*14)=vs:=⟨_,rfl⟩
 have hvl:vs.length=(n - i)*14:=by rw[<-hvs1];simp;omega
 rw[hvs1]at h1c |-
 have hold0:(Builtin.firstCells i0.size i (.slice (some ⟨b,0,none⟩) i c)).run Tryz.prog w.drew=.ok (cs.toList.take (i*14)).toArray w.drew:=by
  rw[hzs]
  exact run_firstCells_some w.drew 14 i ⟨b,0,none⟩ i c (cs.toList.take (i*14)) (by rw[Af];simp;omega) (fun j x hj=>by
   rw[Addr.add_lit,Ai]
   rw[Aq]at hj
   split at hj
   .exact(hold _).trans hj
   .cases hj)
 obtain⟨G,hG⟩:∃G,G=grownCap w (n+1) c 83:=⟨_,rfl⟩
 obtain⟨ROW,hROW⟩:∃ROW:Array AE,ROW=(cs.toList.take (i*14)).toArray++Builtin.zeroCells z.cells (n+1 - i)++Builtin.zeroCells z.cells (G - (n+1)):=⟨_,rfl⟩
 have hGn:n+1<=G:=by rw[hG];exact grownCap_ge w _ _ _
 have hG63:G<=9223372036854775807:=by
  have:=grownCap_le_maxLen w (n+1) c 83 (by unfold maxLen;omega)
  rw[<-hG]at this
  unfold maxLen at this
  omega
 have hik:i+(n+1 - i)=n+1:=U
 have hrz:∀ty,(Builtin.append_ #[37,3] ty #[.slice (some ⟨b,0,none⟩) i c,.int .i64 ((n:Int)+1 - (i:Int))]).run Tryz.prog w =
   .ok (.slice (some ⟨w.heap.size,0,none⟩) (n+1) G) (w.drew.alloc (.cells ROW 83)):=fun ty=>by
  have h:=Lib.run_append_grow_zeros w 37 3 ty 83 i0 _ .i64 .i64 hT hT3 hi0 hz0 (some ⟨b,0,none⟩) i c (cs.toList.take (i*14)) hold0 (n+1 - i) U U U U (by rw[hzb];omega) (by rw[hzb,hik];exact growslice_fits hroom U)
  rw[hik,<-hG,<-hROW]at h
  rw[show(n:Int)+1 - (i:Int)=((n+1 - i:Nat):Int)by omega]
  exact h
 have hRs:ROW.size=G*14:=by
  rw[hROW]
  simp only[En,UZ,hzc,B1,Af,BU]
  omega
 have hNb:(w.drew.alloc (.cells ROW 83)).heap[w.heap.size]?=some (.cells ROW 83 (0,0)):=ZZ w.drew _
 have hOth:∀k,k<w.heap.size->(w.drew.alloc (.cells ROW 83)).heap[k]?=w.heap[k]?:=fun k hk=>Below.heap_alloc w.drew _ k hk
 obtain⟨A1,hA1⟩:∃A1,(Qy ROW.toList (i*14) v).toArray=A1:=⟨_,rfl⟩
 have hA1s:A1.size=ROW.size:=by rw[<-hA1];simp[Qy,hv];omega
 obtain⟨A2,hA2⟩:∃A2,(Qy A1.toList ((i+1)*14) vs).toArray=A2:=⟨_,rfl⟩
 have hA2s:A2.size=ROW.size:=by rw[<-hA2,<-hA1s];simp[Qy,hvl];omega
 have hfin:A2.toList.take ((n+1)*14)=cs.toList.take (i*14)++v++vs:=by
  have e1:A1.toList.take ((i+1)*14)=cs.toList.take (i*14)++v:=by
   rw[<-hA1,show(i+1)*14=i*14+v.length by omega,C7,QoZ (by simp;omega),hROW]
   congr 1
   simp only[Array.toList_append,C7,Ay]
   rw[Ca (by simp;omega),CQ,C8]
  rw[<-hA2,show(n+1)*14=(i+1)*14+vs.length by omega,C7,QoZ (by simp;omega),e1]
 have hcpA:∀(W:AG),W.heap=(w.drew.alloc (.cells ROW 83)).heap->∀ty c1,(Builtin.copy_ #[37,37] ty #[.slice (some ⟨w.heap.size,i*14,none⟩) (n+1 - i) c1,.slice (some ⟨vb,voff,none⟩) 1 vc]).run Tryz.prog W=.ok (goInt ((1:Nat):Int)) (W.setRow w.heap.size A1):=fun W hW ty c1=>by
  rw[<-hA1]
  exact Qlg W 37 83 ty 14 hT hz _ _ (n+1 - i) c1 ⟨vb,voff,none⟩ 1 vc 1 ROW 83 v (by rw[hW];exact hNb) (CC U) (by rw[hv]) (fun j x hj=>by
   rw[Addr.add_lit]
   have:=hvs j x hj
   unfold World.cell? at this |-
   dsimp only at this |-
   rw[hW,hOth vb hvw']
   exact this) (by rw[hv];omega) h1v
 have hcpB:∀(W:AG),W.heap=((w.drew.alloc (.cells ROW 83)).setRow w.heap.size A1).heap->∀ty c1 c2,(Builtin.copy_ #[37,37] ty #[.slice (some ⟨w.heap.size,(i+1)*14,none⟩) (n - i) c1,.slice (some ⟨b,i*14,none⟩) (n - i) c2]).run Tryz.prog W=.ok (goInt ((n - i:Nat):Int)) (W.setRow w.heap.size A2):=fun W hW ty c1 c2=>by
  rw[<-hA2]
  exact Qlg W 37 83 ty 14 hT hz _ _ (n - i) c1 ⟨b,i*14,none⟩ (n - i) c2 (n - i) A1 83 vs (by rw[hW];exact setRow_heap _ _ ROW A1 83 (0,0) hNb) (C8 _) hvl (fun j x hj=>by
   have hj':j<(n - i)*14:=by rw[<-hvl];exact(Az.1 hj).1
   rw[Addr.add_lit]
   rw[<-hvs1,Aq,iB hj',Ap]at hj
   have:=(hold (i*14+j)).trans hj
   unfold World.cell? at this |-
   dsimp only at this |-
   rw[hW,setRow_other _ _ _ A1 U,hOth b hbw]
   exact this) (by rw[hvl];omega) h1c
 have hz2:¬((i:Int)=(n:Int)):=U
 have hz3:(c:Int)<(n:Int)+1:=U
 have hw1:IntKind.i64.wrap ((i:Int)+1)=(i:Int)+1:=by rw[IntKind.wrap_i64];omega
 have hw2:IntKind.i64.wrap ((n:Int)+1)=(n:Int)+1:=by rw[IntKind.wrap_i64];omega
 have hw3:IntKind.i64.wrap ((n:Int)+1 - (i:Int))=(n:Int)+1 - (i:Int):=by rw[IntKind.wrap_i64];omega
 have hb1:(0:Int)<=(i:Int)+1:=U
 have hin:i<=n:=U
 have htn:((i:Int)+1).toNat=i+1:=U
 have hb3:(i:Int)<=(n:Int)+1:=U
 have hb4:¬(c=i):=U
 have hGi:¬(G=i):=U
 have hGim:¬(G=i+1):=U
 have hcpA1:=hcpA (w.drew.alloc (.cells ROW 83)) rfl
 have hcpA2:=hcpA ((w.alloc (.cells ROW 83)).drew) rfl
 have hcpB1:=hcpB (((w.alloc (.cells ROW 83)).drew.setRow w.heap.size A1).drew) rfl
 clear hG hROW hold0 hik hA1 hA2
 go_enter Tryz.func284,Tryz.ntmps284
 go_wp2_with (at_builtin;refine Lib.wpList_append_run _ rfl _ _ _ _ rfl _ _ rfl rfl _ _ (hrz _) ?_)
 go_region_law_o (refine step_copy_runI rfl _ _ 37 37 rfl _ _ (by simp[Act.eval,Act.put]) (by simp[Act.eval,Act.put]) (hcpB _ rfl _ _ _) ?_)
 go_wp2
 go_ret
 refine⟨G,A2,rfl,hGn,by rw[hA2s,hRs],hfin,?_,?_⟩
 .exact setRow_heap _ _ A1 A2 83 (0,0) (setRow_heap _ _ ROW A1 83 (0,0) hNb)
 .refine⟨by simp[World.setRow],fun k hk _=>?_,rfl,rfl⟩
  exact(setRow_other _ _ _ A2 U).trans ((setRow_other _ _ _ A1 U).trans (hOth k hk))
def QzE(h:RR ρ H M w rows cr)(h2:AV.Rs ρ H M w (pcells row) c):
  RR ρ H M w (rows.take i++row::rows.drop i) (cr.take i++c::cr.drop i):=by
 have htake:∀{rows:Y (Y PV)} {cr:Y (Y AE)} (i:Nat),RR ρ H M w rows cr->RR ρ H M w (rows.take i) (cr.take i)/\RR ρ H M w (rows.drop i) (cr.drop i):=by
  intro rows
  induction rows with
  |nil=>intro cr i h;simp only[RR]at h;subst h;simp[RR]
  |cons r rs ih=>
   intro cr i h
   cases i with
   |zero=>exact⟨by simp[RR],by simpa using h⟩
   |succ i=>
    simp only[RR]at h
    obtain⟨c0,cr',rfl,g1,g2⟩:=h
    obtain⟨k1,k2⟩:=ih i g2
    simp only[CR,Cj,RR]
    grind
 obtain⟨k1,k2⟩:=htake i h
 refine k1.append ?_
 simp only[RR]
 grind
def QzF{rows:Y (Y PV)}{row:Y PV}{i:Nat}(f:AH)(hi:i<rows.length)(hl:rows.length<=10000000)(hrow:row.length=14):
  WH Tryz.prog 284 [.own 101 rows.length,.p (.v (.int .i64 i)),.p (.sl f 14 [row])] [(101,.TI 14 rows)] (.own 101 (rows.length+1)) [(101,.TI 14 (rows.take i++row::rows.drop i))]:=by
 intro G ρ M w us hG hM hargs hobj hinj
 simp only[AV.Ts]at hargs
 obtain⟨u0,_,rfl,a0,u1,_,rfl,a1,u2,_,rfl,a2,rfl⟩:=hargs
 simp only[AV.R,PV.R]at a0 a1 a2
 have hob:=hobj 101 _ (show AM.C 101 [(101,AO.TI 14 rows)]=some (.TI 14 rows)from rfl)
 have hu0:=(a0.2 (.TI 14 rows) 14 rows.length rfl rfl).2 rfl
 obtain⟨hes,hcap,hobj'⟩:=hob
 obtain⟨ad,vc,rfl,hvc,_,hnone,hsome⟩:=a2
 have hvc':1<=vc:=by simpa using hvc
 cases ad with
 |none=>exact absurd (hnone rfl) U
 |some ad=>
 obtain⟨hspot,hMad,hadw,hrows⟩:=hsome ad rfl U
 obtain⟨vb,voff,sp⟩:=ad
 dsimp only at hspot hMad hadw hrows
 subst hspot
 rcases hobj' with h0|⟨b,T,cs,h3,h4,h5,h6,h7⟩
 .exact absurd hcap (by rw[h0];omega)
 simp only[PV.Rows]at hrows
 obtain⟨_,hcells,_⟩:=hrows
 obtain⟨cv,cv1,cv2⟩:=Qcb (ρ:=ρ) (H:=XV [(101,AO.TI 14 rows)]) hcells
 obtain⟨cr,m1,m2,m3⟩:=RR.of_Rows (ρ:=ρ) (H:=XV [(101,AO.TI 14 rows)]) h7
 have hcvl:cv.length=14:=by rw[cv1.length];simp[pcells,hrow]
 have hcrl:=m1.length
 have hlen:=m1.len m2
 have hflat:cr.flatten.length=rows.length*14:=by rw[WI hlen,hcrl]
 have hcsl:rows.length*14<=cs.size:=AX (As 14 hcap) h6
 have hcs:cs.toList.take (rows.length*14)=cr.flatten:=by
  refine Ch fun j=>?_
  rw[Aq]
  split
  .rename_i hj
   have:=m3 j (cr.flatten[j]'U) (AU U)
   rw[Ai]at this
   rw[AU (l:=cr.flatten) U,<-this]
   simp[World.cell?,h5]
  .rw[EF U]
 have hmid:(cs.toList.drop (i*14)).take ((rows.length - i)*14)=(cr.drop i).flatten:=by
  rw[<-QiO i hlen,<-hcs,C9,Nat.sub_mul]
 have hpre:cs.toList.take (i*14)=(cr.take i).flatten:=by
  rw[<-Qmm i hlen,<-hcs,CQ,CC (As 14 U)]
 have hvb:vb≠b:=fun e=>hMad (by rw[e];exact h4)
 have hvblk:∃csv tv fv,w.heap[vb]?=some (.cells csv tv fv)/\csv.size≠0:=by
  have hc:=cv2 0 (cv[0]'U) (AU U)
  simp only[World.cell?]at hc
  split at hc
  .rename_i csv tv fv hh
   refine⟨csv,tv,fv,hh,fun e=>?_⟩
   have:csv=#[]:=Array.eq_empty_of_size_eq_zero e
   subst this;simp at hc
  all_goals simp at hc
 obtain⟨csv,tv,fv,hvw,hvz⟩:=hvblk
 have h1c:∀x∈(cs.toList.drop (i*14)).take ((rows.length - i)*14),x.oneCell'=true:=by
  rw[hmid]
  intro x hx
  refine m1.one x ?_
  rw[<-Bw i cr,Eo]
  exact CD _ hx
 have h1v:∀x∈cv,x.oneCell'=true:=Qoc cv1
 have hfl2:(cr.take i++cv::cr.drop i).flatten=(cr.take i).flatten++cv++(cr.drop i).flatten:=Ob
 have hrl:(rows.take i++row::rows.drop i).length=rows.length+1:=by simp;omega
 have hr14:∀r∈rows.take i++row::rows.drop i,r.length=14:=by
  intro r hr
  rcases Ah.1 hr with hr|hr
  .exact m2 r (Bp hr)
  .rcases AY.1 hr with rfl|hr
   .exact hrow
   .exact m2 r (Bq hr)
 have hall:=QzE (i:=i) m1 cv1
 have hfl3:(cr.take i++cv::cr.drop i).flatten.length=(rows.length+1)*14:=by rw[WI (hall.len hr14),hall.length,hrl]
 rw[hu0,h3,a1.1]
 have hblk:(ρ 101).blk=some b:=by
  have:(ρ 101).cap≠0:=U
  simp[Loc.blk,this,h3]
 have hown:∀(n:Name) (o:AO),AM.C n [(101,AO.TI 14 (rows.take i++row::rows.drop i))]=some o->n=101/\o=.TI 14 (rows.take i++row::rows.drop i):=fun n o hn=>by
  simp only[AM.C]at hn
  split at hn
  .rename_i e;cases hn;exact⟨e.symm,rfl⟩
  .simp at hn
 have fin:∀(ρ':Name->AM.Loc) (w':AG) (u:AE) (b':Nat) (T':AD) (A:Array AE),(ρ' 101).base=some ⟨b',0,none⟩->rows.length+1<=(ρ' 101).cap->(ρ' 101).cap*14<=A.size->w'.heap[b']?=some (.cells A T' (0,0))->
   A.toList.take ((rows.length+1)*14)=(cr.take i++cv::cr.drop i).flatten->(∀b1,b1<w.heap.size->newM M ρ' [(101,AO.TI 14 (rows.take i++row::rows.drop i))] b1->M b1)->Ext (fun b1=>b1=b) w w'->
   ((ρ' 101).blk=some b->(ρ 101).blk=some b\/w.heap.size<=b)->(∀b1,(ρ' 101).blk=some b1->b1=b\/w.heap.size<=b1)->u=.slice (ρ' 101).base (rows.length+1) (ρ' 101).cap->
   After ρ M w [(101,AO.TI 14 rows)] u (.own 101 (rows.length+1)) [(101,AO.TI 14 (rows.take i++row::rows.drop i))] ρ' w':=fun ρ' w' u b' T' A e1 e2 e3 e4 e5 e6 e7 _ e9 e10=>by
  have hst:=hall.step (ρ':=ρ') (H':=XV [(101,AO.TI 14 (rows.take i++row::rows.drop i))]) (M':=newM M ρ' [(101,AO.TI 14 (rows.take i++row::rows.drop i))]) e7 (fun b1 hb1=>by rw[hb1];exact h4) e6
  refine⟨?_,?_,?_,?_,?_,?_⟩
  .simp only[AV.R]
   refine⟨by rw[e10];rfl,fun o es k hn hs=>?_⟩
   obtain⟨_,rfl⟩:=hown _ _ hn
   cases hs
   exact⟨U,fun _=>e10⟩
  .intro n o hn
   obtain⟨rfl,rfl⟩:=hown _ _ hn
   refine⟨U,by rw[hrl];exact e2,.inr ⟨b',T',A,e1,.inr ⟨101,_,rfl,?_⟩,e4,e3,?_⟩⟩
   .have:(ρ' 101).cap≠0:=U
    simp[Loc.blk,this,e1]
   .refine Qb1 hst hr14 fun j x hj=>?_
    have hj':j<(rows.length+1)*14:=by rw[<-hfl3];exact(Az.1 hj).1
    rw[<-e5,Aq,iB hj']at hj
    simpa [World.cell?,e4]using hj
  .intro n m o o' b1 hn hm _ _
   rw[(hown _ _ hn).1,(hown _ _ hm).1]
  .intro n o b1 hn hb1
   obtain⟨rfl,rfl⟩:=hown _ _ hn
   rcases e9 b1 hb1 with rfl|h
   .exact .inl ⟨_,rfl,hblk⟩
   .exact .inr h
  .exact e7.weaken fun b1 _ hb1=>⟨101,_,rfl,by rw[hb1];exact hblk⟩
  .intro n o hn
   have hn':n=101/\o=.TI 14 rows:=by
    simp only[AM.C]at hn
    split at hn
    .rename_i e;cases hn;exact⟨e.symm,rfl⟩
    .simp at hn
   obtain⟨rfl,rfl⟩:=hn'
   exact⟨_,rfl,rfl,by rw[hrl];omega,fun e=>by rw[hrl]at e;omega⟩
 by_cases hroom:rows.length+1<=(ρ 101).cap
 .refine(Qxv b rows.length (ρ 101).cap i vb voff vc cs csv T tv fv cv w hi hroom hl hvb h5 h6 hcvl hvw hvz cv2 h1c h1v).mono ?_
  rintro e w' ⟨rfl,rfl⟩
  rw[hmid]
  have hml:(cr.drop i).flatten.length=(rows.length - i)*14:=by rw[WI fun r hr=>hlen r (Bq hr),Bn,hcrl]
  have hs1:(Qy cs.toList ((i+1)*14) (cr.drop i).flatten).toArray.size=cs.size:=by simp[Qy,hml];omega
  have hb1:=setRow_heap w.drew b cs (Qy cs.toList ((i+1)*14) (cr.drop i).flatten).toArray T (0,0) h5
  have hb2:=setRow_heap _ b _ (Qy (Qy cs.toList ((i+1)*14) (cr.drop i).flatten) (i*14) cv).toArray T (0,0) hb1
  refine⟨_,_,_,ρ,rfl,⟨rfl,rfl⟩,fin ρ _ _ b T _ h3 hroom ?_ hb2 ?_ ?_ ?_ (fun h=>.inl h) (fun b1 h=>.inl (by rw[hblk]at h;exact(Be h).symm)) (by rw[h3])⟩
  .refine AX h6 ?_;simp[Qy,hml,hcvl];omega
  .rw[C7,hfl2]
   have e1:(Qy cs.toList ((i+1)*14) (cr.drop i).flatten).take (i*14)=(cr.take i).flatten:=by
    unfold Qy
    rw[Ay,Ca (by simp;omega),CQ,CC U,hpre]
   have e2:(Qy cs.toList ((i+1)*14) (cr.drop i).flatten).drop (i*14+cv.length)=(cr.drop i).flatten++cs.toList.drop ((i+1)*14+(cr.drop i).flatten.length):=by
    unfold Qy
    rw[Ay,show i*14+cv.length=(cs.toList.take ((i+1)*14)).length by simp;omega,List.drop_left]
   show(List.take (i*14) _++cv++List.drop (i*14+cv.length) _).take _=_
   rw[e1,e2,<-Ay,Ca (by simp only[Ac,hml,hcvl];rw[<-hpre];simp;omega),Bl (by simp only[Ac,hml,hcvl];rw[<-hpre];simp;omega)]
  .rintro b1 _ (h|⟨n,o,hn,h⟩)
   .exact h
   .obtain⟨rfl,_⟩:=hown _ _ hn
    rw[hblk]at h
    rw[<-Be h];exact h4
  .refine⟨by simp[World.setRow],fun b1 _ hne=>?_,rfl,rfl⟩
   exact(setRow_other _ b b1 _ hne).trans (setRow_other _ b b1 _ hne)
 .refine(QzC b rows.length (ρ 101).cap i vb voff vc cs csv T tv fv cv w hi hcap U hl h5 h6 hcvl hvw cv2 h1c h1v).mono ?_
  rintro e w' ⟨G',A,rfl,g1,g2,g3,g4,g5⟩
  have hcap':(G':Nat)≠0:=U
  refine⟨_,_,_,(fun m=>if m=101 then⟨some ⟨w.heap.size,0,none⟩,G'⟩else ρ m),rfl,⟨rfl,rfl⟩,fin _ _ _ w.heap.size 83 A rfl g1 (EW g2.symm) g4 ?_ ?_ ?_ ?_ ?_ rfl⟩
  .rw[g3,hfl2,hpre,hmid]
  .rintro b1 hb1 (h|⟨n,o,hn,h⟩)
   .exact h
   .obtain⟨rfl,_⟩:=hown _ _ hn
    have:w.heap.size=b1:=by simpa [Loc.blk,hcap']using h
    omega
  .exact g5.weaken fun b1 _ h=>h.elim
  .intro h
   have:w.heap.size=b:=by simpa [Loc.blk,hcap']using h
   exact .inr U
  .intro b1 h
   have:w.heap.size=b1:=by simpa [Loc.blk,hcap']using h
   exact .inr U
noncomputable section
def QB(fu:Nat)(p0:Y D.Page)(p1:Int)(p2:Y D.Page):I (Y D.Page):=
 if p1=(p0.length:Int)then XR fu p0 p1 p2 else TK p1 fun i=>TP i p0.length (TO p0.length 10000000 (match p2 with|[x]=>some (p0.take i++x::p0.drop i)|_=>none))
def Qe0(fu:Nat):Sig:=Ql [.one (.own 101),.one (.TZ .i64),.one (.TQ .Page)] [(101,.TI .Page)] [.one (.own 101)] [(101,.TI .Page)] [] (Y D.Page) (fun q=>((),(q,()))) (fun x y=>QB fu y.1 x.1 x.2.1)
def Qd9(fu):FnOK Tryz.prog 284 (Qe0 fu):=by
 refine⟨fun R x y K r h=>?_,fun x y a b h L0 hL0=>?_⟩
 .obtain⟨q,hq,h⟩:=Y4 h
  obtain⟨h',hle⟩:=QfQ h
  refine⟨_,_,?_,h'⟩
  show V (QB fu y.1 x.1 x.2.1) _=_
  rw[show QB fu y.1 x.1 x.2.1=some q from hq]
  exact Qer h
 .obtain⟨j,vl,⟨⟩⟩:=x
  obtain⟨l,⟨⟩⟩:=y
  change Y D.Page at l
  change Y D.Page at vl
  change Int at j
  by_cases hj:j=(l.length:Int)
  .refine(QeZ fu).spec (j,vl,()) (l,()) a b ?_ L0 hL0
   have e:QB fu l j vl=XR fu l j vl:=by unfold QB;rw[iB hj]
   have h':(V (QB fu l j vl) fun q=>lenB [(101,OSh.TI .Page)] (l,()) [(101,OSh.TI .Page)] (q,()) (some ((),(q,()))))=some (a,b):=h
   rw[e]at h'
   exact h'
  .obtain⟨q,hq,h⟩:=Y4 h
   obtain⟨h',_⟩:=QfQ h
   obtain⟨rfl,rfl⟩:=C5 (Be h')
   replace hq:QB fu l j vl=some q:=hq
   unfold QB at hq
   rw[iA hj]at hq
   obtain⟨i,rfl,hq⟩:=QaZ hq
   obtain⟨hi,hq⟩:=QiV hq
   obtain⟨hl,hq⟩:=ZV hq
   have hvl:∃x,vl=[x]:=by
    rcases vl with _|⟨x,_|⟨x2,r⟩⟩
    .exact absurd hq Ob
    .exact⟨x,rfl⟩
    .exact absurd hq Ob
   obtain⟨x,rfl⟩:=hvl
   replace hi:i<l.length:=hi
   replace hq:some (l.take i++x::l.drop i)=some q:=hq
   have hq:=Be hq
   have e0:L0 101 0=l.length:=hL0 101 _ _ 0 rfl
   have hlm:(l.map (tcells .Page)).length=l.length:=AZ ..
   have hs:=QzF (rows:=l.map (tcells .Page)) (row:=tcells .Page x) (i:=i) false (hlm ▸ hi) (hlm ▸ hl) rfl
   have e1:(l.map (tcells .Page)).take i++tcells .Page x::(l.map (tcells .Page)).drop i=q.map (tcells .Page):=by rw[<-hq];simp
   have e2:(l.map (tcells .Page)).length+1=q.length:=by rw[<-hq];simp;omega
   rw[e1,e2,hlm,<-e0]at hs
   refine⟨fun m u=>if m=101/\u=1 then q.length else L0 m u,fun n hn=>?_,fun n t l' v hn=>?_,?_⟩
   .show(if n=101/\(0:Nat)=1 then q.length else L0 n 0)=L0 n 0
    rw[iA Ob]
   .change AM.C n [(101,BO.TI .Page q 1)]=_ at hn
    simp only[AM.C]at hn
    split at hn
    .rename_i e;cases hn;exact iB ⟨e.symm,rfl⟩
    .simp at hn
   .exact hs
end
end Go.Proofs.YtlllfgmajglnhaaGreat
