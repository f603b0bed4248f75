/-
  The typed layer, part M: code does what is reckoned of it. No project text.
-/
import Derived.Test.YtlllfgmajglnhaaGreatQRowSurB
import Derived.Test.YtlllfgmajglnhaaGreatProg
import Derived.RangeFuncNested
import Derived.RangeFuncBound
import Derived.RangeFuncCalls
import Derived.RangeFuncLeaves
import Derived.Shelf.Abstract
import Derived.Shelf.RegionOpen
import Derived.WalkKit
import Derived.OwnWalkIn
import Derived.TacticsInMore
import Derived.LoopNIn
import Derived.LoopIn
import Derived.Scope
import Derived.Shelf.Spec.SlicesInsertGrow
set_option linter.unusedVariables false
set_option linter.unusedSimpArgs false
namespace Go.Proofs.YtlllfgmajglnhaaGreat.AM
open Go
section
theorem AWp.drawG{P:Program}{Γ:Ctx}{id:Nat}{ops:Array Oper}{ts ts':List (Nat×AV)}{hs hs':List (Name×AO)}{Q:Exit->AS->Prop}{n:Nat}(hn:Γ.n=n)(hmode:(P.follows .mixedOrders || !Region.departs ops)=true)(L:List Row)(hst:Qtc P ops 0 L)(hg:got n L ts hs=(Qbr L,Qbq L,true,ts',hs'))(hind:indep ops L ts hs=true)(hQ:Q .normal (mk ts' hs')):AWp P Γ (.region id ops true) (mk ts hs) Q:=by
 intro ρ M a w hsim
 refine wp_region_draw fun t=>?_
 have hsch:Region.schedule (P.follows .mixedOrders) ops t=Region.linearise .any ops t:=by
  unfold Region.schedule;rw[hmode];rfl
 rw[hsch]
 refine wpAny_sound ops.size t _ a _ ?_
 refine Qtf hn hst (by rw[hg]) (by rw[hg]) (by rw[hg]) hind (Q:=fun e a' w'=>∃s' ρ' M',Q e s'/\Sim Γ ρ' M' s' a' w') (fun ρ' M' a' w' hs=>⟨_,ρ',M',hQ,by rw[hg]at hs;exact hs⟩)
  ops.size (Array.replicate ops.size false) a _ ρ M Ob (fun i o hi hl=>by simp[Array.getD_eq_getD_getElem?,Array.getElem?_replicate]at hl;split at hl<;>simp at hl) ?_ ?_
 .have:∀(f:Nat->Bool) k,cnt f k<=k:=by
   intro f k
   induction k with
   |zero=>exact Nat.le_refl _
   |succ k ih=>simp only[cnt];split<;>omega
  exact this _ _
 .refine hsim.drew.congr (fun t=>?_) (fun m=>?_)
  .have:=Qa2 (E:=fun i=>VC L i) (D:=fun i=>(Array.replicate ops.size false).getD i false) (s:=mk ts hs) (t:=t) (i:=0) L.length Oa (fun j _ _ _=>by
    simp only[Array.getD_eq_getD_getElem?,Array.getElem?_replicate];split<;>rfl)
   exact this
  .have:=Un (E:=fun i=>VC L i) (D:=fun i=>(Array.replicate ops.size false).getD i false) (s:=mk ts hs) (m:=m) (i:=0) L.length Oa (fun j _ _ _=>by
    simp only[Array.getD_eq_getD_getElem?,Array.getElem?_replicate];split<;>rfl)
   exact this
theorem AWp.drawX{P:Program}{Γ:Ctx}{id:Nat}{ops:Array Oper}{ts ts':List (Nat×AV)}{hs hs':List (Name×AO)}{Q:Exit->AS->Prop}{n:Nat}(hn:Γ.n=n)(hmode:(P.follows .mixedOrders || !Region.departs ops)=true)(h0:0<ops.size)(L:List Row)(hst:QgY P ops (ops.size - 1) 0 L)(hg:got n L ts hs=(Qbr L,Qbq L,true,ts',hs'))(hind:indep ops (L++[Qcr]) ts hs=true)(hm:∀j,j<ops.size - 1->((masks ops.toList []).getD (ops.size - 1) 0).testBit j=true)(hlast:∀(K:Act->World->Prop),(∀s' ρ' M' a' w',Q .normal s'->Sim Γ ρ' M' s' a' w'->K a' w')->∀ρ M a w,Sim Γ ρ M (mk ts' hs') a w->
   wpOp P ops (fun e a' w'=>∃s' ρ' M',Q e s'/\Sim Γ ρ' M' s' a' w') (ops.size - 1) K a w):AWp P Γ (.region id ops true) (mk ts hs) Q:=by
 obtain⟨hsteps,hsize⟩:=Qip hst
 have hlen:(L++[Qcr]).length=ops.size:=by simp;omega
 have hL:L.length=ops.size - 1:=Oa
 intro ρ M a w hsim
 refine wp_region_draw fun t=>?_
 have hsch:Region.schedule (P.follows .mixedOrders) ops t=Region.linearise .any ops t:=by
  unfold Region.schedule;rw[hmode];rfl
 rw[hsch]
 refine wpAny_sound ops.size t _ a _ ?_
 have hgn:=QoC n L ts hs
 refine QlZ (L:=L++[Qcr]) true hn (Q:=fun e a' w'=>∃s' ρ' M',Q e s'/\Sim Γ ρ' M' s' a' w') (fun i y hi hlt=>?_) hlen.symm (by rw[hgn,hg,Qlm]) (by rw[hgn,hg,Qll]) (by rw[hgn,hg]) hind
  (fun _=>?_) (fun h=>by simp at h) ops.size (Array.replicate ops.size false) a _ ρ M Ob (fun _=>by
   simp only[Array.getD_eq_getD_getElem?,Array.getElem?_replicate];split<;>rfl) (fun i o hi hl=>by simp[Array.getD_eq_getD_getElem?,Array.getElem?_replicate]at hl;split at hl<;>simp at hl) ?_ ?_
 .grind
 .grind
 .have:∀(f:Nat->Bool) k,cnt f k<=k:=by
   intro f k
   induction k with
   |zero=>exact Nat.le_refl _
   |succ k ih=>simp only[cnt];split<;>omega
  exact this _ _
 .refine hsim.drew.congr (fun t=>?_) (fun m=>?_)
  .have:=Qa2 (E:=fun i=>VC (L++[Qcr]) i) (D:=fun i=>(Array.replicate ops.size false).getD i false) (s:=mk ts hs) (t:=t) (i:=0) (L++[Qcr]).length Oa (fun j _ _ _=>by
    simp only[Array.getD_eq_getD_getElem?,Array.getElem?_replicate];split<;>rfl)
   exact this
  .have:=Un (E:=fun i=>VC (L++[Qcr]) i) (D:=fun i=>(Array.replicate ops.size false).getD i false) (s:=mk ts hs) (m:=m) (i:=0) (L++[Qcr]).length Oa (fun j _ _ _=>by
    simp only[Array.getD_eq_getD_getElem?,Array.getElem?_replicate];split<;>rfl)
   exact this
variable {L L':Lens} {ts ts':TS} {hs hs':HS}
theorem QxU{t:Nat}{v:BV}(h:erT L ts=erT L' ts)(hm:(t,v)∈ts):v.er L=v.er L':=by
 unfold erT at h
 have:=(List.map_inj_left.1 h) _ hm
 simpa using this
theorem QtY{t:Name}{v:BO}(h:erH L hs=erH L' hs)(hm:(t,v)∈hs):v.er L=v.er L':=by
 unfold erH at h
 have:=(List.map_inj_left.1 h) _ hm
 simpa using this
theorem QxW{rd:TS}(h:erT L ts=erT L' ts)(hs:∀t v,(t,v)∈rd->look t ts=some v):erT L rd=erT L' rd:=by
 unfold erT
 exact List.map_congr_left fun p hp=>by rw[QxU h (ZB (hs p.1 p.2 hp))]
theorem QxT{hp:HS}(h:erH L hs=erH L' hs)(hsub:∀t v,(t,v)∈hp->look t hs=some v):erH L hp=erH L' hp:=by
 unfold erH
 exact List.map_congr_left fun p hp=>by rw[QtY h (ZB (hsub p.1 p.2 hp))]
theorem QxS{a b:HS}(h:erH L (a++b)=erH L' (a++b)):erH L a=erH L' a/\erH L b=erH L' b:=by
 rw[Qfk,Qfk]at h
 exact List.append_inj h (by simp[erH])
theorem QxV{d:Option Nat}{v:BV}(h:erT L (putB d v ts)=erT L' (putB d v ts))(ha:anyB d v=true):erT L ts=erT L' ts/\v.er L=v.er L':=by
 cases d with
 |some d=>
  simp only[putB,erT,List.map_cons,List.cons.injEq,Prod.mk.injEq,true_and]at h
  exact⟨h.2,h.1⟩
 |none=>
  refine⟨h,?_⟩
  cases v<;>first|rfl|simp[anyB]at ha
section
variable {R:Type} {r:R} {P:Program} {ty:TypeId->Option TC} {E:Env} {nn:Nat}
theorem Qrp{d:Option Nat}{e:Eff}{rows:List Row}{ts:List (Nat×AV)}{hs:List (Name×AO)}{ts':List (Nat×AV)}{hs':List (Name×AO)}(h1:∀t x,(t,x)∈e.rd->look t ts=some x)(h2:∀n o,(n,o)∈e.hp->look n hs=some o)(hd:Qb5 nn d=true)(hnw:Qsx e ts hs=true)(h:got nn rows (putT ts d e) (e.upd++hs)=(Qbr rows,Qbq rows,true,ts',hs')):got nn ((d,e)::rows) ts hs=(Qbr ((d,e)::rows),Qbq ((d,e)::rows),true,ts',hs'):=by
 simp only[got,h,Qbr,Qbq,hd,hnw,Bool.and_self]
 have e1:e.rd.map (fun p=>look p.1 ts)=e.rd.map (fun p=>some p.2):=List.map_congr_left fun p hp=>h1 p.1 p.2 hp
 have e2:e.hp.map (fun p=>look p.1 hs)=e.hp.map (fun p=>some p.2):=List.map_congr_left fun p hp=>h2 p.1 p.2 hp
 rw[e1,e2]
theorem Qfi{sp:Bool}{mm:Nat}{ops:Array Oper}{K:List BRow->TS->HS->Option R}(hE:QnY P E):∀(f i:Nat) (acc:List BRow) (ts:TS) (hs:HS) (L:Lens),QhV P ty E nn ops sp mm K f i acc ts hs=some r->Inv L hs->
  ∃rows ts' hs' L',K (acc.reverse++rows) ts' hs'=some r/\Inv L' hs'/\QgY P ops mm i (rows.map (BRow.row L'))/\erT L ts=erT L' ts/\erH L hs=erH L' hs/\
   got nn (rows.map (BRow.row L')) (erT L' ts) (erH L' hs)=(Qbr (rows.map (BRow.row L')),Qbq (rows.map (BRow.row L')),true,erT L' ts',erH L' hs')
 |0,i,acc,ts,hs,L,h,hi=>by
  simp only[QhV]at h
  split at h
  .rename_i e
   exact⟨[],ts,hs,L,by simpa using h,hi,nbe e,rfl,rfl,by simp only[List.map_nil,got,Qbr,Qbq]⟩
  .simp at h
 |f+1,i,acc,ts,hs,L,h,hi=>by
  simp only[QhV]at h
  split at h
  .simp at h
  .rename_i o hop
   have hdo:∀(x:TS),(∀t v,(t,v)∈x->look t ts=some v)->(∀e':Eff,(∀p,p∈x->(p.1,p.2.er L)∈e'.rd)->OpOK P o e'->WU P ops i o.dst e')->
     opK P ty E sp nn x o ts hs (fun e ts' hs'=>if anyB o.dst e.v then QhV P ty E nn ops sp mm K f (i+1) ((o.dst,x++rdB ts o.op.operands.toList,e)::acc) ts' hs' else none)=some r->
     ∃rows ts' hs' L',K (acc.reverse++rows) ts' hs'=some r/\Inv L' hs'/\QgY P ops mm i (rows.map (BRow.row L'))/\erT L ts=erT L' ts/\erH L hs=erH L' hs/\
      got nn (rows.map (BRow.row L')) (erT L' ts) (erH L' hs)=(Qbr (rows.map (BRow.row L')),Qbq (rows.map (BRow.row L')),true,erT L' ts',erH L' hs'):=fun x hx hstp h=>by
    obtain⟨e,L1,hst,hd,h⟩:=QrH hE hx h hi
    split at h
    case isFalse=>simp at h
    rename_i hany
    obtain⟨rows,ts',hs',L',k1,k2,k3,k4,k5,k6⟩:=Qfi (sp:=sp) (mm:=mm) (ops:=ops) (K:=K) hE f (i+1) _ _ _ L1 h hst.inv
    obtain⟨p1,p2⟩:=QxV k4 hany
    obtain⟨q1,q2⟩:=QxS k5
    have hts:erT L ts=erT L' ts:=hst.ets.trans p1
    have hhs:erH L hs=erH L' hs:=hst.ehs.trans q2
    have hrd:=QxW hts hst.rds
    have hhp:=QxT hhs hst.hps
    have hok:=hst.ok
    rw[p2,q1]at hok
    refine⟨(o.dst,x++rdB ts o.op.operands.toList,e)::rows,ts',hs',L',by simpa using k1,k2,⟨?_,k3⟩,hts,hhs,?_⟩
    .have:=hstp _ (fun p hp=>List.mem_map.2 ⟨p,List.mem_append_left _ hp,rfl⟩) hok
     simp only[BRow.row,<-hrd,<-hhp];exact this
    .simp only[List.map_cons]
     refine Qrp (fun t y hy=>?_) (fun n ob hy=>?_) hd ?_ ?_
     .simp only[BRow.row,erT,List.mem_map]at hy
      obtain⟨⟨t',v⟩,hm,he⟩:=hy
      cases he
      rw[VJ,hst.rds _ _ hm];rfl
     .simp only[BRow.row,erH,List.mem_map]at hy
      obtain⟨⟨t',v⟩,hm,he⟩:=hy
      cases he
      rw[ZH,hst.hps _ _ hm];rfl
     .have hnew:=hst.new
      unfold Qwn at hnew
      simp only[Qsx,BRow.row,Qc2,Qc4]
      refine List.all_eq_true.2 fun n hn=>?_
      have:=List.all_eq_true.1 hnew n hn
      simp only[bae]at this |-
      refine⟨⟨?_,this.1.2⟩,this.2⟩
      rw[ZH]
      cases hl:look n hs with
      |none=>rfl
      |some y=>rw[hl]at this;simp at this
     .have e3:∀t1 h1,t1=erT L' (putB o.dst e.v ts)->h1=erH L' (e.upd++hs)->got nn (rows.map (BRow.row L')) t1 h1=(Qbr (rows.map (BRow.row L')),Qbq (rows.map (BRow.row L')),true,erT L' ts',erH L' hs'):=fun t1 h1 a b=>by rw[a,b];exact k6
      exact e3 _ _ (by show putT (erT L' ts) o.dst _=_;cases o.dst<;>rfl) (by rw[Qfk])
   have hskip:∀{j:Nat} {b:Bool} {g:Nat} {v:BV},o.guard=some (j,b)->(ops[j]?).bind (·.dst)=some g->look g ts=some v->(v=.b (!b)\/v=.tup [])->
     (if Qb5 nn o.dst then QhV P ty E nn ops sp mm K f (i+1) ((o.dst,[(g,v)],ev (.tup []))::acc) (putB o.dst (.tup []) ts) hs else none)=some r->
     ∃rows ts' hs' L',K (acc.reverse++rows) ts' hs'=some r/\Inv L' hs'/\QgY P ops mm i (rows.map (BRow.row L'))/\erT L ts=erT L' ts/\erH L hs=erH L' hs/\
      got nn (rows.map (BRow.row L')) (erT L' ts) (erH L' hs)=(Qbr (rows.map (BRow.row L')),Qbq (rows.map (BRow.row L')),true,erT L' ts',erH L' hs'):=fun{j b g v} hg hj hl hv h=>by
    split at h
    case isFalse=>simp at h
    rename_i hd
    obtain⟨rows,ts',hs',L',k1,k2,k3,k4,k5,k6⟩:=Qfi (sp:=sp) (mm:=mm) (ops:=ops) (K:=K) hE f (i+1) _ _ _ L h hi
    have hts:erT L ts=erT L' ts:=by
     cases hdd:o.dst with
     |none=>rw[hdd]at k4;exact k4
     |some d=>rw[hdd]at k4;simp only[putB,erT,List.map_cons,List.cons.injEq]at k4;exact k4.2
    obtain⟨oj,h1,h2⟩:=Qg0 hj
    refine⟨(o.dst,[(g,v)],ev (.tup []))::rows,ts',hs',L',by simpa using k1,k2,⟨?_,k3⟩,hts,k5,?_⟩
    .rcases hv with rfl|rfl
     .exact WU.skipped hop hg h1 h2
     .exact WU.skipped2 hop hg h1 h2
    .simp only[List.map_cons]
     refine Qrp (fun t y hy=>?_) (fun n ob hy=>?_) hd ?_ ?_
     .simp only[BRow.row,erT,List.map_cons,List.map_nil,List.mem_singleton,Prod.mk.injEq]at hy
      obtain⟨rfl,rfl⟩:=hy
      rw[VJ,hl];rfl
     .simp[BRow.row,ev,erH]at hy
     .simp[Qsx,BRow.row,ev]
     .have e3:∀t1 h1,t1=erT L' (putB o.dst (.tup []) ts)->h1=erH L' hs->got nn (rows.map (BRow.row L')) t1 h1=(Qbr (rows.map (BRow.row L')),Qbq (rows.map (BRow.row L')),true,erT L' ts',erH L' hs'):=fun t1 h1 a b=>by rw[a,b];exact k6
      exact e3 _ _ (by show putT (erT L' ts) o.dst _=_;cases o.dst<;>rfl) rfl
   have hgd:∀{j:Nat} {b:Bool} {g:Nat},o.guard=some (j,b)->(ops[j]?).bind (·.dst)=some g->∀e':Eff,(∀p:Nat×BV,p∈[(g,BV.b b)]->(p.1,p.2.er L)∈e'.rd)->OpOK P o e'->WU P ops i o.dst e':=fun{j b g} hg hj e' hm hok=>by
    obtain⟨oj,h1,h2⟩:=Qg0 hj
    have:=hm (g,BV.b b) Ob
    simp only[BV.er]at this
    exact WU.guarded hop hg h1 h2 this hok
   have hx1:∀{g:Nat} {b:Bool},look g ts=some (.b b)->∀t v,(t,v)∈[(g,BV.b b)]->look t ts=some v:=fun hl t v hm=>by
    grind
   split at h
   .rename_i hg
    exact hdo [] (fun t v hm=>by simp at hm) (fun e' _ hok=>WU.plain hop hg hok) h
   .rename_i j b hg
    split at h
    .simp at h
    .rename_i g hj
     split at h
     .rename_i q hl
      rcases Qg2 h with⟨rfl,h⟩|⟨rfl,h⟩
      .grind
      .grind
     .grind
     .simp at h
mutual
theorem Qxk:∀x:AV,x.ren (fun n=>n)=x
 |.p _=>by simp only[AV.ren]
 |.agg cs=>by simp only[AV.ren,QeZ cs]
 |.ref _ _=>by simp only[AV.ren]
 |.own _ _=>by simp only[AV.ren]
 |.aref _ _ _ _=>by simp only[AV.ren]
 |.view _ _ _ _=>by simp only[AV.ren]
 |.cut _ _ _=>by simp only[AV.ren]
 |.eptr _=>by simp only[AV.ren]
 |.tup vs=>by simp only[AV.ren,QeZ vs]
 |.clo f a c=>by simp only[AV.ren,QeZ a,QeZ c]
 |.oref _ _=>by simp only[AV.ren]
 |.err _=>by simp only[AV.ren]
 |.ub=>by simp only[AV.ren]
 |.any=>by simp only[AV.ren]
theorem QeZ:∀l:List AV,renL (fun n=>n) l=l
 |[]=>by simp only[renL]
 |x::r=>by simp only[renL,Qxk x,QeZ r]
end
theorem QpH{σ:Ren}(h:Qx0 σ=true):Fit (fun n=>n) (QhM σ) σ:=fun nm m hm=>by
 have:=List.all_eq_true.1 h _ hm
 simp only[bae]at this
 refine⟨nbe this.1,?_⟩
 unfold QhM;rw[Qkr this.2]
theorem Qt7{gn:List Name}{s:List (Nat×SSh)}{o:List (Name×OSh)}{K:STL s×OL o->Option R}(h:getS gn s o ts hs K=some r)(hi:Inv L hs):
  ∃x L',K x=some r/\Inv L' (OL.put 0 o x.2)/\SLe L ts hs L' (STL.put 0 s x.1) (OL.put 0 o x.2)/\∀n,n∈gn->look n (OL.put 0 o x.2)≠none:=by
 obtain⟨σ1,x,h,hs1,g1⟩:=STL.get_some h
 obtain⟨σ2,y,h,hs2,g2⟩:=OL.get_some h
 split at h
 case isFalse=>simp at h
 rename_i hid
 simp only[bae]at hid
 have hf2:=QpH hid.1
 have hf1:Fit (fun n=>n) (QhM σ2) σ1:=hf2.mono fun p hp=>hs2 p (List.mem_append_right _ hp)
 refine⟨(x,y),Qap L (fun n=>n) (QhM σ2),h,fun n t l v hn=>?_,⟨fun t b hb=>?_,fun n cs' hn=>?_,fun n t l v hn=>?_,fun n es hn=>?_⟩,fun n hn hc=>?_⟩
 .obtain⟨a,ha,hle⟩:=g2 _ _ L hf2 n _ hn
  rcases hle with⟨cs,ds,_,h2,_⟩|⟨t',l',rfl,h2⟩|⟨es,_,h2⟩
  .cases h2
  .cases h2;exact hi n t l _ ha
  .cases h2
 .obtain⟨a,ha,hle⟩:=g1 _ _ L hf1 t b hb
  rw[Qxk]at hle
  exact⟨a,ha,hle⟩
 .obtain⟨a,ha,hle⟩:=g2 _ _ L hf2 n _ hn
  rcases hle with⟨cs,ds,rfl,h2,h3⟩|⟨t',l',rfl,h2⟩|⟨es,_,h2⟩
  .cases h2;rw[QeZ]at h3;exact⟨cs,ha,h3.1⟩
  .cases h2
  .cases h2
 .obtain⟨a,ha,hle⟩:=g2 _ _ L hf2 n _ hn
  rcases hle with⟨cs,ds,_,h2,_⟩|⟨t',l',rfl,h2⟩|⟨es,_,h2⟩
  .cases h2
  .cases h2;exact⟨_,ha⟩
  .cases h2
 .obtain⟨a,ha,hle⟩:=g2 _ _ L hf2 n _ hn
  rcases hle with⟨cs,ds,_,h2,_⟩|⟨t',l',rfl,h2⟩|⟨es,rfl,h2⟩
  .cases h2
  .cases h2
  .cases h2;exact ha
 .have:=XR.1 (List.all_eq_true.1 hid.2 n hn)
  obtain⟨b,hb⟩:=Qfm (u:=0) (y:=y) this
  simp_all
theorem Qry:∀(l:List (Nat×AV)),∃l',(∀k,look k l'=look k l)/\l'.map (fun p=>look p.1 l)=l'.map (fun p=>some p.2):=by
  intro l
  induction l with
  |nil=>exact⟨[],fun _=>rfl,rfl⟩
  |cons p l ih=>
   obtain⟨l',g1,g2⟩:=ih
   refine⟨p::(l'.filter fun q=>!(q.1 == p.1)),fun k=>?_,?_⟩
   .simp only[look]
    split
    .rfl
    .rename_i hne
     rw[<-g1]
     clear g1 g2
     induction l' with
     |nil=>rfl
     |cons q l' ih=>
      by_cases hq:q.1=p.1
      .rw[List.filter_cons_of_neg (by simp[hq]),ih]
       simp only[look]
       simp_all
      .rw[List.filter_cons_of_pos (by simp[hq])]
       simp only[look]
       simp_all
   .simp only[List.map_cons,look,if_true]
    congr 1
    refine List.map_congr_left fun q hq=>?_
    have hq':=List.mem_filter.1 hq
    have hne:¬p.1=q.1:=fun e=>by have:=hq'.2;rw[e]at this;simp at this
    rw[if_neg hne]
    exact(List.map_inj_left.1 g2) q hq'.1
theorem QwR{Γ:Ctx}{t nm:Nat}{j es0:Nat}{tc:TC}{cells:List BV}{v:BV}(hm:look t ts=some (.agg cells))(hj:cells[j]?=some v)(hv:∀L,v.er L=.p (.sl true es0 []))(hb:(look nm hs).isNone=true)(hf:QdV nm ts hs=true)(ht:Nat.ble 1 (tz tc)=true)(hi:Inv L hs):
  ∃L',Inv L' ((nm,.arr tc [] 0)::hs)/\Weak Γ (BS L ts hs) (BS L' ((t,.agg (cells.set j (.own nm 0)))::ts) ((nm,.arr tc [] 0)::hs)):=by
 let L1:Lens:=fun n u=>if n=nm then 0 else L n u
 have hnm:look nm hs=none:=Option.isNone_iff_eq_none.1 hb
 obtain⟨e1,e2⟩:=Qel (L:=L) (L':=L1) (nw:=[nm]) (nv:=[]) (ts:=ts) (hs:=hs) (fun n hn=>by simp only[List.mem_singleton]at hn;subst hn;exact hf) (fun p hp=>by simp at hp) (fun n u hn _=>if_neg (by simpa using hn))
 have ec:erL L cells=erL L1 cells:=by
  have h1:look t (erT L ts)=look t (erT L1 ts):=by rw[e1]
  rw[VJ,VJ,hm,Option.map_some,Option.map_some]at h1
  simp only[BV.er,Option.some.injEq,AV.agg.injEq]at h1
  exact h1
 have hi1:Inv L1 ((nm,.arr tc [] 0)::hs):=fun n t' l u hn=>by
  simp only[look]at hn
  split at hn
  .grind
  .rename_i e;show(if n=nm then 0 else L n u)=_;rw[if_neg (Ne.symm e)];exact hi n t' l u hn
 refine⟨L1,hi1,fun ρ M a w hs0=>?_⟩
 obtain⟨l',g1,g2⟩:=Qry ((t,AV.agg ((erL L cells).set j (.own nm 0)))::erT L ts)
 have hw:=Weak.thawA (Γ:=Γ) (ts:=erT L ts) (ts':=l') (hs:=erH L hs) (t:=t) (j:=j) (es0:=es0) (es:=tz tc) (n:=nm) (cells:=erL L cells) ht (by rw[VJ,hm,Option.map_some];simp only[BV.er])
  (by rw[QhX,hj,Option.map_some,hv L]) (by rw[ZH,hnm];rfl) (by rw[Qc2];exact hf) g2
 obtain⟨ρ',M',hs1⟩:=hw ρ M a w hs0
 refine⟨ρ',M',hs1.congr (fun k=>?_) (fun k=>?_)⟩
 .show look k (erT L1 ((t,.agg (cells.set j (.own nm 0)))::ts))=look k l'
  rw[g1]
  have:erL L1 (cells.set j (.own nm 0))=(erL L cells).set j (.own nm 0):=by
   rw[ec,VF,VF,List.map_set]
   simp only[BV.er,show L1 nm 0=0 from if_pos rfl]
  show look k ((t,(BV.agg (cells.set j (.own nm 0))).er L1)::erT L1 ts)=_
  simp only[BV.er,this,<-e1]
 .show look k (erH L1 ((nm,.arr tc [] 0)::hs))=look k ((nm,.arr (tz tc) [])::erH L hs)
  show look k ((nm,(BO.arr tc [] 0).er L1)::erH L1 hs)=_
  simp only[BO.er,List.map_nil,<-e2]
theorem QcR{o:List (Name×OSh)}{t:Nat}{Γ:Ctx}:∀{l:List Sh} {j:Nat} {ts:TS} {hs:HS} {L:Lens} {K:TS->HS->Option R},thawA o t j l ts hs K=some r->Inv L hs->
  ∃ts' hs' L',K ts' hs'=some r/\Inv L' hs'/\Weak Γ (BS L ts hs) (BS L' ts' hs')
 |[],j,ts,hs,L,K,h,hi=>⟨ts,hs,L,h,hi,Weak.refl _ _⟩
 |s::l,j,ts,hs,L,K,h,hi=>by
  have hth:∀{nm:Name} {tc:TC} {v:BV} {es0:Nat} {cells:List BV},look t ts=some (.agg cells)->cells[j]?=some v->(∀L,v.er L=.p (.sl true es0 []))->
    (if (look nm hs).isNone && QdV nm ts hs && Nat.ble 1 (tz tc)then thawA o t (j+1) l ((t,.agg (cells.set j (.own nm 0)))::ts) ((nm,.arr tc [] 0)::hs) K else none)=some r->
    ∃ts' hs' L',K ts' hs'=some r/\Inv L' hs'/\Weak Γ (BS L ts hs) (BS L' ts' hs'):=fun{nm tc v es0 cells} hm hj hv h=>by
   split at h
   case isFalse=>simp at h
   rename_i hb
   simp only[bae]at hb
   obtain⟨L1,hi1,hw1⟩:=QwR (Γ:=Γ) hm hj hv hb.1.1 hb.1.2 hb.2 hi
   obtain⟨ts',hs',L',k1,k2,k3⟩:=QcR h hi1
   exact⟨ts',hs',L',k1,k2,Weak.trans hw1 k3⟩
  unfold thawA at h
  split at h
  .rename_i heq;cases heq
  .rename_i nm r0 heq
   cases heq
   split at h
   .rename_i cells hm
    split at h
    .rename_i tc hj ho;exact hth (es0:=0) hm hj (fun L=>by simp only[BV.er]) h
    .rename_i t0 tc hj ho;exact hth (es0:=tz t0) hm hj (fun L=>by simp only[BV.er,List.map_nil]) h
    .exact QcR h hi
   .exact QcR h hi
  .rename_i heq;cases heq;exact QcR h hi
theorem Qa0{o:List (Name×OSh)}{Γ:Ctx}:∀{s:List (Nat×SSh)} {ts:TS} {hs:HS} {L:Lens} {K:TS->HS->Option R},QlQ o s ts hs K=some r->Inv L hs->
  ∃ts' hs' L',K ts' hs'=some r/\Inv L' hs'/\Weak Γ (BS L ts hs) (BS L' ts' hs')
 |[],ts,hs,L,K,h,hi=>⟨ts,hs,L,h,hi,Weak.refl _ _⟩
 |p::s,ts,hs,L,K,h,hi=>by
  obtain⟨t,sh⟩:=p
  have hth:∀{nm:Name} {tc:TC} {v:BV} {es0:Nat},look t ts=some v->(∀L,v.er L=.p (.sl true es0 []))->
    (if (look nm hs).isNone && QdV nm ts hs && Nat.ble 1 (tz tc)then QlQ o s ((t,.own nm 0)::ts) ((nm,.arr tc [] 0)::hs) K else none)=some r->
    ∃ts' hs' L',K ts' hs'=some r/\Inv L' hs'/\Weak Γ (BS L ts hs) (BS L' ts' hs'):=fun{nm tc v es0} hv hv2 h=>by
   split at h
   case isFalse=>simp at h
   rename_i hb
   simp only[bae,Option.isNone_iff_eq_none]at hb
   let L1:Lens:=fun n u=>if n=nm then 0 else L n u
   obtain⟨e1,e2⟩:=Qel (L:=L) (L':=L1) (nw:=[nm]) (nv:=[]) (ts:=ts) (hs:=hs) (fun n hn=>by simp only[List.mem_singleton]at hn;subst hn;exact hb.1.2) (fun p hp=>by simp at hp) (fun n u hn _=>if_neg (by simpa using hn))
   have hi1:Inv L1 ((nm,.arr tc [] 0)::hs):=fun n t' l u hn=>by
    simp only[look]at hn
    split at hn
    .rename_i e;subst e;cases hn;exact if_pos rfl
    .rename_i e;show(if n=nm then 0 else L n u)=_;rw[if_neg (Ne.symm e)];exact hi n t' l u hn
   obtain⟨ts',hs',L',k1,k2,k3⟩:=Qa0 (Γ:=Γ) h hi1
   refine⟨ts',hs',L',k1,k2,Weak.trans ?_ k3⟩
   obtain⟨l',g1,g2⟩:=Qry ((t,.own nm 0)::erT L ts)
   have hw:=Weak.thaw (Γ:=Γ) (ts:=erT L ts) (ts':=l') (hs:=erH L hs) (t:=t) (es0:=es0) (es:=tz tc) (n:=nm) hb.2 (by rw[VJ,hv,Option.map_some,hv2 L]) (by rw[ZH,hb.1.1];rfl) (by rw[Qc2];exact hb.1.2) g2
   refine fun ρ M a w hs0=>?_
   obtain⟨ρ',M',hs1⟩:=hw ρ M a w hs0
   refine⟨ρ',M',hs1.congr (fun k=>?_) (fun k=>?_)⟩
   .show look k (erT L1 ((t,.own nm 0)::ts))=look k l'
    rw[g1]
    show look k ((t,(BV.own nm 0).er L1)::erT L1 ts)=_
    simp only[BV.er,show L1 nm 0=0 from if_pos rfl,<-e1]
   .show look k (erH L1 ((nm,.arr tc [] 0)::hs))=look k ((nm,.arr (tz tc) [])::erH L hs)
    show look k ((nm,(BO.arr tc [] 0).er L1)::erH L1 hs)=_
    simp only[BO.er,List.map_nil,<-e2]
  unfold QlQ at h
  split at h
  .rename_i t1 l1 r0 heq
   cases heq
   obtain⟨ts1,hs1,L1,h,hi1,hw1⟩:=QcR (Γ:=Γ) h hi
   obtain⟨ts2,hs2,L2,h,hi2,hw2⟩:=Qa0 (Γ:=Γ) h hi1
   exact⟨ts2,hs2,L2,h,hi2,Weak.trans hw1 hw2⟩
  .rename_i nm r0 heq
   split at h
   .rename_i tc hv ho
    cases heq
    exact hth (es0:=0) hv (fun L=>by simp only[BV.er]) h
   .rename_i t0 tc hv ho
    cases heq
    exact hth (es0:=tz t0) hv (fun L=>by simp only[BV.er,List.map_nil]) h
   .cases heq;exact Qa0 h hi
  .rename_i heq;cases heq;exact Qa0 h hi
  .rename_i heq;cases heq
theorem Qvq{Γ:Ctx}{m nm:Name}{j es0:Nat}{tc:TC}{cells:List BV}{v:BV}(hm:look m hs=some (.box cells))(hj:cells[j]?=some v)(hv:∀L,v.er L=.p (.sl true es0 []))(hb:(look nm hs).isNone=true)(hf:QdV nm ts hs=true)(ht:Nat.ble 1 (tz tc)=true)(hi:Inv L hs):
  ∃L',Inv L' ((m,.box (cells.set j (.own nm 0)))::(nm,.arr tc [] 0)::hs)/\Weak Γ (BS L ts hs) (BS L' ts ((m,.box (cells.set j (.own nm 0)))::(nm,.arr tc [] 0)::hs)):=by
 let L1:Lens:=fun n u=>if n=nm then 0 else L n u
 have hnm:look nm hs=none:=Option.isNone_iff_eq_none.1 hb
 have hne:m≠nm:=fun e=>by subst e;rw[hnm]at hm;simp at hm
 obtain⟨e1,e2⟩:=Qel (L:=L) (L':=L1) (nw:=[nm]) (nv:=[]) (ts:=ts) (hs:=hs) (fun n hn=>by simp only[List.mem_singleton]at hn;subst hn;exact hf) (fun p hp=>by simp at hp) (fun n u hn _=>if_neg (by simpa using hn))
 have ec:erL L cells=erL L1 cells:=by
  have:=QtY e2 (ZB hm)
  simp only[BO.er,AO.box.injEq]at this
  exact this
 refine⟨L1,fun n t' l u hn=>?_,fun ρ M a w hs0=>?_⟩
 .simp only[look]at hn
  split at hn
  .cases hn
  .split at hn
   .grind
   .rename_i e;show(if n=nm then 0 else L n u)=_;rw[if_neg (Ne.symm e)];exact hi n t' l u hn
 .have hs1:Sim Γ ρ M (mk (erT L ts) ((m,.box (erL L cells))::erH L hs)) a w:=hs0.congr (fun k=>rfl) (fun k=>by
   show look k ((m,AO.box (erL L cells))::erH L hs)=look k (erH L hs)
   simp only[look]
   split
   .rename_i e;subst e;rw[ZH,hm];rfl
   .rfl)
  have hfree:QdK nm (erT L ts) ((m,.box (erL L cells))::erH L hs)=true:=by
   have h1:=hf
   rw[<-Qc2 (L:=L)]at h1
   simp only[QdK,bae,List.all_cons]at h1 |-
   have h2:=List.all_eq_true.1 h1.2 _ (show(m,AO.box (erL L cells))∈erH L hs from ZB (by rw[ZH,hm];rfl))
   exact⟨h1.1,h2,h1.2⟩
  obtain⟨ρ',M',hs2⟩:=Weak.thawCell (Γ:=Γ) (ts:=erT L ts) (hs':=erH L hs) (m:=m) (j:=j) (es0:=es0) (es:=tz tc) (n:=nm) (cells:=erL L cells) ht rfl (by rw[QhX,hj,Option.map_some,hv L])
   (by simp only[look,if_neg hne,ZH,hnm];rfl) hfree rfl ρ M a w hs1
  refine⟨ρ',M',hs2.congr (fun k=>?_) (fun k=>?_)⟩
  .show look k (erT L1 ts)=look k (erT L ts)
   rw[e1]
  .show look k (erH L1 ((m,.box (cells.set j (.own nm 0)))::(nm,.arr tc [] 0)::hs))=look k ((m,.box ((erL L cells).set j (.own nm 0)))::(nm,.arr (tz tc) [])::erH L hs)
   have:erL L1 (cells.set j (.own nm 0))=(erL L cells).set j (.own nm 0):=by
    rw[ec,VF,VF,List.map_set]
    simp only[BV.er,show L1 nm 0=0 from if_pos rfl]
   show look k ((m,AO.box (erL L1 (cells.set j (.own nm 0))))::(nm,(BO.arr tc [] 0).er L1)::erH L1 hs)=_
   rw[this,<-e2]
   simp only[BO.er,List.map_nil]
theorem QcS{o:List (Name×OSh)}{m:Name}{Γ:Ctx}:∀{l:List Sh} {j:Nat} {hs:HS} {L:Lens} {K:HS->Option R},QnQ o m ts j l hs K=some r->Inv L hs->
  ∃hs' L',K hs'=some r/\Inv L' hs'/\Weak Γ (BS L ts hs) (BS L' ts hs')
 |[],j,hs,L,K,h,hi=>⟨hs,L,h,hi,Weak.refl _ _⟩
 |s::l,j,hs,L,K,h,hi=>by
  have hth:∀{nm:Name} {tc:TC} {v:BV} {es0:Nat} {cells:List BV},look m hs=some (.box cells)->cells[j]?=some v->(∀L,v.er L=.p (.sl true es0 []))->
    (if (look nm hs).isNone && QdV nm ts hs && Nat.ble 1 (tz tc)then QnQ o m ts (j+1) l ((m,.box (cells.set j (.own nm 0)))::(nm,.arr tc [] 0)::hs) K else none)=some r->
    ∃hs' L',K hs'=some r/\Inv L' hs'/\Weak Γ (BS L ts hs) (BS L' ts hs'):=fun{nm tc v es0 cells} hm hj hv h=>by
   split at h
   case isFalse=>simp at h
   rename_i hb
   simp only[bae]at hb
   obtain⟨L1,hi1,hw1⟩:=Qvq (Γ:=Γ) hm hj hv hb.1.1 hb.1.2 hb.2 hi
   obtain⟨hs',L',k1,k2,k3⟩:=QcS h hi1
   exact⟨hs',L',k1,k2,Weak.trans hw1 k3⟩
  unfold QnQ at h
  split at h
  .rename_i heq;cases heq
  .rename_i nm r0 heq
   cases heq
   split at h
   .rename_i cells hm
    split at h
    .rename_i tc hj ho;exact hth (es0:=0) hm hj (fun L=>by simp only[BV.er]) h
    .rename_i t0 tc hj ho;exact hth (es0:=tz t0) hm hj (fun L=>by simp only[BV.er,List.map_nil]) h
    .exact QcS h hi
   .exact QcS h hi
  .rename_i heq;cases heq;exact QcS h hi
theorem QfO{o:List (Name×OSh)}{Γ:Ctx}:∀{l:List (Name×OSh)} {hs:HS} {L:Lens} {K:HS->Option R},Qs1 o ts l hs K=some r->Inv L hs->
  ∃hs' L',K hs'=some r/\Inv L' hs'/\Weak Γ (BS L ts hs) (BS L' ts hs')
 |[],hs,L,K,h,hi=>⟨hs,L,h,hi,Weak.refl _ _⟩
 |p::l,hs,L,K,h,hi=>by
  unfold Qs1 at h
  split at h
  .rename_i m l0 r0 heq
   cases heq
   obtain⟨hs1,L1,h,hi1,hw1⟩:=QcS (Γ:=Γ) h hi
   obtain⟨hs2,L2,h,hi2,hw2⟩:=QfO h hi1
   exact⟨hs2,L2,h,hi2,Weak.trans hw1 hw2⟩
  .rename_i heq;cases heq;exact QfO h hi
  .rename_i heq;cases heq
end
end
/-
  The typed layer, part N: the code of a function; its contract. No project text.
-/
section
theorem Qum{ops:Array Oper}{o:Oper}(h:Qx6 ops=true)(ho:ops[ops.size - 1]?=some o):o.guard=none/\∀j,j<ops.size - 1->((masks ops.toList []).getD (ops.size - 1) 0).testBit j=true:=by
 unfold Qx6 at h
 grind
variable {L L':Lens} {ts ts':TS} {hs hs':HS}
section
variable {R:Type} {r:R} {P:Program} {ty:TypeId->Option TC} {E:Env} {gn:List Name} {nn fu:Nat} {Γ:Ctx}
def QK(K:Cont R)(r:R):Exit->AS->Prop:=fun e s'=>∃ts' hs' L',s'=BS L' ts' hs'/\Inv L' hs'/\K e ts' hs'=some r
theorem Qwd{o:List (Name×OSh)}{n:Name}(hn:n∈gn):Quj gn o hs n=true:=by
 unfold Quj
 split
 .rw[XR.2 hn,Bool.or_true]
 .rfl
theorem Qwc{o:List (Name×OSh)}{n:Name}(hn:n∈gn):QoF gn o ts hs n=true:=by
 unfold QoF
 split
 .rw[XR.2 hn,Bool.true_or,Bool.true_or]
 .rfl
theorem QgN{s:List (Nat×SSh)}{o:List (Name×OSh)}{K:STL s×OL o->Option R}(hgn:Γ.names=gn)(h:Qmw gn s o ts hs K=some r)(hi:Inv L hs):
  ∃x L',K x=some r/\Inv L' (OL.put 0 o x.2)/\Weak Γ (BS L ts hs) (BS L' (STL.put 0 s x.1) (OL.put 0 o x.2)):=by
 unfold Qmw at h
 simp only[QjC]at h
 obtain⟨ts1,hs1,h,hi1,hw1⟩:=Qcl hgn h (hi.trim (f:=Quj gn o hs))
 obtain⟨ts2,hs2,L2,h,hi2,hw2⟩:=Qa0 (Γ:=Γ) h (hi1.trim (f:=QoF gn o ts1 hs1))
 obtain⟨hs2',L2',h,hi2',hw2'⟩:=QfO (Γ:=Γ) h hi2
 obtain⟨x,L3,h,hi3,hle,hk⟩:=Qt7 h hi2'
 refine⟨x,L3,h,hi3,fun ρ M a w hs0=>?_⟩
 obtain⟨ρ1,M1,h1⟩:=hw1 ρ M a w (hs0.only (f:=QyU s) (g:=Quj gn o hs) fun n hn=>Qwd (by rw[<-hgn];exact hn))
 have h1':Sim Γ ρ1 M1 (BS L ts1 (Qd4 (QoF gn o ts1 hs1) [] hs1)) a w:=by
  have h2:=h1.only (f:=fun _=>true) (g:=QoF gn o ts1 hs1) fun n hn=>Qwc (by rw[<-hgn];exact hn)
  refine h2.congr (fun t=>?_) (fun n=>rfl)
  show(BS L ts1 (Qd4 (QoF gn o ts1 hs1) [] hs1)).slot t=(BS L (Qd4 (fun _=>true) [] ts1) (Qd4 (QoF gn o ts1 hs1) [] hs1)).slot t
  rw[Xk,Xk,Vw];rfl
 obtain⟨ρ2',M2',h2'⟩:=hw2 ρ1 M1 a w h1'
 obtain⟨ρ2,M2,h2⟩:=hw2' ρ2' M2' a w h2'
 have h3:Sim Γ ρ2 M2 (BS L2' (QwV hs2' s ts2) hs2') a w:=by
  refine h2.leS (fun t y hy=>?_) (fun n=>⟨fun y hy=>⟨y,hy,.refl _⟩,fun x hx=>⟨x,hx,.refl _⟩⟩) (fun n x y hx hy=>?_)
  .obtain⟨y',hy',rfl⟩:=QnN hy
   obtain⟨x',hx',hle'⟩:=QwW hi2' hy'
   exact⟨x'.er L2',by rw[Xk,hx'];rfl,hle'⟩
  .rw[Xj]at hx hy;rw[hx]at hy;cases hy;exact .inl rfl
 exact⟨ρ2,M2,h3.sle hle (by rw[hgn];exact hk)⟩
theorem Qeb{c:Code}{an:Ann}{K:Cont R}{body:Ann->TS->HS->Cont R->Option R}(hgn:Γ.names=gn)(h:around gn an ts hs K body=some r)(hi:Inv L hs)(hb:∀an ts hs L K,body an ts hs K=some r->Inv L hs->AWp P Γ c (BS L ts hs) (QK K r)):AWp P Γ c (BS L ts hs) (QK K r):=by
 unfold around at h
 split at h
 .rename_i s o a
  refine AWp.post ((hb _ _ _ L _ h hi).mono fun e s'=>?_)
  rintro⟨ts',hs',L',rfl,hi',hk⟩
  cases e with
  |normal=>
   obtain⟨x,L2,h2,hi2,hw⟩:=QgN hgn hk hi'
   exact⟨_,hw,_,_,L2,rfl,hi2,h2⟩
  |_=>exact⟨_,Weak.refl _ _,_,_,L',rfl,hi',hk⟩
 .obtain⟨ts1,hs1,h,hi1,hw1⟩:=Qcl hgn h hi
  exact AWp.weaken _ (fun ρ M a w hs0=>hw1 ρ M a w hs0) (hb _ _ _ L _ h hi1)
 .exact hb _ _ _ L _ h hi
theorem Qli[DecidableEq R](hE:QnY P E)(hgn:Γ.names=gn)(hn:Γ.n=nn):∀(c:Code) (an:Ann) (ts:TS) (hs:HS) (L:Lens) (K:Cont R),vc P ty E gn nn fu c an ts hs K=some r->Inv L hs->AWp P Γ c (BS L ts hs) (QK K r)
 |.skip,an,ts,hs,L,K,h,hi=>AWp.skip ⟨_,_,L,rfl,hi,by simpa only[vc]using h⟩
 |.label _,an,ts,hs,L,K,h,hi=>AWp.label ⟨_,_,L,rfl,hi,by simpa only[vc]using h⟩
 |.ret,an,ts,hs,L,K,h,hi=>AWp.ret ⟨_,_,L,rfl,hi,by simpa only[vc]using h⟩
 |.exit id,an,ts,hs,L,K,h,hi=>AWp.exit ⟨_,_,L,rfl,hi,by simpa only[vc]using h⟩
 |.seq a b,an,ts,hs,L,K,h,hi=>by
  simp only[vc]at h
  refine Qeb hgn h hi fun an ts hs L K h hi=>AWp.seq ((Qli hE hgn hn a _ _ _ L _ h hi).mono fun e s'=>?_)
  rintro⟨ts',hs',L',rfl,hi',hk⟩
  cases e with
  |normal=>exact Qli hE hgn hn b _ _ _ L' _ hk hi'
  |_=>exact⟨_,_,L',rfl,hi',hk⟩
 |.cond (.tmp t) a b,an,ts,hs,L,K,h,hi=>by
  simp only[vc]at h
  refine Qeb hgn h hi fun an ts hs L K h hi=>?_
  split at h
  .rename_i q hl
   refine AWp.cond q (by rw[Xk,hl];simp only[Option.map_some,BV.er]) (fun hq=>?_) (fun hq=>?_)
   .subst hq;exact Qli hE hgn hn a _ _ _ L _ h hi
   .subst hq;exact Qli hE hgn hn b _ _ _ L _ h hi
  .rename_i hl
   obtain⟨h1,h2⟩:=QtE h
   intro ρ M w0 w hs0
   obtain⟨u,hu,hr⟩:=hs0.slots t _ (show(BS L ts hs).slot t=some .ub by rw[Xk,hl];simp only[Option.map_some,BV.er])
   simp only[AV.R]at hr
   obtain⟨q,rfl⟩:=hr
   have he:w0.eval (.tmp t)=.bool q:=by simp[Act.eval,Array.getD_eq_getD_getElem?,hu]
   cases q with
   |true=>exact wp_cond_true he (Qli hE hgn hn a _ _ _ L _ h1 hi ρ M w0 w hs0)
   |false=>exact wp_cond_false he (Qli hE hgn hn b _ _ _ L _ h2 hi ρ M w0 w hs0)
  .simp at h
 |.cond (.const c) a b,an,ts,hs,L,K,h,hi=>by
  cases c with
  |bool q=>
   simp only[vc]at h
   refine Qeb hgn h hi fun an ts hs L K h hi=>?_
   cases q with
   |true=>exact fun ρ M w0 w hs0=>wp_cond_true rfl (Qli hE hgn hn a _ _ _ L _ h hi ρ M w0 w hs0)
   |false=>exact fun ρ M w0 w hs0=>wp_cond_false rfl (Qli hE hgn hn b _ _ _ L _ h hi ρ M w0 w hs0)
  |_=>simp[vc]at h
 |.cond (.global _) a b,an,ts,hs,L,K,h,hi=>by simp[vc]at h
 |.cond (.func _) a b,an,ts,hs,L,K,h,hi=>by simp[vc]at h
 |.block id a,an,ts,hs,L,K,h,hi=>by
  simp only[vc]at h
  refine Qeb hgn h hi fun an ts hs L K h hi=>AWp.block ((Qli hE hgn hn a _ _ _ L _ h hi).mono fun e s'=>?_)
  rintro⟨ts',hs',L',rfl,hi',hk⟩
  cases e with
  |exit k=>
   simp only[QtD]
   simp only[Qw3]at hk
   split at hk
   .rename_i he;rw[if_pos (nbe he)];exact⟨_,_,L',rfl,hi',hk⟩
   .rename_i he;rw[if_neg (fun e=>he (by rw[e];exact Nat.beq_refl _))];exact⟨_,_,L',rfl,hi',hk⟩
  |_=>exact⟨_,_,L',rfl,hi',hk⟩
 |.loop a,an,ts,hs,L,K,h,hi=>by
  simp only[vc]at h
  split at h
  .rename_i s o an
   obtain⟨x,L1,h,hi1,hw⟩:=QgN hgn h hi
   refine AWp.weaken _ hw (AWp.loop (fun m s'=>∃x L',s'=BS L' (STL.put 0 s x.1) (OL.put 0 o x.2)/\Inv L' (OL.put 0 o x.2)/\Qg (fun Lp x=>vc P ty E gn nn fu a an (STL.put 0 s x.1) (OL.put 0 o x.2) (Qwp K fun ts hs=>Qmw gn s o ts hs Lp)) m x=some r)
    ⟨fu,x,L1,rfl,hi1,h⟩ ?_)
   rintro m s' ⟨x,L',rfl,hi',hm⟩
   cases m with
   |zero=>simp[Qg]at hm
   |succ m=>
    simp only[Qg]at hm
    refine AWp.post ((Qli hE hgn hn a _ _ _ L' _ hm hi').mono fun e s'=>?_)
    rintro⟨ts2,hs2,L2,rfl,hi2,hk⟩
    cases e with
    |normal=>
     obtain⟨x',L3,h3,hi3,hw3⟩:=QgN hgn hk hi2
     exact⟨_,hw3,m,Nat.lt_succ_self m,x',L3,rfl,hi3,h3⟩
    |_=>exact⟨_,Weak.refl _ _,_,_,L2,rfl,hi2,hk⟩
  .simp at h
 |.region id ops dr,an,ts,hs,L,K,h,hi=>by
  simp only[vc]at h
  refine Qeb hgn h hi fun an ts hs L K h hi=>?_
  cases dr with
  |false=>
   intro ρ M a w hs0
   refine wp_region ?_
   have:=QuZ (gn:=gn) (Γ:=Γ) (ops:=ops) (Q:=fun e a' w'=>∃s' ρ' M',QK K r e s'/\Sim Γ ρ' M' s' a' w') hE hgn hn (fun ts' hs' L' ρ' M' a' w' hk hi' hs'=>⟨_,ρ',M',⟨_,_,L',rfl,hi',hk⟩,hs'⟩) ops.size 0 ts hs L h hi ρ M a w hs0
   rwa [Nat.sub_zero,<-List.range_eq_range']at this
  |true=>
   simp only at h
   split at h
   case isFalse=>simp at h
   rename_i hm
   split at h
   .rename_i hlb
    obtain⟨rows,ts',hs',L',hk,hi',hst,hts,hhs,hg⟩:=Qfi hE (ops.size - 1) 0 [] ts hs L h hi
    change (if Qkm ops (rows++[noB]) ts hs=true then(match ops[ops.size - 1]? with
     |some o=>exK P ty E gn nn (guarded ops) [] o ts' hs' (fun ts hs=>K .normal ts hs)
     |none=>none)else none)=some r at hk
    by_cases hind:Qkm ops (rows++[noB]) ts hs=true
    case neg=>rw[if_neg hind]at hk;simp at hk
    rw[if_pos hind]at hk
    cases hop:ops[ops.size - 1]? with
    |none=>rw[hop]at hk;simp at hk
    |some o=>
    rw[hop]at hk
    replace hk:exK P ty E gn nn (guarded ops) [] o ts' hs' (fun ts hs=>K .normal ts hs)=some r:=hk
    have h0:0<ops.size:=by
     grind
    obtain⟨hg0,hmask⟩:=Qum hlb hop
    show AWp P Γ _ (mk (erT L ts) (erH L hs)) _
    rw[hts,hhs]
    have hrow:(rows++[noB]).map (BRow.row L')=rows.map (BRow.row L')++[Qcr]:=by simp[noB,Qcr,BRow.row,ev,erT,erH,BV.er]
    have hind':=QoD hind L'
    rw[hrow]at hind'
    refine AWp.drawX hn (by rw[hm,Bool.true_or]) h0 _ hst hg hind' hmask fun KK hKK=>?_
    exact Qt2 hE hgn hn hk (fun t v h=>by simp at h) (fun t v h=>by simp at h) Ob hi' hop (fun ρ M a w _=>by simp[Region.wanted,hg0]) (fun ts2 hs2 L2 ρ' M' a' w' hk2 hi2 hs2'=>hKK _ ρ' M' a' w' ⟨_,_,L2,rfl,hi2,hk2⟩ hs2')
   obtain⟨rows,ts',hs',L',hk,hi',hst,hts,hhs,hg⟩:=Qfi hE ops.size 0 [] ts hs L h hi
   change (if Qkm ops rows ts hs=true then K .normal ts' hs' else none)=some r at hk
   split at hk
   case isFalse=>simp at hk
   rename_i hind
   show AWp P Γ _ (mk (erT L ts) (erH L hs)) _
   rw[hts,hhs]
   exact AWp.drawG hn (by rw[hm,Bool.true_or]) _ hst hg (QoD hind L') ⟨_,_,L',rfl,hi',hk⟩
 |.rangeFunc ..,an,ts,hs,L,K,h,hi=>by simp[vc]at h
 |.scope _,an,ts,hs,L,K,h,hi=>by simp[vc]at h
 |.goto _,an,ts,hs,L,K,h,hi=>by simp[vc]at h
 |.refuse _,an,ts,hs,L,K,h,hi=>by simp[vc]at h
end
section
variable {R:Type} (P:Program)
def resV(ts:TS)(hs:HS):ResultVar->Option BV
 |.tmp t=>look t ts
 |.cell t T=>match look t ts with
  |some (.ref n 0)=>match look n hs with
   |some (.box cells)=>if aggT P T then(match ZK P T with|some z=>if Nat.beq z cells.length then some (.agg cells)else none|none=>none)
    else if Qer P T then(match cells with|[v]=>some v|_=>none)else none
   |_=>none
  |_=>none
def QqN(ts:TS)(hs:HS):List ResultVar->Option (List BV)
 |[]=>some []
 |x::q=>match resV P ts hs x,QqN ts hs q with
  |some v,some vs=>some (v::vs)
  |_,_=>none
def Sh.owns:Sh->List Name
 |.own nm=>[nm]
 |.view nm=>[nm]
 |_=>[]
def SSh.owns:SSh->List Name
 |.one s=>s.owns
 |.st _=>[]
 |.agg l=>l.flatMap Sh.owns
def OSh.owns:OSh->List Name
 |.box l=>l.flatMap Sh.owns
 |_=>[]
def arrB(l:List (Name×OSh))(n:Name):Bool:=match look n l with
 |some (.arr _)=>true
 |_=>false
def sameC{α:Type}[DecidableEq α](a b:α)(x:Option R):Option R:=if a=b then x else none
def Qhg(hs:HS):(l:List (Name×OSh))->List Name->OL l->Option R->Option R
 |[],_,_,x=>x
 |(nm,.arr t)::l,ks,y,x=>if isIn nm ks then(match look nm hs with
   |some (.arr t' z _)=>if h:t'=t then sameC (Qoc h z) y.1 (Qhg hs l ks y.2 x)else none
   |_=>none)else Qhg hs l ks y.2 x
 |(nm,.box _)::l,ks,y,x=>if isIn nm ks then none else Qhg hs l ks y.2 x
 |(nm,.arrs _)::l,ks,y,x=>if isIn nm ks then none else Qhg hs l ks y.2 x
 |(nm,.sm)::l,ks,y,x=>if isIn nm ks then none else Qhg hs l ks y.2 x
 |(nm,.boxst t)::l,ks,y,x=>if isIn nm ks then(match look nm hs with
   |some (.box cs)=>tpop t cs fun z rest=>match rest with
    |[]=>sameC z y.1 (Qhg hs l ks y.2 x)
    |_=>none
   |_=>none)else Qhg hs l ks y.2 x
def Qve:List ResultVar->List SSh->List (Nat×SSh)
 |.tmp t::r,s::q=>(t,s)::Qve r q
 |_::r,_::q=>Qve r q
 |_,_=>[]
def Qq9(ts:TS):List ResultVar->List SSh->List (Name×OSh)
 |.cell t _::r,.agg l::q=>(match look t ts with
  |some (.ref m 0)=>(m,.box l)::Qq9 ts r q
  |_=>Qq9 ts r q)
 |_::r,_::q=>Qq9 ts r q
 |_,_=>[]
def endK(gn:List Name)(rs:List ResultVar)(g:Sig)(y:OL g.pre)(K:SL g.res->OL g.post->Option R)(ts:TS)(hs:HS):Option R:=
 QlQ g.post (Qve rs g.res) ts hs fun ts hs=>Qs1 g.post ts (Qq9 ts rs g.res) hs fun hs=>match QqN P ts hs rs with
 |none=>none
 |some vs=>frzK gn (UN g.post hs g.res vs) ts hs fun ts hs=>match QqN P ts hs rs with
  |none=>none
  |some vs=>SL.get g.res (QnS hs g.res vs) [] fun σ a=>OL.get g.post hs ((keys g.post).map (fun n=>(n,(n,Qzk n hs)))++σ) fun σ b=>
    if Qx0 σ && (keys g.pre).all (fun n=>isIn n (keys g.post) || isIn n g.keep) && g.keep.all (fun n=>isIn n (keys g.pre)) && (g.res.flatMap SSh.owns).all (arrB g.post) && (g.post.flatMap fun p=>p.2.owns).all (arrB g.post)then Qhg hs g.pre g.keep y (K a b)else none
end
end
/-
  The typed layer, part P: the contract of a function, out of what is reckoned of its code. No project text.
-/
open Go
variable {L L':Lens} {ts ts':TS} {hs hs':HS}
theorem Quv{M:Nat->Prop}{ρ:Name->Loc}{h h':List (Name×AO)}(h1:∀n o',look n h'=some o'->∃o,look n h=some o)(h2:∀n o,look n h=some o->∃o',look n h'=some o'):newM M ρ h=newM M ρ h':=by
 funext b
 exact propext (or_congr_right ⟨fun⟨n,o,k1,k2⟩=>by obtain⟨o',k3⟩:=h2 n o k1;exact⟨n,o',k3,k2⟩,fun⟨n,o,k1,k2⟩=>by obtain⟨o',k3⟩:=h1 n o k1;exact⟨n,o',k3,k2⟩⟩)
theorem After.le{ρ:Name->Loc}{M:Nat->Prop}{w:World}{pre:List (Name×AO)}{u:Value}{v v':AV}{h h':List (Name×AO)}{ρ':Name->Loc}{w':World}(ha:After ρ M w pre u v h ρ' w')(hv:∀(ρ:Name->Loc) (H:Heap) (M:Nat->Prop) (w:World) (u:Value),v.R ρ H M w u->v'.R ρ H M w u)(h1:∀n o',look n h'=some o'->∃o,look n h=some o/\(o=o'\/∃cs ds,o=.box cs/\o'=.box ds/\XN cs ds))(h2:∀n o,look n h=some o->∃o',look n h'=some o'):After ρ M w pre u v' h' ρ' w':=by
 have hM:newM M ρ' h=newM M ρ' h':=Quv (fun n o' hn=>by obtain⟨o,k,_⟩:=h1 n o' hn;exact⟨o,k⟩) h2
 have hst:QfR ρ' (XA h) ρ' (XA h'):=fun n o hn=>by
  obtain⟨o',ho'⟩:=h2 n o hn
  obtain⟨o2,ho2,hle⟩:=h1 n o' ho'
  change look n h=some o at hn
  rw[hn]at ho2;cases ho2
  change stays o (ρ' n) (look n h') (ρ' n)
  rw[ho']
  rcases hle with rfl|⟨cs,ds,rfl,rfl,_⟩
  .exact Z4 _ _
  .rfl
 have hnn:∀n,XA h n=none->XA h' n=none:=fun n hn=>by
  cases hc:XA h' n with
  |none=>rfl
  |some o'=>
   obtain⟨o,ho,_⟩:=h1 n o' hc
   change look n h=none at hn
   simp_all
 have hconvs:∀{xs:List AV} {us:List Value},AV.Rs ρ' (XA h) (newM M ρ' h) w' xs us->AV.Rs ρ' (XA h') (newM M ρ' h) w' xs us:=fun hr=>
  hr.step (Ext.refl (fun _=>False) _) (fun _ hb=>hb.elim) (fun b _ hb=>hb) hst (fun n _=>hnn n)
 refine⟨?_,fun n o' hn=>?_,fun n m o o' b g1 g2=>?_,fun n o b g1 g2=>?_,ha.ext,fun n o hn=>?_⟩
 .rw[<-hM]
  exact hv _ _ _ _ _ (ha.val.step (Ext.refl (fun _=>False) _) (fun _ hb=>hb.elim) (fun b _ hb=>hb) hst (fun n _=>hnn n))
 .obtain⟨o,ho,hle⟩:=h1 n o' hn
  have hobj:=ha.objs n o ho
  rw[<-hM]
  rcases hle with rfl|⟨cs,ds,rfl,rfl,hle⟩
  .cases o with
   |box cells=>obtain⟨b,T,cs,k1,k2,k3,k4⟩:=hobj;exact⟨b,T,cs,k1,k2,k3,hconvs k4⟩
   |arr es rows=>exact hobj
   |hole es pre row post=>obtain⟨k0,k0',k1,b,T,cs,k3,k4,k5,k6,k7,k8,k9⟩:=hobj;exact⟨k0,k0',k1,b,T,cs,k3,k4,k5,k6,k7,hconvs k8,k9⟩
   |fact a x=>exact⟨hobj.1,hobj.2.step (Ext.refl (fun _=>False) _) (fun _ hb=>hb.elim) (fun b _ hb=>hb) hst (fun n _=>hnn n)⟩
   |obj x=>exact hobj
  .obtain⟨b,T,us',k1,k2,k3,k4⟩:=hobj
   exact⟨b,T,us',k1,k2,k3,Qxr hle _ (hconvs k4)⟩
 .obtain⟨p,k1,_⟩:=h1 n o g1
  obtain⟨q,k2,_⟩:=h1 m o' g2
  exact ha.inj n m p q b k1 k2
 .obtain⟨p,k1,_⟩:=h1 n o g1
  exact ha.own n p b k1 g2
 .obtain⟨o1,k1,k2⟩:=ha.keep n o hn
  obtain⟨o2,k3⟩:=h2 n o1 k1
  refine⟨o2,k3,?_⟩
  obtain⟨o3,k4,hle⟩:=h1 n o2 k3
  rw[k1]at k4;cases k4
  rcases hle with rfl|⟨cs,ds,rfl,rfl,_⟩
  .exact k2
  .cases o<;>simp only[stays]at k2|-<;>exact k2
section
variable {u v:Nat}
theorem Sh.put_ver{s:Sh}{X:Type}{x:s.prod X}(h:∀n,n∈s.owns->L n u=L' n v):(s.put u X x).1.er L=(s.put v X x).1.er L'/\(s.put u X x).2=(s.put v X x).2:=by
 cases s with
 |own nm=>exact⟨by simp only[Sh.put,BV.er];rw[h nm (by simp[Sh.owns])],rfl⟩
 |view nm=>exact⟨by simp only[Sh.put,BV.er];rw[h nm (by simp[Sh.owns])],rfl⟩
 |clo f caps=>exact⟨by simp only[Sh.put,BV.er];congr 1;simp only[VF,List.map_map];exact List.map_congr_left fun n _=>by simp only[Function.comp,BV.er],rfl⟩
 |_=>exact⟨by simp only[Sh.put,BV.er],rfl⟩
theorem TL.put_ver:∀{l:List Sh} {x:TL l},(∀n,n∈l.flatMap Sh.owns->L n u=L' n v)->erL L (TL.put u l x)=erL L' (TL.put v l x)
 |[],x,_=>by simp only[TL.put,erL]
 |s::r,x,h=>by
  have h1:=Sh.put_ver (s:=s) (x:=x) (L:=L) (L':=L') (u:=u) (v:=v) (fun n hn=>h n (by simp[hn]))
  have h2:=TL.put_ver (l:=r) (x:=(s.put u _ x).2) (fun n hn=>h n (by rw[List.flatMap_cons];exact List.mem_append_right _ hn))
  simp only[TL.put,erL,h1.1,h2]
  rw[h1.2]
theorem SSh.put_ver{s:SSh}{X:Type}{x:s.prod X}(h:∀n,n∈s.owns->L n u=L' n v):(s.put u X x).1.er L=(s.put v X x).1.er L'/\(s.put u X x).2=(s.put v X x).2:=by
 cases s with
 |one s=>exact Sh.put_ver h
 |st t=>simp only[SSh.put,BV.er,and_true];rw[Vn (QcQ t x.1),Vn (QcQ t x.1)]
 |agg l=>simp only[SSh.put,BV.er,and_true];rw[TL.put_ver h]
theorem SL.put_ver:∀{l:List SSh} {x:SL l},(∀n,n∈l.flatMap SSh.owns->L n u=L' n v)->erL L (SL.put u l x)=erL L' (SL.put v l x)
 |[],x,_=>by simp only[SL.put,erL]
 |s::r,x,h=>by
  have h1:=SSh.put_ver (s:=s) (x:=x) (L:=L) (L':=L') (u:=u) (v:=v) (fun n hn=>h n (by simp[hn]))
  have h2:=SL.put_ver (l:=r) (x:=(s.put u _ x).2) (fun n hn=>h n (by rw[List.flatMap_cons];exact List.mem_append_right _ hn))
  simp only[SL.put,erL,h1.1,h2]
  rw[h1.2]
theorem OSh.put_ver{s:OSh}{x:s.T}(h:∀n,n∈s.owns->L n u=L' n v):(s.put u x).er L=(s.put v x).er L':=by
 cases s with
 |box l=>exact congrArg AO.box (TL.put_ver (l:=l) (x:=x) h)
 |boxst t=>simp only[OSh.put,BO.er];rw[Vn (QcQ t x),Vn (QcQ t x)]
 |arr t=>simp only[OSh.put,BO.er]
 |arrs t=>simp only[OSh.put,BO.er]
 |sm=>simp only[OSh.put,BO.er]
end
theorem Qqh{u:Nat}{n:Name}{b:BO}:∀{l:List (Name×OSh)} {y:OL l},look n (OL.put u l y)=some b->∃(p:Name×OSh) (x:p.2.T),p∈l/\look n l=some p.2/\b=p.2.put u x/\∀w,look n (OL.put w l y)=some (p.2.put w x)
 |[],y,h=>by change look n []=some b at h;simp[look]at h
 |p::l,y,h=>by
  change look n ((p.1,p.2.put u y.1)::OL.put u l y.2)=some b at h
  simp only[look]at h
  split at h
  .rename_i e
   cases h
   refine⟨p,y.1,Ob,by obtain⟨k,o⟩:=p;simp only[look];rw[if_pos e],rfl,fun w=>?_⟩
   change look n ((p.1,p.2.put w y.1)::OL.put w l y.2)=_
   simp only[look];rw[if_pos e]
  .rename_i e
   obtain⟨q,x,h1,h2,h3,h4⟩:=Qqh h
   refine⟨q,x,List.mem_cons_of_mem _ h1,by obtain⟨k,o⟩:=p;simp only[look];rw[if_neg e];exact h2,h3,fun w=>?_⟩
   change look n ((p.1,p.2.put w y.1)::OL.put w l y.2)=_
   simp only[look];rw[if_neg e];exact h4 w
def Qcg:Nat->List BV->TS
 |_,[]=>[]
 |i,x::r=>(i,x)::Qcg (i+1) r
theorem QjI:∀(i:Nat) (l:List BV),Qax i (erL L l)=erT L (Qcg i l)
 |_,[]=>by simp only[erL,Qax,Qcg];rfl
 |i,x::r=>by simp only[erL,Qax,Qcg,QjI (i+1) r];rfl
theorem XN.Ts{ρ:Name->Loc}{H:Heap}{M:Nat->Prop}{w:World}:∀{xs ys:List AV} {us:List Value},XN xs ys->AV.Ts ρ H M w xs us->AV.Ts ρ H M w ys us
 |[],ys,us,h,hr=>by cases h;exact hr
 |x::xs,ys,us,h,hr=>by
  cases h with
  |cons h1 h2=>
   simp only[AV.Ts]at hr |-
   obtain⟨u,us',rfl,h3,h4⟩:=hr
   exact⟨u,us',rfl,h1.sound u h3,XN.Ts h2 h4⟩
theorem Qu5{vs ws:List BV}(h:XN (erL L vs) (erL L' ws))(ρ:Name->Loc)(H:Heap)(M:Nat->Prop)(w:World)(u:Value)(hr:((resB vs).er L).R ρ H M w u):((resB ws).er L').R ρ H M w u:=by
 have hl:vs.length=ws.length:=by have:=h.len;rwa [Xy,Xy]at this
 match vs,ws,hl with
 |[],[],_=>exact hr
 |[v],[x],_=>
  simp only[erL]at h
  cases h with
  |cons h1 _=>exact h1.sound u hr
 |v1::v2::vs,x1::x2::ws,_=>
  simp only[resB,BV.er,AV.R]at hr |-
  obtain⟨us,rfl,h2⟩:=hr
  exact⟨us,rfl,XN.Ts h h2⟩
section
variable {P:Program}
theorem Qmr:∀{rs:List ResultVar} {vs:List BV},QqN P ts hs rs=some vs->vs.length=rs.length/\Res1s P (BS L ts hs) rs (erL L vs)
 |[],vs,h=>by simp only[QqN,Option.some.injEq]at h;subst h;exact⟨rfl,by simp only[erL];rfl⟩
 |x::q,vs,h=>by
  simp only[QqN]at h
  split at h
  .rename_i v vs' h1 h2
   cases h
   obtain⟨k1,k2⟩:=Qmr h2
   refine⟨by simp[k1],⟨v.er L,erL L vs',by simp only[erL],?_,k2⟩⟩
   cases x with
   |tmp t=>
    simp only[resV]at h1
    show(BS L ts hs).slot t=_
    rw[Xk,h1];rfl
   |cell t T=>
    simp only[resV]at h1
    split at h1
    .rename_i n ht
     split at h1
     .rename_i cells hc
      refine⟨n,erL L cells,by rw[Xk,ht];simp only[Option.map_some,BV.er],by rw[Xj,hc];rfl,?_⟩
      split at h1
      .rename_i hT
       split at h1
       .rename_i z hz
        split at h1
        .rename_i hb;cases h1;exact .inl ⟨hT,by rw[hz,Xy,nbe hb],by simp only[BV.er]⟩
        .simp at h1
       .simp at h1
      .split at h1
       .rename_i hT
        split at h1
        .cases h1;exact .inr ⟨hT,by simp only[erL]⟩
        .simp at h1
       .simp at h1
     .simp at h1
    .simp at h1
  .simp at h
theorem Qzb{rs:Array ResultVar}{vs:List BV}(h:QqN P ts hs rs.toList=some vs):Res P (BS L ts hs) rs ((resB vs).er L):=by
 obtain⟨h1,h2⟩:=Qmr (L:=L) h
 unfold Res
 match vs,h1 with
 |[],h1=>
  have:¬rs.size=1:=fun e=>by rw[<-Array.length_toList,<-h1]at e;simp at e
  rw[if_neg this];exact⟨_,by simp only[resB,BV.er],h2⟩
 |[v],h1=>
  have:rs.size=1:=by rw[<-Array.length_toList,<-h1];rfl
  rw[if_pos this];simpa only[resB,erL]using h2
 |v1::v2::vs,h1=>
  have:¬rs.size=1:=fun e=>by rw[<-Array.length_toList,<-h1]at e;simp at e
  rw[if_neg this];exact⟨_,by simp only[resB,BV.er],h2⟩
theorem Vv{R:Type}{r:R}:∀{l:List (Name×OSh)} {ks:List Name} {y:OL l} {x:Option R},Qhg hs l ks y x=some r->
  x=some r/\∀n b,n∈ks->look n (OL.put 0 l y)=some b->(∃t z v,b=.arr t z 0/\look n hs=some (.arr t z v))\/∃t z cs,b=.box (tb t z)/\look n hs=some (.box cs)/\Le cs (tb t z)
 |[],ks,y,x,h=>⟨h,fun n b _ hn=>by change look n []=some b at hn;simp[look]at hn⟩
 |(nm,o)::l,ks,y,x,h=>by
  have hrest:(x=some r/\∀n b,n∈ks->look n (OL.put 0 l y.2)=some b->(∃t z v,b=.arr t z 0/\look n hs=some (.arr t z v))\/∃t z cs,b=.box (tb t z)/\look n hs=some (.box cs)/\Le cs (tb t z))->
    (isIn nm ks=true->(∃t z v,o.put 0 y.1=.arr t z 0/\look nm hs=some (.arr t z v))\/∃t z cs,o.put 0 y.1=.box (tb t z)/\look nm hs=some (.box cs)/\Le cs (tb t z))->
    x=some r/\∀n b,n∈ks->look n (OL.put 0 ((nm,o)::l) y)=some b->(∃t z v,b=.arr t z 0/\look n hs=some (.arr t z v))\/∃t z cs,b=.box (tb t z)/\look n hs=some (.box cs)/\Le cs (tb t z):=fun hr hq=>by
   refine⟨hr.1,fun n b hn hb=>?_⟩
   change look n ((nm,o.put 0 y.1)::OL.put 0 l y.2)=some b at hb
   simp only[look]at hb
   split at hb
   .rename_i e
    subst e;cases hb
    exact hq (XR.2 hn)
   .exact hr.2 n b hn hb
  cases o with
  |arr t=>
   simp only[Qhg]at h
   split at h
   .split at h
    .rename_i t' z v hl
     split at h
     .rename_i he
      subst he
      unfold sameC at h
      split at h
      .rename_i hz
       exact hrest (Vv h) (fun _=>.inl ⟨_,_,v,rfl,by rw[hl,<-hz];rfl⟩)
      .simp at h
     .simp at h
    .simp at h
   .rename_i hin
    exact hrest (Vv h) (fun hi=>absurd hi hin)
  |boxst t=>
   simp only[Qhg]at h
   split at h
   .split at h
    .rename_i cs hl
     obtain⟨z,rest,hle,h⟩:=QcT t h
     split at h
     .unfold sameC at h
      split at h
      .rename_i hz
       refine hrest (Vv h) (fun _=>.inr ⟨t,y.1,cs,rfl,hl,?_⟩)
       rw[List.append_nil]at hle
       rw[<-hz];exact hle
      .simp at h
     .simp at h
    .simp at h
   .rename_i hin
    exact hrest (Vv h) (fun hi=>absurd hi hin)
  |box c=>
   simp only[Qhg]at h
   split at h
   .simp at h
   .rename_i hin
    exact hrest (Vv h) (fun hi=>absurd hi hin)
  |arrs c=>
   simp only[Qhg]at h
   split at h
   .simp at h
   .rename_i hin
    exact hrest (Vv h) (fun hi=>absurd hi hin)
  |sm=>
   simp only[Qhg]at h
   split at h
   .simp at h
   .rename_i hin
    exact hrest (Vv h) (fun hi=>absurd hi hin)
theorem Qiv{u:Nat}:∀{l:List SSh} {x:SL l},(SL.put u l x).length=l.length
 |[],_=>rfl
 |s::r,x=>by simp only[SL.put,List.length_cons,Qiv (l:=r)]
def Qh5:(l:List (Name×OSh))->OL l->Name->Option Nat
 |[],_,_=>none
 |(k,.arr _)::r,y,n=>if Nat.beq k n then some y.1.length else Qh5 r y.2 n
 |(k,.arrs _)::r,y,n=>if Nat.beq k n then none else Qh5 r y.2 n
 |(k,.box _)::r,y,n=>if Nat.beq k n then none else Qh5 r y.2 n
 |(k,.boxst _)::r,y,n=>if Nat.beq k n then none else Qh5 r y.2 n
 |(k,.sm)::r,y,n=>if Nat.beq k n then none else Qh5 r y.2 n
def lenB{R:Type}(pre:List (Name×OSh))(y:OL pre):(l:List (Name×OSh))->OL l->Option R->Option R
 |[],_,x=>x
 |(n,.arrs _)::r,b,x=>match Qh5 pre y n with
  |some m=>chk b.1.length m (lenB pre y r b.2 x)
  |none=>none
 |(_,.arr _)::r,b,x=>lenB pre y r b.2 x
 |(_,.box _)::r,b,x=>lenB pre y r b.2 x
 |(_,.boxst _)::r,b,x=>lenB pre y r b.2 x
 |(_,.sm)::r,b,x=>lenB pre y r b.2 x
theorem Qmc:∀{l:List (Name×OSh)} {y:OL l} {n:Name} {m:Nat},Qh5 l y n=some m->∃(t:TC) (z:List (TT t)),look n (OL.put 0 l y)=some (.arr t z 0)/\z.length=m
 |[],y,n,m,h=>by simp[Qh5]at h
 |(k,o)::r,y,n,m,h=>by
  have hrest:Qh5 r y.2 n=some m->k≠n->∃(t:TC) (z:List (TT t)),look n (OL.put 0 ((k,o)::r) y)=some (.arr t z 0)/\z.length=m:=fun h e=>by
   obtain⟨t,z,h1,h2⟩:=Qmc h
   refine⟨t,z,?_,h2⟩
   change look n ((k,o.put 0 y.1)::OL.put 0 r y.2)=_
   simp only[look];rw[if_neg e];exact h1
  cases o<;>simp only[Qh5]at h<;>split at h
  all_goals first
   |(simp at h;done)
   |(rename_i e;exact hrest h (fun h'=>e (by rw[h'];exact Nat.beq_refl _)))
   |skip
  rename_i t e
  have:=nbe e;subst this
  refine⟨t,y.1,?_,by simpa using h⟩
  change look k ((k,_)::OL.put 0 r y.2)=_
  simp only[look,if_true];rfl
theorem Qet{R:Type}{r:R}{pre:List (Name×OSh)}{y:OL pre}:∀{l:List (Name×OSh)} {b:OL l} {x:Option R},lenB pre y l b x=some r->
  x=some r/\∀n (t:TC) (z:List (TT t)),look n (OL.put 1 l b)=some (.arr t z 0)->Qh5 pre y n=some z.length
 |[],b,x,h=>⟨h,fun n t z hn=>by change look n []=_ at hn;simp[look]at hn⟩
 |(k,o)::l,b,x,h=>by
  have hrest:lenB pre y l b.2 x=some r->(∀(t:TC) (z:List (TT t)),o.put 1 b.1=.arr t z 0->Qh5 pre y k=some z.length)->
    x=some r/\∀n (t:TC) (z:List (TT t)),look n (OL.put 1 ((k,o)::l) b)=some (.arr t z 0)->Qh5 pre y n=some z.length:=fun h hq=>by
   obtain⟨h1,h2⟩:=Qet h
   refine⟨h1,fun n t z hn=>?_⟩
   change look n ((k,o.put 1 b.1)::OL.put 1 l b.2)=_ at hn
   simp only[look]at hn
   split at hn
   .rename_i e;subst e;exact hq t z (Option.some.inj hn)
   .exact h2 n t z hn
  cases o with
  |arrs t=>
   simp only[lenB]at h
   split at h
   .rename_i m hm
    obtain⟨e,h⟩:=Qfh h
    refine hrest h fun t' z hz=>?_
    simp only[OSh.put]at hz
    cases hz
    rw[hm,<-e]
   .simp at h
  |arr t=>exact hrest h fun t' z hz=>by simp only[OSh.put]at hz;injection hz with _ _ h3;simp at h3
  |box t=>exact hrest h fun t' z hz=>by simp[OSh.put]at hz
  |boxst t=>exact hrest h fun t' z hz=>by simp[OSh.put]at hz
  |sm=>exact hrest h fun t' z hz=>by simp[OSh.put]at hz
theorem Qc7{R R':Type}{r:R}{r':R'}{pre:List (Name×OSh)}{y:OL pre}:∀{l:List (Name×OSh)} {b:OL l} {x:Option R},lenB pre y l b x=some r->lenB pre y l b (some r')=some r'
 |[],b,x,h=>rfl
 |(k,.arrs t)::l,b,x,h=>by
  simp only[lenB]at h |-
  split at h
  .obtain⟨e,h⟩:=Qfh h
   unfold chk;rw[if_pos e];exact Qc7 h
  .simp at h
 |(k,.arr t)::l,b,x,h=>Qc7 (l:=l) h
 |(k,.box t)::l,b,x,h=>Qc7 (l:=l) h
 |(k,.boxst t)::l,b,x,h=>Qc7 (l:=l) h
 |(k,.sm)::l,b,x,h=>Qc7 (l:=l) h
def Qd(args:List SSh)(pre:List (Name×OSh))(res:List SSh)(post:List (Name×OSh))(keep:List Name)(Ret:Type)(un:Ret->SL res×OL post)(f:SL args->OL pre->Option Ret):Sig:=
 ⟨args,pre,res,post,keep,fun _ x y K=>optc (f x y) fun q=>lenB pre y post (un q).2 (K (un q).1 (un q).2)⟩
def finK{R:Type}(P:Program)(gn:List Name)(rs:List ResultVar)(g:Sig)(y:OL g.pre)(K:SL g.res->OL g.post->Option R):Cont R:=fun e ts hs=>match e with
 |.normal=>endK P gn rs g y K ts hs
 |.ret=>endK P gn rs g y K ts hs
 |_=>none
theorem FnOK.intro{ty:TypeId->Option TC}{E:Env}{fu:Nat}{f:FuncId}{fn:Func}{c:Code}{an:Ann}{args:List SSh}{pre:List (Name×OSh)}{res:List SSh}{post:List (Name×OSh)}{keep:List Name}{Ret:Type}[DecidableEq Ret]{un:Ret->SL res×OL post}{F:SL args->OL pre->Option Ret}(conv:SL res->OL post->Ret)(hcu:∀a b,un (conv a b)=(a,b))(hE:QnY P E)(hf:P.funcs[f]?=some fn)(hb:fn.body=some c)(hlen:Nat.ble args.length fn.ntmps=true)(hF:∀x y,vc P ty E (keys pre) fn.ntmps fu c an (Qcg 0 (SL.put 0 args x)) (OL.put 0 pre y) (finK P (keys pre) fn.results.toList (Qd args pre res post keep Ret un F) y fun a b=>some (conv a b))=F x y):
  FnOK P f (Qd args pre res post keep Ret un F):=by
 refine⟨fun R x y K r h=>?_,fun x y a b h L0 hL0=>?_⟩
 .obtain⟨q,hq,h⟩:=Wx h
  obtain⟨h',hle⟩:=Qet h
  refine⟨(un q).1,(un q).2,?_,h'⟩
  show optc (F x y) _=_
  rw[hq]
  exact Qc7 h
 .change SL args at x
  change OL pre at y
  change SL res at a
  change OL post at b
  obtain⟨q,hq,h⟩:=Wx h
  obtain⟨h,hlens⟩:=Qet h
  simp only[Option.some.injEq]at h
  have hvc:=(hF x y).trans hq
  let g:Sig:=Qd args pre res post keep Ret un F
  let L1:Lens:=fun n v=>match look n (g.posts y b)with
   |some (.arr t l u)=>if v=u then l.length else L0 n v
   |_=>L0 n v
  have hL1:∀n t l v,look n (g.posts y b)=some (.arr t l v)->L1 n v=l.length:=fun n t l v hn=>by
   grind
  have hpost:∀n b0,look n (OL.put 1 post b)=some b0->look n (g.posts y b)=some b0:=fun n b0 hn=>by
   show look n (OL.put 1 post b++_)=_
   rw[ZV,hn]
  have hpre:∀n b0,look n (OL.put 1 post b)=none->n∈keep->look n (OL.put 0 pre y)=some b0->look n (g.posts y b)=some b0:=fun n b0 h1 h2 h3=>by
   show look n (OL.put 1 post b++(OL.put 0 pre y).filter (fun p=>keep.contains p.1))=_
   rw[ZV,h1]
   simp only[Vo (f:=fun n=>keep.contains n)]
   simp_all
  refine⟨L1,fun n hn=>?_,hL1,?_⟩
  .show(match look n (g.posts y b)with|some (.arr t l u)=>if 0=u then l.length else L0 n 0|_=>L0 n 0)=_
   split
   .rename_i t l u hl
    split
    .rename_i e
     subst e
     change look n (OL.put 1 post b++(OL.put 0 pre y).filter (fun p=>keep.contains p.1))=_ at hl
     rw[ZV]at hl
     cases h1:look n (OL.put 1 post b)with
     |some b1=>
      rw[h1]at hl;cases hl
      have hab:(un q).2=b:=congrArg Prod.snd h
      rw[hab]at hlens
      obtain⟨t',z,k1,k2⟩:=Qmc (hlens n t l h1)
      rw[<-k2];exact(hL0 n t' z 0 k1).symm
     |none=>
      rw[h1]at hl
      simp only[Vo (f:=fun n=>keep.contains n)]at hl
      split at hl
      .exact(hL0 n t l 0 hl).symm
      .simp at hl
    .rfl
   .rfl
  .have hspec:Spec P f (erL L0 (SL.put 0 args x)) (erH L0 (OL.put 0 pre y)) fun v h'=>
     (∀(ρ:Name->Loc) (H:Heap) (M:Nat->Prop) (w:World) (u:Value),v.R ρ H M w u->((resB (SL.put 1 res a)).er L1).R ρ H M w u)/\
     (∀n o',look n (erH L1 (g.posts y b))=some o'->∃o,look n h'=some o/\(o=o'\/∃cs ds,o=.box cs/\o'=.box ds/\XN cs ds))/\(∀n o,look n h'=some o->∃o',look n (erH L1 (g.posts y b))=some o'):=by
    refine Spec.intro hf hb (by rw[Xy,Qiv];exact hlen) fun Γ hn hk=>?_
    rw[Qc4,Qjm]at hk
    rw[QjI]
    refine AWp.post ((Qli hE hk hn c an _ _ L0 _ hvc hL0).mono fun e s'=>?_)
    rintro⟨ts',hs',L',rfl,hi',hk'⟩
    have hend:(e=.normal\/e=.ret)/\endK P (keys pre) fn.results.toList g y (fun a b=>some (conv a b)) ts' hs'=some q:=by
     cases e with
     |normal=>exact⟨.inl rfl,hk'⟩
     |ret=>exact⟨.inr rfl,hk'⟩
     |_=>simp[finK]at hk'
    obtain⟨he,hk'⟩:=hend
    unfold endK at hk'
    obtain⟨ts2,hs2',L2',hk',hi2',hw0'⟩:=Qa0 (Γ:=Γ) hk' hi'
    obtain⟨hs2,L2,hk',hi2,hw0''⟩:=QfO (Γ:=Γ) hk' hi2'
    have hw0:=hw0'.trans hw0''
    split at hk'
    .simp at hk'
    rename_i vs0 hvs0
    obtain⟨ts1,hs1,hk',hi1,hw1⟩:=Qcl hk hk' hi2
    split at hk'
    .simp at hk'
    rename_i vs hvs
    obtain⟨σ1,a',hk',hs1',g1⟩:=SL.get_some hk'
    obtain⟨σ2,b',hk',hs2',g2⟩:=OL.get_some hk'
    split at hk'
    case isFalse=>simp at hk'
    rename_i hchk
    simp only[bae]at hchk
    obtain⟨⟨⟨⟨hid,hall⟩,hkp⟩,hown1⟩,hown2⟩:=hchk
    obtain⟨hq',hkept⟩:=Vv hk'
    simp only[Option.some.injEq]at hq'
    have hab:(a',b')=(a,b):=(hcu a' b').symm.trans ((congrArg un hq').trans h)
    obtain⟨hab1,hab2⟩:=Prod.mk.inj hab
    rw[hab1]at g1
    rw[hab2]at g2
    have hf2:=QpH hid
    have hf1:Fit (fun n=>n) (QhM σ2) σ1:=hf2.mono fun p hp=>hs2' p (List.mem_append_right _ hp)
    have hlen2:∀n,arrB post n=true->Qap L2 (fun n=>n) (QhM σ2) n 0=L1 n 1:=fun n hn=>by
     have hkn:n∈keys post:=by
      unfold arrB at hn
      split at hn
      .rename_i hl;exact Zl (by rw[hl];simp)
      .simp at hn
     obtain⟨b0,hb0⟩:=Qfm (u:=0) (y:=b) hkn
     obtain⟨p,z,hp1,hp2,hp3,hp4⟩:=Qqh hb0
     unfold arrB at hn
     rw[hp2]at hn
     obtain⟨k,o⟩:=p
     cases o with
     |arr t=>
      have h1:=hL1 n t z 1 (hpost n _ (hp4 1))
      obtain⟨ob,hob,hle⟩:=g2 _ _ L2 hf2 n _ (hp4 0)
      rcases hle with⟨cs,ds,_,h2,_⟩|⟨t',l',rfl,h2⟩|⟨es,_,h2⟩
      .cases h2
      .cases h2
       rw[h1];exact hi1 n t z _ hob
      .cases h2
     |box l=>simp at hn
     |boxst t=>simp at hn
     |arrs t=>simp at hn
     |sm=>simp at hn
    have hle1:XN (erL L2 (QnS hs1 g.res vs)) (erL L1 (SL.put 1 res a)):=by
     have:=g1 _ _ L2 hf1
     rw[QeZ]at this
     have e:=SL.put_ver (l:=res) (x:=a) (L:=Qap L2 (fun n=>n) (QhM σ2)) (L':=L1) (u:=0) (v:=1) (fun n hn=>hlen2 n (List.all_eq_true.1 hown1 n hn))
     exact Eq.mp (congrArg (XN (erL L2 (QnS hs1 g.res vs))) e) this
    have hobj:∀n b0,look n (g.posts y b)=some b0->∃ob,look n hs1=some ob/\(ob.er L2=b0.er L1\/∃cs ds,ob.er L2=.box cs/\b0.er L1=.box ds/\XN cs ds):=fun n b0 hb0=>by
     cases hp0:look n (OL.put 1 post b)with
     |some b1=>
      rw[hpost n b1 hp0]at hb0;cases hb0
      obtain⟨p,z,hp1,hp2,hp3,hp4⟩:=Qqh hp0
      subst hp3
      obtain⟨ob,hob,hle⟩:=g2 _ _ L2 hf2 n _ (hp4 0)
      refine⟨ob,hob,?_⟩
      have hv:=OSh.put_ver (s:=p.2) (x:=z) (L:=Qap L2 (fun n=>n) (QhM σ2)) (L':=L1) (u:=0) (v:=1) (fun m hm=>hlen2 m (List.all_eq_true.1 hown2 m (List.mem_flatMap.2 ⟨p,hp1,hm⟩)))
      rw[<-hv]
      rcases hle with⟨cs,ds,rfl,h2,h3⟩|⟨t',l',rfl,h2⟩|⟨es,rfl,h2⟩
      .rw[QeZ]at h3
       exact .inr ⟨_,_,rfl,by rw[h2];rfl,h3.1⟩
      .exact .inl (by rw[h2];rfl)
      .exact .inl (by rw[h2];rfl)
     |none=>
      change look n (OL.put 1 post b++(OL.put 0 pre y).filter (fun p=>keep.contains p.1))=_ at hb0
      rw[ZV,hp0]at hb0
      simp only[Vo (f:=fun n=>keep.contains n)]at hb0
      split at hb0
      .rename_i hc
       have hc':n∈keep:=by simpa using hc
       rcases hkept n b0 hc' hb0 with⟨t,z,v,rfl,hz⟩|⟨t,z,cs,rfl,hz,hle⟩
       .exact⟨_,hz,.inl rfl⟩
       .refine⟨_,hz,.inr ⟨_,_,rfl,rfl,?_⟩⟩
        rw[show erL L1 (tb t z)=erL L2 (tb t z)from by rw[Vn (QcQ t z),Vn (QcQ t z)]]
        exact hle.1 L2
      .simp at hb0
    refine⟨BS L2 ts1 hs1,fun ρ M a w hs0=>by obtain⟨ρ',M',h0⟩:=hw0 ρ M a w hs0;exact hw1 ρ' M' a w h0,he,(resB vs).er L2,erH L2 (hpOf (fun n=>n) hs1 (keys (g.posts y b))),Qzb hvs,fun n o hn'=>?_,fun n hn'=>?_,fun ρ H M w u hr=>Qu5 hle1 ρ H M w u (Qu5 (QnT hi1) ρ H M w u hr),fun n o' hn'=>?_,fun n o hn'=>?_⟩
    .rw[ZH]at hn'
     cases hl:look n (hpOf (fun n=>n) hs1 (keys (g.posts y b)))with
     |none=>rw[hl]at hn';simp at hn'
     |some ob=>rw[hl]at hn';rw[Xj,Qjj (ZB hl)];exact hn'
    .rw[Qc4,Qjm]at hn'
     have hkey:∃b0,look n (g.posts y b)=some b0:=by
      cases hp0:look n (OL.put 1 post b)with
      |some b1=>exact⟨b1,hpost n b1 hp0⟩
      |none=>
       have:=List.all_eq_true.1 hall n hn'
       simp only[Bool.or_eq_true]at this
       rcases this with h1|h1
       .obtain⟨b1,hb1⟩:=Qfm (u:=1) (y:=b) (XR.1 h1)
        simp_all
       .obtain⟨b1,hb1⟩:=Qfm (u:=0) (y:=y) hn'
        exact⟨b1,hpre n b1 hp0 (XR.1 h1) hb1⟩
     obtain⟨b0,hb0⟩:=hkey
     obtain⟨ob,hob,_⟩:=hobj n b0 hb0
     rw[ZH,Qcm (rr:=fun n=>n) (fun _ _ h=>h) hob (Zl (by rw[hb0];simp))];simp
    .rw[ZH]at hn'
     cases hb0:look n (g.posts y b)with
     |none=>rw[hb0]at hn';simp at hn'
     |some b0=>
      rw[hb0]at hn'
      simp only[Option.map_some,Option.some.injEq]at hn'
      obtain⟨ob,hob,hle⟩:=hobj n b0 hb0
      refine⟨ob.er L2,by rw[ZH,Qcm (rr:=fun n=>n) (fun _ _ h=>h) hob (Zl (by rw[hb0];simp))];rfl,?_⟩
      rw[<-hn'];exact hle
    .rw[ZH]at hn'
     cases hl:look n (hpOf (fun n=>n) hs1 (keys (g.posts y b)))with
     |none=>rw[hl]at hn';simp at hn'
     |some ob=>
      obtain⟨m,hm,rfl⟩:=Qji (ZB hl)
      obtain⟨b0,hb0⟩:=W9 hm
      exact⟨_,by rw[ZH,hb0];rfl⟩
   intro G ρ M w us hG hM hargs hobjs hinj
   exact(hspec G ρ M w us hG hM hargs hobjs hinj).mono fun e w' ⟨u,v,h',ρ',e1,⟨c1,c2,c3⟩,ha⟩=>⟨u,_,_,ρ',e1,⟨rfl,rfl⟩,ha.le c1 c2 c3⟩
end
def fitC:List Sh->List BV->Bool
 |.own _::r,v::vs=>(match v with|.own _ _=>true|_=>false) && fitC r vs
 |_::r,_::vs=>fitC r vs
 |_,_=>true
def fitB:List SSh->List BV->Bool
 |.one (.own _)::r,v::vs=>(match v with|.own _ _=>true|_=>false) && fitB r vs
 |.one (.clo f _)::r,v::vs=>(match v with|.clo (.func k) _=>Nat.beq k f|_=>false) && fitB r vs
 |.one (.fv f)::r,v::vs=>(match v with|.v (.func (.func k) _ _)=>Nat.beq k f|_=>false) && fitB r vs
 |.agg l::r,v::vs=>(match v with|.agg cs=>fitC l cs|_=>false) && fitB r vs
 |_::r,_::vs=>fitB r vs
 |_,_=>true
def fitD:Nat->Option Nat->Bool
 |0,_=>true
 |n+1,some d=>Nat.beq n d
 |_,none=>false
def Qwk(d:Option Nat)(k:Nat)(vs:List BV):List (Nat×Nat×Sig)->Option Sig
 |[]=>none
 |(j,q,g)::r=>if Nat.beq j k && fitD q d && fitB g.args vs then some g else Qwk d k vs r
def envL(l:List (Nat×Nat×Sig)):Env:=fun d k vs=>Qwk d k vs l
def Qiu(P:Program):List (Nat×Nat×Sig)->Prop
 |[]=>True
 |p::r=>FnOK P p.1 p.2.2/\Qiu P r
theorem QtX{P:Program}:∀{l:List (Nat×Nat×Sig)},Qiu P l->QnY P (envL l)
 |[],_,d,k,vs,g,h=>by simp[envL,Qwk]at h
 |(j,q,g0)::r,hl,d,k,vs,g,h=>by
  simp only[envL,Qwk]at h
  split at h
  .rename_i e
   simp only[bae]at e
   rw[<-nbe e.1.1];cases h;exact hl.1
  .exact QtX hl.2 d k vs g h
end Go.Proofs.YtlllfgmajglnhaaGreat.AM
/-
  What functions do, reckoned from their code, and their contracts. Printed by wip/gen/brun.py.
-/
set_option maxRecDepth 100000
namespace Go.Proofs.YtlllfgmajglnhaaGreat
open Go AM IntKind
noncomputable section
def tyL:List (Nat×TC):=[(2,.int),(3,.int),(4,.bool),(5,.u8),(6,.u8),(9,.str),(10,.str),(11,.str),(32,.Config),(36,.Book),(40,.Ledger),(46,.Cluster),(48,.Paging),(53,.Replica),(55,.Answer),(57,.Edit),(59,.Op),(61,.Entry),(65,.int),(83,.Page),(104,.Start),(106,.Call),(116,.Dice),(124,.Zone),(128,.Person),(130,.Window),(132,.Local),(134,.Layer),(138,.Schedule),(141,.Team),(144,.Policy),(147,.PolicyStep),(149,.Target),(158,.site),(178,.Message),(212,.Arr2Int),(218,.Calendar),(226,.fence),(257,.worker),(272,.YearRule),(348,.Arr3Int),(368,.Occurrence),(369,.Transition),(372,.Date),(388,.occurrence),(403,.int),(423,.View),(427,.Table),(480,.Piece),(487,.u8),(488,.u8)]
def ty(t:Nat):Option TC:=AM.look t tyL
abbrev nI:SSh:=.one (.num .i64)
abbrev kI:Sh:=.num .i64
abbrev lI:SSh:=.one (.lst .int)
abbrev rf(n:Nat):Nat×SSh:=(n,.one (.ref (1000+n)))
abbrev ni(n:Nat):Nat×SSh:=(n,.one (.num .i64))
def gs:Nat->Ann->Ann
 |0,a=>a
 |n+1,a=>.two .go (gs n a)
def lp(s:List (Nat×SSh))(o:List (Name×OSh))(a:Ann):Ann:=.two (.two .go (.one (.loop s o a))) .go
abbrev li(n:Nat)(t:TC):Nat×SSh:=(n,.one (.lst t))
abbrev bx(n:Nat)(t:TC):Name×OSh:=(n,.boxst t)
abbrev ar(n:Nat)(t:TC):Name×OSh:=(n,.arr t)
abbrev sF:Option Bool:=some false
abbrev sT:Option Bool:=some true
abbrev cd{R:Type}(p:Prop)[Decidable p](x y:Option R):Option R:=cnd (decide p) x y
abbrev FO(k:FuncId)(g:Sig):Prop:=FnOK Tryz.prog k g
abbrev sI(A:List SSh)(F:SL A->Option Int):Sig:=Qd A [] [.one (.num .i64)] [] [] Int (fun q=>((q,()),())) fun x _=>F x
abbrev sB(A:List SSh)(F:SL A->Option Bool):Sig:=Qd A [] [.one .boo] [] [] Bool (fun q=>((q,()),())) fun x _=>F x
theorem eN{P:Program}:Qiu P []:=trivial
theorem eC{P:Program}{l:List (Nat×Nat×Sig)}{k:Nat}{g:Sig}(h:FnOK P k g)(hl:Qiu P l):Qiu P ((k,0,g)::l):=⟨h,hl⟩
theorem eD(d:Nat){P:Program}{l:List (Nat×Nat×Sig)}{k:Nat}{g:Sig}(h:FnOK P k g)(hl:Qiu P l):Qiu P ((k,d,g)::l):=⟨h,hl⟩
theorem fI{l:List (Nat×Nat×Sig)}{f:FuncId}(u:Nat){fn:Func}{c:Code}(an:Ann){args:List SSh}{pre:List (Name×OSh)}{res:List SSh}{post:List (Name×OSh)}{keep:List Name}{Ret:Type}[DecidableEq Ret]{un:Ret->SL res×OL post}{F:SL args->OL pre->Option Ret}(conv:SL res->OL post->Ret)(hE:Qiu Tryz.prog l)(hf:Tryz.prog.funcs[f]?=some fn)(hb:fn.body=some c:=by rfl)(hlen:Nat.ble args.length fn.ntmps=true:=by rfl)(hcu:∀a b,un (conv a b)=(a,b):=by exact fun _ _=>rfl)(hF:∀x y,vc Tryz.prog ty (envL l) (keys pre) fn.ntmps u c an (Qcg 0 (SL.put 0 args x)) (OL.put 0 pre y) (finK Tryz.prog (keys pre) fn.results.toList (Qd args pre res post keep Ret un F) y fun a b=>some (conv a b))=F x y:=by intro x y;kernel_rfl):
  FnOK Tryz.prog f (Qd args pre res post keep Ret un F):=FnOK.intro (ty:=ty) conv hcu (QtX hE) hf hb hlen hF
abbrev P3:Type:=Int×Int×Int×Unit
abbrev P4:Type:=Int×Int×Int×Int×Unit
abbrev P5:Type:=Int×Int×Int×Int×Int×Unit
abbrev P6:Type:=Int×Int×Int×Int×Int×Int×Unit
abbrev P7:Type:=Int×Int×Int×Int×Int×Int×Int×Unit
abbrev P8:Type:=Int×Int×Int×Int×Int×Int×Int×Int×Unit
abbrev P9:Type:=Int×Int×Int×Int×Int×Int×Int×Int×Int×Unit
abbrev P10:Type:=Int×Int×Int×Int×Int×Int×Int×Int×Int×Int×Unit
abbrev P11:Type:=Int×Int×Int×Int×Int×Int×Int×Int×Int×Int×Int×Unit
abbrev P12:Type:=Int×Int×Int×Int×Int×Int×Int×Int×Int×Int×Int×Int×Unit
abbrev P13:Type:=Int×Int×Int×Int×Int×Int×Int×Int×Int×Int×Int×Int×Int×Unit
abbrev kz0{A B C:Type}(a:(A×B))(b:C):=a.1
abbrev kz1{A:Type}(q:A):=((q,()),())
abbrev kz2{A B:Type}(q:(A×B)):=((q.1,q.2,()),())
abbrev kz3{A B C D:Type}(a:(A×(B×C)))(b:D):=(a.1,a.2.1)
abbrev kz4:=fun(q:(Int×D.worker))=>((q.1,()),(q.2.Ledger.Now,q.2.Ledger.Config.Zones,q.2.Ledger.Config.People,q.2.Ledger.Config.Calendars,q.2.Ledger.Config.Schedules,q.2.Ledger.Book.Teams,q.2.Ledger.Book.Policies,q.2.Ledger.Owner,q.2.Ledger.Fence,()),q.2.Ledger.Pages,q.2.Ledger.Seen,q.2.Ledger.Calls,())
abbrev kz5:=fun(a:SL [nI]) (b:OL [(101,.box [kI,.lst .Zone,.lst .Person,.lst .Calendar,.lst .Schedule,.lst .Team,.lst .Policy,.own 102,kI,kI,.own 103,.own 104]),ar 102 .Page,ar 103 .int,ar 104 .Call])=>(a.1,(D.worker.mk (D.Ledger.mk b.1.1 (D.Config.mk b.1.2.1 b.1.2.2.1 b.1.2.2.2.1 b.1.2.2.2.2.1) (D.Book.mk b.1.2.2.2.2.2.1 b.1.2.2.2.2.2.2.1) b.2.1 b.1.2.2.2.2.2.2.2.1 b.1.2.2.2.2.2.2.2.2.1 b.2.2.1 b.2.2.2.1)))
abbrev kz6:=fun(q:(D.Ledger×Int))=>(((q.1.Now,q.1.Config.Zones,q.1.Config.People,q.1.Config.Calendars,q.1.Config.Schedules,q.1.Book.Teams,q.1.Book.Policies,q.1.Owner,q.1.Fence,()),q.2,()),q.1.Pages,q.1.Seen,q.1.Calls,())
abbrev kz7{A:Type}(q:A):=((),q,())
abbrev kz8:=fun(q:D.Ledger)=>(((q.Now,q.Config.Zones,q.Config.People,q.Config.Calendars,q.Config.Schedules,q.Book.Teams,q.Book.Policies,q.Owner,q.Fence,()),()),q.Pages,q.Seen,q.Calls,())
abbrev kz9:=fun(a:SL [.agg [kI,.lst .Zone,.lst .Person,.lst .Calendar,.lst .Schedule,.lst .Team,.lst .Policy,.own 101,kI,kI,.own 102,.own 103],nI]) (b:OL [ar 101 .Page,ar 102 .int,ar 103 .Call])=>((D.Ledger.mk a.1.1 (D.Config.mk a.1.2.1 a.1.2.2.1 a.1.2.2.2.1 a.1.2.2.2.2.1) (D.Book.mk a.1.2.2.2.2.2.1 a.1.2.2.2.2.2.2.1) b.1 a.1.2.2.2.2.2.2.2.1 a.1.2.2.2.2.2.2.2.2.1 b.2.1 b.2.2.1),a.2.1)
abbrev kz10{A B C:Type}(a:A)(b:(B×C)):=b.1
abbrev kz11:=fun(q:(Bool×D.Page))=>((q.1,()),(q.2.ID,q.2.Policy,q.2.Start,q.2.Next,q.2.Due,q.2.State,q.2.By,q.2.Until,q.2.Last,q.2.Snoozes,q.2.Hands,()),q.2.Starts,q.2.Declined,q.2.Seen,())
abbrev kz12:=fun(q:D.worker)=>((),(q.Ledger.Now,q.Ledger.Config.Zones,q.Ledger.Config.People,q.Ledger.Config.Calendars,q.Ledger.Config.Schedules,q.Ledger.Book.Teams,q.Ledger.Book.Policies,q.Ledger.Owner,q.Ledger.Fence,()),q.Ledger.Pages,q.Ledger.Seen,q.Ledger.Calls,())
abbrev kz13:=fun(a:SL [.one .boo]) (b:OL [(101,.box [kI,kI,kI,kI,kI,kI,kI,kI,kI,kI,kI,.own 102,.own 103,.own 104]),ar 102 .Start,ar 103 .int,ar 104 .int])=>(a.1,(D.Page.mk b.1.1 b.1.2.1 b.1.2.2.1 b.1.2.2.2.1 b.1.2.2.2.2.1 b.1.2.2.2.2.2.1 b.1.2.2.2.2.2.2.1 b.1.2.2.2.2.2.2.2.1 b.1.2.2.2.2.2.2.2.2.1 b.1.2.2.2.2.2.2.2.2.2.1 b.1.2.2.2.2.2.2.2.2.2.2.1 b.2.1 b.2.2.1 b.2.2.2.1))
abbrev kz14:=fun(q:D.Page)=>(((q.ID,q.Policy,q.Start,q.Next,q.Due,q.State,q.By,q.Until,q.Last,q.Snoozes,q.Hands,()),()),q.Starts,q.Declined,q.Seen,())
abbrev kz15:=fun(a:SL []) (b:OL [(101,.box [kI,.lst .Zone,.lst .Person,.lst .Calendar,.lst .Schedule,.lst .Team,.lst .Policy,.own 102,kI,kI,.own 103,.own 104]),ar 102 .Page,ar 103 .int,ar 104 .Call])=>D.worker.mk (D.Ledger.mk b.1.1 (D.Config.mk b.1.2.1 b.1.2.2.1 b.1.2.2.2.1 b.1.2.2.2.2.1) (D.Book.mk b.1.2.2.2.2.2.1 b.1.2.2.2.2.2.2.1) b.2.1 b.1.2.2.2.2.2.2.2.1 b.1.2.2.2.2.2.2.2.2.1 b.2.2.1 b.2.2.2.1)
abbrev kz16:=fun(a:SL [.agg [kI,.lst .Zone,.lst .Person,.lst .Calendar,.lst .Schedule,.lst .Team,.lst .Policy,.own 101,kI,kI,.own 102,.own 103]]) (b:OL [ar 101 .Page,ar 102 .int,ar 103 .Call])=>D.Ledger.mk a.1.1 (D.Config.mk a.1.2.1 a.1.2.2.1 a.1.2.2.2.1 a.1.2.2.2.2.1) (D.Book.mk a.1.2.2.2.2.2.1 a.1.2.2.2.2.2.2.1) b.1 a.1.2.2.2.2.2.2.2.1 a.1.2.2.2.2.2.2.2.2.1 b.2.1 b.2.2.1
abbrev kz17:=fun(q:(Int×D.Page))=>((q.1,()),(q.2.ID,q.2.Policy,q.2.Start,q.2.Next,q.2.Due,q.2.State,q.2.By,q.2.Until,q.2.Last,q.2.Snoozes,q.2.Hands,()),q.2.Starts,q.2.Declined,q.2.Seen,())
abbrev kz18{A B C:Type}(q:(A×(B×C))):=((q.1,q.2.1,q.2.2,()),())
abbrev kz19{A B:Type}(q:(A×B)):=((q.1,()),q.2,())
abbrev kz20{A B C D E:Type}(a:(A×(B×(C×D))))(b:E):=(a.1,a.2.1,a.2.2.1)
abbrev kz21{A B C D:Type}(a:(A×B))(b:(C×D)):=(a.1,b.1)
abbrev kz22:=fun(q:D.Replica)=>(((q.ID,q.Term,q.Voted,q.Role,q.Commit,()),()),q.Log,q.Votes,q.Match,())
abbrev kz23:=fun(q:D.Cluster)=>(((),()),q.Replicas,q.Wire,q.Down,q.Cut,())
abbrev kz24{A B C:Type}(q:(A×(B×C))):=((q.1,q.2.1,()),q.2.2,())
abbrev kz25{A B C D E:Type}(a:(A×(B×C)))(b:(D×E)):=(a.1,a.2.1,b.1)
abbrev kz26{A:Type}(q:A):=((q,()),(),())
variable (u:Nat)
def QdI(g:List D.Window)(i:Int):Option Bool:=Qg (X:=((Int×List D.Window×Int×Int×Unit)×Unit)) (fun j ((a,e,f,b,_),_)=>cd (b<f) (join (Y:=((Int×List D.Window×Int×Int×Unit)×Unit)) (fun((k,l,m,n,_),_)=>j ((k,l,m,(wrap .i64 (n+1)),()),())) fun h=>atc e b fun c=>cd (c.From<=a) (cd (a<c.To) sT (h ((a,e,f,b,()),()))) (h ((a,e,f,b,()),()))) sF) u ((i,g,(g.length:Int),0,()),())
theorem Qln:FO 414 (sB [.one (.lst .Window),nI] fun x=>QdI u x.1 x.2.1):=fI u (.two .go (lp [ni 1,li 7 .Window,ni 8,ni 9] [] (gs 2 (.two (.join [ni 1,li 7 .Window,ni 8,ni 9] [] .go) .go)))) kz0 eN Tryz.func414
def Qaz(u:Nat)(a:Int):Option Int:=nzc 7 (nzc 7 (some (Int.tmod (wrap .i64 ((Int.tmod a 7)+10)) 7)))
theorem QdJ:FO 408 (sI [nI] fun x=>Qaz u x.1):=fI u .go kz0 eN Tryz.func408
def X5(a:D.Local):Option Int:=optc (Qaz u a.Day) fun b=>some (wrap .i64 ((wrap .i64 (b*86400))+a.Second))
theorem QdR:FO 415 (sI [.st .Local] fun x=>X5 u x.1):=fI u .go kz0 (eC (QdJ u) eN) Tryz.func415
def QfQ(u:Nat)(a:Int):Option D.Local:=nzc 86400 (join (Y:=((Int×Int×Unit)×D.Local×Unit)) (fun((e,b,_),f,_)=>some (D.Local.mk b (wrap .i64 (e - (wrap .i64 (b*86400)))))) fun c=>nzc 86400 (cd ((Int.tmod a 86400)<0) (c ((a,(wrap .i64 ((wrap .i64 (Int.tdiv a 86400)) - 1)),()),(D.Local.mk 0 0),())) (c ((a,(wrap .i64 (Int.tdiv a 86400)),()),(D.Local.mk 0 0),()))))
theorem QnX:FO 433 (Qd [nI] [] [.st .Local] [] [] D.Local kz1 (fun x y=>QfQ u x.1)):=fI u (gs 2 (.two (.join [ni 0,rf 2,ni 3] [bx 1002 .Local] .go) .go)) kz0 eN Tryz.func433
def UJ(u:Nat)(a:D.Table)(b:Int):Option Int:=cd (b=0) (some a.offset) (atc a.list (wrap .i64 (b - 1)) fun c=>some c.Offset)
theorem Qaw:FO 442 (sI [.st .Table,nI] fun x=>UJ u x.1 x.2.1):=fI u .go kz0 eN Tryz.func442
def Qb0(u:Nat)(c:Int)(a:D.Table)(b:Int):Option Bool:=atc a.list c fun e=>sameC a a (sameC b b (some (decide (b<e.At))))
theorem Qfd:FO 449 (Qd [nI,.one (.ref 101),.one (.ref 102)] [bx 101 .Table,bx 102 .int] [.one .boo] [] [101,102] Bool kz1 (fun x y=>Qb0 u x.1 y.1 y.2.1)):=fI u .go kz0 eN Tryz.func449
def Zk(h:Int)(c101:D.Table)(c102:Int):Option Int:=Qg (X:=((Int×Int×Unit)×D.Table×(Int×Unit)×Unit)) (fun g ((a,b,_),c,(e,_),_)=>cd (a<b) (natc 1 fun f=>optc (Qb0 u (wrap .i64 (Int.fdiv (IntKind.wrap .u64 (wrap .i64 (a+b))) (HPow.hPow 2 (min f (Go.IntKind.bits Go.IntKind.u64))))) c e) fun i=>cnd (!i) (g (((wrap .i64 ((wrap .i64 (Int.fdiv (IntKind.wrap .u64 (wrap .i64 (a+b))) (HPow.hPow 2 (min f (Go.IntKind.bits Go.IntKind.u64)))))+1)),b,()),c,(e,()),())) (g ((a,(wrap .i64 (Int.fdiv (IntKind.wrap .u64 (wrap .i64 (a+b))) (HPow.hPow 2 (min f (Go.IntKind.bits Go.IntKind.u64))))),()),c,(e,()),()))) (sameC c c101 (sameC e c102 (some a)))) u ((0,h,()),c101,(c102,()),())
theorem Vq:FO 448 (Qd [nI,.one (.clo 449 [101,102])] [bx 101 .Table,bx 102 .int] [nI] [] [101,102] Int kz1 (fun x y=>Zk u x.1 y.1 y.2.1)):=fI u (gs 2 (.two (.one (.loop [(1,.one (.clo 449 [101,102])),ni 5,ni 6] [bx 101 .Table,(102,.box [kI])] .go)) .go)) kz0 (eC (Qfd u) eN) Tryz.func448
def Wd(a:D.Table)(b:Int):Option Int:=optc (Zk u (a.list.length:Int) a b) fun c=>some c
theorem Qbs:FO 443 (sI [.st .Table,nI] fun x=>Wd u x.1 x.2.1):=fI u .go kz0 (eC (Vq u) eN) Tryz.func443
def WT(a:D.Table)(b:Int):Option Int:=optc (Wd u a b) fun c=>optc (UJ u a c) fun e=>some e
theorem Qf2:FO 434 (sI [.st .Table,nI] fun x=>WT u x.1 x.2.1):=fI u .go kz0 (eC (Qaw u) (eC (Qbs u) eN)) Tryz.func434
def ZL(b:D.Table)(a:Int):Option D.Local:=optc (WT u b a) fun c=>optc (QfQ u (wrap .i64 (a+c))) fun e=>some e
theorem Vs:FO 417 (Qd [.st .Table,nI] [] [.st .Local] [] [] D.Local kz1 (fun x y=>ZL u x.1 x.2.1)):=fI u .go kz0 (eC (QnX u) (eC (Qf2 u) eN)) Tryz.func417
def QcE(u:Nat)(a:D.Layer):Option Int:=cd (a.Unit=2) (some (wrap .i64 (7*a.Every))) (some a.Every)
theorem QhD:FO 471 (sI [.st .Layer] fun x=>QcE u x.1):=fI u .go kz0 eN Tryz.func471
def UI(n:D.Table)(o:Int)(p:Int):Option (List D.Piece):=Qg (X:=((Int×Int×Unit)×D.Table×List D.Piece×Unit)) (fun q ((c,a,_),b,j,_)=>cd (c<a) (optc (Wd u b c) fun e=>join (Y:=(P4×D.Table×List D.Piece×Unit)) (fun((l,r,s,k,_),f,g,_)=>optc (UJ u f s) fun h=>lec (g.length+[(D.Piece.mk l k h)].length) 34359738368 (q ((k,r,()),f,(g++[(D.Piece.mk l k h)]),()))) fun i=>cd (e<(b.list.length:Int)) (atc b.list e fun m=>i ((c,a,e,(min a m.At),()),b,j,())) (i ((c,a,e,a,()),b,j,()))) (some j)) u ((o,p,()),n,[],())
theorem Qf3:FO 474 (Qd [.st .Table,nI,nI] [] [.one (.lst .Piece)] [] [] (List D.Piece) kz1 (fun x y=>UI u x.1 x.2.1 x.2.2.1)):=fI u (gs 2 (.two (.one (.loop [ni 1,ni 2,rf 3,(7,.one (.own 1038))] [bx 1003 .Table,ar 1038 .Piece] (.two .go (.one (gs 2 (.two (.join [ni 1,ni 2,rf 3,(7,.one (.own 1038)),ni 8,ni 9] [bx 1003 .Table,ar 1038 .Piece] .go) .go)))))) .go)) kz0 (eC (Qaw u) (eC (Qbs u) eN)) Tryz.func474
def Qff(u:Nat)(a:D.Local):Option Int:=some (wrap .i64 ((wrap .i64 ((min (max a.Day (-1048576)) 1048576)*86400))+a.Second))
theorem Qlq:FO 475 (sI [.st .Local] fun x=>Qff u x.1):=fI u .go kz0 eN Tryz.func475
def Wc(i:D.Table)(j:D.Local):Option (Int×Bool):=optc (UI u i 0 8589934593) fun c=>Qg (X:=((List D.Piece×Int×Int×Unit)×D.Local×Unit)) (fun k ((e,f,b,_),g,_)=>cd (b<f) (atc e b fun a=>optc (Qff u g) fun h=>cd ((max a.From (wrap .i64 (h - a.Offset)))<a.To) (some ((max a.From (wrap .i64 (h - a.Offset))),true)) (k ((e,f,(wrap .i64 (b+1)),()),g,()))) (some (0,false))) u ((c,(c.length:Int),0,()),j,())
theorem QgV:FO 473 (Qd [.st .Table,.st .Local] [] [nI,.one .boo] [] [] (Int×Bool) kz2 (fun x y=>Wc u x.1 x.2.1)):=fI u (.two .go (lp [rf 3,li 10 .Piece,ni 11,ni 12] [bx 1003 .Local] .go)) kz3 (eC (Qf3 u) (eC (Qlq u) eN)) Tryz.func473
def Z6(e:D.Table)(a:D.Layer)(b:Int):Option (Int×Bool):=cd (8589934592<b) (some (0,false)) (cd (a.Unit≠0) (optc (QcE u a) fun f=>optc (Wc u e (D.Local.mk (wrap .i64 (a.Start.Day+(wrap .i64 (b*f)))) a.Start.Second)) fun(g,h)=>some (g,h)) (optc (Wc u e a.Start) fun(c,i)=>cnd i (cd ((wrap .i64 (c+(wrap .i64 ((wrap .i64 (3600*a.Every))*b))))<=8589934592) (some ((wrap .i64 (c+(wrap .i64 ((wrap .i64 (3600*a.Every))*b)))),true)) (some ((wrap .i64 (c+(wrap .i64 ((wrap .i64 (3600*a.Every))*b)))),false))) (some ((wrap .i64 (c+(wrap .i64 ((wrap .i64 (3600*a.Every))*b)))),false))))
theorem QgK:FO 470 (Qd [.st .Table,.st .Layer,nI] [] [nI,.one .boo] [] [] (Int×Bool) kz2 (fun x y=>Z6 u x.1 x.2.1 x.2.2.1)):=fI u .go kz3 (eC (QhD u) (eC (QgV u) eN)) Tryz.func470
def V2(n:D.Table)(o:D.Layer)(p:Int):Option Int:=optc (Z6 u n o 0) fun(q,Z)=>join (Y:=((Int×Int×Unit)×D.Table×D.Layer×Unit)) (fun((m,a3,_),r,g,_)=>cd (g.Unit=0) (nzc (wrap .i64 (3600*g.Every)) (some (wrap .i64 (Int.tdiv (wrap .i64 (m - a3)) (wrap .i64 (3600*g.Every)))))) (optc (ZL u r m) fun a6=>optc (QcE u g) fun s=>nzc s (join (Y:=((Int×Int×Unit)×D.Table×D.Layer×Unit)) (fun((a8,a9,_),t,v,_)=>Qg (X:=((Int×Int×Unit)×D.Table×D.Layer×Unit)) (fun w ((h,f,_),i,j,_)=>join (Y:=((Int×Int×Unit)×D.Table×D.Layer×Unit)) (fun((y,z,_),A,B,_)=>w ((y,(wrap .i64 (z+1)),()),A,B,())) fun C=>optc (Z6 u i j (wrap .i64 (f+1))) fun(E,F)=>cnd F (cd (h<E) (some f) (C ((h,f,()),i,j,()))) (some f)) u ((a8,a9,()),t,v,())) fun k=>Qg (X:=((Int×Int×Unit)×D.Table×D.Layer×Unit)) (fun G ((b,a,_),c,e,_)=>cd (0<a) (join (Y:=((Int×Int×Unit)×D.Table×D.Layer×Unit)) (fun((H,I,_),J,L,_)=>G ((H,(wrap .i64 (I - 1)),()),J,L,())) fun l=>optc (Z6 u c e a) fun(O,S)=>cnd S (cd (O<=b) (k ((b,a,()),c,e,())) (l ((b,a,()),c,e,()))) (l ((b,a,()),c,e,()))) (k ((b,a,()),c,e,()))) u ((m,(max 0 (wrap .i64 (Int.tdiv (wrap .i64 (a6.Day - g.Start.Day)) s))),()),r,g,())))) fun W=>cnd Z (cd (p<q) (some (-1)) (W ((p,q,()),n,o,()))) (some (-1))
theorem Qi9:FO 467 (sI [.st .Table,.st .Layer,nI] fun x=>V2 u x.1 x.2.1 x.2.2.1):=fI u (gs 2 (.two (.join [ni 2,rf 3,rf 4,ni 7] [bx 1003 .Table,bx 1004 .Layer] .go) (gs 2 (.two (.join [ni 2,rf 3,rf 4,ni 9] [bx 1003 .Table,bx 1004 .Layer] (.one (.loop [ni 2,rf 3,rf 4,ni 9] [bx 1003 .Table,bx 1004 .Layer] (.two .go (.one (.two (.join [ni 2,rf 3,rf 4,ni 9] [bx 1003 .Table,bx 1004 .Layer] .go) .go)))))) (.one (.loop [ni 2,rf 3,rf 4,ni 9] [bx 1003 .Table,bx 1004 .Layer] (.one (.two (.join [ni 2,rf 3,rf 4,ni 9] [bx 1003 .Table,bx 1004 .Layer] .go) .go)))))))) kz0 (eC (Vs u) (eC (QgK u) (eC (QhD u) eN))) Tryz.func467
def QaA(u:Nat)(a:Int):Option Bool:=some (decide (a≠a))
theorem QiX:FO 423 (sB [nI] fun x=>QaA u x.1):=fI u .go kz0 eN Tryz.func423
def Vu(a:Int)(b:Int):Option Bool:=optc (QaA u a) fun c=>cnd c (optc (QaA u b) fun e=>cnd e (cd (a<b) sT sF) sT) (cd (a<b) sT sF)
theorem Qa7:FO 395 (sB [nI,nI] fun x=>Vu u x.1 x.2.1):=fI u .go kz0 (eC (QiX u) eN) Tryz.func395
def Qan(u:Nat)(a:Int):Option Bool:=some (decide (a≠a))
theorem QgQ:FO 472 (sB [nI] fun x=>Qan u x.1):=fI u .go kz0 eN Tryz.func472
def Uc(f:List Int)(m:Int):Option (Int×Bool):=Qg (X:=((List Int×Int×Int×Int×Int×Unit)×Unit)) (fun i ((b,c,g,a,e,_),_)=>cd (a<e) (natc 1 fun h=>atc b (wrap .i64 (Int.fdiv (IntKind.wrap .u64 (wrap .i64 (a+e))) (HPow.hPow 2 (min h (Go.IntKind.bits Go.IntKind.u64))))) fun n=>optc (Vu u n c) fun o=>cnd o (i ((b,c,g,(wrap .i64 ((wrap .i64 (Int.fdiv (IntKind.wrap .u64 (wrap .i64 (a+e))) (HPow.hPow 2 (min h (Go.IntKind.bits Go.IntKind.u64)))))+1)),e,()),())) (i ((b,c,g,a,(wrap .i64 (Int.fdiv (IntKind.wrap .u64 (wrap .i64 (a+e))) (HPow.hPow 2 (min h (Go.IntKind.bits Go.IntKind.u64))))),()),()))) (cd (a<g) (atc b a fun p=>cd (p=c) (some (a,true)) (atc b a fun j=>optc (Qan u j) fun k=>cnd k (optc (Qan u c) fun l=>cnd l (some (a,true)) (some (a,false))) (some (a,false)))) (some (a,false)))) u ((f,m,(f.length:Int),0,(f.length:Int),()),())
theorem Qbz:FO 468 (Qd [lI,nI] [] [nI,.one .boo] [] [] (Int×Bool) kz2 (fun x y=>Uc u x.1 x.2.1)):=fI u (gs 3 (.two (.one (.loop [(0,lI),ni 1,ni 6,ni 7,ni 8] [] .go)) .go)) kz3 (eC (Qa7 u) (eC (QgQ u) eN)) Tryz.func468
def QbD(t:D.View)(v:D.Layer)(e:Int):Option (Int×Bool):=join (Y:=((Int×Unit)×D.View×D.Layer×Unit)) (fun((b,_),f,a,_)=>atc f.tables a.Zone fun i=>optc (V2 u i a b) fun g=>join (Y:=((Int×Int×Unit)×D.View×D.Layer×Unit)) (fun((w,j,_),k,h,_)=>cd (h.Mode=0) (some (j,true)) (atc k.Config.Calendars h.Calendar fun l=>atc k.tables l.Zone fun m=>optc (ZL u m w) fun n=>optc (Uc u l.Days n.Day) fun(y,o)=>some (j,(decide (o=(decide (h.Mode=2))))))) fun c=>cd (g<0) (some (0,false)) (cd (0<(a.Windows.length:Int)) (optc (ZL u i b) fun p=>optc (X5 u p) fun q=>optc (QdI u a.Windows q) fun r=>cnd r (c ((b,g,()),f,a,())) (some (0,false))) (c ((b,g,()),f,a,())))) fun s=>cd (e<0) (some (0,false)) (cd (8589934592<e) (some (0,false)) (s ((e,()),t,v,())))
theorem Qj7:FO 463 (Qd [.st .View,.st .Layer,nI] [] [nI,.one .boo] [] [] (Int×Bool) kz2 (fun x y=>QbD u x.1 x.2.1 x.2.2.1)):=fI u (.two .go (.two (.join [ni 2,rf 3,rf 4] [bx 1003 .View,bx 1004 .Layer] .go) (gs 2 (.two (.join [ni 2,rf 3,rf 4,ni 9] [bx 1003 .View,bx 1004 .Layer] .go) .go)))) kz3 (eC (Qln u) (eC (QdR u) (eC (Vs u) (eC (Qi9 u) (eC (Qbz u) eN))))) Tryz.func463
def X6(b:D.View)(a:D.Layer)(c:Int):Option Int:=optc (QbD u b a c) fun(e,f)=>cnd (!f) (some (-1)) (nzc (a.Members.length:Int) (atc a.Members (Int.tmod e (a.Members.length:Int)) fun g=>some g))
theorem Qgm:FO 457 (sI [.st .View,.st .Layer,nI] fun x=>X6 u x.1 x.2.1 x.2.2.1):=fI u .go kz0 (eC (Qj7 u) eN) Tryz.func457
def QbY(u:Nat)(c:D.Edit)(b:Int)(a:Int):Option Bool:=cd (c.Kind=0) (cd (c.A=b) (cd (c.From<=a) (cd (a<c.To) (sameC b b (sameC a a sT)) (sameC b b (sameC a a sF))) (sameC b b (sameC a a sF))) (sameC b b (sameC a a sF))) (sameC b b (sameC a a sF))
theorem Qle:FO 465 (Qd [.st .Edit,.one (.ref 101),.one (.ref 102)] [bx 101 .int,bx 102 .int] [.one .boo] [] [101,102] Bool kz1 (fun x y=>QbY u x.1 y.1 y.2.1)):=fI u .go kz0 eN Tryz.func465
def Q7(e:List D.Edit)(c101:Int)(c102:Int):Option Int:=Qg (X:=((List D.Edit×Int×Int×Unit)×(Int×Unit)×(Int×Unit)×Unit)) (fun h ((f,g,a,_),(b,_),(c,_),_)=>cd (a<g) (atc f a fun i=>optc (QbY u i b c) fun j=>cnd j (sameC b c101 (sameC c c102 (some a))) (h ((f,g,(wrap .i64 (a+1)),()),(b,()),(c,()),()))) (sameC b c101 (sameC c c102 (some (-1))))) u ((e,(e.length:Int),0,()),(c101,()),(c102,()),())
theorem WI:FO 469 (Qd [.one (.lst .Edit),.one (.clo 465 [101,102])] [bx 101 .int,bx 102 .int] [nI] [] [101,102] Int kz1 (fun x y=>Q7 u x.1 y.1 y.2.1)):=fI u (.two .go (lp [li 0 .Edit,(1,.one (.clo 465 [101,102])),ni 7,ni 8] [(101,.box [kI]),(102,.box [kI])] .go)) kz0 (eC (Qle u) eN) Tryz.func469
def Zm(a:List D.Edit)(c101:Int)(c102:Int):Option Bool:=optc (Q7 u a c101 c102) fun b=>sameC c101 c101 (sameC c102 c102 (some (decide (0<=b))))
theorem X9:FO 464 (Qd [.one (.lst .Edit),.one (.clo 465 [101,102])] [bx 101 .int,bx 102 .int] [.one .boo] [] [101,102] Bool kz1 (fun x y=>Zm u x.1 y.1 y.2.1)):=fI u .go kz0 (eC (WI u) eN) Tryz.func464
def UD(a:D.Schedule)(b:Int)(c:Int):Option Bool:=optc (Zm u a.Edits b c) fun e=>some e
theorem QnP:FO 458 (sB [.st .Schedule,nI,nI] fun x=>UD u x.1 x.2.1 x.2.2.1):=fI u .go kz0 (eC (X9 u) eN) Tryz.func458
end
end Go.Proofs.YtlllfgmajglnhaaGreat
/-
  How what is reckoned of code is evaluated: plain laws of its words. No project text.
-/
namespace Go.Proofs.YtlllfgmajglnhaaGreat.AM
open Go
section
variable {R α:Type} {r:R}
theorem Qeg{p:Prop}[Decidable p]{x y:Option R}(h:p):cnd (decide p) x y=x:=by simp only[h,decide_true,cnd]
theorem QiY{p:Prop}[Decidable p]{x y:Option R}(h:¬p):cnd (decide p) x y=y:=by simp only[h,decide_false,cnd]
theorem Qw4{p:Prop}[Decidable p]{x y:Option R}:cnd (decide p) x y=if p then x else y:=by
 by_cases h:p
 .rw[Qeg h,if_pos h]
 .rw[QiY h,if_neg h]
theorem Qxd{j:Int}{k:Nat->Option R}(h:0<=j):natc j k=k j.toNat:=by unfold natc;rw[if_pos h]
theorem Qy6(i:Nat){k:Nat->Option R}:natc (i:Int) k=k i:=by unfold natc;rw[if_pos (Int.natCast_nonneg i)];rfl
theorem ZR{x:α}{k:α->Option R}:optc (some x) k=k x:=rfl
theorem WV{o:Option α}{x:α}{k:α->Option R}(h:o=some x):optc o k=k x:=by subst h;rfl
theorem QyM[Inhabited α]{l:List α}{j:Int}{k:α->Option R}(h:0<=j)(h':j<(l.length:Int)):atc l j k=k (nth l j.toNat):=by
 unfold atc;rw[Qxd h]
 have:j.toNat<l.length:=Oa
 rw[List.getElem?_eq_getElem this]
 simp[optc,nth,List.getD_eq_getElem?_getD,List.getElem?_eq_getElem this]
theorem QyL[Inhabited α]{l:List α}{i:Nat}{k:α->Option R}(h':i<l.length):atc l (i:Int) k=k (nth l i):=by
 rw[QyM (Int.natCast_nonneg i) Oa];rfl
theorem Qyg[Inhabited α]{l:List α}{i:Nat}{k:α->Option R}(h':i<l.length):optc l[i]? k=k (nth l i):=by
 rw[List.getElem?_eq_getElem h']
 simp[optc,nth,List.getD_eq_getElem?_getD,List.getElem?_eq_getElem h']
theorem Qzp{a b:Nat}{x:Option R}(h:a=b):chk a b x=x:=by unfold chk;rw[if_pos h]
theorem QzD{a b:Nat}{x:Option R}(h:a<b):ltc a b x=x:=by unfold ltc;rw[if_pos h]
theorem Qy3{a b:Nat}{x:Option R}(h:a<=b):lec a b x=x:=by unfold lec;rw[if_pos h]
theorem QuA{b:Int}{x:Option R}(h:b≠0):nzc b x=x:=by unfold nzc;rw[if_neg h]
theorem WG{a:α}[DecidableEq α]{x:Option R}:sameC a a x=x:=by unfold sameC;rw[if_pos rfl]
theorem QhQ{x:Int}(h : -9223372036854775808<=x)(h':x<=9223372036854775807):IntKind.i64.wrap x=x:=by rw[IntKind.wrap_i64];omega
theorem Quh{X:Type}{B:(X->Option R)->X->Option R}{Q:Option R->Prop}(I:Nat->X->Prop)(hB:∀m x,I m x->∀k:X->Option R,(∀m' x',m'<m->I m' x'->Q (k x'))->Q (B k x)):
  ∀(m:Nat) (x:X) {fu:Nat},m<fu->I m x->Q (Qg B fu x):=by
 intro m
 induction m using Nat.strongRecOn with
 |_ m ih=>
  intro x fu hf hI
  obtain⟨f,rfl⟩:∃f,fu=f+1:=⟨fu - 1,Oa⟩
  show Q (B (Qg B f) x)
  grind
def Ok(o:Option R)(Q:R->Prop):Prop:=∃x,o=some x/\Q x
variable {Q Q':R->Prop}
theorem Ok.s{x:R}(h:Q x):Ok (some x) Q:=⟨x,rfl,h⟩
theorem Ok.mono{o:Option R}(h:Ok o Q)(hq:∀x,Q x->Q' x):Ok o Q':=by obtain⟨x,h1,h2⟩:=h;exact⟨x,h1,hq x h2⟩
theorem Ok.cnd{b:Bool}{x y:Option R}(h1:b=true->Ok x Q)(h2:b=false->Ok y Q):Ok (AM.cnd b x y) Q:=by
 cases b
 .exact h2 rfl
 .exact h1 rfl
theorem Ok.ite{p:Prop}[Decidable p]{x y:Option R}(h1:p->Ok x Q)(h2:¬p->Ok y Q):Ok (AM.cnd (decide p) x y) Q:=
 Ok.cnd (fun h=>h1 (of_decide_eq_true h)) (fun h=>h2 (of_decide_eq_false h))
theorem Ok.opt{o:Option α}{P:α->Prop}{k:α->Option R}(h:Ok o P)(hk:∀x,P x->Ok (k x) Q):Ok (optc o k) Q:=by
 obtain⟨x,rfl,h2⟩:=h;exact hk x h2
theorem Ok.at[Inhabited α]{l:List α}{j:Int}{k:α->Option R}(h:0<=j)(h':j<(l.length:Int))(hk:Ok (k (nth l j.toNat)) Q):Ok (atc l j k) Q:=by rw[QyM h h'];exact hk
theorem Ok.lec{a b:Nat}{x:Option R}(h:a<=b)(hx:Ok x Q):Ok (AM.lec a b x) Q:=by rw[Qy3 h];exact hx
theorem Ok.nzc{b:Int}{x:Option R}(h:b≠0)(hx:Ok x Q):Ok (AM.nzc b x) Q:=by rw[QuA h];exact hx
theorem Ok.sameC{a:α}[DecidableEq α]{x:Option R}(hx:Ok x Q):Ok (AM.sameC a a x) Q:=by rw[WG];exact hx
theorem Ok.join{Y:Type}{k:Y->Option R}{f:(Y->Option R)->Option R}(J:Y->Prop)(h1:∀y,J y->Ok (k y) Q)(h2:∀k:Y->Option R,(∀y,J y->Ok (k y) Q)->Ok (f k) Q):Ok (AM.join k f) Q:=h2 k h1
theorem Ok.loop{X:Type}{B:(X->Option R)->X->Option R}(I:Nat->X->Prop){m:Nat}{x:X}{fu:Nat}(hm:m<fu)(h0:I m x)(hB:∀m x,I m x->∀k:X->Option R,(∀m' x',m'<m->I m' x'->Ok (k x') Q)->Ok (B k x) Q):Ok (Qg B fu x) Q:=
 Quh (Q:=fun o=>Ok o Q) I hB m x hm h0
theorem Ok.eq{o:Option R}{v:R}(h:Ok o (·=v)):o=some v:=by obtain⟨x,rfl,rfl⟩:=h;rfl
end
end Go.Proofs.YtlllfgmajglnhaaGreat.AM
/-
  stack.LayerOf: a range over a function (slices.Backward), for schedules of one layer: its contract, by the kit's laws of such ranges.
-/
namespace Go.Proofs.YtlllfgmajglnhaaGreat
open Go Go.RowKit Go.Shelf Go.Proofs AM
section
attribute [local go_sem] Oper.semAt_some
set_option maxHeartbeats 400000
theorem QxG(F:Fence)(n:Nat)(h5:F.fn 456)(hro:F.round=none)(a:Option Addr)(len cap:Nat)(w:World):
  CallsIn F n Tryz.prog 456 #[.slice a len cap] w fun e w'=>e=.returned (.func (.func 462) #[] #[.pointer (some ⟨w.heap.size,0,none⟩)])/\w'=w.alloc (.cells #[.slice a len cap] 135):=by
 refine callsIn_of_wp Tryz.func456 rfl h5 ?_ hro
 simp only[Tryz.ntmps456,List.size_toArray,List.length_cons,List.length_nil,Nat.reduceAdd,Nat.reduceSub,Array.replicate_succ,Array.replicate_zero,List.push_toArray,List.append_toArray,List.nil_append,List.cons_append]
 gi_wp2
 go_ret
 exact⟨rfl,rfl⟩
theorem Qsb(n:Nat)(hn:1<=n)(Bs b off cap:Nat)(l1 l2 l3 l4 l5 l6 l7 l8 l9 l10:Value)(w:World)(hBs:Bs<w.heap.size)(hb:b<w.heap.size)(hc:w.cell? ⟨Bs,0,none⟩=some (.slice (some ⟨b,off,none⟩) 1 cap))(c1:w.cell? ⟨b,off,none⟩=some l1)(c2:w.cell? ⟨b,off+1,none⟩=some l2)(c3:w.cell? ⟨b,off+2,none⟩=some l3)(c4:w.cell? ⟨b,off+3,none⟩=some l4)(c5:w.cell? ⟨b,off+4,none⟩=some l5)(c6:w.cell? ⟨b,off+5,none⟩=some l6)(c7:w.cell? ⟨b,off+6,none⟩=some l7)(c8:w.cell? ⟨b,off+7,none⟩=some l8)(c9:w.cell? ⟨b,off+8,none⟩=some l9)(c10:w.cell? ⟨b,off+9,none⟩=some l10):
  SeqStopsK Fence.wide n Tryz.prog 462 #[.pointer (some ⟨Bs,0,none⟩)] (fun _:Unit=>#[Value.int .i64 0,.agg #[l1,l2,l3,l4,l5,l6,l7,l8,l9,l10]]) (fun _ _=>True) (fun ys=>ys=[()]) (fun pre=>pre=[()]) 1 w:=by
 intro l J Jx W hW hJ hJx hY h0
 have hc':=(hW.cell (p:=⟨Bs,0,none⟩) hBs).trans hc
 have d1:=(hW.cell (p:=⟨b,off,none⟩) hb).trans c1
 have d2:=(hW.cell (p:=⟨b,off+1,none⟩) hb).trans c2
 have d3:=(hW.cell (p:=⟨b,off+2,none⟩) hb).trans c3
 have d4:=(hW.cell (p:=⟨b,off+3,none⟩) hb).trans c4
 have d5:=(hW.cell (p:=⟨b,off+4,none⟩) hb).trans c5
 have d6:=(hW.cell (p:=⟨b,off+5,none⟩) hb).trans c6
 have d7:=(hW.cell (p:=⟨b,off+6,none⟩) hb).trans c7
 have d8:=(hW.cell (p:=⟨b,off+7,none⟩) hb).trans c8
 have d9:=(hW.cell (p:=⟨b,off+8,none⟩) hb).trans c9
 have d10:=(hW.cell (p:=⟨b,off+9,none⟩) hb).trans c10
 obtain⟨fn,tmps,assign,body,hy,hR⟩:=hY [] () W h0 Ob
 dsimp only at hy
 refine callsIn_of_wp Tryz.func462 rfl trivial ?_ rfl
 simp only[Tryz.ntmps462,List.size_toArray,List.length_cons,List.length_nil,Nat.reduceAdd,Nat.reduceSub,Array.replicate_succ,Array.replicate_zero,List.push_toArray,List.append_toArray,List.nil_append,List.cons_append]
 gi_wp2
 gi_loopw [3] (fun i wr=>(i=.int .i64 0/\wr=W)\/(i=.int .i64 (-1)/\J [()] wr)) (fun i _=>(intOf i+1).toNat)
 case atStart=>exact .inl ⟨by simp[wrap64],rfl⟩
 case round=>
  rcases hrel with⟨rfl,rfl⟩|⟨rfl,hJ1⟩
  .gi_wp2
   refine hR.mono ?_
   rintro e W3 (⟨rfl,hJ3,_⟩|⟨rfl,hJx3⟩)
   .gi_wp2
    go_roundw
    case rel=>exact .inr ⟨by simp[wrap64],hJ3⟩
    case measure=>simp[intOf,wrap64]
   .gi_wp2
    refine bodyPost_ret (results_none rfl _ _ _) rfl ?_
    exact⟨⟨_,rfl⟩,.inr ⟨_,rfl,hJx3⟩⟩
  .gi_wp2
   go_end0
   exact⟨⟨_,rfl⟩,.inl ⟨_,rfl,hJ1⟩⟩
def Blk(W:World)(b:Nat)(cs:Array Value)(t:TypeId):Prop:=W.heap[b]?=some (.cells cs t (0,0))
theorem Blk.new(W:World)(cs:Array Value)(t:TypeId):Blk (W.alloc (.cells cs t)) W.heap.size cs t:=World.alloc_heap_new W _
theorem Blk.lt{W:World}{b:Nat}{cs:Array Value}{t:TypeId}(h:Blk W b cs t):b<W.heap.size:=(Array.getElem?_eq_some_iff.1 h).1
theorem Blk.alloc{W:World}{b:Nat}{cs:Array Value}{t:TypeId}(h:Blk W b cs t)(o:Obj):Blk (W.alloc o) b cs t:=(Below.heap_alloc W o b h.lt).trans h
theorem Blk.cell{W:World}{b:Nat}{cs:Array Value}{t:TypeId}(h:Blk W b cs t){j:Nat}{v:Value}(hj:cs[j]?=some v):W.cell? ⟨b,j,none⟩=some v:=by
 simp[World.cell?,show W.heap[b]?=_ from h,hj]
theorem Blk.frozen{W:World}{b:Nat}{cs:Array Value}{t:TypeId}(h:Blk W b cs t){j:Nat}:W.frozen? ⟨b,j,none⟩=false:=by simp[World.frozen?,show W.heap[b]?=_ from h]
theorem Blk.own{W W':World}{B:Nat}{row:Option Nat}{b:Nat}{cs:Array Value}{t:TypeId}(h:Blk W b cs t)(hg:W.grownBy W' row)(hr:∀r,row=some r->B<=r/\∃o:Obj,W.heap[r]?=some o/\o.isCells=false):Blk W' b cs t:=by
 refine(hg.block b h.lt fun e=>?_).trans h
 obtain⟨_,o,ho,hc⟩:=hr b e.symm
 rw[show W.heap[b]?=_ from h]at ho;cases ho;cases hc
theorem Blk.ext{W W':World}{b:Nat}{cs:Array Value}{t:TypeId}(h:Blk W b cs t)(hx:AM.Ext (fun _=>False) W W'):Blk W' b cs t:=(hx.same b h.lt id).trans h
theorem QmW{w W W':World}{B:Nat}{row:Option Nat}(hB:w.heap.size<=B)(h:AM.Ext (fun _=>False) w W)(hg:W.grownBy W' row)(hr:∀r,row=some r->B<=r/\∃o:Obj,W.heap[r]?=some o/\o.isCells=false):AM.Ext (fun _=>False) w W':=
 ⟨Nat.le_trans h.size hg.size,fun b hb _=>(hg.block b (Nat.lt_of_lt_of_le hb h.size) (fun e=>by have:=(hr b e.symm).1;omega)).trans (h.same b hb id),hg.os.trans h.os,hg.output.trans h.out⟩
theorem Qa9{w W:World}(h:AM.Ext (fun _=>False) w W)(o:Obj):AM.Ext (fun _=>False) w (W.alloc o):=
 ⟨Nat.le_trans h.size Ob,fun b hb _=>(Below.heap_alloc W o b (Nat.lt_of_lt_of_le hb h.size)).trans (h.same b hb id),h.os,h.out⟩
theorem Qha{a b c:World}(h:AM.Ext (fun _=>False) a b)(k:AM.Ext (fun _=>False) b c):AM.Ext (fun _=>False) a c:=h.trans k fun _ _ e=>e
theorem Qko{W W':World}(h:AM.Ext (fun _=>False) W W')(B:Nat):KeepsFrom B W W':=⟨h.size,fun k o _ hk _=>(h.same k (Array.getElem?_eq_some_iff.1 hk).1 id).trans hk⟩
structure Oth (b:Nat) (W W':World):Prop where
 size:W'.heap.size=W.heap.size
 same:∀k,k≠b->W'.heap[k]?=W.heap[k]?
 os:W'.os=W.os
 out:W'.output=W.output
theorem Oth.refl(b:Nat)(W:World):Oth b W W:=⟨rfl,fun _ _=>rfl,rfl,rfl⟩
theorem Oth.trans{b:Nat}{A B C:World}(h:Oth b A B)(k:Oth b B C):Oth b A C:=⟨k.size.trans h.size,fun i hi=>(k.same i hi).trans (h.same i hi),k.os.trans h.os,k.out.trans h.out⟩
theorem Oth.set(b j:Nat)(v:Value)(W:World):Oth b W (W.setCell ⟨b,j,none⟩ v):=
 ⟨by simp[World.setCell],fun k hk=>by simp[World.setCell,Array.getElem?_modify,Ne.symm hk],rfl,rfl⟩
theorem Oth.blk{b:Nat}{W W':World}(h:Oth b W W'){k:Nat}{cs:Array Value}{t:TypeId}(hk:k≠b)(hb:Blk W k cs t):Blk W' k cs t:=(h.same k hk).trans hb
theorem Blk.set{W:World}{b:Nat}{cs:Array Value}{t:TypeId}(h:Blk W b cs t)(j:Nat)(v:Value):Blk (W.setCell ⟨b,j,none⟩ v) b (cs.setIfInBounds j v) t:=by
 have:b<W.heap.size:=h.lt
 unfold Blk at h |-
 simp only[World.setCell,Array.getElem?_modify,h,if_true]
 rfl
theorem Blk.store{P:Program}{W:World}{b:Nat}{cs:Array Value}{t:TypeId}(h:Blk W b cs t){j:Nat}(hj:j<cs.size){v:Value}(hv:v.oneCell'=true):(store ⟨b,j,none⟩ v).run P W=.ok () (W.setCell ⟨b,j,none⟩ v):=by
 rw[run_store P W _ v _ hv]
 have h1:=h.cell (j:=j) (v:=cs[j]) (by simp[hj])
 simp[stored,h1,h.frozen]
theorem Qkc{w W W':World}{b:Nat}(hB:w.heap.size<=b)(h:AM.Ext (fun _=>False) w W)(k:Oth b W W'):AM.Ext (fun _=>False) w W':=
 ⟨by rw[k.size];exact h.size,fun i hi _=>(k.same i Oa).trans (h.same i hi id),k.os.trans h.os,k.out.trans h.out⟩
theorem Quk{W W':World}{o:Obj}(B:Nat)(k:Oth W.heap.size (W.alloc o) W'):KeepsFrom B W W':=
 ⟨by rw[k.size];simp,fun i x _ hi _=>by
  have hl:=(Array.getElem?_eq_some_iff.1 hi).1
  exact(k.same i Oa).trans ((Below.heap_alloc W o i hl).trans hi)⟩
theorem store1{P:Program}{A0 W:World}{b:Nat}{cs cs':Array Value}{t:TypeId}(h:Blk W b cs t)(ho:Oth b A0 W){j:Nat}{v:Value}(hj:j<cs.size)(hc:cs.setIfInBounds j v=cs')(hv:v.oneCell'=true):
  ∃W',(store ⟨b,j,none⟩ v).run P W=.ok () W'/\Oth b A0 W'/\Blk W' b cs' t:=⟨_,h.store hj hv,ho.trans (Oth.set b j v W),hc ▸ h.set j v⟩
theorem store10(P:Program)(W:World)(l1 l2 l3 l4 l5 l6 l7 l8 l9 l10:Value)(o1:l1.oneCell'=true)(o2:l2.oneCell'=true)(o3:l3.oneCell'=true)(o4:l4.oneCell'=true)(o5:l5.oneCell'=true)(o6:l6.oneCell'=true)(o7:l7.oneCell'=true)(o8:l8.oneCell'=true)(o9:l9.oneCell'=true)(o10:l10.oneCell'=true):
  ∃W3,((Sem.run P (store ⟨W.heap.size,0,none⟩ l1) (W.alloc (.cells #[.string { data:=#[] },.int .i64 0,.int .i64 0,.int .i64 0,.int .i64 0,.int .i64 0,.slice none 0 0,.slice none 0 0,.int .i64 0,.int .i64 0] 134))).andThen fun a w'=>(Sem.run P (store ⟨W.heap.size,1,none⟩ l2) w').andThen fun a w'=>(Sem.run P (store ⟨W.heap.size,2,none⟩ l3) w').andThen fun a w'=>(Sem.run P (store ⟨W.heap.size,3,none⟩ l4) w').andThen fun a w'=>(Sem.run P (store ⟨W.heap.size,4,none⟩ l5) w').andThen fun a w'=>(Sem.run P (store ⟨W.heap.size,5,none⟩ l6) w').andThen fun a w'=>(Sem.run P (store ⟨W.heap.size,6,none⟩ l7) w').andThen fun a w'=>(Sem.run P (store ⟨W.heap.size,7,none⟩ l8) w').andThen fun a w'=>(Sem.run P (store ⟨W.heap.size,8,none⟩ l9) w').andThen fun a w'=>(Sem.run P (store ⟨W.heap.size,9,none⟩ l10) w'))=.ok () W3/\Oth W.heap.size (W.alloc (.cells #[.string { data:=#[] },.int .i64 0,.int .i64 0,.int .i64 0,.int .i64 0,.int .i64 0,.slice none 0 0,.slice none 0 0,.int .i64 0,.int .i64 0] 134)) W3/\Blk W3 W.heap.size #[l1,l2,l3,l4,l5,l6,l7,l8,l9,l10] 134:=by
 have q0:=Blk.new W #[.string { data:=#[] },.int .i64 0,.int .i64 0,.int .i64 0,.int .i64 0,.int .i64 0,.slice none 0 0,.slice none 0 0,.int .i64 0,.int .i64 0] 134
 have t0:=Oth.refl W.heap.size (W.alloc (.cells #[.string { data:=#[] },.int .i64 0,.int .i64 0,.int .i64 0,.int .i64 0,.int .i64 0,.slice none 0 0,.slice none 0 0,.int .i64 0,.int .i64 0] 134))
 obtain⟨A1,r1,t1,q1⟩:=store1 (P:=P) (cs':=#[l1,.int .i64 0,.int .i64 0,.int .i64 0,.int .i64 0,.int .i64 0,.slice none 0 0,.slice none 0 0,.int .i64 0,.int .i64 0]) q0 t0 (j:=0) (v:=l1) Ob rfl o1
 rw[r1,Result.andThen]
 obtain⟨A2,r2,t2,q2⟩:=store1 (P:=P) (cs':=#[l1,l2,.int .i64 0,.int .i64 0,.int .i64 0,.int .i64 0,.slice none 0 0,.slice none 0 0,.int .i64 0,.int .i64 0]) q1 t1 (j:=1) (v:=l2) Ob rfl o2
 rw[r2,Result.andThen]
 obtain⟨A3,r3,t3,q3⟩:=store1 (P:=P) (cs':=#[l1,l2,l3,.int .i64 0,.int .i64 0,.int .i64 0,.slice none 0 0,.slice none 0 0,.int .i64 0,.int .i64 0]) q2 t2 (j:=2) (v:=l3) Ob rfl o3
 rw[r3,Result.andThen]
 obtain⟨A4,r4,t4,q4⟩:=store1 (P:=P) (cs':=#[l1,l2,l3,l4,.int .i64 0,.int .i64 0,.slice none 0 0,.slice none 0 0,.int .i64 0,.int .i64 0]) q3 t3 (j:=3) (v:=l4) Ob rfl o4
 rw[r4,Result.andThen]
 obtain⟨A5,r5,t5,q5⟩:=store1 (P:=P) (cs':=#[l1,l2,l3,l4,l5,.int .i64 0,.slice none 0 0,.slice none 0 0,.int .i64 0,.int .i64 0]) q4 t4 (j:=4) (v:=l5) Ob rfl o5
 rw[r5,Result.andThen]
 obtain⟨A6,r6,t6,q6⟩:=store1 (P:=P) (cs':=#[l1,l2,l3,l4,l5,l6,.slice none 0 0,.slice none 0 0,.int .i64 0,.int .i64 0]) q5 t5 (j:=5) (v:=l6) Ob rfl o6
 rw[r6,Result.andThen]
 obtain⟨A7,r7,t7,q7⟩:=store1 (P:=P) (cs':=#[l1,l2,l3,l4,l5,l6,l7,.slice none 0 0,.int .i64 0,.int .i64 0]) q6 t6 (j:=6) (v:=l7) Ob rfl o7
 rw[r7,Result.andThen]
 obtain⟨A8,r8,t8,q8⟩:=store1 (P:=P) (cs':=#[l1,l2,l3,l4,l5,l6,l7,l8,.int .i64 0,.int .i64 0]) q7 t7 (j:=7) (v:=l8) Ob rfl o8
 rw[r8,Result.andThen]
 obtain⟨A9,r9,t9,q9⟩:=store1 (P:=P) (cs':=#[l1,l2,l3,l4,l5,l6,l7,l8,l9,.int .i64 0]) q8 t8 (j:=8) (v:=l9) Ob rfl o9
 rw[r9,Result.andThen]
 obtain⟨A10,r10,t10,q10⟩:=store1 (P:=P) (cs':=#[l1,l2,l3,l4,l5,l6,l7,l8,l9,l10]) q9 t9 (j:=9) (v:=l10) Ob rfl o10
 rw[r10]
 exact⟨A10,rfl,t10,q10⟩
theorem Qy2(n:Nat)(hn:3<=n)(v1 v2 v3 v4 v5 s1 s3:Value)(b off cap:Nat)(t:Int)(l1 l2 l3 l4 l5 l6 l7 l8 l9 l10:Value)(w:World)(hb:b<w.heap.size)(c1:w.cell? ⟨b,off,none⟩=some l1)(c2:w.cell? ⟨b,off+1,none⟩=some l2)(c3:w.cell? ⟨b,off+2,none⟩=some l3)(c4:w.cell? ⟨b,off+3,none⟩=some l4)(c5:w.cell? ⟨b,off+4,none⟩=some l5)(c6:w.cell? ⟨b,off+5,none⟩=some l6)(c7:w.cell? ⟨b,off+6,none⟩=some l7)(c8:w.cell? ⟨b,off+7,none⟩=some l8)(c9:w.cell? ⟨b,off+8,none⟩=some l9)(c10:w.cell? ⟨b,off+9,none⟩=some l10)(o1:l1.oneCell'=true)(o2:l2.oneCell'=true)(o3:l3.oneCell'=true)(o4:l4.oneCell'=true)(o5:l5.oneCell'=true)(o6:l6.oneCell'=true)(o7:l7.oneCell'=true)(o8:l8.oneCell'=true)(o9:l9.oneCell'=true)(o10:l10.oneCell'=true)(p:Int)(hP:∀W,AM.Ext (fun _=>False) w W->Calls Tryz.prog 457 #[.agg #[v1,v2,v3,v4,v5],.agg #[l1,l2,l3,l4,l5,l6,l7,l8,l9,l10],.int .i64 t] W fun e W'=>e=.returned (.int .i64 p)/\AM.Ext (fun _=>False) W W')(aw:Bool)(hA:0<=p->∀W,AM.Ext (fun _=>False) w W->Calls Tryz.prog 458 #[.agg #[s1,.slice (some ⟨b,off,none⟩) 1 cap,s3],.int .i64 p,.int .i64 t] W fun e W'=>e=.returned (.bool aw)/\AM.Ext (fun _=>False) W W'):
  CallsIn Fence.wide n Tryz.prog 451 #[.agg #[v1,v2,v3,v4,v5],.agg #[s1,.slice (some ⟨b,off,none⟩) 1 cap,s3],.int .i64 t] w fun e w'=>
   e=.returned (.tuple #[.int .i64 (if p<0\/aw=true then -1 else 0),.int .i64 (if p<0\/aw=true then -1 else p)])/\AM.Ext (fun _=>False) w w':=by
 have h1:1<=n:=Oa
 refine callsIn_of_wp_marks Tryz.func451 rfl trivial ?_ rfl
 simp only[Tryz.ntmps451,List.size_toArray,List.length_cons,List.length_nil,Nat.reduceAdd,Nat.reduceSub,Array.replicate_succ,Array.replicate_zero,List.push_toArray,List.append_toArray,List.nil_append,List.cons_append]
 gi_wp2
 refine wpIn_wide.2 (wp_scope_straight ((wpIn_wide (n:=n)).1 ?_))
 refine wpIn_seq (wpIn_label ?_)
 show Code.wpIn _ _ _ _ _ _ _
 gi_wp2_with (refine⟨trivial,?_⟩;gi_at_call 456;refine(QxG Fence.wide (n - 1) trivial rfl _ _ _ _).mono ?_;rintro e w' ⟨rfl,rfl⟩)
 have e0:=Qa9 (Qa9 (Qa9 (Qa9 (Qa9 (Qa9 (AM.Ext.refl (fun _=>False) w) (.cells #[v1,v2,v3,v4,v5] 423)) (.cells #[s1,.slice (some ⟨b,off,none⟩) 1 cap,s3] 138)) (.cells #[.int .i64 t] 3)) (.cells #[.int .i64 0] 3)) (.cells #[.int .i64 0] 3)) (.cells #[.slice (some ⟨b,off,none⟩) 1 cap] 135)
 have b0:=((((((Blk.new w #[v1,v2,v3,v4,v5] 423).alloc (.cells #[s1,.slice (some ⟨b,off,none⟩) 1 cap,s3] 138)).alloc (.cells #[.int .i64 t] 3)).alloc (.cells #[.int .i64 0] 3)).alloc (.cells #[.int .i64 0] 3)).alloc (.cells #[.slice (some ⟨b,off,none⟩) 1 cap] 135))
 have b1:=(((((Blk.new (w.alloc (.cells #[v1,v2,v3,v4,v5] 423)) #[s1,.slice (some ⟨b,off,none⟩) 1 cap,s3] 138).alloc (.cells #[.int .i64 t] 3)).alloc (.cells #[.int .i64 0] 3)).alloc (.cells #[.int .i64 0] 3)).alloc (.cells #[.slice (some ⟨b,off,none⟩) 1 cap] 135))
 have b2:=((((Blk.new ((w.alloc (.cells #[v1,v2,v3,v4,v5] 423)).alloc (.cells #[s1,.slice (some ⟨b,off,none⟩) 1 cap,s3] 138)) #[.int .i64 t] 3).alloc (.cells #[.int .i64 0] 3)).alloc (.cells #[.int .i64 0] 3)).alloc (.cells #[.slice (some ⟨b,off,none⟩) 1 cap] 135))
 have b3:=(((Blk.new (((w.alloc (.cells #[v1,v2,v3,v4,v5] 423)).alloc (.cells #[s1,.slice (some ⟨b,off,none⟩) 1 cap,s3] 138)).alloc (.cells #[.int .i64 t] 3)) #[.int .i64 0] 3).alloc (.cells #[.int .i64 0] 3)).alloc (.cells #[.slice (some ⟨b,off,none⟩) 1 cap] 135))
 have b4:=((Blk.new ((((w.alloc (.cells #[v1,v2,v3,v4,v5] 423)).alloc (.cells #[s1,.slice (some ⟨b,off,none⟩) 1 cap,s3] 138)).alloc (.cells #[.int .i64 t] 3)).alloc (.cells #[.int .i64 0] 3)) #[.int .i64 0] 3).alloc (.cells #[.slice (some ⟨b,off,none⟩) 1 cap] 135))
 have b5:=(Blk.new (((((w.alloc (.cells #[v1,v2,v3,v4,v5] 423)).alloc (.cells #[s1,.slice (some ⟨b,off,none⟩) 1 cap,s3] 138)).alloc (.cells #[.int .i64 t] 3)).alloc (.cells #[.int .i64 0] 3)).alloc (.cells #[.int .i64 0] 3)) #[.slice (some ⟨b,off,none⟩) 1 cap] 135)
 simp only[World.size_alloc]at b1 b2 b3 b4 b5
 have hz:((((((w.alloc (.cells #[v1,v2,v3,v4,v5] 423)).alloc (.cells #[s1,.slice (some ⟨b,off,none⟩) 1 cap,s3] 138)).alloc (.cells #[.int .i64 t] 3)).alloc (.cells #[.int .i64 0] 3)).alloc (.cells #[.int .i64 0] 3)).alloc (.cells #[.slice (some ⟨b,off,none⟩) 1 cap] 135)).heap.size=w.heap.size+6:=Ob
 obtain⟨W0,hW0⟩:∃W0,((((((w.alloc (.cells #[v1,v2,v3,v4,v5] 423)).alloc (.cells #[s1,.slice (some ⟨b,off,none⟩) 1 cap,s3] 138)).alloc (.cells #[.int .i64 t] 3)).alloc (.cells #[.int .i64 0] 3)).alloc (.cells #[.int .i64 0] 3)).alloc (.cells #[.slice (some ⟨b,off,none⟩) 1 cap] 135))=W0:=⟨_,rfl⟩
 rw[hW0]at e0 b0 b1 b2 b3 b4 b5 hz |-
 have c0:∀o,W0.cell? ⟨b,o,none⟩=w.cell? ⟨b,o,none⟩:=fun o=>World.cell?_of_block (e0.same b hb id)
 refine wpIn_rangeFunc_ownH rfl h1 (gf:=462) (lb:=#[.pointer (some ⟨w.heap.size+1+1+1+1+1,0,none⟩)]) rfl trivial (enters_of Tryz.func462 (by kernel_rfl) rfl)
  (Qsb (n - 1) Oa (w.heap.size+1+1+1+1+1) b off cap l1 l2 l3 l4 l5 l6 l7 l8 l9 l10 W0 b5.lt Oa (b5.cell rfl) ((c0 _).trans c1) ((c0 _).trans c2) ((c0 _).trans c3) ((c0 _).trans c4) ((c0 _).trans c5) ((c0 _).trans c6) ((c0 _).trans c7) ((c0 _).trans c8) ((c0 _).trans c9) ((c0 _).trans c10)) (fun _ _=>trivial) (fun _ _ _ _ _ _ _ _=>trivial) (Below.refl _ _) (fun _=>rfl)
  (fun pre W=>((Blk W w.heap.size #[v1,v2,v3,v4,v5] 423/\Blk W (w.heap.size+1) #[s1,.slice (some ⟨b,off,none⟩) 1 cap,s3] 138/\Blk W (w.heap.size+1+1) #[.int .i64 t] 3/\Blk W (w.heap.size+1+1+1) #[.int .i64 0] 3/\Blk W (w.heap.size+1+1+1+1) #[.int .i64 0] 3)/\AM.Ext (fun _=>False) w W)/\(pre=[]\/(p<0\/aw=true)))
  (fun c pre W=>c=.ret/\¬(p<0\/aw=true)/\Blk W (w.heap.size+1+1+1) #[.int .i64 0] 3/\Blk W (w.heap.size+1+1+1+1) #[.int .i64 p] 3/\AM.Ext (fun _=>False) w W)
  (fun s A B row hs hg hr=>⟨⟨⟨hs.1.1.1.own hg hr,hs.1.1.2.1.own hg hr,hs.1.1.2.2.1.own hg hr,hs.1.1.2.2.2.1.own hg hr,hs.1.1.2.2.2.2.own hg hr⟩,QmW Oa hs.1.2 hg hr⟩,hs.2⟩)
  (fun c s A B row hs hg hr=>⟨hs.1,hs.2.1,hs.2.2.1.own hg hr,hs.2.2.2.1.own hg hr,QmW Oa hs.2.2.2.2 hg hr⟩)
  ⟨⟨⟨b0,b1,b2,b3,b4⟩,e0⟩,.inl rfl⟩
  (fun _ a' W=>∃Bx,w.heap.size+1+1+1+1<Bx/\Blk W Bx #[l1,l2,l3,l4,l5,l6,l7,l8,l9,l10] 134/\a'={ tmps:=#[.agg #[v1,v2,v3,v4,v5],.agg #[s1,.slice (some ⟨b,off,none⟩) 1 cap,s3],.int .i64 t,.pointer (some ⟨w.heap.size,0,none⟩),.pointer (some ⟨w.heap.size+1,0,none⟩),.pointer (some ⟨w.heap.size+1+1,0,none⟩),.pointer (some ⟨w.heap.size+1+1+1,0,none⟩),.pointer (some ⟨w.heap.size+1+1+1+1,0,none⟩),.int .i64 0,.pointer (some ⟨Bx,0,none⟩),undef,.pointer (some ⟨w.heap.size+1,1,none⟩),.slice (some ⟨b,off,none⟩) 1 cap,.func (.func 462) #[] #[.pointer (some ⟨w.heap.size+1+1+1+1+1,0,none⟩)],.int .i64 0,.agg #[l1,l2,l3,l4,l5,l6,l7,l8,l9,l10],undef,undef,undef,undef,undef,undef,undef,undef,undef,undef,undef,undef,undef],defers:=[] })
  (fun x a' s A B row hs hg hr=>by obtain⟨Bx,g1,g2,g3⟩:=hs;exact⟨Bx,g1,g2.own hg hr,g3⟩) ?assign ?body ?done ?stop
 case assign=>
  rintro l pre x W K ⟨⟨⟨i0,i1,i2,i3,i4⟩,ie⟩,hp⟩ hK
  gi_wp2
  obtain⟨W3,hW3,tt,q10⟩:=store10 Tryz.prog W l1 l2 l3 l4 l5 l6 l7 l8 l9 l10 o1 o2 o3 o4 o5 o6 o7 o8 o9 o10
  rw[hW3,Result.andThen]
  gi_wp2
  have hi4:=i4.lt
  exact hK _ _ (Quk _ tt) trivial ⟨⟨⟨tt.blk Oa (i0.alloc _),tt.blk Oa (i1.alloc _),tt.blk Oa (i2.alloc _),tt.blk Oa (i3.alloc _),tt.blk Oa (i4.alloc _)⟩,Qkc Oa (Qa9 ie _) tt⟩,hp⟩ ⟨W.heap.size,hi4,q10,rfl⟩
 case body=>
  rintro l pre x a' W hl hlp ⟨⟨⟨i0,i1,i2,i3,i4⟩,ie⟩,hp⟩ ⟨Bx,hBx,bx,rfl⟩ hlen
  have a1:=i0.cell (j:=0) rfl
  have a2:=i0.cell (j:=1) rfl
  have a3:=i0.cell (j:=2) rfl
  have a4:=i0.cell (j:=3) rfl
  have a5:=i0.cell (j:=4) rfl
  have g1:=i1.cell (j:=0) rfl
  have g2:=i1.cell (j:=1) rfl
  have g3:=i1.cell (j:=2) rfl
  have g4:=i2.cell (j:=0) rfl
  have m1:=bx.cell (j:=0) rfl
  have m2:=bx.cell (j:=1) rfl
  have m3:=bx.cell (j:=2) rfl
  have m4:=bx.cell (j:=3) rfl
  have m5:=bx.cell (j:=4) rfl
  have m6:=bx.cell (j:=5) rfl
  have m7:=bx.cell (j:=6) rfl
  have m8:=bx.cell (j:=7) rfl
  have m9:=bx.cell (j:=8) rfl
  have m10:=bx.cell (j:=9) rfl
  have hmx:Tryz.prog.follows .mixedOrders=true:=by kernel_rfl
  gi_wp2
  refine⟨trivial,fun h=>absurd h (by decide),?_⟩
  refine(CallsIn.inRound l (callsIn_wide.2 (hP W ie))).mono ?_
  rintro e W4 ⟨rfl,hx⟩
  have f0:=i0.ext hx
  have f1:=i1.ext hx
  have f2:=i2.ext hx
  have f3:=i3.ext hx
  have f4:=i4.ext hx
  have fe:=Qha ie hx
  have g1:=f1.cell (j:=0) rfl
  have g2:=f1.cell (j:=1) rfl
  have g3:=f1.cell (j:=2) rfl
  have g4:=f2.cell (j:=0) rfl
  dsimp only
  gi_wp2
  .exact⟨Qko hx _,trivial,⟨⟨⟨f0,f1,f2,f3,f4⟩,fe⟩,.inr (.inl (by assumption))⟩⟩
  .refine⟨trivial,fun h=>absurd h (by decide),?_⟩
   have hp0:0<=p:=by assumption
   refine(CallsIn.inRound l (callsIn_wide.2 (hA hp0 W4 fe))).mono ?_
   rintro e W5 ⟨rfl,hy⟩
   have k0:=f0.ext hy
   have k1:=f1.ext hy
   have k2:=f2.ext hy
   have k3:=f3.ext hy
   have k4:=f4.ext hy
   have ke:=Qha fe hy
   have r1:=k3.cell (j:=0) rfl
   have r2:=k4.cell (j:=0) rfl
   have r3:=k3.frozen (j:=0)
   have r4:=k4.frozen (j:=0)
   dsimp only
   gi_wp2
   .have hno:¬(p<0\/aw=true):=fun h=>h.elim (fun h=>Oa) (fun h=>by subst h;simp_all)
    refine⟨(Qko (Qha hx hy) _).trans ⟨by simp[World.setCell],fun i o _ hi hc=>?_⟩,rfl,hno,(Oth.set (w.heap.size+1+1+1+1) 0 (.int .i64 p) _).blk Oa (k3.set 0 (.int .i64 0)),((Oth.set (w.heap.size+1+1+1) 0 (.int .i64 0) W5).blk Oa k4).set 0 (.int .i64 p),Qkc Oa (Qkc Oa ke (Oth.set (w.heap.size+1+1+1) 0 (.int .i64 0) W5)) (Oth.set (w.heap.size+1+1+1+1) 0 (.int .i64 p) _)⟩
    have n3:i≠w.heap.size+1+1+1:=fun e=>by subst e;rw[show W5.heap[w.heap.size+1+1+1]?=_ from k3]at hi;cases hi;cases hc
    have n4:i≠w.heap.size+1+1+1+1:=fun e=>by subst e;rw[show W5.heap[w.heap.size+1+1+1+1]?=_ from k4]at hi;cases hi;cases hc
    exact((Oth.set (w.heap.size+1+1+1+1) 0 (.int .i64 p) _).same i n4).trans (((Oth.set (w.heap.size+1+1+1) 0 (.int .i64 0) W5).same i n3).trans hi)
   .have hyes:aw=true:=by cases aw<;>simp_all
    exact⟨Qko (Qha hx hy) _,trivial,⟨⟨⟨k0,k1,k2,k3,k4⟩,ke⟩,.inr (.inr hyes)⟩⟩
 case done=>
  rintro D xs W hD rfl ⟨⟨⟨i0,i1,i2,i3,i4⟩,ie⟩,hp⟩ hKD
  have r1:=i3.cell (j:=0) rfl
  have r2:=i4.cell (j:=0) rfl
  have r3:=i3.frozen (j:=0)
  have r4:=i4.frozen (j:=0)
  gi_wp2
  have hp':p<0\/aw=true:=hp.resolve_left Ob
  have m3:Blk ((W.setCell ⟨w.heap.size+1+1+1,0,none⟩ (.int .i64 (-1))).setCell ⟨w.heap.size+1+1+1+1,0,none⟩ (.int .i64 (-1))) (w.heap.size+1+1+1) #[.int .i64 (-1)] 3:=(Oth.set (w.heap.size+1+1+1+1) 0 (.int .i64 (-1)) _).blk Oa (i3.set 0 (.int .i64 (-1)))
  have m4:Blk ((W.setCell ⟨w.heap.size+1+1+1,0,none⟩ (.int .i64 (-1))).setCell ⟨w.heap.size+1+1+1+1,0,none⟩ (.int .i64 (-1))) (w.heap.size+1+1+1+1) #[.int .i64 (-1)] 3:=((Oth.set (w.heap.size+1+1+1) 0 (.int .i64 (-1)) W).blk Oa i4).set 0 (.int .i64 (-1))
  have me:=Qkc Oa (Qkc Oa ie (Oth.set (w.heap.size+1+1+1) 0 (.int .i64 (-1)) W)) (Oth.set (w.heap.size+1+1+1+1) 0 (.int .i64 (-1)) _)
  have hKD':=((Oth.set (w.heap.size+1+1+1+1) 0 (.int .i64 (-1)) (W.setCell ⟨w.heap.size+1+1+1,0,none⟩ (.int .i64 (-1)))).same D Oa).trans (((Oth.set (w.heap.size+1+1+1) 0 (.int .i64 (-1)) W).same D Oa).trans hKD)
  have u3:=m3.own (grownBy_putObj' _ D (.deferred none)) (B:=W0.heap.size) (fun r e=>by cases e;exact⟨hD,_,hKD',rfl⟩)
  have u4:=m4.own (grownBy_putObj' _ D (.deferred none)) (B:=W0.heap.size) (fun r e=>by cases e;exact⟨hD,_,hKD',rfl⟩)
  have ue:=QmW (B:=W0.heap.size) Oa me (grownBy_putObj' _ D (.deferred none)) (fun r e=>by cases e;exact⟨hD,_,hKD',rfl⟩)
  have y3:=u3.cell (j:=0) rfl
  have y4:=u4.cell (j:=0) rfl
  show bodyPostM _ _ _ _ _ Exit.ret _ _
  refine⟨Ob,.inl ⟨_,_,rfl,run_takeDeferred hKD',?_⟩⟩
  refine⟨.tuple #[.int .i64 (-1),.int .i64 (-1)],?_,by rw[if_pos hp',if_pos hp'],ue⟩
  simp[results,Tryz.f451,go_sem,y3,y4]
 case stop=>
  rintro D c pre W hD rfl ⟨rfl,hno,i3,i4,ie⟩ hKD
  gi_wp2
  have m3:=i3
  have m4:=i4
  have me:=ie
  have hKD':=hKD
  have u3:=m3.own (grownBy_putObj' _ D (.deferred none)) (B:=W0.heap.size) (fun r e=>by cases e;exact⟨hD,_,hKD',rfl⟩)
  have u4:=m4.own (grownBy_putObj' _ D (.deferred none)) (B:=W0.heap.size) (fun r e=>by cases e;exact⟨hD,_,hKD',rfl⟩)
  have ue:=QmW (B:=W0.heap.size) Oa me (grownBy_putObj' _ D (.deferred none)) (fun r e=>by cases e;exact⟨hD,_,hKD',rfl⟩)
  have y3:=u3.cell (j:=0) rfl
  have y4:=u4.cell (j:=0) rfl
  show bodyPostM _ _ _ _ _ Exit.ret _ _
  refine⟨Ob,.inl ⟨_,_,rfl,run_takeDeferred hKD',?_⟩⟩
  refine⟨.tuple #[.int .i64 0,.int .i64 p],?_,by rw[if_neg hno,if_neg hno],ue⟩
  simp[results,Tryz.f451,go_sem,y3,y4]
theorem QoT{ρ:Name->AM.Loc}{H:Heap}{M:Nat->Prop}{W:World}{x:PV}{xs:List AV}{us:List Value}(h:AV.Rs ρ H M W (.p x::xs) us):∃u us',us=u::us'/\PV.R M W x u/\AV.Rs ρ H M W xs us':=by
 simp only[AV.Rs]at h
 obtain⟨u,us',h1,h2,h3,h4⟩:=h
 simp only[AV.R]at h3
 exact⟨u,us',h1,h3,h4⟩
theorem Ul{ρ:Name->AM.Loc}{H:Heap}{M:Nat->Prop}{W:World}{x:PV}{xs:List AV}{u:Value}{us:List Value}(h:PV.R M W x u)(hs:AV.Rs ρ H M W xs us):AV.Rs ρ H M W (.p x::xs) (u::us):=by
 simp only[AV.Rs,AV.R]
 exact⟨u,us,rfl,h.flat,h,hs⟩
theorem Qb3{M:Nat->Prop}{W:World}{b off:Nat}{x:PV}{xs:List PV}(h:PV.Cells M W b off (x::xs)):∃u,W.cell? ⟨b,off,none⟩=some u/\PV.R M W x u/\PV.Cells M W b (off+1) xs:=by
 simp only[PV.Cells]at h
 obtain⟨⟨u,h1,h2⟩,h3⟩:=h
 exact⟨u,h1,h2,h3⟩
noncomputable section
def Xi(fu:Nat)(p0:D.View)(p1:D.Schedule)(p2:Int):Option (Int×Int):=
 match p1.Layers with
 |[l]=>optc (X6 fu p0 l p2) fun p=>cnd (decide (p<0)) (some (-1,-1)) (optc (UD fu p1 p p2) fun a=>cnd a (some (-1,-1)) (some (0,p)))
 |_=>none
def Qlf(fu:Nat):Sig:=Qd [.st .View,.st .Schedule,.one (.num .i64)] [] [.one (.num .i64),.one (.num .i64)] [] [] (Int×Int) (fun q=>((q.1,q.2,()),())) (fun x y=>Xi fu x.1 x.2.1 x.2.2.1)
theorem QpB{P:Program}{k:FuncId}{args:List AV}{v:AV}(h:Qcf P k args [] v []){G w W:World}{ρ:Name->AM.Loc}{M:Nat->Prop}{us:List Value}(hG:AM.Ground G w (fun b=>∃n o,AM.look n ([]:List (Name×AO))=some o/\(ρ n).blk=some b))(hM:∀b,M b->b<w.heap.size)(hx:Ext (fun _=>False) w W)(ha:AV.Ts ρ (XA []) M W args us):
  Calls P k us.toArray W fun e W'=>∃u,e=.returned u/\(∃ρ' M',v.R ρ' (XA []) M' W' u)/\Ext (fun _=>False) W W':=by
 refine(h G ρ M W us ⟨hG.laid,Nat.le_trans hG.size hx.size,fun b hb=>(hx.same b (Nat.lt_of_lt_of_le hb hG.size) id).trans (hG.same b hb),hG.out⟩ (fun b hb=>Nat.lt_of_lt_of_le (hM b hb) hx.size) ha (fun n o hn=>by simp[AM.look]at hn) (fun n m o o' b hn=>by simp[AM.look]at hn)).mono ?_
 rintro e W' ⟨u,v',h',ρ',rfl,⟨rfl,rfl⟩,hA⟩
 exact⟨u,rfl,⟨ρ',_,hA.val⟩,hA.ext.weaken fun b _ hb=>by obtain⟨n,o,hn,_⟩:=hb;simp[AM.look]at hn⟩
theorem Qjc(fu:Nat):FnOK Tryz.prog 451 (Qlf fu):=by
 refine⟨fun R x y K r h=>?_,fun x y a b h L0 _=>⟨L0,fun _ _=>rfl,fun n t l v hn=>by change AM.look n []=_ at hn;simp[AM.look]at hn,?_⟩⟩
 .obtain⟨v,s,t,⟨⟩⟩:=x
  obtain⟨q,hq,h⟩:=Wx h
  change Xi fu v s t=some q at hq
  refine⟨(q.1,q.2,()),(),?_,h⟩
  show optc (Xi fu v s t) (fun q=>some ((q.1,q.2,()),()))=_
  rw[hq];rfl
 .obtain⟨v,s,t,⟨⟩⟩:=x
  obtain⟨q,hq,hab⟩:=Wx h
  change Xi fu v s t=some q at hq
  have hab':((q.1,q.2,()),())=(a,b):=Option.some.inj hab
  obtain⟨rfl,rfl⟩:=Prod.mk.inj hab'
  unfold Xi at hq
  split at hq
  case h_2=>simp at hq
  rename_i l hl
  obtain⟨p,hp,hq⟩:=Wx hq
  obtain⟨_,_,_,sP⟩:=(Qgm fu).spec (v,l,t,()) () (p,()) () (by show optc (X6 fu v l t) _=_;rw[hp];rfl) L0 (fun n t l v hn=>by change AM.look n []=_ at hn;simp[AM.look]at hn)
  have hA:0<=p->∃aw,UD fu s p t=some aw/\q=if aw=true then(-1,-1)else(0,p):=fun h0=>by
   rw[QiY Oa]at hq
   obtain⟨aw,h1,h2⟩:=Wx hq
   refine⟨aw,h1,?_⟩
   cases aw<;>simpa [cnd]using h2.symm
  obtain⟨aw,haw,hqa⟩:∃aw:Bool,(0<=p->UD fu s p t=some aw)/\q=if p<0\/aw=true then(-1,-1)else(0,p):=by
   by_cases h0:p<0
   .rw[Qeg h0]at hq
    exact⟨true,fun h=>Oa,by rw[if_pos (.inl h0)];exact(Option.some.inj hq).symm⟩
   .obtain⟨aw,h1,h2⟩:=hA Oa
    refine⟨aw,fun _=>h1,?_⟩
    rw[h2]
    cases aw<;>simp[h0]
  intro G ρ M w us hG hM hargs _ _
  change AV.Ts ρ (XA []) M w [.agg [.p (.sl false 3 (v.Config.Zones.map D.Zone.cells)),.p (.sl false 6 (v.Config.People.map D.Person.cells)),.p (.sl false 3 (v.Config.Calendars.map D.Calendar.cells)),.p (.sl false 3 (v.Config.Schedules.map D.Schedule.cells)),.p (.sl false 2 (v.tables.map D.Table.cells))],.agg [.p (.v (.string s.Name)),.p (.sl false 10 (s.Layers.map D.Layer.cells)),.p (.sl false 5 (s.Edits.map D.Edit.cells))],.p (.v (.int .i64 t))] us at hargs
  simp only[AV.Ts,AV.R]at hargs
  obtain⟨u1,us1,rfl,⟨cs1,rfl,r1⟩,u2,us2,rfl,⟨cs2,rfl,r2⟩,u3,us3,rfl,r3,rfl⟩:=hargs
  have r1':=r1
  have r2':=r2
  obtain⟨v1,w1,e1,x1,r1⟩:=QoT r1
  obtain⟨v2,w2,rfl,x2,r1⟩:=QoT r1
  obtain⟨v3,w3,rfl,x3,r1⟩:=QoT r1
  obtain⟨v4,w4,rfl,x4,r1⟩:=QoT r1
  obtain⟨v5,w5,rfl,x5,r1⟩:=QoT r1
  simp only[AV.Rs]at r1
  subst r1
  obtain⟨s1,z1,e2,y1,r2⟩:=QoT r2
  obtain⟨s2,z2,rfl,y2,r2⟩:=QoT r2
  obtain⟨s3,z3,rfl,y3,r2⟩:=QoT r2
  simp only[AV.Rs]at r2
  subst r2
  have e1':cs1=#[v1,v2,v3,v4,v5]:=by cases cs1;simpa using e1
  have e2':cs2=#[s1,s2,s3]:=by cases cs2;simpa using e2
  subst e1'
  subst e2'
  simp only[PV.R]at r3
  obtain⟨rfl,_⟩:=r3
  rw[hl]at y2
  have y2':=y2
  simp only[PV.R,List.map_cons,List.map_nil,List.length_cons,List.length_nil]at y2
  obtain⟨ad,cap,rfl,hcap,_,hn,hrows⟩:=y2
  cases ad with
  |none=>have:=hn rfl;omega
  |some ad=>
   obtain⟨hsp,hMb,hlt,hrow⟩:=hrows ad rfl Oa
   obtain⟨bb,off,sp⟩:=ad
   dsimp only at hsp hMb hlt hrow
   subst hsp
   simp only[PV.Rows]at hrow
   obtain⟨_,hc,_⟩:=hrow
   change PV.Cells M w bb off [.v (.string l.Name),.v (.int .i64 l.Zone),.v (.int .i64 l.Start.Day),.v (.int .i64 l.Start.Second),.v (.int .i64 l.Unit),.v (.int .i64 l.Every),.sl false 1 (l.Members.map D.cInt),.sl false 2 (l.Windows.map D.Window.cells),.v (.int .i64 l.Calendar),.v (.int .i64 l.Mode)]at hc
   obtain⟨l1,c1,m1,hc⟩:=Qb3 hc
   obtain⟨l2,c2,m2,hc⟩:=Qb3 hc
   obtain⟨l3,c3,m3,hc⟩:=Qb3 hc
   obtain⟨l4,c4,m4,hc⟩:=Qb3 hc
   obtain⟨l5,c5,m5,hc⟩:=Qb3 hc
   obtain⟨l6,c6,m6,hc⟩:=Qb3 hc
   obtain⟨l7,c7,m7,hc⟩:=Qb3 hc
   obtain⟨l8,c8,m8,hc⟩:=Qb3 hc
   obtain⟨l9,c9,m9,hc⟩:=Qb3 hc
   obtain⟨l10,c10,m10,hc⟩:=Qb3 hc
   have hx0:∀{W:World},Ext (fun _=>False) w W->∀{x:PV} {u:Value},x.R M w u->x.R M W u:=fun hx=>fun h=>PV.R.mono hx (fun _ h=>h.elim) (fun _ _ h=>h) h
   have key:=Qy2 3 Oa v1 v2 v3 v4 v5 s1 s3 bb off cap t l1 l2 l3 l4 l5 l6 l7 l8 l9 l10 w hlt c1 c2 c3 c4 c5 c6 c7 c8 c9 c10 m1.flat m2.flat m3.flat m4.flat m5.flat m6.flat m7.flat m8.flat m9.flat m10.flat p
    (fun W hx=>(QpB sP hG hM hx (us:=[.agg #[v1,v2,v3,v4,v5],.agg #[l1,l2,l3,l4,l5,l6,l7,l8,l9,l10],.int .i64 t]) (by
     change AV.Ts ρ (XA []) M W [.agg [.p (.sl false 3 (v.Config.Zones.map D.Zone.cells)),.p (.sl false 6 (v.Config.People.map D.Person.cells)),.p (.sl false 3 (v.Config.Calendars.map D.Calendar.cells)),.p (.sl false 3 (v.Config.Schedules.map D.Schedule.cells)),.p (.sl false 2 (v.tables.map D.Table.cells))],.agg [.p (.v (.string l.Name)),.p (.v (.int .i64 l.Zone)),.p (.v (.int .i64 l.Start.Day)),.p (.v (.int .i64 l.Start.Second)),.p (.v (.int .i64 l.Unit)),.p (.v (.int .i64 l.Every)),.p (.sl false 1 (l.Members.map D.cInt)),.p (.sl false 2 (l.Windows.map D.Window.cells)),.p (.v (.int .i64 l.Calendar)),.p (.v (.int .i64 l.Mode))],.p (.v (.int .i64 t))] _
     simp only[AV.Ts,AV.R]
     exact⟨_,_,rfl,⟨_,rfl,Ul (hx0 hx x1) (Ul (hx0 hx x2) (Ul (hx0 hx x3) (Ul (hx0 hx x4) (Ul (hx0 hx x5) (by simp only[AV.Rs])))))⟩,_,_,rfl,⟨_,rfl,Ul (hx0 hx m1) (Ul (hx0 hx m2) (Ul (hx0 hx m3) (Ul (hx0 hx m4) (Ul (hx0 hx m5) (Ul (hx0 hx m6) (Ul (hx0 hx m7) (Ul (hx0 hx m8) (Ul (hx0 hx m9) (Ul (hx0 hx m10) (by simp only[AV.Rs]))))))))))⟩,_,_,rfl,by simp only[PV.R];exact⟨trivial,rfl⟩,rfl⟩)).mono (by
      rintro e W' ⟨u,rfl,⟨ρ',M',hu⟩,hx'⟩
      change PV.R M' W' (.v (.int .i64 p)) u at hu
      simp only[PV.R]at hu
      exact⟨by rw[hu.1],hx'⟩))
    aw (fun h0 W hx=>by
     obtain⟨_,_,_,sA⟩:=(QnP fu).spec (s,p,t,()) () (aw,()) () (by show optc (UD fu s p t) _=_;rw[haw h0];rfl) L0 (fun n t l v hn=>by change AM.look n []=_ at hn;simp[AM.look]at hn)
     refine(QpB sA hG hM hx (us:=[.agg #[s1,.slice (some ⟨bb,off,none⟩) 1 cap,s3],.int .i64 p,.int .i64 t]) (by
      change AV.Ts ρ (XA []) M W [.agg [.p (.v (.string s.Name)),.p (.sl false 10 (s.Layers.map D.Layer.cells)),.p (.sl false 5 (s.Edits.map D.Edit.cells))],.p (.v (.int .i64 p)),.p (.v (.int .i64 t))] _
      simp only[AV.Ts,AV.R]
      exact⟨_,_,rfl,⟨_,rfl,Ul (hx0 hx y1) (Ul (by rw[hl];exact hx0 hx y2') (Ul (hx0 hx y3) (by simp only[AV.Rs])))⟩,_,_,rfl,by simp only[PV.R];exact⟨trivial,rfl⟩,_,_,rfl,by simp only[PV.R];exact⟨trivial,rfl⟩,rfl⟩)).mono ?_
     rintro e W' ⟨u,rfl,⟨ρ',M',hu⟩,hx'⟩
     change PV.R M' W' (.v (.bool aw)) u at hu
     simp only[PV.R]at hu
     exact⟨by rw[hu.1],hx'⟩)
   refine(callsIn_wide.1 key).mono ?_
   rintro e w' ⟨rfl,hx⟩
   refine⟨_,_,[],ρ,rfl,⟨rfl,rfl⟩,?_,fun n o hn=>?_,fun n m o o' b hn=>?_,fun n o b hn=>?_,hx.weaken fun b _ hb=>hb.elim,fun n o hn=>?_⟩
   case refine_2=>change AM.look n []=_ at hn;simp[AM.look]at hn
   case refine_3=>change AM.look n []=_ at hn;simp[AM.look]at hn
   case refine_4=>change AM.look n []=_ at hn;simp[AM.look]at hn
   case refine_5=>change AM.look n []=_ at hn;simp[AM.look]at hn
   show AV.R ρ (XA []) _ w' (.tup [.p (.v (.int .i64 q.1)),.p (.v (.int .i64 q.2))]) _
   simp only[AV.R,AV.Ts,PV.R]
   refine⟨_,rfl,_,_,rfl,⟨?_,rfl⟩,_,_,rfl,⟨?_,rfl⟩,rfl⟩
   .rw[hqa];split<;>rfl
   .rw[hqa];split<;>rfl
end
end
/-
  What functions do, reckoned from their code, and their contracts. Printed by wip/gen/brun.py.
-/
open Go AM IntKind
noncomputable section
variable (u:Nat)
def Xv(u:Nat)(a:List D.Page)(c:Int)(b:List D.Page):Option (List D.Page):=natc c fun e=>lec e a.length (cd ((b.length:Int)=0) (some a) (cd (c=(a.length:Int)) (lec (a.length+b.length) 34359738368 (some (a++b))) none))
theorem Qdz:FO 284 (Qd [.one (.own 101),nI,.one (.lst .Page)] [ar 101 .Page] [.one (.own 101)] [ar 101 .Page] [] (List D.Page) kz7 (fun x y=>Xv u y.1 x.1 x.2.1)):=fI u .go kz10 eN Tryz.func284
end
/-
  slices.Insert of one page into an array of ours: its contract. Where the page comes behind all others the printed contract serves (it is an append); the other two roads (there is room; there is none) are walked here.
-/
open Go Go.RowKit Go.Shelf Go.Proofs AM
section
variable {P:Program}
theorem Qjg(W:World)(T e ty:TypeId)(es:Nat)(hT:P.underlying T=some (.slice e))(hz:ZK P e=some es)(b o l1 c1:Nat)(a2:Addr)(l2 c2 m:Nat)(cur:Array Value)(t:TypeId)(vs:List Value)(hg:W.heap[b]?=some (.cells cur t (0,0)))(hm:Nat.min l2 l1=m)(hn:vs.length=m*es)(hsrc:∀j v,vs[j]?=some v->W.cell? (a2.add j)=some v)(hfit:o+vs.length<=cur.size)(h1:∀v∈vs,v.oneCell'=true):
  (Builtin.copy_ #[T,T] ty #[.slice (some ⟨b,o,none⟩) l1 c1,.slice (some a2) l2 c2]).run P W=.ok (goInt ((m:Nat):Int)) (W.setRow b (QM cur.toList o vs).toArray):=by
 have hsz:=AM.run_sizeOf (P:=P) (w:=W) hz
 have hload:=run_loadCells_list (P:=P) W a2 vs hsrc
 have hstore:=run_storeCells_at (P:=P) b o t vs 0 cur W hg Oa h1
 rw[hn]at hload
 have hw:(QM cur.toList o vs).toArray=(cur.toList.take (o+0)++vs++cur.toList.drop (o+0+vs.length)).toArray:=by unfold QM;rfl
 simp[Builtin.copy_,run_underlying hT,Builtin.lenOf,Builtin.firstCells,hsz,hm,hload,Result.andThen]
 rw[hstore,hw]
theorem QlE(w:World)(tS tR e:TypeId)(ht:P.underlying tS=some (.slice e))(size:Nat)(hz:∀w,(Go.sizeOf e).run P w=.ok size w)(a b:Addr)(la ca lb cb:Nat)(hne:a.block≠b.block){csA cs:Array Value}{tA t:TypeId}{fA:Nat×Nat}(ha:w.heap[a.block]?=some (.cells csA tA fA))(hb:w.heap[b.block]?=some (.cells cs t (0,0)))(hk:cs.size≠0)(hkA:csA.size≠0):
  (Extern.SlicesOverlaps.overlaps #[tS,tS] #[tR] #[.slice (some a) la ca,.slice (some b) lb cb]).run P w=.ok (.bool false) w:=by
 have hnb:(a.block != b.block)=true:=by simpa using hne
 have hnb':(a.block == b.block)=false:=by simpa using hne
 have hsa:w.shape? a.block=some (tA,csA.size):=by simp[World.shape?,ha]
 have hsb:w.shape? b.block=some (t,cs.size):=by simp[World.shape?,hb]
 have hfb:∀o s,w.frozen? { block:=b.block,off:=o,spot:=s }=false:=fun o s=>by simp[World.frozen?,hb]
 have hfb':w.frozen? b=false:=by simp[World.frozen?,hb]
 obtain⟨f1,hf1⟩:∃f1,w.frozen? a=f1:=⟨_,rfl⟩
 obtain⟨f2,hf2⟩:∃f2,w.frozen? { block:=a.block,off:=csA.size }=f2:=⟨_,rfl⟩
 change Sem.run P (α:=Value) (do
  let some t:=(#[tS,tS]:Array TypeId)[0]?|stuck "slices.overlaps: no parameter types"
  let .slice elem <-underlying t|stuck "slices.overlaps: slice type expected"
  let size <-sizeOf elem
  match (some a:Option Addr),(some b:Option Addr)with
  |some a,some b=>
   if la=0\/lb=0\/size=0 then pure (Value.bool false)
   else if a.block != b.block && (<-frozen a) && (<-frozen b)then unsupported .addressObserved
   else do
    if a.block != b.block then do
     noView a;noView b
     if <-mayBeOne a b then return Value.bool ((<-choose (.extern "sameAddr.stringBytes" 2)) == 1)
    pure (Value.bool (a.block == b.block && a.off<b.off+lb*size && b.off<a.off+la*size))
  |_,_=>pure (Value.bool false)) w=_
 by_cases h0:la=0\/lb=0\/size=0
 .simp[run_underlying ht,hz,h0]
 .obtain⟨kB,hkB⟩:∃kB,cs.size=kB+1:=⟨cs.size - 1,Oa⟩
  rw[hkB]at hsb
  obtain⟨kA,hkA'⟩:∃kA,csA.size=kA+1:=⟨csA.size - 1,Oa⟩
  rw[hkA']at hsa hf2
  cases f1<;>cases f2<;>
   simp[run_underlying ht,hz,h0,hnb,hnb',frozen,noView,viewAt,mayBeOne,stringish,shape,Sem.run,hsa,hsb,hfb,hfb',hf1,hf2]
end
theorem Qmz{α:Type}{l vs:List α}{k:Nat}(h:k<=l.length):(QM l k vs).take (k+vs.length)=l.take k++vs:=by
 unfold QM
 grind
set_option maxHeartbeats 4000000 in
theorem Que(b n c i vb voff vc:Nat)(cs csv:Array Value)(t tv:TypeId)(fv:Nat×Nat)(v:List Value)(w:World)(hi:i<n)(hroom:n+1<=c)(hbig:n<=10000000)(hvb:vb≠b)(hb:w.heap[b]?=some (.cells cs t (0,0)))(hsz:c*14<=cs.size)(hv:v.length=14)(hvw:w.heap[vb]?=some (.cells csv tv fv))(hvz:csv.size≠0)(hvs:∀j x,v[j]?=some x->w.cell? ⟨vb,voff+j,none⟩=some x)(h1c:∀x∈(cs.toList.drop (i*14)).take ((n - i)*14),x.oneCell'=true)(h1v:∀x∈v,x.oneCell'=true):
  Calls Tryz.prog 284 #[.slice (some ⟨b,0,none⟩) n c,.int .i64 i,.slice (some ⟨vb,voff,none⟩) 1 vc] w fun e w'=>
   e=.returned (.slice (some ⟨b,0,none⟩) (n+1) c)/\w'=(w.drew.setRow b (QM cs.toList ((i+1)*14) ((cs.toList.drop (i*14)).take ((n - i)*14))).toArray).setRow b (QM (QM cs.toList ((i+1)*14) ((cs.toList.drop (i*14)).take ((n - i)*14))) (i*14) v).toArray:=by
 have hmix:Tryz.prog.follows .mixedOrders=true:=by kernel_rfl
 have hT:Tryz.prog.underlying 37=some (.slice 83):=by kernel_rfl
 have hz:ZK Tryz.prog 83=some 14:=by kernel_rfl
 have hsize:∀w,(Go.sizeOf 83).run Tryz.prog w=.ok 14 w:=fun w=>AM.run_sizeOf hz w
 have hle:(n+1)*14<=cs.size:=Nat.le_trans (Nat.mul_le_mul_right 14 hroom) hsz
 obtain⟨vs,hvs1⟩:∃vs,(cs.toList.drop (i*14)).take ((n - i)*14)=vs:=⟨_,rfl⟩
 have hvl:vs.length=(n - i)*14:=by rw[<-hvs1];simp;omega
 obtain⟨A1,hA1⟩:∃A1,(QM cs.toList ((i+1)*14) vs).toArray=A1:=⟨_,rfl⟩
 have hA1s:A1.size=cs.size:=by rw[<-hA1];simp[QM,hvl];omega
 rw[hvs1]at h1c |-
 have hA1l:QM cs.toList ((i+1)*14) vs=A1.toList:=by rw[<-hA1]
 rw[hA1l,Array.toArray_toList]
 have hov:∀o lb cb,(callFunc 331 #[.slice (some ⟨vb,voff,none⟩) 1 vc,.slice (some ⟨b,o,none⟩) lb cb]).run Tryz.prog w=.ok (.value (.bool false)) w:=fun o lb cb=>by
  rw[run_callFunc_extern Tryz.func331 (by kernel_rfl) (by kernel_rfl) (by kernel_rfl) (e:=Extern.SlicesOverlaps.overlaps #[37,37] #[4]) (by kernel_rfl),QlE w 37 4 83 hT 14 hsize ⟨vb,voff,none⟩ ⟨b,o,none⟩ 1 vc lb cb hvb hvw hb Oa hvz]
  rfl
 have hold:∀q,w.cell? ⟨b,q,none⟩=cs.toList[q]?:=fun q=>by simp[World.cell?,hb]
 have hcp1:∀ty c1 c2,(Builtin.copy_ #[37,37] ty #[.slice (some ⟨b,(i+1)*14,none⟩) (n - i) c1,.slice (some ⟨b,i*14,none⟩) (n+1 - i) c2]).run Tryz.prog w.drew=.ok (goInt ((n - i:Nat):Int)) (w.drew.setRow b A1):=fun ty c1 c2=>by
  rw[<-hA1]
  exact Qjg w.drew 37 83 ty 14 hT hz b _ (n - i) c1 ⟨b,i*14,none⟩ (n+1 - i) c2 (n - i) cs t vs hb (Nat.min_eq_right Oa) hvl (fun j x hj=>by
   have hj':j<(n - i)*14:=by rw[<-hvl];exact(List.getElem?_eq_some_iff.1 hj).1
   rw[Addr.add_lit]
   rw[<-hvs1,List.getElem?_take,if_pos hj',List.getElem?_drop]at hj
   exact(hold _).trans hj) (by rw[hvl];omega) h1c
 have hcp2:∀(W:World),W.heap=(w.drew.setRow b A1).heap->∀ty c1,(Builtin.copy_ #[37,37] ty #[.slice (some ⟨b,i*14,none⟩) (n+1 - i) c1,.slice (some ⟨vb,voff,none⟩) 1 vc]).run Tryz.prog W=.ok (goInt ((1:Nat):Int)) (W.setRow b (QM A1.toList (i*14) v).toArray):=fun W hW ty c1=>by
  have hWb:W.heap[b]?=some (.cells A1 t (0,0)):=by rw[hW];exact setRow_heap w.drew b cs A1 t (0,0) hb
  exact Qjg W 37 83 ty 14 hT hz b _ (n+1 - i) c1 ⟨vb,voff,none⟩ 1 vc 1 A1 t v hWb (Nat.min_eq_left Oa) (by rw[hv]) (fun j x hj=>by
   rw[Addr.add_lit]
   have:=hvs j x hj
   unfold World.cell? at this |-
   dsimp only at this |-
   rw[hW,setRow_other w.drew b vb A1 hvb]
   exact this) (by rw[hv,hA1s];omega) h1v
 have hcp3:=hcp2 (w.drew.setRow b A1).drew rfl
 have hcp4:=hcp2 (w.drew.setRow b A1) rfl
 have hz2:¬((i:Int)=(n:Int)):=Oa
 have hw1:IntKind.i64.wrap ((i:Int)+1)=(i:Int)+1:=by rw[IntKind.wrap_i64];omega
 have hw2:IntKind.i64.wrap ((n:Int)+1)=(n:Int)+1:=by rw[IntKind.wrap_i64];omega
 have hb1:(0:Int)<=(i:Int)+1:=Oa
 have hin:i<=n:=Oa
 have htn:((i:Int)+1).toNat=i+1:=Oa
 have htn2:((n:Int)+1).toNat=n+1:=Oa
 have hb2:¬(c=i+1):=Oa
 have hb3:(i:Int)<=(n:Int)+1:=Oa
 have hb4:¬(c=i):=Oa
 go_enter Tryz.func284,Tryz.ntmps284
 go_wp2_with (simp only[hov])
 go_region_law_o (refine step_copy_runI rfl _ _ 37 37 rfl _ _ (by simp[Act.eval,Act.put]) (by simp[Act.eval,Act.put]) (hcp1 _ _ _) ?_)
 go_wp2
 go_ret
 first|exact⟨rfl,rfl⟩|exact⟨rfl,by rw[Array.toArray_toList]⟩
set_option maxHeartbeats 4000000 in
theorem Qv7(b n c i vb voff vc:Nat)(cs csv:Array Value)(t tv:TypeId)(fv:Nat×Nat)(v:List Value)(w:World)(hi:i<n)(hnc:n<=c)(hroom:c<n+1)(hbig:n<=10000000)(hb:w.heap[b]?=some (.cells cs t (0,0)))(hsz:c*14<=cs.size)(hv:v.length=14)(hvw:w.heap[vb]?=some (.cells csv tv fv))(hvs:∀j x,v[j]?=some x->w.cell? ⟨vb,voff+j,none⟩=some x)(h1c:∀x∈(cs.toList.drop (i*14)).take ((n - i)*14),x.oneCell'=true)(h1v:∀x∈v,x.oneCell'=true):
  Calls Tryz.prog 284 #[.slice (some ⟨b,0,none⟩) n c,.int .i64 i,.slice (some ⟨vb,voff,none⟩) 1 vc] w fun e w'=>
   ∃(G:Nat) (A:Array Value),e=.returned (.slice (some ⟨w.heap.size,0,none⟩) (n+1) G)/\n+1<=G/\A.size=G*14/\A.toList.take ((n+1)*14)=cs.toList.take (i*14)++v++(cs.toList.drop (i*14)).take ((n - i)*14)/\
    w'.heap[w.heap.size]?=some (.cells A 83 (0,0))/\Ext (fun _=>False) w w':=by
 have hmix:Tryz.prog.follows .mixedOrders=true:=by kernel_rfl
 have hT:Tryz.prog.underlying 37=some (.slice 83):=by kernel_rfl
 have hT3:Tryz.prog.underlying 3=some (.int .i64):=by kernel_rfl
 have hz:ZK Tryz.prog 83=some 14:=by kernel_rfl
 obtain⟨i0,z,hi0,hz0,hzs,hzb,hzc⟩:=Qa8 (P:=Tryz.prog) (e:=83) (es:=14) (bytes:=160) (by kernel_rfl)
 have hbw:b<w.heap.size:=(Array.getElem?_eq_some_iff.1 hb).1
 have hvw':vb<w.heap.size:=(Array.getElem?_eq_some_iff.1 hvw).1
 have hle:n*14<=cs.size:=Nat.le_trans (Nat.mul_le_mul_right 14 hnc) hsz
 have hold:∀q,w.cell? ⟨b,q,none⟩=cs.toList[q]?:=fun q=>by simp[World.cell?,hb]
 obtain⟨vs,hvs1⟩:∃vs,(cs.toList.drop (i*14)).take ((n - i)*14)=vs:=⟨_,rfl⟩
 have hvl:vs.length=(n - i)*14:=by rw[<-hvs1];simp;omega
 rw[hvs1]at h1c |-
 have hold0:(Builtin.firstCells i0.size i (.slice (some ⟨b,0,none⟩) i c)).run Tryz.prog w.drew=.ok (cs.toList.take (i*14)).toArray w.drew:=by
  rw[hzs]
  exact run_firstCells_some w.drew 14 i ⟨b,0,none⟩ i c (cs.toList.take (i*14)) (by rw[List.length_take];simp;omega) (fun j x hj=>by
   rw[Addr.add_lit,Nat.zero_add]
   rw[List.getElem?_take]at hj
   split at hj
   .exact(hold _).trans hj
   .cases hj)
 obtain⟨G,hG⟩:∃G,G=grownCap w (n+1) c 83:=⟨_,rfl⟩
 obtain⟨ROW,hROW⟩:∃ROW:Array Value,ROW=(cs.toList.take (i*14)).toArray++Builtin.zeroCells z.cells (n+1 - i)++Builtin.zeroCells z.cells (G - (n+1)):=⟨_,rfl⟩
 have hGn:n+1<=G:=by rw[hG];exact grownCap_ge w _ _ _
 have hG63:G<=9223372036854775807:=by
  have:=grownCap_le_maxLen w (n+1) c 83 (by unfold maxLen;omega)
  rw[<-hG]at this
  unfold maxLen at this
  omega
 have hik:i+(n+1 - i)=n+1:=Oa
 have hrz:∀ty,(Builtin.append_ #[37,3] ty #[.slice (some ⟨b,0,none⟩) i c,.int .i64 ((n:Int)+1 - (i:Int))]).run Tryz.prog w =
   .ok (.slice (some ⟨w.heap.size,0,none⟩) (n+1) G) (w.drew.alloc (.cells ROW 83)):=fun ty=>by
  have h:=Lib.run_append_grow_zeros w 37 3 ty 83 i0 _ .i64 .i64 hT hT3 hi0 hz0 (some ⟨b,0,none⟩) i c (cs.toList.take (i*14)) hold0 (n+1 - i) Oa Oa Oa Oa (by rw[hzb];omega) (by rw[hzb,hik];exact growslice_fits hroom Oa)
  rw[hik,<-hG,<-hROW]at h
  rw[show(n:Int)+1 - (i:Int)=((n+1 - i:Nat):Int)by omega]
  exact h
 have hRs:ROW.size=G*14:=by
  rw[hROW]
  simp only[Array.size_append,Ub,hzc,List.size_toArray,List.length_take,Array.length_toList]
  omega
 have hNb:(w.drew.alloc (.cells ROW 83)).heap[w.heap.size]?=some (.cells ROW 83 (0,0)):=ZT w.drew _
 have hOth:∀k,k<w.heap.size->(w.drew.alloc (.cells ROW 83)).heap[k]?=w.heap[k]?:=fun k hk=>Below.heap_alloc w.drew _ k hk
 obtain⟨A1,hA1⟩:∃A1,(QM ROW.toList (i*14) v).toArray=A1:=⟨_,rfl⟩
 have hA1s:A1.size=ROW.size:=by rw[<-hA1];simp[QM,hv];omega
 obtain⟨A2,hA2⟩:∃A2,(QM A1.toList ((i+1)*14) vs).toArray=A2:=⟨_,rfl⟩
 have hA2s:A2.size=ROW.size:=by rw[<-hA2,<-hA1s];simp[QM,hvl];omega
 have hfin:A2.toList.take ((n+1)*14)=cs.toList.take (i*14)++v++vs:=by
  have e1:A1.toList.take ((i+1)*14)=cs.toList.take (i*14)++v:=by
   rw[<-hA1,show(i+1)*14=i*14+v.length by omega,List.toList_toArray,Qmz (by simp;omega),hROW]
   congr 1
   simp only[Array.toList_append,List.toList_toArray,List.append_assoc]
   rw[List.take_append_of_le_length (by simp;omega),List.take_take,Nat.min_self]
  rw[<-hA2,show(n+1)*14=(i+1)*14+vs.length by omega,List.toList_toArray,Qmz (by simp;omega),e1]
 have hcpA:∀(W:World),W.heap=(w.drew.alloc (.cells ROW 83)).heap->∀ty c1,(Builtin.copy_ #[37,37] ty #[.slice (some ⟨w.heap.size,i*14,none⟩) (n+1 - i) c1,.slice (some ⟨vb,voff,none⟩) 1 vc]).run Tryz.prog W=.ok (goInt ((1:Nat):Int)) (W.setRow w.heap.size A1):=fun W hW ty c1=>by
  rw[<-hA1]
  exact Qjg W 37 83 ty 14 hT hz _ _ (n+1 - i) c1 ⟨vb,voff,none⟩ 1 vc 1 ROW 83 v (by rw[hW];exact hNb) (Nat.min_eq_left Oa) (by rw[hv]) (fun j x hj=>by
   rw[Addr.add_lit]
   have:=hvs j x hj
   unfold World.cell? at this |-
   dsimp only at this |-
   rw[hW,hOth vb hvw']
   exact this) (by rw[hv];omega) h1v
 have hcpB:∀(W:World),W.heap=((w.drew.alloc (.cells ROW 83)).setRow w.heap.size A1).heap->∀ty c1 c2,(Builtin.copy_ #[37,37] ty #[.slice (some ⟨w.heap.size,(i+1)*14,none⟩) (n - i) c1,.slice (some ⟨b,i*14,none⟩) (n - i) c2]).run Tryz.prog W=.ok (goInt ((n - i:Nat):Int)) (W.setRow w.heap.size A2):=fun W hW ty c1 c2=>by
  rw[<-hA2]
  exact Qjg W 37 83 ty 14 hT hz _ _ (n - i) c1 ⟨b,i*14,none⟩ (n - i) c2 (n - i) A1 83 vs (by rw[hW];exact setRow_heap _ _ ROW A1 83 (0,0) hNb) (Nat.min_self _) hvl (fun j x hj=>by
   have hj':j<(n - i)*14:=by rw[<-hvl];exact(List.getElem?_eq_some_iff.1 hj).1
   rw[Addr.add_lit]
   rw[<-hvs1,List.getElem?_take,if_pos hj',List.getElem?_drop]at hj
   have:=(hold (i*14+j)).trans hj
   unfold World.cell? at this |-
   dsimp only at this |-
   rw[hW,setRow_other _ _ _ A1 Oa,hOth b hbw]
   exact this) (by rw[hvl];omega) h1c
 have hz2:¬((i:Int)=(n:Int)):=Oa
 have hz3:(c:Int)<(n:Int)+1:=Oa
 have hw1:IntKind.i64.wrap ((i:Int)+1)=(i:Int)+1:=by rw[IntKind.wrap_i64];omega
 have hw2:IntKind.i64.wrap ((n:Int)+1)=(n:Int)+1:=by rw[IntKind.wrap_i64];omega
 have hw3:IntKind.i64.wrap ((n:Int)+1 - (i:Int))=(n:Int)+1 - (i:Int):=by rw[IntKind.wrap_i64];omega
 have hb1:(0:Int)<=(i:Int)+1:=Oa
 have hin:i<=n:=Oa
 have htn:((i:Int)+1).toNat=i+1:=Oa
 have hb3:(i:Int)<=(n:Int)+1:=Oa
 have hb4:¬(c=i):=Oa
 have hGi:¬(G=i):=Oa
 have hGim:¬(G=i+1):=Oa
 have hcpA1:=hcpA (w.drew.alloc (.cells ROW 83)) rfl
 have hcpA2:=hcpA ((w.alloc (.cells ROW 83)).drew) rfl
 have hcpB1:=hcpB (((w.alloc (.cells ROW 83)).drew.setRow w.heap.size A1).drew) rfl
 clear hG hROW hold0 hik hA1 hA2
 go_enter Tryz.func284,Tryz.ntmps284
 go_wp2_with (at_builtin;refine Lib.wpList_append_run _ rfl _ _ _ _ rfl _ _ rfl rfl _ _ (hrz _) ?_)
 go_region_law_o (refine step_copy_runI rfl _ _ 37 37 rfl _ _ (by simp[Act.eval,Act.put]) (by simp[Act.eval,Act.put]) (hcpB _ rfl _ _ _) ?_)
 go_wp2
 go_ret
 refine⟨G,A2,rfl,hGn,by rw[hA2s,hRs],hfin,?_,?_⟩
 .exact setRow_heap _ _ A1 A2 83 (0,0) (setRow_heap _ _ ROW A1 83 (0,0) hNb)
 .refine⟨by simp[World.setRow],fun k hk _=>?_,rfl,rfl⟩
  exact(setRow_other _ _ _ A2 Oa).trans ((setRow_other _ _ _ A1 Oa).trans (hOth k hk))
theorem Qv9{rows:List (List PV)}{row:List PV}{i:Nat}{ρ:Name->AM.Loc}{H:Heap}{M:Nat->Prop}{w:World}{cr:List (List Value)}{c:List Value}(h:RR ρ H M w rows cr)(h2:AV.Rs ρ H M w (pcells row) c):
  RR ρ H M w (rows.take i++row::rows.drop i) (cr.take i++c::cr.drop i):=by
 have htake:∀{rows:List (List PV)} {cr:List (List Value)} (i:Nat),RR ρ H M w rows cr->RR ρ H M w (rows.take i) (cr.take i)/\RR ρ H M w (rows.drop i) (cr.drop i):=by
  intro rows
  induction rows with
  |nil=>intro cr i h;simp only[RR]at h;subst h;simp[RR]
  |cons r rs ih=>
   intro cr i h
   cases i with
   |zero=>exact⟨by simp[RR],by simpa using h⟩
   |succ i=>
    simp only[RR]at h
    obtain⟨c0,cr',rfl,g1,g2⟩:=h
    obtain⟨k1,k2⟩:=ih i g2
    simp only[List.take_succ_cons,List.drop_succ_cons,RR]
    grind
 obtain⟨k1,k2⟩:=htake i h
 refine k1.append ?_
 simp only[RR]
 grind
theorem Qwa{rows:List (List PV)}{row:List PV}{i:Nat}(f:Bool)(hi:i<rows.length)(hl:rows.length<=10000000)(hrow:row.length=14):
  Qcf Tryz.prog 284 [.own 101 rows.length,.p (.v (.int .i64 i)),.p (.sl f 14 [row])] [(101,.arr 14 rows)] (.own 101 (rows.length+1)) [(101,.arr 14 (rows.take i++row::rows.drop i))]:=by
 intro G ρ M w us hG hM hargs hobj hinj
 simp only[AV.Ts]at hargs
 obtain⟨u0,_,rfl,a0,u1,_,rfl,a1,u2,_,rfl,a2,rfl⟩:=hargs
 simp only[AV.R,PV.R]at a0 a1 a2
 have hob:=hobj 101 _ (show AM.look 101 [(101,AO.arr 14 rows)]=some (.arr 14 rows)from rfl)
 have hu0:=(a0.2 (.arr 14 rows) 14 rows.length rfl rfl).2 rfl
 obtain⟨hes,hcap,hobj'⟩:=hob
 obtain⟨ad,vc,rfl,hvc,_,hnone,hsome⟩:=a2
 have hvc':1<=vc:=by simpa using hvc
 cases ad with
 |none=>exact absurd (hnone rfl) Oa
 |some ad=>
 obtain⟨hspot,hMad,hadw,hrows⟩:=hsome ad rfl Oa
 obtain⟨vb,voff,sp⟩:=ad
 dsimp only at hspot hMad hadw hrows
 subst hspot
 rcases hobj' with h0|⟨b,T,cs,h3,h4,h5,h6,h7⟩
 .exact absurd hcap (by rw[h0];omega)
 simp only[PV.Rows]at hrows
 obtain⟨_,hcells,_⟩:=hrows
 obtain⟨cv,cv1,cv2⟩:=Qa3 (ρ:=ρ) (H:=XA [(101,AO.arr 14 rows)]) hcells
 obtain⟨cr,m1,m2,m3⟩:=RR.of_Rows (ρ:=ρ) (H:=XA [(101,AO.arr 14 rows)]) h7
 have hcvl:cv.length=14:=by rw[cv1.length];simp[pcells,hrow]
 have hcrl:=m1.length
 have hlen:=m1.len m2
 have hflat:cr.flatten.length=rows.length*14:=by rw[XQ hlen,hcrl]
 have hcsl:rows.length*14<=cs.size:=Nat.le_trans (Nat.mul_le_mul_right 14 hcap) h6
 have hcs:cs.toList.take (rows.length*14)=cr.flatten:=by
  refine List.ext_getElem? fun j=>?_
  rw[List.getElem?_take]
  split
  .rename_i hj
   have:=m3 j (cr.flatten[j]'Oa) (List.getElem?_eq_getElem Oa)
   rw[Nat.zero_add]at this
   rw[List.getElem?_eq_getElem (l:=cr.flatten) Oa,<-this]
   simp[World.cell?,h5]
  .rw[List.getElem?_eq_none Oa]
 have hmid:(cs.toList.drop (i*14)).take ((rows.length - i)*14)=(cr.drop i).flatten:=by
  rw[<-Qhd i hlen,<-hcs,List.drop_take,Nat.sub_mul]
 have hpre:cs.toList.take (i*14)=(cr.take i).flatten:=by
  rw[<-Qkh i hlen,<-hcs,List.take_take,Nat.min_eq_left (Nat.mul_le_mul_right 14 Oa)]
 have hvb:vb≠b:=fun e=>hMad (by rw[e];exact h4)
 have hvblk:∃csv tv fv,w.heap[vb]?=some (.cells csv tv fv)/\csv.size≠0:=by
  have hc:=cv2 0 (cv[0]'Oa) (List.getElem?_eq_getElem Oa)
  simp only[World.cell?]at hc
  split at hc
  .rename_i csv tv fv hh
   refine⟨csv,tv,fv,hh,fun e=>?_⟩
   have:csv=#[]:=Array.eq_empty_of_size_eq_zero e
   subst this;simp at hc
  all_goals simp at hc
 obtain⟨csv,tv,fv,hvw,hvz⟩:=hvblk
 have h1c:∀x∈(cs.toList.drop (i*14)).take ((rows.length - i)*14),x.oneCell'=true:=by
  rw[hmid]
  intro x hx
  refine m1.one x ?_
  rw[<-List.take_append_drop i cr,List.flatten_append]
  exact List.mem_append_right _ hx
 have h1v:∀x∈cv,x.oneCell'=true:=QnZ cv1
 have hfl2:(cr.take i++cv::cr.drop i).flatten=(cr.take i).flatten++cv++(cr.drop i).flatten:=Ob
 have hrl:(rows.take i++row::rows.drop i).length=rows.length+1:=by simp;omega
 have hr14:∀r∈rows.take i++row::rows.drop i,r.length=14:=by
  intro r hr
  rcases List.mem_append.1 hr with hr|hr
  .exact m2 r (List.mem_of_mem_take hr)
  .rcases List.mem_cons.1 hr with rfl|hr
   .exact hrow
   .exact m2 r (List.mem_of_mem_drop hr)
 have hall:=Qv9 (i:=i) m1 cv1
 have hfl3:(cr.take i++cv::cr.drop i).flatten.length=(rows.length+1)*14:=by rw[XQ (hall.len hr14),hall.length,hrl]
 rw[hu0,h3,a1.1]
 have hblk:(ρ 101).blk=some b:=by
  have:(ρ 101).cap≠0:=Oa
  simp[Loc.blk,this,h3]
 have hown:∀(n:Name) (o:AO),AM.look n [(101,AO.arr 14 (rows.take i++row::rows.drop i))]=some o->n=101/\o=.arr 14 (rows.take i++row::rows.drop i):=fun n o hn=>by
  simp only[AM.look]at hn
  split at hn
  .rename_i e;cases hn;exact⟨e.symm,rfl⟩
  .simp at hn
 have fin:∀(ρ':Name->AM.Loc) (w':World) (u:Value) (b':Nat) (T':TypeId) (A:Array Value),(ρ' 101).base=some ⟨b',0,none⟩->rows.length+1<=(ρ' 101).cap->(ρ' 101).cap*14<=A.size->w'.heap[b']?=some (.cells A T' (0,0))->
   A.toList.take ((rows.length+1)*14)=(cr.take i++cv::cr.drop i).flatten->(∀b1,b1<w.heap.size->newM M ρ' [(101,AO.arr 14 (rows.take i++row::rows.drop i))] b1->M b1)->Ext (fun b1=>b1=b) w w'->
   ((ρ' 101).blk=some b->(ρ 101).blk=some b\/w.heap.size<=b)->(∀b1,(ρ' 101).blk=some b1->b1=b\/w.heap.size<=b1)->u=.slice (ρ' 101).base (rows.length+1) (ρ' 101).cap->
   After ρ M w [(101,AO.arr 14 rows)] u (.own 101 (rows.length+1)) [(101,AO.arr 14 (rows.take i++row::rows.drop i))] ρ' w':=fun ρ' w' u b' T' A e1 e2 e3 e4 e5 e6 e7 _ e9 e10=>by
  have hst:=hall.step (ρ':=ρ') (H':=XA [(101,AO.arr 14 (rows.take i++row::rows.drop i))]) (M':=newM M ρ' [(101,AO.arr 14 (rows.take i++row::rows.drop i))]) e7 (fun b1 hb1=>by rw[hb1];exact h4) e6
  refine⟨?_,?_,?_,?_,?_,?_⟩
  .simp only[AV.R]
   refine⟨by rw[e10];rfl,fun o es k hn hs=>?_⟩
   obtain⟨_,rfl⟩:=hown _ _ hn
   cases hs
   exact⟨Oa,fun _=>e10⟩
  .intro n o hn
   obtain⟨rfl,rfl⟩:=hown _ _ hn
   refine⟨Oa,by rw[hrl];exact e2,.inr ⟨b',T',A,e1,.inr ⟨101,_,rfl,?_⟩,e4,e3,?_⟩⟩
   .have:(ρ' 101).cap≠0:=Oa
    simp[Loc.blk,this,e1]
   .refine QaT hst hr14 fun j x hj=>?_
    have hj':j<(rows.length+1)*14:=by rw[<-hfl3];exact(List.getElem?_eq_some_iff.1 hj).1
    rw[<-e5,List.getElem?_take,if_pos hj']at hj
    simpa [World.cell?,e4]using hj
  .intro n m o o' b1 hn hm _ _
   rw[(hown _ _ hn).1,(hown _ _ hm).1]
  .intro n o b1 hn hb1
   obtain⟨rfl,rfl⟩:=hown _ _ hn
   rcases e9 b1 hb1 with rfl|h
   .exact .inl ⟨_,rfl,hblk⟩
   .exact .inr h
  .exact e7.weaken fun b1 _ hb1=>⟨101,_,rfl,by rw[hb1];exact hblk⟩
  .intro n o hn
   have hn':n=101/\o=.arr 14 rows:=by
    simp only[AM.look]at hn
    split at hn
    .rename_i e;cases hn;exact⟨e.symm,rfl⟩
    .simp at hn
   obtain⟨rfl,rfl⟩:=hn'
   exact⟨_,rfl,rfl,by rw[hrl];omega,fun e=>by rw[hrl]at e;omega⟩
 by_cases hroom:rows.length+1<=(ρ 101).cap
 .refine(Que b rows.length (ρ 101).cap i vb voff vc cs csv T tv fv cv w hi hroom hl hvb h5 h6 hcvl hvw hvz cv2 h1c h1v).mono ?_
  rintro e w' ⟨rfl,rfl⟩
  rw[hmid]
  have hml:(cr.drop i).flatten.length=(rows.length - i)*14:=by rw[XQ fun r hr=>hlen r (List.mem_of_mem_drop hr),List.length_drop,hcrl]
  have hs1:(QM cs.toList ((i+1)*14) (cr.drop i).flatten).toArray.size=cs.size:=by simp[QM,hml];omega
  have hb1:=setRow_heap w.drew b cs (QM cs.toList ((i+1)*14) (cr.drop i).flatten).toArray T (0,0) h5
  have hb2:=setRow_heap _ b _ (QM (QM cs.toList ((i+1)*14) (cr.drop i).flatten) (i*14) cv).toArray T (0,0) hb1
  refine⟨_,_,_,ρ,rfl,⟨rfl,rfl⟩,fin ρ _ _ b T _ h3 hroom ?_ hb2 ?_ ?_ ?_ (fun h=>.inl h) (fun b1 h=>.inl (by rw[hblk]at h;exact(Option.some.inj h).symm)) (by rw[h3])⟩
  .refine Nat.le_trans h6 ?_;simp[QM,hml,hcvl];omega
  .rw[List.toList_toArray,hfl2]
   have e1:(QM cs.toList ((i+1)*14) (cr.drop i).flatten).take (i*14)=(cr.take i).flatten:=by
    unfold QM
    rw[List.append_assoc,List.take_append_of_le_length (by simp;omega),List.take_take,Nat.min_eq_left Oa,hpre]
   have e2:(QM cs.toList ((i+1)*14) (cr.drop i).flatten).drop (i*14+cv.length)=(cr.drop i).flatten++cs.toList.drop ((i+1)*14+(cr.drop i).flatten.length):=by
    unfold QM
    rw[List.append_assoc,show i*14+cv.length=(cs.toList.take ((i+1)*14)).length by simp;omega,List.drop_left]
   show(List.take (i*14) _++cv++List.drop (i*14+cv.length) _).take _=_
   rw[e1,e2,<-List.append_assoc,List.take_append_of_le_length (by simp only[List.length_append,hml,hcvl];rw[<-hpre];simp;omega),List.take_of_length_le (by simp only[List.length_append,hml,hcvl];rw[<-hpre];simp;omega)]
  .rintro b1 _ (h|⟨n,o,hn,h⟩)
   .exact h
   .obtain⟨rfl,_⟩:=hown _ _ hn
    rw[hblk]at h
    rw[<-Option.some.inj h];exact h4
  .refine⟨by simp[World.setRow],fun b1 _ hne=>?_,rfl,rfl⟩
   exact(setRow_other _ b b1 _ hne).trans (setRow_other _ b b1 _ hne)
 .refine(Qv7 b rows.length (ρ 101).cap i vb voff vc cs csv T tv fv cv w hi hcap Oa hl h5 h6 hcvl hvw cv2 h1c h1v).mono ?_
  rintro e w' ⟨G',A,rfl,g1,g2,g3,g4,g5⟩
  have hcap':(G':Nat)≠0:=Oa
  refine⟨_,_,_,(fun m=>if m=101 then⟨some ⟨w.heap.size,0,none⟩,G'⟩else ρ m),rfl,⟨rfl,rfl⟩,fin _ _ _ w.heap.size 83 A rfl g1 (Nat.le_of_eq g2.symm) g4 ?_ ?_ ?_ ?_ ?_ rfl⟩
  .rw[g3,hfl2,hpre,hmid]
  .rintro b1 hb1 (h|⟨n,o,hn,h⟩)
   .exact h
   .obtain⟨rfl,_⟩:=hown _ _ hn
    have:w.heap.size=b1:=by simpa [Loc.blk,hcap']using h
    omega
  .exact g5.weaken fun b1 _ h=>h.elim
  .intro h
   have:w.heap.size=b:=by simpa [Loc.blk,hcap']using h
   exact .inr Oa
  .intro b1 h
   have:w.heap.size=b1:=by simpa [Loc.blk,hcap']using h
   exact .inr Oa
noncomputable section
def QA(fu:Nat)(p0:List D.Page)(p1:Int)(p2:List D.Page):Option (List D.Page):=
 if p1=(p0.length:Int)then Xv fu p0 p1 p2 else natc p1 fun i=>ltc i p0.length (lec p0.length 10000000 (match p2 with|[x]=>some (p0.take i++x::p0.drop i)|_=>none))
def QdA(fu:Nat):Sig:=Qd [.one (.own 101),.one (.num .i64),.one (.lst .Page)] [(101,.arr .Page)] [.one (.own 101)] [(101,.arr .Page)] [] (List D.Page) (fun q=>((),(q,()))) (fun x y=>QA fu y.1 x.1 x.2.1)
theorem QcO(fu:Nat):FnOK Tryz.prog 284 (QdA fu):=by
 refine⟨fun R x y K r h=>?_,fun x y a b h L0 hL0=>?_⟩
 .obtain⟨q,hq,h⟩:=Wx h
  obtain⟨h',hle⟩:=Qet h
  refine⟨_,_,?_,h'⟩
  show optc (QA fu y.1 x.1 x.2.1) _=_
  rw[show QA fu y.1 x.1 x.2.1=some q from hq]
  exact Qc7 h
 .obtain⟨j,vl,⟨⟩⟩:=x
  obtain⟨l,⟨⟩⟩:=y
  change List D.Page at l
  change List D.Page at vl
  change Int at j
  by_cases hj:j=(l.length:Int)
  .refine(Qdz fu).spec (j,vl,()) (l,()) a b ?_ L0 hL0
   have e:QA fu l j vl=Xv fu l j vl:=by unfold QA;rw[if_pos hj]
   have h':(optc (QA fu l j vl) fun q=>lenB [(101,OSh.arr .Page)] (l,()) [(101,OSh.arr .Page)] (q,()) (some ((),(q,()))))=some (a,b):=h
   rw[e]at h'
   exact h'
  .obtain⟨q,hq,h⟩:=Wx h
   obtain⟨h',_⟩:=Qet h
   obtain⟨rfl,rfl⟩:=Prod.mk.inj (Option.some.inj h')
   replace hq:QA fu l j vl=some q:=hq
   unfold QA at hq
   rw[if_neg hj]at hq
   obtain⟨i,rfl,hq⟩:=UY hq
   obtain⟨hi,hq⟩:=Qhj hq
   obtain⟨hl,hq⟩:=ZP hq
   have hvl:∃x,vl=[x]:=by
    rcases vl with _|⟨x,_|⟨x2,r⟩⟩
    .exact absurd hq Ob
    .exact⟨x,rfl⟩
    .exact absurd hq Ob
   obtain⟨x,rfl⟩:=hvl
   replace hi:i<l.length:=hi
   replace hq:some (l.take i++x::l.drop i)=some q:=hq
   have hq:=Option.some.inj hq
   have e0:L0 101 0=l.length:=hL0 101 _ _ 0 rfl
   have hlm:(l.map (tcells .Page)).length=l.length:=List.length_map ..
   have hs:=Qwa (rows:=l.map (tcells .Page)) (row:=tcells .Page x) (i:=i) false (hlm ▸ hi) (hlm ▸ hl) rfl
   have e1:(l.map (tcells .Page)).take i++tcells .Page x::(l.map (tcells .Page)).drop i=q.map (tcells .Page):=by rw[<-hq];simp
   have e2:(l.map (tcells .Page)).length+1=q.length:=by rw[<-hq];simp;omega
   rw[e1,e2,hlm,<-e0]at hs
   refine⟨fun m u=>if m=101/\u=1 then q.length else L0 m u,fun n hn=>?_,fun n t l' v hn=>?_,?_⟩
   .show(if n=101/\(0:Nat)=1 then q.length else L0 n 0)=L0 n 0
    rw[if_neg Ob]
   .change AM.look n [(101,BO.arr .Page q 1)]=_ at hn
    simp only[AM.look]at hn
    split at hn
    .rename_i e;cases hn;exact if_pos ⟨e.symm,rfl⟩
    .simp at hn
   .exact hs
end
/-
  What functions do, reckoned from their code, and their contracts. Printed by wip/gen/brun.py.
-/
open Go AM IntKind
noncomputable section
variable (u:Nat)
def Qh6(u:Nat)(a:List Int):Option Bool:=some (decide ((a.length:Int)<=500))
theorem Qm2:FO 10 (sB [lI] fun x=>Qh6 u x.1):=fI u .go kz0 eN Tryz.func10
def Qev(u:Nat)(a:List Int):Option D.Dice:=some (D.Dice.mk a 0)
theorem QiG:FO 12 (Qd [lI] [] [.one (.ref 1005)] [bx 1005 .Dice] [] D.Dice kz7 (fun x y=>Qev u x.1)):=fI u .go kz10 eN Tryz.func12
def XT(u:Nat)(a:Int)(b:Int)(c:Int):Option Bool:=cd (b<=a) (cd (a<=c) sT sF) sF
theorem Qde:FO 114 (sB [nI,nI,nI] fun x=>XT u x.1 x.2.1 x.2.2.1):=fI u .go kz0 eN Tryz.func114
def Qam(b:List Int)(g:Int):Option Int:=Qg (X:=((List Int×Int×Int×Int×Unit)×Unit)) (fun h ((c,e,f,a,_),_)=>cd (a<f) (atc c a fun i=>cd (e=i) (some a) (h ((c,e,f,(wrap .i64 (a+1)),()),()))) (some (-1))) u ((b,g,(b.length:Int),0,()),())
theorem QgO:FO 239 (sI [lI,nI] fun x=>Qam u x.1 x.2.1):=fI u (.two .go (lp [(0,lI),ni 1,ni 7,ni 8] [] .go)) kz0 eN Tryz.func239
def Yg(a:List Int)(b:Int):Option Bool:=optc (Qam u a b) fun c=>some (decide (0<=c))
theorem Wi:FO 171 (sB [lI,nI] fun x=>Yg u x.1 x.2.1):=fI u .go kz0 (eC (QgO u) eN) Tryz.func171
def Qfq(f:List Int):Option Bool:=Qg (X:=((List Int×List Int×Int×Int×Unit)×Unit)) (fun k ((a,g,h,b,_),_)=>cd (b<h) (join (Y:=((List Int×List Int×Int×Int×Unit)×Unit)) (fun((l,m,n,o,_),_)=>k ((l,m,n,(wrap .i64 (o+1)),()),())) fun p=>atc g b fun c=>optc (XT u c 1 1099511627776) fun i=>cnd i (natc b fun e=>lec e a.length (optc (Yg u (List.take e a) c) fun j=>cnd j sF (p ((a,g,h,b,()),())))) sF) (some (decide ((a.length:Int)<=256)))) u ((f,f,(f.length:Int),0,()),())
theorem Qnc:FO 115 (sB [lI] fun x=>Qfq u x.1):=fI u (.two .go (lp [(0,lI),(5,lI),ni 6,ni 7] [] (gs 2 (.two (.join [(0,lI),(5,lI),ni 6,ni 7] [] .go) .go)))) kz0 (eC (Qde u) (eC (Wi u) eN)) Tryz.func115
def Qgs(u:Nat)(a:Int):Option Bool:=cd (97<=a) (cd (a<=122) sT sF) sF
theorem Qly:FO 253 (sB [.one (.num .u8)] fun x=>Qgs u x.1):=fI u .go kz0 eN Tryz.func253
def Qkq(u:Nat)(a:Int):Option Bool:=cd (48<=a) (cd (a<=57) sT sF) sF
theorem Qlx:FO 254 (sB [.one (.num .u8)] fun x=>Qkq u x.1):=fI u .go kz0 eN Tryz.func254
def QaV(c:ByteArray):Option Bool:=join (Y:=((ByteArray×Unit)×Unit)) (fun((i,_),_)=>Qg (X:=((ByteArray×Int×Int×Unit)×Unit)) (fun n ((a,e,b,_),_)=>cd (b<e) (join (Y:=((ByteArray×Int×Int×Unit)×Unit)) (fun((o,p,q,_),_)=>n ((o,p,(wrap .i64 (q+1)),()),())) fun g=>natc b fun f=>ltc f (ByteArray.size a) (optc (Qgs u (((bAt a f):Nat):Int)) fun j=>cnd j (g ((a,e,b,()),())) (optc (Qkq u (((bAt a f):Nat):Int)) fun k=>cnd k (g ((a,e,b,()),())) (cd ((((bAt a f):Nat):Int)≠95) (cd ((((bAt a f):Nat):Int)≠45) sF (g ((a,e,b,()),()))) (g ((a,e,b,()),())))))) sT) u ((i,(((ByteArray.size i):Nat):Int),0,()),())) fun l=>cd (c=(ByteArray.mk (List.toArray []))) sF (cd (24<(((ByteArray.size c):Nat):Int)) sF (natc 0 fun h=>ltc h (ByteArray.size c) (optc (Qgs u (((bAt c h):Nat):Int)) fun m=>cnd m (l ((c,()),())) sF)))
theorem Qc8:FO 173 (sB [.one .str] fun x=>QaV u x.1):=fI u (.two .go (.two (.join [(0,.one .str)] [] .go) (lp [(0,.one .str),ni 19,ni 20] [] (gs 2 (.two (.join [(0,.one .str),ni 19,ni 20] [] .go) .go))))) kz0 (eC (Qly u) (eC (Qlx u) eN)) Tryz.func173
def Xa(b:ByteArray)(a:List (ByteArray×Bool)):Option (Int×List (ByteArray×Bool)):=optc (QaV u b) fun c=>cnd (!c) (some (2,a)) (cnd (memB b a) (some (4,a)) (chk (cntB b a) 0 (some (0,(a++[(b,true)])))))
theorem WF:FO 243 (Qd [.one .str,.one (.mref 101)] [(101,.sm)] [nI] [(101,.sm)] [] (Int×List (ByteArray×Bool)) kz19 (fun x y=>Xa u x.1 y.1)):=fI u .go kz21 (eC (Qc8 u) eN) Tryz.func243
def Yk(u:Nat)(a:Int)(b:Int):Option Bool:=cd (0<=a) (cd (a<b) sT sF) sF
theorem X8:FO 315 (sB [nI,nI] fun x=>Yk u x.1 x.2.1):=fI u .go kz0 eN Tryz.func315
def QcW(c:List D.Window):Option Int:=cd (14<(c.length:Int)) (some 5) (Qg (X:=((List D.Window×List D.Window×Int×Int×Unit)×Unit)) (fun j ((e,f,g,b,_),_)=>cd (b<g) (join (Y:=((List D.Window×List D.Window×Int×Int×Unit)×Unit)) (fun((k,l,m,n,_),_)=>j ((k,l,m,(wrap .i64 (n+1)),()),())) fun h=>atc f b fun a=>cd (a.From<0) (some 1) (cd (a.To<=a.From) (some 1) (cd (604800<a.To) (some 1) (cd (0<b) (atc e (wrap .i64 (b - 1)) fun i=>cd (a.From<i.To) (some 6) (h ((e,f,g,b,()),()))) (h ((e,f,g,b,()),())))))) (some 0)) u ((c,c,(c.length:Int),0,()),()))
theorem QhP:FO 316 (sI [.one (.lst .Window)] fun x=>QcW u x.1):=fI u (gs 2 (lp [li 0 .Window,li 8 .Window,ni 9,ni 10] [] (gs 2 (.two (.join [li 0 .Window,li 8 .Window,ni 9,ni 10] [] .go) .go)))) kz0 eN Tryz.func316
def Vx(u:Nat)(a:Int)(b:Int)(c:Int):Option Bool:=cd (b<=a) (cd (a<=c) sT sF) sF
theorem Qdt:FO 347 (sB [nI,nI,nI] fun x=>Vx u x.1 x.2.1 x.2.2.1):=fI u .go kz0 eN Tryz.func347
def QaR(a:Int):Option Bool:=optc (Vx u a 0 604800) fun b=>cnd b (nzc 3600 (cd ((Int.tmod a 3600)=0) sT sF)) sF
theorem Qjb:FO 317 (sB [nI] fun x=>QaR u x.1):=fI u .go kz0 (eC (Qdt u) eN) Tryz.func317
def XX(b:D.Config)(a:D.Person):Option Int:=join (Y:=(Unit×Unit)) (fun(_,_)=>some 0) fun c=>optc (Yk u a.Zone (b.Zones.length:Int)) fun e=>cnd (!e) (some 3) (optc (QcW u a.Quiet) fun f=>cd (f≠0) (some 8) (optc (QaR u a.MaxWeek) fun g=>cnd g (optc (QaR u a.MinRest) fun h=>cnd h (c ((),())) (some 1)) (some 1)))
theorem QdZ:FO 244 (sI [.st .Config,.st .Person] fun x=>XX u x.1 x.2.1):=fI u (.two .go (.two (.join [] [] .go) .go)) kz0 (eC (X8 u) (eC (QhP u) (eC (Qjb u) eN))) Tryz.func244
def Qe0(u:Nat)(a:D.Zone):Option ByteArray:=some a.Name
theorem QhG:FO 241 (Qd [.st .Zone] [] [.one .str] [] [] ByteArray kz1 (fun x y=>Qe0 u x.1)):=fI u .go kz0 eN Tryz.func241
def Qcd(u:Nat)(a:Int)(b:Int)(c:Int):Option Bool:=cd (b<=a) (cd (a<=c) sT sF) sF
theorem Qit:FO 363 (sB [nI,nI,nI] fun x=>Qcd u x.1 x.2.1 x.2.2.1):=fI u .go kz0 eN Tryz.func363
def QpP(a:D.YearRule):Option Int:=join (Y:=(Unit×Unit)) (fun(_,_)=>some 0) fun b=>optc (Qcd u a.From 1970 2240) fun c=>cnd c (optc (Qcd u a.To a.From 2240) fun e=>cnd e (optc (Qcd u a.Month 1 12) fun f=>cnd f (optc (Qcd u a.Week 1 5) fun g=>cnd g (optc (Qcd u a.Weekday 0 6) fun h=>cnd h (optc (Qcd u a.Second 0 86399) fun i=>cnd i (optc (Qcd u a.Offset (-64800) 64800) fun j=>cnd j (b ((),())) (some 1)) (some 1)) (some 1)) (some 1)) (some 1)) (some 1)) (some 1)
theorem QpQ:FO 378 (sI [.st .YearRule] fun x=>QpP u x.1):=fI u (.two .go (.two (.join [] [] .go) .go)) kz0 (eC (Qit u) eN) Tryz.func378
def Ql4(u:Nat)(a:Int):Option Bool:=nzc 4 (cd ((Int.tmod a 4)=0) (nzc 100 (cd ((Int.tmod a 100)≠0) sT (nzc 400 (cd ((Int.tmod a 400)=0) sT sF)))) sF)
theorem QmP:FO 383 (sB [nI] fun x=>Ql4 u x.1):=fI u .go kz0 eN Tryz.func383
def QaU(m:Int)(c:Int):Option Int:=join (Y:=((Int×Int×Unit)×Unit)) (fun((n,e,_),_)=>join (Y:=((Int×Unit)×P12×Unit)) (fun((a,_),(o,p,q,r,s,t,v,f,g,h,i,j,_),_)=>cd ((wrap .i64 (a - 1))=((0:Nat):Int)) (some o) (cd ((wrap .i64 (a - 1))=(((0+1):Nat):Int)) (some p) (cd ((wrap .i64 (a - 1))=((((0+1)+1):Nat):Int)) (some q) (cd ((wrap .i64 (a - 1))=(((((0+1)+1)+1):Nat):Int)) (some r) (cd ((wrap .i64 (a - 1))=((((((0+1)+1)+1)+1):Nat):Int)) (some s) (cd ((wrap .i64 (a - 1))=(((((((0+1)+1)+1)+1)+1):Nat):Int)) (some t) (cd ((wrap .i64 (a - 1))=((((((((0+1)+1)+1)+1)+1)+1):Nat):Int)) (some v) (cd ((wrap .i64 (a - 1))=(((((((((0+1)+1)+1)+1)+1)+1)+1):Nat):Int)) (some f) (cd ((wrap .i64 (a - 1))=((((((((((0+1)+1)+1)+1)+1)+1)+1)+1):Nat):Int)) (some g) (cd ((wrap .i64 (a - 1))=(((((((((((0+1)+1)+1)+1)+1)+1)+1)+1)+1):Nat):Int)) (some h) (cd ((wrap .i64 (a - 1))=((((((((((((0+1)+1)+1)+1)+1)+1)+1)+1)+1)+1):Nat):Int)) (some i) (cd ((wrap .i64 (a - 1))=(((((((((((((0+1)+1)+1)+1)+1)+1)+1)+1)+1)+1)+1):Nat):Int)) (some j) none)))))))))))) fun b=>cd (e=2) (optc (Ql4 u n) fun k=>cnd k (some 29) (b ((e,()),(31,28,31,30,31,30,31,31,30,31,30,31,()),()))) (b ((e,()),(31,28,31,30,31,30,31,31,30,31,30,31,()),()))) fun l=>cd (c<1) (some 0) (cd (12<c) (some 0) (l ((m,c,()),())))
theorem Qay:FO 366 (sI [nI,nI] fun x=>QaU u x.1 x.2.1):=fI u (.two .go (.two (.join [ni 0,ni 1] [] .go) (.two .go (.two (.join [ni 1,rf 5] [(1005,.box [kI,kI,kI,kI,kI,kI,kI,kI,kI,kI,kI,kI])] .go) .go)))) kz0 (eC (QmP u) eN) Tryz.func366
def QjX(a:D.Date):Option Bool:=cd (1970<=a.Year) (cd (a.Year<=2240) (cd (1<=a.Day) (optc (QaU u a.Year a.Month) fun b=>cd (a.Day<=b) sT sF) sF) sF) sF
theorem Qlu:FO 406 (sB [.st .Date] fun x=>QjX u x.1):=fI u .go kz0 (eC (Qay u) eN) Tryz.func406
def Qa6(u:Nat)(b:Int)(a:Int):Option Int:=nzc a (join (Y:=((Int×Unit)×Unit)) (fun((e,_),_)=>some e) fun c=>nzc a (cd ((Int.tmod b a)<0) (c (((wrap .i64 ((wrap .i64 (Int.tdiv b a)) - 1)),()),())) (c (((wrap .i64 (Int.tdiv b a)),()),()))))
theorem Qf4:FO 382 (sI [nI,nI] fun x=>Qa6 u x.1 x.2.1):=fI u (gs 2 (.two (.join [ni 5] [] .go) .go)) kz0 eN Tryz.func382
def Up(a:Int):Option Int:=optc (Qa6 u (wrap .i64 (a - 1)) 4) fun b=>optc (Qa6 u (wrap .i64 (a - 1)) 100) fun c=>optc (Qa6 u (wrap .i64 (a - 1)) 400) fun e=>some (wrap .i64 ((wrap .i64 ((wrap .i64 ((wrap .i64 ((wrap .i64 (365*(wrap .i64 (a - 1970))))+b)) - c))+e)) - 477))
theorem Qb4:FO 364 (sI [nI] fun x=>Up u x.1):=fI u .go kz0 (eC (Qf4 u) eN) Tryz.func364
def QiB(a:D.Date):Option Int:=optc (Up u a.Year) fun f=>Qg (X:=((Int×Int×Unit)×D.Date×Unit)) (fun g ((e,b,_),c,_)=>cd (b<c.Month) (optc (QaU u c.Year b) fun h=>g (((wrap .i64 (e+h)),(wrap .i64 (b+1)),()),c,())) (some e)) u (((wrap .i64 ((wrap .i64 (f+a.Day)) - 1)),1,()),a,())
theorem QjY:FO 407 (sI [.st .Date] fun x=>QiB u x.1):=fI u (gs 2 (lp [rf 1,ni 3,ni 4] [bx 1001 .Date] .go)) kz0 (eC (Qb4 u) (eC (Qay u) eN)) Tryz.func407
def Qoe(b:Int)(c:Int)(e:Int)(f:Int):Option (Int×Int):=join (Y:=(P4×D.Date×Unit)) (fun((m,n,g,h,_),o,_)=>optc (QiB u o) fun a=>optc (Qaz u a) fun i=>nzc 7 (join (Y:=((Int×Unit)×Unit)) (fun((p,_),_)=>some (p,0)) fun j=>optc (QaU u m n) fun q=>cd ((wrap .i64 (a+q))<=(wrap .i64 ((wrap .i64 (a+(Int.tmod (wrap .i64 ((wrap .i64 (h - i))+7)) 7)))+(wrap .i64 (7*(wrap .i64 (g - 1))))))) (j (((wrap .i64 ((wrap .i64 ((wrap .i64 (a+(Int.tmod (wrap .i64 ((wrap .i64 (h - i))+7)) 7)))+(wrap .i64 (7*(wrap .i64 (g - 1)))))) - 7)),()),())) (j (((wrap .i64 ((wrap .i64 (a+(Int.tmod (wrap .i64 ((wrap .i64 (h - i))+7)) 7)))+(wrap .i64 (7*(wrap .i64 (g - 1)))))),()),())))) fun k=>optc (QjX u (D.Date.mk b c 1)) fun l=>cnd l (cd (e<1) (some (0,1)) (cd (5<e) (some (0,1)) (cd (f<0) (some (0,1)) (cd (6<f) (some (0,1)) (k ((b,c,e,f,()),(D.Date.mk b c 1),())))))) (some (0,1))
theorem Qof:FO 379 (Qd [nI,nI,nI,nI] [] [nI,nI] [] [] (Int×Int) kz2 (fun x y=>Qoe u x.1 x.2.1 x.2.2.1 x.2.2.2.1)):=fI u (gs 2 (.two (.join [ni 0,ni 1,ni 2,ni 3,rf 10] [bx 1010 .Date] .go) (gs 2 (.two (.join [ni 12] [] .go) .go)))) kz3 (eC (Qay u) (eC (Qlu u) (eC (QjY u) (eC (QdJ u) eN)))) Tryz.func379
def Qb1(u:Nat)(a:D.occurrence)(b:D.occurrence):Option Int:=some (wrap .i64 (a.local_ - b.local_))
theorem Qfe:FO 381 (sI [.st .occurrence,.st .occurrence] fun x=>Qb1 u x.1 x.2.1):=fI u .go kz0 eN Tryz.func381
def Qw(G:List D.occurrence)(q:Int)(H:Int):Option (List D.occurrence):=Qg (X:=(P3×List D.occurrence×Unit)) (fun I ((J,r,p,_),s,_)=>cd (p<r) (join (Y:=(P3×List D.occurrence×Unit)) (fun((L,O,S,_),W,_)=>I ((L,O,(wrap .i64 (S+1)),()),W,())) fun t=>Qg (X:=(P4×List D.occurrence×Unit)) (fun v ((f,h,i,g,_),b,_)=>join (Y:=(P4×List D.occurrence×Unit)) (fun((w,y,z,c,_),a,_)=>natc (wrap .i64 (c - 1)) fun l=>ltc l a.length (optc a[l]? fun j=>natc c fun m=>ltc m a.length (optc a[m]? fun A=>natc c fun e=>ltc e a.length (optc a[e]? fun Z=>natc (wrap .i64 (c - 1)) fun k=>ltc k (List.set a e j).length (optc (GetElem?.getElem? (List.set a e j) k) fun a0=>v ((w,y,z,(wrap .i64 (c - 1)),()),(List.set (List.set a e j) k A),())))))) fun B=>cd (f<g) (natc g fun n=>ltc n b.length (optc b[n]? fun C=>natc (wrap .i64 (g - 1)) fun o=>ltc o b.length (optc b[o]? fun E=>optc (Qb1 u C E) fun F=>cd (F<0) (B ((f,h,i,g,()),b,())) (t ((f,h,i,()),b,()))))) (t ((f,h,i,()),b,()))) u ((J,r,p,p,()),s,())) (some s)) u ((q,H,(wrap .i64 (q+1)),()),G,())
theorem ZS:FO 428 (Qd [.one (.own 101),nI,nI,.one (.fv 381)] [ar 101 .occurrence] [] [(101,.arrs .occurrence)] [] (List D.occurrence) kz7 (fun x y=>Qw u y.1 x.1 x.2.1)):=fI u (.two .go (.one (.loop [(0,.one (.own 101)),ni 1,ni 2,(3,.one (.fv 381)),ni 8] [ar 101 .occurrence] (.two .go (.two (.join [(0,.one (.own 101)),ni 1,ni 2,(3,.one (.fv 381)),ni 8] [ar 101 .occurrence] (.one (.two .go (.one (.loop [(0,.one (.own 101)),ni 1,ni 2,(3,.one (.fv 381)),ni 8,ni 9] [ar 101 .occurrence] (.two (.join [(0,.one (.own 101)),ni 1,ni 2,(3,.one (.fv 381)),ni 8,ni 9] [ar 101 .occurrence] .go) .go)))))) .go))))) kz10 (eC (Qfe u) eN) Tryz.func428
def Zf(q:List D.occurrence)(r:Int):Option (List D.occurrence):=Qg (X:=(P4×List D.occurrence×Unit)) (fun s ((c,i,j,e,_),f,_)=>cd (e<=c) (optc (Qw u f j e) fun k=>chk k.length f.length (s ((c,i,e,(wrap .i64 (e+i)),()),k,()))) (optc (Qw u f j c) fun l=>chk l.length f.length (Qg (X:=((Int×Int×Unit)×List D.occurrence×Unit)) (fun t ((m,a,_),g,_)=>cd (a<m) (Qg (X:=(P4×List D.occurrence×Unit)) (fun v ((b,h,n,o,_),p,_)=>cd (o<=b) none (cd ((wrap .i64 (n+h))<b) none (t ((b,(wrap .i64 (h*2)),()),p,())))) u ((m,a,0,(wrap .i64 (2*a)),()),g,())) (some g)) u ((c,i,()),l,())))) u ((r,20,0,20,()),q,())
theorem Yr:FO 409 (Qd [.one (.own 101),nI,.one (.fv 381)] [ar 101 .occurrence] [] [(101,.arrs .occurrence)] [] (List D.occurrence) kz7 (fun x y=>Zf u y.1 x.1)):=fI u (gs 2 (.two (.one (.loop [(0,.one (.own 101)),ni 1,(2,.one (.fv 381)),ni 6,ni 7,ni 8] [ar 101 .occurrence] .go)) (.two .go (.one (.loop [(0,.one (.own 101)),ni 1,(2,.one (.fv 381)),ni 6] [ar 101 .occurrence] (.two .go (.one (.two .go (.two (.one (.loop [(0,.one (.own 101)),ni 1,(2,.one (.fv 381)),ni 6,ni 7,ni 8] [ar 101 .occurrence] .go)) .go))))))))) kz10 (eC (ZS u) eN) Tryz.func409
def Zc(a:List D.occurrence):Option (List D.occurrence):=optc (Zf u a (a.length:Int)) fun b=>chk b.length a.length (some b)
theorem Yl:FO 380 (Qd [.one (.own 101),.one (.fv 381)] [ar 101 .occurrence] [] [(101,.arrs .occurrence)] [] (List D.occurrence) kz7 (fun x y=>Zc u y.1)):=fI u .go kz10 (eC (Yr u) eN) Tryz.func380
def QdS(b:D.Zone):Option (List D.occurrence×Int):=optc (Qcd u b.Offset (-64800) 64800) fun z=>cnd (!z) (some ([],1)) (cd (16<(b.Rules.length:Int)) (some ([],5)) (Qg (X:=((Int×List D.YearRule×Int×Int×Unit)×D.Zone×Unit)) (fun A ((s,t,v,p,_),q,_)=>cd (p<v) (atc t p fun r=>optc (QpP u r) fun w=>cd (w≠0) (some ([],w)) (A (((wrap .i64 (s+(wrap .i64 ((wrap .i64 (r.To - r.From))+1)))),t,v,(wrap .i64 (p+1)),()),q,()))) (cd (640<s) (some ([],5)) (Qg (X:=((List D.YearRule×Int×Int×Unit)×List D.occurrence×Unit)) (fun B ((h,i,c,_),e,_)=>cd (c<i) (atc h c fun j=>Qg (X:=((Int×List D.YearRule×Int×Int×Unit)×D.YearRule×List D.occurrence×Unit)) (fun y ((f,k,l,m,_),a,g,_)=>cd (f<=a.To) (optc (Qoe u f a.Month a.Week a.Weekday) fun(n,C)=>lec (g.length+[(D.occurrence.mk (wrap .i64 ((wrap .i64 (n*86400))+a.Second)) a.Offset)].length) 34359738368 (y (((wrap .i64 (f+1)),k,l,m,()),a,(g++[(D.occurrence.mk (wrap .i64 ((wrap .i64 (n*86400))+a.Second)) a.Offset)]),()))) (B ((k,l,(wrap .i64 (m+1)),()),g,()))) u ((j.From,h,i,c,()),j,e,())) (optc (Zc u e) fun o=>chk o.length e.length (some (o,0)))) u ((q.Rules,(q.Rules.length:Int),0,()),[],())))) u ((0,b.Rules,(b.Rules.length:Int),0,()),b,())))
theorem QgX:FO 362 (Qd [.st .Zone] [] [.one (.lst .occurrence),nI] [] [] (List D.occurrence×Int) kz2 (fun x y=>QdS u x.1)):=fI u (gs 4 (.two (.two .go (.one (.loop [rf 1,ni 4,li 23 .YearRule,ni 24,ni 25] [bx 1001 .Zone] .go))) (gs 2 (lp [(8,.one (.own 1081)),li 46 .YearRule,ni 47,ni 48] [ar 1081 .occurrence] (gs 2 (.two (.one (gs 2 (.one (.loop [(8,.one (.own 1081)),rf 10,ni 11,li 46 .YearRule,ni 47,ni 48] [bx 1010 .YearRule,ar 1081 .occurrence] .go)))) .go)))))) kz3 (eC (Qit u) (eC (QpQ u) (eC (Qof u) (eC (Yl u) eN)))) Tryz.func362
def Qao(n:D.Zone):Option (List D.Transition×Int):=optc (QdS u n) fun(o,p)=>cd (p≠0) (some ([],p)) (Qg (X:=((Int×List D.occurrence×Int×Int×Unit)×List D.Transition×Unit)) (fun A ((b,g,h,e,_),c,_)=>cd (e<h) (join (Y:=((Int×List D.occurrence×Int×Int×Unit)×List D.Transition×Unit)) (fun((B,C,q,r,_),s,_)=>A ((B,C,q,(wrap .i64 (r+1)),()),s,())) fun i=>atc g e fun a=>cd (a.offset=b) (i ((b,g,h,e,()),c,())) (join (Y:=((Int×List D.occurrence×Int×Int×Unit)×D.occurrence×List D.Transition×Unit)) (fun((j,t,v,w,_),f,k,_)=>lec (k.length+[(D.Transition.mk j f.offset)].length) 34359738368 (i ((f.offset,t,v,w,()),(k++[(D.Transition.mk j f.offset)]),()))) fun l=>cd (86400<=(wrap .i64 (a.offset - b))) (some ([],6)) (cd ((wrap .i64 (a.offset - b))<=(-86400)) (some ([],6)) (optc (Qcd u (wrap .i64 (a.local_ - b)) 0 8589934592) fun y=>cnd y (cd (0<(c.length:Int)) (natc (wrap .i64 ((c.length:Int) - 1)) fun m=>ltc m c.length (optc c[m]? fun z=>cd ((wrap .i64 (a.local_ - b))<(wrap .i64 (z.At+604800))) (some ([],6)) (l (((wrap .i64 (a.local_ - b)),g,h,e,()),a,c,())))) (l (((wrap .i64 (a.local_ - b)),g,h,e,()),a,c,()))) (some ([],6)))))) (some (c,0))) u ((n.Offset,o,(o.length:Int),0,()),[],()))
theorem Qbt:FO 345 (Qd [.st .Zone] [] [.one (.lst .Transition),nI] [] [] (List D.Transition×Int) kz2 (fun x y=>Qao u x.1)):=fI u (gs 5 (lp [(6,.one (.own 1074)),ni 7,li 22 .occurrence,ni 23,ni 24] [ar 1074 .Transition] (gs 2 (.two (.join [(6,.one (.own 1074)),ni 7,li 22 .occurrence,ni 23,ni 24] [ar 1074 .Transition] (.one (gs 3 (.two (.join [(6,.one (.own 1074)),rf 9,ni 10,li 22 .occurrence,ni 23,ni 24] [bx 1009 .occurrence,ar 1074 .Transition] .go) .go)))) .go)))) kz3 (eC (QgX u) (eC (Qit u) eN)) Tryz.func345
def QmD(a:D.Zone):Option Int:=optc (Qao u a) fun(c,b)=>some b
theorem QnW:FO 312 (sI [.st .Zone] fun x=>QmD u x.1):=fI u .go kz0 (eC (Qbt u) eN) Tryz.func312
def Qbm(u:Nat)(a:D.YearRule):Option Bool:=nzc 60 (some (decide ((Int.tmod a.Offset 60)≠0)))
theorem Qd0:FO 314 (sB [.st .YearRule] fun x=>Qbm u x.1):=fI u .go kz0 eN Tryz.func314
def ZF(b:List D.YearRule):Option Int:=Qg (X:=((List D.YearRule×Int×Int×Unit)×Unit)) (fun f ((c,e,a,_),_)=>cd (a<e) (atc c a fun g=>optc (Qbm u g) fun h=>cnd h (some a) (f ((c,e,(wrap .i64 (a+1)),()),()))) (some (-1))) u ((b,(b.length:Int),0,()),())
theorem YZ:FO 346 (sI [.one (.lst .YearRule),.one (.fv 314)] fun x=>ZF u x.1):=fI u (.two .go (lp [li 0 .YearRule,(1,.one (.fv 314)),ni 7,ni 8] [] .go)) kz0 (eC (Qd0 u) eN) Tryz.func346
def Zq(a:List D.YearRule):Option Bool:=optc (ZF u a) fun b=>some (decide (0<=b))
theorem YI:FO 313 (sB [.one (.lst .YearRule),.one (.fv 314)] fun x=>Zq u x.1):=fI u .go kz0 (eC (YZ u) eN) Tryz.func313
def QcH(a:D.Zone):Option Int:=join (Y:=(Unit×Unit)) (fun(_,_)=>some 0) fun b=>optc (QmD u a) fun c=>cd (c≠0) (some 8) (nzc 60 (cd ((Int.tmod a.Offset 60)≠0) (some 8) (optc (Zq u a.Rules) fun e=>cnd e (some 8) (b ((),())))))
theorem QfW:FO 242 (sI [.st .Zone] fun x=>QcH u x.1):=fI u (.two .go (.two (.join [] [] .go) .go)) kz0 (eC (QnW u) (eC (YI u) eN)) Tryz.func242
def QC(b:List D.Zone):Option Int:=Qg (X:=((List D.Zone×Int×Int×Unit)×List ((ByteArray×Bool))×Unit)) (fun i ((c,e,a,_),j,_)=>cd (a<e) (atc c a fun f=>optc (Qe0 u f) fun k=>optc (Xa u k j) fun(g,l)=>cd (g≠0) (some g) (optc (QcH u f) fun h=>cd (h≠0) (some h) (i ((c,e,(wrap .i64 (a+1)),()),l,())))) (some 0)) u ((b,(b.length:Int),0,()),[],())
theorem Yf:FO 240 (sI [.one (.lst .Zone),.one (.fv 241),.one (.fv 242)] fun x=>QC u x.1):=fI u (gs 2 (lp [(1,.one (.fv 241)),(2,.one (.fv 242)),(7,.one (.mref 1012)),li 13 .Zone,ni 14,ni 15] [(1012,.sm)] .go)) kz0 (eC (QhG u) (eC (QfW u) (eC (WF u) eN))) Tryz.func240
def Qe1(u:Nat)(a:D.Calendar):Option ByteArray:=some a.Name
theorem QhH:FO 246 (Qd [.st .Calendar] [] [.one .str] [] [] ByteArray kz1 (fun x y=>Qe1 u x.1)):=fI u .go kz0 eN Tryz.func246
def Ql5(b:Int):Option Int:=optc (Qa6 u b 366) fun e=>Qg (X:=((Int×Int×Unit)×Unit)) (fun f ((c,a,_),_)=>optc (Up u (wrap .i64 (a+1))) fun g=>cd (g<=c) (f ((c,(wrap .i64 (a+1)),()),())) (some a)) u ((b,(wrap .i64 (1970+e)),()),())
theorem QmQ:FO 365 (sI [nI] fun x=>Ql5 u x.1):=fI u (gs 2 (.two (.one (.loop [ni 0,ni 3] [] .go)) .go)) kz0 (eC (Qb4 u) (eC (Qf4 u) eN)) Tryz.func365
def QiA(b:Int):Option (D.Date×Int):=join (Y:=((Int×Unit)×D.Date×Unit)) (fun((e,_),j,_)=>optc (Ql5 u e) fun f=>optc (Up u f) fun k=>Qg (X:=((Int×Unit)×D.Date×D.Date×Unit)) (fun l ((c,_),m,a,_)=>optc (QaU u a.Year a.Month) fun n=>cd (n<=c) (optc (QaU u a.Year a.Month) fun o=>l (((wrap .i64 (c - o)),()),m,(D.Date.mk a.Year (wrap .i64 (a.Month+1)) a.Day),())) (some ((D.Date.mk a.Year a.Month (wrap .i64 (c+1))),0))) u (((wrap .i64 (e - k)),()),j,(D.Date.mk f 1 0),())) fun g=>optc (Up u 1970) fun h=>cd (b<h) (some ((D.Date.mk 0 0 0),1)) (optc (Up u 2241) fun i=>cd (i<=b) (some ((D.Date.mk 0 0 0),1)) (g ((b,()),(D.Date.mk 0 0 0),())))
theorem QjW:FO 348 (Qd [nI] [] [.st .Date,nI] [] [] (D.Date×Int) kz2 (fun x y=>QiA u x.1)):=fI u (.two .go (.two (.join [ni 0,rf 2] [bx 1002 .Date] .go) (gs 2 (.two (.one (.loop [rf 2,rf 4,ni 5] [bx 1002 .Date,bx 1004 .Date] .go)) .go)))) kz3 (eC (Qb4 u) (eC (QmQ u) (eC (Qay u) eN))) Tryz.func348
def Xn(a:Int):Option Bool:=optc (QiA u a) fun(c,b)=>some (decide (b=0))
theorem Qcb:FO 319 (sB [nI] fun x=>Xn u x.1):=fI u .go kz0 (eC (QjW u) eN) Tryz.func319
def V8(a:Int):Option Bool:=optc (Xn u a) fun b=>some (!b)
theorem Qbw:FO 318 (sB [nI] fun x=>V8 u x.1):=fI u .go kz0 (eC (Qcb u) eN) Tryz.func318
def ZM(b:List Int):Option Int:=Qg (X:=((List Int×Int×Int×Unit)×Unit)) (fun f ((c,e,a,_),_)=>cd (a<e) (atc c a fun g=>optc (V8 u g) fun h=>cnd h (some a) (f ((c,e,(wrap .i64 (a+1)),()),()))) (some (-1))) u ((b,(b.length:Int),0,()),())
theorem Y3:FO 341 (sI [lI,.one (.fv 318)] fun x=>ZM u x.1):=fI u (.two .go (lp [(0,lI),(1,.one (.fv 318)),ni 7,ni 8] [] .go)) kz0 (eC (Qbw u) eN) Tryz.func341
def Zz(a:List Int):Option Bool:=optc (ZM u a) fun b=>some (decide (0<=b))
theorem YL:FO 307 (sB [lI,.one (.fv 318)] fun x=>Zz u x.1):=fI u .go kz0 (eC (Y3 u) eN) Tryz.func307
def U8(i:D.Config)(b:D.Calendar):Option Int:=optc (Yk u b.Zone (i.Zones.length:Int)) fun j=>cnd (!j) (some 3) (cd (64<(b.Days.length:Int)) (some 5) (optc (Zz u b.Days) fun k=>cnd k (some 1) (Qg (X:=((Int×Int×Unit)×D.Calendar×Unit)) (fun l ((e,a,_),c,_)=>cd (a<e) (join (Y:=((Int×Int×Unit)×D.Calendar×Unit)) (fun((m,n,_),o,_)=>l ((m,(wrap .i64 (n+1)),()),o,())) fun f=>cd (0<a) (atc c.Days a fun g=>atc c.Days (wrap .i64 (a - 1)) fun h=>cd (g<=h) (some 6) (f ((e,a,()),c,()))) (f ((e,a,()),c,()))) (some 0)) u (((b.Days.length:Int),0,()),b,()))))
theorem QcF:FO 248 (sI [.st .Config,.st .Calendar] fun x=>U8 u x.1 x.2.1):=fI u (gs 2 (lp [rf 3,ni 25,ni 26] [bx 1003 .Calendar] (gs 2 (.two (.join [rf 3,ni 25,ni 26] [bx 1003 .Calendar] .go) .go)))) kz0 (eC (YL u) (eC (X8 u) eN)) Tryz.func248
def Qe2(b:D.Calendar)(a:D.Config):Option Int:=optc (U8 u a b) fun c=>sameC a a (some c)
theorem QhI:FO 247 (Qd [.st .Calendar,.one (.ref 101)] [bx 101 .Config] [nI] [] [101] Int kz1 (fun x y=>Qe2 u x.1 y.1)):=fI u .go kz0 (eC (QcF u) eN) Tryz.func247
def Qo(e:List D.Calendar)(c101:D.Config):Option Int:=Qg (X:=((List D.Calendar×Int×Int×Unit)×D.Config×List ((ByteArray×Bool))×Unit)) (fun j ((f,g,c,_),a,k,_)=>cd (c<g) (atc f c fun h=>optc (Qe1 u h) fun l=>optc (Xa u l k) fun(i,m)=>cd (i≠0) (sameC a c101 (some i)) (optc (Qe2 u h a) fun b=>cd (b≠0) (sameC a c101 (some b)) (j ((f,g,(wrap .i64 (c+1)),()),a,m,())))) (sameC a c101 (some 0))) u ((e,(e.length:Int),0,()),c101,[],())
theorem Z7:FO 245 (Qd [.one (.lst .Calendar),.one (.fv 246),.one (.clo 247 [101])] [bx 101 .Config] [nI] [] [101] Int kz1 (fun x y=>Qo u x.1 y.1)):=fI u (gs 2 (lp [(1,.one (.fv 246)),(2,.one (.clo 247 [101])),(7,.one (.mref 1012)),li 13 .Calendar,ni 14,ni 15] [bx 101 .Config,(1012,.sm)] .go)) kz0 (eC (WF u) (eC (QhH u) (eC (QhI u) eN))) Tryz.func245
def V6(u:Nat)(a:D.Schedule):Option ByteArray:=some a.Name
theorem QhJ:FO 250 (Qd [.st .Schedule] [] [.one .str] [] [] ByteArray kz1 (fun x y=>V6 u x.1)):=fI u .go kz0 eN Tryz.func250
def Z0(u:Nat)(a:D.Layer):Option ByteArray:=some a.Name
theorem Qbx:FO 321 (Qd [.st .Layer] [] [.one .str] [] [] ByteArray kz1 (fun x y=>Z0 u x.1)):=fI u .go kz0 eN Tryz.func321
def Xu(b:Int)(a:D.Config):Option Bool:=optc (Yk u b (a.People.length:Int)) fun c=>sameC a a (some (!c))
theorem Qds:FO 349 (Qd [nI,.one (.ref 101)] [bx 101 .Config] [.one .boo] [] [101] Bool kz1 (fun x y=>Xu u x.1 y.1)):=fI u .go kz0 (eC (X8 u) eN) Tryz.func349
def QH(c:List Int)(c101:D.Config):Option Int:=Qg (X:=((List Int×Int×Int×Unit)×D.Config×Unit)) (fun g ((e,f,a,_),b,_)=>cd (a<f) (atc e a fun h=>optc (Xu u h b) fun i=>cnd i (sameC b c101 (some a)) (g ((e,f,(wrap .i64 (a+1)),()),b,()))) (sameC b c101 (some (-1)))) u ((c,(c.length:Int),0,()),c101,())
theorem Xr:FO 341 (Qd [lI,.one (.clo 349 [101])] [bx 101 .Config] [nI] [] [101] Int kz1 (fun x y=>QH u x.1 y.1)):=fI u (.two .go (lp [(0,lI),(1,.one (.clo 349 [101])),ni 7,ni 8] [bx 101 .Config] .go)) kz0 (eC (Qds u) eN) Tryz.func341
def QB(a:List Int)(c101:D.Config):Option Bool:=optc (QH u a c101) fun b=>sameC c101 c101 (some (decide (0<=b)))
theorem Y1:FO 307 (Qd [lI,.one (.clo 349 [101])] [bx 101 .Config] [.one .boo] [] [101] Bool kz1 (fun x y=>QB u x.1 y.1)):=fI u .go kz0 (eC (Xr u) eN) Tryz.func307
def Wm(c:D.Config)(a:D.Layer):Option Int:=join (Y:=(Unit×Unit)) (fun(_,_)=>some 0) fun b=>optc (Yk u a.Zone (c.Zones.length:Int)) fun e=>cnd (!e) (some 3) (cd (a.Start.Day<1) (some 1) (optc (Xn u a.Start.Day) fun f=>cnd f (optc (Vx u a.Start.Second 0 86399) fun g=>cnd g (optc (Vx u a.Unit 0 2) fun h=>cnd h (optc (Vx u a.Every 1 400) fun i=>cnd i (cd ((a.Members.length:Int)=0) (some 7) (cd (12<(a.Members.length:Int)) (some 5) (optc (QB u a.Members c) fun j=>cnd j (some 3) (optc (QcW u a.Windows) fun k=>cd (k≠0) (some 8) (optc (Vx u a.Mode 0 2) fun l=>cnd (!l) (some 1) (cd (a.Mode≠0) (optc (Yk u a.Calendar (c.Calendars.length:Int)) fun m=>cnd m (cd (a.Mode=0) (cd (a.Calendar≠0) (some 1) (b ((),()))) (b ((),()))) (some 3)) (cd (a.Mode=0) (cd (a.Calendar≠0) (some 1) (b ((),()))) (b ((),()))))))))) (some 1)) (some 1)) (some 1)) (some 1)))
theorem Qe3:FO 323 (sI [.st .Config,.st .Layer] fun x=>Wm u x.1 x.2.1):=fI u (.two .go (.two (.join [] [] .go) .go)) kz0 (eC (Y1 u) (eC (X8 u) (eC (QhP u) (eC (Qcb u) (eC (Qdt u) eN))))) Tryz.func323
def Z1(b:D.Layer)(a:D.Config):Option Int:=optc (Wm u a b) fun c=>sameC a a (some c)
theorem Qby:FO 322 (Qd [.st .Layer,.one (.ref 101)] [bx 101 .Config] [nI] [] [101] Int kz1 (fun x y=>Z1 u x.1 y.1)):=fI u .go kz0 (eC (Qe3 u) eN) Tryz.func322
def Qj(e:List D.Layer)(c101:D.Config):Option Int:=Qg (X:=((List D.Layer×Int×Int×Unit)×D.Config×List ((ByteArray×Bool))×Unit)) (fun j ((f,g,c,_),a,k,_)=>cd (c<g) (atc f c fun h=>optc (Z0 u h) fun l=>optc (Xa u l k) fun(i,m)=>cd (i≠0) (sameC a c101 (some i)) (optc (Z1 u h a) fun b=>cd (b≠0) (sameC a c101 (some b)) (j ((f,g,(wrap .i64 (c+1)),()),a,m,())))) (sameC a c101 (some 0))) u ((e,(e.length:Int),0,()),c101,[],())
theorem Zp:FO 320 (Qd [.one (.lst .Layer),.one (.fv 321),.one (.clo 322 [101])] [bx 101 .Config] [nI] [] [101] Int kz1 (fun x y=>Qj u x.1 y.1)):=fI u (gs 2 (lp [(1,.one (.fv 321)),(2,.one (.clo 322 [101])),(7,.one (.mref 1012)),li 13 .Layer,ni 14,ni 15] [bx 101 .Config,(1012,.sm)] .go)) kz0 (eC (WF u) (eC (Qbx u) (eC (Qby u) eN))) Tryz.func320
def WL(f:D.Config)(b:D.Edit):Option Int:=join (Y:=(Unit×Unit)) (fun(_,_)=>some 0) fun e=>optc (Vx u b.Kind 0 2) fun i=>cnd (!i) (some 1) (join (Y:=((Bool×Unit)×D.Edit×Unit)) (fun((j,_),a,_)=>cnd j (some 3) (cd (a.Kind≠2) (cd (a.B≠0) (some 1) (cd (a.Kind=2) (cd (a.A=a.B) (some 4) (cd (a.From<0) (some 1) (cd (a.To<0) (some 1) (nzc 86400 (optc (Xn u (wrap .i64 (Int.tdiv a.To 86400))) fun k=>cnd k (cd (a.To<=a.From) (some 6) (e ((),()))) (some 1)))))) (cd (a.From<0) (some 1) (cd (a.To<0) (some 1) (nzc 86400 (optc (Xn u (wrap .i64 (Int.tdiv a.To 86400))) fun l=>cnd l (cd (a.To<=a.From) (some 6) (e ((),()))) (some 1))))))) (cd (a.Kind=2) (cd (a.A=a.B) (some 4) (cd (a.From<0) (some 1) (cd (a.To<0) (some 1) (nzc 86400 (optc (Xn u (wrap .i64 (Int.tdiv a.To 86400))) fun m=>cnd m (cd (a.To<=a.From) (some 6) (e ((),()))) (some 1)))))) (cd (a.From<0) (some 1) (cd (a.To<0) (some 1) (nzc 86400 (optc (Xn u (wrap .i64 (Int.tdiv a.To 86400))) fun n=>cnd n (cd (a.To<=a.From) (some 6) (e ((),()))) (some 1)))))))) fun c=>optc (Yk u b.A (f.People.length:Int)) fun o=>cnd o (cd (b.Kind=2) (optc (Yk u b.B (f.People.length:Int)) fun g=>cnd g (c ((false,()),b,())) (c ((true,()),b,()))) (c ((false,()),b,()))) (cd (b.Kind=1) (cd (b.A=(-1)) (cd (b.Kind=2) (optc (Yk u b.B (f.People.length:Int)) fun h=>cnd h (c ((false,()),b,())) (c ((true,()),b,()))) (c ((false,()),b,()))) (c ((true,()),b,()))) (c ((true,()),b,()))))
theorem QfV:FO 324 (sI [.st .Config,.st .Edit] fun x=>WL u x.1 x.2.1):=fI u (gs 2 (.two (.join [] [] (.one (gs 2 (.two (.join [rf 3,(14,.one .boo)] [bx 1003 .Edit] .go) .go)))) .go)) kz0 (eC (X8 u) (eC (Qcb u) (eC (Qdt u) eN))) Tryz.func324
def Y9(l:D.Config)(a:D.Schedule):Option Int:=join (Y:=(Unit×D.Config×D.Schedule×Unit)) (fun(_,e,b,_)=>optc (Qj u b.Layers e) fun f=>cd (f≠0) (some f) (Qg (X:=((List D.Edit×Int×Int×Unit)×D.Config×Unit)) (fun m ((g,h,c,_),i,_)=>cd (c<h) (atc g c fun n=>optc (WL u i n) fun j=>cd (j≠0) (some j) (m ((g,h,(wrap .i64 (c+1)),()),i,()))) (some 0)) u ((b.Edits,(b.Edits.length:Int),0,()),e,()))) fun k=>cd (6<(a.Layers.length:Int)) (some 5) (cd (48<(a.Edits.length:Int)) (some 5) (k ((),l,a,())))
theorem QcG:FO 252 (sI [.st .Config,.st .Schedule] fun x=>Y9 u x.1 x.2.1):=fI u (.two .go (.two (.join [rf 2,rf 3] [bx 1002 .Config,bx 1003 .Schedule] .go) (gs 2 (lp [rf 2,li 27 .Edit,ni 28,ni 29] [bx 1002 .Config] .go)))) kz0 (eC (Zp u) (eC (QfV u) eN)) Tryz.func252
def V7(b:D.Schedule)(a:D.Config):Option Int:=optc (Y9 u a b) fun c=>sameC a a (some c)
theorem QhK:FO 251 (Qd [.st .Schedule,.one (.ref 101)] [bx 101 .Config] [nI] [] [101] Int kz1 (fun x y=>V7 u x.1 y.1)):=fI u .go kz0 (eC (QcG u) eN) Tryz.func251
def Qp(e:List D.Schedule)(c101:D.Config):Option Int:=Qg (X:=((List D.Schedule×Int×Int×Unit)×D.Config×List ((ByteArray×Bool))×Unit)) (fun j ((f,g,c,_),a,k,_)=>cd (c<g) (atc f c fun h=>optc (V6 u h) fun l=>optc (Xa u l k) fun(i,m)=>cd (i≠0) (sameC a c101 (some i)) (optc (V7 u h a) fun b=>cd (b≠0) (sameC a c101 (some b)) (j ((f,g,(wrap .i64 (c+1)),()),a,m,())))) (sameC a c101 (some 0))) u ((e,(e.length:Int),0,()),c101,[],())
theorem Z8:FO 249 (Qd [.one (.lst .Schedule),.one (.fv 250),.one (.clo 251 [101])] [bx 101 .Config] [nI] [] [101] Int kz1 (fun x y=>Qp u x.1 y.1)):=fI u (gs 2 (lp [(1,.one (.fv 250)),(2,.one (.clo 251 [101])),(7,.one (.mref 1012)),li 13 .Schedule,ni 14,ni 15] [bx 101 .Config,(1012,.sm)] .go)) kz0 (eC (WF u) (eC (QhJ u) (eC (QhK u) eN))) Tryz.func249
def WK(b:D.Config):Option Int:=join (Y:=(Unit×D.Config×Unit)) (fun(_,e,_)=>optc (QC u e.Zones) fun t=>cd (t≠0) (some t) (Qg (X:=((List D.Person×Int×Int×Unit)×D.Config×List ((ByteArray×Bool))×Unit)) (fun G ((r,s,f,_),a,H,_)=>cd (f<s) (atc r f fun g=>optc (Xa u g.Name H) fun(I,h)=>join (Y:=((Int×List D.Person×Int×Int×Unit)×D.Config×D.Person×List ((ByteArray×Bool))×Unit)) (fun((i,j,k,l,_),c,v,m,_)=>join (Y:=((Int×List D.Person×Int×Int×Unit)×D.Config×List ((ByteArray×Bool))×Unit)) (fun((n,w,y,z,_),A,B,_)=>cd (n≠0) (some n) (G ((w,y,(wrap .i64 (z+1)),()),A,B,()))) fun o=>cd (i=0) (optc (XX u c v) fun C=>o ((C,j,k,l,()),c,m,())) (o ((i,j,k,l,()),c,m,()))) fun p=>cd (g.Name=(ByteArray.mk (List.toArray [110,111,98,111,100,121]))) (p ((2,r,s,f,()),a,g,h,())) (p ((I,r,s,f,()),a,g,h,()))) (optc (Qo u a.Calendars a) fun q=>cd (q≠0) (some q) (optc (Qp u a.Schedules a) fun E=>some E))) u ((e.People,(e.People.length:Int),0,()),e,[],()))) fun F=>cd (16<(b.Zones.length:Int)) (some 5) (cd (32<(b.People.length:Int)) (some 5) (cd (8<(b.Calendars.length:Int)) (some 5) (cd (12<(b.Schedules.length:Int)) (some 5) (F ((),b,())))))
theorem Qak:FO 172 (sI [.st .Config] fun x=>WK u x.1):=fI u (.two .go (.two (.join [rf 1] [bx 1001 .Config] .go) (gs 2 (lp [rf 1,(4,.one (.mref 1037)),li 39 .Person,ni 40,ni 41] [bx 1001 .Config,(1037,.sm)] (gs 2 (.two (.one (gs 2 (.two (.join [rf 1,(4,.one (.mref 1037)),rf 6,ni 7,li 39 .Person,ni 40,ni 41] [bx 1001 .Config,bx 1006 .Person,(1037,.sm)] .go) (.two (.join [rf 1,(4,.one (.mref 1037)),ni 7,li 39 .Person,ni 40,ni 41] [bx 1001 .Config,(1037,.sm)] .go) .go)))) .go)))))) kz0 (eC (Yf u) (eC (WF u) (eC (QdZ u) (eC (Z7 u) (eC (Z8 u) eN))))) Tryz.func172
def Yo(u:Nat)(a:Int)(b:Int)(c:Int):Option Bool:=cd (b<=a) (cd (a<=c) sT sF) sF
theorem WB:FO 255 (sB [nI,nI,nI] fun x=>Yo u x.1 x.2.1 x.2.2.1):=fI u .go kz0 eN Tryz.func255
def Qfv(g:D.Config)(e:List Int):Option Int:=cd ((e.length:Int)=0) (some 7) (Qg (X:=((List Int×Int×Unit)×D.Config×Unit)) (fun h ((a,b,_),c,_)=>cd (b<(a.length:Int)) (atc a b fun i=>atc a (wrap .i64 (b - 1)) fun j=>cd (i<=j) (some 6) (h ((a,(wrap .i64 (b+1)),()),c,()))) (join (Y:=(Unit×Unit)) (fun(_,_)=>some 0) fun k=>atc a 0 fun l=>optc (Yo u l 0 (wrap .i64 ((c.People.length:Int) - 1))) fun m=>cnd m (atc a (wrap .i64 ((a.length:Int) - 1)) fun n=>optc (Yo u n 0 (wrap .i64 ((c.People.length:Int) - 1))) fun f=>cnd f (k ((),())) (some 3)) (some 3))) u ((e,1,()),g,()))
theorem Qng:FO 176 (sI [.st .Config,lI] fun x=>Qfv u x.1 x.2.1):=fI u (gs 2 (.two (.two .go (.one (.loop [(1,lI),rf 2,ni 5] [bx 1002 .Config] .go))) (.two (.join [] [] .go) .go))) kz0 (eC (WB u) eN) Tryz.func176
def WC(u:Nat)(a:D.Config)(b:D.Book):Option D.Arr3Int:=some (D.Arr3Int.mk (a.People.length:Int) (a.Schedules.length:Int) (b.Teams.length:Int))
theorem QeF:FO 325 (Qd [.st .Config,.st .Book] [] [.st .Arr3Int] [] [] D.Arr3Int kz1 (fun x y=>WC u x.1 x.2.1)):=fI u .go kz0 eN Tryz.func325
def Qdh(v:D.Config)(w:D.Book)(e:D.PolicyStep):Option Int:=optc (Yo u e.Wait 0 86400) fun y=>cnd (!y) (some 1) (cd (6<(e.Targets.length:Int)) (some 5) (optc (WC u v w) fun k=>Qg (X:=((List D.Target×Int×Int×Unit)×P3×Unit)) (fun z ((f,g,b,_),(h,i,j,_),_)=>cd (b<g) (join (Y:=((List D.Target×Int×Int×Unit)×P3×Unit)) (fun((A,l,m,_),(n,o,p,_),_)=>z ((A,l,(wrap .i64 (m+1)),()),(n,o,p,()),())) fun c=>atc f b fun a=>optc (Yo u a.Kind 0 2) fun q=>cnd q (cd (a.Kind=((0:Nat):Int)) (optc (Yo u a.Index 0 (wrap .i64 (h - 1))) fun r=>cnd r (c ((f,g,b,()),(h,i,j,()),())) (some 3)) (cd (a.Kind=(((0+1):Nat):Int)) (optc (Yo u a.Index 0 (wrap .i64 (i - 1))) fun s=>cnd s (c ((f,g,b,()),(h,i,j,()),())) (some 3)) (cd (a.Kind=((((0+1)+1):Nat):Int)) (optc (Yo u a.Index 0 (wrap .i64 (j - 1))) fun t=>cnd t (c ((f,g,b,()),(h,i,j,()),())) (some 3)) none))) (some 3)) (some 0)) u ((e.Targets,(e.Targets.length:Int),0,()),(k.a0,k.a1,k.a2,()),())))
theorem QlJ:FO 257 (sI [.st .Config,.st .Book,.st .PolicyStep] fun x=>Qdh u x.1 x.2.1 x.2.2.1):=fI u (gs 4 (lp [rf 7,li 22 .Target,ni 23,ni 24] [(1007,.box [kI,kI,kI])] (gs 2 (.two (.join [rf 7,li 22 .Target,ni 23,ni 24] [(1007,.box [kI,kI,kI])] .go) .go)))) kz0 (eC (WB u) (eC (QeF u) eN)) Tryz.func257
def Vf(u:Nat)(b:Int)(a:D.Book):Option ByteArray:=atc a.Policies b fun c=>sameC a a (some c.Name)
theorem Qid:FO 256 (Qd [nI,.one (.ref 101)] [bx 101 .Book] [.one .str] [] [101] ByteArray kz1 (fun x y=>Vf u x.1 y.1)):=fI u .go kz0 eN Tryz.func256
def Zx(c:Int)(c101:D.Book):Option Bool:=Qg (X:=(P3×D.Book×Unit)) (fun g ((e,f,b,_),a,_)=>cd (b<f) (optc (Vf u b a) fun h=>optc (Vf u e a) fun i=>cd (h=i) (sameC a c101 sT) (g ((e,f,(wrap .i64 (b+1)),()),a,()))) (sameC a c101 sF)) u ((c,c,0,()),c101,())
theorem VB:FO 174 (Qd [nI,.one (.clo 256 [101])] [bx 101 .Book] [.one .boo] [] [101] Bool kz1 (fun x y=>Zx u x.1 y.1)):=fI u (.two .go (lp [ni 0,(1,.one (.clo 256 [101])),ni 6,ni 7] [bx 101 .Book] .go)) kz0 (eC (Qid u) eN) Tryz.func174
def QeE(l:D.Config)(c:D.Book)(f:Int):Option Int:=atc c.Policies f fun a=>optc (QaV u a.Name) fun m=>cnd (!m) (some 8) (optc (Zx u f c) fun n=>cnd n (some 4) (cd ((a.Steps.length:Int)=0) (some 7) (cd (8<(a.Steps.length:Int)) (some 5) (optc (Yo u a.Repeat 0 8) fun o=>cnd (!o) (some 1) (Qg (X:=((List D.PolicyStep×Int×Int×Unit)×D.Config×D.Book×Unit)) (fun p ((g,h,e,_),i,j,_)=>cd (e<h) (atc g e fun k=>optc (Qdh u i j k) fun b=>cd (b≠0) (some b) (p ((g,h,(wrap .i64 (e+1)),()),i,j,()))) (some 0)) u ((a.Steps,(a.Steps.length:Int),0,()),l,c,()))))))
theorem QkF:FO 177 (sI [.st .Config,.st .Book,nI] fun x=>QeE u x.1 x.2.1 x.2.2.1):=fI u (gs 3 (lp [rf 3,rf 4,li 41 .PolicyStep,ni 42,ni 43] [bx 1003 .Config,bx 1004 .Book] .go)) kz0 (eC (Qc8 u) (eC (VB u) (eC (WB u) (eC (QlJ u) eN)))) Tryz.func177
def Ve(u:Nat)(b:Int)(a:D.Book):Option ByteArray:=atc a.Teams b fun c=>sameC a a (some c.Name)
theorem Qic:FO 175 (Qd [nI,.one (.ref 101)] [bx 101 .Book] [.one .str] [] [101] ByteArray kz1 (fun x y=>Ve u x.1 y.1)):=fI u .go kz0 eN Tryz.func175
def Zw(c:Int)(c101:D.Book):Option Bool:=Qg (X:=(P3×D.Book×Unit)) (fun g ((e,f,b,_),a,_)=>cd (b<f) (optc (Ve u b a) fun h=>optc (Ve u e a) fun i=>cd (h=i) (sameC a c101 sT) (g ((e,f,(wrap .i64 (b+1)),()),a,()))) (sameC a c101 sF)) u ((c,c,0,()),c101,())
theorem VA:FO 174 (Qd [nI,.one (.clo 175 [101])] [bx 101 .Book] [.one .boo] [] [101] Bool kz1 (fun x y=>Zw u x.1 y.1)):=fI u (.two .go (lp [ni 0,(1,.one (.clo 175 [101])),ni 6,ni 7] [bx 101 .Book] .go)) kz0 (eC (Qic u) eN) Tryz.func174
def QbK(m:D.Config)(j:D.Book):Option Int:=optc (WK u m) fun v=>cd (v≠0) (some 8) (join (Y:=(Unit×D.Config×D.Book×Unit)) (fun(_,w,k,_)=>Qg (X:=((List D.Team×Int×Int×Unit)×D.Config×D.Book×Unit)) (fun y ((n,o,b,_),l,c,_)=>cd (b<o) (atc n b fun p=>optc (QaV u p.Name) fun q=>cnd (!q) (some 8) (optc (Zw u b c) fun r=>cnd r (some 4) (optc (Qfv u l p.Members) fun e=>cd (e≠0) (some e) (y ((n,o,(wrap .i64 (b+1)),()),l,c,()))))) (Qg (X:=((Int×Int×Unit)×D.Config×D.Book×Unit)) (fun s ((f,a,_),g,h,_)=>cd (a<f) (optc (QeE u g h a) fun i=>cd (i≠0) (some i) (s ((f,(wrap .i64 (a+1)),()),g,h,()))) (some 0)) u (((c.Policies.length:Int),0,()),l,c,()))) u ((k.Teams,(k.Teams.length:Int),0,()),w,k,())) fun t=>cd (8<(j.Teams.length:Int)) (some 5) (cd (12<(j.Policies.length:Int)) (some 5) (t ((),m,j,()))))
theorem QkE:FO 116 (sI [.st .Config,.st .Book] fun x=>QbK u x.1 x.2.1):=fI u (gs 2 (.two (.join [rf 2,rf 3] [bx 1002 .Config,bx 1003 .Book] .go) (.two (.two .go (.one (.loop [rf 2,rf 3,li 24 .Team,ni 25,ni 26] [bx 1002 .Config,bx 1003 .Book] .go))) (lp [rf 2,rf 3,ni 48,ni 49] [bx 1002 .Config,bx 1003 .Book] .go)))) kz0 (eC (Qak u) (eC (Qc8 u) (eC (VA u) (eC (Qng u) (eC (QkF u) eN))))) Tryz.func116
def Q2(u:Nat)(a:Int)(b:Int)(c:Int):Option Bool:=cd (b<=a) (cd (a<=c) sT sF) sF
theorem We:FO 258 (sB [nI,nI,nI] fun x=>Q2 u x.1 x.2.1 x.2.2.1):=fI u .go kz0 eN Tryz.func258
def Wz(a:D.Policy):Option Int:=join (Y:=(Unit×D.Policy×Unit)) (fun(_,b,_)=>some (wrap .i64 ((b.Steps.length:Int)*(wrap .i64 (b.Repeat+1))))) fun c=>optc (Yo u a.Repeat 0 8) fun e=>cnd e (cd (8<(a.Steps.length:Int)) (some 0) (c ((),a,()))) (some 0)
theorem Qbf:FO 261 (sI [.st .Policy] fun x=>Wz u x.1):=fI u (.two .go (.two (.join [rf 1] [bx 1001 .Policy] .go) .go)) kz0 (eC (WB u) eN) Tryz.func261
def UL(a:D.Page):Option Bool:=optc (Q2 u a.Last a.Start 17179869184) fun b=>cnd b (optc (Q2 u a.Due 0 17179869184) fun c=>cnd c (optc (Q2 u a.Until 0 17179869184) fun e=>cnd e (optc (Q2 u a.Snoozes 0 4) fun f=>cnd f (optc (Q2 u a.Hands 0 4) fun g=>cnd g sT sF) sF) sF) sF) sF
theorem QhY:FO 262 (sB [.st .Page] fun x=>UL u x.1):=fI u .go kz0 (eC (We u) eN) Tryz.func262
def UV(c:List Int):Option Bool:=Qg (X:=((List Int×List Int×Int×Int×Unit)×Unit)) (fun k ((e,f,g,a,_),_)=>cd (a<g) (join (Y:=((List Int×List Int×Int×Int×Unit)×Unit)) (fun((l,m,n,o,_),_)=>k ((l,m,n,(wrap .i64 (o+1)),()),())) fun h=>atc f a fun b=>optc (Q2 u b 0 31) fun i=>cnd i (cd (0<a) (atc e (wrap .i64 (a - 1)) fun j=>cd (b<=j) sF (h ((e,f,g,a,()),()))) (h ((e,f,g,a,()),()))) sF) sT) u ((c,c,(c.length:Int),0,()),())
theorem Qen:FO 264 (sB [lI] fun x=>UV u x.1):=fI u (.two .go (lp [(0,lI),(5,lI),ni 6,ni 7] [] (gs 2 (.two (.join [(0,lI),(5,lI),ni 6,ni 7] [] .go) .go)))) kz0 (eC (We u) eN) Tryz.func264
def Vj(b:D.Page):Option Bool:=Qg (X:=((Int×Int×List D.Start×Int×Int×Unit)×D.Page×Unit)) (fun p ((q,h,i,j,c,_),e,_)=>cd (c<j) (atc i c fun a=>join (Y:=((Int×List D.Start×Int×Int×Unit)×D.Page×D.Start×Unit)) (fun((r,s,k,l,_),m,f,_)=>p ((f.At,(max r f.K),s,k,(wrap .i64 (l+1)),()),m,())) fun g=>cd (a.At<q) sF (optc (UV u a.People) fun n=>cnd n (cd (a.K≠(-1)) (optc (Q2 u a.K (wrap .i64 (h+1)) (wrap .i64 (e.Next - 1))) fun o=>cnd o (g ((h,i,j,c,()),e,a,())) sF) (g ((h,i,j,c,()),e,a,()))) sF)) (some (decide ((e.Starts.length:Int)<=200)))) u ((b.Start,(-1),b.Starts,(b.Starts.length:Int),0,()),b,())
theorem Qgp:FO 263 (sB [.st .Page] fun x=>Vj u x.1):=fI u (gs 2 (lp [rf 1,ni 3,ni 4,li 10 .Start,ni 11,ni 12] [bx 1001 .Page] (gs 2 (.two (.one (.two .go (.two (.join [rf 1,ni 4,rf 6,li 10 .Start,ni 11,ni 12] [bx 1001 .Page,bx 1006 .Start] .go) .go))) .go)))) kz0 (eC (We u) (eC (Qen u) eN)) Tryz.func263
def QaD(c:List Int):Option Bool:=Qg (X:=((List Int×List Int×Int×Int×Unit)×Unit)) (fun h ((a,e,f,b,_),_)=>cd (b<f) (atc e b fun i=>natc b fun g=>lec g a.length (optc (Yg u (List.take g a) i) fun j=>cnd j sF (h ((a,e,f,(wrap .i64 (b+1)),()),())))) (some (decide ((a.length:Int)<=64)))) u ((c,c,(c.length:Int),0,()),())
theorem Qi0:FO 265 (sB [lI] fun x=>QaD u x.1):=fI u (.two .go (lp [(0,lI),(5,lI),ni 6,ni 7] [] .go)) kz0 (eC (Wi u) eN) Tryz.func265
def Qah(a:D.PolicyStep):Option Bool:=optc (Q2 u a.Wait 0 86400) fun b=>some (!b)
theorem Qgo:FO 260 (sB [.st .PolicyStep] fun x=>Qah u x.1):=fI u .go kz0 (eC (We u) eN) Tryz.func260
def Q1(b:List D.PolicyStep):Option Int:=Qg (X:=((List D.PolicyStep×Int×Int×Unit)×Unit)) (fun f ((c,e,a,_),_)=>cd (a<e) (atc c a fun g=>optc (Qah u g) fun h=>cnd h (some a) (f ((c,e,(wrap .i64 (a+1)),()),()))) (some (-1))) u ((b,(b.length:Int),0,()),())
theorem Y2:FO 326 (sI [.one (.lst .PolicyStep),.one (.fv 260)] fun x=>Q1 u x.1):=fI u (.two .go (lp [li 0 .PolicyStep,(1,.one (.fv 260)),ni 7,ni 8] [] .go)) kz0 (eC (Qgo u) eN) Tryz.func326
def Qn(a:List D.PolicyStep):Option Bool:=optc (Q1 u a) fun b=>some (decide (0<=b))
theorem YK:FO 259 (sB [.one (.lst .PolicyStep),.one (.fv 260)] fun x=>Qn u x.1):=fI u .go kz0 (eC (Y2 u) eN) Tryz.func259
def Yh(e:D.Book)(b:D.Page):Option Bool:=join (Y:=(Unit×D.Book×D.Page×Unit)) (fun(_,o,c,_)=>atc o.Policies c.Policy fun f=>join (Y:=(Unit×D.Page×Unit)) (fun(_,a,_)=>optc (Q2 u a.State 0 4) fun p=>cnd p (optc (Q2 u a.By (-1) 31) fun q=>cnd q (optc (UL u a) fun r=>cnd r (optc (Vj u a) fun s=>cnd s (optc (UV u a.Declined) fun t=>cnd t (optc (QaD u a.Seen) fun v=>cnd v sT sF) sF) sF) sF) sF) sF) fun g=>optc (Qn u f.Steps) fun h=>cnd h sF (optc (Wz u f) fun i=>optc (Q2 u c.Next 0 i) fun j=>cnd j (g ((),c,())) sF)) fun k=>optc (Q2 u b.ID 1 999999) fun l=>cnd l (optc (Q2 u b.Policy 0 (wrap .i64 ((e.Policies.length:Int) - 1))) fun m=>cnd m (optc (Q2 u b.Start 0 8589934592) fun n=>cnd n (k ((),e,b,())) sF) sF) sF
theorem WJ:FO 178 (sB [.st .Book,.st .Page] fun x=>Yh u x.1 x.2.1):=fI u (.two .go (.two (.join [rf 2,rf 3] [bx 1002 .Book,bx 1003 .Page] .go) (.two .go (.two (.join [rf 3] [bx 1003 .Page] .go) .go)))) kz0 (eC (We u) (eC (YK u) (eC (Qbf u) (eC (QhY u) (eC (Qgp u) (eC (Qen u) (eC (Qi0 u) eN))))))) Tryz.func178
def XE(u:Nat)(a:List D.Call):Option (List D.Call):=nilC a (both (some []) (lec a.length 34359738368 (some a))) (lec a.length 34359738368 (some a))
theorem Qas:FO 180 (Qd [.one (.lst .Call)] [] [.one (.own 1007)] [ar 1007 .Call] [] (List D.Call) kz7 (fun x y=>XE u x.1)):=fI u .go kz10 eN Tryz.func180
def Qdd(q:D.Page)(p1:List D.Call)(p2:Int):Option Bool:=Qg (X:=((List D.Call×Int×Int×Int×List D.Start×Int×Int×Unit)×D.Page×Unit)) (fun L0 ((t,a2,v,a4,w,y,r,_),a8,_)=>cd (r<y) (atc w r fun s=>Qg (X:=((List D.Call×Int×Int×Int×List D.Start×Int×Int×List Int×Int×Int×Unit)×D.Page×D.Start×Unit)) (fun z ((a,e,b,i,j,k,l,m,n,f,_),g,h,_)=>cd (f<n) (atc m f fun A=>join (Y:=((List D.Call×Int×Int×List D.Start×Int×Int×List Int×Int×Int×Unit)×D.Page×D.Start×Unit)) (fun((o,B,p,C,E,F,G,H,I,_),J,L,_)=>atc o p fun O=>z ((o,B,(wrap .i64 (p+1)),O.Fence,C,E,F,G,H,(wrap .i64 (I+1)),()),J,L,())) fun S=>cd (b=(a.length:Int)) sF (atc a b fun W=>optc (XT u W.Fence i e) fun Z=>cnd Z (atc a b fun c=>atc a b fun a0=>cd ([c.Page,c.K,c.At,c.Person,c.Fence]≠[g.ID,h.K,h.At,A,a0.Fence]) sF (S ((a,e,b,j,k,l,m,n,f,()),g,h,()))) sF)) (L0 ((a,e,b,i,j,k,(wrap .i64 (l+1)),()),g,()))) u ((t,a2,v,a4,w,y,r,s.People,(s.People.length:Int),0,()),a8,s,())) (some (decide (v=(t.length:Int))))) u ((p1,p2,0,0,q.Starts,(q.Starts.length:Int),0,()),q,())
theorem QlB:FO 182 (sB [.st .Page,.one (.lst .Call),nI] fun x=>Qdd u x.1 x.2.1 x.2.2.1):=fI u (gs 2 (lp [li 1 .Call,ni 2,rf 3,ni 7,ni 8,li 14 .Start,ni 15,ni 16] [bx 1003 .Page] (gs 2 (.two (.one (gs 2 (.one (.loop [li 1 .Call,ni 2,rf 3,ni 7,ni 8,rf 10,li 14 .Start,ni 15,ni 16,(21,lI),ni 22,ni 23] [bx 1003 .Page,bx 1010 .Start] (gs 2 (.two (.one (.two .go (.two (.join [li 1 .Call,ni 2,rf 3,ni 7,rf 10,li 14 .Start,ni 15,ni 16,(21,lI),ni 22,ni 23] [bx 1003 .Page,bx 1010 .Start] .go) .go))) .go)))))) .go)))) kz0 (eC (Qde u) eN) Tryz.func182
def VS(u:Nat)(b:D.Call)(a:D.Page):Option Bool:=sameC a a (some (decide (b.Page≠a.ID)))
theorem QdM:FO 181 (Qd [.st .Call,.one (.ref 101)] [bx 101 .Page] [.one .boo] [] [101] Bool kz1 (fun x y=>VS u x.1 y.1)):=fI u .go kz0 eN Tryz.func181
def QV(b:List D.Call)(c102:D.Page):Option Int:=Qg (X:=((Int×Int×Unit)×D.Page×List D.Call×Unit)) (fun h ((f,c,_),e,a,_)=>cd (c<f) (natc c fun g=>ltc g a.length (optc a[g]? fun i=>optc (VS u i e) fun j=>cnd j (sameC a b (sameC e c102 (some c))) (h ((f,(wrap .i64 (c+1)),()),e,a,())))) (sameC a b (sameC e c102 (some (-1))))) u (((b.length:Int),0,()),c102,b,())
theorem Wa:FO 266 (Qd [.one (.own 101),.one (.clo 181 [102])] [ar 101 .Call,bx 102 .Page] [nI] [] [101,102] Int kz1 (fun x y=>QV u y.1 y.2.1)):=fI u (.two .go (lp [(0,.one (.own 101)),(1,.one (.clo 181 [102])),ni 7,ni 8] [bx 102 .Page,ar 101 .Call] .go)) kz0 (eC (QdM u) eN) Tryz.func266
def QR(f:List D.Call)(c102:D.Page):Option (Nat×Nat×List D.Call):=optc (QV u f c102) fun m=>cd (m=(-1)) (sameC c102 c102 (some (0,f.length,f))) (Qg (X:=((Int×Int×Unit)×D.Page×List D.Call×Unit)) (fun o ((c,g,_),h,a,_)=>cd (g<(a.length:Int)) (join (Y:=((Int×Int×Unit)×D.Page×List D.Call×Unit)) (fun((p,q,_),r,s,_)=>o ((p,(wrap .i64 (q+1)),()),r,s,())) fun i=>natc g fun j=>ltc j a.length (optc a[j]? fun k=>optc (VS u k h) fun n=>cnd (!n) (natc c fun e=>ltc e a.length (optc a[e]? fun t=>i (((wrap .i64 (c+1)),g,()),h,(List.set a e k),()))) (i ((c,g,()),h,a,())))) (natc c fun b=>lec b a.length (lec b a.length (lec a.length a.length (natc c fun l=>lec l (((List.take b a)++(List.replicate (a.length - b) (D.Call.mk 0 0 0 0 0)))++(List.drop a.length a)).length (sameC h c102 (some (0,l,(((List.take b a)++(List.replicate (a.length - b) (D.Call.mk 0 0 0 0 0)))++(List.drop a.length a)))))))))) u ((m,(wrap .i64 (m+1)),()),c102,f,()))
theorem X3:FO 179 (Qd [.one (.own 101),.one (.clo 181 [102])] [ar 101 .Call,bx 102 .Page] [.one (.view 101)] [ar 101 .Call] [102] (Nat×Nat×List D.Call) kz24 (fun x y=>QR u y.1 y.2.1)):=fI u (gs 3 (lp [(0,.one (.own 101)),(1,.one (.clo 181 [102])),ni 5,ni 6] [bx 102 .Page,ar 101 .Call] (.two .go (.two (.join [(0,.one (.own 101)),(1,.one (.clo 181 [102])),ni 5,ni 6] [bx 102 .Page,ar 101 .Call] .go) .go)))) kz25 (eC (QdM u) (eC (Wa u) eN)) Tryz.func179
def Qgv(k:D.Ledger):Option Bool:=Qg (X:=((Int×List D.Page×Int×Int×Unit)×D.Ledger×Unit)) (fun v ((l,m,n,c,_),a,_)=>cd (c<n) (atc m c fun b=>join (Y:=((Int×List D.Page×Int×Int×Unit)×D.Ledger×D.Page×Unit)) (fun((w,y,z,o,_),e,f,_)=>optc (XE u e.Calls) fun p=>optc (QR u p f) fun(g,h,i)=>optc (Qdd u f (List.drop g (List.take h i)) e.Fence) fun q=>cnd (!q) sF (v (((wrap .i64 (w+(((List.drop g (List.take h i)).length:Nat):Int))),y,z,(wrap .i64 (o+1)),()),e,()))) fun j=>cd (0<c) (atc a.Pages (wrap .i64 (c - 1)) fun r=>cd (b.ID<=r.ID) sF (optc (Yh u a.Book b) fun s=>cnd s (cd (a.Now<b.Last) sF (j ((l,m,n,c,()),a,b,()))) sF)) (optc (Yh u a.Book b) fun t=>cnd t (cd (a.Now<b.Last) sF (j ((l,m,n,c,()),a,b,()))) sF)) (some (decide (l=(a.Calls.length:Int))))) u ((0,k.Pages,(k.Pages.length:Int),0,()),k,())
theorem QlD:FO 117 (sB [.st .Ledger] fun x=>Qgv u x.1):=fI u (gs 2 (lp [rf 1,ni 3,li 8 .Page,ni 9,ni 10] [bx 1001 .Ledger] (gs 2 (.two (.one (.two .go (.two (.join [rf 1,ni 3,rf 5,li 8 .Page,ni 9,ni 10] [bx 1001 .Ledger,bx 1005 .Page] .go) .go))) .go)))) kz0 (eC (WJ u) (eC (X3 u) (eC (Qas u) (eC (QlB u) eN)))) Tryz.func117
def Xm(a:D.Ledger):Option Bool:=join (Y:=(Unit×D.Ledger×Unit)) (fun(_,b,_)=>optc (QbK u b.Config b.Book) fun c=>cd (c=0) (optc (Qgv u b) fun e=>cnd e sT sF) sF) fun f=>optc (XT u a.Now 0 8589934592) fun g=>cnd g (cd (64<(a.Pages.length:Int)) sF (optc (XT u a.Owner (-1) 4) fun h=>cnd h (optc (XT u a.Fence 0 1048576) fun i=>cnd i (optc (Qfq u a.Seen) fun j=>cnd j (f ((),a,())) sF) sF) sF)) sF
theorem Vc:FO 68 (sB [.st .Ledger] fun x=>Xm u x.1):=fI u (.two .go (.two (.join [rf 1] [bx 1001 .Ledger] .go) .go)) kz0 (eC (Qde u) (eC (Qnc u) (eC (QkE u) (eC (QlD u) eN)))) Tryz.func68
def Qcu(u:Nat)(a:Int)(b:Int)(c:Int):Option Bool:=cd (b<=a) (cd (a<=c) sT sF) sF
theorem QeC:FO 78 (sB [nI,nI,nI] fun x=>Qcu u x.1 x.2.1 x.2.2.1):=fI u .go kz0 eN Tryz.func78
def V4(u:Nat)(a:Int)(b:Int)(c:Int):Option Bool:=cd (b<=a) (cd (a<=c) sT sF) sF
theorem QeY:FO 118 (sB [nI,nI,nI] fun x=>V4 u x.1 x.2.1 x.2.2.1):=fI u .go kz0 eN Tryz.func118
def UF(u:Nat)(a:Int)(b:Int)(c:Int):Option Bool:=cd (b<=a) (cd (a<=c) sT sF) sF
theorem QcU:FO 183 (sB [nI,nI,nI] fun x=>UF u x.1 x.2.1 x.2.2.1):=fI u .go kz0 eN Tryz.func183
def QdF(b:D.Replica):Option Bool:=Qg (X:=((Int×List D.Entry×Int×Int×Unit)×D.Replica×Unit)) (fun h ((i,e,f,c,_),a,_)=>cd (c<f) (atc e c fun g=>optc (UF u g.Term i a.Term) fun j=>cnd (!j) sF (h ((g.Term,e,f,(wrap .i64 (c+1)),()),a,()))) (cd ((a.Log.length:Int)<=256) (optc (UF u a.Commit 0 (a.Log.length:Int)) fun k=>cnd k sT sF) sF)) u ((1,b.Log,(b.Log.length:Int),0,()),b,())
theorem QlT:FO 223 (sB [.st .Replica] fun x=>QdF u x.1):=fI u (gs 2 (lp [rf 1,ni 3,li 7 .Entry,ni 8,ni 9] [bx 1001 .Replica] .go)) kz0 (eC (QcU u) eN) Tryz.func223
def QcV(u:Nat)(b:Int)(a:D.Replica):Option Bool:=cd ((a.Votes.length:Int)=b) (atc a.Votes a.ID fun c=>cnd c sT sF) sF
theorem QnU:FO 224 (sB [nI,.st .Replica] fun x=>QcV u x.1 x.2.1):=fI u .go kz0 eN Tryz.func224
def Qcc(b:Int)(a:D.Replica):Option Bool:=optc (UF u b 0 (a.Log.length:Int)) fun c=>sameC a a (some (!c))
theorem Qiq:FO 308 (Qd [nI,.one (.ref 101)] [bx 101 .Replica] [.one .boo] [] [101] Bool kz1 (fun x y=>Qcc u x.1 y.1)):=fI u .go kz0 (eC (QcU u) eN) Tryz.func308
def ZA(c:List Int)(c101:D.Replica):Option Int:=Qg (X:=((List Int×Int×Int×Unit)×D.Replica×Unit)) (fun g ((e,f,a,_),b,_)=>cd (a<f) (atc e a fun h=>optc (Qcc u h b) fun i=>cnd i (sameC b c101 (some a)) (g ((e,f,(wrap .i64 (a+1)),()),b,()))) (sameC b c101 (some (-1)))) u ((c,(c.length:Int),0,()),c101,())
theorem Wq:FO 341 (Qd [lI,.one (.clo 308 [101])] [bx 101 .Replica] [nI] [] [101] Int kz1 (fun x y=>ZA u x.1 y.1)):=fI u (.two .go (lp [(0,lI),(1,.one (.clo 308 [101])),ni 7,ni 8] [bx 101 .Replica] .go)) kz0 (eC (Qiq u) eN) Tryz.func341
def Zh(a:List Int)(c101:D.Replica):Option Bool:=optc (ZA u a c101) fun b=>sameC c101 c101 (some (decide (0<=b)))
theorem X2:FO 307 (Qd [lI,.one (.clo 308 [101])] [bx 101 .Replica] [.one .boo] [] [101] Bool kz1 (fun x y=>Zh u x.1 y.1)):=fI u .go kz0 (eC (Wq u) eN) Tryz.func307
def Qfc(b:Int)(a:D.Replica):Option Bool:=cd ((a.Match.length:Int)=b) (atc a.Match a.ID fun c=>cd (c=(a.Log.length:Int)) (optc (Zh u a.Match a) fun e=>cnd e sF sT) sF) sF
theorem Qlj:FO 225 (sB [nI,.st .Replica] fun x=>Qfc u x.1 x.2.1):=fI u .go kz0 (eC (X2 u) eN) Tryz.func225
def WS(c:Int)(b:D.Replica):Option Bool:=join (Y:=((Int×Unit)×D.Replica×Unit)) (fun((e,_),a,_)=>cd (a.Role=0) (cd ((a.Votes.length:Int)=0) (cd ((a.Match.length:Int)=0) sT sF) sF) (cd (a.Role=1) (optc (QcV u e a) fun g=>cnd g (cd ((a.Match.length:Int)=0) sT sF) sF) (cd (a.Role=2) (optc (QcV u e a) fun h=>cnd h (optc (Qfc u e a) fun i=>cnd i sT sF) sF) sF))) fun j=>optc (UF u c 1 5) fun k=>cnd k (optc (UF u b.ID 0 (wrap .i64 (c - 1))) fun l=>cnd l (optc (UF u b.Term 0 1048576) fun m=>cnd m (optc (UF u b.Voted (-1) (wrap .i64 (c - 1))) fun n=>cnd n (optc (QdF u b) fun f=>cnd f (j ((c,()),b,())) sF) sF) sF) sF) sF
theorem QhN:FO 160 (sB [nI,.st .Replica] fun x=>WS u x.1 x.2.1):=fI u (.two .go (.two (.join [ni 0,rf 3] [bx 1003 .Replica] .go) .go)) kz0 (eC (QcU u) (eC (QlT u) (eC (QnU u) (eC (Qlj u) eN)))) Tryz.func160
def QbX(b:List D.Arr2Int)(c:D.Arr2Int):Option Int:=Qg (X:=((List D.Arr2Int×Int×Int×Unit)×(Int×Int×Unit)×Unit)) (fun j ((e,f,a,_),(g,h,_),_)=>cd (a<f) (atc e a fun i=>cd ([g,h]=[i.a0,i.a1]) (some a) (j ((e,f,(wrap .i64 (a+1)),()),(g,h,()),()))) (some (-1))) u ((b,(b.length:Int),0,()),(c.a0,c.a1,()),())
theorem Qe8:FO 226 (sI [.one (.lst .Arr2Int),.st .Arr2Int] fun x=>QbX u x.1 x.2.1):=fI u (.two .go (lp [li 0 .Arr2Int,rf 3,ni 7,ni 8] [(1003,.box [kI,kI])] .go)) kz0 eN Tryz.func226
def Qad(a:List D.Arr2Int)(b:D.Arr2Int):Option Bool:=optc (QbX u a b) fun c=>some (decide (0<=c))
theorem QcN:FO 161 (sB [.one (.lst .Arr2Int),.st .Arr2Int] fun x=>Qad u x.1 x.2.1):=fI u .go kz0 (eC (Qe8 u) eN) Tryz.func161
def XM(g:D.Cluster):Option Bool:=join (Y:=((Int×Unit)×D.Cluster×Unit)) (fun((a0,_),s,_)=>Qg (X:=((Int×List D.Replica×Int×Int×Unit)×D.Cluster×Unit)) (fun L2 ((t,v,w,k,_),l,_)=>cd (k<w) (join (Y:=((Int×List D.Replica×Int×Int×Unit)×D.Cluster×Unit)) (fun((a8,a9,y,z,_),A,_)=>L2 ((a8,a9,y,(wrap .i64 (z+1)),()),A,())) fun B=>atc v k fun m=>cd (m.ID≠k) sF (optc (WS u t m) fun C=>cnd C (B ((t,v,w,k,()),l,())) sF)) (Qg (X:=((Int×List D.Message×Int×Int×Unit)×D.Cluster×Unit)) (fun E ((a,n,o,h,_),b,_)=>cd (h<o) (join (Y:=((Int×List D.Message×Int×Int×Unit)×D.Cluster×Unit)) (fun((F,G,H,I,_),J,_)=>E ((F,G,H,(wrap .i64 (I+1)),()),J,())) fun L=>atc n h fun c=>optc (V4 u c.From 0 (wrap .i64 (a - 1))) fun O=>cnd O (optc (V4 u c.To 0 (wrap .i64 (a - 1))) fun S=>cnd S (cd (c.From=c.To) sF (L ((a,n,o,h,()),b,()))) sF) sF) (Qg (X:=((Int×List D.Arr2Int×Int×Int×Unit)×D.Cluster×Unit)) (fun W ((i,p,q,e,_),j,_)=>cd (e<q) (join (Y:=((Int×List D.Arr2Int×Int×Int×Unit)×D.Cluster×Unit)) (fun((Z,a2,aA,aB,_),aC,_)=>W ((Z,a2,aA,(wrap .i64 (aB+1)),()),aC,())) fun aD=>atc p e fun f=>optc (V4 u f.a0 0 (wrap .i64 (i - 1))) fun aE=>cnd aE (optc (V4 u f.a1 (wrap .i64 (f.a0+1)) (wrap .i64 (i - 1))) fun aF=>cnd aF (natc e fun r=>lec r j.Cut.length (optc (Qad u (List.take r j.Cut) f) fun aG=>cnd aG sF (aD ((i,p,q,e,()),j,())))) sF) sF) sT) u ((a,b.Cut,(b.Cut.length:Int),0,()),b,()))) u ((t,l.Wire,(l.Wire.length:Int),0,()),l,()))) u ((a0,s.Replicas,(s.Replicas.length:Int),0,()),s,())) fun aH=>optc (V4 u (g.Replicas.length:Int) 1 5) fun aI=>cnd aI (cd ((g.Down.length:Int)≠(g.Replicas.length:Int)) sF (cd (256<(g.Wire.length:Int)) sF (aH (((g.Replicas.length:Int),()),g,())))) sF
theorem Qbl:FO 104 (sB [.st .Cluster] fun x=>XM u x.1):=fI u (gs 2 (.two (.join [rf 1,ni 3] [bx 1001 .Cluster] .go) (.two (.two .go (.one (.loop [rf 1,ni 3,li 30 .Replica,ni 31,ni 32] [bx 1001 .Cluster] (gs 2 (.two (.join [rf 1,ni 3,li 30 .Replica,ni 31,ni 32] [bx 1001 .Cluster] .go) .go))))) (.two (.two .go (.one (.loop [rf 1,ni 3,li 49 .Message,ni 50,ni 51] [bx 1001 .Cluster] (gs 2 (.two (.join [rf 1,ni 3,li 49 .Message,ni 50,ni 51] [bx 1001 .Cluster] .go) .go))))) (lp [rf 1,ni 3,li 78 .Arr2Int,ni 79,ni 80] [bx 1001 .Cluster] (gs 2 (.two (.join [rf 1,ni 3,li 78 .Arr2Int,ni 79,ni 80] [bx 1001 .Cluster] .go) .go))))))) kz0 (eC (QeY u) (eC (QhN u) (eC (QcN u) eN))) Tryz.func104
def VE(u:Nat)(a:Int)(b:Int)(c:Int):Option Bool:=cd (b<=a) (cd (a<=c) sT sF) sF
theorem Qn2:FO 227 (sB [nI,nI,nI] fun x=>VE u x.1 x.2.1 x.2.2.1):=fI u .go kz0 eN Tryz.func227
def UT(b:D.Answer):Option Bool:=join (Y:=((Int×Int×Unit)×D.Answer×Unit)) (fun((e,f,_),a,_)=>optc (VE u a.ID 1 999999) fun g=>cnd g (optc (VE u a.Page 1 999999) fun h=>cnd h (optc (VE u a.Person (-1) 31) fun i=>cnd i (optc (VE u a.At 0 8589934592) fun j=>cnd j (optc (VE u a.Kind 1 5) fun k=>cnd k (optc (VE u a.Arg e f) fun l=>cnd l sT sF) sF) sF) sF) sF) sF) fun c=>cd (b.Kind=3) (c ((1,86400,()),b,())) (cd (b.Kind=4) (c ((0,31,()),b,())) (c ((0,0,()),b,())))
theorem Qea:FO 162 (sB [.st .Answer] fun x=>UT u x.1):=fI u (gs 2 (.two (.join [rf 1,ni 3,ni 4] [bx 1001 .Answer] .go) .go)) kz0 (eC (Qn2 u) eN) Tryz.func162
def Ur(a:D.Op):Option Bool:=optc (XT u a.ID 1 1099511627776) fun b=>cnd b (optc (XT u a.Kind 1 5) fun c=>cnd c (optc (XT u a.Region 0 4) fun e=>cnd e (optc (XT u a.Fence 0 1048576) fun f=>cnd f (optc (XT u a.At 0 8589934592) fun g=>cnd g (optc (XT u a.Page 0 999999) fun h=>cnd h (optc (XT u a.K (-1) 1000) fun i=>cnd i (cd (a.Kind≠4) sT (optc (UT u a.Answer) fun j=>cnd j sT sF)) sF) sF) sF) sF) sF) sF) sF
theorem Qb8:FO 105 (sB [.st .Op] fun x=>Ur u x.1):=fI u .go kz0 (eC (Qde u) (eC (Qea u) eN)) Tryz.func105
def Y7(c:D.Paging):Option Bool:=join (Y:=(Unit×D.Paging×Unit)) (fun(_,i,_)=>Qg (X:=((List D.Replica×Int×Int×Unit)×D.Paging×Unit)) (fun F ((k,l,j,_),G,_)=>cd (j<l) (atc k j fun m=>Qg (X:=((List D.Replica×Int×Int×List D.Entry×Int×Int×Unit)×D.Paging×Unit)) (fun H ((n,o,e,f,g,a,_),b,_)=>cd (a<g) (join (Y:=((List D.Replica×Int×Int×List D.Entry×Int×Int×Unit)×D.Paging×Unit)) (fun((p,q,r,s,t,v,_),w,_)=>H ((p,q,r,s,t,(wrap .i64 (v+1)),()),w,())) fun y=>atc f a fun h=>optc (Ur u h.Op) fun z=>cnd z (cd (b.Serial<=h.Op.ID) sF (y ((n,o,e,f,g,a,()),b,()))) sF) (F ((n,o,(wrap .i64 (e+1)),()),b,()))) u ((k,l,j,m.Log,(m.Log.length:Int),0,()),G,())) sT) u ((i.Cluster.Replicas,(i.Cluster.Replicas.length:Int),0,()),i,())) fun A=>optc (Xm u c.Base) fun B=>cnd B (optc (XM u c.Cluster) fun C=>cnd C (optc (Qcu u c.Serial 1 1099511627776) fun E=>cnd E (A ((),c,())) sF) sF) sF
theorem Wy:FO 54 (sB [.st .Paging] fun x=>Y7 u x.1):=fI u (.two .go (.two (.join [rf 1] [bx 1001 .Paging] .go) (lp [rf 1,li 25 .Replica,ni 26,ni 27] [bx 1001 .Paging] (gs 2 (.two (.one (gs 2 (.one (.loop [rf 1,li 25 .Replica,ni 26,ni 27,li 32 .Entry,ni 33,ni 34] [bx 1001 .Paging] (gs 2 (.two (.join [rf 1,li 25 .Replica,ni 26,ni 27,li 32 .Entry,ni 33,ni 34] [bx 1001 .Paging] .go) .go)))))) .go))))) kz0 (eC (Vc u) (eC (QeC u) (eC (Qbl u) (eC (Qb8 u) eN)))) Tryz.func54
def XC(a:D.Replica):Option (List D.Op):=natc (max 0 (min a.Commit (a.Log.length:Int))) fun b=>lec b a.Log.length (Qg (X:=((List D.Entry×Int×Int×Unit)×List D.Op×Unit)) (fun i ((f,g,c,_),e,_)=>cd (c<g) (atc f c fun h=>lec (e.length+[h.Op].length) 34359738368 (i ((f,g,(wrap .i64 (c+1)),()),(e++[h.Op]),()))) (some e)) u (((List.take b a.Log),(((List.take b a.Log).length:Nat):Int),0,()),[],()))
theorem Qar:FO 111 (Qd [.st .Replica] [] [.one (.lst .Op)] [] [] (List D.Op) kz1 (fun x y=>XC u x.1)):=fI u (gs 2 (lp [(3,.one (.own 1025)),li 15 .Entry,ni 16,ni 17] [ar 1025 .Op] .go)) kz0 eN Tryz.func111
def YD(e:D.Cluster):Option (List D.Op):=optc (XM u e) fun j=>cnd (!j) (some []) (Qg (X:=((List D.Op×List D.Replica×Int×Int×Unit)×Unit)) (fun k ((f,g,h,a,_),_)=>cd (a<h) (join (Y:=((List D.Op×List D.Replica×Int×Int×Unit)×Unit)) (fun((l,m,n,o,_),_)=>k ((l,m,n,(wrap .i64 (o+1)),()),())) fun b=>atc g a fun i=>optc (XC u i) fun c=>cd ((f.length:Int)<(c.length:Int)) (b ((c,g,h,a,()),())) (b ((f,g,h,a,()),()))) (some f)) u (([],e.Replicas,(e.Replicas.length:Int),0,()),()))
theorem QdO:FO 62 (Qd [.st .Cluster] [] [.one (.lst .Op)] [] [] (List D.Op) kz1 (fun x y=>YD u x.1)):=fI u (gs 3 (lp [li 3 .Op,li 11 .Replica,ni 12,ni 13] [] (gs 2 (.two (.join [li 3 .Op,li 11 .Replica,ni 12,ni 13] [] .go) .go)))) kz0 (eC (Qbl u) (eC (Qar u) eN)) Tryz.func62
def Uv(u:Nat)(b:D.Op)(a:Int):Option Bool:=sameC a a (some (decide (b.ID=a)))
theorem QfT:FO 63 (Qd [.st .Op,.one (.ref 101)] [bx 101 .int] [.one .boo] [] [101] Bool kz1 (fun x y=>Uv u x.1 y.1)):=fI u .go kz0 eN Tryz.func63
def Zo(c:List D.Op)(c101:Int):Option Int:=Qg (X:=((List D.Op×Int×Int×Unit)×(Int×Unit)×Unit)) (fun g ((e,f,a,_),(b,_),_)=>cd (a<f) (atc e a fun h=>optc (Uv u h b) fun i=>cnd i (sameC b c101 (some a)) (g ((e,f,(wrap .i64 (a+1)),()),(b,()),()))) (sameC b c101 (some (-1)))) u ((c,(c.length:Int),0,()),(c101,()),())
theorem Wb:FO 110 (Qd [.one (.lst .Op),.one (.clo 63 [101])] [bx 101 .int] [nI] [] [101] Int kz1 (fun x y=>Zo u x.1 y.1)):=fI u (.two .go (lp [li 0 .Op,(1,.one (.clo 63 [101])),ni 7,ni 8] [(101,.box [kI])] .go)) kz0 (eC (QfT u) eN) Tryz.func110
def Za(a:List D.Op)(c101:Int):Option Bool:=optc (Zo u a c101) fun b=>sameC c101 c101 (some (decide (0<=b)))
theorem XF:FO 61 (Qd [.one (.lst .Op),.one (.clo 63 [101])] [bx 101 .int] [.one .boo] [] [101] Bool kz1 (fun x y=>Za u x.1 y.1)):=fI u .go kz0 (eC (Wb u) eN) Tryz.func61
def YP(a:D.Paging)(b:Int):Option Bool:=optc (Y7 u a) fun c=>cnd c (optc (YD u a.Cluster) fun e=>optc (Za u e b) fun f=>cnd f sT sF) sF
theorem QbI:FO 14 (sB [.st .Paging,nI] fun x=>YP u x.1 x.2.1):=fI u .go kz0 (eC (Wy u) (eC (XF u) (eC (QdO u) eN))) Tryz.func14
def QkP(u:Nat)(a:Int):Option Bool:=cd (48<=a) (cd (a<=57) sT sF) sF
theorem Qo2:FO 311 (sB [.one (.num .u8)] fun x=>QkP u x.1):=fI u .go kz0 eN Tryz.func311
def Qfz(c:ByteArray):Option Bool:=join (Y:=((ByteArray×Unit)×Unit)) (fun((r,_),_)=>Qg (X:=((ByteArray×Int×Unit)×Unit)) (fun s ((a,b,_),_)=>cd (b<(((ByteArray.size a):Nat):Int)) (join (Y:=((ByteArray×Int×Unit)×Unit)) (fun((t,v,_),_)=>s ((t,(wrap .i64 (v+1)),()),())) fun e=>natc b fun n=>ltc n (ByteArray.size a) (cd ((((bAt a n):Nat):Int)<97) (natc b fun o=>ltc o (ByteArray.size a) (optc (QkP u (((bAt a o):Nat):Int)) fun w=>cnd w (e ((a,b,()),())) (natc b fun f=>ltc f (ByteArray.size a) (cd ((((bAt a f):Nat):Int)≠95) (natc b fun g=>ltc g (ByteArray.size a) (cd ((((bAt a g):Nat):Int)≠45) sF (e ((a,b,()),())))) (e ((a,b,()),())))))) (natc b fun h=>ltc h (ByteArray.size a) (cd (122<(((bAt a h):Nat):Int)) (natc b fun i=>ltc i (ByteArray.size a) (optc (QkP u (((bAt a i):Nat):Int)) fun p=>cnd p (e ((a,b,()),())) (natc b fun j=>ltc j (ByteArray.size a) (cd ((((bAt a j):Nat):Int)≠95) (natc b fun k=>ltc k (ByteArray.size a) (cd ((((bAt a k):Nat):Int)≠45) sF (e ((a,b,()),())))) (e ((a,b,()),())))))) (e ((a,b,()),())))))) sT) u ((r,0,()),())) fun q=>cd ((((ByteArray.size c):Nat):Int)<1) sF (cd (24<(((ByteArray.size c):Nat):Int)) sF (natc 0 fun l=>ltc l (ByteArray.size c) (cd ((((bAt c l):Nat):Int)<97) sF (natc 0 fun m=>ltc m (ByteArray.size c) (cd (122<(((bAt c m):Nat):Int)) sF (q ((c,()),())))))))
theorem QgE:FO 237 (sB [.one .str] fun x=>Qfz u x.1):=fI u (.two .go (.two (.join [(0,.one .str)] [] .go) (lp [(0,.one .str),ni 3] [] (.two .go (.two (.join [(0,.one .str),ni 3] [] .go) .go))))) kz0 (eC (Qo2 u) eN) Tryz.func237
def Qbi(u:Nat)(a:Int)(b:Int)(c:Int):Option Bool:=cd (b<=a) (cd (a<=c) sT sF) sF
theorem QeH:FO 342 (sB [nI,nI,nI] fun x=>Qbi u x.1 x.2.1 x.2.2.1):=fI u .go kz0 eN Tryz.func342
def QoX(a:D.YearRule):Option Bool:=optc (Qbi u a.From 1970 2240) fun b=>cnd b (optc (Qbi u a.To a.From 2240) fun c=>cnd c (optc (Qbi u a.Month 1 12) fun e=>cnd e (optc (Qbi u a.Week 1 5) fun f=>cnd f (optc (Qbi u a.Weekday 0 6) fun g=>cnd g (optc (Qbi u a.Second 0 86399) fun h=>cnd h (optc (Qbi u a.Offset (-64800) 64800) fun i=>cnd i sT sF) sF) sF) sF) sF) sF) sF
theorem QoY:FO 343 (sB [.st .YearRule] fun x=>QoX u x.1):=fI u .go kz0 (eC (QeH u) eN) Tryz.func343
def Qnk(u:Nat)(a:Int):Option Int:=nzc 4 (nzc 100 (nzc 400 (some (wrap .i64 ((wrap .i64 ((wrap .i64 ((wrap .i64 ((wrap .i64 (a - 1970))*365))+(wrap .i64 (Int.tdiv (wrap .i64 (a - 1969)) 4)))) - (wrap .i64 (Int.tdiv (wrap .i64 (a - 1901)) 100))))+(wrap .i64 (Int.tdiv (wrap .i64 (a - 1601)) 400)))))))
theorem QkL:FO 310 (sI [nI] fun x=>Qnk u x.1):=fI u .go kz0 eN Tryz.func310
def QrP(u:Nat)(a:Int):Option Bool:=nzc 4 (cd ((Int.tmod a 4)=0) (nzc 100 (cd ((Int.tmod a 100)≠0) sT (nzc 400 (cd ((Int.tmod a 400)=0) sT sF)))) sF)
theorem Qqs:FO 405 (sB [nI] fun x=>QrP u x.1):=fI u .go kz0 eN Tryz.func405
def Qjp(c:Int)(a:Int):Option Int:=join (Y:=((Int×Int×Bool×Unit)×Unit)) (fun((f,b,h,_),_)=>cnd h (some 31) (join (Y:=((Int×Int×Bool×Unit)×Unit)) (fun((i,j,k,_),_)=>cnd k (some 30) (cd (j=2) (optc (QrP u i) fun l=>cnd l (some 29) (some 28)) (some 0))) fun g=>cd (b=4) (g ((f,b,(decide (b=4)),()),())) (cd (b=6) (g ((f,b,(decide (b=6)),()),())) (cd (b=9) (g ((f,b,(decide (b=9)),()),())) (g ((f,b,(decide (b=11)),()),())))))) fun e=>cd (a=1) (e ((c,a,(decide (a=1)),()),())) (cd (a=3) (e ((c,a,(decide (a=3)),()),())) (cd (a=5) (e ((c,a,(decide (a=5)),()),())) (cd (a=7) (e ((c,a,(decide (a=7)),()),())) (cd (a=8) (e ((c,a,(decide (a=8)),()),())) (cd (a=10) (e ((c,a,(decide (a=10)),()),())) (e ((c,a,(decide (a=12)),()),())))))))
theorem QgD:FO 377 (sI [nI,nI] fun x=>Qjp u x.1 x.2.1):=fI u (.two .go (.two (.two .go (.one (.two (.join [ni 0,ni 5,(6,.one .boo)] [] .go) (.two .go (.two (.join [ni 0,ni 5,(14,.one .boo)] [] .go) .go))))) .go)) kz0 (eC (Qqs u) eN) Tryz.func377
def QoU(a:D.Date):Option Bool:=cd (1970<=a.Year) (cd (a.Year<=2240) (cd (1<=a.Month) (cd (a.Month<=12) (cd (1<=a.Day) (optc (Qjp u a.Year a.Month) fun b=>cd (a.Day<=b) sT sF) sF) sF) sF) sF) sF
theorem QoV:FO 404 (sB [.st .Date] fun x=>QoU u x.1):=fI u .go kz0 (eC (QgD u) eN) Tryz.func404
def QuT(b:D.Date):Option (Int×Int):=optc (QoU u b) fun f=>cnd (!f) (some (0,1)) (optc (Qnk u b.Year) fun g=>Qg (X:=((Int×Int×Unit)×D.Date×Unit)) (fun h ((e,c,_),a,_)=>cd (c<a.Month) (optc (Qjp u a.Year c) fun i=>h (((wrap .i64 (e+i)),(wrap .i64 (c+1)),()),a,())) (some ((wrap .i64 ((wrap .i64 (e+a.Day)) - 1)),0))) u ((g,1,()),b,()))
theorem QsK:FO 375 (Qd [.st .Date] [] [nI,nI] [] [] (Int×Int) kz2 (fun x y=>QuT u x.1)):=fI u (gs 3 (lp [rf 1,ni 4,ni 5] [bx 1001 .Date] .go)) kz3 (eC (QkL u) (eC (QgD u) (eC (QoV u) eN))) Tryz.func375
def Qdk(u:Nat)(a:Int):Option Int:=nzc 7 (nzc 7 (some (Int.tmod (wrap .i64 ((Int.tmod a 7)+10)) 7)))
theorem Qge:FO 376 (sI [nI] fun x=>Qdk u x.1):=fI u .go kz0 eN Tryz.func376
def QuU(l:Int)(m:Int)(j:Int)(k:Int):Option (Int×Int):=optc (QuT u (D.Date.mk l m 1)) fun(v,w)=>join (Y:=(P5×Unit)) (fun((y,z,A,B,n,_),_)=>Qg (X:=(P6×Unit)) (fun C ((o,p,b,e,f,a,_),_)=>optc (Qdk u a) fun q=>cd (q≠e) (C ((o,p,b,e,f,(wrap .i64 (a+1)),()),())) (cd (b<5) (some ((wrap .i64 (a+(wrap .i64 (7*(wrap .i64 (b - 1)))))),0)) (Qg (X:=(P4×Unit)) (fun r ((g,h,i,c,_),_)=>optc (Qjp u g h) fun s=>cd ((wrap .i64 (c+7))<(wrap .i64 (i+s))) (r ((g,h,i,(wrap .i64 (c+7)),()),())) (some (c,0))) u ((o,p,f,a,()),())))) u ((y,z,A,B,n,n,()),())) fun t=>cd (w≠0) (some (0,1)) (cd (j<1) (some (0,1)) (cd (5<j) (some (0,1)) (cd (k<0) (some (0,1)) (cd (6<k) (some (0,1)) (t ((l,m,j,k,v,()),()))))))
theorem QsL:FO 361 (Qd [nI,nI,nI,nI] [] [nI,nI] [] [] (Int×Int) kz2 (fun x y=>QuU u x.1 x.2.1 x.2.2.1 x.2.2.2.1)):=fI u (gs 2 (.two (.join [ni 0,ni 1,ni 2,ni 3,ni 10] [] .go) (.two .go (.two (.one (.loop [ni 0,ni 1,ni 2,ni 3,ni 10,ni 12] [] .go)) (.two .go (.two (.one (.loop [ni 0,ni 1,ni 10,ni 12] [] .go)) .go)))))) kz3 (eC (QsK u) (eC (Qge u) (eC (QgD u) eN))) Tryz.func361
def QeI(p0:List D.YearRule):Option (List D.Occurrence):=Qg (X:=((List D.YearRule×Int×Unit)×List D.Occurrence×Unit)) (fun L0 ((r,s,_),w,_)=>cd (s<(r.length:Int)) (atc r s fun a4=>Qg (X:=((List D.YearRule×Int×Int×Unit)×List D.Occurrence×Unit)) (fun L5 ((e,f,t,_),v,_)=>atc e f fun y=>cd (t<=y.To) (atc e f fun z=>atc e f fun A=>atc e f fun B=>optc (QuU u t z.Month A.Week B.Weekday) fun(C,aB)=>atc e f fun E=>atc e f fun F=>join (Y:=((List D.YearRule×Int×Int×Int×Unit)×D.Occurrence×List D.Occurrence×Unit)) (fun((G,H,I,k,_),a,b,_)=>lec (b.length+[a].length) 34359738368 (natc (wrap .i64 (k+1)) fun c=>lec c (b++[a]).length (natc k fun g=>lec g (b++[a]).length (chk (b++[a]).length (b++[a]).length (chk (b++[a]).length (b++[a]).length (lec c (b++[a]).length (lec g c (natc k fun l=>ltc l ((List.take c (b++[a]))++(List.take ((b++[a]).length - c) (List.drop g (b++[a])))).length (optc (GetElem?.getElem? ((List.take c (b++[a]))++(List.take ((b++[a]).length - c) (List.drop g (b++[a])))) l) fun aC=>L5 ((G,H,(wrap .i64 (I+1)),()),(List.set ((List.take c (b++[a]))++(List.take ((b++[a]).length - c) (List.drop g (b++[a])))) l a),())))))))))) fun p=>Qg (X:=((List D.YearRule×Int×Int×Int×Unit)×D.Occurrence×List D.Occurrence×Unit)) (fun J ((m,n,o,h,_),j,i,_)=>join (Y:=((List D.YearRule×Int×Int×Int×Unit)×D.Occurrence×List D.Occurrence×Unit)) (fun((L,O,S,W,_),Z,a0,_)=>J ((L,O,S,(wrap .i64 (W - 1)),()),Z,a0,())) fun a5=>cd (0<h) (natc (wrap .i64 (h - 1)) fun q=>ltc q i.length (optc i[q]? fun aA=>cd (j.At<aA.At) (a5 ((m,n,o,h,()),j,i,())) (p ((m,n,o,h,()),j,i,())))) (p ((m,n,o,h,()),j,i,()))) u ((e,f,t,(v.length:Int),()),(D.Occurrence.mk (wrap .i64 ((wrap .i64 (C*86400))+E.Second)) F.Offset),v,())) (L0 ((e,(wrap .i64 (f+1)),()),v,()))) u ((r,s,a4.From,()),w,())) (some w)) u ((p0,0,()),[],())
theorem Qht:FO 344 (Qd [.one (.lst .YearRule)] [] [.one (.lst .Occurrence)] [] [] (List D.Occurrence) kz1 (fun x y=>QeI u x.1)):=fI u (gs 2 (lp [li 0 .YearRule,(3,.one (.own 1084)),ni 4] [ar 1084 .Occurrence] (.two .go (.two (.one (.two .go (.one (.loop [li 0 .YearRule,(3,.one (.own 1084)),ni 4,ni 5] [ar 1084 .Occurrence] (.two .go (.two (.one (gs 3 (.two (.join [li 0 .YearRule,(3,.one (.own 1084)),ni 4,ni 5,rf 8,ni 9] [bx 1008 .Occurrence,ar 1084 .Occurrence] (.one (.loop [li 0 .YearRule,(3,.one (.own 1084)),ni 4,ni 5,rf 8,ni 9] [bx 1008 .Occurrence,ar 1084 .Occurrence] (.two (.join [li 0 .YearRule,(3,.one (.own 1084)),ni 4,ni 5,rf 8,ni 9] [bx 1008 .Occurrence,ar 1084 .Occurrence] .go) .go)))) .go))) .go)))))) .go)))) kz0 (eC (QsL u) eN) Tryz.func344
def WD(o:D.Zone):Option (List D.Transition×Int):=optc (Qbi u o.Offset (-64800) 64800) fun E=>cnd (!E) (some ([],1)) (cd (16<(o.Rules.length:Int)) (some ([],5)) (Qg (X:=((Int×Int×Unit)×D.Zone×Unit)) (fun F ((p,h,_),f,_)=>cd (h<(f.Rules.length:Int)) (atc f.Rules h fun G=>optc (QoX u G) fun H=>cnd (!H) (some ([],1)) (atc f.Rules h fun I=>atc f.Rules h fun J=>F (((wrap .i64 (p+(wrap .i64 ((wrap .i64 (I.To - J.From))+1)))),(wrap .i64 (h+1)),()),f,()))) (cd (640<p) (some ([],5)) (optc (QeI u f.Rules) fun L=>Qg (X:=((List D.Occurrence×Int×Int×Unit)×List D.Transition×Unit)) (fun q ((b,c,e,_),a,_)=>cd (e<(b.length:Int)) (join (Y:=((List D.Occurrence×Int×Int×Unit)×List D.Transition×Unit)) (fun((r,s,t,_),v,_)=>q ((r,s,(wrap .i64 (t+1)),()),v,())) fun k=>atc b e fun w=>cd (w.Offset=c) (k ((b,c,e,()),a,())) (atc b e fun g=>atc b e fun i=>join (Y:=((List D.Occurrence×Int×Unit)×D.Transition×List D.Transition×Unit)) (fun((y,z,_),j,l,_)=>lec (l.length+[j].length) 34359738368 (k ((y,j.Offset,z,()),(l++[j]),()))) fun m=>optc (Qbi u (wrap .i64 (i.Offset - c)) (-86399) 86399) fun A=>cnd A (optc (Qbi u (wrap .i64 (g.At - c)) 0 8589934592) fun B=>cnd B (cd (0<(a.length:Int)) (natc (wrap .i64 ((a.length:Int) - 1)) fun n=>ltc n a.length (optc a[n]? fun C=>cd ((wrap .i64 ((wrap .i64 (g.At - c)) - C.At))<604800) (some ([],6)) (m ((b,e,()),(D.Transition.mk (wrap .i64 (g.At - c)) i.Offset),a,())))) (m ((b,e,()),(D.Transition.mk (wrap .i64 (g.At - c)) i.Offset),a,()))) (some ([],6))) (some ([],6)))) (some (a,0))) u ((L,f.Offset,0,()),[],())))) u ((0,0,()),o,())))
theorem VV:FO 309 (Qd [.st .Zone] [] [.one (.lst .Transition),nI] [] [] (List D.Transition×Int) kz2 (fun x y=>WD u x.1)):=fI u (gs 4 (.two (.two .go (.one (.loop [rf 1,ni 4,ni 5] [bx 1001 .Zone] .go))) (gs 4 (lp [(6,.one (.own 1115)),li 7 .Occurrence,ni 8,ni 9] [ar 1115 .Transition] (.two .go (.two (.join [(6,.one (.own 1115)),li 7 .Occurrence,ni 8,ni 9] [ar 1115 .Transition] (.one (gs 2 (.two (.join [(6,.one (.own 1115)),li 7 .Occurrence,ni 9,rf 10] [bx 1010 .Transition,ar 1115 .Transition] .go) .go)))) .go)))))) kz3 (eC (QeH u) (eC (QoY u) (eC (Qht u) eN))) Tryz.func309
def Qcw(a:D.Zone):Option Int:=optc (WD u a) fun(c,b)=>some b
theorem QiK:FO 229 (sI [.st .Zone] fun x=>Qcw u x.1):=fI u .go kz0 (eC (VV u) eN) Tryz.func229
def QgF(e:D.Zone):Option Bool:=nzc 60 (Qg (X:=((Bool×Int×Unit)×D.Zone×Unit)) (fun g ((f,a,_),b,_)=>cd (a<(b.Rules.length:Int)) (join (Y:=((Bool×Int×Unit)×D.Zone×Unit)) (fun((h,i,_),j,_)=>g ((h,(wrap .i64 (i+1)),()),j,())) fun c=>cnd f (atc b.Rules a fun k=>nzc 60 (cd ((Int.tmod k.Offset 60)=0) (c ((true,a,()),b,())) (c ((false,a,()),b,())))) (c ((false,a,()),b,()))) (some f)) u (((decide ((Int.tmod e.Offset 60)=0)),0,()),e,()))
theorem QlK:FO 230 (sB [.st .Zone] fun x=>QgF u x.1):=fI u (gs 2 (lp [rf 1,(3,.one .boo),ni 4] [bx 1001 .Zone] (.two .go (.two (.join [rf 1,(3,.one .boo),ni 4] [bx 1001 .Zone] .go) .go)))) kz0 eN Tryz.func230
def Wf(a:List ByteArray)(f:Int):Option Int:=natc f fun g=>ltc g a.length (optc a[g]? fun k=>optc (Qfz u k) fun l=>cnd (!l) (sameC a a (some 2)) (Qg (X:=((Int×Int×Unit)×List ByteArray×Unit)) (fun m ((c,e,_),b,_)=>cd (e<c) (natc e fun h=>ltc h b.length (optc b[h]? fun n=>natc c fun i=>ltc i b.length (optc b[i]? fun j=>cd (n=j) (sameC b a (some 4)) (m ((c,(wrap .i64 (e+1)),()),b,()))))) (sameC b a (some 0))) u ((f,0,()),a,())))
theorem QaK:FO 228 (Qd [.one (.own 101),nI] [ar 101 .str] [nI] [] [101] Int kz1 (fun x y=>Wf u y.1 x.1)):=fI u (gs 2 (lp [(0,.one (.own 101)),ni 1,ni 5] [ar 101 .str] .go)) kz0 (eC (QgE u) eN) Tryz.func228
def Qhv(k:D.Config):Option Int:=Qg (X:=((Int×Unit)×D.Config×List ByteArray×Unit)) (fun l ((a,_),b,c,_)=>cd (a<(b.Zones.length:Int)) (join (Y:=((Int×Unit)×D.Config×List ByteArray×Unit)) (fun((m,_),n,o,_)=>l (((wrap .i64 (m+1)),()),n,o,())) fun p=>atc b.Zones a fun e=>lec (c.length+[e.Name].length) 34359738368 (optc (Wf u (c++[e.Name]) a) fun f=>cd (f≠0) (some f) (atc b.Zones a fun g=>optc (Qcw u g) fun h=>cd (h≠0) (some 8) (atc b.Zones a fun i=>optc (QgF u i) fun j=>cnd j (p ((a,()),b,(c++[e.Name]),())) (some 8))))) (some 0)) u ((0,()),k,[],())
theorem Qo5:FO 165 (sI [.st .Config] fun x=>Qhv u x.1):=fI u (gs 2 (lp [rf 1,(3,.one (.own 1021)),ni 4] [bx 1001 .Config,ar 1021 .str] (.two .go (.two (.join [rf 1,(3,.one (.own 1021)),ni 4] [bx 1001 .Config,ar 1021 .str] .go) .go)))) kz0 (eC (QaK u) (eC (QiK u) (eC (QlK u) eN))) Tryz.func165
def VX(u:Nat)(a:Int)(b:Int)(c:Int):Option Bool:=cd (b<=a) (cd (a<=c) sT sF) sF
theorem QeK:FO 231 (sB [nI,nI,nI] fun x=>VX u x.1 x.2.1 x.2.2.1):=fI u .go kz0 eN Tryz.func231
def Qbj(f:List D.Window):Option Int:=cd (14<(f.length:Int)) (some 5) (Qg (X:=((List D.Window×Int×Unit)×Unit)) (fun m ((a,b,_),_)=>cd (b<(a.length:Int)) (join (Y:=((List D.Window×Int×Unit)×Unit)) (fun((n,o,_),_)=>m ((n,(wrap .i64 (o+1)),()),())) fun g=>join (Y:=((List D.Window×Int×Unit)×Unit)) (fun((e,c,_),_)=>cd (0<c) (atc e c fun p=>atc e (wrap .i64 (c - 1)) fun q=>cd (p.From<q.To) (some 6) (g ((e,c,()),()))) (g ((e,c,()),()))) fun h=>atc a b fun i=>cd (i.From<0) (some 1) (atc a b fun j=>atc a b fun k=>cd (k.To<=j.From) (some 1) (atc a b fun l=>cd (604800<l.To) (some 1) (h ((a,b,()),()))))) (some 0)) u ((f,0,()),()))
theorem QeJ:FO 232 (sI [.one (.lst .Window)] fun x=>Qbj u x.1):=fI u (gs 2 (lp [li 0 .Window,ni 3] [] (.two .go (.two (.join [li 0 .Window,ni 3] [] (.one (.two (.join [li 0 .Window,ni 3] [] .go) .go))) .go)))) kz0 eN Tryz.func232
def Qcy(a:Int):Option Bool:=optc (VX u a 0 604800) fun b=>cnd b (nzc 3600 (cd ((Int.tmod a 3600)=0) sT sF)) sF
theorem Qo3:FO 233 (sB [nI] fun x=>Qcy u x.1):=fI u .go kz0 (eC (QeK u) eN) Tryz.func233
def QfA(k:D.Config):Option Int:=Qg (X:=((Int×Unit)×D.Config×List ByteArray×Unit)) (fun l ((b,_),c,e,_)=>cd (b<(c.People.length:Int)) (join (Y:=((Int×Unit)×D.Config×List ByteArray×Unit)) (fun((m,_),n,o,_)=>l (((wrap .i64 (m+1)),()),n,o,())) fun p=>atc c.People b fun a=>lec (e.length+[a.Name].length) 34359738368 (cd (a.Name=(ByteArray.mk (List.toArray [110,111,98,111,100,121]))) (some 2) (optc (Wf u (e++[a.Name]) b) fun f=>cd (f≠0) (some f) (optc (VX u a.Zone 0 (wrap .i64 ((c.Zones.length:Int) - 1))) fun g=>cnd (!g) (some 3) (optc (Qbj u a.Quiet) fun h=>cd (h≠0) (some 8) (optc (Qcy u a.MaxWeek) fun i=>cnd i (optc (Qcy u a.MinRest) fun j=>cnd j (p ((b,()),c,(e++[a.Name]),())) (some 1)) (some 1))))))) (some 0)) u ((0,()),k,[],())
theorem Qnp:FO 166 (sI [.st .Config] fun x=>QfA u x.1):=fI u (gs 2 (lp [rf 1,(3,.one (.own 1023)),ni 4] [bx 1001 .Config,ar 1023 .str] (.two .go (.two (.join [rf 1,(3,.one (.own 1023)),ni 4] [bx 1001 .Config,ar 1023 .str] .go) .go)))) kz0 (eC (QaK u) (eC (QeK u) (eC (QeJ u) (eC (Qo3 u) eN)))) Tryz.func166
def Zi:Option Int:=optc (Qnk u 2241) fun a=>some (wrap .i64 (a - 1))
theorem Qdj:FO 234 (sI [] fun x=>Zi u):=fI u .go kz0 (eC (QkL u) eN) Tryz.func234
def QaJ(y:D.Config):Option Int:=Qg (X:=((Int×Unit)×D.Config×List ByteArray×Unit)) (fun z ((f,_),g,m,_)=>cd (f<(g.Calendars.length:Int)) (atc g.Calendars f fun e=>lec (m.length+[e.Name].length) 34359738368 (optc (Wf u (m++[e.Name]) f) fun o=>cd (o≠0) (some o) (optc (VX u e.Zone 0 (wrap .i64 ((g.Zones.length:Int) - 1))) fun A=>cnd (!A) (some 3) (cd (64<(e.Days.length:Int)) (some 5) (Qg (X:=((Int×Int×Unit)×D.Config×D.Calendar×List ByteArray×Unit)) (fun B ((p,n,_),h,a,i,_)=>cd (n<(a.Days.length:Int)) (atc a.Days n fun q=>optc (Zi u) fun r=>optc (VX u q 0 r) fun s=>cnd (!s) (some 1) (B ((p,(wrap .i64 (n+1)),()),h,a,i,()))) (Qg (X:=((Int×Int×Unit)×D.Config×D.Calendar×List ByteArray×Unit)) (fun t ((j,b,_),k,c,l,_)=>cd (b<(c.Days.length:Int)) (atc c.Days b fun v=>atc c.Days (wrap .i64 (b - 1)) fun w=>cd (v<=w) (some 6) (t ((j,(wrap .i64 (b+1)),()),k,c,l,()))) (z (((wrap .i64 (j+1)),()),k,l,()))) u ((p,1,()),h,a,i,()))) u ((f,0,()),g,e,(m++[e.Name]),())))))) (some 0)) u ((0,()),y,[],())
theorem Qi5:FO 167 (sI [.st .Config] fun x=>QaJ u x.1):=fI u (gs 2 (lp [rf 1,(3,.one (.own 1025)),ni 4] [bx 1001 .Config,ar 1025 .str] (.two .go (.two (.one (gs 5 (.two (.two .go (.one (.loop [rf 1,(3,.one (.own 1025)),ni 4,rf 5,ni 7] [bx 1001 .Config,bx 1005 .Calendar,ar 1025 .str] .go))) (.two .go (.one (.loop [rf 1,(3,.one (.own 1025)),ni 4,rf 5,ni 8] [bx 1001 .Config,bx 1005 .Calendar,ar 1025 .str] .go)))))) .go)))) kz0 (eC (QaK u) (eC (QeK u) (eC (Qdj u) eN))) Tryz.func167
def QeL(g:D.Config)(b:D.Layer):Option Int:=join (Y:=(Unit×D.Config×D.Layer×Unit)) (fun(_,q,r,_)=>Qg (X:=((Int×Unit)×D.Config×D.Layer×Unit)) (fun s ((e,_),f,a,_)=>cd (e<(a.Members.length:Int)) (atc a.Members e fun t=>optc (VX u t 0 (wrap .i64 ((f.People.length:Int) - 1))) fun v=>cnd (!v) (some 3) (s (((wrap .i64 (e+1)),()),f,a,()))) (join (Y:=(Unit×Unit)) (fun(_,_)=>some 0) fun c=>optc (Qbj u a.Windows) fun w=>cd (w≠0) (some 8) (optc (VX u a.Mode 0 2) fun h=>cnd (!h) (some 1) (cd (a.Mode≠0) (optc (VX u a.Calendar 0 (wrap .i64 ((f.Calendars.length:Int) - 1))) fun i=>cnd i (cd (a.Mode=0) (cd (a.Calendar≠0) (some 1) (c ((),()))) (c ((),()))) (some 3)) (cd (a.Mode=0) (cd (a.Calendar≠0) (some 1) (c ((),()))) (c ((),()))))))) u ((0,()),q,r,())) fun j=>optc (VX u b.Zone 0 (wrap .i64 ((g.Zones.length:Int) - 1))) fun k=>cnd (!k) (some 3) (optc (Zi u) fun l=>optc (VX u b.Start.Day 1 l) fun m=>cnd m (optc (VX u b.Start.Second 0 86399) fun n=>cnd n (optc (VX u b.Unit 0 2) fun o=>cnd o (optc (VX u b.Every 1 400) fun p=>cnd p (cd ((b.Members.length:Int)=0) (some 7) (cd (12<(b.Members.length:Int)) (some 5) (j ((),g,b,())))) (some 1)) (some 1)) (some 1)) (some 1))
theorem Qo4:FO 235 (sI [.st .Config,.st .Layer] fun x=>QeL u x.1 x.2.1):=fI u (.two .go (.two (.join [rf 2,rf 3] [bx 1002 .Config,bx 1003 .Layer] .go) (.two (.two .go (.one (.loop [rf 2,rf 3,ni 5] [bx 1002 .Config,bx 1003 .Layer] .go))) (.two (.join [] [] .go) .go)))) kz0 (eC (QeK u) (eC (QeJ u) (eC (Qdj u) eN))) Tryz.func235
def Qjq(c:D.Config)(a:D.Edit):Option Int:=join (Y:=(Unit×Unit)) (fun(_,_)=>some 0) fun b=>optc (VX u a.Kind 0 2) fun p=>cnd (!p) (some 1) (optc (VX u a.A 0 (wrap .i64 ((c.People.length:Int) - 1))) fun q=>cnd q (cd (a.Kind=2) (optc (VX u a.B 0 (wrap .i64 ((c.People.length:Int) - 1))) fun r=>cnd r (cd (a.Kind≠2) (cd (a.B≠0) (some 1) (cd (a.Kind=2) (cd (a.A=a.B) (some 4) (cd (a.From<0) (some 1) (cd (a.To<0) (some 1) (nzc 86400 (optc (Zi u) fun s=>cd (s<(wrap .i64 (Int.tdiv a.To 86400))) (some 1) (cd (a.To<=a.From) (some 6) (b ((),())))))))) (cd (a.From<0) (some 1) (cd (a.To<0) (some 1) (nzc 86400 (optc (Zi u) fun t=>cd (t<(wrap .i64 (Int.tdiv a.To 86400))) (some 1) (cd (a.To<=a.From) (some 6) (b ((),()))))))))) (cd (a.Kind=2) (cd (a.A=a.B) (some 4) (cd (a.From<0) (some 1) (cd (a.To<0) (some 1) (nzc 86400 (optc (Zi u) fun v=>cd (v<(wrap .i64 (Int.tdiv a.To 86400))) (some 1) (cd (a.To<=a.From) (some 6) (b ((),())))))))) (cd (a.From<0) (some 1) (cd (a.To<0) (some 1) (nzc 86400 (optc (Zi u) fun w=>cd (w<(wrap .i64 (Int.tdiv a.To 86400))) (some 1) (cd (a.To<=a.From) (some 6) (b ((),()))))))))) (some 3)) (cd (a.Kind≠2) (cd (a.B≠0) (some 1) (cd (a.Kind=2) (cd (a.A=a.B) (some 4) (cd (a.From<0) (some 1) (cd (a.To<0) (some 1) (nzc 86400 (optc (Zi u) fun y=>cd (y<(wrap .i64 (Int.tdiv a.To 86400))) (some 1) (cd (a.To<=a.From) (some 6) (b ((),())))))))) (cd (a.From<0) (some 1) (cd (a.To<0) (some 1) (nzc 86400 (optc (Zi u) fun z=>cd (z<(wrap .i64 (Int.tdiv a.To 86400))) (some 1) (cd (a.To<=a.From) (some 6) (b ((),()))))))))) (cd (a.Kind=2) (cd (a.A=a.B) (some 4) (cd (a.From<0) (some 1) (cd (a.To<0) (some 1) (nzc 86400 (optc (Zi u) fun e=>cd (e<(wrap .i64 (Int.tdiv a.To 86400))) (some 1) (cd (a.To<=a.From) (some 6) (b ((),())))))))) (cd (a.From<0) (some 1) (cd (a.To<0) (some 1) (nzc 86400 (optc (Zi u) fun f=>cd (f<(wrap .i64 (Int.tdiv a.To 86400))) (some 1) (cd (a.To<=a.From) (some 6) (b ((),())))))))))) (cd (a.Kind≠1) (some 3) (cd (a.A≠(-1)) (some 3) (cd (a.Kind=2) (optc (VX u a.B 0 (wrap .i64 ((c.People.length:Int) - 1))) fun g=>cnd g (cd (a.Kind≠2) (cd (a.B≠0) (some 1) (cd (a.Kind=2) (cd (a.A=a.B) (some 4) (cd (a.From<0) (some 1) (cd (a.To<0) (some 1) (nzc 86400 (optc (Zi u) fun h=>cd (h<(wrap .i64 (Int.tdiv a.To 86400))) (some 1) (cd (a.To<=a.From) (some 6) (b ((),())))))))) (cd (a.From<0) (some 1) (cd (a.To<0) (some 1) (nzc 86400 (optc (Zi u) fun i=>cd (i<(wrap .i64 (Int.tdiv a.To 86400))) (some 1) (cd (a.To<=a.From) (some 6) (b ((),()))))))))) (cd (a.Kind=2) (cd (a.A=a.B) (some 4) (cd (a.From<0) (some 1) (cd (a.To<0) (some 1) (nzc 86400 (optc (Zi u) fun j=>cd (j<(wrap .i64 (Int.tdiv a.To 86400))) (some 1) (cd (a.To<=a.From) (some 6) (b ((),())))))))) (cd (a.From<0) (some 1) (cd (a.To<0) (some 1) (nzc 86400 (optc (Zi u) fun k=>cd (k<(wrap .i64 (Int.tdiv a.To 86400))) (some 1) (cd (a.To<=a.From) (some 6) (b ((),()))))))))) (some 3)) (cd (a.Kind≠2) (cd (a.B≠0) (some 1) (cd (a.Kind=2) (cd (a.A=a.B) (some 4) (cd (a.From<0) (some 1) (cd (a.To<0) (some 1) (nzc 86400 (optc (Zi u) fun l=>cd (l<(wrap .i64 (Int.tdiv a.To 86400))) (some 1) (cd (a.To<=a.From) (some 6) (b ((),())))))))) (cd (a.From<0) (some 1) (cd (a.To<0) (some 1) (nzc 86400 (optc (Zi u) fun m=>cd (m<(wrap .i64 (Int.tdiv a.To 86400))) (some 1) (cd (a.To<=a.From) (some 6) (b ((),()))))))))) (cd (a.Kind=2) (cd (a.A=a.B) (some 4) (cd (a.From<0) (some 1) (cd (a.To<0) (some 1) (nzc 86400 (optc (Zi u) fun n=>cd (n<(wrap .i64 (Int.tdiv a.To 86400))) (some 1) (cd (a.To<=a.From) (some 6) (b ((),())))))))) (cd (a.From<0) (some 1) (cd (a.To<0) (some 1) (nzc 86400 (optc (Zi u) fun o=>cd (o<(wrap .i64 (Int.tdiv a.To 86400))) (some 1) (cd (a.To<=a.From) (some 6) (b ((),())))))))))))))
theorem Qqt:FO 236 (sI [.st .Config,.st .Edit] fun x=>Qjq u x.1 x.2.1):=fI u (gs 2 (.two (.join [] [] .go) .go)) kz0 (eC (QeK u) (eC (Qdj u) eN)) Tryz.func236
def QaL(C:D.Config):Option Int:=Qg (X:=((Int×Unit)×D.Config×List ByteArray×Unit)) (fun E ((k,_),s,t,_)=>cd (k<(s.Schedules.length:Int)) (atc s.Schedules k fun c=>lec (t.length+[c.Name].length) 34359738368 (optc (Wf u (t++[c.Name]) k) fun v=>cd (v≠0) (some v) (join (Y:=((Int×Unit)×D.Config×D.Schedule×List ByteArray×Unit)) (fun((F,_),G,H,I,_)=>Qg (X:=((Int×Int×Unit)×D.Config×D.Schedule×List ByteArray×List ByteArray×Unit)) (fun w ((l,a,_),e,b,m,f,_)=>cd (a<(b.Layers.length:Int)) (atc b.Layers a fun g=>lec (f.length+[g.Name].length) 34359738368 (optc (Wf u (f++[g.Name]) a) fun n=>cd (n≠0) (some n) (atc b.Layers a fun y=>optc (QeL u e y) fun o=>cd (o≠0) (some o) (w ((l,(wrap .i64 (a+1)),()),e,b,m,(f++[g.Name]),()))))) (Qg (X:=((Int×Int×Unit)×D.Config×D.Schedule×List ByteArray×Unit)) (fun z ((p,h,_),i,j,q,_)=>cd (h<(j.Edits.length:Int)) (atc j.Edits h fun A=>optc (Qjq u i A) fun r=>cd (r≠0) (some r) (z ((p,(wrap .i64 (h+1)),()),i,j,q,()))) (E (((wrap .i64 (p+1)),()),i,q,()))) u ((l,0,()),e,b,m,()))) u ((F,0,()),G,H,I,[],())) fun B=>cd (6<(c.Layers.length:Int)) (some 5) (cd (48<(c.Edits.length:Int)) (some 5) (B ((k,()),s,c,(t++[c.Name]),())))))) (some 0)) u ((0,()),C,[],())
theorem Qi6:FO 168 (sI [.st .Config] fun x=>QaL u x.1):=fI u (gs 2 (lp [rf 1,(3,.one (.own 1029)),ni 4] [bx 1001 .Config,ar 1029 .str] (.two .go (.two (.one (gs 3 (.two (.join [rf 1,(3,.one (.own 1029)),ni 4,rf 5] [bx 1001 .Config,bx 1005 .Schedule,ar 1029 .str] .go) (.two .go (.two (.two .go (.one (.loop [rf 1,(3,.one (.own 1029)),ni 4,rf 5,(7,.one (.own 1061)),ni 8] [bx 1001 .Config,bx 1005 .Schedule,ar 1029 .str,ar 1061 .str] .go))) (.two .go (.one (.loop [rf 1,(3,.one (.own 1029)),ni 4,rf 5,ni 11] [bx 1001 .Config,bx 1005 .Schedule,ar 1029 .str] .go)))))))) .go)))) kz0 (eC (QaK u) (eC (Qo4 u) (eC (Qqt u) eN))) Tryz.func168
def VW(a:D.Config):Option Int:=join (Y:=(Unit×D.Config×Unit)) (fun(_,b,_)=>optc (Qhv u b) fun c=>cd (c≠0) (some c) (optc (QfA u b) fun e=>cd (e≠0) (some e) (optc (QaJ u b) fun f=>cd (f≠0) (some f) (optc (QaL u b) fun g=>some g)))) fun h=>cd (16<(a.Zones.length:Int)) (some 5) (cd (32<(a.People.length:Int)) (some 5) (cd (8<(a.Calendars.length:Int)) (some 5) (cd (12<(a.Schedules.length:Int)) (some 5) (h ((),a,())))))
theorem QbO:FO 112 (sI [.st .Config] fun x=>VW u x.1):=fI u (.two .go (.two (.join [rf 1] [bx 1001 .Config] .go) .go)) kz0 (eC (Qo5 u) (eC (Qnp u) (eC (Qi5 u) (eC (Qi6 u) eN)))) Tryz.func112
def Qdm(h:List Int)(i:Int):Option Bool:=Qg (X:=((List Int×Int×Int×Unit)×Unit)) (fun j ((b,c,a,_),_)=>cd (a<(b.length:Int)) (join (Y:=((List Int×Int×Int×Unit)×Unit)) (fun((k,l,m,_),_)=>j ((k,l,(wrap .i64 (m+1)),()),())) fun e=>atc b a fun n=>cd (n<0) sF (atc b a fun o=>cd (c<=o) sF (cd (0<a) (atc b (wrap .i64 (a - 1)) fun f=>atc b a fun g=>cd (g<=f) sF (e ((b,c,a,()),()))) (e ((b,c,a,()),()))))) sT) u ((h,i,0,()),())
theorem Qig:FO 154 (sB [lI,nI] fun x=>Qdm u x.1 x.2.1):=fI u (.two .go (lp [(0,lI),ni 1,ni 5] [] (.two .go (.two (.join [(0,lI),ni 1,ni 5] [] .go) .go)))) kz0 eN Tryz.func154
def Qju(p:D.Config)(g:D.Book)(h:Int):Option Int:=atc g.Teams h fun i=>optc (Qfz u i.Name) fun q=>cnd (!q) (some 8) (Qg (X:=((Int×Int×Unit)×D.Config×D.Book×D.Team×Unit)) (fun r ((j,f,_),k,l,c,_)=>cd (f<j) (atc l.Teams f fun s=>cd (s.Name=c.Name) (some 4) (r ((j,(wrap .i64 (f+1)),()),k,l,c,()))) (cd ((c.Members.length:Int)=0) (some 7) (Qg (X:=((Int×Unit)×D.Config×D.Team×Unit)) (fun t ((b,_),e,a,_)=>cd (b<(a.Members.length:Int)) (atc a.Members (wrap .i64 (b - 1)) fun m=>atc a.Members b fun n=>cd (n<=m) (some 6) (t (((wrap .i64 (b+1)),()),e,a,()))) (optc (Qdm u a.Members (e.People.length:Int)) fun o=>cnd (!o) (some 3) (some 0))) u ((1,()),k,c,())))) u ((h,0,()),p,g,i,()))
theorem QqB:FO 169 (sI [.st .Config,.st .Book,nI] fun x=>Qju u x.1 x.2.1 x.2.2.1):=fI u (gs 3 (.two (.two .go (.one (.loop [ni 2,rf 3,rf 4,rf 7,ni 8] [bx 1003 .Config,bx 1004 .Book,bx 1007 .Team] .go))) (.two .go (lp [rf 3,rf 7,ni 9] [bx 1003 .Config,bx 1007 .Team] .go)))) kz0 (eC (Qig u) (eC (QgE u) eN)) Tryz.func169
def QQ(u:Nat)(a:Int)(b:Int)(c:Int):Option Bool:=cd (b<=a) (cd (a<=c) sT sF) sF
theorem Yp:FO 64 (sB [nI,nI,nI] fun x=>QQ u x.1 x.2.1 x.2.2.1):=fI u .go kz0 eN Tryz.func64
def Qdn(p:D.Config)(q:D.Book)(j:List D.Target):Option Int:=cd (6<(j.length:Int)) (some 5) (Qg (X:=((List D.Target×Int×Unit)×D.Config×D.Book×Unit)) (fun r ((b,c,_),e,f,_)=>cd (c<(b.length:Int)) (join (Y:=((List D.Target×Int×Unit)×D.Config×D.Book×Unit)) (fun((s,t,_),v,w,_)=>r ((s,(wrap .i64 (t+1)),()),v,w,())) fun y=>join (Y:=((List D.Target×Int×Int×Unit)×D.Config×D.Book×Unit)) (fun((g,h,k,_),l,m,_)=>atc g h fun n=>cd (n.Index<0) (some 3) (atc g h fun o=>cd (k<=o.Index) (some 3) (y ((g,h,()),l,m,())))) fun a=>atc b c fun i=>cd (i.Kind=0) (a ((b,c,(e.People.length:Int),()),e,f,())) (cd (i.Kind=1) (a ((b,c,(e.Schedules.length:Int),()),e,f,())) (cd (i.Kind=2) (a ((b,c,(f.Teams.length:Int),()),e,f,())) (a ((b,c,(-1),()),e,f,()))))) (some 0)) u ((j,0,()),p,q,()))
theorem QlL:FO 238 (sI [.st .Config,.st .Book,.one (.lst .Target)] fun x=>Qdn u x.1 x.2.1 x.2.2.1):=fI u (gs 2 (lp [li 2 .Target,rf 3,rf 4,ni 7] [bx 1003 .Config,bx 1004 .Book] (.two .go (.two (.join [li 2 .Target,rf 3,rf 4,ni 7] [bx 1003 .Config,bx 1004 .Book] (.one (.two .go (.two (.join [li 2 .Target,rf 3,rf 4,ni 7,ni 8] [bx 1003 .Config,bx 1004 .Book] .go) .go)))) .go)))) kz0 eN Tryz.func238
def QfD(s:D.Config)(j:D.Book)(k:Int):Option Int:=atc j.Policies k fun l=>optc (Qfz u l.Name) fun t=>cnd (!t) (some 8) (Qg (X:=((Int×Int×Unit)×D.Config×D.Book×D.Policy×Unit)) (fun v ((m,h,_),n,i,c,_)=>cd (h<m) (atc i.Policies h fun w=>cd (w.Name=c.Name) (some 4) (v ((m,(wrap .i64 (h+1)),()),n,i,c,()))) (cd ((c.Steps.length:Int)=0) (some 7) (cd (8<(c.Steps.length:Int)) (some 5) (optc (QQ u c.Repeat 0 8) fun y=>cnd (!y) (some 1) (Qg (X:=((Int×Unit)×D.Config×D.Book×D.Policy×Unit)) (fun o ((a,_),e,f,b,_)=>cd (a<(b.Steps.length:Int)) (atc b.Steps a fun p=>optc (QQ u p.Wait 0 86400) fun q=>cnd (!q) (some 1) (atc b.Steps a fun r=>optc (Qdn u e f r.Targets) fun g=>cd (g≠0) (some g) (o (((wrap .i64 (a+1)),()),e,f,b,())))) (some 0)) u ((0,()),n,i,c,())))))) u ((k,0,()),s,j,l,()))
theorem Qnv:FO 170 (sI [.st .Config,.st .Book,nI] fun x=>QfD u x.1 x.2.1 x.2.2.1):=fI u (gs 3 (.two (.two .go (.one (.loop [ni 2,rf 3,rf 4,rf 7,ni 8] [bx 1003 .Config,bx 1004 .Book,bx 1007 .Policy] .go))) (.two .go (lp [rf 3,rf 4,rf 7,ni 9] [bx 1003 .Config,bx 1004 .Book,bx 1007 .Policy] .go)))) kz0 (eC (Yp u) (eC (QgE u) (eC (QlL u) eN))) Tryz.func170
def Qnu(l:D.Config)(e:D.Book):Option Int:=join (Y:=(Unit×D.Config×D.Book×Unit)) (fun(_,m,n,_)=>Qg (X:=((Int×Unit)×D.Config×D.Book×Unit)) (fun o ((f,_),g,b,_)=>cd (f<(b.Teams.length:Int)) (optc (Qju u g b f) fun i=>cd (i≠0) (some i) (o (((wrap .i64 (f+1)),()),g,b,()))) (Qg (X:=((Int×Unit)×D.Config×D.Book×Unit)) (fun p ((h,_),j,a,_)=>cd (h<(a.Policies.length:Int)) (optc (QfD u j a h) fun c=>cd (c≠0) (some c) (p (((wrap .i64 (h+1)),()),j,a,()))) (some 0)) u ((0,()),g,b,()))) u ((0,()),m,n,())) fun k=>cd (8<(e.Teams.length:Int)) (some 5) (cd (12<(e.Policies.length:Int)) (some 5) (k ((),l,e,())))
theorem QqA:FO 113 (sI [.st .Config,.st .Book] fun x=>Qnu u x.1 x.2.1):=fI u (.two .go (.two (.join [rf 2,rf 3] [bx 1002 .Config,bx 1003 .Book] .go) (.two (.two .go (.one (.loop [rf 2,rf 3,ni 5] [bx 1002 .Config,bx 1003 .Book] .go))) (lp [rf 2,rf 3,ni 7] [bx 1002 .Config,bx 1003 .Book] .go)))) kz0 (eC (QqB u) (eC (Qnv u) eN)) Tryz.func113
def QeO(a:D.Config)(b:D.Book):Option Int:=optc (VW u a) fun c=>cd (c≠0) (some 8) (optc (Qnu u a b) fun e=>some e)
theorem QiM:FO 65 (sI [.st .Config,.st .Book] fun x=>QeO u x.1 x.2.1):=fI u .go kz0 (eC (QbO u) (eC (QqA u) eN)) Tryz.func65
def QkW(a:D.Config)(b:D.Book):Option (D.Ledger×Int):=optc (QeO u a b) fun c=>cd (c≠0) (some ((D.Ledger.mk 0 (D.Config.mk [] [] [] []) (D.Book.mk [] []) [] 0 0 [] []),c)) (some ((D.Ledger.mk 0 a b [] (-1) 0 [] []),0))
theorem Qmk:FO 16 (Qd [.st .Config,.st .Book] [] [.st .Ledger,nI] [] [] (D.Ledger×Int) kz2 (fun x y=>QkW u x.1 x.2.1)):=fI u .go kz3 (eC (QiM u) eN) Tryz.func16
end
end Go.Proofs.YtlllfgmajglnhaaGreat
