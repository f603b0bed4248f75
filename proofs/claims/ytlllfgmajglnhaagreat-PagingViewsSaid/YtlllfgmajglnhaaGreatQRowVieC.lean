/-
  The typed layer, part N: the code of a function; its contract. No project text.
-/
import Derived.Test.YtlllfgmajglnhaaGreatQRowVieB
import Derived.Test.YtlllfgmajglnhaaGreatProg
import Derived.RangeFuncNested
import Derived.RangeFuncBound
import Derived.RangeFuncCalls
import Derived.RangeFuncLeaves
import Derived.Shelf.Abstract
import Derived.Shelf.RegionOpen
import Derived.WalkKit
import Derived.OwnWalkIn
import Derived.TacticsInMore
import Derived.LoopNIn
import Derived.LoopIn
import Derived.Scope
import Derived.Shelf.Spec.SlicesInsertGrow
set_option linter.defProp false
set_option linter.unusedVariables false
set_option linter.unusedSimpArgs false
namespace Go.Proofs.YtlllfgmajglnhaaGreat.AM
open Go
section
def QxC{ops:Array Oper}{o:Oper}(h:QBU ops=true)(ho:ops[ops.size - 1]?=some o):o.guard=none/\∀j,j<ops.size - 1->((masks ops.toList []).getD (ops.size - 1) 0).testBit j=true:=by
 unfold QBU at h
 grind
variable {L L':Lens} {ts ts':TS} {hs hs':HS}
section
variable {R:Type} {r:R} {P:AF} {ty:AD->O TC} {E:Env} {gn:Y Name} {nn fu:Nat} {Γ:Ctx}
def QK(K:Cont R)(r:R):Exit->AS->Prop:=fun e s'=>∃ts' hs' L',s'=BS L' ts' hs'/\Inv L' hs'/\K e ts' hs'=some r
def QzH{o:Y (Name×OSh)}{n:Name}(hn:n∈gn):QxA gn o hs n=true:=by
 unfold QxA
 split
 .rw[Wa.2 hn,CK]
 .rfl
def QzG{o:Y (Name×OSh)}{n:Name}(hn:n∈gn):QrE gn o ts hs n=true:=by
 unfold QrE
 split
 .rw[Wa.2 hn,Bb,Bb]
 .rfl
def Qil{s:Y (Nat×SSh)}{o:Y (Name×OSh)}{K:STL s×OL o->O R}(hgn:Γ.names=gn)(h:QoV gn s o ts hs K=some r)(hi:Inv L hs):
  ∃x L',K x=some r/\Inv L' (OL.put 0 o x.2)/\Weak Γ (BS L ts hs) (BS L' (STL.put 0 s x.1) (OL.put 0 o x.2)):=by
 unfold QoV at h
 simp only[QlD]at h
 obtain⟨ts1,hs1,h,hi1,hw1⟩:=QdD hgn h (hi.trim (f:=QxA gn o hs))
 obtain⟨ts2,hs2,L2,h,hi2,hw2⟩:=Qb6 (Γ:=Γ) h (hi1.trim (f:=QrE gn o ts1 hs1))
 obtain⟨hs2',L2',h,hi2',hw2'⟩:=Qhe (Γ:=Γ) h hi2
 obtain⟨x,L3,h,hi3,hle,hk⟩:=Qxo h hi2'
 refine⟨x,L3,h,hi3,fun ρ M a w hs0=>?_⟩
 obtain⟨ρ1,M1,h1⟩:=hw1 ρ M a w (hs0.only (f:=QC1 s) (g:=QxA gn o hs) fun n hn=>QzH (by rw[<-hgn];exact hn))
 have h1':Sim Γ ρ1 M1 (BS L ts1 (Qfp (QrE gn o ts1 hs1) [] hs1)) a w:=by
  have h2:=h1.only (f:=fun _=>true) (g:=QrE gn o ts1 hs1) fun n hn=>QzG (by rw[<-hgn];exact hn)
  refine h2.congr (fun t=>?_) (fun n=>rfl)
  show(BS L ts1 (Qfp (QrE gn o ts1 hs1) [] hs1)).slot t=(BS L (Qfp (fun _=>true) [] ts1) (Qfp (QrE gn o ts1 hs1) [] hs1)).slot t
  rw[XF,XF,Uc];rfl
 obtain⟨ρ2',M2',h2'⟩:=hw2 ρ1 M1 a w h1'
 obtain⟨ρ2,M2,h2⟩:=hw2' ρ2' M2' a w h2'
 have h3:Sim Γ ρ2 M2 (BS L2' (QAt hs2' s ts2) hs2') a w:=by
  refine h2.leS (fun t y hy=>?_) (fun n=>⟨fun y hy=>⟨y,hy,.refl _⟩,fun x hx=>⟨x,hx,.refl _⟩⟩) (fun n x y hx hy=>?_)
  .obtain⟨y',hy',rfl⟩:=QqD hy
   obtain⟨x',hx',hle'⟩:=QAu hi2' hy'
   exact⟨x'.er L2',by rw[XF,hx'];rfl,hle'⟩
  .rw[XE]at hx hy;rw[hx]at hy;cases hy;exact .inl rfl
 exact⟨ρ2,M2,h3.sle hle (by rw[hgn];exact hk)⟩
def Qfu{c:Code}{an:Ann}{K:Cont R}{body:Ann->TS->HS->Cont R->O R}(hgn:Γ.names=gn)(h:around gn an ts hs K body=some r)(hi:Inv L hs)(hb:∀an ts hs L K,body an ts hs K=some r->Inv L hs->TJ P Γ c (BS L ts hs) (QK K r)):TJ P Γ c (BS L ts hs) (QK K r):=by
 unfold around at h
 split at h
 .rename_i s o a
  refine TJ.post ((hb _ _ _ L _ h hi).mono fun e s'=>?_)
  rintro⟨ts',hs',L',rfl,hi',hk⟩
  cases e with
  |normal=>
   obtain⟨x,L2,h2,hi2,hw⟩:=Qil hgn hk hi'
   exact⟨_,hw,_,_,L2,rfl,hi2,h2⟩
  |_=>exact⟨_,Weak.refl _ _,_,_,L',rfl,hi',hk⟩
 .obtain⟨ts1,hs1,h,hi1,hw1⟩:=QdD hgn h hi
  exact TJ.weaken _ (fun ρ M a w hs0=>hw1 ρ M a w hs0) (hb _ _ _ L _ h hi1)
 .exact hb _ _ _ L _ h hi
def Qns[AL R](hE:QqQ P E)(hgn:Γ.names=gn)(hn:Γ.n=nn):∀(c:Code) (an:Ann) (ts:TS) (hs:HS) (L:Lens) (K:Cont R),vc P ty E gn nn fu c an ts hs K=some r->Inv L hs->TJ P Γ c (BS L ts hs) (QK K r)
 |.skip,an,ts,hs,L,K,h,hi=>TJ.skip ⟨_,_,L,rfl,hi,by simpa only[vc]using h⟩
 |.label _,an,ts,hs,L,K,h,hi=>TJ.label ⟨_,_,L,rfl,hi,by simpa only[vc]using h⟩
 |.ret,an,ts,hs,L,K,h,hi=>TJ.ret ⟨_,_,L,rfl,hi,by simpa only[vc]using h⟩
 |.exit id,an,ts,hs,L,K,h,hi=>TJ.exit ⟨_,_,L,rfl,hi,by simpa only[vc]using h⟩
 |.seq a b,an,ts,hs,L,K,h,hi=>by
  simp only[vc]at h
  refine Qfu hgn h hi fun an ts hs L K h hi=>TJ.seq ((Qns hE hgn hn a _ _ _ L _ h hi).mono fun e s'=>?_)
  rintro⟨ts',hs',L',rfl,hi',hk⟩
  cases e with
  |normal=>exact Qns hE hgn hn b _ _ _ L' _ hk hi'
  |_=>exact⟨_,_,L',rfl,hi',hk⟩
 |.cond (.tmp t) a b,an,ts,hs,L,K,h,hi=>by
  simp only[vc]at h
  refine Qfu hgn h hi fun an ts hs L K h hi=>?_
  split at h
  .rename_i q hl
   refine TJ.cond q (by rw[XF,hl];simp only[Aa,BV.er]) (fun hq=>?_) (fun hq=>?_)
   .subst hq;exact Qns hE hgn hn a _ _ _ L _ h hi
   .subst hq;exact Qns hE hgn hn b _ _ _ L _ h hi
  .rename_i hl
   obtain⟨h1,h2⟩:=QwT h
   intro ρ M w0 w hs0
   obtain⟨u,hu,hr⟩:=hs0.slots t _ (show(BS L ts hs).slot t=some .ub by rw[XF,hl];simp only[Aa,BV.er])
   simp only[AV.R]at hr
   obtain⟨q,rfl⟩:=hr
   have he:w0.eval (.tmp t)=.bool q:=by simp[Act.eval,BJ,hu]
   cases q with
   |true=>exact wp_cond_true he (Qns hE hgn hn a _ _ _ L _ h1 hi ρ M w0 w hs0)
   |false=>exact wp_cond_false he (Qns hE hgn hn b _ _ _ L _ h2 hi ρ M w0 w hs0)
  .simp at h
 |.cond (.const c) a b,an,ts,hs,L,K,h,hi=>by
  cases c with
  |bool q=>
   simp only[vc]at h
   refine Qfu hgn h hi fun an ts hs L K h hi=>?_
   cases q with
   |true=>exact fun ρ M w0 w hs0=>wp_cond_true rfl (Qns hE hgn hn a _ _ _ L _ h hi ρ M w0 w hs0)
   |false=>exact fun ρ M w0 w hs0=>wp_cond_false rfl (Qns hE hgn hn b _ _ _ L _ h hi ρ M w0 w hs0)
  |_=>simp[vc]at h
 |.cond (.global _) a b,an,ts,hs,L,K,h,hi=>by simp[vc]at h
 |.cond (.func _) a b,an,ts,hs,L,K,h,hi=>by simp[vc]at h
 |.block id a,an,ts,hs,L,K,h,hi=>by
  simp only[vc]at h
  refine Qfu hgn h hi fun an ts hs L K h hi=>TJ.block ((Qns hE hgn hn a _ _ _ L _ h hi).mono fun e s'=>?_)
  rintro⟨ts',hs',L',rfl,hi',hk⟩
  cases e with
  |exit k=>
   simp only[Qoi]
   simp only[QAC]at hk
   split at hk
   .rename_i he;rw[iB (nbe he)];exact⟨_,_,L',rfl,hi',hk⟩
   .rename_i he;rw[iA (fun e=>he (by rw[e];exact B2 _))];exact⟨_,_,L',rfl,hi',hk⟩
  |_=>exact⟨_,_,L',rfl,hi',hk⟩
 |.loop a,an,ts,hs,L,K,h,hi=>by
  simp only[vc]at h
  split at h
  .rename_i s o an
   obtain⟨x,L1,h,hi1,hw⟩:=Qil hgn h hi
   refine TJ.weaken _ hw (TJ.loop (fun m s'=>∃x L',s'=BS L' (STL.put 0 s x.1) (OL.put 0 o x.2)/\Inv L' (OL.put 0 o x.2)/\Qe (fun Lp x=>vc P ty E gn nn fu a an (STL.put 0 s x.1) (OL.put 0 o x.2) (QzS K fun ts hs=>QoV gn s o ts hs Lp)) m x=some r)
    ⟨fu,x,L1,rfl,hi1,h⟩ ?_)
   rintro m s' ⟨x,L',rfl,hi',hm⟩
   cases m with
   |zero=>simp[Qe]at hm
   |succ m=>
    simp only[Qe]at hm
    refine TJ.post ((Qns hE hgn hn a _ _ _ L' _ hm hi').mono fun e s'=>?_)
    rintro⟨ts2,hs2,L2,rfl,hi2,hk⟩
    cases e with
    |normal=>
     obtain⟨x',L3,h3,hi3,hw3⟩:=Qil hgn hk hi2
     exact⟨_,hw3,m,Nat.lt_succ_self m,x',L3,rfl,hi3,h3⟩
    |_=>exact⟨_,Weak.refl _ _,_,_,L2,rfl,hi2,hk⟩
  .simp at h
 |.region id ops dr,an,ts,hs,L,K,h,hi=>by
  simp only[vc]at h
  refine Qfu hgn h hi fun an ts hs L K h hi=>?_
  cases dr with
  |false=>
   intro ρ M a w hs0
   refine wp_region ?_
   have:=Qyg (gn:=gn) (Γ:=Γ) (ops:=ops) (Q:=fun e a' w'=>∃s' ρ' M',QK K r e s'/\Sim Γ ρ' M' s' a' w') hE hgn hn (fun ts' hs' L' ρ' M' a' w' hk hi' hs'=>⟨_,ρ',M',⟨_,_,L',rfl,hi',hk⟩,hs'⟩) ops.size 0 ts hs L h hi ρ M a w hs0
   rwa [Bj,<-Ed]at this
  |true=>
   simp only at h
   split at h
   case isFalse=>simp at h
   rename_i hm
   split at h
   .rename_i hlb
    obtain⟨rows,ts',hs',L',hk,hi',hst,hts,hhs,hg⟩:=QgE hE (ops.size - 1) 0 [] ts hs L h hi
    change (if Qmp ops (rows++[noB]) ts hs=true then(match ops[ops.size - 1]? with
     |some o=>exK P ty E gn nn (guarded ops) [] o ts' hs' (fun ts hs=>K .normal ts hs)
     |none=>none)else none)=some r at hk
    by_cases hind:Qmp ops (rows++[noB]) ts hs=true
    case neg=>rw[iA hind]at hk;simp at hk
    rw[iB hind]at hk
    cases hop:ops[ops.size - 1]? with
    |none=>rw[hop]at hk;simp at hk
    |some o=>
    rw[hop]at hk
    replace hk:exK P ty E gn nn (guarded ops) [] o ts' hs' (fun ts hs=>K .normal ts hs)=some r:=hk
    have h0:0<ops.size:=by
     grind
    obtain⟨hg0,hmask⟩:=QxC hlb hop
    show TJ P Γ _ (mk (erT L ts) (erH L hs)) _
    rw[hts,hhs]
    have hrow:(rows++[noB]).map (BRow.row L')=rows.map (BRow.row L')++[QdJ]:=by simp[noB,QdJ,BRow.row,ev,erT,erH,BV.er]
    have hind':=QrC hind L'
    rw[hrow]at hind'
    refine TJ.drawX hn (by rw[hm,Bb]) h0 _ hst hg hind' hmask fun KK hKK=>?_
    exact Qxk hE hgn hn hk (fun t v h=>by simp at h) (fun t v h=>by simp at h) Ob hi' hop (fun ρ M a w _=>by simp[Region.wanted,hg0]) (fun ts2 hs2 L2 ρ' M' a' w' hk2 hi2 hs2'=>hKK _ ρ' M' a' w' ⟨_,_,L2,rfl,hi2,hk2⟩ hs2')
   obtain⟨rows,ts',hs',L',hk,hi',hst,hts,hhs,hg⟩:=QgE hE ops.size 0 [] ts hs L h hi
   change (if Qmp ops rows ts hs=true then K .normal ts' hs' else none)=some r at hk
   split at hk
   case isFalse=>simp at hk
   rename_i hind
   show TJ P Γ _ (mk (erT L ts) (erH L hs)) _
   rw[hts,hhs]
   exact TJ.drawG hn (by rw[hm,Bb]) _ hst hg (QrC hind L') ⟨_,_,L',rfl,hi',hk⟩
 |.rangeFunc ..,an,ts,hs,L,K,h,hi=>by simp[vc]at h
 |.scope _,an,ts,hs,L,K,h,hi=>by simp[vc]at h
 |.goto _,an,ts,hs,L,K,h,hi=>by simp[vc]at h
 |.refuse _,an,ts,hs,L,K,h,hi=>by simp[vc]at h
end
section
variable {R:Type} (P:AF)
def resV(ts:TS)(hs:HS):ResultVar->O BV
 |.tmp t=>C t ts
 |.cell t T=>match C t ts with
  |some (.TN n 0)=>match C n hs with
   |some (.box cells)=>if aggT P T then(match Zk P T with|some z=>if Nat.beq z cells.length then some (.agg cells)else none|none=>none)
    else if QcK P T then(match cells with|[v]=>some v|_=>none)else none
   |_=>none
  |_=>none
def QtP(ts:TS)(hs:HS):Y ResultVar->O (Y BV)
 |[]=>some []
 |x::q=>match resV P ts hs x,QtP ts hs q with
  |some v,some vs=>some (v::vs)
  |_,_=>none
def Sh.owns:Sh->Y Name
 |.own nm=>[nm]
 |.view nm=>[nm]
 |_=>[]
def SSh.owns:SSh->Y Name
 |.one s=>s.owns
 |.st _=>[]
 |.agg l=>l.flatMap Sh.owns
def OSh.owns:OSh->Y Name
 |.box l=>l.flatMap Sh.owns
 |_=>[]
def arrB(l:Y (Name×OSh))(n:Name):AH:=match C n l with
 |some (.TI _)=>true
 |_=>false
def TE{α:Type}[AL α](a b:α)(x:O R):O R:=if a=b then x else none
def QiR(hs:HS):(l:Y (Name×OSh))->Y Name->OL l->O R->O R
 |[],_,_,x=>x
 |(nm,.TI t)::l,ks,y,x=>if isIn nm ks then(match C nm hs with
   |some (.TI t' z _)=>if h:t'=t then TE (Qq5 h z) y.1 (QiR hs l ks y.2 x)else none
   |_=>none)else QiR hs l ks y.2 x
 |(nm,.box _)::l,ks,y,x=>if isIn nm ks then none else QiR hs l ks y.2 x
 |(nm,.arrs _)::l,ks,y,x=>if isIn nm ks then none else QiR hs l ks y.2 x
 |(nm,.sm)::l,ks,y,x=>if isIn nm ks then none else QiR hs l ks y.2 x
 |(nm,.TV t)::l,ks,y,x=>if isIn nm ks then(match C nm hs with
   |some (.box cs)=>tpop t cs fun z rest=>match rest with
    |[]=>TE z y.1 (QiR hs l ks y.2 x)
    |_=>none
   |_=>none)else QiR hs l ks y.2 x
def Qyv:Y ResultVar->Y SSh->Y (Nat×SSh)
 |.tmp t::r,s::q=>(t,s)::Qyv r q
 |_::r,_::q=>Qyv r q
 |_,_=>[]
def Qt7(ts:TS):Y ResultVar->Y SSh->Y (Name×OSh)
 |.cell t _::r,.agg l::q=>(match C t ts with
  |some (.TN m 0)=>(m,.box l)::Qt7 ts r q
  |_=>Qt7 ts r q)
 |_::r,_::q=>Qt7 ts r q
 |_,_=>[]
def endK(gn:Y Name)(rs:Y ResultVar)(g:Sig)(y:OL g.pre)(K:SL g.res->OL g.post->O R)(ts:TS)(hs:HS):O R:=
 Qn3 g.post (Qyv rs g.res) ts hs fun ts hs=>Qv4 g.post ts (Qt7 ts rs g.res) hs fun hs=>match QtP P ts hs rs with
 |none=>none
 |some vs=>Ta gn (QaI g.post hs g.res vs) ts hs fun ts hs=>match QtP P ts hs rs with
  |none=>none
  |some vs=>SL.get g.res (QqK hs g.res vs) [] fun σ a=>OL.get g.post hs ((keys g.post).map (fun n=>(n,(n,QDp n hs)))++σ) fun σ b=>
    if QBQ σ && (keys g.pre).all (fun n=>isIn n (keys g.post) || isIn n g.keep) && g.keep.all (fun n=>isIn n (keys g.pre)) && (g.res.flatMap SSh.owns).all (arrB g.post) && (g.post.flatMap fun p=>p.2.owns).all (arrB g.post)then QiR hs g.pre g.keep y (K a b)else none
end
end
section
variable {L L':Lens} {ts ts':TS} {hs hs':HS}
def QxM{M:Nat->Prop}{ρ:Name->Loc}{h h':Y (Name×AO)}(h1:∀n o',C n h'=some o'->∃o,C n h=some o)(h2:∀n o,C n h=some o->∃o',C n h'=some o'):newM M ρ h=newM M ρ h':=by
 funext b
 exact propext (or_congr_right ⟨fun⟨n,o,k1,k2⟩=>by obtain⟨o',k3⟩:=h2 n o k1;exact⟨n,o',k3,k2⟩,fun⟨n,o,k1,k2⟩=>by obtain⟨o',k3⟩:=h1 n o k1;exact⟨n,o',k3,k2⟩⟩)
def After.le{ρ:Name->Loc}{M:Nat->Prop}{w:AG}{pre:Y (Name×AO)}{u:AE}{v v':AV}{h h':Y (Name×AO)}{ρ':Name->Loc}{w':AG}(ha:After ρ M w pre u v h ρ' w')(hv:∀(ρ:Name->Loc) (H:Heap) (M:Nat->Prop) (w:AG) (u:AE),v.R ρ H M w u->v'.R ρ H M w u)(h1:∀n o',C n h'=some o'->∃o,C n h=some o/\(o=o'\/∃cs ds,o=.box cs/\o'=.box ds/\X7 cs ds))(h2:∀n o,C n h=some o->∃o',C n h'=some o'):After ρ M w pre u v' h' ρ' w':=by
 have hM:newM M ρ' h=newM M ρ' h':=QxM (fun n o' hn=>by obtain⟨o,k,_⟩:=h1 n o' hn;exact⟨o,k⟩) h2
 have hst:Qdy ρ' (XV h) ρ' (XV h'):=fun n o hn=>by
  obtain⟨o',ho'⟩:=h2 n o hn
  obtain⟨o2,ho2,hle⟩:=h1 n o' ho'
  change C n h=some o at hn
  rw[hn]at ho2;cases ho2
  change stays o (ρ' n) (C n h') (ρ' n)
  rw[ho']
  rcases hle with rfl|⟨cs,ds,rfl,rfl,_⟩
  .exact Zi _ _
  .rfl
 have hnn:∀n,XV h n=none->XV h' n=none:=fun n hn=>by
  cases hc:XV h' n with
  |none=>rfl
  |some o'=>
   obtain⟨o,ho,_⟩:=h1 n o' hc
   change C n h=none at hn
   simp_all
 have hconvs:∀{xs:Y AV} {us:Y AE},AV.Rs ρ' (XV h) (newM M ρ' h) w' xs us->AV.Rs ρ' (XV h') (newM M ρ' h) w' xs us:=fun hr=>
  hr.step (Ext.refl (fun _=>False) _) (fun _ hb=>hb.elim) (fun b _ hb=>hb) hst (fun n _=>hnn n)
 refine⟨?_,fun n o' hn=>?_,fun n m o o' b g1 g2=>?_,fun n o b g1 g2=>?_,ha.ext,fun n o hn=>?_⟩
 .rw[<-hM]
  exact hv _ _ _ _ _ (ha.val.step (Ext.refl (fun _=>False) _) (fun _ hb=>hb.elim) (fun b _ hb=>hb) hst (fun n _=>hnn n))
 .obtain⟨o,ho,hle⟩:=h1 n o' hn
  have hobj:=ha.objs n o ho
  rw[<-hM]
  rcases hle with rfl|⟨cs,ds,rfl,rfl,hle⟩
  .cases o with
   |box cells=>obtain⟨b,T,cs,k1,k2,k3,k4⟩:=hobj;exact⟨b,T,cs,k1,k2,k3,hconvs k4⟩
   |TI es rows=>exact hobj
   |hole es pre row post=>obtain⟨k0,k0',k1,b,T,cs,k3,k4,k5,k6,k7,k8,k9⟩:=hobj;exact⟨k0,k0',k1,b,T,cs,k3,k4,k5,k6,k7,hconvs k8,k9⟩
   |fact a x=>exact⟨hobj.1,hobj.2.step (Ext.refl (fun _=>False) _) (fun _ hb=>hb.elim) (fun b _ hb=>hb) hst (fun n _=>hnn n)⟩
   |obj x=>exact hobj
  .obtain⟨b,T,us',k1,k2,k3,k4⟩:=hobj
   exact⟨b,T,us',k1,k2,k3,Qwh hle _ (hconvs k4)⟩
 .obtain⟨p,k1,_⟩:=h1 n o g1
  obtain⟨q,k2,_⟩:=h1 m o' g2
  exact ha.inj n m p q b k1 k2
 .obtain⟨p,k1,_⟩:=h1 n o g1
  exact ha.own n p b k1 g2
 .obtain⟨o1,k1,k2⟩:=ha.keep n o hn
  obtain⟨o2,k3⟩:=h2 n o1 k1
  refine⟨o2,k3,?_⟩
  obtain⟨o3,k4,hle⟩:=h1 n o2 k3
  rw[k1]at k4;cases k4
  rcases hle with rfl|⟨cs,ds,rfl,rfl,_⟩
  .exact k2
  .cases o<;>simp only[stays]at k2|-<;>exact k2
section
variable {u v:Nat}
def Sh.put_ver{s:Sh}{zF:Type}{x:s.prod zF}(h:∀n,n∈s.owns->L n u=L' n v):(s.put u zF x).1.er L=(s.put v zF x).1.er L'/\(s.put u zF x).2=(s.put v zF x).2:=by
 cases s with
 |own nm=>exact⟨by simp only[Sh.put,BV.er];rw[h nm (by simp[Sh.owns])],rfl⟩
 |view nm=>exact⟨by simp only[Sh.put,BV.er];rw[h nm (by simp[Sh.owns])],rfl⟩
 |clo f caps=>exact⟨by simp only[Sh.put,BV.er];congr 1;simp only[Ur,CY];exact Bo fun n _=>by simp only[Function.comp,BV.er],rfl⟩
 |_=>exact⟨by simp only[Sh.put,BV.er],rfl⟩
def TL.put_ver:∀{l:Y Sh} {x:TL l},(∀n,n∈l.flatMap Sh.owns->L n u=L' n v)->erL L (TL.put u l x)=erL L' (TL.put v l x)
 |[],x,_=>by simp only[TL.put,erL]
 |s::r,x,h=>by
  have h1:=Sh.put_ver (s:=s) (x:=x) (L:=L) (L':=L') (u:=u) (v:=v) (fun n hn=>h n (by simp[hn]))
  have h2:=TL.put_ver (l:=r) (x:=(s.put u _ x).2) (fun n hn=>h n (by rw[EO];exact CD _ hn))
  simp only[TL.put,erL,h1.1,h2]
  rw[h1.2]
def SSh.put_ver{s:SSh}{zF:Type}{x:s.prod zF}(h:∀n,n∈s.owns->L n u=L' n v):(s.put u zF x).1.er L=(s.put v zF x).1.er L'/\(s.put u zF x).2=(s.put v zF x).2:=by
 cases s with
 |one s=>exact Sh.put_ver h
 |st t=>simp only[SSh.put,BV.er,and_true];rw[VU (Qea t x.1),VU (Qea t x.1)]
 |agg l=>simp only[SSh.put,BV.er,and_true];rw[TL.put_ver h]
def SL.put_ver:∀{l:Y SSh} {x:SL l},(∀n,n∈l.flatMap SSh.owns->L n u=L' n v)->erL L (SL.put u l x)=erL L' (SL.put v l x)
 |[],x,_=>by simp only[SL.put,erL]
 |s::r,x,h=>by
  have h1:=SSh.put_ver (s:=s) (x:=x) (L:=L) (L':=L') (u:=u) (v:=v) (fun n hn=>h n (by simp[hn]))
  have h2:=SL.put_ver (l:=r) (x:=(s.put u _ x).2) (fun n hn=>h n (by rw[EO];exact CD _ hn))
  simp only[SL.put,erL,h1.1,h2]
  rw[h1.2]
def OSh.put_ver{s:OSh}{x:s.T}(h:∀n,n∈s.owns->L n u=L' n v):(s.put u x).er L=(s.put v x).er L':=by
 cases s with
 |box l=>exact BD AO.box (TL.put_ver (l:=l) (x:=x) h)
 |TV t=>simp only[OSh.put,BO.er];rw[VU (Qea t x),VU (Qea t x)]
 |TI t=>simp only[OSh.put,BO.er]
 |arrs t=>simp only[OSh.put,BO.er]
 |sm=>simp only[OSh.put,BO.er]
end
def Qtj{u:Nat}{n:Name}{b:BO}:∀{l:Y (Name×OSh)} {y:OL l},C n (OL.put u l y)=some b->∃(p:Name×OSh) (x:p.2.T),p∈l/\C n l=some p.2/\b=p.2.put u x/\∀w,C n (OL.put w l y)=some (p.2.put w x)
 |[],y,h=>by change C n []=some b at h;simp[C]at h
 |p::l,y,h=>by
  change C n ((p.1,p.2.put u y.1)::OL.put u l y.2)=some b at h
  simp only[C]at h
  split at h
  .rename_i e
   cases h
   refine⟨p,y.1,Ob,by obtain⟨k,o⟩:=p;simp only[C];rw[iB e],rfl,fun w=>?_⟩
   change C n ((p.1,p.2.put w y.1)::OL.put w l y.2)=_
   simp only[C];rw[iB e]
  .rename_i e
   obtain⟨q,x,h1,h2,h3,h4⟩:=Qtj h
   refine⟨q,x,BB _ h1,by obtain⟨k,o⟩:=p;simp only[C];rw[iA e];exact h2,h3,fun w=>?_⟩
   change C n ((p.1,p.2.put w y.1)::OL.put w l y.2)=_
   simp only[C];rw[iA e];exact h4 w
def Qca:Nat->Y BV->TS
 |_,[]=>[]
 |i,x::r=>(i,x)::Qca (i+1) r
def QlJ:∀(i:Nat) (l:Y BV),Qby i (erL L l)=erT L (Qca i l)
 |_,[]=>by simp only[erL,Qby,Qca];rfl
 |i,x::r=>by simp only[erL,Qby,Qca,QlJ (i+1) r];rfl
def X7.Ts{ρ:Name->Loc}{H:Heap}{M:Nat->Prop}{w:AG}:∀{xs ys:Y AV} {us:Y AE},X7 xs ys->AV.Ts ρ H M w xs us->AV.Ts ρ H M w ys us
 |[],ys,us,h,hr=>by cases h;exact hr
 |x::xs,ys,us,h,hr=>by
  cases h with
  |cons h1 h2=>
   simp only[AV.Ts]at hr |-
   obtain⟨u,us',rfl,h3,h4⟩:=hr
   exact⟨u,us',rfl,h1.sound u h3,X7.Ts h2 h4⟩
def Qym{vs ws:Y BV}(h:X7 (erL L vs) (erL L' ws))(ρ:Name->Loc)(H:Heap)(M:Nat->Prop)(w:AG)(u:AE)(hr:((resB vs).er L).R ρ H M w u):((resB ws).er L').R ρ H M w u:=by
 have hl:vs.length=ws.length:=by have:=h.len;rwa [XT,XT]at this
 match vs,ws,hl with
 |[],[],_=>exact hr
 |[v],[x],_=>
  simp only[erL]at h
  cases h with
  |cons h1 _=>exact h1.sound u hr
 |v1::v2::vs,x1::x2::ws,_=>
  simp only[resB,BV.er,AV.R]at hr |-
  obtain⟨us,rfl,h2⟩:=hr
  exact⟨us,rfl,X7.Ts h h2⟩
section
variable {P:AF}
def QoO:∀{rs:Y ResultVar} {vs:Y BV},QtP P ts hs rs=some vs->vs.length=rs.length/\Res1s P (BS L ts hs) rs (erL L vs)
 |[],vs,h=>by simp only[QtP,AN]at h;subst h;exact⟨rfl,by simp only[erL];rfl⟩
 |x::q,vs,h=>by
  simp only[QtP]at h
  split at h
  .rename_i v vs' h1 h2
   cases h
   obtain⟨k1,k2⟩:=QoO h2
   refine⟨by simp[k1],⟨v.er L,erL L vs',by simp only[erL],?_,k2⟩⟩
   cases x with
   |tmp t=>
    simp only[resV]at h1
    show(BS L ts hs).slot t=_
    rw[XF,h1];rfl
   |cell t T=>
    simp only[resV]at h1
    split at h1
    .rename_i n ht
     split at h1
     .rename_i cells hc
      refine⟨n,erL L cells,by rw[XF,ht];simp only[Aa,BV.er],by rw[XE,hc];rfl,?_⟩
      split at h1
      .rename_i hT
       split at h1
       .rename_i z hz
        split at h1
        .rename_i hb;cases h1;exact .inl ⟨hT,by rw[hz,XT,nbe hb],by simp only[BV.er]⟩
        .simp at h1
       .simp at h1
      .split at h1
       .rename_i hT
        split at h1
        .cases h1;exact .inr ⟨hT,by simp only[erL]⟩
        .simp at h1
       .simp at h1
     .simp at h1
    .simp at h1
  .simp at h
def QDc{rs:Array ResultVar}{vs:Y BV}(h:QtP P ts hs rs.toList=some vs):Res P (BS L ts hs) rs ((resB vs).er L):=by
 obtain⟨h1,h2⟩:=QoO (L:=L) h
 unfold Res
 match vs,h1 with
 |[],h1=>
  have:¬rs.size=1:=fun e=>by rw[<-BU,<-h1]at e;simp at e
  rw[iA this];exact⟨_,by simp only[resB,BV.er],h2⟩
 |[v],h1=>
  have:rs.size=1:=by rw[<-BU,<-h1];rfl
  rw[iB this];simpa only[resB,erL]using h2
 |v1::v2::vs,h1=>
  have:¬rs.size=1:=fun e=>by rw[<-BU,<-h1]at e;simp at e
  rw[iA this];exact⟨_,by simp only[resB,BV.er],h2⟩
def Ub{R:Type}{r:R}:∀{l:Y (Name×OSh)} {ks:Y Name} {y:OL l} {x:O R},QiR hs l ks y x=some r->
  x=some r/\∀n b,n∈ks->C n (OL.put 0 l y)=some b->(∃t z v,b=.TI t z 0/\C n hs=some (.TI t z v))\/∃t z cs,b=.box (tb t z)/\C n hs=some (.box cs)/\Le cs (tb t z)
 |[],ks,y,x,h=>⟨h,fun n b _ hn=>by change C n []=some b at hn;simp[C]at hn⟩
 |(nm,o)::l,ks,y,x,h=>by
  have hrest:(x=some r/\∀n b,n∈ks->C n (OL.put 0 l y.2)=some b->(∃t z v,b=.TI t z 0/\C n hs=some (.TI t z v))\/∃t z cs,b=.box (tb t z)/\C n hs=some (.box cs)/\Le cs (tb t z))->
    (isIn nm ks=true->(∃t z v,o.put 0 y.1=.TI t z 0/\C nm hs=some (.TI t z v))\/∃t z cs,o.put 0 y.1=.box (tb t z)/\C nm hs=some (.box cs)/\Le cs (tb t z))->
    x=some r/\∀n b,n∈ks->C n (OL.put 0 ((nm,o)::l) y)=some b->(∃t z v,b=.TI t z 0/\C n hs=some (.TI t z v))\/∃t z cs,b=.box (tb t z)/\C n hs=some (.box cs)/\Le cs (tb t z):=fun hr hq=>by
   refine⟨hr.1,fun n b hn hb=>?_⟩
   change C n ((nm,o.put 0 y.1)::OL.put 0 l y.2)=some b at hb
   simp only[C]at hb
   split at hb
   .rename_i e
    subst e;cases hb
    exact hq (Wa.2 hn)
   .exact hr.2 n b hn hb
  cases o with
  |TI t=>
   simp only[QiR]at h
   split at h
   .split at h
    .rename_i t' z v hl
     split at h
     .rename_i he
      subst he
      unfold TE at h
      split at h
      .rename_i hz
       exact hrest (Ub h) (fun _=>.inl ⟨_,_,v,rfl,by rw[hl,<-hz];rfl⟩)
      .simp at h
     .simp at h
    .simp at h
   .rename_i hin
    exact hrest (Ub h) (fun hi=>absurd hi hin)
  |TV t=>
   simp only[QiR]at h
   split at h
   .split at h
    .rename_i cs hl
     obtain⟨z,rest,hle,h⟩:=Qed t h
     split at h
     .unfold TE at h
      split at h
      .rename_i hz
       refine hrest (Ub h) (fun _=>.inr ⟨t,y.1,cs,rfl,hl,?_⟩)
       rw[Ao]at hle
       rw[<-hz];exact hle
      .simp at h
     .simp at h
    .simp at h
   .rename_i hin
    exact hrest (Ub h) (fun hi=>absurd hi hin)
  |box c=>
   simp only[QiR]at h
   split at h
   .simp at h
   .rename_i hin
    exact hrest (Ub h) (fun hi=>absurd hi hin)
  |arrs c=>
   simp only[QiR]at h
   split at h
   .simp at h
   .rename_i hin
    exact hrest (Ub h) (fun hi=>absurd hi hin)
  |sm=>
   simp only[QiR]at h
   split at h
   .simp at h
   .rename_i hin
    exact hrest (Ub h) (fun hi=>absurd hi hin)
def Qkt{u:Nat}:∀{l:Y SSh} {x:SL l},(SL.put u l x).length=l.length
 |[],_=>rfl
 |s::r,x=>by simp only[SL.put,Ab,Qkt (l:=r)]
def Qj1:(l:Y (Name×OSh))->OL l->Name->O Nat
 |[],_,_=>none
 |(k,.TI _)::r,y,n=>if Nat.beq k n then some y.1.length else Qj1 r y.2 n
 |(k,.arrs _)::r,y,n=>if Nat.beq k n then none else Qj1 r y.2 n
 |(k,.box _)::r,y,n=>if Nat.beq k n then none else Qj1 r y.2 n
 |(k,.TV _)::r,y,n=>if Nat.beq k n then none else Qj1 r y.2 n
 |(k,.sm)::r,y,n=>if Nat.beq k n then none else Qj1 r y.2 n
def lenB{R:Type}(pre:Y (Name×OSh))(y:OL pre):(l:Y (Name×OSh))->OL l->O R->O R
 |[],_,x=>x
 |(n,.arrs _)::r,b,x=>match Qj1 pre y n with
  |some m=>chk b.1.length m (lenB pre y r b.2 x)
  |none=>none
 |(_,.TI _)::r,b,x=>lenB pre y r b.2 x
 |(_,.box _)::r,b,x=>lenB pre y r b.2 x
 |(_,.TV _)::r,b,x=>lenB pre y r b.2 x
 |(_,.sm)::r,b,x=>lenB pre y r b.2 x
def Qov:∀{l:Y (Name×OSh)} {y:OL l} {n:Name} {m:Nat},Qj1 l y n=some m->∃(t:TC) (z:Y (TT t)),C n (OL.put 0 l y)=some (.TI t z 0)/\z.length=m
 |[],y,n,m,h=>by simp[Qj1]at h
 |(k,o)::r,y,n,m,h=>by
  have hrest:Qj1 r y.2 n=some m->k≠n->∃(t:TC) (z:Y (TT t)),C n (OL.put 0 ((k,o)::r) y)=some (.TI t z 0)/\z.length=m:=fun h e=>by
   obtain⟨t,z,h1,h2⟩:=Qov h
   refine⟨t,z,?_,h2⟩
   change C n ((k,o.put 0 y.1)::OL.put 0 r y.2)=_
   simp only[C];rw[iA e];exact h1
  cases o<;>simp only[Qj1]at h<;>split at h
  all_goals first
   |(simp at h;done)
   |(rename_i e;exact hrest h (fun h'=>e (by rw[h'];exact B2 _)))
   |skip
  rename_i t e
  have:=nbe e;subst this
  refine⟨t,y.1,?_,by simpa using h⟩
  change C k ((k,_)::OL.put 0 r y.2)=_
  simp only[C,if_true];rfl
def QfO{R:Type}{r:R}{pre:Y (Name×OSh)}{y:OL pre}:∀{l:Y (Name×OSh)} {b:OL l} {x:O R},lenB pre y l b x=some r->
  x=some r/\∀n (t:TC) (z:Y (TT t)),C n (OL.put 1 l b)=some (.TI t z 0)->Qj1 pre y n=some z.length
 |[],b,x,h=>⟨h,fun n t z hn=>by change C n []=_ at hn;simp[C]at hn⟩
 |(k,o)::l,b,x,h=>by
  have hrest:lenB pre y l b.2 x=some r->(∀(t:TC) (z:Y (TT t)),o.put 1 b.1=.TI t z 0->Qj1 pre y k=some z.length)->
    x=some r/\∀n (t:TC) (z:Y (TT t)),C n (OL.put 1 ((k,o)::l) b)=some (.TI t z 0)->Qj1 pre y n=some z.length:=fun h hq=>by
   obtain⟨h1,h2⟩:=QfO h
   refine⟨h1,fun n t z hn=>?_⟩
   change C n ((k,o.put 1 b.1)::OL.put 1 l b.2)=_ at hn
   simp only[C]at hn
   split at hn
   .rename_i e;subst e;exact hq t z (Be hn)
   .exact h2 n t z hn
  cases o with
  |arrs t=>
   simp only[lenB]at h
   split at h
   .rename_i m hm
    obtain⟨e,h⟩:=QgD h
    refine hrest h fun t' z hz=>?_
    simp only[OSh.put]at hz
    cases hz
    rw[hm,<-e]
   .simp at h
  |TI t=>exact hrest h fun t' z hz=>by simp only[OSh.put]at hz;injection hz with _ _ h3;simp at h3
  |box t=>exact hrest h fun t' z hz=>by simp[OSh.put]at hz
  |TV t=>exact hrest h fun t' z hz=>by simp[OSh.put]at hz
  |sm=>exact hrest h fun t' z hz=>by simp[OSh.put]at hz
def Qeq{R R':Type}{r:R}{r':R'}{pre:Y (Name×OSh)}{y:OL pre}:∀{l:Y (Name×OSh)} {b:OL l} {x:O R},lenB pre y l b x=some r->lenB pre y l b (some r')=some r'
 |[],b,x,h=>rfl
 |(k,.arrs t)::l,b,x,h=>by
  simp only[lenB]at h |-
  split at h
  .obtain⟨e,h⟩:=QgD h
   unfold chk;rw[iB e];exact Qeq h
  .simp at h
 |(k,.TI t)::l,b,x,h=>Qeq (l:=l) h
 |(k,.box t)::l,b,x,h=>Qeq (l:=l) h
 |(k,.TV t)::l,b,x,h=>Qeq (l:=l) h
 |(k,.sm)::l,b,x,h=>Qeq (l:=l) h
def Ql(args:Y SSh)(pre:Y (Name×OSh))(res:Y SSh)(post:Y (Name×OSh))(keep:Y Name)(Ret:Type)(un:Ret->SL res×OL post)(f:SL args->OL pre->O Ret):Sig:=
 ⟨args,pre,res,post,keep,fun _ x y K=>V (f x y) fun q=>lenB pre y post (un q).2 (K (un q).1 (un q).2)⟩
def finK{R:Type}(P:AF)(gn:Y Name)(rs:Y ResultVar)(g:Sig)(y:OL g.pre)(K:SL g.res->OL g.post->O R):Cont R:=fun e ts hs=>match e with
 |.normal=>endK P gn rs g y K ts hs
 |.ret=>endK P gn rs g y K ts hs
 |_=>none
def FnOK.intro{ty:AD->O TC}{E:Env}{fu:Nat}{f:FuncId}{fn:Func}{c:Code}{an:Ann}{args:Y SSh}{pre:Y (Name×OSh)}{res:Y SSh}{post:Y (Name×OSh)}{keep:Y Name}{Ret:Type}[AL Ret]{un:Ret->SL res×OL post}{F:SL args->OL pre->O Ret}(conv:SL res->OL post->Ret)(hcu:∀a b,un (conv a b)=(a,b))(hE:QqQ P E)(hf:P.funcs[f]?=some fn)(hb:fn.body=some c)(hlen:Nat.ble args.length fn.ntmps=true)(hF:∀x y,vc P ty E (keys pre) fn.ntmps fu c an (Qca 0 (SL.put 0 args x)) (OL.put 0 pre y) (finK P (keys pre) fn.results.toList (Ql args pre res post keep Ret un F) y fun a b=>some (conv a b))=F x y):
  FnOK P f (Ql args pre res post keep Ret un F):=by
 refine⟨fun R x y K r h=>?_,fun x y a b h L0 hL0=>?_⟩
 .obtain⟨q,hq,h⟩:=Y2 h
  obtain⟨h',hle⟩:=QfO h
  refine⟨(un q).1,(un q).2,?_,h'⟩
  show V (F x y) _=_
  rw[hq]
  exact Qeq h
 .change SL args at x
  change OL pre at y
  change SL res at a
  change OL post at b
  obtain⟨q,hq,h⟩:=Y2 h
  obtain⟨h,hlens⟩:=QfO h
  simp only[AN]at h
  have hvc:=(hF x y).trans hq
  let g:Sig:=Ql args pre res post keep Ret un F
  let L1:Lens:=fun n v=>match C n (g.posts y b)with
   |some (.TI t l u)=>if v=u then l.length else L0 n v
   |_=>L0 n v
  have hL1:∀n t l v,C n (g.posts y b)=some (.TI t l v)->L1 n v=l.length:=fun n t l v hn=>by
   grind
  have hpost:∀n b0,C n (OL.put 1 post b)=some b0->C n (g.posts y b)=some b0:=fun n b0 hn=>by
   show C n (OL.put 1 post b++_)=_
   rw[Z1,hn]
  have hpre:∀n b0,C n (OL.put 1 post b)=none->n∈keep->C n (OL.put 0 pre y)=some b0->C n (g.posts y b)=some b0:=fun n b0 h1 h2 h3=>by
   show C n (OL.put 1 post b++(OL.put 0 pre y).filter (fun p=>keep.contains p.1))=_
   rw[Z1,h1]
   simp only[VX (f:=fun n=>keep.contains n)]
   simp_all
  refine⟨L1,fun n hn=>?_,hL1,?_⟩
  .show(match C n (g.posts y b)with|some (.TI t l u)=>if 0=u then l.length else L0 n 0|_=>L0 n 0)=_
   split
   .rename_i t l u hl
    split
    .rename_i e
     subst e
     change C n (OL.put 1 post b++(OL.put 0 pre y).filter (fun p=>keep.contains p.1))=_ at hl
     rw[Z1]at hl
     cases h1:C n (OL.put 1 post b)with
     |some b1=>
      rw[h1]at hl;cases hl
      have hab:(un q).2=b:=BD Prod.snd h
      rw[hab]at hlens
      obtain⟨t',z,k1,k2⟩:=Qov (hlens n t l h1)
      rw[<-k2];exact(hL0 n t' z 0 k1).symm
     |none=>
      rw[h1]at hl
      simp only[VX (f:=fun n=>keep.contains n)]at hl
      split at hl
      .exact(hL0 n t l 0 hl).symm
      .simp at hl
    .rfl
   .rfl
  .have hspec:Spec P f (erL L0 (SL.put 0 args x)) (erH L0 (OL.put 0 pre y)) fun v h'=>
     (∀(ρ:Name->Loc) (H:Heap) (M:Nat->Prop) (w:AG) (u:AE),v.R ρ H M w u->((resB (SL.put 1 res a)).er L1).R ρ H M w u)/\
     (∀n o',C n (erH L1 (g.posts y b))=some o'->∃o,C n h'=some o/\(o=o'\/∃cs ds,o=.box cs/\o'=.box ds/\X7 cs ds))/\(∀n o,C n h'=some o->∃o',C n (erH L1 (g.posts y b))=some o'):=by
    refine Spec.intro hf hb (by rw[XT,Qkt];exact hlen) fun Γ hn hk=>?_
    rw[Qeo,Qlm]at hk
    rw[QlJ]
    refine TJ.post ((Qns hE hk hn c an _ _ L0 _ hvc hL0).mono fun e s'=>?_)
    rintro⟨ts',hs',L',rfl,hi',hk'⟩
    have hend:(e=.normal\/e=.ret)/\endK P (keys pre) fn.results.toList g y (fun a b=>some (conv a b)) ts' hs'=some q:=by
     cases e with
     |normal=>exact⟨.inl rfl,hk'⟩
     |ret=>exact⟨.inr rfl,hk'⟩
     |_=>simp[finK]at hk'
    obtain⟨he,hk'⟩:=hend
    unfold endK at hk'
    obtain⟨ts2,hs2',L2',hk',hi2',hw0'⟩:=Qb6 (Γ:=Γ) hk' hi'
    obtain⟨hs2,L2,hk',hi2,hw0''⟩:=Qhe (Γ:=Γ) hk' hi2'
    have hw0:=hw0'.trans hw0''
    split at hk'
    .simp at hk'
    rename_i vs0 hvs0
    obtain⟨ts1,hs1,hk',hi1,hw1⟩:=QdD hk hk' hi2
    split at hk'
    .simp at hk'
    rename_i vs hvs
    obtain⟨σ1,a',hk',hs1',g1⟩:=SL.get_some hk'
    obtain⟨σ2,b',hk',hs2',g2⟩:=OL.get_some hk'
    split at hk'
    case isFalse=>simp at hk'
    rename_i hchk
    simp only[bae]at hchk
    obtain⟨⟨⟨⟨hid,hall⟩,hkp⟩,hown1⟩,hown2⟩:=hchk
    obtain⟨hq',hkept⟩:=Ub hk'
    simp only[AN]at hq'
    have hab:(a',b')=(a,b):=(hcu a' b').symm.trans ((BD un hq').trans h)
    obtain⟨hab1,hab2⟩:=C4 hab
    rw[hab1]at g1
    rw[hab2]at g2
    have hf2:=QsG hid
    have hf1:Fit (fun n=>n) (QjB σ2) σ1:=hf2.mono fun p hp=>hs2' p (CD _ hp)
    have hlen2:∀n,arrB post n=true->Qbr L2 (fun n=>n) (QjB σ2) n 0=L1 n 1:=fun n hn=>by
     have hkn:n∈keys post:=by
      unfold arrB at hn
      split at hn
      .rename_i hl;exact Zr (by rw[hl];simp)
      .simp at hn
     obtain⟨b0,hb0⟩:=QgJ (u:=0) (y:=b) hkn
     obtain⟨p,z,hp1,hp2,hp3,hp4⟩:=Qtj hb0
     unfold arrB at hn
     rw[hp2]at hn
     obtain⟨k,o⟩:=p
     cases o with
     |TI t=>
      have h1:=hL1 n t z 1 (hpost n _ (hp4 1))
      obtain⟨ob,hob,hle⟩:=g2 _ _ L2 hf2 n _ (hp4 0)
      rcases hle with⟨cs,ds,_,h2,_⟩|⟨t',l',rfl,h2⟩|⟨es,_,h2⟩
      .cases h2
      .cases h2
       rw[h1];exact hi1 n t z _ hob
      .cases h2
     |box l=>simp at hn
     |TV t=>simp at hn
     |arrs t=>simp at hn
     |sm=>simp at hn
    have hle1:X7 (erL L2 (QqK hs1 g.res vs)) (erL L1 (SL.put 1 res a)):=by
     have:=g1 _ _ L2 hf1
     rw[Qgk]at this
     have e:=SL.put_ver (l:=res) (x:=a) (L:=Qbr L2 (fun n=>n) (QjB σ2)) (L':=L1) (u:=0) (v:=1) (fun n hn=>hlen2 n (AW.1 hown1 n hn))
     exact Eq.mp (BD (X7 (erL L2 (QqK hs1 g.res vs))) e) this
    have hobj:∀n b0,C n (g.posts y b)=some b0->∃ob,C n hs1=some ob/\(ob.er L2=b0.er L1\/∃cs ds,ob.er L2=.box cs/\b0.er L1=.box ds/\X7 cs ds):=fun n b0 hb0=>by
     cases hp0:C n (OL.put 1 post b)with
     |some b1=>
      rw[hpost n b1 hp0]at hb0;cases hb0
      obtain⟨p,z,hp1,hp2,hp3,hp4⟩:=Qtj hp0
      subst hp3
      obtain⟨ob,hob,hle⟩:=g2 _ _ L2 hf2 n _ (hp4 0)
      refine⟨ob,hob,?_⟩
      have hv:=OSh.put_ver (s:=p.2) (x:=z) (L:=Qbr L2 (fun n=>n) (QjB σ2)) (L':=L1) (u:=0) (v:=1) (fun m hm=>hlen2 m (AW.1 hown2 m (List.mem_flatMap.2 ⟨p,hp1,hm⟩)))
      rw[<-hv]
      rcases hle with⟨cs,ds,rfl,h2,h3⟩|⟨t',l',rfl,h2⟩|⟨es,rfl,h2⟩
      .rw[Qgk]at h3
       exact .inr ⟨_,_,rfl,by rw[h2];rfl,h3.1⟩
      .exact .inl (by rw[h2];rfl)
      .exact .inl (by rw[h2];rfl)
     |none=>
      change C n (OL.put 1 post b++(OL.put 0 pre y).filter (fun p=>keep.contains p.1))=_ at hb0
      rw[Z1,hp0]at hb0
      simp only[VX (f:=fun n=>keep.contains n)]at hb0
      split at hb0
      .rename_i hc
       have hc':n∈keep:=by simpa using hc
       rcases hkept n b0 hc' hb0 with⟨t,z,v,rfl,hz⟩|⟨t,z,cs,rfl,hz,hle⟩
       .exact⟨_,hz,.inl rfl⟩
       .refine⟨_,hz,.inr ⟨_,_,rfl,rfl,?_⟩⟩
        rw[show erL L1 (tb t z)=erL L2 (tb t z)from by rw[VU (Qea t z),VU (Qea t z)]]
        exact hle.1 L2
      .simp at hb0
    refine⟨BS L2 ts1 hs1,fun ρ M a w hs0=>by obtain⟨ρ',M',h0⟩:=hw0 ρ M a w hs0;exact hw1 ρ' M' a w h0,he,(resB vs).er L2,erH L2 (hpOf (fun n=>n) hs1 (keys (g.posts y b))),QDc hvs,fun n o hn'=>?_,fun n hn'=>?_,fun ρ H M w u hr=>Qym hle1 ρ H M w u (Qym (QqL hi1) ρ H M w u hr),fun n o' hn'=>?_,fun n o hn'=>?_⟩
    .rw[ZL]at hn'
     cases hl:C n (hpOf (fun n=>n) hs1 (keys (g.posts y b)))with
     |none=>rw[hl]at hn';simp at hn'
     |some ob=>rw[hl]at hn';rw[XE,Qlj (Q3 hl)];exact hn'
    .rw[Qeo,Qlm]at hn'
     have hkey:∃b0,C n (g.posts y b)=some b0:=by
      cases hp0:C n (OL.put 1 post b)with
      |some b1=>exact⟨b1,hpost n b1 hp0⟩
      |none=>
       have:=AW.1 hall n hn'
       simp only[B0]at this
       rcases this with h1|h1
       .obtain⟨b1,hb1⟩:=QgJ (u:=1) (y:=b) (Wa.1 h1)
        simp_all
       .obtain⟨b1,hb1⟩:=QgJ (u:=0) (y:=y) hn'
        exact⟨b1,hpre n b1 hp0 (Wa.1 h1) hb1⟩
     obtain⟨b0,hb0⟩:=hkey
     obtain⟨ob,hob,_⟩:=hobj n b0 hb0
     rw[ZL,QdE (rr:=fun n=>n) (fun _ _ h=>h) hob (Zr (by rw[hb0];simp))];simp
    .rw[ZL]at hn'
     cases hb0:C n (g.posts y b)with
     |none=>rw[hb0]at hn';simp at hn'
     |some b0=>
      rw[hb0]at hn'
      simp only[Aa,AN]at hn'
      obtain⟨ob,hob,hle⟩:=hobj n b0 hb0
      refine⟨ob.er L2,by rw[ZL,QdE (rr:=fun n=>n) (fun _ _ h=>h) hob (Zr (by rw[hb0];simp))];rfl,?_⟩
      rw[<-hn'];exact hle
    .rw[ZL]at hn'
     cases hl:C n (hpOf (fun n=>n) hs1 (keys (g.posts y b)))with
     |none=>rw[hl]at hn';simp at hn'
     |some ob=>
      obtain⟨m,hm,rfl⟩:=Qli (Q3 hl)
      obtain⟨b0,hb0⟩:=VC hm
      exact⟨_,by rw[ZL,hb0];rfl⟩
   intro G ρ M w us hG hM hargs hobjs hinj
   exact(hspec G ρ M w us hG hM hargs hobjs hinj).mono fun e w' ⟨u,v,h',ρ',e1,⟨c1,c2,c3⟩,ha⟩=>⟨u,_,_,ρ',e1,⟨rfl,rfl⟩,ha.le c1 c2 c3⟩
end
def fitC:Y Sh->Y BV->AH
 |.own _::r,v::vs=>(match v with|.own _ _=>true|_=>false) && fitC r vs
 |_::r,_::vs=>fitC r vs
 |_,_=>true
def fitB:Y SSh->Y BV->AH
 |.one (.own _)::r,v::vs=>(match v with|.own _ _=>true|_=>false) && fitB r vs
 |.one (.clo f _)::r,v::vs=>(match v with|.clo (.func k) _=>Nat.beq k f|_=>false) && fitB r vs
 |.one (.fv f)::r,v::vs=>(match v with|.v (.func (.func k) _ _)=>Nat.beq k f|_=>false) && fitB r vs
 |.agg l::r,v::vs=>(match v with|.agg cs=>fitC l cs|_=>false) && fitB r vs
 |_::r,_::vs=>fitB r vs
 |_,_=>true
def fitD:Nat->O Nat->AH
 |0,_=>true
 |n+1,some d=>Nat.beq n d
 |_,none=>false
def QzN(d:O Nat)(k:Nat)(vs:Y BV):Y (Nat×Nat×Sig)->O Sig
 |[]=>none
 |(j,q,g)::r=>if Nat.beq j k && fitD q d && fitB g.args vs then some g else QzN d k vs r
def envL(l:Y (Nat×Nat×Sig)):Env:=fun d k vs=>QzN d k vs l
def Qix(P:AF):Y (Nat×Nat×Sig)->Prop
 |[]=>True
 |p::r=>FnOK P p.1 p.2.2/\Qix P r
def Qtb{P:AF}:∀{l:Y (Nat×Nat×Sig)},Qix P l->QqQ P (envL l)
 |[],_,d,k,vs,g,h=>by simp[envL,QzN]at h
 |(j,q,g0)::r,hl,d,k,vs,g,h=>by
  simp only[envL,QzN]at h
  split at h
  .rename_i e
   simp only[bae]at e
   rw[<-nbe e.1.1];cases h;exact hl.1
  .exact Qtb hl.2 d k vs g h
abbrev X(x:Int):Int:=IntKind.wrap .i64 x
end
open Go
section
variable {R α:Type} {r:R}
def QfC{p:Prop}[Decidable p]{x y:O R}(h:p):J (decide p) x y=x:=by simp only[h,decide_true,J]
def QkS{p:Prop}[Decidable p]{x y:O R}(h:¬p):J (decide p) x y=y:=by simp only[h,decide_false,J]
def QAD{p:Prop}[Decidable p]{x y:O R}:J (decide p) x y=if p then x else y:=by
 by_cases h:p
 .rw[QfC h,iB h]
 .rw[QkS h,iA h]
def QAL{j:Int}{k:Nat->O R}(h:0<=j):TK j k=k j.toNat:=by unfold TK;rw[iB h]
def QC7(i:Nat){k:Nat->O R}:TK (i:Int) k=k i:=by unfold TK;rw[iB (Int.natCast_nonneg i)];rfl
def ZX{x:α}{k:α->O R}:V (some x) k=k x:=rfl
def Vs{o:O α}{x:α}{k:α->O R}(h:o=some x):V o k=k x:=by subst h;rfl
def QCP[AK α]{l:Y α}{j:Int}{k:α->O R}(h:0<=j)(h':j<(l.length:Int)):TM l j k=k (I l j.toNat):=by
 unfold TM;rw[QAL h]
 have:j.toNat<l.length:=U
 rw[AU this]
 simp[V,I,AQ,AU this]
def QCO[AK α]{l:Y α}{i:Nat}{k:α->O R}(h':i<l.length):TM l (i:Int) k=k (I l i):=by
 rw[QCP (Int.natCast_nonneg i) U];rfl
def QB7[AK α]{l:Y α}{i:Nat}{k:α->O R}(h':i<l.length):V l[i]? k=k (I l i):=by
 rw[AU h']
 simp[V,I,AQ,AU h']
def QDB{a b:Nat}{x:O R}(h:a=b):chk a b x=x:=by unfold chk;rw[iB h]
def QDC{a b:Nat}{x:O R}(h:a<b):TP a b x=x:=by unfold TP;rw[iB h]
def QC3{a b:Nat}{x:O R}(h:a<=b):TO a b x=x:=by unfold TO;rw[iB h]
def QxO{b:Int}{x:O R}(h:b≠0):nzc b x=x:=by unfold nzc;rw[iA h]
def Vd{a:α}[AL α]{x:O R}:TE a a x=x:=by unfold TE;rw[iB rfl]
def QjF{x:Int}(h : -9223372036854775808<=x)(h':x<=9223372036854775807):IntKind.i64.wrap x=x:=by rw[IntKind.wrap_i64];omega
def Qxx{zF:Type}{B:(zF->O R)->zF->O R}{Q:O R->Prop}(zE:Nat->zF->Prop)(hB:∀m x,zE m x->∀k:zF->O R,(∀m' x',m'<m->zE m' x'->Q (k x'))->Q (B k x)):
  ∀(m:Nat) (x:zF) {fu:Nat},m<fu->zE m x->Q (Qe B fu x):=by
 intro m
 induction m using Nat.strongRecOn with
 |_ m ih=>
  intro x fu hf hI
  obtain⟨f,rfl⟩:∃f,fu=f+1:=⟨fu - 1,U⟩
  show Q (B (Qe B f) x)
  grind
def Ok(o:O R)(Q:R->Prop):Prop:=∃x,o=some x/\Q x
variable {Q Q':R->Prop}
def Ok.s{x:R}(h:Q x):Ok (some x) Q:=⟨x,rfl,h⟩
def Ok.mono{o:O R}(h:Ok o Q)(hq:∀x,Q x->Q' x):Ok o Q':=by obtain⟨x,h1,h2⟩:=h;exact⟨x,h1,hq x h2⟩
def Ok.J{b:AH}{x y:O R}(h1:b=true->Ok x Q)(h2:b=false->Ok y Q):Ok (AM.J b x y) Q:=by
 cases b
 .exact h2 rfl
 .exact h1 rfl
def Ok.ite{p:Prop}[Decidable p]{x y:O R}(h1:p->Ok x Q)(h2:¬p->Ok y Q):Ok (AM.J (decide p) x y) Q:=
 Ok.J (fun h=>h1 (BE h)) (fun h=>h2 (BG h))
def Ok.opt{o:O α}{P:α->Prop}{k:α->O R}(h:Ok o P)(hk:∀x,P x->Ok (k x) Q):Ok (V o k) Q:=by
 obtain⟨x,rfl,h2⟩:=h;exact hk x h2
def Ok.at[AK α]{l:Y α}{j:Int}{k:α->O R}(h:0<=j)(h':j<(l.length:Int))(hk:Ok (k (I l j.toNat)) Q):Ok (TM l j k) Q:=by rw[QCP h h'];exact hk
def Ok.TO{a b:Nat}{x:O R}(h:a<=b)(hx:Ok x Q):Ok (AM.TO a b x) Q:=by rw[QC3 h];exact hx
def Ok.nzc{b:Int}{x:O R}(h:b≠0)(hx:Ok x Q):Ok (AM.nzc b x) Q:=by rw[QxO h];exact hx
def Ok.TE{a:α}[AL α]{x:O R}(hx:Ok x Q):Ok (AM.TE a a x) Q:=by rw[Vd];exact hx
def Ok.TG{zB:Type}{k:zB->O R}{f:(zB->O R)->O R}(zG:zB->Prop)(h1:∀y,zG y->Ok (k y) Q)(h2:∀k:zB->O R,(∀y,zG y->Ok (k y) Q)->Ok (f k) Q):Ok (AM.TG k f) Q:=h2 k h1
def Ok.loop{zF:Type}{B:(zF->O R)->zF->O R}(zE:Nat->zF->Prop){m:Nat}{x:zF}{fu:Nat}(hm:m<fu)(h0:zE m x)(hB:∀m x,zE m x->∀k:zF->O R,(∀m' x',m'<m->zE m' x'->Ok (k x') Q)->Ok (B k x) Q):Ok (Qe B fu x) Q:=
 Qxx (Q:=fun o=>Ok o Q) zE hB m x hm h0
def Ok.eq{o:O R}{v:R}(h:Ok o (·=v)):o=some v:=by obtain⟨x,rfl,rfl⟩:=h;rfl
end
section
variable {R α:Type} {Q:R->Prop}
def Ok.p{p:Prop}[Decidable p]{x y:O R}(h:p)(hx:Ok x Q):Ok (AM.J (decide p) x y) Q:=by rw[QfC h];exact hx
def Ok.n{p:Prop}[Decidable p]{x y:O R}(h:¬p)(hx:Ok y Q):Ok (AM.J (decide p) x y) Q:=by rw[QkS h];exact hx
def Ok.np{p:Prop}[Decidable p]{x y:O R}(h:p)(hx:Ok y Q):Ok (AM.J (!decide p) x y) Q:=by simp only[h,decide_true,CS];exact hx
def Ok.nn{p:Prop}[Decidable p]{x y:O R}(h:¬p)(hx:Ok x Q):Ok (AM.J (!decide p) x y) Q:=by simp only[h,decide_false,Bool.not_false];exact hx
def Ok.t{x y:O R}(hx:Ok x Q):Ok (AM.J true x y) Q:=hx
def Ok.f{x y:O R}(hx:Ok y Q):Ok (AM.J false x y) Q:=hx
def Ok.bt{b:AH}{x y:O R}(h:b=true)(hx:Ok x Q):Ok (AM.J b x y) Q:=by rw[h];exact hx
def Ok.bf{b:AH}{x y:O R}(h:b=false)(hx:Ok y Q):Ok (AM.J b x y) Q:=by rw[h];exact hx
def Ok.nt{b:AH}{x y:O R}(h:b=true)(hx:Ok y Q):Ok (AM.J (!b) x y) Q:=by rw[h];exact hx
def Ok.nf{b:AH}{x y:O R}(h:b=false)(hx:Ok x Q):Ok (AM.J (!b) x y) Q:=by rw[h];exact hx
def Ok.ncnd{b:AH}{x y:O R}(h1:b=false->Ok x Q)(h2:b=true->Ok y Q):Ok (AM.J (!b) x y) Q:=by
 cases b
 .exact h1 rfl
 .exact h2 rfl
def Ok.j{zB:Type}{k:zB->O R}{f:(zB->O R)->O R}(h:Ok (f k) Q):Ok (AM.TG k f) Q:=h
def Ok.oe{o:O α}{v:α}{k:α->O R}(h:o=some v)(hk:Ok (k v) Q):Ok (V o k) Q:=by rw[h];exact hk
def Ok.os{v:α}{k:α->O R}(hk:Ok (k v) Q):Ok (V (some v) k) Q:=hk
def Ok.ck{a b:Nat}{x:O R}(h:a=b)(hx:Ok x Q):Ok (AM.chk a b x) Q:=by rw[QDB h];exact hx
def Ok.lt{a b:Nat}{x:O R}(h:a<b)(hx:Ok x Q):Ok (AM.TP a b x) Q:=by rw[QDC h];exact hx
def Ok.nat{j:Int}{k:Nat->O R}(h:0<=j)(hk:Ok (k j.toNat) Q):Ok (AM.TK j k) Q:=by rw[QAL h];exact hk
def Ok.natn{i:Nat}{k:Nat->O R}(hk:Ok (k i) Q):Ok (AM.TK (i:Int) k) Q:=by rw[QC7];exact hk
def Ok.get[AK α]{l:Y α}{i:Nat}{k:α->O R}(h:i<l.length)(hk:Ok (k (I l i)) Q):Ok (V (GetElem?.getElem? l i) k) Q:=by rw[QB7 h];exact hk
def Ok.atn[AK α]{l:Y α}{i:Nat}{k:α->O R}(h:i<l.length)(hk:Ok (k (I l i)) Q):Ok (TM l (i:Int) k) Q:=by rw[QCO h];exact hk
def Ok.nil{l:Y α}{x y:O R}(h1:l=[]->Ok x Q)(h2:l≠[]->Ok y Q):Ok (TR l x y) Q:=by
 cases l with
 |nil=>exact h1 rfl
 |cons a l=>exact h2 Ob
def Yg[AL α]{l:Y α}(h:l.length<=34359738368):TR l (AM.TU (some []) (AM.TO l.length 34359738368 (some l))) (AM.TO l.length 34359738368 (some l))=some l:=by
 rw[QC3 h]
 cases l with
 |nil=>unfold AM.TU;rfl
 |cons a l=>rfl
def Qc{x:Int}(h : -9223372036854775808<=x/\x<=9223372036854775807):X x=x:=QjF h.1 h.2
def Ok.run{zF:Type}{B:(zF->O R)->zF->O R}(n:Nat)(st:Nat->zF){fu:Nat}{x:zF}(hx:x=st 0)(hf:n<fu)(hs:∀i,i<n->∀k,(Ok (k (st (i+1))) Q->Ok (B k (st i)) Q))(h:∀k,Ok (B k (st n)) Q):Ok (Qe B fu x) Q:=by
 subst hx
 revert st fu
 induction n with
 |zero=>
  intro st fu hf _ h
  obtain⟨f,rfl⟩:∃f,fu=f+1:=⟨fu - 1,U⟩
  exact h _
 |succ n ih=>
  intro st fu hf hs h
  obtain⟨f,rfl⟩:∃f,fu=f+1:=⟨fu - 1,U⟩
  show Ok (B (Qe B f) (st 0)) Q
  exact hs 0 U _ (ih (fun i=>st (i+1)) U (fun i hi k=>hs (i+1) U k) h)
def Ok.scan{zF:Type}{B:(zF->O R)->zF->O R}(n:Nat)(st:Nat->zF)(q:Nat->AH){fu:Nat}{x:zF}(hx:x=st 0)(hf:n<fu)(hy:∀i,i<n->q i=true->(∀j,j<i->q j=false)->∀k,Ok (B k (st i)) Q)(hn:∀i,i<n->q i=false->∀k,(Ok (k (st (i+1))) Q->Ok (B k (st i)) Q))(he:(∀j,j<n->q j=false)->∀k,Ok (B k (st n)) Q):Ok (Qe B fu x) Q:=by
 refine Ok.loop (fun m x=>∃i,i<=n/\m=n - i/\x=st i/\∀j,j<i->q j=false) (m:=n) hf ⟨0,U,rfl,hx,fun j hj=>U⟩ ?_
 rintro m x ⟨i,h1,h2,rfl,h3⟩ k hk
 by_cases h:i<n
 .cases hq:q i with
  |true=>exact hy i h hq h3 k
  |false=>exact hn i h hq k (hk (n - (i+1)) _ U ⟨i+1,U,rfl,rfl,fun j hj=>by
    by_cases e:j=i
    .subst e;exact hq
    .exact h3 j U⟩)
 .obtain rfl:i=n:=U
  exact he h3 k
def QjK{l:Y α}[AK α]{p:α->AH}{i:Nat}(hi:i<l.length)(h:p (I l i)=true):l.any p=true:=EP.2 ⟨_,Qf hi,h⟩
def Qod{l:Y α}[AK α]{p:α->AH}(h:∀j,j<l.length->p (I l j)=false):l.any p=false:=by
 rw[Ei]
 intro x hx
 obtain⟨j,hj,rfl⟩:=BZ hx
 have:=h j hj
 simp only[I,AQ,AU hj,Bt]at this
 simp[this]
def cnd2{p q:Prop}[Decidable p][Decidable q]:AM.J (decide p) (AM.J (decide q) (some true) (some false)) (some false)=some (decide (p/\q)):=by
 by_cases hp:p<;>by_cases hq:q<;>simp[AM.J,hp,hq]
def Ok.of{o:O R}{v:R}(h:o=some v)(hq:Q v):Ok o Q:=⟨v,h,hq⟩
def Ok.N{p:Prop}[Decidable p]{x y:O R}(hx:Ok y Q)(h:¬p:=by omega):Ok (AM.J (decide p) x y) Q:=.n h hx
def Ok.P{p:Prop}[Decidable p]{x y:O R}(hx:Ok x Q)(h:p:=by omega):Ok (AM.J (decide p) x y) Q:=.p h hx
def Ok.NS{p:Prop}[Decidable p]{x y:O R}(hx:Ok y Q)(h:¬p:=by simp):Ok (AM.J (decide p) x y) Q:=.n h hx
def Ok.PS{p:Prop}[Decidable p]{x y:O R}(hx:Ok x Q)(h:p:=by simp):Ok (AM.J (decide p) x y) Q:=.p h hx
def Ok.L{a b:Nat}{x:O R}(hx:Ok x Q)(h:a<=b:=by omega):Ok (AM.TO a b x) Q:=.TO h hx
def Ok.LS{a b:Nat}{x:O R}(hx:Ok x Q)(h:a<=b:=by simp;omega):Ok (AM.TO a b x) Q:=.TO h hx
def Ok.E{a b:Nat}{x:O R}(hx:Ok x Q)(h:a<b:=by omega):Ok (AM.TP a b x) Q:=.lt h hx
def Ok.A[AK α]{l:Y α}{i:Nat}{k:α->O R}(hk:Ok (k (I l i)) Q)(h:i<l.length:=by omega):Ok (TM l (i:Int) k) Q:=.atn h hk
def Ok.G[AK α]{l:Y α}{i:Nat}{k:α->O R}(hk:Ok (k (I l i)) Q)(h:i<l.length:=by omega):Ok (V (GetElem?.getElem? l i) k) Q:=.get h hk
def Ok.Z{b:Int}{x:O R}(hx:Ok x Q)(h:b≠0:=by omega):Ok (AM.nzc b x) Q:=.nzc h hx
end
end Go.Proofs.YtlllfgmajglnhaaGreat.AM
set_option autoImplicit true
set_option relaxedAutoImplicit true
namespace Go.Proofs.YtlllfgmajglnhaaGreat
open Go AM
def Asc(l:Y Int):Prop:=l.Pairwise (·<·)
def Qfv:∀{a b:Y Int},Asc a->Asc b->(∀x,x∈a↔x∈b)->a=b
 |[],[],_,_,_=>rfl
 |[],y::b,_,_,h=>by have:=(h y).2 (BA ..);simp at this
 |x::a,[],_,_,h=>by have:=(h x).1 (BA ..);simp at this
 |x::a,y::b,ha,hb,h=>by
  have ha':=CF.1 ha
  have hb':=CF.1 hb
  have e:x=y:=by
   rcases AY.1 ((h x).1 (BA ..))with e|hx
   .exact e
   .rcases AY.1 ((h y).2 (BA ..))with e|hy
    .exact e.symm
    .grind
  subst e
  congr 1
  refine Qfv ha'.2 hb'.2 fun z=>⟨fun hz=>?_,fun hz=>?_⟩
  .grind
  .grind
def Qab(l:Y Int)(x:Int):Nat->Y Int×AH
 |0=>([],false)
 |i+1=>((Qab l x i).1++(if (Qab l x i).2=false/\x<=I l i then[x]else[])++(if I l i≠x then[I l i]else[]),(Qab l x i).2 || decide (x<=I l i))
def QsL(l:Y Int)(x:Int):Y Int:=if (Qab l x l.length).2=true then(Qab l x l.length).1 else(Qab l x l.length).1++[x]
def QjM(h:Asc l)(hij:i<j)(hj:j<l.length):I l i<I l j:=by
 have:=CZ.1 h i j U hj hij
 simpa [I,AQ,AU hj,AU (show i<l.length by omega)]using this
def Uz(h:i<l.length)(z:Int):z∈l.take (i+1)↔z∈l.take i\/z=I l i:=by
 rw[Cu h,Ai,Af]
 simp[I,AQ,AU h]
def Qu0(h:Asc l):∀i,i<=l.length->Asc (Qab l x i).1/\(∀z,z∈(Qab l x i).1↔z∈l.take i/\z≠x\/(Qab l x i).2=true/\z=x)/\
  ((Qab l x i).2=false->∀z∈l.take i,z<x)/\((Qab l x i).2=true->∀j,i<=j->j<l.length->x<I l j)
 |0,_=>by simp[Qab,Asc]
 |i+1,hi=>by
  obtain⟨h1,h2,h3,h4⟩:=Qu0 h i U
  have hlt:∀z∈l.take i,z<I l i:=fun z hz=>by
   obtain⟨j,hj,rfl⟩:=BZ hz
   rw[Ae]at hj
   have:=QjM h (show j<i by omega) (show i<l.length by omega)
   simpa [I,AQ,AU (show j<l.length by omega)]using this
  simp only[Qab]
  cases hd:(Qab l x i).2 with
  |true=>
   have hx:=h4 hd i (AP _) U
   rw[iA Ob,iB U,Ao]
   refine⟨?_,fun z=>?_,Ob,fun _ j hj hl=>h4 hd j U hl⟩
   .refine CH.2 ⟨h1,C5 _ _,fun a ha b hb=>?_⟩
    rw[Af.1 hb]
    rcases(h2 a).1 ha with⟨g,_⟩|⟨_,rfl⟩
    .exact hlt a g
    .exact hx
   .rw[Ai,h2,Uz U,Af,hd]
    simp only[Bb,true_and]
    constructor
    .rintro((⟨g,g'⟩|g)|g)
     .exact .inl ⟨.inl g,g'⟩
     .exact .inr g
     .exact .inl ⟨.inr g,U⟩
    .rintro(⟨g|g,g'⟩|g)
     .exact .inl (.inl ⟨g,g'⟩)
     .exact .inr g
     .exact .inl (.inr g)
  |false=>
   have hb:=h3 hd
   by_cases hx:x<=I l i
   .rw[iB ⟨rfl,hx⟩]
    have e:(false || decide (x<=I l i))=true:=by simp[hx]
    rw[e]
    have hm:∀z,z∈(Qab l x i).1↔z∈l.take i:=fun z=>by
     rw[h2,hd]
     refine⟨fun g=>?_,fun g=>.inl ⟨g,by have:=hb z g;omega⟩⟩
     rcases g with⟨g,_⟩|⟨g,_⟩
     .exact g
     .simp at g
    refine⟨?_,fun z=>?_,Ob,fun _ j hj hl=>?_⟩
    .refine CH.2 ⟨CH.2 ⟨h1,C5 _ _,fun a ha b hb'=>?_⟩,?_,fun a ha b hb'=>?_⟩
     .rw[Af.1 hb'];exact hb a ((hm a).1 ha)
     .split<;>simp
     .split at hb'
      .rename_i hne
       rw[Af.1 hb']
       rcases Ai.1 ha with ha|ha
       .exact hlt a ((hm a).1 ha)
       .rw[Af.1 ha];omega
      .simp at hb'
    .rw[Ai,Ai,hm,Uz U,Af]
     by_cases hne:I l i≠x
     .rw[iB hne,Af]
      constructor
      .rintro((g|g)|g)
       .exact .inl ⟨.inl g,by have:=hb z g;omega⟩
       .exact .inr ⟨rfl,g⟩
       .exact .inl ⟨.inr g,U⟩
      .rintro(⟨g|g,_⟩|⟨_,g⟩)
       .exact .inl (.inl g)
       .exact .inr g
       .exact .inl (.inr g)
     .rw[iA hne]
      simp only[BH,or_false]
      constructor
      .rintro(g|g)
       .exact .inl ⟨.inl g,by have:=hb z g;omega⟩
       .exact .inr ⟨trivial,g⟩
      .rintro(⟨g|g,g'⟩|⟨_,g⟩)
       .exact .inl g
       .omega
       .exact .inr g
    .have:=QjM h (show i<j by omega) hl
     omega
   .rw[iA (by simp[hx]),iB U,Ao]
    have e:(false || decide (x<=I l i))=false:=by simp[hx]
    rw[e]
    refine⟨?_,fun z=>?_,fun _ z hz=>?_,Ob⟩
    .refine CH.2 ⟨h1,C5 _ _,fun a ha b hb'=>?_⟩
     rw[Af.1 hb']
     rcases(h2 a).1 ha with⟨g,_⟩|⟨g,_⟩
     .exact hlt a g
     .rw[hd]at g;simp at g
    .rw[Ai,h2,Uz U,Af,hd]
     simp only[Bh,false_and,or_false]
     constructor
     .rintro(⟨g,g'⟩|g)
      .exact⟨.inl g,g'⟩
      .exact⟨.inr g,U⟩
     .rintro⟨g|g,g'⟩
      .exact .inl ⟨g,g'⟩
      .exact .inr g
    .rcases(Uz (show i<l.length by omega) z).1 hz with g|g
     .exact hb z g
     .omega
def Qhf(h:Asc l):Asc (QsL l x)/\∀z,z∈QsL l x↔z∈l\/z=x:=by
 obtain⟨h1,h2,h3,h4⟩:=Qu0 (x:=x) h l.length (AP _)
 rw[Ad]at h2 h3
 unfold QsL
 split
 .grind
 .rename_i hd
  have hd:(Qab l x l.length).2=false:=by cases hb:(Qab l x l.length).2<;>simp_all
  have hm:∀z,z∈(Qab l x l.length).1↔z∈l:=fun z=>by
   grind
  refine⟨CH.2 ⟨h1,C5 _ _,fun a ha b hb=>?_⟩,fun z=>?_⟩
  .simp_all
  .simp_all
def Qk9(l:Y Int)(j:Nat):Y Int:=(l.set j (I l (j - 1))).set (j - 1) (I l j)
def QAk(l)(j):(Qk9 l j).length=l.length:=by simp[Qk9]
def QmA{l:Y Int}{j k:Nat}{x:Int}(hj:j<l.length):I (l.set j x) k=if k=j then x else I l k:=by
 by_cases h:k=j
 .subst h;rw[iB rfl];simp[I,AQ,hj]
 .rw[iA h];simp[I,AQ,List.getElem?_set_ne (Aj h)]
def QgL(h1:1<=j)(hj:j<l.length):I (Qk9 l j) k=if k=j - 1 then I l j else if k=j then I l (j - 1)else I l k:=by
 unfold Qk9
 rw[QmA (by simp;omega)]
 split
 .rfl
 .rw[QmA hj]
def Xk(l:Y Int)(n:Nat):Prop:=∀a b,a<b->b<n->I l a<=I l b
def Qn8(l:Y Int)(n j:Nat):Prop:=∀a b,a<b->b<n->b≠j->I l a<=I l b
def Qkv(h:Xk l i):Qn8 l (i+1) i:=fun a b h1 h2 h3=>h a b h1 U
def QlS(h:Qn8 l n j)(h1:1<=j)(hj:j<l.length)(hn:j<n)(hlt:I l j<I l (j - 1)):Qn8 (Qk9 l j) n (j - 1):=by
 intro a b hab hb hne
 rw[QgL h1 hj,QgL h1 hj,iA hne]
 by_cases g1:b=j
 .subst g1
  rw[iB rfl]
  by_cases g2:a=b - 1
  .rw[iB g2];omega
  .rw[iA g2,iA U]
   exact h a (b - 1) U U U
 .rw[iA g1]
  by_cases g2:a=j - 1
  .rw[iB g2];exact h j b U hb g1
  .rw[iA g2]
   by_cases g3:a=j
   .rw[iB g3];exact h (j - 1) b U hb g1
   .rw[iA g3];exact h a b hab hb g1
def Qoj(h:Qn8 l n j)(he:j=0\/I l (j - 1)<=I l j):Xk l n:=by
 intro a b hab hb
 by_cases g:b=j
 .subst g
  rcases he with he|he
  .omega
  .by_cases g2:a=b - 1
   .rw[g2];exact he
   .have:=h a (b - 1) U U U;omega
 .exact h a b hab hb g
def QAA(h:Xk l l.length)(hd:∀k,1<=k->k<l.length->I l (k - 1)≠I l k):Asc l:=by
 refine CZ.2 fun i j hi hj hij=>?_
 have e:∀k (hk:k<l.length),l[k]=I l k:=fun k hk=>by simp[I,AQ,AU hk]
 rw[e i hi,e j hj]
 have h1:=hd j U hj
 have h2:=h (j - 1) j U hj
 rcases Nat.eq_or_lt_of_le (show i<=j - 1 by omega)with g|g
 .rw[g];omega
 .have:=h i (j - 1) g U;omega
end Go.Proofs.YtlllfgmajglnhaaGreat
set_option maxRecDepth 100000
namespace Go.Proofs.YtlllfgmajglnhaaGreat
open Go AM
section
structure Qb8 (x:D.p):Prop where
 kind:0<=x.b/\x.b<=2
 a:(0<=x.A/\x.A<4)\/(x.b=1/\x.A = -1)
 b:x.b=2->0<=x.B/\x.B<4/\x.A≠x.B
 b0:x.b≠2->x.B=0
 time:864000<=x.w/\x.w<x.To/\x.To<950400
structure YZ (l:D.v):Prop where
 name:l.Name=ByteArray.mk #[108]
 zone:l.q=0
 day:l.R.Fl=1\/l.R.Fl=9\/l.R.Fl=10
 second:0<=l.R.FU/\l.R.FU<=43200
 unit:l.Unit=0\/l.Unit=1
 every:1<=l.FI/\l.FI<=3
 len:1<=l.t.length/\l.t.length<=3
 mem:∀x∈l.t,0<=x/\x<4
 win:l.Fk=[]
 cal:l.m=0/\l.F0=0
structure QaF (p:D.Q):Prop where
 zone:p.q=0
 max:p.Fx=0/\p.Fy=0
 quiet:p.Fg=[]\/∃a b,p.Fg=[⟨a,b⟩]/\(a=0\/a=3600)/\(b=7200\/b=86400\/b=604800)
structure Qei (n:Nat) (s:D.c):Prop where
 layers:∃l,s.Fi=[l]/\YZ l
 len:s.FS.length<=n
 edit:∀x∈s.FS,Qb8 x
def bZ:AJ:=ByteArray.mk #[122]
def Yu:Y AJ:=[ByteArray.mk #[97,110,110],ByteArray.mk #[98,111,98],ByteArray.mk #[99,97,116],ByteArray.mk #[100,97,110]]
def YN:Y AJ:=[ByteArray.mk #[102,105,114,115,116],ByteArray.mk #[115,101,99,111,110,100]]
structure Zc (n:Nat) (c:D.E):Prop where
 zone:∃off,c.FD=[⟨bZ,off,[]⟩]/\(off=0\/off=3600\/off = -7200)
 pname:c.k.map (·.Name)=Yu
 person:∀p∈c.k,QaF p
 cal:c.n=[]
 sname:c.f.map (·.Name)=YN
 sched:∀s∈c.f,Qei n s
def Zc.plen(h:Zc n c):c.k.length=4:=by
 have:=BD List.length h.pname;simpa [Yu]using this
def Zc.slen(h:Zc n c):c.f.length=2:=by
 have:=BD List.length h.sname;simpa [YN]using this
def Zc.mono(h:Zc n c)(hm:n<=m):Zc m c:=
 ⟨h.zone,h.pname,h.person,h.cal,h.sname,fun s hs=>⟨(h.sched s hs).layers,AX (h.sched s hs).len hm,(h.sched s hs).edit⟩⟩
def Y9(c:D.E):Int:=(I c.FD 0).FT
def Zc.zones(h:Zc n c):c.FD=[⟨bZ,Y9 c,[]⟩]/\(Y9 c=0\/Y9 c=3600\/Y9 c = -7200):=by
 obtain⟨off,h1,h2⟩:=h.zone
 have:Y9 c=off:=by unfold Y9;rw[h1];rfl
 simp_all
def QAr(l:D.v):Int:=if l.Unit=0 then 3600 else 86400
def QeZ(l:D.v):Int:=QAr l*l.FI
def YG(off:Int)(l:D.v):Int:=l.R.Fl*86400+l.R.FU - off
def Y8(off:Int)(l:D.v)(k:Int):Int:=YG off l+QeZ l*k
def Z8(off:Int)(l:D.v)(t:Int):Int:=if t<YG off l then -1 else(t - YG off l) / QeZ l
def QqE(h:YZ l):3600<=QeZ l/\QeZ l<=259200:=by
 have h2:=h.every
 have h1:=h.unit
 unfold QeZ QAr
 split<;>omega
def QiL(h:YZ l)(ho:off=0\/off=3600\/off = -7200):0<YG off l/\YG off l<=1000000:=by
 have h1:=h.day
 have h2:=h.second
 unfold YG;omega
def QqB(h:YZ l)(h0:0<=k)(h1:Y8 off l k<=t)(h2:t<Y8 off l (k+1)):Z8 off l t=k:=by
 have hs:=(QqE h).1
 unfold Y8 at h1 h2
 rw[Int.mul_add,Int.mul_one]at h2
 have h3:0<=QeZ l*k:=Int.mul_nonneg U h0
 unfold Z8
 rw[iA U]
 have h4:k<=(t - YG off l) / QeZ l:=(Int.le_ediv_iff_mul_le U).2 (by rw[Int.mul_comm];omega)
 have h5:(t - YG off l) / QeZ l<k+1:=(Int.ediv_lt_iff_lt_mul U).2 (by rw[Int.mul_comm,Int.mul_add,Int.mul_one];omega)
 omega
def QqC(h:t<Y8 off l 0):Z8 off l t = -1:=by
 unfold Y8 at h;rw[Int.mul_zero,Int.add_zero]at h
 unfold Z8;rw[iB h]
def QAe(h:YZ l)(h0:YG off l<=t):0<=Z8 off l t/\Y8 off l (Z8 off l t)<=t/\t<Y8 off l (Z8 off l t+1):=by
 have hs:=(QqE h).1
 have e:Z8 off l t=(t - YG off l) / QeZ l:=by unfold Z8;rw[iA U]
 have h1:=Int.mul_ediv_add_emod (t - YG off l) (QeZ l)
 have h2:=Cp (t - YG off l) (b:=QeZ l) U
 have h3:=Cq (t - YG off l) (b:=QeZ l) U
 have h4:0<=(t - YG off l) / QeZ l:=EQ U U
 rw[e]
 unfold Y8
 grind
def Qsy(h:YZ l)(ho:off=0\/off=3600\/off = -7200)(ht:t<=8589934592): -1<=Z8 off l t/\Z8 off l t<=8589934592:=by
 by_cases h0:YG off l<=t
 .have h1:=QAe h h0
  have h2:=(QqE h).1
  have h3:=(QiL h ho).1
  have h4:3600*Z8 off l t<=QeZ l*Z8 off l t:=Int.mul_le_mul_of_nonneg_right h2 h1.1
  unfold Y8 at h1
  omega
 .unfold Z8;rw[iB U];omega
def Qel(off:Int)(l:D.v)(t:Int):Int:=if Z8 off l t<0 then -1 else I l.t ((Z8 off l t).toNat % l.t.length)
def Qzo(h:YZ l): -1<=Qel off l t/\Qel off l t<4:=by
 unfold Qel
 split
 .omega
 .have hl:=h.len
  have:=h.mem (I l.t ((Z8 off l t).toNat % l.t.length)) (Qf (Ck _ U))
  omega
def QsX(p t:Int)(x:D.p):AH:=decide (x.b=0) && decide (x.A=p) && decide (x.w<=t) && decide (t<x.To)
def QlM(es:Y D.p)(p t:Int):AH:=es.any (QsX p t)
def Qry(t:Int)(p:Int)(x:D.p):Int:=
 if ¬(x.w<=t/\t<x.To)\/x.b=0 then p else if x.b=1 then x.A else if x.b≠2 then p else if p=x.A then x.B else if p=x.B then x.A else p
def QiO(es:Y D.p)(p t:Int):Int:=es.foldl (Qry t) p
def Qzt(h:Qb8 x)(hp : -1<=p/\p<4): -1<=Qry t p x/\Qry t p x<4:=by
 have ha:=h.a
 have hb:=h.b
 unfold Qry
 repeat' split
 all_goals omega
def Qun:∀{es:Y D.p} {p:Int},(∀x∈es,Qb8 x)->(-1<=p/\p<4)->-1<=QiO es p t/\QiO es p t<4
 |[],p,_,hp=>hp
 |x::es,p,h,hp=>Qun (es:=es) (fun y hy=>h y (BB _ hy)) (Qzt (h x (BA ..)) hp)
def Qot(hk:k<es.length):QiO (es.take (k+1)) p t=Qry t (QiO (es.take k) p t) (I es k):=by
 unfold QiO
 rw[Cu hk,Ef]
 simp[I,AQ,AU hk]
def layP(off:Int)(s:D.c)(t:Int):Int:=if 0<=Qel off (I s.Fi 0) t/\QlM s.FS (Qel off (I s.Fi 0) t) t=false then Qel off (I s.Fi 0) t else -1
def whoS(off:Int)(s:D.c)(t:Int):Int:=QiO s.FS (layP off s t) t
def whoV(c:D.E)(i t:Int):Int:=if 0<=i/\i<2/\0<=t/\t<=8589934592 then whoS (Y9 c) (I c.f i.toNat) t else -1
def QBV(h:Qei n s): -1<=layP off s t/\layP off s t<4:=by
 obtain⟨l,h1,h2⟩:=h.layers
 have:=Qzo (off:=off) (t:=t) h2
 unfold layP
 rw[h1,show I [l] 0=l from rfl]
 split<;>omega
def QCF(h:Zc n c): -1<=whoV c i t/\whoV c i t<4:=by
 unfold whoV
 split
 .have hs:=h.sched (I c.f i.toNat) (Qf (by rw[h.slen];omega))
  exact Qun hs.edit (QBV hs)
 .omega
def Qur(hs:QeZ l=86400*n):(l.R.Fl+k*n)*86400+l.R.FU - off=Y8 off l k:=by
 unfold Y8 YG
 grind
def Qnk(h:l.Unit=1):QeZ l=86400*l.FI:=by unfold QeZ QAr;rw[iA U]
def Qkn(h:l.Unit=0):QeZ l=3600*l.FI:=by unfold QeZ QAr;rw[iB h]
def QdI(c:D.E)(b:D.a)(x:D.FN)(t:Int):Y Int:=
 if x.b=0 then[x.FZ]else if x.b=1 then(if whoV c x.FZ t<0 then[]else[whoV c x.FZ t])else
  if x.b=2/\0<=x.FZ/\x.FZ<(b.u.length:Int)then(I b.u x.FZ.toNat).t else[]
def Means(c:D.E)(b:D.a)(l:Y D.FN)(t z:Int):Prop:=0<=z/\z<4/\∃x∈l,z∈QdI c b x t
def QbY(off t:Int):Int:=((t+off) / 86400+3) % 7*86400+(t+off) % 86400
def Qf1(ws:Y D.E9)(s:Int):AH:=ws.any fun w=>decide (w.w<=s) && decide (s<w.To)
def Vt(c:D.E)(p t:Int)(urgent:AH):AH:=
 decide (0<=p/\p<4/\0<=t/\t<=8589934592) && (urgent && (I c.k p.toNat).Ft || !Qf1 (I c.k p.toNat).Fg (QbY (Y9 c) t))
end
def Qiy:Y AJ:=[ByteArray.mk #[99,111,114,101],ByteArray.mk #[119,101,98]]
def QnE:Y AJ:=[ByteArray.mk #[112],ByteArray.mk #[113],ByteArray.mk #[114]]
structure QqR (t:D.FY):Prop where
 asc:Asc t.t
 len:1<=t.t.length/\t.t.length<=2
 mem:∀x∈t.t,0<=x/\x<4
structure Uo (n:Nat) (t:D.FN):Prop where
 kind:t.b=0\/t.b=1\/t.b=2
 lo:0<=t.FZ
 person:t.b=0->t.FZ<4
 sched:t.b=1->t.FZ<2
 team:t.b=2->t.FZ<(n:Int)
structure StepOK' (n:Nat) (s:D.s):Prop where
 wait:0<=s.Fv/\s.Fv<=900
 len:s.Fb.length<=2
 target:∀t∈s.Fb,Uo n t
structure Qdz (n:Nat) (p:D.T):Prop where
 rep:0<=p.Fj/\p.Fj<=2
 len:1<=p.Steps.length/\p.Steps.length<=3
 step:∀s∈p.Steps,StepOK' n s
structure QP (b:D.a):Prop where
 tlen:b.u.length<=2
 tname:b.u.map (·.Name)=Qiy.take b.u.length
 team:∀t∈b.u,QqR t
 plen:1<=b.j.length/\b.j.length<=3
 pname:b.j.map (·.Name)=QnE.take b.j.length
 pol:∀p∈b.j,Qdz b.u.length p
def YF(p:D.T):Int:=if 0<=p.Fj/\p.Fj<=8/\p.Steps.length<=8 then(p.Steps.length:Int)*(p.Fj+1)else 0
def Yt(h:Qdz n p):YF p=(p.Steps.length:Int)*(p.Fj+1)/\1<=YF p/\YF p<=9:=by
 have h1:=h.rep
 have h2:=h.len
 have e:YF p=(p.Steps.length:Int)*(p.Fj+1):=by unfold YF;rw[iB U]
 refine⟨e,?_⟩
 rw[e]
 have h3:p.Fj=0\/p.Fj=1\/p.Fj=2:=U
 grind
def Vx(c:D.E)(b:D.a)(l:Y D.FN)(t:Int):Y Int:=([0,1,2,3]:Y Int).filter fun z=>l.any fun x=>(QdI c b x t).contains z
def Qcp:z∈Vx c b l t↔Means c b l t z:=by
 unfold Vx Means
 simp only[Bk,EP,Bg,AY,BH,or_false]
 grind
def asc4:Asc [0,1,2,3]:=by unfold Asc;decide
def Qia:Asc (Vx c b l t):=CO _ asc4
def Qib:(Vx c b l t).length<=4:=CP _ _
def QoC(h:Asc r)(hm:∀z,z∈r↔Means c b l t z):r=Vx c b l t:=
 Qfv h Qia fun z=>(hm z).trans Qcp.symm
def QcG(c:D.E)(b:D.a)(s:D.s)(t:Int):Y Int:=(Vx c b s.Fb t).filter fun z=>Vt c z t s.Fp
def QwV:Asc (QcG c b s t):=CO _ Qia
def Qq4:(QcG c b s t).length<=4:=AX (CP _ _) Qib
def QwW:z∈QcG c b s t->0<=z/\z<4:=fun h=>by
 have:=Qcp.1 (Bk.1 h).1
 exact⟨this.1,this.2.1⟩
def Xa(b:D.a)(p:D.Page):D.T:=I b.j p.T.toNat
def dueV(p:D.Page):Int×AH:=if p.r=0 then(p.FM,true)else if p.r=2 then(p.FL,true)else(0,false)
def X9(p:D.Page):Y Int:=if p.P=[]then[]else(I p.P (p.P.length - 1)).k
def setF(n:Int):Int->Y Int->AH
 |_,[]=>true
 |k,x::r=>decide (0<=x) && decide (x<n) && decide (k<x) && setF n x r
def setV(l:Y Int):AH:=setF 32 (-1) l
def WF(next:Int):Int->Int->Y D.R->AH
 |_,_,[]=>true
 |k,t,x::r=>decide (t<=x.At) && (decide (x.K = -1) || decide (0<=x.K) && decide (k<x.K) && decide (x.K<next)) && setV x.k && WF next (max k x.K) x.At r
def Qiq(p:D.Page):AH:=WF p.E7 (-1) p.R p.P && decide (p.P.length<=200)
def Qn2(l:Y Int):AH:=decide l.Nodup && decide (l.length<=64)
def QsJ(p:D.T):AH:=p.Steps.all fun s=>decide (0<=s.Fv) && decide (s.Fv<=86400)
def farV:Int:=17179869184
def inV(n lo hi:Int):AH:=decide (lo<=n) && decide (n<=hi)
def QG(b:D.a)(p:D.Page):AH:=
 inV p.S 1 999999 && inV p.T 0 ((b.j.length:Int) - 1) && inV p.R 0 8589934592 && QsJ (Xa b p) && inV p.E7 0 (YF (Xa b p)) &&
 inV p.r 0 4 && inV p.By (-1) 31 && inV p.FP p.R farV && inV p.FM 0 farV && inV p.FL 0 farV && inV p.z 0 4 && inV p.FJ 0 4 && Qiq p && setV p.g && Qn2 p.i
def page0:D.Page:=D.Page.mk 0 0 0 0 0 0 0 0 0 0 0 [] [] []
def Zw(b:D.a)(p:D.Page):D.s:=I (Xa b p).Steps (p.E7 % ((Xa b p).Steps.length:Int)).toNat
def stepQ(c:D.E)(b:D.a)(p:D.Page):D.Page:=
 if p.r=2 then{ p with r:=0,FM:=p.FL,FP:=max p.FL p.FP }
 else if YF (Xa b p)<=p.E7 then{ p with r:=3,FP:=max p.FM p.FP }
 else{ p with FP:=max p.FM p.FP,P:=p.P++[⟨p.E7,p.FM,QcG c b (Zw b p) p.FM⟩],g:=[],E7:=p.E7+1,FM:=if QcG c b (Zw b p) p.FM=[]then p.FM else p.FM+(Zw b p).Fv }
def stepV(c:D.E)(b:D.a)(p:D.Page):D.Page×Int:=
 if QG b p=false then(page0,8)else if (dueV p).2=false then(page0,9)else if p.P.length=200 then(page0,5)else(stepQ c b p,0)
def YY(p:D.Page)(now:Int):AH:=(dueV p).2 && decide ((dueV p).1<=now)
def runN(c:D.E)(b:D.a)(now:Int):Nat->D.Page->D.Page×Int
 |0,p=>(p,0)
 |n+1,p=>if YY p now=true then(if (stepV c b p).2≠0 then(page0,(stepV c b p).2)else runN c b now n (stepV c b p).1)else(p,0)
def runV(c:D.E)(b:D.a)(p:D.Page)(now:Int):D.Page×Int:=if QG b p=false then(page0,8)else runN c b now 100 p
def YT(a:D.W):AH:=
 inV a.S 1 999999 && inV a.Page 1 999999 && inV a.Q (-1) 31 && inV a.At 0 8589934592 && inV a.b 1 5 && (if a.b=3 then inV a.Fs 1 86400 else if a.b=4 then inV a.Fs 0 31 else decide (a.Fs=0))
def Wg(p:D.Page)(a:D.W):Int:=
 if a.At<p.FP\/YY p a.At=true then 6
 else if p.r=4\/(p.r=3/\a.b≠5)\/(p.r=1/\a.b=2)then 9
 else if p.i.length=64\/(a.b=3/\p.z=4)\/(a.b=4/\(p.FJ=4\/p.P.length=200))then 5 else 0
def Qi6(l:Y Int)(x:Int):Y Int:=l.filter (fun z=>decide (z<x))++x::l.filter (fun z=>decide (x<z))
def U6(p:D.Page)(a:D.W):Y Int:=if (X9 p).contains a.Q=true then Qi6 p.g a.Q else p.g
def Qai(p:D.Page)(a:D.W):AH:=decide (X9 p≠[]) && (X9 p).all fun z=>(U6 p a).contains z
def XG(p:D.Page)(a:D.W):D.Page:=
 if a.b=1 then(if p.r=1 then{ p with i:=p.i++[a.S] }else{ p with i:=p.i++[a.S],FP:=a.At,r:=1,By:=a.Q })
 else if a.b=2 then{ p with i:=p.i++[a.S],FP:=a.At,g:=U6 p a,FM:=if Qai p a=true/\p.r=0 then a.At else p.FM }
 else if a.b=3 then{ p with i:=p.i++[a.S],FP:=a.At,r:=2,By:=a.Q,FL:=a.At+a.Fs,z:=p.z+1 }
 else if a.b=4 then{ p with i:=p.i++[a.S],FP:=a.At,r:=0,FM:=a.At+600,FJ:=p.FJ+1,g:=[],P:=p.P++[⟨-1,a.At,[a.Fs]⟩] }
 else{ p with i:=p.i++[a.S],FP:=a.At,r:=4,By:=a.Q }
def answerV(b:D.a)(p:D.Page)(a:D.W):D.Page×Int:=
 if QG b p=false\/YT a=false then(page0,8)else if a.Page≠p.S then(page0,3)else if p.i.contains a.S=true then(p,0)
 else if Wg p a≠0 then(page0,Wg p a)else(XG p a,0)
open Go AM
inductive Goes (Q:D.R->Prop) (st:Int):List D.R->Int->Int->Int->Prop
 |nil:Goes Q st [] 0 st 0
 |step {l k t h a P}:Goes Q st l k t h->t<=a->(l=[]->a=st)->setV P=true->Q ⟨k,a,P⟩->Goes Q st (l++[⟨k,a,P⟩]) (k+1) a h
 |hand {l k t h a x}:Goes Q st l k t h->t<=a->l≠[]->0<=x->x<=31->Goes Q st (l++[⟨-1,a,[x]⟩]) k a (h+1)
section
def Goes.pos(g:Goes Q st l k t h):0<=k/\0<=h/\(l.length:Int)=k+h/\st<=t:=by
 induction g with
 |nil=>simp
 |step g h1 _ _ _ ih=>simp only[Ac,Ab,Am];omega
 |hand g h1 _ _ _ ih=>simp only[Ac,Ab,Am];omega
def kF:Int->Y D.R->Int
 |k,[]=>k
 |k,x::r=>kF (max k x.K) r
def tF:Int->Y D.R->Int
 |t,[]=>t
 |t,x::r=>tF x.At r
def Qth:∀{l:Y D.R} {k:Int},kF k (l++[x])=max (kF k l) x.K
 |[],_=>rfl
 |y::l,k=>Qth (l:=l) (k:=max k y.K)
def QtX:∀{l:Y D.R} {t:Int},tF t (l++[x])=x.At
 |[],_=>rfl
 |y::l,t=>QtX (l:=l) (t:=y.At)
def Qgx:∀{l:Y D.R} {k t:Int},WF nx k t (l++[x])=(WF nx k t l &&
  (decide (tF t l<=x.At) && (decide (x.K = -1) || decide (0<=x.K) && decide (kF k l<x.K) && decide (x.K<nx)) && setV x.k))
 |[],k,t=>by
  show(_ && true)=(true && _)
  rw[ER,B8];rfl
 |y::l,k,t=>by
  rw[Ar,WF,Qgx (l:=l),WF,kF,tF]
  simp only[Bool.and_assoc]
def QuU(h0:0<=x)(h1:x<=31):setV [x]=true:=by
 unfold setV setF setF;simp;omega
def Goes.fit(g:Goes Q st l k t h):kF (-1) l=k - 1/\tF st l=t/\∀nx,k<=nx->WF nx (-1) st l=true:=by
 induction g with
 |nil=>exact⟨rfl,rfl,fun _ _=>rfl⟩
 |step g h1 h2 h3 h4 ih=>
  obtain⟨i1,i2,i3⟩:=ih
  have hp:=g.pos
  refine⟨by rw[Qth,i1];dsimp only;omega,QtX,fun nx hn=>?_⟩
  rw[Qgx,i3 nx U,i1,i2]
  grind
 |hand g h1 h2 h3 h4 ih=>
  obtain⟨i1,i2,i3⟩:=ih
  have hp:=g.pos
  refine⟨by rw[Qth,i1];dsimp only;omega,QtX,fun nx hn=>?_⟩
  rw[Qgx,i3 nx hn,i1,i2,QuU h3 h4]
  simp[h1]
end
def Qyr:∀{l:Y Int} {k:Int},setF n k l=true↔Asc l/\∀x∈l,0<=x/\x<n/\k<x
 |[],k=>by simp[setF,Asc]
 |y::l,k=>by
  rw[setF]
  simp only[bae,BL,Qyr (l:=l),Asc,CF,AY,forall_eq_or_imp]
  constructor
  .rintro⟨⟨⟨h1,h2⟩,h3⟩,h4,h5⟩
   exact⟨⟨fun z hz=>(h5 z hz).2.2,h4⟩,⟨h1,h2,h3⟩,fun z hz=>⟨(h5 z hz).1,(h5 z hz).2.1,by have:=(h5 z hz).2.2;omega⟩⟩
  .rintro⟨⟨h1,h2⟩,⟨h3,h4,h5⟩,h6⟩
   exact⟨⟨⟨h3,h4⟩,h5⟩,h2,fun z hz=>⟨(h6 z hz).1,(h6 z hz).2.1,h1 z hz⟩⟩
def Qaz:setV l=true↔Asc l/\∀x∈l,0<=x/\x<32:=by
 unfold setV;rw[Qyr]
 grind
def Qyt:setV (QcG c b s t)=true:=
 Qaz.2 ⟨QwV,fun x hx=>by have:=QwW hx;omega⟩
def QcZ(h:Asc l):Asc (Qi6 l x)/\∀z,z∈Qi6 l x↔z∈l\/z=x:=by
 unfold Qi6
 refine⟨?_,fun z=>?_⟩
 .refine CH.2 ⟨CO _ h,CF.2 ⟨fun a ha=>?_,CO _ h⟩,fun a ha b hb=>?_⟩
  .simp_all
  .grind
 .grind
def QxY(h:Asc l)(hx:x∈l):Qi6 l x=l:=
 Qfv (QcZ h).1 h fun z=>by rw[(QcZ h).2];exact⟨fun g=>g.elim id (fun e=>e ▸ hx),.inl⟩
def QfG(hd:(dueV p).2=true):p.r=0\/p.r=2:=by
 unfold dueV at hd
 grind
structure QM (Q:Int->D.R->Prop) (M:Int) (b:D.a) (p:D.Page):Prop where
 top:M<=8000000000
 id:1<=p.S/\p.S<=999999
 pol:0<=p.T/\p.T<(b.j.length:Int)
 start:0<=p.R/\p.R<=M - 20000
 goes:∃t,Goes (Q p.T) p.R p.P p.E7 t p.FJ/\t<=p.FP/\(p.r=0->t<=p.FM)/\(p.r=2->t<=p.FL)
 next:p.E7<=YF (Xa b p)
 state:0<=p.r/\p.r<=4
 by_ : -1<=p.By/\p.By<=31
 last:p.FP<=M
 due:0<=p.FM/\p.FM<=M
 until_:0<=p.FL/\p.FL<=M
 dueO:p.r=0->p.FM+900*(YF (Xa b p) - p.E7)<=M
 untilS:p.r=2->p.FL+900*(YF (Xa b p) - p.E7)<=M
 snoozes:0<=p.z/\p.z<=4
 hands:p.FJ<=4
 first:p.P=[]->p.r=0/\p.FM=p.R
 ended:p.r=3->p.E7=YF (Xa b p)
 declined:setV p.g=true
 seen:Qn2 p.i=true
section
def QM.polOK(h:QM Q M b p)(hb:QP b):Qdz b.u.length (Xa b p):=hb.pol _ (Qf (by have:=h.pol;omega))
def Qdz.waits(h:Qdz n q):QsJ q=true:=by
 unfold QsJ
 refine AW.2 fun s hs=>?_
 have:=(h.step s hs).wait
 simp;omega
def Qt:inV n lo hi=true↔lo<=n/\n<=hi:=by simp[inV]
def QM.len(h:QM Q M b p)(hb:QP b):p.P.length<=13/\0<=p.E7/\0<=p.FJ:=by
 obtain⟨t,h1,_⟩:=h.goes
 have h2:=h1.pos
 have h3:=Yt (h.polOK hb)
 have h4:=h.next
 have h5:=h.hands
 omega
def QM.check(h:QM Q M b p)(hb:QP b):QG b p=true:=by
 obtain⟨t,h1,h2,_⟩:=h.goes
 have h3:=h1.pos
 have h4:=h1.fit
 have h5:=h.len hb
 have g0:=h.top;have g1:=h.id;have g2:=h.pol;have g3:=h.start;have g4:=h.next;have g5:=h.state;have g6:=h.by_;have g7:=h.last;have g8:=h.due;have g9:=h.until_;have g10:=h.snoozes;have g11:=h.hands
 unfold QG Qiq farV
 rw[h4.2.2 _ (Al _),h.declined,h.seen,(h.polOK hb).waits]
 simp only[ER,B8,bae,Qt,BL]
 omega
def QM.mono(h:QM Q M b p)(hq:∀s,Q p.T s->Q' p.T s):QM Q' M b p:=by
 obtain⟨t,h1,h2⟩:=h.goes
 refine{ h with goes:=⟨t,?_,h2⟩ }
 generalize p.FJ=hh at h1
 generalize p.E7=nn at h1
 generalize p.P=ss at h1
 clear h2
 induction h1 with
 |nil=>exact .nil
 |step g a1 a2 a3 a4 ih=>exact .step ih a1 a2 a3 (hq _ a4)
 |hand g a1 a2 a3 a4 ih=>exact .hand ih a1 a2 a3 a4
def QtV(h:Qdz n q)(hk:0<=k):I q.Steps (k % (q.Steps.length:Int)).toNat∈q.Steps:=by
 have:=h.len
 refine Qf ?_
 have h1:=Cp k (b:=(q.Steps.length:Int)) U
 have h2:=Cq k (b:=(q.Steps.length:Int)) U
 omega
def QM.stepQ_inv(h:QM Q M b p)(hb:QP b)(hd:(dueV p).2=true)(hQ:p.r=0->p.E7<YF (Xa b p)->Q p.T ⟨p.E7,p.FM,QcG c b (Zw b p) p.FM⟩):QM Q M b (stepQ c b p):=by
 obtain⟨t,h1,h2,h3,h4⟩:=h.goes
 have hp:=h1.pos
 have hs:p.r=0\/p.r=2:=QfG hd
 have g0:=h.top;have g3:=h.start;have g7:=h.last;have g8:=h.due;have g9:=h.until_
 have g10:=h.dueO;have g11:=h.untilS;have gn:=h.next
 unfold stepQ
 split
 .rename_i e2
  have e3:=h4 e2
  have hne:p.P≠[]:=fun e=>by have:=(h.first e).1;omega
  exact⟨h.top,h.id,h.pol,h.start,⟨t,h1,by dsimp only;omega,fun _=>e3,fun e=>by simp at e⟩,h.next,by dsimp only;omega,h.by_,by dsimp only;omega,g9,g9,fun _=>g11 e2,fun e=>by simp at e,h.snoozes,h.hands,fun e=>absurd e hne,fun e=>by simp at e,h.declined,h.seen⟩
 .rename_i e2
  have e0:p.r=0:=U
  have e3:=h3 e0
  have e4:=g10 e0
  split
  .rename_i e5
   have hc:=Yt (h.polOK hb)
   have hne:p.P≠[]:=fun e=>by
    grind
   exact⟨h.top,h.id,h.pol,h.start,⟨t,h1,by dsimp only;omega,fun e=>by simp at e,fun e=>by simp at e⟩,h.next,by dsimp only;omega,h.by_,by dsimp only;omega,g8,g9,fun e=>by simp at e,fun e=>by simp at e,h.snoozes,h.hands,fun e=>absurd e hne,fun _=>by show p.E7=YF (Xa b p);omega,h.declined,h.seen⟩
  .rename_i e5
   have hw:=(h.polOK hb).step _ (QtV (h.polOK hb) hp.1)
   have hw':0<=(Zw b p).Fv/\(Zw b p).Fv<=900:=hw.wait
   have hdue:(if QcG c b (Zw b p) p.FM=[]then p.FM else p.FM+(Zw b p).Fv)<=p.FM+900/\p.FM<=(if QcG c b (Zw b p) p.FM=[]then p.FM else p.FM+(Zw b p).Fv):=by split<;>omega
   refine⟨h.top,h.id,h.pol,h.start,⟨p.FM,.step h1 e3 (fun e=>?_) Qyt (hQ e0 U),by dsimp only;omega,fun _=>hdue.2,fun e=>?_⟩,?_,h.state,h.by_,by dsimp only;omega,?_,g9,fun _=>?_,fun e=>absurd e e2,h.snoozes,h.hands,fun e=>by simp at e,fun e=>?_,by dsimp only;decide,h.seen⟩
   .exact(h.first e).2
   .exact absurd e e2
   .show p.E7+1<=YF (Xa b p);omega
   .dsimp only;omega
   .show(if QcG c b (Zw b p) p.FM=[]then p.FM else p.FM+(Zw b p).Fv)+900*(YF (Xa b p) - (p.E7+1))<=M
    omega
   .simp_all
def QM.answerQ_inv(h:QM Q M b p)(hb:QP b)(hv:YT a=true)(ha:a.At<=M - 20000)(hs:a.b=3->a.Fs<=5000)(hseen:p.i.contains a.S=false)(hr:Wg p a=0):QM Q M b (XG p a):=by
 obtain⟨t,h1,h2,h3,h4⟩:=h.goes
 have hp:=h1.pos
 unfold YT at hv
 simp only[bae,Qt]at hv
 obtain⟨⟨⟨⟨⟨v1,v2⟩,v3⟩,v4⟩,v5⟩,v6⟩:=hv
 unfold Wg at hr
 split at hr
 .simp at hr
 rename_i r1
 split at hr
 .simp at hr
 rename_i r2
 split at hr
 .simp at hr
 rename_i r3
 have hw:YY p a.At=false:=by cases hb:YY p a.At<;>simp_all
 have hla:p.FP<=a.At:=U
 have hne:p.P≠[]:=fun e=>by
  obtain⟨e1,e2⟩:=h.first e
  have hst:p.R<=t:=hp.2.2.2
  unfold YY dueV at hw
  grind
 have g0:=h.top;have g3:=h.start;have g7:=h.last;have g8:=h.due;have g9:=h.until_
 have g10:=h.dueO;have g11:=h.untilS;have gn:=h.next;have gs:=h.snoozes;have gh:=h.hands;have gst:=h.state
 have hc:=Yt (h.polOK hb)
 have hsn:Qn2 (p.i++[a.S])=true:=by
  have:=h.seen
  unfold Qn2 at this |-
  grind
 have hdec:setV (U6 p a)=true:=by
  have hd:=Qaz.1 h.declined
  unfold U6
  split
  .rename_i hcal
   refine Qaz.2 ⟨(QcZ hd.1).1,fun x hx=>?_⟩
   rcases((QcZ hd.1).2 x).1 hx with hx|rfl
   .exact hd.2 x hx
   .have hm:=Bg.1 hcal
    have hst:=(h1.fit.2.2 _ (Al _))
    have hall:∀{nx:Int} {l:Y D.R} {k t:Int},WF nx k t l=true->∀s∈l,setV s.k=true:=by
     intro nx l
     induction l with
     |nil=>intro k t _ s hs;simp at hs
     |cons y l ih=>
      intro k t hq s hs
      rw[WF]at hq
      grind
    unfold X9 at hm
    rw[iA hne]at hm
    have hlen:0<p.P.length:=CB.2 hne
    exact(Qaz.1 (hall hst _ (Qf U))).2 _ hm
  .exact h.declined
 unfold XG
 split
 .split
  .exact⟨h.top,h.id,h.pol,h.start,⟨t,h1,h2,h3,h4⟩,h.next,h.state,h.by_,h.last,h.due,h.until_,h.dueO,h.untilS,h.snoozes,h.hands,fun e=>absurd e hne,h.ended,h.declined,hsn⟩
  .exact⟨h.top,h.id,h.pol,h.start,⟨t,h1,by dsimp only;omega,fun e=>by simp at e,fun e=>by simp at e⟩,h.next,by dsimp only;omega,v3,by dsimp only;omega,h.due,h.until_,fun e=>by simp at e,fun e=>by simp at e,h.snoozes,h.hands,fun e=>absurd e hne,fun e=>by simp at e,h.declined,hsn⟩
 .split
  .have hdue:(if Qai p a=true/\p.r=0 then a.At else p.FM)=p.FM\/((if Qai p a=true/\p.r=0 then a.At else p.FM)=a.At/\p.r=0):=by
    omega
   refine⟨h.top,h.id,h.pol,h.start,⟨t,h1,by dsimp only;omega,fun e=>?_,h4⟩,h.next,h.state,h.by_,by dsimp only;omega,?_,h.until_,fun e=>?_,h.untilS,h.snoozes,h.hands,fun e=>absurd e hne,h.ended,hdec,hsn⟩
   .grind
   .dsimp only;omega
   .have:=g10 e
    show(if Qai p a=true/\p.r=0 then a.At else p.FM)+900*(YF (Xa b p) - p.E7)<=M
    omega
  .split
   .rename_i k3
    rw[iB k3]at v6
    have v6:=Qt.1 v6
    have:=hs k3
    exact⟨h.top,h.id,h.pol,h.start,⟨t,h1,by dsimp only;omega,fun e=>by simp at e,fun e=>by dsimp only;omega⟩,h.next,by dsimp only;omega,v3,by dsimp only;omega,h.due,by dsimp only;omega,fun e=>by simp at e,fun _=>by show a.At+a.Fs+900*(YF (Xa b p) - p.E7)<=M;omega,by dsimp only;omega,h.hands,fun e=>absurd e hne,fun e=>by simp at e,h.declined,hsn⟩
   .rename_i k3
    split
    .rename_i k4
     rw[iA k3,iB k4]at v6
     have v6:=Qt.1 v6
     exact⟨h.top,h.id,h.pol,h.start,⟨a.At,.hand h1 U hne v6.1 v6.2,by dsimp only;omega,fun e=>by dsimp only;omega,fun e=>by simp at e⟩,h.next,by dsimp only;omega,h.by_,by dsimp only;omega,by dsimp only;omega,h.until_,fun _=>by show a.At+600+900*(YF (Xa b p) - p.E7)<=M;omega,fun e=>by simp at e,h.snoozes,by dsimp only;omega,fun e=>by simp at e,fun e=>by simp at e,by dsimp only;decide,hsn⟩
    .exact⟨h.top,h.id,h.pol,h.start,⟨t,h1,by dsimp only;omega,fun e=>by simp at e,fun e=>by simp at e⟩,h.next,by dsimp only;omega,v3,by dsimp only;omega,h.due,h.until_,fun e=>by simp at e,fun e=>by simp at e,h.snoozes,h.hands,fun e=>absurd e hne,fun e=>by simp at e,h.declined,hsn⟩
def newP(id pol start:Int):D.Page:=D.Page.mk id pol start 0 start 0 (-1) 0 start 0 0 [] [] []
def QB5{id pol start:Int}(hM:M<=8000000000)(hb:QP b)(h1:1<=id/\id<=999999)(h2:0<=pol/\pol<(b.j.length:Int))(h3:0<=start/\start<=M - 20000):QM Q M b (newP id pol start):=by
 have hp:Qdz b.u.length (Xa b (newP id pol start)):=hb.pol _ (Qf (by show pol.toNat<_;omega))
 have hc:=Yt hp
 exact⟨hM,h1,h2,h3,⟨start,.nil,Al _,fun _=>Al _,fun e=>by simp[newP]at e⟩,by show 0<=_;omega,by simp[newP],by simp[newP],by show start<=_;omega,by show 0<=start/\start<=_;omega,by show(0:Int)<=0/\(0:Int)<=M;omega,fun _=>by show start+900*(_ - 0)<=_;omega,fun e=>by simp[newP]at e,by simp[newP],by simp[newP],fun _=>⟨rfl,rfl⟩,fun e=>by simp[newP]at e,by dsimp only[newP];decide,by dsimp only[newP];decide⟩
def QaU(b:D.a)(p:D.Page):Nat:=if p.r=2 then(YF (Xa b p) - p.E7).toNat+2 else if p.r=0 then(YF (Xa b p) - p.E7).toNat+1 else 0
def Qv2:Xa b (stepQ c b p)=Xa b p:=by
 unfold stepQ Xa
 grind
def Qd9(hd:(dueV p).2=true):QaU b (stepQ c b p)<QaU b p:=by
 have hs:p.r=0\/p.r=2:=QfG hd
 unfold QaU
 rw[Qv2]
 unfold stepQ
 grind
def Qbd(h:YY p now=true):(dueV p).2=true/\(dueV p).1<=now:=by
 unfold YY at h;simpa using h
def Qkq(h:QaU b p=0):YY p now=false:=by
 unfold QaU at h
 unfold YY dueV
 grind
def QM.stepVis(h:QM Q M b p)(hb:QP b)(hd:(dueV p).2=true):stepV c b p=(stepQ c b p,0):=by
 unfold stepV
 rw[h.check hb,hd,iA Ob,iA Ob,iA (by have:=(h.len hb).1;omega)]
def QkP(Q:Int->D.R->Prop)(M:Int)(c:D.E)(b:D.a):Prop:=∀p,QM Q M b p->p.r=0->p.E7<YF (Xa b p)->Q p.T ⟨p.E7,p.FM,QcG c b (Zw b p) p.FM⟩
def Qqv(hb:QP b)(hQ:QkP Q M c b):∀(n:Nat) {p:D.Page},QM Q M b p->QaU b p<=n->QM Q M b (runN c b now n p).1/\(runN c b now n p).2=0/\YY (runN c b now n p).1 now=false
 |0,p,h,hl=>⟨h,rfl,Qkq (b:=b) (show QaU b p=0 by omega)⟩
 |n+1,p,h,hl=>by
  rw[runN]
  split
  .rename_i hw
   have hd:=Qbd hw
   rw[h.stepVis hb hd.1,iA Ob]
   exact Qqv hb hQ n (h.stepQ_inv hb hd.1 (hQ p h)) (by have:=Qd9 (c:=c) (b:=b) hd.1;dsimp only;omega)
  .rename_i hw
   exact⟨h,rfl,by dsimp only;cases hb:YY p now<;>simp_all⟩
def Quz(hb:QP b)(h:QM Q M b p):QaU b p<=11:=by
 have hc:=Yt (h.polOK hb)
 have:=(h.len hb).2
 unfold QaU
 grind
def QeR(hb:QP b)(hQ:QkP Q M c b)(h:QM Q M b p):QM Q M b (runV c b p now).1/\(runV c b p now).2=0/\YY (runV c b p now).1 now=false:=by
 unfold runV
 rw[h.check hb,iA Ob]
 exact Qqv hb hQ 100 h (by have:=Quz hb h;omega)
def Qsq(hb:QP b)(hQ:QkP Q M c b):∀(n m:Nat) {p:D.Page},QM Q M b p->QaU b p<=n->QaU b p<=m->runN c b now n p=runN c b now m p
 |0,0,p,h,h1,h2=>rfl
 |0,m+1,p,h,h1,h2=>by rw[runN,runN,Qkq (b:=b) U,iA Ob]
 |n+1,0,p,h,h1,h2=>by rw[runN,runN,Qkq (b:=b) U,iA Ob]
 |n+1,m+1,p,h,h1,h2=>by
  rw[runN,runN]
  split
  .rename_i hw
   have hd:=Qbd hw
   rw[h.stepVis hb hd.1,iA Ob,iA Ob]
   have:=Qd9 (c:=c) (b:=b) hd.1
   exact Qsq hb hQ n m (h.stepQ_inv hb hd.1 (hQ p h)) (by dsimp only;omega) (by dsimp only;omega)
  .rfl
def QoQ(hb:QP b)(hQ:QkP Q M c b)(haz:a<=z):∀(n:Nat) {p:D.Page},QM Q M b p->QaU b p<=n->runN c b z n (runN c b a n p).1=runN c b z n p
 |0,p,h,hl=>rfl
 |n+1,p,h,hl=>by
  by_cases hw:YY p a=true
  .have hd:=Qbd hw
   have hz:YY p z=true:=by unfold YY;rw[hd.1];simp;omega
   have hl':=Qd9 (c:=c) (b:=b) hd.1
   have hi:=h.stepQ_inv hb hd.1 (hQ p h)
   rw[show runN c b a (n+1) p=runN c b a n (stepQ c b p)from by rw[runN,iB hw,h.stepVis hb hd.1,iA Ob],show runN c b z (n+1) p=runN c b z n (stepQ c b p)from by rw[runN,iB hz,h.stepVis hb hd.1,iA Ob],<-QoQ hb hQ haz n hi U]
   have hr:=Qqv (now:=a) hb hQ n hi U
   have hle:∀(n:Nat) {p:D.Page},QM Q M b p->QaU b (runN c b a n p).1<=QaU b p:=by
    intro n
    induction n with
    |zero=>intro p _;exact AP _
    |succ n ih=>
     intro p h
     rw[runN]
     split
     .rename_i hw
      have hd:=Qbd hw
      rw[h.stepVis hb hd.1,iA Ob]
      exact AX (ih (h.stepQ_inv hb hd.1 (hQ p h))) (EM (Qd9 hd.1))
     .exact AP _
   have:=hle n hi
   exact Qsq hb hQ (n+1) n hr.1 U U
  .rw[show runN c b a (n+1) p=(p,0)from by rw[runN,iA hw]]
def Qkk(h:QG b p=true):runV c b p now=runN c b now 100 p:=by unfold runV;rw[h,iA Ob]
def QoR(hb:QP b)(hQ:QkP Q M c b)(haz:a<=z)(h:QM Q M b p):runV c b (runV c b p a).1 z=runV c b p z:=by
 have hr:=QeR (now:=a) hb hQ h
 rw[Qkk (hr.1.check hb),Qkk (h.check hb),Qkk (h.check hb)]
 exact QoQ hb hQ haz 100 h (by have:=Quz hb h;omega)
end
open Go AM IntKind
noncomputable section
def tyL:Y (Nat×TC):=[(2,.int),(3,.int),(4,.bool),(5,.u8),(6,.u8),(9,.TY),(10,.TY),(11,.TY),(32,.E),(36,.a),(40,.F),(46,.H),(48,.d),(53,.N),(55,.W),(57,.p),(59,.Op),(61,.o),(65,.int),(83,.Page),(104,.R),(106,.Call),(116,.y),(124,.q),(128,.Q),(130,.E9),(132,.Fh),(134,.v),(138,.c),(141,.FY),(144,.T),(147,.s),(149,.FN),(158,.site),(178,.e),(212,.FC),(218,.m),(226,.fence),(257,.worker),(272,.FG),(348,.Fu),(368,.FV),(369,.FH),(372,.Fr),(388,.occurrence),(403,.int),(423,.Fq),(427,.Fc),(480,.Fz),(487,.u8),(488,.u8)]
def ty(t:Nat):O TC:=AM.C t tyL
abbrev nI:SSh:=.one (.TZ .i64)
abbrev kI:Sh:=.TZ .i64
abbrev lI:SSh:=.one (.TQ .int)
abbrev rf(n:Nat):Nat×SSh:=(n,.one (.TN (1000+n)))
abbrev nJ(n:Nat):Nat×SSh:=(n,.one (.TZ .i64))
def gS:Nat->Ann->Ann
 |0,a=>a
 |n+1,a=>.Tb .go (gS n a)
def lp(s:Y (Nat×SSh))(o:Y (Name×OSh))(a:Ann):Ann:=.Tb (.Tb .go (.one (.loop s o a))) .go
abbrev li(n:Nat)(t:TC):Nat×SSh:=(n,.one (.TQ t))
abbrev bx(n:Nat)(t:TC):Name×OSh:=(n,.TV t)
abbrev ar(n:Nat)(t:TC):Name×OSh:=(n,.TI t)
def shF:Sh->Type->Type
 |.TZ _,zF=>Int->zF
 |.Tc,zF=>AH->zF
 |.TY,zF=>AJ->zF
 |.TQ t,zF=>Y (TT t)->zF
 |.view _,zF=>Nat->Nat->zF
 |.nul,zF=>zF
 |.TN _,zF=>zF
 |.own _,zF=>zF
 |.clo _ _,zF=>zF
 |.fv _,zF=>zF
 |.mref _,zF=>zF
def shA:(s:Sh)->{zF zB:Type}->shF s zF->s.prod zB->zF×zB
 |.TZ _,_,_,f,p=>(f p.1,p.2)
 |.Tc,_,_,f,p=>(f p.1,p.2)
 |.TY,_,_,f,p=>(f p.1,p.2)
 |.TQ _,_,_,f,p=>(f p.1,p.2)
 |.view _,_,_,f,p=>(f p.1 p.2.1,p.2.2)
 |.nul,_,_,f,p=>(f,p)
 |.TN _,_,_,f,p=>(f,p)
 |.own _,_,_,f,p=>(f,p)
 |.clo _ _,_,_,f,p=>(f,p)
 |.fv _,_,_,f,p=>(f,p)
 |.mref _,_,_,f,p=>(f,p)
def ssF:SSh->Type->Type
 |.one s,zF=>shF s zF
 |.st t,zF=>TT t->zF
 |.agg l,zF=>TL l->zF
def ssA:(s:SSh)->{zF zB:Type}->ssF s zF->s.prod zB->zF×zB
 |.one s,_,_,f,p=>shA s f p
 |.st _,_,_,f,p=>(f p.1,p.2)
 |.agg _,_,_,f,p=>(f p.1,p.2)
def cuR:Y SSh->Type->Type
 |[],zF=>zF
 |s::r,zF=>ssF s (cuR r zF)
def unc:(l:Y SSh)->{R:Type}->cuR l R->SL l->R
 |[],_,f,_=>f
 |s::r,_,f,x=>unc r (ssA s f x).1 (ssA s f x).2
abbrev sP(A R:Y SSh){T:Type}[AL T](F:cuR A (O T))(un:T->SL R×OL []:=by first|exact fun q=>((q,()),())|exact fun q=>((q.1,q.2,()),())|exact fun q=>((q.1,q.2.1,q.2.2,()),())):Sig:=Ql A [] R [] [] T un fun x _=>unc A F x
abbrev sF:O AH:=some false
abbrev sT:O AH:=some true
abbrev cd{R:Type}(p:Prop)[Decidable p](x y:O R):O R:=J (decide p) x y
abbrev FO(k:FuncId)(g:Sig):Prop:=FnOK Tryz.prog k g
abbrev sI(A:Y SSh)(F:SL A->O Int):Sig:=Ql A [] [.one (.TZ .i64)] [] [] Int (fun q=>((q,()),())) fun x _=>F x
abbrev sB(A:Y SSh)(F:SL A->O AH):Sig:=Ql A [] [.one .Tc] [] [] AH (fun q=>((q,()),())) fun x _=>F x
def eN{P:AF}:Qix P []:=trivial
def eC{P:AF}{l:Y (Nat×Nat×Sig)}{k:Nat}{g:Sig}(h:FnOK P k g)(hl:Qix P l):Qix P ((k,0,g)::l):=⟨h,hl⟩
def eD(d:Nat){P:AF}{l:Y (Nat×Nat×Sig)}{k:Nat}{g:Sig}(h:FnOK P k g)(hl:Qix P l):Qix P ((k,d,g)::l):=⟨h,hl⟩
def fI{l:Y (Nat×Nat×Sig)}{f:FuncId}(u:Nat){fn:Func}{c:Code}(an:Ann){args:Y SSh}{pre:Y (Name×OSh)}{res:Y SSh}{post:Y (Name×OSh)}{keep:Y Name}{Ret:Type}[AL Ret]{un:Ret->SL res×OL post}{F:SL args->OL pre->O Ret}(conv:SL res->OL post->Ret)(hE:Qix Tryz.prog l)(hf:Tryz.prog.funcs[f]?=some fn)(hb:fn.body=some c:=by rfl)(hlen:Nat.ble args.length fn.ntmps=true:=by rfl)(hcu:∀a b,un (conv a b)=(a,b):=by exact fun _ _=>rfl)(hF:∀x y,vc Tryz.prog ty (envL l) (keys pre) fn.ntmps u c an (Qca 0 (SL.put 0 args x)) (OL.put 0 pre y) (finK Tryz.prog (keys pre) fn.results.toList (Ql args pre res post keep Ret un F) y fun a b=>some (conv a b))=F x y:=by intro x y;kernel_rfl):
  FnOK Tryz.prog f (Ql args pre res post keep Ret un F):=FnOK.intro (ty:=ty) conv hcu (Qtb hE) hf hb hlen hF
def fP{l:Y (Nat×Nat×Sig)}{f:FuncId}(u:Nat){fn:Func}{c:Code}(an:Ann){A R:Y SSh}{T:Type}[AL T]{F:cuR A (O T)}{un:T->SL R×OL []}(hE:Qix Tryz.prog l)(hf:Tryz.prog.funcs[f]?=some fn)(conv:SL R->OL []->T:=by first|exact fun a _=>a.1|exact fun a _=>(a.1,a.2.1)|exact fun a _=>(a.1,a.2.1,a.2.2.1))(hb:fn.body=some c:=by rfl)(hlen:Nat.ble A.length fn.ntmps=true:=by rfl)(hcu:∀a b,un (conv a b)=(a,b):=by exact fun _ _=>rfl)(hF:∀x y,vc Tryz.prog ty (envL l) (keys ([]:Y (Name×OSh))) fn.ntmps u c an (Qca 0 (SL.put 0 A x)) (OL.put 0 [] y) (finK Tryz.prog (keys ([]:Y (Name×OSh))) fn.results.toList (Ql A [] R [] [] T un fun x _=>unc A F x) y fun a b=>some (conv a b))=unc A F x:=by intro x y;kernel_rfl):
  FnOK Tryz.prog f (Ql A [] R [] [] T un fun x _=>unc A F x):=FnOK.intro (ty:=ty) conv hcu (Qtb hE) hf hb hlen hF
abbrev P3:Type:=Int×Int×Int×Unit
abbrev P4:Type:=Int×Int×Int×Int×Unit
abbrev P5:Type:=Int×Int×Int×Int×Int×Unit
abbrev P6:Type:=Int×Int×Int×Int×Int×Int×Unit
abbrev P7:Type:=Int×Int×Int×Int×Int×Int×Int×Unit
abbrev P8:Type:=Int×Int×Int×Int×Int×Int×Int×Int×Unit
abbrev P9:Type:=Int×Int×Int×Int×Int×Int×Int×Int×Int×Unit
abbrev P10:Type:=Int×Int×Int×Int×Int×Int×Int×Int×Int×Int×Unit
abbrev P11:Type:=Int×Int×Int×Int×Int×Int×Int×Int×Int×Int×Int×Unit
abbrev P12:Type:=Int×Int×Int×Int×Int×Int×Int×Int×Int×Int×Int×Int×Unit
abbrev P13:Type:=Int×Int×Int×Int×Int×Int×Int×Int×Int×Int×Int×Int×Int×Unit
abbrev kz0:=fun(q:(Int×D.worker))=>((q.1,()),(q.2.F.E8,q.2.F.E.FD,q.2.F.E.k,q.2.F.E.n,q.2.F.E.f,q.2.F.a.u,q.2.F.a.j,q.2.F.FA,q.2.F.Fence,()),q.2.F.G,q.2.F.i,q.2.F.Calls,())
abbrev kz1:=fun(a:SL [nI]) (b:OL [(101,.box [kI,.TQ .q,.TQ .Q,.TQ .m,.TQ .c,.TQ .FY,.TQ .T,.own 102,kI,kI,.own 103,.own 104]),ar 102 .Page,ar 103 .int,ar 104 .Call])=>(a.1,(D.worker.mk (D.F.mk b.1.1 (D.E.mk b.1.2.1 b.1.2.2.1 b.1.2.2.2.1 b.1.2.2.2.2.1) (D.a.mk b.1.2.2.2.2.2.1 b.1.2.2.2.2.2.2.1) b.2.1 b.1.2.2.2.2.2.2.2.1 b.1.2.2.2.2.2.2.2.2.1 b.2.2.1 b.2.2.2.1)))
abbrev kz2{A:Type}(q:A):=((q,()),())
abbrev kz3:=fun(q:(D.F×Int))=>(((q.1.E8,q.1.E.FD,q.1.E.k,q.1.E.n,q.1.E.f,q.1.a.u,q.1.a.j,q.1.FA,q.1.Fence,()),q.2,()),q.1.G,q.1.i,q.1.Calls,())
abbrev kz4{A B zH:Type}(a:(A×B))(b:zH):=a.1
abbrev kz5{A:Type}(q:A):=((),q,())
abbrev kz6:=fun(q:D.F)=>(((q.E8,q.E.FD,q.E.k,q.E.n,q.E.f,q.a.u,q.a.j,q.FA,q.Fence,()),()),q.G,q.i,q.Calls,())
abbrev kz7:=fun(a:SL [.agg [kI,.TQ .q,.TQ .Q,.TQ .m,.TQ .c,.TQ .FY,.TQ .T,.own 101,kI,kI,.own 102,.own 103],nI]) (b:OL [ar 101 .Page,ar 102 .int,ar 103 .Call])=>((D.F.mk a.1.1 (D.E.mk a.1.2.1 a.1.2.2.1 a.1.2.2.2.1 a.1.2.2.2.2.1) (D.a.mk a.1.2.2.2.2.2.1 a.1.2.2.2.2.2.2.1) b.1 a.1.2.2.2.2.2.2.2.1 a.1.2.2.2.2.2.2.2.2.1 b.2.1 b.2.2.1),a.2.1)
abbrev kz8{A B zH:Type}(a:A)(b:(B×zH)):=b.1
abbrev kz9:=fun(q:(AH×D.Page))=>((q.1,()),(q.2.S,q.2.T,q.2.R,q.2.E7,q.2.FM,q.2.r,q.2.By,q.2.FL,q.2.FP,q.2.z,q.2.FJ,()),q.2.P,q.2.g,q.2.i,())
abbrev kz10:=fun(q:D.worker)=>((),(q.F.E8,q.F.E.FD,q.F.E.k,q.F.E.n,q.F.E.f,q.F.a.u,q.F.a.j,q.F.FA,q.F.Fence,()),q.F.G,q.F.i,q.F.Calls,())
abbrev kz11:=fun(a:SL [.one .Tc]) (b:OL [(101,.box [kI,kI,kI,kI,kI,kI,kI,kI,kI,kI,kI,.own 102,.own 103,.own 104]),ar 102 .R,ar 103 .int,ar 104 .int])=>(a.1,(D.Page.mk b.1.1 b.1.2.1 b.1.2.2.1 b.1.2.2.2.1 b.1.2.2.2.2.1 b.1.2.2.2.2.2.1 b.1.2.2.2.2.2.2.1 b.1.2.2.2.2.2.2.2.1 b.1.2.2.2.2.2.2.2.2.1 b.1.2.2.2.2.2.2.2.2.2.1 b.1.2.2.2.2.2.2.2.2.2.2.1 b.2.1 b.2.2.1 b.2.2.2.1))
abbrev kz12:=fun(q:D.Page)=>(((q.S,q.T,q.R,q.E7,q.FM,q.r,q.By,q.FL,q.FP,q.z,q.FJ,()),()),q.P,q.g,q.i,())
abbrev kz13:=fun(a:SL []) (b:OL [(101,.box [kI,.TQ .q,.TQ .Q,.TQ .m,.TQ .c,.TQ .FY,.TQ .T,.own 102,kI,kI,.own 103,.own 104]),ar 102 .Page,ar 103 .int,ar 104 .Call])=>D.worker.mk (D.F.mk b.1.1 (D.E.mk b.1.2.1 b.1.2.2.1 b.1.2.2.2.1 b.1.2.2.2.2.1) (D.a.mk b.1.2.2.2.2.2.1 b.1.2.2.2.2.2.2.1) b.2.1 b.1.2.2.2.2.2.2.2.1 b.1.2.2.2.2.2.2.2.2.1 b.2.2.1 b.2.2.2.1)
abbrev kz14:=fun(a:SL [.agg [kI,.TQ .q,.TQ .Q,.TQ .m,.TQ .c,.TQ .FY,.TQ .T,.own 101,kI,kI,.own 102,.own 103]]) (b:OL [ar 101 .Page,ar 102 .int,ar 103 .Call])=>D.F.mk a.1.1 (D.E.mk a.1.2.1 a.1.2.2.1 a.1.2.2.2.1 a.1.2.2.2.2.1) (D.a.mk a.1.2.2.2.2.2.1 a.1.2.2.2.2.2.2.1) b.1 a.1.2.2.2.2.2.2.2.1 a.1.2.2.2.2.2.2.2.2.1 b.2.1 b.2.2.1
abbrev kz15{A B:Type}(q:(A×B)):=((q.1,()),q.2,())
abbrev kz16:=fun(q:(Int×D.Page))=>((q.1,()),(q.2.S,q.2.T,q.2.R,q.2.E7,q.2.FM,q.2.r,q.2.By,q.2.FL,q.2.FP,q.2.z,q.2.FJ,()),q.2.P,q.2.g,q.2.i,())
abbrev kz17{A B zH D:Type}(a:(A×B))(b:(zH×D)):=(a.1,b.1)
abbrev kz18{A B zH:Type}(q:(A×(B×zH))):=((q.1,q.2.1,()),q.2.2,())
abbrev kz19:=fun(q:D.N)=>(((q.S,q.Z,q.Fd,q.FK,q.h,()),()),q.l,q.FR,q.FF,())
abbrev kz20{A B zH D E:Type}(a:(A×(B×zH)))(b:(D×E)):=(a.1,a.2.1,b.1)
abbrev kz21:=fun(q:D.H)=>(((),()),q.M,q.FE,q.FX,q.Fo,())
abbrev kz22{A B:Type}(q:(A×B)):=((q.1,q.2,()),())
abbrev kz23{A B zH D:Type}(a:(A×(B×zH)))(b:D):=(a.1,a.2.1)
abbrev kz24{A:Type}(q:A):=((q,()),(),())
inductive JS where
 |n (k:Nat)
 |r (k:Nat) (t:TC)
 |l (k:Nat) (t:TC)
 |o (k m:Nat) (t:TC)
 |s (k:Nat) (x:SSh)
def jS:Y JS->Y (Nat×SSh)
 |[]=>[]
 |.n k::r=>nJ k::jS r
 |.r k _::r=>rf k::jS r
 |.l k t::r=>li k t::jS r
 |.o k m _::r=>(k,.one (.own m))::jS r
 |.s k x::r=>(k,x)::jS r
def jO:Y JS->Y (Name×OSh)
 |[]=>[]
 |.r k t::r=>bx (1000+k) t::jO r
 |.o _ m t::r=>ar m t::jO r
 |_::r=>jO r
def jn(s:Y JS)(a:Ann)(o:Y (Name×OSh):=[]):Ann:=.TG (jS s) (jO s++o) a
def lO(s:Y JS)(a:Ann)(o:Y (Name×OSh):=[]):Ann:=.loop (jS s) (jO s++o) a
def lq(s:Y JS)(a:Ann)(o:Y (Name×OSh):=[]):Ann:=.Tb (.Tb .go (.one (.loop (jS s) (jO s++o) a))) .go
abbrev bo:SSh:=.one .Tc
abbrev tx:SSh:=.one .TY
abbrev ls(t:TC):SSh:=.one (.TQ t)
abbrev tO:SSh:=.st .E
abbrev t1:SSh:=.st .H
abbrev t2:SSh:=.st .N
abbrev t3:SSh:=.st .Page
abbrev t4:SSh:=.st .F
abbrev t5:SSh:=.st .a
abbrev t6:SSh:=.st .Op
abbrev t7:SSh:=.st .q
abbrev t8:SSh:=.st .d
abbrev t9:SSh:=.st .v
namespace fk
abbrev g:=Ann.go
abbrev c:=Ann.Tb
def e:=@eC
def t:=@eN
def f:=@fP
abbrev s:=@sP
def i:=@fI
abbrev j:=jn
abbrev k:=lO
abbrev m:=lq
abbrev n:=gS
abbrev o:=FO
abbrev d:=nI
abbrev l:=ls
abbrev u:=bo
abbrev h:=kI
abbrev v:=ar
abbrev p:=bx
abbrev w:=rf
abbrev r:=nJ
abbrev G:=t1
abbrev zG:=t2
abbrev K:=t3
abbrev E:=t4
abbrev H:=t5
end fk
open fk Tryz
abbrev t10:SSh:=.st .Fc
abbrev t11:SSh:=.st .c
abbrev t12:SSh:=.st .Fh
abbrev t13:SSh:=.st .W
abbrev t15:SSh:=.st .T
abbrev t16:SSh:=.st .e
abbrev t19:SSh:=.st .m
abbrev z0:=D.d.mk (D.F.mk 0 (D.E.mk [] [] [] []) (D.a.mk [] []) [] 0 0 [] []) (D.H.mk [] [] [] []) 0
abbrev z1:=D.Page.mk 0 0 0 0 0 0 0 0 0 0 0 [] [] []
abbrev z2:=D.F.mk 0 (D.E.mk [] [] [] []) (D.a.mk [] []) [] 0 0 [] []
abbrev z3:=D.Op.mk 0 0 0 0 0 0 0 0 0 (D.W.mk 0 0 0 0 0 0) (D.p.mk 0 0 0 0 0)
abbrev z4:=D.N.mk 0 0 0 0 [] 0 [] []
abbrev z5:=D.H.mk [] [] [] []
abbrev z6:=D.W.mk 0 0 0 0 0 0
abbrev z7:=D.p.mk 0 0 0 0 0
abbrev z8:=D.E.mk [] [] [] []
abbrev z9:=D.FN.mk 0 0
abbrev z10:=D.Fq.mk (D.E.mk [] [] [] []) []
abbrev z12:=D.Fr.mk 0 0 0
abbrev z13:=D.Fh.mk 0 0
variable (u:Nat)
def Qe3(g:Y D.E9)(i:Int):O AH:=Qe (fun j ((a,e,f,b,_),_)=>cd (b<f) (TG (fun((k,l,m,n,_),_)=>j ((k,l,m,(X (n+1)),()),())) fun h=>TM e b fun c=>cd (c.w<=a) (cd (a<c.To) sT (h ((a,e,f,b,()),()))) (h ((a,e,f,b,()),()))) sF) u ((i,g,(g.length:Int),0,()),())
def Qny:o 414 (s [l .E9,d] [u] (Qe3 u)):=f u (c g (m [.n 1,.l 7 .E9,.n 8,.n 9] (n 2 (c (j [.n 1,.l 7 .E9,.n 8,.n 9] g) g)))) t func414
def QbA(u:Nat)(a:Int):O Int:=nzc 7 (nzc 7 (some (Int.tmod (X ((Int.tmod a 7)+10)) 7)))
def Qe4:o 408 (s [d] [d] (QbA u)):=f u g t func408
def Wo(a:D.Fh):O Int:=V (QbA u a.Fl) fun b=>some (X ((X (b*86400))+a.FU))
def Qfe:o 415 (s [t12] [d] (Wo u)):=f u g (e (Qe4 u) t) func415
def Qhg(u:Nat)(a:Int):O D.Fh:=nzc 86400 (TG (fun((e,b,_),f,_)=>some (D.Fh.mk b (X (e - (X (b*86400)))))) fun c=>nzc 86400 (cd ((Int.tmod a 86400)<0) (c ((a,(X ((X (Int.tdiv a 86400)) - 1)),()),z13,())) (c ((a,(X (Int.tdiv a 86400)),()),z13,()))))
def QqP:o 433 (s [d] [t12] (Qhg u)):=f u (n 2 (c (j [.n 0,.r 2 .Fh,.n 3] g) g)) t func433
def QaE(u:Nat)(a:D.Fc)(b:Int):O Int:=cd (b=0) (some a.offset) (TM a.list (X (b - 1)) fun c=>some c.FT)
def Qbx:o 442 (s [t10,d] [d] (QaE u)):=f u g t func442
def Qdg(u:Nat)(c:Int)(a:D.Fc)(b:Int):O AH:=TM a.list c fun e=>TE a a (TE b b (some (decide (b<e.At))))
def Qgz:o 449 (Ql [d,.one (.TN 101),.one (.TN 102)] [p 101 .Fc,p 102 .int] [u] [] [101,102] AH kz2 (fun x y=>Qdg u x.1 y.1 y.2.1)):=i u g kz4 t func449
def Zq(h:Int)(c101:D.Fc)(c102:Int):O Int:=Qe (fun g ((a,b,_),c,(e,_),_)=>cd (a<b) (TK 1 fun f=>V (Qdg u (X (Int.fdiv (IntKind.wrap .u64 (X (a+b))) (HPow.hPow 2 (min f (Go.IntKind.bits Go.IntKind.u64))))) c e) fun i=>J (!i) (g (((X ((X (Int.fdiv (IntKind.wrap .u64 (X (a+b))) (HPow.hPow 2 (min f (Go.IntKind.bits Go.IntKind.u64)))))+1)),b,()),c,(e,()),())) (g ((a,(X (Int.fdiv (IntKind.wrap .u64 (X (a+b))) (HPow.hPow 2 (min f (Go.IntKind.bits Go.IntKind.u64))))),()),c,(e,()),()))) (TE c c101 (TE e c102 (some a)))) u ((0,h,()),c101,(c102,()),())
def V1:o 448 (Ql [d,.one (.clo 449 [101,102])] [p 101 .Fc,p 102 .int] [d] [] [101,102] Int kz2 (fun x y=>Zq u x.1 y.1 y.2.1)):=i u (n 2 (c (.one (k [.s 1 (.one (.clo 449 [101,102])),.n 5,.n 6] g [p 101 .Fc,(102,.box [h])])) g)) kz4 (e (Qgz u) t) func448
def Wx(a:D.Fc)(b:Int):O Int:=V (Zq u (a.list.length:Int) a b) fun c=>some c
def QcE:o 443 (s [t10,d] [d] (Wx u)):=f u g (e (V1 u) t) func443
def Vr(a:D.Fc)(b:Int):O Int:=V (Wx u a b) fun c=>V (QaE u a c) fun e=>some e
def Qhs:o 434 (s [t10,d] [d] (Vr u)):=f u g (e (Qbx u) (e (QcE u) t)) func434
def ZO(b:D.Fc)(a:Int):O D.Fh:=V (Vr u b a) fun c=>V (Qhg u (X (a+c))) fun e=>some e
def V6:o 417 (s [t10,d] [t12] (ZO u)):=f u g (e (QqP u) (e (Qhs u) t)) func417
def Qd1(u:Nat)(a:D.v):O Int:=cd (a.Unit=2) (some (X (7*a.FI))) (some a.FI)
def Qjr:o 471 (s [t9] [d] (Qd1 u)):=f u g t func471
def QaD(n:D.Fc)(o:Int)(p:Int):O (Y D.Fz):=Qe (fun q ((c,a,_),b,j,_)=>cd (c<a) (V (Wx u b c) fun e=>TG (fun((l,r,s,k,_),f,g,_)=>V (QaE u f s) fun h=>TO (g.length+[(D.Fz.mk l k h)].length) 34359738368 (q ((k,r,()),f,(g++[(D.Fz.mk l k h)]),()))) fun i=>cd (e<(b.list.length:Int)) (TM b.list e fun m=>i ((c,a,e,(min a m.At),()),b,j,())) (i ((c,a,e,a,()),b,j,()))) (some j)) u ((o,p,()),n,[],())
def Qht:o 474 (s [t10,d,d] [l .Fz] (QaD u)):=f u (n 2 (c (.one (k [.n 1,.n 2,.r 3 .Fc,.o 7 1038 .Fz] (c g (.one (n 2 (c (j [.n 1,.n 2,.r 3 .Fc,.o 7 1038 .Fz,.n 8,.n 9] g) g)))))) g)) (e (Qbx u) (e (QcE u) t)) func474
def QgB(u:Nat)(a:D.Fh):O Int:=some (X ((X ((min (max a.Fl (-1048576)) 1048576)*86400))+a.FU))
def QnB:o 475 (s [t12] [d] (QgB u)):=f u g t func475
def Ww(i:D.Fc)(j:D.Fh):O (Int×AH):=V (QaD u i 0 8589934593) fun c=>Qe (fun k ((e,f,b,_),g,_)=>cd (b<f) (TM e b fun a=>V (QgB u g) fun h=>cd ((max a.w (X (h - a.FT)))<a.To) (some ((max a.w (X (h - a.FT))),true)) (k ((e,f,(X (b+1)),()),g,()))) (some (0,false))) u ((c,(c.length:Int),0,()),j,())
def Qiu:o 473 (s [t10,t12] [d,u] (Ww u)):=f u (c g (m [.r 3 .Fh,.l 10 .Fz,.n 11,.n 12] g)) (e (Qht u) (e (QnB u) t)) func473
def Yc(e:D.Fc)(a:D.v)(b:Int):O (Int×AH):=cd (8589934592<b) (some (0,false)) (cd (a.Unit≠0) (V (Qd1 u a) fun f=>V (Ww u e (D.Fh.mk (X (a.R.Fl+(X (b*f)))) a.R.FU)) fun(g,h)=>some (g,h)) (V (Ww u e a.R) fun(c,i)=>J i (cd ((X (c+(X ((X (3600*a.FI))*b))))<=8589934592) (some ((X (c+(X ((X (3600*a.FI))*b)))),true)) (some ((X (c+(X ((X (3600*a.FI))*b)))),false))) (some ((X (c+(X ((X (3600*a.FI))*b)))),false))))
def Qij:o 470 (s [t10,t9,d] [d,u] (Yc u)):=f u g (e (Qjr u) (e (Qiu u) t)) func470
def UO(n:D.Fc)(o:D.v)(p:Int):O Int:=V (Yc u n o 0) fun(q,Z)=>TG (fun((m,a3,_),r,g,_)=>cd (g.Unit=0) (nzc (X (3600*g.FI)) (some (X (Int.tdiv (X (m - a3)) (X (3600*g.FI)))))) (V (ZO u r m) fun a6=>V (Qd1 u g) fun s=>nzc s (TG (fun((a8,a9,_),t,v,_)=>Qe (fun w ((h,f,_),i,j,_)=>TG (fun((y,z,_),A,B,_)=>w ((y,(X (z+1)),()),A,B,())) fun zH=>V (Yc u i j (X (f+1))) fun(E,F)=>J F (cd (h<E) (some f) (zH ((h,f,()),i,j,()))) (some f)) u ((a8,a9,()),t,v,())) fun k=>Qe (fun G ((b,a,_),c,e,_)=>cd (0<a) (TG (fun((H,zE,_),zG,L,_)=>G ((H,(X (zE - 1)),()),zG,L,())) fun l=>V (Yc u c e a) fun(zD,zI)=>J zI (cd (zD<=b) (k ((b,a,()),c,e,())) (l ((b,a,()),c,e,()))) (l ((b,a,()),c,e,()))) (k ((b,a,()),c,e,()))) u ((m,(max 0 (X (Int.tdiv (X (a6.Fl - g.R.Fl)) s))),()),r,g,())))) fun W=>J Z (cd (p<q) (some (-1)) (W ((p,q,()),n,o,()))) (some (-1))
def Qk5:o 467 (s [t10,t9,d] [d] (UO u)):=f u (n 2 (c (j [.n 2,.r 3 .Fc,.r 4 .v,.n 7] g) (n 2 (c (j [.n 2,.r 3 .Fc,.r 4 .v,.n 9] (.one (k [.n 2,.r 3 .Fc,.r 4 .v,.n 9] (c g (.one (c (j [.n 2,.r 3 .Fc,.r 4 .v,.n 9] g) g)))))) (.one (k [.n 2,.r 3 .Fc,.r 4 .v,.n 9] (.one (c (j [.n 2,.r 3 .Fc,.r 4 .v,.n 9] g) g)))))))) (e (V6 u) (e (Qij u) (e (Qjr u) t))) func467
def QbB(u:Nat)(a:Int):O AH:=some (decide (a≠a))
def QkR:o 423 (s [d] [u] (QbB u)):=f u g t func423
def V9(a:Int)(b:Int):O AH:=V (QbB u a) fun c=>J c (V (QbB u b) fun e=>J e (cd (a<b) sT sF) sT) (cd (a<b) sT sF)
def Qcf:o 395 (s [d,d] [u] (V9 u)):=f u g (e (QkR u) t) func395
def Qbm(u:Nat)(a:Int):O AH:=some (decide (a≠a))
def Qio:o 472 (s [d] [u] (Qbm u)):=f u g t func472
def UY(f:Y Int)(m:Int):O (Int×AH):=Qe (fun i ((b,c,g,a,e,_),_)=>cd (a<e) (TK 1 fun h=>TM b (X (Int.fdiv (IntKind.wrap .u64 (X (a+e))) (HPow.hPow 2 (min h (Go.IntKind.bits Go.IntKind.u64))))) fun n=>V (V9 u n c) fun o=>J o (i ((b,c,g,(X ((X (Int.fdiv (IntKind.wrap .u64 (X (a+e))) (HPow.hPow 2 (min h (Go.IntKind.bits Go.IntKind.u64)))))+1)),e,()),())) (i ((b,c,g,a,(X (Int.fdiv (IntKind.wrap .u64 (X (a+e))) (HPow.hPow 2 (min h (Go.IntKind.bits Go.IntKind.u64))))),()),()))) (cd (a<g) (TM b a fun p=>cd (p=c) (some (a,true)) (TM b a fun j=>V (Qbm u j) fun k=>J k (V (Qbm u c) fun l=>J l (some (a,true)) (some (a,false))) (some (a,false)))) (some (a,false)))) u ((f,m,(f.length:Int),0,(f.length:Int),()),())
def QcO:o 468 (s [lI,d] [d,u] (UY u)):=f u (n 3 (c (.one (k [.s 0 lI,.n 1,.n 6,.n 7,.n 8] g)) g)) (e (Qcf u) (e (Qio u) t)) func468
def QcR(t:D.Fq)(v:D.v)(e:Int):O (Int×AH):=TG (fun((b,_),f,a,_)=>TM f.tables a.q fun i=>V (UO u i a b) fun g=>TG (fun((w,j,_),k,h,_)=>cd (h.F0=0) (some (j,true)) (TM k.E.n h.m fun l=>TM k.tables l.q fun m=>V (ZO u m w) fun n=>V (UY u l.F1 n.Fl) fun(y,o)=>some (j,(decide (o=(decide (h.F0=2))))))) fun c=>cd (g<0) (some (0,false)) (cd (0<(a.Fk.length:Int)) (V (ZO u i b) fun p=>V (Wo u p) fun q=>V (Qe3 u a.Fk q) fun r=>J r (c ((b,g,()),f,a,())) (some (0,false))) (c ((b,g,()),f,a,())))) fun s=>cd (e<0) (some (0,false)) (cd (8589934592<e) (some (0,false)) (s ((e,()),t,v,())))
def Qma:o 463 (s [.st .Fq,t9,d] [d,u] (QcR u)):=f u (c g (c (j [.n 2,.r 3 .Fq,.r 4 .v] g) (n 2 (c (j [.n 2,.r 3 .Fq,.r 4 .v,.n 9] g) g)))) (e (Qny u) (e (Qfe u) (e (V6 u) (e (Qk5 u) (e (QcO u) t))))) func463
def Wp(b:D.Fq)(a:D.v)(c:Int):O Int:=V (QcR u b a c) fun(e,f)=>J (!f) (some (-1)) (nzc (a.t.length:Int) (TM a.t (Int.tmod e (a.t.length:Int)) fun g=>some g))
def QhT:o 457 (sI [.st .Fq,t9,d] fun x=>Wp u x.1 x.2.1 x.2.2.1):=i u g kz4 (e (Qma u) t) func457
def Qdf(u:Nat)(c:D.p)(b:Int)(a:Int):O AH:=cd (c.b=0) (cd (c.A=b) (cd (c.w<=a) (cd (a<c.To) (TE b b (TE a a sT)) (TE b b (TE a a sF))) (TE b b (TE a a sF))) (TE b b (TE a a sF))) (TE b b (TE a a sF))
def Qnm:o 465 (Ql [.st .p,.one (.TN 101),.one (.TN 102)] [p 101 .int,p 102 .int] [u] [] [101,102] AH kz2 (fun x y=>Qdf u x.1 y.1 y.2.1)):=i u g kz4 t func465
def Q9(e:Y D.p)(c101:Int)(c102:Int):O Int:=Qe (fun h ((f,g,a,_),(b,_),(c,_),_)=>cd (a<g) (TM f a fun i=>V (Qdf u i b c) fun j=>J j (TE b c101 (TE c c102 (some a))) (h ((f,g,(X (a+1)),()),(b,()),(c,()),()))) (TE b c101 (TE c c102 (some (-1))))) u ((e,(e.length:Int),0,()),(c101,()),(c102,()),())
def Vg:o 469 (Ql [l .p,.one (.clo 465 [101,102])] [p 101 .int,p 102 .int] [d] [] [101,102] Int kz2 (fun x y=>Q9 u x.1 y.1 y.2.1)):=i u (c g (m [.l 0 .p,.s 1 (.one (.clo 465 [101,102])),.n 7,.n 8] g [(101,.box [h]),(102,.box [h])])) kz4 (e (Qnm u) t) func469
def Zs(a:Y D.p)(c101:Int)(c102:Int):O AH:=V (Q9 u a c101 c102) fun b=>TE c101 c101 (TE c102 c102 (some (decide (0<=b))))
def Wt:o 464 (Ql [l .p,.one (.clo 465 [101,102])] [p 101 .int,p 102 .int] [u] [] [101,102] AH kz2 (fun x y=>Zs u x.1 y.1 y.2.1)):=i u g kz4 (e (Vg u) t) func464
def QaB(a:D.c)(b:Int)(c:Int):O AH:=V (Zs u a.FS b c) fun e=>some e
def QqF:o 458 (sB [t11,d,d] fun x=>QaB u x.1 x.2.1 x.2.2.1):=i u g kz4 (e (Wt u) t) func458
end
section
open Go Go.RowKit Go.Shelf Go.Proofs AM
attribute [local go_sem] Oper.semAt_some
set_option maxHeartbeats 400000
def QBq(F)(n)(h5:F.fn 456)(hro:F.round=none)(a)(len cap)(w):
  CallsIn F n Tryz.prog 456 #[.slice a len cap] w fun e w'=>e=.returned (.func (.func 462) #[] #[.pointer (some ⟨w.heap.size,0,none⟩)])/\w'=w.alloc (.cells #[.slice a len cap] 135):=by
 refine callsIn_of_wp Tryz.func456 rfl h5 ?_ hro
 simp only[Tryz.ntmps456,B1,Ab,Am,Nat.reduceAdd,Nat.reduceSub,ES,ET,EU,EV,BQ,Ar]
 gi_wp2
 go_ret
 exact⟨rfl,rfl⟩
def Qu8(n)(hn:1<=n)(Bs b off cap)(l1 l2 l3 l4 l5 l6 l7 l8 l9 l10)(w)(hBs:Bs<w.heap.size)(hb:b<w.heap.size)(hc:w.cell? ⟨Bs,0,none⟩=some (.slice (some ⟨b,off,none⟩) 1 cap))(c1:w.cell? ⟨b,off,none⟩=some l1)(c2:w.cell? ⟨b,off+1,none⟩=some l2)(c3:w.cell? ⟨b,off+2,none⟩=some l3)(c4:w.cell? ⟨b,off+3,none⟩=some l4)(c5:w.cell? ⟨b,off+4,none⟩=some l5)(c6:w.cell? ⟨b,off+5,none⟩=some l6)(c7:w.cell? ⟨b,off+6,none⟩=some l7)(c8:w.cell? ⟨b,off+7,none⟩=some l8)(c9:w.cell? ⟨b,off+8,none⟩=some l9)(c10:w.cell? ⟨b,off+9,none⟩=some l10):
  SeqStopsK Fence.wide n Tryz.prog 462 #[.pointer (some ⟨Bs,0,none⟩)] (fun _:Unit=>#[Value.int .i64 0,.agg #[l1,l2,l3,l4,l5,l6,l7,l8,l9,l10]]) (fun _ _=>True) (fun ys=>ys=[()]) (fun pre=>pre=[()]) 1 w:=by
 intro l zG Jx W hW hJ hJx hY h0
 have hc':=(hW.cell (p:=⟨Bs,0,none⟩) hBs).trans hc
 have d1:=(hW.cell (p:=⟨b,off,none⟩) hb).trans c1
 have d2:=(hW.cell (p:=⟨b,off+1,none⟩) hb).trans c2
 have d3:=(hW.cell (p:=⟨b,off+2,none⟩) hb).trans c3
 have d4:=(hW.cell (p:=⟨b,off+3,none⟩) hb).trans c4
 have d5:=(hW.cell (p:=⟨b,off+4,none⟩) hb).trans c5
 have d6:=(hW.cell (p:=⟨b,off+5,none⟩) hb).trans c6
 have d7:=(hW.cell (p:=⟨b,off+6,none⟩) hb).trans c7
 have d8:=(hW.cell (p:=⟨b,off+7,none⟩) hb).trans c8
 have d9:=(hW.cell (p:=⟨b,off+8,none⟩) hb).trans c9
 have d10:=(hW.cell (p:=⟨b,off+9,none⟩) hb).trans c10
 obtain⟨fn,tmps,assign,body,hy,hR⟩:=hY [] () W h0 Ob
 dsimp only at hy
 refine callsIn_of_wp Tryz.func462 rfl trivial ?_ rfl
 simp only[Tryz.ntmps462,B1,Ab,Am,Nat.reduceAdd,Nat.reduceSub,ES,ET,EU,EV,BQ,Ar]
 gi_wp2
 gi_loopw [3] (fun i wr=>(i=.int .i64 0/\wr=W)\/(i=.int .i64 (-1)/\zG [()] wr)) (fun i _=>(intOf i+1).toNat)
 case atStart=>exact .inl ⟨by simp[wrap64],rfl⟩
 case round=>
  rcases hrel with⟨rfl,rfl⟩|⟨rfl,hJ1⟩
  .gi_wp2
   refine hR.mono ?_
   rintro e W3 (⟨rfl,hJ3,_⟩|⟨rfl,hJx3⟩)
   .gi_wp2
    go_roundw
    case rel=>exact .inr ⟨by simp[wrap64],hJ3⟩
    case measure=>simp[intOf,wrap64]
   .gi_wp2
    refine bodyPost_ret (results_none rfl _ _ _) rfl ?_
    exact⟨⟨_,rfl⟩,.inr ⟨_,rfl,hJx3⟩⟩
  .gi_wp2
   go_end0
   exact⟨⟨_,rfl⟩,.inl ⟨_,rfl,hJ1⟩⟩
def Blk(W:AG)(b:Nat)(cs:Array AE)(t:AD):Prop:=W.heap[b]?=some (.cells cs t (0,0))
def Blk.new(W:AG)(cs:Array AE)(t:AD):Blk (W.alloc (.cells cs t)) W.heap.size cs t:=World.alloc_heap_new W _
def Blk.lt(h:Blk W b cs t):b<W.heap.size:=(CE.1 h).1
def Blk.alloc(h:Blk W b cs t)(o):Blk (W.alloc o) b cs t:=(Below.heap_alloc W o b h.lt).trans h
def Blk.cell(h:Blk W b cs t)(hj:cs[j]?=some v):W.cell? ⟨b,j,none⟩=some v:=by
 simp[World.cell?,show W.heap[b]?=_ from h,hj]
def Blk.frozen(h:Blk W b cs t):W.frozen? ⟨b,j,none⟩=false:=by simp[World.frozen?,show W.heap[b]?=_ from h]
def Blk.own(h:Blk W b cs t)(hg:W.grownBy W' row)(hr:∀r,row=some r->B<=r/\∃o:Obj,W.heap[r]?=some o/\o.isCells=false):Blk W' b cs t:=by
 refine(hg.block b h.lt fun e=>?_).trans h
 obtain⟨_,o,ho,hc⟩:=hr b e.symm
 rw[show W.heap[b]?=_ from h]at ho;cases ho;cases hc
def Blk.ext(h:Blk W b cs t)(hx:AM.Ext (fun _=>False) W W'):Blk W' b cs t:=(hx.same b h.lt id).trans h
def Qpt(hB:w.heap.size<=B)(h:AM.Ext (fun _=>False) w W)(hg:W.grownBy W' row)(hr:∀r,row=some r->B<=r/\∃o:Obj,W.heap[r]?=some o/\o.isCells=false):AM.Ext (fun _=>False) w W':=
 ⟨AX h.size hg.size,fun b hb _=>(hg.block b (BF hb h.size) (fun e=>by have:=(hr b e.symm).1;omega)).trans (h.same b hb id),hg.os.trans h.os,hg.output.trans h.out⟩
def Qch(h:AM.Ext (fun _=>False) w W)(o):AM.Ext (fun _=>False) w (W.alloc o):=
 ⟨AX h.size Ob,fun b hb _=>(Below.heap_alloc W o b (BF hb h.size)).trans (h.same b hb id),h.os,h.out⟩
def QiJ(h:AM.Ext (fun _=>False) a b)(k:AM.Ext (fun _=>False) b c):AM.Ext (fun _=>False) a c:=h.trans k fun _ _ e=>e
def Qmr(h:AM.Ext (fun _=>False) W W')(B):KeepsFrom B W W':=⟨h.size,fun k o _ hk _=>(h.same k (CE.1 hk).1 id).trans hk⟩
structure Oth (b:Nat) (W W':AG):Prop where
 size:W'.heap.size=W.heap.size
 same:∀k,k≠b->W'.heap[k]?=W.heap[k]?
 os:W'.os=W.os
 out:W'.output=W.output
def Oth.refl(b)(W):Oth b W W:=⟨rfl,fun _ _=>rfl,rfl,rfl⟩
def Oth.trans(h:Oth b A B)(k:Oth b B zH):Oth b A zH:=⟨k.size.trans h.size,fun i hi=>(k.same i hi).trans (h.same i hi),k.os.trans h.os,k.out.trans h.out⟩
def Oth.set(b j)(v)(W):Oth b W (W.setCell ⟨b,j,none⟩ v):=
 ⟨by simp[World.setCell],fun k hk=>by simp[World.setCell,Ey,Aj hk],rfl,rfl⟩
def Oth.blk(h:Oth b W W')(hk:k≠b)(hb:Blk W k cs t):Blk W' k cs t:=(h.same k hk).trans hb
def Blk.set(h:Blk W b cs t)(j)(v):Blk (W.setCell ⟨b,j,none⟩ v) b (cs.setIfInBounds j v) t:=by
 have:b<W.heap.size:=h.lt
 unfold Blk at h |-
 simp only[World.setCell,Ey,h,if_true]
 rfl
def Blk.store{P:AF}{W:AG}{b:Nat}{cs:Array AE}{t:AD}(h:Blk W b cs t){j:Nat}(hj:j<cs.size){v:AE}(hv:v.oneCell'=true):(store ⟨b,j,none⟩ v).run P W=.ok () (W.setCell ⟨b,j,none⟩ v):=by
 rw[run_store P W _ v _ hv]
 have h1:=h.cell (j:=j) (v:=cs[j]) (by simp[hj])
 simp[stored,h1,h.frozen]
def Qmh(hB:w.heap.size<=b)(h:AM.Ext (fun _=>False) w W)(k:Oth b W W'):AM.Ext (fun _=>False) w W':=
 ⟨by rw[k.size];exact h.size,fun i hi _=>(k.same i U).trans (h.same i hi id),k.os.trans h.os,k.out.trans h.out⟩
def QxB(B:Nat)(k:Oth W.heap.size (W.alloc o) W'):KeepsFrom B W W':=
 ⟨by rw[k.size];simp,fun i x _ hi _=>by
  have hl:=(CE.1 hi).1
  exact(k.same i U).trans ((Below.heap_alloc W o i hl).trans hi)⟩
def store1(h:Blk W b cs t)(ho:Oth b A0 W)(hj:j<cs.size)(hc:cs.setIfInBounds j v=cs')(hv:v.oneCell'=true):
  ∃W',(store ⟨b,j,none⟩ v).run P W=.ok () W'/\Oth b A0 W'/\Blk W' b cs' t:=⟨_,h.store hj hv,ho.trans (Oth.set b j v W),hc ▸ h.set j v⟩
def store10(P:AF)(W:AG)(l1 l2 l3 l4 l5 l6 l7 l8 l9 l10:AE)(o1:l1.oneCell'=true)(o2:l2.oneCell'=true)(o3:l3.oneCell'=true)(o4:l4.oneCell'=true)(o5:l5.oneCell'=true)(o6:l6.oneCell'=true)(o7:l7.oneCell'=true)(o8:l8.oneCell'=true)(o9:l9.oneCell'=true)(o10:l10.oneCell'=true):
  ∃W3,((Sem.run P (store ⟨W.heap.size,0,none⟩ l1) (W.alloc (.cells #[.string { data:=#[] },.int .i64 0,.int .i64 0,.int .i64 0,.int .i64 0,.int .i64 0,.slice none 0 0,.slice none 0 0,.int .i64 0,.int .i64 0] 134))).andThen fun a w'=>(Sem.run P (store ⟨W.heap.size,1,none⟩ l2) w').andThen fun a w'=>(Sem.run P (store ⟨W.heap.size,2,none⟩ l3) w').andThen fun a w'=>(Sem.run P (store ⟨W.heap.size,3,none⟩ l4) w').andThen fun a w'=>(Sem.run P (store ⟨W.heap.size,4,none⟩ l5) w').andThen fun a w'=>(Sem.run P (store ⟨W.heap.size,5,none⟩ l6) w').andThen fun a w'=>(Sem.run P (store ⟨W.heap.size,6,none⟩ l7) w').andThen fun a w'=>(Sem.run P (store ⟨W.heap.size,7,none⟩ l8) w').andThen fun a w'=>(Sem.run P (store ⟨W.heap.size,8,none⟩ l9) w').andThen fun a w'=>(Sem.run P (store ⟨W.heap.size,9,none⟩ l10) w'))=.ok () W3/\Oth W.heap.size (W.alloc (.cells #[.string { data:=#[] },.int .i64 0,.int .i64 0,.int .i64 0,.int .i64 0,.int .i64 0,.slice none 0 0,.slice none 0 0,.int .i64 0,.int .i64 0] 134)) W3/\Blk W3 W.heap.size #[l1,l2,l3,l4,l5,l6,l7,l8,l9,l10] 134:=by
 have q0:=Blk.new W #[.string { data:=#[] },.int .i64 0,.int .i64 0,.int .i64 0,.int .i64 0,.int .i64 0,.slice none 0 0,.slice none 0 0,.int .i64 0,.int .i64 0] 134
 have t0:=Oth.refl W.heap.size (W.alloc (.cells #[.string { data:=#[] },.int .i64 0,.int .i64 0,.int .i64 0,.int .i64 0,.int .i64 0,.slice none 0 0,.slice none 0 0,.int .i64 0,.int .i64 0] 134))
 obtain⟨A1,r1,t1,q1⟩:=store1 (P:=P) (cs':=#[l1,.int .i64 0,.int .i64 0,.int .i64 0,.int .i64 0,.int .i64 0,.slice none 0 0,.slice none 0 0,.int .i64 0,.int .i64 0]) q0 t0 (j:=0) (v:=l1) Ob rfl o1
 rw[r1,Result.andThen]
 obtain⟨A2,r2,t2,q2⟩:=store1 (P:=P) (cs':=#[l1,l2,.int .i64 0,.int .i64 0,.int .i64 0,.int .i64 0,.slice none 0 0,.slice none 0 0,.int .i64 0,.int .i64 0]) q1 t1 (j:=1) (v:=l2) Ob rfl o2
 rw[r2,Result.andThen]
 obtain⟨A3,r3,t3,q3⟩:=store1 (P:=P) (cs':=#[l1,l2,l3,.int .i64 0,.int .i64 0,.int .i64 0,.slice none 0 0,.slice none 0 0,.int .i64 0,.int .i64 0]) q2 t2 (j:=2) (v:=l3) Ob rfl o3
 rw[r3,Result.andThen]
 obtain⟨A4,r4,t4,q4⟩:=store1 (P:=P) (cs':=#[l1,l2,l3,l4,.int .i64 0,.int .i64 0,.slice none 0 0,.slice none 0 0,.int .i64 0,.int .i64 0]) q3 t3 (j:=3) (v:=l4) Ob rfl o4
 rw[r4,Result.andThen]
 obtain⟨A5,r5,t5,q5⟩:=store1 (P:=P) (cs':=#[l1,l2,l3,l4,l5,.int .i64 0,.slice none 0 0,.slice none 0 0,.int .i64 0,.int .i64 0]) q4 t4 (j:=4) (v:=l5) Ob rfl o5
 rw[r5,Result.andThen]
 obtain⟨A6,r6,t6,q6⟩:=store1 (P:=P) (cs':=#[l1,l2,l3,l4,l5,l6,.slice none 0 0,.slice none 0 0,.int .i64 0,.int .i64 0]) q5 t5 (j:=5) (v:=l6) Ob rfl o6
 rw[r6,Result.andThen]
 obtain⟨A7,r7,t7,q7⟩:=store1 (P:=P) (cs':=#[l1,l2,l3,l4,l5,l6,l7,.slice none 0 0,.int .i64 0,.int .i64 0]) q6 t6 (j:=6) (v:=l7) Ob rfl o7
 rw[r7,Result.andThen]
 obtain⟨A8,r8,t8,q8⟩:=store1 (P:=P) (cs':=#[l1,l2,l3,l4,l5,l6,l7,l8,.int .i64 0,.int .i64 0]) q7 t7 (j:=7) (v:=l8) Ob rfl o8
 rw[r8,Result.andThen]
 obtain⟨A9,r9,t9,q9⟩:=store1 (P:=P) (cs':=#[l1,l2,l3,l4,l5,l6,l7,l8,l9,.int .i64 0]) q8 t8 (j:=8) (v:=l9) Ob rfl o9
 rw[r9,Result.andThen]
 obtain⟨A10,r10,t10,q10⟩:=store1 (P:=P) (cs':=#[l1,l2,l3,l4,l5,l6,l7,l8,l9,l10]) q9 t9 (j:=9) (v:=l10) Ob rfl o10
 rw[r10]
 exact⟨A10,rfl,t10,q10⟩
def QC2(n)(hn:3<=n)(v1 v2 v3 v4 v5 s1 s3)(b off cap)(t)(l1 l2 l3 l4 l5 l6 l7 l8 l9 l10)(w)(hb:b<w.heap.size)(c1:w.cell? ⟨b,off,none⟩=some l1)(c2:w.cell? ⟨b,off+1,none⟩=some l2)(c3:w.cell? ⟨b,off+2,none⟩=some l3)(c4:w.cell? ⟨b,off+3,none⟩=some l4)(c5:w.cell? ⟨b,off+4,none⟩=some l5)(c6:w.cell? ⟨b,off+5,none⟩=some l6)(c7:w.cell? ⟨b,off+6,none⟩=some l7)(c8:w.cell? ⟨b,off+7,none⟩=some l8)(c9:w.cell? ⟨b,off+8,none⟩=some l9)(c10:w.cell? ⟨b,off+9,none⟩=some l10)(o1:l1.oneCell'=true)(o2:l2.oneCell'=true)(o3:l3.oneCell'=true)(o4:l4.oneCell'=true)(o5:l5.oneCell'=true)(o6:l6.oneCell'=true)(o7:l7.oneCell'=true)(o8:l8.oneCell'=true)(o9:l9.oneCell'=true)(o10:l10.oneCell'=true)(p)(hP:∀W,AM.Ext (fun _=>False) w W->Calls Tryz.prog 457 #[.agg #[v1,v2,v3,v4,v5],.agg #[l1,l2,l3,l4,l5,l6,l7,l8,l9,l10],.int .i64 t] W fun e W'=>e=.returned (.int .i64 p)/\AM.Ext (fun _=>False) W W')(aw)(hA:0<=p->∀W,AM.Ext (fun _=>False) w W->Calls Tryz.prog 458 #[.agg #[s1,.slice (some ⟨b,off,none⟩) 1 cap,s3],.int .i64 p,.int .i64 t] W fun e W'=>e=.returned (.bool aw)/\AM.Ext (fun _=>False) W W'):
  CallsIn Fence.wide n Tryz.prog 451 #[.agg #[v1,v2,v3,v4,v5],.agg #[s1,.slice (some ⟨b,off,none⟩) 1 cap,s3],.int .i64 t] w fun e w'=>
   e=.returned (.tuple #[.int .i64 (if p<0\/aw=true then -1 else 0),.int .i64 (if p<0\/aw=true then -1 else p)])/\AM.Ext (fun _=>False) w w':=by
 have h1:1<=n:=U
 refine callsIn_of_wp_marks Tryz.func451 rfl trivial ?_ rfl
 simp only[Tryz.ntmps451,B1,Ab,Am,Nat.reduceAdd,Nat.reduceSub,ES,ET,EU,EV,BQ,Ar]
 gi_wp2
 refine wpIn_wide.2 (wp_scope_straight ((wpIn_wide (n:=n)).1 ?_))
 refine wpIn_seq (wpIn_label ?_)
 show Code.wpIn _ _ _ _ _ _ _
 gi_wp2_with (refine⟨trivial,?_⟩;gi_at_call 456;refine(QBq Fence.wide (n - 1) trivial rfl _ _ _ _).mono ?_;rintro e w' ⟨rfl,rfl⟩)
 have e0:=Qch (Qch (Qch (Qch (Qch (Qch (AM.Ext.refl (fun _=>False) w) (.cells #[v1,v2,v3,v4,v5] 423)) (.cells #[s1,.slice (some ⟨b,off,none⟩) 1 cap,s3] 138)) (.cells #[.int .i64 t] 3)) (.cells #[.int .i64 0] 3)) (.cells #[.int .i64 0] 3)) (.cells #[.slice (some ⟨b,off,none⟩) 1 cap] 135)
 have b0:=((((((Blk.new w #[v1,v2,v3,v4,v5] 423).alloc (.cells #[s1,.slice (some ⟨b,off,none⟩) 1 cap,s3] 138)).alloc (.cells #[.int .i64 t] 3)).alloc (.cells #[.int .i64 0] 3)).alloc (.cells #[.int .i64 0] 3)).alloc (.cells #[.slice (some ⟨b,off,none⟩) 1 cap] 135))
 have b1:=(((((Blk.new (w.alloc (.cells #[v1,v2,v3,v4,v5] 423)) #[s1,.slice (some ⟨b,off,none⟩) 1 cap,s3] 138).alloc (.cells #[.int .i64 t] 3)).alloc (.cells #[.int .i64 0] 3)).alloc (.cells #[.int .i64 0] 3)).alloc (.cells #[.slice (some ⟨b,off,none⟩) 1 cap] 135))
 have b2:=((((Blk.new ((w.alloc (.cells #[v1,v2,v3,v4,v5] 423)).alloc (.cells #[s1,.slice (some ⟨b,off,none⟩) 1 cap,s3] 138)) #[.int .i64 t] 3).alloc (.cells #[.int .i64 0] 3)).alloc (.cells #[.int .i64 0] 3)).alloc (.cells #[.slice (some ⟨b,off,none⟩) 1 cap] 135))
 have b3:=(((Blk.new (((w.alloc (.cells #[v1,v2,v3,v4,v5] 423)).alloc (.cells #[s1,.slice (some ⟨b,off,none⟩) 1 cap,s3] 138)).alloc (.cells #[.int .i64 t] 3)) #[.int .i64 0] 3).alloc (.cells #[.int .i64 0] 3)).alloc (.cells #[.slice (some ⟨b,off,none⟩) 1 cap] 135))
 have b4:=((Blk.new ((((w.alloc (.cells #[v1,v2,v3,v4,v5] 423)).alloc (.cells #[s1,.slice (some ⟨b,off,none⟩) 1 cap,s3] 138)).alloc (.cells #[.int .i64 t] 3)).alloc (.cells #[.int .i64 0] 3)) #[.int .i64 0] 3).alloc (.cells #[.slice (some ⟨b,off,none⟩) 1 cap] 135))
 have b5:=(Blk.new (((((w.alloc (.cells #[v1,v2,v3,v4,v5] 423)).alloc (.cells #[s1,.slice (some ⟨b,off,none⟩) 1 cap,s3] 138)).alloc (.cells #[.int .i64 t] 3)).alloc (.cells #[.int .i64 0] 3)).alloc (.cells #[.int .i64 0] 3)) #[.slice (some ⟨b,off,none⟩) 1 cap] 135)
 simp only[World.size_alloc]at b1 b2 b3 b4 b5
 have hz:((((((w.alloc (.cells #[v1,v2,v3,v4,v5] 423)).alloc (.cells #[s1,.slice (some ⟨b,off,none⟩) 1 cap,s3] 138)).alloc (.cells #[.int .i64 t] 3)).alloc (.cells #[.int .i64 0] 3)).alloc (.cells #[.int .i64 0] 3)).alloc (.cells #[.slice (some ⟨b,off,none⟩) 1 cap] 135)).heap.size=w.heap.size+6:=Ob
 obtain⟨W0,hW0⟩:∃W0,((((((w.alloc (.cells #[v1,v2,v3,v4,v5] 423)).alloc (.cells #[s1,.slice (some ⟨b,off,none⟩) 1 cap,s3] 138)).alloc (.cells #[.int .i64 t] 3)).alloc (.cells #[.int .i64 0] 3)).alloc (.cells #[.int .i64 0] 3)).alloc (.cells #[.slice (some ⟨b,off,none⟩) 1 cap] 135))=W0:=⟨_,rfl⟩
 rw[hW0]at e0 b0 b1 b2 b3 b4 b5 hz |-
 have c0:∀o,W0.cell? ⟨b,o,none⟩=w.cell? ⟨b,o,none⟩:=fun o=>World.cell?_of_block (e0.same b hb id)
 refine wpIn_rangeFunc_ownH rfl h1 (gf:=462) (lb:=#[.pointer (some ⟨w.heap.size+1+1+1+1+1,0,none⟩)]) rfl trivial (enters_of Tryz.func462 (by kernel_rfl) rfl)
  (Qu8 (n - 1) U (w.heap.size+1+1+1+1+1) b off cap l1 l2 l3 l4 l5 l6 l7 l8 l9 l10 W0 b5.lt U (b5.cell rfl) ((c0 _).trans c1) ((c0 _).trans c2) ((c0 _).trans c3) ((c0 _).trans c4) ((c0 _).trans c5) ((c0 _).trans c6) ((c0 _).trans c7) ((c0 _).trans c8) ((c0 _).trans c9) ((c0 _).trans c10)) (fun _ _=>trivial) (fun _ _ _ _ _ _ _ _=>trivial) (Below.refl _ _) (fun _=>rfl)
  (fun pre W=>((Blk W w.heap.size #[v1,v2,v3,v4,v5] 423/\Blk W (w.heap.size+1) #[s1,.slice (some ⟨b,off,none⟩) 1 cap,s3] 138/\Blk W (w.heap.size+1+1) #[.int .i64 t] 3/\Blk W (w.heap.size+1+1+1) #[.int .i64 0] 3/\Blk W (w.heap.size+1+1+1+1) #[.int .i64 0] 3)/\AM.Ext (fun _=>False) w W)/\(pre=[]\/(p<0\/aw=true)))
  (fun c pre W=>c=.ret/\¬(p<0\/aw=true)/\Blk W (w.heap.size+1+1+1) #[.int .i64 0] 3/\Blk W (w.heap.size+1+1+1+1) #[.int .i64 p] 3/\AM.Ext (fun _=>False) w W)
  (fun s A B row hs hg hr=>⟨⟨⟨hs.1.1.1.own hg hr,hs.1.1.2.1.own hg hr,hs.1.1.2.2.1.own hg hr,hs.1.1.2.2.2.1.own hg hr,hs.1.1.2.2.2.2.own hg hr⟩,Qpt U hs.1.2 hg hr⟩,hs.2⟩)
  (fun c s A B row hs hg hr=>⟨hs.1,hs.2.1,hs.2.2.1.own hg hr,hs.2.2.2.1.own hg hr,Qpt U hs.2.2.2.2 hg hr⟩)
  ⟨⟨⟨b0,b1,b2,b3,b4⟩,e0⟩,.inl rfl⟩
  (fun _ a' W=>∃Bx,w.heap.size+1+1+1+1<Bx/\Blk W Bx #[l1,l2,l3,l4,l5,l6,l7,l8,l9,l10] 134/\a'={ tmps:=#[.agg #[v1,v2,v3,v4,v5],.agg #[s1,.slice (some ⟨b,off,none⟩) 1 cap,s3],.int .i64 t,.pointer (some ⟨w.heap.size,0,none⟩),.pointer (some ⟨w.heap.size+1,0,none⟩),.pointer (some ⟨w.heap.size+1+1,0,none⟩),.pointer (some ⟨w.heap.size+1+1+1,0,none⟩),.pointer (some ⟨w.heap.size+1+1+1+1,0,none⟩),.int .i64 0,.pointer (some ⟨Bx,0,none⟩),undef,.pointer (some ⟨w.heap.size+1,1,none⟩),.slice (some ⟨b,off,none⟩) 1 cap,.func (.func 462) #[] #[.pointer (some ⟨w.heap.size+1+1+1+1+1,0,none⟩)],.int .i64 0,.agg #[l1,l2,l3,l4,l5,l6,l7,l8,l9,l10],undef,undef,undef,undef,undef,undef,undef,undef,undef,undef,undef,undef,undef],defers:=[] })
  (fun x a' s A B row hs hg hr=>by obtain⟨Bx,g1,g2,g3⟩:=hs;exact⟨Bx,g1,g2.own hg hr,g3⟩) ?assign ?body ?done ?stop
 case assign=>
  rintro l pre x W K ⟨⟨⟨i0,i1,i2,i3,i4⟩,ie⟩,hp⟩ hK
  gi_wp2
  obtain⟨W3,hW3,tt,q10⟩:=store10 Tryz.prog W l1 l2 l3 l4 l5 l6 l7 l8 l9 l10 o1 o2 o3 o4 o5 o6 o7 o8 o9 o10
  rw[hW3,Result.andThen]
  gi_wp2
  have hi4:=i4.lt
  exact hK _ _ (QxB _ tt) trivial ⟨⟨⟨tt.blk U (i0.alloc _),tt.blk U (i1.alloc _),tt.blk U (i2.alloc _),tt.blk U (i3.alloc _),tt.blk U (i4.alloc _)⟩,Qmh U (Qch ie _) tt⟩,hp⟩ ⟨W.heap.size,hi4,q10,rfl⟩
 case body=>
  rintro l pre x a' W hl hlp ⟨⟨⟨i0,i1,i2,i3,i4⟩,ie⟩,hp⟩ ⟨Bx,hBx,bx,rfl⟩ hlen
  have a1:=i0.cell (j:=0) rfl
  have a2:=i0.cell (j:=1) rfl
  have a3:=i0.cell (j:=2) rfl
  have a4:=i0.cell (j:=3) rfl
  have a5:=i0.cell (j:=4) rfl
  have g1:=i1.cell (j:=0) rfl
  have g2:=i1.cell (j:=1) rfl
  have g3:=i1.cell (j:=2) rfl
  have g4:=i2.cell (j:=0) rfl
  have m1:=bx.cell (j:=0) rfl
  have m2:=bx.cell (j:=1) rfl
  have m3:=bx.cell (j:=2) rfl
  have m4:=bx.cell (j:=3) rfl
  have m5:=bx.cell (j:=4) rfl
  have m6:=bx.cell (j:=5) rfl
  have m7:=bx.cell (j:=6) rfl
  have m8:=bx.cell (j:=7) rfl
  have m9:=bx.cell (j:=8) rfl
  have m10:=bx.cell (j:=9) rfl
  have hmx:Tryz.prog.follows .mixedOrders=true:=by kernel_rfl
  gi_wp2
  refine⟨trivial,fun h=>absurd h (by decide),?_⟩
  refine(CallsIn.inRound l (callsIn_wide.2 (hP W ie))).mono ?_
  rintro e W4 ⟨rfl,hx⟩
  have f0:=i0.ext hx
  have f1:=i1.ext hx
  have f2:=i2.ext hx
  have f3:=i3.ext hx
  have f4:=i4.ext hx
  have fe:=QiJ ie hx
  have g1:=f1.cell (j:=0) rfl
  have g2:=f1.cell (j:=1) rfl
  have g3:=f1.cell (j:=2) rfl
  have g4:=f2.cell (j:=0) rfl
  dsimp only
  gi_wp2
  .exact⟨Qmr hx _,trivial,⟨⟨⟨f0,f1,f2,f3,f4⟩,fe⟩,.inr (.inl (by assumption))⟩⟩
  .refine⟨trivial,fun h=>absurd h (by decide),?_⟩
   have hp0:0<=p:=by assumption
   refine(CallsIn.inRound l (callsIn_wide.2 (hA hp0 W4 fe))).mono ?_
   rintro e W5 ⟨rfl,hy⟩
   have k0:=f0.ext hy
   have k1:=f1.ext hy
   have k2:=f2.ext hy
   have k3:=f3.ext hy
   have k4:=f4.ext hy
   have ke:=QiJ fe hy
   have r1:=k3.cell (j:=0) rfl
   have r2:=k4.cell (j:=0) rfl
   have r3:=k3.frozen (j:=0)
   have r4:=k4.frozen (j:=0)
   dsimp only
   gi_wp2
   .have hno:¬(p<0\/aw=true):=fun h=>h.elim (fun h=>U) (fun h=>by subst h;simp_all)
    refine⟨(Qmr (QiJ hx hy) _).trans ⟨by simp[World.setCell],fun i o _ hi hc=>?_⟩,rfl,hno,(Oth.set (w.heap.size+1+1+1+1) 0 (.int .i64 p) _).blk U (k3.set 0 (.int .i64 0)),((Oth.set (w.heap.size+1+1+1) 0 (.int .i64 0) W5).blk U k4).set 0 (.int .i64 p),Qmh U (Qmh U ke (Oth.set (w.heap.size+1+1+1) 0 (.int .i64 0) W5)) (Oth.set (w.heap.size+1+1+1+1) 0 (.int .i64 p) _)⟩
    have n3:i≠w.heap.size+1+1+1:=fun e=>by subst e;rw[show W5.heap[w.heap.size+1+1+1]?=_ from k3]at hi;cases hi;cases hc
    have n4:i≠w.heap.size+1+1+1+1:=fun e=>by subst e;rw[show W5.heap[w.heap.size+1+1+1+1]?=_ from k4]at hi;cases hi;cases hc
    exact((Oth.set (w.heap.size+1+1+1+1) 0 (.int .i64 p) _).same i n4).trans (((Oth.set (w.heap.size+1+1+1) 0 (.int .i64 0) W5).same i n3).trans hi)
   .have hyes:aw=true:=by cases aw<;>simp_all
    exact⟨Qmr (QiJ hx hy) _,trivial,⟨⟨⟨k0,k1,k2,k3,k4⟩,ke⟩,.inr (.inr hyes)⟩⟩
 case done=>
  rintro D xs W hD rfl ⟨⟨⟨i0,i1,i2,i3,i4⟩,ie⟩,hp⟩ hKD
  have r1:=i3.cell (j:=0) rfl
  have r2:=i4.cell (j:=0) rfl
  have r3:=i3.frozen (j:=0)
  have r4:=i4.frozen (j:=0)
  gi_wp2
  have hp':p<0\/aw=true:=hp.resolve_left Ob
  have m3:Blk ((W.setCell ⟨w.heap.size+1+1+1,0,none⟩ (.int .i64 (-1))).setCell ⟨w.heap.size+1+1+1+1,0,none⟩ (.int .i64 (-1))) (w.heap.size+1+1+1) #[.int .i64 (-1)] 3:=(Oth.set (w.heap.size+1+1+1+1) 0 (.int .i64 (-1)) _).blk U (i3.set 0 (.int .i64 (-1)))
  have m4:Blk ((W.setCell ⟨w.heap.size+1+1+1,0,none⟩ (.int .i64 (-1))).setCell ⟨w.heap.size+1+1+1+1,0,none⟩ (.int .i64 (-1))) (w.heap.size+1+1+1+1) #[.int .i64 (-1)] 3:=((Oth.set (w.heap.size+1+1+1) 0 (.int .i64 (-1)) W).blk U i4).set 0 (.int .i64 (-1))
  have me:=Qmh U (Qmh U ie (Oth.set (w.heap.size+1+1+1) 0 (.int .i64 (-1)) W)) (Oth.set (w.heap.size+1+1+1+1) 0 (.int .i64 (-1)) _)
  have hKD':=((Oth.set (w.heap.size+1+1+1+1) 0 (.int .i64 (-1)) (W.setCell ⟨w.heap.size+1+1+1,0,none⟩ (.int .i64 (-1)))).same D U).trans (((Oth.set (w.heap.size+1+1+1) 0 (.int .i64 (-1)) W).same D U).trans hKD)
  have u3:=m3.own (grownBy_putObj' _ D (.deferred none)) (B:=W0.heap.size) (fun r e=>by cases e;exact⟨hD,_,hKD',rfl⟩)
  have u4:=m4.own (grownBy_putObj' _ D (.deferred none)) (B:=W0.heap.size) (fun r e=>by cases e;exact⟨hD,_,hKD',rfl⟩)
  have ue:=Qpt (B:=W0.heap.size) U me (grownBy_putObj' _ D (.deferred none)) (fun r e=>by cases e;exact⟨hD,_,hKD',rfl⟩)
  have y3:=u3.cell (j:=0) rfl
  have y4:=u4.cell (j:=0) rfl
  show bodyPostM _ _ _ _ _ Exit.ret _ _
  refine⟨Ob,.inl ⟨_,_,rfl,run_takeDeferred hKD',?_⟩⟩
  refine⟨.tuple #[.int .i64 (-1),.int .i64 (-1)],?_,by rw[iB hp',iB hp'],ue⟩
  simp[results,Tryz.f451,go_sem,y3,y4]
 case stop=>
  rintro D c pre W hD rfl ⟨rfl,hno,i3,i4,ie⟩ hKD
  gi_wp2
  have m3:=i3
  have m4:=i4
  have me:=ie
  have hKD':=hKD
  have u3:=m3.own (grownBy_putObj' _ D (.deferred none)) (B:=W0.heap.size) (fun r e=>by cases e;exact⟨hD,_,hKD',rfl⟩)
  have u4:=m4.own (grownBy_putObj' _ D (.deferred none)) (B:=W0.heap.size) (fun r e=>by cases e;exact⟨hD,_,hKD',rfl⟩)
  have ue:=Qpt (B:=W0.heap.size) U me (grownBy_putObj' _ D (.deferred none)) (fun r e=>by cases e;exact⟨hD,_,hKD',rfl⟩)
  have y3:=u3.cell (j:=0) rfl
  have y4:=u4.cell (j:=0) rfl
  show bodyPostM _ _ _ _ _ Exit.ret _ _
  refine⟨Ob,.inl ⟨_,_,rfl,run_takeDeferred hKD',?_⟩⟩
  refine⟨.tuple #[.int .i64 0,.int .i64 p],?_,by rw[iA hno,iA hno],ue⟩
  simp[results,Tryz.f451,go_sem,y3,y4]
def QrV(h:AV.Rs ρ H M W (.p x::xs) us):∃u us',us=u::us'/\PV.R M W x u/\AV.Rs ρ H M W xs us':=by
 simp only[AV.Rs]at h
 obtain⟨u,us',h1,h2,h3,h4⟩:=h
 simp only[AV.R]at h3
 exact⟨u,us',h1,h3,h4⟩
def Qac(h:PV.R M W x u)(hs:AV.Rs ρ H M W xs us):AV.Rs ρ H M W (.p x::xs) (u::us):=by
 simp only[AV.Rs,AV.R]
 exact⟨u,us,rfl,h.flat,h,hs⟩
def Qdj(h:PV.Cells M W b off (x::xs)):∃u,W.cell? ⟨b,off,none⟩=some u/\PV.R M W x u/\PV.Cells M W b (off+1) xs:=by
 simp only[PV.Cells]at h
 obtain⟨⟨u,h1,h2⟩,h3⟩:=h
 exact⟨u,h1,h2,h3⟩
noncomputable section
def XD(fu:Nat)(p0:D.Fq)(p1:D.c)(p2:Int):O (Int×Int):=
 match p1.Fi with
 |[l]=>V (Wp fu p0 l p2) fun p=>J (decide (p<0)) (some (-1,-1)) (V (QaB fu p1 p p2) fun a=>J a (some (-1,-1)) (some (0,p)))
 |_=>none
def Qnn(fu:Nat):Sig:=Ql [.st .Fq,.st .c,.one (.TZ .i64)] [] [.one (.TZ .i64),.one (.TZ .i64)] [] [] (Int×Int) (fun q=>((q.1,q.2,()),())) (fun x y=>XD fu x.1 x.2.1 x.2.2.1)
def Qsz(h:WG P k args [] v [])(hG:AM.Ground G w (fun b=>∃n o,AM.C n ([]:Y (Name×AO))=some o/\(ρ n).blk=some b))(hM:∀b,M b->b<w.heap.size)(hx:Ext (fun _=>False) w W)(ha:AV.Ts ρ (XV []) M W args us):
  Calls P k us.toArray W fun e W'=>∃u,e=.returned u/\(∃ρ' M',v.R ρ' (XV []) M' W' u)/\Ext (fun _=>False) W W':=by
 refine(h G ρ M W us ⟨hG.laid,AX hG.size hx.size,fun b hb=>(hx.same b (BF hb hG.size) id).trans (hG.same b hb),hG.out⟩ (fun b hb=>BF (hM b hb) hx.size) ha (fun n o hn=>by simp[AM.C]at hn) (fun n m o o' b hn=>by simp[AM.C]at hn)).mono ?_
 rintro e W' ⟨u,v',h',ρ',rfl,⟨rfl,rfl⟩,hA⟩
 exact⟨u,rfl,⟨ρ',_,hA.val⟩,hA.ext.weaken fun b _ hb=>by obtain⟨n,o,hn,_⟩:=hb;simp[AM.C]at hn⟩
def Qk8(fu):FnOK Tryz.prog 451 (Qnn fu):=by
 refine⟨fun R x y K r h=>?_,fun x y a b h L0 _=>⟨L0,fun _ _=>rfl,fun n t l v hn=>by change AM.C n []=_ at hn;simp[AM.C]at hn,?_⟩⟩
 .obtain⟨v,s,t,⟨⟩⟩:=x
  obtain⟨q,hq,h⟩:=Y2 h
  change XD fu v s t=some q at hq
  refine⟨(q.1,q.2,()),(),?_,h⟩
  show V (XD fu v s t) (fun q=>some ((q.1,q.2,()),()))=_
  rw[hq];rfl
 .obtain⟨v,s,t,⟨⟩⟩:=x
  obtain⟨q,hq,hab⟩:=Y2 h
  change XD fu v s t=some q at hq
  have hab':((q.1,q.2,()),())=(a,b):=Be hab
  obtain⟨rfl,rfl⟩:=C4 hab'
  unfold XD at hq
  split at hq
  case h_2=>simp at hq
  rename_i l hl
  obtain⟨p,hp,hq⟩:=Y2 hq
  obtain⟨_,_,_,sP⟩:=(QhT fu).spec (v,l,t,()) () (p,()) () (by show V (Wp fu v l t) _=_;rw[hp];rfl) L0 (fun n t l v hn=>by change AM.C n []=_ at hn;simp[AM.C]at hn)
  have hA:0<=p->∃aw,QaB fu s p t=some aw/\q=if aw=true then(-1,-1)else(0,p):=fun h0=>by
   rw[QkS U]at hq
   obtain⟨aw,h1,h2⟩:=Y2 hq
   refine⟨aw,h1,?_⟩
   cases aw<;>simpa [J]using h2.symm
  obtain⟨aw,haw,hqa⟩:∃aw:AH,(0<=p->QaB fu s p t=some aw)/\q=if p<0\/aw=true then(-1,-1)else(0,p):=by
   by_cases h0:p<0
   .rw[QfC h0]at hq
    exact⟨true,fun h=>U,by rw[iB (.inl h0)];exact(Be hq).symm⟩
   .obtain⟨aw,h1,h2⟩:=hA U
    refine⟨aw,fun _=>h1,?_⟩
    rw[h2]
    cases aw<;>simp[h0]
  intro G ρ M w us hG hM hargs _ _
  change AV.Ts ρ (XV []) M w [.agg [.p (.sl false 3 (v.E.FD.map D.q.cells)),.p (.sl false 6 (v.E.k.map D.Q.cells)),.p (.sl false 3 (v.E.n.map D.m.cells)),.p (.sl false 3 (v.E.f.map D.c.cells)),.p (.sl false 2 (v.tables.map D.Fc.cells))],.agg [.p (.v (.string s.Name)),.p (.sl false 10 (s.Fi.map D.v.cells)),.p (.sl false 5 (s.FS.map D.p.cells))],.p (.v (.int .i64 t))] us at hargs
  simp only[AV.Ts,AV.R]at hargs
  obtain⟨u1,us1,rfl,⟨cs1,rfl,r1⟩,u2,us2,rfl,⟨cs2,rfl,r2⟩,u3,us3,rfl,r3,rfl⟩:=hargs
  have r1':=r1
  have r2':=r2
  obtain⟨v1,w1,e1,x1,r1⟩:=QrV r1
  obtain⟨v2,w2,rfl,x2,r1⟩:=QrV r1
  obtain⟨v3,w3,rfl,x3,r1⟩:=QrV r1
  obtain⟨v4,w4,rfl,x4,r1⟩:=QrV r1
  obtain⟨v5,w5,rfl,x5,r1⟩:=QrV r1
  simp only[AV.Rs]at r1
  subst r1
  obtain⟨s1,z1,e2,y1,r2⟩:=QrV r2
  obtain⟨s2,z2,rfl,y2,r2⟩:=QrV r2
  obtain⟨s3,z3,rfl,y3,r2⟩:=QrV r2
  simp only[AV.Rs]at r2
  subst r2
  have e1':cs1=#[v1,v2,v3,v4,v5]:=by cases cs1;simpa using e1
  have e2':cs2=#[s1,s2,s3]:=by cases cs2;simpa using e2
  subst e1'
  subst e2'
  simp only[PV.R]at r3
  obtain⟨rfl,_⟩:=r3
  rw[hl]at y2
  have y2':=y2
  simp only[PV.R,AR,Ak,Ab,Am]at y2
  obtain⟨ad,cap,rfl,hcap,_,hn,hrows⟩:=y2
  cases ad with
  |none=>have:=hn rfl;omega
  |some ad=>
   obtain⟨hsp,hMb,hlt,hrow⟩:=hrows ad rfl U
   obtain⟨bb,off,sp⟩:=ad
   dsimp only at hsp hMb hlt hrow
   subst hsp
   simp only[PV.Rows]at hrow
   obtain⟨_,hc,_⟩:=hrow
   change PV.Cells M w bb off [.v (.string l.Name),.v (.int .i64 l.q),.v (.int .i64 l.R.Fl),.v (.int .i64 l.R.FU),.v (.int .i64 l.Unit),.v (.int .i64 l.FI),.sl false 1 (l.t.map D.cInt),.sl false 2 (l.Fk.map D.E9.cells),.v (.int .i64 l.m),.v (.int .i64 l.F0)]at hc
   obtain⟨l1,c1,m1,hc⟩:=Qdj hc
   obtain⟨l2,c2,m2,hc⟩:=Qdj hc
   obtain⟨l3,c3,m3,hc⟩:=Qdj hc
   obtain⟨l4,c4,m4,hc⟩:=Qdj hc
   obtain⟨l5,c5,m5,hc⟩:=Qdj hc
   obtain⟨l6,c6,m6,hc⟩:=Qdj hc
   obtain⟨l7,c7,m7,hc⟩:=Qdj hc
   obtain⟨l8,c8,m8,hc⟩:=Qdj hc
   obtain⟨l9,c9,m9,hc⟩:=Qdj hc
   obtain⟨l10,c10,m10,hc⟩:=Qdj hc
   have hx0:∀{W:AG},Ext (fun _=>False) w W->∀{x:PV} {u:AE},x.R M w u->x.R M W u:=fun hx=>fun h=>PV.R.mono hx (fun _ h=>h.elim) (fun _ _ h=>h) h
   have key:=QC2 3 U v1 v2 v3 v4 v5 s1 s3 bb off cap t l1 l2 l3 l4 l5 l6 l7 l8 l9 l10 w hlt c1 c2 c3 c4 c5 c6 c7 c8 c9 c10 m1.flat m2.flat m3.flat m4.flat m5.flat m6.flat m7.flat m8.flat m9.flat m10.flat p
    (fun W hx=>(Qsz sP hG hM hx (us:=[.agg #[v1,v2,v3,v4,v5],.agg #[l1,l2,l3,l4,l5,l6,l7,l8,l9,l10],.int .i64 t]) (by
     change AV.Ts ρ (XV []) M W [.agg [.p (.sl false 3 (v.E.FD.map D.q.cells)),.p (.sl false 6 (v.E.k.map D.Q.cells)),.p (.sl false 3 (v.E.n.map D.m.cells)),.p (.sl false 3 (v.E.f.map D.c.cells)),.p (.sl false 2 (v.tables.map D.Fc.cells))],.agg [.p (.v (.string l.Name)),.p (.v (.int .i64 l.q)),.p (.v (.int .i64 l.R.Fl)),.p (.v (.int .i64 l.R.FU)),.p (.v (.int .i64 l.Unit)),.p (.v (.int .i64 l.FI)),.p (.sl false 1 (l.t.map D.cInt)),.p (.sl false 2 (l.Fk.map D.E9.cells)),.p (.v (.int .i64 l.m)),.p (.v (.int .i64 l.F0))],.p (.v (.int .i64 t))] _
     simp only[AV.Ts,AV.R]
     exact⟨_,_,rfl,⟨_,rfl,Qac (hx0 hx x1) (Qac (hx0 hx x2) (Qac (hx0 hx x3) (Qac (hx0 hx x4) (Qac (hx0 hx x5) (by simp only[AV.Rs])))))⟩,_,_,rfl,⟨_,rfl,Qac (hx0 hx m1) (Qac (hx0 hx m2) (Qac (hx0 hx m3) (Qac (hx0 hx m4) (Qac (hx0 hx m5) (Qac (hx0 hx m6) (Qac (hx0 hx m7) (Qac (hx0 hx m8) (Qac (hx0 hx m9) (Qac (hx0 hx m10) (by simp only[AV.Rs]))))))))))⟩,_,_,rfl,by simp only[PV.R];exact⟨trivial,rfl⟩,rfl⟩)).mono (by
      rintro e W' ⟨u,rfl,⟨ρ',M',hu⟩,hx'⟩
      change PV.R M' W' (.v (.int .i64 p)) u at hu
      simp only[PV.R]at hu
      exact⟨by rw[hu.1],hx'⟩))
    aw (fun h0 W hx=>by
     obtain⟨_,_,_,sA⟩:=(QqF fu).spec (s,p,t,()) () (aw,()) () (by show V (QaB fu s p t) _=_;rw[haw h0];rfl) L0 (fun n t l v hn=>by change AM.C n []=_ at hn;simp[AM.C]at hn)
     refine(Qsz sA hG hM hx (us:=[.agg #[s1,.slice (some ⟨bb,off,none⟩) 1 cap,s3],.int .i64 p,.int .i64 t]) (by
      change AV.Ts ρ (XV []) M W [.agg [.p (.v (.string s.Name)),.p (.sl false 10 (s.Fi.map D.v.cells)),.p (.sl false 5 (s.FS.map D.p.cells))],.p (.v (.int .i64 p)),.p (.v (.int .i64 t))] _
      simp only[AV.Ts,AV.R]
      exact⟨_,_,rfl,⟨_,rfl,Qac (hx0 hx y1) (Qac (by rw[hl];exact hx0 hx y2') (Qac (hx0 hx y3) (by simp only[AV.Rs])))⟩,_,_,rfl,by simp only[PV.R];exact⟨trivial,rfl⟩,_,_,rfl,by simp only[PV.R];exact⟨trivial,rfl⟩,rfl⟩)).mono ?_
     rintro e W' ⟨u,rfl,⟨ρ',M',hu⟩,hx'⟩
     change PV.R M' W' (.v (.bool aw)) u at hu
     simp only[PV.R]at hu
     exact⟨by rw[hu.1],hx'⟩)
   refine(callsIn_wide.1 key).mono ?_
   rintro e w' ⟨rfl,hx⟩
   refine⟨_,_,[],ρ,rfl,⟨rfl,rfl⟩,?_,fun n o hn=>?_,fun n m o o' b hn=>?_,fun n o b hn=>?_,hx.weaken fun b _ hb=>hb.elim,fun n o hn=>?_⟩
   case refine_2=>change AM.C n []=_ at hn;simp[AM.C]at hn
   case refine_3=>change AM.C n []=_ at hn;simp[AM.C]at hn
   case refine_4=>change AM.C n []=_ at hn;simp[AM.C]at hn
   case refine_5=>change AM.C n []=_ at hn;simp[AM.C]at hn
   show AV.R ρ (XV []) _ w' (.tup [.p (.v (.int .i64 q.1)),.p (.v (.int .i64 q.2))]) _
   simp only[AV.R,AV.Ts,PV.R]
   refine⟨_,rfl,_,_,rfl,⟨?_,rfl⟩,_,_,rfl,⟨?_,rfl⟩,rfl⟩
   .rw[hqa];split<;>rfl
   .rw[hqa];split<;>rfl
end
end
open Go AM IntKind
noncomputable section
open fk Tryz
variable (u:Nat)
def Qh0(u:Nat)(a:Int):O AH:=cd (97<=a) (cd (a<=122) sT sF) sF
def QnK:o 253 (s [.one (.TZ .u8)] [u] (Qh0 u)):=f u g t func253
def Qmu(u:Nat)(a:Int):O AH:=cd (48<=a) (cd (a<=57) sT sF) sF
def QnJ:o 254 (s [.one (.TZ .u8)] [u] (Qmu u)):=f u g t func254
def Qb1(c:AJ):O AH:=TG (fun((i,_),_)=>Qe (fun n ((a,e,b,_),_)=>cd (b<e) (TG (fun((o,p,q,_),_)=>n ((o,p,(X (q+1)),()),())) fun g=>TK b fun f=>TP f (ByteArray.size a) (V (Qh0 u (((bAt a f):Nat):Int)) fun j=>J j (g ((a,e,b,()),())) (V (Qmu u (((bAt a f):Nat):Int)) fun k=>J k (g ((a,e,b,()),())) (cd ((((bAt a f):Nat):Int)≠95) (cd ((((bAt a f):Nat):Int)≠45) sF (g ((a,e,b,()),()))) (g ((a,e,b,()),())))))) sT) u ((i,(((ByteArray.size i):Nat):Int),0,()),())) fun l=>cd (c=(ByteArray.mk (List.toArray []))) sF (cd (24<(((ByteArray.size c):Nat):Int)) sF (TK 0 fun h=>TP h (ByteArray.size c) (V (Qh0 u (((bAt c h):Nat):Int)) fun m=>J m (l ((c,()),())) sF)))
def Qer:o 173 (s [tx] [u] (Qb1 u)):=f u (c g (c (j [.s 0 tx] g) (m [.s 0 tx,.n 19,.n 20] (n 2 (c (j [.s 0 tx,.n 19,.n 20] g) g))))) (e (QnK u) (e (QnJ u) t)) func173
def Xs(b:AJ)(a:Y (AJ×AH)):O (Int×Y (AJ×AH)):=V (Qb1 u b) fun c=>J (!c) (some (2,a)) (J (memB b a) (some (4,a)) (chk (cntB b a) 0 (some (0,(a++[(b,true)])))))
def Vc:o 243 (Ql [tx,.one (.mref 101)] [(101,.sm)] [d] [(101,.sm)] [] (Int×Y (AJ×AH)) kz15 (fun x y=>Xs u x.1 y.1)):=i u g kz17 (e (Qer u) t) func243
def Yr(u:Nat)(a:Int)(b:Int):O AH:=cd (0<=a) (cd (a<b) sT sF) sF
def Wr:o 315 (s [d,d] [u] (Yr u)):=f u g t func315
def Qeh(c:Y D.E9):O Int:=cd (14<(c.length:Int)) (some 5) (Qe (fun j ((e,f,g,b,_),_)=>cd (b<g) (TG (fun((k,l,m,n,_),_)=>j ((k,l,m,(X (n+1)),()),())) fun h=>TM f b fun a=>cd (a.w<0) (some 1) (cd (a.To<=a.w) (some 1) (cd (604800<a.To) (some 1) (cd (0<b) (TM e (X (b - 1)) fun i=>cd (a.w<i.To) (some 6) (h ((e,f,g,b,()),()))) (h ((e,f,g,b,()),())))))) (some 0)) u ((c,c,(c.length:Int),0,()),()))
def QjE:o 316 (s [l .E9] [d] (Qeh u)):=f u (n 2 (m [.l 0 .E9,.l 8 .E9,.n 9,.n 10] (n 2 (c (j [.l 0 .E9,.l 8 .E9,.n 9,.n 10] g) g)))) t func316
def Ug(u:Nat)(a:Int)(b:Int)(c:Int):O AH:=cd (b<=a) (cd (a<=c) sT sF) sF
def QeQ:o 347 (s [d,d,d] [u] (Ug u)):=f u g t func347
def QbX(a:Int):O AH:=V (Ug u a 0 604800) fun b=>J b (nzc 3600 (cd ((Int.tmod a 3600)=0) sT sF)) sF
def Qk7:o 317 (s [d] [u] (QbX u)):=f u g (e (QeQ u) t) func317
def Wh(b:D.E)(a:D.Q):O Int:=TG (fun(_,_)=>some 0) fun c=>V (Yr u a.q (b.FD.length:Int)) fun e=>J (!e) (some 3) (V (Qeh u a.Fg) fun f=>cd (f≠0) (some 8) (V (QbX u a.Fx) fun g=>J g (V (QbX u a.Fy) fun h=>J h (c ((),())) (some 1)) (some 1)))
def Qfl:o 244 (s [tO,.st .Q] [d] (Wh u)):=f u (c g (c (j [] g) g)) (e (Wr u) (e (QjE u) (e (Qk7 u) t))) func244
def Qgl(u:Nat)(a:D.q):O AJ:=some a.Name
def Qju:o 241 (s [t7] [tx] (Qgl u)):=f u g t func241
def Qdx(u:Nat)(a:Int)(b:Int)(c:Int):O AH:=cd (b<=a) (cd (a<=c) sT sF) sF
def Qks:o 363 (s [d,d,d] [u] (Qdx u)):=f u g t func363
def QsN(a:D.FG):O Int:=TG (fun(_,_)=>some 0) fun b=>V (Qdx u a.w 1970 2240) fun c=>J c (V (Qdx u a.To a.w 2240) fun e=>J e (V (Qdx u a.Fw 1 12) fun f=>J f (V (Qdx u a.F4 1 5) fun g=>J g (V (Qdx u a.F2 0 6) fun h=>J h (V (Qdx u a.FU 0 86399) fun i=>J i (V (Qdx u a.FT (-64800) 64800) fun j=>J j (b ((),())) (some 1)) (some 1)) (some 1)) (some 1)) (some 1)) (some 1)) (some 1)
def QsO:o 378 (s [.st .FG] [d] (QsN u)):=f u (c g (c (j [] g) g)) (e (Qks u) t) func378
def Qol(u:Nat)(a:Int):O AH:=nzc 4 (cd ((Int.tmod a 4)=0) (nzc 100 (cd ((Int.tmod a 100)≠0) sT (nzc 400 (cd ((Int.tmod a 400)=0) sT sF)))) sF)
def Qph:o 383 (s [d] [u] (Qol u)):=f u g t func383
def Qb0(m:Int)(c:Int):O Int:=TG (fun((n,e,_),_)=>TG (fun((a,_),(o,p,q,r,s,t,v,f,g,h,i,j,_),_)=>cd ((X (a - 1))=((0:Nat):Int)) (some o) (cd ((X (a - 1))=(((0+1):Nat):Int)) (some p) (cd ((X (a - 1))=((((0+1)+1):Nat):Int)) (some q) (cd ((X (a - 1))=(((((0+1)+1)+1):Nat):Int)) (some r) (cd ((X (a - 1))=((((((0+1)+1)+1)+1):Nat):Int)) (some s) (cd ((X (a - 1))=(((((((0+1)+1)+1)+1)+1):Nat):Int)) (some t) (cd ((X (a - 1))=((((((((0+1)+1)+1)+1)+1)+1):Nat):Int)) (some v) (cd ((X (a - 1))=(((((((((0+1)+1)+1)+1)+1)+1)+1):Nat):Int)) (some f) (cd ((X (a - 1))=((((((((((0+1)+1)+1)+1)+1)+1)+1)+1):Nat):Int)) (some g) (cd ((X (a - 1))=(((((((((((0+1)+1)+1)+1)+1)+1)+1)+1)+1):Nat):Int)) (some h) (cd ((X (a - 1))=((((((((((((0+1)+1)+1)+1)+1)+1)+1)+1)+1)+1):Nat):Int)) (some i) (cd ((X (a - 1))=(((((((((((((0+1)+1)+1)+1)+1)+1)+1)+1)+1)+1)+1):Nat):Int)) (some j) none)))))))))))) fun b=>cd (e=2) (V (Qol u n) fun k=>J k (some 29) (b ((e,()),(31,28,31,30,31,30,31,31,30,31,30,31,()),()))) (b ((e,()),(31,28,31,30,31,30,31,31,30,31,30,31,()),()))) fun l=>cd (c<1) (some 0) (cd (12<c) (some 0) (l ((m,c,()),())))
def Qbz:o 366 (s [d,d] [d] (Qb0 u)):=f u (c g (c (j [.n 0,.n 1] g) (c g (c (j [.n 1,.s 5 (.one (.TN 1005))] g [(1005,.box [h,h,h,h,h,h,h,h,h,h,h,h])]) g)))) (e (Qph u) t) func366
def QlZ(a:D.Fr):O AH:=cd (1970<=a.F3) (cd (a.F3<=2240) (cd (1<=a.Fl) (V (Qb0 u a.F3 a.Fw) fun b=>cd (a.Fl<=b) sT sF) sF) sF) sF
def QnG:o 406 (s [.st .Fr] [u] (QlZ u)):=f u g (e (Qbz u) t) func406
def Qce(u:Nat)(b:Int)(a:Int):O Int:=nzc a (TG (fun((e,_),_)=>some e) fun c=>nzc a (cd ((Int.tmod b a)<0) (c (((X ((X (Int.tdiv b a)) - 1)),()),())) (c (((X (Int.tdiv b a)),()),()))))
def Qhu:o 382 (s [d,d] [d] (Qce u)):=f u (n 2 (c (j [.n 5] g) g)) t func382
def Qak(a:Int):O Int:=V (Qce u (X (a - 1)) 4) fun b=>V (Qce u (X (a - 1)) 100) fun c=>V (Qce u (X (a - 1)) 400) fun e=>some (X ((X ((X ((X ((X (365*(X (a - 1970))))+b)) - c))+e)) - 477))
def Qdk:o 364 (s [d] [d] (Qak u)):=f u g (e (Qhu u) t) func364
def Qky(a:D.Fr):O Int:=V (Qak u a.F3) fun f=>Qe (fun g ((e,b,_),c,_)=>cd (b<c.Fw) (V (Qb0 u c.F3 b) fun h=>g (((X (e+h)),(X (b+1)),()),c,())) (some e)) u (((X ((X (f+a.Fl)) - 1)),1,()),a,())
def Ql0:o 407 (s [.st .Fr] [d] (Qky u)):=f u (n 2 (m [.r 1 .Fr,.n 3,.n 4] g)) (e (Qdk u) (e (Qbz u) t)) func407
def Qq7(b:Int)(c:Int)(e:Int)(f:Int):O (Int×Int):=TG (fun((m,n,g,h,_),o,_)=>V (Qky u o) fun a=>V (QbA u a) fun i=>nzc 7 (TG (fun((p,_),_)=>some (p,0)) fun j=>V (Qb0 u m n) fun q=>cd ((X (a+q))<=(X ((X (a+(Int.tmod (X ((X (h - i))+7)) 7)))+(X (7*(X (g - 1))))))) (j (((X ((X ((X (a+(Int.tmod (X ((X (h - i))+7)) 7)))+(X (7*(X (g - 1)))))) - 7)),()),())) (j (((X ((X (a+(Int.tmod (X ((X (h - i))+7)) 7)))+(X (7*(X (g - 1)))))),()),())))) fun k=>V (QlZ u (D.Fr.mk b c 1)) fun l=>J l (cd (e<1) (some (0,1)) (cd (5<e) (some (0,1)) (cd (f<0) (some (0,1)) (cd (6<f) (some (0,1)) (k ((b,c,e,f,()),(D.Fr.mk b c 1),())))))) (some (0,1))
def Qq8:o 379 (s [d,d,d,d] [d,d] (Qq7 u)):=f u (n 2 (c (j [.n 0,.n 1,.n 2,.n 3,.r 10 .Fr] g) (n 2 (c (j [.n 12] g) g)))) (e (Qbz u) (e (QnG u) (e (Ql0 u) (e (Qe4 u) t)))) func379
def Qdh(u:Nat)(a:D.occurrence)(b:D.occurrence):O Int:=some (X (a.local_ - b.local_))
def QgA:o 381 (s [.st .occurrence,.st .occurrence] [d] (Qdh u)):=f u g t func381
def Qx(G:Y D.occurrence)(q:Int)(H:Int):O (Y D.occurrence):=Qe (fun zE ((zG,r,p,_),s,_)=>cd (p<r) (TG (fun((L,zD,zI,_),W,_)=>zE ((L,zD,(X (zI+1)),()),W,())) fun t=>Qe (fun v ((f,h,i,g,_),b,_)=>TG (fun((w,y,z,c,_),a,_)=>TK (X (c - 1)) fun l=>TP l a.length (V a[l]? fun j=>TK c fun m=>TP m a.length (V a[m]? fun A=>TK c fun e=>TP e a.length (V a[e]? fun Z=>TK (X (c - 1)) fun k=>TP k (List.set a e j).length (V (GetElem?.getElem? (List.set a e j) k) fun a0=>v ((w,y,z,(X (c - 1)),()),(List.set (List.set a e j) k A),())))))) fun B=>cd (f<g) (TK g fun n=>TP n b.length (V b[n]? fun zH=>TK (X (g - 1)) fun o=>TP o b.length (V b[o]? fun E=>V (Qdh u zH E) fun F=>cd (F<0) (B ((f,h,i,g,()),b,())) (t ((f,h,i,()),b,()))))) (t ((f,h,i,()),b,()))) u ((zG,r,p,p,()),s,())) (some s)) u ((q,H,(X (q+1)),()),G,())
def ZY:o 428 (Ql [.one (.own 101),d,d,.one (.fv 381)] [v 101 .occurrence] [] [(101,.arrs .occurrence)] [] (Y D.occurrence) kz5 (fun x y=>Qx u y.1 x.1 x.2.1)):=i u (c g (.one (k [.o 0 101 .occurrence,.n 1,.n 2,.s 3 (.one (.fv 381)),.n 8] (c g (c (j [.o 0 101 .occurrence,.n 1,.n 2,.s 3 (.one (.fv 381)),.n 8] (.one (c g (.one (k [.o 0 101 .occurrence,.n 1,.n 2,.s 3 (.one (.fv 381)),.n 8,.n 9] (c (j [.o 0 101 .occurrence,.n 1,.n 2,.s 3 (.one (.fv 381)),.n 8,.n 9] g) g)))))) g))))) kz8 (e (QgA u) t) func428
def Zj(q:Y D.occurrence)(r:Int):O (Y D.occurrence):=Qe (fun s ((c,i,j,e,_),f,_)=>cd (e<=c) (V (Qx u f j e) fun k=>chk k.length f.length (s ((c,i,e,(X (e+i)),()),k,()))) (V (Qx u f j c) fun l=>chk l.length f.length (Qe (fun t ((m,a,_),g,_)=>cd (a<m) (Qe (fun v ((b,h,n,o,_),p,_)=>cd (o<=b) none (cd ((X (n+h))<b) none (t ((b,(X (h*2)),()),p,())))) u ((m,a,0,(X (2*a)),()),g,())) (some g)) u ((c,i,()),l,())))) u ((r,20,0,20,()),q,())
def Yz:o 409 (Ql [.one (.own 101),d,.one (.fv 381)] [v 101 .occurrence] [] [(101,.arrs .occurrence)] [] (Y D.occurrence) kz5 (fun x y=>Zj u y.1 x.1)):=i u (n 2 (c (.one (k [.o 0 101 .occurrence,.n 1,.s 2 (.one (.fv 381)),.n 6,.n 7,.n 8] g)) (c g (.one (k [.o 0 101 .occurrence,.n 1,.s 2 (.one (.fv 381)),.n 6] (c g (.one (c g (c (.one (k [.o 0 101 .occurrence,.n 1,.s 2 (.one (.fv 381)),.n 6,.n 7,.n 8] g)) g))))))))) kz8 (e (ZY u) t) func409
def Zf(a:Y D.occurrence):O (Y D.occurrence):=V (Zj u a (a.length:Int)) fun b=>chk b.length a.length (some b)
def Ys:o 380 (Ql [.one (.own 101),.one (.fv 381)] [v 101 .occurrence] [] [(101,.arrs .occurrence)] [] (Y D.occurrence) kz5 (fun x y=>Zf u y.1)):=i u g kz8 (e (Yz u) t) func380
def Qff(b:D.q):O (Y D.occurrence×Int):=V (Qdx u b.FT (-64800) 64800) fun z=>J (!z) (some ([],1)) (cd (16<(b.Fm.length:Int)) (some ([],5)) (Qe (fun A ((s,t,v,p,_),q,_)=>cd (p<v) (TM t p fun r=>V (QsN u r) fun w=>cd (w≠0) (some ([],w)) (A (((X (s+(X ((X (r.To - r.w))+1)))),t,v,(X (p+1)),()),q,()))) (cd (640<s) (some ([],5)) (Qe (fun B ((h,i,c,_),e,_)=>cd (c<i) (TM h c fun j=>Qe (fun y ((f,k,l,m,_),a,g,_)=>cd (f<=a.To) (V (Qq7 u f a.Fw a.F4 a.F2) fun(n,zH)=>TO (g.length+[(D.occurrence.mk (X ((X (n*86400))+a.FU)) a.FT)].length) 34359738368 (y (((X (f+1)),k,l,m,()),a,(g++[(D.occurrence.mk (X ((X (n*86400))+a.FU)) a.FT)]),()))) (B ((k,l,(X (m+1)),()),g,()))) u ((j.w,h,i,c,()),j,e,())) (V (Zf u e) fun o=>chk o.length e.length (some (o,0)))) u ((q.Fm,(q.Fm.length:Int),0,()),[],())))) u ((0,b.Fm,(b.Fm.length:Int),0,()),b,())))
def Qiw:o 362 (s [t7] [l .occurrence,d] (Qff u)):=f u (n 4 (c (c g (.one (k [.r 1 .q,.n 4,.l 23 .FG,.n 24,.n 25] g))) (n 2 (m [.o 8 1081 .occurrence,.l 46 .FG,.n 47,.n 48] (n 2 (c (.one (n 2 (.one (.loop [(8,.one (.own 1081)),w 10,r 11,li 46 .FG,r 47,r 48] [p 1010 .FG,v 1081 .occurrence] g)))) g)))))) (e (Qks u) (e (QsO u) (e (Qq8 u) (e (Ys u) t)))) func362
def Qbo(n:D.q):O (Y D.FH×Int):=V (Qff u n) fun(o,p)=>cd (p≠0) (some ([],p)) (Qe (fun A ((b,g,h,e,_),c,_)=>cd (e<h) (TG (fun((B,zH,q,r,_),s,_)=>A ((B,zH,q,(X (r+1)),()),s,())) fun i=>TM g e fun a=>cd (a.offset=b) (i ((b,g,h,e,()),c,())) (TG (fun((j,t,v,w,_),f,k,_)=>TO (k.length+[(D.FH.mk j f.offset)].length) 34359738368 (i ((f.offset,t,v,w,()),(k++[(D.FH.mk j f.offset)]),()))) fun l=>cd (86400<=(X (a.offset - b))) (some ([],6)) (cd ((X (a.offset - b))<=(-86400)) (some ([],6)) (V (Qdx u (X (a.local_ - b)) 0 8589934592) fun y=>J y (cd (0<(c.length:Int)) (TK (X ((c.length:Int) - 1)) fun m=>TP m c.length (V c[m]? fun z=>cd ((X (a.local_ - b))<(X (z.At+604800))) (some ([],6)) (l (((X (a.local_ - b)),g,h,e,()),a,c,())))) (l (((X (a.local_ - b)),g,h,e,()),a,c,()))) (some ([],6)))))) (some (c,0))) u ((n.FT,o,(o.length:Int),0,()),[],()))
def QcF:o 345 (s [t7] [l .FH,d] (Qbo u)):=f u (n 5 (m [.o 6 1074 .FH,.n 7,.l 22 .occurrence,.n 23,.n 24] (n 2 (c (j [.o 6 1074 .FH,.n 7,.l 22 .occurrence,.n 23,.n 24] (.one (n 3 (c (.TG [(6,.one (.own 1074)),w 9,r 10,li 22 .occurrence,r 23,r 24] [p 1009 .occurrence,v 1074 .FH] g) g)))) g)))) (e (Qiw u) (e (Qks u) t)) func345
def Qo2(a:D.q):O Int:=V (Qbo u a) fun(c,b)=>some b
def QqO:o 312 (s [t7] [d] (Qo2 u)):=f u g (e (QcF u) t) func312
def QcA(u:Nat)(a:D.FG):O AH:=nzc 60 (some (decide ((Int.tmod a.FT 60)≠0)))
def Qfm:o 314 (s [.st .FG] [u] (QcA u)):=f u g t func314
def ZJ(b:Y D.FG):O Int:=Qe (fun f ((c,e,a,_),_)=>cd (a<e) (TM c a fun g=>V (QcA u g) fun h=>J h (some a) (f ((c,e,(X (a+1)),()),()))) (some (-1))) u ((b,(b.length:Int),0,()),())
def Xc:o 346 (s [l .FG,.one (.fv 314)] [d] (ZJ u)):=f u (c g (m [.l 0 .FG,.s 1 (.one (.fv 314)),.n 7,.n 8] g)) (e (Qfm u) t) func346
def Zv(a:Y D.FG):O AH:=V (ZJ u a) fun b=>some (decide (0<=b))
def YQ:o 313 (s [l .FG,.one (.fv 314)] [u] (Zv u)):=f u g (e (Xc u) t) func313
def Qd4(a:D.q):O Int:=TG (fun(_,_)=>some 0) fun b=>V (Qo2 u a) fun c=>cd (c≠0) (some 8) (nzc 60 (cd ((Int.tmod a.FT 60)≠0) (some 8) (V (Zv u a.Fm) fun e=>J e (some 8) (b ((),())))))
def Qho:o 242 (s [t7] [d] (Qd4 u)):=f u (c g (c (j [] g) g)) (e (QqO u) (e (YQ u) t)) func242
def QD(b:Y D.q):O Int:=Qe (fun i ((c,e,a,_),j,_)=>cd (a<e) (TM c a fun f=>V (Qgl u f) fun k=>V (Xs u k j) fun(g,l)=>cd (g≠0) (some g) (V (Qd4 u f) fun h=>cd (h≠0) (some h) (i ((c,e,(X (a+1)),()),l,())))) (some 0)) u ((b,(b.length:Int),0,()),[],())
def Yl:o 240 (s [l .q,.one (.fv 241),.one (.fv 242)] [d] (QD u)):=f u (n 2 (m [.s 1 (.one (.fv 241)),.s 2 (.one (.fv 242)),.s 7 (.one (.mref 1012)),.l 13 .q,.n 14,.n 15] g [(1012,.sm)])) (e (Qju u) (e (Qho u) (e (Vc u) t))) func240
def Qgm(u:Nat)(a:D.m):O AJ:=some a.Name
def Qjv:o 246 (s [t19] [tx] (Qgm u)):=f u g t func246
def Qom(b:Int):O Int:=V (Qce u b 366) fun e=>Qe (fun f ((c,a,_),_)=>V (Qak u (X (a+1))) fun g=>cd (g<=c) (f ((c,(X (a+1)),()),())) (some a)) u ((b,(X (1970+e)),()),())
def Qpi:o 365 (s [d] [d] (Qom u)):=f u (n 2 (c (.one (k [.n 0,.n 3] g)) g)) (e (Qdk u) (e (Qhu u) t)) func365
def Qkx(b:Int):O (D.Fr×Int):=TG (fun((e,_),j,_)=>V (Qom u e) fun f=>V (Qak u f) fun k=>Qe (fun l ((c,_),m,a,_)=>V (Qb0 u a.F3 a.Fw) fun n=>cd (n<=c) (V (Qb0 u a.F3 a.Fw) fun o=>l (((X (c - o)),()),m,(D.Fr.mk a.F3 (X (a.Fw+1)) a.Fl),())) (some ((D.Fr.mk a.F3 a.Fw (X (c+1))),0))) u (((X (e - k)),()),j,(D.Fr.mk f 1 0),())) fun g=>V (Qak u 1970) fun h=>cd (b<h) (some (z12,1)) (V (Qak u 2241) fun i=>cd (i<=b) (some (z12,1)) (g ((b,()),z12,())))
def QlY:o 348 (s [d] [.st .Fr,d] (Qkx u)):=f u (c g (c (j [.n 0,.r 2 .Fr] g) (n 2 (c (.one (k [.r 2 .Fr,.r 4 .Fr,.n 5] g)) g)))) (e (Qdk u) (e (Qpi u) (e (Qbz u) t))) func348
def XI(a:Int):O AH:=V (Qkx u a) fun(c,b)=>some (decide (b=0))
def Qdu:o 319 (s [d] [u] (XI u)):=f u g (e (QlY u) t) func319
def UU(a:Int):O AH:=V (XI u a) fun b=>some (!b)
def QcL:o 318 (s [d] [u] (UU u)):=f u g (e (Qdu u) t) func318
def ZQ(b:Y Int):O Int:=Qe (fun f ((c,e,a,_),_)=>cd (a<e) (TM c a fun g=>V (UU u g) fun h=>J h (some a) (f ((c,e,(X (a+1)),()),()))) (some (-1))) u ((b,(b.length:Int),0,()),())
def Xg:o 341 (s [lI,.one (.fv 318)] [d] (ZQ u)):=f u (c g (m [.s 0 lI,.s 1 (.one (.fv 318)),.n 7,.n 8] g)) (e (QcL u) t) func341
def ZE(a:Y Int):O AH:=V (ZQ u a) fun b=>some (decide (0<=b))
def YX:o 307 (s [lI,.one (.fv 318)] [u] (ZE u)):=f u g (e (Xg u) t) func307
def Qa6(i:D.E)(b:D.m):O Int:=V (Yr u b.q (i.FD.length:Int)) fun j=>J (!j) (some 3) (cd (64<(b.F1.length:Int)) (some 5) (V (ZE u b.F1) fun k=>J k (some 1) (Qe (fun l ((e,a,_),c,_)=>cd (a<e) (TG (fun((m,n,_),o,_)=>l ((m,(X (n+1)),()),o,())) fun f=>cd (0<a) (TM c.F1 a fun g=>TM c.F1 (X (a - 1)) fun h=>cd (g<=h) (some 6) (f ((e,a,()),c,()))) (f ((e,a,()),c,()))) (some 0)) u (((b.F1.length:Int),0,()),b,()))))
def Qd2:o 248 (s [tO,t19] [d] (Qa6 u)):=f u (n 2 (m [.r 3 .m,.n 25,.n 26] (n 2 (c (j [.r 3 .m,.n 25,.n 26] g) g)))) (e (YX u) (e (Wr u) t)) func248
def Qgn(b:D.m)(a:D.E):O Int:=V (Qa6 u a b) fun c=>TE a a (some c)
def Qjw:o 247 (Ql [t19,.one (.TN 101)] [p 101 .E] [d] [] [101] Int kz2 (fun x y=>Qgn u x.1 y.1)):=i u g kz4 (e (Qd2 u) t) func247
def Qo(e:Y D.m)(c101:D.E):O Int:=Qe (fun j ((f,g,c,_),a,k,_)=>cd (c<g) (TM f c fun h=>V (Qgm u h) fun l=>V (Xs u l k) fun(i,m)=>cd (i≠0) (TE a c101 (some i)) (V (Qgn u h a) fun b=>cd (b≠0) (TE a c101 (some b)) (j ((f,g,(X (c+1)),()),a,m,())))) (TE a c101 (some 0))) u ((e,(e.length:Int),0,()),c101,[],())
def Ye:o 245 (Ql [l .m,.one (.fv 246),.one (.clo 247 [101])] [p 101 .E] [d] [] [101] Int kz2 (fun x y=>Qo u x.1 y.1)):=i u (n 2 (m [.s 1 (.one (.fv 246)),.s 2 (.one (.clo 247 [101])),.s 7 (.one (.mref 1012)),.l 13 .m,.n 14,.n 15] g [p 101 .E,(1012,.sm)])) kz4 (e (Vc u) (e (Qjv u) (e (Qjw u) t))) func245
def US(u:Nat)(a:D.c):O AJ:=some a.Name
def Qjx:o 250 (s [t11] [tx] (US u)):=f u g t func250
def Z6(u:Nat)(a:D.v):O AJ:=some a.Name
def QcM:o 321 (s [t9] [tx] (Z6 u)):=f u g t func321
def XN(b:Int)(a:D.E):O AH:=V (Yr u b (a.k.length:Int)) fun c=>TE a a (some (!c))
def QeP:o 349 (Ql [d,.one (.TN 101)] [p 101 .E] [u] [] [101] AH kz2 (fun x y=>XN u x.1 y.1)):=i u g kz4 (e (Wr u) t) func349
def QL(c:Y Int)(c101:D.E):O Int:=Qe (fun g ((e,f,a,_),b,_)=>cd (a<f) (TM e a fun h=>V (XN u h b) fun i=>J i (TE b c101 (some a)) (g ((e,f,(X (a+1)),()),b,()))) (TE b c101 (some (-1)))) u ((c,(c.length:Int),0,()),c101,())
def XM:o 341 (Ql [lI,.one (.clo 349 [101])] [p 101 .E] [d] [] [101] Int kz2 (fun x y=>QL u x.1 y.1)):=i u (c g (m [.s 0 lI,.s 1 (.one (.clo 349 [101])),.n 7,.n 8] g [p 101 .E])) kz4 (e (QeP u) t) func341
def QC(a:Y Int)(c101:D.E):O AH:=V (QL u a c101) fun b=>TE c101 c101 (some (decide (0<=b)))
def Xe:o 307 (Ql [lI,.one (.clo 349 [101])] [p 101 .E] [u] [] [101] AH kz2 (fun x y=>QC u x.1 y.1)):=i u g kz4 (e (XM u) t) func307
def WK(c:D.E)(a:D.v):O Int:=TG (fun(_,_)=>some 0) fun b=>V (Yr u a.q (c.FD.length:Int)) fun e=>J (!e) (some 3) (cd (a.R.Fl<1) (some 1) (V (XI u a.R.Fl) fun f=>J f (V (Ug u a.R.FU 0 86399) fun g=>J g (V (Ug u a.Unit 0 2) fun h=>J h (V (Ug u a.FI 1 400) fun i=>J i (cd ((a.t.length:Int)=0) (some 7) (cd (12<(a.t.length:Int)) (some 5) (V (QC u a.t c) fun j=>J j (some 3) (V (Qeh u a.Fk) fun k=>cd (k≠0) (some 8) (V (Ug u a.F0 0 2) fun l=>J (!l) (some 1) (cd (a.F0≠0) (V (Yr u a.m (c.n.length:Int)) fun m=>J m (cd (a.F0=0) (cd (a.m≠0) (some 1) (b ((),()))) (b ((),()))) (some 3)) (cd (a.F0=0) (cd (a.m≠0) (some 1) (b ((),()))) (b ((),()))))))))) (some 1)) (some 1)) (some 1)) (some 1)))
def Qgo:o 323 (s [tO,t9] [d] (WK u)):=f u (c g (c (j [] g) g)) (e (Xe u) (e (Wr u) (e (QjE u) (e (Qdu u) (e (QeQ u) t))))) func323
def Z7(b:D.v)(a:D.E):O Int:=V (WK u a b) fun c=>TE a a (some c)
def QcN:o 322 (Ql [t9,.one (.TN 101)] [p 101 .E] [d] [] [101] Int kz2 (fun x y=>Z7 u x.1 y.1)):=i u g kz4 (e (Qgo u) t) func322
def Qk(e:Y D.v)(c101:D.E):O Int:=Qe (fun j ((f,g,c,_),a,k,_)=>cd (c<g) (TM f c fun h=>V (Z6 u h) fun l=>V (Xs u l k) fun(i,m)=>cd (i≠0) (TE a c101 (some i)) (V (Z7 u h a) fun b=>cd (b≠0) (TE a c101 (some b)) (j ((f,g,(X (c+1)),()),a,m,())))) (TE a c101 (some 0))) u ((e,(e.length:Int),0,()),c101,[],())
def Zu:o 320 (Ql [l .v,.one (.fv 321),.one (.clo 322 [101])] [p 101 .E] [d] [] [101] Int kz2 (fun x y=>Qk u x.1 y.1)):=i u (n 2 (m [.s 1 (.one (.fv 321)),.s 2 (.one (.clo 322 [101])),.s 7 (.one (.mref 1012)),.l 13 .v,.n 14,.n 15] g [p 101 .E,(1012,.sm)])) kz4 (e (Vc u) (e (QcM u) (e (QcN u) t))) func320
def Vn(f:D.E)(b:D.p):O Int:=TG (fun(_,_)=>some 0) fun e=>V (Ug u b.b 0 2) fun i=>J (!i) (some 1) (TG (fun((j,_),a,_)=>J j (some 3) (cd (a.b≠2) (cd (a.B≠0) (some 1) (cd (a.b=2) (cd (a.A=a.B) (some 4) (cd (a.w<0) (some 1) (cd (a.To<0) (some 1) (nzc 86400 (V (XI u (X (Int.tdiv a.To 86400))) fun k=>J k (cd (a.To<=a.w) (some 6) (e ((),()))) (some 1)))))) (cd (a.w<0) (some 1) (cd (a.To<0) (some 1) (nzc 86400 (V (XI u (X (Int.tdiv a.To 86400))) fun l=>J l (cd (a.To<=a.w) (some 6) (e ((),()))) (some 1))))))) (cd (a.b=2) (cd (a.A=a.B) (some 4) (cd (a.w<0) (some 1) (cd (a.To<0) (some 1) (nzc 86400 (V (XI u (X (Int.tdiv a.To 86400))) fun m=>J m (cd (a.To<=a.w) (some 6) (e ((),()))) (some 1)))))) (cd (a.w<0) (some 1) (cd (a.To<0) (some 1) (nzc 86400 (V (XI u (X (Int.tdiv a.To 86400))) fun n=>J n (cd (a.To<=a.w) (some 6) (e ((),()))) (some 1)))))))) fun c=>V (Yr u b.A (f.k.length:Int)) fun o=>J o (cd (b.b=2) (V (Yr u b.B (f.k.length:Int)) fun g=>J g (c ((false,()),b,())) (c ((true,()),b,()))) (c ((false,()),b,()))) (cd (b.b=1) (cd (b.A=(-1)) (cd (b.b=2) (V (Yr u b.B (f.k.length:Int)) fun h=>J h (c ((false,()),b,())) (c ((true,()),b,()))) (c ((false,()),b,()))) (c ((true,()),b,()))) (c ((true,()),b,()))))
def Qhn:o 324 (s [tO,.st .p] [d] (Vn u)):=f u (n 2 (c (j [] (.one (n 2 (c (j [.r 3 .p,.s 14 u] g) g)))) g)) (e (Wr u) (e (Qdu u) (e (QeQ u) t))) func324
def Xr(l:D.E)(a:D.c):O Int:=TG (fun(_,e,b,_)=>V (Qk u b.Fi e) fun f=>cd (f≠0) (some f) (Qe (fun m ((g,h,c,_),i,_)=>cd (c<h) (TM g c fun n=>V (Vn u i n) fun j=>cd (j≠0) (some j) (m ((g,h,(X (c+1)),()),i,()))) (some 0)) u ((b.FS,(b.FS.length:Int),0,()),e,()))) fun k=>cd (6<(a.Fi.length:Int)) (some 5) (cd (48<(a.FS.length:Int)) (some 5) (k ((),l,a,())))
def Qd3:o 252 (s [tO,t11] [d] (Xr u)):=f u (c g (c (j [.r 2 .E,.r 3 .c] g) (n 2 (m [.r 2 .E,.l 27 .p,.n 28,.n 29] g)))) (e (Zu u) (e (Qhn u) t)) func252
def UT(b:D.c)(a:D.E):O Int:=V (Xr u a b) fun c=>TE a a (some c)
def Qjy:o 251 (Ql [t11,.one (.TN 101)] [p 101 .E] [d] [] [101] Int kz2 (fun x y=>UT u x.1 y.1)):=i u g kz4 (e (Qd3 u) t) func251
def Qp(e:Y D.c)(c101:D.E):O Int:=Qe (fun j ((f,g,c,_),a,k,_)=>cd (c<g) (TM f c fun h=>V (US u h) fun l=>V (Xs u l k) fun(i,m)=>cd (i≠0) (TE a c101 (some i)) (V (UT u h a) fun b=>cd (b≠0) (TE a c101 (some b)) (j ((f,g,(X (c+1)),()),a,m,())))) (TE a c101 (some 0))) u ((e,(e.length:Int),0,()),c101,[],())
def Yf:o 249 (Ql [l .c,.one (.fv 250),.one (.clo 251 [101])] [p 101 .E] [d] [] [101] Int kz2 (fun x y=>Qp u x.1 y.1)):=i u (n 2 (m [.s 1 (.one (.fv 250)),.s 2 (.one (.clo 251 [101])),.s 7 (.one (.mref 1012)),.l 13 .c,.n 14,.n 15] g [p 101 .E,(1012,.sm)])) kz4 (e (Vc u) (e (Qjx u) (e (Qjy u) t))) func249
def Q4(b:D.E):O Int:=TG (fun(_,e,_)=>V (QD u e.FD) fun t=>cd (t≠0) (some t) (Qe (fun G ((r,s,f,_),a,H,_)=>cd (f<s) (TM r f fun g=>V (Xs u g.Name H) fun(zE,h)=>TG (fun((i,j,k,l,_),c,v,m,_)=>TG (fun((n,w,y,z,_),A,B,_)=>cd (n≠0) (some n) (G ((w,y,(X (z+1)),()),A,B,()))) fun o=>cd (i=0) (V (Wh u c v) fun zH=>o ((zH,j,k,l,()),c,m,())) (o ((i,j,k,l,()),c,m,()))) fun p=>cd (g.Name=(ByteArray.mk (List.toArray [110,111,98,111,100,121]))) (p ((2,r,s,f,()),a,g,h,())) (p ((zE,r,s,f,()),a,g,h,()))) (V (Qo u a.n a) fun q=>cd (q≠0) (some q) (V (Qp u a.f a) fun E=>some E))) u ((e.k,(e.k.length:Int),0,()),e,[],()))) fun F=>cd (16<(b.FD.length:Int)) (some 5) (cd (32<(b.k.length:Int)) (some 5) (cd (8<(b.n.length:Int)) (some 5) (cd (12<(b.f.length:Int)) (some 5) (F ((),b,())))))
def Qbj:o 172 (sI [tO] fun x=>Q4 u x.1):=i u (c g (c (j [.r 1 .E] g) (n 2 (m [.r 1 .E,.s 4 (.one (.mref 1037)),.l 39 .Q,.n 40,.n 41] (n 2 (c (.one (n 2 (c (j [.r 1 .E,.s 4 (.one (.mref 1037)),.r 6 .Q,.n 7,.l 39 .Q,.n 40,.n 41] g [(1037,.sm)]) (c (j [.r 1 .E,.s 4 (.one (.mref 1037)),.n 7,.l 39 .Q,.n 40,.n 41] g [(1037,.sm)]) g)))) g)) [(1037,.sm)])))) kz4 (e (Yl u) (e (Vc u) (e (Qfl u) (e (Ye u) (e (Yf u) t))))) func172
def V2(u:Nat)(b:D.E)(a:Int):O AH:=cd (0<=a) (cd (a<(b.f.length:Int)) sT sF) sF
def QhL:o 356 (sB [tO,d] fun x=>V2 u x.1 x.2.1):=i u g kz4 t func356
def X2(u:Nat)(a:Y D.q):O (Y D.q):=TR a (TU (some []) (TO a.length 34359738368 (some a))) (TO a.length 34359738368 (some a))
def Qbw:o 267 (Ql [l .q] [] [.one (.own 1007)] [v 1007 .q] [] (Y D.q) kz5 (fun x y=>X2 u x.1)):=i u g kz8 t func267
def Y3(u:Nat)(a:Y D.Q):O (Y D.Q):=TR a (TU (some []) (TO a.length 34359738368 (some a))) (TO a.length 34359738368 (some a))
def Qad:o 269 (Ql [l .Q] [] [.one (.own 1007)] [v 1007 .Q] [] (Y D.Q) kz5 (fun x y=>Y3 u x.1)):=i u g kz8 t func269
def Vf(u:Nat)(a:Y D.m):O (Y D.m):=TR a (TU (some []) (TO a.length 34359738368 (some a))) (TO a.length 34359738368 (some a))
def Uh:o 271 (Ql [l .m] [] [.one (.own 1007)] [v 1007 .m] [] (Y D.m) kz5 (fun x y=>Vf u x.1)):=i u g kz8 t func271
def Yw(u:Nat)(a:Y D.c):O (Y D.c):=TR a (TU (some []) (TO a.length 34359738368 (some a))) (TO a.length 34359738368 (some a))
def Ui:o 272 (Ql [l .c] [] [.one (.own 1007)] [v 1007 .c] [] (Y D.c) kz5 (fun x y=>Yw u x.1)):=i u g kz8 t func272
def Xx(u:Nat)(a:Y D.FG):O (Y D.FG):=TR a (TU (some []) (TO a.length 34359738368 (some a))) (TO a.length 34359738368 (some a))
def Uj:o 268 (Ql [l .FG] [] [.one (.own 1007)] [v 1007 .FG] [] (Y D.FG) kz5 (fun x y=>Xx u x.1)):=i u g kz8 t func268
def Ym(u:Nat)(a:Y D.E9):O (Y D.E9):=TR a (TU (some []) (TO a.length 34359738368 (some a))) (TO a.length 34359738368 (some a))
def WD:o 270 (Ql [l .E9] [] [.one (.own 1007)] [v 1007 .E9] [] (Y D.E9) kz5 (fun x y=>Ym u x.1)):=i u g kz8 t func270
def Xv(u:Nat)(a:Y D.v):O (Y D.v):=TR a (TU (some []) (TO a.length 34359738368 (some a))) (TO a.length 34359738368 (some a))
def Qa9:o 327 (Ql [l .v] [] [.one (.own 1007)] [v 1007 .v] [] (Y D.v) kz5 (fun x y=>Xv u x.1)):=i u g kz8 t func327
def X1(u:Nat)(a:Y D.p):O (Y D.p):=TR a (TU (some []) (TO a.length 34359738368 (some a))) (TO a.length 34359738368 (some a))
def Qbv:o 275 (Ql [l .p] [] [.one (.own 1007)] [v 1007 .p] [] (Y D.p) kz5 (fun x y=>X1 u x.1)):=i u g kz8 t func275
def Qu(u:Nat)(a:Y Int):O (Y Int):=TR a (TU (some []) (TO a.length 34359738368 (some a))) (TO a.length 34359738368 (some a))
def QQ:o 198 (Ql [lI] [] [.one (.own 1007)] [v 1007 .int] [] (Y Int) kz5 (fun x y=>Qu u x.1)):=i u g kz8 t func198
end
end Go.Proofs.YtlllfgmajglnhaaGreat
namespace Go.Proofs.YtlllfgmajglnhaaGreat.AM
open Go
section
variable (P:AF) (rd:Y (Nat×AV)) (hs:Y (Name×AO))
def QA0(T:AD)(x y:AC):O Out:=match WT P T,Qi rd x,Qi rd y with
 |some e,some (.own n len),some (.p (.v (.int _ j)))=>match Zk P e,C n hs with
  |some es,some (.hole es' pre row post)=>if Nat.beq es es' && (Nat.beq len (pre.length+1+post.length) && (Nat.blt j.toNat (pre.length+1+post.length) && decide (j=(j.toNat:Int))))then some ([(n,.hole es' pre row post)],.aref n len j.toNat 0,[],[])else none
  |_,_=>none
 |_,_,_=>none
def xLen(x:AC)(ats:Array AD):O Out:=match ats[0]?.bind (WT P),Qi rd x with
 |some _,some (.own n len)=>match C n hs with
  |some (.TI es rows)=>if Nat.beq len rows.length then some ([(n,.TI es rows)],.p (.v (.int .i64 (rows.length:Int))),[],[])else none
  |some (.hole es pre row post)=>if Nat.beq len (pre.length+1+post.length)then some ([(n,.hole es pre row post)],.p (.v (.int .i64 (len:Int))),[],[])else none
  |_=>none
 |_,_=>none
def QDt(c:Call):O Out:=match c with
 |{ callee:=.builtin .len,args:=aq,argTypes:=ats,.. }=>match aq.toList with
  |[x]=>xLen P rd hs x ats
  |_=>none
 |_=>none
def QAZ(zI:AD)(x:AC)(i:Nat):O Out:=match Qi rd x,QbH P zI i with
 |some (.aref n len j k),some fo=>match C n hs with
  |some (.hole es pre row post)=>if Nat.beq len (pre.length+1+post.length)then some ([(n,.hole es pre row post)],.aref n len j (k+fo),[],[])else none
  |_=>none
 |_,_=>none
def xNil(x:AC):O Out:=match Qi rd x with
 |some (.aref n len j k)=>match C n hs with
  |some (.hole es pre row post)=>if Nat.beq len (pre.length+1+post.length)then some ([(n,.hole es pre row post)],.aref n len j k,[],[])else none
  |_=>none
 |_=>none
def QDu(T:AD)(x:AC):O Out:=match Qi rd x with
 |some (.aref n len i k)=>match C n hs with
  |some (.hole es pre row post)=>if QcK P T && (Nat.beq len (pre.length+1+post.length) && Nat.beq i pre.length)then(row[k]?).map fun c=>([(n,.hole es pre row post)],c,[],[])else none
  |_=>none
 |_=>none
def QA1(d:O Nat)(T:AD)(x y:AC):O Out:=match d,Qi rd x,(Qi rd y).bind ZR with
 |none,some (.aref n len i k),some vs=>match C n hs,Zk P T with
  |some (.hole es pre row post),some z=>if Nat.beq len (pre.length+1+post.length) && (Nat.beq i pre.length && (Nat.beq z vs.length && Nat.ble (k+vs.length) row.length))then some ([(n,.hole es pre row post)],.any,[(n,.hole es pre (Qy row k vs) post)],[])else none
  |_,_=>none
 |_,_,_=>none
def xAdd(x y:AC):O Out:=match Qi rd x,Qi rd y with
 |some (.p (.v (.int k a))),some (.p (.v (.int k' b)))=>if kEq k k' then some ([],.p (.v (.int k (k.wrap (a+b)))),[],[])else none
 |_,_=>none
def QBb(o:Oper):O Out:=match o.op with
 |.indexAddr T x y=>QA0 P rd hs T x y
 |.fieldAddr zI x i=>QAZ P rd hs zI x i
 |.nilCheck x=>xNil rd hs x
 |.load T x=>QDu P rd hs T x
 |.store T x y=>QA1 P rd hs o.dst T x y
 |.binOp .add _ x y _=>xAdd rd x y
 |.call c=>QDt P rd hs c
 |_=>none
end
section
variable {P:AF} {rd:Y (Nat×AV)} {hs:Y (Name×AO)} {o:Oper} {e:Out}
def Qy5(h:QBb P rd hs o=some e):TD P o (QcI rd e):=by
 unfold QBb at h
 split at h
 .rename_i T x y ho
  unfold QA0 at h
  split at h
  .rename_i e' n len k j hT hx hy
   split at h
   .rename_i es es' pre row post hz hh
    split at h
    .rename_i hc
     simp only[bae,BL]at hc
     obtain⟨c1,c2,c3,c4⟩:=hc
     have:=nbe c1;subst this
     cases h
     exact TD.indexHole ho hT hz hx c2 hy c4 (by simpa [EL]using c3)
    .simp at h
   .simp at h
  .simp at h
 .rename_i zI x i ho
  unfold QAZ at h
  split at h
  .rename_i n len j k fo hx hf
   split at h
   .split at h
    .rename_i hl;cases h;exact TD.fieldElemSh ho hx hf rfl rfl hl
    .simp at h
   .simp at h
  .simp at h
 .rename_i x ho
  unfold xNil at h
  split at h
  .rename_i n len j k hx
   split at h
   .split at h
    .rename_i hl;cases h;exact TD.nilCheckSh ho hx rfl hl
    .simp at h
   .simp at h
  .simp at h
 .rename_i T x ho
  unfold QDu at h
  split at h
  .rename_i n len i k hx
   split at h
   .split at h
    .rename_i hc
     simp only[bae]at hc
     obtain⟨v,hv,rfl⟩:=map_some h
     exact TD.loadHole ho hx hc.1 hc.2.1 (nbe hc.2.2) hv
    .simp at h
   .simp at h
  .simp at h
 .rename_i T x y ho
  unfold QA1 at h
  split at h
  .rename_i n len i k vs hd hx hy
   split at h
   .rename_i es pre row post z hh hz
    split at h
    .rename_i hc
     simp only[bae]at hc
     obtain⟨c1,c2,c3,c4⟩:=hc
     cases h
     obtain⟨v,hv,hvs⟩:=Uq hy
     exact TD.storeHole hd ho hx hv hvs c1 (nbe c2) (by rw[hz,nbe c3]) c4 rfl
    .simp at h
   .simp at h
  .simp at h
 .rename_i T x y T' ho
  unfold xAdd at h
  split at h
  .rename_i k a k' b hx hy
   split at h
   .rename_i hk
    have:=Qe7 hk;subst this
    cases h
    exact TD.add ho hx hy rfl
   .simp at h
  .simp at h
 .rename_i c ho
  unfold QDt at h
  split at h
  .rename_i aq ats
   split at h
   .rename_i x has
    have:aq=#[x]:=by cases aq;simp at has;simp[has]
    subst this
    unfold xLen at h
    split at h
    .rename_i e' n len hT hx
     obtain⟨T,hT1,hT2⟩:=Uq hT
     split at h
     .split at h
      .rename_i hl;cases h;exact TD.lenOwn ho hT1 hT2 hx hl rfl
      .simp at h
     .split at h
      .rename_i hl;cases h;exact TD.lenHole ho hT1 hT2 hx hl rfl
      .simp at h
     .simp at h
    .simp at h
   .simp at h
  .simp at h
 .simp at h
end
def rowX(P:AF)(ops:Array Oper)(i:Nat)(ts:Y (Nat×AV))(hs:Y (Name×AO)):O Row:=match rowA P ops i ts hs with
 |some r=>some r
 |none=>match ops[i]? with
  |none=>none
  |some o=>match o.guard with
   |none=>(QBb P (rdo ts o.op.operands.toList) hs o).map fun x=>(o.dst,QcI (rdo ts o.op.operands.toList) x)
   |some _=>none
def QCm(h:rowX P ops i ts hs=some r):ZP P ops i r.1 r.2:=by
 unfold rowX at h
 split at h
 .rename_i r' hr;cases h;exact QCl hr
 .split at h
  .simp at h
  .rename_i o hi
   split at h
   .rename_i hg;obtain⟨x,hx,rfl⟩:=map_some h;exact ZP.plain hi hg (Qy5 hx)
   .simp at h
def Qqr(P:AF)(ops:Array Oper):Nat->Y Item->Y (Nat×AV)->Y (Name×AO)->O (Y Row)
 |i,[],_,_=>if Nat.beq ops.size i then some []else none
 |i,.m d e::r,ts,hs=>(Qqr P ops (i+1) r (putD d e.v ts) (e.upd++hs)).map fun l=>(d,e)::l
 |i,.a::r,ts,hs=>match rowX P ops i ts hs with
  |none=>none
  |some x=>(Qqr P ops (i+1) r (putD x.1 x.2.v ts) (x.2.upd++hs)).map fun l=>x::l
def Qqs:∀{items:Y Item} {i:Nat} {ts:Y (Nat×AV)} {hs:Y (Name×AO)} {L:Y Row},Qqr P ops i items ts hs=some L->Man P ops i items->Vu P ops i L
 |[],i,ts,hs,L,h,_=>by
  unfold Qqr at h
  split at h
  .rename_i hb;cases h;exact nbe hb
  .simp at h
 |.m d e::r,i,ts,hs,L,h,hm=>by
  unfold Qqr at h
  obtain⟨l,hl,rfl⟩:=map_some h
  exact⟨hm.1,Qqs hl hm.2⟩
 |.a::r,i,ts,hs,L,h,hm=>by
  unfold Qqr at h
  split at h
  .simp at h
  .rename_i x hx
   obtain⟨l,hl,rfl⟩:=map_some h
   exact⟨QCm hx,Qqs hl hm⟩
def Qdd(P:AF)(ops:Array Oper)(items:Y Item)(ts:Y (Nat×AV))(hs:Y (Name×AO)):Y Row:=(Qqr P ops 0 items ts hs).getD []
def Qne(P:AF)(ops:Array Oper)(items:Y Item)(ts:Y (Nat×AV))(hs:Y (Name×AO)):AH:=(Qqr P ops 0 items ts hs).isSome
def Qjz(h:Qne P ops items ts hs=true)(hm:Man P ops 0 items):Vu P ops 0 (Qdd P ops items ts hs):=by
 unfold Qne at h
 unfold Qdd
 cases hr:Qqr P ops 0 items ts hs with
 |none=>rw[hr]at h;simp at h
 |some L=>exact Qqs hr hm
section
variable {P:AF} {Γ:Ctx} {s:AS} {Q:Exit->AS->Prop}
def TJ.xr{id:Nat}(hn:Γ.n=n)(hk:Γ.names=names)(zE)(hm:Man P ops 0 zE)(ts')(hs':Y (Name×AO))(h:TJ P Γ y (mk ts' hs') Q)(hb:Qne P ops zE ts hs=true:=by kernel_rfl)(hf:Qpv n names (Qdd P ops zE ts hs) ts hs ts' hs'=Qpw (Qdd P ops zE ts hs) ts' hs':=by kernel_rfl):
  TJ P Γ (.seq (.region id ops false) y) (mk ts hs) Q:=TJ.s_region hn hk _ (Qjz hb hm) ts' hs' hf h
def TJ.xa{id:Nat}(hn:Γ.n=n)(hk:Γ.names=names)(k)(ts')(hs':Y (Name×AO))(h:TJ P Γ y (mk ts' hs') Q)(hb:Qne P ops (aa k) ts hs=true:=by kernel_rfl)(hf:Qpv n names (Qdd P ops (aa k) ts hs) ts hs ts' hs'=Qpw (Qdd P ops (aa k) ts hs) ts' hs':=by kernel_rfl):
  TJ P Γ (.seq (.region id ops false) y) (mk ts hs) Q:=TJ.xr hn hk (aa k) (Man.aa _ _) ts' hs' h hb hf
def TJ.xa'{id:Nat}(hn:Γ.n=n)(hk:Γ.names=names)(k)(ts')(hs':Y (Name×AO))(h:Q .normal (mk ts' hs'))(hb:Qne P ops (aa k) ts hs=true:=by kernel_rfl)(hf:Qpv n names (Qdd P ops (aa k) ts hs) ts hs ts' hs'=Qpw (Qdd P ops (aa k) ts hs) ts' hs':=by kernel_rfl):
  TJ P Γ (.region id ops false) (mk ts hs) Q:=TJ.region' hn hk _ (Qjz hb (Man.aa _ _)) ts' hs' hf h
def TJ.xd{id:Nat}{ops:Array Oper}{y:Code}{ts:Y (Nat×AV)}{hs:Y (Name×AO)}{n:Nat}{names:Y Name}(hn:Γ.n=n)(hk:Γ.names=names)(zE:Y Item)(hm:Man P ops 0 zE)(ts':Y (Nat×AV))(hs':Y (Name×AO))(h:TJ P Γ y (mk ts' hs') Q)(hmode:P.follows .mixedOrders=true:=by kernel_rfl)(hb:Qne P ops zE ts hs=true:=by kernel_rfl)(hf:Qpv n names (Qdd P ops zE ts hs) ts hs ts' hs'=Qpw (Qdd P ops zE ts hs) ts' hs':=by kernel_rfl)(hind:indep ops (Qdd P ops zE ts hs) ts hs=true:=by kernel_rfl):TJ P Γ (.seq (.region id ops true) y) (mk ts hs) Q:=TJ.s_draw hn hk hmode _ (Qjz hb hm) ts' hs' hf hind h
def TJ.xd'{id:Nat}{ops:Array Oper}{ts:Y (Nat×AV)}{hs:Y (Name×AO)}{n:Nat}{names:Y Name}(hn:Γ.n=n)(hk:Γ.names=names)(zE:Y Item)(hm:Man P ops 0 zE)(ts':Y (Nat×AV))(hs':Y (Name×AO))(h:Q .normal (mk ts' hs'))(hmode:P.follows .mixedOrders=true:=by kernel_rfl)(hb:Qne P ops zE ts hs=true:=by kernel_rfl)(hf:Qpv n names (Qdd P ops zE ts hs) ts hs ts' hs'=Qpw (Qdd P ops zE ts hs) ts' hs':=by kernel_rfl)(hind:indep ops (Qdd P ops zE ts hs) ts hs=true:=by kernel_rfl):TJ P Γ (.region id ops true) (mk ts hs) Q:=TJ.draw' hn hk hmode _ (Qjz hb hm) ts' hs' hf hind h
end
def TJ.nameH(m)(j:Nat){pre post:Y (Y PV)}(hn0:n0∉Γ.names)(h0:C n0 hs=none)(hfree:QBL n0 ts hs=true)(hne:n≠n0)(hm:C m hs=some (.hole es pre row post))(hj:row[j]?=some (.own n len))(h:∀x,TJ P Γ c (mk ts ((n0,.fact (.own n len) x)::hs)) Q):TJ P Γ c (mk ts hs) Q:=
 TJ.nameU hn0 h0 (Qzu hfree) hne (fun ρ M a w hs0=>by
  obtain⟨k0,k0',k1,b,T,cs,k3,k4,k5,k6,k7,k8,k9⟩:=hs0.objs m _ hm
  obtain⟨u,_,_,hr⟩:=k8.get j _ hj
  exact⟨u,hr⟩) h
def Weak.pinH(hmn:m≠n)(hf:C n0 hs=some (.fact (.own n len) x))(ho:C n hs=some o)(hsh:o.shape=some (es,len))(hp:PinL n len x xs ys)(hs':Y (Name×AO))(h0:C m hs=some (.hole es' pre xs post))(h1:∀k,C k hs'=if k=m then some (.hole es' pre ys post)else C k hs):Weak Γ (mk ts hs) (mk ts hs'):=fun ρ M a w h=>by
 have hst:Qdy ρ (mk ts hs).heap ρ (mk ts hs').heap:=fun k ob hk=>by
  change stays ob (ρ k) (C k hs') (ρ k)
  rw[h1]
  split
  .rename_i e;subst e
   have hk':C k hs=some ob:=hk
   rw[h0]at hk';cases hk'
   exact XL (es:=es') (k:=pre.length+1+post.length) rfl rfl (Zi _ _)
  .have hk':C k hs=some ob:=hk
   rw[hk'];exact Zi _ _
 have hnn:∀k,(mk ts hs).heap k=none->(mk ts hs').heap k=none:=fun k hk=>by
  change C k hs'=none
  rw[h1]
  split
  .rename_i e;subst e;change C k hs=none at hk;rw[h0]at hk;cases hk
  .exact hk
 have hconv:∀{v:AV} {u:AE},v.R ρ (mk ts hs).heap M w u->v.R ρ (mk ts hs').heap M w u:=fun hr=>
  hr.step (Ext.refl (fun _=>False) _) (fun _ hb=>hb.elim) (fun b _ hb=>hb) hst (fun k _=>hnn k)
 have hfact:AV.R ρ (mk ts hs).heap M w (.own n len) x:=(h.objs n0 _ hf).2
 have hx:=hfact
 simp only[AV.R]at hx
 have hxe:=(hx.2 o es len ho hsh).2 rfl
 have hpin:∀us,AV.Rs ρ (mk ts hs).heap M w xs us->AV.Rs ρ (mk ts hs').heap M w ys us:=by
  refine PinL.rec (motive_1:=fun v y _=>∀u,v.R ρ (mk ts hs).heap M w u->y.R ρ (mk ts hs').heap M w u) (motive_2:=fun vs ys _=>∀us,AV.Rs ρ (mk ts hs).heap M w vs us->AV.Rs ρ (mk ts hs').heap M w ys us) ?_ ?_ ?_ ?_ ?_ ?_ hp
  .omega
  .intro u hr
   simp only[AV.R]at hr
   have hu:=(hr.2 o es len ho hsh).2 rfl
   simp only[AV.R,PV.R]
   simp_all
  .intro u hr
   simp only[AV.R,PV.R]at hr
   simp_all
  .intro xs ys _ ih u hr
   simp only[AV.R]at hr |-
   grind
  .intro us hr;simp only[AV.Rs]at hr |-;exact hr
  .intro a b as1 bs _ _ ih1 ih2 us hr
   simp only[AV.Rs]at hr |-
   grind
 refine⟨ρ,M,Qzl h (fun t y hy=>⟨y,hy,fun u hr=>hconv hr⟩) (fun k y hy=>?_) (fun k v hv=>?_)⟩
 .change C k hs'=some y at hy
  rw[h1]at hy
  split at hy
  .rename_i e;subst e;cases hy
   refine⟨_,h0,fun hob=>?_⟩
   obtain⟨k0,k0',k1,b,T,cs,k3,k4,k5,k6,k7,k8,k9⟩:=hob
   have hlen:xs.length=ys.length:=by
    have:=PinL.rec (motive_1:=fun _ _ (_:Pin n len x _ _)=>True) (motive_2:=fun vs ys _=>vs.length=ys.length) (by intros;trivial) (by trivial) (by trivial) (by intros;trivial) rfl (by intros;simp_all) hp
    exact this
   exact⟨k0,by rw[<-hlen];exact k0',k1,b,T,cs,k3,k4,k5,k6,k7,hpin _ k8,k9⟩
  .refine⟨y,hy,fun hob=>?_⟩
   exact U5.step (Ext.refl (fun _=>False) _) (fun _ hb=>hb.elim) (fun b _ hb=>hb) (fun b hb=>hb) hst (fun k _=>hnn k) rfl (fun _ _=>rfl) h.msize hob
 .change C k hs=some v at hv
  by_cases e:k=m
  .subst e
   rw[h0]at hv;cases hv
   exact⟨_,(by change C k hs'=_;rw[h1,iB rfl]),fun o l hst=>XL (es:=es') (k:=pre.length+1+post.length) rfl rfl hst⟩
  .exact⟨v,(by change C k hs'=_;rw[h1,iA e];exact hv),fun o l hst=>hst⟩
def TsLe.refl:∀ts:Y (Nat×AV),TsLe ts ts
 |[]=>trivial
 |(_,x)::r=>⟨rfl,.refl x,TsLe.refl r⟩
def HsLe.refl:∀hs:Y (Name×AO),HsLe hs hs
 |[]=>trivial
 |(_,x)::r=>⟨rfl,.refl x,HsLe.refl r⟩
def QjH.refl:∀{ts:Y (Nat×AV)},ts.all (fun p=>!p.2.has n)=true->QjH px n es rows ts ts
 |[],_=>trivial
 |(_,x)::r,h=>by
  simp only[BW,bae,BI]at h
  exact⟨rfl,.same h.1,QjH.refl h.2⟩
def QjG.refl:∀{hs:Y (Name×AO)},hs.all (fun p=>!p.2.has n && !Nat.beq p.1 n)=true->QjG px n es rows hs hs
 |[],_=>trivial
 |(_,x)::r,h=>by
  simp only[BW,bae,BI]at h
  exact⟨rfl,fun e=>by have:=h.1.2;subst e;simp at this,.same h.1.1,QjG.refl h.2⟩
section
variable {P:AF} {Γ:Ctx} {c:Code} {Q:Exit->AS->Prop} {ts:Y (Nat×AV)} {hs:Y (Name×AO)} {n n0 m:Name} {es es':Nat} {rows pre post:Y (Y PV)} {x:AE} {o o':AO}
def TJ.foc(pre post)(r)(hr:rows=pre++r::post)(h:TJ P Γ c (mk ts ((m,.hole es pre (r.map .p) post)::hs)) Q):TJ P Γ c (mk ts ((m,.TI es rows)::hs)) Q:=
 TJ.weaken (mk ts ((m,.hole es pre (r.map .p) post)::hs)) (Weak.le (TsLe.refl _) ⟨rfl,.focus hr rfl,HsLe.refl _⟩) h
def TJ.unf(r)(hrow:row=r.map .p)(h:TJ P Γ c (mk ts ((m,.TI es (pre++r::post))::hs)) Q):TJ P Γ c (mk ts ((m,.hole es pre row post)::hs)) Q:=
 TJ.weaken (mk ts ((m,.TI es (pre++r::post))::hs)) (Weak.le (TsLe.refl _) ⟨rfl,.unfocus rfl hrow,HsLe.refl _⟩) h
def TJ.frz(hk:Γ.names=[])(hb:(ts.all (fun p=>!p.2.has n) && (hs.all (fun p=>!p.2.has n && !Nat.beq p.1 n) && !Nat.beq m n))=true)(ho:OFrz (fun _=>False) n es rows o o')(h:TJ P Γ c (mk ts ((m,o')::hs)) Q):
  TJ P Γ c (mk ts ((n,.TI es rows)::(m,o)::hs)) Q:=by
 simp only[bae,BI]at hb
 exact TJ.weaken (mk ts ((m,o')::hs)) (Weak.freeze (by rw[hk];exact BH) (QjH.refl hb.1) ⟨rfl,fun e=>by have:=hb.2.2;subst e;simp at this,ho,QjG.refl hb.2.1⟩) h
def TJ.frzP(hk:Γ.names=[])(hb:(ts.all (fun p=>!p.2.has n) && (hs.all (fun p=>!p.2.has n && !Nat.beq p.1 n) && (!Nat.beq m n && (!Nat.beq n n0 && (C n0 ((m,o)::hs)).isNone))))=true)(ho:OFrz (fun y=>y=x) n es rows o o')(h:TJ P Γ c (mk ts ((m,o')::hs)) Q):
  TJ P Γ c (mk ts ((n,.TI es rows)::(n0,.fact (.own n rows.length) x)::(m,o)::hs)) Q:=by
 simp only[bae,BI,Bi]at hb
 exact TJ.weaken (mk ts ((m,o')::hs)) (Weak.freezeP (by rw[hk];exact BH) (by rw[hk];exact BH) (fun e=>by have:=hb.2.2.2.1;subst e;simp at this) hb.2.2.2.2 (QjH.refl hb.1) ⟨rfl,fun e=>by have:=hb.2.2.1;subst e;simp at this,ho,QjG.refl hb.2.1⟩) h
def TJ.pinH(hb:(!Nat.beq m n && (!Nat.beq m n0 && !Nat.beq n0 n))=true)(ho:C n hs=some o)(hsh:o.shape=some (es',len))(hp:PinL n len x row row')(h:TJ P Γ c (mk ts ((n0,.fact (.own n len) x)::(m,.hole es pre row' post)::hs)) Q):TJ P Γ c (mk ts ((n0,.fact (.own n len) x)::(m,.hole es pre row post)::hs)) Q:=by
 simp only[bae,BI]at hb
 have e1:m≠n:=fun e=>by have:=hb.1;subst e;simp at this
 have e2:n0≠m:=fun e=>by have:=hb.2.1;subst e;simp at this
 have e3:n0≠n:=fun e=>by have:=hb.2.2;subst e;simp at this
 refine TJ.weaken (mk ts ((n0,.fact (.own n len) x)::(m,.hole es pre row' post)::hs)) (Weak.pinH (n:=n) (n0:=n0) (m:=m) (x:=x) (len:=len) (es:=es') (es':=es) (pre:=pre) (post:=post) (o:=o) e1 (by simp[C]) (by simp[C,e3,e1,ho]) hsh hp _ (by simp[C,e2]) fun k=>?_) h
 simp only[C]
 grind
end
def sk:Nat->Y Item->Y Item
 |0,r=>r
 |n+1,r=>.a::sk n r
def Man.sk:∀{n i:Nat} {r:Y Item},Man P ops (i+n) r->Man P ops i (AM.sk n r)
 |0,_,_,h=>h
 |n+1,i,r,h=>Man.sk (n:=n) (i:=i+1) (by rw[B5,ED 1 n];exact h)
def Man.m(h:ZP P ops i d e)(h':Man P ops (i+1) r):Man P ops i (.m d e::r):=⟨h,h'⟩
def clI(d s:Nat)(nm:Name)(t:TC)(l:Y (TT t)):Item:=.m (some d) ⟨[(s,.p (.sl false (tz t) (l.map (tcells t))))],[],.own nm (l.map (tcells t)).length,[(nm,.TI (tz t) (l.map (tcells t)))],[nm]⟩
def Qb7(P:AF)(k:FuncId)(t:TC)(l:Y (TT t)):Prop:=∀nm:Name,nm<10000000000->WG P k [.p (.sl false (tz t) (l.map (tcells t)))] [] (.own nm (l.map (tcells t)).length) [(nm,.TI (tz t) (l.map (tcells t)))]
def QaQ{P:AF}{ops:Array Oper}{i d s:Nat}{nm:Name}{t:TC}{l:Y (TT t)}{k:FuncId}{o:Oper}{ats:Array AD}(h:Qb7 P k t l)(hnm:Nat.blt nm 10000000000=true)(hi:ops[i]?=some o)(hd:o.dst=some d)(hg:o.guard=none)(ho:o.op=.call { callee:=.value (.func k),args:=#[.tmp s],argTypes:=ats })(hc:callable P k=true):
  ZP P ops i (some d) ⟨[(s,.p (.sl false (tz t) (l.map (tcells t))))],[],.own nm (l.map (tcells t)).length,[(nm,.TI (tz t) (l.map (tcells t)))],[nm]⟩:=
 ZP.p hi hd hg (TD.call ho hc (by simp[Qhi,Qi,C]) (h nm (by simpa [EL]using hnm)) (by simp[Qfw,keys,AV.closed,AO.closed]))
def QlU(hs:WG P k args pre v h)(hi:ops[i]?=some o)(hd:o.dst=some d)(hg:o.guard=none)(ho:o.op=.call { callee:=.value (.func k),args:=argOps,argTypes:=ats })(hc:callable P k=true)(ha:Qhi rd argOps.toList=some args)(hok:Qfw pre h nw v=true):ZP P ops i (some d) ⟨rd,pre,v,h,nw⟩:=ZP.p hi hd hg (TD.call ho hc ha hs hok)
def Vh{F:Y (TT t)->O (Y (TT t))}(h:FnOK P k (Ql [.one (.TQ t)] [] [.one (.own 1007)] [(1007,.TI t)] [] (Y (TT t)) (fun q=>((),(q,()))) (fun x y=>F x.1))){l:Y (TT t)}(hl:F l=some l):Qb7 P k t l:=by
 intro nm hnm
 obtain⟨L1,_,hinv,hs⟩:=h.spec (l,()) () () (l,()) (by show V (F l) _=_;rw[hl];rfl) (fun _ _=>0) (fun n t l v hn=>by change C n []=_ at hn;simp[C]at hn)
 have e1:L1 1007 1=(l.map (tcells t)).length:=by rw[AZ];exact hinv 1007 t l 1 rfl
 have hσ:∀a b:Name,(if a=1007 then nm else a+10000000000)=(if b=1007 then nm else b+10000000000)->a=b:=fun a b e=>by
  grind
 have h1:=Spec.ren (σ:=fun a:Name=>if a=1007 then nm else a+10000000000) hσ hs
 have h2:WG P k [.p (.sl false (tz t) (l.map (tcells t)))] [] (.own (if (1007:Name)=1007 then nm else 1007+10000000000) (L1 1007 1)) [(if (1007:Name)=1007 then nm else 1007+10000000000,.TI (tz t) (l.map (tcells t)))]:=h1
 grind
end Go.Proofs.YtlllfgmajglnhaaGreat.AM
namespace Go.Proofs.YtlllfgmajglnhaaGreat
open Go AM
def clone0{α:Type}[AL α]{l:Y α}(h:l.length<=34359738368):TR l (TU (some []) (TO l.length 34359738368 (some l))) (TO l.length 34359738368 (some l))=some l:=by
 cases l<;>simp[TR,TU,TO]at h |-
 exact h
abbrev nl:AV:=.p (.sl true 0 [])
abbrev sl0(es:Nat)(rows:Y (Y PV)):AV:=.p (.sl false es rows)
abbrev own(n k:Nat):AV:=.own n k
abbrev schR(n:AJ)(l:D.v)(e:Y D.p):Y PV:=[.v (.string n),.sl false 10 [D.v.cells l],.sl false 5 (e.map D.p.cells)]
structure Qoa (fu:Nat) (z:D.q) (ps:Y D.Q) (la lb:D.v) (ea eb:Y D.p):Prop where
 rules:z.Fm.length<=1000000
 quiet:∀p∈ps,p.Fg.length<=1000000
 lam:la.t.length<=1000000
 law:la.Fk.length<=1000000
 lbm:lb.t.length<=1000000
 lbw:lb.Fk.length<=1000000
 ea:ea.length<=1000000
 eb:eb.length<=1000000
section
variable {fu:Nat} {z:D.q} {p1 p2 p3 p4:D.Q} {na nb:AJ} {la lb:D.v} {ea eb:Y D.p}
abbrev cfgA(z:D.q)(p1 p2 p3 p4:D.Q)(na nb:AJ)(la lb:D.v)(ea eb:Y D.p):Y AV:=
 [sl0 3 [D.q.cells z],sl0 6 [D.Q.cells p1,D.Q.cells p2,D.Q.cells p3,D.Q.cells p4],sl0 3 [],sl0 3 [schR na la ea,schR nb lb eb]]
abbrev boxC:AO:=.box [own 2011 1,own 2014 4,own 2017 0,own 2020 2]
abbrev box0:AO:=.box [nl,nl,nl,nl]
def Qro(h:Qoa fu z [p1,p2,p3,p4] la lb ea eb)(r:AH)(h':Y (Name×AO))(hh:h'=bif r then[(2011,.TI 3 [D.q.cells z]),(2014,.TI 6 [D.Q.cells p1,D.Q.cells p2,D.Q.cells p3,D.Q.cells p4]),(2017,.TI 3 []),(2020,.hole 3 [schR na la ea] [.p (.v (.string nb)),sl0 10 [D.v.cells lb],own 3001 (eb.map (tcells .p)).length] []),(3001,.TI 5 (eb.map (tcells .p)))]
   else[(2011,.TI 3 [D.q.cells z]),(2014,.TI 6 [D.Q.cells p1,D.Q.cells p2,D.Q.cells p3,D.Q.cells p4]),(2017,.TI 3 []),(2020,.hole 3 [] [.p (.v (.string na)),sl0 10 [D.v.cells la],own 3000 (ea.map (tcells .p)).length] [schR nb lb eb]),(3000,.TI 5 (ea.map (tcells .p)))]):
  WG Tryz.prog 357 [.agg (cfgA z p1 p2 p3 p4 na nb la lb ea eb)] [] (.agg [own 2011 1,own 2014 4,own 2017 0,own 2020 2]) h':=by
 have cZ:∀l:Y D.q,l.length<=1000000->Qb7 Tryz.prog 267 .q l:=fun l hl=>Vh (t:=.q) (F:=X2 fu) (Qbw fu) (clone0 (α:=D.q) (AX hl (by decide)))
 have cY:∀l:Y D.FG,l.length<=1000000->Qb7 Tryz.prog 268 .FG l:=fun l hl=>Vh (t:=.FG) (F:=Xx fu) (Uj fu) (clone0 (α:=D.FG) (AX hl (by decide)))
 have cP:∀l:Y D.Q,l.length<=1000000->Qb7 Tryz.prog 269 .Q l:=fun l hl=>Vh (t:=.Q) (F:=Y3 fu) (Qad fu) (clone0 (α:=D.Q) (AX hl (by decide)))
 have cC:∀l:Y D.m,l.length<=1000000->Qb7 Tryz.prog 271 .m l:=fun l hl=>Vh (t:=.m) (F:=Vf fu) (Uh fu) (clone0 (α:=D.m) (AX hl (by decide)))
 have cS:∀l:Y D.c,l.length<=1000000->Qb7 Tryz.prog 272 .c l:=fun l hl=>Vh (t:=.c) (F:=Yw fu) (Ui fu) (clone0 (α:=D.c) (AX hl (by decide)))
 have cW:∀l:Y D.E9,l.length<=1000000->Qb7 Tryz.prog 270 .E9 l:=fun l hl=>Vh (t:=.E9) (F:=Ym fu) (WD fu) (clone0 (α:=D.E9) (AX hl (by decide)))
 have cL:∀l:Y D.v,l.length<=1000000->Qb7 Tryz.prog 327 .v l:=fun l hl=>Vh (t:=.v) (F:=Xv fu) (Qa9 fu) (clone0 (α:=D.v) (AX hl (by decide)))
 have cE:∀l:Y D.p,l.length<=1000000->Qb7 Tryz.prog 275 .p l:=fun l hl=>Vh (t:=.p) (F:=X1 fu) (Qbv fu) (clone0 (α:=D.p) (AX hl (by decide)))
 have cI:∀l:Y Int,l.length<=1000000->Qb7 Tryz.prog 198 .int l:=fun l hl=>Vh (t:=.int) (F:=Qu fu) (QQ fu) (clone0 (α:=Int) (AX hl (by decide)))
 refine Spec.intro Tryz.func357 rfl (by kernel_rfl) ?_
 intro Γ hGn hGk
 replace hGn:Γ.n=_:=hGn
 replace hGk:Γ.names=[]:=hGk
 refine TJ.xa hGn hGk 2 [(1,.TN 1001 0),(2,.TN 1002 0)] [(1001,.box (cfgA z p1 p2 p3 p4 na nb la lb ea eb)),(1002,box0)] ?_
 refine TJ.xd hGn hGk [.a,.a,clI 11 10 2011 .q [z],.a,.a,clI 14 13 2014 .Q [p1,p2,p3,p4],.a,.a,clI 17 16 2017 .m [],.a,.a,clI 20 19 2020 .c [⟨na,[la],ea⟩,⟨nb,[lb],eb⟩],.a,.a,.a,.a,.a,.a,.a,.a]
  ⟨QaQ (cZ _ Ob) rfl rfl rfl rfl rfl (by kernel_rfl),QaQ (cP _ Ob) rfl rfl rfl rfl rfl (by kernel_rfl),QaQ (cC _ Ob) rfl rfl rfl rfl rfl (by kernel_rfl),QaQ (cS _ Ob) rfl rfl rfl rfl rfl (by kernel_rfl),trivial⟩
  [(1,.TN 1001 0),(2,.TN 1002 0)] [(2011,.TI 3 [D.q.cells z]),(2014,.TI 6 [D.Q.cells p1,D.Q.cells p2,D.Q.cells p3,D.Q.cells p4]),(2017,.TI 3 []),(2020,.TI 3 [schR na la ea,schR nb lb eb]),(1001,boxC),(1002,box0)] ?_
 let hZ:Name×AO:=(2011,.TI 3 [D.q.cells z])
 let hP:Name×AO:=(2014,.TI 6 [D.Q.cells p1,D.Q.cells p2,D.Q.cells p3,D.Q.cells p4])
 let hC:Name×AO:=(2017,.TI 3 [])
 let hS:Name×AO:=(2020,.TI 3 [schR na la ea,schR nb lb eb])
 let hB:Name×AO:=(1001,boxC)
 let hO:Name×AO:=(1002,box0)
 let a1:Nat×AV:=(1,.TN 1001 0)
 let a2:Nat×AV:=(2,.TN 1002 0)
 let o1:Name×AO:=(2098,.TI 10 [D.v.cells lb])
 let o2:Name×AO:=(3000,.TI 5 (ea.map (tcells .p)))
 let o3:Name×AO:=(3001,.TI 5 (eb.map (tcells .p)))
 let o4:Name×AO:=(2143,.TI 2 (la.Fk.map (tcells .E9)))
 let o5:Name×AO:=(2143,.TI 2 (lb.Fk.map (tcells .E9)))
 let o6:AE->Name×AO:=fun x0=>(3100,.fact (own 3000 (ea.map (tcells .p)).length) x0)
 let o7:AE->Name×AO:=fun x1=>(3101,.fact (own 3001 (eb.map (tcells .p)).length) x1)
 let o8:AE->Name×AO:=fun x0=>(2020,.TI 3 [[.v (.string na),.sl false 10 [D.v.cells la],.v x0],schR nb lb eb])
 let o9:AE->Name×AO:=fun x0=>(2020,.hole 3 [] [.p (.v (.string na)),sl0 10 [D.v.cells la],.p (.v x0)] [schR nb lb eb])
 let o10:Name×AO:=(2020,.hole 3 [] [.p (.v (.string na)),own 2098 1,own 3000 (ea.map (tcells .p)).length] [schR nb lb eb])
 let o11:AE->AE->Name×AO:=fun x0 x1=>(2020,.TI 3 [[.v (.string na),.sl false 10 [D.v.cells la],.v x0],[.v (.string nb),.sl false 10 [D.v.cells lb],.v x1]])
 let o12:AE->AE->Name×AO:=fun x0 x1=>(2020,.hole 3 [[.v (.string na),.sl false 10 [D.v.cells la],.v x0]] [.p (.v (.string nb)),sl0 10 [D.v.cells lb],.p (.v x1)] [])
 let o13:AE->Name×AO:=fun x0=>(2020,.hole 3 [[.v (.string na),.sl false 10 [D.v.cells la],.v x0]] [.p (.v (.string nb)),own 2098 1,own 3001 (eb.map (tcells .p)).length] [])
 let s1:Y (Nat×AV):=[a1,a2,(84,vI 2),(85,vI 0),(7,.aref 2020 2 0 0)]
 let s2:Y (Nat×AV):=[a1,a2,(84,vI 2),(85,vI 1),(7,.aref 2020 2 1 0)]
 let s3:Y (Name×AO):=[(2020,.TI 3 [schR na la ea,schR nb lb eb]),hZ,hP,hC,hB,hO]
 let s4:Y (Nat×AV):=[a1,a2,(84,vI 2),(85,vI 0),(7,.aref 2020 2 0 0),(112,vI 1),(113,vI 0)]
 let s5:Y (Nat×AV):=[a1,a2,(84,vI 2),(85,vI 1),(7,.aref 2020 2 1 0),(112,vI 1),(113,vI 0)]
 let s6:Y (Name×AO):=[(2098,.TI 10 [D.v.cells la]),o10,hZ,hP,hC,hB,hO,o2]
 refine TJ.seq (TJ.seq ?_)
 refine TJ.xa' hGn hGk 4 [a1,a2,(27,vI 1),(28,vI 0)] [hZ,hP,hC,hS,hB,hO] ?_
 refine Qh (TJ.block ?_)
 refine TJ.loop (fun m s=>∃i:Nat,i+m=1/\s=mk [a1,a2,(27,vI 1),(28,vI (i:Int))] [hZ,hP,hC,hS,hB,hO]) ⟨1,0,rfl,rfl⟩ ?_
 rintro m s ⟨i,hi,rfl⟩
 have hc:i=0\/i=1:=U
 rcases hc with rfl|rfl
 .skip
  refine TJ.xa hGn hGk 1 [a1,a2,(27,vI 1),(28,vI 0),(29,vB true)] [hZ,hP,hC,hS,hB,hO] ?_
  refine TJ.seq (TJ.cond_true rfl (TJ.skip (Qh ?_)))
  refine TJ.seq (TJ.block ?_)
  refine TJ.xa hGn hGk 2 [a1,a2,(27,vI 1),(28,vI 0),(3,vI 0)] [hZ,hP,hC,hS,hB,hO] ?_
  refine TJ.foc [] [] (D.q.cells z) rfl ?_
  refine TJ.xd' hGn hGk (sk 9 (clI 40 39 2040 .FG z.Fm::aa 3)) (.sk (.m (QaQ (cY _ h.rules) rfl rfl rfl rfl rfl (by kernel_rfl)) (Man.aa _ _)))
   [a1,a2,(27,vI 1),(28,vI 0)] [(2040,.TI 7 (z.Fm.map (tcells .FG))),(2011,.hole 3 [] [.p (.v (.string z.Name)),.p (.v (.int .i64 z.FT)),own 2040 (z.Fm.map (tcells .FG)).length] []),hP,hC,hS,hB,hO] ?_
  refine YK (Qh ?_)
  refine TJ.frz hGk rfl (.hole (.cons (.same rfl) (.cons (.same rfl) (.cons .own .nil)))) ?_
  refine TJ.unf (D.q.cells z) rfl ?_
  refine TJ.xa' hGn hGk 2 [a1,a2,(27,vI 1),(28,vI 1)] [hZ,hP,hC,hS,hB,hO] ?_
  exact Qh ⟨0,U,1,rfl,rfl⟩
 refine TJ.xa hGn hGk 1 [a1,a2,(29,vB false)] [hZ,hP,hC,hS,hB,hO] ?_
 refine TJ.seq (TJ.cond_false rfl (TJ.exit ?_))
 refine Xi (Xi (Qaj (Qh ?_)))
 refine TJ.seq (TJ.seq ?_)
 refine TJ.xa' hGn hGk 4 [a1,a2,(46,vI 4),(47,vI 0)] [hP,hZ,hC,hS,hB,hO] ?_
 refine Qh (TJ.block ?_)
 refine TJ.loop (fun m s=>∃i:Nat,i+m=4/\s=mk [a1,a2,(46,vI 4),(47,vI (i:Int))] [hP,hZ,hC,hS,hB,hO]) ⟨4,0,rfl,rfl⟩ ?_
 rintro m s ⟨i,hi,rfl⟩
 have hc:i=0\/i=1\/i=2\/i=3\/i=4:=U
 rcases hc with rfl|rfl|rfl|rfl|rfl
 .skip
  refine TJ.xa hGn hGk 1 [a1,a2,(46,vI 4),(47,vI 0),(48,vB true)] [hP,hZ,hC,hS,hB,hO] ?_
  refine TJ.seq (TJ.cond_true rfl (TJ.skip (Qh ?_)))
  refine TJ.seq (TJ.block ?_)
  refine TJ.xa hGn hGk 2 [a1,a2,(46,vI 4),(47,vI 0),(4,vI 0)] [hP,hZ,hC,hS,hB,hO] ?_
  refine TJ.foc [] [D.Q.cells p2,D.Q.cells p3,D.Q.cells p4] (D.Q.cells p1) rfl ?_
  refine TJ.xd' hGn hGk (sk 9 (clI 59 58 2059 .E9 p1.Fg::aa 3)) (.sk (.m (QaQ (cW _ (h.quiet _ Ob)) rfl rfl rfl rfl rfl (by kernel_rfl)) (Man.aa _ _)))
   [a1,a2,(46,vI 4),(47,vI 0)] [(2059,.TI 2 (p1.Fg.map (tcells .E9))),(2014,.hole 6 [] [.p (.v (.string p1.Name)),.p (.v (.int .i64 p1.q)),own 2059 (p1.Fg.map (tcells .E9)).length,.p (.v (.int .i64 p1.Fx)),.p (.v (.int .i64 p1.Fy)),.p (.v (.bool p1.Ft))] [D.Q.cells p2,D.Q.cells p3,D.Q.cells p4]),hZ,hC,hS,hB,hO] ?_
  refine YK (Qh ?_)
  refine TJ.frz hGk rfl (.hole (.cons (.same rfl) (.cons (.same rfl) (.cons .own (.cons (.same rfl) (.cons (.same rfl) (.cons (.same rfl) .nil))))))) ?_
  refine TJ.unf (D.Q.cells p1) rfl ?_
  refine TJ.xa' hGn hGk 2 [a1,a2,(46,vI 4),(47,vI 1)] [hP,hZ,hC,hS,hB,hO] ?_
  exact Qh ⟨3,U,1,rfl,rfl⟩
 .skip
  refine TJ.xa hGn hGk 1 [a1,a2,(46,vI 4),(47,vI 1),(48,vB true)] [hP,hZ,hC,hS,hB,hO] ?_
  refine TJ.seq (TJ.cond_true rfl (TJ.skip (Qh ?_)))
  refine TJ.seq (TJ.block ?_)
  refine TJ.xa hGn hGk 2 [a1,a2,(46,vI 4),(47,vI 1),(4,vI 1)] [hP,hZ,hC,hS,hB,hO] ?_
  refine TJ.foc [D.Q.cells p1] [D.Q.cells p3,D.Q.cells p4] (D.Q.cells p2) rfl ?_
  refine TJ.xd' hGn hGk (sk 9 (clI 59 58 2059 .E9 p2.Fg::aa 3)) (.sk (.m (QaQ (cW _ (h.quiet _ Ob)) rfl rfl rfl rfl rfl (by kernel_rfl)) (Man.aa _ _)))
   [a1,a2,(46,vI 4),(47,vI 1)] [(2059,.TI 2 (p2.Fg.map (tcells .E9))),(2014,.hole 6 [D.Q.cells p1] [.p (.v (.string p2.Name)),.p (.v (.int .i64 p2.q)),own 2059 (p2.Fg.map (tcells .E9)).length,.p (.v (.int .i64 p2.Fx)),.p (.v (.int .i64 p2.Fy)),.p (.v (.bool p2.Ft))] [D.Q.cells p3,D.Q.cells p4]),hZ,hC,hS,hB,hO] ?_
  refine YK (Qh ?_)
  refine TJ.frz hGk rfl (.hole (.cons (.same rfl) (.cons (.same rfl) (.cons .own (.cons (.same rfl) (.cons (.same rfl) (.cons (.same rfl) .nil))))))) ?_
  refine TJ.unf (D.Q.cells p2) rfl ?_
  refine TJ.xa' hGn hGk 2 [a1,a2,(46,vI 4),(47,vI 2)] [hP,hZ,hC,hS,hB,hO] ?_
  exact Qh ⟨2,U,2,rfl,rfl⟩
 .skip
  refine TJ.xa hGn hGk 1 [a1,a2,(46,vI 4),(47,vI 2),(48,vB true)] [hP,hZ,hC,hS,hB,hO] ?_
  refine TJ.seq (TJ.cond_true rfl (TJ.skip (Qh ?_)))
  refine TJ.seq (TJ.block ?_)
  refine TJ.xa hGn hGk 2 [a1,a2,(46,vI 4),(47,vI 2),(4,vI 2)] [hP,hZ,hC,hS,hB,hO] ?_
  refine TJ.foc [D.Q.cells p1,D.Q.cells p2] [D.Q.cells p4] (D.Q.cells p3) rfl ?_
  refine TJ.xd' hGn hGk (sk 9 (clI 59 58 2059 .E9 p3.Fg::aa 3)) (.sk (.m (QaQ (cW _ (h.quiet _ Ob)) rfl rfl rfl rfl rfl (by kernel_rfl)) (Man.aa _ _)))
   [a1,a2,(46,vI 4),(47,vI 2)] [(2059,.TI 2 (p3.Fg.map (tcells .E9))),(2014,.hole 6 [D.Q.cells p1,D.Q.cells p2] [.p (.v (.string p3.Name)),.p (.v (.int .i64 p3.q)),own 2059 (p3.Fg.map (tcells .E9)).length,.p (.v (.int .i64 p3.Fx)),.p (.v (.int .i64 p3.Fy)),.p (.v (.bool p3.Ft))] [D.Q.cells p4]),hZ,hC,hS,hB,hO] ?_
  refine YK (Qh ?_)
  refine TJ.frz hGk rfl (.hole (.cons (.same rfl) (.cons (.same rfl) (.cons .own (.cons (.same rfl) (.cons (.same rfl) (.cons (.same rfl) .nil))))))) ?_
  refine TJ.unf (D.Q.cells p3) rfl ?_
  refine TJ.xa' hGn hGk 2 [a1,a2,(46,vI 4),(47,vI 3)] [hP,hZ,hC,hS,hB,hO] ?_
  exact Qh ⟨1,U,3,rfl,rfl⟩
 .skip
  refine TJ.xa hGn hGk 1 [a1,a2,(46,vI 4),(47,vI 3),(48,vB true)] [hP,hZ,hC,hS,hB,hO] ?_
  refine TJ.seq (TJ.cond_true rfl (TJ.skip (Qh ?_)))
  refine TJ.seq (TJ.block ?_)
  refine TJ.xa hGn hGk 2 [a1,a2,(46,vI 4),(47,vI 3),(4,vI 3)] [hP,hZ,hC,hS,hB,hO] ?_
  refine TJ.foc [D.Q.cells p1,D.Q.cells p2,D.Q.cells p3] [] (D.Q.cells p4) rfl ?_
  refine TJ.xd' hGn hGk (sk 9 (clI 59 58 2059 .E9 p4.Fg::aa 3)) (.sk (.m (QaQ (cW _ (h.quiet _ Ob)) rfl rfl rfl rfl rfl (by kernel_rfl)) (Man.aa _ _)))
   [a1,a2,(46,vI 4),(47,vI 3)] [(2059,.TI 2 (p4.Fg.map (tcells .E9))),(2014,.hole 6 [D.Q.cells p1,D.Q.cells p2,D.Q.cells p3] [.p (.v (.string p4.Name)),.p (.v (.int .i64 p4.q)),own 2059 (p4.Fg.map (tcells .E9)).length,.p (.v (.int .i64 p4.Fx)),.p (.v (.int .i64 p4.Fy)),.p (.v (.bool p4.Ft))] []),hZ,hC,hS,hB,hO] ?_
  refine YK (Qh ?_)
  refine TJ.frz hGk rfl (.hole (.cons (.same rfl) (.cons (.same rfl) (.cons .own (.cons (.same rfl) (.cons (.same rfl) (.cons (.same rfl) .nil))))))) ?_
  refine TJ.unf (D.Q.cells p4) rfl ?_
  refine TJ.xa' hGn hGk 2 [a1,a2,(46,vI 4),(47,vI 4)] [hP,hZ,hC,hS,hB,hO] ?_
  exact Qh ⟨0,U,4,rfl,rfl⟩
 refine TJ.xa hGn hGk 1 [a1,a2,(48,vB false)] [hP,hZ,hC,hS,hB,hO] ?_
 refine TJ.seq (TJ.cond_false rfl (TJ.exit ?_))
 refine Xi (Xi (Qaj (Qh ?_)))
 refine TJ.seq (TJ.seq ?_)
 refine TJ.xa' hGn hGk 4 [a1,a2,(65,vI 0),(66,vI 0)] [hZ,hP,hC,hS,hB,hO] ?_
 refine Qh (TJ.block ?_)
 refine TJ.loop (fun m s=>∃i:Nat,i+m=0/\s=mk [a1,a2,(65,vI 0),(66,vI (i:Int))] [hZ,hP,hC,hS,hB,hO]) ⟨0,0,rfl,rfl⟩ ?_
 rintro m s ⟨i,hi,rfl⟩
 obtain rfl:i=0:=U
 refine TJ.xa hGn hGk 1 [a1,a2,(67,vB false)] [hZ,hP,hC,hS,hB,hO] ?_
 refine TJ.seq (TJ.cond_false rfl (TJ.exit ?_))
 refine Xi (Xi (Qaj (Qh ?_)))
 refine TJ.seq (TJ.seq ?_)
 refine TJ.xa' hGn hGk 4 [a1,a2,(84,vI 2),(85,vI 0)] s3 ?_
 refine Qh (TJ.block ?_)
 refine TJ.loop (fun m s=>(m=2/\s=mk [a1,a2,(84,vI 2),(85,vI 0)] s3)\/(∃x0:AE,m=1/\s=mk [a1,a2,(84,vI 2),(85,vI 1)] [(o8 x0),hZ,hP,hC,hB,hO,(o6 x0),o2])\/(∃x0 x1:AE,m=0/\s=mk [a1,a2,(84,vI 2),(85,vI 2)] [(o11 x0 x1),hZ,hP,hC,hB,hO,(o6 x0),o2,(o7 x1),o3])) ⟨2,.inl ⟨rfl,rfl⟩⟩ ?_
 rintro m s (⟨rfl,rfl⟩|⟨x0,rfl,rfl⟩|⟨x0,x1,rfl,rfl⟩)
 .skip
  refine TJ.xa hGn hGk 1 [a1,a2,(84,vI 2),(85,vI 0),(86,vB true)] s3 ?_
  refine TJ.seq (TJ.cond_true rfl (TJ.skip (Qh ?_)))
  refine TJ.seq (TJ.block ?_)
  refine TJ.xa hGn hGk 2 [a1,a2,(84,vI 2),(85,vI 0),(6,vI 0)] s3 ?_
  refine TJ.foc [] [schR nb lb eb] (schR na la ea) rfl ?_
  refine TJ.xa hGn hGk 5 s1 [(2020,.hole 3 [] [.p (.v (.string na)),sl0 10 [D.v.cells la],sl0 5 (ea.map D.p.cells)] [schR nb lb eb]),hZ,hP,hC,hB,hO] ?_
  refine TJ.xd hGn hGk (sk 6 (clI 98 97 2098 .v [la]::sk 4 (clI 103 102 3000 .p ea::aa 6))) (.sk (.m (QaQ (cL _ Ob) rfl rfl rfl rfl rfl (by kernel_rfl)) (.sk (.m (QaQ (cE _ h.ea) rfl rfl rfl rfl rfl (by kernel_rfl)) (Man.aa _ _)))))
   s1 s6 ?_
  refine TJ.xa hGn hGk 6 s4 s6 ?_
  refine TJ.block ?_
  refine TJ.loop (fun m s=>∃j:Nat,j+m=1/\s=mk [a1,a2,(84,vI 2),(85,vI 0),(7,.aref 2020 2 0 0),(112,vI 1),(113,vI (j:Int))] s6) ⟨1,0,rfl,rfl⟩ ?_
  rintro m s ⟨j,hj,rfl⟩
  have hc:j=0\/j=1:=U
  rcases hc with rfl|rfl
  .skip
   refine TJ.xa hGn hGk 1 [a1,a2,(84,vI 2),(85,vI 0),(7,.aref 2020 2 0 0),(112,vI 1),(113,vI 0),(114,vB true)] s6 ?_
   refine TJ.seq (TJ.cond_true rfl (TJ.skip (Qh ?_)))
   refine TJ.seq (TJ.block ?_)
   refine TJ.xa hGn hGk 2 [a1,a2,(84,vI 2),(85,vI 0),(7,.aref 2020 2 0 0),(112,vI 1),(113,vI 0),(8,vI 0)] s6 ?_
   refine TJ.foc [] [] (D.v.cells la) rfl ?_
   refine TJ.xd' hGn hGk (sk 18 (clI 134 133 2134 .int la.t::sk 8 (clI 143 142 2143 .E9 la.Fk::aa 6))) (.sk (.m (QaQ (cI _ h.lam) rfl rfl rfl rfl rfl (by kernel_rfl)) (.sk (.m (QaQ (cW _ h.law) rfl rfl rfl rfl rfl (by kernel_rfl)) (Man.aa _ _)))))
    s4 [(2134,.TI 1 (la.t.map (tcells .int))),(2098,.hole 10 [] [.p (.v (.string la.Name)),.p (.v (.int .i64 la.q)),.p (.v (.int .i64 la.R.Fl)),.p (.v (.int .i64 la.R.FU)),.p (.v (.int .i64 la.Unit)),.p (.v (.int .i64 la.FI)),own 2134 (la.t.map (tcells .int)).length,own 2143 (la.Fk.map (tcells .E9)).length,.p (.v (.int .i64 la.m)),.p (.v (.int .i64 la.F0))] []),o4,o10,hZ,hP,hC,hB,hO,o2] ?_
   refine YK (Qh ?_)
   refine TJ.frz hGk rfl (.hole (.cons (.same rfl) (.cons (.same rfl) (.cons (.same rfl) (.cons (.same rfl) (.cons (.same rfl) (.cons (.same rfl) (.cons .own (.cons (.same rfl) (.cons (.same rfl) (.cons (.same rfl) (.nil)))))))))))) ?_
   refine TJ.weaken (mk s4 [o4,(2098,.hole 10 [] [.p (.v (.string la.Name)),.p (.v (.int .i64 la.q)),.p (.v (.int .i64 la.R.Fl)),.p (.v (.int .i64 la.R.FU)),.p (.v (.int .i64 la.Unit)),.p (.v (.int .i64 la.FI)),sl0 1 (la.t.map (tcells .int)),own 2143 (la.Fk.map (tcells .E9)).length,.p (.v (.int .i64 la.m)),.p (.v (.int .i64 la.F0))] []),o10,hZ,hP,hC,hB,hO,o2]) (Weak.sub' hGk (by kernel_rfl)) ?_
   refine TJ.frz hGk rfl (.hole (.cons (.same rfl) (.cons (.same rfl) (.cons (.same rfl) (.cons (.same rfl) (.cons (.same rfl) (.cons (.same rfl) (.cons (.same rfl) (.cons .own (.cons (.same rfl) (.cons (.same rfl) (.nil)))))))))))) ?_
   refine TJ.unf (D.v.cells la) rfl ?_
   refine TJ.xa' hGn hGk 2 [a1,a2,(84,vI 2),(85,vI 0),(7,.aref 2020 2 0 0),(112,vI 1),(113,vI 1)] s6 ?_
   exact Qh ⟨0,U,1,rfl,rfl⟩
  refine TJ.xa hGn hGk 1 [a1,a2,(84,vI 2),(85,vI 0),(114,vB false)] s6 ?_
  refine TJ.seq (TJ.cond_false rfl (TJ.exit ?_))
  refine Xi (Xi (Qaj (YK (Qh ?_))))
  refine TJ.frz hGk rfl (.hole (.cons (.same rfl) (.cons .own (.cons (.same rfl) .nil)))) ?_
  refine TJ.nameH (n:=3000) (n0:=3100) 2020 2 (by rw[hGk];exact BH) rfl rfl (by decide) rfl rfl (fun x0=>?_)
  refine TJ.pinH rfl rfl rfl (.cons (.same _) (.cons (.same _) (.cons .pin .nil))) ?_
  refine TJ.weaken (mk [a1,a2,(84,vI 2),(85,vI 0)] [(o9 x0),hZ,hP,hC,hB,hO,o2,(o6 x0)]) (Weak.sub' hGk (by kernel_rfl)) ?_
  refine TJ.unf [.v (.string na),.sl false 10 [D.v.cells la],.v x0] rfl ?_
  refine TJ.xa' hGn hGk 2 [a1,a2,(84,vI 2),(85,vI 1)] [(o8 x0),hZ,hP,hC,hB,hO,(o6 x0),o2] ?_
  exact Qh ⟨1,U,.inr (.inl ⟨x0,rfl,rfl⟩)⟩
 .skip
  refine TJ.xa hGn hGk 1 [a1,a2,(84,vI 2),(85,vI 1),(86,vB true)] [(o8 x0),hZ,hP,hC,hB,hO,(o6 x0),o2] ?_
  refine TJ.seq (TJ.cond_true rfl (TJ.skip (Qh ?_)))
  refine TJ.seq (TJ.block ?_)
  refine TJ.xa hGn hGk 2 [a1,a2,(84,vI 2),(85,vI 1),(6,vI 1)] [(o8 x0),hZ,hP,hC,hB,hO,(o6 x0),o2] ?_
  refine TJ.foc [[.v (.string na),.sl false 10 [D.v.cells la],.v x0]] [] (schR nb lb eb) rfl ?_
  refine TJ.xa hGn hGk 5 s2 [(2020,.hole 3 [[.v (.string na),.sl false 10 [D.v.cells la],.v x0]] [.p (.v (.string nb)),sl0 10 [D.v.cells lb],sl0 5 (eb.map D.p.cells)] []),hZ,hP,hC,hB,hO,(o6 x0),o2] ?_
  refine TJ.xd hGn hGk (sk 6 (clI 98 97 2098 .v [lb]::sk 4 (clI 103 102 3001 .p eb::aa 6))) (.sk (.m (QaQ (cL _ Ob) rfl rfl rfl rfl rfl (by kernel_rfl)) (.sk (.m (QaQ (cE _ h.eb) rfl rfl rfl rfl rfl (by kernel_rfl)) (Man.aa _ _)))))
   s2 [o1,(o13 x0),hZ,hP,hC,hB,hO,(o6 x0),o2,o3] ?_
  refine TJ.xa hGn hGk 6 s5 [o1,(o13 x0),hZ,hP,hC,hB,hO,(o6 x0),o2,o3] ?_
  refine TJ.block ?_
  refine TJ.loop (fun m s=>∃j:Nat,j+m=1/\s=mk [a1,a2,(84,vI 2),(85,vI 1),(7,.aref 2020 2 1 0),(112,vI 1),(113,vI (j:Int))] [o1,(o13 x0),hZ,hP,hC,hB,hO,(o6 x0),o2,o3]) ⟨1,0,rfl,rfl⟩ ?_
  rintro m s ⟨j,hj,rfl⟩
  have hc:j=0\/j=1:=U
  rcases hc with rfl|rfl
  .skip
   refine TJ.xa hGn hGk 1 [a1,a2,(84,vI 2),(85,vI 1),(7,.aref 2020 2 1 0),(112,vI 1),(113,vI 0),(114,vB true)] [o1,(o13 x0),hZ,hP,hC,hB,hO,(o6 x0),o2,o3] ?_
   refine TJ.seq (TJ.cond_true rfl (TJ.skip (Qh ?_)))
   refine TJ.seq (TJ.block ?_)
   refine TJ.xa hGn hGk 2 [a1,a2,(84,vI 2),(85,vI 1),(7,.aref 2020 2 1 0),(112,vI 1),(113,vI 0),(8,vI 0)] [o1,(o13 x0),hZ,hP,hC,hB,hO,(o6 x0),o2,o3] ?_
   refine TJ.foc [] [] (D.v.cells lb) rfl ?_
   refine TJ.xd' hGn hGk (sk 18 (clI 134 133 2134 .int lb.t::sk 8 (clI 143 142 2143 .E9 lb.Fk::aa 6))) (.sk (.m (QaQ (cI _ h.lbm) rfl rfl rfl rfl rfl (by kernel_rfl)) (.sk (.m (QaQ (cW _ h.lbw) rfl rfl rfl rfl rfl (by kernel_rfl)) (Man.aa _ _)))))
    s5 [(2134,.TI 1 (lb.t.map (tcells .int))),(2098,.hole 10 [] [.p (.v (.string lb.Name)),.p (.v (.int .i64 lb.q)),.p (.v (.int .i64 lb.R.Fl)),.p (.v (.int .i64 lb.R.FU)),.p (.v (.int .i64 lb.Unit)),.p (.v (.int .i64 lb.FI)),own 2134 (lb.t.map (tcells .int)).length,own 2143 (lb.Fk.map (tcells .E9)).length,.p (.v (.int .i64 lb.m)),.p (.v (.int .i64 lb.F0))] []),o5,(o13 x0),hZ,hP,hC,hB,hO,(o6 x0),o2,o3] ?_
   refine YK (Qh ?_)
   refine TJ.frz hGk rfl (.hole (.cons (.same rfl) (.cons (.same rfl) (.cons (.same rfl) (.cons (.same rfl) (.cons (.same rfl) (.cons (.same rfl) (.cons .own (.cons (.same rfl) (.cons (.same rfl) (.cons (.same rfl) (.nil)))))))))))) ?_
   refine TJ.weaken (mk s5 [o5,(2098,.hole 10 [] [.p (.v (.string lb.Name)),.p (.v (.int .i64 lb.q)),.p (.v (.int .i64 lb.R.Fl)),.p (.v (.int .i64 lb.R.FU)),.p (.v (.int .i64 lb.Unit)),.p (.v (.int .i64 lb.FI)),sl0 1 (lb.t.map (tcells .int)),own 2143 (lb.Fk.map (tcells .E9)).length,.p (.v (.int .i64 lb.m)),.p (.v (.int .i64 lb.F0))] []),(o13 x0),hZ,hP,hC,hB,hO,(o6 x0),o2,o3]) (Weak.sub' hGk (by kernel_rfl)) ?_
   refine TJ.frz hGk rfl (.hole (.cons (.same rfl) (.cons (.same rfl) (.cons (.same rfl) (.cons (.same rfl) (.cons (.same rfl) (.cons (.same rfl) (.cons (.same rfl) (.cons .own (.cons (.same rfl) (.cons (.same rfl) (.nil)))))))))))) ?_
   refine TJ.unf (D.v.cells lb) rfl ?_
   refine TJ.xa' hGn hGk 2 [a1,a2,(84,vI 2),(85,vI 1),(7,.aref 2020 2 1 0),(112,vI 1),(113,vI 1)] [o1,(o13 x0),hZ,hP,hC,hB,hO,(o6 x0),o2,o3] ?_
   exact Qh ⟨0,U,1,rfl,rfl⟩
  refine TJ.xa hGn hGk 1 [a1,a2,(84,vI 2),(85,vI 1),(114,vB false)] [o1,(o13 x0),hZ,hP,hC,hB,hO,(o6 x0),o2,o3] ?_
  refine TJ.seq (TJ.cond_false rfl (TJ.exit ?_))
  refine Xi (Xi (Qaj (YK (Qh ?_))))
  refine TJ.frz hGk rfl (.hole (.cons (.same rfl) (.cons .own (.cons (.same rfl) .nil)))) ?_
  refine TJ.nameH (n:=3001) (n0:=3101) 2020 2 (by rw[hGk];exact BH) rfl rfl (by decide) rfl rfl (fun x1=>?_)
  refine TJ.pinH rfl rfl rfl (.cons (.same _) (.cons (.same _) (.cons .pin .nil))) ?_
  refine TJ.weaken (mk [a1,a2,(84,vI 2),(85,vI 1)] [(o12 x0 x1),hZ,hP,hC,hB,hO,(o6 x0),o2,o3,(o7 x1)]) (Weak.sub' hGk (by kernel_rfl)) ?_
  refine TJ.unf [.v (.string nb),.sl false 10 [D.v.cells lb],.v x1] rfl ?_
  refine TJ.xa' hGn hGk 2 [a1,a2,(84,vI 2),(85,vI 2)] [(o11 x0 x1),hZ,hP,hC,hB,hO,(o6 x0),o2,(o7 x1),o3] ?_
  exact Qh ⟨0,U,.inr (.inr ⟨x0,x1,rfl,rfl⟩)⟩
 refine TJ.xa hGn hGk 1 [a1,a2,(86,vB false)] [(o11 x0 x1),hZ,hP,hC,hB,hO,(o6 x0),o2,(o7 x1),o3] ?_
 refine TJ.seq (TJ.cond_false rfl (TJ.exit ?_))
 refine Xi (Xi (Qaj (Qh ?_)))
 subst hh
 cases r
 .skip
  refine TJ.weaken (mk [a1,a2] [(o11 x0 x1),hZ,hP,hC,hB,hO,(o6 x0),o2,(o7 x1),o3]) (Weak.sub' hGk (by kernel_rfl)) ?_
  refine TJ.foc [[.v (.string na),.sl false 10 [D.v.cells la],.v x0]] [] ([.v (.string nb),.sl false 10 [D.v.cells lb],.v x1]) rfl ?_
  refine TJ.weaken (mk [a1,a2] [o3,(o7 x1),(o12 x0 x1),hZ,hP,hC,hB,hO,(o6 x0),o2]) (Weak.sub' hGk (by kernel_rfl)) ?_
  refine TJ.frzP hGk rfl (.hole (.cons (.same rfl) (.cons (.same rfl) (.cons (.pin rfl) .nil)))) ?_
  refine TJ.unf (schR nb lb eb) rfl ?_
  refine TJ.foc [] [schR nb lb eb] ([.v (.string na),.sl false 10 [D.v.cells la],.v x0]) rfl ?_
  refine TJ.weaken (mk [a1,a2] [(o6 x0),(o9 x0),hZ,hP,hC,hB,hO,o2]) (Weak.sub' hGk (by kernel_rfl)) ?_
  refine TJ.pinH rfl rfl rfl (.cons (.same _) (.cons (.same _) (.cons .unpin .nil))) ?_
  refine TJ.xa hGn hGk 2 [a2] [(1002,boxC),hZ,hP,hC,(2020,.hole 3 [] [.p (.v (.string na)),sl0 10 [D.v.cells la],own 3000 (ea.map (tcells .p)).length] [schR nb lb eb]),o2] ?_
  refine TJ.ret (QkB (.inr rfl) (Res.agg rfl rfl rfl (by kernel_rfl) (by kernel_rfl)) rfl rfl ⟨rfl,rfl⟩)
 .skip
  refine TJ.weaken (mk [a1,a2] [(o11 x0 x1),hZ,hP,hC,hB,hO,(o6 x0),o2,(o7 x1),o3]) (Weak.sub' hGk (by kernel_rfl)) ?_
  refine TJ.foc [] [[.v (.string nb),.sl false 10 [D.v.cells lb],.v x1]] ([.v (.string na),.sl false 10 [D.v.cells la],.v x0]) rfl ?_
  refine TJ.weaken (mk [a1,a2] [o2,(o6 x0),(2020,.hole 3 [] [.p (.v (.string na)),sl0 10 [D.v.cells la],.p (.v x0)] [[.v (.string nb),.sl false 10 [D.v.cells lb],.v x1]]),hZ,hP,hC,hB,hO,(o7 x1),o3]) (Weak.sub' hGk (by kernel_rfl)) ?_
  refine TJ.frzP hGk rfl (.hole (.cons (.same rfl) (.cons (.same rfl) (.cons (.pin rfl) .nil)))) ?_
  refine TJ.unf (schR na la ea) rfl ?_
  refine TJ.foc [schR na la ea] [] ([.v (.string nb),.sl false 10 [D.v.cells lb],.v x1]) rfl ?_
  refine TJ.weaken (mk [a1,a2] [(o7 x1),(2020,.hole 3 [schR na la ea] [.p (.v (.string nb)),sl0 10 [D.v.cells lb],.p (.v x1)] []),hZ,hP,hC,hB,hO,o3]) (Weak.sub' hGk (by kernel_rfl)) ?_
  refine TJ.pinH rfl rfl rfl (.cons (.same _) (.cons (.same _) (.cons .unpin .nil))) ?_
  refine TJ.xa hGn hGk 2 [a2] [(1002,boxC),hZ,hP,hC,(2020,.hole 3 [schR na la ea] [.p (.v (.string nb)),sl0 10 [D.v.cells lb],own 3001 (eb.map (tcells .p)).length] []),o3] ?_
  refine TJ.ret (QkB (.inr rfl) (Res.agg rfl rfl rfl (by kernel_rfl) (by kernel_rfl)) rfl rfl ⟨rfl,rfl⟩)
end
noncomputable section
def cfg0:D.E:={ FD:=[],k:=[],n:=[],f:=[] }
def addE(c:D.E)(a b:D.c)(s:Int)(x:D.p):D.E:=
 if s=0 then{ c with f:=[{ a with FS:=a.FS++[x] },b] }else{ c with f:=[a,{ b with FS:=b.FS++[x] }] }
open Classical in
def Ua(fu:Nat)(p0:D.E)(p1:Int)(p2:D.p):O (D.E×Int):=
 match p0.FD,p0.k,p0.n,p0.f with
 |[z],[q1,q2,q3,q4],[],[a,b]=>match a.Fi,b.Fi with
  |[la],[lb]=>if Qoa fu z [q1,q2,q3,q4] la lb a.FS b.FS then
    V (Q4 fu p0) fun e=>J (decide (e≠0)) none (J (decide (0<=p1/\p1<2))
     (V (Q4 fu (addE p0 a b p1 p2)) fun e=>J (decide (e≠0)) none (some (addE p0 a b p1 p2,0))) (some (cfg0,3)))else none
  |_,_=>none
 |_,_,_,_=>none
def Qrn(fu:Nat):Sig:=Ql [.st .E,.one (.TZ .i64),.st .p] [] [.st .E,.one (.TZ .i64)] [] [] (D.E×Int) (fun q=>((q.1,q.2,()),())) (fun x y=>Ua fu x.1 x.2.1 x.2.2.1)
section
abbrev cfgD(z:D.q)(p1 p2 p3 p4:D.Q)(na nb:AJ)(la lb:D.v)(ea eb:Y D.p):D.E:=⟨[z],[p1,p2,p3,p4],[],[⟨na,[la],ea⟩,⟨nb,[lb],eb⟩]⟩
def Qle(he:Q4 fu (cfgD z p1 p2 p3 p4 na nb la lb ea eb)=some e):WG Tryz.prog 172 [.agg (cfgA z p1 p2 p3 p4 na nb la lb ea eb)] [] (vI e) []:=by
 obtain⟨L1,_,_,hs⟩:=(Qbj fu).spec (cfgD z p1 p2 p3 p4 na nb la lb ea eb,()) () (e,()) () (by show V (Q4 fu _) _=_;rw[he];rfl) (fun _ _=>0) (fun n t l v hn=>by change AM.C n []=_ at hn;simp[AM.C]at hn)
 exact hs
def Quv(he:V2 fu (cfgD z p1 p2 p3 p4 na nb la lb ea eb) s=some q):WG Tryz.prog 356 [.agg (cfgA z p1 p2 p3 p4 na nb la lb ea eb),vI s] [] (vB q) []:=by
 obtain⟨L1,_,_,hs⟩:=(QhL fu).spec (cfgD z p1 p2 p3 p4 na nb la lb ea eb,s,()) () (q,()) () (by show V (V2 fu _ s) _=_;rw[he];rfl) (fun _ _=>0) (fun n t l v hn=>by change AM.C n []=_ at hn;simp[AM.C]at hn)
 exact hs
abbrev ownA:AV:=.agg [own 2011 1,own 2014 4,own 2017 0,own 2020 2]
abbrev Qpj(z:D.q)(p1 p2 p3 p4:D.Q)(na nb:AJ)(la lb:D.v)(ea eb:Y D.p)(r:AH):Y (Name×AO):=
 bif r then[(2011,.TI 3 [D.q.cells z]),(2014,.TI 6 [D.Q.cells p1,D.Q.cells p2,D.Q.cells p3,D.Q.cells p4]),(2017,.TI 3 []),(2020,.hole 3 [schR na la ea] [.p (.v (.string nb)),sl0 10 [D.v.cells lb],own 3001 (eb.map (tcells .p)).length] []),(3001,.TI 5 (eb.map (tcells .p)))]
   else[(2011,.TI 3 [D.q.cells z]),(2014,.TI 6 [D.Q.cells p1,D.Q.cells p2,D.Q.cells p3,D.Q.cells p4]),(2017,.TI 3 []),(2020,.hole 3 [] [.p (.v (.string na)),sl0 10 [D.v.cells la],own 3000 (ea.map (tcells .p)).length] [schR nb lb eb]),(3000,.TI 5 (ea.map (tcells .p)))]
abbrev newN(r:AH):Y Name:=bif r then[2011,2014,2017,2020,3001]else[2011,2014,2017,2020,3000]
def QkA(h:Qoa fu z [p1,p2,p3,p4] la lb ea eb)(hc:Q4 fu (cfgD z p1 p2 p3 p4 na nb la lb ea eb)=some 0)(r):
  WG Tryz.prog 337 [.agg (cfgA z p1 p2 p3 p4 na nb la lb ea eb),vI (bif r then 1 else 0)] [] (.tup [ownA,vI 0]) (Qpj z p1 p2 p3 p4 na nb la lb ea eb r):=by
 have hK:=Qro (na:=na) (nb:=nb) h r _ rfl
 have hI:V2 fu (cfgD z p1 p2 p3 p4 na nb la lb ea eb) (bif r then 1 else 0)=some true:=by cases r<;>rfl
 refine Spec.intro Tryz.func337 rfl (by kernel_rfl) ?_
 intro Γ hGn hGk
 replace hGn:Γ.n=_:=hGn
 replace hGk:Γ.names=[]:=hGk
 let hA:Name×AO:=(1002,.box (cfgA z p1 p2 p3 p4 na nb la lb ea eb))
 refine TJ.xa hGn hGk 3 [(1,vI (bif r then 1 else 0)),(2,.TN 1002 0),(4,.TN 1004 0)] [hA,(1004,box0)] ?_
 refine TJ.seq ?_
 refine TJ.xr hGn hGk (sk 1 (.m (some 7) ⟨[(6,.agg (cfgA z p1 p2 p3 p4 na nb la lb ea eb))],[],vI 0,[],[]⟩::aa 1)) (.sk (.m (QlU (Qle hc) rfl rfl rfl rfl (by kernel_rfl) (by rfl) (by kernel_rfl)) (Man.aa _ _)))
  [(1,vI (bif r then 1 else 0)),(2,.TN 1002 0),(4,.TN 1004 0),(8,vB false)] [hA,(1004,box0)] ?_
 refine TJ.cond_false rfl (TJ.skip (Qh ?_))
 refine TJ.seq ?_
 refine TJ.xr hGn hGk (sk 2 (.m (some 12) ⟨[(10,.agg (cfgA z p1 p2 p3 p4 na nb la lb ea eb)),(11,vI (bif r then 1 else 0))],[],vB true,[],[]⟩::aa 1)) (.sk (.m (QlU (Quv hI) rfl rfl rfl rfl (by kernel_rfl) (by rfl) (by kernel_rfl)) (Man.aa _ _)))
  [(2,.TN 1002 0),(4,.TN 1004 0),(13,vB false)] [hA,(1004,box0)] ?_
 refine TJ.cond_false rfl (TJ.skip (Qh ?_))
 cases r
 .refine TJ.xr hGn hGk (sk 1 (.m (some 16) ⟨[(15,.agg (cfgA z p1 p2 p3 p4 na nb la lb ea eb))],[],ownA,Qpj z p1 p2 p3 p4 na nb la lb ea eb false,newN false⟩::aa 2)) (.sk (.m (QlU hK rfl rfl rfl rfl (by kernel_rfl) (by rfl) (by kernel_rfl)) (Man.aa _ _)))
   [(4,.TN 1004 0),(5,vI 0)] ((1004,boxC)::Qpj z p1 p2 p3 p4 na nb la lb ea eb false) ?_
  exact TJ.ret (QkB (.inr rfl) (Res.many rfl (.cons (Res1.agg rfl rfl (by kernel_rfl) (by kernel_rfl)) (.cons (Res1.tmp rfl) .nil))) rfl rfl ⟨rfl,rfl⟩)
 .refine TJ.xr hGn hGk (sk 1 (.m (some 16) ⟨[(15,.agg (cfgA z p1 p2 p3 p4 na nb la lb ea eb))],[],ownA,Qpj z p1 p2 p3 p4 na nb la lb ea eb true,newN true⟩::aa 2)) (.sk (.m (QlU hK rfl rfl rfl rfl (by kernel_rfl) (by rfl) (by kernel_rfl)) (Man.aa _ _)))
   [(4,.TN 1004 0),(5,vI 0)] ((1004,boxC)::Qpj z p1 p2 p3 p4 na nb la lb ea eb true) ?_
  exact TJ.ret (QkB (.inr rfl) (Res.many rfl (.cons (Res1.agg rfl rfl (by kernel_rfl) (by kernel_rfl)) (.cons (Res1.tmp rfl) .nil))) rfl rfl ⟨rfl,rfl⟩)
def Qrq(hc:Q4 fu (cfgD z p1 p2 p3 p4 na nb la lb ea eb)=some 0)(hs:¬(0<=s/\s<2)):
  WG Tryz.prog 337 [.agg (cfgA z p1 p2 p3 p4 na nb la lb ea eb),vI s] [] (.tup [.agg [nl,nl,nl,nl],vI 3]) []:=by
 have hI:V2 fu (cfgD z p1 p2 p3 p4 na nb la lb ea eb) s=some false:=by
  show J (decide (0<=s)) (J (decide (s<((2:Nat):Int))) (some true) (some false)) (some false)=some false
  by_cases h0:0<=s
  .have h1:¬s<((2:Nat):Int):=U
   rw[Au h0,Av h1];rfl
  .rw[Av h0];rfl
 refine Spec.intro Tryz.func337 rfl (by kernel_rfl) ?_
 intro Γ hGn hGk
 replace hGn:Γ.n=_:=hGn
 replace hGk:Γ.names=[]:=hGk
 let hA:Name×AO:=(1002,.box (cfgA z p1 p2 p3 p4 na nb la lb ea eb))
 refine TJ.xa hGn hGk 3 [(1,vI s),(2,.TN 1002 0),(4,.TN 1004 0)] [hA,(1004,box0)] ?_
 refine TJ.seq ?_
 refine TJ.xr hGn hGk (sk 1 (.m (some 7) ⟨[(6,.agg (cfgA z p1 p2 p3 p4 na nb la lb ea eb))],[],vI 0,[],[]⟩::aa 1)) (.sk (.m (QlU (Qle hc) rfl rfl rfl rfl (by kernel_rfl) (by rfl) (by kernel_rfl)) (Man.aa _ _)))
  [(1,vI s),(2,.TN 1002 0),(4,.TN 1004 0),(8,vB false)] [hA,(1004,box0)] ?_
 refine TJ.cond_false rfl (TJ.skip (Qh ?_))
 refine TJ.seq ?_
 refine TJ.xr hGn hGk (sk 2 (.m (some 12) ⟨[(10,.agg (cfgA z p1 p2 p3 p4 na nb la lb ea eb)),(11,vI s)],[],vB false,[],[]⟩::aa 1)) (.sk (.m (QlU (Quv hI) rfl rfl rfl rfl (by kernel_rfl) (by rfl) (by kernel_rfl)) (Man.aa _ _)))
  [(2,.TN 1002 0),(4,.TN 1004 0),(13,vB true)] [hA,(1004,box0)] ?_
 refine TJ.cond_true rfl ?_
 refine TJ.xa hGn hGk 3 [(4,.TN 1004 0),(5,vI 3)] [(1004,box0)] ?_
 exact TJ.ret (QrP (QkB (.inr rfl) (Res.many rfl (.cons (Res1.agg rfl rfl (by kernel_rfl) (by kernel_rfl)) (.cons (Res1.tmp rfl) .nil))) rfl rfl ⟨rfl,rfl⟩))
def Qpp(hc:Q4 fu (cfgD z p1 p2 p3 p4 na nb la lb ea eb)=some 0)(hs:¬(0<=s/\s<2)):
  WG Tryz.prog 290 [.agg (cfgA z p1 p2 p3 p4 na nb la lb ea eb),vI s,.agg ((D.p.cells x).map .p)] [] (.tup [.agg [sl0 3 [],sl0 6 [],sl0 3 [],sl0 3 []],vI 3]) []:=by
 have hO:=Qrq hc hs
 refine Spec.intro Tryz.func290 rfl (by kernel_rfl) ?_
 intro Γ hGn hGk
 replace hGn:Γ.n=_:=hGn
 replace hGk:Γ.names=[]:=hGk
 let hE:Name×AO:=(1005,.box ((D.p.cells x).map .p))
 refine TJ.xa hGn hGk 4 [(1,vI s),(3,.TN 1003 0),(5,.TN 1005 0),(6,.TN 1006 0)] [(1003,.box (cfgA z p1 p2 p3 p4 na nb la lb ea eb)),hE,(1006,box0)] ?_
 refine TJ.xr hGn hGk (sk 2 (.m (some 14) ⟨[(12,.agg (cfgA z p1 p2 p3 p4 na nb la lb ea eb)),(13,vI s)],[],.tup [.agg [nl,nl,nl,nl],vI 3],[],[]⟩::aa 5)) (.sk (.m (QlU hO rfl rfl rfl rfl (by kernel_rfl) (by rfl) (by kernel_rfl)) (Man.aa _ _)))
  [(6,.TN 1006 0),(8,vI 3)] [(1006,box0)] ?_
 refine TJ.seq ?_
 refine TJ.xa hGn hGk 2 [(6,.TN 1006 0),(8,vI 3),(18,vB true)] [(1006,box0)] ?_
 refine TJ.cond_true rfl ?_
 refine TJ.xa hGn hGk 4 [(6,.TN 1006 0),(7,vI 3)] [(1006,box0)] ?_
 refine TJ.weaken (mk [(6,.TN 1006 0),(7,vI 3)] [(1006,.box [sl0 3 [],sl0 6 [],sl0 3 [],sl0 3 []])]) (Weak.le (TsLe.refl _) ⟨rfl,.box (.cons (.p (PVle.nil Ob)) (.cons (.p (PVle.nil Ob)) (.cons (.p (PVle.nil Ob)) (.cons (.p (PVle.nil Ob)) .nil)))),trivial⟩) ?_
 exact TJ.ret (QrP (QkB (.inr rfl) (Res.many rfl (.cons (Res1.agg rfl rfl (by kernel_rfl) (by kernel_rfl)) (.cons (Res1.tmp rfl) .nil))) rfl rfl ⟨rfl,rfl⟩))
def Qrl(h:Qoa fu z [p1,p2,p3,p4] la lb ea eb)(hc:Q4 fu (cfgD z p1 p2 p3 p4 na nb la lb ea eb)=some 0)(hc2:Q4 fu (cfgD z p1 p2 p3 p4 na nb la lb (ea++[x]) eb)=some 0):
  WG Tryz.prog 290 [.agg (cfgA z p1 p2 p3 p4 na nb la lb ea eb),vI 0,.agg ((D.p.cells x).map .p)] [] (.tup [.agg (cfgA z p1 p2 p3 p4 na nb la lb (ea++[x]) eb),vI 0]) []:=by
 have hO:=QkA h hc false
 have hl:=h.ea
 refine Spec.intro Tryz.func290 rfl (by kernel_rfl) ?_
 intro Γ hGn hGk
 replace hGn:Γ.n=_:=hGn
 replace hGk:Γ.names=[]:=hGk
 let hE:Name×AO:=(1005,.box ((D.p.cells x).map .p))
 refine TJ.xa hGn hGk 4 [(1,vI 0),(3,.TN 1003 0),(5,.TN 1005 0),(6,.TN 1006 0)] [(1003,.box (cfgA z p1 p2 p3 p4 na nb la lb ea eb)),hE,(1006,box0)] ?_
 refine TJ.xr hGn hGk (sk 2 (.m (some 14) ⟨[(12,.agg (cfgA z p1 p2 p3 p4 na nb la lb ea eb)),(13,vI 0)],[],.tup [ownA,vI 0],Qpj z p1 p2 p3 p4 na nb la lb ea eb false,newN false⟩::aa 5)) (.sk (.m (QlU hO rfl rfl rfl rfl (by kernel_rfl) (by rfl) (by kernel_rfl)) (Man.aa _ _)))
  [(1,vI 0),(3,.TN 1003 0),(5,.TN 1005 0),(6,.TN 1006 0),(8,vI 0)] ((1003,boxC)::hE::(1006,box0)::Qpj z p1 p2 p3 p4 na nb la lb ea eb false) ?_
 refine TJ.seq ?_
 refine TJ.xa hGn hGk 2 [(1,vI 0),(3,.TN 1003 0),(5,.TN 1005 0),(6,.TN 1006 0),(18,vB false)] [(1003,boxC),hE,(1006,box0),(2011,.TI 3 [D.q.cells z]),(2014,.TI 6 [D.Q.cells p1,D.Q.cells p2,D.Q.cells p3,D.Q.cells p4]),(2017,.TI 3 []),(2020,.hole 3 [] [.p (.v (.string na)),sl0 10 [D.v.cells la],own 3000 (ea.map (tcells .p)).length] [schR nb lb eb]),(3000,.TI 5 (ea.map (tcells .p)))] ?_
 refine TJ.cond_false rfl (TJ.skip (Qh ?_))
 refine TJ.xa hGn hGk 5 [(3,.TN 1003 0),(5,.TN 1005 0),(6,.TN 1006 0),(9,.aref 2020 2 0 0)] [(1003,boxC),hE,(1006,box0),(2011,.TI 3 [D.q.cells z]),(2014,.TI 6 [D.Q.cells p1,D.Q.cells p2,D.Q.cells p3,D.Q.cells p4]),(2017,.TI 3 []),(2020,.hole 3 [] [.p (.v (.string na)),sl0 10 [D.v.cells la],own 3000 (ea.map (tcells .p)).length] [schR nb lb eb]),(3000,.TI 5 (ea.map (tcells .p)))] ?_
 refine TJ.xd hGn hGk (sk 7 (.m (some 32) ⟨[(29,own 3000 (ea.map (tcells .p)).length),(31,.p (.sl true 5 [D.p.cells x]))],[(3000,.TI 5 (ea.map (tcells .p)))],own 3000 ((ea++[x]).map (tcells .p)).length,[(3000,.TI 5 ((ea++[x]).map (tcells .p)))],[]⟩::aa 3))
  (.sk (.m (ZP.p (o:=_) rfl rfl rfl (TD.appendOwn (T:=136) (e:=57) (bytes:=40) rfl rfl (by kernel_rfl) (by kernel_rfl) rfl (B2 _) rfl (by rw[Ax];rfl) rfl (by simp only[AZ,Ab,Am];omega) (by simp only[AZ,Ab,Am];omega))) (Man.aa _ _)))
  [(3,.TN 1003 0),(5,.TN 1005 0),(6,.TN 1006 0)] [(3000,.TI 5 ((ea++[x]).map (tcells .p))),(2020,.hole 3 [] [.p (.v (.string na)),sl0 10 [D.v.cells la],own 3000 ((ea++[x]).map (tcells .p)).length] [schR nb lb eb]),(1003,boxC),hE,(1006,box0),(2011,.TI 3 [D.q.cells z]),(2014,.TI 6 [D.Q.cells p1,D.Q.cells p2,D.Q.cells p3,D.Q.cells p4]),(2017,.TI 3 [])] ?_
 refine TJ.frz hGk rfl (.hole (.cons (.same rfl) (.cons (.same rfl) (.cons .own .nil)))) ?_
 refine TJ.unf (schR na la (ea++[x])) rfl ?_
 refine TJ.weaken (mk [(3,.TN 1003 0),(5,.TN 1005 0),(6,.TN 1006 0)] [(2011,.TI 3 [D.q.cells z]),(1003,.box [own 2011 1,own 2014 4,own 2017 0,own 2020 2]),hE,(1006,box0),(2014,.TI 6 [D.Q.cells p1,D.Q.cells p2,D.Q.cells p3,D.Q.cells p4]),(2017,.TI 3 []),(2020,.TI 3 [schR na la (ea++[x]),schR nb lb eb])]) (Weak.sub' hGk (by kernel_rfl)) ?_
 refine TJ.frz hGk rfl (.box (.cons .own (.cons (.same rfl) (.cons (.same rfl) (.cons (.same rfl) (.nil)))))) ?_
 refine TJ.weaken (mk [(3,.TN 1003 0),(5,.TN 1005 0),(6,.TN 1006 0)] [(2014,.TI 6 [D.Q.cells p1,D.Q.cells p2,D.Q.cells p3,D.Q.cells p4]),(1003,.box [sl0 3 [D.q.cells z],own 2014 4,own 2017 0,own 2020 2]),hE,(1006,box0),(2017,.TI 3 []),(2020,.TI 3 [schR na la (ea++[x]),schR nb lb eb])]) (Weak.sub' hGk (by kernel_rfl)) ?_
 refine TJ.frz hGk rfl (.box (.cons (.same rfl) (.cons .own (.cons (.same rfl) (.cons (.same rfl) (.nil)))))) ?_
 refine TJ.weaken (mk [(3,.TN 1003 0),(5,.TN 1005 0),(6,.TN 1006 0)] [(2017,.TI 3 []),(1003,.box [sl0 3 [D.q.cells z],sl0 6 [D.Q.cells p1,D.Q.cells p2,D.Q.cells p3,D.Q.cells p4],own 2017 0,own 2020 2]),hE,(1006,box0),(2020,.TI 3 [schR na la (ea++[x]),schR nb lb eb])]) (Weak.sub' hGk (by kernel_rfl)) ?_
 refine TJ.frz hGk rfl (.box (.cons (.same rfl) (.cons (.same rfl) (.cons .own (.cons (.same rfl) (.nil)))))) ?_
 refine TJ.weaken (mk [(3,.TN 1003 0),(5,.TN 1005 0),(6,.TN 1006 0)] [(2020,.TI 3 [schR na la (ea++[x]),schR nb lb eb]),(1003,.box [sl0 3 [D.q.cells z],sl0 6 [D.Q.cells p1,D.Q.cells p2,D.Q.cells p3,D.Q.cells p4],sl0 3 [],own 2020 2]),hE,(1006,box0)]) (Weak.sub' hGk (by kernel_rfl)) ?_
 refine TJ.frz hGk rfl (.box (.cons (.same rfl) (.cons (.same rfl) (.cons (.same rfl) (.cons .own (.nil)))))) ?_
 refine TJ.seq ?_
 refine TJ.xr hGn hGk (sk 1 (.m (some 36) ⟨[(35,.agg (cfgA z p1 p2 p3 p4 na nb la lb (ea++[x]) eb))],[],vI 0,[],[]⟩::aa 1)) (.sk (.m (QlU (Qle hc2) rfl rfl rfl rfl (by kernel_rfl) (by rfl) (by kernel_rfl)) (Man.aa _ _)))
  [(3,.TN 1003 0),(6,.TN 1006 0),(10,vI 0)] [(1003,.box (cfgA z p1 p2 p3 p4 na nb la lb (ea++[x]) eb)),(1006,box0)] ?_
 refine TJ.xa hGn hGk 2 [(3,.TN 1003 0),(6,.TN 1006 0),(38,vB false)] [(1003,.box (cfgA z p1 p2 p3 p4 na nb la lb (ea++[x]) eb)),(1006,box0)] ?_
 refine TJ.cond_false rfl (TJ.skip (Qh ?_))
 refine TJ.xa hGn hGk 3 [(6,.TN 1006 0),(7,vI 0)] [(1006,.box (cfgA z p1 p2 p3 p4 na nb la lb (ea++[x]) eb))] ?_
 exact TJ.ret (QkB (.inr rfl) (Res.many rfl (.cons (Res1.agg rfl rfl (by kernel_rfl) (by kernel_rfl)) (.cons (Res1.tmp rfl) .nil))) rfl rfl ⟨rfl,rfl⟩)
def Qrm(h:Qoa fu z [p1,p2,p3,p4] la lb ea eb)(hc:Q4 fu (cfgD z p1 p2 p3 p4 na nb la lb ea eb)=some 0)(hc2:Q4 fu (cfgD z p1 p2 p3 p4 na nb la lb ea (eb++[x]))=some 0):
  WG Tryz.prog 290 [.agg (cfgA z p1 p2 p3 p4 na nb la lb ea eb),vI 1,.agg ((D.p.cells x).map .p)] [] (.tup [.agg (cfgA z p1 p2 p3 p4 na nb la lb ea (eb++[x])),vI 0]) []:=by
 have hO:=QkA h hc true
 have hl:=h.eb
 refine Spec.intro Tryz.func290 rfl (by kernel_rfl) ?_
 intro Γ hGn hGk
 replace hGn:Γ.n=_:=hGn
 replace hGk:Γ.names=[]:=hGk
 let hE:Name×AO:=(1005,.box ((D.p.cells x).map .p))
 refine TJ.xa hGn hGk 4 [(1,vI 1),(3,.TN 1003 0),(5,.TN 1005 0),(6,.TN 1006 0)] [(1003,.box (cfgA z p1 p2 p3 p4 na nb la lb ea eb)),hE,(1006,box0)] ?_
 refine TJ.xr hGn hGk (sk 2 (.m (some 14) ⟨[(12,.agg (cfgA z p1 p2 p3 p4 na nb la lb ea eb)),(13,vI 1)],[],.tup [ownA,vI 0],Qpj z p1 p2 p3 p4 na nb la lb ea eb true,newN true⟩::aa 5)) (.sk (.m (QlU hO rfl rfl rfl rfl (by kernel_rfl) (by rfl) (by kernel_rfl)) (Man.aa _ _)))
  [(1,vI 1),(3,.TN 1003 0),(5,.TN 1005 0),(6,.TN 1006 0),(8,vI 0)] ((1003,boxC)::hE::(1006,box0)::Qpj z p1 p2 p3 p4 na nb la lb ea eb true) ?_
 refine TJ.seq ?_
 refine TJ.xa hGn hGk 2 [(1,vI 1),(3,.TN 1003 0),(5,.TN 1005 0),(6,.TN 1006 0),(18,vB false)] [(1003,boxC),hE,(1006,box0),(2011,.TI 3 [D.q.cells z]),(2014,.TI 6 [D.Q.cells p1,D.Q.cells p2,D.Q.cells p3,D.Q.cells p4]),(2017,.TI 3 []),(2020,.hole 3 [schR na la ea] [.p (.v (.string nb)),sl0 10 [D.v.cells lb],own 3001 (eb.map (tcells .p)).length] []),(3001,.TI 5 (eb.map (tcells .p)))] ?_
 refine TJ.cond_false rfl (TJ.skip (Qh ?_))
 refine TJ.xa hGn hGk 5 [(3,.TN 1003 0),(5,.TN 1005 0),(6,.TN 1006 0),(9,.aref 2020 2 1 0)] [(1003,boxC),hE,(1006,box0),(2011,.TI 3 [D.q.cells z]),(2014,.TI 6 [D.Q.cells p1,D.Q.cells p2,D.Q.cells p3,D.Q.cells p4]),(2017,.TI 3 []),(2020,.hole 3 [schR na la ea] [.p (.v (.string nb)),sl0 10 [D.v.cells lb],own 3001 (eb.map (tcells .p)).length] []),(3001,.TI 5 (eb.map (tcells .p)))] ?_
 refine TJ.xd hGn hGk (sk 7 (.m (some 32) ⟨[(29,own 3001 (eb.map (tcells .p)).length),(31,.p (.sl true 5 [D.p.cells x]))],[(3001,.TI 5 (eb.map (tcells .p)))],own 3001 ((eb++[x]).map (tcells .p)).length,[(3001,.TI 5 ((eb++[x]).map (tcells .p)))],[]⟩::aa 3))
  (.sk (.m (ZP.p (o:=_) rfl rfl rfl (TD.appendOwn (T:=136) (e:=57) (bytes:=40) rfl rfl (by kernel_rfl) (by kernel_rfl) rfl (B2 _) rfl (by rw[Ax];rfl) rfl (by simp only[AZ,Ab,Am];omega) (by simp only[AZ,Ab,Am];omega))) (Man.aa _ _)))
  [(3,.TN 1003 0),(5,.TN 1005 0),(6,.TN 1006 0)] [(3001,.TI 5 ((eb++[x]).map (tcells .p))),(2020,.hole 3 [schR na la ea] [.p (.v (.string nb)),sl0 10 [D.v.cells lb],own 3001 ((eb++[x]).map (tcells .p)).length] []),(1003,boxC),hE,(1006,box0),(2011,.TI 3 [D.q.cells z]),(2014,.TI 6 [D.Q.cells p1,D.Q.cells p2,D.Q.cells p3,D.Q.cells p4]),(2017,.TI 3 [])] ?_
 refine TJ.frz hGk rfl (.hole (.cons (.same rfl) (.cons (.same rfl) (.cons .own .nil)))) ?_
 refine TJ.unf (schR nb lb (eb++[x])) rfl ?_
 refine TJ.weaken (mk [(3,.TN 1003 0),(5,.TN 1005 0),(6,.TN 1006 0)] [(2011,.TI 3 [D.q.cells z]),(1003,.box [own 2011 1,own 2014 4,own 2017 0,own 2020 2]),hE,(1006,box0),(2014,.TI 6 [D.Q.cells p1,D.Q.cells p2,D.Q.cells p3,D.Q.cells p4]),(2017,.TI 3 []),(2020,.TI 3 [schR na la ea,schR nb lb (eb++[x])])]) (Weak.sub' hGk (by kernel_rfl)) ?_
 refine TJ.frz hGk rfl (.box (.cons .own (.cons (.same rfl) (.cons (.same rfl) (.cons (.same rfl) (.nil)))))) ?_
 refine TJ.weaken (mk [(3,.TN 1003 0),(5,.TN 1005 0),(6,.TN 1006 0)] [(2014,.TI 6 [D.Q.cells p1,D.Q.cells p2,D.Q.cells p3,D.Q.cells p4]),(1003,.box [sl0 3 [D.q.cells z],own 2014 4,own 2017 0,own 2020 2]),hE,(1006,box0),(2017,.TI 3 []),(2020,.TI 3 [schR na la ea,schR nb lb (eb++[x])])]) (Weak.sub' hGk (by kernel_rfl)) ?_
 refine TJ.frz hGk rfl (.box (.cons (.same rfl) (.cons .own (.cons (.same rfl) (.cons (.same rfl) (.nil)))))) ?_
 refine TJ.weaken (mk [(3,.TN 1003 0),(5,.TN 1005 0),(6,.TN 1006 0)] [(2017,.TI 3 []),(1003,.box [sl0 3 [D.q.cells z],sl0 6 [D.Q.cells p1,D.Q.cells p2,D.Q.cells p3,D.Q.cells p4],own 2017 0,own 2020 2]),hE,(1006,box0),(2020,.TI 3 [schR na la ea,schR nb lb (eb++[x])])]) (Weak.sub' hGk (by kernel_rfl)) ?_
 refine TJ.frz hGk rfl (.box (.cons (.same rfl) (.cons (.same rfl) (.cons .own (.cons (.same rfl) (.nil)))))) ?_
 refine TJ.weaken (mk [(3,.TN 1003 0),(5,.TN 1005 0),(6,.TN 1006 0)] [(2020,.TI 3 [schR na la ea,schR nb lb (eb++[x])]),(1003,.box [sl0 3 [D.q.cells z],sl0 6 [D.Q.cells p1,D.Q.cells p2,D.Q.cells p3,D.Q.cells p4],sl0 3 [],own 2020 2]),hE,(1006,box0)]) (Weak.sub' hGk (by kernel_rfl)) ?_
 refine TJ.frz hGk rfl (.box (.cons (.same rfl) (.cons (.same rfl) (.cons (.same rfl) (.cons .own (.nil)))))) ?_
 refine TJ.seq ?_
 refine TJ.xr hGn hGk (sk 1 (.m (some 36) ⟨[(35,.agg (cfgA z p1 p2 p3 p4 na nb la lb ea (eb++[x])))],[],vI 0,[],[]⟩::aa 1)) (.sk (.m (QlU (Qle hc2) rfl rfl rfl rfl (by kernel_rfl) (by rfl) (by kernel_rfl)) (Man.aa _ _)))
  [(3,.TN 1003 0),(6,.TN 1006 0),(10,vI 0)] [(1003,.box (cfgA z p1 p2 p3 p4 na nb la lb ea (eb++[x]))),(1006,box0)] ?_
 refine TJ.xa hGn hGk 2 [(3,.TN 1003 0),(6,.TN 1006 0),(38,vB false)] [(1003,.box (cfgA z p1 p2 p3 p4 na nb la lb ea (eb++[x]))),(1006,box0)] ?_
 refine TJ.cond_false rfl (TJ.skip (Qh ?_))
 refine TJ.xa hGn hGk 3 [(6,.TN 1006 0),(7,vI 0)] [(1006,.box (cfgA z p1 p2 p3 p4 na nb la lb ea (eb++[x])))] ?_
 exact TJ.ret (QkB (.inr rfl) (Res.many rfl (.cons (Res1.agg rfl rfl (by kernel_rfl) (by kernel_rfl)) (.cons (Res1.tmp rfl) .nil))) rfl rfl ⟨rfl,rfl⟩)
end
def Qpq(fu):FnOK Tryz.prog 290 (Qrn fu):=by
 refine⟨fun R x y K r h=>?_,fun x y a b h L0 _=>⟨L0,fun _ _=>rfl,fun n t l v hn=>by change AM.C n []=_ at hn;simp[AM.C]at hn,?_⟩⟩
 .obtain⟨c,s,e,⟨⟩⟩:=x
  obtain⟨q,hq,h⟩:=Y2 h
  change Ua fu c s e=some q at hq
  refine⟨(q.1,q.2,()),(),?_,h⟩
  show V (Ua fu c s e) (fun q=>some ((q.1,q.2,()),()))=_
  rw[hq];rfl
 .obtain⟨c,s,x,⟨⟩⟩:=x
  obtain⟨q,hq,hab⟩:=Y2 h
  change Ua fu c s x=some q at hq
  have hab':((q.1,q.2,()),())=(a,b):=Be hab
  obtain⟨rfl,rfl⟩:=C4 hab'
  obtain⟨zs,ps,cs,ss⟩:=c
  unfold Ua at hq
  dsimp only at hq
  split at hq
  case h_2=>simp at hq
  rename_i z p1 p2 p3 p4 a b
  split at hq
  case h_2=>simp at hq
  rename_i la lb hla hlb
  obtain⟨na,las,ea⟩:=a
  obtain⟨nb,lbs,eb⟩:=b
  dsimp only at hla hlb
  subst hla hlb
  split at hq
  case isFalse=>simp at hq
  rename_i hin
  obtain⟨e1,he1,hq⟩:=Y2 hq
  have h1:e1=0:=by
   by_cases h:e1=0
   .exact h
   .rw[Au h]at hq;simp[J]at hq
  subst h1
  replace hq:J (decide (0<=s/\s<2)) _ _=some q:=hq
  by_cases hs:0<=s/\s<2
  .rw[Au hs]at hq
   obtain⟨e2,he2,hq⟩:=Y2 hq
   have h2:e2=0:=by
    by_cases h:e2=0
    .exact h
    .rw[Au h]at hq;simp[J]at hq
   subst h2
   have hq2:=Be hq
   subst hq2
   rcases(show s=0\/s=1 by omega)with rfl|rfl
   .exact Qrl hin he1 he2
   .exact Qrm hin he1 he2
  .rw[Av hs]at hq
   have hq2:=Be hq
   subst hq2
   exact Qpp he1 hs
end
open Go AM IntKind
noncomputable section
open fk Tryz
variable (u:Nat)
def XR(u:Nat)(a:Y D.Page)(c:Int)(b:Y D.Page):O (Y D.Page):=TK c fun e=>TO e a.length (cd ((b.length:Int)=0) (some a) (cd (c=(a.length:Int)) (TO (a.length+b.length) 34359738368 (some (a++b))) none))
def QeX:o 284 (Ql [.one (.own 101),d,l .Page] [v 101 .Page] [.one (.own 101)] [v 101 .Page] [] (Y D.Page) kz5 (fun x y=>XR u y.1 x.1 x.2.1)):=i u g kz8 t func284
end
open Go Go.RowKit Go.Shelf Go.Proofs AM
section
def Qlf(W)(T e ty)(es)(hT:P.underlying T=some (.slice e))(hz:Zk P e=some es)(b o l1 c1)(a2)(l2 c2 m)(cur)(t)(vs)(hg:W.heap[b]?=some (.cells cur t (0,0)))(hm:Nat.min l2 l1=m)(hn:vs.length=m*es)(hsrc:∀j v,vs[j]?=some v->W.cell? (a2.add j)=some v)(hfit:o+vs.length<=cur.size)(h1:∀v∈vs,v.oneCell'=true):
  (Builtin.copy_ #[T,T] ty #[.slice (some ⟨b,o,none⟩) l1 c1,.slice (some a2) l2 c2]).run P W=.ok (goInt ((m:Nat):Int)) (W.setRow b (Qy cur.toList o vs).toArray):=by
 have hsz:=AM.run_sizeOf (P:=P) (w:=W) hz
 have hload:=run_loadCells_list (P:=P) W a2 vs hsrc
 have hstore:=run_storeCells_at (P:=P) b o t vs 0 cur W hg U h1
 rw[hn]at hload
 have hw:(Qy cur.toList o vs).toArray=(cur.toList.take (o+0)++vs++cur.toList.drop (o+0+vs.length)).toArray:=by unfold Qy;rfl
 simp[Builtin.copy_,run_underlying hT,Builtin.lenOf,Builtin.firstCells,hsz,hm,hload,Result.andThen]
 rw[hstore,hw]
def QnQ(w)(tS tR e)(ht:P.underlying tS=some (.slice e))(size)(hz:∀w,(Go.sizeOf e).run P w=.ok size w)(a b)(la ca lb cb)(hne:a.block≠b.block)(ha:w.heap[a.block]?=some (.cells csA tA fA))(hb:w.heap[b.block]?=some (.cells cs t (0,0)))(hk:cs.size≠0)(hkA:csA.size≠0):
  (Extern.SlicesOverlaps.overlaps #[tS,tS] #[tR] #[.slice (some a) la ca,.slice (some b) lb cb]).run P w=.ok (.bool false) w:=by
 have hnb:(a.block != b.block)=true:=by simpa using hne
 have hnb':(a.block == b.block)=false:=by simpa using hne
 have hsa:w.shape? a.block=some (tA,csA.size):=by simp[World.shape?,ha]
 have hsb:w.shape? b.block=some (t,cs.size):=by simp[World.shape?,hb]
 have hfb:∀o s,w.frozen? { block:=b.block,off:=o,spot:=s }=false:=fun o s=>by simp[World.frozen?,hb]
 have hfb':w.frozen? b=false:=by simp[World.frozen?,hb]
 obtain⟨f1,hf1⟩:∃f1,w.frozen? a=f1:=⟨_,rfl⟩
 obtain⟨f2,hf2⟩:∃f2,w.frozen? { block:=a.block,off:=csA.size }=f2:=⟨_,rfl⟩
 change Sem.run P (α:=AE) (do
  let some t:=(#[tS,tS]:Array AD)[0]?|stuck "slices.overlaps: no parameter types"
  let .slice elem <-underlying t|stuck "slices.overlaps: slice type expected"
  let size <-sizeOf elem
  match (some a:O Addr),(some b:O Addr)with
  |some a,some b=>
   if la=0\/lb=0\/size=0 then pure (Value.bool false)
   else if a.block != b.block && (<-frozen a) && (<-frozen b)then unsupported .addressObserved
   else do
    if a.block != b.block then do
     noView a;noView b
     if <-mayBeOne a b then return Value.bool ((<-choose (.extern "sameAddr.stringBytes" 2)) == 1)
    pure (Value.bool (a.block == b.block && a.off<b.off+lb*size && b.off<a.off+la*size))
  |_,_=>pure (Value.bool false)) w=_
 by_cases h0:la=0\/lb=0\/size=0
 .simp[run_underlying ht,hz,h0]
 .obtain⟨kB,hkB⟩:∃kB,cs.size=kB+1:=⟨cs.size - 1,U⟩
  rw[hkB]at hsb
  obtain⟨kA,hkA'⟩:∃kA,csA.size=kA+1:=⟨csA.size - 1,U⟩
  rw[hkA']at hsa hf2
  cases f1<;>cases f2<;>
   simp[run_underlying ht,hz,h0,hnb,hnb',frozen,noView,viewAt,mayBeOne,stringish,shape,Sem.run,hsa,hsb,hfb,hfb',hf1,hf2]
end
def QoY{α:Type}{l vs:Y α}{k:Nat}(h:k<=l.length):(Qy l k vs).take (k+vs.length)=l.take k++vs:=by
 unfold Qy
 grind
set_option maxHeartbeats 4000000 in
def Qxu(b n c i vb voff vc)(cs csv)(t tv)(fv)(v)(w)(hi:i<n)(hroom:n+1<=c)(hbig:n<=10000000)(hvb:vb≠b)(hb:w.heap[b]?=some (.cells cs t (0,0)))(hsz:c*14<=cs.size)(hv:v.length=14)(hvw:w.heap[vb]?=some (.cells csv tv fv))(hvz:csv.size≠0)(hvs:∀j x,v[j]?=some x->w.cell? ⟨vb,voff+j,none⟩=some x)(h1c:∀x∈(cs.toList.drop (i*14)).take ((n - i)*14),x.oneCell'=true)(h1v:∀x∈v,x.oneCell'=true):
  Calls Tryz.prog 284 #[.slice (some ⟨b,0,none⟩) n c,.int .i64 i,.slice (some ⟨vb,voff,none⟩) 1 vc] w fun e w'=>
   e=.returned (.slice (some ⟨b,0,none⟩) (n+1) c)/\w'=(w.drew.setRow b (Qy cs.toList ((i+1)*14) ((cs.toList.drop (i*14)).take ((n - i)*14))).toArray).setRow b (Qy (Qy cs.toList ((i+1)*14) ((cs.toList.drop (i*14)).take ((n - i)*14))) (i*14) v).toArray:=by
 have hmix:Tryz.prog.follows .mixedOrders=true:=by kernel_rfl
 have hT:Tryz.prog.underlying 37=some (.slice 83):=by kernel_rfl
 have hz:Zk Tryz.prog 83=some 14:=by kernel_rfl
 have hsize:∀w,(Go.sizeOf 83).run Tryz.prog w=.ok 14 w:=fun w=>AM.run_sizeOf hz w
 have hle:(n+1)*14<=cs.size:=AX (As 14 hroom) hsz
 obtain⟨vs,hvs1⟩:∃vs,(cs.toList.drop (i*14)).take ((n - i)*14)=vs:=⟨_,rfl⟩
 have hvl:vs.length=(n - i)*14:=by rw[<-hvs1];simp;omega
 obtain⟨A1,hA1⟩:∃A1,(Qy cs.toList ((i+1)*14) vs).toArray=A1:=⟨_,rfl⟩
 have hA1s:A1.size=cs.size:=by rw[<-hA1];simp[Qy,hvl];omega
 rw[hvs1]at h1c |-
 have hA1l:Qy cs.toList ((i+1)*14) vs=A1.toList:=by rw[<-hA1]
 rw[hA1l,Ez]
 have hov:∀o lb cb,(callFunc 331 #[.slice (some ⟨vb,voff,none⟩) 1 vc,.slice (some ⟨b,o,none⟩) lb cb]).run Tryz.prog w=.ok (.value (.bool false)) w:=fun o lb cb=>by
  rw[run_callFunc_extern Tryz.func331 (by kernel_rfl) (by kernel_rfl) (by kernel_rfl) (e:=Extern.SlicesOverlaps.overlaps #[37,37] #[4]) (by kernel_rfl),QnQ w 37 4 83 hT 14 hsize ⟨vb,voff,none⟩ ⟨b,o,none⟩ 1 vc lb cb hvb hvw hb U hvz]
  rfl
 have hold:∀q,w.cell? ⟨b,q,none⟩=cs.toList[q]?:=fun q=>by simp[World.cell?,hb]
 have hcp1:∀ty c1 c2,(Builtin.copy_ #[37,37] ty #[.slice (some ⟨b,(i+1)*14,none⟩) (n - i) c1,.slice (some ⟨b,i*14,none⟩) (n+1 - i) c2]).run Tryz.prog w.drew=.ok (goInt ((n - i:Nat):Int)) (w.drew.setRow b A1):=fun ty c1 c2=>by
  rw[<-hA1]
  exact Qlf w.drew 37 83 ty 14 hT hz b _ (n - i) c1 ⟨b,i*14,none⟩ (n+1 - i) c2 (n - i) cs t vs hb (Nat.min_eq_right U) hvl (fun j x hj=>by
   have hj':j<(n - i)*14:=by rw[<-hvl];exact(Az.1 hj).1
   rw[Addr.add_lit]
   rw[<-hvs1,Aq,iB hj',Ap]at hj
   exact(hold _).trans hj) (by rw[hvl];omega) h1c
 have hcp2:∀(W:AG),W.heap=(w.drew.setRow b A1).heap->∀ty c1,(Builtin.copy_ #[37,37] ty #[.slice (some ⟨b,i*14,none⟩) (n+1 - i) c1,.slice (some ⟨vb,voff,none⟩) 1 vc]).run Tryz.prog W=.ok (goInt ((1:Nat):Int)) (W.setRow b (Qy A1.toList (i*14) v).toArray):=fun W hW ty c1=>by
  have hWb:W.heap[b]?=some (.cells A1 t (0,0)):=by rw[hW];exact setRow_heap w.drew b cs A1 t (0,0) hb
  exact Qlf W 37 83 ty 14 hT hz b _ (n+1 - i) c1 ⟨vb,voff,none⟩ 1 vc 1 A1 t v hWb (CC U) (by rw[hv]) (fun j x hj=>by
   rw[Addr.add_lit]
   have:=hvs j x hj
   unfold World.cell? at this |-
   dsimp only at this |-
   rw[hW,setRow_other w.drew b vb A1 hvb]
   exact this) (by rw[hv,hA1s];omega) h1v
 have hcp3:=hcp2 (w.drew.setRow b A1).drew rfl
 have hcp4:=hcp2 (w.drew.setRow b A1) rfl
 have hz2:¬((i:Int)=(n:Int)):=U
 have hw1:IntKind.i64.wrap ((i:Int)+1)=(i:Int)+1:=by rw[IntKind.wrap_i64];omega
 have hw2:IntKind.i64.wrap ((n:Int)+1)=(n:Int)+1:=by rw[IntKind.wrap_i64];omega
 have hb1:(0:Int)<=(i:Int)+1:=U
 have hin:i<=n:=U
 have htn:((i:Int)+1).toNat=i+1:=U
 have htn2:((n:Int)+1).toNat=n+1:=U
 have hb2:¬(c=i+1):=U
 have hb3:(i:Int)<=(n:Int)+1:=U
 have hb4:¬(c=i):=U
 go_enter Tryz.func284,Tryz.ntmps284
 go_wp2_with (simp only[hov])
 go_region_law_o (refine step_copy_runI rfl _ _ 37 37 rfl _ _ (by simp[Act.eval,Act.put]) (by simp[Act.eval,Act.put]) (hcp1 _ _ _) ?_)
 go_wp2
 go_ret
 first|exact⟨rfl,rfl⟩|exact⟨rfl,by rw[Ez]⟩
set_option maxHeartbeats 4000000 in
def QzB(b n c i vb voff vc)(cs csv)(t tv)(fv)(v)(w)(hi:i<n)(hnc:n<=c)(hroom:c<n+1)(hbig:n<=10000000)(hb:w.heap[b]?=some (.cells cs t (0,0)))(hsz:c*14<=cs.size)(hv:v.length=14)(hvw:w.heap[vb]?=some (.cells csv tv fv))(hvs:∀j x,v[j]?=some x->w.cell? ⟨vb,voff+j,none⟩=some x)(h1c:∀x∈(cs.toList.drop (i*14)).take ((n - i)*14),x.oneCell'=true)(h1v:∀x∈v,x.oneCell'=true):
  Calls Tryz.prog 284 #[.slice (some ⟨b,0,none⟩) n c,.int .i64 i,.slice (some ⟨vb,voff,none⟩) 1 vc] w fun e w'=>
   ∃(G:Nat) (A:Array AE),e=.returned (.slice (some ⟨w.heap.size,0,none⟩) (n+1) G)/\n+1<=G/\A.size=G*14/\A.toList.take ((n+1)*14)=cs.toList.take (i*14)++v++(cs.toList.drop (i*14)).take ((n - i)*14)/\
    w'.heap[w.heap.size]?=some (.cells A 83 (0,0))/\Ext (fun _=>False) w w':=by
 have hmix:Tryz.prog.follows .mixedOrders=true:=by kernel_rfl
 have hT:Tryz.prog.underlying 37=some (.slice 83):=by kernel_rfl
 have hT3:Tryz.prog.underlying 3=some (.int .i64):=by kernel_rfl
 have hz:Zk Tryz.prog 83=some 14:=by kernel_rfl
 obtain⟨i0,z,hi0,hz0,hzs,hzb,hzc⟩:=Qcg (P:=Tryz.prog) (e:=83) (es:=14) (bytes:=160) (by kernel_rfl)
 have hbw:b<w.heap.size:=(CE.1 hb).1
 have hvw':vb<w.heap.size:=(CE.1 hvw).1
 have hle:n*14<=cs.size:=AX (As 14 hnc) hsz
 have hold:∀q,w.cell? ⟨b,q,none⟩=cs.toList[q]?:=fun q=>by simp[World.cell?,hb]
 obtain⟨vs,hvs1⟩:∃vs,(cs.toList.drop (i*14)).take ((n - i)*14)=vs:=⟨_,rfl⟩
 have hvl:vs.length=(n - i)*14:=by rw[<-hvs1];simp;omega
 rw[hvs1]at h1c |-
 have hold0:(Builtin.firstCells i0.size i (.slice (some ⟨b,0,none⟩) i c)).run Tryz.prog w.drew=.ok (cs.toList.take (i*14)).toArray w.drew:=by
  rw[hzs]
  exact run_firstCells_some w.drew 14 i ⟨b,0,none⟩ i c (cs.toList.take (i*14)) (by rw[Ae];simp;omega) (fun j x hj=>by
   rw[Addr.add_lit,Ag]
   rw[Aq]at hj
   split at hj
   .exact(hold _).trans hj
   .cases hj)
 obtain⟨G,hG⟩:∃G,G=grownCap w (n+1) c 83:=⟨_,rfl⟩
 obtain⟨ROW,hROW⟩:∃ROW:Array AE,ROW=(cs.toList.take (i*14)).toArray++Builtin.zeroCells z.cells (n+1 - i)++Builtin.zeroCells z.cells (G - (n+1)):=⟨_,rfl⟩
 have hGn:n+1<=G:=by rw[hG];exact grownCap_ge w _ _ _
 have hG63:G<=9223372036854775807:=by
  have:=grownCap_le_maxLen w (n+1) c 83 (by unfold maxLen;omega)
  rw[<-hG]at this
  unfold maxLen at this
  omega
 have hik:i+(n+1 - i)=n+1:=U
 have hrz:∀ty,(Builtin.append_ #[37,3] ty #[.slice (some ⟨b,0,none⟩) i c,.int .i64 ((n:Int)+1 - (i:Int))]).run Tryz.prog w =
   .ok (.slice (some ⟨w.heap.size,0,none⟩) (n+1) G) (w.drew.alloc (.cells ROW 83)):=fun ty=>by
  have h:=Lib.run_append_grow_zeros w 37 3 ty 83 i0 _ .i64 .i64 hT hT3 hi0 hz0 (some ⟨b,0,none⟩) i c (cs.toList.take (i*14)) hold0 (n+1 - i) U U U U (by rw[hzb];omega) (by rw[hzb,hik];exact growslice_fits hroom U)
  rw[hik,<-hG,<-hROW]at h
  rw[show(n:Int)+1 - (i:Int)=((n+1 - i:Nat):Int)by omega]
  exact h
 have hRs:ROW.size=G*14:=by
  rw[hROW]
  simp only[En,UX,hzc,B1,Ae,BU]
  omega
 have hNb:(w.drew.alloc (.cells ROW 83)).heap[w.heap.size]?=some (.cells ROW 83 (0,0)):=ZZ w.drew _
 have hOth:∀k,k<w.heap.size->(w.drew.alloc (.cells ROW 83)).heap[k]?=w.heap[k]?:=fun k hk=>Below.heap_alloc w.drew _ k hk
 obtain⟨A1,hA1⟩:∃A1,(Qy ROW.toList (i*14) v).toArray=A1:=⟨_,rfl⟩
 have hA1s:A1.size=ROW.size:=by rw[<-hA1];simp[Qy,hv];omega
 obtain⟨A2,hA2⟩:∃A2,(Qy A1.toList ((i+1)*14) vs).toArray=A2:=⟨_,rfl⟩
 have hA2s:A2.size=ROW.size:=by rw[<-hA2,<-hA1s];simp[Qy,hvl];omega
 have hfin:A2.toList.take ((n+1)*14)=cs.toList.take (i*14)++v++vs:=by
  have e1:A1.toList.take ((i+1)*14)=cs.toList.take (i*14)++v:=by
   rw[<-hA1,show(i+1)*14=i*14+v.length by omega,C6,QoY (by simp;omega),hROW]
   congr 1
   simp only[Array.toList_append,C6,Ay]
   rw[Ca (by simp;omega),CQ,C7]
  rw[<-hA2,show(n+1)*14=(i+1)*14+vs.length by omega,C6,QoY (by simp;omega),e1]
 have hcpA:∀(W:AG),W.heap=(w.drew.alloc (.cells ROW 83)).heap->∀ty c1,(Builtin.copy_ #[37,37] ty #[.slice (some ⟨w.heap.size,i*14,none⟩) (n+1 - i) c1,.slice (some ⟨vb,voff,none⟩) 1 vc]).run Tryz.prog W=.ok (goInt ((1:Nat):Int)) (W.setRow w.heap.size A1):=fun W hW ty c1=>by
  rw[<-hA1]
  exact Qlf W 37 83 ty 14 hT hz _ _ (n+1 - i) c1 ⟨vb,voff,none⟩ 1 vc 1 ROW 83 v (by rw[hW];exact hNb) (CC U) (by rw[hv]) (fun j x hj=>by
   rw[Addr.add_lit]
   have:=hvs j x hj
   unfold World.cell? at this |-
   dsimp only at this |-
   rw[hW,hOth vb hvw']
   exact this) (by rw[hv];omega) h1v
 have hcpB:∀(W:AG),W.heap=((w.drew.alloc (.cells ROW 83)).setRow w.heap.size A1).heap->∀ty c1 c2,(Builtin.copy_ #[37,37] ty #[.slice (some ⟨w.heap.size,(i+1)*14,none⟩) (n - i) c1,.slice (some ⟨b,i*14,none⟩) (n - i) c2]).run Tryz.prog W=.ok (goInt ((n - i:Nat):Int)) (W.setRow w.heap.size A2):=fun W hW ty c1 c2=>by
  rw[<-hA2]
  exact Qlf W 37 83 ty 14 hT hz _ _ (n - i) c1 ⟨b,i*14,none⟩ (n - i) c2 (n - i) A1 83 vs (by rw[hW];exact setRow_heap _ _ ROW A1 83 (0,0) hNb) (C7 _) hvl (fun j x hj=>by
   have hj':j<(n - i)*14:=by rw[<-hvl];exact(Az.1 hj).1
   rw[Addr.add_lit]
   rw[<-hvs1,Aq,iB hj',Ap]at hj
   have:=(hold (i*14+j)).trans hj
   unfold World.cell? at this |-
   dsimp only at this |-
   rw[hW,setRow_other _ _ _ A1 U,hOth b hbw]
   exact this) (by rw[hvl];omega) h1c
 have hz2:¬((i:Int)=(n:Int)):=U
 have hz3:(c:Int)<(n:Int)+1:=U
 have hw1:IntKind.i64.wrap ((i:Int)+1)=(i:Int)+1:=by rw[IntKind.wrap_i64];omega
 have hw2:IntKind.i64.wrap ((n:Int)+1)=(n:Int)+1:=by rw[IntKind.wrap_i64];omega
 have hw3:IntKind.i64.wrap ((n:Int)+1 - (i:Int))=(n:Int)+1 - (i:Int):=by rw[IntKind.wrap_i64];omega
 have hb1:(0:Int)<=(i:Int)+1:=U
 have hin:i<=n:=U
 have htn:((i:Int)+1).toNat=i+1:=U
 have hb3:(i:Int)<=(n:Int)+1:=U
 have hb4:¬(c=i):=U
 have hGi:¬(G=i):=U
 have hGim:¬(G=i+1):=U
 have hcpA1:=hcpA (w.drew.alloc (.cells ROW 83)) rfl
 have hcpA2:=hcpA ((w.alloc (.cells ROW 83)).drew) rfl
 have hcpB1:=hcpB (((w.alloc (.cells ROW 83)).drew.setRow w.heap.size A1).drew) rfl
 clear hG hROW hold0 hik hA1 hA2
 go_enter Tryz.func284,Tryz.ntmps284
 go_wp2_with (at_builtin;refine Lib.wpList_append_run _ rfl _ _ _ _ rfl _ _ rfl rfl _ _ (hrz _) ?_)
 go_region_law_o (refine step_copy_runI rfl _ _ 37 37 rfl _ _ (by simp[Act.eval,Act.put]) (by simp[Act.eval,Act.put]) (hcpB _ rfl _ _ _) ?_)
 go_wp2
 go_ret
 refine⟨G,A2,rfl,hGn,by rw[hA2s,hRs],hfin,?_,?_⟩
 .exact setRow_heap _ _ A1 A2 83 (0,0) (setRow_heap _ _ ROW A1 83 (0,0) hNb)
 .refine⟨by simp[World.setRow],fun k hk _=>?_,rfl,rfl⟩
  exact(setRow_other _ _ _ A2 U).trans ((setRow_other _ _ _ A1 U).trans (hOth k hk))
def QzD(h:RR ρ H M w rows cr)(h2:AV.Rs ρ H M w (pcells row) c):
  RR ρ H M w (rows.take i++row::rows.drop i) (cr.take i++c::cr.drop i):=by
 have htake:∀{rows:Y (Y PV)} {cr:Y (Y AE)} (i:Nat),RR ρ H M w rows cr->RR ρ H M w (rows.take i) (cr.take i)/\RR ρ H M w (rows.drop i) (cr.drop i):=by
  intro rows
  induction rows with
  |nil=>intro cr i h;simp only[RR]at h;subst h;simp[RR]
  |cons r rs ih=>
   intro cr i h
   cases i with
   |zero=>exact⟨by simp[RR],by simpa using h⟩
   |succ i=>
    simp only[RR]at h
    obtain⟨c0,cr',rfl,g1,g2⟩:=h
    obtain⟨k1,k2⟩:=ih i g2
    simp only[CR,Cj,RR]
    grind
 obtain⟨k1,k2⟩:=htake i h
 refine k1.append ?_
 simp only[RR]
 grind
def QzE{rows:Y (Y PV)}{row:Y PV}{i:Nat}(f:AH)(hi:i<rows.length)(hl:rows.length<=10000000)(hrow:row.length=14):
  WG Tryz.prog 284 [.own 101 rows.length,.p (.v (.int .i64 i)),.p (.sl f 14 [row])] [(101,.TI 14 rows)] (.own 101 (rows.length+1)) [(101,.TI 14 (rows.take i++row::rows.drop i))]:=by
 intro G ρ M w us hG hM hargs hobj hinj
 simp only[AV.Ts]at hargs
 obtain⟨u0,_,rfl,a0,u1,_,rfl,a1,u2,_,rfl,a2,rfl⟩:=hargs
 simp only[AV.R,PV.R]at a0 a1 a2
 have hob:=hobj 101 _ (show AM.C 101 [(101,AO.TI 14 rows)]=some (.TI 14 rows)from rfl)
 have hu0:=(a0.2 (.TI 14 rows) 14 rows.length rfl rfl).2 rfl
 obtain⟨hes,hcap,hobj'⟩:=hob
 obtain⟨ad,vc,rfl,hvc,_,hnone,hsome⟩:=a2
 have hvc':1<=vc:=by simpa using hvc
 cases ad with
 |none=>exact absurd (hnone rfl) U
 |some ad=>
 obtain⟨hspot,hMad,hadw,hrows⟩:=hsome ad rfl U
 obtain⟨vb,voff,sp⟩:=ad
 dsimp only at hspot hMad hadw hrows
 subst hspot
 rcases hobj' with h0|⟨b,T,cs,h3,h4,h5,h6,h7⟩
 .exact absurd hcap (by rw[h0];omega)
 simp only[PV.Rows]at hrows
 obtain⟨_,hcells,_⟩:=hrows
 obtain⟨cv,cv1,cv2⟩:=Qb9 (ρ:=ρ) (H:=XV [(101,AO.TI 14 rows)]) hcells
 obtain⟨cr,m1,m2,m3⟩:=RR.of_Rows (ρ:=ρ) (H:=XV [(101,AO.TI 14 rows)]) h7
 have hcvl:cv.length=14:=by rw[cv1.length];simp[pcells,hrow]
 have hcrl:=m1.length
 have hlen:=m1.len m2
 have hflat:cr.flatten.length=rows.length*14:=by rw[WH hlen,hcrl]
 have hcsl:rows.length*14<=cs.size:=AX (As 14 hcap) h6
 have hcs:cs.toList.take (rows.length*14)=cr.flatten:=by
  refine Ch fun j=>?_
  rw[Aq]
  split
  .rename_i hj
   have:=m3 j (cr.flatten[j]'U) (AU U)
   rw[Ag]at this
   rw[AU (l:=cr.flatten) U,<-this]
   simp[World.cell?,h5]
  .rw[EF U]
 have hmid:(cs.toList.drop (i*14)).take ((rows.length - i)*14)=(cr.drop i).flatten:=by
  rw[<-QiM i hlen,<-hcs,C8,Nat.sub_mul]
 have hpre:cs.toList.take (i*14)=(cr.take i).flatten:=by
  rw[<-Qml i hlen,<-hcs,CQ,CC (As 14 U)]
 have hvb:vb≠b:=fun e=>hMad (by rw[e];exact h4)
 have hvblk:∃csv tv fv,w.heap[vb]?=some (.cells csv tv fv)/\csv.size≠0:=by
  have hc:=cv2 0 (cv[0]'U) (AU U)
  simp only[World.cell?]at hc
  split at hc
  .rename_i csv tv fv hh
   refine⟨csv,tv,fv,hh,fun e=>?_⟩
   have:csv=#[]:=Array.eq_empty_of_size_eq_zero e
   subst this;simp at hc
  all_goals simp at hc
 obtain⟨csv,tv,fv,hvw,hvz⟩:=hvblk
 have h1c:∀x∈(cs.toList.drop (i*14)).take ((rows.length - i)*14),x.oneCell'=true:=by
  rw[hmid]
  intro x hx
  refine m1.one x ?_
  rw[<-Bw i cr,Eo]
  exact CD _ hx
 have h1v:∀x∈cv,x.oneCell'=true:=Qob cv1
 have hfl2:(cr.take i++cv::cr.drop i).flatten=(cr.take i).flatten++cv++(cr.drop i).flatten:=Ob
 have hrl:(rows.take i++row::rows.drop i).length=rows.length+1:=by simp;omega
 have hr14:∀r∈rows.take i++row::rows.drop i,r.length=14:=by
  intro r hr
  rcases Ai.1 hr with hr|hr
  .exact m2 r (Bp hr)
  .rcases AY.1 hr with rfl|hr
   .exact hrow
   .exact m2 r (Bq hr)
 have hall:=QzD (i:=i) m1 cv1
 have hfl3:(cr.take i++cv::cr.drop i).flatten.length=(rows.length+1)*14:=by rw[WH (hall.len hr14),hall.length,hrl]
 rw[hu0,h3,a1.1]
 have hblk:(ρ 101).blk=some b:=by
  have:(ρ 101).cap≠0:=U
  simp[Loc.blk,this,h3]
 have hown:∀(n:Name) (o:AO),AM.C n [(101,AO.TI 14 (rows.take i++row::rows.drop i))]=some o->n=101/\o=.TI 14 (rows.take i++row::rows.drop i):=fun n o hn=>by
  simp only[AM.C]at hn
  split at hn
  .rename_i e;cases hn;exact⟨e.symm,rfl⟩
  .simp at hn
 have fin:∀(ρ':Name->AM.Loc) (w':AG) (u:AE) (b':Nat) (T':AD) (A:Array AE),(ρ' 101).base=some ⟨b',0,none⟩->rows.length+1<=(ρ' 101).cap->(ρ' 101).cap*14<=A.size->w'.heap[b']?=some (.cells A T' (0,0))->
   A.toList.take ((rows.length+1)*14)=(cr.take i++cv::cr.drop i).flatten->(∀b1,b1<w.heap.size->newM M ρ' [(101,AO.TI 14 (rows.take i++row::rows.drop i))] b1->M b1)->Ext (fun b1=>b1=b) w w'->
   ((ρ' 101).blk=some b->(ρ 101).blk=some b\/w.heap.size<=b)->(∀b1,(ρ' 101).blk=some b1->b1=b\/w.heap.size<=b1)->u=.slice (ρ' 101).base (rows.length+1) (ρ' 101).cap->
   After ρ M w [(101,AO.TI 14 rows)] u (.own 101 (rows.length+1)) [(101,AO.TI 14 (rows.take i++row::rows.drop i))] ρ' w':=fun ρ' w' u b' T' A e1 e2 e3 e4 e5 e6 e7 _ e9 e10=>by
  have hst:=hall.step (ρ':=ρ') (H':=XV [(101,AO.TI 14 (rows.take i++row::rows.drop i))]) (M':=newM M ρ' [(101,AO.TI 14 (rows.take i++row::rows.drop i))]) e7 (fun b1 hb1=>by rw[hb1];exact h4) e6
  refine⟨?_,?_,?_,?_,?_,?_⟩
  .simp only[AV.R]
   refine⟨by rw[e10];rfl,fun o es k hn hs=>?_⟩
   obtain⟨_,rfl⟩:=hown _ _ hn
   cases hs
   exact⟨U,fun _=>e10⟩
  .intro n o hn
   obtain⟨rfl,rfl⟩:=hown _ _ hn
   refine⟨U,by rw[hrl];exact e2,.inr ⟨b',T',A,e1,.inr ⟨101,_,rfl,?_⟩,e4,e3,?_⟩⟩
   .have:(ρ' 101).cap≠0:=U
    simp[Loc.blk,this,e1]
   .refine QbZ hst hr14 fun j x hj=>?_
    have hj':j<(rows.length+1)*14:=by rw[<-hfl3];exact(Az.1 hj).1
    rw[<-e5,Aq,iB hj']at hj
    simpa [World.cell?,e4]using hj
  .intro n m o o' b1 hn hm _ _
   rw[(hown _ _ hn).1,(hown _ _ hm).1]
  .intro n o b1 hn hb1
   obtain⟨rfl,rfl⟩:=hown _ _ hn
   rcases e9 b1 hb1 with rfl|h
   .exact .inl ⟨_,rfl,hblk⟩
   .exact .inr h
  .exact e7.weaken fun b1 _ hb1=>⟨101,_,rfl,by rw[hb1];exact hblk⟩
  .intro n o hn
   have hn':n=101/\o=.TI 14 rows:=by
    simp only[AM.C]at hn
    split at hn
    .rename_i e;cases hn;exact⟨e.symm,rfl⟩
    .simp at hn
   obtain⟨rfl,rfl⟩:=hn'
   exact⟨_,rfl,rfl,by rw[hrl];omega,fun e=>by rw[hrl]at e;omega⟩
 by_cases hroom:rows.length+1<=(ρ 101).cap
 .refine(Qxu b rows.length (ρ 101).cap i vb voff vc cs csv T tv fv cv w hi hroom hl hvb h5 h6 hcvl hvw hvz cv2 h1c h1v).mono ?_
  rintro e w' ⟨rfl,rfl⟩
  rw[hmid]
  have hml:(cr.drop i).flatten.length=(rows.length - i)*14:=by rw[WH fun r hr=>hlen r (Bq hr),Bn,hcrl]
  have hs1:(Qy cs.toList ((i+1)*14) (cr.drop i).flatten).toArray.size=cs.size:=by simp[Qy,hml];omega
  have hb1:=setRow_heap w.drew b cs (Qy cs.toList ((i+1)*14) (cr.drop i).flatten).toArray T (0,0) h5
  have hb2:=setRow_heap _ b _ (Qy (Qy cs.toList ((i+1)*14) (cr.drop i).flatten) (i*14) cv).toArray T (0,0) hb1
  refine⟨_,_,_,ρ,rfl,⟨rfl,rfl⟩,fin ρ _ _ b T _ h3 hroom ?_ hb2 ?_ ?_ ?_ (fun h=>.inl h) (fun b1 h=>.inl (by rw[hblk]at h;exact(Be h).symm)) (by rw[h3])⟩
  .refine AX h6 ?_;simp[Qy,hml,hcvl];omega
  .rw[C6,hfl2]
   have e1:(Qy cs.toList ((i+1)*14) (cr.drop i).flatten).take (i*14)=(cr.take i).flatten:=by
    unfold Qy
    rw[Ay,Ca (by simp;omega),CQ,CC U,hpre]
   have e2:(Qy cs.toList ((i+1)*14) (cr.drop i).flatten).drop (i*14+cv.length)=(cr.drop i).flatten++cs.toList.drop ((i+1)*14+(cr.drop i).flatten.length):=by
    unfold Qy
    rw[Ay,show i*14+cv.length=(cs.toList.take ((i+1)*14)).length by simp;omega,List.drop_left]
   show(List.take (i*14) _++cv++List.drop (i*14+cv.length) _).take _=_
   rw[e1,e2,<-Ay,Ca (by simp only[Ac,hml,hcvl];rw[<-hpre];simp;omega),Bl (by simp only[Ac,hml,hcvl];rw[<-hpre];simp;omega)]
  .rintro b1 _ (h|⟨n,o,hn,h⟩)
   .exact h
   .obtain⟨rfl,_⟩:=hown _ _ hn
    rw[hblk]at h
    rw[<-Be h];exact h4
  .refine⟨by simp[World.setRow],fun b1 _ hne=>?_,rfl,rfl⟩
   exact(setRow_other _ b b1 _ hne).trans (setRow_other _ b b1 _ hne)
 .refine(QzB b rows.length (ρ 101).cap i vb voff vc cs csv T tv fv cv w hi hcap U hl h5 h6 hcvl hvw cv2 h1c h1v).mono ?_
  rintro e w' ⟨G',A,rfl,g1,g2,g3,g4,g5⟩
  have hcap':(G':Nat)≠0:=U
  refine⟨_,_,_,(fun m=>if m=101 then⟨some ⟨w.heap.size,0,none⟩,G'⟩else ρ m),rfl,⟨rfl,rfl⟩,fin _ _ _ w.heap.size 83 A rfl g1 (EW g2.symm) g4 ?_ ?_ ?_ ?_ ?_ rfl⟩
  .rw[g3,hfl2,hpre,hmid]
  .rintro b1 hb1 (h|⟨n,o,hn,h⟩)
   .exact h
   .obtain⟨rfl,_⟩:=hown _ _ hn
    have:w.heap.size=b1:=by simpa [Loc.blk,hcap']using h
    omega
  .exact g5.weaken fun b1 _ h=>h.elim
  .intro h
   have:w.heap.size=b:=by simpa [Loc.blk,hcap']using h
   exact .inr U
  .intro b1 h
   have:w.heap.size=b1:=by simpa [Loc.blk,hcap']using h
   exact .inr U
noncomputable section
def QB(fu:Nat)(p0:Y D.Page)(p1:Int)(p2:Y D.Page):O (Y D.Page):=
 if p1=(p0.length:Int)then XR fu p0 p1 p2 else TK p1 fun i=>TP i p0.length (TO p0.length 10000000 (match p2 with|[x]=>some (p0.take i++x::p0.drop i)|_=>none))
def QeY(fu:Nat):Sig:=Ql [.one (.own 101),.one (.TZ .i64),.one (.TQ .Page)] [(101,.TI .Page)] [.one (.own 101)] [(101,.TI .Page)] [] (Y D.Page) (fun q=>((),(q,()))) (fun x y=>QB fu y.1 x.1 x.2.1)
def Qd8(fu):FnOK Tryz.prog 284 (QeY fu):=by
 refine⟨fun R x y K r h=>?_,fun x y a b h L0 hL0=>?_⟩
 .obtain⟨q,hq,h⟩:=Y2 h
  obtain⟨h',hle⟩:=QfO h
  refine⟨_,_,?_,h'⟩
  show V (QB fu y.1 x.1 x.2.1) _=_
  rw[show QB fu y.1 x.1 x.2.1=some q from hq]
  exact Qeq h
 .obtain⟨j,vl,⟨⟩⟩:=x
  obtain⟨l,⟨⟩⟩:=y
  change Y D.Page at l
  change Y D.Page at vl
  change Int at j
  by_cases hj:j=(l.length:Int)
  .refine(QeX fu).spec (j,vl,()) (l,()) a b ?_ L0 hL0
   have e:QB fu l j vl=XR fu l j vl:=by unfold QB;rw[iB hj]
   have h':(V (QB fu l j vl) fun q=>lenB [(101,OSh.TI .Page)] (l,()) [(101,OSh.TI .Page)] (q,()) (some ((),(q,()))))=some (a,b):=h
   rw[e]at h'
   exact h'
  .obtain⟨q,hq,h⟩:=Y2 h
   obtain⟨h',_⟩:=QfO h
   obtain⟨rfl,rfl⟩:=C4 (Be h')
   replace hq:QB fu l j vl=some q:=hq
   unfold QB at hq
   rw[iA hj]at hq
   obtain⟨i,rfl,hq⟩:=QaX hq
   obtain⟨hi,hq⟩:=QiU hq
   obtain⟨hl,hq⟩:=ZV hq
   have hvl:∃x,vl=[x]:=by
    rcases vl with _|⟨x,_|⟨x2,r⟩⟩
    .exact absurd hq Ob
    .exact⟨x,rfl⟩
    .exact absurd hq Ob
   obtain⟨x,rfl⟩:=hvl
   replace hi:i<l.length:=hi
   replace hq:some (l.take i++x::l.drop i)=some q:=hq
   have hq:=Be hq
   have e0:L0 101 0=l.length:=hL0 101 _ _ 0 rfl
   have hlm:(l.map (tcells .Page)).length=l.length:=AZ ..
   have hs:=QzE (rows:=l.map (tcells .Page)) (row:=tcells .Page x) (i:=i) false (hlm ▸ hi) (hlm ▸ hl) rfl
   have e1:(l.map (tcells .Page)).take i++tcells .Page x::(l.map (tcells .Page)).drop i=q.map (tcells .Page):=by rw[<-hq];simp
   have e2:(l.map (tcells .Page)).length+1=q.length:=by rw[<-hq];simp;omega
   rw[e1,e2,hlm,<-e0]at hs
   refine⟨fun m u=>if m=101/\u=1 then q.length else L0 m u,fun n hn=>?_,fun n t l' v hn=>?_,?_⟩
   .show(if n=101/\(0:Nat)=1 then q.length else L0 n 0)=L0 n 0
    rw[iA Ob]
   .change AM.C n [(101,BO.TI .Page q 1)]=_ at hn
    simp only[AM.C]at hn
    split at hn
    .rename_i e;cases hn;exact iB ⟨e.symm,rfl⟩
    .simp at hn
   .exact hs
end
end Go.Proofs.YtlllfgmajglnhaaGreat
