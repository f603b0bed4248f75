/-
  Replicas: what the reference's functions of logs compute.
-/
import Derived.Test.YtlllfgmajglnhaaGreatQRowDriE
import Derived.Test.YtlllfgmajglnhaaGreatQRowDriD
set_option maxRecDepth 100000
set_option linter.defProp false
set_option linter.constructorNameAsVariable false
set_option linter.unusedVariables false
set_option linter.unusedSimpArgs false
set_option autoImplicit true
set_option relaxedAutoImplicit true
namespace Go.Proofs.YtlllfgmajglnhaaGreat
open Go AM
section
section
def Qva(h:i<=W2 L E)(h1:i<L.length)(h2:i<E.length)(h3:trm L i=trm E i):i+1<=W2 L E:=by
 rcases Ay i (W2 L E)with g|g
 .exact g
 .have e:W2 L E=i:=U
  rcases Qjh (L:=L) (E:=E) U with y|y
  .omega
  .simp_all
def Qvb(h:i<=W2 L E)(h2:i<E.length)(h3:L.length<=i\/trm L i≠trm E i):W2 L E=i:=by
 have h4:=(QeE (L:=L) (E:=E)).2
 rcases Ay i (W2 L E)with g|g
 .rcases h3 with y|y
  .omega
  .exact absurd (QmN g) y
 .omega
def QwQ{L E:Y D.m}{p:Nat}(hl:L.length<=900)(he:E.length<=900)(hp:p<=L.length):QgR 1000 L (p:Int) E=some ((Qaw L p E).1,((Qaw L p E).2:Int)):=by
 have hdl:(L.drop p).length=L.length - p:=Ob
 have stop:∀{i:Nat},i<E.length->i<=W2 (L.drop p) E->((L.drop p).length<=i\/trm (L.drop p) i≠trm E i)->Qaw L p E=(L.take (p+i)++E.drop i,p+i)/\p+i<=L.length:=fun{i} h1 h2 h3=>by
  have e:=Qvb h2 h1 h3
  have h4:=(QeE (L:=L.drop p) (E:=E)).2
  unfold Qaw
  grind
 refine Ok.eq ?_
 unfold QgR
 refine Ok.loop (fun m x=>∃i:Nat,x=((L,(p:Int),E,(i:Int),()),())/\i<=E.length/\i<=W2 (L.drop p) E/\m=E.length - i) (m:=E.length) U ⟨0,rfl,U,U,rfl⟩ ?_
 rintro m x ⟨i,rfl,i1,i2,rfl⟩ K hK
 dsimp only
 have hs:=(QeE (L:=L.drop p) (E:=E)).2
 refine Ok.ite (fun g=>?_) (fun g=>?_)
 .rw[Qb (x:=(p:Int)+i) U]
  refine Ok.j (Ok.ite (fun g2=>?_) fun g2=>?_)
  .obtain⟨e,e2⟩:=stop (i:=i) U i2 (.inl U)
   have e3:min ((p:Int)+i) (L.length:Int)=((p+i:Nat):Int):=U
   rw[e3,e]
   exact Ok.natn (Ok.TO e2 (Ok.LS (Ok.natn (Ok.L (Ok.LS (Ok.s rfl))))))
  .refine Ok.at U U (Ok.A ?_)
   have et:(V L ((p:Int)+i).toNat).Q=trm (L.drop p) i:=by
    rw[QgX];show(V L _).Q=(V L _).Q;congr 2<;>omega
   rw[et]
   refine Ok.ite (fun g3=>?_) fun g3=>?_
   .obtain⟨e,e2⟩:=stop (i:=i) U i2 (.inr g3)
    have e3:min ((p:Int)+i) (L.length:Int)=((p+i:Nat):Int):=U
    rw[e3,e]
    exact Ok.natn (Ok.TO e2 (Ok.LS (Ok.natn (Ok.L (Ok.LS (Ok.s rfl))))))
   .dsimp only
    rw[Qa U]
    exact hK _ _ U ⟨i+1,rfl,U,Qva i2 U U (Ak.1 g3),rfl⟩
 .have e:Qaw L p E=(L,L.length):=by
   have:=(QeE (L:=L.drop p) (E:=E)).1
   unfold Qaw;rw[iB U]
  rw[e]
  exact Ok.L (Ok.s rfl)
def QvG(hc:CkR n r)(he:m.q.length<=600):Ok (QgQ 1000 n r m) fun x=>∃b c,(b=true->CkM n r m 3)/\outM x=XK b c r m/\U2 1000 n r m 3=some b/\(c=false->Y6 1000 (Qaw (hrdV r m).j m.z.toNat m.q).1 m.Q=some false):=by
 have hl:r.j.length<=256:=hc.log
 unfold QgQ
 refine Ok.j (Ok.opt (QzI U).self fun b ⟨hb,hto⟩=>?_)
 have none:∀{z:D.c},(b=false\/m.z<0\/m.FT<0\/m.d<0)->Ok (O (Wq 1000 r) fun a=>some (a,z,false)) fun x=>∃b c,(b=true->CkM n r m 3)/\outM x=XK b c r m/\U2 1000 n r m 3=some b/\(c=false->Y6 1000 (Qaw (hrdV r m).j m.z.toNat m.q).1 m.Q=some false):=fun{z} hn=>Ok.oe hc.copy (Ok.s ⟨b,true,hb,by unfold XK;rw[iB hn];rfl,hto,Ob⟩)
 refine Ok.C (fun g=>?_) fun g=>none (.inl g)
 have hm:=hb g
 rw[g]at hto
 refine Ok.ite (fun z=>none (.inr (.inl z))) fun p1=>Ok.ite (fun z=>none (.inr (.inr (.inl z)))) fun p2=>Ok.ite (fun z=>none (.inr (.inr (.inr z)))) fun p3=>?_
 dsimp only
 have hn0:¬(true=false\/m.z<0\/m.FT<0\/m.d<0):=by simp;omega
 refine Ok.oe hc.copyP (Ok.oe Qtu (Ok.TG (fun y=>∃w w',y=((),r,m,w,w',hrdV r m,())) (fun y hy=>?_) fun zG hJ=>?_))
 .obtain⟨w,w',rfl⟩:=hy
  dsimp only
  obtain⟨z,hz⟩:∃z,z=hrdV r m:=⟨_,rfl⟩
  have hzl:z.j.length=r.j.length:=by rw[hz,Qiy.2]
  rw[<-hz]
  clear hb none
  refine Ok.TG (fun y=>∃b w w',y=((b,()),r,m,w,w',z,())/\(b=true↔(m.Q=z.Q/\z.FA≠2/\m.z<=z.j.length/\(m.z=0\/trm z.j (m.z.toNat - 1)=m.FT)))) (fun y hy=>?_) fun zG hJ=>?_
  .obtain⟨b,w,w',rfl,hb⟩:=hy
   dsimp only
   refine Ok.ncnd (fun g=>Ok.s ⟨true,true,fun _=>hm,?_,hto,Ob⟩) fun g=>?_
   .unfold XK
    rw[iA hn0,<-hz,iA (fun h=>by rw[hb.2 h]at g;simp at g)];rfl
   .have hon:=hb.1 g
    have hj:=QwQ (p:=m.z.toNat) (L:=z.j) (E:=m.q) U U U
    rw[show(m.z.toNat:Int)=m.z by omega]at hj
    have hjl:(Qaw z.j m.z.toNat m.q).1.length<=900:=by
     unfold Qaw;split
     .dsimp only;omega
     .grind
    refine Ok.oe hj (Ok.j (Ok.opt (Qwz hjl).self fun c ⟨_,hft⟩=>Ok.C (fun g2=>Ok.ite (fun g3=>Ok.oe hc.copy (Ok.s ⟨true,true,fun _=>hm,?_,hto,Ob⟩)) fun g3=>Ok.s ⟨true,true,fun _=>hm,?_,hto,Ob⟩) fun g2=>Ok.oe hc.copy (Ok.s ⟨true,false,fun _=>hm,?_,hto,fun _=>by rw[hft,g2]⟩)))
    .unfold XK
     rw[iA hn0,<-hz,iB hon,iB (.inr g3)];rfl
    .unfold XK
     simp only[outM,if_true]
     rw[iA hn0,<-hz,iB hon,iA (by simp;omega),Qb U]
    .unfold XK
     rw[iA hn0,<-hz,iB hon,iB (.inl rfl)];rfl
  .refine Ok.ite (fun g1=>Ok.ite (fun g2=>Ok.ite (fun g3=>Ok.ite (fun g4=>hJ _ ⟨_,_,_,rfl,by simp[g1,g2,g3,g4]⟩) fun g4=>?_) fun g3=>hJ _ ⟨_,_,_,rfl,by simp[g3]⟩) fun g2=>hJ _ ⟨_,_,_,rfl,by simp[g2]⟩) fun g1=>hJ _ ⟨_,_,_,rfl,by simp[g1]⟩
   rw[Qb U]
   refine Ok.at U U ?_
   have et:(V z.j (m.z - 1).toNat).Q=trm z.j (m.z.toNat - 1):=by
    grind
   rw[et]
   exact Ok.ite (fun g5=>hJ _ ⟨_,_,_,rfl,by simp[g1,g2,g3,g5]⟩) fun g5=>hJ _ ⟨_,_,_,rfl,by simp[g4,g5]⟩
 .exact Ok.ite (fun a=>Ok.ite (fun b=>hJ _ ⟨_,_,by simp[hrdV,a,b];exact⟨rfl,rfl⟩⟩) fun b=>hJ _ ⟨_,_,by simp[hrdV,a,b];exact⟨rfl,rfl⟩⟩) fun a=>hJ _ ⟨_,_,by simp[hrdV,a];exact⟨rfl,rfl⟩⟩
def QxZ(h:lo<k)(hp:P k=false):topV P lo k=topV P lo (k - 1):=by
 obtain⟨k,rfl⟩:∃j,k=j+1:=⟨k - 1,U⟩
 conv=>lhs;unfold topV
 rw[iB h,hp];rfl
def Qt9(h:lo<k)(hp:P k=true):topV P lo k=k:=by
 obtain⟨k,rfl⟩:∃j,k=j+1:=⟨k - 1,U⟩
 unfold topV
 rw[iB h,hp];rfl
def Qt8(h:k<=lo):topV P lo k=lo:=by
 cases k with
 |zero=>rfl
 |succ k=>unfold topV;rw[iA U]
def Qyj(hc:CkR n r):Ok (QcW 1000 n r m) fun x=>∃b,(b=true->CkM n r m 4)/\(x=if b=false then r else Ul n r m)/\U2 1000 n r m 4=some b:=by
 have hl:r.j.length<=256:=hc.log
 have hn:=hc.sz;have hcom:=hc.com
 unfold QcW
 refine Ok.oe hc.copy (Ok.opt (QzI U).self fun b ⟨hb,hto⟩=>Ok.ncnd (fun g=>Ok.s ⟨false,Ob,rfl,by rw[hto,g]⟩) fun g=>?_)
 have hm:=hb g
 have fin:∀y,y=Ul n r m->∃b,(b=true->CkM n r m 4)/\(y=if b=false then r else Ul n r m)/\U2 1000 n r m 4=some b:=fun y h=>⟨true,fun _=>hm,by rw[h];rfl,by rw[hto,g]⟩
 have nop:∀{h:r.FA≠2\/m.Q≠r.Q\/m.OK=false\/m.z<0\/(r.j.length:Int)<m.z},¬r.Q<m.Q->r=Ul n r m:=fun{h} g=>by unfold Ul;rw[iA g,iB h]
 refine Ok.ite (fun g1=>Ok.oe Qtu (Ok.s (fin _ (by unfold Ul;rw[iB g1])))) fun g1=>Ok.j (Ok.ite (fun g2=>Ok.s (fin _ (nop (h:=.inl g2) g1))) fun g2=>Ok.ite (fun g3=>Ok.s (fin _ (nop (h:=.inr (.inl g3)) g1))) fun g3=>Ok.C (fun g4=>Ok.oe rin (Ok.C (fun g5=>?_) fun g5=>Ok.s (fin _ (nop (h:=?_) g1)))) fun g4=>Ok.s (fin _ (nop (h:=.inr (.inr (.inl g4))) g1)))
 rotate_left
 .refine .inr (.inr (.inr ?_))
  rcases Ea m.z 0 with z|z
  .exact .inl z
  .rcases Ea (r.j.length:Int) m.z with y|y
   .exact .inr y
   .rw[Qu.2 ⟨z,y⟩]at g5;simp at g5
 have h5:=Qu.1 g5
 obtain⟨hml,_⟩:=hc.ldr (Ak.1 g2)
 have hfm:=hm.from0
 dsimp only
 refine Ok.nat hfm.1 (Ok.E (Ok.G (Ok.nat hfm.1 (Ok.E (Ok.G ?_)))))
 have eM:r.E8.set m.w.toNat (max (V r.E8 m.w.toNat) m.z)=Ur r m:=rfl
 rw[eM]
 obtain⟨M,hM⟩:∃M,M=Ur r m:=⟨_,rfl⟩
 have hMl:M.length=n:=by rw[hM];unfold Ur;rw[List.length_set];exact hml
 rw[<-hM]
 have hres:∀c:Int,c=(topV (Qh5 n r M) r.d.toNat r.j.length:Nat)->D.N.mk r.S r.Q r.FZ r.FA r.j c r.FQ M=Ul n r m:=fun c h=>by
  unfold Ul
  grind
 refine Ok.TG (fun y=>∃w c,y=((),w,(r.S,r.Q,r.FZ,r.FA,c,()),r.j,r.FQ,M,())/\c=((topV (Qh5 n r M) r.d.toNat r.j.length:Nat):Int)) (fun y hy=>?_) fun zG hJ=>?_
 .obtain⟨w,c,rfl,h⟩:=hy
  exact Ok.s (fin _ (hres c h))
 .refine Ok.loop (fun q x=>∃i:Nat,x=(((n:Int),(i:Int),()),D.N.mk 0 0 0 0 [] 0 [] [],(r.S,r.Q,r.FZ,r.FA,r.d,()),r.j,r.FQ,M,())/\i<=r.j.length/\topV (Qh5 n r M) r.d.toNat r.j.length=topV (Qh5 n r M) r.d.toNat i/\q=i) (m:=r.j.length) U ⟨r.j.length,rfl,U,rfl,rfl⟩ ?_
  rintro q x ⟨i,rfl,i1,i2,hq⟩ K hK
  dsimp only
  refine Ok.ite (fun g6=>?_) fun g6=>hJ _ ⟨_,_,rfl,by rw[i2,Qt8 U];omega⟩
  refine Ok.TG (fun y=>y=(((n:Int),(i:Int),()),D.N.mk 0 0 0 0 [] 0 [] [],(r.S,r.Q,r.FZ,r.FA,r.d,()),r.j,r.FQ,M,())/\Qh5 n r M i=false) (fun y hy=>?_) fun J2 hJ2=>?_
  .obtain⟨rfl,hs⟩:=hy
   dsimp only
   rw[Qb U]
   exact hK (i - 1) _ U ⟨i - 1,by rw[show((i - 1:Nat):Int)=(i:Int) - 1 by omega],U,by rw[i2,QxZ U hs],rfl⟩
  .refine Ok.run n (fun j=>(((n:Int),(i:Int),(((List.range j).countP fun k=>decide ((i:Int)<=V M k):Nat):Int),(j:Int),()),D.N.mk 0 0 0 0 [] 0 [] [],(r.S,r.Q,r.FZ,r.FA,r.d,()),r.j,r.FQ,M,())) rfl U (fun j hj K2 hK2=>?_) (fun K2=>?_)
   .have hcl:=Qfq (P:=fun k=>decide ((i:Int)<=V M k)) (i:=j)
    dsimp only
    refine Ok.P (Ok.j (Ok.natn (Ok.E (Ok.G (Ok.ite (fun g7=>?_) fun g7=>?_)))))
    .dsimp only at hK2 |-
     rw[Vw,iB (Ax g7)]at hK2
     rw[Qa U,Qa U]
     exact hK2
    .dsimp only at hK2 |-
     rw[Vw,iA (by simpa using g7)]at hK2
     rw[Qa U]
     exact hK2
   .dsimp only
    refine Ok.N (Ok.oe QhW ?_)
    rw[Qn3 hn]
    refine Ok.ite (fun g7=>?_) fun g7=>hJ2 _ ⟨rfl,?_⟩
    .rw[Qb U]
     refine Ok.nat U (Ok.E (Ok.G ?_))
     have et:(V r.j ((i:Int) - 1).toNat).Q=trm r.j (i - 1):=by
      grind
     rw[et]
     refine Ok.ite (fun g8=>hJ _ ⟨_,_,rfl,?_⟩) fun g8=>hJ2 _ ⟨rfl,?_⟩
     .rw[i2,Qt9 U (by unfold Qh5;simp[g8];omega)]
     .unfold Qh5;simp[g8]
    .unfold Qh5;simp;omega
def QBD{n:Nat}{r:D.N}{o:D.Op}(hl:r.j.length<=900):Ok (Qev 1000 n r o) fun x=>x.2=0->CkR n r/\x.1=prpV n r o/\r.FA=2/\∀e∈r.j,e.Op.S≠o.S:=by
 unfold Qev
 refine Ok.opt (Qwc hl) fun b hb=>Ok.ncnd (fun _=>Ok.s fun e=>by simp at e) fun g=>Ok.ite (fun _=>Ok.s fun e=>by simp at e) fun g1=>?_
 have hc:=hb g
 have hn:=hc.sz;have hid:=hc.id;have h256:=hc.log
 obtain⟨hml,_⟩:=hc.ldr (Ak.1 g1)
 refine Ok.loop (fun m x=>∃(i:Nat) (z:D.N),x=(((n:Int),(i:Int),()),r,o,z,())/\i<=r.j.length/\(∀e∈r.j.take i,e.Op.S≠o.S)/\m=r.j.length - i) (m:=r.j.length) U ⟨0,_,rfl,U,Ob,rfl⟩ ?_
 rintro m x ⟨i,z,rfl,i1,i2,rfl⟩ K hK
 dsimp only
 refine Ok.ite (fun g2=>Ok.A (Ok.ite (fun _=>Ok.s fun e=>by simp at e) fun g3=>?_)) fun g2=>Ok.ite (fun _=>Ok.s fun e=>by simp at e) fun g4=>?_
 .rw[Qa U]
  refine hK _ _ U ⟨i+1,z,rfl,U,fun e he=>?_,rfl⟩
  rw[<-Qp (show i<r.j.length by omega)]at he
  grind
 .rw[Bf U]at i2
  have el:(r.j++[D.m.mk r.Q o]).length=r.j.length+1:=Ob
  refine Ok.oe hc.copy (Ok.LS (Ok.nat hid.1 (Ok.E (Ok.G (Ok.j (Ok.oe QhW ?_))))))
  rw[Qn3 hn]
  refine Ok.ite (fun g5=>Ok.s fun _=>⟨hc,?_,Ak.1 g1,i2⟩) fun g5=>Ok.s fun _=>⟨hc,?_,Ak.1 g1,i2⟩
  .unfold prpV;rw[iB U,el];rfl
  .unfold prpV;rw[iA U,el];rfl
def Qyw{n:Nat}{r:D.N}(hl:r.j.length<=900):Ok (Qeu 1000 n r) fun zD=>zD.length<=n/\(∀m∈zD,CkR n r/\r.FA=2/\∃j:Nat,j<n/\m=appV r j/\(j:Int)≠r.S)/\(Yy 1000 n r=some true->r.FA=2->∀j:Nat,j<n->(j:Int)≠r.S->appV r j∈zD):=by
 unfold Qeu
 refine Ok.j (Ok.opt (Qwc hl).self fun b ⟨hb,hbe⟩=>Ok.C (fun g=>Ok.ite (fun z=>Ok.s ⟨Ob,Ob,fun _ e=>absurd e z⟩) fun g1=>?_) fun g=>Ok.s ⟨Ob,Ob,fun e=>by rw[hbe,g]at e;simp at e⟩)
 have hc:=hb g
 have hn:=hc.sz;have hid:=hc.id;have h256:=hc.log
 obtain⟨hml,hmm⟩:=hc.ldr (Ak.1 g1)
 refine Ok.loop (fun m x=>∃(i:Nat) (zD:Y D.c),x=(((n:Int),(i:Int),()),r,zD,())/\i<=n/\zD.length<=i/\((∀m∈zD,∃j:Nat,j<n/\m=appV r j/\(j:Int)≠r.S)/\∀j:Nat,j<i->(j:Int)≠r.S->appV r j∈zD)/\m=n - i) (m:=n) U ⟨0,[],rfl,U,Ob,⟨Ob,fun j hj=>absurd hj U⟩,rfl⟩ ?_
 rintro m x ⟨i,zD,rfl,i1,i2,⟨i3,i4⟩,rfl⟩ K hK
 dsimp only
 refine Ok.ite (fun g2=>Ok.TG (fun y=>∃zD:Y D.c,y=(((n:Int),(i:Int),()),r,zD,())/\zD.length<=i+1/\(∀m∈zD,∃j:Nat,j<n/\m=appV r j/\(j:Int)≠r.S)/\∀j:Nat,j<i+1->(j:Int)≠r.S->appV r j∈zD) (fun y hy=>?_) fun zG hJ=>?_) fun g2=>Ok.s ⟨U,fun m hm=>⟨hc,Ak.1 g1,i3 m hm⟩,fun _ _ j hj=>i4 j U⟩
 .obtain⟨V',rfl,j1,j2⟩:=hy
  dsimp only
  rw[Qa U]
  exact hK _ _ U ⟨i+1,V',rfl,U,j1,j2,rfl⟩
 .have h3:=hmm i U
  have more:(i:Int)≠r.S->∀x:D.c,x=appV r i->(∀m∈zD++[x],∃j:Nat,j<n/\m=appV r j/\(j:Int)≠r.S)/\∀j:Nat,j<i+1->(j:Int)≠r.S->appV r j∈zD++[x]:=fun g3 x hx=>⟨fun m hm=>(Af.1 hm).elim (i3 m) fun hm=>⟨i,U,by rw[Ai.1 hm,hx],g3⟩,fun j hj hne=>by
   by_cases e:j=i
   .subst e;rw[hx];exact Af.2 (.inr (Ai.2 rfl))
   .exact Af.2 (.inl (i4 j U hne))⟩
  refine Ok.ite (fun z=>hJ _ ⟨zD,rfl,U,i3,fun j hj hne=>i4 j U hne⟩) fun g3=>Ok.A (Ok.nat h3.1 (Ok.L (Ok.LS (Ok.j (Ok.ite (fun g4=>?_) fun g4=>?_)))))
  .rw[Qb U]
   refine Ok.at U U (Ok.LS (hJ _ ⟨_,rfl,by simp;omega,more g3 _ ?_⟩))
   unfold appV
   rw[iB g4]
   show D.c.mk _ _ _ _ _ (V r.j _).Q _ _ _=D.c.mk _ _ _ _ _ (V r.j _).Q _ _ _
   rw[show(V r.E8 i - 1).toNat=(V r.E8 i).toNat - 1 by omega]
  .refine Ok.LS (hJ _ ⟨_,rfl,by simp;omega,more g3 _ ?_⟩)
   unfold appV
   rw[iA g4]
def QAJ{n:Nat}{r:D.N}(hk:Yy 1000 n r=some true)(hc:CkR n r):Qew 1000 n r=some (Qv4 r,0):=by
 refine Ok.eq ?_
 unfold Qew
 exact Ok.oe hk (Ok.nt rfl (Ok.oe hc.copy (Ok.s rfl)))
def QCk(h:0<=r.d/\r.d<=r.j.length)(hl:r.j.length<=900):QbP 1000 r=some (comV r):=by
 refine Ok.eq ?_
 unfold QbP
 refine Ok.j (Ok.run r.d.toNat (fun i=>(((i:Int),()),r,(r.j.take i).map (fun e=>e.Op),())) rfl U (fun i hi K hK=>?_) fun K=>?_)
 .dsimp only
  refine Ok.j (Ok.P (Ok.p (by show(i:Int)<(r.j.length:Int);omega) (Ok.atn (show i<r.j.length by omega) (Ok.LS ?_))))
  dsimp only at hK |-
  rw[<-Qp (show i<r.j.length by omega),Aq]at hK
  rw[Qa U]
  exact hK
 .dsimp only
  exact Ok.j (Ok.N (Ok.s rfl))
end
end
section
attribute [local irreducible] dueV stepV runV QG answerV
section
variable {n:Nat} {c:D.F} {b:D.b} {p q:D.Page} {now M:Int} {l x:D.G} {i:Nat} {o:D.Op} {L:Y Int} {d:D.FC} {ops:Y D.Op}
def DecL(l:D.G):Prop:=∀p∈l.H,PgX 1000000 p
def QrO(h:YY a=true):(1<=a.S/\a.S<=1000000)/\0<=a.Page/\a.Page<=999999:=by
 unfold YY at h
 simp only[bae,Qu]at h
 omega
def DecL.set(h:DecL l)(hp:PgX 1000000 p){L:Y D.Page}(e:L=l.H.set i p):∀q∈L,PgX 1000000 q:=fun q hq=>by
 rw[e]at hq
 rcases EH hq with g|rfl
 .exact h q g
 .exact hp
def DecL.run(h:DecL l)(hl:Qd M n l)(hi:i<l.H.length):DecL (runI l i):=
 h.set ((h _ (Qf hi)).run hl.book QT.step (hl.at hi).1) (Qoc hl hi).1
def DecL.runs(h:DecL l)(hl:Qd M n l):∀{k:Nat},k<=l.H.length->DecL (ZG l k)
 |0,_=>h
 |k+1,hk=>(h.runs hl U).run (hl.runs U) (by rw[(YG (l:=l) (k:=k)).2.2.2.2.2.2];exact hk)
def Qyk(hb:QU b)(h:QN QT M b p)(hd:PgX 1000000 p)(hv:YY a=true)(ha:a.R<4):PgX 1000000 (ansP c b p a now):=by
 have hr:PgX 1000000 (runV c b p now).1:=hd.run hb QT.step h
 unfold ansP
 split
 .rename_i g
  rcases QcE g with e|e
  .rw[e];exact hr
  .rw[e];exact hr.answer ha (QrO hv).1
 .exact hr
def DecL.op(h:DecL l)(hl:Qd M n l)(ho:OpIn o)(hlt:l.H.length<64)(ha:o.Z=4->o.a.R<4):DecL (opV l o).1:=by
 have hk5:=ho.kind
 by_cases k1:o.Z=1
 .unfold opV
  rw[iB k1]
  split
  .exact h
  .rename_i g
   split
   .exact h
   .split
    .exact h
    .split
     .rename_i g1 g2 g3
      obtain⟨i1,i2,i3⟩:=hl.open (o:=o) (by simpa using g) ⟨U,ho.page.2⟩ g3 hlt
      refine DecL.run (fun q hq=>?_) i1 i2
      rcases Qiz.1 hq with rfl|hq
      .exact PgX.new
      .exact h q hq
     .exact h
 by_cases k2:o.Z=2
 .unfold opV
  rw[iA k1,iB k2]
  split<;>exact h
 by_cases k3:o.Z=3
 .unfold opV
  rw[iA k1,iA k2,iB k3]
  split
  .split
   .rename_i g
    generalize (if (V l.H (posV o.Page l.H)).p=2 then(-1:Int)else(V l.H (posV o.Page l.H)).E7)=kk
    split
    .exact h.run hl (UK g).1
    .exact h
   .exact h
  .exact h
 by_cases k4:o.Z=4
 .obtain⟨_,_,e⟩:=QuJ hl k4
  show ∀q∈(opV l o).1.H,_
  rw[e]
  split
  .rename_i g
   have hi:=(UK g).1
   exact h.set (Qyk hl.book (hl.at hi).1 (h _ (Qf hi)) (ho.answer k4).1 (ha k4)) rfl
  .exact h
 .obtain⟨e,_⟩:=Qzf (l:=l) (o:=o) U
  show ∀q∈(opV l o).1.H,_
  rw[e]
  exact h.runs hl (AN _)
def DecL.apply(h:DecL l)(hl:Qd M n l)(ho:OpIn o)(ht:max l.E9 o.At<=M - 20000)(hs:l.h.length<256)(hlt:l.H.length<64)(ha:o.Z=4->o.a.R<4):DecL (Zk l o).1:=by
 cases g:l.h.contains o.S with
 |true=>unfold Zk;rw[iB g];exact h
 |false=>rw[QbU g];exact DecL.op (l:=seeV l o) h (hl.see ho ht g hs) ho hlt ha
def Qfz(c:D.F)(b:D.b):D.G:={ E9:=0,F:=c,b:=b,H:=[],E5:=-1,Fence:=0,h:=[],Calls:=[] }
def opsV(l:D.G):Y D.Op->D.G
 |[]=>l
 |o::r=>opsV (Zk l o).1 r
def Qpf:∀{a:Y D.Op} {l:D.G} {r:Y D.Op},opsV l (a++r)=opsV (opsV l a) r
 |[],_,_=>rfl
 |o::a,l,r=>by simp only[BE,opsV,Qpf]
def Qq9:opsV l (ops++[o])=(Zk (opsV l ops) o).1:=by rw[Qpf];rfl
def QfH(h:i<ops.length):opsV l (ops.take (i+1))=(Zk (opsV l (ops.take i)) (V ops i)).1:=by rw[<-Qp h,Qq9]
structure Behind (ops:Y D.Op) (k:Nat) (l:D.G):Prop where
 made:QCS k l
 dec:DecL l
 seen:∀x∈l.h,x<=(k:Int)
 last:l.E9<=0\/∃j,j<k/\l.E9<=(V ops j).At
def Behind.first(hc:Zg 2 c)(hb:QU b):Behind ops 0 (Qfz c b):=
 ⟨⟨QuI hc hb,fun p hp=>by simp[Qfz]at hp,AN _,by simp[Qfz]⟩,fun p hp=>by simp[Qfz]at hp,fun x hx=>by simp[Qfz]at hx,.inl (by simp[Qfz])⟩
def Behind.fresh(h:Behind ops k l)(hi:o.S=(k:Int)+1):l.h.contains o.S=false:=by
 cases hc:l.h.contains o.S with
 |false=>rfl
 |true=>
  have:=h.seen _ (Bi.1 hc)
  omega
def QtT:opsV l []=l:=rfl
attribute [local irreducible] opsV Zk opV
end
end
section
open Go AM
attribute [local irreducible] dueV stepV runV QG answerV
section
def Qau(l:D.G):Y D.Op->Y Int
 |[]=>[]
 |o::r=>(Zk l o).2::Qau (Zk l o).1 r
def QqJ:∀{a:Y D.Op} {l:D.G} {r:Y D.Op},Qau l (a++r)=Qau l a++Qau (opsV l a) r
 |[],_,_=>rfl
 |o::a,l,r=>by simp only[BE,Qau,opsV,QqJ]
def QjB(h:i<ops.length):Qau l (ops.take (i+1))=Qau l (ops.take i)++[(Zk (opsV l (ops.take i)) (V ops i)).2]:=by rw[<-Qp h,QqJ];rfl
def Qip:∀{ops:Y D.Op} {l:D.G},(Qau l ops).length=ops.length
 |[],_=>rfl
 |o::r,l=>by simp only[Qau,Ad,Qip]
structure Led (l:D.G):Prop where
 ok:∃M n,LW M n l/\n<=48
 pg:l.H.length<=9
structure OkAt (l:D.G) (o:D.Op):Prop where
 ok:∃M n,Qd M n l/\n<48/\max l.E9 o.At<=M - 20000
 pg:l.H.length<=8
 dec:DecL l
 op:OpIn o
 len:l.h.length<256
def OkAt.led(h:OkAt l o):Led l:=by
 obtain⟨M,n,h1,h2,_⟩:=h.ok
 exact⟨⟨M,n,h1.w,U⟩,by have:=h.pg;omega⟩
def OkAt.TM(h:OkAt l o):QfW 1000 l o=some (Zk l o):=by
 obtain⟨M,n,h1,h2,h3⟩:=h.ok
 exact QvM h1 h2 h.pg h.op h3 h.len
def Led.check(h:Led l):Vl 1000 l=some true:=by
 obtain⟨M,n,h1,h2⟩:=h.ok
 exact QcH h1 h.pg
def Led.checkE(h:Led l):XM 1000 l=some true:=by
 obtain⟨M,n,h1,h2⟩:=h.ok
 exact Qo0 h1 h.pg
def Led.copy(h:Led l):QbN 1000 l=some l:=by
 obtain⟨M,n,h1,h2⟩:=h.ok
 have:=h1.callsLe h.pg;have:=h1.seen.len;have:=h.pg
 exact Qtj h1.plens U U U
structure Runs (l:D.G) (ops:Y D.Op):Prop where
 at_:∀j,j<ops.length->OkAt (opsV l (ops.take j)) (V ops j)
 fin:∀j,j<=ops.length->Led (opsV l (ops.take j))
 len:ops.length<=200
structure Loose (k:Nat) (l:D.G):Prop where
 inv:Qd 1000000 (2+k) l
 ids:Ids 3 l
 seen:l.h.length<=k
 dec:DecL l
def Qb1(o:D.Op):Prop:=OpIn o/\(o.Z=1->o.Page<=3)/\o.At<=980000/\(o.Z=4->o.a.R<4)
def Behind.loose(h:Behind ops k l):Loose k l:=⟨h.made.inv,h.made.ids,h.made.seen,h.dec⟩
def Loose.led(h:Loose k l)(hk:k<=46):Led l:=⟨⟨1000000,2+k,h.inv.w,U⟩,by have:=h.inv.small3 (k:=3) h.ids;omega⟩
def cntE(ops:Y D.Op):Nat:=ops.countP fun o=>decide (o.Z=5)
structure Qbp (e k:Nat) (l:D.G):Prop where
 inv:Qd 1000000 (2+e) l
 ids:Ids 3 l
 seen:l.h.length<=k
 dec:DecL l
def Loose.e(h:Loose k l):Qbp k k l:=⟨h.inv,h.ids,h.seen,h.dec⟩
def Qbp.okAt(h:Qbp e k l)(he:e<=45)(hk:k<=200)(ho:Qb1 o):OkAt l o:=by
 have hn:=h.inv.now;have hs:=h.seen;have h2:=ho.2.2.1
 have hp3:=h.inv.small3 (k:=3) h.ids
 exact⟨⟨1000000,2+e,h.inv,U,U⟩,U,h.dec,ho.1,U⟩
def Qbp.led(h:Qbp e k l)(he:e<=46):Led l:=⟨⟨1000000,2+e,h.inv.w,U⟩,by have:=h.inv.small3 (k:=3) h.ids;omega⟩
def Qbp.next(h:Qbp e k l)(he:e<=45)(hk:k<=200)(ho:Qb1 o):Qbp (e+cntE [o]) (k+1) (Zk l o).1:=by
 have hn:=h.inv.now;have hs:=h.seen;have h2:=ho.2.2.1
 have hp3:=h.inv.small3 (k:=3) h.ids
 refine⟨?_,h.ids.apply h.inv ho.1 U U ho.2.1,by have:=(Qr1 (l:=l) (o:=o)).1;omega,h.dec.apply h.inv ho.1 U U U ho.2.2.2⟩
 by_cases k5:o.Z=5
 .rw[show cntE [o]=1 by simp[cntE,k5]]
  exact h.inv.apply U ho.1 U U
 .rw[show cntE [o]=0 by simp[cntE,k5]]
  exact h.inv.apply0 ho.1 k5 U U
def QyD:cntE (a++b)=cntE a+cntE b:=by simp[cntE]
def Qfo:cntE (ops.take j)<=cntE ops:=(C9 j ops).countP_le
def Qbp.fold(h:Qbp e k l)(ho:∀o∈ops,Qb1 o)(he:e+cntE ops<=45)(hk:k+ops.length<=200):∀{j:Nat},j<=ops.length->Qbp (e+cntE (ops.take j)) (k+j) (opsV l (ops.take j))
 |0,_=>by rw[Bd];exact h
 |j+1,hj=>by
  have hc:=Qfo (ops:=ops) (j:=j)
  rw[QfH U,<-Qp (show j<ops.length by omega),QyD,<-B6]
  exact(Qbp.fold h ho he hk U).next U U (ho _ (Qf U))
def Qbp.runs(h:Qbp e k l)(ho:∀o∈ops,Qb1 o)(he:e+cntE ops<=45)(hk:k+ops.length<=200):Runs l ops:=
 ⟨fun j hj=>(h.fold ho he hk U).okAt (by have:=Qfo (ops:=ops) (j:=j);omega) U (ho _ (Qf hj)),fun j hj=>(h.fold ho he hk hj).led (by have:=Qfo (ops:=ops) (j:=j);omega),U⟩
def Qsj(hc:Zg 2 c)(hb:QU b):Loose 0 (Qfz c b):=(Behind.first (ops:=[]) hc hb).loose
end
end
section
attribute [local irreducible] dueV stepV runV QG answerV opV Zk opsV Qau
section
variable {n:Nat} {M:Int} {l x:D.G} {o:D.Op} {i k:Nat} {t r id now:Int} {L:Y Int}
def ans0:D.a:=D.a.mk 0 0 0 0 0 0
def edit0:D.t:=D.t.mk 0 0 0 0 0
def op0:D.Op:=D.Op.mk 0 0 0 0 0 0 0 0 0 ans0 edit0
def ownO(l:D.G)(r id now:Int):D.Op:=D.Op.mk id 2 r (l.Fence+1) now 0 0 0 0 ans0 edit0
def Qc5(r id now:Int):Prop:=(0<=r/\r<=4)/\(1<=id/\id<=1099511627776)/\0<=now/\now<=8589934592
def QBz(h:Qd M n l)(hc:Qc5 r id now):OpIn (ownO l r id now):=by
 have hf:=h.fence;have hs:=h.seen.len
 obtain⟨h1,h2,h3⟩:=hc
 exact⟨h2,by simp only[ownO];omega,h1,by simp only[ownO];omega,h3,by simp only[ownO];omega,by simp only[ownO];omega,fun e=>absurd (show(2:Int)=4 from e) U,fun e=>absurd (show(2:Int)=5 from e) U⟩
def QtW(h:Qd M n l)(hc:Qc5 r id now)(hn:now<=980000):Qb1 (ownO l r id now):=
 ⟨QBz h hc,fun e=>absurd (show(2:Int)=1 from e) U,hn,fun e=>absurd (show(2:Int)=4 from e) U⟩
def QBy(hs:l.h.contains id=false):Zk l (ownO l r id now)=({ seeV l (ownO l r id now)with E5:=r,Fence:=l.Fence+1 },0):=by
 rw[Quf (o:=ownO l r id now) hs rfl,iB (show(ownO l r id now).Fence=l.Fence+1 from rfl)]
 rfl
def Qo2{α:Type}[AK α]{l:Y α}:(List.range l.length).map (V l)=l:=by
 refine EY Ob fun i h1 h2=>?_
 simp only[List.getElem_map,List.getElem_range,V,AQ,AR h2,B0]
def Qx2:Qd3 l.H t=(XT l t).map fun i=>D.T.mk (V l.H i).S (dueV (V l.H i)).1 []:=by
 unfold Qd3 XT
 conv=>lhs;rw[<-Qo2 (l:=l.H)]
 rw[List.filter_map,CN]
 rfl
def Qjl:(XT l t).length=(Qd3 l.H t).length:=by rw[Qx2,AX]
def QeP:(XT l t).length<=l.H.length:=by rw[Qjl];exact QmZ
def Qo6{α β:Type}[AK α][AK β]{l:Y α}{f:α->β}(h:i<l.length):V (l.map f) i=f (V l i):=by
 simp[V,AQ,AR h]
def Ql7{n:Nat}(h:i<n):V (List.range n) i=i:=by
 simp[V,AQ,h]
def UW(l:D.G)(now:Int)(k:Nat):D.Page:=V l.H (V (XT l now) k)
def Qmf(h:k<(XT l now).length):V (XT l now) k<l.H.length/\Yp (UW l now k) now=true:=Qgj.1 (Qf h)
def QrQ(h:k<(XT l now).length):V (Qd3 l.H now) k=D.T.mk (UW l now k).S (dueV (UW l now k)).1 []:=by
 rw[Qx2,Qo6 h];rfl
def WG(l:D.G)(id now:Int)(k:Nat):D.Op:=D.Op.mk (id+k) 3 l.E5 l.Fence now (UW l now k).S (QhL (UW l now k)) 0 0 ans0 edit0
def WS(l:D.G)(id now:Int):Y D.Op:=(List.range (XT l now).length).map (WG l id now)
def XQ:(WS l id now).length=(XT l now).length:=by simp[WS]
def Vu(h:k<(XT l now).length):V (WS l id now) k=WG l id now k:=by
 unfold WS;rw[Qo6 (by simpa using h),Ql7 h]
def Qkq(h:k<(XT l now).length):(WS l id now).take (k+1)=(WS l id now).take k++[WG l id now k]:=by
 rw[<-Vu h,Qp (by rw[XQ];exact h)]
def QxP(h:Qd M n l)(hk:k<(XT l now).length)(hid:1<=id/\id+k<=1099511627776)(ho:0<=l.E5)(hn:0<=now/\now<=8589934592):OpIn (WG l id now k):=by
 have hf:=h.fence;have hs:=h.seen.len;have how:=h.owner
 obtain⟨h1,h2⟩:=Qmf hk
 obtain⟨g1,_⟩:=h.at h1
 have hnx:=(Yc (g1.check h.book)).next
 have hcn:=Yv (g1.polOK h.book)
 have hpid:=g1.id
 have hK : -1<=QhL (UW l now k)/\QhL (UW l now k)<=1000:=by
  show -1<=QhL (V l.H (V (XT l now) k))/\QhL (V l.H (V (XT l now) k))<=1000
  unfold QhL
  split<;>omega
 exact⟨by simp only[WG];omega,by simp only[WG];omega,by simp only[WG];omega,by simp only[WG];omega,hn,by simp only[WG,UW];omega,hK,fun e=>absurd (show(3:Int)=4 from e) U,fun e=>absurd (show(3:Int)=5 from e) U⟩
def Qj0(h:Qd M n l)(hk:k<(XT l now).length)(hid:1<=id/\id+k<=1099511627776)(ho:0<=l.E5)(hn:0<=now/\now<=980000):Qb1 (WG l id now k):=
 ⟨QxP h hk hid ho U,fun e=>absurd (show(3:Int)=1 from e) U,hn.2,fun e=>absurd (show(3:Int)=4 from e) U⟩
end
end
section
open Go AM
attribute [local irreducible] dueV stepV runV QG answerV opV Zk opsV Qau
section
variable {n:Nat} {M:Int} {l x:D.G} {o:D.Op} {i k:Nat} {t r id now f:Int}
def Qfl(r id now:Int):AH:=inV r 0 4 && (inV id 1 1099511627776 && inV now 0 8589934592)
def Qij:Qfl r id now=true↔Qc5 r id now:=by
 unfold Qfl Qc5
 simp only[bae,Qu]
structure OwnR (l:D.G):Prop where
 chkR:Vl 1000 l=some true
 fence:0<=l.Fence/\l.Fence<=1048576
 waitR:∀t,Wo 1000 l t=some (Qd3 l.H t)
 findR:∀p∈l.H,QgN 1000 l p.S=some (Qc8 l p.S)
 asc:AscP l.H
 pg:l.H.length<=9
def Led.ownR(h:Led l):OwnR l:=by
 obtain⟨M,n,h1,h2⟩:=h.ok
 have hf:=h1.fence;have hpg:=h.pg
 exact⟨h.check,U,fun t=>Qs7 h1 hpg,fun p hp=>Qwx h1.plens h1.asc U,h1.asc,hpg⟩
def Qly(l:D.G)(r id now:Int):D.Op×Int:=if Qfl r id now=true then(if l.Fence=1048576 then(op0,5)else(ownO l r id now,0))else(op0,1)
def Qqp(h:OwnR l):Qcn 1000 l r id now=some (Qly l r id now):=by
 have hf:=h.fence
 refine Ok.eq ?_
 unfold Qcn Qly Qfl
 refine Ok.j (Ok.oe h.chkR (Ok.nt rfl (Ok.oe rin (Ok.C (fun g1=>Ok.oe rin (Ok.C (fun g2=>Ok.oe rin (Ok.C (fun g3=>?_) (fun g3=>Ok.s ?_))) (fun g2=>Ok.s ?_))) (fun g1=>Ok.s ?_)))))
 .rw[iB (by simp[g1,g2,g3])]
  refine Ok.ite (fun g4=>Ok.s ?_) (fun g4=>Ok.s ?_)
  .rw[iB g4];rfl
  .rw[iA g4,Qb (x:=l.Fence+1) U];rfl
 all_goals (rw[iA (by simp[*])];rfl)
def Qqq(h:Qc5 r id now)(hf:l.Fence<=1000):Qly l r id now=(ownO l r id now,0):=by
 unfold Qly
 rw[iB (Qij.2 h),iA U]
def Qmo(l:D.G)(r id now:Int):Y D.Op:=if Qfl r id now=true/\r=l.E5/\id+(l.H.length:Int)<=1099511627776 then WS l id now else[]
def QqM(h:OwnR l)(hk:k<(XT l now).length):Qc8 l (UW l now k).S=(UW l now k,true):=QoQ h.asc (Qmf hk).1 rfl
def Qn0(hk:k<(XT l now).length):UW l now k∈l.H:=Qf (Qmf hk).1
def Qvf(h:OwnR l):QbX 1000 l r id now=some (Qmo l r id now):=by
 have hpg:=h.pg
 have hwl:=Qjl (l:=l) (t:=now);have hwe:=QeP (l:=l) (t:=now)
 refine Ok.eq ?_
 unfold QbX Qmo
 refine Ok.j (Ok.oe (Qqp h) ?_)
 unfold Qly
 by_cases g:Qfl r id now=true
 .obtain⟨c1,c2,c3⟩:=Qij.1 g
  have he:∃a e,(if Qfl r id now=true then(if l.Fence=1048576 then(op0,(5:Int))else(ownO l r id now,0))else(op0,1))=(a,e)/\e≠8/\e≠1:=by
   rw[iB g];split
   .exact⟨_,_,rfl,U,U⟩
   .exact⟨_,_,rfl,U,U⟩
  obtain⟨a,e,he,e8,e1⟩:=he
  rw[he]
  refine Ok.n e8 (Ok.n e1 (Ok.ite (fun g2=>Ok.s (by rw[iA (fun h=>g2 h.2.1)])) (fun g2=>?_)))
  have g2:r=l.E5:=Ak.1 g2
  rw[Qb (x:=id+(l.H.length:Int)) U]
  refine Ok.ite (fun g3=>Ok.s (by rw[iA (fun h=>U)])) (fun g3=>?_)
  rw[iB ⟨g,g2,U⟩]
  try dsimp only
  refine Ok.oe (h.waitR now) ?_
  refine Ok.run (XT l now).length (fun k=>((r,id,now,Qd3 l.H now,(k:Int),()),l,(WS l id now).take k,())) rfl U (fun k hk K hK=>?_) (fun K=>?_)
  .try dsimp only
   have hl:((WS l id now).take k).length<=9:=by rw[Ae,XQ];omega
   try dsimp only at hK
   rw[Qkq hk]at hK
   refine Ok.P (Ok.A ?_)
   rw[QrQ hk]
   refine Ok.oe (h.findR _ (Qn0 hk)) ?_
   rw[QqM h hk]
   refine Ok.j ?_
   have hw:J (id+(k:Int))=id+k:=Qb U
   refine Ok.ite (fun g4=>Ok.LS ?_) (fun g4=>Ok.LS ?_)
   .try dsimp only at g4 |-
    rw[hw,Qa U]
    have e:WG l id now k=D.Op.mk (id+k) 3 r l.Fence now (UW l now k).S (-1) 0 0 (D.a.mk 0 0 0 0 0 0) (D.t.mk 0 0 0 0 0):=by unfold WG QhL;rw[iB g4,g2];rfl
    rw[<-e];exact hK
   .try dsimp only at g4 |-
    rw[hw,Qa U]
    have e:WG l id now k=D.Op.mk (id+k) 3 r l.Fence now (UW l now k).S (UW l now k).E7 0 0 (D.a.mk 0 0 0 0 0 0) (D.t.mk 0 0 0 0 0):=by unfold WG QhL;rw[iA g4,g2];rfl
    rw[<-e];exact hK
  .try dsimp only
   exact Ok.N (Ok.s (Bf (by rw[XQ];omega)))
 .rw[iA g];exact Ok.NS (Ok.p rfl (Ok.s (by rw[iA (fun h=>g h.1)])))
end
end
section
attribute [local irreducible] dueV stepV runV QG answerV
section
def mapE[AK T]{f:Nat->T->I T}{l:Y T}(hf:∀x∈l,f 1000 x=some x)(hl:l.length<=900):
  Qe (zF:=((Int×(Int×Unit))×(Y T×Unit))) (fun L1 ((a2,(a3,_)),(a4,_))=>(AM.C (decide (a3<a2)) (TK a3 fun a5=>(TP a5 (List.length a4) (O (GetElem?.getElem? a4 a5) fun a6=>(O (f 1000 a6) fun a7=>(TK a3 fun a8=>(TP a8 (List.length a4) (O (GetElem?.getElem? a4 a8) fun a9=>(L1 ((a2,((J (a3+1)),())),((List.set a4 a8 a7),())))))))))) (some a4))) 1000 (((((List.length l):Nat):Int),(0,())),(l,()))=some l:=by
 refine Ok.eq ?_
 refine Ok.run l.length (fun i=>(((((List.length l):Nat):Int),(i:Int),()),l,())) rfl U (fun i hi k hk=>?_) (fun k=>?_)
 .try dsimp only
  refine Ok.P (Ok.natn (Ok.lt hi (Ok.get hi (Ok.oe (hf _ (Qf hi)) (Ok.natn (Ok.lt hi (Ok.get hi ?_)))))))
  rw[Qa U,QpU hi];exact hk
 .try dsimp only
  exact Ok.N (Ok.s rfl)
def cl_w(h:l.length<=900):Yn 1000 l=some l:=by unfold Yn;exact Yh U
def cl_i(h:l.length<=900):Qy 1000 l=some l:=by unfold Qy;exact Yh U
def Qst(h:∀z∈l,z.Fp=[])(hl:l.length<=900):ZL 1000 l=some l:=by
 unfold ZL
 refine(VF (show Wa 1000 l=some l by unfold Wa;exact Yh U)).trans (mapE (f:=QgA) (fun z hz=>?_) hl)
 unfold QgA
 exact VF (show XB 1000 z.Fp=some z.Fp by rw[h z hz];rfl)
def Qo3(h:∀z∈l,z.Ff.length<=900)(hl:l.length<=900):Zh 1000 l=some l:=by
 unfold Zh
 refine(VF (show Y8 1000 l=some l by unfold Y8;exact Yh U)).trans (mapE (f:=QcM) (fun z hz=>?_) hl)
 unfold QcM
 exact VF (cl_w (h z hz))
def Qq0(h:∀z∈l,Y2 z)(hl:l.length<=900):Zs 1000 l=some l:=by
 unfold Zs
 refine(VF (show Xz 1000 l=some l by unfold Xz;exact Yh U)).trans (mapE (f:=Qej) (fun z hz=>?_) hl)
 have hz':=h z hz
 unfold Qej
 exact(VF (cl_i (by have:=hz'.len;omega))).trans (VF (cl_w (by rw[hz'.win];simp)))
def Qq1(h:∀z∈l,Qfd n z)(hn:n<=48)(hl:l.length<=900):Q3 1000 l=some l:=by
 unfold Q3
 refine(VF (show Yz 1000 l=some l by unfold Yz;exact Yh U)).trans (mapE (f:=QaR) (fun z hz=>?_) hl)
 obtain⟨⟨y,hy,hy2⟩,h2,_⟩:=h z hz
 unfold QaR
 refine(VF (Qq0 (l:=z.Fk) (fun w hw=>?_) (by rw[hy];simp))).trans (VF (show X9 1000 z.FS=some z.FS by unfold X9;exact Yh U))
 simp_all
def Qss(h:∀z∈l,Qqa z)(hl:l.length<=900):ZK 1000 l=some l:=by
 unfold ZK
 refine(VF (show VC 1000 l=some l by unfold VC;exact Yh U)).trans (mapE (f:=Qgz) (fun z hz=>?_) hl)
 unfold Qgz
 exact VF (cl_i (by have:=(h z hz).len;omega))
def Qsr(h:∀z∈l,StepOK' m z)(hl:l.length<=900):Zb 1000 l=some l:=by
 unfold Zb
 refine(VF (show YT 1000 l=some l by unfold YT;exact Yh U)).trans (mapE (f:=Qgy) (fun z hz=>?_) hl)
 unfold Qgy
 exact VF (show Wu 1000 z.Fe=some z.Fe by unfold Wu;exact Yh (by have:=(h z hz).len;omega))
def QuE(h:∀z∈l,Qdl m z)(hl:l.length<=900):ZB 1000 l=some l:=by
 unfold ZB
 refine(VF (show Wt 1000 l=some l by unfold Wt;exact Yh U)).trans (mapE (f:=QiJ) (fun z hz=>?_) hl)
 unfold QiJ
 exact VF (Qsr (h z hz).step (by have:=(h z hz).len;omega))
def QtX(h:QC p):QbW 1000 p=some p:=by
 have h1:=h.st;have h2:=h.de;have h3:=h.se
 unfold QbW
 refine(VF (x:=p.P) ?_).trans ((VF (cl_i U)).trans (VF (cl_i U)))
 unfold Z3
 refine(VF (Qqs U)).trans (mapE (f:=QcL) (fun z hz=>?_) U)
 unfold QcL
 exact VF (cl_i (by have:=(h.pe z hz).1;omega))
def Qsq(h:∀z∈l,QC z)(hl:l.length<=900):ZJ 1000 l=some l:=by
 unfold ZJ
 exact(VF (show VB 1000 l=some l by unfold VB;exact Yh U)).trans (mapE (f:=QbW) (fun z hz=>QtX (h z hz)) hl)
def Led.copyE(h:Led l):Qa2 1000 l=some l:=by
 obtain⟨M,n,h1,h2⟩:=h.ok
 have hcl:=h1.callsLe h.pg;have hse:=h1.seen.len;have hpg:=h.pg;have hb:=h1.book;have hc:=h1.cfg
 have htl:=hb.tlen;have hpl:=hb.plen
 obtain⟨hz,_⟩:=hc.zones
 unfold Qa2
 rw[Qst (by rw[hz];intro z hm;rw[Ai.1 hm]) (by rw[hz];simp),Z0,Qo3 (fun z hm=>by rcases(hc.person z hm).quiet with e|⟨_,_,e,_⟩<;>rw[e]<;>simp) (by rw[hc.plen];omega),Z0,hc.cal]
 rw[show ZA 1000 []=some []by kernel_rfl,Z0,Qq1 hc.sched h2 (by rw[hc.slen];omega),Z0,Qss hb.team U,Z0,QuE hb.pol U,Z0,Qsq h1.plens U,Z0,cl_i U,Z0,Qqr U,Z0]
 obtain⟨l1,⟨c1,c2,c3,c4⟩,l3,l4,l5,l6,l7,l8⟩:=l
 have hcal:=hc.cal
 dsimp only at hcal |-
 subst hcal
 rfl
def QwF{i j:Nat}(h:i+j<1000000):J (Int.fdiv (IntKind.wrap .u64 (J ((i:Int)+(j:Int)))) (HPow.hPow 2 (min 1 (Go.IntKind.bits Go.IntKind.u64))))=(((i+j) / 2:Nat):Int):=by
 rw[Qb (x:=(i:Int)+(j:Int)) U]
 have e:IntKind.u64.wrap ((i:Int)+(j:Int))=(i:Int)+(j:Int):=by
  simp only[IntKind.wrap,IntKind.bits,IntKind.signed]
  simp
  omega
 rw[e,show((HPow.hPow 2 (min 1 (Go.IntKind.bits Go.IntKind.u64)):Nat):Int)=2 from rfl,Int.fdiv_eq_ediv_of_nonneg _ U,Qb U]
 omega
def Qth{id:Int}(h1:0<=p.S/\p.S<=999999)(h2 : -1<=id/\id<=1000000):Vc 1000 p id=some (p.S - id):=by
 unfold Vc
 rw[Qb U]
def QCh{id:Int}(ha:AscP L)(hl:L.length<=64)(hp:∀p∈L,0<=p.S/\p.S<=999999)(hid : -1<=id/\id<=1000000):
  QL 1000 L id=some ((posV id L:Int),hasV id L):=by
 have hple:=Qde (id:=id) (l:=L)
 refine Ok.eq ?_
 unfold QL
 refine Ok.loop (fun m x=>∃(i j:Nat),x=((id,((L.length:Nat):Int),(i:Int),(j:Int),()),L,())/\i<=posV id L/\posV id L<=j/\j<=L.length/\m=j - i) (m:=L.length) U ⟨0,L.length,rfl,U,U,U,U⟩ ?_
 rintro m x ⟨i,j,rfl,h1,h2,h3,rfl⟩ K hK
 try dsimp only
 refine Ok.ite (fun hij=>?_) (fun hij=>?_)
 .refine Ok.nat U ?_
  rw[show(1:Int).toNat=1 from rfl,QwF U]
  have hh:(i+j) / 2<L.length:=U
  refine Ok.natn (Ok.lt hh (Ok.get hh (Ok.oe (Qth (hp _ (Qf hh)) hid) (Ok.ite (fun g=>?_) (fun g=>?_)))))
  .try dsimp only
   rw[Qa U]
   refine hK _ _ U ⟨(i+j) / 2+1,j,rfl,?_,h2,h3,rfl⟩
   rcases Ay ((i+j) / 2) (posV id L)with g2|g2
   .omega
   .have:=Qmm ha g2 hh
    omega
  .refine hK _ _ U ⟨i,(i+j) / 2,rfl,h1,?_,U,rfl⟩
   rcases Ay ((i+j) / 2) (posV id L)with g2|g2
   .have:=Qmn g2
    omega
   .exact g2
 .have e:i=posV id L:=U
  subst e
  unfold hasV
  refine Ok.ite (fun g=>?_) (fun g=>?_)
  .have hh:posV id L<L.length:=U
   refine Ok.natn (Ok.lt hh (Ok.get hh (Ok.oe (Qth (hp _ (Qf hh)) hid) (Ok.ite (fun g=>Ok.TF (Ok.s ?_)) (fun g=>Ok.TF (Ok.s ?_))))))
   .grind
   .rw[Au (fun h=>g U)]
  .exact Ok.TF (Ok.s (by rw[Au (fun h=>g U)]))
def QCU{id:Int}(ha:AscP L)(hl:L.length<=64)(hp:∀p∈L,0<=p.S/\p.S<=999999)(hid : -1<=id/\id<=1000000):
  QP 1000 L id=some ((posV id L:Int),hasV id L):=by
 have hple:=Qde (id:=id) (l:=L)
 refine Ok.eq ?_
 unfold QP
 refine Ok.loop (fun m x=>∃(i j:Nat),x=((L,id,((L.length:Nat):Int),(i:Int),(j:Int),()),())/\i<=posV id L/\posV id L<=j/\j<=L.length/\m=j - i) (m:=L.length) U ⟨0,L.length,rfl,U,U,U,U⟩ ?_
 rintro m x ⟨i,j,rfl,h1,h2,h3,rfl⟩ K hK
 try dsimp only
 refine Ok.ite (fun hij=>?_) (fun hij=>?_)
 .refine Ok.nat U ?_
  rw[show(1:Int).toNat=1 from rfl,QwF U]
  have hh:(i+j) / 2<L.length:=U
  refine Ok.atn hh (Ok.oe (Qth (hp _ (Qf hh)) hid) (Ok.ite (fun g=>?_) (fun g=>?_)))
  .try dsimp only
   rw[Qa U]
   refine hK _ _ U ⟨(i+j) / 2+1,j,rfl,?_,h2,h3,rfl⟩
   rcases Ay ((i+j) / 2) (posV id L)with g2|g2
   .omega
   .have:=Qmm ha g2 hh
    omega
  .refine hK _ _ U ⟨i,(i+j) / 2,rfl,h1,?_,U,rfl⟩
   rcases Ay ((i+j) / 2) (posV id L)with g2|g2
   .have:=Qmn g2
    omega
   .exact g2
 .have e:i=posV id L:=U
  subst e
  unfold hasV
  refine Ok.ite (fun g=>?_) (fun g=>?_)
  .have hh:posV id L<L.length:=U
   refine Ok.atn hh (Ok.oe (Qth (hp _ (Qf hh)) hid) (Ok.ite (fun g=>Ok.s ?_) (fun g=>Ok.s ?_)))
   .grind
   .rw[Au (fun h=>g U)]
  .exact Ok.s (by rw[Au (fun h=>g U)])
def LW.idsIn(h:LW M n l):∀p∈l.H,0<=p.S/\p.S<=999999:=fun p hp=>by
 have:=(h.page p hp).1.id;omega
def QlQ{id:Int}(h:LW M n l)(hid : -1<=id/\id<=1000000):Ya 1000 l id=some ((posV id l.H:Int),hasV id l.H):=by
 unfold Ya
 rw[QCh h.asc h.len h.idsIn hid,Z0]
 dsimp only
 rw[Vq,Vq,Vq]
def Qyd{id:Int}(h:LW M n l)(hid : -1<=id/\id<=1000000):Qdw 1000 l id=some (Qc8 l id):=by
 refine Ok.eq ?_
 unfold Qdw QjL Qc8
 rw[QCU h.asc h.len h.idsIn hid]
 by_cases g:hasV id l.H=true
 .rw[iB g]
  have:=(UK g).1
  exact Ok.os (Ok.nt g (Ok.atn this (Ok.oe (QtX (h.plens _ (Qf this))) (Ok.s rfl))))
 .rw[iA g]
  exact Ok.os (Ok.nf (by simpa using g) (Ok.s rfl))
def Qzc:Qgw 1000 p=some (QhL p):=by
 unfold Qgw QhL
 (try unfold cd);rw[QzV];split<;>rfl
def QyA{l:D.G}{i:Nat}(hi:i<l.H.length)(hp:QC (V l.H i))(hk:k<=(V l.H i).P.length)(hcl:l.Calls.length<=20000):
  Q9 1000 ⟨l⟩ (i:Int) (k:Int)=some ⟨{ l with Calls:=l.Calls++QO (V l.H i).S l.Fence ((V l.H i).P.drop k) }⟩:=by
 obtain⟨P,hP⟩:∃P,V l.H i=P:=⟨_,rfl⟩
 have hst:=hp.st
 refine Ok.eq ?_
 unfold Q9
 refine Ok.natn (Ok.lt hi (Ok.get hi (Ok.natn (Ok.TO hk ?_))))
 rw[hP]at hp hk hst |-
 refine Ok.run (P.P.length - k) (fun j=>(((P.P.drop k),(((P.P.drop k).length:Nat):Int),(j:Int),()),(l.E9,l.F.FG,l.F.l,l.F.o,l.F.f,l.b.v,l.b.k,l.E5,l.Fence,()),P,l.H,l.h,l.Calls++QO P.S l.Fence ((P.P.drop k).take j),())) (by rw[Bd];simp[QO]) U (fun j hj kk hkk=>?_) (fun kk=>?_)
 .try dsimp only
  have hdl:j<(P.P.drop k).length:=by simp;omega
  refine Ok.P (Ok.atn hdl ?_)
  have hpe:=(hp.pe _ (Bp (Qf hdl))).1
  have hts:(P.P.drop k).take (j+1)=(P.P.drop k).take j++[V (P.P.drop k) j]:=(Qp hdl).symm
  have hol:(QO P.S l.Fence ((P.P.drop k).take j)).length<=40*((P.P.drop k).take j).length:=Qb5 (m:=40) fun s hs=>(hp.pe s (Bp (Bo hs))).1
  rw[Ae,Bg]at hol
  obtain⟨s,hs⟩:∃s,V (P.P.drop k) j=s:=⟨_,rfl⟩
  rw[hs]at hpe hts |-
  refine Ok.run s.l.length (fun z=>(((P.P.drop k),(((P.P.drop k).length:Nat):Int),(j:Int),s.l,(s.l.length:Int),(z:Int),()),(l.E9,l.F.FG,l.F.l,l.F.o,l.F.f,l.b.v,l.b.k,l.E5,l.Fence,()),P,s,l.H,l.h,(l.Calls++QO P.S l.Fence ((P.P.drop k).take j))++(s.l.take z).map (fun x=>D.Call.mk P.S s.K s.At x l.Fence),())) (by rw[Bd,Al,An];rfl) U (fun z hz k2 hk2=>?_) (fun k2=>?_)
  .try dsimp only
   refine Ok.P (Ok.atn hz (Ok.TO ?_ ?_))
   .grind
   .try dsimp only
    rw[Qa U]
    try dsimp only at hk2
    rw[<-Qp hz,Aq,<-Aw]at hk2
    exact hk2
  .try dsimp only
   refine Ok.N ?_
   try dsimp only
   rw[Qa U,Ac]
   try dsimp only at hkk
   rw[hts,Qfi,<-Aw]at hkk
   exact hkk
 .try dsimp only
  refine Ok.NS (Ok.s ?_)
  rw[Bf Ob]
def Qxn(hi:i<l.H.length)(hA:QC A)(hx:Ext (V l.H i) A)(hcl:l.Calls.length<=20000):
  Q9 1000 ⟨⟨l.E9,l.F,l.b,l.H.set i A,l.E5,l.Fence,l.h,l.Calls⟩⟩ (i:Int) (((V l.H i).P.length:Nat):Int)=some ⟨putV l i A⟩:=by
 obtain⟨m,hm⟩:=hx
 have hset:V (l.H.set i A) i=A:=Ql hi
 have hc:=QyA (l:={ l with H:=l.H.set i A }) (i:=i) (k:=(V l.H i).P.length) (by show i<(l.H.set i A).length;rw[CL];exact hi) (by show QC (V (l.H.set i A) i);rw[hset];exact hA)
  (by show _<=(V (l.H.set i A) i).P.length;rw[hset,hm];simp) hcl
 refine hc.trans ?_
 show some (D.worker.mk { l with H:=l.H.set i A,Calls:=l.Calls++QO (V (l.H.set i A) i).S l.Fence ((V (l.H.set i A) i).P.drop (V l.H i).P.length) })=_
 rw[hset];rfl
def QpO(h:LW M n l)(hpg:l.H.length<=9)(hi:i<l.H.length):QI 1000 ⟨l⟩ (i:Int)=some ⟨runI l i⟩:=by
 have hcl:=h.callsLe hpg
 have hat:=h.at hi
 have hpl:=hat.1.plen h.book
 refine Ok.eq ?_
 unfold QI
 refine Ok.natn (Ok.lt hi (Ok.get hi (Ok.oe (QCC h.cfg h.small h.book hpl) ?_)))
 have hext:=QpR (c:=l.F) (now:=l.E9) h.book hat.1
 have hR:=hpl.runV (c:=l.F) (now:=l.E9) h.book
 have hid:=(Qf9 (c:=l.F) (now:=l.E9) h.book QT.step hat.1).id
 have herr:=(QeB (c:=l.F) (now:=l.E9) h.book QT.step hat.1).2.1
 rw[h.runEq hi]
 obtain⟨R,e,hRe⟩:∃R e,runV l.F l.b (V l.H i) l.E9=(R,e):=⟨_,_,rfl⟩
 rw[hRe]at hext hR hid herr |-
 try dsimp only at hext hR hid herr |-
 subst herr
 refine Ok.NS (Ok.natn (Ok.lt hi (Ok.get hi (Ok.natn (Ok.lt hi (Ok.get hi ?_))))))
 exact Ok.oe (Qxn hi hR hext U) (Ok.s rfl)
def Qzt(h:Qd M n l)(hpg:l.H.length<=9):∀{k:Nat},k<l.H.length->QI 1000 ⟨ZG l k⟩ (k:Int)=some ⟨ZG l (k+1)⟩:=fun{k} hk=>by
 have hr:=h.runs (k:=k) U
 have hl:=(YG (l:=l) (k:=k)).2.2.2.2.2.2
 exact QpO hr.w (by rw[hl];exact hpg) (by rw[hl];exact hk)
def QBv(hf:0<=l.Fence/\l.Fence<=1048576)(hk:o.Z=2):Yj 1000 ⟨l⟩ o=some ((opV l o).2,⟨(opV l o).1⟩):=by
 refine Ok.eq ?_
 unfold Yj opV
 rw[iA U,iB hk,Qb (by dsimp only;omega)]
 refine Ok.ite (fun g=>Ok.s ?_) (fun g=>Ok.s ?_)
 .simp_all
 .simp_all
def QxO(h:LW M n l)(hpg:l.H.length<=9)(ho:OpIn o)(hk:o.Z=3):ZZ 1000 ⟨l⟩ o=some ((opV l o).2,⟨(opV l o).1⟩):=by
 have hop:=ho.page
 refine Ok.eq ?_
 unfold ZZ opV
 rw[iA U,iA U,iB hk]
 refine Ok.TG (fun y=>y=((),(l.E9,l.F.FG,l.F.l,l.F.o,l.F.f,l.b.v,l.b.k,l.E5,l.Fence,()),o,l.H,l.h,l.Calls,())/\o.Region=l.E5/\o.Fence=l.Fence) (fun y hy=>?_) (fun zG hJ=>Ok.ite (fun g=>Ok.s ?_) (fun g=>Ok.ite (fun g2=>Ok.s ?_) (fun g2=>hJ _ ⟨rfl,by simpa using g,by simpa using g2⟩)))
 .obtain⟨rfl,g1,g2⟩:=hy
  try dsimp only
  rw[iB ⟨g1,g2⟩]
  refine Ok.oe (QlQ (l:=l) h U) (Ok.ncnd (fun hh=>Ok.s ?_) (fun hh=>?_))
  .simp_all
  .rw[iB hh]
   have hi:=(UK hh).1
   refine Ok.natn (Ok.lt hi (Ok.get hi ?_))
   have hrun:=QpO h hpg hi
   obtain⟨pg,hpg2⟩:∃pg,V l.H (posV o.Page l.H)=pg:=⟨_,rfl⟩
   rw[hpg2]
   have hw:Yp pg l.E9=((dueV pg).2 && decide ((dueV pg).1<=l.E9)):=rfl
   have hkk:(if pg.p=2 then(-1:Int)else pg.E7)=QhL pg:=rfl
   rw[hkk]
   refine Ok.TG (fun y=>y=((((posV o.Page l.H:Nat):Int),()),(l.E9,l.F.FG,l.F.l,l.F.o,l.F.f,l.b.v,l.b.k,l.E5,l.Fence,()),l.H,l.h,l.Calls,())/\Yp pg l.E9=true/\o.K=QhL pg) (fun y hy=>?_) (fun zG hJ=>?_)
   .obtain⟨rfl,g3,g4⟩:=hy
    try dsimp only
    rw[iB ⟨g3,g4⟩]
    exact Ok.oe hrun (Ok.s rfl)
   .refine Ok.oe QnP (Ok.C (fun g3=>Ok.ite (fun g4=>Ok.s ?_) (fun g4=>Ok.oe Qzc (Ok.ite (fun g5=>Ok.s ?_) (fun g5=>hJ _ ⟨rfl,?_,?_⟩)))) (fun g3=>Ok.s ?_))
    .rw[iA (fun hx=>by rw[hw,g3]at hx;have:=BF (show decide ((dueV pg).1<=l.E9)=true by simpa using hx.1);omega)]
    .rw[iA (fun hx=>g5 hx.2.symm)]
    .simp_all
    .omega
    .simp_all
 .simp_all
 .simp_all
def QxC(h:Qd M n l)(hpg:l.H.length<=9)(hd:DecL l)(hk:o.Z=4)(ha:YY o.a=true):ZQ 1000 ⟨l⟩ o=some ((opV l o).2,⟨(opV l o).1⟩):=by
 have hcl:=h.callsLe hpg
 have hap:=(QrO ha).2
 refine Ok.eq ?_
 unfold ZQ opV
 rw[iA U,iA U,iA U,iB hk]
 refine Ok.oe (QlQ (l:=l) h.w U) (Ok.ncnd (fun hh=>Ok.s ?_) (fun hh=>?_))
 .simp_all
 .rw[iB hh]
  have hi:=UK hh
  refine Ok.oe (QpO h.w hpg hi.1) ?_
  have h2:=h.run hi.1
  have hkp:=Y7 (l:=l) (i:=posV o.a.Page l.H)
  obtain⟨i,hie⟩:∃i,posV o.a.Page l.H=i:=⟨_,rfl⟩
  rw[hie]at hi h2 hkp |-
  have hi2:i<(runI l i).H.length:=U
  have hcl2:=h2.callsLe U
  refine Ok.natn (Ok.lt hi2 (Ok.get hi2 ?_))
  have hpl2:=h2.plens _ (Qf hi2)
  have hde:(V (runI l i).H i).i.length<=11:=by
   have:=((hd.run h hi.1) _ (Qf (hie ▸ hi2))).dlen (h2.at hi2).1.declined
   omega
  obtain⟨a,hae⟩:∃a:D.a,a=D.a.mk o.a.S o.a.Page o.a.R o.a.Z o.a.Fo (runI l i).E9:=⟨_,rfl⟩
  have hae2:D.a.mk o.a.S o.a.Page o.a.R o.a.Z o.a.Fo l.E9=a:=by rw[hae,hkp.1]
  rw[<-hae]
  refine Ok.oe (QvI h2.book hpl2 hde) ?_
  have hz:=QcE (b:=(runI l i).b) (p:=V (runI l i).H i) (a:=a)
  have hAl:=hpl2.answerV (a:=a) h2.book
  show Ok _ (·=((if (answerV l.b (V (runI l i).H i) (D.a.mk o.a.S o.a.Page o.a.R o.a.Z o.a.Fo l.E9)).2=0 then(putV (runI l i) i (answerV l.b (V (runI l i).H i) (D.a.mk o.a.S o.a.Page o.a.R o.a.Z o.a.Fo l.E9)).1,(0:Int))else(runI l i,(answerV l.b (V (runI l i).H i) (D.a.mk o.a.S o.a.Page o.a.R o.a.Z o.a.Fo l.E9)).2)).2,(D.worker.mk (if (answerV l.b (V (runI l i).H i) (D.a.mk o.a.S o.a.Page o.a.R o.a.Z o.a.Fo l.E9)).2=0 then(putV (runI l i) i (answerV l.b (V (runI l i).H i) (D.a.mk o.a.S o.a.Page o.a.R o.a.Z o.a.Fo l.E9)).1,(0:Int))else(runI l i,(answerV l.b (V (runI l i).H i) (D.a.mk o.a.S o.a.Page o.a.R o.a.Z o.a.Fo l.E9)).2)).1)))
  rw[hae2,<-hkp.2.2.1]
  obtain⟨A,e,hA⟩:∃A e,answerV (runI l i).b (V (runI l i).H i) a=(A,e):=⟨_,_,rfl⟩
  rw[hA]at hz hAl |-
  try dsimp only at hz hAl |-
  by_cases he:e=0
  .rw[iB he]
   have hq:=hz he
   have hext:Ext (V (runI l i).H i) A:=by
    rcases hq with rfl|rfl
    .exact Ext.refl _
    .exact Qhu
   refine Ok.n (fun g=>g he) (Ok.natn (Ok.lt hi2 (Ok.get hi2 (Ok.natn (Ok.lt hi2 (Ok.get hi2 ?_))))))
   exact Ok.oe (Qxn hi2 hAl hext U) (Ok.s rfl)
  .rw[iA he]
   exact Ok.p he (Ok.s rfl)
end
end
section
open Go AM
attribute [local irreducible] dueV stepV runV QG answerV
section
def OpIn.validE(ho:OpIn o):Qax 1000 o=some true:=by
 refine Ok.eq ?_
 unfold Qax
 refine Ok.oe oin (Ok.bt (Qu.2 ho.id) (Ok.oe oin (Ok.bt (Qu.2 ho.kind) (Ok.oe oin (Ok.bt (Qu.2 ho.region) (Ok.oe oin (Ok.bt (Qu.2 ho.fence) (Ok.oe oin (Ok.bt (Qu.2 ho.at_) (Ok.oe oin (Ok.bt (Qu.2 ho.page) (Ok.oe oin (Ok.bt (Qu.2 ho.k) ?_)))))))))))))
 exact Ok.ite (fun g=>Ok.s rfl) (fun g=>Ok.oe Qua (Ok.bt (ho.answer U).1 (Ok.s rfl)))
end
end
section
attribute [local irreducible] dueV stepV runV QG answerV
section
def Qu6(h:Runs l ops):QgO 1000 l ops=some (opsV l ops,Qau l ops):=by
 have hlen:=h.len
 refine Ok.eq ?_
 unfold QgO
 have h0:=h.fin 0 (BL _)
 rw[Bd]at h0
 refine Ok.oe h0.copy ?_
 refine Ok.run ops.length (fun j=>((ops,(j:Int),()),opsV l (ops.take j),({ E9:=0,F:={ FG:=[],l:=[],o:=[],f:=[] },b:={ v:=[],k:=[] },H:=[],E5:=0,Fence:=0,h:=[],Calls:=[] }:D.G),Qau l (ops.take j),())) rfl U (fun j hj k hk=>?_) (fun k=>?_)
 .try dsimp only
  have ha:=h.at_ j hj
  have hf:=h.fin (j+1) U
  have hel:=Qip (ops:=ops.take j) (l:=l)
  rw[Ae]at hel
  try dsimp only at hk
  rw[QjB hj]at hk
  rw[QfH hj]at hk hf
  refine Ok.P (Ok.atn hj (Ok.oe ha.TM ?_))
  obtain⟨l',e,hle⟩:∃l' e,Zk (opsV l (ops.take j)) (V ops j)=(l',e):=⟨_,_,rfl⟩
  rw[hle]at hf hk |-
  try dsimp only at hf hk |-
  refine Ok.j (Ok.oe hf.check (Ok.t ?_))
  try dsimp only
  refine Ok.LS ?_
  try dsimp only
  rw[Qa U]
  exact hk
 .try dsimp only
  rw[Ac]
  exact Ok.N (Ok.s rfl)
end
end
section
open Go AM
attribute [local irreducible] dueV stepV runV QG answerV
section
def QCp(hl:L.length<=64):QD 1000 L (posV P.S L:Int) [P]=some (insP L P):=by
 have hp:=Qde (id:=P.S) (l:=L)
 refine Ok.eq ?_
 unfold QD insP
 by_cases g:posV P.S L=L.length
 .rw[iB U]
  unfold XY
  refine Ok.natn (Ok.TO hp (Ok.NS (Ok.P (Ok.LS (Ok.s ?_)))))
  simp_all
 .rw[iA U]
  exact Ok.natn (Ok.E (Ok.L (Ok.s rfl)))
def Qzg(h:Qd M n l)(hpg:l.H.length<=8)(ho:OpIn o)(hk:o.Z=1):Z5 1000 ⟨l⟩ o=some ((opV l o).2,⟨(opV l o).1⟩):=by
 have hnow:=h.now;have htop:=h.top;have hpl:=h.book.plen;have hop:=ho.page
 refine Ok.eq ?_
 unfold Z5 opV
 rw[iB hk]
 refine Ok.oe (QlQ (l:=l) h.w U) (Ok.C (fun g=>Ok.s ?_) (fun g=>?_))
 .rw[iB g]
 replace g:hasV o.Page l.H=false:=g
 rw[iA (by rw[g];simp)]
 refine Ok.n (by dsimp only;omega) ?_
 rw[iA U]
 refine Ok.oe (QBq h.book) ?_
 unfold newV
 by_cases g1:o.Page<1
 .rw[iB g1,iA (fun hh=>by have:=Qu.1 hh.1;omega)]
  exact Ok.PS (Ok.s rfl)
 rw[iA g1,iB ⟨Qu.2 U,Qu.2 (by dsimp only;omega)⟩]
 by_cases g2:0<=o.W/\o.W<(l.b.k.length:Int)
 .rw[iB g2,iB (Qu.2 (by dsimp only;omega))]
  try dsimp only
  refine Ok.NS ?_
  obtain⟨hi1,hi2,hi3⟩:=h.open (o:=o) g U g2 U
  have hP:(newP o.Page o.W l.E9).S=o.Page:=rfl
  have hins:=QCp (P:=newP o.Page o.W l.E9) (L:=l.H) h.len
  rw[hP]at hins
  refine Ok.oe hins ?_
  exact Ok.oe (QpO hi1.w (by show(insP l.H _).length<=9;rw[QkX];omega) hi2) (Ok.s rfl)
 .rw[iA g2,iA (fun hh=>g2 (by have:=Qu.1 hh;dsimp only at this;omega))]
  exact Ok.PS (Ok.s rfl)
def OkAt.applyN(h:OkAt l o)(hne:o.Z≠5):Qay 1000 l o=some ((Zk l o).1,(Zk l o).2,true):=by
 obtain⟨M,n,h1,h2,h3⟩:=h.ok
 have hpg:=h.pg;have hsl:=h.len;have ho:=h.op;have hfe:=h1.fence
 refine Ok.eq ?_
 unfold Qay
 refine Ok.j (Ok.oe h.led.checkE (Ok.t (Ok.oe ho.validE (Ok.t ?_))))
 try dsimp only
 refine Ok.oe h.led.copyE (Ok.oe (QaW U) (Ok.C (fun g=>Ok.s ?_) (fun g=>?_)))
 .unfold Zk;rw[iB g]
 rw[QbU g]
 have hsee:=h1.see ho h3 g hsl
 have hsp:(seeV l o).H.length<=8:=hpg
 have hsf:0<=(seeV l o).Fence/\(seeV l o).Fence<=1048576:=by show 0<=l.Fence/\l.Fence<=1048576;omega
 have hsd:DecL (seeV l o):=h.dec
 have hkd:=ho.kind
 have key:∀r:Int×D.worker,r=((opV (seeV l o) o).2,⟨(opV (seeV l o) o).1⟩)->Ok (some (D.G.mk r.2.G.E9 (D.F.mk r.2.G.F.FG r.2.G.F.l r.2.G.F.o r.2.G.F.f) (D.b.mk r.2.G.b.v r.2.G.b.k) r.2.G.H r.2.G.E5 r.2.G.Fence r.2.G.h r.2.G.Calls,r.1,true)) (·=((opV (seeV l o) o).1,(opV (seeV l o) o).2,true)):=fun r e=>by
  subst e
  obtain⟨L,e,hLe⟩:∃L e,opV (seeV l o) o=(L,e):=⟨_,_,rfl⟩
  rw[hLe]
  exact Ok.s rfl
 refine Ok.N (Ok.LS (Ok.j ?_))
 refine Ok.ite (fun k1=>?_) (fun k1=>Ok.ite (fun k2=>?_) (fun k2=>Ok.ite (fun k3=>?_) (fun k3=>Ok.ite (fun k4=>?_) (fun k4=>?_))))
 .exact Ok.oe (Qzg (l:=seeV l o) hsee hsp ho k1) (key _ rfl)
 .exact Ok.oe (QBv (l:=seeV l o) hsf k2) (key _ rfl)
 .exact Ok.oe (QxO (l:=seeV l o) hsee.w U ho k3) (key _ rfl)
 .exact Ok.oe (QxC (l:=seeV l o) hsee U hsd k4 (ho.answer k4).1) (key _ rfl)
 .omega
def Led.waiting(h:Led l):UR 1000 l t=some (Qd3 l.H t):=by
 have hpg:=h.pg
 refine Ok.eq ?_
 unfold UR
 refine Ok.oe h.checkE (Ok.nt rfl ?_)
 refine Ok.run l.H.length (fun i=>((t,l.H,(l.H.length:Int),(i:Int),()),Qd3 (l.H.take i) t,())) rfl U (fun i hi k hk=>?_) (fun k=>?_)
 .try dsimp only
  have hs:=Qom (t:=t) hi
  have hlen:=QmZ (L:=l.H.take i) (t:=t)
  rw[Ae]at hlen
  try dsimp only at hk
  rw[hs]at hk
  refine Ok.P (Ok.j (Ok.atn hi (Ok.oe QnP (Ok.C (fun g=>Ok.ite (fun g2=>Ok.LS ?_) (fun g2=>?_)) (fun g=>?_)))))
  .try dsimp only
   rw[Qa U]
   rw[iB (by unfold Yp;rw[g,decide_eq_true g2];rfl)]at hk;exact hk
  .try dsimp only
   rw[Qa U]
   rw[iA (by unfold Yp;rw[decide_eq_false g2];simp),An]at hk;exact hk
  .try dsimp only
   rw[Qa U]
   rw[iA (by unfold Yp;rw[g];simp),An]at hk;exact hk
 .try dsimp only
  refine Ok.N (Ok.s ?_)
  rw[Ac]
def Qu5(h:Runs l ops)(hne:∀o∈ops,o.Z≠5):YX 1000 l ops=some (opsV l ops,Qau l ops):=by
 have hlen:=h.len
 refine Ok.eq ?_
 unfold YX
 have h0:=h.fin 0 (BL _)
 rw[Bd]at h0
 refine Ok.oe (Led.copyE (l:=l) h0) ?_
 refine Ok.run ops.length (fun j=>((ops,(ops.length:Int),(j:Int),()),opsV l (ops.take j),({ E9:=0,F:={ FG:=[],l:=[],o:=[],f:=[] },b:={ v:=[],k:=[] },H:=[],E5:=0,Fence:=0,h:=[],Calls:=[] }:D.G),Qau l (ops.take j),())) rfl U (fun j hj k hk=>?_) (fun k=>?_)
 .try dsimp only
  have ha:=h.at_ j hj
  have hel:=Qip (ops:=ops.take j) (l:=l)
  rw[Ae]at hel
  try dsimp only at hk
  rw[QjB hj]at hk
  rw[QfH hj]at hk
  refine Ok.P (Ok.atn hj (Ok.oe (ha.applyN (hne _ (Qf hj))) ?_))
  refine Ok.LS ?_
  try dsimp only
  rw[Qa U]
  exact hk
 .try dsimp only
  rw[Ac]
  exact Ok.N (Ok.s rfl)
end
end
section
attribute [local irreducible] dueV stepV runV QG answerV opV Zk opsV Qau
section
variable {n:Nat} {M:Int} {l x:D.G} {o:D.Op} {i k:Nat} {t r id now f:Int}
def owin{fu:Nat}{x lo hi:Int}:QgB fu x lo hi=some (inV x lo hi):=by
 unfold QgB inV
 by_cases h1:lo<=x<;>by_cases h2:x<=hi<;>simp[cd,AM.C,h1,h2]
structure OwnE (l:D.G):Prop where
 r:OwnR l
 chkE:XM 1000 l=some true
 waitE:∀t,UR 1000 l t=some (Qd3 l.H t)
 findE:∀p∈l.H,Qdw 1000 l p.S=some (Qc8 l p.S)
def Led.ownE(h:Led l):OwnE l:=by
 obtain⟨M,n,h1,h2⟩:=h.ok
 exact⟨h.ownR,h.checkE,fun t=>h.waiting,fun p hp=>Qyd h1 (by have:=(h1.page p hp).1.id;omega)⟩
def QtV(h:OwnE l):Qcc 1000 l r id now=some (if Qfl r id now=true then 0 else 1):=by
 refine Ok.eq ?_
 unfold Qcc Qfl
 refine Ok.oe h.chkE (Ok.nt rfl (Ok.j (Ok.oe owin (Ok.C (fun g1=>Ok.oe owin (Ok.C (fun g2=>Ok.oe owin (Ok.C (fun g3=>Ok.s ?_) (fun g3=>Ok.s ?_))) (fun g2=>Ok.s ?_))) (fun g1=>Ok.s ?_)))))
 all_goals simp[*]
def Qwd(h:OwnE l):QaB 1000 l r id now=some (Qly l r id now):=by
 have hf:=h.r.fence
 refine Ok.eq ?_
 unfold QaB Qly
 refine Ok.oe (QtV h) ?_
 by_cases g:Qfl r id now=true
 .rw[iB g,iB g]
  refine Ok.NS (Ok.ite (fun g2=>Ok.s ?_) (fun g2=>Ok.s ?_))
  .rw[iB g2];rfl
  .rw[iA g2,Qb (x:=l.Fence+1) U];rfl
 .rw[iA g,iA g];exact Ok.PS (Ok.s rfl)
def Qve(h:OwnE l):QcN 1000 l r id now=some (Qmo l r id now):=by
 have hpg:=h.r.pg
 have hwl:=Qjl (l:=l) (t:=now);have hwe:=QeP (l:=l) (t:=now)
 refine Ok.eq ?_
 unfold QcN Qmo
 refine Ok.j (Ok.oe (QtV h) ?_)
 by_cases g:Qfl r id now=true
 .obtain⟨c1,c2,c3⟩:=Qij.1 g
  rw[iB g]
  refine Ok.NS (Ok.ite (fun g2=>Ok.s (by rw[iA (fun h=>g2 h.2.1)])) (fun g2=>?_))
  have g2:r=l.E5:=Ak.1 g2
  rw[Qb (x:=id+(l.H.length:Int)) U]
  refine Ok.ite (fun g3=>Ok.s (by rw[iA (fun h=>U)])) (fun g3=>?_)
  rw[iB ⟨g,g2,U⟩]
  try dsimp only
  refine Ok.oe (h.waitE now) ?_
  refine Ok.run (XT l now).length (fun k=>((r,id,now,Qd3 l.H now,(((Qd3 l.H now).length:Nat):Int),(k:Int),()),l,(WS l id now).take k,())) rfl U (fun k hk K hK=>?_) (fun K=>?_)
  .try dsimp only
   have hl:((WS l id now).take k).length<=9:=by rw[Ae,XQ];omega
   try dsimp only at hK
   rw[Qkq hk]at hK
   refine Ok.P (Ok.A ?_)
   rw[QrQ hk]
   refine Ok.oe (h.findE _ (Qn0 hk)) ?_
   rw[QqM h.r hk]
   refine Ok.j ?_
   have hw:J (id+(k:Int))=id+k:=Qb U
   refine Ok.ite (fun g4=>Ok.LS ?_) (fun g4=>Ok.LS ?_)
   .try dsimp only at g4 |-
    rw[hw,Qa U]
    have e:WG l id now k=D.Op.mk (id+k) 3 r l.Fence now (UW l now k).S (-1) 0 0 (D.a.mk 0 0 0 0 0 0) (D.t.mk 0 0 0 0 0):=by unfold WG QhL;rw[iB g4,g2];rfl
    rw[<-e];exact hK
   .try dsimp only at g4 |-
    rw[hw,Qa U]
    have e:WG l id now k=D.Op.mk (id+k) 3 r l.Fence now (UW l now k).S (UW l now k).E7 0 0 (D.a.mk 0 0 0 0 0 0) (D.t.mk 0 0 0 0 0):=by unfold WG QhL;rw[iA g4,g2];rfl
    rw[<-e];exact hK
  .try dsimp only
   exact Ok.N (Ok.s (Bf (by rw[XQ];omega)))
 .rw[iA g];exact Ok.PS (Ok.s (by rw[iA (fun h=>g h.1)]))
end
end
section
open Go AM
def Qu3(h:Led l):YX 1000 l []=some (l,[]):=
 Qu5 (l:=l) (ops:=[]) ⟨fun j hj=>absurd hj Ob,fun j _=>by rw[List.take_nil];exact h,Ob⟩ Ob
attribute [local irreducible] dueV stepV runV QG answerV opV Zk opsV Qau
section
def vin:QaK fu x lo hi=some (inV x lo hi):=by
 unfold QaK inV
 by_cases h1:lo<=x<;>by_cases h2:x<=hi<;>simp[cd,AM.C,h1,h2]
def gin:U4 fu x lo hi=some (inV x lo hi):=vin (fu:=fu)
def pin:Qdy fu x lo hi=some (inV x lo hi):=vin (fu:=fu)
def inn(h1:lo<=x)(h2:x<=hi):inV x lo hi=true:=Qu.2 ⟨h1,h2⟩
structure Shp (n:Nat) (r:D.N):Prop where
 term:r.Q<=1048576
 voted : -1<=r.FZ/\r.FZ<n
 role:(r.FA=0/\r.FQ=[]/\r.E8=[])\/(r.FA=1/\r.FQ.length=n/\V r.FQ r.S.toNat=true/\r.E8=[])\/
  (r.FA=2/\r.FQ.length=n/\V r.FQ r.S.toNat=true/\r.E8.length=n/\V r.E8 r.S.toNat=r.j.length/\∀j,j<n->0<=V r.E8 j/\V r.E8 j<=r.j.length)
def Qs4(hn:1<=n/\n<=5)(h:Shp n r)(hid:0<=r.S/\r.S<n)(hl:r.j.length<=256)(hc:0<=r.d/\r.d<=r.j.length)(ht:0<=r.Q)(hf:∀k,k<r.j.length->(if k=0 then 1 else(V r.j (k - 1)).Q)<=(V r.j k).Q/\(V r.j k).Q<=r.Q):Uz 1000 n r=some true:=by
 have hterm:=h.term;have hv:=h.voted
 have logged:QeO 1000 r=some true:=by
  refine Ok.eq ?_
  unfold QeO
  refine Ok.run r.j.length (fun i=>(((if i=0 then 1 else(V r.j (i - 1)).Q),r.j,(r.j.length:Int),(i:Int),()),r,())) rfl U (fun i hi K hK=>?_) fun K=>?_
  .obtain⟨f1,f2⟩:=hf i hi
   dsimp only at hK |-
   refine Ok.P (Ok.atn hi (Ok.oe vin (Ok.nt (inn (by show _<=(V r.j i).Q;omega) (by show(V r.j i).Q<=_;omega)) ?_)))
   rw[Qa U]
   simp_all
  .exact Ok.n (by show ¬(r.j.length:Int)<(r.j.length:Int);omega) (Ok.P (Ok.oe vin (Ok.bt (inn U U) (Ok.s rfl))))
 refine Ok.eq ?_
 unfold Uz
 refine Ok.j (Ok.oe vin (Ok.bt (inn U U) ?_))
 rw[Qb (x:=(n:Int) - 1) U]
 refine Ok.oe vin (Ok.bt (inn U U) (Ok.oe vin (Ok.bt (inn U U) (Ok.oe vin (Ok.bt (inn U U) (Ok.oe logged (Ok.t ?_)))))))
 dsimp only
 have vs:r.FQ.length=n->V r.FQ r.S.toNat=true->Qd2 1000 n r=some true:=fun e1 e2=>by
  refine Ok.eq ?_
  unfold Qd2
  exact Ok.P (Ok.at U U (Ok.bt e2 (Ok.s rfl)))
 rcases h.role with e|e|e
 .exact Ok.p e.1 (Ok.p (by rw[e.2.1];rfl) (Ok.p (by rw[e.2.2];rfl) (Ok.s rfl)))
 .exact Ok.N (Ok.p e.1 (Ok.oe (vs e.2.1 e.2.2.1) (Ok.t (Ok.p (by rw[e.2.2.2];rfl) (Ok.s rfl)))))
 .obtain⟨e1,e2,e3,e4,e5,e6⟩:=e
  refine Ok.N (Ok.N (Ok.p e1 (Ok.oe (vs e2 e3) (Ok.t (Ok.oe (v:=true) ?_ (Ok.t (Ok.s rfl)))))))
  refine Ok.eq ?_
  unfold Qgi
  refine Ok.P (Ok.at U U (Ok.P (Ok.oe (v:=false) ?_ (Ok.f (Ok.s rfl)))))
  refine Ok.eq ?_
  unfold Zo
  refine Ok.oe (v:=-1) ?_ (Ok.TF (Ok.s Ob))
  refine Ok.eq ?_
  unfold ZI
  refine Ok.run n (fun i=>((r.E8,(r.E8.length:Int),(i:Int),()),r,())) rfl U (fun i hi K hK=>?_) fun K=>Ok.n (by show ¬(n:Int)<(r.E8.length:Int);omega) (Ok.TF (Ok.s rfl))
  have:=e6 i hi
  dsimp only at hK |-
  refine Ok.P (Ok.A (Ok.oe (v:=false) ?_ (Ok.f ?_)))
  .refine Ok.eq ?_
   unfold Qdj
   exact Ok.oe vin (Ok.TF (Ok.s (by rw[inn this.1 this.2];rfl)))
  .rw[Qa U]
   exact hK
structure CX (n:Nat) (P:D.Op->Prop) (c:D.M):Prop where
 sz:1<=n/\n<=5
 len:c.E.length=n
 dn:c.FP.length=n
 ck:Vo 1000 c=some true
 cp:Vy 1000 c=some c
 rep:∀i,i<n->(V c.E i).S=i/\Uz 1000 n (V c.E i)=some true/\Uh 1000 (V c.E i)=some (V c.E i)/\(V c.E i).j.length<=256/\((V c.E i).FA=2->(V c.E i).E8.length=n)
 ops:∀i,i<n->∀e∈(V c.E i).j,P e.Op
def QwC(hl:L.length<=900)(h:∀e∈L,e.Op.S≠o.S):Qo 1000 L o=some false:=by
 refine Ok.eq ?_
 unfold Qo
 refine Ok.oe (v:=-1) ?_ (Ok.TF (Ok.s Ob))
 refine Ok.eq ?_
 unfold QQ
 refine Ok.run L.length (fun i=>((L,(L.length:Int),(i:Int),()),o,())) rfl U (fun i hi K hK=>?_) fun K=>Ok.n (by show ¬(L.length:Int)<(L.length:Int);omega) (Ok.TF (Ok.s rfl))
 dsimp only at hK |-
 refine Ok.P (Ok.atn hi (Ok.oe (v:=false) ?_ (Ok.f ?_)))
 .refine Ok.eq ?_
  unfold Vz
  exact Ok.TF (Ok.s (by simp[h _ (Qf hi)]))
 .rw[Qa U]
  exact hK
def Qxr{n:Nat}(hn:1<=n/\n<=5):QeN 1000 n=some ((n / 2+1:Nat):Int):=by
 refine Ok.eq ?_
 unfold QeN
 have e:Int.tdiv (n:Int) 2=((n / 2:Nat):Int):=by rw[Bv U];omega
 rw[e,Qb (x:=((n / 2:Nat):Int)) U,Qb (x:=((n / 2:Nat):Int)+1) U]
 exact Ok.oe vin (Ok.nt (inn U U) (Ok.Z (Ok.s U)))
def QCJ(h:CX n P c)(hi:i<n)(hd:V c.FP i=false):QdO 1000 c (i:Int)=some 0:=by
 have hlen:=h.len;have hn:=h.sz;have hdn:=h.dn
 have ck:Qa8 1000 c (i:Int) (n:Int)=some 0:=by
  refine Ok.eq ?_
  unfold Qa8
  refine Ok.oe h.ck (Ok.nt rfl (Ok.oe gin ?_))
  rw[Qb (x:=(n:Int) - 1) U]
  exact Ok.nt (inn U U) (Ok.s rfl)
 refine Ok.eq ?_
 unfold QdO
 rw[hlen]
 exact Ok.oe ck (Ok.NS (Ok.A (Ok.bf hd (Ok.s rfl))))
def Qzi(hl:Led p.FR)(hser:1<=p.FN/\p.FN<=1000)(h:CX n P p.M)(hP:∀o,P o->OpIn o/\o.S<p.FN):Xs 1000 p=some true:=by
 have hlen:=h.len;have hn:=h.sz
 refine Ok.eq ?_
 unfold Xs
 refine Ok.j (Ok.oe hl.checkE (Ok.t (Ok.oe h.ck (Ok.t (Ok.oe pin (Ok.bt (inn U U) ?_))))))
 dsimp only
 rw[hlen]
 refine Ok.run n (fun i=>((p.M.E,(n:Int),(i:Int),()),p,())) rfl U (fun i hi K hK=>?_) fun K=>Ok.n (by show ¬(n:Int)<(n:Int);omega) (Ok.s rfl)
 dsimp only at hK |-
 refine Ok.P (Ok.A ?_)
 have hsh:=(h.rep i hi).2.2.2.1
 have hlog:=h.ops i hi
 obtain⟨zH,hC⟩:∃zH,zH=(V p.M.E i).j:=⟨_,rfl⟩
 rw[<-hC]at hsh hlog |-
 refine Ok.run zH.length (fun k=>((p.M.E,(n:Int),(i:Int),zH,(zH.length:Int),(k:Int),()),p,())) rfl U (fun k hk K2 hK2=>?_) fun K2=>Ok.n (by show ¬(zH.length:Int)<(zH.length:Int);omega) ?_
 .dsimp only at hK2 |-
  have hq:=hP _ (hlog _ (Qf hk))
  refine Ok.P (Ok.j (Ok.atn hk (Ok.oe hq.1.validE (Ok.t (Ok.n (by have:=hq.2;omega) ?_)))))
  dsimp only
  rw[Qa U]
  exact hK2
 .dsimp only
  rw[Qa U]
  exact hK
def Qur(h:CX n P c):QbQ 1000 c=some c:=by
 refine Ok.eq ?_
 unfold QbQ
 exact Ok.oe h.cp (Ok.s rfl)
def QsX(h:CX n P p.M)(hl:Led p.FR):Qcd 1000 p k=some (D.site.mk p k 0):=by
 refine Ok.eq ?_
 unfold Qcd
 exact Ok.oe (Qu3 hl) (Ok.oe (Qur h) (Ok.s rfl))
structure Lead (n i:Nat) (p:D.g):Prop where
 n1:n≠1
 lt:i<n
 up:V p.M.FP i=false
 role:(V p.M.E i).FA=2
 fresh:∀e∈(V p.M.E i).j,e.Op.S≠p.FN
 room:(V p.M.E i).j.length<256
structure PX (n:Nat) (p:D.g):Prop where
 base:Led p.FR
 ser:1<=p.FN/\p.FN<=1000
 cx:CX n (fun o=>OpIn o/\o.S<p.FN) p.M
def PX.ck(h:PX n p):Xs 1000 p=some true:=Qzi h.base h.ser h.cx fun _=>id
end
end
section
def Shp.fol(h:Shp n r)(ht:t<=1048576):Shp n (folV r t):=by
 unfold folV
 split
 .exact⟨ht,by dsimp only;omega,.inl ⟨rfl,rfl,rfl⟩⟩
 .exact h
def Shp.hear(h:Shp n r)(hm:CkM n r m k):Shp n (VP r m).1:=by
 have hf:=h.fol hm.term.2
 unfold VP
 dsimp only
 split
 .exact⟨hf.term,by have:=hm.from0;dsimp only;omega,hf.role⟩
 .exact hf
def Shp.lead(h:Shp n r)(hn:0<=r.S/\r.S<n)(h1:r.FA=1):Shp n (Qg1 n r):=by
 rcases h.role with e|e|e
 .omega
 .refine⟨h.term,h.voted,.inr (.inr ⟨rfl,e.2.1,e.2.2.1,by simp[Qg1],?_,fun j hj=>?_⟩)⟩
  .show V ((List.replicate n (0:Int)).set r.S.toNat _) r.S.toNat=_
   rw[Ql (by simp;omega)];rfl
  .show 0<=V ((List.replicate n (0:Int)).set r.S.toNat _) j/\V ((List.replicate n (0:Int)).set r.S.toNat _) j<=(r.j.length:Int)
   by_cases q:j=r.S.toNat
   .rw[q,Ql (by simp;omega)];omega
   .rw[QB q];simp[V,hj]
 .omega
def Shp.votes(h:Shp n r)(h1:r.FA=1)(hm:CkM n r m k):Shp n { r with FQ:=r.FQ.set m.w.toNat true }:=by
 rcases h.role with e|e|e
 .omega
 .refine⟨h.term,h.voted,.inr (.inl ⟨h1,by simp[e.2.1],?_,e.2.2.2⟩)⟩
  have:=hm.from0;have:=hm.ne;have:=hm.rep.id
  show V (r.FQ.set m.w.toNat true) r.S.toNat=true
  rw[QB U];exact e.2.2.1
 .omega
def Shp.cast(h:Shp n r)(hm:CkM n r m k):Shp n (Wg n r m):=by
 unfold Wg
 split
 .exact h.fol hm.term.2
 split
 .exact h
 .next y=>
  have h1:r.FA=1:=Bw fun z=>y (.inl z)
  have h2:=h.votes h1 hm
  split
  .exact h2.lead hm.rep.id h1
  .exact h2
def Shp.hrd(h:Shp n r)(ht:m.Q<=1048576):Shp n (hrdV r m):=by
 have hf:=h.fol ht
 unfold hrdV
 split
 .next x=>
  refine⟨hf.term,hf.voted,.inl ⟨rfl,rfl,?_⟩⟩
  rcases hf.role with e|e|e
  .exact e.2.2
  .exact e.2.2.2
  .omega
 .exact hf
def Shp.accept(h:Shp n r)(hm:b=true->CkM n r m 3):Shp n (XK b c r m).1:=by
 unfold XK
 split
 .exact h
 .next x=>
  have hb:b=true:=by cases b<;>simp at x |-
  have hf:=h.hrd (hm hb).term.2
  split
  .next y=>
   split
   .exact h
   .refine⟨hf.term,hf.voted,?_⟩
    rcases hf.role with e|e|e
    .exact .inl e
    .simp_all
    .exact absurd e.1 y.2.1
  .exact hf
def Shp.acked(h:Shp n r)(hm:CkM n r m k):Shp n (Ul n r m):=by
 unfold Ul
 split
 .exact h.fol hm.term.2
 split
 .exact h
 .next y=>
  have h1:r.FA=2:=Bw fun z=>y (.inl z)
  have h2:¬m.z<0:=fun z=>y (.inr (.inr (.inr (.inl z))))
  have h3:¬(r.j.length:Int)<m.z:=fun z=>y (.inr (.inr (.inr (.inr z))))
  rcases h.role with e|e|e
  .omega
  .omega
  .have hf:=hm.from0;have hne:=hm.ne;have hid:=hm.rep.id
   refine⟨h.term,h.voted,.inr (.inr ⟨h1,e.2.1,e.2.2.1,by simp[Ur,e.2.2.2.1],?_,fun j hj=>?_⟩)⟩
   .show V (Ur r m) r.S.toNat=_
    unfold Ur
    rw[QB U];exact e.2.2.2.2.1
   .show 0<=V (Ur r m) j/\V (Ur r m) j<=_
    have hj2:=e.2.2.2.2.2 j hj
    unfold Ur
    by_cases q:j=m.w.toNat
    .subst q
     rw[Ql U]
     grind
    .rw[QB q];exact hj2
def Shp.handle(h:Shp n r)(hm:b=true->CkM n r m m.Z):Shp n (Zf n b c r m).1:=by
 unfold Zf
 split
 .split
  .exact h
  .next y=>exact h.hear (hm (by simpa using y))
 split
 .dsimp only
  split
  .exact h
  .next y=>exact h.cast (hm (by simpa using y))
 split
 .next y=>exact h.accept fun e=>y ▸ hm e
 split
 .dsimp only
  split
  .exact h
  .next y=>exact h.acked (hm (by simpa using y))
 .exact h
def Shp.prop(h:Shp n r)(hid:0<=r.S/\r.S<n)(h2:r.FA=2):Shp n (prpV n r o):=by
 rcases h.role with e|e|e
 .omega
 .omega
 .refine⟨h.term,h.voted,.inr (.inr ⟨h2,e.2.1,e.2.2.1,by simp[prpV,e.2.2.2.1],?_,fun j hj=>?_⟩)⟩
  .show V (r.E8.set r.S.toNat _) r.S.toNat=((r.j++[_]).length:Int)
   rw[Ql U];simp
  .show 0<=V (r.E8.set r.S.toNat _) j/\V (r.E8.set r.S.toNat _) j<=((r.j++[_]).length:Int)
   have:=e.2.2.2.2.2 j hj
   rw[Ab]
   by_cases q:j=r.S.toNat
   .rw[q,Ql U];simp;omega
   .rw[QB q];simp;omega
def Shp.stand(h:Shp n r)(hid:0<=r.S/\r.S<n)(ht:r.Q<1048576):Shp n (if n / 2+1=1 then Qg1 n (Vt n r)else Vt n r):=by
 have h1:Shp n (Vt n r):=by
  refine⟨by show r.Q+1<=_;omega,by show -1<=r.S/\r.S<n;omega,.inr (.inl ⟨rfl,by simp[Vt],?_,rfl⟩)⟩
  show V ((List.replicate n false).set r.S.toNat true) r.S.toNat=true
  rw[Ql (by simp;omega)]
 split
 .exact h1.lead hid rfl
 .exact h1
def Shp.back(h:Shp n r):Shp n (Qv4 r):=⟨h.term,h.voted,.inl ⟨rfl,rfl,rfl⟩⟩
def QqN(hl:L.length<=256)(hf:∀k,k<L.length->(if k=0 then 1 else trm L (k - 1))<=trm L k/\trm L k<=x):Y6 1000 L x=some true:=by
 refine Ok.eq ?_
 unfold Y6
 refine Ok.run L.length (fun i=>((L,x,(if i=0 then 1 else trm L (i - 1)),(i:Int),()),())) rfl U (fun i hi K hK=>?_) fun K=>?_
 .obtain⟨f1,f2⟩:=hf i hi
  dsimp only at hK |-
  refine Ok.P (Ok.j (Ok.atn hi (Ok.n (by show ¬trm L i<_;omega) (Ok.atn hi (Ok.n (by show ¬x<trm L i;omega) ?_)))))
  dsimp only at hK |-
  refine Ok.atn hi ?_
  rw[Qa U]
  simp_all
 .exact Ok.N (Ok.s (by simp;omega))
def QAP(hn:1<=n/\n<=5)(h:Shp n r)(hid:0<=r.S/\r.S<n)(hl:r.j.length<=256)(hc:0<=r.d/\r.d<=r.j.length)(ht:0<=r.Q)(hf:∀k,k<r.j.length->(if k=0 then 1 else trm r.j (k - 1))<=trm r.j k/\trm r.j k<=r.Q):Yy 1000 n r=some true:=by
 have hterm:=h.term;have hv:=h.voted
 have fits:=QqN (L:=r.j) (x:=r.Q) hl hf
 refine Ok.eq ?_
 unfold Yy
 have inn:∀{x lo hi:Int},lo<=x->x<=hi->inV x lo hi=true:=fun h1 h2=>Qu.2 ⟨h1,h2⟩
 refine Ok.j (Ok.oe QhW (Ok.n (by rw[Qn3 hn];omega) ?_))
 rw[Qb (x:=(n:Int) - 1) U]
 refine Ok.oe rin (Ok.bt (inn U U) (Ok.oe rin (Ok.bt (inn U U) (Ok.oe rin (Ok.bt (inn U U) (Ok.oe fits (Ok.t (Ok.oe rin (Ok.bt (inn U U) ?_)))))))))
 dsimp only
 rcases h.role with e|e|e
 .exact Ok.p e.1 (Ok.p (by rw[e.2.1];rfl) (Ok.p (by rw[e.2.2];rfl) (Ok.s rfl)))
 .exact Ok.N (Ok.p e.1 (Ok.P (Ok.at U U (Ok.bt e.2.2.1 (Ok.p (by rw[e.2.2.2];rfl) (Ok.s rfl))))))
 .obtain⟨e1,e2,e3,e4,e5,e6⟩:=e
  refine Ok.N (Ok.N (Ok.p e1 (Ok.j (Ok.N (Ok.at U U (Ok.bt e3 (Ok.N (Ok.at U U (Ok.N ?_)))))))))
  refine Ok.run n (fun i=>(((n:Int),(i:Int),()),r,())) rfl U (fun i hi K hK=>?_) fun K=>Ok.n (show ¬(n:Int)<(n:Int)by omega) (Ok.s rfl)
  have:=e6 i hi
  dsimp only at hK |-
  refine Ok.P (Ok.A (Ok.oe rin (Ok.nt (inn this.1 this.2) ?_)))
  rw[Qa U]
  exact hK
def InvC.ck(h:InvC n P Rs W)(hi:i<n)(hn:n<=5)(hs:Shp n (V Rs i))(hl:(V Rs i).j.length<=256):Yy 1000 n (V Rs i)=some true:=by
 have hc:=h.com_le hi
 have hid:=h.id hi
 obtain⟨_,g,x⟩:=h
 have hr:=x.rep i hi
 refine QAP U hs U hl hc hr.pos fun k hk=>⟨?_,(hr.log.term k hk).2⟩
 split
 .exact(hr.log.term k hk).1
 .exact hr.log.asc (k - 1) k U hk
end
open Go AM
section
variable {n zI q fu i:Nat} {c:D.M} {r:D.N} {m:D.c} {o:D.Op} {t k x y:Int} {P:D.Op->Prop}
structure CkC (n:Nat) (c:D.M):Prop where
 len:c.E.length=n
 sz:1<=n/\n<=5
 down:c.FP.length=n
 wire:c.u.length<=256
 rep:∀i,i<n->(V c.E i).S=i/\Yy 1000 n (V c.E i)=some true/\CkR n (V c.E i)
 msg:∀m∈c.u,(0<=m.w/\m.w<n)/\(0<=m.To/\m.To<n)/\m.w≠m.To
def isC(L:Y D.FD)(x y:Int):AH:=L.any fun p=>decide (p.a0=min x y/\p.a1=max x y)
def QCR(n:Nat)(L:Y D.FD):Prop:=∀i,i<L.length->0<=(V L i).a0/\(V L i).a0<(V L i).a1/\(V L i).a1<n/\isC (L.take i) (V L i).a0 (V L i).a1=false
structure CI (n qq:Nat) (P:D.Op->Prop) (c:D.M):Prop where
 inv:InvC n P c.E c.u
 sz:1<=n/\n<=5
 idP:∀o,P o->1<=o.S/\o.S<=(256:Nat)
 shp:∀i,i<n->Shp n (V c.E i)
 dn:c.FP.length=n
 cut:c.Fg.length<=qq
 q:qq<=800
 cutOK:QCR n c.Fg
 wire:c.u.length<=256
 ents:∀m∈c.u,m.q.length<=600/\m.w≠m.To
 tm:∀i,i<n->(V c.E i).Q<=8*qq+8
def CI.len(h:CI n q P c):c.E.length=n:=h.inv.1
def CI.short(h:CI n q P c)(hi:i<n):(V c.E i).j.length<=256:=h.inv.short hi h.idP
def InvC.msg{Rs:Y D.N}{W:Y D.c}(h:InvC n P Rs W)(hm:m∈W):(0<=m.w/\m.w<n)/\(0<=m.To/\m.To<n):=by
 obtain⟨_,g,x⟩:=h
 exact⟨(x.msg m hm).from0,(x.msg m hm).to0⟩
def Qwl{L:Y D.FD}(hl:L.length<=900):QdL 1000 L x y=some (isC L x y):=by
 refine Ok.eq ?_
 unfold QdL
 have e:∀p:D.FD,([p.a0,p.a1]=[min x y,max x y])↔(p.a0=min x y/\p.a1=max x y):=fun p=>by simp
 refine Ok.scan L.length (fun i=>((L,x,y,(i:Int),()),())) (fun i=>decide ((V L i).a0=min x y/\(V L i).a1=max x y)) rfl U (fun i hi hq _ k=>?_) (fun i hi hq k hk=>?_) (fun hq k=>?_)
 .exact Ok.P (Ok.atn hi (Ok.p ((e _).2 (BF hq)) (Ok.s (Qjs hi hq).symm)))
 .dsimp only at hk |-
  refine Ok.P (Ok.atn hi (Ok.n (fun g=>BM hq ((e _).1 g)) ?_))
  rw[Qa U]
  exact hk
 .exact Ok.N (Ok.s (QnF hq).symm)
def CI.ck(h:CI n q P c):CkC n c:=
 ⟨h.len,h.sz,h.dn,h.wire,fun i hi=>by
  have hk:=h.inv.ck hi h.sz.2 (h.shp i hi) (h.short hi)
  obtain⟨b,hb,hb2⟩:=Qwc (n:=n) (r:=V c.E i) (by have:=h.short hi;omega)
  rw[hk]at hb;cases hb
  exact⟨h.inv.id hi,hk,hb2 rfl⟩,fun m hm=>⟨(h.inv.msg hm).1,(h.inv.msg hm).2,(h.ents m hm).2⟩⟩
def Qlu(h:CI n q P c):Qa6 1000 c=some true:=by
 have hc:=h.ck
 have hlen:=h.len;have hn:=h.sz;have hq:=h.q;have hcut:=h.cut;have hw:=h.wire;have hd:=h.dn
 have inn:∀{x lo hi:Int},lo<=x->x<=hi->inV x lo hi=true:=fun h1 h2=>Qu.2 ⟨h1,h2⟩
 refine Ok.eq ?_
 unfold Qa6
 rw[hlen]
 refine Ok.j (Ok.oe QhW (Ok.n (by rw[Qn3 hn];omega) (Ok.N (Ok.N ?_))))
 dsimp only
 refine Ok.run n (fun i=>(((n:Int),(i:Int),()),c,())) rfl U (fun i hi K hK=>?_) fun K=>?_
 .obtain⟨a1,a2,_⟩:=hc.rep i hi
  dsimp only at hK |-
  refine Ok.P (Ok.j (Ok.A (Ok.N (Ok.A (Ok.oe a2 (Ok.t ?_))))))
  dsimp only
  rw[Qa U]
  exact hK
 .dsimp only
  refine Ok.N (Ok.run c.u.length (fun i=>(((n:Int),(i:Int),()),c,())) rfl U (fun i hi K hK=>?_) fun K=>?_)
  .obtain⟨a1,a2,a3⟩:=hc.msg _ (Qf hi)
   dsimp only at hK |-
   rw[Qb (x:=(n:Int) - 1) U]
   refine Ok.P (Ok.j (Ok.atn hi (Ok.oe rin (Ok.bt (inn U U) (Ok.oe rin (Ok.bt (inn U U) (Ok.n a3 ?_)))))))
   dsimp only
   rw[Qa U]
   exact hK
  .dsimp only
   refine Ok.N (Ok.run c.Fg.length (fun i=>(((n:Int),(i:Int),()),c,())) rfl U (fun i hi K hK=>?_) fun K=>Ok.n (show ¬(c.Fg.length:Int)<(c.Fg.length:Int)by omega) (Ok.s rfl))
   obtain⟨a1,a2,a3,a4⟩:=h.cutOK i hi
   dsimp only at hK |-
   refine Ok.P (Ok.j (Ok.atn hi (Ok.N (Ok.N (Ok.N (Ok.natn (Ok.L (Ok.oe (Qwl (by simp;omega)) (Ok.bf a4 ?_)))))))))
   dsimp only
   rw[Qa U]
   exact hK
def CkC.copy(h:CkC n c)(hcut:c.Fg.length<=800)(hs:∀m∈c.u,m.q.length<=600):Xc 1000 c=some c:=by
 have hl:=h.len;have hn:=h.sz;have hw:=h.wire;have hd:=h.down
 refine Ok.eq ?_
 unfold Xc
 refine Ok.run n (fun i=>(((i:Int),()),c,(),(),c.E.take i,())) rfl U (fun i hi K hK=>?_) fun K=>?_
 .dsimp only at hK |-
  rw[<-Qp (show i<c.E.length by omega)]at hK
  refine Ok.P (Ok.A (Ok.oe (h.rep i hi).2.2.copyP (Ok.LS ?_)))
  rw[Qa U]
  exact hK
 .dsimp only
  rw[Bf U]
  refine Ok.N (Ok.run c.u.length (fun i=>(((i:Int),()),c,(),(),c.E,c.u.take i,())) rfl U (fun i hi K hK=>?_) fun K=>?_)
  .dsimp only at hK |-
   rw[<-Qp hi]at hK
   have:=hs _ (Qf hi)
   refine Ok.P (Ok.atn hi (Ok.L (Ok.LS ?_)))
   rw[Qa U]
   exact hK
  .dsimp only
   rw[Ac]
   exact Ok.N (Ok.L (Ok.L (Ok.s rfl)))
def CkC.cp(h:CkC n c)(hi:CI n q P c):Xc 1000 c=some c:=h.copy (by have:=hi.cut;have:=hi.q;omega) fun m hm=>(hi.ents m hm).1
def CI.cp(h:CI n q P c):Xc 1000 c=some c:=h.ck.cp h
def Qts{N:Nat}{o:I Int}(h:o=some (if inV k 0 ((N:Int) - 1)=true then 0 else 3)):Ok o fun e=>(e=0/\∃i:Nat,i<N/\k=i)\/(e=3/\¬(0<=k/\k<N)):=by
 refine Ok.of h ?_
 split
 .next g=>have:=Qu.1 g;exact .inl ⟨rfl,k.toNat,U,U⟩
 .next g=>exact .inr ⟨rfl,fun z=>g (Qu.2 ⟨z.1,U⟩)⟩
def QcZ(h:CI n q P c):Ok (VX 1000 c k) fun e=>(e=0/\∃i:Nat,i<n/\k=i)\/(e=3/\¬(0<=k/\k<n)):=by
 have hlen:=h.len;have hn:=h.sz
 refine Qts (Ok.eq ?_)
 unfold VX
 rw[hlen,Qb (x:=(n:Int) - 1) U]
 exact Ok.oe (Qlu h) (Ok.nt rfl (Ok.oe rin (Ok.ncnd (fun g=>Ok.s (by rw[g];rfl)) fun g=>Ok.s (by rw[g];rfl))))
def Qx6(h:CI n q P c):Ok (Qi5 1000 c k) fun e=>(e=0/\∃i:Nat,i<c.u.length/\k=i)\/(e=3/\¬(0<=k/\k<c.u.length)):=by
 have hw:=h.wire
 refine Qts (Ok.eq ?_)
 unfold Qi5
 rw[Qb (x:=(c.u.length:Int) - 1) U]
 exact Ok.oe (Qlu h) (Ok.nt rfl (Ok.oe rin (Ok.ncnd (fun g=>Ok.s (by rw[g];rfl)) fun g=>Ok.s (by rw[g];rfl))))
def GrC(n:Nat)(A B:Y D.N):Prop:=∀i,i<n->Grows (V A i) (V B i)
def GrC.same{A:Y D.N}:GrC n A A:=fun i _=>.same rfl rfl
def GrC.trans{A B zH:Y D.N}(h:GrC n A B)(h2:GrC n B zH):GrC n A zH:=fun i hi=>(h i hi).trans (h2 i hi)
def GrC.set{A:Y D.N}(hi:i<A.length)(h:Grows (V A i) r):GrC n A (A.set i r):=fun j _=>by
 by_cases e:j=i
 .subst e;rw[Ql hi];exact h
 .rw[QB e];exact .same rfl rfl
structure CG (n q:Nat) (P:D.Op->Prop) (A:Y D.N) (c:D.M):Prop where
 ci:CI n q P c
 gr:GrC n A c.E
def CI.cg(h:CI n q P c):CG n q P c.E c:=⟨h,.same⟩
def CG.of{A:Y D.N}(h:GrC n A c.E){d:D.M}(h2:CG n q P c.E d):CG n q P A d:=⟨h2.ci,h.trans h2.gr⟩
def CI.upd(h:CI n q P c){d:D.M}(hI:InvC n P d.E d.u)(hs:∀i,i<n->Shp n (V d.E i))(hd:d.FP.length=n)(hc:d.Fg=c.Fg)(hw:d.u.length<=256)(he:∀m∈d.u,m.q.length<=600/\m.w≠m.To)(ht:∀i,i<n->(V d.E i).Q<=8*q+8):CI n q P d:=⟨hI,h.sz,h.idP,hs,hd,by rw[hc];exact h.cut,h.q,by rw[hc];exact h.cutOK,hw,he,ht⟩
def CI.set(h:CI n q P c)(hi:i<n)(hr:Shp n r):∀j,j<n->Shp n (V (c.E.set i r) j):=fun j hj=>by
 by_cases e:j=i
 .subst e;rw[Ql (by rw[h.len];exact hj)];exact hr
 .rw[QB e];exact h.shp j hj
def CI.tset(h:CI n q P c)(hi:i<n)(hr:r.Q<=8*q+8):∀j,j<n->(V (c.E.set i r) j).Q<=8*q+8:=fun j hj=>by
 by_cases e:j=i
 .subst e;rw[Ql (by rw[h.len];exact hj)];exact hr
 .rw[QB e];exact h.tm j hj
def CI.atR(h:CI n q P c):(c.E.length:Int)=n:=by rw[h.len]
def QoO{zD W:Y D.c}(h:∀m∈zD,m.q.length<=600/\m.w≠m.To)(h2:∀m∈W,m.q.length<=600/\m.w≠m.To):∀m∈zD++W,m.q.length<=600/\m.w≠m.To:=fun m hm=>(Af.1 hm).elim (h m) (h2 m)
def QmS(h:CI n q P c)(ht:∀i,i<n->(V c.E i).Q<=8*q+7):Ok (Qf0 1000 c k) fun x=>(x.2=0->CG n q P c.E x.1/\∃i:Nat,i<n/\k=i/\V x.1.FP i=false/\∃zD,x.1={ c with E:=c.E.set i (if n / 2+1=1 then Qg1 n (Vt n (V c.E i))else Vt n (V c.E i)),u:=c.u++zD }/\(∀m∈zD,m.Z=1/\m.w=i/\m.Q=(V c.E i).Q+1)/\∀j:Nat,j<n->j≠i->∃m∈zD,m.To=j)/\∀i:Nat,i<n->k=i->V c.FP i=false->c.u=[]->x.2=0:=by
 have hlen:=h.len;have hn:=h.sz;have hw:=h.wire;have hd:=h.dn;have hq:=h.q
 have no:∀{x:D.M} {e:Int} {Q:Prop},e≠0->(∀i:Nat,i<n->k=i->V c.FP i=false->c.u=[]->False)->(((x,e):D.M×Int).2=0->Q)/\∀i:Nat,i<n->k=i->V c.FP i=false->c.u=[]->((x,e):D.M×Int).2=0:=fun h1 h2=>⟨fun e=>absurd e h1,fun i a1 a2 a3 a4=>(h2 i a1 a2 a3 a4).elim⟩
 unfold Qf0
 refine Ok.opt (QcZ h) fun e he=>?_
 rcases he with⟨rfl,i,hi,rfl⟩|⟨rfl,z⟩
 rotate_left
 .exact Ok.P (Ok.s (no Ob fun i a1 a2 _ _=>z ⟨U,U⟩))
 have hid:=(h.ck.rep i hi).2.2.id;have hid2:=h.inv.id hi
 have hti:=ht i hi
 refine Ok.N (Ok.A (Ok.C (fun g=>Ok.s (no Ob fun j _ e a _=>by
  obtain rfl:j=i:=U
  rw[g]at a;simp at a)) fun dn=>Ok.oe h.cp (Ok.natn (Ok.E (Ok.G ?_)))))
 rw[h.atR]
 refine Ok.opt (Qzz (by have:=h.short hi;omega)) fun⟨r',zD,e⟩ ⟨hs,hs2⟩=>Ok.ite (fun g=>Ok.s (no g fun j _ _ _ _=>g (hs2 (h.ck.rep i hi).2.1 U))) fun g2=>?_
 obtain⟨hr,e0,e1,e2,e3,e4⟩:=hs (Ak.1 g2)
 dsimp only at e1 e2 e3 e4 |-
 rw[Qb U]
 refine Ok.ite (fun g=>Ok.s (no Ob fun _ _ _ _ a=>by rw[a]at g;simp at g;omega)) fun g3=>Ok.L (Ok.natn (Ok.E (Ok.G (Ok.s ⟨fun _=>⟨⟨h.upd ?_ (h.set hi (by rw[e1];exact(h.shp i hi).stand hid e0)) hd rfl (by simp;omega) (QoO h.ents fun m hm=>?_) (h.tset hi ?_),.set U (by rw[e1];exact .stands)⟩,i,hi,rfl,dn,zD,by rw[e1],fun m hm=>?_,fun j hj hji=>e4 j hj U⟩,fun _ _ _ _ _=>rfl⟩))))
 .rw[e1]
  refine h.inv.stands hi fun m hm=>?_
  obtain⟨a1,a2,a3,a4,a5,a6,a7,_⟩:=e3 m hm
  exact⟨a1,by rw[a2,h.inv.id hi],a3,a4,a5,a6,a7⟩
 .obtain⟨a1,a2,a3,a4,a5,a6,a7,a8,a9⟩:=e3 m hm
  rw[a8,a2];exact⟨Ob,Ag a9⟩
 .rw[e1];split<;>(show(V c.E i).Q+1<=_;omega)
 .obtain⟨a1,a2,a3,a4,a5,_⟩:=e3 m hm
  exact⟨a1,U,a5⟩
def Qpj(h:CI n q P c):Ok (Qcl 1000 c k o) fun x=>x.2=0->(P o->CG n q P c.E x.1)/\∃i,i<n/\x.1.E.length=n/\∃e∈(V x.1.E i).j,e.Op=o:=by
 have hlen:=h.len;have hn:=h.sz;have hw:=h.wire;have hd:=h.dn
 unfold Qcl
 refine Ok.opt (QcZ h) fun e he=>?_
 rcases he with⟨rfl,i,hi,rfl⟩|⟨rfl,z⟩
 rotate_left
 .exact Ok.P (Ok.s fun e=>absurd e Ob)
 have hid:=(h.ck.rep i hi).2.2.id
 refine Ok.N (Ok.A (Ok.C (fun _=>Ok.s fun e=>absurd e Ob) fun _=>Ok.oe h.cp (Ok.natn (Ok.E (Ok.G ?_)))))
 rw[h.atR]
 refine Ok.opt (QBD (by have:=h.short hi;omega)) fun⟨r',e⟩ hs=>Ok.ite (fun g=>Ok.s fun e=>absurd e g) fun g2=>Ok.natn (Ok.E (Ok.G (Ok.s fun _=>?_)))
 obtain⟨hr,e1,e2,e3⟩:=hs (Ak.1 g2)
 dsimp only at e1 e2 e3 |-
 refine⟨fun hp=>⟨h.upd ?_ (h.set hi (by rw[e1];exact(h.shp i hi).prop hid e2)) hd rfl hw h.ents (h.tset hi (by rw[e1];exact h.tm i hi)),.set U (by rw[e1];exact .prop (h.inv.com_le hi))⟩,i,hi,by simp;exact hlen,⟨(V c.E i).Q,o⟩,?_,rfl⟩
 .rw[e1];exact h.inv.prop hi e2 (hr.ldr e2).1 hp e3
 .rw[e1,Ql U];simp[prpV]
def QkO(h:CI n q P c):Ok (V7 1000 c k) fun x=>(x.2=0->CG n q P c.E x.1/\x.1.FP=c.FP/\∃(i:Nat) (zD:Y D.c),i<n/\k=i/\x.1={ c with u:=c.u++zD }/\(∀m∈zD,∃j:Nat,j<n/\m=appV (V c.E i) j/\j≠i)/\∀j:Nat,j<n->j≠i->appV (V c.E i) j∈zD)/\∀i:Nat,i<n->k=i->V c.FP i=false->(V c.E i).FA=2->c.u=[]->x.2=0:=by
 have hlen:=h.len;have hn:=h.sz;have hw:=h.wire;have hd:=h.dn
 unfold V7
 refine Ok.opt (QcZ h) fun e he=>?_
 rcases he with⟨rfl,i,hi,rfl⟩|⟨rfl,z⟩
 rotate_left
 .exact Ok.P (Ok.s ⟨fun e=>absurd e Ob,fun i hi e=>absurd ⟨U,U⟩ z⟩)
 have one:∀{x:D.M} {e:Int},e≠0->(V c.FP i=false->(V c.E i).FA=2->c.u=[]->False)->∀{Q:Prop},(((x,e):D.M×Int).2=0->Q)/\∀i':Nat,i'<n->(i:Int)=i'->V c.FP i'=false->(V c.E i').FA=2->c.u=[]->((x,e):D.M×Int).2=0:=fun h1 h2=>⟨fun e=>absurd e h1,fun j _ ej a1 a2 a3=>by
  have:j=i:=U
  subst this;exact(h2 a1 a2 a3).elim⟩
 refine Ok.N (Ok.A (Ok.C (fun dn=>Ok.s (one Ob fun a _ _=>by rw[dn]at a;simp at a)) fun _=>Ok.A (Ok.ite (fun g=>Ok.s (one Ob fun _ a _=>g a)) fun g1=>Ok.oe h.cp (Ok.natn (Ok.E (Ok.G ?_))))))
 rw[h.atR]
 have hid:=h.inv.id hi
 refine Ok.opt (Qyw (by have:=h.short hi;omega)) fun zD ⟨v1,v2,v3⟩=>?_
 rw[Qb U]
 refine Ok.ite (fun g=>Ok.s (one Ob fun _ _ a=>by rw[a]at g;simp at g;omega)) fun g3=>Ok.L (Ok.s ⟨fun _=>⟨⟨h.upd (h.inv.beat hi (Ak.1 g1) ((h.ck.rep i hi).2.2.ldr (Ak.1 g1)).2 fun m hm=>?_) h.shp hd rfl (by simp;omega) (QoO h.ents fun m hm=>?_) h.tm,.same⟩,rfl,i,zD,hi,rfl,rfl,fun m hm=>?_,fun j hj hji=>v3 (h.ck.rep i hi).2.1 (Ak.1 g1) j hj U⟩,fun _ _ _ _ _ _=>rfl⟩)
 rotate_left 2
 .obtain⟨_,_,j,a,b,ne⟩:=v2 m hm;exact⟨j,a,b,U⟩
 .obtain⟨_,_,j,a,b,_⟩:=v2 m hm;exact⟨j,a,b⟩
 .obtain⟨a,b,j,_,rfl,ne⟩:=v2 m hm
  have:=a.log
  exact⟨by simp[appV];omega,Ag ne⟩
def Qhy(W:Y D.c)(k:Nat):Y D.c:=W.take k++W.drop (k+1)
def Qil{W:Y D.c}{k:Nat}{m:D.c}(h:m∈Qhy W k):m∈W:=(Af.1 h).elim Bo Bp
def Quw{W:Y D.c}{k:Nat}(h:k<W.length):Wd (Qhy W k)+Wd [V W k]=Wd W:=by
 conv=>rhs;rw[<-B2 k W,EG h]
 have:W[k]=V W k:=by simp[V,AQ,AR h]
 rw[this]
 unfold Qhy
 simp only[QlC,show V W k::W.drop (k+1)=[V W k]++W.drop (k+1)from rfl]
 omega
def Qwj:1<=Wd [m]:=by simp[Wd];split<;>omega
def CI.drop(h:CI n q P c):CI n q P { c with u:=Qhy c.u i }:=by
 have hw:=h.wire
 exact h.upd (h.inv.sub fun m hm=>Qil hm) h.shp h.dn rfl (by simp[Qhy];omega) (fun m hm=>h.ents m (Qil hm)) h.tm
def Qto(h:CI n q P c):Ok (Qi2 1000 c k) fun x=>(∃i:Nat,i<c.u.length/\k=i/\x=({ c with u:=Qhy c.u i },0))\/(¬(0<=k/\k<c.u.length)/\x.2≠0):=by
 have hw:=h.wire
 unfold Qi2
 refine Ok.opt (Qx6 h) fun e he=>?_
 rcases he with⟨rfl,i,hi,rfl⟩|⟨rfl,z⟩
 rotate_left
 .exact Ok.P (Ok.s (.inr ⟨z,Ob⟩))
 refine Ok.N (Ok.oe h.cp (Ok.natn (Ok.natn (Ok.ck rfl (Ok.L ?_)))))
 rw[Qa U]
 refine Ok.natn (Ok.L (Ok.L (Ok.L (Ok.L (Ok.nil (fun g2=>Ok.L (Ok.s (.inl ⟨i,hi,rfl,?_⟩))) fun g2=>Ok.LS (Ok.s (.inl ⟨i,hi,rfl,?_⟩)))))))
 .rw[Ac]at g2
  unfold Qhy;rw[g2,List.append_nil]
 .rw[Ac];rfl
def Quu(h:CI n q P c):Ok (QgS 1000 c k) fun x=>x.2=0->CG n q P c.E x.1:=by
 have hw:=h.wire
 unfold QgS
 refine Ok.opt (Qx6 h) fun e he=>?_
 rcases he with⟨rfl,i,hi,rfl⟩|⟨rfl,z⟩
 rotate_left
 .exact Ok.P (Ok.s fun e=>absurd e Ob)
 have hs:∀m∈c.u++[V c.u i],m∈c.u:=fun m hm=>(Af.1 hm).elim id fun hm=>by rw[Ai.1 hm];exact Qf hi
 exact Ok.N (Ok.ite (fun _=>Ok.s fun e=>absurd e Ob) fun g2=>Ok.oe h.cp (Ok.oe h.cp (Ok.natn (Ok.lt hi (Ok.get hi (Ok.LS (Ok.s fun _=>⟨h.upd (h.inv.sub hs) h.shp h.dn rfl (by simp;omega) (fun m hm=>h.ents m (hs m hm)) h.tm,.same⟩)))))))
def Qu7{b d:AH}:∀m'∈(Zf n b d r m).2,m'.q=[]/\m'.w=r.S/\m'.To=m.w:=by
 intro m' hm
 unfold Zf at hm
 split at hm
 .split at hm
  .simp at hm
  .simp only[Option.mem_def,AP]at hm;subst hm;exact⟨rfl,rfl,rfl⟩
 .split at hm
  .simp at hm
  .split at hm
   .unfold XK at hm
    grind
   .grind
def QCm{u:Int}(h:r.Q<=u)(h2:m.Q<=u):(folV r m.Q).Q<=u:=by unfold folV;split<;>assumption
def QwH{b d:AH}{u:Int}(h:r.Q<=u)(h2:m.Q<=u):(Zf n b d r m).1.Q<=u:=by
 have hf:=QCm h h2
 have hh:(hrdV r m).Q<=u:=by unfold hrdV;split<;>exact hf
 unfold Zf
 split
 .split
  .exact h
  .dsimp only;unfold VP;dsimp only;split<;>exact hf
 split
 .dsimp only
  split
  .exact h
  .unfold Wg
   split
   .exact hf
   split
   .exact h
   split<;>exact h
 split
 .unfold XK
  grind
 split
 .dsimp only
  split
  .exact h
  .unfold Ul
   grind
 .exact h
def InvC.msgTm{Rs:Y D.N}{W:Y D.c}(h:InvC n P Rs W)(hm:m∈W):m.Q<=(V Rs m.w.toNat).Q:=by
 obtain⟨_,g,x⟩:=h
 exact(x.msg m hm).term
def delW(n:Nat)(c:D.M)(k:Nat)(b e:AH):D.M:=
 { c with E:=c.E.set (V c.u k).To.toNat (Zf n b e (V c.E (V c.u k).To.toNat) (V c.u k)).1,u:=Qhy c.u k++(Zf n b e (V c.E (V c.u k).To.toNat) (V c.u k)).2.toList }
def Fair(n:Nat)(r:D.N)(m:D.c)(b e:AH):Prop:=(b=true->CkM n r m m.Z)/\(b=false->U2 1000 n r m m.Z=some false\/Zf n true true r m=(r,none))/\(e=false->m.Z=3/\Y6 1000 (Qaw (hrdV r m).j m.z.toNat m.q).1 m.Q=some false)
def Qsf(h:CI n q P c):Ok (QaG 1000 c k) fun x=>(x.2=0/\CG n q P c.E x.1/\Wd x.1.u<Wd c.u/\x.1.FP=c.FP/\∀i:Nat,k=i->V c.FP (V c.u i).To.toNat=false->c.Fg=[]->∃b e,Fair n (V c.E (V c.u i).To.toNat) (V c.u i) b e/\x.1=delW n c i b e)\/(¬(0<=k/\k<c.u.length)/\x.2≠0):=by
 have hlen:=h.len;have hn:=h.sz;have hw:=h.wire;have hdn:=h.dn
 unfold QaG
 refine Ok.opt (Qto h) fun x hx=>?_
 rcases hx with⟨i,hi,rfl,rfl⟩|⟨z,hx⟩
 rotate_left
 .exact Ok.p hx (Ok.s (.inr ⟨z,hx⟩))
 refine Ok.NS ?_
 obtain⟨m,hm⟩:∃m,m=V c.u i:=⟨_,rfl⟩
 have hmem:m∈c.u:=by rw[hm];exact Qf hi
 obtain⟨⟨f0,f1⟩,⟨t0,t1⟩,ft⟩:=h.ck.msg m hmem
 have hcost:=Quw hi
 rw[<-hm]at hcost
 have hone:=Qwj (m:=m)
 obtain⟨t,ht⟩:∃t:Nat,m.To=t:=⟨m.To.toNat,U⟩
 obtain⟨d,hd⟩:∃d,d={ c with u:=Qhy c.u i }:=⟨_,rfl⟩
 have hI:CI n q P d:=by rw[hd];exact h.drop
 have gone:∀{Q:Prop},Q->(0:Int)=0/\CG n q P c.E d/\Wd d.u<Wd c.u/\d.FP=c.FP/\Q:=fun z=>⟨rfl,⟨hI,by rw[hd];exact .same⟩,by rw[hd];dsimp only;omega,by rw[hd],z⟩
 rw[<-hd]
 refine Ok.oe h.cp (Ok.natn (Ok.lt hi (Ok.get hi ?_)))
 rw[<-hm]
 refine Ok.TG (fun y=>y=((),c,D.M.mk [] [] [] [],(),m,d.E,d.u,d.FP,d.Fg,())) (fun y hy=>?_) fun zG hJ=>?_
 .subst hy
  dsimp only
  have hrl:d.E.length=n:=by rw[hd];exact hlen
  have hrep:V d.E t=V c.E t:=by rw[hd]
  have hck:=(h.ck.rep t U).2.2
  have hid:=(h.ck.rep t U).1
  rw[ht]
  refine Ok.natn (Ok.E (Ok.G ?_))
  rw[hrep,h.atR]
  have done:∀(b e:AH) (r':D.N) (zD:Y D.c),Fair n (V c.E t) m b e->r'=(Zf n b e (V c.E t) m).1->zD=(Zf n b e (V c.E t) m).2.toList->CG n q P c.E (D.M.mk (d.E.set t r') (d.u++zD) d.FP d.Fg)/\Wd (d.u++zD)<Wd c.u/\d.FP=c.FP/\∀j:Nat,(i:Int)=j->V c.FP (V c.u j).To.toNat=false->c.Fg=[]->∃b e,Fair n (V c.E (V c.u j).To.toNat) (V c.u j) b e/\D.M.mk (d.E.set t r') (d.u++zD) d.FP d.Fg=delW n c j b e:=fun b e r' zD hb e1 e2=>by
   obtain⟨h1,hg⟩:=h.inv.handle (n:=n) (b:=b) (c:=e) (zD:=Qhy c.u i) U hmem ht U (fun m hm=>Qil hm) fun z=>(hck.ldr z).1
   have h2:=Qqx (n:=n) (b:=b) (c:=e) (r:=V c.E t) (m:=m) (W:=Qhy c.u i)
   have h3:Wd (m::Qhy c.u i)=Wd [m]+Wd (Qhy c.u i):=QlC (zD:=[m])
   have h4:=(h.shp t U).handle (c:=e) hb.1
   subst e1;subst e2
   rw[hd]
   refine⟨⟨h.upd h1 (h.set U h4) hdn rfl ?_ (QoO (fun m hm=>h.ents m (Qil hm)) fun m' hm'=>?_) (h.tset U (QwH (h.tm t U) (Cq (h.inv.msgTm hmem) (h.tm m.w.toNat U)))),.set U hg⟩,by dsimp only;omega,rfl,fun j ej _ _=>?_⟩
   rotate_left 2
   .obtain rfl:j=i:=U
    unfold delW
    rw[<-hm,ht]
    exact⟨b,e,hb,rfl⟩
   .have:(Zf n b e (V c.E t) m).2.toList.length<=1:=by cases(Zf n b e (V c.E t) m).2<;>simp
    simp[Qhy];omega
   .obtain⟨a1,a2,a3⟩:=Qu7 m' (by simpa using hm')
    rw[a1,a2,a3];exact⟨Ob,U⟩
  refine Ok.TG (fun y=>∃b e has r' a z,y=((has,()),z,(),m,r',a,d.E,d.u,d.FP,d.Fg,())/\Fair n (V c.E t) m b e/\outM (r',a,has)=Zf n b e (V c.E t) m) (fun y hy=>?_) fun zG hJ=>?_
  .obtain⟨b,e,has,r',a,z,rfl,hb,hz⟩:=hy
   dsimp only
   rw[ht]
   have e1:r'=(Zf n b e (V c.E t) m).1:=by rw[<-hz];rfl
   refine Ok.natn (Ok.E (Ok.G (Ok.j (Ok.C (fun g2=>Ok.TO (by rw[hd];simp[Qhy];omega) (Ok.s (.inl ⟨rfl,?_⟩))) fun g2=>Ok.s (.inl ⟨rfl,?_⟩)))))
   .exact done b e _ _ hb e1 (by rw[<-hz,g2];rfl)
   .have:=done b e r' [] hb e1 (by rw[<-hz,g2];rfl)
    rw[An]at this;exact this
  .refine Ok.ite (fun g2=>Ok.opt (QBc hck) fun⟨r',a,has⟩ ⟨b,hb0,hb,hbe⟩=>hJ _ ⟨b,true,_,_,_,_,rfl,⟨by rw[g2];exact hb0,fun z=>.inl (by rw[g2,hbe,z]),Ob⟩,?_⟩) fun g2=>Ok.ite (fun g3=>Ok.opt (QzN hck) fun r' ⟨b,hb0,hb,hbe⟩=>hJ _ ⟨b,true,_,_,_,_,rfl,⟨by rw[g3];exact hb0,fun z=>.inl (by rw[g3,hbe,z]),Ob⟩,?_⟩) fun g3=>Ok.ite (fun g4=>Ok.opt (QvG hck (h.ents m hmem).1) fun⟨r',a,has⟩ ⟨b,e,hb0,hb,hbe,hfe⟩=>hJ _ ⟨b,e,_,_,_,_,rfl,⟨by rw[g4];exact hb0,fun z=>.inl (by rw[g4,hbe,z]),fun z=>⟨g4,hfe z⟩⟩,?_⟩) fun g4=>Ok.ite (fun g5=>Ok.opt (Qyj hck) fun r' ⟨b,hb0,hb,hbe⟩=>hJ _ ⟨b,true,_,_,_,_,rfl,⟨by rw[g5];exact hb0,fun z=>.inl (by rw[g5,hbe,z]),Ob⟩,?_⟩) fun g5=>hJ _ ⟨false,true,_,_,_,_,rfl,⟨Ob,fun _=>.inr ?_,Ob⟩,?_⟩
   .rw[hb];unfold Zf;rw[iB g2]
   .unfold Zf;rw[iA g2,iB g3,<-hb];rfl
   .rw[hb];unfold Zf;rw[iA g2,iA g3,iB g4]
   .unfold Zf;rw[iA g2,iA g3,iA g4,iB g5,<-hb];rfl
   all_goals unfold Zf;rw[iA g2,iA g3,iA g4,iA g5]
   rfl
 .rw[ht]
  exact Ok.A (Ok.C (fun g=>Ok.s (.inl (gone fun j ej g2 _=>by
   obtain rfl:j=i:=U
   rw[<-hm,ht,BJ,g]at g2;simp at g2))) fun _=>Ok.oe (Qwl (by have:=h.cut;have:=h.q;omega)) (Ok.C (fun g=>Ok.s (.inl (gone fun _ _ _ g2=>by rw[g2]at g;simp[isC]at g))) fun _=>hJ _ rfl))
def Qwk(h:CI n q P c):Ok (Qi1 1000 c k) fun x=>x.2=0->CG n q P c.E x.1:=by
 have hd:=h.dn
 unfold Qi1
 refine Ok.opt (QcZ h) fun e he=>?_
 rcases he with⟨rfl,i,hi,rfl⟩|⟨rfl,z⟩
 rotate_left
 .exact Ok.P (Ok.s fun e=>absurd e Ob)
 exact Ok.N (Ok.A (Ok.C (fun _=>Ok.s fun e=>absurd e Ob) fun _=>Ok.oe h.cp (Ok.natn (Ok.E (Ok.G (Ok.s fun _=>⟨h.upd h.inv h.shp (by simp;exact hd) rfl h.wire h.ents h.tm,.same⟩))))))
def Qtd(h:CI n q P c):Ok (Qcm 1000 c k) fun x=>(x.2=0->CG n q P c.E x.1/\x.1.Fg=c.Fg/\∃i:Nat,i<n/\k=i/\x.1.FP=c.FP.set i false)/\∀i:Nat,i<n->k=i->x.2≠0->V c.FP i=false:=by
 have hlen:=h.len;have hd:=h.dn
 unfold Qcm
 refine Ok.opt (QcZ h) fun e he=>?_
 rcases he with⟨rfl,i,hi,rfl⟩|⟨rfl,z⟩
 rotate_left
 .exact Ok.P (Ok.s ⟨fun e=>absurd e Ob,fun i a1 a2 _=>absurd ⟨U,U⟩ z⟩)
 have hr:=h.ck.rep i hi
 refine Ok.N (Ok.A (Ok.ncnd (fun g=>Ok.s ⟨fun e=>absurd e Ob,fun j _ e _=>by
  obtain rfl:j=i:=U
  exact g⟩) fun _=>Ok.oe h.cp (Ok.natn (Ok.E (Ok.G (Ok.natn (Ok.E (Ok.G ?_))))))))
 rw[h.atR]
 exact Ok.oe (QAJ hr.2.1 hr.2.2) (Ok.natn (Ok.E (Ok.G (Ok.s ⟨fun _=>⟨⟨h.upd (h.inv.back hi) (h.set hi (h.shp i hi).back) (by simp;exact hd) rfl h.wire h.ents (h.tset hi (h.tm i hi)),.set U .back⟩,rfl,i,hi,rfl,rfl⟩,fun _ _ _ e=>absurd rfl e⟩))))
def QAU(h:CI n q P c)(hq:q<800):Ok (QpF 1000 c k x) fun z=>z.2=0->CG n (q+1) P c.E z.1:=by
 have hcut:=h.cut;have hn:=h.sz
 unfold QpF
 refine Ok.opt (QcZ h) fun e he=>?_
 rcases he with⟨rfl,i,hi,rfl⟩|⟨rfl,z⟩
 rotate_left
 .exact Ok.P (Ok.s fun e=>absurd e Ob)
 rw[h.atR,Qb (x:=(n:Int) - 1) U]
 refine Ok.N (Ok.oe rin (Ok.ncnd (fun _=>Ok.s fun e=>absurd e Ob) fun g=>Ok.ite (fun _=>Ok.s fun e=>absurd e Ob) fun g2=>Ok.oe (Qwl U) (Ok.C (fun _=>Ok.s fun e=>absurd e Ob) fun g3=>Ok.oe h.cp (Ok.LS (Ok.s fun _=>⟨⟨h.inv,h.sz,h.idP,h.shp,h.dn,by simp;omega,U,fun j hj=>?_,h.wire,h.ents,fun i hi=>by have:=h.tm i hi;show(V c.E i).Q<=_;omega⟩,.same⟩)))))
 have hx:=Qu.1 g
 simp only[Ab,B7]at hj
 by_cases e:j=c.Fg.length
 .subst e
  have e1:V (c.Fg++[D.FD.mk (min (i:Int) x) (max (i:Int) x)]) c.Fg.length=D.FD.mk (min (i:Int) x) (max (i:Int) x):=by simp[V]
  rw[e1,EZ]
  refine⟨by dsimp only;omega,by dsimp only;omega,by dsimp only;omega,?_⟩
  rw[<-g3]
  unfold isC
  grind
 .have e1:V (c.Fg++[D.FD.mk (min (i:Int) x) (max (i:Int) x)]) j=V c.Fg j:=by
   simp only[V,AQ];rw[BN U]
  rw[e1,CZ U]
  exact h.cutOK j U
def QtC(h:CI n q P c):Ok (Qi3 1000 c) fun d=>CG n q P c.E d/\d.Fg=[]:=by
 unfold Qi3
 exact Ok.oe (Qlu h) (Ok.nt rfl (Ok.oe h.cp (Ok.s ⟨⟨⟨h.inv,h.sz,h.idP,h.shp,h.dn,Ob,h.q,fun j hj=>by simp at hj,h.wire,h.ents,h.tm⟩,.same⟩,rfl⟩)))
def QtH(h:CI n q P c):Ok (QdK 1000 c) fun x=>0<=x.1/\x.1<n:=by
 have hlen:=h.len;have hn:=h.sz;have hd:=h.dn
 unfold QdK
 refine Ok.TG (fun y=>∃a b,y=((a,b,()),())/\0<=a/\a<(n:Int)) (fun y hy=>?_) fun zG hJ=>?_
 .obtain⟨a,b,rfl,h1⟩:=hy;exact Ok.s h1
 .refine Ok.loop (fun q x=>∃(i:Nat) (a:Int) (b:AH),x=((a,b,(i:Int),()),c,())/\i<=n/\(0<=a/\a<n)/\q=n - i) (m:=n) U ⟨0,0,false,rfl,U,U,rfl⟩ ?_
  rintro q1 x ⟨i,a,b,rfl,i1,i2,hq⟩ K hK
  dsimp only
  rw[h.atR]
  refine Ok.TG (fun y=>y=((a,b,(i:Int),()),c,())/\i<n) (fun y hy=>?_) fun J2 hJ2=>Ok.ite (fun g=>Ok.oe (Qlu h) (Ok.t (hJ2 _ ⟨rfl,U⟩))) fun _=>hJ _ ⟨_,_,rfl,i2⟩
  obtain⟨rfl,g⟩:=hy
  dsimp only
  refine Ok.TG (fun y=>∃a b,y=((a,b,(i:Int),()),c,())/\0<=a/\a<(n:Int)) (fun y hy=>?_) fun J3 hJ3=>?_
  .obtain⟨a,b,rfl,h1⟩:=hy
   dsimp only
   rw[Qa U]
   exact hK _ _ U ⟨i+1,a,b,rfl,U,h1,rfl⟩
  .exact Ok.A (Ok.ite (fun _=>Ok.A (Ok.C (fun _=>hJ3 _ ⟨_,_,rfl,i2⟩) fun _=>Ok.C (fun _=>Ok.at i2.1 U (Ok.ite (fun _=>hJ3 _ ⟨_,_,rfl,U,U⟩) fun _=>hJ3 _ ⟨_,_,rfl,i2⟩)) fun _=>hJ3 _ ⟨_,_,rfl,U,U⟩)) fun _=>hJ3 _ ⟨_,_,rfl,i2⟩)
def QlS(h:CI n q P c):Ok (Xv 1000 c) fun d=>CG n q P c.E d/\d.u=[]/\d.FP=c.FP:=by
 unfold Xv
 refine Ok.TG (fun y=>∃d z,y=((),d,z,())/\CG n q P c.E d/\d.u=[]/\d.FP=c.FP) (fun y hy=>?_) fun zG hJ=>?_
 .obtain⟨d,z,rfl,hd⟩:=hy;exact Ok.s hd
 .have hcl:=Qtk (W:=c.u);have hw:=h.wire
  refine Ok.loop (fun m x=>∃d z,x=((),d,z,())/\CG n q P c.E d/\d.FP=c.FP/\m=Wd d.u) (m:=Wd c.u) U ⟨c,_,rfl,h.cg,rfl,rfl⟩ ?_
  rintro m x ⟨d,z,rfl,hd,hdn,rfl⟩ K hK
  dsimp only
  refine Ok.ite (fun g=>Ok.opt (Qsf hd.ci) fun⟨e,er⟩ he=>?_) fun g=>hJ _ ⟨_,_,rfl,hd,BP U,hdn⟩
  rcases he with⟨rfl,h1,h2,h3,_⟩|⟨z,_⟩
  .exact Ok.NS (hK _ _ h2 ⟨e,_,rfl,.of hd.gr h1,h3.trans hdn,rfl⟩)
  .omega
def Qvc(h:CI n q P c)(ht:∀i,i<n->(V c.E i).Q<=8*q+7):Ok (Uu 1000 c k) fun x=>x.2=0->CG n q P c.E x.1:=by
 unfold Uu
 refine Ok.opt (QcZ h) fun e he=>?_
 rcases he with⟨rfl,i,hi,rfl⟩|⟨rfl,z⟩
 rotate_left
 .exact Ok.P (Ok.s fun e=>absurd e Ob)
 have h0:CI n q P (D.M.mk c.E [] c.FP c.Fg):=h.upd (h.inv.sub Ob) h.shp h.dn rfl Ob Ob h.tm
 refine Ok.N (Ok.oe h.cp (Ok.opt (QmS h0 ht) fun⟨d,e⟩ ⟨he,_⟩=>Ok.ite (fun g=>Ok.s fun e=>absurd e g) fun g=>?_))
 obtain⟨hd,i',hi',ei,hdn,_⟩:=he (Ak.1 g)
 obtain rfl:i'=i:=U
 refine Ok.opt (QlS hd.ci) fun f ⟨f1,f2,f3⟩=>Ok.TG (fun y=>∃d z,y=((),d,z,())/\CG n q P c.E d) (fun y hy=>?_) fun zG hJ=>?_
 .obtain⟨d,z,rfl,hd⟩:=hy;exact Ok.s fun _=>hd
 .refine Ok.loop (fun m x=>∃(j:Nat) (d z:D.M),x=(((i':Int),(j:Int),()),d,z,())/\(CG n q P c.E d/\d.u=[]/\V d.FP i'=false)/\j<=2/\m=2 - j) (m:=2) U ⟨0,f,_,rfl,⟨.of hd.gr f1,f2,by rw[f3];exact hdn⟩,U,rfl⟩ ?_
  rintro m x ⟨j,d,z,rfl,⟨hd,d2,d3⟩,j1,rfl⟩ K hK
  dsimp only
  have hdl:=hd.ci.len
  refine Ok.TG (fun y=>y=(((i':Int),(j:Int),()),d,z,())/\j<2/\(V d.E i').FA=2) (fun y hy=>?_) fun J2 hJ2=>Ok.ite (fun _=>Ok.A (Ok.ite (fun r2=>hJ2 _ ⟨rfl,U,r2⟩) fun _=>hJ _ ⟨_,_,rfl,hd⟩)) fun _=>hJ _ ⟨_,_,rfl,hd⟩
  obtain⟨rfl,g2,r2⟩:=hy
  dsimp only
  refine Ok.opt (QkO hd.ci) fun⟨e,er⟩ ⟨b1,b2⟩=>?_
  obtain⟨b3,b4,_⟩:=b1 (b2 i' hi' rfl d3 r2 d2)
  refine Ok.opt (QlS b3.ci) fun f ⟨f1,f2,f3⟩=>?_
  rw[Qa U]
  exact hK _ _ U ⟨j+1,f,z,rfl,⟨.of hd.gr (.of b3.gr f1),f2,by rw[f3];dsimp only at b4;rw[b4];exact d3⟩,U,rfl⟩
end
section
attribute [local irreducible] dueV stepV runV QG answerV opV Zk opsV Qau
section
variable {n zI q i:Nat} {c:D.M} {r:D.N} {o:D.Op} {t k x:Int} {P P':D.Op->Prop} {l:D.G} {p:D.g} {L:Y Int} {d:D.FC} {E E':Y Int}
def PO(E:Y Int)(zI:Nat)(o:D.Op):Prop:=Qb1 o/\o.S<zI/\(o.Z=5->o.S∈E)
def PO.up{T:Nat}(h:PO E zI o)(hs:zI<=T)(hE:∀x∈E,x∈E'):PO E' T o:=⟨h.1,by have:=h.2.1;omega,fun k=>hE _ (h.2.2 k)⟩
def CI.mono(h:CI n q P c)(hp:∀o,P o->P' o)(hi:∀o,P' o->1<=o.S/\o.S<=(256:Nat)):CI n q P' c:=⟨h.inv.mono hp,h.sz,hi,h.shp,h.dn,h.cut,h.q,h.cutOK,h.wire,h.ents,h.tm⟩
def CI.more(h:CI n q P c){q':Nat}(hq:q<=q')(h2:q'<=800):CI n q' P c:=⟨h.inv,h.sz,h.idP,h.shp,h.dn,by have:=h.cut;omega,h2,h.cutOK,h.wire,h.ents,fun i hi=>by have:=h.tm i hi;omega⟩
def CI.tb(h:CI n q P c):∀i,i<n->(V c.E i).Q<=8*((q+1:Nat):Int)+7:=fun i hi=>by have:=h.tm i hi;omega
def PO.id(hs:zI<=257):∀o,PO E zI o->1<=o.S/\o.S<=(256:Nat):=fun o h=>⟨h.1.1.id.1,by have:=h.2.1;omega⟩
def Qb1.TZ(h:Qb1 o)(hs:1<=x/\x<=1099511627776):Qb1 { o with S:=x }:=
 ⟨⟨hs,h.1.kind,h.1.region,h.1.fence,h.1.at_,h.1.page,h.1.k,h.1.answer,h.1.edit⟩,h.2⟩
structure Sys (n j zI:Nat) (E:Y Int) (l:D.G) (p:D.g):Prop where
 base:p.FR=l
 first:Loose 0 l
 ser:p.FN=zI
 lo:1<=zI/\zI<=1+3*j
 hi:j<=18
 el:E.length<=j
 ci:CI n j (PO E zI) p.M
def Sys.step{j:Nat}(h:Sys n j zI E l p)(hj:j<18):Sys n (j+1) zI E l p:=⟨h.base,h.first,h.ser,by have:=h.lo;omega,U,by have:=h.el;omega,h.ci.more U U⟩
def Sys.more{j:Nat}(h:Sys n j zI E l p){x:Int}(hj:E.length<j):Sys n j zI (x::E) l p:=⟨h.base,h.first,h.ser,h.lo,h.hi,by simp;omega,h.ci.mono (fun o ho=>ho.up (AN _) fun _=>BB _) (PO.id (by have:=h.lo;have:=h.hi;omega))⟩
def Qtg(hl:Led p.FR)(hs:1<=p.FN/\p.FN<=1000)(h:CI n q (PO E zI) p.M):Ok (Qco 1000 p) fun b=>(b=true->∀i,i<n->∀e∈(V p.M.E i).j,e.Op.S<p.FN)/\((∀i,i<n->∀e∈(V p.M.E i).j,e.Op.S<p.FN)->b=true):=by
 have hlen:=h.len;have hn:=h.sz
 unfold Qco
 refine Ok.j (Ok.oe hl.check (Ok.t (Ok.oe (Qlu h) (Ok.t (Ok.oe rin (Ok.bt (Qu.2 U) ?_))))))
 dsimp only
 refine Ok.loop (fun m x=>∃i:Nat,x=(((i:Int),()),p,())/\i<=n/\(∀j,j<i->∀e∈(V p.M.E j).j,e.Op.S<p.FN)/\m=n - i) (m:=n) U ⟨0,rfl,U,fun j hj=>U,rfl⟩ ?_
 rintro m x ⟨i,rfl,i1,i2,rfl⟩ K hK
 dsimp only
 refine Ok.ite (fun g=>Ok.A ?_) fun g=>Ok.s ⟨fun _ j hj=>i2 j U,fun _=>rfl⟩
 have hsh:=h.short (i:=i) U
 have hlog:=(h.inv.log (i:=i) U).1
 refine Ok.loop (fun m x=>∃k:Nat,x=(((i:Int),(V p.M.E i).j,(k:Int),()),p,())/\k<=(V p.M.E i).j.length/\(∀e∈(V p.M.E i).j.take k,e.Op.S<p.FN)/\m=(V p.M.E i).j.length - k) (m:=(V p.M.E i).j.length) U ⟨0,rfl,U,Ob,rfl⟩ ?_
 rintro m x ⟨k,rfl,k1,k2,rfl⟩ K2 hK2
 dsimp only
 refine Ok.ite (fun g2=>?_) fun g2=>?_
 .have hk:k<(V p.M.E i).j.length:=U
  refine Ok.j (Ok.atn hk (Ok.oe (hlog _ (Qf hk)).1.1.valid (Ok.t (Ok.atn hk (Ok.ite (fun g3=>Ok.s ⟨fun e=>absurd e Ob,fun z=>?_⟩) fun g3=>?_)))))
  .have:=z i U _ (Qf hk);omega
  .dsimp only
   rw[Qa U]
   refine hK2 _ _ U ⟨k+1,rfl,U,fun e he=>?_,rfl⟩
   rw[<-Qp hk]at he
   grind
 .rw[Bf U]at k2
  rw[Qa U]
  refine hK _ _ U ⟨i+1,rfl,U,fun j hj=>?_,rfl⟩
  grind
variable {j:Nat}
def Sys.led(h:Sys n j zI E l p):Led p.FR:=by rw[h.base];exact h.first.led U
def Sys.log(h:Sys n j zI E l p)(hi:i<n):∀e∈(V p.M.E i).j,PO E zI e.Op:=(h.ci.inv.log hi).1
def Sys.chk(h:Sys n j zI E l p):Qco 1000 p=some true:=by
 have h1:=h.lo;have h2:=h.ser;have h3:=h.hi
 obtain⟨b,hb,_,h5⟩:=Qtg h.led U h.ci
 rw[hb,h5 fun i hi e he=>by have:=(h.log hi e he).2.1;omega]
def cnt_le{zH:Y D.m}(hn:(zH.map fun e=>e.Op.S).Nodup)(h:∀e∈zH,e.Op.Z=5->e.Op.S∈E):cntE (zH.map fun e=>e.Op)<=E.length:=by
 have:=Ql6 (l:=(zH.filter fun e=>decide (e.Op.Z=5)).map fun e=>e.Op.S) (E:=E) (hn.sublist (List.filter_sublist.map _)) fun x hx=>by
  grind
 unfold cntE
 rw[List.countP_map,List.countP_eq_length_filter]
 rw[AX]at this
 exact this
def Sys.com(h:Sys n j zI E l p)(hi:i<n):(∀o∈comV (V p.M.E i),Qb1 o)/\(comV (V p.M.E i)).length<=54/\cntE (comV (V p.M.E i))<=18:=by
 have h1:=h.lo;have h2:=h.hi
 refine⟨fun o ho=>?_,?_,?_⟩
 .obtain⟨e,he,rfl⟩:=BQ.1 ho
  exact(h.log hi e (Bo he)).1
 .have:=h.ci.inv.short (zI:=zI - 1) hi fun o ho=>⟨ho.1.1.id.1,by have:=ho.2.1;omega⟩
  unfold comV;simp;omega
 .have:=cnt_le (h.ci.inv.log hi).2 fun e he=>(h.log hi e he).2.2
  have h3:=h.el
  unfold comV
  rw[Bh]
  exact AY Qfo U
def Sys.behind(h:Sys n j zI E l p)(hi:i<n):Qbp (0+cntE (comV (V p.M.E i))) (0+(comV (V p.M.E i)).length) (opsV l (comV (V p.M.E i))):=by
 obtain⟨h1,h2,h3⟩:=h.com hi
 have:=h.first.e.fold h1 U U (AN _)
 simp_all
def Sys.runs(h:Sys n j zI E l p)(hi:i<n):Runs l (comV (V p.M.E i)):=by
 obtain⟨h1,h2,h3⟩:=h.com hi
 exact h.first.e.runs h1 U U
def Qx1(h:Sys n j zI E l p)(hi:i<n):Qi8 1000 p (i:Int)=some (opsV l (comV (V p.M.E i)),0):=by
 obtain⟨h1,h2⟩:=h.com hi
 have hlen:=h.ci.len;have hn:=h.ci.sz
 have hck:=(h.ci.ck.rep i hi).2.2
 refine Ok.eq ?_
 unfold Qi8
 refine Ok.oe h.chk (Ok.nt rfl (Ok.oe rin (Ok.nt (Qu.2 ⟨U,by rw[Qb U];omega⟩) (Ok.A (Ok.oe (QCk hck.com (by have:=hck.log;omega)) (Ok.oe (Qu6 ?_) (Ok.s ?_)))))))
 .rw[h.base];exact h.runs hi
 .rw[h.base]
def QrK(h:Sys n j zI E l p)(ho:Qb1 { o with S:=(zI:Int) })(hE:o.Z=5->(zI:Int)∈E)(hj:zI<=3*j):Ok (QdM 1000 p k o) fun x=>x.2.2=0->Sys n j (zI+1) E l x.1/\GrC n p.M.E x.1.M.E:=by
 have h1:=h.lo;have h2:=h.ser;have h3:=h.hi
 unfold QdM
 rw[h2]
 refine Ok.j (Ok.oe h.chk (Ok.t (Ok.oe ho.1.valid (Ok.t ?_))))
 dsimp only
 rw[h2]
 have hc:CI n j (PO E (zI+1)) p.M:=h.ci.mono (fun o ho=>ho.up U fun _=>id) (PO.id U)
 refine Ok.N (Ok.opt (Qpj hc) fun⟨c',e⟩ he=>Ok.ite (fun g=>Ok.s fun e=>absurd e g) fun g=>Ok.oe h.led.copy (Ok.s fun _=>?_))
 rw[Qa U]
 have hg:=(he (Ak.1 g)).1 ⟨ho,by show(zI:Int)<((zI+1:Nat):Int);omega,hE⟩
 exact⟨⟨h.base,h.first,rfl,U,h3,h.el,hg.ci⟩,hg.gr⟩
def QsB(hc:0<=r.d)(hl:r.j.length<=256):Ok (QcY 1000 r o) fun _=>True:=by
 unfold QcY
 refine Ok.loop (fun m x=>∃i:Nat,x=(((i:Int),()),r,o,())/\m=r.j.length - i) (m:=r.j.length - r.d.toNat) U ⟨r.d.toNat,by rw[show(r.d.toNat:Int)=r.d by omega],rfl⟩ ?_
 rintro m x ⟨i,rfl,rfl⟩ K hK
 dsimp only
 refine Ok.ite (fun g=>?_) fun _=>Ok.s trivial
 have hi:i<r.j.length:=U
 refine Ok.TG (fun y=>y=(((i:Int),()),r,o,())) (fun y hy=>?_) fun zG hJ=>?_
 .subst hy
  dsimp only
  rw[Qa U]
  exact hK _ _ U ⟨i+1,rfl,rfl⟩
 .have Ta:∀{a b:Prop} [Decidable a] [Decidable b],Ok (C (decide a) (C (decide b) (some true) (zG (((i:Int),()),r,o,()))) (zG (((i:Int),()),r,o,()))) fun _=>True:=Ok.ite (fun _=>Ok.ite (fun _=>Ok.s trivial) fun _=>hJ _ rfl) fun _=>hJ _ rfl
  refine Ok.atn hi (Ok.ite (fun _=>Ok.ite (fun _=>Ok.ite (fun _=>Ok.atn hi (Ok.ite (fun _=>Ok.s trivial) fun _=>Ok.ite (fun _=>Ta) fun _=>hJ _ rfl)) fun _=>Ok.ite (fun _=>Ta) fun _=>hJ _ rfl) fun _=>Ok.ite (fun _=>Ta) fun _=>hJ _ rfl) fun _=>hJ _ rfl)
def QyF(h:Sys n j zI E l p)(hi:i<n)(ht:0<=t/\t<=980000)(hj:j<18):Ok (Qi6 1000 p (i:Int) t) fun x=>x.2.2=0->∃T,Sys n (j+1) T E l x.1/\GrC n p.M.E x.1.M.E:=by
 have h1:=h.lo;have h2:=h.ser;have hlen:=h.ci.len;have hn:=h.ci.sz;have hdn:=h.ci.dn
 have hck:=(h.ci.ck.rep i hi).2.2
 have hl:=hck.log;have hcm:=hck.com
 have hb:=h.behind hi
 obtain⟨h3,h4,h5⟩:=h.com hi
 obtain⟨v,hv⟩:∃v,v=opsV l (comV (V p.M.E i)):=⟨_,rfl⟩
 rw[<-hv]at hb
 have own:=(hb.led U).ownR
 have hpg:=hb.inv.small3 (k:=3) hb.ids
 have h0:Sys n (j+1) zI E l p:=h.step U
 unfold Qi6
 refine Ok.oe (Qx1 h hi) (Ok.NS (Ok.A (Ok.A (Ok.C (fun _=>Ok.s fun e=>absurd e Ob) fun _=>Ok.ite (fun _=>Ok.s fun e=>absurd e Ob) fun _=>Ok.oe rin (Ok.ncnd (fun _=>Ok.s fun e=>absurd e Ob) fun _=>?_)))))
 rw[<-hv,h2]
 refine Ok.TG (fun y=>∃ops w,y=(((i:Int),ops,()),p,w,V p.M.E i,())/\(∀o∈ops,Qb1 o/\o.Z≠5)/\ops.length<=3) (fun y hy=>?_) fun zG hJ=>?_
 .obtain⟨ops,w,rfl,o1,o2⟩:=hy
  dsimp only
  refine Ok.oe h.led.copy (Ok.oe h.ci.cp ?_)
  refine Ok.loop (fun m x=>∃(a:Nat) (z:Int) (T:Nat) (p':D.g),x=(((i:Int),ops,z,(a:Int),()),w,V p.M.E i,p',())/\a<=ops.length/\(0<=z/\z<=a)/\T<=zI+a/\(Sys n (j+1) T E l p'/\GrC n p.M.E p'.M.E)/\m=ops.length - a) (m:=ops.length) U ⟨0,0,zI,p,by rw[show D.g.mk p.FR p.M p.FN=p from rfl];rfl,U,U,U,⟨h0,.same⟩,rfl⟩ ?_
  rintro m x ⟨a,z,T,p',rfl,a1,a2,a3,a4,rfl⟩ K hK
  dsimp only
  refine Ok.ite (fun g=>?_) fun g=>Ok.s fun _=>⟨T,a4⟩
  have ha:a<ops.length:=U
  refine Ok.TG (fun y=>∃(z:Int) (T:Nat) (p':D.g),y=(((i:Int),ops,z,(a:Int),()),w,V p.M.E i,p',())/\(0<=z/\z<=a+1)/\T<=zI+a+1/\Sys n (j+1) T E l p'/\GrC n p.M.E p'.M.E) (fun y hy=>?_) fun zG hJ=>?_
  .obtain⟨z,T,p',rfl,b2,b3,b4⟩:=hy
   dsimp only
   rw[Qa U]
   exact hK _ _ U ⟨a+1,z,T,p',rfl,U,U,U,b4,rfl⟩
  .refine Ok.atn ha (Ok.opt (QsB hcm.1 hl) fun b _=>Ok.C (fun _=>hJ _ ⟨z,T,p',rfl,U,U,a4⟩) fun _=>Ok.atn ha (Ok.opt (QrK a4.1 ((o1 _ (Qf ha)).1.TZ (by have:=a4.1.lo;omega)) (fun k5=>absurd k5 (o1 _ (Qf ha)).2) U) fun⟨x,y,e⟩ he=>Ok.ite (fun g=>Ok.s fun e=>absurd e g) fun g=>?_))
   rw[Qb U]
   obtain⟨e1,e2⟩:=he (Ak.1 g)
   exact hJ _ ⟨z+1,T+1,x,rfl,U,U,e1,a4.2.trans e2⟩
 .have claim:∀{w:D.g},Ok (O (Qcn 1000 v (i:Int) (zI:Int) t) fun x=>C (decide (x.2≠0)) (some (w,0,x.2)) (TO [x.1].length 34359738368 (zG (((i:Int),[x.1],()),p,w,V p.M.E i,())))) fun x=>x.2.2=0->∃T,Sys n (j+1) T E l x.1/\GrC n p.M.E x.1.M.E:=fun{w}=>by
   have hin:Qc5 (i:Int) (zI:Int) t:=⟨U,U,U⟩
   refine Ok.oe (Qqp own) ?_
   rw[Qqq hin (by have:=hb.inv.fence;have:=hb.seen;omega)]
   exact Ok.NS (Ok.TO Ob (hJ _ ⟨_,_,rfl,fun o ho=>by rw[Ai.1 ho];exact⟨QtW hb.inv hin ht.2,by show(2:Int)≠5;omega⟩,Ob⟩))
  have starts:(v.E5=(i:Int))->∀{w:D.g},Ok (O (QbX 1000 v (i:Int) (zI:Int) t) fun x=>zG (((i:Int),x,()),p,w,V p.M.E i,())) fun x=>x.2.2=0->∃T,Sys n (j+1) T E l x.1/\GrC n p.M.E x.1.M.E:=fun ho {w}=>by
   refine Ok.oe (Qvf own) (hJ _ ⟨_,_,rfl,fun o hm=>?_,?_⟩)
   .unfold Qmo at hm
    split at hm
    .next g=>
     obtain⟨a,ha,rfl⟩:=Qdb hm
     rw[XQ]at ha
     have hwe:=QeP (l:=v) (t:=t)
     rw[Vu ha]
     exact⟨Qj0 hb.inv ha U U ht,by show(3:Int)≠5;omega⟩
    .simp at hm
   .unfold Qmo
    have hwe:=QeP (l:=v) (t:=t)
    split
    .rw[XQ];omega
    .simp
  refine Ok.ite (fun _=>claim) fun g=>Ok.ite (fun _=>Ok.oe (QoX U) (Ok.ite (fun _=>claim) fun _=>starts (Ak.1 g))) fun _=>starts (Ak.1 g)
def QCa(hL:L.length<=500)(hd:QY L d)(h:CI n q (PO E zI) c)(hs:zI<=200)(hq:q<800):Ok (QbE 1000 d c) fun x=>QY L x.2/\CI n (q+1) (PO E 256) x.1/\(CI n (q+1) (PO E zI) x.1\/∃i,i<n/\∃e∈(V x.1.E i).j,(zI:Int)<=e.Op.S):=by
 have hn:=h.sz;have hw:=h.wire
 have big:∀{c:D.M},CI n (q+1) (PO E zI) c->CI n (q+1) (PO E 256) c/\(CI n (q+1) (PO E zI) c\/∃i,i<n/\∃e∈(V c.E i).j,(zI:Int)<=e.Op.S):=fun h=>⟨h.mono (fun o ho=>ho.up U fun _=>id) (PO.id U),.inl h⟩
 have h1:=h.more (q':=q+1) U U
 unfold QbE
 rw[h.len]
 refine Ok.opt (nx hL hd U U) fun⟨a0,d1⟩ ⟨g1,l1,u1⟩=>?_
 dsimp only at g1 l1 u1 |-
 refine Ok.TG (fun y=>∃(a:Int) (d:D.FC) (w:D.M),y=((a,()),d,c,w,())/\QY L d) (fun y hy=>?_) fun zG hJ=>Ok.opt (QtH h) fun⟨a,b⟩ _=>Ok.C (fun _=>Ok.opt (nx hL g1 U U) fun⟨a2,d2⟩ ⟨g2,_⟩=>Ok.ite (fun _=>hJ _ ⟨_,_,_,rfl,g2⟩) fun _=>hJ _ ⟨_,_,_,rfl,g2⟩) fun _=>hJ _ ⟨_,_,_,rfl,g1⟩
 obtain⟨a,d,w,rfl,hd⟩:=hy
 dsimp only
 refine Ok.opt (Qsw hL hd U) fun⟨a3,d3⟩ ⟨g3,_⟩=>?_
 dsimp only at g3 |-
 refine Ok.TG (fun y=>∃(a k:Int) (d:D.FC) (w:D.M),y=((a,k,()),d,c,w,())/\QY L d) (fun y hy=>?_) fun zG hJ=>Ok.opt (nx hL g3 U U) fun⟨a4,d4⟩ ⟨g4,_⟩=>Ok.ite (fun _=>hJ _ ⟨_,_,_,_,rfl,g4⟩) fun _=>hJ _ ⟨_,_,_,_,rfl,g4⟩
 obtain⟨a,k,d,w,rfl,hd⟩:=hy
 dsimp only
 refine Ok.TG (fun y=>∃(e:Int) (w x:D.M) (d:D.FC),y=((e,()),c,w,x,d,())/\QY L d/\(e=0->CI n (q+1) (PO E 256) x/\(CI n (q+1) (PO E zI) x\/∃i,i<n/\∃e∈(V x.E i).j,(zI:Int)<=e.Op.S))) (fun y hy=>?_) fun zG hJ=>?_
 .obtain⟨e,w,x,d,rfl,hd,hx⟩:=hy
  exact Ok.ite (fun _=>Ok.s ⟨hd,big h1⟩) fun g=>Ok.s ⟨hd,hx (Ak.1 g)⟩
 .have fin:∀{e:Int} {w x:D.M} {d:D.FC},QY L d->(e=0->CI n (q+1) (PO E zI) x)->Ok (zG ((e,()),c,w,x,d,())) fun x=>QY L x.2/\CI n (q+1) (PO E 256) x.1/\(CI n (q+1) (PO E zI) x.1\/∃i,i<n/\∃e∈(V x.1.E i).j,(zI:Int)<=e.Op.S):=fun hd hx=>hJ _ ⟨_,_,_,_,rfl,hd,fun e=>big (hx e)⟩
  refine Ok.opt (nx hL hd U U) fun⟨a5,d5⟩ ⟨g5,_⟩=>Ok.ite (fun _=>Ok.opt (QmS h1 h.tb) fun⟨x,e⟩ he=>fin g5 fun z=>(he.1 z).1.ci) fun _=>?_
  dsimp only at g5 |-
  refine Ok.TG (fun y=>∃(a k:Int) (z v:Int) (b:AH) (d:D.FC) (w:D.M),y=((a,k,z,v,b,()),d,c,w,c,())/\QY L d) (fun y hy=>?_) fun J2 hJ2=>Ok.ite (fun _=>hJ2 _ ⟨_,_,_,_,_,_,_,rfl,g5⟩) fun _=>hJ2 _ ⟨_,_,_,_,_,_,_,rfl,g5⟩
  obtain⟨a,k,z,v,b,d,w,rfl,hd⟩:=hy
  dsimp only
  refine Ok.C (fun _=>?_) fun _=>?_
  .refine Ok.opt (nx hL hd U U) fun⟨a6,d6⟩ ⟨g6,l6,u6⟩=>?_
   dsimp only at g6 l6 u6 |-
   rw[Qb (x:=1+a6) U]
   have ho:Qb1 (D.Op.mk (1+a6) 2 0 0 0 0 0 0 0 (D.a.mk 0 0 0 0 0 0) (D.t.mk 0 0 0 0 0)):=⟨⟨by dsimp only;omega,Ob,Ob,Ob,Ob,Ob,Ob,Ob,Ob⟩,Ob,Ob,Ob⟩
   by_cases g7:1+a6<(zI:Int)
   .exact Ok.opt (Qpj h1) fun⟨x,e⟩ he=>fin g6 fun z=>((he z).1 ⟨ho,g7,Ob⟩).ci
   .refine Ok.opt (Qpj (big h1).1) fun⟨x,e⟩ he=>hJ _ ⟨_,_,_,_,rfl,g6,fun z=>?_⟩
    obtain⟨b1,i,hi,_,e,b2,b3⟩:=he z
    exact⟨(b1 ⟨ho,by dsimp only;omega,Ob⟩).ci,.inr ⟨i,hi,e,b2,by rw[b3];dsimp only;omega⟩⟩
  refine Ok.TG (fun y=>∃(a k:Int) (z v:Int) (b:AH) (d:D.FC) (w:D.M),y=((a,k,z,v,b,()),d,c,w,c,())/\QY L d) (fun y hy=>?_) fun J2 hJ2=>Ok.ite (fun _=>hJ2 _ ⟨_,_,_,_,_,_,_,rfl,hd⟩) fun _=>hJ2 _ ⟨_,_,_,_,_,_,_,rfl,hd⟩
  obtain⟨a,k,z,v,b,d,w,rfl,hd⟩:=hy
  refine Ok.C (fun _=>Ok.opt (QkO h1) fun⟨x,e⟩ he=>fin hd fun z=>(he.1 z).1.ci) fun _=>?_
  refine Ok.TG (fun y=>∃(a k:Int) (z v:Int) (b:AH) (d:D.FC) (w:D.M),y=((a,k,z,v,b,()),d,c,w,c,())/\QY L d) (fun y hy=>?_) fun J2 hJ2=>?_
  .obtain⟨a,k,z,v,b,d,w,rfl,hd⟩:=hy
   refine Ok.C (fun _=>Ok.opt (Qsf h1) fun⟨x,e⟩ he=>fin hd fun z=>he.elim (fun y=>y.2.1.ci) fun y=>absurd z y.2) fun _=>?_
   refine Ok.ite (fun _=>Ok.opt (Qto h1) fun x he=>fin hd fun z=>?_) fun _=>Ok.ite (fun _=>Ok.opt (Quu h1) fun⟨x,e⟩ he=>fin hd fun z=>(he z).ci) fun _=>Ok.ite (fun _=>Ok.opt (Qwk h1) fun⟨x,e⟩ he=>fin hd fun z=>(he z).ci) fun _=>Ok.ite (fun _=>?_) fun _=>Ok.ite (fun _=>Ok.opt (QtC h1) fun x he=>?_) fun _=>fin hd fun _=>h1
   .rcases he with⟨i,_,_,rfl⟩|⟨_,y⟩
    .exact h1.drop
    .exact absurd z y
   .dsimp only
    rw[h.len]
    exact Ok.opt (nx hL hd U U) fun⟨a6,d6⟩ ⟨g6,_⟩=>Ok.opt (Qtd h1) fun⟨x,e⟩ he=>fin g6 fun z=>(he.1 z).1.ci
   .refine Ok.opt (nx hL hd U U) fun⟨a6,d6⟩ ⟨g6,_⟩=>Ok.ite (fun _=>?_) fun _=>fin g6 fun _=>he.1.ci
    dsimp only
    rw[h.len]
    exact Ok.opt (nx hL g6 U U) fun⟨a7,d7⟩ ⟨g7,_⟩=>Ok.opt (QAU h hq) fun⟨x,e⟩ he=>fin g7 fun z=>(he z).ci
  .have go:∀{b:AH},Ok (J2 ((a,k,z,v,b,()),d,c,w,c,())) fun x=>QY L x.2/\CI n (q+1) (PO E 256) x.1/\(CI n (q+1) (PO E zI) x.1\/∃i,i<n/\∃e∈(V x.1.E i).j,(zI:Int)<=e.Op.S):=hJ2 _ ⟨_,_,_,_,_,_,_,rfl,hd⟩
   exact Ok.ite (fun _=>go) fun _=>Ok.ite (fun _=>go) fun _=>Ok.ite (fun _=>go) fun _=>Ok.ite (fun _=>go) fun _=>Ok.ite (fun _=>go) fun _=>go
def QzP(hL:L.length<=500)(hd:QY L d)(h:Sys n j zI E l p)(hj:j<18)(ht:0<=t/\t<=864000+300*j):Ok (UN 1000 d p t) fun x=>QY L x.2.2/\(0<=x.2.1/\x.2.1<=864000+300*((j:Int)+1))/\∃T E',Sys n (j+1) T E' l x.1:=by
 have hn:=h.ci.sz;have hlo:=h.lo
 have h0:=h.step U
 have hel:=h.el
 have h00:=h0.more (x:=(zI:Int)) U
 unfold UN
 rw[h.ci.len]
 refine Ok.opt (nx hL hd U U) fun⟨a0,d1⟩ ⟨g1,l1,u1⟩=>?_
 dsimp only at g1 l1 u1 |-
 refine Ok.TG (fun y=>∃(i:Nat) (d:D.FC) (w:D.g),y=((t,(i:Int),()),d,p,w,())/\QY L d/\i<n) (fun y hy=>?_) fun zG hJ=>?_
 rotate_left
 .have at0:∀{a:Int} {d:D.FC} {w:D.g},QY L d->0<=a->a<n->Ok (zG ((t,a,()),d,p,w,())) fun x=>QY L x.2.2/\(0<=x.2.1/\x.2.1<=864000+300*((j:Int)+1))/\∃T E',Sys n (j+1) T E' l x.1:=fun{a d w} hd h1 h2=>hJ _ ⟨a.toNat,d,w,by rw[show(a.toNat:Int)=a by omega],hd,U⟩
  exact Ok.opt (QtH h.ci) fun⟨a,b⟩ ⟨b1,b2⟩=>Ok.C (fun _=>Ok.opt (nx hL g1 U U) fun⟨a2,d2⟩ ⟨g2,_⟩=>Ok.ite (fun _=>at0 g2 b1 b2) fun _=>at0 g2 l1 u1) fun _=>at0 g1 l1 u1
 obtain⟨i,d,w,rfl,hd,hi⟩:=hy
 dsimp only
 refine Ok.opt (QcK hL hd Ob Ob) fun⟨a3,d3⟩ ⟨g3,m3⟩=>?_
 dsimp only at g3 m3 |-
 simp only[AZ,BI,or_false]at m3
 rw[Qb (x:=t+a3) U]
 obtain⟨u,hu⟩:∃u,u=t+a3:=⟨_,rfl⟩
 rw[<-hu]
 have hu2:0<=u/\u<=864000+300*((j:Int)+1):=U
 refine Ok.TG (fun y=>∃(T:Nat) (E':Y Int) (p' w:D.g) (d:D.FC),y=((u,()),p',w,d,())/\QY L d/\Sys n (j+1) T E' l p') (fun y hy=>?_) fun zG hJ=>?_
 .obtain⟨T,E',p',w,d,rfl,hd,hs⟩:=hy
  exact Ok.s ⟨hd,hu2,T,E',hs⟩
 .refine Ok.opt (nx hL g3 U U) fun⟨a4,d4⟩ ⟨g4,_⟩=>?_
  dsimp only at g4 |-
  refine Ok.TG (fun y=>∃(v:Int) (b:AH) (d:D.FC) (w:D.g),y=((u,(i:Int),v,b,()),d,p,w,())/\QY L d) (fun y hy=>?_) fun J2 hJ2=>Ok.ite (fun _=>hJ2 _ ⟨_,_,_,_,rfl,g4⟩) fun _=>hJ2 _ ⟨_,_,_,_,rfl,g4⟩
  obtain⟨v,b,d,w,rfl,hd⟩:=hy
  refine Ok.C (fun _=>?_) fun _=>?_
  ·have hb:=h.behind hi
   obtain⟨_,hcl,hce⟩:=h.com hi
   refine Ok.oe (Qx1 h hi) (Ok.opt (QCy (id:=1) (t:=u) hL hd hb.inv hb.ids U U) fun⟨o,d5⟩ ⟨g5,o1,o2,o3,o4,o5⟩=>?_)
   dsimp only at g5 o1 o2 o3 o4 o5 |-
   refine Ok.TG (fun y=>∃(o:D.Op) (d:D.FC) (w:D.g),y=((u,(i:Int),()),p,w,o,d,())/\QY L d/\Qb1 { o with S:=(zI:Int) }) (fun y hy=>?_) fun J3 hJ3=>?_
   .obtain⟨o,d,w,rfl,hd,ho⟩:=hy
    exact Ok.opt (QrK (j:=j+1) h00 ho (fun _=>Ob) U) fun⟨x,y,e⟩ he=>Ok.ite (fun z=>hJ _ ⟨_,_,_,_,_,rfl,hd,(he z).1⟩) fun _=>hJ _ ⟨_,_,_,_,_,rfl,hd,h0⟩
   .have pg:∀{a:Int},0<=a->a<3->Qb1 { (D.Op.mk 0 1 0 0 u (J (1+a)) 0 0 0 (D.a.mk 0 0 0 0 0 0) (D.t.mk 0 0 0 0 0))with S:=(zI:Int) }:=fun{a} h1 h2=>by
     rw[Qb (x:=1+a) U]
     exact⟨⟨by dsimp only;omega,Ob,Ob,Ob,by dsimp only;omega,by dsimp only;omega,Ob,Ob,Ob⟩,fun _=>by dsimp only;omega,by dsimp only;omega,Ob⟩
    refine Ok.ite (fun _=>Ok.opt (nx hL g5 U U) fun⟨a6,d6⟩ ⟨g6,l6,u6⟩=>hJ3 _ ⟨_,_,_,rfl,g6,pg l6 u6⟩) fun _=>Ok.ite (fun _=>Ok.opt (nx hL g5 U U) fun⟨a6,d6⟩ ⟨g6,l6,u6⟩=>hJ3 _ ⟨_,_,_,rfl,g6,pg l6 u6⟩) fun _=>hJ3 _ ⟨_,_,_,rfl,g5,?_⟩
    exact Qb1.TZ ⟨o1,fun e=>(o4 e).2,by rw[o3];omega,o5⟩ U
  .refine Ok.TG (fun y=>∃(v:Int) (b:AH) (d:D.FC) (w:D.g),y=((u,(i:Int),v,b,()),d,p,w,())/\QY L d) (fun y hy=>?_) fun J2 hJ2=>Ok.ite (fun _=>hJ2 _ ⟨_,_,_,_,rfl,hd⟩) fun _=>hJ2 _ ⟨_,_,_,_,rfl,hd⟩
   obtain⟨v,b,d,w,rfl,hd⟩:=hy
   refine Ok.C (fun _=>Ok.opt (QyF h hi (t:=u) U hj) fun⟨x,y,e⟩ he=>Ok.ite (fun z=>?_) fun _=>hJ _ ⟨_,_,_,_,_,rfl,hd,h0⟩) fun _=>Ok.ite (fun _=>Ok.opt (QkO h0.ci) fun⟨x,e⟩ he=>Ok.ite (fun z=>Ok.opt (QlS (he.1 z).1.ci) fun f ⟨f1,_⟩=>hJ _ ⟨zI,E,_,_,_,rfl,hd,⟨h.base,h.first,h.ser,h0.lo,h0.hi,h0.el,f1.ci⟩⟩) fun _=>hJ _ ⟨_,_,_,_,_,rfl,hd,h0⟩) fun _=>?_
   .grind
   .refine Ok.opt (QCa hL hd h.ci U U) fun⟨x,d6⟩ ⟨g6,x1,x2⟩=>?_
    dsimp only at g6 x1 x2 |-
    refine Ok.opt (Qtg (p:=D.g.mk p.FR x p.FN) h.led (by have:=h.ser;dsimp only;omega) x1) fun b hb=>Ok.C (fun z=>?_) fun _=>hJ _ ⟨_,_,_,_,_,rfl,g6,h0⟩
    have hx:CI n (j+1) (PO E zI) x:=x2.resolve_right fun⟨i,hi,e,b1,b2⟩=>by
     have:=hb.1 z i hi e b1
     have:=h.ser
     grind
    exact hJ _ ⟨zI,E,_,_,_,rfl,g6,⟨h.base,h.first,h.ser,h0.lo,h0.hi,h0.el,hx⟩⟩
end
end
section
open Go AM
attribute [local irreducible] dueV stepV runV QG answerV opV Zk opsV Qau
section
def newR(i:Nat):D.N:=D.N.mk i 0 (-1) 0 [] 0 [] []
def newC(n:Nat):D.M:=D.M.mk ((List.range n).map newR) [] (List.replicate n false) []
def QBo{n:Nat}(h:n=1\/n=3\/n=5):QsP 1000 n=some (newC n,0):=by
 rcases h with rfl|rfl|rfl<;>kernel_rfl
def QBp(h:n=1\/n=3\/n=5):CI n 0 (PO [] 1) (newC n):=by
 have e:∀j,j<n->V (newC n).E j=newR j:=fun j hj=>by
  show V ((List.range n).map newR) j=_
  rw[Qo6 (by simpa using hj),Ql7 hj]
 refine⟨⟨by simp[newC],_,Inv.fresh (fun j hj=>by rw[e j hj];rfl) fun j hj=>by rw[e j hj];exact⟨rfl,rfl,rfl,rfl,rfl⟩⟩,U,PO.id U,fun j hj=>?_,by simp[newC],by simp[newC],U,fun j hj=>by simp[newC]at hj,by simp[newC],by simp[newC],fun j hj=>by rw[e j hj];show(0:Int)<=_;omega⟩
 rw[e j hj]
 exact⟨by simp[newR],by simp[newR];omega,.inl ⟨rfl,rfl,rfl⟩⟩
def Qy9{n:Nat}{l:D.G}(h:n=1\/n=3\/n=5)(hl:Loose 0 l)(hs:l.h=[]):QpI 1000 l n=some (D.g.mk l (newC n) 1,0):=by
 have hled:=hl.led U
 refine Ok.eq ?_
 unfold QpI
 refine Ok.oe hled.check (Ok.nt rfl (Ok.oe (QBo h) (Ok.NS (Ok.oe hled.copy ?_))))
 refine Ok.run 0 (fun _=>_) rfl U (fun i hi=>absurd hi U) fun K=>?_
 dsimp only
 exact Ok.n (by rw[hs];simp) (Ok.s rfl)
def Qxa{L:Y Int}{d:D.FC}{K:Nat}(hL:L.length<=500)(hd:QY L d)(hK:K<=14):Ok (V4 1000 d (K:Int)) fun x=>QY L x.2.2/\∃n j zI E l,Sys n j zI E l x.1/\j<=K/\l.h=[]/\(0<=x.2.1/\x.2.1<=864000+300*(j:Int)):=by
 unfold V4
 refine Ok.opt (QAT hL hd U) fun⟨c,d1⟩ ⟨h1,hc⟩=>?_
 dsimp only at h1 hc |-
 refine Ok.opt (QAL hL h1 U) fun⟨b,d2⟩ ⟨h2,hb⟩=>?_
 dsimp only at h2 hb |-
 refine Ok.oe (QBr hc U hb) (Ok.opt (QcK hL h2 Ob Ob) fun⟨a,d3⟩ ⟨h3,m3⟩=>?_)
 dsimp only at h3 m3 |-
 simp only[AZ,BI,or_false]at m3
 obtain⟨n,hn,rfl⟩:∃n:Nat,(n=1\/n=3\/n=5)/\a=n:=⟨a.toNat,U,U⟩
 have hfl:=Qsj hc hb
 refine Ok.oe (Qy9 hn hfl rfl) ?_
 have hS:Sys n 0 1 [] (Qfz c b) (D.g.mk (Qfz c b) (newC n) 1):=⟨rfl,hfl,rfl,U,U,Ob,QBp hn⟩
 have hlen:=hS.ci.len
 dsimp only at hlen |-
 refine Ok.TG (fun y=>∃(d:D.FC) (w p:D.g),y=(((K:Int),864000,()),d,w,p,())/\QY L d/\Sys n 0 1 [] (Qfz c b) p) (fun y hy=>?_) fun zG hJ=>?_
 .obtain⟨d,w,p,rfl,hd,hp⟩:=hy
  dsimp only
  rw[Qb U]
  refine Ok.opt (nx hL hd U U) fun⟨a,d4⟩ ⟨h4,l4,u4⟩=>?_
  dsimp only at h4 l4 u4 |-
  refine Ok.loop (fun m x=>∃(j zI:Nat) (E:Y Int) (t k:Int) (d:D.FC) (p:D.g),x=((t,k,()),d,w,p,())/\(0<=k/\k+j<=K)/\(0<=t/\t<=864000+300*j)/\QY L d/\Sys n j zI E (Qfz c b) p/\m=k.toNat) (m:=a.toNat) U ⟨0,1,[],864000,a,d4,p,rfl,U,U,h4,hp,rfl⟩ ?_
  rintro m x ⟨j,zI,E,t,k,d,p,rfl,k1,t1,hd,hp,rfl⟩ K2 hK2
  dsimp only
  refine Ok.ite (fun g=>Ok.opt (QzP hL hd hp U t1) fun⟨p',t',d'⟩ ⟨w1,w2,T,E',w3⟩=>?_) fun _=>Ok.s ⟨hd,_,_,_,_,_,hp,U,rfl,t1⟩
  dsimp only at w1 w2 w3 |-
  rw[Qb U]
  exact hK2 (k - 1).toNat _ U ⟨j+1,T,E',t',k - 1,d',p',rfl,U,U,w1,w3,rfl⟩
 .rw[hlen]
  refine Ok.opt (nx hL h3 U U) fun⟨a,d4⟩ ⟨h4,_⟩=>Ok.opt (Qvc hS.ci fun i hi=>?_) fun⟨x,e⟩ he=>Ok.ite (fun z=>hJ _ ⟨_,_,_,rfl,h4,⟨rfl,hfl,rfl,U,U,Ob,(he z).ci⟩⟩) fun _=>hJ _ ⟨_,_,_,rfl,h4,hS⟩
  show(V ((List.range n).map newR) i).Q<=_
  rw[Qo6 (by simpa using hi),Ql7 hi]
  show(0:Int)<=_;omega
abbrev yes:AH->Prop:=fun _=>True
def Ok.any(h:Ok x yes):Ok (C b x (some false)) yes:=Ok.C (fun _=>h) fun _=>Ok.s trivial
def QAS(h:0<=r.d/\r.d<=r.j.length)(hl:r.j.length<=900):X5 1000 r=some (comV r):=by
 refine Ok.eq ?_
 unfold X5 comV
 rw[show max 0 (min r.d (r.j.length:Int))=(r.d.toNat:Int)by omega]
 obtain⟨zH,hC⟩:∃zH,zH=r.j.take r.d.toNat:=⟨_,rfl⟩
 have hCl:zH.length<=900:=by rw[hC];simp;omega
 refine Ok.natn (Ok.L ?_)
 rw[<-hC]
 refine Ok.run zH.length (fun i=>((zH,(zH.length:Int),(i:Int),()),(zH.take i).map (fun e=>e.Op),())) rfl U (fun i hi K hK=>?_) fun K=>?_
 .dsimp only at hK |-
  rw[<-Qp hi,Aq]at hK
  refine Ok.P (Ok.atn hi (Ok.LS ?_))
  rw[Qa U]
  exact hK
 .dsimp only
  rw[Ac]
  exact Ok.N (Ok.s rfl)
end
end
section
def InvC.ckE(h:InvC n P Rs W)(hi:i<n)(hn:n<=5)(hs:Shp n (V Rs i))(hl:(V Rs i).j.length<=256):Uz 1000 n (V Rs i)=some true:=by
 have hc:=h.com_le hi
 have hid:=h.id hi
 obtain⟨_,g,x⟩:=h
 have hr:=x.rep i hi
 refine Qs4 U hs U hl hc hr.pos fun k hk=>⟨?_,(hr.log.term k hk).2⟩
 split
 .exact(hr.log.term k hk).1
 .exact hr.log.asc (k - 1) k U hk
def QBb(hl:L.length<=900)(hx:x.a0<x.a1)(h:isC L x.a0 x.a1=false):XE 1000 L x=some false:=by
 refine Ok.eq ?_
 unfold XE
 refine Ok.oe (v:=-1) ?_ (Ok.s Ob)
 refine Ok.eq ?_
 unfold Qac
 refine Ok.run L.length (fun i=>((L,(L.length:Int),(i:Int),()),(x.a0,x.a1,()),())) rfl U (fun i hi K hK=>?_) fun K=>Ok.n (by show ¬(L.length:Int)<(L.length:Int);omega) (Ok.s rfl)
 dsimp only at hK |-
 refine Ok.P (Ok.atn hi (Ok.n (fun e=>?_) ?_))
 .have h1:x.a0=(V L i).a0/\x.a1=(V L i).a1:=by simpa using e
  have:isC L x.a0 x.a1=true:=EN.2 ⟨_,Qf hi,by simp;omega⟩
  simp_all
 .rw[Qa U]
  exact hK
def Qu2(h:CI n q P c):Vo 1000 c=some true:=by
 have hlen:=h.len;have hn:=h.sz;have hw:=h.wire;have hq:=h.q;have hcut:=h.cut;have hd:=h.dn
 refine Ok.eq ?_
 unfold Vo
 rw[hlen]
 refine Ok.j (Ok.oe gin (Ok.bt (inn U U) (Ok.N (Ok.N ?_))))
 dsimp only
 rw[hlen]
 refine Ok.run n (fun i=>(((n:Int),c.E,(n:Int),(i:Int),()),c,())) rfl U (fun i hi K hK=>?_) fun K=>?_
 .dsimp only at hK |-
  refine Ok.P (Ok.j (Ok.A (Ok.n (by have:=h.inv.id hi;omega) (Ok.oe (h.inv.ckE hi hn.2 (h.shp i hi) (h.short hi)) (Ok.t ?_)))))
  dsimp only
  rw[Qa U]
  exact hK
 refine Ok.n (by show ¬(n:Int)<(n:Int);omega) ?_
 refine Ok.run c.u.length (fun i=>(((n:Int),c.u,(c.u.length:Int),(i:Int),()),c,())) rfl U (fun i hi K hK=>?_) fun K=>?_
 .dsimp only at hK |-
  have hm:=h.inv.msg (Qf hi)
  have hne:=(h.ents _ (Qf hi)).2
  refine Ok.P (Ok.j (Ok.atn hi (Ok.oe gin ?_)))
  rw[Qb (x:=(n:Int) - 1) U]
  refine Ok.bt (inn U U) (Ok.oe gin (Ok.bt (inn U U) (Ok.n hne ?_)))
  dsimp only
  rw[Qa U]
  exact hK
 refine Ok.n (by show ¬(c.u.length:Int)<(c.u.length:Int);omega) ?_
 refine Ok.run c.Fg.length (fun i=>(((n:Int),c.Fg,(c.Fg.length:Int),(i:Int),()),c,())) rfl U (fun i hi K hK=>?_) fun K=>Ok.n (by show ¬(c.Fg.length:Int)<(c.Fg.length:Int);omega) (Ok.s rfl)
 dsimp only at hK |-
 obtain⟨k1,k2,k3,k4⟩:=h.cutOK i hi
 refine Ok.P (Ok.j (Ok.atn hi (Ok.oe gin ?_)))
 rw[Qb (x:=(n:Int) - 1) U,Qb (x:=(V c.Fg i).a0+1) U]
 refine Ok.bt (inn U U) (Ok.oe gin (Ok.bt (inn U U) (Ok.natn (Ok.L (Ok.oe (QBb (by simp;omega) k2 k4) (Ok.f ?_))))))
 dsimp only
 rw[Qa U]
 exact hK
end
open Go AM
section
def QCi(h:L.length<=1000):Xy 1000 L=some L:=by unfold Xy;exact Yh U
def QCj(h:L.length<=1000):XV 1000 L=some L:=by unfold XV;exact Yh U
def QAM(h:L.length<=1000):YZ 1000 L=some L:=by unfold YZ;exact Yh U
def QCX(h:L.length<=1000):XX 1000 L=some L:=by unfold XX;exact Yh U
def QCW(h:L.length<=1000):XW 1000 L=some L:=by unfold XW;exact Yh U
def QCV(h:L.length<=1000):WY 1000 L=some L:=by unfold WY;exact Yh U
def QCK(h1:r.j.length<=1000)(h2:r.FQ.length<=1000)(h3:r.E8.length<=1000):Qaf 1000 r=some r/\Uh 1000 r=some r:=by
 constructor
 .refine Ok.eq ?_
  unfold Qaf
  exact Ok.oe (QCi h1) (Ok.oe (QAM h2) (Ok.oe (Qfm h3) (Ok.s rfl)))
 .refine Ok.eq ?_
  unfold Uh
  exact Ok.oe (QCi h1) (Ok.oe (QAM h2) (Ok.oe (Qfm h3) (Ok.s rfl)))
def CI.vcp{n q i:Nat}{c:D.M}{P:D.Op->Prop}(h:CI n q P c)(hi:i<n):Qaf 1000 (V c.E i)=some (V c.E i)/\Uh 1000 (V c.E i)=some (V c.E i):=by
 have k:=(h.ck.rep i hi).2.2
 exact QCK (by have:=h.short hi;omega) (by have:=k.vote;omega) (by have:=k.mat;omega)
def Quq(h:CI n q P c):Vy 1000 c=some c:=by
 have hlen:=h.len;have hn:=h.sz;have hw:=h.wire;have hq:=h.q;have hcut:=h.cut;have hd:=h.dn
 refine Ok.eq ?_
 unfold Vy
 refine Ok.oe (QCX U) (Ok.oe (QCW U) (Ok.oe (QAM U) (Ok.oe (QCV U) ?_)))
 refine Ok.run n (fun i=>(((n:Int),(i:Int),()),(),D.M.mk [] [] [] [],c.E,c.u,c.FP,c.Fg,())) (by rw[hlen];rfl) U (fun i hi K hK=>?_) fun K=>?_
 .dsimp only at hK |-
  refine Ok.P (Ok.natn (Ok.E (Ok.G (Ok.oe (h.vcp hi).1 (Ok.natn (Ok.E (Ok.G ?_)))))))
  rw[Qa U,QpU U]
  exact hK
 .refine Ok.n (by show ¬(n:Int)<(n:Int);omega) ?_
  refine Ok.run c.u.length (fun i=>(((c.u.length:Int),(i:Int),()),(),D.M.mk [] [] [] [],c.E,c.u,c.FP,c.Fg,())) rfl U (fun i hi K hK=>?_) fun K=>Ok.n (by show ¬(c.u.length:Int)<(c.u.length:Int);omega) (Ok.s rfl)
  dsimp only at hK |-
  refine Ok.P (Ok.natn (Ok.lt hi (Ok.get hi (Ok.oe (QCj (by have:=(h.ents _ (Qf hi)).1;omega)) (Ok.natn (Ok.lt hi (Ok.get hi ?_)))))))
  rw[Qa U,show ∀m:D.c,D.c.mk m.Z m.w m.To m.Q m.z m.FT m.d m.q m.OK=m from fun _=>rfl,QpU hi]
  exact hK
def CI.cx{n q:Nat}{c:D.M}{P:D.Op->Prop}(h:CI n q P c):CX n P c:=by
 have hn:=h.sz
 exact⟨hn,h.len,h.dn,Qu2 h,Quq h,fun i hi=>⟨h.inv.id hi,h.inv.ckE hi hn.2 (h.shp i hi) (h.short hi),(h.vcp hi).2,h.short hi,fun hr=>((h.ck.rep i hi).2.2.ldr hr).1⟩,fun i hi=>(h.inv.log hi).1⟩
end
section
attribute [local irreducible] dueV stepV runV QG answerV
section
def QyI(h:Zg n c)(hn:n<48)(hx:0<=s/\s<2->Qb0 x):Uo 1000 c s x=some (if 0<=s/\s<2 then(QlJ c s x,0)else(cfg0,3)):=by
 have hsl:=h.slen
 have hpl:=h.plen
 obtain⟨off,hz,_⟩:=h.zone
 have hab:∃a b,c.f=[a,b]:=by
  rcases hcs:c.f with _|⟨a,_|⟨b,_|⟨d,r⟩⟩⟩
  .simp_all
  .simp_all
  .exact⟨a,b,rfl⟩
  .simp_all
 obtain⟨a,b,hab⟩:=hab
 have hpp:∃p1 p2 p3 p4,c.l=[p1,p2,p3,p4]:=by
  rcases hcs:c.l with _|⟨a,_|⟨b,_|⟨d,_|⟨e,_|⟨f,r⟩⟩⟩⟩⟩<;>rw[hcs]at hpl<;>simp at hpl
  exact⟨a,b,d,e,rfl⟩
 obtain⟨p1,p2,p3,p4,hpp⟩:=hpp
 have ha:=h.sched a (by rw[hab];simp)
 have hb:=h.sched b (by rw[hab];simp)
 obtain⟨la,hla,hla2⟩:=ha.layers
 obtain⟨lb,hlb,hlb2⟩:=hb.layers
 have hla3:=ha.len;have hlb3:=hb.len;have hla4:=hla2.len;have hlb4:=hlb2.len
 have hin:QnC 1000 ⟨bZ,off,[]⟩ [p1,p2,p3,p4] la lb a.FS b.FS:=by
  refine⟨Ob,fun p hp=>?_,U,by rw[hla2.win];simp,U,by rw[hlb2.win];simp,U,U⟩
  rcases(h.person p (by rw[hpp];exact hp)).quiet with g|⟨_,_,g,_⟩<;>rw[g]<;>simp
 refine Ok.eq ?_
 unfold Uo
 rw[hz,hpp,h.cal,hab]
 dsimp only
 rw[hla,hlb]
 dsimp only
 rw[iB hin]
 refine Ok.oe (QkQ h U) (Ok.NS (Ok.ite (fun hs=>?_) (fun g=>Ok.s ?_)))
 .have hadd:addE c a b s x=QlJ c s x:=by
   unfold addE QlJ
   rw[hab]
   rcases(show s=0\/s=1 by omega)with rfl|rfl
   .rfl
   .rfl
  rw[iB hs,hadd]
  exact Ok.oe (QkQ (QoK h (hx hs) hs) U) (Ok.NS (Ok.s rfl))
 .rw[iA g]
def Qws(h:Qd M n l)(hn:n<48)(hpg:l.H.length<=9)(ho:OpIn o)(hk:o.Z=5):Z4 1000 ⟨l⟩ o=some ((opV l o).2,⟨(opV l o).1⟩):=by
 refine Ok.eq ?_
 unfold Z4 opV
 rw[iA U,iA U,iA U,iA U]
 refine Ok.run l.H.length (fun i=>(((l.H.length:Int),(i:Int),()),((ZG l i).E9,(ZG l i).F.FG,(ZG l i).F.l,(ZG l i).F.o,(ZG l i).F.f,(ZG l i).b.v,(ZG l i).b.k,(ZG l i).E5,(ZG l i).Fence,()),o,(ZG l i).H,(ZG l i).h,(ZG l i).Calls,())) rfl U (fun i hi k hk=>?_) (fun k=>?_)
 .try dsimp only
  refine Ok.P (Ok.oe (Qzt h hpg hi) ?_)
  try dsimp only
  rw[Qa U]
  exact hk
 .try dsimp only
  have hki:=YG (l:=l) (k:=l.H.length)
  obtain⟨L,hL⟩:∃L,ZG l l.H.length=L:=⟨_,rfl⟩
  rw[hL]at hki |-
  have hed:=QyI (c:=L.F) (s:=o.e) (by rw[hki.2.1];exact h.cfg) hn (ho.edit hk)
  refine Ok.N (Ok.oe hed ?_)
  by_cases hs:0<=o.e/\o.e<2
  .rw[iB hs,iB hs,<-hki.2.1]
   exact Ok.j (Ok.p rfl (Ok.s rfl))
  .rw[iA hs,iA hs]
   exact Ok.j (Ok.NS (Ok.s rfl))
def OkAt.apply(h:OkAt l o):Qay 1000 l o=some ((Zk l o).1,(Zk l o).2,true):=by
 by_cases k5:o.Z=5
 rotate_left
 .exact h.applyN k5
 obtain⟨M,n,h1,h2,h3⟩:=h.ok
 have hpg:=h.pg;have hsl:=h.len;have ho:=h.op;have hfe:=h1.fence
 refine Ok.eq ?_
 unfold Qay
 refine Ok.j (Ok.oe h.led.checkE (Ok.t (Ok.oe ho.validE (Ok.t ?_))))
 try dsimp only
 refine Ok.oe h.led.copyE (Ok.oe (QaW U) (Ok.C (fun g=>Ok.s ?_) (fun g=>?_)))
 .unfold Zk;rw[iB g]
 rw[QbU g]
 have hsee:=h1.see ho h3 g hsl
 have hsp:(seeV l o).H.length<=8:=hpg
 have key:∀r:Int×D.worker,r=((opV (seeV l o) o).2,⟨(opV (seeV l o) o).1⟩)->Ok (some (D.G.mk r.2.G.E9 (D.F.mk r.2.G.F.FG r.2.G.F.l r.2.G.F.o r.2.G.F.f) (D.b.mk r.2.G.b.v r.2.G.b.k) r.2.G.H r.2.G.E5 r.2.G.Fence r.2.G.h r.2.G.Calls,r.1,true)) (·=((opV (seeV l o) o).1,(opV (seeV l o) o).2,true)):=fun r e=>by
  subst e
  obtain⟨L,e,hLe⟩:∃L e,opV (seeV l o) o=(L,e):=⟨_,_,rfl⟩
  rw[hLe]
  exact Ok.s rfl
 exact Ok.N (Ok.LS (Ok.j (Ok.N (Ok.N (Ok.N (Ok.N (Ok.oe (Qws (l:=seeV l o) hsee h2 U ho k5) (key _ rfl))))))))
def Qu4(h:Runs l ops):YX 1000 l ops=some (opsV l ops,Qau l ops):=by
 have hlen:=h.len
 refine Ok.eq ?_
 unfold YX
 have h0:=h.fin 0 (BL _)
 rw[Bd]at h0
 refine Ok.oe (Led.copyE (l:=l) h0) ?_
 refine Ok.run ops.length (fun j=>((ops,(ops.length:Int),(j:Int),()),opsV l (ops.take j),({ E9:=0,F:={ FG:=[],l:=[],o:=[],f:=[] },b:={ v:=[],k:=[] },H:=[],E5:=0,Fence:=0,h:=[],Calls:=[] }:D.G),Qau l (ops.take j),())) rfl U (fun j hj k hk=>?_) (fun k=>?_)
 .try dsimp only
  have ha:=h.at_ j hj
  have hel:=Qip (ops:=ops.take j) (l:=l)
  rw[Ae]at hel
  try dsimp only at hk
  rw[QjB hj]at hk
  rw[QfH hj]at hk
  refine Ok.P (Ok.atn hj (Ok.oe ha.apply ?_))
  refine Ok.LS ?_
  try dsimp only
  rw[Qa U]
  exact hk
 .try dsimp only
  rw[Ac]
  exact Ok.N (Ok.s rfl)
end
end
section
open Go AM
attribute [local irreducible] dueV stepV runV QG answerV opV Zk opsV Qau
section
def QCn(hl:zH.length<=900):Ok (Qo 1000 zH o) fun b=>b=false->∀e∈zH,e.Op.S≠o.S:=by
 unfold Qo
 refine Ok.opt (P:=fun z=>z<0->∀e∈zH,e.Op.S≠o.S) ?_ fun z hz=>Ok.TF (Ok.s fun e=>hz (by have:=BM e;omega))
 unfold QQ
 refine Ok.loop (fun m x=>∃i:Nat,x=((zH,(zH.length:Int),(i:Int),()),o,())/\i<=zH.length/\(∀e∈zH.take i,e.Op.S≠o.S)/\m=zH.length - i) (m:=zH.length) U ⟨0,rfl,U,Ob,rfl⟩ ?_
 rintro m x ⟨i,rfl,i1,i2,rfl⟩ K hK
 dsimp only
 refine Ok.ite (fun g=>?_) fun g=>Ok.TF (Ok.s fun _=>by rw[Bf U]at i2;exact i2)
 have hi:i<zH.length:=U
 refine Ok.atn hi (Ok.opt (P:=fun b=>b=false->(V zH i).Op.S≠o.S) (by unfold Vz;exact Ok.TF (Ok.s fun e=>of_decide_eq_false e)) fun b hb=>Ok.C (fun _=>Ok.TF (Ok.s fun e=>absurd e U)) fun g2=>?_)
 rw[Qa U]
 refine hK _ _ U ⟨i+1,rfl,U,fun e he=>?_,rfl⟩
 rw[<-Qp hi]at he
 grind
def QC3{n i:Nat}{r:D.N}{o:D.Op}(hn:1<=n/\n<=5)(hid:r.S=i)(hi:i<n)(ck:Uz 1000 n r=some true)(cp:Uh 1000 r=some r)(hl:r.j.length<=256)(hm:r.FA=2->r.E8.length=n):
  Ok (X6 1000 n r o) fun x=>x.2=0->x.1=prpV n r o/\r.FA=2/\∀e∈r.j,e.Op.S≠o.S:=by
 unfold X6
 refine Ok.oe ck (Ok.nt rfl (Ok.ite (fun _=>Ok.s fun e=>absurd e Ob) fun g1=>Ok.opt (QCn U) fun b hb=>Ok.C (fun _=>Ok.s fun e=>absurd e Ob) fun g2=>Ok.ite (fun _=>Ok.s fun e=>absurd e Ob) fun g3=>Ok.oe cp (Ok.LS ?_)))
 have hm:=hm (Ak.1 g1)
 have el:(r.j++[D.m.mk r.Q o]).length=r.j.length+1:=Ob
 refine Ok.nat U (Ok.E (Ok.G (Ok.j (Ok.oe (Qxr hn) ?_))))
 refine Ok.ite (fun g5=>Ok.s fun _=>⟨?_,Ak.1 g1,hb g2⟩) fun g5=>Ok.s fun _=>⟨?_,Ak.1 g1,hb g2⟩
 .unfold prpV;rw[iB U,el];rfl
 .unfold prpV;rw[iA U,el];rfl
def upK(h:CI n q P c):Ok (QdO 1000 c k) fun e=>e=0->∃i:Nat,i<n/\k=i/\V c.FP i=false:=by
 have hlen:=h.len;have hn:=h.sz;have hdn:=h.dn
 unfold QdO Qa8
 rw[hlen,Qb (x:=(n:Int) - 1) U]
 refine Ok.opt (P:=fun e=>e=0->0<=k/\k<n) (Ok.oe h.cx.ck (Ok.nt rfl (Ok.oe gin (Ok.ncnd (fun _=>Ok.s fun e=>absurd e Ob) fun g=>Ok.s fun _=>by have:=Qu.1 g;omega)))) fun e he=>Ok.ite (fun g=>Ok.s fun e=>absurd e g) fun g=>?_
 obtain⟨h1,h2⟩:=he (Ak.1 g)
 refine Ok.at h1 U (Ok.C (fun _=>Ok.s fun e=>absurd e Ob) fun g2=>Ok.s fun _=>⟨k.toNat,U,U,g2⟩)
def Qzj(h:CI n q P c):Ok (WL 1000 c k o) fun x=>x.2=0->P o->CG n q P c.E x.1:=by
 have hlen:=h.len;have hn:=h.sz;have hw:=h.wire;have hd:=h.dn
 unfold WL
 refine Ok.opt (upK h) fun e he=>Ok.ite (fun g=>Ok.s fun e=>absurd e g) fun g=>?_
 obtain⟨i,hi,rfl,dn⟩:=he (Ak.1 g)
 have hid:=(h.ck.rep i hi).2.2.id
 have hck:=(h.ck.rep i hi).2.2
 obtain⟨x1,x2,x3,x4,x5⟩:=h.cx.rep i hi
 refine Ok.oe h.cx.cp (Ok.natn (Ok.E (Ok.G ?_)))
 rw[h.atR]
 refine Ok.opt (QC3 hn x1 hi x2 x3 x4 x5) fun⟨r',e⟩ hs=>Ok.ite (fun g=>Ok.s fun e=>absurd e g) fun g2=>Ok.natn (Ok.E (Ok.G (Ok.s fun _ hp=>?_)))
 obtain⟨e1,e2,e3⟩:=hs (Ak.1 g2)
 dsimp only at e1 e2 e3 |-
 refine⟨h.upd ?_ (h.set hi (by rw[e1];exact(h.shp i hi).prop hid e2)) hd rfl hw h.ents (h.tset hi (by rw[e1];exact h.tm i hi)),.set U (by rw[e1];exact .prop (h.inv.com_le hi))⟩
 rw[e1];exact h.inv.prop hi e2 (hck.ldr e2).1 hp e3
def Sys.px(h:Sys n j zI E l p):PX n p:=by
 have h1:=h.lo;have h2:=h.ser;have h3:=h.hi
 refine⟨h.led,U,?_⟩
 have:=h.ci.cx
 exact⟨this.sz,this.len,this.dn,this.ck,this.cp,this.rep,fun i hi e he=>⟨(this.ops i hi e he).1.1,by have:=(this.ops i hi e he).2.1;omega⟩⟩
def QC8(h:Sys n j zI E l p)(ho:Qb1 { o with S:=(zI:Int) })(hE:o.Z=5->(zI:Int)∈E)(hj:zI<=3*j)(hz:0<=z/\z<=100):
  Ok (ZM 1000 (D.site.mk p k z) o) fun x=>x.1=0->∃p',x.2=D.site.mk p' k (z+1)/\Sys n j (zI+1) E l p'/\GrC n p.M.E p'.M.E:=by
 have h1:=h.lo;have h2:=h.ser;have h3:=h.hi
 unfold ZM
 dsimp only
 rw[h2]
 have hc:CI n j (PO E (zI+1)) p.M:=h.ci.mono (fun o ho=>ho.up U fun _=>id) (PO.id U)
 refine Ok.oe (v:=true) ho.1.validE (Ok.nt rfl (Ok.N (Ok.opt (Qzj hc) fun⟨c',e⟩ he=>Ok.ite (fun g=>Ok.s fun e=>absurd e g) fun g=>Ok.s fun _=>?_)))
 rw[Qa U,Qb (x:=z+1) U]
 have hg:=he (Ak.1 g) ⟨ho,by show(zI:Int)<((zI+1:Nat):Int);omega,hE⟩
 exact⟨_,rfl,⟨h.base,h.first,rfl,U,h3,h.el,hg.ci⟩,hg.gr⟩
def QCM(h:Sys n j zI E l p)(hi:i<n):Qce 1000 p (i:Int)=some (opsV l (comV (V p.M.E i))):=by
 have hlen:=h.ci.len
 have hck:=(h.ci.ck.rep i hi).2.2
 refine Ok.eq ?_
 unfold Qce
 rw[h.base]
 exact Ok.A (Ok.oe (QAS hck.com (by have:=hck.log;omega)) (Ok.oe (Qu4 (h.runs hi)) (Ok.s rfl)))
def QCT(h:Sys n j zI E l p)(hi:i<n):Qek 1000 p (i:Int)=some (opsV l (comV (V p.M.E i)),0):=by
 have hlen:=h.ci.len;have hn:=h.ci.sz
 refine Ok.eq ?_
 unfold Qek
 exact Ok.oe h.px.ck (Ok.nt rfl (Ok.oe pin (Ok.nt (inn U (by rw[hlen,Qb U];omega)) (Ok.oe (QCM h hi) (Ok.s rfl)))))
end
end
section
section
variable {Rs Rs':Y D.N} {W W':Y D.c} {n q i k:Nat} {P P':D.Op->Prop} {c:D.M}
end
attribute [local irreducible] dueV stepV runV QG answerV opV Zk opsV Qau
section
variable {n j zI i:Nat} {E L:Y Int} {l:D.G} {p:D.g} {o:D.Op} {d:D.FC} {t x:Int}
end
end
section
open Go AM
attribute [local irreducible] dueV stepV runV QG answerV
section
def Qmb:∀{ops:Y D.Op} {l:D.G},(opsV l ops).h.contains y=(l.h.contains y || ops.any fun o=>decide (o.S=y))
 |[],l=>by simp[opsV]
 |o::r,l=>by
  rw[opsV,Qmb]
  by_cases hs:l.h.contains o.S=true
  .have:Zk l o=(l,0):=by unfold Zk;rw[iB hs]
   rw[this,List.any_cons]
   by_cases e:o.S=y
   .subst e;simp at hs;simp[hs]
   .simp[e]
  .have hs':l.h.contains o.S=false:=by simpa using hs
   rw[QbU hs',QtS.2,List.any_cons]
   by_cases e:o.S=y
   .subst e;simp[seeV]
   .simp[seeV,e,Ag e]
end
attribute [local irreducible] opV Zk opsV Qau
section
end
end
section
variable {n zI q fu i j t:Nat} {c d:D.M} {r:D.N} {m:D.c} {T x:Int} {P:D.Op->Prop} {Rs:Y D.N} {W zD:Y D.c} {L G E:Y D.m}
def QDc(hck:Yy 1000 n r=some true)(hm:CkM n r m x):U2 1000 n r m x=some true:=by
 have h1:=hm.rep.id;have h2:=hm.from0;have h3:=hm.rep.sz
 refine Ok.eq ?_
 unfold U2
 rw[Qb (x:=(n:Int) - 1) U]
 exact Ok.oe hck (Ok.t (Ok.p hm.kind (Ok.p hm.to (Ok.oe rin (Ok.bt (Qu.2 ⟨U,U⟩) (Ok.p hm.ne (Ok.oe rin (Ok.bt (Qu.2 hm.term) (Ok.s rfl)))))))))
def CI.ckm(h:CI n q P c)(hm:m∈c.u)(ht:m.To=(t:Int))(h1:1<=m.Q):t<n/\CkM n (V c.E t) m m.Z:=by
 obtain⟨⟨f0,f1⟩,⟨t0,t1⟩,ft⟩:=h.ck.msg m hm
 have htn:t<n:=U
 have hid:=(h.ck.rep t htn).1
 have htm:=h.inv.msgTm hm
 have hsh:=(h.shp m.w.toNat U).term
 exact⟨htn,(h.ck.rep t htn).2.2,rfl,U,U,U,h1,U⟩
def CI.fits(h:CI n q P c)(hm:m∈c.u)(ht:m.To=(t:Int))(h1:1<=m.Q)(hk:m.Z=3){e:AH}(he:e=false->Y6 1000 (Qaw (hrdV (V c.E t) m).j m.z.toNat m.q).1 m.Q=some false):XK true e (V c.E t) m=XK true true (V c.E t) m:=by
 cases e with
 |true=>rfl
 |false=>
  have he:=he rfl
  obtain⟨htn,hcm⟩:=h.ckm hm ht h1
  have hlen:=h.len
  have hh:=(h.inv.handle (b:=true) (c:=true) (zD:=c.u) htn hm ht (by have:=(h.ents m hm).2;omega) (fun _=>id) fun z=>((h.ck.rep t htn).2.2.ldr z).1).1
  have hs:=hh.short htn h.idP
  obtain⟨_,g,x⟩:=hh
  have hr:=x.rep t htn
  rw[Ql U]at hs hr
  have ea:Zf n true true (V c.E t) m=XK true true (V c.E t) m:=by
   unfold Zf;rw[iA U,iA U,iB hk]
  rw[ea]at hs hr
  unfold XK at hs hr |-
  split
  .rfl
  .next y1=>
   rw[iA y1]at hs hr
   split
   .next y2=>
    rw[iB y2]at hs hr
    rw[iB (.inl rfl)]
    split
    .rfl
    .next y3=>
     exfalso
     rw[iA y3]at hs hr
     have lo:=hr.log
     have:=QqN (L:=(Qaw (hrdV (V c.E t) m).j m.z.toNat m.q).1) (x:=m.Q) hs fun k hk=>⟨?_,?_⟩
     .simp_all
     .split
      .exact(lo.term k hk).1
      .exact lo.asc (k - 1) k U hk
     .rw[y2.1];exact(lo.term k hk).2
   .rfl
abbrev delV(n:Nat)(c:D.M):D.M:=delW n c 0 true true
def QwG{e:AH}:Zf n false e r m=(r,none):=by
 unfold Zf XK
 simp
def QAX(h:CI n q P c)(hw0:0<c.u.length)(hup:∀i,i<n->V c.FP i=false)(hcut:c.Fg=[])(ht1:1<=(V c.u 0).Q):Ok (QaG 1000 c 0) fun x=>x.2=0/\CG n q P c.E x.1/\Wd x.1.u<Wd c.u/\x.1=delV n c:=by
 have hmem:=Qf hw0
 have hmt:=h.ck.msg _ hmem
 obtain⟨t,ht⟩:∃t:Nat,(V c.u 0).To=t:=⟨(V c.u 0).To.toNat,U⟩
 obtain⟨htn,hcm⟩:=h.ckm hmem ht ht1
 refine(Qsf (k:=0) h).mono fun⟨d,e⟩ hx=>?_
 rcases hx with⟨e0,g1,g2,_,g4⟩|⟨z,_⟩
 .obtain⟨b,e,⟨_,f2,f3⟩,f4⟩:=g4 0 rfl (by rw[ht];exact hup t htn) hcut
  refine⟨e0,g1,g2,f4.trans ?_⟩
  unfold delV delW
  rw[ht,BJ]at f2 f3 |-
  have key:Zf n b e (V c.E t) (V c.u 0)=Zf n true true (V c.E t) (V c.u 0):=by
   cases b with
   |false=>
    rcases f2 rfl with z|z
    .rw[QDc (h.ck.rep t htn).2.1 hcm]at z;simp at z
    .rw[z,QwG]
   |true=>
    cases e with
    |true=>rfl
    |false=>
     obtain⟨k3,k4⟩:=f3 rfl
     unfold Zf
     rw[iA U,iA U,iB k3,iA U,iA U,iB k3]
     exact h.fits hmem ht ht1 k3 fun _=>k4
  rw[key]
 .omega
structure UpC (n q:Nat) (P:D.Op->Prop) (c:D.M):Prop where
 ci:CI n q P c
 up:∀i,i<n->V c.FP i=false
 cut:c.Fg=[]
def QzZ{zE:D.M->Prop}{A:Y D.N}(h:UpC n q P c)(hg:GrC n A c.E)(h0:zE c)(ht:∀d,zE d->∀m∈d.u,1<=m.Q)(hI:∀d,UpC n q P d->0<d.u.length->zE d->zE (delV n d)):Ok (Xv 1000 c) fun d=>UpC n q P d/\GrC n A d.E/\d.u=[]/\zE d:=by
 unfold Xv
 refine Ok.TG (fun y=>∃d z,y=((),d,z,())/\UpC n q P d/\GrC n A d.E/\d.u=[]/\zE d) (fun y hy=>?_) fun zG hJ=>?_
 .obtain⟨d,z,rfl,hd⟩:=hy;exact Ok.s hd
 .have hcl:=Qtk (W:=c.u);have hw:=h.ci.wire
  refine Ok.loop (fun m x=>∃d z,x=((),d,z,())/\(UpC n q P d/\GrC n A d.E/\zE d)/\m=Wd d.u) (m:=Wd c.u) U ⟨c,_,rfl,⟨h,hg,h0⟩,rfl⟩ ?_
  rintro m x ⟨d,z,rfl,⟨hd,hgd,hi⟩,rfl⟩ K hK
  dsimp only
  refine Ok.ite (fun g=>?_) fun g=>hJ _ ⟨_,_,rfl,hd,hgd,BP U,hi⟩
  have hw0:0<d.u.length:=U
  refine Ok.opt (QAX hd.ci hw0 hd.up hd.cut (ht d hi _ (Qf hw0))) fun⟨x,e⟩ ⟨e0,h1,h2,h3⟩=>Ok.n (fun z=>z e0) (hK _ _ h2 ⟨x,_,rfl,?_,rfl⟩)
  dsimp only at h1 h3
  rw[h3]at h1 |-
  exact⟨⟨h1.ci,hd.up,hd.cut⟩,hgd.trans h1.gr,hI d hd hw0 hi⟩
def QoH(hm:m=V c.u 0)(ht:m.To=(t:Int)){o:I D.c}(hh:Zf n true true (V c.E t) m=(r,o)):delV n c={ c with E:=c.E.set t r,u:=c.u.drop 1++o.toList }:=by
 unfold delV delW
 rw[<-hm,ht,BJ,hh]
 rfl
def Qx5(h:0<W.length):W=V W 0::W.drop 1:=by
 cases W with
 |nil=>simp at h
 |cons a r=>simp[V]
def still(h:0<W.length)(hm:m∈W)(hne:m≠V W 0):m∈W.drop 1++zD:=by
 rw[Qx5 h]at hm
 simp_all
def was(hm:m∈W.drop 1++zD):m∈W\/m∈zD:=(Af.1 hm).imp Bp id
structure Qvx (n i:Nat) (T:Int) (L:Y D.m) (c:D.M):Prop where
 wire:∀m∈c.u,(m.Z=1/\m.w=i/\m.Q=T)\/(m.Z=2/\m.To=i/\T<=m.Q)
 me:(V c.E i).FA=0\/((V c.E i).Q=T/\((V c.E i).FA=1\/(V c.E i).FA=2)/\(V c.E i).j=L)
 all:(V c.E i).FA≠0->∀j,j<n->j≠i->(∃m∈c.u,m.Z=1/\m.To=(j:Int))\/(∃m∈c.u,m.Z=2/\T<m.Q)\/(V c.E j).Q=T
def QwB{u:Int}:(folV r u).Q=max r.Q u:=by unfold folV;split<;>(try dsimp only)<;>omega
def QyP:(VP r m).1.Q=(folV r m.Q).Q/\(VP r m).2=⟨2,r.S,m.w,(folV r m.Q).Q,0,0,0,[],yesV (folV r m.Q) m⟩:=by
 refine⟨?_,rfl⟩
 unfold VP;simp only;split<;>rfl
def Qvx.step(h:Qvx n i T L c)(hi:i<n)(hc:UpC n q P c)(hw:0<c.u.length):Qvx n i T L (delV n c):=by
 have hlen:=hc.ci.len
 obtain⟨m,hm⟩:∃m,m=V c.u 0:=⟨_,rfl⟩
 have hmem:m∈c.u:=by rw[hm];exact Qf hw
 obtain⟨⟨f0,f1⟩,⟨t0,t1⟩,ft⟩:=hc.ci.ck.msg m hmem
 rcases h.wire m hmem with⟨k1,k2,k3⟩|⟨k1,k2,k3⟩
 ·obtain⟨t,ht⟩:∃t:Nat,m.To=t:=⟨m.To.toNat,U⟩
  obtain⟨e1,e2⟩:=QyP (r:=V c.E t) (m:=m)
  rw[QwB,k3]at e1
  rw[QoH hm ht (r:=(VP (V c.E t) m).1) (o:=some (VP (V c.E t) m).2) (by unfold Zf;rw[iB k1];rfl)]
  have hti:i≠t:=U
  have hrep:(VP (V c.E t) m).2.Z=2/\(VP (V c.E t) m).2.To=i/\(VP (V c.E t) m).2.Q=max (V c.E t).Q T:=by
   rw[e2,QwB,k3];exact⟨rfl,k2,rfl⟩
  refine⟨fun y hy=>?_,?_,?_⟩
  .rcases was hy with hy|hy
   .exact h.wire y hy
   .grind
  .show(V (c.E.set t _) i).FA=0\/_
   dsimp only
   rw[QB hti];exact h.me
  .dsimp only
   rw[QB hti]
   intro hr j hj hji
   by_cases e:j=t
   .subst e
    rw[Ql U]
    grind
   .rw[QB e]
    rcases h.all hr j hj hji with⟨y,y1,y2,y3⟩|⟨y,y1,y2,y3⟩|y
    .exact .inl ⟨y,still hw y1 (fun z=>by rw[z,<-hm]at y3;omega),y2,y3⟩
    .exact .inr (.inl ⟨y,still hw y1 (fun z=>by rw[z,<-hm]at y2;omega),y2,y3⟩)
    .exact .inr (.inr y)
 ·obtain⟨r,hr⟩:∃r,r=V c.E i:=⟨_,rfl⟩
  have hv:(r.FA=0->(Wg n r m).FA=0)/\(r.FA≠0->(Wg n r m).FA=0\/(m.Q<=r.Q/\(Wg n r m).Q=r.Q/\((Wg n r m).FA=r.FA\/(Wg n r m).FA=2)/\(Wg n r m).j=r.j)):=by
   unfold Wg
   split
   .next g=>
    have e:(folV r m.Q).FA=0:=by unfold folV;rw[iB g]
    omega
   .next g=>
    split
    .simp_all
    .next g2=>
     have g3:r.FA=1:=Bw fun z=>g2 (.inl z)
     split
     .exact⟨fun z=>U,fun _=>.inr ⟨U,rfl,.inr rfl,rfl⟩⟩
     .simp_all
  rw[QoH hm k2 (r:=Wg n r m) (o:=none) (by unfold Zf;rw[iA U,iB k1,<-hr];rfl)]
  have hme:=h.me
  rw[<-hr]at hme
  refine⟨fun y hy=>?_,?_,?_⟩
  .rcases was hy with hy|hy
   .exact h.wire y hy
   .simp at hy
  .dsimp only
   rw[Ql U]
   grind
  .dsimp only
   rw[Ql U]
   intro hr0 j hj hji
   rw[QB hji]
   have hr1:r.FA≠0:=fun z=>hr0 (hv.1 z)
   rcases hv.2 hr1 with y|⟨y0,y1,y2,y3⟩
   .exact absurd y hr0
   .have hT:r.Q=T:=by rcases hme with z|z<;>omega
    rw[hr]at hr1
    rcases h.all hr1 j hj hji with⟨y,u1,u2,u3⟩|⟨y,u1,u2,u3⟩|y
    .exact .inl ⟨y,still hw u1 (fun z=>by rw[z,<-hm]at u2;omega),u2,u3⟩
    .exact .inr (.inl ⟨y,still hw u1 (fun z=>by rw[z,<-hm]at u3;omega),u2,u3⟩)
    .exact .inr (.inr y)
def InvC.led(h:InvC n P Rs W)(hi:i<n)(h2:(V Rs i).FA=2)(hT:∀j,j<n->(V Rs j).Q=T)(ht:t<n):
  (t≠i->(V Rs t).FA≠2)/\(V Rs t).j.take (V (V Rs i).E8 t).toNat=(V Rs i).j.take (V (V Rs i).E8 t).toNat/\(V (V Rs i).E8 t).toNat<=(V Rs t).j.length/\(V Rs t).d.toNat<=(V Rs i).j.length/\(V Rs t).j.take (V Rs t).d.toNat=(V Rs i).j.take (V Rs t).d.toNat:=by
 obtain⟨_,g,x⟩:=h
 have ri:=x.rep i hi
 have rt:=x.rep t ht
 obtain⟨a,b,d⟩:=ri.ldr h2
 have ei:=hT i hi;have et:=hT t ht
 rw[ei]at a b d
 have c1:=rt.curL;have c2:=rt.cur
 rw[et]at c1 c2
 have dt:=d t ht
 refine⟨fun ne e=>?_,?_,U,?_⟩
 .have:=(rt.ldr e).1
  simp_all
 .rw[b];exact QeM c2 U
 .have hcom:(V Rs t).d.toNat<=(g.glog T).length/\(V Rs t).j.take (V Rs t).d.toNat=(g.glog T).take (V Rs t).d.toNat:=by
   rcases rt.com with z|⟨u,k,z1,z2,z3,z4,z5⟩
   .grind
   .have hu:u<=T:=by
     obtain⟨Q,q1,q2⟩:=z2
     obtain⟨w,w1,w2,_⟩:=QiN q1 q1
     have h3:=x.gh.ackT w u w1 (by have:=q2 w w1 w2;have:=z1.1;omega)
     have e2:tm (V Rs) w=T:=hT w w1
     omega
    have hk:=z1.2.1
    rcases Ea u T with y|y
    .have h3:=x.gh.later u T k i a y z1 z2.may
     have hl:=Vb h3 hk
     exact⟨U,z5.trans (QeM h3 z3).symm⟩
    .grind
  rw[b];exact hcom
def InvC.appM(h:InvC n P Rs W)(hi:i<n)(h2:(V Rs i).FA=2)(hT:(V Rs i).Q=T)(hm:m∈W)(hk:m.Z=3)(ht:m.Q=T):m.q=((V Rs i).j.drop m.z.toNat).take m.q.length/\(0<m.z->m.FT=trm (V Rs i).j (m.z.toNat - 1))/\0<=m.z/\0<=m.d:=by
 obtain⟨_,g,x⟩:=h
 obtain⟨a,b,d⟩:=(x.rep i hi).ldr h2
 obtain⟨m1,m2,m3,m4,m5,m6,m7⟩:=(x.msg m hm).app hk
 grind
def QwP{p k:Nat}(hp:p<=L.length)(hE:E=G.drop p)(hpG:p<=G.length)(hc:k<=G.length)(hcL:k<=L.length)(h:L.take k=G.take k):k<=(Qaw L p E).2:=by
 have hel:E.length=G.length - p:=by rw[hE];simp
 unfold Qaw
 split
 .exact hcL
 .next x=>
  dsimp only
  rcases Ay (p+W2 (L.drop p) E) k with y|y
  .exfalso
   have sl:=QeE (L:=L.drop p) (E:=E)
   rcases Qjh (L:=L.drop p) (E:=E) U with z|z
   .simp at z;omega
   .apply z
    rw[hE,QgX,QgX,<-hE]
    exact Uf h y
  .exact y
def QzE(h:InvC n P Rs W)(hi:i<n)(h2:(V Rs i).FA=2)(hT:∀j,j<n->(V Rs j).Q=T)(ht:t<n)(hne:t≠i)(hm:m∈W)(hk:m.Z=3)(hmt:m.Q=T)(hp0:0<=m.FT)(hpm:m.z<=V (V Rs i).E8 t)(hE:m.z+m.q.length=(V Rs i).j.length):
  ∃r',XK true true (V Rs t) m=(r',some ⟨4,(V Rs t).S,m.w,T,(V Rs i).j.length,0,0,[],true⟩)/\r'.Q=T:=by
 obtain⟨l1,l2,l3,l4,l5⟩:=h.led hi h2 hT ht
 obtain⟨pe,pt,p0,pc⟩:=h.appM hi h2 (hT i hi) hm hk hmt
 have et:=hT t ht
 have hcom:=h.com_le ht
 obtain⟨r,hr⟩:∃r,r=V Rs t:=⟨_,rfl⟩
 obtain⟨G,hG⟩:∃G,G=(V Rs i).j:=⟨_,rfl⟩
 rw[<-hr]at l1 l2 l3 l4 l5 et hcom |-
 rw[<-hG]at l2 l4 l5 pe pt hE |-
 have hf:folV r m.Q=r:=by unfold folV;rw[iA U]
 have e1:(hrdV r m).Q=T:=by unfold hrdV;rw[hf];split<;>exact et
 have e2:(hrdV r m).FA≠2:=by
  unfold hrdV;rw[hf];split
  .grind
  .exact l1 hne
 obtain⟨e4,e3⟩:=Qiy (r:=r) (m:=m)
 have pe':m.q=G.drop m.z.toNat:=by rw[pe,Bf (by simp;omega)]
 unfold XK
 have hpv:m.z=0\/trm (hrdV r m).j (m.z.toNat - 1)=m.FT:=by
  rw[e3]
  by_cases z:m.z=0
  .exact .inl z
  .exact .inr (by rw[pt U];exact Uf l2 U)
 rw[iA (by simp;omega),iB ⟨by rw[e1];exact hmt,e2,by rw[e3];omega,hpv⟩,iA ?_]
 .grind
 .rw[e3,e4]
  have:=QwP (L:=r.j) (G:=G) (E:=m.q) (p:=m.z.toNat) (k:=r.d.toNat) U pe' U l4 U l5
  simp;omega
structure QAl (n i:Nat) (T:Int) (L:Y D.m) (c:D.M):Prop where
 role:(V c.E i).FA=2
 tm:∀j,j<n->(V c.E j).Q=T
 log:(V c.E i).j=L
 done:(∀j,j<n->V (V c.E i).E8 j=L.length)->Xi L=T->(V c.E i).d=L.length
structure Que (n i:Nat) (T:Int) (L:Y D.m) (c:D.M):Prop where
 ld:QAl n i T L c
 wire:∀m∈c.u,m.Q=T/\((m.Z=3/\m.w=i/\0<=m.FT/\m.z<=V (V c.E i).E8 m.To.toNat/\m.z+m.q.length=L.length)\/(m.Z=4/\m.To=i/\m.OK=true/\m.z=L.length))
 all:∀j,j<n->j≠i->(∃m∈c.u,m.Z=3/\m.To=(j:Int))\/(∃m∈c.u,m.Z=4/\m.w=(j:Int))\/V (V c.E i).E8 j=L.length
def Qus{Q:Nat->AH}(h:∀j,j<n->Q j=true):(List.range n).countP Q=n:=by
 rw[List.countP_eq_length.2 fun j hj=>h j (by simpa using hj)];simp
def Que.step(h:Que n i T L c)(hi:i<n)(hc:UpC n q P c)(hw:0<c.u.length):Que n i T L (delV n c):=by
 have hlen:=hc.ci.len
 obtain⟨m,hm⟩:∃m,m=V c.u 0:=⟨_,rfl⟩
 have hmem:m∈c.u:=by rw[hm];exact Qf hw
 obtain⟨⟨f0,f1⟩,⟨t0,t1⟩,ft⟩:=hc.ci.ck.msg m hmem
 obtain⟨mat1,mat2⟩:=(hc.ci.ck.rep i hi).2.2.ldr h.ld.role
 have hcl:=hc.ci.inv.com_le hi
 have elog:=h.ld.log
 obtain⟨mt,k⟩:=h.wire m hmem
 rcases k with⟨k1,k2,k3,k4,k5⟩|⟨k1,k2,k3,k4⟩
 ·obtain⟨t,ht⟩:∃t:Nat,m.To=t:=⟨m.To.toNat,U⟩
  have hti:t≠i:=U
  have htn:t<n:=U
  have hid:=(hc.ci.ck.rep t htn).1
  obtain⟨r',e1,e2⟩:=QzE hc.ci.inv hi h.ld.role h.ld.tm htn hti hmem k1 mt k3 (by rw[ht]at k4;exact k4) (by rw[elog];exact k5)
  rw[elog]at e1
  rw[QoH hm ht (r:=r') (o:=some ⟨4,(V c.E t).S,m.w,T,L.length,0,0,[],true⟩) (by unfold Zf;rw[iA U,iA U,iB k1];exact e1)]
  refine⟨⟨?_,fun j hj=>?_,?_,?_⟩,fun y hy=>?_,fun j hj hji=>?_⟩
  .dsimp only;rw[QB (Ne.symm hti)];exact h.ld.role
  .dsimp only
   by_cases e:j=t
   .subst e;rw[Ql U];exact e2
   .rw[QB e];exact h.ld.tm j hj
  .dsimp only;rw[QB (Ne.symm hti)];exact elog
  .dsimp only;rw[QB (Ne.symm hti)];exact h.ld.done
  .dsimp only
   rw[QB (Ag hti)]
   rcases was hy with hy|hy
   .exact h.wire y hy
   .simp_all
  .dsimp only
   rw[QB (Ag hti)]
   by_cases e:j=t
   .simp_all
   .rcases h.all j hj hji with⟨y,y1,y2,y3⟩|⟨y,y1,y2,y3⟩|y
    .exact .inl ⟨y,still hw y1 (fun z=>by rw[z,<-hm]at y3;omega),y2,y3⟩
    .exact .inr (.inl ⟨y,still hw y1 (fun z=>by rw[z,<-hm]at y2;omega),y2,y3⟩)
    .exact .inr (.inr y)
 ·obtain⟨f,hf⟩:∃f:Nat,m.w=f:=⟨m.w.toNat,U⟩
  have hfn:f<n:=U
  obtain⟨r,hr⟩:∃r,r=V c.E i:=⟨_,rfl⟩
  have hrl:=h.ld.role;have hrt:=h.ld.tm i hi;have hall:=h.all
  rw[<-hr]at mat1 mat2 hcl elog hrl hrt hall
  have hM:Ur r m=r.E8.set f (L.length:Int):=by
   unfold Ur
   grind
  have hA:Ul n r m={ r with E8:=Ur r m,d:=(topV (Qh5 n r (Ur r m)) r.d.toNat r.j.length:Nat) }:=by
   unfold Ul
   grind
  have hmat:∀j,V (Ur r m) j=if j=f then(L.length:Int)else V r.E8 j:=fun j=>by
   rw[hM]
   by_cases e:j=f
   .subst e;rw[iB rfl,Ql U]
   .rw[iA e,QB e]
  rw[QoH hm k2 (r:=Ul n r m) (o:=none) (by unfold Zf;rw[iA U,iA U,iA U,iB k1,<-hr];rfl)]
  have hii:i<c.E.length:=U
  refine⟨⟨?_,fun j hj=>?_,?_,?_⟩,fun y hy=>?_,fun j hj hji=>?_⟩
  .dsimp only;rw[Ql hii,hA];exact hrl
  .dsimp only
   by_cases e:j=i
   .subst e;rw[Ql hii,hA];exact hrt
   .rw[QB e];exact h.ld.tm j hj
  .dsimp only;rw[Ql hii,hA];exact elog
  .dsimp only
   rw[Ql hii,hA]
   dsimp only
   intro g1 g2
   have hn:=hc.ci.sz
   rw[elog]
   rcases Ay r.d.toNat L.length with z|z
   .rw[Qt9 z]
    unfold Qh5
    rw[Qus fun j hj=>Ax (by rw[g1 j hj];exact Aj _),elog,hrt]
    have hne:L≠[]:=fun e=>by rw[e]at z;simp at z
    have:trm L (L.length - 1)=T:=by rw[<-g2];unfold Xi;rw[iA hne]
    simp[this];omega
   .rw[Qt8 z];rw[elog]at hcl;omega
  .dsimp only
   rw[Ql hii,hA]
   dsimp only
   rcases was hy with hy|hy
   .obtain⟨w1,w2⟩:=h.wire y hy
    refine⟨w1,w2.imp (fun⟨u1,u2,u3,u4,u5⟩=>⟨u1,u2,u3,?_,u5⟩) id⟩
    grind
   .simp at hy
  .dsimp only
   rw[Ql hii,hA]
   dsimp only
   rw[hmat]
   rcases hall j hj hji with⟨y,y1,y2,y3⟩|⟨y,y1,y2,y3⟩|y
   .exact .inl ⟨y,still hw y1 (fun z=>by rw[z,<-hm]at y2;omega),y2,y3⟩
   .by_cases e:j=f
    .omega
    .exact .inr (.inl ⟨y,still hw y1 (fun z=>by rw[z,<-hm]at y3;omega),y2,y3⟩)
   .omega
structure Full (n q i:Nat) (T:Int) (L:Y D.m) (P:D.Op->Prop) (c:D.M):Prop where
 up:UpC n q P c
 wire:c.u=[]
 ld:QAl n i T L c
structure Even (n q i:Nat) (T:Int) (L:Y D.m) (P:D.Op->Prop) (c:D.M):Prop extends Full n q i T L P c where
 even:∀j,j<n->V (V c.E i).E8 j=L.length
def CI.mono'(h:CI n q P c){P':D.Op->Prop}(hp:∀o,P o->P' o)(hi:∀o,P' o->1<=o.S/\o.S<=(256:Nat)){q':Nat}(hq:q<=q')(h2:q'<=800):CI n q' P' c:=⟨h.inv.mono hp,h.sz,hi,h.shp,h.dn,by have:=h.cut;omega,h2,h.cutOK,h.wire,h.ents,fun i hi=>by have:=h.tm i hi;omega⟩
def Full.wide(h:Full n q i T L P c){P':D.Op->Prop}(hp:∀o,P o->P' o)(hi:∀o,P' o->1<=o.S/\o.S<=(256:Nat)){q':Nat}(hq:q<=q')(h2:q'<=800):Full n q' i T L P' c:=⟨⟨h.up.ci.mono' hp hi hq h2,h.up.up,h.up.cut⟩,h.wire,h.ld⟩
def Even.com(h:Even n q i T L P c)(hl:Xi L=T):(V c.E i).d=L.length:=h.ld.done h.even hl
def Full.match_(h:Full n q i T L P c)(hi:i<n):V (V c.E i).E8 i=L.length:=by
 have h1:=(h.up.ci.shp i hi).role;have h2:=h.ld.role;have hid:=h.up.ci.inv.id hi
 rcases h1 with z|z|z
 .omega
 .omega
 .have:=z.2.2.2.2.1
  rw[hid,BJ,h.ld.log]at this
  exact this
def Full.pos(h:Full n q i T L P c)(hi:i<n):1<=T:=by
 obtain⟨_,g,x⟩:=h.up.ci.inv
 have:=(x.rep i hi).pos1 (.inr h.ld.role)
 rw[h.ld.tm i hi]at this;exact this
def Full.logOK(h:Full n q i T L P c)(hi:i<n):∀k,k<L.length->1<=trm L k/\trm L k<=T:=by
 obtain⟨_,g,x⟩:=h.up.ci.inv
 have:=(x.rep i hi).log.term
 rw[h.ld.log,h.ld.tm i hi]at this;exact this
def QAK{A:Y D.N}(h:Full n q i T L P c)(hg:GrC n A c.E)(hi:i<n):Ok (V7 1000 c (i:Int)) fun x=>x.2=0/\GrC n A x.1.E/\∃hci:UpC n q P x.1,Que n i T L x.1:=by
 refine(QkO (k:=(i:Int)) h.up.ci).mono fun⟨d,e⟩ ⟨h1,h2⟩=>?_
 obtain rfl:e=0:=h2 i hi rfl (h.up.up i hi) h.ld.role h.wire
 obtain⟨g1,g2,i',zD,hi',ei,ed,v1,v2⟩:=h1 rfl
 obtain rfl:i'=i:=U
 dsimp only at g1 g2 ed |-
 have hid:=h.up.ci.inv.id hi
 have hpos:=h.pos hi
 obtain⟨mat1,mat2⟩:=(h.up.ci.ck.rep i' hi).2.2.ldr h.ld.role
 have hlo:=h.logOK hi
 have elog:=h.ld.log
 have etm:=h.ld.tm i' hi
 have eW:d.u=zD:=by rw[ed,h.wire];rfl
 have eR:d.E=c.E:=by rw[ed]
 have hld:QAl n i' T L d:=⟨by rw[eR];exact h.ld.role,by rw[eR];exact h.ld.tm,by rw[eR];exact elog,by rw[eR];exact h.ld.done⟩
 refine⟨rfl,hg.trans g1.gr,⟨g1.ci,fun j hj=>by rw[g2];exact h.up.up j hj,by rw[ed];exact h.up.cut⟩,hld,fun m hm=>?_,fun j hj hji=>?_⟩
 .rw[eW]at hm
  obtain⟨j,hj,rfl,hji⟩:=v1 m hm
  have:=mat2 j hj
  rw[elog]at this
  refine⟨etm,.inl ⟨rfl,hid,?_,?_,?_⟩⟩
  .simp only[appV]
   split
   .grind
   .omega
  .rw[eR];simp only[appV,BJ];exact Aj _
  .simp only[appV,elog,Bg];omega
 .rw[eW]
  exact .inl ⟨_,v2 j hj hji,rfl,rfl⟩
def QwA{A:Y D.N}(hu:UpC n q P c)(hg:GrC n A c.E)(h:Que n i T L c)(hi:i<n)(h1:1<=T):Ok (Xv 1000 c) fun d=>Even n q i T L P d/\GrC n A d.E:=by
 refine(QzZ (zE:=Que n i T L) hu hg h (fun d hd m hm=>by have:=(hd.wire m hm).1;omega) fun d hd hw hb=>hb.step hi hd hw).mono fun d ⟨d1,d2,d3,d4⟩=>?_
 have hf:Full n q i T L P d:=⟨d1,d3,d4.ld⟩
 refine⟨⟨hf,fun j hj=>?_⟩,d2⟩
 by_cases e:j=i
 .subst e;exact hf.match_ hi
 .rcases d4.all j hj e with⟨m,hm,_⟩|⟨m,hm,_⟩|z
  .simp_all
  .simp_all
  .exact z
def QBP(h:UpC n q P c)(hi:i<n)(ht:∀i,i<n->(V c.E i).Q<=8*q+7):Ok (Uu 1000 c (i:Int)) fun x=>x.2=0/\GrC n c.E x.1.E/\UpC n q P x.1/\((V x.1.E i).FA≠2\/∃T L,Even n q i T L P x.1/\Xi L≠T):=by
 have hlen:=h.ci.len;have hn:=h.ci.sz
 unfold Uu
 refine Ok.opt (QcZ h.ci) fun e he=>?_
 rcases he with⟨rfl,i',hi',ei⟩|⟨rfl,z⟩
 rotate_left
 .omega
 obtain rfl:i'=i:=U
 have h0:CI n q P (D.M.mk c.E [] c.FP c.Fg):=h.ci.upd (h.ci.inv.sub Ob) h.ci.shp h.ci.dn rfl Ob Ob h.ci.tm
 refine Ok.N (Ok.oe h.ci.cp (Ok.opt (QmS (k:=(i':Int)) h0 ht) fun⟨d,e⟩ ⟨he,he2⟩=>?_))
 obtain rfl:e=0:=he2 i' hi rfl (h.up i' hi) rfl
 obtain⟨hd,i2,hi2,ei2,hdn,zD,ed,v1,v2⟩:=he rfl
 obtain rfl:i2=i':=U
 dsimp only at hd hdn ed |-
 obtain⟨r,hr⟩:∃r,r=V c.E i2:=⟨_,rfl⟩
 rw[<-hr]at ed v1
 have hpos:0<=r.Q:=by obtain⟨_,g,x⟩:=h.ci.inv;rw[hr];exact(x.rep i2 hi).pos
 have hlogT:∀k,k<r.j.length->1<=trm r.j k/\trm r.j k<=r.Q:=by obtain⟨_,g,x⟩:=h.ci.inv;rw[hr];exact(x.rep i2 hi).log.term
 have hlast:Xi r.j≠r.Q+1:=by
  rw[QiB]
  grind
 have hud:UpC n q P d:=⟨hd.ci,fun j hj=>by rw[ed];exact h.up j hj,by rw[ed];exact h.cut⟩
 have eRi:V d.E i2=if n / 2+1=1 then Qg1 n (Vt n r)else Vt n r:=by rw[ed];exact Ql (by rw[hlen];exact hi)
 have eW:d.u=zD:=by rw[ed];rfl
 have hV:Qvx n i2 (r.Q+1) r.j d:=by
  refine⟨fun m hm=>.inl (v1 m (by rw[<-eW];exact hm)),.inr ?_,fun _ j hj hji=>.inl ?_⟩
  .rw[eRi]
   split
   .exact⟨rfl,.inr rfl,rfl⟩
   .exact⟨rfl,.inl rfl,rfl⟩
  .grind
 refine Ok.NS (Ok.opt (QzZ (zE:=Qvx n i2 (r.Q+1) r.j) hud hd.gr hV (fun d hd m hm=>by rcases hd.wire m hm with z|z<;>omega) fun d hd hw hb=>hb.step hi hd hw) fun f ⟨f1,f2,f3,f4⟩=>?_)
 refine Ok.TG (fun y=>∃d z,y=((),d,z,())/\GrC n c.E d.E/\UpC n q P d/\((V d.E i2).FA≠2\/∃T L,Even n q i2 T L P d/\Xi L≠T)) (fun y hy=>?_) fun zG hJ=>?_
 .obtain⟨d,z,rfl,hd⟩:=hy;exact Ok.s ⟨rfl,hd⟩
 refine Ok.loop (fun m x=>∃(j:Nat) (d z:D.M),x=(((i2:Int),(j:Int),()),d,z,())/\(GrC n c.E d.E/\UpC n q P d/\((V d.E i2).FA=2->Full n q i2 (r.Q+1) r.j P d/\(0<j->Even n q i2 (r.Q+1) r.j P d)))/\j<=2/\m=2 - j) (m:=2) U ⟨0,f,_,rfl,⟨f2,f1,fun h2=>⟨⟨f1,f3,h2,fun j hj=>?_,?_,fun _ g=>absurd g hlast⟩,fun g=>absurd g U⟩⟩,U,rfl⟩ ?_
 .rcases f4.me with z|z
  .omega
  .by_cases e:j=i2
   .subst e;exact z.1
   .rcases f4.all U j hj e with⟨m,hm,_⟩|⟨m,hm,_⟩|z
    .grind
    .grind
    .exact z
 .rcases f4.me with z|z
  .omega
  .exact z.2.2
 rintro m x ⟨j,d,z,rfl,⟨dg,du,dl⟩,j1,rfl⟩ K hK
 dsimp only
 have hdl:=du.ci.len
 have out:¬(j<2/\(V d.E i2).FA=2)->(V d.E i2).FA≠2\/∃T L,Even n q i2 T L P d/\Xi L≠T:=fun g=>by
  grind
 refine Ok.TG (fun y=>y=(((i2:Int),(j:Int),()),d,z,())/\j<2/\(V d.E i2).FA=2) (fun y hy=>?_) fun J2 hJ2=>Ok.ite (fun _=>Ok.A (Ok.ite (fun r2=>hJ2 _ ⟨rfl,U,r2⟩) fun g=>hJ _ ⟨_,_,rfl,dg,du,out fun z=>g z.2⟩)) fun g=>hJ _ ⟨_,_,rfl,dg,du,out fun z=>g U⟩
 obtain⟨rfl,g2,r2⟩:=hy
 dsimp only
 refine Ok.opt (QAK (dl r2).1 dg hi) fun⟨e,er⟩ ⟨b1,b2,b3,b4⟩=>Ok.opt (QwA b3 b2 b4 hi U) fun f ⟨f1,f2⟩=>?_
 rw[Qa U]
 exact hK _ _ U ⟨j+1,f,z,rfl,⟨f2,f1.up,fun _=>⟨f1.toFull,fun _=>f1⟩⟩,U,rfl⟩
end
section
open Go AM
attribute [local irreducible] dueV stepV runV QG answerV opV Zk opsV Qau
section
def Qzk(h:CX n P c)(hi:i<n)(hd:V c.FP i=false)(hr:(V c.E i).FA=2)(hf:∀e∈(V c.E i).j,e.Op.S≠o.S)(hl:(V c.E i).j.length<256):
  WL 1000 c (i:Int) o=some ({ c with E:=c.E.set i (prpV n (V c.E i) o) },0):=by
 have hlen:=h.len;have hn:=h.sz
 obtain⟨hid,ck,cp,_,hm⟩:=h.rep i hi
 have hm:=hm hr
 have rp:X6 1000 n (V c.E i) o=some (prpV n (V c.E i) o,0):=by
  have fr:=QwC U hf
  generalize V c.E i=r at *
  refine Ok.eq ?_
  unfold X6
  refine Ok.oe ck (Ok.nt rfl (Ok.N (Ok.oe fr (Ok.f (Ok.N (Ok.oe cp (Ok.LS ?_)))))))
  rw[hid]
  have e1:(((r.j++[D.m.mk r.Q o]).length:Nat):Int)=r.j.length+1:=Ob
  refine Ok.natn (Ok.E (Ok.G (Ok.j (Ok.oe (Qxr hn) (Ok.ite (fun g=>Ok.s ?_) fun g=>Ok.s ?_)))))
  .unfold prpV;rw[iB U,hid,Int.toNat_natCast,e1]
  .unfold prpV;rw[iA U,hid,Int.toNat_natCast,e1]
 refine Ok.eq ?_
 unfold WL
 refine Ok.oe (QCJ h hi hd) (Ok.NS (Ok.oe h.cp (Ok.natn (Ok.E (Ok.G ?_)))))
 rw[hlen]
 exact Ok.oe rp (Ok.NS (Ok.natn (Ok.E (Ok.G (Ok.s rfl)))))
def subX(n:Nat)(p:D.g)(i:Nat)(o:D.Op):D.g:=D.g.mk p.FR { p.M with E:=p.M.E.set i (prpV n (V p.M.E i) o) } (p.FN+1)
def Full.prop(h:Full n q i T L P c)(hi:i<n)(hc:CI n q' P' { c with E:=c.E.set i (prpV n (V c.E i) o) }):Full n q' i T (L++[D.m.mk T o]) P' { c with E:=c.E.set i (prpV n (V c.E i) o) }:=by
 have hlen:=h.up.ci.len
 have hii:i<c.E.length:=U
 have htm:=h.ld.tm i hi
 have elog:=h.ld.log
 obtain⟨mat1,mat2⟩:=(h.up.ci.ck.rep i hi).2.2.ldr h.ld.role
 have hid:=h.up.ci.inv.id hi
 refine⟨⟨hc,h.up.up,h.up.cut⟩,h.wire,⟨?_,fun j hj=>?_,?_,?_⟩⟩
 .dsimp only;rw[Ql hii];exact h.ld.role
 .dsimp only
  by_cases e:j=i
  .subst e;rw[Ql hii];exact htm
  .rw[QB e];exact h.ld.tm j hj
 .dsimp only;rw[Ql hii]
  show(V c.E i).j++[D.m.mk (V c.E i).Q o]=_
  rw[elog,htm]
 .dsimp only;rw[Ql hii]
  intro g _
  show(if n / 2+1=1 then((V c.E i).j.length:Int)+1 else(V c.E i).d)=_
  by_cases e:n / 2+1=1
  .simp_all
  .exfalso
   obtain⟨j,hj,hji⟩:∃j,j<n/\j≠i:=by
    by_cases e0:i=0
    .exact⟨1,U,U⟩
    .exact⟨0,U,U⟩
   have g1:V ((V c.E i).E8.set (V c.E i).S.toNat ((V c.E i).j.length+1)) j=((L++[D.m.mk T o]).length:Int):=g j hj
   rw[hid,BJ,QB hji]at g1
   grind
def QC9(h:Sys n j zI E l p)(hf:Full n j i T L (PO E zI) p.M)(hi:i<n)(ho:Qb1 o)(hid:o.S=zI)(hk5:o.Z≠5)(hj:zI<=3*j)(hz:0<=z/\z<=100):
  ZM 1000 (D.site.mk p (i:Int) z) o=some (0,D.site.mk (subX n p i o) (i:Int) (z+1))/\Sys n j (zI+1) E l (subX n p i o)/\GrC n p.M.E (subX n p i o).M.E/\Full n j i T (L++[D.m.mk T o]) (PO E (zI+1)) (subX n p i o).M:=by
 have h1:=h.lo;have h2:=h.ser;have h3:=h.hi
 have hsh:=h.ci.inv.short (zI:=zI - 1) hi fun o ho=>⟨ho.1.1.id.1,by have:=ho.2.1;omega⟩
 have hfr:∀e∈(V p.M.E i).j,e.Op.S≠o.S:=fun e he=>by have:=(h.log hi e he).2.1;omega
 have hnum:({ o with S:=p.FN }:D.Op)=o:=by rw[h2,<-hid]
 have e0:ZM 1000 (D.site.mk p (i:Int) z) o=some (0,D.site.mk (subX n p i o) (i:Int) (z+1)):=by
  refine Ok.eq ?_
  unfold ZM
  dsimp only
  rw[hnum]
  refine Ok.oe (v:=true) ho.1.validE (Ok.nt rfl (Ok.N (Ok.oe (Qzk h.ci.cx hi (hf.up.up i hi) hf.ld.role hfr U) (Ok.NS (Ok.s ?_)))))
  rw[Qb (x:=p.FN+1) U,Qb (x:=z+1) U]
  rfl
 obtain⟨⟨e,s⟩,e1,e2⟩:=QC8 (k:=(i:Int)) (z:=z) h (o:=o) (by rw[show({ o with S:=(zI:Int) }:D.Op)=o by rw[<-hid]];exact ho) (fun e=>absurd e hk5) hj hz
 rw[e0]at e1
 cases e1
 obtain⟨p',g1,g2,g3⟩:=e2 rfl
 cases g1
 exact⟨e0,g2,g3,hf.prop hi g2.ci⟩
def QBx(hl:rest.length<=900)(h:∀e∈rest,e.Q≠t):Qm 1000 rest s t=some false:=by
 refine Ok.eq ?_
 unfold Qm
 refine Ok.oe (v:=-1) ?_ (Ok.TF (Ok.TF (Ok.s Ob)))
 refine Ok.eq ?_
 unfold Za
 refine Ok.run rest.length (fun i=>((rest,(rest.length:Int),(i:Int),()),(),s,(t,()),())) rfl U (fun i hi K hK=>?_) fun K=>Ok.n (by show ¬(rest.length:Int)<(rest.length:Int);omega) (Ok.TF (Ok.TF (Ok.s rfl)))
 dsimp only at hK |-
 refine Ok.P (Ok.atn hi (Ok.oe (v:=false) ?_ (Ok.f ?_)))
 .refine Ok.eq ?_
  unfold VJ
  have hne:=h _ (Qf hi)
  exact Ok.ite (fun _=>Ok.ite (fun _=>Ok.n hne (Ok.TF (Ok.TF (Ok.s rfl)))) fun _=>Ok.TF (Ok.TF (Ok.s rfl))) fun _=>Ok.TF (Ok.TF (Ok.s rfl))
 .rw[Qa U];exact hK
def QC0:YM 1000 o []=some (false,[]):=by
 refine Ok.eq ?_
 unfold YM
 refine Ok.oe (v:=false) ?_ (Ok.s rfl)
 refine Ok.eq ?_
 unfold QV
 refine Ok.oe (v:=-1) ?_ (Ok.TF (Ok.s Ob))
 refine Ok.eq ?_
 unfold Q2
 exact Ok.run 0 (fun _=>_) rfl U (fun i hi=>absurd hi U) fun K=>Ok.NS (Ok.TF (Ok.s rfl))
def QCZ(hl:ops.length<=900):QH 1000 ops []=some (0,ops.length,[],ops):=by
 refine Ok.eq ?_
 unfold QH
 refine Ok.oe (v:=(-1,[])) ?_ (Ok.p rfl (Ok.s rfl))
 refine Ok.eq ?_
 unfold Zd
 refine Ok.run ops.length (fun i=>(((ops.length:Int),(i:Int),()),([],()),ops,())) rfl U (fun i hi K hK=>?_) fun K=>Ok.n (by show ¬(ops.length:Int)<(ops.length:Int);omega) ?_
 .dsimp only at hK |-
  refine Ok.P (Ok.natn (Ok.lt hi (Ok.get hi (Ok.oe QC0 (Ok.f ?_)))))
  rw[Qa U];exact hK
 .exact Ok.TF (Ok.s rfl)
def Qvn(v:D.G)(i:Int)(zI t:Int):Y D.Op:=if v.E5=i then Qmo v i zI t else[ownO v i zI t]
def QB0(h:Sys n j zI E l p)(hf:Full n j i T L (PO E zI) p.M)(hi:i<n)(ht:0<=t/\t<=980000)(hL:(V p.M.E i).d=L.length\/Xi L≠T)(hv:opsV l (comV (V p.M.E i))=v):
  Xt 1000 (D.site.mk p (i:Int) 0) t=some (if (V p.M.E i).d=L.length then Qvn v i zI t else[ownO v i zI t],0):=by
 have h1:=h.lo;have h2:=h.ser;have h6:=h.hi;have hlen:=h.ci.len;have hn:=h.ci.sz
 have hck:=(h.ci.ck.rep i hi).2.2
 have hl:=hck.log;have hcm:=hck.com
 have hb:=h.behind hi
 obtain⟨h3,h4,h5⟩:=h.com hi
 have hw:=QCM h hi
 rw[hv]at hb hw
 have own:=(hb.led U).ownE
 have elog:=hf.ld.log
 have etm:=hf.ld.tm i hi
 have hpend:Wn 1000 (D.site.mk p (i:Int) 0)=some (L.drop (V p.M.E i).d.toNat):=by
  rw[<-elog]
  refine Ok.eq ?_
  unfold Wn
  exact Ok.atn (by show i<p.M.E.length;omega) (Ok.nat hcm.1 (Ok.TO (by show(V p.M.E i).d.toNat<=(V p.M.E i).j.length;omega) (Ok.TF (Ok.s rfl))))
 have hold:Xi L≠T->∀e∈L.drop (V p.M.E i).d.toNat,e.Q≠T:=fun hne e he=>by
  obtain⟨a,ha,e1⟩:=Qdb (Bp he)
  have hpos:0<L.length:=U
  obtain⟨_,g,y⟩:=h.ci.inv
  have lo:=(y.rep i hi).log
  rw[elog,etm]at lo
  have h8:=lo.asc a (L.length - 1) U U
  have h9:=(lo.term (L.length - 1) U).2
  rw[QiB,iA U]at hne
  grind
 have hld:(L.drop (V p.M.E i).d.toNat).length=L.length - (V p.M.E i).d.toNat:=Ob
 have hlast:∀k:Nat,k+1=(L.drop (V p.M.E i).d.toNat).length->(V (L.drop (V p.M.E i).d.toNat) k).Q=Xi L:=fun k hk=>by
  rw[QiB,iA U]
  show trm _ _=_
  rw[QgX]
  congr 1;omega
 rw[elog]at hcm hl
 obtain⟨zH,hC⟩:∃zH,zH=(V p.M.E i).d:=⟨_,rfl⟩
 rw[<-hC]at hL hpend hold hld hlast hcm |-
 obtain⟨rest,hr⟩:∃rest,rest=L.drop zH.toNat:=⟨_,rfl⟩
 rw[<-hr]at hpend hold hld hlast
 have hin:Qc5 (i:Int) (zI:Int) t:=⟨U,U,U⟩
 have hfe:v.Fence<=1000:=by have:=hb.inv.fence;have:=hb.seen;omega
 have claim:(∀e∈rest,e.Q≠T)->∀{A:Y D.Op},A=[ownO v i zI t]->Ok (O (Qm 1000 rest (D.site.mk p (i:Int) 0) T) fun b=>C b (TF (D.site.mk p (i:Int) 0) (D.site.mk p (i:Int) 0) (some (([]:Y D.Op),(0:Int)))) (O (QaB 1000 v (i:Int) (zI:Int) t) fun x=>TF (D.site.mk p (i:Int) 0) (D.site.mk p (i:Int) 0) (some ([x.1],x.2)))) (·=(A,0)):=fun hne A hA=>by
  refine Ok.oe (QBx U hne) (Ok.f (Ok.oe (Qwd own) ?_))
  rw[Qqq hin hfe]
  exact Ok.TF (Ok.s (by rw[hA]))
 refine Ok.eq ?_
 unfold Xt
 refine Ok.oe hw (Ok.atn (by show i<p.M.E.length;omega) (Ok.oe hpend ?_))
 dsimp only
 rw[etm,h2]
 by_cases g:zH=L.length
 .have hr0:rest=[]:=by rw[hr];exact Eg U
  rw[iB g]
  unfold Qvn
  by_cases go:v.E5=(i:Int)
  .rw[iB go]
   refine Ok.j (Ok.n (fun g=>g go) (Ok.n (by rw[hr0];simp) ?_))
   dsimp only
   have hpg:=hb.inv.small3 (k:=3) hb.ids
   have hwe:=QeP (l:=v) (t:=t)
   have hpl:(Qmo v (i:Int) (zI:Int) t).length<=3:=by
    unfold Qmo
    split
    .rw[XQ];omega
    .simp
   rw[hr0,h2]
   refine Ok.oe (Qve own) (Ok.oe (QCZ U) (Ok.TF (Ok.s ?_)))
   simp_all
  .rw[iA go]
   exact Ok.j (Ok.p go (claim (by rw[hr0];simp) rfl))
 .have hne:Xi L≠T:=hL.resolve_left g
  have hcl:=claim (hold hne) (A:=[ownO v i zI t]) rfl
  rw[iA g]
  by_cases go:v.E5=(i:Int)
  .refine Ok.j (Ok.n (fun g=>g go) (Ok.P ?_))
   rw[Qb (x:=(rest.length:Int) - 1) U]
   refine Ok.at U U (Ok.p ?_ hcl)
   grind
  .exact Ok.j (Ok.p go hcl)
def QB7(h:Sys n j zI E l p)(hf:Full n j i T L (PO E zI) p.M)(hi:i<n)(ht:0<=t/\t<=980000)(hj:j<18)(hw:Xt 1000 (D.site.mk p (i:Int) 0) t=some (ops,0))(h3:ops.length<=3)(hfit:∀k,k<ops.length->Qb1 (V ops k)/\(V ops k).S=zI+k/\(V ops k).Z≠5):
  Ok (Vf 1000 p (i:Int) t) fun x=>x.2.2=0/\Sys n (j+1) (zI+ops.length) E l x.1/\GrC n p.M.E x.1.M.E/\Full n (j+1) i T (L++ops.map (D.m.mk T)) (PO E (zI+ops.length)) x.1.M:=by
 have h1:=h.lo;have hlen:=h.ci.len;have hn:=h.ci.sz;have hdn:=h.ci.dn
 have h0:=h.step hj
 have hf0:Full n (j+1) i T L (PO E zI) p.M:=hf.wide (fun _=>id) (PO.id U) U U
 unfold Vf
 rw[hlen,Qb (x:=(n:Int) - 1) U]
 refine Ok.oe h.px.ck (Ok.nt rfl (Ok.oe pin (Ok.nt (inn U U) (Ok.A (Ok.bf (hf.up.up i hi) (Ok.A (Ok.n (fun g=>g hf.ld.role) (Ok.oe pin (Ok.nt (inn U U) (Ok.oe (QsX h.px.cx h.led) (Ok.oe hw ?_)))))))))))
 dsimp only
 refine Ok.TG (fun y=>∃(w p':D.g) (z:Int),y=((0,()),w,D.site.mk p' (i:Int) z,())/\Sys n (j+1) (zI+ops.length) E l p'/\GrC n p.M.E p'.M.E/\Full n (j+1) i T (L++ops.map (D.m.mk T)) (PO E (zI+ops.length)) p'.M) (fun y hy=>?_) fun zG hJ=>?_
 .obtain⟨w,p',z,rfl,hs⟩:=hy
  exact Ok.NS (Ok.s ⟨rfl,hs⟩)
 refine Ok.loop (fun m x=>∃(a:Nat) (w p':D.g) (z:Int),x=((ops,0,(a:Int),()),w,D.site.mk p' (i:Int) z,())/\a<=ops.length/\(0<=z/\z<=a)/\(Sys n (j+1) (zI+a) E l p'/\GrC n p.M.E p'.M.E/\Full n (j+1) i T (L++(ops.take a).map (D.m.mk T)) (PO E (zI+a)) p'.M)/\m=ops.length - a) (m:=ops.length) U ⟨0,_,p,0,rfl,U,U,⟨h0,.same,by simpa using hf0⟩,rfl⟩ ?_
 rintro m x ⟨a,w,p',z,rfl,a1,z1,⟨g1,g2,g3⟩,rfl⟩ Kk hK
 dsimp only
 refine Ok.j (Ok.ite (fun g=>Ok.p rfl ?_) fun g=>hJ _ ⟨w,p',z,rfl,?_⟩)
 .have ha:a<ops.length:=U
  obtain⟨f1,f2,f3⟩:=hfit a ha
  obtain⟨e1,e2,e3,e4⟩:=QC9 (z:=z) g1 g3 hi f1 (by rw[f2];omega) f3 U U
  refine Ok.atn ha (Ok.oe e1 ?_)
  rw[Qa U]
  refine hK _ _ U ⟨a+1,w,_,z+1,rfl,U,U,⟨e2,g2.trans e3,?_⟩,rfl⟩
  rw[<-Qp ha,Aq,<-Aw]
  exact e4
 .grind
structure DrG (l:D.G) (t:Int) (k:Nat) (x:D.G):Prop where
 len:x.H.length=l.H.length
 cfg:x.E5=l.E5/\x.Fence=l.Fence
 page:∀j,j<l.H.length->if j∈(XT l t).take k then Yp (V x.H j) t=false else V x.H j=V l.H j
def Qol(h:a<=b)(hw:Yp p a=true):Yp p b=true:=by
 unfold Yp at hw |-
 grind
def DrG.step{k:Nat}{x t:Int}{l y:D.G}(h:DrG l t k y)(ho:OkAt y (WG l x t k))(hk:k<(XT l t).length)(hs:y.h.contains (x+k)=false):DrG l t (k+1) (Zk y (WG l x t k)).1:=by
 obtain⟨M,m,h1,h2,h3⟩:=ho.ok
 obtain⟨i,hi⟩:∃i,V (XT l t) k=i:=⟨_,rfl⟩
 have hmem:i∈XT l t:=by rw[<-hi];exact Qf hk
 obtain⟨hil,hiw⟩:=Qgj.1 hmem
 have hnot:i∉(XT l t).take k:=fun hm=>by
  obtain⟨j,hj,e⟩:=Qdb hm
  have hjk:j<k:=by have:=EV k (XT l t);omega
  rw[UP hjk,<-hi]at e
  have hnd:=CP.1 (Qs6 (l:=l) (now:=t)) j k U hk hjk
  apply hnd
  simpa [V,AQ,AR hk,AR (show j<(XT l t).length by omega)]using e
 have hxi:V y.H i=V l.H i:=by have:=h.page i hil;rwa [iA hnot]at this
 have hix:i<y.H.length:=by rw[h.len];exact hil
 have hpa:UW l t k=V l.H i:=by unfold UW;rw[hi]
 have e:=Quv (l:=y) (o:=WG l x t k) h1 rfl h.cfg.1.symm h.cfg.2.symm hix (by rw[hxi,<-hpa];rfl) (by rw[hxi];exact Qol (show t<=max y.E9 t by omega) hiw) (by rw[hxi,<-hpa];rfl) hs
 have hsee:Qd M m (seeV y (WG l x t k)):=h1.see ho.op h3 hs ho.len
 obtain⟨k1,k2,k3,k4,k5,k6,k7⟩:=Y7 (l:=seeV y (WG l x t k)) (i:=i)
 obtain⟨p1,p2⟩:=Qoc hsee hix
 rw[e]
 refine⟨by rw[k7];exact h.len,⟨by rw[k4];exact h.cfg.1,by rw[k5];exact h.cfg.2⟩,fun j hj=>?_⟩
 have htk:∀j,j∈(XT l t).take (k+1)↔(j∈(XT l t).take k\/j=i):=fun j=>by
  rw[<-Qp hk,Af,Ai,hi]
 by_cases q:j=i
 .subst q
  rw[iB ((htk _).2 (.inr rfl))]
  cases hw:Yp (V (runI (seeV y (WG l x t k)) j).H j) t with
  |false=>rfl
  |true=>
   have:=Qol (show t<=(seeV y (WG l x t k)).E9 from(show t<=max y.E9 t by omega)) hw
   simp_all
 .rw[p1,QB q]
  have:=h.page j hj
  by_cases q2:j∈(XT l t).take k
  .rw[iB ((htk _).2 (.inl q2))];rw[iB q2]at this;exact this
  .rw[iA (fun hh=>((htk _).1 hh).elim q2 q)];rw[iA q2]at this;exact this
def DrG.all(hl:Qbp q K l)(hq:q<=45)(hK:K+3<=200)(hx:1<=x/\x<=100000)(h0:0<=l.E5)(ht:0<=t/\t<=980000)(hs:∀y,x<=y->l.h.contains y=false):DrG l t (XT l t).length (opsV l (WS l x t)):=by
 have hpg:=hl.inv.small3 (k:=3) hl.ids
 have hwe:=QeP (l:=l) (t:=t)
 have hsl:=XQ (l:=l) (id:=x) (now:=t)
 have hfit:∀o∈WS l x t,Qb1 o:=fun o ho=>by
  obtain⟨a,ha,rfl⟩:=Qdb ho
  rw[hsl]at ha
  rw[Vu ha]
  exact Qj0 hl.inv ha U h0 ht
 have hcE:cntE (WS l x t)=0:=by
  unfold cntE
  refine List.countP_eq_zero.2 fun o ho=>?_
  obtain⟨a,ha,rfl⟩:=Qdb ho
  rw[hsl]at ha
  rw[Vu ha]
  show ¬decide ((3:Int)=5)=true
  decide
 have key:∀k,k<=(XT l t).length->DrG l t k (opsV l ((WS l x t).take k)):=by
  intro k
  induction k with
  |zero=>intro _;rw[Bd,QtT];exact⟨rfl,⟨rfl,rfl⟩,fun j hj=>Ob⟩
  |succ k ih=>
   intro hk
   have hk':k<(WS l x t).length:=U
   have hce:=Qfo (ops:=WS l x t) (j:=k)
   rw[QfH hk',Vu U]
   refine(ih U).step ((hl.fold hfit U U (j:=k) U).okAt U U (by rw[<-Vu U];exact hfit _ (Qf hk'))) U ?_
   rw[Qmb,hs _ U,Bt,Cx]
   intro o ho
   obtain⟨a,ha,rfl⟩:=Qdb ho
   rw[Ae]at ha
   rw[UP U,Vu U]
   show ¬decide (x+(a:Int)=x+k)=true
   simp;omega
 have:=key _ (AN _)
 grind
def DrG.quiet(h:DrG l t (XT l t).length y):XT y t=[]:=by
 rw[List.eq_nil_iff_forall_not_mem]
 intro j hj
 obtain⟨h1,h2⟩:=Qgj.1 hj
 rw[h.len]at h1
 have:=h.page j h1
 rw[Ac]at this
 by_cases g:j∈XT l t
 .simp_all
 .rw[iA g]at this
  rw[this]at h2
  exact g (Qgj.2 ⟨h1,h2⟩)
end
end
section
attribute [local irreducible] dueV stepV runV QG answerV opV Zk opsV Qau
section
def QwV(h:ops≠[]):Xi (L++ops.map (D.m.mk T))=T:=by
 have hl:0<ops.length:=B1.2 h
 rw[QiB,iA (by rw[Ab,AX];omega)]
 show(V (L++ops.map (D.m.mk T)) _).Q=T
 have e:V (L++ops.map (D.m.mk T)) ((L++ops.map (D.m.mk T)).length - 1)∈ops.map (D.m.mk T):=by
  simp only[V,AQ]
  grind
 grind
def Qqv(h1:r.j=L)(h2:r.d=L.length):comV r=L.map fun e=>e.Op:=by
 unfold comV
 simp_all
def Qy6{T:Int}{ops:Y D.Op}{L:Y D.m}:(L++ops.map (D.m.mk T)).map (fun e=>e.Op)=L.map (fun e=>e.Op)++ops:=by
 rw[Aq,CN]
 congr 1
 exact List.map_id' ops
structure St (a n j zI i:Nat) (T:Int) (L:Y D.m) (E:Y Int) (l:D.G) (t:Int) (p:D.g):Prop where
 sys:Sys n j zI E l p
 ev:Even n j i T L (PO E zI) p.M
 zero:(V p.M.E i).d=L.length\/Xi L≠T
 one:1<=a->(V p.M.E i).d=L.length
 Ta:2<=a->(opsV l (comV (V p.M.E i))).E5=i
 three:3<=a->XT (opsV l (comV (V p.M.E i))) t=[]
def Sys.unseen(h:Sys n j zI E l p)(hi:i<n):∀y:Int,(zI:Int)<=y->(opsV l (comV (V p.M.E i))).h.contains y=false:=fun y hy=>by
 have hs:l.h=[]:=BP (by have:=h.first.seen;omega)
 rw[Qmb,hs]
 simp only[List.contains_nil,Bt,Cx]
 intro o ho
 obtain⟨e,he,rfl⟩:=BQ.1 ho
 have:=(h.log hi e (Bo he)).2.1
 simp;omega
def Qpk{i zI:Nat}{t:Int}{v:D.G}(hin:Qc5 (i:Int) (zI:Int) t)(ho:v.E5=(i:Int))(hp:v.H.length<=3)(hS:zI<=1000):Qmo v (i:Int) (zI:Int) t=WS v (zI:Int) t:=by
 unfold Qmo
 rw[iB ⟨Qij.2 hin,ho.symm,U⟩]
def QBZ(h:Sys n j zI E l p)(hi:i<n)(ht:0<=t/\t<=980000)(hv:opsV l (comV (V p.M.E i))=v):
  (∀ops,ops=Qvn v (i:Int) (zI:Int) t\/ops=[ownO v (i:Int) (zI:Int) t]->ops.length<=3/\∀k,k<ops.length->Qb1 (V ops k)/\(V ops k).S=zI+k/\(V ops k).Z≠5):=by
 have h1:=h.lo;have h2:=h.hi;have hn:=h.ci.sz
 have hb:=h.behind hi
 rw[hv]at hb
 have hpg:=hb.inv.small3 (k:=3) hb.ids
 have hin:Qc5 (i:Int) (zI:Int) t:=⟨U,U,U⟩
 have own:∀ops,ops=[ownO v (i:Int) (zI:Int) t]->ops.length<=3/\∀k,k<ops.length->Qb1 (V ops k)/\(V ops k).S=zI+k/\(V ops k).Z≠5:=by
  rintro ops rfl
  refine⟨Ob,fun k hk=>?_⟩
  obtain rfl:k=0:=by simp at hk;omega
  exact⟨QtW hb.inv hin ht.2,by show(zI:Int)=zI+(0:Nat);omega,by show(2:Int)≠5;omega⟩
 rintro ops (rfl|e)
 .unfold Qvn
  by_cases g:v.E5=(i:Int)
  .rw[iB g,Qpk hin g U U]
   have hwe:=QeP (l:=v) (t:=t)
   have hsl:=XQ (l:=v) (id:=(zI:Int)) (now:=t)
   refine⟨U,fun k hk=>?_⟩
   rw[Vu U]
   exact⟨Qj0 hb.inv U U U ht,rfl,by show(3:Int)≠5;omega⟩
  .simp_all
 .exact own _ e
def St.round(h:St a n j zI i T L E l t p)(hi:i<n)(ht:0<=t/\t<=980000)(hj:j<18)(ha:a<=3):
  Ok (Vf 1000 p (i:Int) t) fun x=>x.2.2=0/\Ok (V7 1000 x.1.M (i:Int)) fun y=>y.2=0/\Ok (Xv 1000 y.1) fun d=>Ok (V7 1000 d (i:Int)) fun z=>z.2=0/\Ok (Xv 1000 z.1) fun f=>∃S' L',St (min (a+1) 3) n (j+1) S' i T L' E l t (D.g.mk x.1.FR f x.1.FN):=by
 have hf:=h.ev.toFull
 have hlo:=h.sys.lo;have hhi:=h.sys.hi;have hn:=h.sys.ci.sz
 obtain⟨v,hv⟩:∃v,opsV l (comV (V p.M.E i))=v:=⟨_,rfl⟩
 have hw:=QB0 h.sys hf hi ht h.zero hv
 have hfit:=QBZ h.sys hi ht hv
 have hun:=h.sys.unseen hi
 have hb:=h.sys.behind hi
 obtain⟨b1,b2,b3⟩:=h.sys.com hi
 rw[hv]at hun hb
 obtain⟨ops,ho⟩:∃ops,ops=if (V p.M.E i).d=L.length then Qvn v (i:Int) (zI:Int) t else[ownO v (i:Int) (zI:Int) t]:=⟨_,rfl⟩
 rw[<-ho]at hw
 obtain⟨f1,f2⟩:=hfit ops (by
  rw[ho];split
  .exact .inl rfl
  .exact .inr rfl)
 refine(QB7 h.sys hf hi ht hj hw f1 f2).mono fun⟨x,y,e⟩ ⟨e0,x1,x2,x3⟩=>⟨e0,?_⟩
 dsimp only at x1 x2 x3 |-
 have hT:=x3.pos hi
 refine(QAK x3 .same hi).mono fun⟨y,e⟩ ⟨y0,y1,y2,y3⟩=>⟨y0,?_⟩
 refine(QwA y2 y1 y3 hi hT).mono fun d ⟨d1,d2⟩=>?_
 refine(QAK d1.toFull d2 hi).mono fun⟨z,e⟩ ⟨z0,z1,z2,z3⟩=>⟨z0,?_⟩
 refine(QwA z2 z1 z3 hi hT).mono fun f ⟨g1,g2⟩=>?_
 obtain⟨L',hL'⟩:∃L',L'=L++ops.map (D.m.mk T):=⟨_,rfl⟩
 obtain⟨S',hS'⟩:∃S',S'=zI+ops.length:=⟨_,rfl⟩
 rw[<-hL',<-hS']at g1
 rw[<-hS']at x1
 have hsys:Sys n (j+1) S' E l (D.g.mk x.FR f x.FN):=⟨x1.base,x1.first,x1.ser,x1.lo,x1.hi,x1.el,g1.up.ci⟩
 have elog:(V f.E i).j=L':=g1.ld.log
 have hcom:(V f.E i).d=L'.length:=by
  by_cases g:ops=[]
  .have hC:(V p.M.E i).d=L.length:=by
    refine Bw fun z=>?_
    rw[iA z]at ho
    rw[g]at ho;simp at ho
   have h1:=(x2.trans g2) i hi
   have h2:=g1.up.ci.inv.com_le hi
   have h3:=h1.1
   rw[elog]at h2
   have e:L'=L:=by rw[hL',g];simp
   rw[e]at h2 |-
   omega
  .exact g1.com (by rw[hL'];exact QwV g)
 refine⟨S',L',hsys,g1,.inl hcom,fun _=>hcom,fun g=>?_,fun g=>?_⟩
 all_goals
  have h1:=h.one U
  rw[iB h1]at ho
  have hc1:comV (V p.M.E i)=L.map fun e=>e.Op:=Qqv h.ev.ld.log h1
  have hc2:comV (V f.E i)=comV (V p.M.E i)++ops:=by rw[Qqv elog hcom,hL',Qy6,hc1]
  have hv2:opsV l (comV (V f.E i))=opsV v ops:=by rw[hc2,Qpf,hv]
  have hpg:=hb.inv.small3 (k:=3) hb.ids
  have hin:Qc5 (i:Int) (zI:Int) t:=⟨U,U,U⟩
  dsimp only
  rw[hv2]
  unfold Qvn at ho
 .by_cases go:v.E5=(i:Int)
  .rw[iB go,Qpk hin go U U]at ho
   have hd:=DrG.all (x:=(zI:Int)) (t:=t) hb U U U U ht hun
   rw[ho,hd.cfg.1];exact go
  .rw[iA go]at ho
   rw[ho]
   have e1:=Qq9 (l:=v) (ops:=[]) (o:=ownO v (i:Int) (zI:Int) t)
   rw[BU,QtT]at e1
   rw[e1,QBy (hun _ (Aj _))]
 .have go:v.E5=(i:Int):=by rw[<-hv];exact h.Ta U
  rw[iB go,Qpk hin go U U]at ho
  have hd:=DrG.all (x:=(zI:Int)) (t:=t) hb U U U U ht hun
  rw[ho];exact hd.quiet
end
end
open Go AM
def Qh4:Qdr 1000=some true:=by kernel_rfl
attribute [local irreducible] dueV stepV runV QG answerV opV Zk opsV Qau
def QAY(h:Sys n j zI E l p)(hi:i<n)(hu:V p.M.FP i=false)(hr:(V p.M.E i).FA≠2):Ok (Vf 1000 p (i:Int) t) fun x=>x.2.2=22:=by
 have hlen:=h.ci.len;have hn:=h.ci.sz;have hdn:=h.ci.dn
 unfold Vf
 rw[hlen,Qb (x:=(n:Int) - 1) U]
 exact Ok.oe h.px.ck (Ok.nt rfl (Ok.oe pin (Ok.nt (inn U U) (Ok.A (Ok.bf hu (Ok.A (Ok.p hr (Ok.s rfl))))))))
def QjN(t):WV 1000 t=some true:=by
 refine Ok.eq ?_
 unfold WV
 refine Ok.oe Qy3 (Ok.ncnd (fun _=>Ok.oe Qh4 (Ok.s rfl)) fun hl=>Ok.oe QBI ?_)
 have hL:=Qw1 hl
 refine Ok.opt (Qxa (K:=8) hL dice0 U) fun⟨p,z,d⟩ ⟨hd,n,j,zI,E,l,hp,hj,hse,hz⟩=>?_
 dsimp only at hd hp hz |-
 have hn:=hp.ci.sz
 refine Ok.opt (QtC hp.ci) fun c ⟨hc,hcut⟩=>?_
 rw[hc.ci.len]
 refine Ok.loop (fun m x=>∃(a:Nat) (p:D.g),x=((z,(n:Int),(a:Int),()),p,())/\a<=n/\(Sys n j zI E l p/\p.M.Fg=[]/\∀i,i<a->V p.M.FP i=false)/\m=n - a) (m:=n) U ⟨0,_,rfl,U,⟨⟨hp.base,hp.first,hp.ser,hp.lo,hp.hi,hp.el,hc.ci⟩,hcut,fun i hi=>absurd hi U⟩,rfl⟩ ?_
 clear hp hc hcut
 rintro m x ⟨a,p,rfl,a1,⟨hp,hcut,hup⟩,rfl⟩ K hK
 dsimp only
 have hlen:=hp.ci.len;have hdn:=hp.ci.dn
 refine Ok.ite (fun g=>Ok.TG (fun y=>∃p',y=((z,(n:Int),(a:Int),()),p',())/\Sys n j zI E l p'/\p'.M.Fg=[]/\∀i,i<a+1->V p'.M.FP i=false) (fun y hy=>?_) fun zG hJ=>?_) fun g=>?_
 .obtain⟨p',rfl,hy⟩:=hy
  dsimp only
  rw[Qa U]
  exact hK _ _ U ⟨a+1,p',rfl,U,hy,rfl⟩
 .refine Ok.opt (Qtd hp.ci) fun⟨x,e⟩ ⟨h1,h2⟩=>Ok.ite (fun g2=>hJ _ ⟨_,rfl,?_⟩) fun g2=>hJ _ ⟨_,rfl,hp,hcut,fun i hi=>?_⟩
  .obtain⟨h3,h4,i',hi',ei,h5⟩:=h1 g2
   obtain rfl:i'=a:=U
   refine⟨⟨hp.base,hp.first,hp.ser,hp.lo,hp.hi,hp.el,h3.ci⟩,h4.trans hcut,fun i hi=>?_⟩
   show V x.FP i=false
   dsimp only at h5
   rw[h5]
   by_cases e:i=i'
   .subst e;rw[Ql U]
   .rw[QB e];exact hup i U
  .by_cases e:i=a
   .subst e;exact h2 i U rfl g2
   .exact hup i U
 obtain rfl:a=n:=U
 clear hK K
 rw[hlen]
 refine Ok.loop (fun m x=>∃(i k:Nat),x=((z,(i:Int),p.M.E,(a:Int),(k:Int),()),p,())/\i<a/\k<=a/\m=a - k) (m:=a) U ⟨0,0,rfl,U,U,rfl⟩ ?_
 rintro m x ⟨i,k,rfl,hi,k1,rfl⟩ K hK
 dsimp only
 refine Ok.ite (fun g=>Ok.TG (fun y=>∃i':Nat,y=((z,(i':Int),p.M.E,(a:Int),(k:Int),()),p,())/\i'<a) (fun y hy=>?_) fun zG hJ=>Ok.A (Ok.A (Ok.ite (fun _=>hJ _ ⟨k,rfl,U⟩) fun _=>Ok.ite (fun _=>Ok.ite (fun _=>hJ _ ⟨k,rfl,U⟩) fun _=>hJ _ ⟨i,rfl,hi⟩) fun _=>hJ _ ⟨i,rfl,hi⟩))) fun g=>?_
 .obtain⟨i',rfl,hi'⟩:=hy
  dsimp only
  rw[Qa U]
  exact hK _ _ U ⟨i',k+1,rfl,hi',U,rfl⟩
 clear hK K
 refine Ok.loop (fun m x=>∃(k:Nat) (p:D.g),x=((z,(i:Int),(k:Int),()),p,())/\k<=3/\(Sys a (j+k) zI E l p/\UpC a (j+k) (PO E zI) p.M/\(k=3->(V p.M.E i).FA≠2\/∃T L,Even a (j+k) i T L (PO E zI) p.M/\Xi L≠T))/\m=3 - k) (m:=3) U ⟨0,p,rfl,U,⟨hp,⟨hp.ci,hup,hcut⟩,fun e=>absurd e U⟩,rfl⟩ ?_
 clear hp hup hcut hlen hdn p
 rintro m x ⟨k,p,rfl,k1,⟨hp,hu,hev⟩,rfl⟩ K hK
 dsimp only
 refine Ok.ite (fun g=>?_) fun g=>?_
 .have h1:=hp.step U
  refine Ok.opt (QBP (q:=j+k+1) ⟨h1.ci,hu.up,hu.cut⟩ hi hp.ci.tb) fun⟨x,e⟩ ⟨e0,_,x2,x3⟩=>?_
  obtain rfl:e=0:=e0
  refine Ok.NS ?_
  rw[Qa U]
  exact hK _ _ U ⟨k+1,_,rfl,U,⟨⟨hp.base,hp.first,hp.ser,h1.lo,h1.hi,h1.el,x2.ci⟩,x2,fun _=>x3⟩,rfl⟩
 obtain rfl:k=3:=U
 clear hK K
 rw[Qb U]
 obtain⟨u,hu2⟩:∃u,u=z+5000:=⟨_,rfl⟩
 rw[<-hu2]
 replace hev:=hev rfl
 refine Ok.loop (fun m x=>∃(k:Nat) (p:D.g),x=((u,(i:Int),(k:Int),()),p,())/\k<=4/\((k=0/\Sys a (j+3) zI E l p/\V p.M.FP i=false/\(V p.M.E i).FA≠2)\/∃zI T L,St (min k 3) a (j+3+k) zI i T L E l u p)/\m=4 - k) (m:=4) U ⟨0,p,rfl,U,?_,rfl⟩ ?_
 .rcases hev with e|⟨T,L,e1,e2⟩
  .exact .inl ⟨rfl,hp,hu.up i hi,e⟩
  .exact .inr ⟨zI,T,L,hp,e1,.inr e2,fun g=>absurd g U,fun g=>absurd g U,fun g=>absurd g U⟩
 clear hev hp hu p
 rintro m x ⟨k,p,rfl,k1,hst,rfl⟩ K hK
 dsimp only
 refine Ok.ite (fun g=>?_) fun g=>?_
 .rcases hst with⟨rfl,h1,h2,h3⟩|⟨S',T,L,hst⟩
  .exact Ok.opt (QAY h1 hi h2 h3) fun⟨x,y,e⟩ he=>Ok.p he (Ok.oe Qh4 (Ok.s rfl))
  .refine Ok.opt (hst.round hi U U U) fun⟨x,y,e⟩ ⟨e0,hb⟩=>?_
   obtain rfl:e=0:=e0
   refine Ok.NS (Ok.opt hb fun⟨c1,f1⟩ ⟨f0,hf⟩=>?_)
   obtain rfl:f1=0:=f0
   refine Ok.j (Ok.NS (Ok.NS ?_))
   dsimp only at hf |-
   refine Ok.opt hf fun c2 h2=>Ok.opt h2 fun⟨c3,f3⟩ ⟨f30,h3⟩=>?_
   obtain rfl:f3=0:=f30
   refine Ok.NS (Ok.opt h3 fun c4 ⟨S2,L2,h4⟩=>?_)
   rw[Qa U]
   refine hK _ _ U ⟨k+1,_,rfl,U,.inr ⟨S2,T,L2,?_⟩,rfl⟩
   rw[show min (k+1) 3=min (min k 3+1) 3 by omega]
   exact h4
 .obtain rfl:k=4:=U
  rcases hst with⟨e,_⟩|⟨S',T,L,hst⟩
  .omega
  have h2:=hst.Ta U
  have h3:=hst.three U
  have hb:=hst.sys.behind hi
  obtain⟨b1,b2,b3⟩:=hst.sys.com hi
  refine Ok.oe (QCT hst.sys hi) (Ok.p rfl ?_)
  dsimp only
  obtain⟨v,hv⟩:∃v,v=opsV l (comV (V p.M.E i)):=⟨_,rfl⟩
  rw[<-hv]at h2 h3 hb |-
  have hw:=Qjl (l:=v) (t:=u)
  rw[h3]at hw
  refine Ok.oe ((hb.led U).ownR.waitR u) (Ok.p (by simp at hw;omega) (Ok.p h2 (Ok.oe Qh4 (Ok.t (Ok.s rfl)))))
end Go.Proofs.YtlllfgmajglnhaaGreat
