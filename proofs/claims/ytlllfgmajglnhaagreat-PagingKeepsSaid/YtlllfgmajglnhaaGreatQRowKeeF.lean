/-
  Replicas: what the reference's functions of votes compute.
-/
import Derived.Test.YtlllfgmajglnhaaGreatQRowKeeE
import Derived.Test.YtlllfgmajglnhaaGreatQRowKeeD
set_option maxRecDepth 100000
set_option linter.defProp false
set_option linter.constructorNameAsVariable false
set_option linter.unusedVariables false
set_option linter.unusedSimpArgs false
namespace Go.Proofs.YtlllfgmajglnhaaGreat
open Go AM
section
variable {n fu:Nat} {r:D.N} {m:D.d} {o:D.Op} {L E:Y D.n} {t k x:Int}
def quoV(x:Int):Int:=if inV x 1 5=true then x / 2+1 else 0
def Qh6:XX fu x=some (quoV x):=by
 refine Ok.eq ?_
 unfold XX quoV
 refine Ok.oe rin (Ok.ncnd (fun g=>Ok.s ?_) (fun g=>?_))
 .rw[g];rfl
 .have h:=Qt.1 g
  rw[iB g]
  have e:Int.tdiv x 2=x / 2:=Bz U
  rw[e,Qc (x:=x / 2) U,Qc (x:=x / 2+1) U]
  exact Ok.Z (Ok.s rfl)
def Qoo(h:1<=n/\n<=5):quoV n=((n / 2+1:Nat):Int):=by
 unfold quoV
 rw[iB (Qt.2 U)];omega
def QCZ(h:quoV n≠0):1<=n/\n<=5:=by
 unfold quoV at h
 split at h
 .next g=>have:=Qt.1 g;omega
 .exact absurd rfl h
def Qw2(hl:L.length<=900):Ok (Wg 1000 L t) fun b=>b=true->L.length<=256:=by
 unfold Wg
 refine Ok.loop (fun m x=>∃(i:Nat) (z:Int),x=((L,t,z,(i:Int),()),())/\i<=L.length/\m=L.length - i) (m:=L.length) U ⟨0,1,rfl,U,rfl⟩ ?_
 rintro m x ⟨i,z,rfl,h1,rfl⟩ K hK
 dsimp only
 refine Ok.ite (fun g=>Ok.j ?_) (fun g=>Ok.s fun h=>by have:=BE h;omega)
 have hi:i<L.length:=U
 refine Ok.atn hi (Ok.ite (fun _=>Ok.s Ob) fun _=>Ok.atn hi (Ok.ite (fun _=>Ok.s Ob) fun _=>?_))
 dsimp only
 refine Ok.atn hi ?_
 rw[Qa U]
 exact hK _ _ U ⟨i+1,_,rfl,U,rfl⟩
structure CkR (n:Nat) (r:D.N):Prop where
 sz:1<=n/\n<=5
 id:0<=r.S/\r.S<n
 term:0<=r.T/\r.T<=1048576
 log:r.l.length<=256
 com:0<=r.h/\r.h<=r.l.length
 vote:r.FS.length<=5
 cand:r.FJ=1->r.FS.length=n
 mat:r.FE.length<=5
 ldr:r.FJ=2->r.FE.length=n/\∀j,j<n->0<=O r.FE j/\O r.FE j<=r.l.length
def QwF(hl:r.l.length<=900):Ok (YJ 1000 n r) fun b=>b=true->CkR n r:=by
 unfold YJ
 have no:∀{Q:Prop},false=true->Q:=fun h=>by simp at h
 refine Ok.j (Ok.oe Qh6 (Ok.ite (fun g=>Ok.s no) fun g=>?_))
 have hn:=QCZ g
 rw[Qc (x:=(n:Int) - 1) U]
 refine Ok.oe rin (Ok.J (fun g1=>?_) fun _=>Ok.s no)
 refine Ok.oe rin (Ok.J (fun g2=>?_) fun _=>Ok.s no)
 refine Ok.oe rin (Ok.J (fun g3=>?_) fun _=>Ok.s no)
 refine Ok.opt (Qw2 hl) fun b hb=>Ok.J (fun g4=>?_) fun _=>Ok.s no
 refine Ok.oe rin (Ok.J (fun g5=>?_) fun _=>Ok.s no)
 have h1:=Qt.1 g1;have h2:=Qt.1 g2;have h5:=Qt.1 g5;have h4:=hb g4
 dsimp only
 refine Ok.ite (fun r0=>Ok.ite (fun v0=>Ok.ite (fun m0=>Ok.s fun _=>?_) fun _=>Ok.s no) fun _=>Ok.s no) fun r0=>Ok.ite (fun r1=>Ok.ite (fun v1=>Ok.at U U (Ok.J (fun _=>Ok.ite (fun m1=>Ok.s fun _=>?_) fun _=>Ok.s no) fun _=>Ok.s no)) fun _=>Ok.s no) fun r1=>Ok.ite (fun r2=>?_) fun _=>Ok.s no
 .exact⟨hn,U,U,h4,U,U,fun e=>U,U,fun e=>U⟩
 .exact⟨hn,U,U,h4,U,U,fun e=>U,U,fun e=>U⟩
 .refine Ok.j (Ok.ite (fun _=>Ok.s no) fun v2=>Ok.at U U (Ok.J (fun _=>Ok.ite (fun _=>Ok.s no) fun m2=>Ok.at U U (Ok.ite (fun _=>Ok.s no) fun _=>?_)) fun _=>Ok.s no))
  dsimp only
  refine Ok.loop (fun m x=>∃i:Nat,x=(((n:Int),(i:Int),()),r,())/\i<=n/\(∀j,j<i->0<=O r.FE j/\O r.FE j<=r.l.length)/\m=n - i) (m:=n) U ⟨0,rfl,U,fun j hj=>U,rfl⟩ ?_
  rintro m x ⟨i,rfl,i1,i2,rfl⟩ K hK
  dsimp only
  refine Ok.ite (fun g=>Ok.A (Ok.oe rin (Ok.ncnd (fun _=>Ok.s no) fun g6=>?_))) fun g=>Ok.s fun _=>?_
  .rw[Qa U]
   have h6:=Qt.1 g6
   exact hK _ _ U ⟨i+1,rfl,U,fun j hj=>by
    by_cases e:j=i
    .subst e;exact h6
    .exact i2 j U,rfl⟩
  .exact⟨hn,U,U,h4,U,U,fun e=>U,U,fun _=>⟨U,fun j hj=>i2 j U⟩⟩
def CkR.copy(h:CkR n r):Wf fu r=some r:=by
 have h1:=h.log;have h2:=h.vote;have h3:=h.mat
 exact Ok.eq (Ok.L (Ok.L (Ok.L (Ok.s rfl))))
def CkR.copyP(h:CkR n r):QdW fu r=some r:=h.copy (fu:=fu)
def Qt5:Qau fu r t=some (folV r t):=by
 refine Ok.eq ?_
 unfold Qau folV
 refine Ok.j (Ok.ite (fun g=>Ok.s ?_) fun g=>Ok.s ?_)
 .rw[iB g]
 .rw[iA g]
def Qxm(hn:n<=5)(hid:0<=r.S/\r.S<n):Qjc fu n r=some (QhT n r):=by
 refine Ok.eq ?_
 unfold Qjc
 exact Ok.natn (Ok.L (Ok.nat hid.1 (Ok.lt (by simp;omega) (Ok.get (by simp;omega) (Ok.s rfl)))))
def Qpl(hl:r.l.length<=900):QeG fu r=some (VZ r.l):=by
 refine Ok.eq ?_
 unfold QeG
 rw[Qzt]
 refine Ok.ite (fun g=>Ok.s (by rw[iB U])) fun g=>?_
 rw[Qc U]
 refine Ok.at U U (Ok.s ?_)
 simp_all
def Qze(hl:r.l.length<=900):QdX fu r m.FA m.Fc=some (decide (Qrj r m)):=by
 refine Ok.eq ?_
 unfold QdX
 refine Ok.oe (Qpl hl) (Ok.ite (fun g=>Ok.s ?_) fun g=>Ok.oe (Qpl hl) (Ok.ite (fun g2=>Ok.ite (fun g3=>Ok.s ?_) fun g3=>Ok.s ?_) fun g2=>Ok.s ?_))
 all_goals simp[*,Qrj]
structure CkM (n:Nat) (r:D.N) (m:D.d) (k:Int):Prop where
 rep:CkR n r
 kind:m.Z=k
 to:m.To=r.S
 from0:0<=m.v/\m.v<n
 ne:m.v≠r.S
 term:1<=m.T/\m.T<=1048576
def AM.Ok.self{α:Type}{o:I α}{Q:α->Prop}(h:Ok o Q):Ok o fun x=>Q x/\o=some x:=by obtain⟨v,e,q⟩:=h;exact⟨v,e,q,e⟩
def Qz9(hl:r.l.length<=900):Ok (Qbr 1000 n r m k) fun b=>b=true->CkM n r m k:=by
 unfold Qbr
 have no:∀{Q:Prop},false=true->Q:=fun h=>by simp at h
 refine Ok.opt (QwF hl) fun b hb=>Ok.J (fun g=>?_) fun _=>Ok.s no
 have hc:=hb g
 have hn:=hc.sz
 rw[Qc (x:=(n:Int) - 1) U]
 refine Ok.ite (fun g1=>Ok.ite (fun g2=>Ok.oe rin (Ok.J (fun g3=>Ok.ite (fun g4=>Ok.oe rin (Ok.J (fun g5=>Ok.s fun _=>?_) fun _=>Ok.s no)) fun _=>Ok.s no) fun _=>Ok.s no)) fun _=>Ok.s no) fun _=>Ok.s no
 have h3:=Qt.1 g3
 exact⟨hc,g1,g2,U,g4,Qt.1 g5⟩
def outM(x:D.N×D.d×AH):D.N×I D.d:=(x.1,if x.2.2=true then some x.2.1 else none)
def QBC(hc:CkR n r):Ok (Qli 1000 n r m) fun x=>∃b,(b=true->CkM n r m 1)/\(outM x=if b=false then(r,none)else((QbG r m).1,some (QbG r m).2))/\Qbr 1000 n r m 1=some b:=by
 have hl:r.l.length<=900:=by have:=hc.log;omega
 unfold Qli
 refine Ok.opt (Qz9 hl).self fun b ⟨hb,hto⟩=>Ok.ncnd (fun g=>Ok.oe hc.copy (Ok.s ⟨false,Ob,rfl,by rw[hto,g]⟩)) fun g=>Ok.oe hc.copyP (Ok.oe Qt5 ?_)
 have hf:(folV r m.T).l.length<=900:=by rw[Qk3];exact hl
 refine Ok.TG (fun y=>∃w w',y=((yesV (folV r m.T) m,()),r,m,w,w',folV r m.T,())) (fun y hy=>?_) fun zG hJ=>?_
 .obtain⟨w,w',rfl⟩:=hy
  dsimp only
  refine Ok.TG (fun y=>∃w w',y=((yesV (folV r m.T) m,()),r,m,w,w',(QbG r m).1,())) (fun y hy=>?_) fun zG hJ=>?_
  .obtain⟨w,w',rfl⟩:=hy
   refine Ok.s ⟨true,fun _=>hb g,?_,by rw[hto,g]⟩
   have:(QbG r m).1.T=(folV r m.T).T:=by unfold QbG;simp only;split<;>rfl
   simp only[outM,this];rfl
  .refine Ok.J (fun g=>hJ _ ⟨w,w',?_⟩) fun g=>hJ _ ⟨w,w',?_⟩
   .simp[QbG,g]
   .simp[QbG,g]
 .have yes:∀{c:AH} {w:D.N} {w':D.d},yesV (folV r m.T) m=c->Ok (zG ((c,()),r,m,w,w',folV r m.T,())) fun x=>∃b,(b=true->CkM n r m 1)/\(outM x=if b=false then(r,none)else((QbG r m).1,some (QbG r m).2))/\Qbr 1000 n r m 1=some b:=fun h=>hJ _ ⟨_,_,by rw[h]⟩
  have fr:∀{w:D.N} {w':D.d},(folV r m.T).T=m.T->((folV r m.T).Fe = -1\/(folV r m.T).Fe=m.v)->(folV r m.T).FJ=0->Ok (V (QdX 1000 (folV r m.T) m.FA m.Fc) fun c=>J c (zG ((true,()),r,m,w,w',folV r m.T,())) (zG ((false,()),r,m,w,w',folV r m.T,()))) fun x=>∃b,(b=true->CkM n r m 1)/\(outM x=if b=false then(r,none)else((QbG r m).1,some (QbG r m).2))/\Qbr 1000 n r m 1=some b:=fun h1 h2 h3=>Ok.oe (Qze hf) (Ok.J (fun g=>yes (Ax ⟨h1,h2,h3,BE g⟩)) fun g=>yes (Au fun h=>BG g h.2.2.2))
  refine Ok.ite (fun g1=>Ok.ite (fun g2=>Ok.ite (fun g4=>fr g1 (.inl g2) g4) fun g4=>yes (Au fun h=>g4 h.2.2.1)) fun g2=>Ok.ite (fun g3=>Ok.ite (fun g4=>fr g1 (.inr g3) g4) fun g4=>yes (Au fun h=>g4 h.2.2.1)) fun g3=>yes (Au fun h=>h.2.1.elim g2 g3)) fun g1=>yes (Au fun h=>g1 h.1)
def Vm{P:Nat->AH}{i:Nat}:(List.range (i+1)).countP P=(List.range i).countP P+(if P i=true then 1 else 0):=by
 rw[List.range_succ,List.countP_append];simp[List.countP_cons]
def QfE{P:Nat->AH}{i:Nat}:(List.range i).countP P<=i:=by
 have:=List.countP_le_length (p:=P) (l:=List.range i);simpa using this
def QAg(hc:CkR n r):Ok (Qjb 1000 n r m) fun x=>∃b,(b=true->CkM n r m 2)/\(x=if b=false then r else Qae n r m)/\Qbr 1000 n r m 2=some b:=by
 have hl:r.l.length<=900:=by have:=hc.log;omega
 have hn:=hc.sz
 unfold Qjb
 refine Ok.oe hc.copy (Ok.opt (Qz9 hl).self fun b ⟨hb,hto⟩=>Ok.ncnd (fun g=>Ok.s ⟨false,Ob,rfl,by rw[hto,g]⟩) fun g=>?_)
 have hm:=hb g
 have fin:∀y,y=Qae n r m->∃b,(b=true->CkM n r m 2)/\(y=if b=false then r else Qae n r m)/\Qbr 1000 n r m 2=some b:=fun y h=>⟨true,fun _=>hm,by rw[h];rfl,by rw[hto,g]⟩
 refine Ok.ite (fun g1=>Ok.oe Qt5 (Ok.s (fin _ (by unfold Qae;rw[iB g1])))) fun g1=>Ok.j (Ok.ite (fun g2=>Ok.s (fin _ (by unfold Qae;rw[iA g1,iB (.inl g2)]))) fun g2=>Ok.ite (fun g3=>Ok.s (fin _ (by unfold Qae;rw[iA g1,iB (.inr (.inl g3))]))) fun g3=>Ok.J (fun g4=>?_) fun g4=>Ok.s (fin _ (by unfold Qae;rw[iA g1,iB (.inr (.inr g4))])))
 have e2:r.FJ=1:=Ag.1 g2
 have e3:m.T=r.T:=Ag.1 g3
 have hv:=hc.cand e2
 have hfm:=hm.from0
 dsimp only
 refine Ok.nat hfm.1 (Ok.E (Ok.G ?_))
 obtain⟨zC,hV⟩:∃zC,zC=r.FS.set m.v.toNat true:=⟨_,rfl⟩
 have hVl:zC.length=n:=by rw[hV,CM];exact hv
 rw[<-hV]
 have hres:Qae n r m=if n / 2+1<=(List.range n).countP (fun j=>O zC j)then QhT n { r with FS:=zC }else{ r with FS:=zC }:=by
  unfold Qae
  rw[iA g1,iA (by simp[e2,e3,g4]),<-hV]
 refine Ok.run n (fun i=>(((n:Int),(((List.range i).countP fun j=>O zC j:Nat):Int),(i:Int),()),D.N.mk 0 0 0 0 [] 0 [] [],(r.S,r.T,r.Fe,r.FJ,r.h,()),r.l,zC,r.FE,())) rfl U (fun i hi K hK=>?_) (fun K=>?_)
 .have hcl:=QfE (P:=fun j=>O zC j) (i:=i)
  dsimp only
  refine Ok.P (Ok.j (Ok.natn (Ok.E (Ok.G (Ok.J (fun g5=>?_) fun g5=>?_)))))
  .dsimp only at hK |-
   rw[Vm,iB g5]at hK
   rw[Qa U,Qa U]
   exact hK
  .dsimp only at hK |-
   rw[Vm,iA (by simp[g5])]at hK
   rw[Qa U]
   exact hK
 .dsimp only
  refine Ok.N (Ok.j (Ok.oe Qh6 ?_))
  rw[Qoo hn]
  refine Ok.ite (fun g5=>Ok.oe (Qxm (r:=D.N.mk r.S r.T r.Fe r.FJ r.l r.h zC r.FE) hn.2 hc.id) (Ok.s (fin _ ?_))) fun g5=>Ok.s (fin _ ?_)
  .rw[hres,iB U]
  .rw[hres,iA U]
def Qz0(hl:r.l.length<=900):Ok (Qi9 1000 n r) fun x=>(x.2.2=0->CkR n r/\r.T<1048576/\x.1=(if n / 2+1=1 then QhT n (VQ n r)else VQ n r)/\x.2.1.length<=5/\(∀m∈x.2.1,m.Z=1/\m.v=r.S/\0<=m.To/\m.To<n/\m.T=r.T+1/\m.FA=r.l.length/\m.Fc=VZ r.l/\m.x=[]/\m.To≠r.S)/\∀j:Nat,j<n->(j:Int)≠r.S->∃m∈x.2.1,m.To=j)/\(YJ 1000 n r=some true->r.T<1048576->x.2.2=0):=by
 unfold Qi9
 refine Ok.opt (QwF hl).self fun b ⟨hb,hbe⟩=>Ok.ncnd (fun g=>Ok.s ⟨fun e=>by simp at e,fun e=>by rw[hbe,g]at e;simp at e⟩) fun g=>Ok.ite (fun g1=>Ok.s ⟨fun e=>by simp at e,fun _ e=>U⟩) fun g1=>?_
 have hc:=hb g
 have hn:=hc.sz;have hid:=hc.id;have ht:=hc.term
 refine Ok.oe hc.copy (Ok.natn (Ok.L (Ok.nat hid.1 (Ok.lt (by simp;omega) (Ok.get (by simp;omega) ?_)))))
 rw[Qc (x:=r.T+1) U]
 refine Ok.TG (fun y=>∃R z,y=(((n:Int),()),r,z,R,())/\R.T=r.T+1/\R=(if n / 2+1=1 then QhT n (VQ n r)else VQ n r)) (fun y hy=>?_) fun zG hJ=>Ok.oe Qh6 (by
  rw[Qoo hn]
  exact Ok.ite (fun g2=>Ok.oe (Qxm (r:=VQ n r) hn.2 hid) (hJ _ ⟨_,_,rfl,rfl,by rw[iB U]⟩)) fun g2=>hJ _ ⟨_,_,rfl,rfl,by rw[iA U];rfl⟩)
 obtain⟨R,z,rfl,hR,hR2⟩:=hy
 dsimp only
 refine Ok.loop (fun m x=>∃(i:Nat) (zC:Y D.d),x=(((n:Int),(i:Int),()),r,z,R,zC,())/\i<=n/\zC.length<=i/\((∀m∈zC,m.Z=1/\m.v=r.S/\0<=m.To/\m.To<n/\m.T=r.T+1/\m.FA=r.l.length/\m.Fc=VZ r.l/\m.x=[]/\m.To≠r.S)/\∀j:Nat,j<i->(j:Int)≠r.S->∃m∈zC,m.To=j)/\m=n - i) (m:=n) U ⟨0,[],rfl,U,Ob,⟨Ob,fun j hj=>absurd hj U⟩,rfl⟩ ?_
 rintro m x ⟨i,zC,rfl,i1,i2,⟨i3,i4⟩,rfl⟩ K hK
 dsimp only
 refine Ok.ite (fun g=>Ok.j (Ok.ite (fun g2=>Ok.oe (Qpl hl) (Ok.LS ?_)) fun g2=>?_)) fun g=>Ok.s ⟨fun _=>⟨hc,U,hR2,by dsimp only;omega,i3,fun j hj=>i4 j U⟩,fun _ _=>rfl⟩
 .dsimp only
  rw[Qa U]
  refine hK _ _ U ⟨i+1,_,rfl,U,by simp;omega,⟨fun m hm=>?_,fun j hj hne=>?_⟩,rfl⟩
  .rcases Ah.1 hm with hm|hm
   .exact i3 m hm
   .rw[Ae.1 hm];exact⟨rfl,rfl,by dsimp only;omega,by dsimp only;omega,hR,rfl,rfl,rfl,g2⟩
  .by_cases e:j=i
   .subst e;exact⟨_,Ah.2 (.inr (Ae.2 rfl)),rfl⟩
   .obtain⟨m,m1,m2⟩:=i4 j U hne
    exact⟨m,Ah.2 (.inl m1),m2⟩
 .dsimp only
  rw[Qa U]
  exact hK _ _ U ⟨i+1,_,rfl,U,U,⟨i3,fun j hj hne=>i4 j U hne⟩,rfl⟩
end
end Go.Proofs.YtlllfgmajglnhaaGreat
set_option autoImplicit true
set_option relaxedAutoImplicit true
namespace Go.Proofs.YtlllfgmajglnhaaGreat
open Go AM
section
section
def QvE(h:i<=Vi L E)(h1:i<L.length)(h2:i<E.length)(h3:trm L i=trm E i):i+1<=Vi L E:=by
 rcases BC i (Vi L E)with g|g
 .exact g
 .have e:Vi L E=i:=U
  rcases Qm0 (L:=L) (E:=E) U with y|y
  .omega
  .simp_all
def QvF(h:i<=Vi L E)(h2:i<E.length)(h3:L.length<=i\/trm L i≠trm E i):Vi L E=i:=by
 have h4:=(QeS (L:=L) (E:=E)).2
 rcases BC i (Vi L E)with g|g
 .rcases h3 with y|y
  .omega
  .exact absurd (Qm1 g) y
 .omega
def Qxe{L E:Y D.n}{p:Nat}(hl:L.length<=900)(he:E.length<=900)(hp:p<=L.length):Qg5 1000 L (p:Int) E=some ((QcJ L p E).1,((QcJ L p E).2:Int)):=by
 have hdl:(L.drop p).length=L.length - p:=Ob
 have stop:∀{i:Nat},i<E.length->i<=Vi (L.drop p) E->((L.drop p).length<=i\/trm (L.drop p) i≠trm E i)->QcJ L p E=(L.take (p+i)++E.drop i,p+i)/\p+i<=L.length:=fun{i} h1 h2 h3=>by
  have e:=QvF h2 h1 h3
  have h4:=(QeS (L:=L.drop p) (E:=E)).2
  unfold QcJ
  grind
 refine Ok.eq ?_
 unfold Qg5
 refine Ok.loop (fun m x=>∃i:Nat,x=((L,(p:Int),E,(i:Int),()),())/\i<=E.length/\i<=Vi (L.drop p) E/\m=E.length - i) (m:=E.length) U ⟨0,rfl,U,U,rfl⟩ ?_
 rintro m x ⟨i,rfl,i1,i2,rfl⟩ K hK
 dsimp only
 have hs:=(QeS (L:=L.drop p) (E:=E)).2
 refine Ok.ite (fun g=>?_) (fun g=>?_)
 .rw[Qc (x:=(p:Int)+i) U]
  refine Ok.j (Ok.ite (fun g2=>?_) fun g2=>?_)
  .obtain⟨e,e2⟩:=stop (i:=i) U i2 (.inl U)
   have e3:min ((p:Int)+i) (L.length:Int)=((p+i:Nat):Int):=U
   rw[e3,e]
   exact Ok.natn (Ok.TO e2 (Ok.LS (Ok.natn (Ok.L (Ok.LS (Ok.s rfl))))))
  .refine Ok.at U U (Ok.A ?_)
   have et:(O L ((p:Int)+i).toNat).T=trm (L.drop p) i:=by
    rw[Qqr];show(O L _).T=(O L _).T;congr 2<;>omega
   rw[et]
   refine Ok.ite (fun g3=>?_) fun g3=>?_
   .obtain⟨e,e2⟩:=stop (i:=i) U i2 (.inr g3)
    have e3:min ((p:Int)+i) (L.length:Int)=((p+i:Nat):Int):=U
    rw[e3,e]
    exact Ok.natn (Ok.TO e2 (Ok.LS (Ok.natn (Ok.L (Ok.LS (Ok.s rfl))))))
   .dsimp only
    rw[Qa U]
    exact hK _ _ U ⟨i+1,rfl,U,QvE i2 U U (Ag.1 g3),rfl⟩
 .have e:QcJ L p E=(L,L.length):=by
   have:=(QeS (L:=L.drop p) (E:=E)).1
   unfold QcJ;rw[iB U]
  rw[e]
  exact Ok.L (Ok.s rfl)
def Qv8(hc:CkR n r)(he:m.x.length<=600):Ok (Qg4 1000 n r m) fun x=>∃b c,(b=true->CkM n r m 3)/\outM x=Ur b c r m/\Qbr 1000 n r m 3=some b/\(c=false->Wg 1000 (QcJ (hrdV r m).l m.FA.toNat m.x).1 m.T=some false):=by
 have hl:r.l.length<=256:=hc.log
 unfold Qg4
 refine Ok.j (Ok.opt (Qz9 U).self fun b ⟨hb,hto⟩=>?_)
 have none:∀{z:D.d},(b=false\/m.FA<0\/m.Fc<0\/m.h<0)->Ok (V (Wf 1000 r) fun a=>some (a,z,false)) fun x=>∃b c,(b=true->CkM n r m 3)/\outM x=Ur b c r m/\Qbr 1000 n r m 3=some b/\(c=false->Wg 1000 (QcJ (hrdV r m).l m.FA.toNat m.x).1 m.T=some false):=fun{z} hn=>Ok.oe hc.copy (Ok.s ⟨b,true,hb,by unfold Ur;rw[iB hn];rfl,hto,Ob⟩)
 refine Ok.J (fun g=>?_) fun g=>none (.inl g)
 have hm:=hb g
 rw[g]at hto
 refine Ok.ite (fun z=>none (.inr (.inl z))) fun p1=>Ok.ite (fun z=>none (.inr (.inr (.inl z)))) fun p2=>Ok.ite (fun z=>none (.inr (.inr (.inr z)))) fun p3=>?_
 dsimp only
 have hn0:¬(true=false\/m.FA<0\/m.Fc<0\/m.h<0):=by simp;omega
 refine Ok.oe hc.copyP (Ok.oe Qt5 (Ok.TG (fun y=>∃w w',y=((),r,m,w,w',hrdV r m,())) (fun y hy=>?_) fun zG hJ=>?_))
 .obtain⟨w,w',rfl⟩:=hy
  dsimp only
  obtain⟨z,hz⟩:∃z,z=hrdV r m:=⟨_,rfl⟩
  have hzl:z.l.length=r.l.length:=by rw[hz,Qk6.2]
  rw[<-hz]
  clear hb none
  refine Ok.TG (fun y=>∃b w w',y=((b,()),r,m,w,w',z,())/\(b=true↔(m.T=z.T/\z.FJ≠2/\m.FA<=z.l.length/\(m.FA=0\/trm z.l (m.FA.toNat - 1)=m.Fc)))) (fun y hy=>?_) fun zG hJ=>?_
  .obtain⟨b,w,w',rfl,hb⟩:=hy
   dsimp only
   refine Ok.ncnd (fun g=>Ok.s ⟨true,true,fun _=>hm,?_,hto,Ob⟩) fun g=>?_
   .unfold Ur
    rw[iA hn0,<-hz,iA (fun h=>by rw[hb.2 h]at g;simp at g)];rfl
   .have hon:=hb.1 g
    have hj:=Qxe (p:=m.FA.toNat) (L:=z.l) (E:=m.x) U U U
    rw[show(m.FA.toNat:Int)=m.FA by omega]at hj
    have hjl:(QcJ z.l m.FA.toNat m.x).1.length<=900:=by
     unfold QcJ;split
     .dsimp only;omega
     .have:=(QeS (L:=z.l.drop m.FA.toNat) (E:=m.x)).1
      simp;omega
    refine Ok.oe hj (Ok.j (Ok.opt (Qw2 hjl).self fun c ⟨_,hft⟩=>Ok.J (fun g2=>Ok.ite (fun g3=>Ok.oe hc.copy (Ok.s ⟨true,true,fun _=>hm,?_,hto,Ob⟩)) fun g3=>Ok.s ⟨true,true,fun _=>hm,?_,hto,Ob⟩) fun g2=>Ok.oe hc.copy (Ok.s ⟨true,false,fun _=>hm,?_,hto,fun _=>by rw[hft,g2]⟩)))
    .unfold Ur
     rw[iA hn0,<-hz,iB hon,iB (.inr g3)];rfl
    .unfold Ur
     simp only[outM,if_true]
     rw[iA hn0,<-hz,iB hon,iA (by simp;omega),Qc U]
    .unfold Ur
     rw[iA hn0,<-hz,iB hon,iB (.inl rfl)];rfl
  .refine Ok.ite (fun g1=>Ok.ite (fun g2=>Ok.ite (fun g3=>Ok.ite (fun g4=>hJ _ ⟨_,_,_,rfl,by simp[g1,g2,g3,g4]⟩) fun g4=>?_) fun g3=>hJ _ ⟨_,_,_,rfl,by simp[g3]⟩) fun g2=>hJ _ ⟨_,_,_,rfl,by simp[g2]⟩) fun g1=>hJ _ ⟨_,_,_,rfl,by simp[g1]⟩
   rw[Qc U]
   refine Ok.at U U ?_
   have et:(O z.l (m.FA - 1).toNat).T=trm z.l (m.FA.toNat - 1):=by
    show(O z.l _).T=(O z.l _).T
    congr 2;omega
   rw[et]
   exact Ok.ite (fun g5=>hJ _ ⟨_,_,_,rfl,by simp[g1,g2,g3,g5]⟩) fun g5=>hJ _ ⟨_,_,_,rfl,by simp[g4,g5]⟩
 .exact Ok.ite (fun a=>Ok.ite (fun b=>hJ _ ⟨_,_,by simp[hrdV,a,b];exact⟨rfl,rfl⟩⟩) fun b=>hJ _ ⟨_,_,by simp[hrdV,a,b];exact⟨rfl,rfl⟩⟩) fun a=>hJ _ ⟨_,_,by simp[hrdV,a];exact⟨rfl,rfl⟩⟩
def Qyq(h:lo<k)(hp:P k=false):topV P lo k=topV P lo (k - 1):=by
 obtain⟨k,rfl⟩:∃j,k=j+1:=⟨k - 1,U⟩
 conv=>lhs;unfold topV
 rw[iB h,hp];rfl
def QAb(h:lo<k)(hp:P k=true):topV P lo k=k:=by
 obtain⟨k,rfl⟩:∃j,k=j+1:=⟨k - 1,U⟩
 unfold topV
 rw[iB h,hp];rfl
def QAa(h:k<=lo):topV P lo k=lo:=by
 cases k with
 |zero=>rfl
 |succ k=>unfold topV;rw[iA U]
def QyJ(hc:CkR n r):Ok (Qc7 1000 n r m) fun x=>∃b,(b=true->CkM n r m 4)/\(x=if b=false then r else QaL n r m)/\Qbr 1000 n r m 4=some b:=by
 have hl:r.l.length<=256:=hc.log
 have hn:=hc.sz;have hcom:=hc.com
 unfold Qc7
 refine Ok.oe hc.copy (Ok.opt (Qz9 U).self fun b ⟨hb,hto⟩=>Ok.ncnd (fun g=>Ok.s ⟨false,Ob,rfl,by rw[hto,g]⟩) fun g=>?_)
 have hm:=hb g
 have fin:∀y,y=QaL n r m->∃b,(b=true->CkM n r m 4)/\(y=if b=false then r else QaL n r m)/\Qbr 1000 n r m 4=some b:=fun y h=>⟨true,fun _=>hm,by rw[h];rfl,by rw[hto,g]⟩
 have nop:∀{h:r.FJ≠2\/m.T≠r.T\/m.OK=false\/m.FA<0\/(r.l.length:Int)<m.FA},¬r.T<m.T->r=QaL n r m:=fun{h} g=>by unfold QaL;rw[iA g,iB h]
 refine Ok.ite (fun g1=>Ok.oe Qt5 (Ok.s (fin _ (by unfold QaL;rw[iB g1])))) fun g1=>Ok.j (Ok.ite (fun g2=>Ok.s (fin _ (nop (h:=.inl g2) g1))) fun g2=>Ok.ite (fun g3=>Ok.s (fin _ (nop (h:=.inr (.inl g3)) g1))) fun g3=>Ok.J (fun g4=>Ok.oe rin (Ok.J (fun g5=>?_) fun g5=>Ok.s (fin _ (nop (h:=?_) g1)))) fun g4=>Ok.s (fin _ (nop (h:=.inr (.inr (.inl g4))) g1)))
 rotate_left
 .refine .inr (.inr (.inr ?_))
  rcases Int.lt_or_le m.FA 0 with z|z
  .exact .inl z
  .rcases Int.lt_or_le (r.l.length:Int) m.FA with y|y
   .exact .inr y
   .rw[Qt.2 ⟨z,y⟩]at g5;simp at g5
 have h5:=Qt.1 g5
 obtain⟨hml,_⟩:=hc.ldr (Ag.1 g2)
 have hfm:=hm.from0
 dsimp only
 refine Ok.nat hfm.1 (Ok.E (Ok.G (Ok.nat hfm.1 (Ok.E (Ok.G ?_)))))
 have eM:r.FE.set m.v.toNat (max (O r.FE m.v.toNat) m.FA)=Qch r m:=rfl
 rw[eM]
 obtain⟨M,hM⟩:∃M,M=Qch r m:=⟨_,rfl⟩
 have hMl:M.length=n:=by rw[hM];unfold Qch;rw[List.length_set];exact hml
 rw[<-hM]
 have hres:∀c:Int,c=(topV (Qj9 n r M) r.h.toNat r.l.length:Nat)->D.N.mk r.S r.T r.Fe r.FJ r.l c r.FS M=QaL n r m:=fun c h=>by
  unfold QaL
  rw[iA g1,iA (by simp[Ag.1 g2,Ag.1 g3,g4];omega),<-hM,h]
 refine Ok.TG (fun y=>∃w c,y=((),w,(r.S,r.T,r.Fe,r.FJ,c,()),r.l,r.FS,M,())/\c=((topV (Qj9 n r M) r.h.toNat r.l.length:Nat):Int)) (fun y hy=>?_) fun zG hJ=>?_
 .obtain⟨w,c,rfl,h⟩:=hy
  exact Ok.s (fin _ (hres c h))
 .refine Ok.loop (fun q x=>∃i:Nat,x=(((n:Int),(i:Int),()),D.N.mk 0 0 0 0 [] 0 [] [],(r.S,r.T,r.Fe,r.FJ,r.h,()),r.l,r.FS,M,())/\i<=r.l.length/\topV (Qj9 n r M) r.h.toNat r.l.length=topV (Qj9 n r M) r.h.toNat i/\q=i) (m:=r.l.length) U ⟨r.l.length,rfl,U,rfl,rfl⟩ ?_
  rintro q x ⟨i,rfl,i1,i2,hq⟩ K hK
  dsimp only
  refine Ok.ite (fun g6=>?_) fun g6=>hJ _ ⟨_,_,rfl,by rw[i2,QAa U];omega⟩
  refine Ok.TG (fun y=>y=(((n:Int),(i:Int),()),D.N.mk 0 0 0 0 [] 0 [] [],(r.S,r.T,r.Fe,r.FJ,r.h,()),r.l,r.FS,M,())/\Qj9 n r M i=false) (fun y hy=>?_) fun J2 hJ2=>?_
  .obtain⟨rfl,hs⟩:=hy
   dsimp only
   rw[Qc U]
   exact hK (i - 1) _ U ⟨i - 1,by rw[show((i - 1:Nat):Int)=(i:Int) - 1 by omega],U,by rw[i2,Qyq U hs],rfl⟩
  .refine Ok.run n (fun j=>(((n:Int),(i:Int),(((List.range j).countP fun k=>decide ((i:Int)<=O M k):Nat):Int),(j:Int),()),D.N.mk 0 0 0 0 [] 0 [] [],(r.S,r.T,r.Fe,r.FJ,r.h,()),r.l,r.FS,M,())) rfl U (fun j hj K2 hK2=>?_) (fun K2=>?_)
   .have hcl:=QfE (P:=fun k=>decide ((i:Int)<=O M k)) (i:=j)
    dsimp only
    refine Ok.P (Ok.j (Ok.natn (Ok.E (Ok.G (Ok.ite (fun g7=>?_) fun g7=>?_)))))
    .dsimp only at hK2 |-
     rw[Vm,iB (Ax g7)]at hK2
     rw[Qa U,Qa U]
     exact hK2
    .dsimp only at hK2 |-
     rw[Vm,iA (by simpa using g7)]at hK2
     rw[Qa U]
     exact hK2
   .dsimp only
    refine Ok.N (Ok.oe Qh6 ?_)
    rw[Qoo hn]
    refine Ok.ite (fun g7=>?_) fun g7=>hJ2 _ ⟨rfl,?_⟩
    .rw[Qc U]
     refine Ok.nat U (Ok.E (Ok.G ?_))
     have et:(O r.l ((i:Int) - 1).toNat).T=trm r.l (i - 1):=by
      show(O r.l _).T=(O r.l _).T
      congr 2;omega
     rw[et]
     refine Ok.ite (fun g8=>hJ _ ⟨_,_,rfl,?_⟩) fun g8=>hJ2 _ ⟨rfl,?_⟩
     .rw[i2,QAb U (by unfold Qj9;simp[g8];omega)]
     .unfold Qj9;simp[g8]
    .unfold Qj9;simp;omega
def QB0{n:Nat}{r:D.N}{o:D.Op}(hl:r.l.length<=900):Ok (QeI 1000 n r o) fun x=>x.2=0->CkR n r/\x.1=prpV n r o/\r.FJ=2/\∀e∈r.l,e.Op.S≠o.S:=by
 unfold QeI
 refine Ok.opt (QwF hl) fun b hb=>Ok.ncnd (fun _=>Ok.s fun e=>by simp at e) fun g=>Ok.ite (fun _=>Ok.s fun e=>by simp at e) fun g1=>?_
 have hc:=hb g
 have hn:=hc.sz;have hid:=hc.id;have h256:=hc.log
 obtain⟨hml,_⟩:=hc.ldr (Ag.1 g1)
 refine Ok.loop (fun m x=>∃(i:Nat) (z:D.N),x=(((n:Int),(i:Int),()),r,o,z,())/\i<=r.l.length/\(∀e∈r.l.take i,e.Op.S≠o.S)/\m=r.l.length - i) (m:=r.l.length) U ⟨0,_,rfl,U,Ob,rfl⟩ ?_
 rintro m x ⟨i,z,rfl,i1,i2,rfl⟩ K hK
 dsimp only
 refine Ok.ite (fun g2=>Ok.A (Ok.ite (fun _=>Ok.s fun e=>by simp at e) fun g3=>?_)) fun g2=>Ok.ite (fun _=>Ok.s fun e=>by simp at e) fun g4=>?_
 .rw[Qa U]
  refine hK _ _ U ⟨i+1,z,rfl,U,fun e he=>?_,rfl⟩
  rw[<-Qn (show i<r.l.length by omega)]at he
  grind
 .rw[Bl U]at i2
  have el:(r.l++[D.n.mk r.T o]).length=r.l.length+1:=Ob
  refine Ok.oe hc.copy (Ok.LS (Ok.nat hid.1 (Ok.E (Ok.G (Ok.j (Ok.oe Qh6 ?_))))))
  rw[Qoo hn]
  refine Ok.ite (fun g5=>Ok.s fun _=>⟨hc,?_,Ag.1 g1,i2⟩) fun g5=>Ok.s fun _=>⟨hc,?_,Ag.1 g1,i2⟩
  .unfold prpV;rw[iB U,el];rfl
  .unfold prpV;rw[iA U,el];rfl
def QyW{n:Nat}{r:D.N}(hl:r.l.length<=900):Ok (QeH 1000 n r) fun zC=>zC.length<=n/\(∀m∈zC,CkR n r/\r.FJ=2/\∃j:Nat,j<n/\m=appV r j/\(j:Int)≠r.S)/\(YJ 1000 n r=some true->r.FJ=2->∀j:Nat,j<n->(j:Int)≠r.S->appV r j∈zC):=by
 unfold QeH
 refine Ok.j (Ok.opt (QwF hl).self fun b ⟨hb,hbe⟩=>Ok.J (fun g=>Ok.ite (fun z=>Ok.s ⟨Ob,Ob,fun _ e=>absurd e z⟩) fun g1=>?_) fun g=>Ok.s ⟨Ob,Ob,fun e=>by rw[hbe,g]at e;simp at e⟩)
 have hc:=hb g
 have hn:=hc.sz;have hid:=hc.id;have h256:=hc.log
 obtain⟨hml,hmm⟩:=hc.ldr (Ag.1 g1)
 refine Ok.loop (fun m x=>∃(i:Nat) (zC:Y D.d),x=(((n:Int),(i:Int),()),r,zC,())/\i<=n/\zC.length<=i/\((∀m∈zC,∃j:Nat,j<n/\m=appV r j/\(j:Int)≠r.S)/\∀j:Nat,j<i->(j:Int)≠r.S->appV r j∈zC)/\m=n - i) (m:=n) U ⟨0,[],rfl,U,Ob,⟨Ob,fun j hj=>absurd hj U⟩,rfl⟩ ?_
 rintro m x ⟨i,zC,rfl,i1,i2,⟨i3,i4⟩,rfl⟩ K hK
 dsimp only
 refine Ok.ite (fun g2=>Ok.TG (fun y=>∃zC:Y D.d,y=(((n:Int),(i:Int),()),r,zC,())/\zC.length<=i+1/\(∀m∈zC,∃j:Nat,j<n/\m=appV r j/\(j:Int)≠r.S)/\∀j:Nat,j<i+1->(j:Int)≠r.S->appV r j∈zC) (fun y hy=>?_) fun zG hJ=>?_) fun g2=>Ok.s ⟨U,fun m hm=>⟨hc,Ag.1 g1,i3 m hm⟩,fun _ _ j hj=>i4 j U⟩
 .obtain⟨V',rfl,j1,j2⟩:=hy
  dsimp only
  rw[Qa U]
  exact hK _ _ U ⟨i+1,V',rfl,U,j1,j2,rfl⟩
 .have h3:=hmm i U
  have more:(i:Int)≠r.S->∀x:D.d,x=appV r i->(∀m∈zC++[x],∃j:Nat,j<n/\m=appV r j/\(j:Int)≠r.S)/\∀j:Nat,j<i+1->(j:Int)≠r.S->appV r j∈zC++[x]:=fun g3 x hx=>⟨fun m hm=>(Ah.1 hm).elim (i3 m) fun hm=>⟨i,U,by rw[Ae.1 hm,hx],g3⟩,fun j hj hne=>by
   by_cases e:j=i
   .subst e;rw[hx];exact Ah.2 (.inr (Ae.2 rfl))
   .exact Ah.2 (.inl (i4 j U hne))⟩
  refine Ok.ite (fun z=>hJ _ ⟨zC,rfl,U,i3,fun j hj hne=>i4 j U hne⟩) fun g3=>Ok.A (Ok.nat h3.1 (Ok.L (Ok.LS (Ok.j (Ok.ite (fun g4=>?_) fun g4=>?_)))))
  .rw[Qc U]
   refine Ok.at U U (Ok.LS (hJ _ ⟨_,rfl,by simp;omega,more g3 _ ?_⟩))
   unfold appV
   rw[iB g4]
   show D.d.mk _ _ _ _ _ (O r.l _).T _ _ _=D.d.mk _ _ _ _ _ (O r.l _).T _ _ _
   rw[show(O r.FE i - 1).toNat=(O r.FE i).toNat - 1 by omega]
  .refine Ok.LS (hJ _ ⟨_,rfl,by simp;omega,more g3 _ ?_⟩)
   unfold appV
   rw[iA g4]
def QBe{n:Nat}{r:D.N}(hk:YJ 1000 n r=some true)(hc:CkR n r):QeJ 1000 n r=some (Qww r,0):=by
 refine Ok.eq ?_
 unfold QeJ
 exact Ok.oe hk (Ok.nt rfl (Ok.oe hc.copy (Ok.s rfl)))
def QCH(h:0<=r.h/\r.h<=r.l.length)(hl:r.l.length<=900):QbT 1000 r=some (comV r):=by
 refine Ok.eq ?_
 unfold QbT
 refine Ok.j (Ok.run r.h.toNat (fun i=>(((i:Int),()),r,(r.l.take i).map (fun e=>e.Op),())) rfl U (fun i hi K hK=>?_) fun K=>?_)
 .dsimp only
  refine Ok.j (Ok.P (Ok.p (by show(i:Int)<(r.l.length:Int);omega) (Ok.atn (show i<r.l.length by omega) (Ok.LS ?_))))
  dsimp only at hK |-
  rw[<-Qn (show i<r.l.length by omega),Ay]at hK
  rw[Qa U]
  exact hK
 .dsimp only
  exact Ok.j (Ok.N (Ok.s rfl))
end
end
section
attribute [local irreducible] dueV stepV runV QE answerV
section
variable {n:Nat} {c:D.E} {b:D.a} {p q:D.Page} {now M:Int} {l x:D.G} {i:Nat} {o:D.Op} {L:Y Int} {d:D.y} {ops:Y D.Op}
def DecL(l:D.G):Prop:=∀p∈l.F,PgX 1000000 p
def Qsn(h:YX a=true):(1<=a.S/\a.S<=1000000)/\0<=a.Page/\a.Page<=999999:=by
 unfold YX at h
 simp only[bae,Qt]at h
 omega
def DecL.set(h:DecL l)(hp:PgX 1000000 p){L:Y D.Page}(e:L=l.F.set i p):∀q∈L,PgX 1000000 q:=fun q hq=>by
 rw[e]at hq
 rcases Cy hq with g|rfl
 .exact h q g
 .exact hp
def DecL.run(h:DecL l)(hl:Qd M n l)(hi:i<l.F.length):DecL (runI l i):=
 h.set ((h _ (Qf hi)).run hl.book QT.step (hl.at hi).1) (QoA hl hi).1
def DecL.runs(h:DecL l)(hl:Qd M n l):∀{k:Nat},k<=l.F.length->DecL (Zu l k)
 |0,_=>h
 |k+1,hk=>(h.runs hl U).run (hl.runs U) (by rw[(Ya (l:=l) (k:=k)).2.2.2.2.2.2];exact hk)
def QyK(hb:QQ b)(h:QL QT M b p)(hd:PgX 1000000 p)(hv:YX a=true)(ha:a.Q<4):PgX 1000000 (ansP c b p a now):=by
 have hr:PgX 1000000 (runV c b p now).1:=hd.run hb QT.step h
 unfold ansP
 split
 .rename_i g
  rcases QaM g with e|e
  .rw[e];exact hr
  .rw[e];exact hr.answer ha (Qsn hv).1
 .exact hr
def DecL.op(h:DecL l)(hl:Qd M n l)(ho:OpIn o)(hlt:l.F.length<64)(ha:o.Z=4->o.b.Q<4):DecL (opV l o).1:=by
 have hk5:=ho.kind
 by_cases k1:o.Z=1
 .unfold opV
  rw[iB k1]
  split
  .exact h
  .rename_i g
   split
   .exact h
   .split
    .exact h
    .split
     .rename_i g1 g2 g3
      obtain⟨i1,i2,i3⟩:=hl.open (o:=o) (by simpa using g) ⟨U,ho.page.2⟩ g3 hlt
      refine DecL.run (fun q hq=>?_) i1 i2
      rcases QiM.1 hq with rfl|hq
      .exact PgX.new
      .exact h q hq
     .exact h
 by_cases k2:o.Z=2
 .unfold opV
  rw[iA k1,iB k2]
  split<;>exact h
 by_cases k3:o.Z=3
 .unfold opV
  rw[iA k1,iA k2,iB k3]
  split
  .split
   .rename_i g
    generalize (if (O l.F (posV o.Page l.F)).p=2 then(-1:Int)else(O l.F (posV o.Page l.F)).E9)=kk
    split
    .exact h.run hl (WB g).1
    .exact h
   .exact h
  .exact h
 by_cases k4:o.Z=4
 .obtain⟨_,_,e⟩:=Qok hl k4
  show ∀q∈(opV l o).1.F,_
  rw[e]
  split
  .rename_i g
   have hi:=(WB g).1
   exact h.set (QyK hl.book (hl.at hi).1 (h _ (Qf hi)) (ho.answer k4).1 (ha k4)) rfl
  .exact h
 .obtain⟨e,_⟩:=Qus (l:=l) (o:=o) U
  show ∀q∈(opV l o).1.F,_
  rw[e]
  exact h.runs hl (AN _)
def DecL.apply(h:DecL l)(hl:Qd M n l)(ho:OpIn o)(ht:max l.E8 o.At<=M - 20000)(hs:l.g.length<256)(hlt:l.F.length<64)(ha:o.Z=4->o.b.Q<4):DecL (Zk l o).1:=by
 cases g:l.g.contains o.S with
 |true=>unfold Zk;rw[iB g];exact h
 |false=>rw[Qai g];exact DecL.op (l:=seeV l o) h (hl.see ho ht g hs) ho hlt ha
def QfN(c:D.E)(b:D.a):D.G:={ E8:=0,E:=c,a:=b,F:=[],FB:=-1,Fence:=0,g:=[],Calls:=[] }
def opsV(l:D.G):Y D.Op->D.G
 |[]=>l
 |o::r=>opsV (Zk l o).1 r
def QpF:∀{a:Y D.Op} {l:D.G} {r:Y D.Op},opsV l (a++r)=opsV (opsV l a) r
 |[],_,_=>rfl
 |o::a,l,r=>by simp only[Ar,opsV,QpF]
def Qxx:opsV l (ops++[o])=(Zk (opsV l ops) o).1:=by rw[QpF];rfl
def QfW(h:i<ops.length):opsV l (ops.take (i+1))=(Zk (opsV l (ops.take i)) (O ops i)).1:=by rw[<-Qn h,Qxx]
structure Behind (ops:Y D.Op) (k:Nat) (l:D.G):Prop where
 made:QDh k l
 dec:DecL l
 seen:∀x∈l.g,x<=(k:Int)
 last:l.E8<=0\/∃j,j<k/\l.E8<=(O ops j).At
def Behind.first(hc:Ze 2 c)(hb:QQ b):Behind ops 0 (QfN c b):=
 ⟨⟨Qve hc hb,fun p hp=>by simp[QfN]at hp,AN _,by simp[QfN]⟩,fun p hp=>by simp[QfN]at hp,fun x hx=>by simp[QfN]at hx,.inl (by simp[QfN])⟩
def Behind.fresh(h:Behind ops k l)(hi:o.S=(k:Int)+1):l.g.contains o.S=false:=by
 cases hc:l.g.contains o.S with
 |false=>rfl
 |true=>
  have:=h.seen _ (Bg.1 hc)
  omega
attribute [local irreducible] opsV Zk opV
end
end
section
open Go AM
attribute [local irreducible] dueV stepV runV QE answerV
section
def Qbe(l:D.G):Y D.Op->Y Int
 |[]=>[]
 |o::r=>(Zk l o).2::Qbe (Zk l o).1 r
def Qrc:∀{a:Y D.Op} {l:D.G} {r:Y D.Op},Qbe l (a++r)=Qbe l a++Qbe (opsV l a) r
 |[],_,_=>rfl
 |o::a,l,r=>by simp only[Ar,Qbe,opsV,Qrc]
def QjK(h:i<ops.length):Qbe l (ops.take (i+1))=Qbe l (ops.take i)++[(Zk (opsV l (ops.take i)) (O ops i)).2]:=by rw[<-Qn h,Qrc];rfl
def QiB:∀{ops:Y D.Op} {l:D.G},(Qbe l ops).length=ops.length
 |[],_=>rfl
 |o::r,l=>by simp only[Qbe,Ab,QiB]
structure Led (l:D.G):Prop where
 ok:∃M n,LW M n l/\n<=48
 pg:l.F.length<=9
structure OkAt (l:D.G) (o:D.Op):Prop where
 ok:∃M n,Qd M n l/\n<48/\max l.E8 o.At<=M - 20000
 pg:l.F.length<=8
 dec:DecL l
 op:OpIn o
 len:l.g.length<256
def OkAt.led(h:OkAt l o):Led l:=by
 obtain⟨M,n,h1,h2,_⟩:=h.ok
 exact⟨⟨M,n,h1.w,U⟩,by have:=h.pg;omega⟩
def OkAt.TM(h:OkAt l o):Qgc 1000 l o=some (Zk l o):=by
 obtain⟨M,n,h1,h2,h3⟩:=h.ok
 exact Qwe h1 h2 h.pg h.op h3 h.len
def Led.check(h:Led l):Vb 1000 l=some true:=by
 obtain⟨M,n,h1,h2⟩:=h.ok
 exact QcS h1 h.pg
def Led.checkE(h:Led l):XH 1000 l=some true:=by
 obtain⟨M,n,h1,h2⟩:=h.ok
 exact Qpp h1 h.pg
def Led.copy(h:Led l):QbR 1000 l=some l:=by
 obtain⟨M,n,h1,h2⟩:=h.ok
 have:=h1.callsLe h.pg;have:=h1.seen.len;have:=h.pg
 exact QtW h1.plens U U U
structure Runs (l:D.G) (ops:Y D.Op):Prop where
 at_:∀j,j<ops.length->OkAt (opsV l (ops.take j)) (O ops j)
 fin:∀j,j<=ops.length->Led (opsV l (ops.take j))
 len:ops.length<=200
structure Loose (k:Nat) (l:D.G):Prop where
 inv:Qd 1000000 (2+k) l
 ids:Ids 3 l
 seen:l.g.length<=k
 dec:DecL l
def Qaf(o:D.Op):Prop:=OpIn o/\(o.Z=1->o.Page<=3)/\o.At<=980000/\(o.Z=4->o.b.Q<4)
def Behind.loose(h:Behind ops k l):Loose k l:=⟨h.made.inv,h.made.ids,h.made.seen,h.dec⟩
def Loose.led(h:Loose k l)(hk:k<=46):Led l:=⟨⟨1000000,2+k,h.inv.w,U⟩,by have:=h.inv.small3 (k:=3) h.ids;omega⟩
def cntE(ops:Y D.Op):Nat:=ops.countP fun o=>decide (o.Z=5)
structure Qbo (e k:Nat) (l:D.G):Prop where
 inv:Qd 1000000 (2+e) l
 ids:Ids 3 l
 seen:l.g.length<=k
 dec:DecL l
def Loose.e(h:Loose k l):Qbo k k l:=⟨h.inv,h.ids,h.seen,h.dec⟩
def Qbo.okAt(h:Qbo e k l)(he:e<=45)(hk:k<=200)(ho:Qaf o):OkAt l o:=by
 have hn:=h.inv.now;have hs:=h.seen;have h2:=ho.2.2.1
 have hp3:=h.inv.small3 (k:=3) h.ids
 exact⟨⟨1000000,2+e,h.inv,U,U⟩,U,h.dec,ho.1,U⟩
def Qbo.led(h:Qbo e k l)(he:e<=46):Led l:=⟨⟨1000000,2+e,h.inv.w,U⟩,by have:=h.inv.small3 (k:=3) h.ids;omega⟩
def Qbo.next(h:Qbo e k l)(he:e<=45)(hk:k<=200)(ho:Qaf o):Qbo (e+cntE [o]) (k+1) (Zk l o).1:=by
 have hn:=h.inv.now;have hs:=h.seen;have h2:=ho.2.2.1
 have hp3:=h.inv.small3 (k:=3) h.ids
 refine⟨?_,h.ids.apply h.inv ho.1 U U ho.2.1,by have:=(QsE (l:=l) (o:=o)).1;omega,h.dec.apply h.inv ho.1 U U U ho.2.2.2⟩
 by_cases k5:o.Z=5
 .rw[show cntE [o]=1 by simp[cntE,k5]]
  exact h.inv.apply U ho.1 U U
 .rw[show cntE [o]=0 by simp[cntE,k5]]
  exact h.inv.apply0 ho.1 k5 U U
def QtU:cntE (a++b)=cntE a+cntE b:=by simp[cntE]
def Qiv:cntE (ops.take j)<=cntE ops:=(EC j ops).countP_le
def Qbo.fold(h:Qbo e k l)(ho:∀o∈ops,Qaf o)(he:e+cntE ops<=45)(hk:k+ops.length<=200):∀{j:Nat},j<=ops.length->Qbo (e+cntE (ops.take j)) (k+j) (opsV l (ops.take j))
 |0,_=>by rw[BW];exact h
 |j+1,hj=>by
  have hc:=Qiv (ops:=ops) (j:=j)
  rw[QfW U,<-Qn (show j<ops.length by omega),QtU,<-B5]
  exact(Qbo.fold h ho he hk U).next U U (ho _ (Qf U))
def Qbo.runs(h:Qbo e k l)(ho:∀o∈ops,Qaf o)(he:e+cntE ops<=45)(hk:k+ops.length<=200):Runs l ops:=
 ⟨fun j hj=>(h.fold ho he hk U).okAt (by have:=Qiv (ops:=ops) (j:=j);omega) U (ho _ (Qf hj)),fun j hj=>(h.fold ho he hk hj).led (by have:=Qiv (ops:=ops) (j:=j);omega),U⟩
def QsX(hc:Ze 2 c)(hb:QQ b):Loose 0 (QfN c b):=(Behind.first (ops:=[]) hc hb).loose
end
end
section
attribute [local irreducible] dueV stepV runV QE answerV opV Zk opsV Qbe
section
variable {n:Nat} {M:Int} {l x:D.G} {o:D.Op} {i k:Nat} {t r id now:Int} {L:Y Int}
def ans0:D.b:=D.b.mk 0 0 0 0 0 0
def edit0:D.s:=D.s.mk 0 0 0 0 0
def op0:D.Op:=D.Op.mk 0 0 0 0 0 0 0 0 0 ans0 edit0
def ownO(l:D.G)(r id now:Int):D.Op:=D.Op.mk id 2 r (l.Fence+1) now 0 0 0 0 ans0 edit0
def QhH(r id now:Int):Prop:=(0<=r/\r<=4)/\(1<=id/\id<=1099511627776)/\0<=now/\now<=8589934592
def QBW(h:Qd M n l)(hc:QhH r id now):OpIn (ownO l r id now):=by
 have hf:=h.fence;have hs:=h.seen.len
 obtain⟨h1,h2,h3⟩:=hc
 exact⟨h2,by simp only[ownO];omega,h1,by simp only[ownO];omega,h3,by simp only[ownO];omega,by simp only[ownO];omega,fun e=>absurd (show(2:Int)=4 from e) U,fun e=>absurd (show(2:Int)=5 from e) U⟩
def Quv(h:Qd M n l)(hc:QhH r id now)(hn:now<=980000):Qaf (ownO l r id now):=
 ⟨QBW h hc,fun e=>absurd (show(2:Int)=1 from e) U,hn,fun e=>absurd (show(2:Int)=4 from e) U⟩
def Qpr{α:Type}[AK α]{l:Y α}:(List.range l.length).map (O l)=l:=by
 refine EB Ob fun i h1 h2=>?_
 simp only[List.getElem_map,List.getElem_range,O,AQ,AU h2,Bu]
def Qyt:Qef l.F t=(Qbm l t).map fun i=>D.R.mk (O l.F i).S (dueV (O l.F i)).1 []:=by
 unfold Qef Qbm
 conv=>lhs;rw[<-Qpr (l:=l.F)]
 rw[List.filter_map,CZ]
 rfl
def Qne:(Qbm l t).length=(Qef l.F t).length:=by rw[Qyt,AZ]
def Qjv:(Qbm l t).length<=l.F.length:=by rw[Qne];exact Qnf
def Qpw{α β:Type}[AK α][AK β]{l:Y α}{f:α->β}(h:i<l.length):O (l.map f) i=f (O l i):=by
 simp[O,AQ,AU h]
def Qmm{n:Nat}(h:i<n):O (List.range n) i=i:=by
 simp[O,AQ,h]
def QaZ(l:D.G)(now:Int)(k:Nat):D.Page:=O l.F (O (Qbm l now) k)
def Qmt(h:k<(Qbm l now).length):O (Qbm l now) k<l.F.length/\Y1 (QaZ l now k) now=true:=Qsp.1 (Qf h)
def Qsq(h:k<(Qbm l now).length):O (Qef l.F now) k=D.R.mk (QaZ l now k).S (dueV (QaZ l now k)).1 []:=by
 rw[Qyt,Qpw h];rfl
def Qad(l:D.G)(id now:Int)(k:Nat):D.Op:=D.Op.mk (id+k) 3 l.FB l.Fence now (QaZ l now k).S (QiS (QaZ l now k)) 0 0 ans0 edit0
def QcA(l:D.G)(id now:Int):Y D.Op:=(List.range (Qbm l now).length).map (Qad l id now)
def Wo:(QcA l id now).length=(Qbm l now).length:=by simp[QcA]
def Qik(h:k<(Qbm l now).length):O (QcA l id now) k=Qad l id now k:=by
 unfold QcA;rw[Qpw (by simpa using h),Qmm h]
def QkB(h:k<(Qbm l now).length):(QcA l id now).take (k+1)=(QcA l id now).take k++[Qad l id now k]:=by
 rw[<-Qik h,Qn (by rw[Wo];exact h)]
def Qyg(h:Qd M n l)(hk:k<(Qbm l now).length)(hid:1<=id/\id+k<=1099511627776)(ho:0<=l.FB)(hn:0<=now/\now<=8589934592):OpIn (Qad l id now k):=by
 have hf:=h.fence;have hs:=h.seen.len;have how:=h.owner
 obtain⟨h1,h2⟩:=Qmt hk
 obtain⟨g1,_⟩:=h.at h1
 have hnx:=(Yd (g1.check h.book)).next
 have hcn:=Yw (g1.polOK h.book)
 have hpid:=g1.id
 have hK : -1<=QiS (QaZ l now k)/\QiS (QaZ l now k)<=1000:=by
  show -1<=QiS (O l.F (O (Qbm l now) k))/\QiS (O l.F (O (Qbm l now) k))<=1000
  unfold QiS
  split<;>omega
 exact⟨by simp only[Qad];omega,by simp only[Qad];omega,by simp only[Qad];omega,by simp only[Qad];omega,hn,by simp only[Qad,QaZ];omega,hK,fun e=>absurd (show(3:Int)=4 from e) U,fun e=>absurd (show(3:Int)=5 from e) U⟩
def QoH(h:Qd M n l)(hk:k<(Qbm l now).length)(hid:1<=id/\id+k<=1099511627776)(ho:0<=l.FB)(hn:0<=now/\now<=980000):Qaf (Qad l id now k):=
 ⟨Qyg h hk hid ho U,fun e=>absurd (show(3:Int)=1 from e) U,hn.2,fun e=>absurd (show(3:Int)=4 from e) U⟩
end
end
section
open Go AM
attribute [local irreducible] dueV stepV runV QE answerV opV Zk opsV Qbe
section
variable {n:Nat} {M:Int} {l x:D.G} {o:D.Op} {i k:Nat} {t r id now f:Int}
def QfA(r id now:Int):AH:=inV r 0 4 && (inV id 1 1099511627776 && inV now 0 8589934592)
def QlM:QfA r id now=true↔QhH r id now:=by
 unfold QfA QhH
 simp only[bae,Qt]
structure OwnR (l:D.G):Prop where
 chkR:Vb 1000 l=some true
 fence:0<=l.Fence/\l.Fence<=1048576
 waitR:∀t,Vd 1000 l t=some (Qef l.F t)
 findR:∀p∈l.F,QeE 1000 l p.S=some (Qdk l p.S)
 asc:AscP l.F
 pg:l.F.length<=9
def Led.ownR(h:Led l):OwnR l:=by
 obtain⟨M,n,h1,h2⟩:=h.ok
 have hf:=h1.fence;have hpg:=h.pg
 exact⟨h.check,U,fun t=>QtK h1 hpg,fun p hp=>QsW h1.plens h1.asc U,h1.asc,hpg⟩
def QlN(l:D.G)(r id now:Int):D.Op×Int:=if QfA r id now=true then(if l.Fence=1048576 then(op0,5)else(ownO l r id now,0))else(op0,1)
def QqS(h:OwnR l):Qcw 1000 l r id now=some (QlN l r id now):=by
 have hf:=h.fence
 refine Ok.eq ?_
 unfold Qcw QlN QfA
 refine Ok.j (Ok.oe h.chkR (Ok.nt rfl (Ok.oe rin (Ok.J (fun g1=>Ok.oe rin (Ok.J (fun g2=>Ok.oe rin (Ok.J (fun g3=>?_) (fun g3=>Ok.s ?_))) (fun g2=>Ok.s ?_))) (fun g1=>Ok.s ?_)))))
 .rw[iB (by simp[g1,g2,g3])]
  refine Ok.ite (fun g4=>Ok.s ?_) (fun g4=>Ok.s ?_)
  .rw[iB g4];rfl
  .rw[iA g4,Qc (x:=l.Fence+1) U];rfl
 all_goals (rw[iA (by simp[*])];rfl)
def QqT(h:QhH r id now)(hf:l.Fence<=1000):QlN l r id now=(ownO l r id now,0):=by
 unfold QlN
 rw[iB (QlM.2 h),iA U]
def QrD(l:D.G)(r id now:Int):Y D.Op:=if QfA r id now=true/\r=l.FB/\id+(l.F.length:Int)<=1099511627776 then QcA l id now else[]
def Qrf(h:OwnR l)(hk:k<(Qbm l now).length):Qdk l (QaZ l now k).S=(QaZ l now k,true):=Ql6 h.asc (Qmt hk).1 rfl
def Qol(hk:k<(Qbm l now).length):QaZ l now k∈l.F:=Qf (Qmt hk).1
def QvI(h:OwnR l):Qb3 1000 l r id now=some (QrD l r id now):=by
 have hpg:=h.pg
 have hwl:=Qne (l:=l) (t:=now);have hwe:=Qjv (l:=l) (t:=now)
 refine Ok.eq ?_
 unfold Qb3 QrD
 refine Ok.j (Ok.oe (QqS h) ?_)
 unfold QlN
 by_cases g:QfA r id now=true
 .obtain⟨c1,c2,c3⟩:=QlM.1 g
  have he:∃a e,(if QfA r id now=true then(if l.Fence=1048576 then(op0,(5:Int))else(ownO l r id now,0))else(op0,1))=(a,e)/\e≠8/\e≠1:=by
   rw[iB g];split
   .exact⟨_,_,rfl,U,U⟩
   .exact⟨_,_,rfl,U,U⟩
  obtain⟨a,e,he,e8,e1⟩:=he
  rw[he]
  refine Ok.n e8 (Ok.n e1 (Ok.ite (fun g2=>Ok.s (by rw[iA (fun h=>g2 h.2.1)])) (fun g2=>?_)))
  have g2:r=l.FB:=Ag.1 g2
  rw[Qc (x:=id+(l.F.length:Int)) U]
  refine Ok.ite (fun g3=>Ok.s (by rw[iA (fun h=>U)])) (fun g3=>?_)
  rw[iB ⟨g,g2,U⟩]
  try dsimp only
  refine Ok.oe (h.waitR now) ?_
  refine Ok.run (Qbm l now).length (fun k=>((r,id,now,Qef l.F now,(k:Int),()),l,(QcA l id now).take k,())) rfl U (fun k hk K hK=>?_) (fun K=>?_)
  .try dsimp only
   have hl:((QcA l id now).take k).length<=9:=by rw[Af,Wo];omega
   try dsimp only at hK
   rw[QkB hk]at hK
   refine Ok.P (Ok.A ?_)
   rw[Qsq hk]
   refine Ok.oe (h.findR _ (Qol hk)) ?_
   rw[Qrf h hk]
   refine Ok.j ?_
   have hw:X (id+(k:Int))=id+k:=Qc U
   refine Ok.ite (fun g4=>Ok.LS ?_) (fun g4=>Ok.LS ?_)
   .try dsimp only at g4 |-
    rw[hw,Qa U]
    have e:Qad l id now k=D.Op.mk (id+k) 3 r l.Fence now (QaZ l now k).S (-1) 0 0 (D.b.mk 0 0 0 0 0 0) (D.s.mk 0 0 0 0 0):=by unfold Qad QiS;rw[iB g4,g2];rfl
    rw[<-e];exact hK
   .try dsimp only at g4 |-
    rw[hw,Qa U]
    have e:Qad l id now k=D.Op.mk (id+k) 3 r l.Fence now (QaZ l now k).S (QaZ l now k).E9 0 0 (D.b.mk 0 0 0 0 0 0) (D.s.mk 0 0 0 0 0):=by unfold Qad QiS;rw[iA g4,g2];rfl
    rw[<-e];exact hK
  .try dsimp only
   exact Ok.N (Ok.s (Bl (by rw[Wo];omega)))
 .rw[iA g];exact Ok.NS (Ok.p rfl (Ok.s (by rw[iA (fun h=>g h.1)])))
end
end
section
attribute [local irreducible] dueV stepV runV QE answerV
section
def mapE[AK T]{f:Nat->T->I T}{l:Y T}(hf:∀x∈l,f 1000 x=some x)(hl:l.length<=900):
  Qe (zF:=((Int×(Int×Unit))×(Y T×Unit))) (fun L1 ((a2,(a3,_)),(a4,_))=>(AM.J (decide (a3<a2)) (TK a3 fun a5=>(TP a5 (List.length a4) (V (GetElem?.getElem? a4 a5) fun a6=>(V (f 1000 a6) fun a7=>(TK a3 fun a8=>(TP a8 (List.length a4) (V (GetElem?.getElem? a4 a8) fun a9=>(L1 ((a2,((X (a3+1)),())),((List.set a4 a8 a7),())))))))))) (some a4))) 1000 (((((List.length l):Nat):Int),(0,())),(l,()))=some l:=by
 refine Ok.eq ?_
 refine Ok.run l.length (fun i=>(((((List.length l):Nat):Int),(i:Int),()),l,())) rfl U (fun i hi k hk=>?_) (fun k=>?_)
 .try dsimp only
  refine Ok.P (Ok.natn (Ok.lt hi (Ok.get hi (Ok.oe (hf _ (Qf hi)) (Ok.natn (Ok.lt hi (Ok.get hi ?_)))))))
  rw[Qa U,Qqj hi];exact hk
 .try dsimp only
  exact Ok.N (Ok.s rfl)
def cl_w(h:l.length<=900):Yp 1000 l=some l:=by unfold Yp;exact Yi U
def cl_i(h:l.length<=900):Qu 1000 l=some l:=by unfold Qu;exact Yi U
def Qs7(h:∀z∈l,z.Fr=[])(hl:l.length<=900):ZL 1000 l=some l:=by
 unfold ZL
 refine(Vv (show X2 1000 l=some l by unfold X2;exact Yi U)).trans (mapE (f:=QgQ) (fun z hz=>?_) hl)
 unfold QgQ
 exact Vv (show Xx 1000 z.Fr=some z.Fr by rw[h z hz];rfl)
def Qps(h:∀z∈l,z.Fi.length<=900)(hl:l.length<=900):Zh 1000 l=some l:=by
 unfold Zh
 refine(Vv (show Y6 1000 l=some l by unfold Y6;exact Yi U)).trans (mapE (f:=QcV) (fun z hz=>?_) hl)
 unfold QcV
 exact Vv (cl_w (h z hz))
def Qrs(h:∀z∈l,Y2 z)(hl:l.length<=900):Zr 1000 l=some l:=by
 unfold Zr
 refine(Vv (show Xv 1000 l=some l by unfold Xv;exact Yi U)).trans (mapE (f:=Qev) (fun z hz=>?_) hl)
 have hz':=h z hz
 unfold Qev
 exact(Vv (cl_i (by have:=hz'.len;omega))).trans (Vv (cl_w (by rw[hz'.win];simp)))
def Qrt(h:∀z∈l,Qfr n z)(hn:n<=48)(hl:l.length<=900):Q3 1000 l=some l:=by
 unfold Q3
 refine(Vv (show Yz 1000 l=some l by unfold Yz;exact Yi U)).trans (mapE (f:=QaH) (fun z hz=>?_) hl)
 obtain⟨⟨y,hy,hy2⟩,h2,_⟩:=h z hz
 unfold QaH
 refine(Vv (Qrs (l:=z.Fo) (fun w hw=>?_) (by rw[hy];simp))).trans (Vv (show X1 1000 z.FU=some z.FU by unfold X1;exact Yi U))
 simp_all
def Qs6(h:∀z∈l,QqA z)(hl:l.length<=900):ZK 1000 l=some l:=by
 unfold ZK
 refine(Vv (show Vs 1000 l=some l by unfold Vs;exact Yi U)).trans (mapE (f:=QgP) (fun z hz=>?_) hl)
 unfold QgP
 exact Vv (cl_i (by have:=(h z hz).len;omega))
def Qs5(h:∀z∈l,StepOK' m z)(hl:l.length<=900):Za 1000 l=some l:=by
 unfold Za
 refine(Vv (show YS 1000 l=some l by unfold YS;exact Yi U)).trans (mapE (f:=QgO) (fun z hz=>?_) hl)
 unfold QgO
 exact Vv (show Wk 1000 z.Fh=some z.Fh by unfold Wk;exact Yi (by have:=(h z hz).len;omega))
def Qva(h:∀z∈l,Qdy m z)(hl:l.length<=900):ZC 1000 l=some l:=by
 unfold ZC
 refine(Vv (show Wj 1000 l=some l by unfold Wj;exact Yi U)).trans (mapE (f:=QiW) (fun z hz=>?_) hl)
 unfold QiW
 exact Vv (Qs5 (h z hz).step (by have:=(h z hz).len;omega))
def Quw(h:QA p):Qb0 1000 p=some p:=by
 have h1:=h.st;have h2:=h.de;have h3:=h.se
 unfold Qb0
 refine(Vv (x:=p.P) ?_).trans ((Vv (cl_i U)).trans (Vv (cl_i U)))
 unfold Z4
 refine(Vv (QqV U)).trans (mapE (f:=QcU) (fun z hz=>?_) U)
 unfold QcU
 exact Vv (cl_i (by have:=(h.pe z hz).1;omega))
def Qs4(h:∀z∈l,QA z)(hl:l.length<=900):ZJ 1000 l=some l:=by
 unfold ZJ
 exact(Vv (show Vr 1000 l=some l by unfold Vr;exact Yi U)).trans (mapE (f:=Qb0) (fun z hz=>Quw (h z hz)) hl)
def Led.copyE(h:Led l):QaW 1000 l=some l:=by
 obtain⟨M,n,h1,h2⟩:=h.ok
 have hcl:=h1.callsLe h.pg;have hse:=h1.seen.len;have hpg:=h.pg;have hb:=h1.book;have hc:=h1.cfg
 have htl:=hb.tlen;have hpl:=hb.plen
 obtain⟨hz,_⟩:=hc.zones
 unfold QaW
 rw[Qs7 (by rw[hz];intro z hm;rw[Ae.1 hm]) (by rw[hz];simp),ZZ,Qps (fun z hm=>by rcases(hc.person z hm).quiet with e|⟨_,_,e,_⟩<;>rw[e]<;>simp) (by rw[hc.plen];omega),ZZ,hc.cal]
 rw[show ZB 1000 []=some []by kernel_rfl,ZZ,Qrt hc.sched h2 (by rw[hc.slen];omega),ZZ,Qs6 hb.team U,ZZ,Qva hb.pol U,ZZ,Qs4 h1.plens U,ZZ,cl_i U,ZZ,QqU U,ZZ]
 obtain⟨l1,⟨c1,c2,c3,c4⟩,l3,l4,l5,l6,l7,l8⟩:=l
 have hcal:=hc.cal
 dsimp only at hcal |-
 subst hcal
 rfl
def Qw5{i j:Nat}(h:i+j<1000000):X (Int.fdiv (IntKind.wrap .u64 (X ((i:Int)+(j:Int)))) (HPow.hPow 2 (min 1 (Go.IntKind.bits Go.IntKind.u64))))=(((i+j) / 2:Nat):Int):=by
 rw[Qc (x:=(i:Int)+(j:Int)) U]
 have e:IntKind.u64.wrap ((i:Int)+(j:Int))=(i:Int)+(j:Int):=by
  simp only[IntKind.wrap,IntKind.bits,IntKind.signed]
  simp
  omega
 rw[e,show((HPow.hPow 2 (min 1 (Go.IntKind.bits Go.IntKind.u64)):Nat):Int)=2 from rfl,Int.fdiv_eq_ediv_of_nonneg _ U,Qc U]
 omega
def QtT{id:Int}(h1:0<=p.S/\p.S<=999999)(h2 : -1<=id/\id<=1000000):WX 1000 p id=some (p.S - id):=by
 unfold WX
 rw[Qc U]
def QCE{id:Int}(ha:AscP L)(hl:L.length<=64)(hp:∀p∈L,0<=p.S/\p.S<=999999)(hid : -1<=id/\id<=1000000):
  QJ 1000 L id=some ((posV id L:Int),hasV id L):=by
 have hple:=Qcp (id:=id) (l:=L)
 refine Ok.eq ?_
 unfold QJ
 refine Ok.loop (fun m x=>∃(i j:Nat),x=((id,((L.length:Nat):Int),(i:Int),(j:Int),()),L,())/\i<=posV id L/\posV id L<=j/\j<=L.length/\m=j - i) (m:=L.length) U ⟨0,L.length,rfl,U,U,U,U⟩ ?_
 rintro m x ⟨i,j,rfl,h1,h2,h3,rfl⟩ K hK
 try dsimp only
 refine Ok.ite (fun hij=>?_) (fun hij=>?_)
 .refine Ok.nat U ?_
  rw[show(1:Int).toNat=1 from rfl,Qw5 U]
  have hh:(i+j) / 2<L.length:=U
  refine Ok.natn (Ok.lt hh (Ok.get hh (Ok.oe (QtT (hp _ (Qf hh)) hid) (Ok.ite (fun g=>?_) (fun g=>?_)))))
  .try dsimp only
   rw[Qa U]
   refine hK _ _ U ⟨(i+j) / 2+1,j,rfl,?_,h2,h3,rfl⟩
   rcases BC ((i+j) / 2) (posV id L)with g2|g2
   .omega
   .have:=Qmz ha g2 hh
    omega
  .refine hK _ _ U ⟨i,(i+j) / 2,rfl,h1,?_,U,rfl⟩
   rcases BC ((i+j) / 2) (posV id L)with g2|g2
   .have:=QmA g2
    omega
   .exact g2
 .have e:i=posV id L:=U
  subst e
  unfold hasV
  refine Ok.ite (fun g=>?_) (fun g=>?_)
  .have hh:posV id L<L.length:=U
   refine Ok.natn (Ok.lt hh (Ok.get hh (Ok.oe (QtT (hp _ (Qf hh)) hid) (Ok.ite (fun g=>Ok.TF (Ok.s ?_)) (fun g=>Ok.TF (Ok.s ?_))))))
   .grind
   .rw[Au (fun h=>g U)]
  .exact Ok.TF (Ok.s (by rw[Au (fun h=>g U)]))
def QDj{id:Int}(ha:AscP L)(hl:L.length<=64)(hp:∀p∈L,0<=p.S/\p.S<=999999)(hid : -1<=id/\id<=1000000):
  QO 1000 L id=some ((posV id L:Int),hasV id L):=by
 have hple:=Qcp (id:=id) (l:=L)
 refine Ok.eq ?_
 unfold QO
 refine Ok.loop (fun m x=>∃(i j:Nat),x=((L,id,((L.length:Nat):Int),(i:Int),(j:Int),()),())/\i<=posV id L/\posV id L<=j/\j<=L.length/\m=j - i) (m:=L.length) U ⟨0,L.length,rfl,U,U,U,U⟩ ?_
 rintro m x ⟨i,j,rfl,h1,h2,h3,rfl⟩ K hK
 try dsimp only
 refine Ok.ite (fun hij=>?_) (fun hij=>?_)
 .refine Ok.nat U ?_
  rw[show(1:Int).toNat=1 from rfl,Qw5 U]
  have hh:(i+j) / 2<L.length:=U
  refine Ok.atn hh (Ok.oe (QtT (hp _ (Qf hh)) hid) (Ok.ite (fun g=>?_) (fun g=>?_)))
  .try dsimp only
   rw[Qa U]
   refine hK _ _ U ⟨(i+j) / 2+1,j,rfl,?_,h2,h3,rfl⟩
   rcases BC ((i+j) / 2) (posV id L)with g2|g2
   .omega
   .have:=Qmz ha g2 hh
    omega
  .refine hK _ _ U ⟨i,(i+j) / 2,rfl,h1,?_,U,rfl⟩
   rcases BC ((i+j) / 2) (posV id L)with g2|g2
   .have:=QmA g2
    omega
   .exact g2
 .have e:i=posV id L:=U
  subst e
  unfold hasV
  refine Ok.ite (fun g=>?_) (fun g=>?_)
  .have hh:posV id L<L.length:=U
   refine Ok.atn hh (Ok.oe (QtT (hp _ (Qf hh)) hid) (Ok.ite (fun g=>Ok.s ?_) (fun g=>Ok.s ?_)))
   .grind
   .rw[Au (fun h=>g U)]
  .exact Ok.s (by rw[Au (fun h=>g U)])
def LW.idsIn(h:LW M n l):∀p∈l.F,0<=p.S/\p.S<=999999:=fun p hp=>by
 have:=(h.page p hp).1.id;omega
def Ql5{id:Int}(h:LW M n l)(hid : -1<=id/\id<=1000000):Yc 1000 l id=some ((posV id l.F:Int),hasV id l.F):=by
 unfold Yc
 rw[QCE h.asc h.len h.idsIn hid,ZZ]
 dsimp only
 rw[Vh,Vh,Vh]
def QyD{id:Int}(h:LW M n l)(hid : -1<=id/\id<=1000000):QdJ 1000 l id=some (Qdk l id):=by
 refine Ok.eq ?_
 unfold QdJ QjV Qdk
 rw[QDj h.asc h.len h.idsIn hid]
 by_cases g:hasV id l.F=true
 .rw[iB g]
  have:=(WB g).1
  exact Ok.os (Ok.nt g (Ok.atn this (Ok.oe (Quw (h.plens _ (Qf this))) (Ok.s rfl))))
 .rw[iA g]
  exact Ok.os (Ok.nf (by simpa using g) (Ok.s rfl))
def QzD:QgM 1000 p=some (QiS p):=by
 unfold QgM QiS
 (try unfold cd);rw[QAo];split<;>rfl
def Qy0{l:D.G}{i:Nat}(hi:i<l.F.length)(hp:QA (O l.F i))(hk:k<=(O l.F i).P.length)(hcl:l.Calls.length<=20000):
  Q8 1000 ⟨l⟩ (i:Int) (k:Int)=some ⟨{ l with Calls:=l.Calls++QN (O l.F i).S l.Fence ((O l.F i).P.drop k) }⟩:=by
 obtain⟨P,hP⟩:∃P,O l.F i=P:=⟨_,rfl⟩
 have hst:=hp.st
 refine Ok.eq ?_
 unfold Q8
 refine Ok.natn (Ok.lt hi (Ok.get hi (Ok.natn (Ok.TO hk ?_))))
 rw[hP]at hp hk hst |-
 refine Ok.run (P.P.length - k) (fun j=>(((P.P.drop k),(((P.P.drop k).length:Nat):Int),(j:Int),()),(l.E8,l.E.FI,l.E.k,l.E.o,l.E.f,l.a.t,l.a.j,l.FB,l.Fence,()),P,l.F,l.g,l.Calls++QN P.S l.Fence ((P.P.drop k).take j),())) (by rw[BW];simp[QN]) U (fun j hj kk hkk=>?_) (fun kk=>?_)
 .try dsimp only
  have hdl:j<(P.P.drop k).length:=by simp;omega
  refine Ok.P (Ok.atn hdl ?_)
  have hpe:=(hp.pe _ (Br (Qf hdl))).1
  have hts:(P.P.drop k).take (j+1)=(P.P.drop k).take j++[O (P.P.drop k) j]:=(Qn hdl).symm
  have hol:(QN P.S l.Fence ((P.P.drop k).take j)).length<=40*((P.P.drop k).take j).length:=Qcb (m:=40) fun s hs=>(hp.pe s (Br (Bq hs))).1
  rw[Af,Bn]at hol
  obtain⟨s,hs⟩:∃s,O (P.P.drop k) j=s:=⟨_,rfl⟩
  rw[hs]at hpe hts |-
  refine Ok.run s.k.length (fun z=>(((P.P.drop k),(((P.P.drop k).length:Nat):Int),(j:Int),s.k,(s.k.length:Int),(z:Int),()),(l.E8,l.E.FI,l.E.k,l.E.o,l.E.f,l.a.t,l.a.j,l.FB,l.Fence,()),P,s,l.F,l.g,(l.Calls++QN P.S l.Fence ((P.P.drop k).take j))++(s.k.take z).map (fun x=>D.Call.mk P.S s.K s.At x l.Fence),())) (by rw[BW,Al,Ao];rfl) U (fun z hz k2 hk2=>?_) (fun k2=>?_)
  .try dsimp only
   refine Ok.P (Ok.atn hz (Ok.TO ?_ ?_))
   .grind
   .try dsimp only
    rw[Qa U]
    try dsimp only at hk2
    rw[<-Qn hz,Ay,<-Aw]at hk2
    exact hk2
  .try dsimp only
   refine Ok.N ?_
   try dsimp only
   rw[Qa U,Ad]
   try dsimp only at hkk
   rw[hts,Qfx,<-Aw]at hkk
   exact hkk
 .try dsimp only
  refine Ok.NS (Ok.s ?_)
  rw[Bl Ob]
def QxN(hi:i<l.F.length)(hA:QA A)(hx:Ext (O l.F i) A)(hcl:l.Calls.length<=20000):
  Q8 1000 ⟨⟨l.E8,l.E,l.a,l.F.set i A,l.FB,l.Fence,l.g,l.Calls⟩⟩ (i:Int) (((O l.F i).P.length:Nat):Int)=some ⟨putV l i A⟩:=by
 obtain⟨m,hm⟩:=hx
 have hset:O (l.F.set i A) i=A:=Q0 hi
 have hc:=Qy0 (l:={ l with F:=l.F.set i A }) (i:=i) (k:=(O l.F i).P.length) (by show i<(l.F.set i A).length;rw[CM];exact hi) (by show QA (O (l.F.set i A) i);rw[hset];exact hA)
  (by show _<=(O (l.F.set i A) i).P.length;rw[hset,hm];simp) hcl
 refine hc.trans ?_
 show some (D.worker.mk { l with F:=l.F.set i A,Calls:=l.Calls++QN (O (l.F.set i A) i).S l.Fence ((O (l.F.set i A) i).P.drop (O l.F i).P.length) })=_
 rw[hset];rfl
def Qqd(h:LW M n l)(hpg:l.F.length<=9)(hi:i<l.F.length):QH 1000 ⟨l⟩ (i:Int)=some ⟨runI l i⟩:=by
 have hcl:=h.callsLe hpg
 have hat:=h.at hi
 have hpl:=hat.1.plen h.book
 refine Ok.eq ?_
 unfold QH
 refine Ok.natn (Ok.lt hi (Ok.get hi (Ok.oe (QC1 h.cfg h.small h.book hpl) ?_)))
 have hext:=Qqg (c:=l.E) (now:=l.E8) h.book hat.1
 have hR:=hpl.runV (c:=l.E) (now:=l.E8) h.book
 have hid:=(Qa6 (c:=l.E) (now:=l.E8) h.book QT.step hat.1).id
 have herr:=(QeP (c:=l.E) (now:=l.E8) h.book QT.step hat.1).2.1
 rw[h.runEq hi]
 obtain⟨R,e,hRe⟩:∃R e,runV l.E l.a (O l.F i) l.E8=(R,e):=⟨_,_,rfl⟩
 rw[hRe]at hext hR hid herr |-
 try dsimp only at hext hR hid herr |-
 subst herr
 refine Ok.NS (Ok.natn (Ok.lt hi (Ok.get hi (Ok.natn (Ok.lt hi (Ok.get hi ?_))))))
 exact Ok.oe (QxN hi hR hext U) (Ok.s rfl)
def QzU(h:Qd M n l)(hpg:l.F.length<=9):∀{k:Nat},k<l.F.length->QH 1000 ⟨Zu l k⟩ (k:Int)=some ⟨Zu l (k+1)⟩:=fun{k} hk=>by
 have hr:=h.runs (k:=k) U
 have hl:=(Ya (l:=l) (k:=k)).2.2.2.2.2.2
 exact Qqd hr.w (by rw[hl];exact hpg) (by rw[hl];exact hk)
def QBU(hf:0<=l.Fence/\l.Fence<=1048576)(hk:o.Z=2):Yk 1000 ⟨l⟩ o=some ((opV l o).2,⟨(opV l o).1⟩):=by
 refine Ok.eq ?_
 unfold Yk opV
 rw[iA U,iB hk,Qc (by dsimp only;omega)]
 refine Ok.ite (fun g=>Ok.s ?_) (fun g=>Ok.s ?_)
 .simp_all
 .simp_all
def Qyf(h:LW M n l)(hpg:l.F.length<=9)(ho:OpIn o)(hk:o.Z=3):ZY 1000 ⟨l⟩ o=some ((opV l o).2,⟨(opV l o).1⟩):=by
 have hop:=ho.page
 refine Ok.eq ?_
 unfold ZY opV
 rw[iA U,iA U,iB hk]
 refine Ok.TG (fun y=>y=((),(l.E8,l.E.FI,l.E.k,l.E.o,l.E.f,l.a.t,l.a.j,l.FB,l.Fence,()),o,l.F,l.g,l.Calls,())/\o.Region=l.FB/\o.Fence=l.Fence) (fun y hy=>?_) (fun zG hJ=>Ok.ite (fun g=>Ok.s ?_) (fun g=>Ok.ite (fun g2=>Ok.s ?_) (fun g2=>hJ _ ⟨rfl,by simpa using g,by simpa using g2⟩)))
 .obtain⟨rfl,g1,g2⟩:=hy
  try dsimp only
  rw[iB ⟨g1,g2⟩]
  refine Ok.oe (Ql5 (l:=l) h U) (Ok.ncnd (fun hh=>Ok.s ?_) (fun hh=>?_))
  .simp_all
  .rw[iB hh]
   have hi:=(WB hh).1
   refine Ok.natn (Ok.lt hi (Ok.get hi ?_))
   have hrun:=Qqd h hpg hi
   obtain⟨pg,hpg2⟩:∃pg,O l.F (posV o.Page l.F)=pg:=⟨_,rfl⟩
   rw[hpg2]
   have hw:Y1 pg l.E8=((dueV pg).2 && decide ((dueV pg).1<=l.E8)):=rfl
   have hkk:(if pg.p=2 then(-1:Int)else pg.E9)=QiS pg:=rfl
   rw[hkk]
   refine Ok.TG (fun y=>y=((((posV o.Page l.F:Nat):Int),()),(l.E8,l.E.FI,l.E.k,l.E.o,l.E.f,l.a.t,l.a.j,l.FB,l.Fence,()),l.F,l.g,l.Calls,())/\Y1 pg l.E8=true/\o.K=QiS pg) (fun y hy=>?_) (fun zG hJ=>?_)
   .obtain⟨rfl,g3,g4⟩:=hy
    try dsimp only
    rw[iB ⟨g3,g4⟩]
    exact Ok.oe hrun (Ok.s rfl)
   .refine Ok.oe Qn9 (Ok.J (fun g3=>Ok.ite (fun g4=>Ok.s ?_) (fun g4=>Ok.oe QzD (Ok.ite (fun g5=>Ok.s ?_) (fun g5=>hJ _ ⟨rfl,?_,?_⟩)))) (fun g3=>Ok.s ?_))
    .rw[iA (fun hx=>by rw[hw,g3]at hx;have:=BE (show decide ((dueV pg).1<=l.E8)=true by simpa using hx.1);omega)]
    .rw[iA (fun hx=>g5 hx.2.symm)]
    .simp_all
    .omega
    .simp_all
 .simp_all
 .simp_all
def Qx3(h:Qd M n l)(hpg:l.F.length<=9)(hd:DecL l)(hk:o.Z=4)(ha:YX o.b=true):ZP 1000 ⟨l⟩ o=some ((opV l o).2,⟨(opV l o).1⟩):=by
 have hcl:=h.callsLe hpg
 have hap:=(Qsn ha).2
 refine Ok.eq ?_
 unfold ZP opV
 rw[iA U,iA U,iA U,iB hk]
 refine Ok.oe (Ql5 (l:=l) h.w U) (Ok.ncnd (fun hh=>Ok.s ?_) (fun hh=>?_))
 .simp_all
 .rw[iB hh]
  have hi:=WB hh
  refine Ok.oe (Qqd h.w hpg hi.1) ?_
  have h2:=h.run hi.1
  have hkp:=YK (l:=l) (i:=posV o.b.Page l.F)
  obtain⟨i,hie⟩:∃i,posV o.b.Page l.F=i:=⟨_,rfl⟩
  rw[hie]at hi h2 hkp |-
  have hi2:i<(runI l i).F.length:=U
  have hcl2:=h2.callsLe U
  refine Ok.natn (Ok.lt hi2 (Ok.get hi2 ?_))
  have hpl2:=h2.plens _ (Qf hi2)
  have hde:(O (runI l i).F i).i.length<=11:=by
   have:=((hd.run h hi.1) _ (Qf (hie ▸ hi2))).dlen (h2.at hi2).1.declined
   omega
  obtain⟨a,hae⟩:∃a:D.b,a=D.b.mk o.b.S o.b.Page o.b.Q o.b.Z o.b.Ft (runI l i).E8:=⟨_,rfl⟩
  have hae2:D.b.mk o.b.S o.b.Page o.b.Q o.b.Z o.b.Ft l.E8=a:=by rw[hae,hkp.1]
  rw[<-hae]
  refine Ok.oe (Qwa h2.book hpl2 hde) ?_
  have hz:=QaM (b:=(runI l i).a) (p:=O (runI l i).F i) (a:=a)
  have hAl:=hpl2.answerV (a:=a) h2.book
  show Ok _ (·=((if (answerV l.a (O (runI l i).F i) (D.b.mk o.b.S o.b.Page o.b.Q o.b.Z o.b.Ft l.E8)).2=0 then(putV (runI l i) i (answerV l.a (O (runI l i).F i) (D.b.mk o.b.S o.b.Page o.b.Q o.b.Z o.b.Ft l.E8)).1,(0:Int))else(runI l i,(answerV l.a (O (runI l i).F i) (D.b.mk o.b.S o.b.Page o.b.Q o.b.Z o.b.Ft l.E8)).2)).2,(D.worker.mk (if (answerV l.a (O (runI l i).F i) (D.b.mk o.b.S o.b.Page o.b.Q o.b.Z o.b.Ft l.E8)).2=0 then(putV (runI l i) i (answerV l.a (O (runI l i).F i) (D.b.mk o.b.S o.b.Page o.b.Q o.b.Z o.b.Ft l.E8)).1,(0:Int))else(runI l i,(answerV l.a (O (runI l i).F i) (D.b.mk o.b.S o.b.Page o.b.Q o.b.Z o.b.Ft l.E8)).2)).1)))
  rw[hae2,<-hkp.2.2.1]
  obtain⟨A,e,hA⟩:∃A e,answerV (runI l i).a (O (runI l i).F i) a=(A,e):=⟨_,_,rfl⟩
  rw[hA]at hz hAl |-
  try dsimp only at hz hAl |-
  by_cases he:e=0
  .rw[iB he]
   have hq:=hz he
   have hext:Ext (O (runI l i).F i) A:=by
    rcases hq with rfl|rfl
    .exact Ext.refl _
    .exact Qeh
   refine Ok.n (fun g=>g he) (Ok.natn (Ok.lt hi2 (Ok.get hi2 (Ok.natn (Ok.lt hi2 (Ok.get hi2 ?_))))))
   exact Ok.oe (QxN hi2 hAl hext U) (Ok.s rfl)
  .rw[iA he]
   exact Ok.p he (Ok.s rfl)
end
end
section
open Go AM
attribute [local irreducible] dueV stepV runV QE answerV
section
def OpIn.validE(ho:OpIn o):Qam 1000 o=some true:=by
 refine Ok.eq ?_
 unfold Qam
 refine Ok.oe oin (Ok.bt (Qt.2 ho.id) (Ok.oe oin (Ok.bt (Qt.2 ho.kind) (Ok.oe oin (Ok.bt (Qt.2 ho.region) (Ok.oe oin (Ok.bt (Qt.2 ho.fence) (Ok.oe oin (Ok.bt (Qt.2 ho.at_) (Ok.oe oin (Ok.bt (Qt.2 ho.page) (Ok.oe oin (Ok.bt (Qt.2 ho.k) ?_)))))))))))))
 exact Ok.ite (fun g=>Ok.s rfl) (fun g=>Ok.oe QuH (Ok.bt (ho.answer U).1 (Ok.s rfl)))
end
end
section
attribute [local irreducible] dueV stepV runV QE answerV
section
def QvA(h:Runs l ops):Qg2 1000 l ops=some (opsV l ops,Qbe l ops):=by
 have hlen:=h.len
 refine Ok.eq ?_
 unfold Qg2
 have h0:=h.fin 0 (BM _)
 rw[BW]at h0
 refine Ok.oe h0.copy ?_
 refine Ok.run ops.length (fun j=>((ops,(j:Int),()),opsV l (ops.take j),({ E8:=0,E:={ FI:=[],k:=[],o:=[],f:=[] },a:={ t:=[],j:=[] },F:=[],FB:=0,Fence:=0,g:=[],Calls:=[] }:D.G),Qbe l (ops.take j),())) rfl U (fun j hj k hk=>?_) (fun k=>?_)
 .try dsimp only
  have ha:=h.at_ j hj
  have hf:=h.fin (j+1) U
  have hel:=QiB (ops:=ops.take j) (l:=l)
  rw[Af]at hel
  try dsimp only at hk
  rw[QjK hj]at hk
  rw[QfW hj]at hk hf
  refine Ok.P (Ok.atn hj (Ok.oe ha.TM ?_))
  obtain⟨l',e,hle⟩:∃l' e,Zk (opsV l (ops.take j)) (O ops j)=(l',e):=⟨_,_,rfl⟩
  rw[hle]at hf hk |-
  try dsimp only at hf hk |-
  refine Ok.j (Ok.oe hf.check (Ok.t ?_))
  try dsimp only
  refine Ok.LS ?_
  try dsimp only
  rw[Qa U]
  exact hk
 .try dsimp only
  rw[Ad]
  exact Ok.N (Ok.s rfl)
end
end
section
open Go AM
attribute [local irreducible] dueV stepV runV QE answerV
section
def QCM(hl:L.length<=64):QB 1000 L (posV P.S L:Int) [P]=some (insP L P):=by
 have hp:=Qcp (id:=P.S) (l:=L)
 refine Ok.eq ?_
 unfold QB insP
 by_cases g:posV P.S L=L.length
 .rw[iB U]
  unfold XR
  refine Ok.natn (Ok.TO hp (Ok.NS (Ok.P (Ok.LS (Ok.s ?_)))))
  simp_all
 .rw[iA U]
  exact Ok.natn (Ok.E (Ok.L (Ok.s rfl)))
def QzH(h:Qd M n l)(hpg:l.F.length<=8)(ho:OpIn o)(hk:o.Z=1):Z6 1000 ⟨l⟩ o=some ((opV l o).2,⟨(opV l o).1⟩):=by
 have hnow:=h.now;have htop:=h.top;have hpl:=h.book.plen;have hop:=ho.page
 refine Ok.eq ?_
 unfold Z6 opV
 rw[iB hk]
 refine Ok.oe (Ql5 (l:=l) h.w U) (Ok.J (fun g=>Ok.s ?_) (fun g=>?_))
 .rw[iB g]
 replace g:hasV o.Page l.F=false:=g
 rw[iA (by rw[g];simp)]
 refine Ok.n (by dsimp only;omega) ?_
 rw[iA U]
 refine Ok.oe (QBQ h.book) ?_
 unfold newV
 by_cases g1:o.Page<1
 .rw[iB g1,iA (fun hh=>by have:=Qt.1 hh.1;omega)]
  exact Ok.PS (Ok.s rfl)
 rw[iA g1,iB ⟨Qt.2 U,Qt.2 (by dsimp only;omega)⟩]
 by_cases g2:0<=o.W/\o.W<(l.a.j.length:Int)
 .rw[iB g2,iB (Qt.2 (by dsimp only;omega))]
  try dsimp only
  refine Ok.NS ?_
  obtain⟨hi1,hi2,hi3⟩:=h.open (o:=o) g U g2 U
  have hP:(newP o.Page o.W l.E8).S=o.Page:=rfl
  have hins:=QCM (P:=newP o.Page o.W l.E8) (L:=l.F) h.len
  rw[hP]at hins
  refine Ok.oe hins ?_
  exact Ok.oe (Qqd hi1.w (by show(insP l.F _).length<=9;rw[QiL];omega) hi2) (Ok.s rfl)
 .rw[iA g2,iA (fun hh=>g2 (by have:=Qt.1 hh;dsimp only at this;omega))]
  exact Ok.PS (Ok.s rfl)
def OkAt.applyN(h:OkAt l o)(hne:o.Z≠5):Qan 1000 l o=some ((Zk l o).1,(Zk l o).2,true):=by
 obtain⟨M,n,h1,h2,h3⟩:=h.ok
 have hpg:=h.pg;have hsl:=h.len;have ho:=h.op;have hfe:=h1.fence
 refine Ok.eq ?_
 unfold Qan
 refine Ok.j (Ok.oe h.led.checkE (Ok.t (Ok.oe ho.validE (Ok.t ?_))))
 try dsimp only
 refine Ok.oe h.led.copyE (Ok.oe (QaP U) (Ok.J (fun g=>Ok.s ?_) (fun g=>?_)))
 .unfold Zk;rw[iB g]
 rw[Qai g]
 have hsee:=h1.see ho h3 g hsl
 have hsp:(seeV l o).F.length<=8:=hpg
 have hsf:0<=(seeV l o).Fence/\(seeV l o).Fence<=1048576:=by show 0<=l.Fence/\l.Fence<=1048576;omega
 have hsd:DecL (seeV l o):=h.dec
 have hkd:=ho.kind
 have key:∀r:Int×D.worker,r=((opV (seeV l o) o).2,⟨(opV (seeV l o) o).1⟩)->Ok (some (D.G.mk r.2.G.E8 (D.E.mk r.2.G.E.FI r.2.G.E.k r.2.G.E.o r.2.G.E.f) (D.a.mk r.2.G.a.t r.2.G.a.j) r.2.G.F r.2.G.FB r.2.G.Fence r.2.G.g r.2.G.Calls,r.1,true)) (·=((opV (seeV l o) o).1,(opV (seeV l o) o).2,true)):=fun r e=>by
  subst e
  obtain⟨L,e,hLe⟩:∃L e,opV (seeV l o) o=(L,e):=⟨_,_,rfl⟩
  rw[hLe]
  exact Ok.s rfl
 refine Ok.N (Ok.LS (Ok.j ?_))
 refine Ok.ite (fun k1=>?_) (fun k1=>Ok.ite (fun k2=>?_) (fun k2=>Ok.ite (fun k3=>?_) (fun k3=>Ok.ite (fun k4=>?_) (fun k4=>?_))))
 .exact Ok.oe (QzH (l:=seeV l o) hsee hsp ho k1) (key _ rfl)
 .exact Ok.oe (QBU (l:=seeV l o) hsf k2) (key _ rfl)
 .exact Ok.oe (Qyf (l:=seeV l o) hsee.w U ho k3) (key _ rfl)
 .exact Ok.oe (Qx3 (l:=seeV l o) hsee U hsd k4 (ho.answer k4).1) (key _ rfl)
 .omega
def Led.waiting(h:Led l):UD 1000 l t=some (Qef l.F t):=by
 have hpg:=h.pg
 refine Ok.eq ?_
 unfold UD
 refine Ok.oe h.checkE (Ok.nt rfl ?_)
 refine Ok.run l.F.length (fun i=>((t,l.F,(l.F.length:Int),(i:Int),()),Qef (l.F.take i) t,())) rfl U (fun i hi k hk=>?_) (fun k=>?_)
 .try dsimp only
  have hs:=QoL (t:=t) hi
  have hlen:=Qnf (L:=l.F.take i) (t:=t)
  rw[Af]at hlen
  try dsimp only at hk
  rw[hs]at hk
  refine Ok.P (Ok.j (Ok.atn hi (Ok.oe Qn9 (Ok.J (fun g=>Ok.ite (fun g2=>Ok.LS ?_) (fun g2=>?_)) (fun g=>?_)))))
  .try dsimp only
   rw[Qa U]
   rw[iB (by unfold Y1;rw[g,decide_eq_true g2];rfl)]at hk;exact hk
  .try dsimp only
   rw[Qa U]
   rw[iA (by unfold Y1;rw[decide_eq_false g2];simp),Ao]at hk;exact hk
  .try dsimp only
   rw[Qa U]
   rw[iA (by unfold Y1;rw[g];simp),Ao]at hk;exact hk
 .try dsimp only
  refine Ok.N (Ok.s ?_)
  rw[Ad]
def Qvz(h:Runs l ops)(hne:∀o∈ops,o.Z≠5):YW 1000 l ops=some (opsV l ops,Qbe l ops):=by
 have hlen:=h.len
 refine Ok.eq ?_
 unfold YW
 have h0:=h.fin 0 (BM _)
 rw[BW]at h0
 refine Ok.oe (Led.copyE (l:=l) h0) ?_
 refine Ok.run ops.length (fun j=>((ops,(ops.length:Int),(j:Int),()),opsV l (ops.take j),({ E8:=0,E:={ FI:=[],k:=[],o:=[],f:=[] },a:={ t:=[],j:=[] },F:=[],FB:=0,Fence:=0,g:=[],Calls:=[] }:D.G),Qbe l (ops.take j),())) rfl U (fun j hj k hk=>?_) (fun k=>?_)
 .try dsimp only
  have ha:=h.at_ j hj
  have hel:=QiB (ops:=ops.take j) (l:=l)
  rw[Af]at hel
  try dsimp only at hk
  rw[QjK hj]at hk
  rw[QfW hj]at hk
  refine Ok.P (Ok.atn hj (Ok.oe (ha.applyN (hne _ (Qf hj))) ?_))
  refine Ok.LS ?_
  try dsimp only
  rw[Qa U]
  exact hk
 .try dsimp only
  rw[Ad]
  exact Ok.N (Ok.s rfl)
end
end
section
attribute [local irreducible] dueV stepV runV QE answerV opV Zk opsV Qbe
section
variable {n:Nat} {M:Int} {l x:D.G} {o:D.Op} {i k:Nat} {t r id now f:Int}
def owin{fu:Nat}{x lo hi:Int}:QgR fu x lo hi=some (inV x lo hi):=by
 unfold QgR inV
 by_cases h1:lo<=x<;>by_cases h2:x<=hi<;>simp[cd,AM.J,h1,h2]
structure OwnE (l:D.G):Prop where
 r:OwnR l
 chkE:XH 1000 l=some true
 waitE:∀t,UD 1000 l t=some (Qef l.F t)
 findE:∀p∈l.F,QdJ 1000 l p.S=some (Qdk l p.S)
def Led.ownE(h:Led l):OwnE l:=by
 obtain⟨M,n,h1,h2⟩:=h.ok
 exact⟨h.ownR,h.checkE,fun t=>h.waiting,fun p hp=>QyD h1 (by have:=(h1.page p hp).1.id;omega)⟩
def Quu(h:OwnE l):Qcj 1000 l r id now=some (if QfA r id now=true then 0 else 1):=by
 refine Ok.eq ?_
 unfold Qcj QfA
 refine Ok.oe h.chkE (Ok.nt rfl (Ok.j (Ok.oe owin (Ok.J (fun g1=>Ok.oe owin (Ok.J (fun g2=>Ok.oe owin (Ok.J (fun g3=>Ok.s ?_) (fun g3=>Ok.s ?_))) (fun g2=>Ok.s ?_))) (fun g1=>Ok.s ?_)))))
 all_goals simp[*]
def QwG(h:OwnE l):Qaq 1000 l r id now=some (QlN l r id now):=by
 have hf:=h.r.fence
 refine Ok.eq ?_
 unfold Qaq QlN
 refine Ok.oe (Quu h) ?_
 by_cases g:QfA r id now=true
 .rw[iB g,iB g]
  refine Ok.NS (Ok.ite (fun g2=>Ok.s ?_) (fun g2=>Ok.s ?_))
  .rw[iB g2];rfl
  .rw[iA g2,Qc (x:=l.Fence+1) U];rfl
 .rw[iA g,iA g];exact Ok.PS (Ok.s rfl)
def QvH(h:OwnE l):QcW 1000 l r id now=some (QrD l r id now):=by
 have hpg:=h.r.pg
 have hwl:=Qne (l:=l) (t:=now);have hwe:=Qjv (l:=l) (t:=now)
 refine Ok.eq ?_
 unfold QcW QrD
 refine Ok.j (Ok.oe (Quu h) ?_)
 by_cases g:QfA r id now=true
 .obtain⟨c1,c2,c3⟩:=QlM.1 g
  rw[iB g]
  refine Ok.NS (Ok.ite (fun g2=>Ok.s (by rw[iA (fun h=>g2 h.2.1)])) (fun g2=>?_))
  have g2:r=l.FB:=Ag.1 g2
  rw[Qc (x:=id+(l.F.length:Int)) U]
  refine Ok.ite (fun g3=>Ok.s (by rw[iA (fun h=>U)])) (fun g3=>?_)
  rw[iB ⟨g,g2,U⟩]
  try dsimp only
  refine Ok.oe (h.waitE now) ?_
  refine Ok.run (Qbm l now).length (fun k=>((r,id,now,Qef l.F now,(((Qef l.F now).length:Nat):Int),(k:Int),()),l,(QcA l id now).take k,())) rfl U (fun k hk K hK=>?_) (fun K=>?_)
  .try dsimp only
   have hl:((QcA l id now).take k).length<=9:=by rw[Af,Wo];omega
   try dsimp only at hK
   rw[QkB hk]at hK
   refine Ok.P (Ok.A ?_)
   rw[Qsq hk]
   refine Ok.oe (h.findE _ (Qol hk)) ?_
   rw[Qrf h.r hk]
   refine Ok.j ?_
   have hw:X (id+(k:Int))=id+k:=Qc U
   refine Ok.ite (fun g4=>Ok.LS ?_) (fun g4=>Ok.LS ?_)
   .try dsimp only at g4 |-
    rw[hw,Qa U]
    have e:Qad l id now k=D.Op.mk (id+k) 3 r l.Fence now (QaZ l now k).S (-1) 0 0 (D.b.mk 0 0 0 0 0 0) (D.s.mk 0 0 0 0 0):=by unfold Qad QiS;rw[iB g4,g2];rfl
    rw[<-e];exact hK
   .try dsimp only at g4 |-
    rw[hw,Qa U]
    have e:Qad l id now k=D.Op.mk (id+k) 3 r l.Fence now (QaZ l now k).S (QaZ l now k).E9 0 0 (D.b.mk 0 0 0 0 0 0) (D.s.mk 0 0 0 0 0):=by unfold Qad QiS;rw[iA g4,g2];rfl
    rw[<-e];exact hK
  .try dsimp only
   exact Ok.N (Ok.s (Bl (by rw[Wo];omega)))
 .rw[iA g];exact Ok.PS (Ok.s (by rw[iA (fun h=>g h.1)]))
end
end
section
open Go AM
def Qvy(h:Led l):YW 1000 l []=some (l,[]):=
 Qvz (l:=l) (ops:=[]) ⟨fun j hj=>absurd hj Ob,fun j _=>by rw[List.take_nil];exact h,Ob⟩ Ob
attribute [local irreducible] dueV stepV runV QE answerV opV Zk opsV Qbe
section
def vin:QaA fu x lo hi=some (inV x lo hi):=by
 unfold QaA inV
 by_cases h1:lo<=x<;>by_cases h2:x<=hi<;>simp[cd,AM.J,h1,h2]
def gin:UQ fu x lo hi=some (inV x lo hi):=vin (fu:=fu)
def pin:QdL fu x lo hi=some (inV x lo hi):=vin (fu:=fu)
def inn(h1:lo<=x)(h2:x<=hi):inV x lo hi=true:=Qt.2 ⟨h1,h2⟩
structure Shp (n:Nat) (r:D.N):Prop where
 term:r.T<=1048576
 voted : -1<=r.Fe/\r.Fe<n
 role:(r.FJ=0/\r.FS=[]/\r.FE=[])\/(r.FJ=1/\r.FS.length=n/\O r.FS r.S.toNat=true/\r.FE=[])\/
  (r.FJ=2/\r.FS.length=n/\O r.FS r.S.toNat=true/\r.FE.length=n/\O r.FE r.S.toNat=r.l.length/\∀j,j<n->0<=O r.FE j/\O r.FE j<=r.l.length)
def QtI(hn:1<=n/\n<=5)(h:Shp n r)(hid:0<=r.S/\r.S<n)(hl:r.l.length<=256)(hc:0<=r.h/\r.h<=r.l.length)(ht:0<=r.T)(hf:∀k,k<r.l.length->(if k=0 then 1 else(O r.l (k - 1)).T)<=(O r.l k).T/\(O r.l k).T<=r.T):Um 1000 n r=some true:=by
 have hterm:=h.term;have hv:=h.voted
 have logged:Qe1 1000 r=some true:=by
  refine Ok.eq ?_
  unfold Qe1
  refine Ok.run r.l.length (fun i=>(((if i=0 then 1 else(O r.l (i - 1)).T),r.l,(r.l.length:Int),(i:Int),()),r,())) rfl U (fun i hi K hK=>?_) fun K=>?_
  .obtain⟨f1,f2⟩:=hf i hi
   dsimp only at hK |-
   refine Ok.P (Ok.atn hi (Ok.oe vin (Ok.nt (inn (by show _<=(O r.l i).T;omega) (by show(O r.l i).T<=_;omega)) ?_)))
   rw[Qa U]
   simp_all
  .exact Ok.n (by show ¬(r.l.length:Int)<(r.l.length:Int);omega) (Ok.P (Ok.oe vin (Ok.bt (inn U U) (Ok.s rfl))))
 refine Ok.eq ?_
 unfold Um
 refine Ok.j (Ok.oe vin (Ok.bt (inn U U) ?_))
 rw[Qc (x:=(n:Int) - 1) U]
 refine Ok.oe vin (Ok.bt (inn U U) (Ok.oe vin (Ok.bt (inn U U) (Ok.oe vin (Ok.bt (inn U U) (Ok.oe logged (Ok.t ?_)))))))
 dsimp only
 have vs:r.FS.length=n->O r.FS r.S.toNat=true->Qee 1000 n r=some true:=fun e1 e2=>by
  refine Ok.eq ?_
  unfold Qee
  exact Ok.P (Ok.at U U (Ok.bt e2 (Ok.s rfl)))
 rcases h.role with e|e|e
 .exact Ok.p e.1 (Ok.p (by rw[e.2.1];rfl) (Ok.p (by rw[e.2.2];rfl) (Ok.s rfl)))
 .exact Ok.N (Ok.p e.1 (Ok.oe (vs e.2.1 e.2.2.1) (Ok.t (Ok.p (by rw[e.2.2.2];rfl) (Ok.s rfl)))))
 .obtain⟨e1,e2,e3,e4,e5,e6⟩:=e
  refine Ok.N (Ok.N (Ok.p e1 (Ok.oe (vs e2 e3) (Ok.t (Ok.oe (v:=true) ?_ (Ok.t (Ok.s rfl)))))))
  refine Ok.eq ?_
  unfold Qgy
  refine Ok.P (Ok.at U U (Ok.P (Ok.oe (v:=false) ?_ (Ok.f (Ok.s rfl)))))
  refine Ok.eq ?_
  unfold Zo
  refine Ok.oe (v:=-1) ?_ (Ok.TF (Ok.s Ob))
  refine Ok.eq ?_
  unfold ZI
  refine Ok.run n (fun i=>((r.FE,(r.FE.length:Int),(i:Int),()),r,())) rfl U (fun i hi K hK=>?_) fun K=>Ok.n (by show ¬(n:Int)<(r.FE.length:Int);omega) (Ok.TF (Ok.s rfl))
  have:=e6 i hi
  dsimp only at hK |-
  refine Ok.P (Ok.A (Ok.oe (v:=false) ?_ (Ok.f ?_)))
  .refine Ok.eq ?_
   unfold Qdv
   exact Ok.oe vin (Ok.TF (Ok.s (by rw[inn this.1 this.2];rfl)))
  .rw[Qa U]
   exact hK
structure CX (n:Nat) (P:D.Op->Prop) (c:D.H):Prop where
 sz:1<=n/\n<=5
 len:c.M.length=n
 dn:c.FT.length=n
 ck:Vf 1000 c=some true
 cp:Vp 1000 c=some c
 rep:∀i,i<n->(O c.M i).S=i/\Um 1000 n (O c.M i)=some true/\V7 1000 (O c.M i)=some (O c.M i)/\(O c.M i).l.length<=256/\((O c.M i).FJ=2->(O c.M i).FE.length=n)
 ops:∀i,i<n->∀e∈(O c.M i).l,P e.Op
def QB2{n:Nat}(hn:1<=n/\n<=5):Qe0 1000 n=some ((n / 2+1:Nat):Int):=by
 refine Ok.eq ?_
 unfold Qe0
 have e:Int.tdiv (n:Int) 2=((n / 2:Nat):Int):=by rw[Bz U];omega
 rw[e,Qc (x:=((n / 2:Nat):Int)) U,Qc (x:=((n / 2:Nat):Int)+1) U]
 exact Ok.oe vin (Ok.nt (inn U U) (Ok.Z (Ok.s U)))
def QzJ(hl:Led p.FW)(hser:1<=p.FR/\p.FR<=1000)(h:CX n P p.H)(hP:∀o,P o->OpIn o/\o.S<p.FR):Xp 1000 p=some true:=by
 have hlen:=h.len;have hn:=h.sz
 refine Ok.eq ?_
 unfold Xp
 refine Ok.j (Ok.oe hl.checkE (Ok.t (Ok.oe h.ck (Ok.t (Ok.oe pin (Ok.bt (inn U U) ?_))))))
 dsimp only
 rw[hlen]
 refine Ok.run n (fun i=>((p.H.M,(n:Int),(i:Int),()),p,())) rfl U (fun i hi K hK=>?_) fun K=>Ok.n (by show ¬(n:Int)<(n:Int);omega) (Ok.s rfl)
 dsimp only at hK |-
 refine Ok.P (Ok.A ?_)
 have hsh:=(h.rep i hi).2.2.2.1
 have hlog:=h.ops i hi
 obtain⟨zH,hC⟩:∃zH,zH=(O p.H.M i).l:=⟨_,rfl⟩
 rw[<-hC]at hsh hlog |-
 refine Ok.run zH.length (fun k=>((p.H.M,(n:Int),(i:Int),zH,(zH.length:Int),(k:Int),()),p,())) rfl U (fun k hk K2 hK2=>?_) fun K2=>Ok.n (by show ¬(zH.length:Int)<(zH.length:Int);omega) ?_
 .dsimp only at hK2 |-
  have hq:=hP _ (hlog _ (Qf hk))
  refine Ok.P (Ok.j (Ok.atn hk (Ok.oe hq.1.validE (Ok.t (Ok.n (by have:=hq.2;omega) ?_)))))
  dsimp only
  rw[Qa U]
  exact hK2
 .dsimp only
  rw[Qa U]
  exact hK
def QuZ(h:CX n P c):QbU 1000 c=some c:=by
 refine Ok.eq ?_
 unfold QbU
 exact Ok.oe h.cp (Ok.s rfl)
def Qm3(h:CX n P p.H)(hl:Led p.FW):Qck 1000 p k=some (D.site.mk p k 0):=by
 refine Ok.eq ?_
 unfold Qck
 exact Ok.oe (Qvy hl) (Ok.oe (QuZ h) (Ok.s rfl))
structure Lead (n i:Nat) (p:D.c):Prop where
 n1:n≠1
 lt:i<n
 up:O p.H.FT i=false
 role:(O p.H.M i).FJ=2
 fresh:∀e∈(O p.H.M i).l,e.Op.S≠p.FR
 room:(O p.H.M i).l.length<256
structure PX (n:Nat) (p:D.c):Prop where
 base:Led p.FW
 ser:1<=p.FR/\p.FR<=1000
 cx:CX n (fun o=>OpIn o/\o.S<p.FR) p.H
def PX.ck(h:PX n p):Xp 1000 p=some true:=QzJ h.base h.ser h.cx fun _=>id
end
end
section
def Shp.fol(h:Shp n r)(ht:t<=1048576):Shp n (folV r t):=by
 unfold folV
 split
 .exact⟨ht,by dsimp only;omega,.inl ⟨rfl,rfl,rfl⟩⟩
 .exact h
def Shp.hear(h:Shp n r)(hm:CkM n r m k):Shp n (QbG r m).1:=by
 have hf:=h.fol hm.term.2
 unfold QbG
 dsimp only
 split
 .exact⟨hf.term,by have:=hm.from0;dsimp only;omega,hf.role⟩
 .exact hf
def Shp.lead(h:Shp n r)(hn:0<=r.S/\r.S<n)(h1:r.FJ=1):Shp n (QhT n r):=by
 rcases h.role with e|e|e
 .omega
 .refine⟨h.term,h.voted,.inr (.inr ⟨rfl,e.2.1,e.2.2.1,by simp[QhT],?_,fun j hj=>?_⟩)⟩
  .show O ((List.replicate n (0:Int)).set r.S.toNat _) r.S.toNat=_
   rw[Q0 (by simp;omega)];rfl
  .show 0<=O ((List.replicate n (0:Int)).set r.S.toNat _) j/\O ((List.replicate n (0:Int)).set r.S.toNat _) j<=(r.l.length:Int)
   by_cases q:j=r.S.toNat
   .rw[q,Q0 (by simp;omega)];omega
   .rw[Yl q];simp[O,hj]
 .omega
def Shp.votes(h:Shp n r)(h1:r.FJ=1)(hm:CkM n r m k):Shp n { r with FS:=r.FS.set m.v.toNat true }:=by
 rcases h.role with e|e|e
 .omega
 .refine⟨h.term,h.voted,.inr (.inl ⟨h1,by simp[e.2.1],?_,e.2.2.2⟩)⟩
  have:=hm.from0;have:=hm.ne;have:=hm.rep.id
  show O (r.FS.set m.v.toNat true) r.S.toNat=true
  rw[Yl U];exact e.2.2.1
 .omega
def Shp.cast(h:Shp n r)(hm:CkM n r m k):Shp n (Qae n r m):=by
 unfold Qae
 split
 .exact h.fol hm.term.2
 split
 .exact h
 .next y=>
  have h1:r.FJ=1:=CK fun z=>y (.inl z)
  have h2:=h.votes h1 hm
  split
  .exact h2.lead hm.rep.id h1
  .exact h2
def Shp.hrd(h:Shp n r)(ht:m.T<=1048576):Shp n (hrdV r m):=by
 have hf:=h.fol ht
 unfold hrdV
 split
 .next x=>
  refine⟨hf.term,hf.voted,.inl ⟨rfl,rfl,?_⟩⟩
  rcases hf.role with e|e|e
  .exact e.2.2
  .exact e.2.2.2
  .omega
 .exact hf
def Shp.accept(h:Shp n r)(hm:b=true->CkM n r m 3):Shp n (Ur b c r m).1:=by
 unfold Ur
 split
 .exact h
 .next x=>
  have hb:b=true:=by cases b<;>simp at x |-
  have hf:=h.hrd (hm hb).term.2
  split
  .next y=>
   split
   .exact h
   .refine⟨hf.term,hf.voted,?_⟩
    rcases hf.role with e|e|e
    .exact .inl e
    .simp_all
    .exact absurd e.1 y.2.1
  .exact hf
def Shp.acked(h:Shp n r)(hm:CkM n r m k):Shp n (QaL n r m):=by
 unfold QaL
 split
 .exact h.fol hm.term.2
 split
 .exact h
 .next y=>
  have h1:r.FJ=2:=CK fun z=>y (.inl z)
  have h2:¬m.FA<0:=fun z=>y (.inr (.inr (.inr (.inl z))))
  have h3:¬(r.l.length:Int)<m.FA:=fun z=>y (.inr (.inr (.inr (.inr z))))
  rcases h.role with e|e|e
  .omega
  .omega
  .have hf:=hm.from0;have hne:=hm.ne;have hid:=hm.rep.id
   refine⟨h.term,h.voted,.inr (.inr ⟨h1,e.2.1,e.2.2.1,by simp[Qch,e.2.2.2.1],?_,fun j hj=>?_⟩)⟩
   .show O (Qch r m) r.S.toNat=_
    unfold Qch
    rw[Yl U];exact e.2.2.2.2.1
   .show 0<=O (Qch r m) j/\O (Qch r m) j<=_
    have hj2:=e.2.2.2.2.2 j hj
    unfold Qch
    by_cases q:j=m.v.toNat
    .subst q
     rw[Q0 U]
     grind
    .rw[Yl q];exact hj2
def Shp.handle(h:Shp n r)(hm:b=true->CkM n r m m.Z):Shp n (YP n b c r m).1:=by
 unfold YP
 split
 .split
  .exact h
  .next y=>exact h.hear (hm (by simpa using y))
 split
 .dsimp only
  split
  .exact h
  .next y=>exact h.cast (hm (by simpa using y))
 split
 .next y=>exact h.accept fun e=>y ▸ hm e
 split
 .dsimp only
  split
  .exact h
  .next y=>exact h.acked (hm (by simpa using y))
 .exact h
def Shp.prop(h:Shp n r)(hid:0<=r.S/\r.S<n)(h2:r.FJ=2):Shp n (prpV n r o):=by
 rcases h.role with e|e|e
 .omega
 .omega
 .refine⟨h.term,h.voted,.inr (.inr ⟨h2,e.2.1,e.2.2.1,by simp[prpV,e.2.2.2.1],?_,fun j hj=>?_⟩)⟩
  .show O (r.FE.set r.S.toNat _) r.S.toNat=((r.l++[_]).length:Int)
   rw[Q0 U];simp
  .show 0<=O (r.FE.set r.S.toNat _) j/\O (r.FE.set r.S.toNat _) j<=((r.l++[_]).length:Int)
   have:=e.2.2.2.2.2 j hj
   rw[Ac]
   by_cases q:j=r.S.toNat
   .rw[q,Q0 U];simp;omega
   .rw[Yl q];simp;omega
def Shp.stand(h:Shp n r)(hid:0<=r.S/\r.S<n)(ht:r.T<1048576):Shp n (if n / 2+1=1 then QhT n (VQ n r)else VQ n r):=by
 have h1:Shp n (VQ n r):=by
  refine⟨by show r.T+1<=_;omega,by show -1<=r.S/\r.S<n;omega,.inr (.inl ⟨rfl,by simp[VQ],?_,rfl⟩)⟩
  show O ((List.replicate n false).set r.S.toNat true) r.S.toNat=true
  rw[Q0 (by simp;omega)]
 split
 .exact h1.lead hid rfl
 .exact h1
def Shp.back(h:Shp n r):Shp n (Qww r):=⟨h.term,h.voted,.inl ⟨rfl,rfl,rfl⟩⟩
def QBj(hn:1<=n/\n<=5)(h:Shp n r)(hid:0<=r.S/\r.S<n)(hl:r.l.length<=256)(hc:0<=r.h/\r.h<=r.l.length)(ht:0<=r.T)(hf:∀k,k<r.l.length->(if k=0 then 1 else trm r.l (k - 1))<=trm r.l k/\trm r.l k<=r.T):YJ 1000 n r=some true:=by
 have hterm:=h.term;have hv:=h.voted
 have fits:Wg 1000 r.l r.T=some true:=by
  refine Ok.eq ?_
  unfold Wg
  refine Ok.run r.l.length (fun i=>((r.l,r.T,(if i=0 then 1 else trm r.l (i - 1)),(i:Int),()),())) rfl U (fun i hi K hK=>?_) fun K=>?_
  .obtain⟨f1,f2⟩:=hf i hi
   dsimp only
   refine Ok.P (Ok.j (Ok.atn hi (Ok.n (by show ¬trm r.l i<_;omega) (Ok.atn hi (Ok.n (by show ¬r.T<trm r.l i;omega) ?_)))))
   dsimp only at hK |-
   refine Ok.atn hi ?_
   rw[Qa U]
   simp_all
  .exact Ok.N (Ok.s (by simp;omega))
 refine Ok.eq ?_
 unfold YJ
 have inn:∀{x lo hi:Int},lo<=x->x<=hi->inV x lo hi=true:=fun h1 h2=>Qt.2 ⟨h1,h2⟩
 refine Ok.j (Ok.oe Qh6 (Ok.n (by rw[Qoo hn];omega) ?_))
 rw[Qc (x:=(n:Int) - 1) U]
 refine Ok.oe rin (Ok.bt (inn U U) (Ok.oe rin (Ok.bt (inn U U) (Ok.oe rin (Ok.bt (inn U U) (Ok.oe fits (Ok.t (Ok.oe rin (Ok.bt (inn U U) ?_)))))))))
 dsimp only
 rcases h.role with e|e|e
 .exact Ok.p e.1 (Ok.p (by rw[e.2.1];rfl) (Ok.p (by rw[e.2.2];rfl) (Ok.s rfl)))
 .exact Ok.N (Ok.p e.1 (Ok.P (Ok.at U U (Ok.bt e.2.2.1 (Ok.p (by rw[e.2.2.2];rfl) (Ok.s rfl))))))
 .obtain⟨e1,e2,e3,e4,e5,e6⟩:=e
  refine Ok.N (Ok.N (Ok.p e1 (Ok.j (Ok.N (Ok.at U U (Ok.bt e3 (Ok.N (Ok.at U U (Ok.N ?_)))))))))
  refine Ok.run n (fun i=>(((n:Int),(i:Int),()),r,())) rfl U (fun i hi K hK=>?_) fun K=>Ok.n (show ¬(n:Int)<(n:Int)by omega) (Ok.s rfl)
  have:=e6 i hi
  dsimp only at hK |-
  refine Ok.P (Ok.A (Ok.oe rin (Ok.nt (inn this.1 this.2) ?_)))
  rw[Qa U]
  exact hK
def InvC.ck(h:InvC n P Rs W)(hi:i<n)(hn:n<=5)(hs:Shp n (O Rs i))(hl:(O Rs i).l.length<=256):YJ 1000 n (O Rs i)=some true:=by
 have hc:=h.com_le hi
 have hid:=h.id hi
 obtain⟨_,g,x⟩:=h
 have hr:=x.rep i hi
 refine QBj U hs U hl hc hr.pos fun k hk=>⟨?_,(hr.log.term k hk).2⟩
 split
 .exact(hr.log.term k hk).1
 .exact hr.log.asc (k - 1) k U hk
end
open Go AM
section
variable {n zI q fu i:Nat} {c:D.H} {r:D.N} {m:D.d} {o:D.Op} {t k x y:Int} {P:D.Op->Prop}
structure CkC (n:Nat) (c:D.H):Prop where
 len:c.M.length=n
 sz:1<=n/\n<=5
 down:c.FT.length=n
 wire:c.FC.length<=256
 rep:∀i,i<n->(O c.M i).S=i/\YJ 1000 n (O c.M i)=some true/\CkR n (O c.M i)
 msg:∀m∈c.FC,(0<=m.v/\m.v<n)/\(0<=m.To/\m.To<n)/\m.v≠m.To
def isC(L:Y D.FD)(x y:Int):AH:=L.any fun p=>decide (p.a0=min x y/\p.a1=max x y)
def QDg(n:Nat)(L:Y D.FD):Prop:=∀i,i<L.length->0<=(O L i).a0/\(O L i).a0<(O L i).a1/\(O L i).a1<n/\isC (L.take i) (O L i).a0 (O L i).a1=false
structure CI (n qq:Nat) (P:D.Op->Prop) (c:D.H):Prop where
 inv:InvC n P c.M c.FC
 sz:1<=n/\n<=5
 idP:∀o,P o->1<=o.S/\o.S<=(256:Nat)
 shp:∀i,i<n->Shp n (O c.M i)
 dn:c.FT.length=n
 cut:c.Fm.length<=qq
 q:qq<=800
 cutOK:QDg n c.Fm
 wire:c.FC.length<=256
 ents:∀m∈c.FC,m.x.length<=600/\m.v≠m.To
 tm:∀i,i<n->(O c.M i).T<=8*qq+8
def CI.len(h:CI n q P c):c.M.length=n:=h.inv.1
def CI.short(h:CI n q P c)(hi:i<n):(O c.M i).l.length<=256:=h.inv.short hi h.idP
def InvC.msg{Rs:Y D.N}{W:Y D.d}(h:InvC n P Rs W)(hm:m∈W):(0<=m.v/\m.v<n)/\(0<=m.To/\m.To<n):=by
 obtain⟨_,g,x⟩:=h
 exact⟨(x.msg m hm).from0,(x.msg m hm).to0⟩
def QwP{L:Y D.FD}(hl:L.length<=900):QdY 1000 L x y=some (isC L x y):=by
 refine Ok.eq ?_
 unfold QdY
 have e:∀p:D.FD,([p.a0,p.a1]=[min x y,max x y])↔(p.a0=min x y/\p.a1=max x y):=fun p=>by simp
 refine Ok.scan L.length (fun i=>((L,x,y,(i:Int),()),())) (fun i=>decide ((O L i).a0=min x y/\(O L i).a1=max x y)) rfl U (fun i hi hq _ k=>?_) (fun i hi hq k hk=>?_) (fun hq k=>?_)
 .exact Ok.P (Ok.atn hi (Ok.p ((e _).2 (BE hq)) (Ok.s (QjC hi hq).symm)))
 .dsimp only at hk |-
  refine Ok.P (Ok.atn hi (Ok.n (fun g=>BG hq ((e _).1 g)) ?_))
  rw[Qa U]
  exact hk
 .exact Ok.N (Ok.s (QnY hq).symm)
def CI.ck(h:CI n q P c):CkC n c:=
 ⟨h.len,h.sz,h.dn,h.wire,fun i hi=>by
  have hk:=h.inv.ck hi h.sz.2 (h.shp i hi) (h.short hi)
  obtain⟨b,hb,hb2⟩:=QwF (n:=n) (r:=O c.M i) (by have:=h.short hi;omega)
  rw[hk]at hb;cases hb
  exact⟨h.inv.id hi,hk,hb2 rfl⟩,fun m hm=>⟨(h.inv.msg hm).1,(h.inv.msg hm).2,(h.ents m hm).2⟩⟩
def QlG(h:CI n q P c):Qa1 1000 c=some true:=by
 have hc:=h.ck
 have hlen:=h.len;have hn:=h.sz;have hq:=h.q;have hcut:=h.cut;have hw:=h.wire;have hd:=h.dn
 have inn:∀{x lo hi:Int},lo<=x->x<=hi->inV x lo hi=true:=fun h1 h2=>Qt.2 ⟨h1,h2⟩
 refine Ok.eq ?_
 unfold Qa1
 rw[hlen]
 refine Ok.j (Ok.oe Qh6 (Ok.n (by rw[Qoo hn];omega) (Ok.N (Ok.N ?_))))
 dsimp only
 refine Ok.run n (fun i=>(((n:Int),(i:Int),()),c,())) rfl U (fun i hi K hK=>?_) fun K=>?_
 .obtain⟨a1,a2,_⟩:=hc.rep i hi
  dsimp only at hK |-
  refine Ok.P (Ok.j (Ok.A (Ok.N (Ok.A (Ok.oe a2 (Ok.t ?_))))))
  dsimp only
  rw[Qa U]
  exact hK
 .dsimp only
  refine Ok.N (Ok.run c.FC.length (fun i=>(((n:Int),(i:Int),()),c,())) rfl U (fun i hi K hK=>?_) fun K=>?_)
  .obtain⟨a1,a2,a3⟩:=hc.msg _ (Qf hi)
   dsimp only at hK |-
   rw[Qc (x:=(n:Int) - 1) U]
   refine Ok.P (Ok.j (Ok.atn hi (Ok.oe rin (Ok.bt (inn U U) (Ok.oe rin (Ok.bt (inn U U) (Ok.n a3 ?_)))))))
   dsimp only
   rw[Qa U]
   exact hK
  .dsimp only
   refine Ok.N (Ok.run c.Fm.length (fun i=>(((n:Int),(i:Int),()),c,())) rfl U (fun i hi K hK=>?_) fun K=>Ok.n (show ¬(c.Fm.length:Int)<(c.Fm.length:Int)by omega) (Ok.s rfl))
   obtain⟨a1,a2,a3,a4⟩:=h.cutOK i hi
   dsimp only at hK |-
   refine Ok.P (Ok.j (Ok.atn hi (Ok.N (Ok.N (Ok.N (Ok.natn (Ok.L (Ok.oe (QwP (by simp;omega)) (Ok.bf a4 ?_)))))))))
   dsimp only
   rw[Qa U]
   exact hK
def CkC.copy(h:CkC n c)(hcut:c.Fm.length<=800)(hs:∀m∈c.FC,m.x.length<=600):Xa 1000 c=some c:=by
 have hl:=h.len;have hn:=h.sz;have hw:=h.wire;have hd:=h.down
 refine Ok.eq ?_
 unfold Xa
 refine Ok.run n (fun i=>(((i:Int),()),c,(),(),c.M.take i,())) rfl U (fun i hi K hK=>?_) fun K=>?_
 .dsimp only at hK |-
  rw[<-Qn (show i<c.M.length by omega)]at hK
  refine Ok.P (Ok.A (Ok.oe (h.rep i hi).2.2.copyP (Ok.LS ?_)))
  rw[Qa U]
  exact hK
 .dsimp only
  rw[Bl U]
  refine Ok.N (Ok.run c.FC.length (fun i=>(((i:Int),()),c,(),(),c.M,c.FC.take i,())) rfl U (fun i hi K hK=>?_) fun K=>?_)
  .dsimp only at hK |-
   rw[<-Qn hi]at hK
   have:=hs _ (Qf hi)
   refine Ok.P (Ok.atn hi (Ok.L (Ok.LS ?_)))
   rw[Qa U]
   exact hK
  .dsimp only
   rw[Ad]
   exact Ok.N (Ok.L (Ok.L (Ok.s rfl)))
def CkC.cp(h:CkC n c)(hi:CI n q P c):Xa 1000 c=some c:=h.copy (by have:=hi.cut;have:=hi.q;omega) fun m hm=>(hi.ents m hm).1
def CI.cp(h:CI n q P c):Xa 1000 c=some c:=h.ck.cp h
def Qt3{N:Nat}{o:I Int}(h:o=some (if inV k 0 ((N:Int) - 1)=true then 0 else 3)):Ok o fun e=>(e=0/\∃i:Nat,i<N/\k=i)\/(e=3/\¬(0<=k/\k<N)):=by
 refine Ok.of h ?_
 split
 .next g=>have:=Qt.1 g;exact .inl ⟨rfl,k.toNat,U,U⟩
 .next g=>exact .inr ⟨rfl,fun z=>g (Qt.2 ⟨z.1,U⟩)⟩
def QeM(h:CI n q P c):Ok (VM 1000 c k) fun e=>(e=0/\∃i:Nat,i<n/\k=i)\/(e=3/\¬(0<=k/\k<n)):=by
 have hlen:=h.len;have hn:=h.sz
 refine Qt3 (Ok.eq ?_)
 unfold VM
 rw[hlen,Qc (x:=(n:Int) - 1) U]
 exact Ok.oe (QlG h) (Ok.nt rfl (Ok.oe rin (Ok.ncnd (fun g=>Ok.s (by rw[g];rfl)) fun g=>Ok.s (by rw[g];rfl))))
def Qyw(h:CI n q P c):Ok (Qje 1000 c k) fun e=>(e=0/\∃i:Nat,i<c.FC.length/\k=i)\/(e=3/\¬(0<=k/\k<c.FC.length)):=by
 have hw:=h.wire
 refine Qt3 (Ok.eq ?_)
 unfold Qje
 rw[Qc (x:=(c.FC.length:Int) - 1) U]
 exact Ok.oe (QlG h) (Ok.nt rfl (Ok.oe rin (Ok.ncnd (fun g=>Ok.s (by rw[g];rfl)) fun g=>Ok.s (by rw[g];rfl))))
def GrC(n:Nat)(A B:Y D.N):Prop:=∀i,i<n->Grows (O A i) (O B i)
def GrC.same{A:Y D.N}:GrC n A A:=fun i _=>.same rfl rfl
def GrC.trans{A B zH:Y D.N}(h:GrC n A B)(h2:GrC n B zH):GrC n A zH:=fun i hi=>(h i hi).trans (h2 i hi)
def GrC.set{A:Y D.N}(hi:i<A.length)(h:Grows (O A i) r):GrC n A (A.set i r):=fun j _=>by
 by_cases e:j=i
 .subst e;rw[Q0 hi];exact h
 .rw[Yl e];exact .same rfl rfl
structure CG (n q:Nat) (P:D.Op->Prop) (A:Y D.N) (c:D.H):Prop where
 ci:CI n q P c
 gr:GrC n A c.M
def CI.cg(h:CI n q P c):CG n q P c.M c:=⟨h,.same⟩
def CG.of{A:Y D.N}(h:GrC n A c.M){d:D.H}(h2:CG n q P c.M d):CG n q P A d:=⟨h2.ci,h.trans h2.gr⟩
def CI.upd(h:CI n q P c){d:D.H}(hI:InvC n P d.M d.FC)(hs:∀i,i<n->Shp n (O d.M i))(hd:d.FT.length=n)(hc:d.Fm=c.Fm)(hw:d.FC.length<=256)(he:∀m∈d.FC,m.x.length<=600/\m.v≠m.To)(ht:∀i,i<n->(O d.M i).T<=8*q+8):CI n q P d:=⟨hI,h.sz,h.idP,hs,hd,by rw[hc];exact h.cut,h.q,by rw[hc];exact h.cutOK,hw,he,ht⟩
def CI.set(h:CI n q P c)(hi:i<n)(hr:Shp n r):∀j,j<n->Shp n (O (c.M.set i r) j):=fun j hj=>by
 by_cases e:j=i
 .subst e;rw[Q0 (by rw[h.len];exact hj)];exact hr
 .rw[Yl e];exact h.shp j hj
def CI.tset(h:CI n q P c)(hi:i<n)(hr:r.T<=8*q+8):∀j,j<n->(O (c.M.set i r) j).T<=8*q+8:=fun j hj=>by
 by_cases e:j=i
 .subst e;rw[Q0 (by rw[h.len];exact hj)];exact hr
 .rw[Yl e];exact h.tm j hj
def CI.atR(h:CI n q P c):(c.M.length:Int)=n:=by rw[h.len]
def Qpc{zC W:Y D.d}(h:∀m∈zC,m.x.length<=600/\m.v≠m.To)(h2:∀m∈W,m.x.length<=600/\m.v≠m.To):∀m∈zC++W,m.x.length<=600/\m.v≠m.To:=fun m hm=>(Ah.1 hm).elim (h m) (h2 m)
def Qsi(h:CI n q P c)(ht:∀i,i<n->(O c.M i).T<=8*q+7):Ok (Qgh 1000 c k) fun x=>(x.2=0->CG n q P c.M x.1/\∃i:Nat,i<n/\k=i/\O x.1.FT i=false/\∃zC,x.1={ c with M:=c.M.set i (if n / 2+1=1 then QhT n (VQ n (O c.M i))else VQ n (O c.M i)),FC:=c.FC++zC }/\(∀m∈zC,m.Z=1/\m.v=i/\m.T=(O c.M i).T+1)/\∀j:Nat,j<n->j≠i->∃m∈zC,m.To=j)/\∀i:Nat,i<n->k=i->O c.FT i=false->c.FC=[]->x.2=0:=by
 have hlen:=h.len;have hn:=h.sz;have hw:=h.wire;have hd:=h.dn;have hq:=h.q
 have no:∀{x:D.H} {e:Int} {Q:Prop},e≠0->(∀i:Nat,i<n->k=i->O c.FT i=false->c.FC=[]->False)->(((x,e):D.H×Int).2=0->Q)/\∀i:Nat,i<n->k=i->O c.FT i=false->c.FC=[]->((x,e):D.H×Int).2=0:=fun h1 h2=>⟨fun e=>absurd e h1,fun i a1 a2 a3 a4=>(h2 i a1 a2 a3 a4).elim⟩
 unfold Qgh
 refine Ok.opt (QeM h) fun e he=>?_
 rcases he with⟨rfl,i,hi,rfl⟩|⟨rfl,z⟩
 rotate_left
 .exact Ok.P (Ok.s (no Ob fun i a1 a2 _ _=>z ⟨U,U⟩))
 have hid:=(h.ck.rep i hi).2.2.id;have hid2:=h.inv.id hi
 have hti:=ht i hi
 refine Ok.N (Ok.A (Ok.J (fun g=>Ok.s (no Ob fun j _ e a _=>by
  obtain rfl:j=i:=U
  rw[g]at a;simp at a)) fun dn=>Ok.oe h.cp (Ok.natn (Ok.E (Ok.G ?_)))))
 rw[h.atR]
 refine Ok.opt (Qz0 (by have:=h.short hi;omega)) fun⟨r',zC,e⟩ ⟨hs,hs2⟩=>Ok.ite (fun g=>Ok.s (no g fun j _ _ _ _=>g (hs2 (h.ck.rep i hi).2.1 U))) fun g2=>?_
 obtain⟨hr,e0,e1,e2,e3,e4⟩:=hs (Ag.1 g2)
 dsimp only at e1 e2 e3 e4 |-
 rw[Qc U]
 refine Ok.ite (fun g=>Ok.s (no Ob fun _ _ _ _ a=>by rw[a]at g;simp at g;omega)) fun g3=>Ok.L (Ok.natn (Ok.E (Ok.G (Ok.s ⟨fun _=>⟨⟨h.upd ?_ (h.set hi (by rw[e1];exact(h.shp i hi).stand hid e0)) hd rfl (by simp;omega) (Qpc h.ents fun m hm=>?_) (h.tset hi ?_),.set U (by rw[e1];exact .stands)⟩,i,hi,rfl,dn,zC,by rw[e1],fun m hm=>?_,fun j hj hji=>e4 j hj U⟩,fun _ _ _ _ _=>rfl⟩))))
 .rw[e1]
  refine h.inv.stands hi fun m hm=>?_
  obtain⟨a1,a2,a3,a4,a5,a6,a7,_⟩:=e3 m hm
  exact⟨a1,by rw[a2,h.inv.id hi],a3,a4,a5,a6,a7⟩
 .obtain⟨a1,a2,a3,a4,a5,a6,a7,a8,a9⟩:=e3 m hm
  rw[a8,a2];exact⟨Ob,Ak a9⟩
 .rw[e1];split<;>(show(O c.M i).T+1<=_;omega)
 .obtain⟨a1,a2,a3,a4,a5,_⟩:=e3 m hm
  exact⟨a1,U,a5⟩
def QpJ(h:CI n q P c):Ok (Qcu 1000 c k o) fun x=>x.2=0->(P o->CG n q P c.M x.1)/\∃i,i<n/\x.1.M.length=n/\∃e∈(O x.1.M i).l,e.Op=o:=by
 have hlen:=h.len;have hn:=h.sz;have hw:=h.wire;have hd:=h.dn
 unfold Qcu
 refine Ok.opt (QeM h) fun e he=>?_
 rcases he with⟨rfl,i,hi,rfl⟩|⟨rfl,z⟩
 rotate_left
 .exact Ok.P (Ok.s fun e=>absurd e Ob)
 have hid:=(h.ck.rep i hi).2.2.id
 refine Ok.N (Ok.A (Ok.J (fun _=>Ok.s fun e=>absurd e Ob) fun _=>Ok.oe h.cp (Ok.natn (Ok.E (Ok.G ?_)))))
 rw[h.atR]
 refine Ok.opt (QB0 (by have:=h.short hi;omega)) fun⟨r',e⟩ hs=>Ok.ite (fun g=>Ok.s fun e=>absurd e g) fun g2=>Ok.natn (Ok.E (Ok.G (Ok.s fun _=>?_)))
 obtain⟨hr,e1,e2,e3⟩:=hs (Ag.1 g2)
 dsimp only at e1 e2 e3 |-
 refine⟨fun hp=>⟨h.upd ?_ (h.set hi (by rw[e1];exact(h.shp i hi).prop hid e2)) hd rfl hw h.ents (h.tset hi (by rw[e1];exact h.tm i hi)),.set U (by rw[e1];exact .prop (h.inv.com_le hi))⟩,i,hi,by simp;exact hlen,⟨(O c.M i).T,o⟩,?_,rfl⟩
 .rw[e1];exact h.inv.prop hi e2 (hr.ldr e2).1 hp e3
 .rw[e1,Q0 U];simp[prpV]
def QkW(h:CI n q P c):Ok (Qc8 1000 c k) fun x=>(x.2=0->CG n q P c.M x.1/\x.1.FT=c.FT/\∃(i:Nat) (zC:Y D.d),i<n/\k=i/\x.1={ c with FC:=c.FC++zC }/\(∀m∈zC,∃j:Nat,j<n/\m=appV (O c.M i) j/\j≠i)/\∀j:Nat,j<n->j≠i->appV (O c.M i) j∈zC)/\∀i:Nat,i<n->k=i->O c.FT i=false->(O c.M i).FJ=2->c.FC=[]->x.2=0:=by
 have hlen:=h.len;have hn:=h.sz;have hw:=h.wire;have hd:=h.dn
 unfold Qc8
 refine Ok.opt (QeM h) fun e he=>?_
 rcases he with⟨rfl,i,hi,rfl⟩|⟨rfl,z⟩
 rotate_left
 .exact Ok.P (Ok.s ⟨fun e=>absurd e Ob,fun i hi e=>absurd ⟨U,U⟩ z⟩)
 have one:∀{x:D.H} {e:Int},e≠0->(O c.FT i=false->(O c.M i).FJ=2->c.FC=[]->False)->∀{Q:Prop},(((x,e):D.H×Int).2=0->Q)/\∀i':Nat,i'<n->(i:Int)=i'->O c.FT i'=false->(O c.M i').FJ=2->c.FC=[]->((x,e):D.H×Int).2=0:=fun h1 h2=>⟨fun e=>absurd e h1,fun j _ ej a1 a2 a3=>by
  have:j=i:=U
  subst this;exact(h2 a1 a2 a3).elim⟩
 refine Ok.N (Ok.A (Ok.J (fun dn=>Ok.s (one Ob fun a _ _=>by rw[dn]at a;simp at a)) fun _=>Ok.A (Ok.ite (fun g=>Ok.s (one Ob fun _ a _=>g a)) fun g1=>Ok.oe h.cp (Ok.natn (Ok.E (Ok.G ?_))))))
 rw[h.atR]
 have hid:=h.inv.id hi
 refine Ok.opt (QyW (by have:=h.short hi;omega)) fun zC ⟨v1,v2,v3⟩=>?_
 rw[Qc U]
 refine Ok.ite (fun g=>Ok.s (one Ob fun _ _ a=>by rw[a]at g;simp at g;omega)) fun g3=>Ok.L (Ok.s ⟨fun _=>⟨⟨h.upd (h.inv.beat hi (Ag.1 g1) ((h.ck.rep i hi).2.2.ldr (Ag.1 g1)).2 fun m hm=>?_) h.shp hd rfl (by simp;omega) (Qpc h.ents fun m hm=>?_) h.tm,.same⟩,rfl,i,zC,hi,rfl,rfl,fun m hm=>?_,fun j hj hji=>v3 (h.ck.rep i hi).2.1 (Ag.1 g1) j hj U⟩,fun _ _ _ _ _ _=>rfl⟩)
 rotate_left 2
 .obtain⟨_,_,j,a,b,ne⟩:=v2 m hm;exact⟨j,a,b,U⟩
 .obtain⟨_,_,j,a,b,_⟩:=v2 m hm;exact⟨j,a,b⟩
 .obtain⟨a,b,j,_,rfl,ne⟩:=v2 m hm
  have:=a.log
  exact⟨by simp[appV];omega,Ak ne⟩
def Qiw(W:Y D.d)(k:Nat):Y D.d:=W.take k++W.drop (k+1)
def Qix{W:Y D.d}{k:Nat}{m:D.d}(h:m∈Qiw W k):m∈W:=(Ah.1 h).elim Bq Br
def Qu2{W:Y D.d}{k:Nat}(h:k<W.length):WQ (Qiw W k)+WQ [O W k]=WQ W:=by
 conv=>rhs;rw[<-Bp k W,EJ h]
 have:W[k]=O W k:=by simp[O,AQ,AU h]
 rw[this]
 unfold Qiw
 simp only[QlR,show O W k::W.drop (k+1)=[O W k]++W.drop (k+1)from rfl]
 omega
def QwN:1<=WQ [m]:=by simp[WQ];split<;>omega
def CI.drop(h:CI n q P c):CI n q P { c with FC:=Qiw c.FC i }:=by
 have hw:=h.wire
 exact h.upd (h.inv.sub fun m hm=>Qix hm) h.shp h.dn rfl (by simp[Qiw];omega) (fun m hm=>h.ents m (Qix hm)) h.tm
def Qo5(h:CI n q P c):Ok (Qg7 1000 c k) fun x=>(∃i:Nat,i<c.FC.length/\k=i/\x=({ c with FC:=Qiw c.FC i },0))\/(¬(0<=k/\k<c.FC.length)/\x.2≠0):=by
 have hw:=h.wire
 unfold Qg7
 refine Ok.opt (Qyw h) fun e he=>?_
 rcases he with⟨rfl,i,hi,rfl⟩|⟨rfl,z⟩
 rotate_left
 .exact Ok.P (Ok.s (.inr ⟨z,Ob⟩))
 refine Ok.N (Ok.oe h.cp (Ok.natn (Ok.natn (Ok.ck rfl (Ok.L ?_)))))
 rw[Qa U]
 refine Ok.natn (Ok.L (Ok.L (Ok.L (Ok.L (Ok.nil (fun g2=>Ok.L (Ok.s (.inl ⟨i,hi,rfl,?_⟩))) fun g2=>Ok.LS (Ok.s (.inl ⟨i,hi,rfl,?_⟩)))))))
 .rw[Ad]at g2
  unfold Qiw;rw[g2,List.append_nil]
 .rw[Ad];rfl
def Qu1(h:CI n q P c):Ok (Qg6 1000 c k) fun x=>x.2=0->CG n q P c.M x.1:=by
 have hw:=h.wire
 unfold Qg6
 refine Ok.opt (Qyw h) fun e he=>?_
 rcases he with⟨rfl,i,hi,rfl⟩|⟨rfl,z⟩
 rotate_left
 .exact Ok.P (Ok.s fun e=>absurd e Ob)
 have hs:∀m∈c.FC++[O c.FC i],m∈c.FC:=fun m hm=>(Ah.1 hm).elim id fun hm=>by rw[Ae.1 hm];exact Qf hi
 exact Ok.N (Ok.ite (fun _=>Ok.s fun e=>absurd e Ob) fun g2=>Ok.oe h.cp (Ok.oe h.cp (Ok.natn (Ok.lt hi (Ok.get hi (Ok.LS (Ok.s fun _=>⟨h.upd (h.inv.sub hs) h.shp h.dn rfl (by simp;omega) (fun m hm=>h.ents m (hs m hm)) h.tm,.same⟩)))))))
def QvB{b d:AH}:∀m'∈(YP n b d r m).2,m'.x=[]/\m'.v=r.S/\m'.To=m.v:=by
 intro m' hm
 unfold YP at hm
 split at hm
 .split at hm
  .simp at hm
  .simp only[Option.mem_def,AP]at hm;subst hm;exact⟨rfl,rfl,rfl⟩
 .split at hm
  .simp at hm
  .split at hm
   .unfold Ur at hm
    grind
   .grind
def QCJ{u:Int}(h:r.T<=u)(h2:m.T<=u):(folV r m.T).T<=u:=by unfold folV;split<;>assumption
def Qw6{b d:AH}{u:Int}(h:r.T<=u)(h2:m.T<=u):(YP n b d r m).1.T<=u:=by
 have hf:=QCJ h h2
 have hh:(hrdV r m).T<=u:=by unfold hrdV;split<;>exact hf
 unfold YP
 split
 .split
  .exact h
  .dsimp only;unfold QbG;dsimp only;split<;>exact hf
 split
 .dsimp only
  split
  .exact h
  .unfold Qae
   split
   .exact hf
   split
   .exact h
   split<;>exact h
 split
 .unfold Ur
  split
  .exact h
  split
  .split
   .exact h
   .exact hh
  .exact hh
 split
 .dsimp only
  split
  .exact h
  .unfold QaL
   split
   .exact hf
   split<;>exact h
 .exact h
def InvC.msgTm{Rs:Y D.N}{W:Y D.d}(h:InvC n P Rs W)(hm:m∈W):m.T<=(O Rs m.v.toNat).T:=by
 obtain⟨_,g,x⟩:=h
 exact(x.msg m hm).term
def QsS(h:CI n q P c):Ok (Qav 1000 c k) fun x=>(x.2=0/\CG n q P c.M x.1/\WQ x.1.FC<WQ c.FC/\x.1.FT=c.FT)\/(¬(0<=k/\k<c.FC.length)/\x.2≠0):=by
 have hlen:=h.len;have hn:=h.sz;have hw:=h.wire;have hdn:=h.dn
 unfold Qav
 refine Ok.opt (Qo5 h) fun x hx=>?_
 rcases hx with⟨i,hi,rfl,rfl⟩|⟨z,hx⟩
 rotate_left
 .exact Ok.p hx (Ok.s (.inr ⟨z,hx⟩))
 refine Ok.NS ?_
 obtain⟨m,hm⟩:∃m,m=O c.FC i:=⟨_,rfl⟩
 have hmem:m∈c.FC:=by rw[hm];exact Qf hi
 obtain⟨⟨f0,f1⟩,⟨t0,t1⟩,ft⟩:=h.ck.msg m hmem
 have hcost:=Qu2 hi
 rw[<-hm]at hcost
 have hone:=QwN (m:=m)
 obtain⟨t,ht⟩:∃t:Nat,m.To=t:=⟨m.To.toNat,U⟩
 obtain⟨d,hd⟩:∃d,d={ c with FC:=Qiw c.FC i }:=⟨_,rfl⟩
 have hI:CI n q P d:=by rw[hd];exact h.drop
 have gone:((0:Int)=0/\CG n q P c.M d/\WQ d.FC<WQ c.FC/\d.FT=c.FT):=⟨rfl,⟨hI,by rw[hd];exact .same⟩,by rw[hd];dsimp only;omega,by rw[hd]⟩
 rw[<-hd]
 refine Ok.oe h.cp (Ok.natn (Ok.lt hi (Ok.get hi ?_)))
 rw[<-hm]
 refine Ok.TG (fun y=>y=((),c,D.H.mk [] [] [] [],(),m,d.M,d.FC,d.FT,d.Fm,())) (fun y hy=>?_) fun zG hJ=>?_
 .subst hy
  dsimp only
  have hrl:d.M.length=n:=by rw[hd];exact hlen
  have hrep:O d.M t=O c.M t:=by rw[hd]
  have hck:=(h.ck.rep t U).2.2
  have hid:=(h.ck.rep t U).1
  rw[ht]
  refine Ok.natn (Ok.E (Ok.G ?_))
  rw[hrep,h.atR]
  have done:∀(b e:AH) (r':D.N) (zC:Y D.d),(b=true->CkM n (O c.M t) m m.Z)->r'=(YP n b e (O c.M t) m).1->zC=(YP n b e (O c.M t) m).2.toList->CG n q P c.M (D.H.mk (d.M.set t r') (d.FC++zC) d.FT d.Fm)/\WQ (d.FC++zC)<WQ c.FC/\d.FT=c.FT:=fun b e r' zC hb e1 e2=>by
   obtain⟨h1,hg⟩:=h.inv.handle (n:=n) (b:=b) (c:=e) (zC:=Qiw c.FC i) U hmem ht U (fun m hm=>Qix hm) fun z=>(hck.ldr z).1
   have h2:=QqZ (n:=n) (b:=b) (c:=e) (r:=O c.M t) (m:=m) (W:=Qiw c.FC i)
   have h3:WQ (m::Qiw c.FC i)=WQ [m]+WQ (Qiw c.FC i):=QlR (zC:=[m])
   have h4:=(h.shp t U).handle (c:=e) hb
   subst e1;subst e2
   rw[hd]
   refine⟨⟨h.upd h1 (h.set U h4) hdn rfl ?_ (Qpc (fun m hm=>h.ents m (Qix hm)) fun m' hm'=>?_) (h.tset U (Qw6 (h.tm t U) (CR (h.inv.msgTm hmem) (h.tm m.v.toNat U)))),.set U hg⟩,by dsimp only;omega,rfl⟩
   .have:(YP n b e (O c.M t) m).2.toList.length<=1:=by cases(YP n b e (O c.M t) m).2<;>simp
    simp[Qiw];omega
   .obtain⟨a1,a2,a3⟩:=QvB m' (by simpa using hm')
    rw[a1,a2,a3];exact⟨Ob,U⟩
  refine Ok.TG (fun y=>∃b e has r' a z,y=((has,()),z,(),m,r',a,d.M,d.FC,d.FT,d.Fm,())/\(b=true->CkM n (O c.M t) m m.Z)/\outM (r',a,has)=YP n b e (O c.M t) m) (fun y hy=>?_) fun zG hJ=>?_
  .obtain⟨b,e,has,r',a,z,rfl,hb,hz⟩:=hy
   dsimp only
   rw[ht]
   have e1:r'=(YP n b e (O c.M t) m).1:=by rw[<-hz];rfl
   refine Ok.natn (Ok.E (Ok.G (Ok.j (Ok.J (fun g2=>Ok.TO (by rw[hd];simp[Qiw];omega) (Ok.s (.inl ⟨rfl,?_⟩))) fun g2=>Ok.s (.inl ⟨rfl,?_⟩)))))
   .exact done b e _ _ hb e1 (by rw[<-hz,g2];rfl)
   .have:=done b e r' [] hb e1 (by rw[<-hz,g2];rfl)
    rw[Ao]at this;exact this
  .refine Ok.ite (fun g2=>Ok.opt (QBC hck) fun⟨r',a,has⟩ ⟨b,hb0,hb,_⟩=>hJ _ ⟨b,true,_,_,_,_,rfl,by rw[g2];exact hb0,?_⟩) fun g2=>Ok.ite (fun g3=>Ok.opt (QAg hck) fun r' ⟨b,hb0,hb,_⟩=>hJ _ ⟨b,true,_,_,_,_,rfl,by rw[g3];exact hb0,?_⟩) fun g3=>Ok.ite (fun g4=>Ok.opt (Qv8 hck (h.ents m hmem).1) fun⟨r',a,has⟩ ⟨b,e,hb0,hb,_⟩=>hJ _ ⟨b,e,_,_,_,_,rfl,by rw[g4];exact hb0,?_⟩) fun g4=>Ok.ite (fun g5=>Ok.opt (QyJ hck) fun r' ⟨b,hb0,hb,_⟩=>hJ _ ⟨b,true,_,_,_,_,rfl,by rw[g5];exact hb0,?_⟩) fun g5=>hJ _ ⟨false,true,_,_,_,_,rfl,Ob,?_⟩
   .rw[hb];unfold YP;rw[iB g2]
   .unfold YP;rw[iA g2,iB g3,<-hb];rfl
   .rw[hb];unfold YP;rw[iA g2,iA g3,iB g4]
   .unfold YP;rw[iA g2,iA g3,iA g4,iB g5,<-hb];rfl
   .unfold YP;rw[iA g2,iA g3,iA g4,iA g5];rfl
 .rw[ht]
  exact Ok.A (Ok.J (fun _=>Ok.s (.inl gone)) fun _=>Ok.oe (QwP (by have:=h.cut;have:=h.q;omega)) (Ok.J (fun _=>Ok.s (.inl gone)) fun _=>hJ _ rfl))
def Qq0(h:CI n q P c):Ok (Qgg 1000 c k) fun x=>x.2=0->CG n q P c.M x.1:=by
 have hd:=h.dn
 unfold Qgg
 refine Ok.opt (QeM h) fun e he=>?_
 rcases he with⟨rfl,i,hi,rfl⟩|⟨rfl,z⟩
 rotate_left
 .exact Ok.P (Ok.s fun e=>absurd e Ob)
 exact Ok.N (Ok.A (Ok.J (fun _=>Ok.s fun e=>absurd e Ob) fun _=>Ok.oe h.cp (Ok.natn (Ok.E (Ok.G (Ok.s fun _=>⟨h.upd h.inv h.shp (by simp;exact hd) rfl h.wire h.ents h.tm,.same⟩))))))
def QtP(h:CI n q P c):Ok (Qcv 1000 c k) fun x=>(x.2=0->CG n q P c.M x.1/\x.1.Fm=c.Fm/\∃i:Nat,i<n/\k=i/\x.1.FT=c.FT.set i false)/\∀i:Nat,i<n->k=i->x.2≠0->O c.FT i=false:=by
 have hlen:=h.len;have hd:=h.dn
 unfold Qcv
 refine Ok.opt (QeM h) fun e he=>?_
 rcases he with⟨rfl,i,hi,rfl⟩|⟨rfl,z⟩
 rotate_left
 .exact Ok.P (Ok.s ⟨fun e=>absurd e Ob,fun i a1 a2 _=>absurd ⟨U,U⟩ z⟩)
 have hr:=h.ck.rep i hi
 refine Ok.N (Ok.A (Ok.ncnd (fun g=>Ok.s ⟨fun e=>absurd e Ob,fun j _ e _=>by
  obtain rfl:j=i:=U
  exact g⟩) fun _=>Ok.oe h.cp (Ok.natn (Ok.E (Ok.G (Ok.natn (Ok.E (Ok.G ?_))))))))
 rw[h.atR]
 exact Ok.oe (QBe hr.2.1 hr.2.2) (Ok.natn (Ok.E (Ok.G (Ok.s ⟨fun _=>⟨⟨h.upd (h.inv.back hi) (h.set hi (h.shp i hi).back) (by simp;exact hd) rfl h.wire h.ents (h.tset hi (h.tm i hi)),.set U .back⟩,rfl,i,hi,rfl,rfl⟩,fun _ _ _ e=>absurd rfl e⟩))))
def QwO(h:CI n q P c)(hq:q<800):Ok (QmP 1000 c k x) fun z=>z.2=0->CG n (q+1) P c.M z.1:=by
 have hcut:=h.cut;have hn:=h.sz
 unfold QmP
 refine Ok.opt (QeM h) fun e he=>?_
 rcases he with⟨rfl,i,hi,rfl⟩|⟨rfl,z⟩
 rotate_left
 .exact Ok.P (Ok.s fun e=>absurd e Ob)
 rw[h.atR,Qc (x:=(n:Int) - 1) U]
 refine Ok.N (Ok.oe rin (Ok.ncnd (fun _=>Ok.s fun e=>absurd e Ob) fun g=>Ok.ite (fun _=>Ok.s fun e=>absurd e Ob) fun g2=>Ok.oe (QwP U) (Ok.J (fun _=>Ok.s fun e=>absurd e Ob) fun g3=>Ok.oe h.cp (Ok.LS (Ok.s fun _=>⟨⟨h.inv,h.sz,h.idP,h.shp,h.dn,by simp;omega,U,fun j hj=>?_,h.wire,h.ents,fun i hi=>by have:=h.tm i hi;show(O c.M i).T<=_;omega⟩,.same⟩)))))
 have hx:=Qt.1 g
 simp only[Ac,B6]at hj
 by_cases e:j=c.Fm.length
 .subst e
  have e1:O (c.Fm++[D.FD.mk (min (i:Int) x) (max (i:Int) x)]) c.Fm.length=D.FD.mk (min (i:Int) x) (max (i:Int) x):=by simp[O]
  rw[e1,ED]
  refine⟨by dsimp only;omega,by dsimp only;omega,by dsimp only;omega,?_⟩
  rw[<-g3]
  unfold isC
  rw[show min (min (i:Int) x) (max (i:Int) x)=min (i:Int) x by omega,show max (min (i:Int) x) (max (i:Int) x)=max (i:Int) x by omega]
 .have e1:O (c.Fm++[D.FD.mk (min (i:Int) x) (max (i:Int) x)]) j=O c.Fm j:=by
   simp only[O,AQ];rw[BN U]
  rw[e1,Cb U]
  exact h.cutOK j U
def Qud(h:CI n q P c):Ok (Qjd 1000 c) fun d=>CG n q P c.M d/\d.Fm=[]:=by
 unfold Qjd
 exact Ok.oe (QlG h) (Ok.nt rfl (Ok.oe h.cp (Ok.s ⟨⟨⟨h.inv,h.sz,h.idP,h.shp,h.dn,Ob,h.q,fun j hj=>by simp at hj,h.wire,h.ents,h.tm⟩,.same⟩,rfl⟩)))
def Qpo(h:CI n q P c):Ok (Qb1 1000 c) fun x=>0<=x.1/\x.1<n:=by
 have hlen:=h.len;have hn:=h.sz;have hd:=h.dn
 unfold Qb1
 refine Ok.TG (fun y=>∃a b,y=((a,b,()),())/\0<=a/\a<(n:Int)) (fun y hy=>?_) fun zG hJ=>?_
 .obtain⟨a,b,rfl,h1⟩:=hy;exact Ok.s h1
 .refine Ok.loop (fun q x=>∃(i:Nat) (a:Int) (b:AH),x=((a,b,(i:Int),()),c,())/\i<=n/\(0<=a/\a<n)/\q=n - i) (m:=n) U ⟨0,0,false,rfl,U,U,rfl⟩ ?_
  rintro q1 x ⟨i,a,b,rfl,i1,i2,hq⟩ K hK
  dsimp only
  rw[h.atR]
  refine Ok.TG (fun y=>y=((a,b,(i:Int),()),c,())/\i<n) (fun y hy=>?_) fun J2 hJ2=>Ok.ite (fun g=>Ok.oe (QlG h) (Ok.t (hJ2 _ ⟨rfl,U⟩))) fun _=>hJ _ ⟨_,_,rfl,i2⟩
  obtain⟨rfl,g⟩:=hy
  dsimp only
  refine Ok.TG (fun y=>∃a b,y=((a,b,(i:Int),()),c,())/\0<=a/\a<(n:Int)) (fun y hy=>?_) fun J3 hJ3=>?_
  .obtain⟨a,b,rfl,h1⟩:=hy
   dsimp only
   rw[Qa U]
   exact hK _ _ U ⟨i+1,a,b,rfl,U,h1,rfl⟩
  .exact Ok.A (Ok.ite (fun _=>Ok.A (Ok.J (fun _=>hJ3 _ ⟨_,_,rfl,i2⟩) fun _=>Ok.J (fun _=>Ok.at i2.1 U (Ok.ite (fun _=>hJ3 _ ⟨_,_,rfl,U,U⟩) fun _=>hJ3 _ ⟨_,_,rfl,i2⟩)) fun _=>hJ3 _ ⟨_,_,rfl,U,U⟩)) fun _=>hJ3 _ ⟨_,_,rfl,i2⟩)
def QiI(h:CI n q P c):Ok (Qa3 1000 c) fun d=>CG n q P c.M d/\d.FC=[]/\d.FT=c.FT:=by
 unfold Qa3
 refine Ok.TG (fun y=>∃d z,y=((),d,z,())/\CG n q P c.M d/\d.FC=[]/\d.FT=c.FT) (fun y hy=>?_) fun zG hJ=>?_
 .obtain⟨d,z,rfl,hd⟩:=hy;exact Ok.s hd
 .have hcl:=Qy5 (W:=c.FC);have hw:=h.wire
  refine Ok.loop (fun m x=>∃d z,x=((),d,z,())/\CG n q P c.M d/\d.FT=c.FT/\m=WQ d.FC) (m:=WQ c.FC) U ⟨c,_,rfl,h.cg,rfl,rfl⟩ ?_
  rintro m x ⟨d,z,rfl,hd,hdn,rfl⟩ K hK
  dsimp only
  refine Ok.ite (fun g=>Ok.opt (QsS hd.ci) fun⟨e,er⟩ he=>?_) fun g=>hJ _ ⟨_,_,rfl,hd,BT U,hdn⟩
  rcases he with⟨rfl,h1,h2,h3⟩|⟨z,_⟩
  .exact Ok.NS (hK _ _ h2 ⟨e,_,rfl,.of hd.gr h1,h3.trans hdn,rfl⟩)
  .omega
def QoF(h:CI n q P c)(ht:∀i,i<n->(O c.M i).T<=8*q+7):Ok (Qb2 1000 c k) fun x=>x.2=0->CG n q P c.M x.1:=by
 unfold Qb2
 refine Ok.opt (QeM h) fun e he=>?_
 rcases he with⟨rfl,i,hi,rfl⟩|⟨rfl,z⟩
 rotate_left
 .exact Ok.P (Ok.s fun e=>absurd e Ob)
 have h0:CI n q P (D.H.mk c.M [] c.FT c.Fm):=h.upd (h.inv.sub Ob) h.shp h.dn rfl Ob Ob h.tm
 refine Ok.N (Ok.oe h.cp (Ok.opt (Qsi h0 ht) fun⟨d,e⟩ ⟨he,_⟩=>Ok.ite (fun g=>Ok.s fun e=>absurd e g) fun g=>?_))
 obtain⟨hd,i',hi',ei,hdn,_⟩:=he (Ag.1 g)
 obtain rfl:i'=i:=U
 refine Ok.opt (QiI hd.ci) fun f ⟨f1,f2,f3⟩=>Ok.TG (fun y=>∃d z,y=((),d,z,())/\CG n q P c.M d) (fun y hy=>?_) fun zG hJ=>?_
 .obtain⟨d,z,rfl,hd⟩:=hy;exact Ok.s fun _=>hd
 .refine Ok.loop (fun m x=>∃(j:Nat) (d z:D.H),x=(((i':Int),(j:Int),()),d,z,())/\(CG n q P c.M d/\d.FC=[]/\O d.FT i'=false)/\j<=2/\m=2 - j) (m:=2) U ⟨0,f,_,rfl,⟨.of hd.gr f1,f2,by rw[f3];exact hdn⟩,U,rfl⟩ ?_
  rintro m x ⟨j,d,z,rfl,⟨hd,d2,d3⟩,j1,rfl⟩ K hK
  dsimp only
  have hdl:=hd.ci.len
  refine Ok.TG (fun y=>y=(((i':Int),(j:Int),()),d,z,())/\j<2/\(O d.M i').FJ=2) (fun y hy=>?_) fun J2 hJ2=>Ok.ite (fun _=>Ok.A (Ok.ite (fun r2=>hJ2 _ ⟨rfl,U,r2⟩) fun _=>hJ _ ⟨_,_,rfl,hd⟩)) fun _=>hJ _ ⟨_,_,rfl,hd⟩
  obtain⟨rfl,g2,r2⟩:=hy
  dsimp only
  refine Ok.opt (QkW hd.ci) fun⟨e,er⟩ ⟨b1,b2⟩=>?_
  obtain⟨b3,b4,_⟩:=b1 (b2 i' hi' rfl d3 r2 d2)
  refine Ok.opt (QiI b3.ci) fun f ⟨f1,f2,f3⟩=>?_
  rw[Qa U]
  exact hK _ _ U ⟨j+1,f,z,rfl,⟨.of hd.gr (.of b3.gr f1),f2,by rw[f3];dsimp only at b4;rw[b4];exact d3⟩,U,rfl⟩
end
section
attribute [local irreducible] dueV stepV runV QE answerV opV Zk opsV Qbe
section
variable {n zI q i:Nat} {c:D.H} {r:D.N} {o:D.Op} {t k x:Int} {P P':D.Op->Prop} {l:D.G} {p:D.c} {L:Y Int} {d:D.y} {E E':Y Int}
def PO(E:Y Int)(zI:Nat)(o:D.Op):Prop:=Qaf o/\o.S<zI/\(o.Z=5->o.S∈E)
def PO.up{T:Nat}(h:PO E zI o)(hs:zI<=T)(hE:∀x∈E,x∈E'):PO E' T o:=⟨h.1,by have:=h.2.1;omega,fun k=>hE _ (h.2.2 k)⟩
def CI.mono(h:CI n q P c)(hp:∀o,P o->P' o)(hi:∀o,P' o->1<=o.S/\o.S<=(256:Nat)):CI n q P' c:=⟨h.inv.mono hp,h.sz,hi,h.shp,h.dn,h.cut,h.q,h.cutOK,h.wire,h.ents,h.tm⟩
def CI.more(h:CI n q P c){q':Nat}(hq:q<=q')(h2:q'<=800):CI n q' P c:=⟨h.inv,h.sz,h.idP,h.shp,h.dn,by have:=h.cut;omega,h2,h.cutOK,h.wire,h.ents,fun i hi=>by have:=h.tm i hi;omega⟩
def CI.tb(h:CI n q P c):∀i,i<n->(O c.M i).T<=8*((q+1:Nat):Int)+7:=fun i hi=>by have:=h.tm i hi;omega
def PO.id(hs:zI<=257):∀o,PO E zI o->1<=o.S/\o.S<=(256:Nat):=fun o h=>⟨h.1.1.id.1,by have:=h.2.1;omega⟩
def Qaf.TZ(h:Qaf o)(hs:1<=x/\x<=1099511627776):Qaf { o with S:=x }:=
 ⟨⟨hs,h.1.kind,h.1.region,h.1.fence,h.1.at_,h.1.page,h.1.k,h.1.answer,h.1.edit⟩,h.2⟩
structure Sys (n j zI:Nat) (E:Y Int) (l:D.G) (p:D.c):Prop where
 base:p.FW=l
 first:Loose 0 l
 ser:p.FR=zI
 lo:1<=zI/\zI<=1+3*j
 hi:j<=18
 el:E.length<=j
 ci:CI n j (PO E zI) p.H
def Sys.step{j:Nat}(h:Sys n j zI E l p)(hj:j<18):Sys n (j+1) zI E l p:=⟨h.base,h.first,h.ser,by have:=h.lo;omega,U,by have:=h.el;omega,h.ci.more U U⟩
def Sys.more{j:Nat}(h:Sys n j zI E l p){x:Int}(hj:E.length<j):Sys n j zI (x::E) l p:=⟨h.base,h.first,h.ser,h.lo,h.hi,by simp;omega,h.ci.mono (fun o ho=>ho.up (AN _) fun _=>BB _) (PO.id (by have:=h.lo;have:=h.hi;omega))⟩
def QtS(hl:Led p.FW)(hs:1<=p.FR/\p.FR<=1000)(h:CI n q (PO E zI) p.H):Ok (Qa4 1000 p) fun b=>(b=true->∀i,i<n->∀e∈(O p.H.M i).l,e.Op.S<p.FR)/\((∀i,i<n->∀e∈(O p.H.M i).l,e.Op.S<p.FR)->b=true):=by
 have hlen:=h.len;have hn:=h.sz
 unfold Qa4
 refine Ok.j (Ok.oe hl.check (Ok.t (Ok.oe (QlG h) (Ok.t (Ok.oe rin (Ok.bt (Qt.2 U) ?_))))))
 dsimp only
 refine Ok.loop (fun m x=>∃i:Nat,x=(((i:Int),()),p,())/\i<=n/\(∀j,j<i->∀e∈(O p.H.M j).l,e.Op.S<p.FR)/\m=n - i) (m:=n) U ⟨0,rfl,U,fun j hj=>U,rfl⟩ ?_
 rintro m x ⟨i,rfl,i1,i2,rfl⟩ K hK
 dsimp only
 refine Ok.ite (fun g=>Ok.A ?_) fun g=>Ok.s ⟨fun _ j hj=>i2 j U,fun _=>rfl⟩
 have hsh:=h.short (i:=i) U
 have hlog:=(h.inv.log (i:=i) U).1
 refine Ok.loop (fun m x=>∃k:Nat,x=(((i:Int),(O p.H.M i).l,(k:Int),()),p,())/\k<=(O p.H.M i).l.length/\(∀e∈(O p.H.M i).l.take k,e.Op.S<p.FR)/\m=(O p.H.M i).l.length - k) (m:=(O p.H.M i).l.length) U ⟨0,rfl,U,Ob,rfl⟩ ?_
 rintro m x ⟨k,rfl,k1,k2,rfl⟩ K2 hK2
 dsimp only
 refine Ok.ite (fun g2=>?_) fun g2=>?_
 .have hk:k<(O p.H.M i).l.length:=U
  refine Ok.j (Ok.atn hk (Ok.oe (hlog _ (Qf hk)).1.1.valid (Ok.t (Ok.atn hk (Ok.ite (fun g3=>Ok.s ⟨fun e=>absurd e Ob,fun z=>?_⟩) fun g3=>?_)))))
  .have:=z i U _ (Qf hk);omega
  .dsimp only
   rw[Qa U]
   refine hK2 _ _ U ⟨k+1,rfl,U,fun e he=>?_,rfl⟩
   rw[<-Qn hk]at he
   grind
 .rw[Bl U]at k2
  rw[Qa U]
  refine hK _ _ U ⟨i+1,rfl,U,fun j hj=>?_,rfl⟩
  grind
variable {j:Nat}
def Sys.led(h:Sys n j zI E l p):Led p.FW:=by rw[h.base];exact h.first.led U
def Sys.log(h:Sys n j zI E l p)(hi:i<n):∀e∈(O p.H.M i).l,PO E zI e.Op:=(h.ci.inv.log hi).1
def Sys.chk(h:Sys n j zI E l p):Qa4 1000 p=some true:=by
 have h1:=h.lo;have h2:=h.ser;have h3:=h.hi
 obtain⟨b,hb,_,h5⟩:=QtS h.led U h.ci
 rw[hb,h5 fun i hi e he=>by have:=(h.log hi e he).2.1;omega]
def cnt_le{zH:Y D.n}(hn:(zH.map fun e=>e.Op.S).Nodup)(h:∀e∈zH,e.Op.Z=5->e.Op.S∈E):cntE (zH.map fun e=>e.Op)<=E.length:=by
 have:=Qml (l:=(zH.filter fun e=>decide (e.Op.Z=5)).map fun e=>e.Op.S) (E:=E) (hn.sublist (List.filter_sublist.map _)) fun x hx=>by
  grind
 unfold cntE
 rw[List.countP_map,List.countP_eq_length_filter]
 rw[AZ]at this
 exact this
def Sys.com(h:Sys n j zI E l p)(hi:i<n):(∀o∈comV (O p.H.M i),Qaf o)/\(comV (O p.H.M i)).length<=54/\cntE (comV (O p.H.M i))<=18:=by
 have h1:=h.lo;have h2:=h.hi
 refine⟨fun o ho=>?_,?_,?_⟩
 .obtain⟨e,he,rfl⟩:=BX.1 ho
  exact(h.log hi e (Bq he)).1
 .have:=h.ci.inv.short (zI:=zI - 1) hi fun o ho=>⟨ho.1.1.id.1,by have:=ho.2.1;omega⟩
  unfold comV;simp;omega
 .have:=cnt_le (h.ci.inv.log hi).2 fun e he=>(h.log hi e he).2.2
  have h3:=h.el
  unfold comV
  rw[BR]
  exact AX Qiv U
def Sys.behind(h:Sys n j zI E l p)(hi:i<n):Qbo (0+cntE (comV (O p.H.M i))) (0+(comV (O p.H.M i)).length) (opsV l (comV (O p.H.M i))):=by
 obtain⟨h1,h2,h3⟩:=h.com hi
 have:=h.first.e.fold h1 U U (AN _)
 simp_all
def Sys.runs(h:Sys n j zI E l p)(hi:i<n):Runs l (comV (O p.H.M i)):=by
 obtain⟨h1,h2,h3⟩:=h.com hi
 exact h.first.e.runs h1 U U
def Qys(h:Sys n j zI E l p)(hi:i<n):Qjh 1000 p (i:Int)=some (opsV l (comV (O p.H.M i)),0):=by
 obtain⟨h1,h2⟩:=h.com hi
 have hlen:=h.ci.len;have hn:=h.ci.sz
 have hck:=(h.ci.ck.rep i hi).2.2
 refine Ok.eq ?_
 unfold Qjh
 refine Ok.oe h.chk (Ok.nt rfl (Ok.oe rin (Ok.nt (Qt.2 ⟨U,by rw[Qc U];omega⟩) (Ok.A (Ok.oe (QCH hck.com (by have:=hck.log;omega)) (Ok.oe (QvA ?_) (Ok.s ?_)))))))
 .rw[h.base];exact h.runs hi
 .rw[h.base]
def Qsj(h:Sys n j zI E l p)(ho:Qaf { o with S:=(zI:Int) })(hE:o.Z=5->(zI:Int)∈E)(hj:zI<=3*j):Ok (QdZ 1000 p k o) fun x=>x.2.2=0->Sys n j (zI+1) E l x.1/\GrC n p.H.M x.1.H.M:=by
 have h1:=h.lo;have h2:=h.ser;have h3:=h.hi
 unfold QdZ
 rw[h2]
 refine Ok.j (Ok.oe h.chk (Ok.t (Ok.oe ho.1.valid (Ok.t ?_))))
 dsimp only
 rw[h2]
 have hc:CI n j (PO E (zI+1)) p.H:=h.ci.mono (fun o ho=>ho.up U fun _=>id) (PO.id U)
 refine Ok.N (Ok.opt (QpJ hc) fun⟨c',e⟩ he=>Ok.ite (fun g=>Ok.s fun e=>absurd e g) fun g=>Ok.oe h.led.copy (Ok.s fun _=>?_))
 rw[Qa U]
 have hg:=(he (Ag.1 g)).1 ⟨ho,by show(zI:Int)<((zI+1:Nat):Int);omega,hE⟩
 exact⟨⟨h.base,h.first,rfl,U,h3,h.el,hg.ci⟩,hg.gr⟩
def Qte(hc:0<=r.h)(hl:r.l.length<=256):Ok (Qdb 1000 r o) fun _=>True:=by
 unfold Qdb
 refine Ok.loop (fun m x=>∃i:Nat,x=(((i:Int),()),r,o,())/\m=r.l.length - i) (m:=r.l.length - r.h.toNat) U ⟨r.h.toNat,by rw[show(r.h.toNat:Int)=r.h by omega],rfl⟩ ?_
 rintro m x ⟨i,rfl,rfl⟩ K hK
 dsimp only
 refine Ok.ite (fun g=>?_) fun _=>Ok.s trivial
 have hi:i<r.l.length:=U
 refine Ok.TG (fun y=>y=(((i:Int),()),r,o,())) (fun y hy=>?_) fun zG hJ=>?_
 .subst hy
  dsimp only
  rw[Qa U]
  exact hK _ _ U ⟨i+1,rfl,rfl⟩
 .have Tb:∀{a b:Prop} [Decidable a] [Decidable b],Ok (J (decide a) (J (decide b) (some true) (zG (((i:Int),()),r,o,()))) (zG (((i:Int),()),r,o,()))) fun _=>True:=Ok.ite (fun _=>Ok.ite (fun _=>Ok.s trivial) fun _=>hJ _ rfl) fun _=>hJ _ rfl
  refine Ok.atn hi (Ok.ite (fun _=>Ok.ite (fun _=>Ok.ite (fun _=>Ok.atn hi (Ok.ite (fun _=>Ok.s trivial) fun _=>Ok.ite (fun _=>Tb) fun _=>hJ _ rfl)) fun _=>Ok.ite (fun _=>Tb) fun _=>hJ _ rfl) fun _=>Ok.ite (fun _=>Tb) fun _=>hJ _ rfl) fun _=>hJ _ rfl)
def Qy6(h:Sys n j zI E l p)(hi:i<n)(ht:0<=t/\t<=980000)(hj:j<18):Ok (Qjf 1000 p (i:Int) t) fun x=>x.2.2=0->∃T,Sys n (j+1) T E l x.1/\GrC n p.H.M x.1.H.M:=by
 have h1:=h.lo;have h2:=h.ser;have hlen:=h.ci.len;have hn:=h.ci.sz;have hdn:=h.ci.dn
 have hck:=(h.ci.ck.rep i hi).2.2
 have hl:=hck.log;have hcm:=hck.com
 have hb:=h.behind hi
 obtain⟨h3,h4,h5⟩:=h.com hi
 obtain⟨v,hv⟩:∃v,v=opsV l (comV (O p.H.M i)):=⟨_,rfl⟩
 rw[<-hv]at hb
 have own:=(hb.led U).ownR
 have hpg:=hb.inv.small3 (k:=3) hb.ids
 have h0:Sys n (j+1) zI E l p:=h.step U
 unfold Qjf
 refine Ok.oe (Qys h hi) (Ok.NS (Ok.A (Ok.A (Ok.J (fun _=>Ok.s fun e=>absurd e Ob) fun _=>Ok.ite (fun _=>Ok.s fun e=>absurd e Ob) fun _=>Ok.oe rin (Ok.ncnd (fun _=>Ok.s fun e=>absurd e Ob) fun _=>?_)))))
 rw[<-hv,h2]
 refine Ok.TG (fun y=>∃ops w,y=(((i:Int),ops,()),p,w,O p.H.M i,())/\(∀o∈ops,Qaf o/\o.Z≠5)/\ops.length<=3) (fun y hy=>?_) fun zG hJ=>?_
 .obtain⟨ops,w,rfl,o1,o2⟩:=hy
  dsimp only
  refine Ok.oe h.led.copy (Ok.oe h.ci.cp ?_)
  refine Ok.loop (fun m x=>∃(a:Nat) (z:Int) (T:Nat) (p':D.c),x=(((i:Int),ops,z,(a:Int),()),w,O p.H.M i,p',())/\a<=ops.length/\(0<=z/\z<=a)/\T<=zI+a/\(Sys n (j+1) T E l p'/\GrC n p.H.M p'.H.M)/\m=ops.length - a) (m:=ops.length) U ⟨0,0,zI,p,by rw[show D.c.mk p.FW p.H p.FR=p from rfl];rfl,U,U,U,⟨h0,.same⟩,rfl⟩ ?_
  rintro m x ⟨a,z,T,p',rfl,a1,a2,a3,a4,rfl⟩ K hK
  dsimp only
  refine Ok.ite (fun g=>?_) fun g=>Ok.s fun _=>⟨T,a4⟩
  have ha:a<ops.length:=U
  refine Ok.TG (fun y=>∃(z:Int) (T:Nat) (p':D.c),y=(((i:Int),ops,z,(a:Int),()),w,O p.H.M i,p',())/\(0<=z/\z<=a+1)/\T<=zI+a+1/\Sys n (j+1) T E l p'/\GrC n p.H.M p'.H.M) (fun y hy=>?_) fun zG hJ=>?_
  .obtain⟨z,T,p',rfl,b2,b3,b4⟩:=hy
   dsimp only
   rw[Qa U]
   exact hK _ _ U ⟨a+1,z,T,p',rfl,U,U,U,b4,rfl⟩
  .refine Ok.atn ha (Ok.opt (Qte hcm.1 hl) fun b _=>Ok.J (fun _=>hJ _ ⟨z,T,p',rfl,U,U,a4⟩) fun _=>Ok.atn ha (Ok.opt (Qsj a4.1 ((o1 _ (Qf ha)).1.TZ (by have:=a4.1.lo;omega)) (fun k5=>absurd k5 (o1 _ (Qf ha)).2) U) fun⟨x,y,e⟩ he=>Ok.ite (fun g=>Ok.s fun e=>absurd e g) fun g=>?_))
   rw[Qc U]
   obtain⟨e1,e2⟩:=he (Ag.1 g)
   exact hJ _ ⟨z+1,T+1,x,rfl,U,U,e1,a4.2.trans e2⟩
 .have claim:∀{w:D.c},Ok (V (Qcw 1000 v (i:Int) (zI:Int) t) fun x=>J (decide (x.2≠0)) (some (w,0,x.2)) (TO [x.1].length 34359738368 (zG (((i:Int),[x.1],()),p,w,O p.H.M i,())))) fun x=>x.2.2=0->∃T,Sys n (j+1) T E l x.1/\GrC n p.H.M x.1.H.M:=fun{w}=>by
   have hin:QhH (i:Int) (zI:Int) t:=⟨U,U,U⟩
   refine Ok.oe (QqS own) ?_
   rw[QqT hin (by have:=hb.inv.fence;have:=hb.seen;omega)]
   exact Ok.NS (Ok.TO Ob (hJ _ ⟨_,_,rfl,fun o ho=>by rw[Ae.1 ho];exact⟨Quv hb.inv hin ht.2,by show(2:Int)≠5;omega⟩,Ob⟩))
  have starts:(v.FB=(i:Int))->∀{w:D.c},Ok (V (Qb3 1000 v (i:Int) (zI:Int) t) fun x=>zG (((i:Int),x,()),p,w,O p.H.M i,())) fun x=>x.2.2=0->∃T,Sys n (j+1) T E l x.1/\GrC n p.H.M x.1.H.M:=fun ho {w}=>by
   refine Ok.oe (QvI own) (hJ _ ⟨_,_,rfl,fun o hm=>?_,?_⟩)
   .unfold QrD at hm
    split at hm
    .next g=>
     obtain⟨a,ha,rfl⟩:=QfS hm
     rw[Wo]at ha
     have hwe:=Qjv (l:=v) (t:=t)
     rw[Qik ha]
     exact⟨QoH hb.inv ha U U ht,by show(3:Int)≠5;omega⟩
    .simp at hm
   .unfold QrD
    have hwe:=Qjv (l:=v) (t:=t)
    split
    .rw[Wo];omega
    .simp
  refine Ok.ite (fun _=>claim) fun g=>Ok.ite (fun _=>Ok.oe (Qpl U) (Ok.ite (fun _=>claim) fun _=>starts (Ag.1 g))) fun _=>starts (Ag.1 g)
def QCx(hL:L.length<=500)(hd:Qz L d)(h:CI n q (PO E zI) c)(hs:zI<=200)(hq:q<800):Ok (QbH 1000 d c) fun x=>Qz L x.2/\CI n (q+1) (PO E 256) x.1/\(CI n (q+1) (PO E zI) x.1\/∃i,i<n/\∃e∈(O x.1.M i).l,(zI:Int)<=e.Op.S):=by
 have hn:=h.sz;have hw:=h.wire
 have big:∀{c:D.H},CI n (q+1) (PO E zI) c->CI n (q+1) (PO E 256) c/\(CI n (q+1) (PO E zI) c\/∃i,i<n/\∃e∈(O c.M i).l,(zI:Int)<=e.Op.S):=fun h=>⟨h.mono (fun o ho=>ho.up U fun _=>id) (PO.id U),.inl h⟩
 have h1:=h.more (q':=q+1) U U
 unfold QbH
 rw[h.len]
 refine Ok.opt (nx hL hd U U) fun⟨a0,d1⟩ ⟨g1,l1,u1⟩=>?_
 dsimp only at g1 l1 u1 |-
 refine Ok.TG (fun y=>∃(a:Int) (d:D.y) (w:D.H),y=((a,()),d,c,w,())/\Qz L d) (fun y hy=>?_) fun zG hJ=>Ok.opt (Qpo h) fun⟨a,b⟩ _=>Ok.J (fun _=>Ok.opt (nx hL g1 U U) fun⟨a2,d2⟩ ⟨g2,_⟩=>Ok.ite (fun _=>hJ _ ⟨_,_,_,rfl,g2⟩) fun _=>hJ _ ⟨_,_,_,rfl,g2⟩) fun _=>hJ _ ⟨_,_,_,rfl,g1⟩
 obtain⟨a,d,w,rfl,hd⟩:=hy
 dsimp only
 refine Ok.opt (Qpu hL hd U) fun⟨a3,d3⟩ ⟨g3,_⟩=>?_
 dsimp only at g3 |-
 refine Ok.TG (fun y=>∃(a k:Int) (d:D.y) (w:D.H),y=((a,k,()),d,c,w,())/\Qz L d) (fun y hy=>?_) fun zG hJ=>Ok.opt (nx hL g3 U U) fun⟨a4,d4⟩ ⟨g4,_⟩=>Ok.ite (fun _=>hJ _ ⟨_,_,_,_,rfl,g4⟩) fun _=>hJ _ ⟨_,_,_,_,rfl,g4⟩
 obtain⟨a,k,d,w,rfl,hd⟩:=hy
 dsimp only
 refine Ok.TG (fun y=>∃(e:Int) (w x:D.H) (d:D.y),y=((e,()),c,w,x,d,())/\Qz L d/\(e=0->CI n (q+1) (PO E 256) x/\(CI n (q+1) (PO E zI) x\/∃i,i<n/\∃e∈(O x.M i).l,(zI:Int)<=e.Op.S))) (fun y hy=>?_) fun zG hJ=>?_
 .obtain⟨e,w,x,d,rfl,hd,hx⟩:=hy
  exact Ok.ite (fun _=>Ok.s ⟨hd,big h1⟩) fun g=>Ok.s ⟨hd,hx (Ag.1 g)⟩
 .have fin:∀{e:Int} {w x:D.H} {d:D.y},Qz L d->(e=0->CI n (q+1) (PO E zI) x)->Ok (zG ((e,()),c,w,x,d,())) fun x=>Qz L x.2/\CI n (q+1) (PO E 256) x.1/\(CI n (q+1) (PO E zI) x.1\/∃i,i<n/\∃e∈(O x.1.M i).l,(zI:Int)<=e.Op.S):=fun hd hx=>hJ _ ⟨_,_,_,_,rfl,hd,fun e=>big (hx e)⟩
  refine Ok.opt (nx hL hd U U) fun⟨a5,d5⟩ ⟨g5,_⟩=>Ok.ite (fun _=>Ok.opt (Qsi h1 h.tb) fun⟨x,e⟩ he=>fin g5 fun z=>(he.1 z).1.ci) fun _=>?_
  dsimp only at g5 |-
  refine Ok.TG (fun y=>∃(a k:Int) (z v:Int) (b:AH) (d:D.y) (w:D.H),y=((a,k,z,v,b,()),d,c,w,c,())/\Qz L d) (fun y hy=>?_) fun J2 hJ2=>Ok.ite (fun _=>hJ2 _ ⟨_,_,_,_,_,_,_,rfl,g5⟩) fun _=>hJ2 _ ⟨_,_,_,_,_,_,_,rfl,g5⟩
  obtain⟨a,k,z,v,b,d,w,rfl,hd⟩:=hy
  dsimp only
  refine Ok.J (fun _=>?_) fun _=>?_
  .refine Ok.opt (nx hL hd U U) fun⟨a6,d6⟩ ⟨g6,l6,u6⟩=>?_
   dsimp only at g6 l6 u6 |-
   rw[Qc (x:=1+a6) U]
   have ho:Qaf (D.Op.mk (1+a6) 2 0 0 0 0 0 0 0 (D.b.mk 0 0 0 0 0 0) (D.s.mk 0 0 0 0 0)):=⟨⟨by dsimp only;omega,Ob,Ob,Ob,Ob,Ob,Ob,Ob,Ob⟩,Ob,Ob,Ob⟩
   by_cases g7:1+a6<(zI:Int)
   .exact Ok.opt (QpJ h1) fun⟨x,e⟩ he=>fin g6 fun z=>((he z).1 ⟨ho,g7,Ob⟩).ci
   .refine Ok.opt (QpJ (big h1).1) fun⟨x,e⟩ he=>hJ _ ⟨_,_,_,_,rfl,g6,fun z=>?_⟩
    obtain⟨b1,i,hi,_,e,b2,b3⟩:=he z
    exact⟨(b1 ⟨ho,by dsimp only;omega,Ob⟩).ci,.inr ⟨i,hi,e,b2,by rw[b3];dsimp only;omega⟩⟩
  refine Ok.TG (fun y=>∃(a k:Int) (z v:Int) (b:AH) (d:D.y) (w:D.H),y=((a,k,z,v,b,()),d,c,w,c,())/\Qz L d) (fun y hy=>?_) fun J2 hJ2=>Ok.ite (fun _=>hJ2 _ ⟨_,_,_,_,_,_,_,rfl,hd⟩) fun _=>hJ2 _ ⟨_,_,_,_,_,_,_,rfl,hd⟩
  obtain⟨a,k,z,v,b,d,w,rfl,hd⟩:=hy
  refine Ok.J (fun _=>Ok.opt (QkW h1) fun⟨x,e⟩ he=>fin hd fun z=>(he.1 z).1.ci) fun _=>?_
  refine Ok.TG (fun y=>∃(a k:Int) (z v:Int) (b:AH) (d:D.y) (w:D.H),y=((a,k,z,v,b,()),d,c,w,c,())/\Qz L d) (fun y hy=>?_) fun J2 hJ2=>?_
  .obtain⟨a,k,z,v,b,d,w,rfl,hd⟩:=hy
   refine Ok.J (fun _=>Ok.opt (QsS h1) fun⟨x,e⟩ he=>fin hd fun z=>he.elim (fun y=>y.2.1.ci) fun y=>absurd z y.2) fun _=>?_
   refine Ok.ite (fun _=>Ok.opt (Qo5 h1) fun x he=>fin hd fun z=>?_) fun _=>Ok.ite (fun _=>Ok.opt (Qu1 h1) fun⟨x,e⟩ he=>fin hd fun z=>(he z).ci) fun _=>Ok.ite (fun _=>Ok.opt (Qq0 h1) fun⟨x,e⟩ he=>fin hd fun z=>(he z).ci) fun _=>Ok.ite (fun _=>?_) fun _=>Ok.ite (fun _=>Ok.opt (Qud h1) fun x he=>?_) fun _=>fin hd fun _=>h1
   .rcases he with⟨i,_,_,rfl⟩|⟨_,y⟩
    .exact h1.drop
    .exact absurd z y
   .dsimp only
    rw[h.len]
    exact Ok.opt (nx hL hd U U) fun⟨a6,d6⟩ ⟨g6,_⟩=>Ok.opt (QtP h1) fun⟨x,e⟩ he=>fin g6 fun z=>(he.1 z).1.ci
   .refine Ok.opt (nx hL hd U U) fun⟨a6,d6⟩ ⟨g6,_⟩=>Ok.ite (fun _=>?_) fun _=>fin g6 fun _=>he.1.ci
    dsimp only
    rw[h.len]
    exact Ok.opt (nx hL g6 U U) fun⟨a7,d7⟩ ⟨g7,_⟩=>Ok.opt (QwO h hq) fun⟨x,e⟩ he=>fin g7 fun z=>(he z).ci
  .have go:∀{b:AH},Ok (J2 ((a,k,z,v,b,()),d,c,w,c,())) fun x=>Qz L x.2/\CI n (q+1) (PO E 256) x.1/\(CI n (q+1) (PO E zI) x.1\/∃i,i<n/\∃e∈(O x.1.M i).l,(zI:Int)<=e.Op.S):=hJ2 _ ⟨_,_,_,_,_,_,_,rfl,hd⟩
   exact Ok.ite (fun _=>go) fun _=>Ok.ite (fun _=>go) fun _=>Ok.ite (fun _=>go) fun _=>Ok.ite (fun _=>go) fun _=>Ok.ite (fun _=>go) fun _=>go
def QAi(hL:L.length<=500)(hd:Qz L d)(h:Sys n j zI E l p)(hj:j<18)(ht:0<=t/\t<=864000+300*j):Ok (UA 1000 d p t) fun x=>Qz L x.2.2/\(0<=x.2.1/\x.2.1<=864000+300*((j:Int)+1))/\∃T E',Sys n (j+1) T E' l x.1:=by
 have hn:=h.ci.sz;have hlo:=h.lo
 have h0:=h.step U
 have hel:=h.el
 have h00:=h0.more (x:=(zI:Int)) U
 unfold UA
 rw[h.ci.len]
 refine Ok.opt (nx hL hd U U) fun⟨a0,d1⟩ ⟨g1,l1,u1⟩=>?_
 dsimp only at g1 l1 u1 |-
 refine Ok.TG (fun y=>∃(i:Nat) (d:D.y) (w:D.c),y=((t,(i:Int),()),d,p,w,())/\Qz L d/\i<n) (fun y hy=>?_) fun zG hJ=>?_
 rotate_left
 .have at0:∀{a:Int} {d:D.y} {w:D.c},Qz L d->0<=a->a<n->Ok (zG ((t,a,()),d,p,w,())) fun x=>Qz L x.2.2/\(0<=x.2.1/\x.2.1<=864000+300*((j:Int)+1))/\∃T E',Sys n (j+1) T E' l x.1:=fun{a d w} hd h1 h2=>hJ _ ⟨a.toNat,d,w,by rw[show(a.toNat:Int)=a by omega],hd,U⟩
  exact Ok.opt (Qpo h.ci) fun⟨a,b⟩ ⟨b1,b2⟩=>Ok.J (fun _=>Ok.opt (nx hL g1 U U) fun⟨a2,d2⟩ ⟨g2,_⟩=>Ok.ite (fun _=>at0 g2 b1 b2) fun _=>at0 g2 l1 u1) fun _=>at0 g1 l1 u1
 obtain⟨i,d,w,rfl,hd,hi⟩:=hy
 dsimp only
 refine Ok.opt (Qci hL hd Ob Ob) fun⟨a3,d3⟩ ⟨g3,m3⟩=>?_
 dsimp only at g3 m3 |-
 simp only[AY,BH,or_false]at m3
 rw[Qc (x:=t+a3) U]
 obtain⟨u,hu⟩:∃u,u=t+a3:=⟨_,rfl⟩
 rw[<-hu]
 have hu2:0<=u/\u<=864000+300*((j:Int)+1):=U
 refine Ok.TG (fun y=>∃(T:Nat) (E':Y Int) (p' w:D.c) (d:D.y),y=((u,()),p',w,d,())/\Qz L d/\Sys n (j+1) T E' l p') (fun y hy=>?_) fun zG hJ=>?_
 .obtain⟨T,E',p',w,d,rfl,hd,hs⟩:=hy
  exact Ok.s ⟨hd,hu2,T,E',hs⟩
 .refine Ok.opt (nx hL g3 U U) fun⟨a4,d4⟩ ⟨g4,_⟩=>?_
  dsimp only at g4 |-
  refine Ok.TG (fun y=>∃(v:Int) (b:AH) (d:D.y) (w:D.c),y=((u,(i:Int),v,b,()),d,p,w,())/\Qz L d) (fun y hy=>?_) fun J2 hJ2=>Ok.ite (fun _=>hJ2 _ ⟨_,_,_,_,rfl,g4⟩) fun _=>hJ2 _ ⟨_,_,_,_,rfl,g4⟩
  obtain⟨v,b,d,w,rfl,hd⟩:=hy
  refine Ok.J (fun _=>?_) fun _=>?_
  ·have hb:=h.behind hi
   obtain⟨_,hcl,hce⟩:=h.com hi
   refine Ok.oe (Qys h hi) (Ok.opt (QAz (id:=1) (t:=u) hL hd hb.inv hb.ids U U) fun⟨o,d5⟩ ⟨g5,o1,o2,o3,o4,o5⟩=>?_)
   dsimp only at g5 o1 o2 o3 o4 o5 |-
   refine Ok.TG (fun y=>∃(o:D.Op) (d:D.y) (w:D.c),y=((u,(i:Int),()),p,w,o,d,())/\Qz L d/\Qaf { o with S:=(zI:Int) }) (fun y hy=>?_) fun J3 hJ3=>?_
   .obtain⟨o,d,w,rfl,hd,ho⟩:=hy
    exact Ok.opt (Qsj (j:=j+1) h00 ho (fun _=>Ob) U) fun⟨x,y,e⟩ he=>Ok.ite (fun z=>hJ _ ⟨_,_,_,_,_,rfl,hd,(he z).1⟩) fun _=>hJ _ ⟨_,_,_,_,_,rfl,hd,h0⟩
   .have pg:∀{a:Int},0<=a->a<3->Qaf { (D.Op.mk 0 1 0 0 u (X (1+a)) 0 0 0 (D.b.mk 0 0 0 0 0 0) (D.s.mk 0 0 0 0 0))with S:=(zI:Int) }:=fun{a} h1 h2=>by
     rw[Qc (x:=1+a) U]
     exact⟨⟨by dsimp only;omega,Ob,Ob,Ob,by dsimp only;omega,by dsimp only;omega,Ob,Ob,Ob⟩,fun _=>by dsimp only;omega,by dsimp only;omega,Ob⟩
    refine Ok.ite (fun _=>Ok.opt (nx hL g5 U U) fun⟨a6,d6⟩ ⟨g6,l6,u6⟩=>hJ3 _ ⟨_,_,_,rfl,g6,pg l6 u6⟩) fun _=>Ok.ite (fun _=>Ok.opt (nx hL g5 U U) fun⟨a6,d6⟩ ⟨g6,l6,u6⟩=>hJ3 _ ⟨_,_,_,rfl,g6,pg l6 u6⟩) fun _=>hJ3 _ ⟨_,_,_,rfl,g5,?_⟩
    exact Qaf.TZ ⟨o1,fun e=>(o4 e).2,by rw[o3];omega,o5⟩ U
  .refine Ok.TG (fun y=>∃(v:Int) (b:AH) (d:D.y) (w:D.c),y=((u,(i:Int),v,b,()),d,p,w,())/\Qz L d) (fun y hy=>?_) fun J2 hJ2=>Ok.ite (fun _=>hJ2 _ ⟨_,_,_,_,rfl,hd⟩) fun _=>hJ2 _ ⟨_,_,_,_,rfl,hd⟩
   obtain⟨v,b,d,w,rfl,hd⟩:=hy
   refine Ok.J (fun _=>Ok.opt (Qy6 h hi (t:=u) U hj) fun⟨x,y,e⟩ he=>Ok.ite (fun z=>?_) fun _=>hJ _ ⟨_,_,_,_,_,rfl,hd,h0⟩) fun _=>Ok.ite (fun _=>Ok.opt (QkW h0.ci) fun⟨x,e⟩ he=>Ok.ite (fun z=>Ok.opt (QiI (he.1 z).1.ci) fun f ⟨f1,_⟩=>hJ _ ⟨zI,E,_,_,_,rfl,hd,⟨h.base,h.first,h.ser,h0.lo,h0.hi,h0.el,f1.ci⟩⟩) fun _=>hJ _ ⟨_,_,_,_,_,rfl,hd,h0⟩) fun _=>?_
   .grind
   .refine Ok.opt (QCx hL hd h.ci U U) fun⟨x,d6⟩ ⟨g6,x1,x2⟩=>?_
    dsimp only at g6 x1 x2 |-
    refine Ok.opt (QtS (p:=D.c.mk p.FW x p.FR) h.led (by have:=h.ser;dsimp only;omega) x1) fun b hb=>Ok.J (fun z=>?_) fun _=>hJ _ ⟨_,_,_,_,_,rfl,g6,h0⟩
    have hx:CI n (j+1) (PO E zI) x:=x2.resolve_right fun⟨i,hi,e,b1,b2⟩=>by
     have:=hb.1 z i hi e b1
     have:=h.ser
     grind
    exact hJ _ ⟨zI,E,_,_,_,rfl,g6,⟨h.base,h.first,h.ser,h0.lo,h0.hi,h0.el,hx⟩⟩
end
end
section
open Go AM
attribute [local irreducible] dueV stepV runV QE answerV opV Zk opsV Qbe
section
def newR(i:Nat):D.N:=D.N.mk i 0 (-1) 0 [] 0 [] []
def newC(n:Nat):D.H:=D.H.mk ((List.range n).map newR) [] (List.replicate n false) []
def QBO{n:Nat}(h:n=1\/n=3\/n=5):Qtt 1000 n=some (newC n,0):=by
 rcases h with rfl|rfl|rfl<;>kernel_rfl
def QBP(h:n=1\/n=3\/n=5):CI n 0 (PO [] 1) (newC n):=by
 have e:∀j,j<n->O (newC n).M j=newR j:=fun j hj=>by
  show O ((List.range n).map newR) j=_
  rw[Qpw (by simpa using hj),Qmm hj]
 refine⟨⟨by simp[newC],_,Inv.fresh (fun j hj=>by rw[e j hj];rfl) fun j hj=>by rw[e j hj];exact⟨rfl,rfl,rfl,rfl,rfl⟩⟩,U,PO.id U,fun j hj=>?_,by simp[newC],by simp[newC],U,fun j hj=>by simp[newC]at hj,by simp[newC],by simp[newC],fun j hj=>by rw[e j hj];show(0:Int)<=_;omega⟩
 rw[e j hj]
 exact⟨by simp[newR],by simp[newR];omega,.inl ⟨rfl,rfl,rfl⟩⟩
def QzA{n:Nat}{l:D.G}(h:n=1\/n=3\/n=5)(hl:Loose 0 l)(hs:l.g=[]):Qp7 1000 l n=some (D.c.mk l (newC n) 1,0):=by
 have hled:=hl.led U
 refine Ok.eq ?_
 unfold Qp7
 refine Ok.oe hled.check (Ok.nt rfl (Ok.oe (QBO h) (Ok.NS (Ok.oe hled.copy ?_))))
 refine Ok.run 0 (fun _=>_) rfl U (fun i hi=>absurd hi U) fun K=>?_
 dsimp only
 exact Ok.n (by rw[hs];simp) (Ok.s rfl)
def QxA{L:Y Int}{d:D.y}{K:Nat}(hL:L.length<=500)(hd:Qz L d)(hK:K<=14):Ok (VU 1000 d (K:Int)) fun x=>Qz L x.2.2/\∃n j zI E l,Sys n j zI E l x.1/\j<=K/\l.g=[]/\(0<=x.2.1/\x.2.1<=864000+300*(j:Int)):=by
 unfold VU
 refine Ok.opt (QBm hL hd U) fun⟨c,d1⟩ ⟨h1,hc⟩=>?_
 dsimp only at h1 hc |-
 refine Ok.opt (QBf hL h1 U) fun⟨b,d2⟩ ⟨h2,hb⟩=>?_
 dsimp only at h2 hb |-
 refine Ok.oe (QBR hc U hb) (Ok.opt (Qci hL h2 Ob Ob) fun⟨a,d3⟩ ⟨h3,m3⟩=>?_)
 dsimp only at h3 m3 |-
 simp only[AY,BH,or_false]at m3
 obtain⟨n,hn,rfl⟩:∃n:Nat,(n=1\/n=3\/n=5)/\a=n:=⟨a.toNat,U,U⟩
 have hfl:=QsX hc hb
 refine Ok.oe (QzA hn hfl rfl) ?_
 have hS:Sys n 0 1 [] (QfN c b) (D.c.mk (QfN c b) (newC n) 1):=⟨rfl,hfl,rfl,U,U,Ob,QBP hn⟩
 have hlen:=hS.ci.len
 dsimp only at hlen |-
 refine Ok.TG (fun y=>∃(d:D.y) (w p:D.c),y=(((K:Int),864000,()),d,w,p,())/\Qz L d/\Sys n 0 1 [] (QfN c b) p) (fun y hy=>?_) fun zG hJ=>?_
 .obtain⟨d,w,p,rfl,hd,hp⟩:=hy
  dsimp only
  rw[Qc U]
  refine Ok.opt (nx hL hd U U) fun⟨a,d4⟩ ⟨h4,l4,u4⟩=>?_
  dsimp only at h4 l4 u4 |-
  refine Ok.loop (fun m x=>∃(j zI:Nat) (E:Y Int) (t k:Int) (d:D.y) (p:D.c),x=((t,k,()),d,w,p,())/\(0<=k/\k+j<=K)/\(0<=t/\t<=864000+300*j)/\Qz L d/\Sys n j zI E (QfN c b) p/\m=k.toNat) (m:=a.toNat) U ⟨0,1,[],864000,a,d4,p,rfl,U,U,h4,hp,rfl⟩ ?_
  rintro m x ⟨j,zI,E,t,k,d,p,rfl,k1,t1,hd,hp,rfl⟩ K2 hK2
  dsimp only
  refine Ok.ite (fun g=>Ok.opt (QAi hL hd hp U t1) fun⟨p',t',d'⟩ ⟨w1,w2,T,E',w3⟩=>?_) fun _=>Ok.s ⟨hd,_,_,_,_,_,hp,U,rfl,t1⟩
  dsimp only at w1 w2 w3 |-
  rw[Qc U]
  exact hK2 (k - 1).toNat _ U ⟨j+1,T,E',t',k - 1,d',p',rfl,U,U,w1,w3,rfl⟩
 .rw[hlen]
  refine Ok.opt (nx hL h3 U U) fun⟨a,d4⟩ ⟨h4,_⟩=>Ok.opt (QoF hS.ci fun i hi=>?_) fun⟨x,e⟩ he=>Ok.ite (fun z=>hJ _ ⟨_,_,_,rfl,h4,⟨rfl,hfl,rfl,U,U,Ob,(he z).ci⟩⟩) fun _=>hJ _ ⟨_,_,_,rfl,h4,hS⟩
  show(O ((List.range n).map newR) i).T<=_
  rw[Qpw (by simpa using hi),Qmm hi]
  show(0:Int)<=_;omega
abbrev yes:AH->Prop:=fun _=>True
def Ok.any(h:Ok x yes):Ok (J b x (some false)) yes:=Ok.J (fun _=>h) fun _=>Ok.s trivial
def QwJ(h:0<=r.h/\r.h<=r.l.length)(hl:r.l.length<=900):XY 1000 r=some (comV r):=by
 refine Ok.eq ?_
 unfold XY comV
 rw[show max 0 (min r.h (r.l.length:Int))=(r.h.toNat:Int)by omega]
 obtain⟨zH,hC⟩:∃zH,zH=r.l.take r.h.toNat:=⟨_,rfl⟩
 have hCl:zH.length<=900:=by rw[hC];simp;omega
 refine Ok.natn (Ok.L ?_)
 rw[<-hC]
 refine Ok.run zH.length (fun i=>((zH,(zH.length:Int),(i:Int),()),(zH.take i).map (fun e=>e.Op),())) rfl U (fun i hi K hK=>?_) fun K=>?_
 .dsimp only at hK |-
  rw[<-Qn hi,Ay]at hK
  refine Ok.P (Ok.atn hi (Ok.LS ?_))
  rw[Qa U]
  exact hK
 .dsimp only
  rw[Ad]
  exact Ok.N (Ok.s rfl)
end
end
section
def InvC.ckE(h:InvC n P Rs W)(hi:i<n)(hn:n<=5)(hs:Shp n (O Rs i))(hl:(O Rs i).l.length<=256):Um 1000 n (O Rs i)=some true:=by
 have hc:=h.com_le hi
 have hid:=h.id hi
 obtain⟨_,g,x⟩:=h
 have hr:=x.rep i hi
 refine QtI U hs U hl hc hr.pos fun k hk=>⟨?_,(hr.log.term k hk).2⟩
 split
 .exact(hr.log.term k hk).1
 .exact hr.log.asc (k - 1) k U hk
def QBB(hl:L.length<=900)(hx:x.a0<x.a1)(h:isC L x.a0 x.a1=false):XA 1000 L x=some false:=by
 refine Ok.eq ?_
 unfold XA
 refine Ok.oe (v:=-1) ?_ (Ok.s Ob)
 refine Ok.eq ?_
 unfold UZ
 refine Ok.run L.length (fun i=>((L,(L.length:Int),(i:Int),()),(x.a0,x.a1,()),())) rfl U (fun i hi K hK=>?_) fun K=>Ok.n (by show ¬(L.length:Int)<(L.length:Int);omega) (Ok.s rfl)
 dsimp only at hK |-
 refine Ok.P (Ok.atn hi (Ok.n (fun e=>?_) ?_))
 .have h1:x.a0=(O L i).a0/\x.a1=(O L i).a1:=by simpa using e
  have:isC L x.a0 x.a1=true:=C6.2 ⟨_,Qf hi,by simp;omega⟩
  simp_all
 .rw[Qa U]
  exact hK
def Qou(h:CI n q P c):Vf 1000 c=some true:=by
 have hlen:=h.len;have hn:=h.sz;have hw:=h.wire;have hq:=h.q;have hcut:=h.cut;have hd:=h.dn
 refine Ok.eq ?_
 unfold Vf
 rw[hlen]
 refine Ok.j (Ok.oe gin (Ok.bt (inn U U) (Ok.N (Ok.N ?_))))
 dsimp only
 rw[hlen]
 refine Ok.run n (fun i=>(((n:Int),c.M,(n:Int),(i:Int),()),c,())) rfl U (fun i hi K hK=>?_) fun K=>?_
 .dsimp only at hK |-
  refine Ok.P (Ok.j (Ok.A (Ok.n (by have:=h.inv.id hi;omega) (Ok.oe (h.inv.ckE hi hn.2 (h.shp i hi) (h.short hi)) (Ok.t ?_)))))
  dsimp only
  rw[Qa U]
  exact hK
 refine Ok.n (by show ¬(n:Int)<(n:Int);omega) ?_
 refine Ok.run c.FC.length (fun i=>(((n:Int),c.FC,(c.FC.length:Int),(i:Int),()),c,())) rfl U (fun i hi K hK=>?_) fun K=>?_
 .dsimp only at hK |-
  have hm:=h.inv.msg (Qf hi)
  have hne:=(h.ents _ (Qf hi)).2
  refine Ok.P (Ok.j (Ok.atn hi (Ok.oe gin ?_)))
  rw[Qc (x:=(n:Int) - 1) U]
  refine Ok.bt (inn U U) (Ok.oe gin (Ok.bt (inn U U) (Ok.n hne ?_)))
  dsimp only
  rw[Qa U]
  exact hK
 refine Ok.n (by show ¬(c.FC.length:Int)<(c.FC.length:Int);omega) ?_
 refine Ok.run c.Fm.length (fun i=>(((n:Int),c.Fm,(c.Fm.length:Int),(i:Int),()),c,())) rfl U (fun i hi K hK=>?_) fun K=>Ok.n (by show ¬(c.Fm.length:Int)<(c.Fm.length:Int);omega) (Ok.s rfl)
 dsimp only at hK |-
 obtain⟨k1,k2,k3,k4⟩:=h.cutOK i hi
 refine Ok.P (Ok.j (Ok.atn hi (Ok.oe gin ?_)))
 rw[Qc (x:=(n:Int) - 1) U,Qc (x:=(O c.Fm i).a0+1) U]
 refine Ok.bt (inn U U) (Ok.oe gin (Ok.bt (inn U U) (Ok.natn (Ok.L (Ok.oe (QBB (by simp;omega) k2 k4) (Ok.f ?_))))))
 dsimp only
 rw[Qa U]
 exact hK
end
open Go AM
section
def QCF(h:L.length<=1000):Xu 1000 L=some L:=by unfold Xu;exact Yi U
def QCG(h:L.length<=1000):XO 1000 L=some L:=by unfold XO;exact Yi U
def QBg(h:L.length<=1000):YY 1000 L=some L:=by unfold YY;exact Yi U
def QDm(h:L.length<=1000):XQ 1000 L=some L:=by unfold XQ;exact Yi U
def QDl(h:L.length<=1000):XP 1000 L=some L:=by unfold XP;exact Yi U
def QDk(h:L.length<=1000):WN 1000 L=some L:=by unfold WN;exact Yi U
def QC9(h1:r.l.length<=1000)(h2:r.FS.length<=1000)(h3:r.FE.length<=1000):U2 1000 r=some r/\V7 1000 r=some r:=by
 constructor
 .refine Ok.eq ?_
  unfold U2
  exact Ok.oe (QCF h1) (Ok.oe (QBg h2) (Ok.oe (QfB h3) (Ok.s rfl)))
 .refine Ok.eq ?_
  unfold V7
  exact Ok.oe (QCF h1) (Ok.oe (QBg h2) (Ok.oe (QfB h3) (Ok.s rfl)))
def CI.vcp{n q i:Nat}{c:D.H}{P:D.Op->Prop}(h:CI n q P c)(hi:i<n):U2 1000 (O c.M i)=some (O c.M i)/\V7 1000 (O c.M i)=some (O c.M i):=by
 have k:=(h.ck.rep i hi).2.2
 exact QC9 (by have:=h.short hi;omega) (by have:=k.vote;omega) (by have:=k.mat;omega)
def QuY(h:CI n q P c):Vp 1000 c=some c:=by
 have hlen:=h.len;have hn:=h.sz;have hw:=h.wire;have hq:=h.q;have hcut:=h.cut;have hd:=h.dn
 refine Ok.eq ?_
 unfold Vp
 refine Ok.oe (QDm U) (Ok.oe (QDl U) (Ok.oe (QBg U) (Ok.oe (QDk U) ?_)))
 refine Ok.run n (fun i=>(((n:Int),(i:Int),()),(),D.H.mk [] [] [] [],c.M,c.FC,c.FT,c.Fm,())) (by rw[hlen];rfl) U (fun i hi K hK=>?_) fun K=>?_
 .dsimp only at hK |-
  refine Ok.P (Ok.natn (Ok.E (Ok.G (Ok.oe (h.vcp hi).1 (Ok.natn (Ok.E (Ok.G ?_)))))))
  rw[Qa U,Qqj U]
  exact hK
 .refine Ok.n (by show ¬(n:Int)<(n:Int);omega) ?_
  refine Ok.run c.FC.length (fun i=>(((c.FC.length:Int),(i:Int),()),(),D.H.mk [] [] [] [],c.M,c.FC,c.FT,c.Fm,())) rfl U (fun i hi K hK=>?_) fun K=>Ok.n (by show ¬(c.FC.length:Int)<(c.FC.length:Int);omega) (Ok.s rfl)
  dsimp only at hK |-
  refine Ok.P (Ok.natn (Ok.lt hi (Ok.get hi (Ok.oe (QCG (by have:=(h.ents _ (Qf hi)).1;omega)) (Ok.natn (Ok.lt hi (Ok.get hi ?_)))))))
  rw[Qa U,show ∀m:D.d,D.d.mk m.Z m.v m.To m.T m.FA m.Fc m.h m.x m.OK=m from fun _=>rfl,Qqj hi]
  exact hK
def CI.cx{n q:Nat}{c:D.H}{P:D.Op->Prop}(h:CI n q P c):CX n P c:=by
 have hn:=h.sz
 exact⟨hn,h.len,h.dn,Qou h,QuY h,fun i hi=>⟨h.inv.id hi,h.inv.ckE hi hn.2 (h.shp i hi) (h.short hi),(h.vcp hi).2,h.short hi,fun hr=>((h.ck.rep i hi).2.2.ldr hr).1⟩,fun i hi=>(h.inv.log hi).1⟩
end
section
attribute [local irreducible] dueV stepV runV QE answerV
section
def Qy9(h:Ze n c)(hn:n<48)(hx:0<=s/\s<2->Qb6 x):Ud 1000 c s x=some (if 0<=s/\s<2 then(QlY c s x,0)else(cfg0,3)):=by
 have hsl:=h.slen
 have hpl:=h.plen
 obtain⟨off,hz,_⟩:=h.zone
 have hab:∃a b,c.f=[a,b]:=by
  rcases hcs:c.f with _|⟨a,_|⟨b,_|⟨d,r⟩⟩⟩
  .simp_all
  .simp_all
  .exact⟨a,b,rfl⟩
  .simp_all
 obtain⟨a,b,hab⟩:=hab
 have hpp:∃p1 p2 p3 p4,c.k=[p1,p2,p3,p4]:=by
  rcases hcs:c.k with _|⟨a,_|⟨b,_|⟨d,_|⟨e,_|⟨f,r⟩⟩⟩⟩⟩<;>rw[hcs]at hpl<;>simp at hpl
  exact⟨a,b,d,e,rfl⟩
 obtain⟨p1,p2,p3,p4,hpp⟩:=hpp
 have ha:=h.sched a (by rw[hab];simp)
 have hb:=h.sched b (by rw[hab];simp)
 obtain⟨la,hla,hla2⟩:=ha.layers
 obtain⟨lb,hlb,hlb2⟩:=hb.layers
 have hla3:=ha.len;have hlb3:=hb.len;have hla4:=hla2.len;have hlb4:=hlb2.len
 have hin:QnU 1000 ⟨bZ,off,[]⟩ [p1,p2,p3,p4] la lb a.FU b.FU:=by
  refine⟨Ob,fun p hp=>?_,U,by rw[hla2.win];simp,U,by rw[hlb2.win];simp,U,U⟩
  rcases(h.person p (by rw[hpp];exact hp)).quiet with g|⟨_,_,g,_⟩<;>rw[g]<;>simp
 refine Ok.eq ?_
 unfold Ud
 rw[hz,hpp,h.cal,hab]
 dsimp only
 rw[hla,hlb]
 dsimp only
 rw[iB hin]
 refine Ok.oe (QkZ h U) (Ok.NS (Ok.ite (fun hs=>?_) (fun g=>Ok.s ?_)))
 .have hadd:addE c a b s x=QlY c s x:=by
   unfold addE QlY
   rw[hab]
   rcases(show s=0\/s=1 by omega)with rfl|rfl
   .rfl
   .rfl
  rw[iB hs,hadd]
  exact Ok.oe (QkZ (Qo8 h (hx hs) hs) U) (Ok.NS (Ok.s rfl))
 .rw[iA g]
def QwW(h:Qd M n l)(hn:n<48)(hpg:l.F.length<=9)(ho:OpIn o)(hk:o.Z=5):Z5 1000 ⟨l⟩ o=some ((opV l o).2,⟨(opV l o).1⟩):=by
 refine Ok.eq ?_
 unfold Z5 opV
 rw[iA U,iA U,iA U,iA U]
 refine Ok.run l.F.length (fun i=>(((l.F.length:Int),(i:Int),()),((Zu l i).E8,(Zu l i).E.FI,(Zu l i).E.k,(Zu l i).E.o,(Zu l i).E.f,(Zu l i).a.t,(Zu l i).a.j,(Zu l i).FB,(Zu l i).Fence,()),o,(Zu l i).F,(Zu l i).g,(Zu l i).Calls,())) rfl U (fun i hi k hk=>?_) (fun k=>?_)
 .try dsimp only
  refine Ok.P (Ok.oe (QzU h hpg hi) ?_)
  try dsimp only
  rw[Qa U]
  exact hk
 .try dsimp only
  have hki:=Ya (l:=l) (k:=l.F.length)
  obtain⟨L,hL⟩:∃L,Zu l l.F.length=L:=⟨_,rfl⟩
  rw[hL]at hki |-
  have hed:=Qy9 (c:=L.E) (s:=o.e) (by rw[hki.2.1];exact h.cfg) hn (ho.edit hk)
  refine Ok.N (Ok.oe hed ?_)
  by_cases hs:0<=o.e/\o.e<2
  .rw[iB hs,iB hs,<-hki.2.1]
   exact Ok.j (Ok.p rfl (Ok.s rfl))
  .rw[iA hs,iA hs]
   exact Ok.j (Ok.NS (Ok.s rfl))
def OkAt.apply(h:OkAt l o):Qan 1000 l o=some ((Zk l o).1,(Zk l o).2,true):=by
 by_cases k5:o.Z=5
 rotate_left
 .exact h.applyN k5
 obtain⟨M,n,h1,h2,h3⟩:=h.ok
 have hpg:=h.pg;have hsl:=h.len;have ho:=h.op;have hfe:=h1.fence
 refine Ok.eq ?_
 unfold Qan
 refine Ok.j (Ok.oe h.led.checkE (Ok.t (Ok.oe ho.validE (Ok.t ?_))))
 try dsimp only
 refine Ok.oe h.led.copyE (Ok.oe (QaP U) (Ok.J (fun g=>Ok.s ?_) (fun g=>?_)))
 .unfold Zk;rw[iB g]
 rw[Qai g]
 have hsee:=h1.see ho h3 g hsl
 have hsp:(seeV l o).F.length<=8:=hpg
 have key:∀r:Int×D.worker,r=((opV (seeV l o) o).2,⟨(opV (seeV l o) o).1⟩)->Ok (some (D.G.mk r.2.G.E8 (D.E.mk r.2.G.E.FI r.2.G.E.k r.2.G.E.o r.2.G.E.f) (D.a.mk r.2.G.a.t r.2.G.a.j) r.2.G.F r.2.G.FB r.2.G.Fence r.2.G.g r.2.G.Calls,r.1,true)) (·=((opV (seeV l o) o).1,(opV (seeV l o) o).2,true)):=fun r e=>by
  subst e
  obtain⟨L,e,hLe⟩:∃L e,opV (seeV l o) o=(L,e):=⟨_,_,rfl⟩
  rw[hLe]
  exact Ok.s rfl
 exact Ok.N (Ok.LS (Ok.j (Ok.N (Ok.N (Ok.N (Ok.N (Ok.oe (QwW (l:=seeV l o) hsee h2 U ho k5) (key _ rfl))))))))
def Qox(h:Runs l ops):YW 1000 l ops=some (opsV l ops,Qbe l ops):=by
 have hlen:=h.len
 refine Ok.eq ?_
 unfold YW
 have h0:=h.fin 0 (BM _)
 rw[BW]at h0
 refine Ok.oe (Led.copyE (l:=l) h0) ?_
 refine Ok.run ops.length (fun j=>((ops,(ops.length:Int),(j:Int),()),opsV l (ops.take j),({ E8:=0,E:={ FI:=[],k:=[],o:=[],f:=[] },a:={ t:=[],j:=[] },F:=[],FB:=0,Fence:=0,g:=[],Calls:=[] }:D.G),Qbe l (ops.take j),())) rfl U (fun j hj k hk=>?_) (fun k=>?_)
 .try dsimp only
  have ha:=h.at_ j hj
  have hel:=QiB (ops:=ops.take j) (l:=l)
  rw[Af]at hel
  try dsimp only at hk
  rw[QjK hj]at hk
  rw[QfW hj]at hk
  refine Ok.P (Ok.atn hj (Ok.oe ha.apply ?_))
  refine Ok.LS ?_
  try dsimp only
  rw[Qa U]
  exact hk
 .try dsimp only
  rw[Ad]
  exact Ok.N (Ok.s rfl)
end
end
section
open Go AM
attribute [local irreducible] dueV stepV runV QE answerV opV Zk opsV Qbe
section
def QCK(hl:zH.length<=900):Ok (QF 1000 zH o) fun b=>b=false->∀e∈zH,e.Op.S≠o.S:=by
 unfold QF
 refine Ok.opt (P:=fun z=>z<0->∀e∈zH,e.Op.S≠o.S) ?_ fun z hz=>Ok.TF (Ok.s fun e=>hz (by have:=BG e;omega))
 unfold Zf
 refine Ok.loop (fun m x=>∃i:Nat,x=((zH,(zH.length:Int),(i:Int),()),o,())/\i<=zH.length/\(∀e∈zH.take i,e.Op.S≠o.S)/\m=zH.length - i) (m:=zH.length) U ⟨0,rfl,U,Ob,rfl⟩ ?_
 rintro m x ⟨i,rfl,i1,i2,rfl⟩ K hK
 dsimp only
 refine Ok.ite (fun g=>?_) fun g=>Ok.TF (Ok.s fun _=>by rw[Bl U]at i2;exact i2)
 have hi:i<zH.length:=U
 refine Ok.atn hi (Ok.opt (P:=fun b=>b=false->(O zH i).Op.S≠o.S) (by unfold Qaw;exact Ok.TF (Ok.s fun e=>of_decide_eq_false e)) fun b hb=>Ok.J (fun _=>Ok.TF (Ok.s fun e=>absurd e U)) fun g2=>?_)
 rw[Qa U]
 refine hK _ _ U ⟨i+1,rfl,U,fun e he=>?_,rfl⟩
 rw[<-Qn hi]at he
 grind
def QDq{n i:Nat}{r:D.N}{o:D.Op}(hn:1<=n/\n<=5)(hid:r.S=i)(hi:i<n)(ck:Um 1000 n r=some true)(cp:V7 1000 r=some r)(hl:r.l.length<=256)(hm:r.FJ=2->r.FE.length=n):
  Ok (UR 1000 n r o) fun x=>x.2=0->x.1=prpV n r o/\r.FJ=2/\∀e∈r.l,e.Op.S≠o.S:=by
 unfold UR
 refine Ok.oe ck (Ok.nt rfl (Ok.ite (fun _=>Ok.s fun e=>absurd e Ob) fun g1=>Ok.opt (QCK U) fun b hb=>Ok.J (fun _=>Ok.s fun e=>absurd e Ob) fun g2=>Ok.ite (fun _=>Ok.s fun e=>absurd e Ob) fun g3=>Ok.oe cp (Ok.LS ?_)))
 have hm:=hm (Ag.1 g1)
 have el:(r.l++[D.n.mk r.T o]).length=r.l.length+1:=Ob
 refine Ok.nat U (Ok.E (Ok.G (Ok.j (Ok.oe (QB2 hn) ?_))))
 refine Ok.ite (fun g5=>Ok.s fun _=>⟨?_,Ag.1 g1,hb g2⟩) fun g5=>Ok.s fun _=>⟨?_,Ag.1 g1,hb g2⟩
 .unfold prpV;rw[iB U,el];rfl
 .unfold prpV;rw[iA U,el];rfl
def upK(h:CI n q P c):Ok (Qjj 1000 c k) fun e=>e=0->∃i:Nat,i<n/\k=i/\O c.FT i=false:=by
 have hlen:=h.len;have hn:=h.sz;have hdn:=h.dn
 unfold Qjj Qgj
 rw[hlen,Qc (x:=(n:Int) - 1) U]
 refine Ok.opt (P:=fun e=>e=0->0<=k/\k<n) (Ok.oe h.cx.ck (Ok.nt rfl (Ok.oe gin (Ok.ncnd (fun _=>Ok.s fun e=>absurd e Ob) fun g=>Ok.s fun _=>by have:=Qt.1 g;omega)))) fun e he=>Ok.ite (fun g=>Ok.s fun e=>absurd e g) fun g=>?_
 obtain⟨h1,h2⟩:=he (Ag.1 g)
 refine Ok.at h1 U (Ok.J (fun _=>Ok.s fun e=>absurd e Ob) fun g2=>Ok.s fun _=>⟨k.toNat,U,U,g2⟩)
def QzK(h:CI n q P c):Ok (QaJ 1000 c k o) fun x=>x.2=0->P o->CG n q P c.M x.1:=by
 have hlen:=h.len;have hn:=h.sz;have hw:=h.wire;have hd:=h.dn
 unfold QaJ
 refine Ok.opt (upK h) fun e he=>Ok.ite (fun g=>Ok.s fun e=>absurd e g) fun g=>?_
 obtain⟨i,hi,rfl,dn⟩:=he (Ag.1 g)
 have hid:=(h.ck.rep i hi).2.2.id
 have hck:=(h.ck.rep i hi).2.2
 obtain⟨x1,x2,x3,x4,x5⟩:=h.cx.rep i hi
 refine Ok.oe h.cx.cp (Ok.natn (Ok.E (Ok.G ?_)))
 rw[h.atR]
 refine Ok.opt (QDq hn x1 hi x2 x3 x4 x5) fun⟨r',e⟩ hs=>Ok.ite (fun g=>Ok.s fun e=>absurd e g) fun g2=>Ok.natn (Ok.E (Ok.G (Ok.s fun _ hp=>?_)))
 obtain⟨e1,e2,e3⟩:=hs (Ag.1 g2)
 dsimp only at e1 e2 e3 |-
 refine⟨h.upd ?_ (h.set hi (by rw[e1];exact(h.shp i hi).prop hid e2)) hd rfl hw h.ents (h.tset hi (by rw[e1];exact h.tm i hi)),.set U (by rw[e1];exact .prop (h.inv.com_le hi))⟩
 rw[e1];exact h.inv.prop hi e2 (hck.ldr e2).1 hp e3
def Sys.px(h:Sys n j zI E l p):PX n p:=by
 have h1:=h.lo;have h2:=h.ser;have h3:=h.hi
 refine⟨h.led,U,?_⟩
 have:=h.ci.cx
 exact⟨this.sz,this.len,this.dn,this.ck,this.cp,this.rep,fun i hi e he=>⟨(this.ops i hi e he).1.1,by have:=(this.ops i hi e he).2.1;omega⟩⟩
def QC3(h:Sys n j zI E l p)(ho:Qaf { o with S:=(zI:Int) })(hE:o.Z=5->(zI:Int)∈E)(hj:zI<=3*j)(hz:0<=z/\z<=100):
  Ok (Xq 1000 (D.site.mk p k z) o) fun x=>x.1=0->∃p',x.2=D.site.mk p' k (z+1)/\Sys n j (zI+1) E l p'/\GrC n p.H.M p'.H.M:=by
 have h1:=h.lo;have h2:=h.ser;have h3:=h.hi
 unfold Xq
 dsimp only
 rw[h2]
 have hc:CI n j (PO E (zI+1)) p.H:=h.ci.mono (fun o ho=>ho.up U fun _=>id) (PO.id U)
 refine Ok.oe (v:=true) ho.1.validE (Ok.nt rfl (Ok.N (Ok.opt (QzK hc) fun⟨c',e⟩ he=>Ok.ite (fun g=>Ok.s fun e=>absurd e g) fun g=>Ok.s fun _=>?_)))
 rw[Qa U,Qc (x:=z+1) U]
 have hg:=he (Ag.1 g) ⟨ho,by show(zI:Int)<((zI+1:Nat):Int);omega,hE⟩
 exact⟨_,rfl,⟨h.base,h.first,rfl,U,h3,h.el,hg.ci⟩,hg.gr⟩
def QAQ(h:Sys n j zI E l p)(ho:Qaf { o with S:=(zI:Int) })(hE:o.Z=5->(zI:Int)∈E)(hj:zI<=3*j):
  Ok (UI 1000 p k o) fun x=>x.2.2=0->(Sys n j (zI+1) E l x.1/\GrC n p.H.M x.1.H.M)/\x.2.1=zI:=by
 have h1:=h.lo;have h3:=h.hi
 unfold UI
 refine Ok.oe h.px.ck (Ok.nt rfl (Ok.oe (Qm3 h.px.cx h.led) (Ok.opt (QC3 h ho hE hj U) fun⟨e,s⟩ he=>Ok.ite (fun g=>Ok.s fun e=>absurd e g) fun g=>Ok.s fun _=>?_)))
 obtain⟨p',rfl,g1,g2⟩:=he (Ag.1 g)
 refine⟨⟨g1,g2⟩,?_⟩
 have:=g1.ser
 dsimp only
 rw[this,Qc U];omega
def QDb(h:Sys n j zI E l p)(hi:i<n):Qcl 1000 p (i:Int)=some (opsV l (comV (O p.H.M i))):=by
 have hlen:=h.ci.len
 have hck:=(h.ci.ck.rep i hi).2.2
 refine Ok.eq ?_
 unfold Qcl
 rw[h.base]
 exact Ok.A (Ok.oe (QwJ hck.com (by have:=hck.log;omega)) (Ok.oe (Qox (h.runs hi)) (Ok.s rfl)))
def QDi(h:Sys n j zI E l p)(hi:i<n):Qew 1000 p (i:Int)=some (opsV l (comV (O p.H.M i)),0):=by
 have hlen:=h.ci.len;have hn:=h.ci.sz
 refine Ok.eq ?_
 unfold Qew
 exact Ok.oe h.px.ck (Ok.nt rfl (Ok.oe pin (Ok.nt (inn U (by rw[hlen,Qc U];omega)) (Ok.oe (QDb h hi) (Ok.s rfl)))))
def ownK(hl:rest.length<=900):Ok (Qr 1000 rest s t) fun _=>True:=by
 unfold Qr
 refine Ok.opt (P:=fun _=>True) ?_ fun z _=>Ok.TF (Ok.TF (Ok.s trivial))
 unfold Q9
 refine Ok.loop (fun m x=>∃i:Nat,x=((rest,(rest.length:Int),(i:Int),()),(),s,(t,()),())/\i<=rest.length/\m=rest.length - i) (m:=rest.length) U ⟨0,rfl,U,rfl⟩ ?_
 rintro m x ⟨i,rfl,i1,rfl⟩ K hK
 dsimp only
 refine Ok.ite (fun g=>Ok.A (Ok.opt (P:=fun _=>True) ?_ fun b _=>Ok.J (fun _=>Ok.TF (Ok.TF (Ok.s trivial))) fun _=>?_)) fun _=>Ok.TF (Ok.TF (Ok.s trivial))
 .unfold Vz
  exact Ok.ite (fun _=>Ok.ite (fun _=>Ok.ite (fun _=>Ok.TF (Ok.TF (Ok.s trivial))) fun _=>Ok.TF (Ok.TF (Ok.s trivial))) fun _=>Ok.TF (Ok.TF (Ok.s trivial))) fun _=>Ok.TF (Ok.TF (Ok.s trivial))
 .rw[Qa U]
  exact hK _ _ U ⟨i+1,rfl,U,rfl⟩
def QCQ(hl:rest.length<=900):Ok (YI 1000 o rest) fun x=>x.2=rest:=by
 unfold YI
 refine Ok.opt (P:=fun _=>True) ?_ fun z _=>Ok.s rfl
 unfold QW
 refine Ok.opt (P:=fun _=>True) ?_ fun z _=>Ok.TF (Ok.s trivial)
 unfold Q2
 refine Ok.loop (fun m x=>∃i:Nat,x=((rest,(rest.length:Int),(i:Int),()),o,())/\i<=rest.length/\m=rest.length - i) (m:=rest.length) U ⟨0,rfl,U,rfl⟩ ?_
 rintro m x ⟨i,rfl,i1,rfl⟩ K hK
 dsimp only
 refine Ok.ite (fun g=>Ok.A (Ok.opt (P:=fun _=>True) ?_ fun b _=>Ok.J (fun _=>Ok.TF (Ok.s trivial)) fun _=>?_)) fun _=>Ok.TF (Ok.s trivial)
 .unfold WE
  exact Ok.ite (fun _=>Ok.ite (fun _=>Ok.ite (fun _=>Ok.TF (Ok.s trivial)) fun _=>Ok.TF (Ok.s trivial)) fun _=>Ok.TF (Ok.s trivial)) fun _=>Ok.TF (Ok.s trivial)
 .rw[Qa U]
  exact hK _ _ U ⟨i+1,rfl,U,rfl⟩
def delK(hr:rest.length<=900)(hl:L.length<=900):Ok (QG 1000 L rest) fun x=>(∀o∈(x.2.2.2.take x.2.1).drop x.1,o∈L)/\((x.2.2.2.take x.2.1).drop x.1).length<=L.length:=by
 unfold QG
 refine Ok.opt (P:=fun x=>(x.1 = -1\/∃i:Nat,i<L.length/\x.1=(i:Int))/\x.2=rest) ?_ fun⟨a,b⟩ ⟨h1,h2⟩=>?_
 .unfold Zc
  refine Ok.loop (fun m x=>∃i:Nat,x=(((L.length:Int),(i:Int),()),(rest,()),L,())/\i<=L.length/\m=L.length - i) (m:=L.length) U ⟨0,rfl,U,rfl⟩ ?_
  rintro m x ⟨i,rfl,i1,rfl⟩ K hK
  dsimp only
  refine Ok.ite (fun g=>Ok.natn (Ok.E (Ok.G (Ok.opt (QCQ hr) fun⟨b,e⟩ he=>?_)))) fun _=>Ok.TF (Ok.s ⟨.inl rfl,rfl⟩)
  obtain rfl:e=rest:=he
  refine Ok.J (fun _=>Ok.TF (Ok.s ⟨.inr ⟨i,U,rfl⟩,rfl⟩)) fun _=>?_
  rw[Qa U]
  exact hK _ _ U ⟨i+1,rfl,U,rfl⟩
 .obtain rfl:b=rest:=h2
  dsimp only at h1 |-
  refine Ok.ite (fun _=>Ok.s ⟨fun o ho=>Bq (Br ho),Ob⟩) fun g=>?_
  obtain⟨i0,hi0,rfl⟩:=h1.resolve_left g
  rw[Qa U]
  refine Ok.loop (fun m x=>∃(u v:Nat) (zH:Y D.Op),x=(((u:Int),(v:Int),()),(b,()),zH,())/\u<=v/\v<=L.length/\zH.length=L.length/\(∀o∈zH,o∈L)/\m=L.length - v) (m:=L.length - (i0+1)) U ⟨i0,i0+1,L,rfl,U,U,rfl,fun _=>id,rfl⟩ ?_
  rintro m x ⟨u,v,zH,rfl,u1,v1,c1,c2,rfl⟩ K hK
  dsimp only
  refine Ok.ite (fun g2=>?_) fun g2=>?_
  .refine Ok.TG (fun y=>∃(u':Nat) (C':Y D.Op),y=(((u':Int),(v:Int),()),(b,()),C',())/\u'<=v+1/\C'.length=L.length/\∀o∈C',o∈L) (fun y hy=>?_) fun zG hJ=>?_
   .obtain⟨u',C',rfl,y1,y2,y3⟩:=hy
    dsimp only
    rw[Qa U]
    exact hK _ _ U ⟨u',v+1,C',rfl,y1,U,y2,y3,rfl⟩
   .refine Ok.natn (Ok.E (Ok.G (Ok.opt (QCQ hr) fun⟨d,e⟩ he=>?_)))
    obtain rfl:e=b:=he
    refine Ok.ncnd (fun _=>Ok.natn (Ok.E (Ok.G ?_))) fun _=>hJ _ ⟨u,zH,rfl,U,c1,c2⟩
    rw[Qa U]
    exact hJ _ ⟨u+1,_,rfl,U,by simp;exact c1,fun o ho=>(Cy ho).elim (c2 o) fun e=>e ▸ c2 _ (Qf U)⟩
  .refine Ok.natn (Ok.L (Ok.L (Ok.L (Ok.natn (Ok.LS (Ok.s ?_))))))
   grind
def QCn(h:Sys n j zI E l p)(hi:i<n)(ht:0<=t/\t<=980000):Ok (WK 1000 (D.site.mk p (i:Int) 0) t) fun x=>(∀o∈x.1,Qaf o/\o.Z≠5)/\x.1.length<=3:=by
 have h1:=h.lo;have h2:=h.ser;have h6:=h.hi;have hlen:=h.ci.len;have hn:=h.ci.sz
 have hck:=(h.ci.ck.rep i hi).2.2
 have hl:=hck.log;have hcm:=hck.com
 have hb:=h.behind hi
 obtain⟨h3,h4,h5⟩:=h.com hi
 have hv:=QDb h hi
 obtain⟨v,hve⟩:∃v,v=opsV l (comV (O p.H.M i)):=⟨_,rfl⟩
 rw[<-hve]at hb hv
 have own:=(hb.led U).ownE
 have hpg:=hb.inv.small3 (k:=3) hb.ids
 have hpend:Wd 1000 (D.site.mk p (i:Int) 0)=some ((O p.H.M i).l.drop (O p.H.M i).h.toNat):=by
  refine Ok.eq ?_
  unfold Wd
  exact Ok.atn (by show i<p.H.M.length;omega) (Ok.nat hcm.1 (Ok.TO (by show(O p.H.M i).h.toNat<=(O p.H.M i).l.length;omega) (Ok.TF (Ok.s rfl))))
 obtain⟨rest,hr⟩:∃rest,rest=(O p.H.M i).l.drop (O p.H.M i).h.toNat:=⟨_,rfl⟩
 rw[<-hr]at hpend
 have hrl:rest.length<=256:=by rw[hr];simp;omega
 have hin:QhH (i:Int) p.FR t:=⟨U,U,U⟩
 have claim:Ok (V (Qaq 1000 v (i:Int) p.FR t) fun x=>TF (D.site.mk p (i:Int) 0) (D.site.mk p (i:Int) 0) (some ([x.1],x.2))) fun x=>(∀o∈x.1,Qaf o/\o.Z≠5)/\x.1.length<=3:=by
  refine Ok.oe (QwG own) ?_
  rw[QqT hin (by have:=hb.inv.fence;have:=hb.seen;omega)]
  exact Ok.TF (Ok.s ⟨fun o ho=>by rw[Ae.1 ho];exact⟨Quv hb.inv hin ht.2,by show(2:Int)≠5;omega⟩,Ob⟩)
 have none:Ok (TF (D.site.mk p (i:Int) 0) (D.site.mk p (i:Int) 0) (some (([]:Y D.Op),(0:Int)))) fun x=>(∀o∈x.1,Qaf o/\o.Z≠5)/\x.1.length<=3:=Ok.TF (Ok.s ⟨Ob,Ob⟩)
 unfold WK
 refine Ok.oe hv (Ok.atn (by show i<p.H.M.length;omega) (Ok.oe hpend (Ok.TG (fun y=>y=((t,()),(),D.site.mk p (i:Int) 0,v,(rest,()),())/\v.FB=(i:Int)) (fun y hy=>?_) fun zG hJ=>?_)))
 .obtain⟨rfl,ho⟩:=hy
  dsimp only
  refine Ok.oe (QvH own) ?_
  obtain⟨zH,hC⟩:∃zH,zH=QrD v (i:Int) p.FR t:=⟨_,rfl⟩
  have hwe:=Qjv (l:=v) (t:=t)
  have c1:(∀o∈zH,Qaf o/\o.Z≠5)/\zH.length<=3:=by
   rw[hC]
   unfold QrD
   split
   .refine⟨fun o hm=>?_,by rw[Wo];omega⟩
    obtain⟨a,ha,rfl⟩:=QfS hm
    rw[Wo]at ha
    rw[Qik ha]
    exact⟨QoH hb.inv ha U U ht,by show(3:Int)≠5;omega⟩
   .simp_all
  rw[<-hC]
  exact Ok.opt (delK U U) fun⟨a,b,d,e⟩ ⟨e1,e2⟩=>Ok.TF (Ok.s ⟨fun o ho=>c1.1 o (e1 o ho),AX e2 c1.2⟩)
 .refine Ok.ite (fun _=>Ok.opt (ownK U) fun b _=>Ok.J (fun _=>none) fun _=>claim) fun g=>?_
  have go:=hJ _ ⟨rfl,Ag.1 g⟩
  refine Ok.ite (fun g2=>?_) fun _=>go
  rw[Qc U]
  exact Ok.at U U (Ok.ite (fun _=>Ok.opt (ownK U) fun b _=>Ok.J (fun _=>none) fun _=>claim) fun _=>go)
def QCu(h:Sys n j zI E l p)(hi:i<n)(ht:0<=t/\t<=980000)(hj:j<18):Ok (QcY 1000 p (i:Int) t) fun x=>x.2.2=0->∃T,Sys n (j+1) T E l x.1/\GrC n p.H.M x.1.H.M:=by
 have h1:=h.lo;have hlen:=h.ci.len;have hn:=h.ci.sz;have hdn:=h.ci.dn
 have h0:=h.step hj
 unfold QcY
 rw[hlen,Qc (x:=(n:Int) - 1) U]
 refine Ok.oe h.px.ck (Ok.nt rfl (Ok.oe pin (Ok.nt (inn U U) (Ok.A (Ok.J (fun _=>Ok.s fun e=>absurd e Ob) fun _=>Ok.A (Ok.ite (fun _=>Ok.s fun e=>absurd e Ob) fun _=>Ok.oe pin (Ok.ncnd (fun _=>Ok.s fun e=>absurd e Ob) fun _=>Ok.oe (Qm3 h.px.cx h.led) (Ok.opt (QCn h hi ht) fun⟨ops,e⟩ ⟨o1,o2⟩=>?_))))))))
 dsimp only at o1 o2 |-
 refine Ok.TG (fun y=>∃(e:Int) (w:D.c) (s:D.site),y=((e,()),w,s,())/\(e=0->∃T,Sys n (j+1) T E l s.c/\GrC n p.H.M s.c.H.M)) (fun y hy=>?_) fun zG hJ=>?_
 .obtain⟨e,w,s,rfl,hs⟩:=hy
  exact Ok.ite (fun g=>Ok.s fun e=>absurd e g) fun g=>Ok.s fun _=>hs (Ag.1 g)
 refine Ok.loop (fun m x=>∃(a:Nat) (e:Int) (w:D.c) (s:D.site),x=((ops,e,(a:Int),()),w,s,())/\a<=ops.length/\(e=0->∃(T:Nat) (z:Int) (p':D.c),s=D.site.mk p' (i:Int) z/\(0<=z/\z<=a)/\T<=zI+a/\Sys n (j+1) T E l p'/\GrC n p.H.M p'.H.M)/\m=ops.length - a) (m:=ops.length) U ⟨0,e,_,_,rfl,U,fun _=>⟨zI,0,p,rfl,U,U,h0,.same⟩,rfl⟩ ?_
 rintro m x ⟨a,e,w,s,rfl,a1,a2,rfl⟩ K hK
 dsimp only
 have out:∀{w:D.c},Ok (zG ((e,()),w,s,())) fun x=>x.2.2=0->∃T,Sys n (j+1) T E l x.1/\GrC n p.H.M x.1.H.M:=fun{w}=>hJ _ ⟨e,w,s,rfl,fun e0=>by
  obtain⟨T,z,p',rfl,_,_,g1,g2⟩:=a2 e0
  exact⟨T,g1,g2⟩⟩
 refine Ok.j (Ok.ite (fun g=>Ok.ite (fun e0=>?_) fun _=>out) fun _=>out)
 have ha:a<ops.length:=U
 obtain⟨T,z,p',rfl,z1,t1,g1,g2⟩:=a2 e0
 have hf:=o1 _ (Qf ha)
 refine Ok.atn ha (Ok.opt (QC3 g1 (hf.1.TZ (by have:=g1.lo;omega)) (fun k5=>absurd k5 hf.2) U U) fun⟨e',s'⟩ he=>?_)
 rw[Qa U]
 refine hK _ _ U ⟨a+1,e',w,s',rfl,U,fun e0=>?_,rfl⟩
 obtain⟨p2,rfl,k1,k2⟩:=he e0
 exact⟨T+1,z+1,p2,rfl,U,U,k1,g2.trans k2⟩
end
end
section
def Qca(Rs:Y D.N):Nat->Y D.Op
 |0=>[]
 |k+1=>if (Qca Rs k).length<(comV (O Rs k)).length then comV (O Rs k)else Qca Rs k
section
variable {Rs Rs':Y D.N} {W W':Y D.d} {n q i k:Nat} {P P':D.Op->Prop} {c:D.H}
def QkX:∀{k:Nat},Qca Rs k=[]\/∃i,i<k/\Qca Rs k=comV (O Rs i)
 |0=>.inl rfl
 |k+1=>by
  unfold Qca
  split
  .exact .inr ⟨k,U,rfl⟩
  .rcases QkX (k:=k)with h|⟨i,h1,h2⟩
   .exact .inl h
   .exact .inr ⟨i,U,h2⟩
def QlA:∀{k:Nat},i<k->(comV (O Rs i)).length<=(Qca Rs k).length
 |k+1,h=>by
  unfold Qca
  by_cases e:i=k
  .subst e;split<;>omega
  .have:=QlA (k:=k) (show i<k by omega)
   split<;>omega
def QuT:Qca Rs (k+1)=if (Qca Rs k).length<(comV (O Rs k)).length then comV (O Rs k)else Qca Rs k:=rfl
def InvC.comLen(h:InvC n P Rs W)(hi:i<n):((comV (O Rs i)).length:Int)=(O Rs i).h:=by
 have:=h.com_le hi
 unfold comV;simp;omega
def Qwy(h:InvC n P Rs W)(hi:i<n):comV (O Rs i)=(Qca Rs n).take (comV (O Rs i)).length:=by
 have hl:=QlA (Rs:=Rs) hi
 rcases QkX (Rs:=Rs) (k:=n)with e|⟨j,hj,e⟩
 .simp_all
 .rw[e]at hl |-
  have h1:=h.comLen hi;have h2:=h.comLen hj
  have:=h.settled hi hj U
  simp_all
def QuS(h:InvC n P Rs W)(h':InvC n P' Rs' W')(g:GrC n Rs Rs'):(Qca Rs n).length<=(Qca Rs' n).length/\Qca Rs n=(Qca Rs' n).take (Qca Rs n).length:=by
 rcases QkX (Rs:=Rs) (k:=n)with e|⟨i,hi,e⟩
 .rw[e];simp
 .rw[e]
  obtain⟨g1,g2⟩:=(g i hi).com
  have h1:=QlA (Rs:=Rs') hi
  have h2:=Qwy h' hi
  grind
def QnX(h:CI n q P c):UP 1000 c=some (Qca c.M n):=by
 have hlen:=h.len;have hn:=h.sz
 refine Ok.eq ?_
 unfold UP
 refine Ok.oe (Qou h) (Ok.nt rfl ?_)
 rw[hlen]
 refine Ok.run n (fun i=>((Qca c.M i,c.M,(n:Int),(i:Int),()),())) rfl U (fun i hi K hK=>?_) fun K=>Ok.n (by show ¬(n:Int)<(n:Int);omega) (Ok.s rfl)
 have hck:=(h.ck.rep i hi).2.2
 dsimp only at hK |-
 rw[QuT]at hK
 refine Ok.P (Ok.j (Ok.A (Ok.oe (QwJ hck.com (by have:=hck.log;omega)) (Ok.ite (fun g=>?_) fun g=>?_))))
 .rw[iB U]at hK
  dsimp only
  rw[Qa U];exact hK
 .rw[iA U]at hK
  dsimp only
  rw[Qa U];exact hK
end
attribute [local irreducible] dueV stepV runV QE answerV opV Zk opsV Qbe
section
variable {n j zI i:Nat} {E L:Y Int} {l:D.G} {p:D.c} {o:D.Op} {d:D.y} {t x:Int}
abbrev allV(n:Nat)(p:D.c):Y D.Op:=Qca p.H.M n
def Sys.all(h:Sys n j zI E l p):(∀o∈allV n p,Qaf o)/\(allV n p).length<=54/\cntE (allV n p)<=18:=by
 rcases QkX (Rs:=p.H.M) (k:=n)with e|⟨i,hi,e⟩
 .rw[show allV n p=[]from e];simp[cntE]
 .rw[show allV n p=_ from e];exact h.com hi
def Sys.top(h:Sys n j zI E l p):Qbo (0+cntE (allV n p)) (0+(allV n p).length) (opsV l (allV n p)):=by
 obtain⟨h1,h2,h3⟩:=h.all
 have:=h.first.e.fold h1 U U (AN _)
 simp_all
def Sys.truth(h:Sys n j zI E l p):W2 1000 p=some (opsV l (allV n p)):=by
 obtain⟨h1,h2,h3⟩:=h.all
 refine Ok.eq ?_
 unfold W2
 rw[h.base]
 exact Ok.oe h.px.ck (Ok.nt rfl (Ok.oe (QnX h.ci) (Ok.oe (Qox (h.first.e.runs h1 (by show 0+cntE (allV n p)<=_;omega) (by show 0+(allV n p).length<=_;omega))) (Ok.s rfl))))
def QvQ(hL:L.length<=500)(hd:Qz L d)(h:Sys n j zI E l p)(hj:j<18)(ht:0<=t/\t<=864000+300*j):
  Ok (Qen 1000 d p t) fun x=>Qz L x.2.2.2/\(0<=x.2.1/\x.2.1<=864000+300*((j:Int)+1))/\∃T E',Sys n (j+1) T E' l x.1/\GrC n p.H.M x.1.H.M:=by
 have hn:=h.ci.sz;have hlo:=h.lo;have hel:=h.el
 have h0:=h.step hj
 have h00:=h0.more (x:=(zI:Int)) U
 have cg:∀{c:D.H},CG n (j+1) (PO E zI) p.H.M c->Sys n (j+1) zI E l (D.c.mk p.FW c p.FR)/\GrC n p.H.M c.M:=fun g=>⟨⟨h.base,h.first,h.ser,h0.lo,h0.hi,h0.el,g.ci⟩,g.gr⟩
 unfold Qen
 rw[h.ci.len]
 refine Ok.opt (nx hL hd U U) fun⟨a0,d1⟩ ⟨g1,l1,u1⟩=>?_
 dsimp only at g1 l1 u1 |-
 refine Ok.TG (fun y=>∃(i:Nat) (d:D.y) (w:D.c),y=((t,(i:Int),()),d,p,w,())/\Qz L d/\i<n) (fun y hy=>?_) fun zG hJ=>?_
 rotate_left
 .have at0:∀{a:Int} {d:D.y} {w:D.c},Qz L d->0<=a->a<n->Ok (zG ((t,a,()),d,p,w,())) fun x=>Qz L x.2.2.2/\(0<=x.2.1/\x.2.1<=864000+300*((j:Int)+1))/\∃T E',Sys n (j+1) T E' l x.1/\GrC n p.H.M x.1.H.M:=fun{a d w} hd h1 h2=>hJ _ ⟨a.toNat,d,w,by rw[show(a.toNat:Int)=a by omega],hd,U⟩
  exact Ok.opt (Qpo h.ci) fun⟨a,b⟩ ⟨b1,b2⟩=>Ok.J (fun _=>Ok.opt (nx hL g1 U U) fun⟨a2,d2⟩ ⟨g2,_⟩=>Ok.ite (fun _=>at0 g2 b1 b2) fun _=>at0 g2 l1 u1) fun _=>at0 g1 l1 u1
 obtain⟨i,d,w,rfl,hd,hi⟩:=hy
 dsimp only
 refine Ok.opt (Qci hL hd Ob Ob) fun⟨a3,d3⟩ ⟨g3,m3⟩=>?_
 dsimp only at g3 m3 |-
 simp only[AY,BH,or_false]at m3
 rw[Qc (x:=t+a3) U]
 obtain⟨u,hu⟩:∃u,u=t+a3:=⟨_,rfl⟩
 rw[<-hu]
 have hu2:0<=u/\u<=864000+300*((j:Int)+1):=U
 refine Ok.TG (fun y=>∃(id:Int) (T:Nat) (E':Y Int) (p' w:D.c) (d:D.y),y=((u,id,()),p',w,d,())/\Qz L d/\Sys n (j+1) T E' l p'/\GrC n p.H.M p'.H.M) (fun y hy=>?_) fun zG hJ=>?_
 .obtain⟨id,T,E',p',w,d,rfl,hd,hs,hg⟩:=hy
  exact Ok.s ⟨hd,hu2,T,E',hs,hg⟩
 have same:∀{id:Int} {w:D.c} {d:D.y},Qz L d->Ok (zG ((u,id,()),p,w,d,())) _:=fun hd=>hJ _ ⟨_,zI,E,p,_,_,rfl,hd,h0,.same⟩
 refine Ok.opt (nx hL g3 U U) fun⟨a4,d4⟩ ⟨g4,_⟩=>?_
 dsimp only at g4 |-
 refine Ok.TG (fun y=>∃(v:Int) (b:AH) (d:D.y) (w:D.c),y=((u,(i:Int),0,v,b,()),d,p,w,())/\Qz L d) (fun y hy=>?_) fun J2 hJ2=>Ok.ite (fun _=>hJ2 _ ⟨_,_,_,_,rfl,g4⟩) fun _=>hJ2 _ ⟨_,_,_,_,rfl,g4⟩
 obtain⟨v,b,d,w,rfl,hd⟩:=hy
 refine Ok.J (fun _=>?_) fun _=>?_
 ·have hb:=h.behind hi
  obtain⟨_,hcl,hce⟩:=h.com hi
  refine Ok.oe (QDi h hi) (Ok.opt (QAz (id:=1) (t:=u) hL hd hb.inv hb.ids U U) fun⟨o,d5⟩ ⟨g5,o1,o2,o3,o4,o5⟩=>?_)
  dsimp only at g5 o1 o2 o3 o4 o5 |-
  refine Ok.TG (fun y=>∃(o:D.Op) (d:D.y) (w:D.c),y=((u,(i:Int),0,()),p,w,o,d,())/\Qz L d/\Qaf { o with S:=(zI:Int) }) (fun y hy=>?_) fun J3 hJ3=>?_
  .obtain⟨o,d,w,rfl,hd,ho⟩:=hy
   exact Ok.opt (QAQ (j:=j+1) h00 ho (fun _=>Ob) U) fun⟨x,y,e⟩ he=>Ok.ite (fun z=>hJ _ ⟨_,_,_,_,_,_,rfl,hd,(he z).1⟩) fun _=>same hd
  .have pg:∀{a:Int},0<=a->a<3->Qaf { (D.Op.mk 0 1 0 0 u (X (1+a)) 0 0 0 (D.b.mk 0 0 0 0 0 0) (D.s.mk 0 0 0 0 0))with S:=(zI:Int) }:=fun{a} h1 h2=>by
    rw[Qc (x:=1+a) U]
    exact⟨⟨by dsimp only;omega,Ob,Ob,Ob,by dsimp only;omega,by dsimp only;omega,Ob,Ob,Ob⟩,fun _=>by dsimp only;omega,by dsimp only;omega,Ob⟩
   refine Ok.ite (fun _=>Ok.opt (nx hL g5 U U) fun⟨a6,d6⟩ ⟨g6,l6,u6⟩=>hJ3 _ ⟨_,_,_,rfl,g6,pg l6 u6⟩) fun _=>Ok.ite (fun _=>Ok.opt (nx hL g5 U U) fun⟨a6,d6⟩ ⟨g6,l6,u6⟩=>hJ3 _ ⟨_,_,_,rfl,g6,pg l6 u6⟩) fun _=>hJ3 _ ⟨_,_,_,rfl,g5,?_⟩
   exact Qaf.TZ ⟨o1,fun e=>(o4 e).2,by rw[o3];omega,o5⟩ U
 refine Ok.TG (fun y=>∃(v:Int) (b:AH) (d:D.y) (w:D.c),y=((u,(i:Int),0,v,b,()),d,p,w,())/\Qz L d) (fun y hy=>?_) fun J2 hJ2=>Ok.ite (fun _=>hJ2 _ ⟨_,_,_,_,rfl,hd⟩) fun _=>hJ2 _ ⟨_,_,_,_,rfl,hd⟩
 obtain⟨v,b,d,w,rfl,hd⟩:=hy
 refine Ok.J (fun _=>Ok.opt (QCu h hi (t:=u) U hj) fun⟨x,y,e⟩ he=>Ok.ite (fun z=>?_) fun _=>same hd) fun _=>Ok.ite (fun _=>Ok.opt (QkW h0.ci) fun⟨x,e⟩ he=>Ok.ite (fun z=>Ok.opt (QiI (he.1 z).1.ci) fun f ⟨f1,_⟩=>hJ _ ⟨_,zI,E,_,_,_,rfl,hd,cg (.of (he.1 z).1.gr f1)⟩) fun _=>same hd) fun _=>Ok.ite (fun _=>Ok.opt (QoF h0.ci h.ci.tb) fun⟨x,e⟩ he=>Ok.ite (fun z=>hJ _ ⟨_,zI,E,_,_,_,rfl,hd,cg (he z)⟩) fun _=>same hd) fun _=>?_
 .obtain⟨T,hT⟩:=he z
  exact hJ _ ⟨_,T,E,_,_,_,rfl,hd,hT⟩
 have hw:=h.ci.wire
 refine Ok.opt (Qpu hL hd (by show(p.H.FC.length:Int)<=_;omega)) fun⟨k,d6⟩ ⟨g6,_⟩=>?_
 dsimp only at g6 |-
 refine Ok.TG (fun y=>∃(e:Int) (w:D.c) (c:D.H) (d:D.y),y=((u,0,e,()),p,w,c,d,())/\Qz L d/\(e=0->CG n (j+1) (PO E zI) p.H.M c)) (fun y hy=>?_) fun J3 hJ3=>?_
 .obtain⟨e,w,c,d,rfl,hd,hc⟩:=hy
  exact Ok.ite (fun z=>hJ _ ⟨_,zI,E,_,_,_,rfl,hd,cg (hc z)⟩) fun _=>same hd
 refine Ok.opt (nx hL g6 U U) fun⟨a7,d7⟩ ⟨g7,_⟩=>?_
 dsimp only at g7 |-
 rw[h.ci.len]
 refine Ok.ite (fun _=>Ok.opt (Qq0 h0.ci) fun⟨x,e⟩ he=>hJ3 _ ⟨_,_,_,_,rfl,g7,he⟩) fun _=>Ok.ite (fun _=>Ok.opt (nx hL g7 U U) fun⟨a8,d8⟩ ⟨g8,_⟩=>Ok.opt (QtP h0.ci) fun⟨x,e⟩ he=>hJ3 _ ⟨_,_,_,_,rfl,g8,fun z=>(he.1 z).1⟩) fun _=>Ok.ite (fun _=>Ok.opt (nx hL g7 U U) fun⟨a8,d8⟩ ⟨g8,_⟩=>Ok.opt (QwO h.ci U) fun⟨x,e⟩ he=>hJ3 _ ⟨_,_,_,_,rfl,g8,he⟩) fun _=>Ok.ite (fun _=>Ok.opt (Qud h0.ci) fun x he=>hJ3 _ ⟨_,_,_,_,rfl,g7,fun _=>he.1⟩) fun _=>Ok.ite (fun _=>Ok.opt (Qo5 h0.ci) fun x he=>?_) fun _=>Ok.ite (fun _=>Ok.opt (QsS h0.ci) fun⟨x,e⟩ he=>?_) fun _=>hJ3 _ ⟨_,_,_,_,rfl,g7,fun _=>h0.ci.cg⟩
 .rcases he with⟨i,_,_,rfl⟩|⟨_,y⟩
  .exact hJ3 _ ⟨_,_,_,_,rfl,g7,fun _=>⟨h0.ci.drop,.same⟩⟩
  .obtain⟨x1,x2⟩:=x
   exact hJ3 _ ⟨_,_,_,_,rfl,g7,fun z=>absurd z y⟩
 .exact hJ3 _ ⟨_,_,_,_,rfl,g7,fun z=>he.elim (fun y=>y.2.1) fun y=>absurd z y.2⟩
end
end
section
open Go AM
attribute [local irreducible] dueV stepV runV QE answerV
section
def PgLe(p q:D.Page):Prop:=q.S=p.S/\q.R=p.R/\p.P.length<=q.P.length
def PgLe.refl(p):PgLe p p:=⟨rfl,rfl,AN _⟩
def PgLe.trans(h:PgLe p q)(h2:PgLe q r):PgLe p r:=⟨h2.1.trans h.1,h2.2.1.trans h.2.1,AX h.2.2 h2.2.2⟩
structure PsLe (L K:Y D.Page):Prop where
 len:L.length<=K.length
 all:∀p∈L,∃q∈K,PgLe p q
def PsLe.refl(L):PsLe L L:=⟨AN _,fun p hp=>⟨p,hp,.refl p⟩⟩
def PsLe.trans(h:PsLe L K)(h2:PsLe K N):PsLe L N:=⟨AX h.len h2.len,fun p hp=>by
 obtain⟨q,hq,h3⟩:=h.all p hp
 obtain⟨r,hr,h4⟩:=h2.all q hq
 exact⟨r,hr,h3.trans h4⟩⟩
def PsLe.set(hi:i<L.length)(h:PgLe (O L i) q):PsLe L (L.set i q):=⟨Ob,fun p hp=>by
 obtain⟨j,hj,rfl⟩:=QfS hp
 have hm:O (L.set i q) j∈L.set i q:=Qf (by simpa using hj)
 by_cases e:j=i
 .subst e;rw[Q0 hj]at hm;exact⟨_,hm,h⟩
 .rw[Yl e]at hm;exact⟨_,hm,.refl _⟩⟩
def PsLe.ins:PsLe L (insP L p):=⟨by rw[QiL];omega,fun q hq=>⟨q,by
 unfold insP
 rw[<-Bp (posV p.S L) L]at hq
 rcases Ah.1 hq with h|h<;>simp[h],.refl q⟩⟩
def QAF(h:Qd M n l)(hi:i<l.F.length):PgLe (O l.F i) (runV l.E l.a (O l.F i) t).1:=
 ⟨(Qa6 h.book QT.step (h.at hi).1).id,(Qa6 h.book QT.step (h.at hi).1).start,QzR h.book QT.step (h.at hi).1⟩
def Qtz(h:Qd M n l)(hi:i<l.F.length):PsLe l.F (runI l i).F:=by
 rw[h.runEq hi]
 exact .set hi (QAF h hi)
def Qr7(h:Qd M n l):∀{k:Nat},k<=l.F.length->PsLe l.F (Zu l k).F
 |0,_=>.refl _
 |k+1,hk=>(Qr7 h U).trans (Qtz (h.runs U) (by rw[(Ya (l:=l) (k:=k)).2.2.2.2.2.2];exact hk))
def QAW(h:Qd M n l)(hi:i<l.F.length):PgLe (O l.F i) (ansP l.E l.a (O l.F i) a t):=by
 have h1:=QAF (t:=t) h hi
 unfold ansP
 split
 .rename_i g
  rcases QaM g with e|e
  .rw[e];exact h1
  .rw[e]
   refine h1.trans ⟨QdA.1,QdA.2.2.1,?_⟩
   obtain⟨m,hm⟩:=Qeh (p:=(runV l.E l.a (O l.F i) t).1) (a:={ a with At:=t })
   rw[hm];simp
 .exact h1
def QCW(h:Qd M n l)(ho:OpIn o)(hl:l.F.length<64):PsLe l.F (opV l o).1.F:=by
 have hk:=ho.kind
 by_cases k1:o.Z=1
 .by_cases h1:1<=o.Page
  .rw[(QzG h ho k1 h1 hl).2.2]
   split
   .exact .ins
   .exact .refl _
  .unfold opV
   rw[iB k1]
   split
   .exact .refl _
   .split
    .exact .refl _
    .rw[iB U];exact .refl _
 by_cases k2:o.Z=2
 .unfold opV
  rw[iA k1,iB k2]
  split<;>exact .refl _
 by_cases k3:o.Z=3
 .unfold opV
  rw[iA k1,iA k2,iB k3]
  repeat' split
  all_goals first
   |exact .refl _
   |(rename_i g _;exact Qtz h (WB g).1)
   |(rename_i g _ _;exact Qtz h (WB g).1)
 by_cases k4:o.Z=4
 .rw[(Qok h k4).2.2]
  split
  .rename_i g
   exact .set (WB g).1 (QAW h (WB g).1)
  .exact .refl _
 .rw[(Qus U).1]
  exact Qr7 h (AN _)
structure LgLe (l x:D.G):Prop where
 now:l.E8<=x.E8
 fence:l.Fence<=x.Fence
 pages:PsLe l.F x.F
 seen:∃m,x.g=l.g++m
def LgLe.refl(l):LgLe l l:=⟨Ai _,Ai _,.refl _,[],Ob⟩
def LgLe.trans(h:LgLe l x)(h2:LgLe x y):LgLe l y:=by
 obtain⟨m,hm⟩:=h.seen
 obtain⟨k,hk⟩:=h2.seen
 exact⟨CR h.now h2.now,CR h.fence h2.fence,h.pages.trans h2.pages,m++k,by rw[hk,hm,Aw]⟩
def OkAt.le(h:OkAt l o):LgLe l (Zk l o).1:=by
 obtain⟨M,n,h1,h2,h3⟩:=h.ok
 by_cases hs:l.g.contains o.S=true
 .have:Zk l o=(l,0):=by unfold Zk;rw[iB hs]
  rw[this];exact .refl _
 .have hs':l.g.contains o.S=false:=by simpa using hs
  refine⟨by rw[QuL hs'];omega,QqF,?_,[o.S],?_⟩
  .rw[Qai hs']
   have:=h.pg
   exact QCW (l:=seeV l o) (h1.see h.op h3 hs' h.len) h.op (by show l.F.length<64;omega)
  .rw[Qai hs',Qk9.2];rfl
def Runs.le(h:Runs l ops):∀{j:Nat},j<=ops.length->LgLe l (opsV l (ops.take j))
 |0,_=>by rw[BW];exact .refl _
 |j+1,hj=>by
  rw[QfW U]
  exact(h.le U).trans (h.at_ j U).le
def Runs.later(h:Runs l ops):LgLe l (opsV l ops):=by
 have:=h.le (AN _)
 simp_all
def QrB:∀{ops:Y D.Op} {l:D.G},(opsV l ops).g.contains y=(l.g.contains y || ops.any fun o=>decide (o.S=y))
 |[],l=>by simp[opsV]
 |o::r,l=>by
  rw[opsV,QrB]
  by_cases hs:l.g.contains o.S=true
  .have:Zk l o=(l,0):=by unfold Zk;rw[iB hs]
   rw[this,List.any_cons]
   by_cases e:o.S=y
   .subst e;simp at hs;simp[hs]
   .simp[e]
  .have hs':l.g.contains o.S=false:=by simpa using hs
   rw[Qai hs',Qk9.2,List.any_cons]
   by_cases e:o.S=y
   .subst e;simp[seeV]
   .simp[seeV,e,Ak e]
end
attribute [local irreducible] opV Zk opsV Qbe
section
def Qy3(hl:A.length<=300):QP 1000 A x=some (A.any fun o=>decide (o.S=x)):=by
 refine Ok.eq ?_
 unfold QP
 refine Ok.opt (P:=fun z=>(decide (0<=z))=A.any fun o=>decide (o.S=x)) ?_ fun z hz=>Ok.TF (Ok.s hz)
 unfold Zx
 refine Ok.loop (fun m y=>∃i:Nat,y=((A,(A.length:Int),(i:Int),()),(x,()),())/\i<=A.length/\(A.take i).any (fun o=>decide (o.S=x))=false/\m=A.length - i) (m:=A.length) U ⟨0,rfl,U,Ob,rfl⟩ ?_
 rintro m y ⟨i,rfl,i1,i2,rfl⟩ K hK
 dsimp only
 refine Ok.ite (fun g=>?_) fun g=>Ok.TF (Ok.s ?_)
 .have hi:i<A.length:=U
  refine Ok.atn hi (Ok.opt (P:=fun b=>b=decide ((O A i).S=x)) (Ok.TF (Ok.s rfl)) fun b hb=>Ok.J (fun g2=>Ok.TF (Ok.s ?_)) fun g2=>?_)
  .rw[g2]at hb
   have:A.any (fun o=>decide (o.S=x))=true:=C6.2 ⟨_,Qf hi,hb.symm⟩
   rw[this];simp
  .rw[Qa U]
   refine hK _ _ U ⟨i+1,rfl,U,?_,rfl⟩
   rw[<-Qn hi,List.any_append,i2]
   grind
 .grind
def QsB(h:Sys n j zI E l p):WZ 1000 p x=some ((opsV l (allV n p)).g.contains x):=by
 obtain⟨h1,h2,h3⟩:=h.all
 have h2':(Qca p.H.M n).length<=54:=h2
 have hs:l.g=[]:=BT (by have:=h.first.seen;omega)
 rw[QrB,hs]
 refine Ok.eq ?_
 unfold WZ
 refine Ok.oe h.px.ck (Ok.t (Ok.oe (QnX h.ci) (Ok.oe (Qy3 U) ?_)))
 cases hA:(Qca p.H.M n).any fun o=>decide (o.S=x)with
 |true=>exact Ok.t (Ok.s (by simp[allV,hA]))
 |false=>exact Ok.f (Ok.s (by simp[allV,hA]))
def Sys.later(h:Sys n j zI E l p)(h':Sys n j' S' E' l p')(g:GrC n p.H.M p'.H.M):LgLe (opsV l (allV n p)) (opsV l (allV n p')):=by
 obtain⟨h1,h2,h3⟩:=h'.all
 obtain⟨g1,g2⟩:=QuS h.ci.inv h'.ci.inv g
 have ht:=h.top
 obtain⟨a1,a2,a3⟩:=h.all
 obtain⟨A,hA⟩:∃A,A=allV n p:=⟨_,rfl⟩
 obtain⟨B,hB⟩:∃B,B=allV n p':=⟨_,rfl⟩
 rw[show Qca p.H.M n=A from hA.symm,show Qca p'.H.M n=B from hB.symm]at g2
 rw[<-hA]at ht a2 a3 |-
 rw[<-hB]at h1 h2 h3 |-
 have e:B=A++B.drop A.length:=by
  conv=>lhs;rw[<-Bp A.length B]
  rw[<-g2]
 have hc:cntE B=cntE A+cntE (B.drop A.length):=by conv=>lhs;rw[e,QtU]
 have hl:B.length=A.length+(B.drop A.length).length:=by conv=>lhs;rw[e,Ac]
 rw[e,QpF]
 exact(ht.runs (fun o ho=>h1 o (Br ho)) U U).later
end
end
section
attribute [local irreducible] dueV stepV runV QE answerV
section
end
end
section
open Go AM
attribute [local irreducible] dueV stepV runV QE answerV
section
def QDv(hx:x.length<=900):Qi8 1000 x x=some true:=by rw[QB9 hx];simp
end
end
def Qm2:QgI 1000=some true:=by kernel_rfl
open Go AM
attribute [local irreducible] dueV stepV runV QE answerV opV Zk opsV Qbe
def QkK(t:Y Int):Vo 1000 t=some true:=by
 refine Ok.eq ?_
 unfold Vo
 refine Ok.oe Qzv (Ok.ncnd (fun _=>Ok.oe Qm2 (Ok.s rfl)) fun hl=>Ok.oe QB6 ?_)
 have hL:=Qxo hl
 refine Ok.opt (QxA (K:=4) hL dice0 U) fun⟨p,z,d⟩ ⟨hd,n,j,zI,E,l,hp,hj,hse,hz⟩=>?_
 dsimp only at hd hp hz |-
 refine Ok.loop (fun m x=>∃(a j zI:Nat) (E ids:Y Int) (u:Int) (d:D.y) (p:D.c),x=((u,(a:Int),()),d,p,ids,())/\a<=14/\j<=4+a/\ids.length<=a/\Qz t d/\Sys n j zI E l p/\(0<=u/\u<=864000+300*(j:Int))/\m=14 - a) (m:=14) U ⟨0,j,zI,E,[],z,d,p,rfl,U,U,Ob,hd,hp,hz,rfl⟩ ?_
 rintro m x ⟨a,j,zI,E,ids,u,d,p,rfl,a1,j1,i1,hd,hp,ht,rfl⟩ K hK
 dsimp only
 refine Ok.ite (fun g=>Ok.oe hp.truth (Ok.opt (QvQ hL hd hp U ht) fun⟨p',t',id,d'⟩ ⟨w1,w2,T,E',w3,w4⟩=>?_)) fun _=>?_
 .dsimp only at w1 w2 w3 w4 |-
  have hlg:=hp.later w3 w4
  have hB1:=w3.truth
  have hB2:=w3.top
  have hA2:=hp.top
  obtain⟨_,b2,_⟩:=w3.all
  obtain⟨_,c2,_⟩:=hp.all
  obtain⟨A,hA⟩:∃A,A=opsV l (allV n p):=⟨_,rfl⟩
  obtain⟨B,hB⟩:∃B,B=opsV l (allV n p'):=⟨_,rfl⟩
  rw[<-hA]at hlg hA2 |-
  rw[<-hB]at hlg hB1 hB2
  have s1:=hA2.seen;have s2:=hB2.seen
  have la:=hA2.inv.len;have lb:=hB2.inv.len
  refine Ok.oe w3.chk (Ok.nt rfl ?_)
  refine Ok.TG (fun y=>∃ids':Y Int,y=((t',(a:Int),()),d',p',A,ids',())/\ids'.length<=a+1) (fun y hy=>?_) fun zG hJ=>Ok.ite (fun _=>Ok.LS (hJ _ ⟨_,rfl,by simp;omega⟩)) fun _=>hJ _ ⟨_,rfl,U⟩
  obtain⟨ids',rfl,i2⟩:=hy
  dsimp only
  refine Ok.oe hB1 (Ok.TG (fun y=>y=((t',(a:Int),()),d',p',A,B,ids',())) (fun y hy=>?_) fun zG hJ=>?_)
  .subst hy
   dsimp only
   refine Ok.run A.F.length (fun i=>((t',(a:Int),A.F,(A.F.length:Int),(i:Int),()),d',p',B,ids',())) rfl U (fun i hi K2 hK2=>?_) fun K2=>Ok.n (by show ¬(A.F.length:Int)<(A.F.length:Int);omega) ?_
   .dsimp only at hK2 |-
    refine Ok.P (Ok.TG (fun y=>y=((t',(a:Int),A.F,(A.F.length:Int),(i:Int),()),d',p',B,ids',())) (fun y hy=>?_) fun zG hJ=>?_)
    .subst hy
     dsimp only
     rw[Qa U];exact hK2
    .obtain⟨q,hq,e1,e2,e3⟩:=hlg.pages.all _ (Qf hi)
     obtain⟨k,hk,rfl⟩:=QfS hq
     refine Ok.atn hi (Ok.oe (QsW hB2.inv.plens hB2.inv.asc U) ?_)
     rw[Ql6 hB2.inv.asc hk e1]
     dsimp only
     exact Ok.t (Ok.N (Ok.n (by rw[e2];simp) (hJ _ rfl)))
   .dsimp only
    rw[Qa U]
    exact hK _ _ U ⟨a+1,j+1,T,E',ids',t',d',p',rfl,U,U,U,w1,w3,U,rfl⟩
  .have h1:=hlg.now;have h2:=hlg.fence;have h3:=hlg.pages.len
   obtain⟨m,hm⟩:=hlg.seen
   have h4:A.g.length<=B.g.length:=by rw[hm];simp
   refine Ok.N (Ok.N (Ok.N (Ok.N (Ok.natn (Ok.TO h4 ?_)))))
   rw[hm,ED]
   exact Ok.oe (QDv U) (Ok.t (hJ _ rfl))
 .have hs:=hp.top.seen
  obtain⟨_,c2,_⟩:=hp.all
  refine Ok.run ids.length (fun i=>(((ids.length:Int),(i:Int),()),p,ids,())) rfl U (fun i hi K2 hK2=>?_) fun K2=>Ok.n (by show ¬(ids.length:Int)<(ids.length:Int);omega) (Ok.oe Qm2 (Ok.s rfl))
  dsimp only at hK2 |-
  refine Ok.P (Ok.natn (Ok.lt hi (Ok.get hi (Ok.oe (QsB hp) (Ok.oe hp.truth (Ok.oe (QcR U) (Ok.NS ?_)))))))
  rw[Qa U];exact hK2
end Go.Proofs.YtlllfgmajglnhaaGreat
