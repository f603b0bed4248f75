/-
  Replicas: what the reference's functions of votes compute.
-/
import Derived.Test.YtlllfgmajglnhaaGreatQRowMajE
import Derived.Test.YtlllfgmajglnhaaGreatQRowMajD
set_option maxRecDepth 100000
set_option linter.unusedVariables false
set_option linter.unusedSimpArgs false
namespace Go.Proofs.YtlllfgmajglnhaaGreat
open Go AM
section
section
variable {n fu:Nat} {r:D.Replica} {m:D.Message} {o:D.Op} {L E:List D.Entry} {t k x:Int}
def quoV(x:Int):Int:=if inV x 1 5=true then x / 2+1 else 0
theorem QdV:Ym fu x=some (quoV x):=by
 refine Ok.eq ?_
 unfold Ym quoV
 refine Ok.oe rin (Ok.ncnd (fun g=>Ok.s ?_) (fun g=>?_))
 ·rw[g];rfl
 ·have h:=Qt.1 g
  rw[if_pos g]
  have e:Int.tdiv x 2=x / 2:=Int.tdiv_eq_ediv_of_nonneg (by omega)
  rw[e,Qg (x:=x / 2) (by omega),Qg (x:=x / 2+1) (by omega)]
  exact Ok.Z (Ok.s rfl)
theorem Qkh(h:1≤n∧n≤5):quoV n=((n / 2+1:Nat):Int):=by
 unfold quoV
 rw[if_pos (Qt.2 (by omega))];omega
theorem QyA(h:quoV n≠0):1≤n∧n≤5:=by
 unfold quoV at h
 split at h
 ·next g=>have:=Qt.1 g;omega
 ·exact absurd rfl h
theorem QtG(hl:L.length≤900):Ok (Wy 1000 L t) fun b=>b=true→L.length≤256:=by
 unfold Wy
 refine Ok.loop (fun m x=>∃(i:Nat) (z:Int),x=((L,t,z,(i:Int),()),())∧i≤L.length∧m=L.length - i) (m:=L.length) (by omega) ⟨0,1,rfl,by omega,rfl⟩ ?_
 rintro m x ⟨i,z,rfl,h1,rfl⟩ K hK
 dsimp only
 refine Ok.ite (fun g=>Ok.j ?_) (fun g=>Ok.s fun h=>by have:=of_decide_eq_true h;omega)
 have hi:i<L.length:=by omega
 refine Ok.atn hi (Ok.ite (fun _=>Ok.s (by simp)) fun _=>Ok.atn hi (Ok.ite (fun _=>Ok.s (by simp)) fun _=>?_))
 dsimp only
 refine Ok.atn hi ?_
 rw[Qb (by omega)]
 exact hK _ _ (by omega) ⟨i+1,_,rfl,by omega,rfl⟩
structure CkR (n:Nat) (r:D.Replica):Prop where
 sz:1≤n∧n≤5
 id:0≤r.ID∧r.ID<n
 term:0≤r.Term∧r.Term≤1048576
 log:r.Log.length≤256
 com:0≤r.Commit∧r.Commit≤r.Log.length
 vote:r.Votes.length≤5
 cand:r.Role=1→r.Votes.length=n
 mat:r.Match.length≤5
 ldr:r.Role=2→r.Match.length=n∧∀j,j<n→0≤nth r.Match j∧nth r.Match j≤r.Log.length
theorem Qtg(hl:r.Log.length≤900):Ok (Yv 1000 n r) fun b=>b=true→CkR n r:=by
 unfold Yv
 have no:∀{Q:Prop},false=true→Q:=fun h=>by simp at h
 refine Ok.j (Ok.oe QdV (Ok.ite (fun g=>Ok.s no) fun g=>?_))
 have hn:=QyA g
 rw[Qg (x:=(n:Int) - 1) (by omega)]
 refine Ok.oe rin (Ok.cnd (fun g1=>?_) fun _=>Ok.s no)
 refine Ok.oe rin (Ok.cnd (fun g2=>?_) fun _=>Ok.s no)
 refine Ok.oe rin (Ok.cnd (fun g3=>?_) fun _=>Ok.s no)
 refine Ok.opt (QtG hl) fun b hb=>Ok.cnd (fun g4=>?_) fun _=>Ok.s no
 refine Ok.oe rin (Ok.cnd (fun g5=>?_) fun _=>Ok.s no)
 have h1:=Qt.1 g1;have h2:=Qt.1 g2;have h5:=Qt.1 g5;have h4:=hb g4
 dsimp only
 refine Ok.ite (fun r0=>Ok.ite (fun v0=>Ok.ite (fun m0=>Ok.s fun _=>?_) fun _=>Ok.s no) fun _=>Ok.s no) fun r0=>Ok.ite (fun r1=>Ok.ite (fun v1=>Ok.at (by omega) (by omega) (Ok.cnd (fun _=>Ok.ite (fun m1=>Ok.s fun _=>?_) fun _=>Ok.s no) fun _=>Ok.s no)) fun _=>Ok.s no) fun r1=>Ok.ite (fun r2=>?_) fun _=>Ok.s no
 ·exact⟨hn,by omega,by omega,h4,by omega,by omega,fun e=>by omega,by omega,fun e=>by omega⟩
 ·exact⟨hn,by omega,by omega,h4,by omega,by omega,fun e=>by omega,by omega,fun e=>by omega⟩
 ·refine Ok.j (Ok.ite (fun _=>Ok.s no) fun v2=>Ok.at (by omega) (by omega) (Ok.cnd (fun _=>Ok.ite (fun _=>Ok.s no) fun m2=>Ok.at (by omega) (by omega) (Ok.ite (fun _=>Ok.s no) fun _=>?_)) fun _=>Ok.s no))
  dsimp only
  refine Ok.loop (fun m x=>∃i:Nat,x=(((n:Int),(i:Int),()),r,())∧i≤n∧(∀j,j<i→0≤nth r.Match j∧nth r.Match j≤r.Log.length)∧m=n - i) (m:=n) (by omega) ⟨0,rfl,by omega,fun j hj=>by omega,rfl⟩ ?_
  rintro m x ⟨i,rfl,i1,i2,rfl⟩ K hK
  dsimp only
  refine Ok.ite (fun g=>Ok.A (Ok.oe rin (Ok.ncnd (fun _=>Ok.s no) fun g6=>?_))) fun g=>Ok.s fun _=>?_
  ·rw[Qb (by omega)]
   have h6:=Qt.1 g6
   exact hK _ _ (by omega) ⟨i+1,rfl,by omega,fun j hj=>by
    by_cases e:j=i
    ·subst e;exact h6
    ·exact i2 j (by omega),rfl⟩
  ·exact⟨hn,by omega,by omega,h4,by omega,by omega,fun e=>by omega,by omega,fun _=>⟨by omega,fun j hj=>i2 j (by omega)⟩⟩
theorem CkR.copy(h:CkR n r):Y6 fu r=some r:=by
 have h1:=h.log;have h2:=h.vote;have h3:=h.mat
 exact Ok.eq (Ok.L (Ok.L (Ok.L (Ok.s rfl))))
theorem CkR.copyP(h:CkR n r):QbE fu r=some r:=h.copy (fu:=fu)
theorem QqR:VJ fu r t=some (folV r t):=by
 refine Ok.eq ?_
 unfold VJ folV
 refine Ok.j (Ok.ite (fun g=>Ok.s ?_) fun g=>Ok.s ?_)
 ·rw[if_pos g]
 ·rw[if_neg g]
theorem QtX(hn:n≤5)(hid:0≤r.ID∧r.ID<n):QgR fu n r=some (Qhz n r):=by
 refine Ok.eq ?_
 unfold QgR
 exact Ok.natn (Ok.L (Ok.nat hid.1 (Ok.lt (by simp;omega) (Ok.get (by simp;omega) (Ok.s rfl)))))
theorem QmC(hl:r.Log.length≤900):QcA fu r=some (Wt r.Log):=by
 refine Ok.eq ?_
 unfold QcA
 rw[QvQ]
 refine Ok.ite (fun g=>Ok.s (by rw[if_pos (by omega)])) fun g=>?_
 rw[Qg (by omega)]
 refine Ok.at (by omega) (by omega) (Ok.s ?_)
 rw[if_neg (by omega)]
 show(nth r.Log _).Term=(nth r.Log _).Term
 congr 2;omega
theorem QvF(hl:r.Log.length≤900):QbF fu r m.Prev m.PrevTerm=some (decide (Qog r m)):=by
 refine Ok.eq ?_
 unfold QbF
 refine Ok.oe (QmC hl) (Ok.ite (fun g=>Ok.s ?_) fun g=>Ok.oe (QmC hl) (Ok.ite (fun g2=>Ok.ite (fun g3=>Ok.s ?_) fun g3=>Ok.s ?_) fun g2=>Ok.s ?_))
 all_goals simp[*,Qog]
structure CkM (n:Nat) (r:D.Replica) (m:D.Message) (k:Int):Prop where
 rep:CkR n r
 kind:m.Kind=k
 to:m.To=r.ID
 from0:0≤m.From∧m.From<n
 ne:m.From≠r.ID
 term:1≤m.Term∧m.Term≤1048576
theorem Qws(hl:r.Log.length≤900):Ok (Qku 1000 n r m k) fun b=>b=true→CkM n r m k:=by
 unfold Qku
 have no:∀{Q:Prop},false=true→Q:=fun h=>by simp at h
 refine Ok.opt (Qtg hl) fun b hb=>Ok.cnd (fun g=>?_) fun _=>Ok.s no
 have hc:=hb g
 have hn:=hc.sz
 rw[Qg (x:=(n:Int) - 1) (by omega)]
 refine Ok.ite (fun g1=>Ok.ite (fun g2=>Ok.oe rin (Ok.cnd (fun g3=>Ok.ite (fun g4=>Ok.oe rin (Ok.cnd (fun g5=>Ok.s fun _=>?_) fun _=>Ok.s no)) fun _=>Ok.s no) fun _=>Ok.s no)) fun _=>Ok.s no) fun _=>Ok.s no
 have h3:=Qt.1 g3
 exact⟨hc,g1,g2,by omega,g4,Qt.1 g5⟩
def outM(x:D.Replica×D.Message×Bool):D.Replica×Option D.Message:=(x.1,if x.2.2=true then some x.2.1 else none)
theorem Qxx(hc:CkR n r):Ok (Qi2 1000 n r m) fun x=>∃b,(b=true→CkM n r m 1)∧outM x=if b=false then(r,none)else((U7 r m).1,some (U7 r m).2):=by
 have hl:r.Log.length≤900:=by have:=hc.log;omega
 unfold Qi2
 refine Ok.opt (Qws hl) fun b hb=>Ok.ncnd (fun g=>Ok.oe hc.copy (Ok.s ⟨false,by simp,rfl⟩)) fun g=>Ok.oe hc.copyP (Ok.oe QqR ?_)
 have hf:(folV r m.Term).Log.length≤900:=by rw[QiN];exact hl
 refine Ok.join (fun y=>∃w w',y=((yesV (folV r m.Term) m,()),r,m,w,w',folV r m.Term,())) (fun y hy=>?_) fun J hJ=>?_
 ·obtain⟨w,w',rfl⟩:=hy
  dsimp only
  refine Ok.join (fun y=>∃w w',y=((yesV (folV r m.Term) m,()),r,m,w,w',(U7 r m).1,())) (fun y hy=>?_) fun J hJ=>?_
  ·obtain⟨w,w',rfl⟩:=hy
   refine Ok.s ⟨true,fun _=>hb g,?_⟩
   have:(U7 r m).1.Term=(folV r m.Term).Term:=by unfold U7;simp only;split<;>rfl
   simp only[outM,this];rfl
  ·refine Ok.cnd (fun g=>hJ _ ⟨w,w',?_⟩) fun g=>hJ _ ⟨w,w',?_⟩
   ·simp[U7,g]
   ·simp[U7,g]
 ·have yes:∀{c:Bool} {w:D.Replica} {w':D.Message},yesV (folV r m.Term) m=c→Ok (J ((c,()),r,m,w,w',folV r m.Term,())) fun x=>∃b,(b=true→CkM n r m 1)∧outM x=if b=false then(r,none)else((U7 r m).1,some (U7 r m).2):=fun h=>hJ _ ⟨_,_,by rw[h]⟩
  have fr:∀{w:D.Replica} {w':D.Message},(folV r m.Term).Term=m.Term→((folV r m.Term).Voted = -1∨(folV r m.Term).Voted=m.From)→(folV r m.Term).Role=0→Ok (optc (QbF 1000 (folV r m.Term) m.Prev m.PrevTerm) fun c=>cnd c (J ((true,()),r,m,w,w',folV r m.Term,())) (J ((false,()),r,m,w,w',folV r m.Term,()))) fun x=>∃b,(b=true→CkM n r m 1)∧outM x=if b=false then(r,none)else((U7 r m).1,some (U7 r m).2):=fun h1 h2 h3=>Ok.oe (QvF hf) (Ok.cnd (fun g=>yes (decide_eq_true ⟨h1,h2,h3,of_decide_eq_true g⟩)) fun g=>yes (decide_eq_false fun h=>of_decide_eq_false g h.2.2.2))
  refine Ok.ite (fun g1=>Ok.ite (fun g2=>Ok.ite (fun g4=>fr g1 (.inl g2) g4) fun g4=>yes (decide_eq_false fun h=>g4 h.2.2.1)) fun g2=>Ok.ite (fun g3=>Ok.ite (fun g4=>fr g1 (.inr g3) g4) fun g4=>yes (decide_eq_false fun h=>g4 h.2.2.1)) fun g3=>yes (decide_eq_false fun h=>h.2.1.elim g2 g3)) fun g1=>yes (decide_eq_false fun h=>g1 h.1)
theorem XR{P:Nat→Bool}{i:Nat}:(List.range (i+1)).countP P=(List.range i).countP P+(if P i=true then 1 else 0):=by
 rw[List.range_succ,List.countP_append];simp[List.countP_cons]
theorem Qdv{P:Nat→Bool}{i:Nat}:(List.range i).countP P≤i:=by
 have:=List.countP_le_length (p:=P) (l:=List.range i);simpa using this
theorem QwA(hc:CkR n r):Ok (QgQ 1000 n r m) fun x=>∃b,(b=true→CkM n r m 2)∧x=if b=false then r else Ud n r m:=by
 have hl:r.Log.length≤900:=by have:=hc.log;omega
 have hn:=hc.sz
 unfold QgQ
 refine Ok.oe hc.copy (Ok.opt (Qws hl) fun b hb=>Ok.ncnd (fun g=>Ok.s ⟨false,by simp,rfl⟩) fun g=>?_)
 have hm:=hb g
 have fin:∀y,y=Ud n r m→∃b,(b=true→CkM n r m 2)∧y=if b=false then r else Ud n r m:=fun y h=>⟨true,fun _=>hm,by rw[h];rfl⟩
 refine Ok.ite (fun g1=>Ok.oe QqR (Ok.s (fin _ (by unfold Ud;rw[if_pos g1])))) fun g1=>Ok.j (Ok.ite (fun g2=>Ok.s (fin _ (by unfold Ud;rw[if_neg g1,if_pos (.inl g2)]))) fun g2=>Ok.ite (fun g3=>Ok.s (fin _ (by unfold Ud;rw[if_neg g1,if_pos (.inr (.inl g3))]))) fun g3=>Ok.cnd (fun g4=>?_) fun g4=>Ok.s (fin _ (by unfold Ud;rw[if_neg g1,if_pos (.inr (.inr g4))])))
 have e2:r.Role=1:=Decidable.not_not.1 g2
 have e3:m.Term=r.Term:=Decidable.not_not.1 g3
 have hv:=hc.cand e2
 have hfm:=hm.from0
 dsimp only
 refine Ok.nat hfm.1 (Ok.E (Ok.G ?_))
 obtain⟨V,hV⟩:∃V,V=r.Votes.set m.From.toNat true:=⟨_,rfl⟩
 have hVl:V.length=n:=by rw[hV,List.length_set];exact hv
 rw[←hV]
 have hres:Ud n r m=if n / 2+1≤(List.range n).countP (fun j=>nth V j)then Qhz n { r with Votes:=V }else{ r with Votes:=V }:=by
  unfold Ud
  rw[if_neg g1,if_neg (by simp[e2,e3,g4]),←hV]
 refine Ok.run n (fun i=>(((n:Int),(((List.range i).countP fun j=>nth V j:Nat):Int),(i:Int),()),D.Replica.mk 0 0 0 0 [] 0 [] [],(r.ID,r.Term,r.Voted,r.Role,r.Commit,()),r.Log,V,r.Match,())) rfl (by omega) (fun i hi K hK=>?_) (fun K=>?_)
 ·have hcl:=Qdv (P:=fun j=>nth V j) (i:=i)
  dsimp only
  refine Ok.P (Ok.j (Ok.natn (Ok.E (Ok.G (Ok.cnd (fun g5=>?_) fun g5=>?_)))))
  ·dsimp only at hK ⊢
   rw[XR,if_pos g5]at hK
   rw[Qb (by omega),Qb (by omega)]
   exact hK
  ·dsimp only at hK ⊢
   rw[XR,if_neg (by simp[g5])]at hK
   rw[Qb (by omega)]
   exact hK
 ·dsimp only
  refine Ok.N (Ok.j (Ok.oe QdV ?_))
  rw[Qkh hn]
  refine Ok.ite (fun g5=>Ok.oe (QtX (r:=D.Replica.mk r.ID r.Term r.Voted r.Role r.Log r.Commit V r.Match) hn.2 hc.id) (Ok.s (fin _ ?_))) fun g5=>Ok.s (fin _ ?_)
  ·rw[hres,if_pos (by omega)]
  ·rw[hres,if_neg (by omega)]
theorem Qwl(hl:r.Log.length≤900):Ok (QgO 1000 n r) fun x=>x.2.2=0→CkR n r∧r.Term<1048576∧x.1=(if n / 2+1=1 then Qhz n (Uc n r)else Uc n r)∧x.2.1.length≤5∧∀m∈x.2.1,m.Kind=1∧m.From=r.ID∧0≤m.To∧m.To<n∧m.Term=r.Term+1∧m.Prev=r.Log.length∧m.PrevTerm=Wt r.Log∧m.Entries=[]∧m.To≠r.ID:=by
 unfold QgO
 refine Ok.opt (Qtg hl) fun b hb=>Ok.ncnd (fun _=>Ok.s fun e=>by simp at e) fun g=>Ok.ite (fun _=>Ok.s fun e=>by simp at e) fun g1=>?_
 have hc:=hb g
 have hn:=hc.sz;have hid:=hc.id;have ht:=hc.term
 refine Ok.oe hc.copy (Ok.natn (Ok.L (Ok.nat hid.1 (Ok.lt (by simp;omega) (Ok.get (by simp;omega) ?_)))))
 rw[Qg (x:=r.Term+1) (by omega)]
 refine Ok.join (fun y=>∃R z,y=(((n:Int),()),r,z,R,())∧R.Term=r.Term+1∧R=(if n / 2+1=1 then Qhz n (Uc n r)else Uc n r)) (fun y hy=>?_) fun J hJ=>Ok.oe QdV (by
  rw[Qkh hn]
  exact Ok.ite (fun g2=>Ok.oe (QtX (r:=Uc n r) hn.2 hid) (hJ _ ⟨_,_,rfl,rfl,by rw[if_pos (by omega)]⟩)) fun g2=>hJ _ ⟨_,_,rfl,rfl,by rw[if_neg (by omega)];rfl⟩)
 obtain⟨R,z,rfl,hR,hR2⟩:=hy
 dsimp only
 refine Ok.loop (fun m x=>∃(i:Nat) (V:List D.Message),x=(((n:Int),(i:Int),()),r,z,R,V,())∧i≤n∧V.length≤i∧(∀m∈V,m.Kind=1∧m.From=r.ID∧0≤m.To∧m.To<n∧m.Term=r.Term+1∧m.Prev=r.Log.length∧m.PrevTerm=Wt r.Log∧m.Entries=[]∧m.To≠r.ID)∧m=n - i) (m:=n) (by omega) ⟨0,[],rfl,by omega,by simp,by simp,rfl⟩ ?_
 rintro m x ⟨i,V,rfl,i1,i2,i3,rfl⟩ K hK
 dsimp only
 refine Ok.ite (fun g=>Ok.j (Ok.ite (fun g2=>Ok.oe (QmC hl) (Ok.LS ?_)) fun g2=>?_)) fun g=>Ok.s fun _=>⟨hc,by omega,hR2,by dsimp only;omega,i3⟩
 ·dsimp only
  rw[Qb (by omega)]
  refine hK _ _ (by omega) ⟨i+1,_,rfl,by omega,by simp;omega,fun m hm=>?_,rfl⟩
  rcases List.mem_append.1 hm with hm|hm
  ·exact i3 m hm
  ·rw[List.mem_singleton.1 hm];exact⟨rfl,rfl,by dsimp only;omega,by dsimp only;omega,hR,rfl,rfl,rfl,g2⟩
 ·dsimp only
  rw[Qb (by omega)]
  exact hK _ _ (by omega) ⟨i+1,_,rfl,by omega,by omega,i3,rfl⟩
end
end
/-
  Replicas: what the reference's functions of logs compute.
-/
section
variable {n fu:Nat} {r:D.Replica} {m:D.Message} {o:D.Op} {L E:List D.Entry} {t k x:Int} {i p:Nat}
theorem Qso(h:i≤Xy L E)(h1:i<L.length)(h2:i<E.length)(h3:trm L i=trm E i):i+1≤Xy L E:=by
 rcases Nat.lt_or_ge i (Xy L E)with g|g
 ·exact g
 ·have e:Xy L E=i:=by omega
  rcases QkF (L:=L) (E:=E) (by omega)with y|y
  ·omega
  ·rw[e]at y;exact absurd h3 y
theorem Qsp(h:i≤Xy L E)(h2:i<E.length)(h3:L.length≤i∨trm L i≠trm E i):Xy L E=i:=by
 have h4:=(QcN (L:=L) (E:=E)).2
 rcases Nat.lt_or_ge i (Xy L E)with g|g
 ·rcases h3 with y|y
  ·omega
  ·exact absurd (QkG g) y
 ·omega
theorem QtP(hl:L.length≤900)(he:E.length≤900)(hp:p≤L.length):QeU 1000 L (p:Int) E=some ((Qbn L p E).1,((Qbn L p E).2:Int)):=by
 have hdl:(L.drop p).length=L.length - p:=by simp
 have stop:∀{i:Nat},i<E.length→i≤Xy (L.drop p) E→((L.drop p).length≤i∨trm (L.drop p) i≠trm E i)→Qbn L p E=(L.take (p+i)++E.drop i,p+i)∧p+i≤L.length:=fun{i} h1 h2 h3=>by
  have e:=Qsp h2 h1 h3
  have h4:=(QcN (L:=L.drop p) (E:=E)).2
  unfold Qbn
  rw[e,if_neg (by omega)]
  exact⟨rfl,by omega⟩
 refine Ok.eq ?_
 unfold QeU
 refine Ok.loop (fun m x=>∃i:Nat,x=((L,(p:Int),E,(i:Int),()),())∧i≤E.length∧i≤Xy (L.drop p) E∧m=E.length - i) (m:=E.length) (by omega) ⟨0,rfl,by omega,by omega,rfl⟩ ?_
 rintro m x ⟨i,rfl,i1,i2,rfl⟩ K hK
 dsimp only
 have hs:=(QcN (L:=L.drop p) (E:=E)).2
 refine Ok.ite (fun g=>?_) (fun g=>?_)
 ·rw[Qg (x:=(p:Int)+i) (by omega)]
  refine Ok.j (Ok.ite (fun g2=>?_) fun g2=>?_)
  ·obtain⟨e,e2⟩:=stop (i:=i) (by omega) i2 (.inl (by omega))
   have e3:min ((p:Int)+i) (L.length:Int)=((p+i:Nat):Int):=by omega
   rw[e3,e]
   exact Ok.natn (Ok.lec e2 (Ok.LS (Ok.natn (Ok.L (Ok.LS (Ok.s rfl))))))
  ·refine Ok.at (by omega) (by omega) (Ok.A ?_)
   have et:(nth L ((p:Int)+i).toNat).Term=trm (L.drop p) i:=by
    rw[Qnv];show(nth L _).Term=(nth L _).Term;congr 2<;>omega
   rw[et]
   refine Ok.ite (fun g3=>?_) fun g3=>?_
   ·obtain⟨e,e2⟩:=stop (i:=i) (by omega) i2 (.inr g3)
    have e3:min ((p:Int)+i) (L.length:Int)=((p+i:Nat):Int):=by omega
    rw[e3,e]
    exact Ok.natn (Ok.lec e2 (Ok.LS (Ok.natn (Ok.L (Ok.LS (Ok.s rfl))))))
   ·dsimp only
    rw[Qb (by omega)]
    exact hK _ _ (by omega) ⟨i+1,rfl,by omega,Qso i2 (by omega) (by omega) (Decidable.not_not.1 g3),rfl⟩
 ·have e:Qbn L p E=(L,L.length):=by
   have:=(QcN (L:=L.drop p) (E:=E)).1
   unfold Qbn;rw[if_pos (by omega)]
  rw[e]
  exact Ok.L (Ok.s rfl)
theorem QsK(hc:CkR n r)(he:m.Entries.length≤600):Ok (QeT 1000 n r m) fun x=>∃b c,(b=true→CkM n r m 3)∧outM x=VA b c r m:=by
 have hl:r.Log.length≤256:=hc.log
 unfold QeT
 refine Ok.j (Ok.opt (Qws (by omega)) fun b hb=>?_)
 have none:∀{z:D.Message},Ok (optc (Y6 1000 r) fun a=>some (a,z,false)) fun x=>∃b c,(b=true→CkM n r m 3)∧outM x=VA b c r m:=fun{z}=>Ok.oe hc.copy (Ok.s ⟨false,false,by simp,by simp[outM,VA]⟩)
 refine Ok.cnd (fun g=>?_) fun g=>none
 have hm:=hb g
 refine Ok.ite (fun _=>none) fun p1=>Ok.ite (fun _=>none) fun p2=>Ok.ite (fun _=>none) fun p3=>?_
 dsimp only
 have hn0:¬(true=false∨m.Prev<0∨m.PrevTerm<0∨m.Commit<0):=by simp;omega
 refine Ok.oe hc.copyP (Ok.oe QqR (Ok.join (fun y=>∃w w',y=((),r,m,w,w',hrdV r m,())) (fun y hy=>?_) fun J hJ=>?_))
 ·obtain⟨w,w',rfl⟩:=hy
  dsimp only
  obtain⟨z,hz⟩:∃z,z=hrdV r m:=⟨_,rfl⟩
  have hzl:z.Log.length=r.Log.length:=by rw[hz,QiQ.2]
  rw[←hz]
  clear hb
  refine Ok.join (fun y=>∃b w w',y=((b,()),r,m,w,w',z,())∧(b=true↔(m.Term=z.Term∧z.Role≠2∧m.Prev≤z.Log.length∧(m.Prev=0∨trm z.Log (m.Prev.toNat - 1)=m.PrevTerm)))) (fun y hy=>?_) fun J hJ=>?_
  ·obtain⟨b,w,w',rfl,hb⟩:=hy
   dsimp only
   refine Ok.ncnd (fun g=>Ok.s ⟨true,true,fun _=>hm,?_⟩) fun g=>?_
   ·unfold VA
    rw[if_neg hn0,←hz,if_neg (fun h=>by rw[hb.2 h]at g;simp at g)];rfl
   ·have hon:=hb.1 g
    have hj:=QtP (p:=m.Prev.toNat) (L:=z.Log) (E:=m.Entries) (by omega) (by omega) (by omega)
    rw[show((m.Prev.toNat:Nat):Int)=m.Prev by omega]at hj
    have hjl:(Qbn z.Log m.Prev.toNat m.Entries).1.length≤900:=by
     unfold Qbn;split
     ·dsimp only;omega
     ·have:=(QcN (L:=z.Log.drop m.Prev.toNat) (E:=m.Entries)).1
      simp;omega
    refine Ok.oe hj (Ok.j (Ok.opt (QtG hjl) fun c _=>Ok.cnd (fun g2=>Ok.ite (fun g3=>Ok.oe hc.copy (Ok.s ⟨true,true,fun _=>hm,?_⟩)) fun g3=>Ok.s ⟨true,true,fun _=>hm,?_⟩) fun g2=>Ok.oe hc.copy (Ok.s ⟨true,false,fun _=>hm,?_⟩)))
    ·unfold VA
     rw[if_neg hn0,←hz,if_pos hon,if_pos (.inr g3)];rfl
    ·unfold VA
     simp only[outM,if_true]
     rw[if_neg hn0,←hz,if_pos hon,if_neg (by simp;omega),Qg (by omega)]
    ·unfold VA
     rw[if_neg hn0,←hz,if_pos hon,if_pos (.inl rfl)];rfl
  ·refine Ok.ite (fun g1=>Ok.ite (fun g2=>Ok.ite (fun g3=>Ok.ite (fun g4=>hJ _ ⟨_,_,_,rfl,by simp[g1,g2,g3,g4]⟩) fun g4=>?_) fun g3=>hJ _ ⟨_,_,_,rfl,by simp[g3]⟩) fun g2=>hJ _ ⟨_,_,_,rfl,by simp[g2]⟩) fun g1=>hJ _ ⟨_,_,_,rfl,by simp[g1]⟩
   rw[Qg (by omega)]
   refine Ok.at (by omega) (by omega) ?_
   have et:(nth z.Log (m.Prev - 1).toNat).Term=trm z.Log (m.Prev.toNat - 1):=by
    show(nth z.Log _).Term=(nth z.Log _).Term
    congr 2;omega
   rw[et]
   exact Ok.ite (fun g5=>hJ _ ⟨_,_,_,rfl,by simp[g1,g2,g3,g5]⟩) fun g5=>hJ _ ⟨_,_,_,rfl,by simp[g4,g5]⟩
 ·exact Ok.ite (fun a=>Ok.ite (fun b=>hJ _ ⟨_,_,by simp[hrdV,a,b];exact⟨rfl,rfl⟩⟩) fun b=>hJ _ ⟨_,_,by simp[hrdV,a,b];exact⟨rfl,rfl⟩⟩) fun a=>hJ _ ⟨_,_,by simp[hrdV,a];exact⟨rfl,rfl⟩⟩
theorem QuR{P:Nat→Bool}{lo k:Nat}(h:lo<k)(hp:P k=false):topV P lo k=topV P lo (k - 1):=by
 obtain⟨k,rfl⟩:∃j,k=j+1:=⟨k - 1,by omega⟩
 conv=>lhs;unfold topV
 rw[if_pos h,hp];rfl
theorem Qwu{P:Nat→Bool}{lo k:Nat}(h:lo<k)(hp:P k=true):topV P lo k=k:=by
 obtain⟨k,rfl⟩:∃j,k=j+1:=⟨k - 1,by omega⟩
 unfold topV
 rw[if_pos h,hp];rfl
theorem Qwt{P:Nat→Bool}{lo k:Nat}(h:k≤lo):topV P lo k=lo:=by
 cases k with
 |zero=>rfl
 |succ k=>unfold topV;rw[if_neg (by omega)]
theorem Qu9(hc:CkR n r):Ok (QaV 1000 n r m) fun x=>∃b,(b=true→CkM n r m 4)∧x=if b=false then r else Up n r m:=by
 have hl:r.Log.length≤256:=hc.log
 have hn:=hc.sz;have hcom:=hc.com
 unfold QaV
 refine Ok.oe hc.copy (Ok.opt (Qws (by omega)) fun b hb=>Ok.ncnd (fun g=>Ok.s ⟨false,by simp,rfl⟩) fun g=>?_)
 have hm:=hb g
 have fin:∀y,y=Up n r m→∃b,(b=true→CkM n r m 4)∧y=if b=false then r else Up n r m:=fun y h=>⟨true,fun _=>hm,by rw[h];rfl⟩
 have nop:∀{h:r.Role≠2∨m.Term≠r.Term∨m.OK=false∨m.Prev<0∨(r.Log.length:Int)<m.Prev},¬r.Term<m.Term→r=Up n r m:=fun{h} g=>by unfold Up;rw[if_neg g,if_pos h]
 refine Ok.ite (fun g1=>Ok.oe QqR (Ok.s (fin _ (by unfold Up;rw[if_pos g1])))) fun g1=>Ok.j (Ok.ite (fun g2=>Ok.s (fin _ (nop (h:=.inl g2) g1))) fun g2=>Ok.ite (fun g3=>Ok.s (fin _ (nop (h:=.inr (.inl g3)) g1))) fun g3=>Ok.cnd (fun g4=>Ok.oe rin (Ok.cnd (fun g5=>?_) fun g5=>Ok.s (fin _ (nop (h:=?_) g1)))) fun g4=>Ok.s (fin _ (nop (h:=.inr (.inr (.inl g4))) g1)))
 rotate_left
 ·refine .inr (.inr (.inr ?_))
  rcases Int.lt_or_le m.Prev 0 with z|z
  ·exact .inl z
  ·rcases Int.lt_or_le (r.Log.length:Int) m.Prev with y|y
   ·exact .inr y
   ·rw[Qt.2 ⟨z,y⟩]at g5;simp at g5
 have h5:=Qt.1 g5
 obtain⟨hml,_⟩:=hc.ldr (Decidable.not_not.1 g2)
 have hfm:=hm.from0
 dsimp only
 refine Ok.nat hfm.1 (Ok.E (Ok.G (Ok.nat hfm.1 (Ok.E (Ok.G ?_)))))
 have eM:r.Match.set m.From.toNat (max (nth r.Match m.From.toNat) m.Prev)=U9 r m:=rfl
 rw[eM]
 obtain⟨M,hM⟩:∃M,M=U9 r m:=⟨_,rfl⟩
 have hMl:M.length=n:=by rw[hM];unfold U9;rw[List.length_set];exact hml
 rw[←hM]
 have hres:∀c:Int,c=(topV (QhR n r M) r.Commit.toNat r.Log.length:Nat)→D.Replica.mk r.ID r.Term r.Voted r.Role r.Log c r.Votes M=Up n r m:=fun c h=>by
  unfold Up
  rw[if_neg g1,if_neg (by simp[Decidable.not_not.1 g2,Decidable.not_not.1 g3,g4];omega),←hM,h]
 refine Ok.join (fun y=>∃w c,y=((),w,(r.ID,r.Term,r.Voted,r.Role,c,()),r.Log,r.Votes,M,())∧c=((topV (QhR n r M) r.Commit.toNat r.Log.length:Nat):Int)) (fun y hy=>?_) fun J hJ=>?_
 ·obtain⟨w,c,rfl,h⟩:=hy
  exact Ok.s (fin _ (hres c h))
 ·refine Ok.loop (fun q x=>∃i:Nat,x=(((n:Int),(i:Int),()),D.Replica.mk 0 0 0 0 [] 0 [] [],(r.ID,r.Term,r.Voted,r.Role,r.Commit,()),r.Log,r.Votes,M,())∧i≤r.Log.length∧topV (QhR n r M) r.Commit.toNat r.Log.length=topV (QhR n r M) r.Commit.toNat i∧q=i) (m:=r.Log.length) (by omega) ⟨r.Log.length,rfl,by omega,rfl,rfl⟩ ?_
  rintro q x ⟨i,rfl,i1,i2,hq⟩ K hK
  dsimp only
  refine Ok.ite (fun g6=>?_) fun g6=>hJ _ ⟨_,_,rfl,by rw[i2,Qwt (by omega)];omega⟩
  refine Ok.join (fun y=>y=(((n:Int),(i:Int),()),D.Replica.mk 0 0 0 0 [] 0 [] [],(r.ID,r.Term,r.Voted,r.Role,r.Commit,()),r.Log,r.Votes,M,())∧QhR n r M i=false) (fun y hy=>?_) fun J2 hJ2=>?_
  ·obtain⟨rfl,hs⟩:=hy
   dsimp only
   rw[Qg (by omega)]
   exact hK (i - 1) _ (by omega) ⟨i - 1,by rw[show((i - 1:Nat):Int)=(i:Int) - 1 by omega],by omega,by rw[i2,QuR (by omega) hs],rfl⟩
  ·refine Ok.run n (fun j=>(((n:Int),(i:Int),(((List.range j).countP fun k=>decide ((i:Int)≤nth M k):Nat):Int),(j:Int),()),D.Replica.mk 0 0 0 0 [] 0 [] [],(r.ID,r.Term,r.Voted,r.Role,r.Commit,()),r.Log,r.Votes,M,())) rfl (by omega) (fun j hj K2 hK2=>?_) (fun K2=>?_)
   ·have hcl:=Qdv (P:=fun k=>decide ((i:Int)≤nth M k)) (i:=j)
    dsimp only
    refine Ok.P (Ok.j (Ok.natn (Ok.E (Ok.G (Ok.ite (fun g7=>?_) fun g7=>?_)))))
    ·dsimp only at hK2 ⊢
     rw[XR,if_pos (decide_eq_true g7)]at hK2
     rw[Qb (by omega),Qb (by omega)]
     exact hK2
    ·dsimp only at hK2 ⊢
     rw[XR,if_neg (by simpa using g7)]at hK2
     rw[Qb (by omega)]
     exact hK2
   ·dsimp only
    refine Ok.N (Ok.oe QdV ?_)
    rw[Qkh hn]
    refine Ok.ite (fun g7=>?_) fun g7=>hJ2 _ ⟨rfl,?_⟩
    ·rw[Qg (by omega)]
     refine Ok.nat (by omega) (Ok.E (Ok.G ?_))
     have et:(nth r.Log ((i:Int) - 1).toNat).Term=trm r.Log (i - 1):=by
      show(nth r.Log _).Term=(nth r.Log _).Term
      congr 2;omega
     rw[et]
     refine Ok.ite (fun g8=>hJ _ ⟨_,_,rfl,?_⟩) fun g8=>hJ2 _ ⟨rfl,?_⟩
     ·rw[i2,Qwu (by omega) (by unfold QhR;simp[g8];omega)]
     ·unfold QhR;simp[g8]
    ·unfold QhR;simp;omega
theorem QxS(hl:r.Log.length≤900):Ok (QcC 1000 n r o) fun x=>x.2=0→CkR n r∧x.1=prpV n r o∧r.Role=2∧∀e∈r.Log,e.Op.ID≠o.ID:=by
 unfold QcC
 refine Ok.opt (Qtg hl) fun b hb=>Ok.ncnd (fun _=>Ok.s fun e=>by simp at e) fun g=>Ok.ite (fun _=>Ok.s fun e=>by simp at e) fun g1=>?_
 have hc:=hb g
 have hn:=hc.sz;have hid:=hc.id;have h256:=hc.log
 obtain⟨hml,_⟩:=hc.ldr (Decidable.not_not.1 g1)
 refine Ok.loop (fun m x=>∃(i:Nat) (z:D.Replica),x=(((n:Int),(i:Int),()),r,o,z,())∧i≤r.Log.length∧(∀e∈r.Log.take i,e.Op.ID≠o.ID)∧m=r.Log.length - i) (m:=r.Log.length) (by omega) ⟨0,_,rfl,by omega,by simp,rfl⟩ ?_
 rintro m x ⟨i,z,rfl,i1,i2,rfl⟩ K hK
 dsimp only
 refine Ok.ite (fun g2=>Ok.A (Ok.ite (fun _=>Ok.s fun e=>by simp at e) fun g3=>?_)) fun g2=>Ok.ite (fun _=>Ok.s fun e=>by simp at e) fun g4=>?_
 ·rw[Qb (by omega)]
  refine hK _ _ (by omega) ⟨i+1,z,rfl,by omega,fun e he=>?_,rfl⟩
  rw[←Qr (show i<r.Log.length by omega)]at he
  rcases List.mem_append.1 he with he|he
  ·exact i2 e he
  ·rw[List.mem_singleton.1 he];exact g3
 ·rw[List.take_of_length_le (by omega)]at i2
  have el:(r.Log++[D.Entry.mk r.Term o]).length=r.Log.length+1:=by simp
  refine Ok.oe hc.copy (Ok.LS (Ok.nat hid.1 (Ok.E (Ok.G (Ok.j (Ok.oe QdV ?_))))))
  rw[Qkh hn]
  refine Ok.ite (fun g5=>Ok.s fun _=>⟨hc,?_,Decidable.not_not.1 g1,i2⟩) fun g5=>Ok.s fun _=>⟨hc,?_,Decidable.not_not.1 g1,i2⟩
  ·unfold prpV;rw[if_pos (by omega),el];rfl
  ·unfold prpV;rw[if_neg (by omega),el];rfl
theorem Qvp(hl:r.Log.length≤900):Ok (QcB 1000 n r) fun V=>V.length≤n∧∀m∈V,CkR n r∧r.Role=2∧∃j:Nat,j<n∧m=appV r j∧(j:Int)≠r.ID:=by
 unfold QcB
 refine Ok.j (Ok.opt (Qtg hl) fun b hb=>Ok.cnd (fun g=>Ok.ite (fun _=>Ok.s ⟨by simp,by simp⟩) fun g1=>?_) fun _=>Ok.s ⟨by simp,by simp⟩)
 have hc:=hb g
 have hn:=hc.sz;have hid:=hc.id;have h256:=hc.log
 obtain⟨hml,hmm⟩:=hc.ldr (Decidable.not_not.1 g1)
 refine Ok.loop (fun m x=>∃(i:Nat) (V:List D.Message),x=(((n:Int),(i:Int),()),r,V,())∧i≤n∧V.length≤i∧(∀m∈V,∃j:Nat,j<n∧m=appV r j∧(j:Int)≠r.ID)∧m=n - i) (m:=n) (by omega) ⟨0,[],rfl,by omega,by simp,by simp,rfl⟩ ?_
 rintro m x ⟨i,V,rfl,i1,i2,i3,rfl⟩ K hK
 dsimp only
 refine Ok.ite (fun g2=>Ok.join (fun y=>∃V:List D.Message,y=(((n:Int),(i:Int),()),r,V,())∧V.length≤i+1∧∀m∈V,∃j:Nat,j<n∧m=appV r j∧(j:Int)≠r.ID) (fun y hy=>?_) fun J hJ=>?_) fun g2=>Ok.s ⟨by omega,fun m hm=>⟨hc,Decidable.not_not.1 g1,i3 m hm⟩⟩
 ·obtain⟨V',rfl,j1,j2⟩:=hy
  dsimp only
  rw[Qb (by omega)]
  exact hK _ _ (by omega) ⟨i+1,V',rfl,by omega,j1,j2,rfl⟩
 ·have h3:=hmm i (by omega)
  refine Ok.ite (fun _=>hJ _ ⟨V,rfl,by omega,i3⟩) fun g3=>Ok.A (Ok.nat h3.1 (Ok.L (Ok.LS (Ok.j (Ok.ite (fun g4=>?_) fun g4=>?_)))))
  ·rw[Qg (by omega)]
   refine Ok.at (by omega) (by omega) (Ok.LS (hJ _ ⟨_,rfl,by simp;omega,fun m hm=>?_⟩))
   rcases List.mem_append.1 hm with hm|hm
   ·exact i3 m hm
   ·rw[List.mem_singleton.1 hm]
    refine⟨i,by omega,?_,g3⟩
    unfold appV
    rw[if_pos g4]
    show D.Message.mk _ _ _ _ _ (nth r.Log _).Term _ _ _=D.Message.mk _ _ _ _ _ (nth r.Log _).Term _ _ _
    rw[show(nth r.Match i - 1).toNat=(nth r.Match i).toNat - 1 by omega]
  ·refine Ok.LS (hJ _ ⟨_,rfl,by simp;omega,fun m hm=>?_⟩)
   rcases List.mem_append.1 hm with hm|hm
   ·exact i3 m hm
   ·rw[List.mem_singleton.1 hm]
    refine⟨i,by omega,?_,g3⟩
    unfold appV
    rw[if_neg g4]
theorem Qxf(hk:Yv 1000 n r=some true)(hc:CkR n r):QcD 1000 n r=some (Qvo r,0):=by
 refine Ok.eq ?_
 unfold QcD
 exact Ok.oe hk (Ok.nt rfl (Ok.oe hc.copy (Ok.s rfl)))
theorem Qyl(h:0≤r.Commit∧r.Commit≤r.Log.length)(hl:r.Log.length≤900):UP 1000 r=some (comV r):=by
 refine Ok.eq ?_
 unfold UP
 refine Ok.j (Ok.run r.Commit.toNat (fun i=>(((i:Int),()),r,(r.Log.take i).map (fun e=>e.Op),())) rfl (by omega) (fun i hi K hK=>?_) fun K=>?_)
 ·dsimp only
  refine Ok.j (Ok.P (Ok.p (by show(i:Int)<(r.Log.length:Int);omega) (Ok.atn (show i<r.Log.length by omega) (Ok.LS ?_))))
  dsimp only at hK ⊢
  rw[←Qr (show i<r.Log.length by omega),List.map_append]at hK
  rw[Qb (by omega)]
  exact hK
 ·dsimp only
  exact Ok.j (Ok.N (Ok.s rfl))
end
/-
  Replicas: the shape that the checks ask for, kept by all acts.
-/
open Go AM
structure Shp (n:Nat) (r:D.Replica):Prop where
 term:r.Term≤1048576
 voted : -1≤r.Voted∧r.Voted<n
 role:(r.Role=0∧r.Votes=[]∧r.Match=[])∨(r.Role=1∧r.Votes.length=n∧nth r.Votes r.ID.toNat=true∧r.Match=[])∨
  (r.Role=2∧r.Votes.length=n∧nth r.Votes r.ID.toNat=true∧r.Match.length=n∧nth r.Match r.ID.toNat=r.Log.length∧∀j,j<n→0≤nth r.Match j∧nth r.Match j≤r.Log.length)
section
variable {n i:Nat} {r:D.Replica} {m:D.Message} {o:D.Op} {t k:Int} {P:D.Op→Prop} {Rs:List D.Replica} {W:List D.Message} {b c:Bool}
theorem Shp.fol(h:Shp n r)(ht:t≤1048576):Shp n (folV r t):=by
 unfold folV
 split
 ·exact⟨ht,by dsimp only;omega,.inl ⟨rfl,rfl,rfl⟩⟩
 ·exact h
theorem Shp.hear(h:Shp n r)(hm:CkM n r m k):Shp n (U7 r m).1:=by
 have hf:=h.fol hm.term.2
 unfold U7
 dsimp only
 split
 ·exact⟨hf.term,by have:=hm.from0;dsimp only;omega,hf.role⟩
 ·exact hf
theorem Shp.lead(h:Shp n r)(hn:0≤r.ID∧r.ID<n)(h1:r.Role=1):Shp n (Qhz n r):=by
 rcases h.role with e|e|e
 ·omega
 ·refine⟨h.term,h.voted,.inr (.inr ⟨rfl,e.2.1,e.2.2.1,by simp[Qhz],?_,fun j hj=>?_⟩)⟩
  ·show nth ((List.replicate n (0:Int)).set r.ID.toNat _) r.ID.toNat=_
   rw[QW (by simp;omega)];rfl
  ·show 0≤nth ((List.replicate n (0:Int)).set r.ID.toNat _) j∧nth ((List.replicate n (0:Int)).set r.ID.toNat _) j≤(r.Log.length:Int)
   by_cases q:j=r.ID.toNat
   ·rw[q,QW (by simp;omega)];omega
   ·rw[Yl q];simp[nth,hj]
 ·omega
theorem Shp.votes(h:Shp n r)(h1:r.Role=1)(hm:CkM n r m k):Shp n { r with Votes:=r.Votes.set m.From.toNat true }:=by
 rcases h.role with e|e|e
 ·omega
 ·refine⟨h.term,h.voted,.inr (.inl ⟨h1,by simp[e.2.1],?_,e.2.2.2⟩)⟩
  have:=hm.from0;have:=hm.ne;have:=hm.rep.id
  show nth (r.Votes.set m.From.toNat true) r.ID.toNat=true
  rw[Yl (by omega)];exact e.2.2.1
 ·omega
theorem Shp.cast(h:Shp n r)(hm:CkM n r m k):Shp n (Ud n r m):=by
 unfold Ud
 split
 ·exact h.fol hm.term.2
 split
 ·exact h
 ·next y=>
  have h1:r.Role=1:=Classical.byContradiction fun z=>y (.inl z)
  have h2:=h.votes h1 hm
  split
  ·exact h2.lead hm.rep.id h1
  ·exact h2
theorem Shp.hrd(h:Shp n r)(ht:m.Term≤1048576):Shp n (hrdV r m):=by
 have hf:=h.fol ht
 unfold hrdV
 split
 ·next x=>
  refine⟨hf.term,hf.voted,.inl ⟨rfl,rfl,?_⟩⟩
  rcases hf.role with e|e|e
  ·exact e.2.2
  ·exact e.2.2.2
  ·omega
 ·exact hf
theorem Shp.accept(h:Shp n r)(hm:b=true→CkM n r m 3):Shp n (VA b c r m).1:=by
 unfold VA
 split
 ·exact h
 ·next x=>
  have hb:b=true:=by cases b<;>simp at x ⊢
  have hf:=h.hrd (hm hb).term.2
  split
  ·next y=>
   split
   ·exact h
   ·refine⟨hf.term,hf.voted,?_⟩
    rcases hf.role with e|e|e
    ·exact .inl e
    ·exfalso
     obtain⟨y1,y2,_⟩:=y
     have e1:=e.1
     unfold hrdV at e1 y1
     split at e1
     ·exact absurd e1 (by simp)
     ·next z=>rw[if_neg z]at y1;exact z ⟨e1,y1.symm⟩
    ·exact absurd e.1 y.2.1
  ·exact hf
theorem Shp.acked(h:Shp n r)(hm:CkM n r m k):Shp n (Up n r m):=by
 unfold Up
 split
 ·exact h.fol hm.term.2
 split
 ·exact h
 ·next y=>
  have h1:r.Role=2:=Classical.byContradiction fun z=>y (.inl z)
  have h2:¬m.Prev<0:=fun z=>y (.inr (.inr (.inr (.inl z))))
  have h3:¬(r.Log.length:Int)<m.Prev:=fun z=>y (.inr (.inr (.inr (.inr z))))
  rcases h.role with e|e|e
  ·omega
  ·omega
  ·have hf:=hm.from0;have hne:=hm.ne;have hid:=hm.rep.id
   refine⟨h.term,h.voted,.inr (.inr ⟨h1,e.2.1,e.2.2.1,by simp[U9,e.2.2.2.1],?_,fun j hj=>?_⟩)⟩
   ·show nth (U9 r m) r.ID.toNat=_
    unfold U9
    rw[Yl (by omega)];exact e.2.2.2.2.1
   ·show 0≤nth (U9 r m) j∧nth (U9 r m) j≤_
    have hj2:=e.2.2.2.2.2 j hj
    unfold U9
    by_cases q:j=m.From.toNat
    ·subst q
     rw[QW (by omega)]
     show 0≤max _ _∧max _ _≤(r.Log.length:Int)
     omega
    ·rw[Yl q];exact hj2
theorem Shp.handle(h:Shp n r)(hm:b=true→CkM n r m m.Kind):Shp n (Yh n b c r m).1:=by
 unfold Yh
 split
 ·split
  ·exact h
  ·next y=>exact h.hear (hm (by simpa using y))
 split
 ·dsimp only
  split
  ·exact h
  ·next y=>exact h.cast (hm (by simpa using y))
 split
 ·next y=>exact h.accept fun e=>y ▸ hm e
 split
 ·dsimp only
  split
  ·exact h
  ·next y=>exact h.acked (hm (by simpa using y))
 ·exact h
theorem Shp.prop(h:Shp n r)(hid:0≤r.ID∧r.ID<n)(h2:r.Role=2):Shp n (prpV n r o):=by
 rcases h.role with e|e|e
 ·omega
 ·omega
 ·refine⟨h.term,h.voted,.inr (.inr ⟨h2,e.2.1,e.2.2.1,by simp[prpV,e.2.2.2.1],?_,fun j hj=>?_⟩)⟩
  ·show nth (r.Match.set r.ID.toNat _) r.ID.toNat=((r.Log++[_]).length:Int)
   rw[QW (by omega)];simp
  ·show 0≤nth (r.Match.set r.ID.toNat _) j∧nth (r.Match.set r.ID.toNat _) j≤((r.Log++[_]).length:Int)
   have:=e.2.2.2.2.2 j hj
   rw[List.length_append]
   by_cases q:j=r.ID.toNat
   ·rw[q,QW (by omega)];simp;omega
   ·rw[Yl q];simp;omega
theorem Shp.stand(h:Shp n r)(hid:0≤r.ID∧r.ID<n)(ht:r.Term<1048576):Shp n (if n / 2+1=1 then Qhz n (Uc n r)else Uc n r):=by
 have h1:Shp n (Uc n r):=by
  refine⟨by show r.Term+1≤_;omega,by show -1≤r.ID∧r.ID<n;omega,.inr (.inl ⟨rfl,by simp[Uc],?_,rfl⟩)⟩
  show nth ((List.replicate n false).set r.ID.toNat true) r.ID.toNat=true
  rw[QW (by simp;omega)]
 split
 ·exact h1.lead hid rfl
 ·exact h1
theorem Shp.back(h:Shp n r):Shp n (Qvo r):=⟨h.term,h.voted,.inl ⟨rfl,rfl,rfl⟩⟩
theorem Qxj(hn:1≤n∧n≤5)(h:Shp n r)(hid:0≤r.ID∧r.ID<n)(hl:r.Log.length≤256)(hc:0≤r.Commit∧r.Commit≤r.Log.length)(ht:0≤r.Term)(hf:∀k,k<r.Log.length→(if k=0 then 1 else trm r.Log (k - 1))≤trm r.Log k∧trm r.Log k≤r.Term):Yv 1000 n r=some true:=by
 have hterm:=h.term;have hv:=h.voted
 have fits:Wy 1000 r.Log r.Term=some true:=by
  refine Ok.eq ?_
  unfold Wy
  refine Ok.run r.Log.length (fun i=>((r.Log,r.Term,(if i=0 then 1 else trm r.Log (i - 1)),(i:Int),()),())) rfl (by omega) (fun i hi K hK=>?_) fun K=>?_
  ·obtain⟨f1,f2⟩:=hf i hi
   dsimp only
   refine Ok.P (Ok.j (Ok.atn hi (Ok.n (by show ¬trm r.Log i<_;omega) (Ok.atn hi (Ok.n (by show ¬r.Term<trm r.Log i;omega) ?_)))))
   dsimp only at hK ⊢
   refine Ok.atn hi ?_
   rw[Qb (by omega)]
   rw[if_neg (by omega)]at hK
   exact hK
  ·exact Ok.N (Ok.s (by simp;omega))
 refine Ok.eq ?_
 unfold Yv
 have inn:∀{x lo hi:Int},lo≤x→x≤hi→inV x lo hi=true:=fun h1 h2=>Qt.2 ⟨h1,h2⟩
 refine Ok.j (Ok.oe QdV (Ok.n (by rw[Qkh hn];omega) ?_))
 rw[Qg (x:=(n:Int) - 1) (by omega)]
 refine Ok.oe rin (Ok.bt (inn (by omega) (by omega)) (Ok.oe rin (Ok.bt (inn (by omega) (by omega)) (Ok.oe rin (Ok.bt (inn (by omega) (by omega)) (Ok.oe fits (Ok.t (Ok.oe rin (Ok.bt (inn (by omega) (by omega)) ?_)))))))))
 dsimp only
 rcases h.role with e|e|e
 ·exact Ok.p e.1 (Ok.p (by rw[e.2.1];rfl) (Ok.p (by rw[e.2.2];rfl) (Ok.s rfl)))
 ·exact Ok.N (Ok.p e.1 (Ok.P (Ok.at (by omega) (by omega) (Ok.bt e.2.2.1 (Ok.p (by rw[e.2.2.2];rfl) (Ok.s rfl))))))
 ·obtain⟨e1,e2,e3,e4,e5,e6⟩:=e
  refine Ok.N (Ok.N (Ok.p e1 (Ok.j (Ok.N (Ok.at (by omega) (by omega) (Ok.bt e3 (Ok.N (Ok.at (by omega) (by omega) (Ok.N ?_)))))))))
  refine Ok.run n (fun i=>(((n:Int),(i:Int),()),r,())) rfl (by omega) (fun i hi K hK=>?_) fun K=>Ok.n (show ¬(n:Int)<(n:Int)by omega) (Ok.s rfl)
  have:=e6 i hi
  dsimp only at hK ⊢
  refine Ok.P (Ok.A (Ok.oe rin (Ok.nt (inn this.1 this.2) ?_)))
  rw[Qb (by omega)]
  exact hK
theorem InvC.ck(h:InvC n P Rs W)(hi:i<n)(hn:n≤5)(hs:Shp n (nth Rs i))(hl:(nth Rs i).Log.length≤256):Yv 1000 n (nth Rs i)=some true:=by
 have hc:=h.com_le hi
 have hid:=h.id hi
 obtain⟨_,g,x⟩:=h
 have hr:=x.rep i hi
 refine Qxj (by omega) hs (by omega) hl hc hr.pos fun k hk=>⟨?_,(hr.log.term k hk).2⟩
 split
 ·exact(hr.log.term k hk).1
 ·exact hr.log.asc (k - 1) k (by omega) hk
end
/-
  Clusters: what the reference's functions of regions compute, and what they keep.
-/
section
variable {n S q fu i:Nat} {c:D.Cluster} {r:D.Replica} {m:D.Message} {o:D.Op} {t k x y:Int} {P:D.Op→Prop}
structure CkC (n:Nat) (c:D.Cluster):Prop where
 len:c.Replicas.length=n
 sz:1≤n∧n≤5
 down:c.Down.length=n
 wire:c.Wire.length≤256
 rep:∀i,i<n→(nth c.Replicas i).ID=i∧Yv 1000 n (nth c.Replicas i)=some true∧CkR n (nth c.Replicas i)
 msg:∀m∈c.Wire,(0≤m.From∧m.From<n)∧(0≤m.To∧m.To<n)∧m.From≠m.To
def isC(L:List D.Arr2Int)(x y:Int):Bool:=L.any fun p=>decide (p.a0=min x y∧p.a1=max x y)
def QyH(n:Nat)(L:List D.Arr2Int):Prop:=∀i,i<L.length→0≤(nth L i).a0∧(nth L i).a0<(nth L i).a1∧(nth L i).a1<n∧isC (L.take i) (nth L i).a0 (nth L i).a1=false
structure CI (n q:Nat) (P:D.Op→Prop) (c:D.Cluster):Prop where
 inv:InvC n P c.Replicas c.Wire
 sz:1≤n∧n≤5
 idP:∀o,P o→1≤o.ID∧o.ID≤(256:Nat)
 shp:∀i,i<n→Shp n (nth c.Replicas i)
 dn:c.Down.length=n
 cut:c.Cut.length≤q
 q:q≤800
 cutOK:QyH n c.Cut
 wire:c.Wire.length≤256
 ents:∀m∈c.Wire,m.Entries.length≤600∧m.From≠m.To
theorem CI.len(h:CI n q P c):c.Replicas.length=n:=h.inv.1
theorem CI.short(h:CI n q P c)(hi:i<n):(nth c.Replicas i).Log.length≤256:=h.inv.short hi h.idP
theorem InvC.msg{Rs:List D.Replica}{W:List D.Message}(h:InvC n P Rs W)(hm:m∈W):(0≤m.From∧m.From<n)∧(0≤m.To∧m.To<n):=by
 obtain⟨_,g,x⟩:=h
 exact⟨(x.msg m hm).from0,(x.msg m hm).to0⟩
theorem Qto{L:List D.Arr2Int}(hl:L.length≤900):QbI 1000 L x y=some (isC L x y):=by
 refine Ok.eq ?_
 unfold QbI
 have e:∀p:D.Arr2Int,([p.a0,p.a1]=[min x y,max x y])↔(p.a0=min x y∧p.a1=max x y):=fun p=>by simp
 refine Ok.scan L.length (fun i=>((L,x,y,(i:Int),()),())) (fun i=>decide ((nth L i).a0=min x y∧(nth L i).a1=max x y)) rfl (by omega) (fun i hi hq _ k=>?_) (fun i hi hq k hk=>?_) (fun hq k=>?_)
 ·exact Ok.P (Ok.atn hi (Ok.p ((e _).2 (of_decide_eq_true hq)) (Ok.s (Qpy hi hq).symm)))
 ·dsimp only at hk ⊢
  refine Ok.P (Ok.atn hi (Ok.n (fun g=>of_decide_eq_false hq ((e _).1 g)) ?_))
  rw[Qb (by omega)]
  exact hk
 ·exact Ok.N (Ok.s (QsO hq).symm)
theorem CI.ck(h:CI n q P c):CkC n c:=
 ⟨h.len,h.sz,h.dn,h.wire,fun i hi=>by
  have hk:=h.inv.ck hi h.sz.2 (h.shp i hi) (h.short hi)
  obtain⟨b,hb,hb2⟩:=Qtg (n:=n) (r:=nth c.Replicas i) (by have:=h.short hi;omega)
  rw[hk]at hb;cases hb
  exact⟨h.inv.id hi,hk,hb2 rfl⟩,fun m hm=>⟨(h.inv.msg hm).1,(h.inv.msg hm).2,(h.ents m hm).2⟩⟩
theorem Qjo(h:CI n q P c):V1 1000 c=some true:=by
 have hc:=h.ck
 have hlen:=h.len;have hn:=h.sz;have hq:=h.q;have hcut:=h.cut;have hw:=h.wire;have hd:=h.dn
 have inn:∀{x lo hi:Int},lo≤x→x≤hi→inV x lo hi=true:=fun h1 h2=>Qt.2 ⟨h1,h2⟩
 refine Ok.eq ?_
 unfold V1
 rw[hlen]
 refine Ok.j (Ok.oe QdV (Ok.n (by rw[Qkh hn];omega) (Ok.N (Ok.N ?_))))
 dsimp only
 refine Ok.run n (fun i=>(((n:Int),(i:Int),()),c,())) rfl (by omega) (fun i hi K hK=>?_) fun K=>?_
 ·obtain⟨a1,a2,_⟩:=hc.rep i hi
  dsimp only at hK ⊢
  refine Ok.P (Ok.j (Ok.A (Ok.N (Ok.A (Ok.oe a2 (Ok.t ?_))))))
  dsimp only
  rw[Qb (by omega)]
  exact hK
 ·dsimp only
  refine Ok.N (Ok.run c.Wire.length (fun i=>(((n:Int),(i:Int),()),c,())) rfl (by omega) (fun i hi K hK=>?_) fun K=>?_)
  ·obtain⟨a1,a2,a3⟩:=hc.msg _ (Qk hi)
   dsimp only at hK ⊢
   rw[Qg (x:=(n:Int) - 1) (by omega)]
   refine Ok.P (Ok.j (Ok.atn hi (Ok.oe rin (Ok.bt (inn (by omega) (by omega)) (Ok.oe rin (Ok.bt (inn (by omega) (by omega)) (Ok.n a3 ?_)))))))
   dsimp only
   rw[Qb (by omega)]
   exact hK
  ·dsimp only
   refine Ok.N (Ok.run c.Cut.length (fun i=>(((n:Int),(i:Int),()),c,())) rfl (by omega) (fun i hi K hK=>?_) fun K=>Ok.n (show ¬(c.Cut.length:Int)<(c.Cut.length:Int)by omega) (Ok.s rfl))
   obtain⟨a1,a2,a3,a4⟩:=h.cutOK i hi
   dsimp only at hK ⊢
   refine Ok.P (Ok.j (Ok.atn hi (Ok.N (Ok.N (Ok.N (Ok.natn (Ok.L (Ok.oe (Qto (by simp;omega)) (Ok.bf a4 ?_)))))))))
   dsimp only
   rw[Qb (by omega)]
   exact hK
theorem CkC.copy(h:CkC n c)(hcut:c.Cut.length≤800)(hs:∀m∈c.Wire,m.Entries.length≤600):Ya 1000 c=some c:=by
 have hl:=h.len;have hn:=h.sz;have hw:=h.wire;have hd:=h.down
 refine Ok.eq ?_
 unfold Ya
 refine Ok.run n (fun i=>(((i:Int),()),c,(),(),c.Replicas.take i,())) rfl (by omega) (fun i hi K hK=>?_) fun K=>?_
 ·dsimp only at hK ⊢
  rw[←Qr (show i<c.Replicas.length by omega)]at hK
  refine Ok.P (Ok.A (Ok.oe (h.rep i hi).2.2.copyP (Ok.LS ?_)))
  rw[Qb (by omega)]
  exact hK
 ·dsimp only
  rw[List.take_of_length_le (by omega)]
  refine Ok.N (Ok.run c.Wire.length (fun i=>(((i:Int),()),c,(),(),c.Replicas,c.Wire.take i,())) rfl (by omega) (fun i hi K hK=>?_) fun K=>?_)
  ·dsimp only at hK ⊢
   rw[←Qr hi]at hK
   have:=hs _ (Qk hi)
   refine Ok.P (Ok.atn hi (Ok.L (Ok.LS ?_)))
   rw[Qb (by omega)]
   exact hK
  ·dsimp only
   rw[List.take_length]
   exact Ok.N (Ok.L (Ok.L (Ok.s rfl)))
theorem CkC.cp(h:CkC n c)(hi:CI n q P c):Ya 1000 c=some c:=h.copy (by have:=hi.cut;have:=hi.q;omega) fun m hm=>(hi.ents m hm).1
theorem CI.cp(h:CI n q P c):Ya 1000 c=some c:=h.ck.cp h
theorem QqP{N:Nat}{o:Option Int}(h:o=some (if inV k 0 ((N:Int) - 1)=true then 0 else 3)):Ok o fun e=>(e=0∧∃i:Nat,i<N∧k=i)∨(e=3∧¬(0≤k∧k<N)):=by
 refine Ok.of h ?_
 split
 ·next g=>have:=Qt.1 g;exact .inl ⟨rfl,k.toNat,by omega,by omega⟩
 ·next g=>exact .inr ⟨rfl,fun z=>g (Qt.2 ⟨z.1,by omega⟩)⟩
theorem QcH(h:CI n q P c):Ok (Wh 1000 c k) fun e=>(e=0∧∃i:Nat,i<n∧k=i)∨(e=3∧¬(0≤k∧k<n)):=by
 have hlen:=h.len;have hn:=h.sz
 refine QqP (Ok.eq ?_)
 unfold Wh
 rw[hlen,Qg (x:=(n:Int) - 1) (by omega)]
 exact Ok.oe (Qjo h) (Ok.nt rfl (Ok.oe rin (Ok.ncnd (fun g=>Ok.s (by rw[g];rfl)) fun g=>Ok.s (by rw[g];rfl))))
theorem QuZ(h:CI n q P c):Ok (QgW 1000 c k) fun e=>(e=0∧∃i:Nat,i<c.Wire.length∧k=i)∨(e=3∧¬(0≤k∧k<c.Wire.length)):=by
 have hw:=h.wire
 refine QqP (Ok.eq ?_)
 unfold QgW
 rw[Qg (x:=(c.Wire.length:Int) - 1) (by omega)]
 exact Ok.oe (Qjo h) (Ok.nt rfl (Ok.oe rin (Ok.ncnd (fun g=>Ok.s (by rw[g];rfl)) fun g=>Ok.s (by rw[g];rfl))))
theorem CI.upd(h:CI n q P c){d:D.Cluster}(hI:InvC n P d.Replicas d.Wire)(hs:∀i,i<n→Shp n (nth d.Replicas i))(hd:d.Down.length=n)(hc:d.Cut=c.Cut)(hw:d.Wire.length≤256)(he:∀m∈d.Wire,m.Entries.length≤600∧m.From≠m.To):CI n q P d:=⟨hI,h.sz,h.idP,hs,hd,by rw[hc];exact h.cut,h.q,by rw[hc];exact h.cutOK,hw,he⟩
theorem CI.set(h:CI n q P c)(hi:i<n)(hr:Shp n r):∀j,j<n→Shp n (nth (c.Replicas.set i r) j):=fun j hj=>by
 by_cases e:j=i
 ·subst e;rw[QW (by rw[h.len];exact hj)];exact hr
 ·rw[Yl e];exact h.shp j hj
theorem CI.atR(h:CI n q P c):(c.Replicas.length:Int)=n:=by rw[h.len]
theorem Qmt{V W:List D.Message}(h:∀m∈V,m.Entries.length≤600∧m.From≠m.To)(h2:∀m∈W,m.Entries.length≤600∧m.From≠m.To):∀m∈V++W,m.Entries.length≤600∧m.From≠m.To:=fun m hm=>(List.mem_append.1 hm).elim (h m) (h2 m)
theorem Qpc(h:CI n q P c):Ok (Qeb 1000 c k) fun x=>x.2=0→CI n q P x.1∧∃i:Nat,i<n∧k=i∧nth x.1.Down i=false:=by
 have hlen:=h.len;have hn:=h.sz;have hw:=h.wire;have hd:=h.dn
 unfold Qeb
 refine Ok.opt (QcH h) fun e he=>?_
 rcases he with⟨rfl,i,hi,rfl⟩|⟨rfl,z⟩
 rotate_left
 ·exact Ok.P (Ok.s fun e=>absurd e (by simp))
 have hid:=(h.ck.rep i hi).2.2.id
 refine Ok.N (Ok.A (Ok.cnd (fun _=>Ok.s fun e=>absurd e (by simp)) fun dn=>Ok.oe h.cp (Ok.natn (Ok.E (Ok.G ?_)))))
 rw[h.atR]
 refine Ok.opt (Qwl (by have:=h.short hi;omega)) fun⟨r',V,e⟩ hs=>Ok.ite (fun g=>Ok.s fun e=>absurd e g) fun g2=>?_
 obtain⟨hr,e0,e1,e2,e3⟩:=hs (Decidable.not_not.1 g2)
 dsimp only at e1 e2 e3 ⊢
 rw[Qg (by omega)]
 refine Ok.ite (fun _=>Ok.s fun e=>absurd e (by simp)) fun g3=>Ok.L (Ok.natn (Ok.E (Ok.G (Ok.s fun _=>⟨h.upd ?_ (h.set hi (by rw[e1];exact(h.shp i hi).stand hid e0)) hd rfl (by simp;omega) (Qmt h.ents fun m hm=>?_),i,hi,rfl,dn⟩))))
 ·rw[e1]
  refine h.inv.stands hi fun m hm=>?_
  obtain⟨a1,a2,a3,a4,a5,a6,a7,_⟩:=e3 m hm
  exact⟨a1,by rw[a2,h.inv.id hi],a3,a4,a5,a6,a7⟩
 ·obtain⟨a1,a2,a3,a4,a5,a6,a7,a8,a9⟩:=e3 m hm
  rw[a8,a2];exact⟨by simp,Ne.symm a9⟩
theorem QmT(h:CI n q P c):Ok (Qal 1000 c k o) fun x=>x.2=0→(P o→CI n q P x.1)∧∃i,i<n∧x.1.Replicas.length=n∧∃e∈(nth x.1.Replicas i).Log,e.Op=o:=by
 have hlen:=h.len;have hn:=h.sz;have hw:=h.wire;have hd:=h.dn
 unfold Qal
 refine Ok.opt (QcH h) fun e he=>?_
 rcases he with⟨rfl,i,hi,rfl⟩|⟨rfl,z⟩
 rotate_left
 ·exact Ok.P (Ok.s fun e=>absurd e (by simp))
 have hid:=(h.ck.rep i hi).2.2.id
 refine Ok.N (Ok.A (Ok.cnd (fun _=>Ok.s fun e=>absurd e (by simp)) fun _=>Ok.oe h.cp (Ok.natn (Ok.E (Ok.G ?_)))))
 rw[h.atR]
 refine Ok.opt (QxS (by have:=h.short hi;omega)) fun⟨r',e⟩ hs=>Ok.ite (fun g=>Ok.s fun e=>absurd e g) fun g2=>Ok.natn (Ok.E (Ok.G (Ok.s fun _=>?_)))
 obtain⟨hr,e1,e2,e3⟩:=hs (Decidable.not_not.1 g2)
 dsimp only at e1 e2 e3 ⊢
 refine⟨fun hp=>h.upd ?_ (h.set hi (by rw[e1];exact(h.shp i hi).prop hid e2)) hd rfl hw h.ents,i,hi,by simp;exact hlen,⟨(nth c.Replicas i).Term,o⟩,?_,rfl⟩
 ·rw[e1];exact h.inv.prop hi e2 (hr.ldr e2).1 hp e3
 ·rw[e1,QW (by omega)];simp[prpV]
theorem Qmk(h:CI n q P c):Ok (QcE 1000 c k) fun x=>(x.2=0→CI n q P x.1∧x.1.Down=c.Down)∧∀i:Nat,i<n→k=i→nth c.Down i=false→(nth c.Replicas i).Role=2→c.Wire=[]→x.2=0:=by
 have hlen:=h.len;have hn:=h.sz;have hw:=h.wire;have hd:=h.dn
 unfold QcE
 refine Ok.opt (QcH h) fun e he=>?_
 rcases he with⟨rfl,i,hi,rfl⟩|⟨rfl,z⟩
 rotate_left
 ·exact Ok.P (Ok.s ⟨fun e=>absurd e (by simp),fun i hi e=>absurd ⟨by omega,by omega⟩ z⟩)
 have one:∀{x:D.Cluster} {e:Int},e≠0→(nth c.Down i=false→(nth c.Replicas i).Role=2→c.Wire=[]→False)→(((x,e):D.Cluster×Int).2=0→CI n q P ((x,e):D.Cluster×Int).1∧((x,e):D.Cluster×Int).1.Down=c.Down)∧∀i':Nat,i'<n→(i:Int)=i'→nth c.Down i'=false→(nth c.Replicas i').Role=2→c.Wire=[]→((x,e):D.Cluster×Int).2=0:=fun h1 h2=>⟨fun e=>absurd e h1,fun j _ ej a1 a2 a3=>by
  have:j=i:=by omega
  subst this;exact(h2 a1 a2 a3).elim⟩
 refine Ok.N (Ok.A (Ok.cnd (fun dn=>Ok.s (one (by simp) fun a _ _=>by rw[dn]at a;simp at a)) fun _=>Ok.A (Ok.ite (fun g=>Ok.s (one (by simp) fun _ a _=>g a)) fun g1=>Ok.oe h.cp (Ok.natn (Ok.E (Ok.G ?_))))))
 rw[h.atR]
 have hid:=h.inv.id hi
 refine Ok.opt (Qvp (by have:=h.short hi;omega)) fun V ⟨v1,v2⟩=>?_
 rw[Qg (by omega)]
 refine Ok.ite (fun g=>Ok.s (one (by simp) fun _ _ a=>by rw[a]at g;simp at g;omega)) fun g3=>Ok.L (Ok.s ⟨fun _=>⟨h.upd (h.inv.beat hi (Decidable.not_not.1 g1) ((h.ck.rep i hi).2.2.ldr (Decidable.not_not.1 g1)).2 fun m hm=>?_) h.shp hd rfl (by simp;omega) (Qmt h.ents fun m hm=>?_),rfl⟩,fun _ _ _ _ _ _=>rfl⟩)
 ·obtain⟨_,_,j,a,b,_⟩:=v2 m hm;exact⟨j,a,b⟩
 ·obtain⟨a,b,j,_,rfl,ne⟩:=v2 m hm
  have:=a.log
  exact⟨by simp[appV];omega,Ne.symm ne⟩
def Qgl(W:List D.Message)(k:Nat):List D.Message:=W.take k++W.drop (k+1)
theorem Qgm{W:List D.Message}{k:Nat}{m:D.Message}(h:m∈Qgl W k):m∈W:=(List.mem_append.1 h).elim List.mem_of_mem_take List.mem_of_mem_drop
theorem QrH{W:List D.Message}{k:Nat}(h:k<W.length):Xx (Qgl W k)+Xx [nth W k]=Xx W:=by
 conv=>rhs;rw[←List.take_append_drop k W,List.drop_eq_getElem_cons h]
 have:W[k]=nth W k:=by simp[nth,List.getD_eq_getElem?_getD,List.getElem?_eq_getElem h]
 rw[this]
 unfold Qgl
 simp only[Qjw,show nth W k::W.drop (k+1)=[nth W k]++W.drop (k+1)from rfl]
 omega
theorem Qtm:1≤Xx [m]:=by simp[Xx];split<;>omega
theorem CI.drop(h:CI n q P c):CI n q P { c with Wire:=Qgl c.Wire i }:=by
 have hw:=h.wire
 exact h.upd (h.inv.sub fun m hm=>Qgm hm) h.shp h.dn rfl (by simp[Qgl];omega) fun m hm=>h.ents m (Qgm hm)
theorem QqJ(h:CI n q P c):Ok (QgT 1000 c k) fun x=>(∃i:Nat,i<c.Wire.length∧k=i∧x=({ c with Wire:=Qgl c.Wire i },0))∨(¬(0≤k∧k<c.Wire.length)∧x.2≠0):=by
 have hw:=h.wire
 unfold QgT
 refine Ok.opt (QuZ h) fun e he=>?_
 rcases he with⟨rfl,i,hi,rfl⟩|⟨rfl,z⟩
 rotate_left
 ·exact Ok.P (Ok.s (.inr ⟨z,by simp⟩))
 refine Ok.N (Ok.oe h.cp (Ok.natn (Ok.natn (Ok.ck rfl (Ok.L ?_)))))
 rw[Qb (by omega)]
 refine Ok.natn (Ok.L (Ok.L (Ok.L (Ok.L (Ok.nil (fun g2=>Ok.L (Ok.s (.inl ⟨i,hi,rfl,?_⟩))) fun g2=>Ok.LS (Ok.s (.inl ⟨i,hi,rfl,?_⟩)))))))
 ·rw[List.take_length]at g2
  unfold Qgl;rw[g2,List.append_nil]
 ·rw[List.take_length];rfl
theorem QrG(h:CI n q P c):Ok (QeV 1000 c k) fun x=>x.2=0→CI n q P x.1:=by
 have hw:=h.wire
 unfold QeV
 refine Ok.opt (QuZ h) fun e he=>?_
 rcases he with⟨rfl,i,hi,rfl⟩|⟨rfl,z⟩
 rotate_left
 ·exact Ok.P (Ok.s fun e=>absurd e (by simp))
 have hs:∀m∈c.Wire++[nth c.Wire i],m∈c.Wire:=fun m hm=>(List.mem_append.1 hm).elim id fun hm=>by rw[List.mem_singleton.1 hm];exact Qk hi
 exact Ok.N (Ok.ite (fun _=>Ok.s fun e=>absurd e (by simp)) fun g2=>Ok.oe h.cp (Ok.oe h.cp (Ok.natn (Ok.lt hi (Ok.get hi (Ok.LS (Ok.s fun _=>h.upd (h.inv.sub hs) h.shp h.dn rfl (by simp;omega) fun m hm=>h.ents m (hs m hm))))))))
theorem Qsk{b d:Bool}:∀m'∈(Yh n b d r m).2,m'.Entries=[]∧m'.From=r.ID∧m'.To=m.From:=by
 intro m' hm
 unfold Yh at hm
 split at hm
 ·split at hm
  ·simp at hm
  ·simp only[Option.mem_def,Option.some.injEq]at hm;subst hm;exact⟨rfl,rfl,rfl⟩
 ·split at hm
  ·simp at hm
  ·split at hm
   ·unfold VA at hm
    split at hm
    ·simp at hm
    ·split at hm
     ·split at hm
      ·simp at hm
      ·simp only[Option.mem_def,Option.some.injEq]at hm;subst hm;exact⟨rfl,rfl,rfl⟩
     ·simp only[Option.mem_def,Option.some.injEq]at hm;subst hm;exact⟨rfl,rfl,rfl⟩
   ·split at hm<;>simp at hm
theorem Qtq(h:CI n q P c):Ok (Qaj 1000 c k) fun x=>(x.2=0∧CI n q P x.1∧Xx x.1.Wire<Xx c.Wire∧x.1.Down=c.Down)∨(¬(0≤k∧k<c.Wire.length)∧x.2≠0):=by
 have hlen:=h.len;have hn:=h.sz;have hw:=h.wire;have hdn:=h.dn
 unfold Qaj
 refine Ok.opt (QqJ h) fun x hx=>?_
 rcases hx with⟨i,hi,rfl,rfl⟩|⟨z,hx⟩
 rotate_left
 ·exact Ok.p hx (Ok.s (.inr ⟨z,hx⟩))
 refine Ok.NS ?_
 obtain⟨m,hm⟩:∃m,m=nth c.Wire i:=⟨_,rfl⟩
 have hmem:m∈c.Wire:=by rw[hm];exact Qk hi
 obtain⟨⟨f0,f1⟩,⟨t0,t1⟩,ft⟩:=h.ck.msg m hmem
 have hcost:=QrH hi
 rw[←hm]at hcost
 have hone:=Qtm (m:=m)
 obtain⟨t,ht⟩:∃t:Nat,m.To=t:=⟨m.To.toNat,by omega⟩
 obtain⟨d,hd⟩:∃d,d={ c with Wire:=Qgl c.Wire i }:=⟨_,rfl⟩
 have hI:CI n q P d:=by rw[hd];exact h.drop
 have gone:((0:Int)=0∧CI n q P d∧Xx d.Wire<Xx c.Wire∧d.Down=c.Down):=⟨rfl,hI,by rw[hd];dsimp only;omega,by rw[hd]⟩
 rw[←hd]
 refine Ok.oe h.cp (Ok.natn (Ok.lt hi (Ok.get hi ?_)))
 rw[←hm]
 refine Ok.join (fun y=>y=((),c,D.Cluster.mk [] [] [] [],(),m,d.Replicas,d.Wire,d.Down,d.Cut,())) (fun y hy=>?_) fun J hJ=>?_
 ·subst hy
  dsimp only
  have hrl:d.Replicas.length=n:=by rw[hd];exact hlen
  have hrep:nth d.Replicas t=nth c.Replicas t:=by rw[hd]
  have hck:=(h.ck.rep t (by omega)).2.2
  have hid:=(h.ck.rep t (by omega)).1
  rw[ht]
  refine Ok.natn (Ok.E (Ok.G ?_))
  rw[hrep,h.atR]
  have done:∀(b e:Bool) (r':D.Replica) (V:List D.Message),(b=true→CkM n (nth c.Replicas t) m m.Kind)→r'=(Yh n b e (nth c.Replicas t) m).1→V=(Yh n b e (nth c.Replicas t) m).2.toList→CI n q P (D.Cluster.mk (d.Replicas.set t r') (d.Wire++V) d.Down d.Cut)∧Xx (d.Wire++V)<Xx c.Wire∧d.Down=c.Down:=fun b e r' V hb e1 e2=>by
   have h1:=(h.inv.handle (n:=n) (b:=b) (c:=e) (V:=Qgl c.Wire i) (by omega) hmem ht (by omega) (fun m hm=>Qgm hm) fun z=>(hck.ldr z).1).1
   have h2:=Qn0 (n:=n) (b:=b) (c:=e) (r:=nth c.Replicas t) (m:=m) (W:=Qgl c.Wire i)
   have h3:Xx (m::Qgl c.Wire i)=Xx [m]+Xx (Qgl c.Wire i):=Qjw (V:=[m])
   have h4:=(h.shp t (by omega)).handle (c:=e) hb
   subst e1;subst e2
   rw[hd]
   refine⟨h.upd h1 (h.set (by omega) h4) hdn rfl ?_ (Qmt (fun m hm=>h.ents m (Qgm hm)) fun m' hm'=>?_),by dsimp only;omega,rfl⟩
   ·have:(Yh n b e (nth c.Replicas t) m).2.toList.length≤1:=by cases(Yh n b e (nth c.Replicas t) m).2<;>simp
    simp[Qgl];omega
   ·obtain⟨a1,a2,a3⟩:=Qsk m' (by simpa using hm')
    rw[a1,a2,a3];exact⟨by simp,by omega⟩
  refine Ok.join (fun y=>∃b e has r' a z,y=((has,()),z,(),m,r',a,d.Replicas,d.Wire,d.Down,d.Cut,())∧(b=true→CkM n (nth c.Replicas t) m m.Kind)∧outM (r',a,has)=Yh n b e (nth c.Replicas t) m) (fun y hy=>?_) fun J hJ=>?_
  ·obtain⟨b,e,has,r',a,z,rfl,hb,hz⟩:=hy
   dsimp only
   rw[ht]
   have e1:r'=(Yh n b e (nth c.Replicas t) m).1:=by rw[←hz];rfl
   refine Ok.natn (Ok.E (Ok.G (Ok.j (Ok.cnd (fun g2=>Ok.lec (by rw[hd];simp[Qgl];omega) (Ok.s (.inl ⟨rfl,?_⟩))) fun g2=>Ok.s (.inl ⟨rfl,?_⟩)))))
   ·exact done b e _ _ hb e1 (by rw[←hz,g2];rfl)
   ·have:=done b e r' [] hb e1 (by rw[←hz,g2];rfl)
    rw[List.append_nil]at this;exact this
  ·refine Ok.ite (fun g2=>Ok.opt (Qxx hck) fun⟨r',a,has⟩ ⟨b,hb0,hb⟩=>hJ _ ⟨b,true,_,_,_,_,rfl,by rw[g2];exact hb0,?_⟩) fun g2=>Ok.ite (fun g3=>Ok.opt (QwA hck) fun r' ⟨b,hb0,hb⟩=>hJ _ ⟨b,true,_,_,_,_,rfl,by rw[g3];exact hb0,?_⟩) fun g3=>Ok.ite (fun g4=>Ok.opt (QsK hck (h.ents m hmem).1) fun⟨r',a,has⟩ ⟨b,e,hb0,hb⟩=>hJ _ ⟨b,e,_,_,_,_,rfl,by rw[g4];exact hb0,?_⟩) fun g4=>Ok.ite (fun g5=>Ok.opt (Qu9 hck) fun r' ⟨b,hb0,hb⟩=>hJ _ ⟨b,true,_,_,_,_,rfl,by rw[g5];exact hb0,?_⟩) fun g5=>hJ _ ⟨false,true,_,_,_,_,rfl,by simp,?_⟩
   ·rw[hb];unfold Yh;rw[if_pos g2]
   ·unfold Yh;rw[if_neg g2,if_pos g3,←hb];rfl
   ·rw[hb];unfold Yh;rw[if_neg g2,if_neg g3,if_pos g4]
   ·unfold Yh;rw[if_neg g2,if_neg g3,if_neg g4,if_pos g5,←hb];rfl
   ·unfold Yh;rw[if_neg g2,if_neg g3,if_neg g4,if_neg g5];rfl
 ·rw[ht]
  exact Ok.A (Ok.cnd (fun _=>Ok.s (.inl gone)) fun _=>Ok.oe (Qto (by have:=h.cut;have:=h.q;omega)) (Ok.cnd (fun _=>Ok.s (.inl gone)) fun _=>hJ _ rfl))
theorem Qtn(h:CI n q P c):Ok (QgS 1000 c k) fun x=>x.2=0→CI n q P x.1:=by
 have hd:=h.dn
 unfold QgS
 refine Ok.opt (QcH h) fun e he=>?_
 rcases he with⟨rfl,i,hi,rfl⟩|⟨rfl,z⟩
 rotate_left
 ·exact Ok.P (Ok.s fun e=>absurd e (by simp))
 exact Ok.N (Ok.A (Ok.cnd (fun _=>Ok.s fun e=>absurd e (by simp)) fun _=>Ok.oe h.cp (Ok.natn (Ok.E (Ok.G (Ok.s fun _=>h.upd h.inv h.shp (by simp;exact hd) rfl h.wire h.ents))))))
theorem Qvn(h:CI n q P c):Ok (QcG 1000 c k) fun x=>x.2=0→CI n q P x.1:=by
 have hlen:=h.len;have hd:=h.dn
 unfold QcG
 refine Ok.opt (QcH h) fun e he=>?_
 rcases he with⟨rfl,i,hi,rfl⟩|⟨rfl,z⟩
 rotate_left
 ·exact Ok.P (Ok.s fun e=>absurd e (by simp))
 have hr:=h.ck.rep i hi
 refine Ok.N (Ok.A (Ok.ncnd (fun _=>Ok.s fun e=>absurd e (by simp)) fun _=>Ok.oe h.cp (Ok.natn (Ok.E (Ok.G (Ok.natn (Ok.E (Ok.G ?_))))))))
 rw[h.atR]
 exact Ok.oe (Qxf hr.2.1 hr.2.2) (Ok.natn (Ok.E (Ok.G (Ok.s fun _=>h.upd (h.inv.back hi) (h.set hi (h.shp i hi).back) (by simp;exact hd) rfl h.wire h.ents))))
theorem Qxm(h:CI n q P c)(hq:q<800):Ok (Qnf 1000 c k x) fun z=>z.2=0→CI n (q+1) P z.1:=by
 have hcut:=h.cut;have hn:=h.sz
 unfold Qnf
 refine Ok.opt (QcH h) fun e he=>?_
 rcases he with⟨rfl,i,hi,rfl⟩|⟨rfl,z⟩
 rotate_left
 ·exact Ok.P (Ok.s fun e=>absurd e (by simp))
 rw[h.atR,Qg (x:=(n:Int) - 1) (by omega)]
 refine Ok.N (Ok.oe rin (Ok.ncnd (fun _=>Ok.s fun e=>absurd e (by simp)) fun g=>Ok.ite (fun _=>Ok.s fun e=>absurd e (by simp)) fun g2=>Ok.oe (Qto (by omega)) (Ok.cnd (fun _=>Ok.s fun e=>absurd e (by simp)) fun g3=>Ok.oe h.cp (Ok.LS (Ok.s fun _=>⟨h.inv,h.sz,h.idP,h.shp,h.dn,by simp;omega,by omega,fun j hj=>?_,h.wire,h.ents⟩)))))
 have hx:=Qt.1 g
 simp only[List.length_append,List.length_singleton]at hj
 by_cases e:j=c.Cut.length
 ·subst e
  have e1:nth (c.Cut++[D.Arr2Int.mk (min (i:Int) x) (max (i:Int) x)]) c.Cut.length=D.Arr2Int.mk (min (i:Int) x) (max (i:Int) x):=by simp[nth]
  rw[e1,List.take_left]
  refine⟨by dsimp only;omega,by dsimp only;omega,by dsimp only;omega,?_⟩
  rw[←g3]
  unfold isC
  rw[show min (min (i:Int) x) (max (i:Int) x)=min (i:Int) x by omega,show max (min (i:Int) x) (max (i:Int) x)=max (i:Int) x by omega]
 ·have e1:nth (c.Cut++[D.Arr2Int.mk (min (i:Int) x) (max (i:Int) x)]) j=nth c.Cut j:=by
   simp only[nth,List.getD_eq_getElem?_getD];rw[List.getElem?_append_left (by omega)]
  rw[e1,List.take_append_of_le_length (by omega)]
  exact h.cutOK j (by omega)
theorem QvJ(h:CI n q P c):Ok (Qi3 1000 c) (CI n q P):=by
 unfold Qi3
 exact Ok.oe (Qjo h) (Ok.nt rfl (Ok.oe h.cp (Ok.s ⟨h.inv,h.sz,h.idP,h.shp,h.dn,by simp,h.q,fun j hj=>by simp at hj,h.wire,h.ents⟩)))
theorem Qq0(h:CI n q P c):Ok (QbG 1000 c) fun x=>0≤x.1∧x.1<n:=by
 have hlen:=h.len;have hn:=h.sz;have hd:=h.dn
 unfold QbG
 refine Ok.join (fun y=>∃a b,y=((a,b,()),())∧0≤a∧a<(n:Int)) (fun y hy=>?_) fun J hJ=>?_
 ·obtain⟨a,b,rfl,h1⟩:=hy;exact Ok.s h1
 ·refine Ok.loop (fun q x=>∃(i:Nat) (a:Int) (b:Bool),x=((a,b,(i:Int),()),c,())∧i≤n∧(0≤a∧a<n)∧q=n - i) (m:=n) (by omega) ⟨0,0,false,rfl,by omega,by omega,rfl⟩ ?_
  rintro q1 x ⟨i,a,b,rfl,i1,i2,hq⟩ K hK
  dsimp only
  rw[h.atR]
  refine Ok.join (fun y=>y=((a,b,(i:Int),()),c,())∧i<n) (fun y hy=>?_) fun J2 hJ2=>Ok.ite (fun g=>Ok.oe (Qjo h) (Ok.t (hJ2 _ ⟨rfl,by omega⟩))) fun _=>hJ _ ⟨_,_,rfl,i2⟩
  obtain⟨rfl,g⟩:=hy
  dsimp only
  refine Ok.join (fun y=>∃a b,y=((a,b,(i:Int),()),c,())∧0≤a∧a<(n:Int)) (fun y hy=>?_) fun J3 hJ3=>?_
  ·obtain⟨a,b,rfl,h1⟩:=hy
   dsimp only
   rw[Qb (by omega)]
   exact hK _ _ (by omega) ⟨i+1,a,b,rfl,by omega,h1,rfl⟩
  ·exact Ok.A (Ok.ite (fun _=>Ok.A (Ok.cnd (fun _=>hJ3 _ ⟨_,_,rfl,i2⟩) fun _=>Ok.cnd (fun _=>Ok.at i2.1 (by omega) (Ok.ite (fun _=>hJ3 _ ⟨_,_,rfl,by omega,by omega⟩) fun _=>hJ3 _ ⟨_,_,rfl,i2⟩)) fun _=>hJ3 _ ⟨_,_,rfl,by omega,by omega⟩)) fun _=>hJ3 _ ⟨_,_,rfl,i2⟩)
theorem QjH(h:CI n q P c):Ok (Qak 1000 c) fun d=>CI n q P d∧d.Wire=[]∧d.Down=c.Down:=by
 unfold Qak
 refine Ok.join (fun y=>∃d z,y=((),d,z,())∧CI n q P d∧d.Wire=[]∧d.Down=c.Down) (fun y hy=>?_) fun J hJ=>?_
 ·obtain⟨d,z,rfl,hd⟩:=hy;exact Ok.s hd
 ·have hcl:=Qvx (W:=c.Wire);have hw:=h.wire
  refine Ok.loop (fun m x=>∃d z,x=((),d,z,())∧CI n q P d∧d.Down=c.Down∧m=Xx d.Wire) (m:=Xx c.Wire) (by omega) ⟨c,_,rfl,h,rfl,rfl⟩ ?_
  rintro m x ⟨d,z,rfl,hd,hdn,rfl⟩ K hK
  dsimp only
  refine Ok.ite (fun g=>Ok.opt (Qtq hd) fun⟨e,er⟩ he=>?_) fun g=>hJ _ ⟨_,_,rfl,hd,List.eq_nil_of_length_eq_zero (by omega),hdn⟩
  rcases he with⟨rfl,h1,h2,h3⟩|⟨z,_⟩
  ·exact Ok.NS (hK _ _ h2 ⟨e,_,rfl,h1,h3.trans hdn,rfl⟩)
  ·exact absurd ⟨by omega,by omega⟩ z
theorem Qsq(h:CI n q P c):Ok (QbH 1000 c k) fun x=>x.2=0→CI n q P x.1:=by
 unfold QbH
 refine Ok.opt (QcH h) fun e he=>?_
 rcases he with⟨rfl,i,hi,rfl⟩|⟨rfl,z⟩
 rotate_left
 ·exact Ok.P (Ok.s fun e=>absurd e (by simp))
 have h0:CI n q P (D.Cluster.mk c.Replicas [] c.Down c.Cut):=h.upd (h.inv.sub (by simp)) h.shp h.dn rfl (by simp) (by simp)
 refine Ok.N (Ok.oe h.cp (Ok.opt (Qpc h0) fun⟨d,e⟩ he=>Ok.ite (fun g=>Ok.s fun e=>absurd e g) fun g=>?_))
 obtain⟨hd,i',hi',ei,hdn⟩:=he (Decidable.not_not.1 g)
 obtain rfl:i'=i:=by omega
 refine Ok.opt (QjH hd) fun f ⟨f1,f2,f3⟩=>Ok.join (fun y=>∃d z,y=((),d,z,())∧CI n q P d) (fun y hy=>?_) fun J hJ=>?_
 ·obtain⟨d,z,rfl,hd⟩:=hy;exact Ok.s fun _=>hd
 ·refine Ok.loop (fun m x=>∃(j:Nat) (d z:D.Cluster),x=(((i':Int),(j:Int),()),d,z,())∧(CI n q P d∧d.Wire=[]∧nth d.Down i'=false)∧j≤2∧m=2 - j) (m:=2) (by omega) ⟨0,f,_,rfl,⟨f1,f2,by rw[f3];exact hdn⟩,by omega,rfl⟩ ?_
  rintro m x ⟨j,d,z,rfl,⟨hd,d2,d3⟩,j1,rfl⟩ K hK
  dsimp only
  have hdl:=hd.len
  refine Ok.join (fun y=>y=(((i':Int),(j:Int),()),d,z,())∧j<2∧(nth d.Replicas i').Role=2) (fun y hy=>?_) fun J2 hJ2=>Ok.ite (fun _=>Ok.A (Ok.ite (fun r2=>hJ2 _ ⟨rfl,by omega,r2⟩) fun _=>hJ _ ⟨_,_,rfl,hd⟩)) fun _=>hJ _ ⟨_,_,rfl,hd⟩
  obtain⟨rfl,g2,r2⟩:=hy
  dsimp only
  refine Ok.opt (Qmk hd) fun⟨e,er⟩ ⟨b1,b2⟩=>?_
  obtain⟨b3,b4⟩:=b1 (b2 i' hi' rfl d3 r2 d2)
  refine Ok.opt (QjH b3) fun f ⟨f1,f2,f3⟩=>?_
  rw[Qb (by omega)]
  exact hK _ _ (by omega) ⟨j+1,f,z,rfl,⟨f1,f2,by rw[f3];dsimp only at b4;rw[b4];exact d3⟩,by omega,rfl⟩
end
/-
  Lists of operations as they are made: one after the other, with numbers and times that ascend; what they make of a new ledger.
-/
section
open Go AM
attribute [local irreducible] dueV stepV runV QE answerV
section
variable {n:Nat} {c:D.Config} {b:D.Book} {p q:D.Page} {now M:Int} {l x:D.Ledger} {i:Nat} {o:D.Op} {L:List Int} {d:D.Dice} {ops:List D.Op}
def DecL(l:D.Ledger):Prop:=∀p∈l.Pages,PgX 1000000 p
theorem QuT{a:D.Answer}(h:YA a=true):(1≤a.ID∧a.ID≤1000000)∧0≤a.Page∧a.Page≤999999:=by
 unfold YA at h
 simp only[bae,Qt]at h
 have h1:=h.1.1.1.1.1
 have h2:=h.1.1.1.1.2
 omega
theorem DecL.set(h:DecL l)(hp:PgX 1000000 p){L:List D.Page}(e:L=l.Pages.set i p):∀q∈L,PgX 1000000 q:=fun q hq=>by
 rw[e]at hq
 rcases List.mem_or_eq_of_mem_set hq with g|rfl
 ·exact h q g
 ·exact hp
theorem DecL.run(h:DecL l)(hl:Qf M n l)(hi:i<l.Pages.length):DecL (runI l i):=
 h.set ((h _ (Qk hi)).run hl.book QT.step (hl.at hi).1) (Qsn hl hi).1
theorem DecL.runs(h:DecL l)(hl:Qf M n l):∀{k:Nat},k≤l.Pages.length→DecL (Z8 l k)
 |0,_=>h
 |k+1,hk=>(h.runs hl (by omega)).run (hl.runs (by omega)) (by rw[(YE (l:=l) (k:=k)).2.2.2.2.2.2];exact hk)
theorem Qva{a:D.Answer}(hb:QN b)(h:Qy QT M b p)(hd:PgX 1000000 p)(hv:YA a=true)(ha:a.Person<4):PgX 1000000 (ansP c b p a now):=by
 have hr:PgX 1000000 (runV c b p now).1:=hd.run hb QT.step h
 unfold ansP
 split
 ·rename_i g
  rcases Qdp g with e|e
  ·rw[e];exact hr
  ·rw[e];exact hr.answer ha (QuT hv).1
 ·exact hr
theorem DecL.op(h:DecL l)(hl:Qf M n l)(ho:OpIn o)(hlt:l.Pages.length<64)(ha:o.Kind=4→o.Answer.Person<4):DecL (opV l o).1:=by
 have hk5:=ho.kind
 by_cases k1:o.Kind=1
 ·unfold opV
  rw[if_pos k1]
  split
  ·exact h
  ·rename_i g
   split
   ·exact h
   ·split
    ·exact h
    ·split
     ·rename_i g1 g2 g3
      obtain⟨i1,i2,i3⟩:=hl.open (o:=o) (by simpa using g) ⟨by omega,ho.page.2⟩ g3 hlt
      refine DecL.run (fun q hq=>?_) i1 i2
      rcases Qgw.1 hq with rfl|hq
      ·exact PgX.new
      ·exact h q hq
     ·exact h
 by_cases k2:o.Kind=2
 ·unfold opV
  rw[if_neg k1,if_pos k2]
  split<;>exact h
 by_cases k3:o.Kind=3
 ·unfold opV
  rw[if_neg k1,if_neg k2,if_pos k3]
  split
  ·split
   ·rename_i g
    generalize (if (nth l.Pages (posV o.Page l.Pages)).State=2 then(-1:Int)else(nth l.Pages (posV o.Page l.Pages)).Next)=kk
    split
    ·exact h.run hl (U6 g).1
    ·exact h
   ·exact h
  ·exact h
 by_cases k4:o.Kind=4
 ·obtain⟨_,_,e⟩:=QrY hl k4
  show ∀q∈(opV l o).1.Pages,_
  rw[e]
  split
  ·rename_i g
   have hi:=(U6 g).1
   exact h.set (Qva hl.book (hl.at hi).1 (h _ (Qk hi)) (ho.answer k4).1 (ha k4)) rfl
  ·exact h
 ·obtain⟨e,_⟩:=Qv1 (l:=l) (o:=o) (by omega)
  show ∀q∈(opV l o).1.Pages,_
  rw[e]
  exact h.runs hl (Nat.le_refl _)
theorem DecL.apply(h:DecL l)(hl:Qf M n l)(ho:OpIn o)(ht:max l.Now o.At≤M - 20000)(hs:l.Seen.length<256)(hlt:l.Pages.length<64)(ha:o.Kind=4→o.Answer.Person<4):DecL (Yp l o).1:=by
 cases g:l.Seen.contains o.ID with
 |true=>unfold Yp;rw[if_pos g];exact h
 |false=>rw[Qrv g];exact DecL.op (l:=seeV l o) h (hl.see ho ht g hs) ho hlt ha
def QdG(c:D.Config)(b:D.Book):D.Ledger:={ Now:=0,Config:=c,Book:=b,Pages:=[],Owner:=-1,Fence:=0,Seen:=[],Calls:=[] }
def opsV(l:D.Ledger):List D.Op→D.Ledger
 |[]=>l
 |o::r=>opsV (Yp l o).1 r
theorem Qrd:∀{a:List D.Op} {l:D.Ledger} {r:List D.Op},opsV l (a++r)=opsV (opsV l a) r
 |[],_,_=>rfl
 |o::a,l,r=>by simp only[List.cons_append,opsV,Qrd]
theorem Qt6:opsV l (ops++[o])=(Yp (opsV l ops) o).1:=by rw[Qrd];rfl
theorem Qow(h:i<ops.length):opsV l (ops.take (i+1))=(Yp (opsV l (ops.take i)) (nth ops i)).1:=by rw[←Qr h,Qt6]
structure Behind (ops:List D.Op) (k:Nat) (l:D.Ledger):Prop where
 made:QyI k l
 dec:DecL l
 seen:∀x∈l.Seen,x≤(k:Int)
 last:l.Now≤0∨∃j,j<k∧l.Now≤(nth ops j).At
theorem Behind.first(hc:Zg 2 c)(hb:QN b):Behind ops 0 (QdG c b):=
 ⟨⟨QrX hc hb,fun p hp=>by simp[QdG]at hp,Nat.le_refl _,by simp[QdG]⟩,fun p hp=>by simp[QdG]at hp,fun x hx=>by simp[QdG]at hx,.inl (by simp[QdG])⟩
theorem Behind.fresh{k:Nat}(h:Behind ops k l)(hi:o.ID=(k:Int)+1):l.Seen.contains o.ID=false:=by
 cases hc:l.Seen.contains o.ID with
 |false=>rfl
 |true=>
  have:=h.seen _ (List.contains_iff_mem.1 hc)
  omega
attribute [local irreducible] opsV Yp opV
end
end
/-
  Ledgers behind lists of operations: what is asked of each, their errors, those of made lists.
-/
section
attribute [local irreducible] dueV stepV runV QE answerV
section
variable {n:Nat} {c:D.Config} {b:D.Book} {p q:D.Page} {now M:Int} {l x:D.Ledger} {i:Nat} {o:D.Op} {L:List Int} {d:D.Dice} {ops:List D.Op}
def Qe3(l:D.Ledger):List D.Op→List Int
 |[]=>[]
 |o::r=>(Yp l o).2::Qe3 (Yp l o).1 r
theorem Qn8:∀{a:List D.Op} {l:D.Ledger} {r:List D.Op},Qe3 l (a++r)=Qe3 l a++Qe3 (opsV l a) r
 |[],_,_=>rfl
 |o::a,l,r=>by simp only[List.cons_append,Qe3,opsV,Qn8]
theorem QrJ(h:i<ops.length):Qe3 l (ops.take (i+1))=Qe3 l (ops.take i)++[(Yp (opsV l (ops.take i)) (nth ops i)).2]:=by rw[←Qr h,Qn8];rfl
theorem Qn9:∀{ops:List D.Op} {l:D.Ledger},(Qe3 l ops).length=ops.length
 |[],_=>rfl
 |o::r,l=>by simp only[Qe3,List.length_cons,Qn9]
structure Led (l:D.Ledger):Prop where
 ok:∃M n,LW M n l∧n≤48
 pg:l.Pages.length≤9
structure OkAt (l:D.Ledger) (o:D.Op):Prop where
 ok:∃M n,Qf M n l∧n<48∧max l.Now o.At≤M - 20000
 pg:l.Pages.length≤8
 dec:DecL l
 op:OpIn o
 len:l.Seen.length<256
theorem OkAt.ref(h:OkAt l o):Qd6 1000 l o=some (Yp l o):=by
 obtain⟨M,n,h1,h2,h3⟩:=h.ok
 exact QsS h1 h2 h.pg h.op h3 h.len
theorem Led.check(h:Led l):XJ 1000 l=some true:=by
 obtain⟨M,n,h1,h2⟩:=h.ok
 exact QaI h1 h.pg
theorem Led.checkE(h:Led l):Wv 1000 l=some true:=by
 obtain⟨M,n,h1,h2⟩:=h.ok
 exact QmF h1 h.pg
theorem Led.copy(h:Led l):UN 1000 l=some l:=by
 obtain⟨M,n,h1,h2⟩:=h.ok
 have:=h1.callsLe h.pg;have:=h1.seen.len;have:=h.pg
 exact QqI h1.plens (by omega) (by omega) (by omega)
structure Runs (l:D.Ledger) (ops:List D.Op):Prop where
 at_:∀j,j<ops.length→OkAt (opsV l (ops.take j)) (nth ops j)
 fin:∀j,j≤ops.length→Led (opsV l (ops.take j))
 len:ops.length≤200
structure Loose (k:Nat) (l:D.Ledger):Prop where
 inv:Qf 1000000 (2+k) l
 ids:Ids 3 l
 seen:l.Seen.length≤k
 dec:DecL l
def Qdk(o:D.Op):Prop:=OpIn o∧(o.Kind=1→o.Page≤3)∧o.At≤980000∧(o.Kind=4→o.Answer.Person<4)
theorem Behind.loose{k:Nat}(h:Behind ops k l):Loose k l:=⟨h.made.inv,h.made.ids,h.made.seen,h.dec⟩
theorem Loose.okAt{k:Nat}(h:Loose k l)(hk:k≤45)(ho:Qdk o):OkAt l o:=by
 have hn:=h.inv.now;have hs:=h.seen;have h2:=ho.2.2.1
 have hp3:=h.inv.small3 (k:=3) h.ids
 exact⟨⟨1000000,2+k,h.inv,by omega,by omega⟩,by omega,h.dec,ho.1,by omega⟩
theorem Loose.led{k:Nat}(h:Loose k l)(hk:k≤46):Led l:=⟨⟨1000000,2+k,h.inv.w,by omega⟩,by have:=h.inv.small3 (k:=3) h.ids;omega⟩
theorem Loose.next{k:Nat}(h:Loose k l)(hk:k≤45)(ho:Qdk o):Loose (k+1) (Yp l o).1:=by
 have hn:=h.inv.now;have hs:=h.seen;have h2:=ho.2.2.1
 have hp3:=h.inv.small3 (k:=3) h.ids
 exact⟨h.inv.apply (by omega) ho.1 (by omega) (by omega),h.ids.apply h.inv ho.1 (by omega) (by omega) ho.2.1,by have:=(Qpz (l:=l) (o:=o)).1;omega,h.dec.apply h.inv ho.1 (by omega) (by omega) (by omega) ho.2.2.2⟩
theorem Loose.fold{k:Nat}(h:Loose k l)(ho:∀o∈ops,Qdk o)(hk:k+ops.length≤45):∀{j:Nat},j≤ops.length→Loose (k+j) (opsV l (ops.take j))
 |0,_=>by rw[List.take_zero];exact h
 |j+1,hj=>by
  rw[Qow (by omega)]
  exact(Loose.fold h ho hk (by omega)).next (by omega) (ho _ (Qk (by omega)))
theorem Loose.runs{k:Nat}(h:Loose k l)(ho:∀o∈ops,Qdk o)(hk:k+ops.length≤45):Runs l ops:=
 ⟨fun j hj=>(h.fold ho hk (by omega)).okAt (by omega) (ho _ (Qk hj)),fun j hj=>(h.fold ho hk hj).led (by omega),by omega⟩
theorem QpP(hc:Zg 2 c)(hb:QN b):Loose 0 (QdG c b):=(Behind.first (ops:=[]) hc hb).loose
end
end
/-
  Lists of operations: what replaying them computes in the reference.
-/
section
open Go AM
attribute [local irreducible] dueV stepV runV QE answerV
section
variable {n:Nat} {c:D.Config} {b:D.Book} {p q:D.Page} {now M:Int} {l x:D.Ledger} {i:Nat} {o:D.Op} {ops:List D.Op}
theorem Qsj(h:Runs l ops):QeR 1000 l ops=some (opsV l ops,Qe3 l ops):=by
 have hlen:=h.len
 refine Ok.eq ?_
 unfold QeR
 have h0:=h.fin 0 (Nat.zero_le _)
 rw[List.take_zero]at h0
 refine Ok.oe h0.copy ?_
 refine Ok.run ops.length (fun j=>((ops,(j:Int),()),opsV l (ops.take j),({ Now:=0,Config:={ Zones:=[],People:=[],Calendars:=[],Schedules:=[] },Book:={ Teams:=[],Policies:=[] },Pages:=[],Owner:=0,Fence:=0,Seen:=[],Calls:=[] }:D.Ledger),Qe3 l (ops.take j),())) rfl (by omega) (fun j hj k hk=>?_) (fun k=>?_)
 ·try dsimp only
  have ha:=h.at_ j hj
  have hf:=h.fin (j+1) (by omega)
  have hel:=Qn9 (ops:=ops.take j) (l:=l)
  rw[List.length_take]at hel
  try dsimp only at hk
  rw[QrJ hj]at hk
  rw[Qow hj]at hk hf
  refine Ok.P (Ok.atn hj (Ok.oe ha.ref ?_))
  obtain⟨l',e,hle⟩:∃l' e,Yp (opsV l (ops.take j)) (nth ops j)=(l',e):=⟨_,_,rfl⟩
  rw[hle]at hf hk ⊢
  try dsimp only at hf hk ⊢
  refine Ok.j (Ok.oe hf.check (Ok.t ?_))
  try dsimp only
  refine Ok.LS ?_
  try dsimp only
  rw[Qb (by omega)]
  exact hk
 ·try dsimp only
  rw[List.take_length]
  exact Ok.N (Ok.s rfl)
end
end
/-
  Owners of ledgers, in plain Lean: takeovers, what an owner proposes, its calls, fences.
-/
section
attribute [local irreducible] dueV stepV runV QE answerV opV Yp opsV Qe3
section
variable {n:Nat} {M:Int} {l x:D.Ledger} {o:D.Op} {i k:Nat} {t r id now:Int} {L:List Int}
def ans0:D.Answer:=D.Answer.mk 0 0 0 0 0 0
def edit0:D.Edit:=D.Edit.mk 0 0 0 0 0
def op0:D.Op:=D.Op.mk 0 0 0 0 0 0 0 0 0 ans0 edit0
def ownO(l:D.Ledger)(r id now:Int):D.Op:=D.Op.mk id 2 r (l.Fence+1) now 0 0 0 0 ans0 edit0
def Qhh(r id now:Int):Prop:=(0≤r∧r≤4)∧(1≤id∧id≤1099511627776)∧0≤now∧now≤8589934592
theorem QxO(h:Qf M n l)(hc:Qhh r id now):OpIn (ownO l r id now):=by
 have hf:=h.fence;have hs:=h.seen.len
 obtain⟨h1,h2,h3⟩:=hc
 exact⟨h2,by simp only[ownO];omega,h1,by simp only[ownO];omega,h3,by simp only[ownO];omega,by simp only[ownO];omega,fun e=>absurd (show(2:Int)=4 from e) (by omega),fun e=>absurd (show(2:Int)=5 from e) (by omega)⟩
theorem Qv3(h:Qf M n l)(hc:Qhh r id now)(hn:now≤980000):Qdk (ownO l r id now):=
 ⟨QxO h hc,fun e=>absurd (show(2:Int)=1 from e) (by omega),hn,fun e=>absurd (show(2:Int)=4 from e) (by omega)⟩
theorem QmH{α:Type}[Inhabited α]{l:List α}:(List.range l.length).map (nth l)=l:=by
 refine List.ext_getElem (by simp) fun i h1 h2=>?_
 simp only[List.getElem_map,List.getElem_range,nth,List.getD_eq_getElem?_getD,List.getElem?_eq_getElem h2,Option.getD_some]
theorem QuW:Qgb l.Pages t=(UR l t).map fun i=>D.Start.mk (nth l.Pages i).ID (dueV (nth l.Pages i)).1 []:=by
 unfold Qgb UR
 conv=>lhs;rw[←QmH (l:=l.Pages)]
 rw[List.filter_map,List.map_map]
 rfl
theorem Qpj:(UR l t).length=(Qgb l.Pages t).length:=by rw[QuW,List.length_map]
theorem QnA:(UR l t).length≤l.Pages.length:=by rw[Qpj];exact Qpl
theorem QpZ{α β:Type}[Inhabited α][Inhabited β]{l:List α}{f:α→β}(h:i<l.length):nth (l.map f) i=f (nth l i):=by
 simp[nth,List.getD_eq_getElem?_getD,List.getElem?_eq_getElem h]
theorem Qot{n:Nat}(h:i<n):nth (List.range n) i=i:=by
 simp[nth,List.getD_eq_getElem?_getD,h]
def QaM(l:D.Ledger)(now:Int)(k:Nat):D.Page:=nth l.Pages (nth (UR l now) k)
theorem Qj6(h:k<(UR l now).length):nth (UR l now) k<l.Pages.length∧YU (QaM l now k) now=true:=Qpk.1 (Qk h)
theorem QuX(h:k<(UR l now).length):nth (Qgb l.Pages now) k=D.Start.mk (QaM l now k).ID (dueV (QaM l now k)).1 []:=by
 rw[QuW,QpZ h];rfl
def Qa3(l:D.Ledger)(id now:Int)(k:Nat):D.Op:=D.Op.mk (id+k) 3 l.Owner l.Fence now (QaM l now k).ID (Qor (QaM l now k)) 0 0 ans0 edit0
def QcV(l:D.Ledger)(id now:Int):List D.Op:=(List.range (UR l now).length).map (Qa3 l id now)
theorem Qav:(QcV l id now).length=(UR l now).length:=by simp[QcV]
theorem QkM(h:k<(UR l now).length):nth (QcV l id now) k=Qa3 l id now k:=by
 unfold QcV;rw[QpZ (by simpa using h),Qot h]
theorem Qpd(h:k<(UR l now).length):(QcV l id now).take (k+1)=(QcV l id now).take k++[Qa3 l id now k]:=by
 rw[←QkM h,Qr (by rw[Qav];exact h)]
theorem QuH(h:Qf M n l)(hk:k<(UR l now).length)(hid:1≤id∧id+k≤1099511627776)(ho:0≤l.Owner)(hn:0≤now∧now≤8589934592):OpIn (Qa3 l id now k):=by
 have hf:=h.fence;have hs:=h.seen.len;have how:=h.owner
 obtain⟨h1,h2⟩:=Qj6 hk
 obtain⟨g1,_⟩:=h.at h1
 have hnx:=(Yq (g1.check h.book)).next
 have hcn:=Ys (g1.polOK h.book)
 have hpid:=g1.id
 have hK : -1≤Qor (QaM l now k)∧Qor (QaM l now k)≤1000:=by
  show -1≤Qor (nth l.Pages (nth (UR l now) k))∧Qor (nth l.Pages (nth (UR l now) k))≤1000
  unfold Qor
  split<;>omega
 exact⟨by simp only[Qa3];omega,by simp only[Qa3];omega,by simp only[Qa3];omega,by simp only[Qa3];omega,hn,by simp only[Qa3,QaM];omega,hK,fun e=>absurd (show(3:Int)=4 from e) (by omega),fun e=>absurd (show(3:Int)=5 from e) (by omega)⟩
theorem Qsr(h:Qf M n l)(hk:k<(UR l now).length)(hid:1≤id∧id+k≤1099511627776)(ho:0≤l.Owner)(hn:0≤now∧now≤980000):Qdk (Qa3 l id now k):=
 ⟨QuH h hk hid ho (by omega),fun e=>absurd (show(3:Int)=1 from e) (by omega),hn.2,fun e=>absurd (show(3:Int)=4 from e) (by omega)⟩
end
end
/-
  Owners of ledgers: what the reference's takeovers and proposed starts are.
-/
section
open Go AM
attribute [local irreducible] dueV stepV runV QE answerV opV Yp opsV Qe3
section
variable {n:Nat} {M:Int} {l x:D.Ledger} {o:D.Op} {i k:Nat} {t r id now f:Int}
def Qju(r id now:Int):Bool:=inV r 0 4 && (inV id 1 1099511627776 && inV now 0 8589934592)
theorem QnT:Qju r id now=true↔Qhh r id now:=by
 unfold Qju Qhh
 simp only[bae,Qt]
structure OwnR (l:D.Ledger):Prop where
 chkR:XJ 1000 l=some true
 fence:0≤l.Fence∧l.Fence≤1048576
 waitR:∀t,XL 1000 l t=some (Qgb l.Pages t)
 findR:∀p∈l.Pages,QeQ 1000 l p.ID=some (Qda l p.ID)
 asc:AscP l.Pages
 pg:l.Pages.length≤9
theorem Led.ownR(h:Led l):OwnR l:=by
 obtain⟨M,n,h1,h2⟩:=h.ok
 have hf:=h1.fence;have hpg:=h.pg
 exact⟨h.check,by omega,fun t=>Qqy h1 hpg,fun p hp=>QtD h1.plens h1.asc (by omega),h1.asc,hpg⟩
def QnV(l:D.Ledger)(r id now:Int):D.Op×Int:=if Qju r id now=true then(if l.Fence=1048576 then(op0,5)else(ownO l r id now,0))else(op0,1)
theorem QnU(h:OwnR l):Qam 1000 l r id now=some (QnV l r id now):=by
 have hf:=h.fence
 refine Ok.eq ?_
 unfold Qam QnV Qju
 refine Ok.j (Ok.oe h.chkR (Ok.nt rfl (Ok.oe rin (Ok.cnd (fun g1=>Ok.oe rin (Ok.cnd (fun g2=>Ok.oe rin (Ok.cnd (fun g3=>?_) (fun g3=>Ok.s ?_))) (fun g2=>Ok.s ?_))) (fun g1=>Ok.s ?_)))))
 ·rw[if_pos (by simp[g1,g2,g3])]
  refine Ok.ite (fun g4=>Ok.s ?_) (fun g4=>Ok.s ?_)
  ·rw[if_pos g4];rfl
  ·rw[if_neg g4,Qg (x:=l.Fence+1) (by omega)];rfl
 all_goals (rw[if_neg (by simp[*])];rfl)
theorem Qth(h:Qhh r id now)(hf:l.Fence≤1000):QnV l r id now=(ownO l r id now,0):=by
 unfold QnV
 rw[if_pos (QnT.2 h),if_neg (by omega)]
def Qv6(l:D.Ledger)(r id now:Int):List D.Op:=if Qju r id now=true∧r=l.Owner∧id+(l.Pages.length:Int)≤1099511627776 then QcV l id now else[]
theorem QtF(h:OwnR l)(hk:k<(UR l now).length):Qda l (QaM l now k).ID=(QaM l now k,true):=Qmv h.asc (Qj6 hk).1 rfl
theorem Qr0(hk:k<(UR l now).length):QaM l now k∈l.Pages:=Qk (Qj6 hk).1
theorem Qst(h:OwnR l):UW 1000 l r id now=some (Qv6 l r id now):=by
 have hpg:=h.pg
 have hwl:=Qpj (l:=l) (t:=now);have hwe:=QnA (l:=l) (t:=now)
 refine Ok.eq ?_
 unfold UW Qv6
 refine Ok.j (Ok.oe (QnU h) ?_)
 unfold QnV
 by_cases g:Qju r id now=true
 ·obtain⟨c1,c2,c3⟩:=QnT.1 g
  have he:∃a e,(if Qju r id now=true then(if l.Fence=1048576 then(op0,(5:Int))else(ownO l r id now,0))else(op0,1))=(a,e)∧e≠8∧e≠1:=by
   rw[if_pos g];split
   ·exact⟨_,_,rfl,by omega,by omega⟩
   ·exact⟨_,_,rfl,by omega,by omega⟩
  obtain⟨a,e,he,e8,e1⟩:=he
  rw[he]
  refine Ok.n e8 (Ok.n e1 (Ok.ite (fun g2=>Ok.s (by rw[if_neg (fun h=>g2 h.2.1)])) (fun g2=>?_)))
  have g2:r=l.Owner:=Decidable.not_not.1 g2
  rw[Qg (x:=id+(l.Pages.length:Int)) (by omega)]
  refine Ok.ite (fun g3=>Ok.s (by rw[if_neg (fun h=>by omega)])) (fun g3=>?_)
  rw[if_pos ⟨g,g2,by omega⟩]
  try dsimp only
  refine Ok.oe (h.waitR now) ?_
  refine Ok.run (UR l now).length (fun k=>((r,id,now,Qgb l.Pages now,(k:Int),()),l,(QcV l id now).take k,())) rfl (by omega) (fun k hk K hK=>?_) (fun K=>?_)
  ·try dsimp only
   have hl:((QcV l id now).take k).length≤9:=by rw[List.length_take,Qav];omega
   try dsimp only at hK
   rw[Qpd hk]at hK
   refine Ok.P (Ok.A ?_)
   rw[QuX hk]
   refine Ok.oe (h.findR _ (Qr0 hk)) ?_
   rw[QtF h hk]
   refine Ok.j ?_
   have hw:IntKind.wrap .i64 (id+(k:Int))=id+k:=Qg (by omega)
   refine Ok.ite (fun g4=>Ok.LS ?_) (fun g4=>Ok.LS ?_)
   ·try dsimp only at g4 ⊢
    rw[hw,Qb (by omega)]
    have e:Qa3 l id now k=D.Op.mk (id+k) 3 r l.Fence now (QaM l now k).ID (-1) 0 0 (D.Answer.mk 0 0 0 0 0 0) (D.Edit.mk 0 0 0 0 0):=by unfold Qa3 Qor;rw[if_pos g4,g2];rfl
    rw[←e];exact hK
   ·try dsimp only at g4 ⊢
    rw[hw,Qb (by omega)]
    have e:Qa3 l id now k=D.Op.mk (id+k) 3 r l.Fence now (QaM l now k).ID (QaM l now k).Next 0 0 (D.Answer.mk 0 0 0 0 0 0) (D.Edit.mk 0 0 0 0 0):=by unfold Qa3 Qor;rw[if_neg g4,g2];rfl
    rw[←e];exact hK
  ·try dsimp only
   exact Ok.N (Ok.s (List.take_of_length_le (by rw[Qav];omega)))
 ·rw[if_neg g];exact Ok.NS (Ok.p rfl (Ok.s (by rw[if_neg (fun h=>g h.1)])))
end
end
/-
  Paging systems: what the reference computes, and those that dice make.
-/
section
attribute [local irreducible] dueV stepV runV QE answerV opV Yp opsV Qe3
section
variable {n S q i:Nat} {c:D.Cluster} {r:D.Replica} {o:D.Op} {t k x:Int} {P P':D.Op→Prop} {l:D.Ledger} {p:D.Paging} {L:List Int} {d:D.Dice}
def PO(S:Nat)(o:D.Op):Prop:=Qdk o∧o.ID<S
theorem PO.up{T:Nat}(h:PO S o)(hs:S≤T):PO T o:=⟨h.1,by have:=h.2;omega⟩
theorem CI.mono(h:CI n q P c)(hp:∀o,P o→P' o)(hi:∀o,P' o→1≤o.ID∧o.ID≤(256:Nat)):CI n q P' c:=⟨h.inv.mono hp,h.sz,hi,h.shp,h.dn,h.cut,h.q,h.cutOK,h.wire,h.ents⟩
theorem CI.more(h:CI n q P c){q':Nat}(hq:q≤q')(h2:q'≤800):CI n q' P c:=⟨h.inv,h.sz,h.idP,h.shp,h.dn,by have:=h.cut;omega,h2,h.cutOK,h.wire,h.ents⟩
theorem PO.id(hs:S≤257):∀o,PO S o→1≤o.ID∧o.ID≤(256:Nat):=fun o h=>⟨h.1.1.id.1,by have:=h.2;omega⟩
theorem Qdk.num(h:Qdk o)(hs:1≤x∧x≤1099511627776):Qdk { o with ID:=x }:=
 ⟨⟨hs,h.1.kind,h.1.region,h.1.fence,h.1.at_,h.1.page,h.1.k,h.1.answer,h.1.edit⟩,h.2⟩
structure Sys (n j S:Nat) (l:D.Ledger) (p:D.Paging):Prop where
 base:p.Base=l
 first:Loose 0 l
 ser:p.Serial=S
 lo:1≤S∧S≤1+3*j
 hi:j≤14
 ci:CI n j (PO S) p.Cluster
theorem QqG(hl:Led p.Base)(hs:1≤p.Serial∧p.Serial≤1000)(h:CI n q (PO S) p.Cluster):Ok (Qan 1000 p) fun b=>(b=true→∀i,i<n→∀e∈(nth p.Cluster.Replicas i).Log,e.Op.ID<p.Serial)∧((∀i,i<n→∀e∈(nth p.Cluster.Replicas i).Log,e.Op.ID<p.Serial)→b=true):=by
 have hlen:=h.len;have hn:=h.sz
 unfold Qan
 refine Ok.j (Ok.oe hl.check (Ok.t (Ok.oe (Qjo h) (Ok.t (Ok.oe rin (Ok.bt (Qt.2 (by omega)) ?_))))))
 dsimp only
 refine Ok.loop (fun m x=>∃i:Nat,x=(((i:Int),()),p,())∧i≤n∧(∀j,j<i→∀e∈(nth p.Cluster.Replicas j).Log,e.Op.ID<p.Serial)∧m=n - i) (m:=n) (by omega) ⟨0,rfl,by omega,fun j hj=>by omega,rfl⟩ ?_
 rintro m x ⟨i,rfl,i1,i2,rfl⟩ K hK
 dsimp only
 refine Ok.ite (fun g=>Ok.A ?_) fun g=>Ok.s ⟨fun _ j hj=>i2 j (by omega),fun _=>rfl⟩
 have hsh:=h.short (i:=i) (by omega)
 have hlog:=(h.inv.log (i:=i) (by omega)).1
 refine Ok.loop (fun m x=>∃k:Nat,x=(((i:Int),(nth p.Cluster.Replicas i).Log,(k:Int),()),p,())∧k≤(nth p.Cluster.Replicas i).Log.length∧(∀e∈(nth p.Cluster.Replicas i).Log.take k,e.Op.ID<p.Serial)∧m=(nth p.Cluster.Replicas i).Log.length - k) (m:=(nth p.Cluster.Replicas i).Log.length) (by omega) ⟨0,rfl,by omega,by simp,rfl⟩ ?_
 rintro m x ⟨k,rfl,k1,k2,rfl⟩ K2 hK2
 dsimp only
 refine Ok.ite (fun g2=>?_) fun g2=>?_
 ·have hk:k<(nth p.Cluster.Replicas i).Log.length:=by omega
  refine Ok.j (Ok.atn hk (Ok.oe (hlog _ (Qk hk)).1.1.valid (Ok.t (Ok.atn hk (Ok.ite (fun g3=>Ok.s ⟨fun e=>absurd e (by simp),fun z=>?_⟩) fun g3=>?_)))))
  ·have:=z i (by omega) _ (Qk hk);omega
  ·dsimp only
   rw[Qb (by omega)]
   refine hK2 _ _ (by omega) ⟨k+1,rfl,by omega,fun e he=>?_,rfl⟩
   rw[←Qr hk]at he
   rcases List.mem_append.1 he with he|he
   ·exact k2 e he
   ·rw[List.mem_singleton.1 he];omega
 ·rw[List.take_of_length_le (by omega)]at k2
  rw[Qb (by omega)]
  refine hK _ _ (by omega) ⟨i+1,rfl,by omega,fun j hj=>?_,rfl⟩
  by_cases e:j=i
  ·subst e;exact k2
  ·exact i2 j (by omega)
variable {j:Nat}
theorem Sys.led(h:Sys n j S l p):Led p.Base:=by rw[h.base];exact h.first.led (by omega)
theorem Sys.log(h:Sys n j S l p)(hi:i<n):∀e∈(nth p.Cluster.Replicas i).Log,PO S e.Op:=(h.ci.inv.log hi).1
theorem Sys.chk(h:Sys n j S l p):Qan 1000 p=some true:=by
 have h1:=h.lo;have h2:=h.ser;have h3:=h.hi
 obtain⟨b,hb,_,h5⟩:=QqG h.led (by omega) h.ci
 rw[hb,h5 fun i hi e he=>by have:=(h.log hi e he).2;omega]
theorem Sys.com(h:Sys n j S l p)(hi:i<n):(∀o∈comV (nth p.Cluster.Replicas i),Qdk o)∧(comV (nth p.Cluster.Replicas i)).length≤42:=by
 refine⟨fun o ho=>?_,?_⟩
 ·obtain⟨e,he,rfl⟩:=List.mem_map.1 ho
  exact(h.log hi e (List.mem_of_mem_take he)).1
 ·have:=h.ci.inv.short (S:=S - 1) hi fun o ho=>⟨ho.1.1.id.1,by have:=ho.2;have:=h.lo;omega⟩
  have h1:=h.lo;have h2:=h.hi
  unfold comV;simp;omega
theorem Sys.behind(h:Sys n j S l p)(hi:i<n):Loose (comV (nth p.Cluster.Replicas i)).length (opsV l (comV (nth p.Cluster.Replicas i))):=by
 obtain⟨h1,h2⟩:=h.com hi
 have:=h.first.fold h1 (by omega) (Nat.le_refl _)
 rw[List.take_length,Nat.zero_add]at this
 exact this
theorem QuU(h:Sys n j S l p)(hi:i<n):QgZ 1000 p (i:Int)=some (opsV l (comV (nth p.Cluster.Replicas i)),0):=by
 obtain⟨h1,h2⟩:=h.com hi
 have hlen:=h.ci.len;have hn:=h.ci.sz
 have hck:=(h.ci.ck.rep i hi).2.2
 refine Ok.eq ?_
 unfold QgZ
 refine Ok.oe h.chk (Ok.nt rfl (Ok.oe rin (Ok.nt (Qt.2 ⟨by omega,by rw[Qg (by omega)];omega⟩) (Ok.A (Ok.oe (Qyl hck.com (by have:=hck.log;omega)) (Ok.oe (Qsj ?_) (Ok.s ?_)))))))
 ·rw[h.base];exact h.first.runs h1 (by omega)
 ·rw[h.base]
theorem Qpe(h:Sys n j S l p)(ho:Qdk { o with ID:=(S:Int) })(hj:S≤3*j):Ok (QbJ 1000 p k o) fun x=>x.2.2=0→Sys n j (S+1) l x.1:=by
 have h1:=h.lo;have h2:=h.ser;have h3:=h.hi
 unfold QbJ
 rw[h2]
 refine Ok.j (Ok.oe h.chk (Ok.t (Ok.oe ho.1.valid (Ok.t ?_))))
 dsimp only
 rw[h2]
 have hc:CI n j (PO (S+1)) p.Cluster:=h.ci.mono (fun o ho=>ho.up (by omega)) (PO.id (by omega))
 refine Ok.N (Ok.opt (QmT hc) fun⟨c',e⟩ he=>Ok.ite (fun g=>Ok.s fun e=>absurd e g) fun g=>Ok.oe h.led.copy (Ok.s fun _=>?_))
 rw[Qb (by omega)]
 exact⟨h.base,h.first,rfl,by omega,h3,(he (Decidable.not_not.1 g)).1 ⟨ho,by show(S:Int)<((S+1:Nat):Int);omega⟩⟩
theorem Qp5(hc:0≤r.Commit)(hl:r.Log.length≤256):Ok (QaW 1000 r o) fun _=>True:=by
 unfold QaW
 refine Ok.loop (fun m x=>∃i:Nat,x=(((i:Int),()),r,o,())∧m=r.Log.length - i) (m:=r.Log.length - r.Commit.toNat) (by omega) ⟨r.Commit.toNat,by rw[show((r.Commit.toNat:Nat):Int)=r.Commit by omega],rfl⟩ ?_
 rintro m x ⟨i,rfl,rfl⟩ K hK
 dsimp only
 refine Ok.ite (fun g=>?_) fun _=>Ok.s trivial
 have hi:i<r.Log.length:=by omega
 refine Ok.join (fun y=>y=(((i:Int),()),r,o,())) (fun y hy=>?_) fun J hJ=>?_
 ·subst hy
  dsimp only
  rw[Qb (by omega)]
  exact hK _ _ (by omega) ⟨i+1,rfl,rfl⟩
 ·have two:∀{a b:Prop} [Decidable a] [Decidable b],Ok (cnd (decide a) (cnd (decide b) (some true) (J (((i:Int),()),r,o,()))) (J (((i:Int),()),r,o,()))) fun _=>True:=Ok.ite (fun _=>Ok.ite (fun _=>Ok.s trivial) fun _=>hJ _ rfl) fun _=>hJ _ rfl
  refine Ok.atn hi (Ok.ite (fun _=>Ok.ite (fun _=>Ok.ite (fun _=>Ok.atn hi (Ok.ite (fun _=>Ok.s trivial) fun _=>Ok.ite (fun _=>two) fun _=>hJ _ rfl)) fun _=>Ok.ite (fun _=>two) fun _=>hJ _ rfl) fun _=>Ok.ite (fun _=>two) fun _=>hJ _ rfl) fun _=>hJ _ rfl)
theorem Qvz(h:Sys n j S l p)(hi:i<n)(ht:0≤t∧t≤980000)(hj:j<14):Ok (QgX 1000 p (i:Int) t) fun x=>x.2.2=0→∃T,Sys n (j+1) T l x.1:=by
 have h1:=h.lo;have h2:=h.ser;have hlen:=h.ci.len;have hn:=h.ci.sz;have hdn:=h.ci.dn
 have hck:=(h.ci.ck.rep i hi).2.2
 have hl:=hck.log;have hcm:=hck.com
 have hb:=h.behind hi
 obtain⟨h3,h4⟩:=h.com hi
 obtain⟨v,hv⟩:∃v,v=opsV l (comV (nth p.Cluster.Replicas i)):=⟨_,rfl⟩
 rw[←hv]at hb
 have own:=(hb.led (by omega)).ownR
 have hpg:=hb.inv.small3 (k:=3) hb.ids
 have h0:Sys n (j+1) S l p:=⟨h.base,h.first,h.ser,by omega,by omega,h.ci.more (by omega) (by omega)⟩
 unfold QgX
 refine Ok.oe (QuU h hi) (Ok.NS (Ok.A (Ok.A (Ok.cnd (fun _=>Ok.s fun e=>absurd e (by simp)) fun _=>Ok.ite (fun _=>Ok.s fun e=>absurd e (by simp)) fun _=>Ok.oe rin (Ok.ncnd (fun _=>Ok.s fun e=>absurd e (by simp)) fun _=>?_)))))
 rw[←hv,h2]
 refine Ok.join (fun y=>∃ops w,y=(((i:Int),ops,()),p,w,nth p.Cluster.Replicas i,())∧(∀o∈ops,Qdk o)∧ops.length≤3) (fun y hy=>?_) fun J hJ=>?_
 ·obtain⟨ops,w,rfl,o1,o2⟩:=hy
  dsimp only
  refine Ok.oe h.led.copy (Ok.oe h.ci.cp ?_)
  refine Ok.loop (fun m x=>∃(a:Nat) (z:Int) (T:Nat) (p':D.Paging),x=(((i:Int),ops,z,(a:Int),()),w,nth p.Cluster.Replicas i,p',())∧a≤ops.length∧(0≤z∧z≤a)∧T≤S+a∧Sys n (j+1) T l p'∧m=ops.length - a) (m:=ops.length) (by omega) ⟨0,0,S,p,by rw[show D.Paging.mk p.Base p.Cluster p.Serial=p from rfl];rfl,by omega,by omega,by omega,h0,rfl⟩ ?_
  rintro m x ⟨a,z,T,p',rfl,a1,a2,a3,a4,rfl⟩ K hK
  dsimp only
  refine Ok.ite (fun g=>?_) fun g=>Ok.s fun _=>⟨T,a4⟩
  have ha:a<ops.length:=by omega
  refine Ok.join (fun y=>∃(z:Int) (T:Nat) (p':D.Paging),y=(((i:Int),ops,z,(a:Int),()),w,nth p.Cluster.Replicas i,p',())∧(0≤z∧z≤a+1)∧T≤S+a+1∧Sys n (j+1) T l p') (fun y hy=>?_) fun J hJ=>?_
  ·obtain⟨z,T,p',rfl,b2,b3,b4⟩:=hy
   dsimp only
   rw[Qb (by omega)]
   exact hK _ _ (by omega) ⟨a+1,z,T,p',rfl,by omega,by omega,by omega,b4,rfl⟩
  ·refine Ok.atn ha (Ok.opt (Qp5 hcm.1 hl) fun b _=>Ok.cnd (fun _=>hJ _ ⟨z,T,p',rfl,by omega,by omega,a4⟩) fun _=>Ok.atn ha (Ok.opt (Qpe a4 ((o1 _ (Qk ha)).num (by have:=a4.lo;omega)) (by omega)) fun⟨x,y,e⟩ he=>Ok.ite (fun g=>Ok.s fun e=>absurd e g) fun g=>?_))
   rw[Qg (by omega)]
   exact hJ _ ⟨z+1,T+1,x,rfl,by omega,by omega,he (Decidable.not_not.1 g)⟩
 ·have claim:∀{w:D.Paging},Ok (optc (Qam 1000 v (i:Int) (S:Int) t) fun x=>cnd (decide (x.2≠0)) (some (w,0,x.2)) (lec [x.1].length 34359738368 (J (((i:Int),[x.1],()),p,w,nth p.Cluster.Replicas i,())))) fun x=>x.2.2=0→∃T,Sys n (j+1) T l x.1:=fun{w}=>by
   have hin:Qhh (i:Int) (S:Int) t:=⟨by omega,by omega,by omega⟩
   refine Ok.oe (QnU own) ?_
   rw[Qth hin (by have:=hb.inv.fence;have:=hb.seen;omega)]
   exact Ok.NS (Ok.lec (by simp) (hJ _ ⟨_,_,rfl,fun o ho=>by rw[List.mem_singleton.1 ho];exact Qv3 hb.inv hin ht.2,by simp⟩))
  have starts:(v.Owner=(i:Int))→∀{w:D.Paging},Ok (optc (UW 1000 v (i:Int) (S:Int) t) fun x=>J (((i:Int),x,()),p,w,nth p.Cluster.Replicas i,())) fun x=>x.2.2=0→∃T,Sys n (j+1) T l x.1:=fun ho {w}=>by
   refine Ok.oe (Qst own) (hJ _ ⟨_,_,rfl,fun o hm=>?_,?_⟩)
   ·unfold Qv6 at hm
    split at hm
    ·next g=>
     obtain⟨a,ha,rfl⟩:=QjW hm
     rw[Qav]at ha
     have hwe:=QnA (l:=v) (t:=t)
     rw[QkM ha]
     exact Qsr hb.inv ha (by omega) (by omega) ht
    ·simp at hm
   ·unfold Qv6
    have hwe:=QnA (l:=v) (t:=t)
    split
    ·rw[Qav];omega
    ·simp
  refine Ok.ite (fun _=>claim) fun g=>Ok.ite (fun _=>Ok.oe (QmC (by omega)) (Ok.ite (fun _=>claim) fun _=>starts (Decidable.not_not.1 g))) fun _=>starts (Decidable.not_not.1 g)
theorem Qyd(hL:L.length≤500)(hd:QD L d)(h:CI n q (PO S) c)(hs:S≤200)(hq:q<800):Ok (UE 1000 d c) fun x=>QD L x.2∧CI n (q+1) (PO 256) x.1∧(CI n (q+1) (PO S) x.1∨∃i,i<n∧∃e∈(nth x.1.Replicas i).Log,(S:Int)≤e.Op.ID):=by
 have hn:=h.sz;have hw:=h.wire
 have big:∀{c:D.Cluster},CI n (q+1) (PO S) c→CI n (q+1) (PO 256) c∧(CI n (q+1) (PO S) c∨∃i,i<n∧∃e∈(nth c.Replicas i).Log,(S:Int)≤e.Op.ID):=fun h=>⟨h.mono (fun o ho=>ho.up (by omega)) (PO.id (by omega)),.inl h⟩
 have h1:=h.more (q':=q+1) (by omega) (by omega)
 unfold UE
 rw[h.len]
 refine Ok.opt (nx hL hd (by omega) (by omega)) fun⟨a0,d1⟩ ⟨g1,l1,u1⟩=>?_
 dsimp only at g1 l1 u1 ⊢
 refine Ok.join (fun y=>∃(a:Int) (d:D.Dice) (w:D.Cluster),y=((a,()),d,c,w,())∧QD L d) (fun y hy=>?_) fun J hJ=>Ok.opt (Qq0 h) fun⟨a,b⟩ _=>Ok.cnd (fun _=>Ok.opt (nx hL g1 (by omega) (by omega)) fun⟨a2,d2⟩ ⟨g2,_⟩=>Ok.ite (fun _=>hJ _ ⟨_,_,_,rfl,g2⟩) fun _=>hJ _ ⟨_,_,_,rfl,g2⟩) fun _=>hJ _ ⟨_,_,_,rfl,g1⟩
 obtain⟨a,d,w,rfl,hd⟩:=hy
 dsimp only
 refine Ok.opt (QpY hL hd (by omega)) fun⟨a3,d3⟩ ⟨g3,_⟩=>?_
 dsimp only at g3 ⊢
 refine Ok.join (fun y=>∃(a k:Int) (d:D.Dice) (w:D.Cluster),y=((a,k,()),d,c,w,())∧QD L d) (fun y hy=>?_) fun J hJ=>Ok.opt (nx hL g3 (by omega) (by omega)) fun⟨a4,d4⟩ ⟨g4,_⟩=>Ok.ite (fun _=>hJ _ ⟨_,_,_,_,rfl,g4⟩) fun _=>hJ _ ⟨_,_,_,_,rfl,g4⟩
 obtain⟨a,k,d,w,rfl,hd⟩:=hy
 dsimp only
 refine Ok.join (fun y=>∃(e:Int) (w x:D.Cluster) (d:D.Dice),y=((e,()),c,w,x,d,())∧QD L d∧(e=0→CI n (q+1) (PO 256) x∧(CI n (q+1) (PO S) x∨∃i,i<n∧∃e∈(nth x.Replicas i).Log,(S:Int)≤e.Op.ID))) (fun y hy=>?_) fun J hJ=>?_
 ·obtain⟨e,w,x,d,rfl,hd,hx⟩:=hy
  exact Ok.ite (fun _=>Ok.s ⟨hd,big h1⟩) fun g=>Ok.s ⟨hd,hx (Decidable.not_not.1 g)⟩
 ·have fin:∀{e:Int} {w x:D.Cluster} {d:D.Dice},QD L d→(e=0→CI n (q+1) (PO S) x)→Ok (J ((e,()),c,w,x,d,())) fun x=>QD L x.2∧CI n (q+1) (PO 256) x.1∧(CI n (q+1) (PO S) x.1∨∃i,i<n∧∃e∈(nth x.1.Replicas i).Log,(S:Int)≤e.Op.ID):=fun hd hx=>hJ _ ⟨_,_,_,_,rfl,hd,fun e=>big (hx e)⟩
  refine Ok.opt (nx hL hd (by omega) (by omega)) fun⟨a5,d5⟩ ⟨g5,_⟩=>Ok.ite (fun _=>Ok.opt (Qpc h1) fun⟨x,e⟩ he=>fin g5 fun z=>(he z).1) fun _=>?_
  dsimp only at g5 ⊢
  refine Ok.join (fun y=>∃(a k:Int) (z v:Int) (b:Bool) (d:D.Dice) (w:D.Cluster),y=((a,k,z,v,b,()),d,c,w,c,())∧QD L d) (fun y hy=>?_) fun J2 hJ2=>Ok.ite (fun _=>hJ2 _ ⟨_,_,_,_,_,_,_,rfl,g5⟩) fun _=>hJ2 _ ⟨_,_,_,_,_,_,_,rfl,g5⟩
  obtain⟨a,k,z,v,b,d,w,rfl,hd⟩:=hy
  dsimp only
  refine Ok.cnd (fun _=>?_) fun _=>?_
  ·refine Ok.opt (nx hL hd (by omega) (by omega)) fun⟨a6,d6⟩ ⟨g6,l6,u6⟩=>?_
   dsimp only at g6 l6 u6 ⊢
   rw[Qg (x:=1+a6) (by omega)]
   have ho:Qdk (D.Op.mk (1+a6) 2 0 0 0 0 0 0 0 (D.Answer.mk 0 0 0 0 0 0) (D.Edit.mk 0 0 0 0 0)):=⟨⟨by dsimp only;omega,by simp,by simp,by simp,by simp,by simp,by simp,by simp,by simp⟩,by simp,by simp,by simp⟩
   by_cases g7:1+a6<(S:Int)
   ·exact Ok.opt (QmT h1) fun⟨x,e⟩ he=>fin g6 fun z=>(he z).1 ⟨ho,g7⟩
   ·refine Ok.opt (QmT (big h1).1) fun⟨x,e⟩ he=>hJ _ ⟨_,_,_,_,rfl,g6,fun z=>?_⟩
    obtain⟨b1,i,hi,_,e,b2,b3⟩:=he z
    exact⟨b1 ⟨ho,by dsimp only;omega⟩,.inr ⟨i,hi,e,b2,by rw[b3];dsimp only;omega⟩⟩
  refine Ok.join (fun y=>∃(a k:Int) (z v:Int) (b:Bool) (d:D.Dice) (w:D.Cluster),y=((a,k,z,v,b,()),d,c,w,c,())∧QD L d) (fun y hy=>?_) fun J2 hJ2=>Ok.ite (fun _=>hJ2 _ ⟨_,_,_,_,_,_,_,rfl,hd⟩) fun _=>hJ2 _ ⟨_,_,_,_,_,_,_,rfl,hd⟩
  obtain⟨a,k,z,v,b,d,w,rfl,hd⟩:=hy
  refine Ok.cnd (fun _=>Ok.opt (Qmk h1) fun⟨x,e⟩ he=>fin hd fun z=>(he.1 z).1) fun _=>?_
  refine Ok.join (fun y=>∃(a k:Int) (z v:Int) (b:Bool) (d:D.Dice) (w:D.Cluster),y=((a,k,z,v,b,()),d,c,w,c,())∧QD L d) (fun y hy=>?_) fun J2 hJ2=>?_
  ·obtain⟨a,k,z,v,b,d,w,rfl,hd⟩:=hy
   refine Ok.cnd (fun _=>Ok.opt (Qtq h1) fun⟨x,e⟩ he=>fin hd fun z=>he.elim (fun y=>y.2.1) fun y=>absurd z y.2) fun _=>?_
   refine Ok.ite (fun _=>Ok.opt (QqJ h1) fun x he=>fin hd fun z=>?_) fun _=>Ok.ite (fun _=>Ok.opt (QrG h1) fun⟨x,e⟩ he=>fin hd he) fun _=>Ok.ite (fun _=>Ok.opt (Qtn h1) fun⟨x,e⟩ he=>fin hd he) fun _=>Ok.ite (fun _=>?_) fun _=>Ok.ite (fun _=>Ok.opt (QvJ h1) fun x he=>?_) fun _=>fin hd fun _=>h1
   ·rcases he with⟨i,_,_,rfl⟩|⟨_,y⟩
    ·exact h1.drop
    ·exact absurd z y
   ·dsimp only
    rw[h.len]
    exact Ok.opt (nx hL hd (by omega) (by omega)) fun⟨a6,d6⟩ ⟨g6,_⟩=>Ok.opt (Qvn h1) fun⟨x,e⟩ he=>fin g6 he
   ·refine Ok.opt (nx hL hd (by omega) (by omega)) fun⟨a6,d6⟩ ⟨g6,_⟩=>Ok.ite (fun _=>?_) fun _=>fin g6 fun _=>he
    dsimp only
    rw[h.len]
    exact Ok.opt (nx hL g6 (by omega) (by omega)) fun⟨a7,d7⟩ ⟨g7,_⟩=>Ok.opt (Qxm h hq) fun⟨x,e⟩ he=>fin g7 he
  ·have go:∀{b:Bool},Ok (J2 ((a,k,z,v,b,()),d,c,w,c,())) fun x=>QD L x.2∧CI n (q+1) (PO 256) x.1∧(CI n (q+1) (PO S) x.1∨∃i,i<n∧∃e∈(nth x.1.Replicas i).Log,(S:Int)≤e.Op.ID):=hJ2 _ ⟨_,_,_,_,_,_,_,rfl,hd⟩
   exact Ok.ite (fun _=>go) fun _=>Ok.ite (fun _=>go) fun _=>Ok.ite (fun _=>go) fun _=>Ok.ite (fun _=>go) fun _=>Ok.ite (fun _=>go) fun _=>go
theorem QwB(hL:L.length≤500)(hd:QD L d)(h:Sys n j S l p)(hj:j<14)(ht:0≤t∧t≤864000+300*j):Ok (W2 1000 d p t) fun x=>QD L x.2.2∧(0≤x.2.1∧x.2.1≤864000+300*((j:Int)+1))∧∃T,Sys n (j+1) T l x.1:=by
 have hn:=h.ci.sz;have hlo:=h.lo
 have h0:Sys n (j+1) S l p:=⟨h.base,h.first,h.ser,by omega,by omega,h.ci.more (by omega) (by omega)⟩
 unfold W2
 rw[h.ci.len]
 refine Ok.opt (nx hL hd (by omega) (by omega)) fun⟨a0,d1⟩ ⟨g1,l1,u1⟩=>?_
 dsimp only at g1 l1 u1 ⊢
 refine Ok.join (fun y=>∃(i:Nat) (d:D.Dice) (w:D.Paging),y=((t,(i:Int),()),d,p,w,())∧QD L d∧i<n) (fun y hy=>?_) fun J hJ=>?_
 rotate_left
 ·have at0:∀{a:Int} {d:D.Dice} {w:D.Paging},QD L d→0≤a→a<n→Ok (J ((t,a,()),d,p,w,())) fun x=>QD L x.2.2∧(0≤x.2.1∧x.2.1≤864000+300*((j:Int)+1))∧∃T,Sys n (j+1) T l x.1:=fun{a d w} hd h1 h2=>hJ _ ⟨a.toNat,d,w,by rw[show((a.toNat:Nat):Int)=a by omega],hd,by omega⟩
  exact Ok.opt (Qq0 h.ci) fun⟨a,b⟩ ⟨b1,b2⟩=>Ok.cnd (fun _=>Ok.opt (nx hL g1 (by omega) (by omega)) fun⟨a2,d2⟩ ⟨g2,_⟩=>Ok.ite (fun _=>at0 g2 b1 b2) fun _=>at0 g2 l1 u1) fun _=>at0 g1 l1 u1
 obtain⟨i,d,w,rfl,hd,hi⟩:=hy
 dsimp only
 refine Ok.opt (QaK hL hd (by simp) (by simp)) fun⟨a3,d3⟩ ⟨g3,m3⟩=>?_
 dsimp only at g3 m3 ⊢
 simp only[List.mem_cons,List.not_mem_nil,or_false]at m3
 rw[Qg (x:=t+a3) (by omega)]
 obtain⟨u,hu⟩:∃u,u=t+a3:=⟨_,rfl⟩
 rw[←hu]
 have hu2:0≤u∧u≤864000+300*((j:Int)+1):=by omega
 refine Ok.join (fun y=>∃(T:Nat) (p' w:D.Paging) (d:D.Dice),y=((u,()),p',w,d,())∧QD L d∧Sys n (j+1) T l p') (fun y hy=>?_) fun J hJ=>?_
 ·obtain⟨T,p',w,d,rfl,hd,hs⟩:=hy
  exact Ok.s ⟨hd,hu2,T,hs⟩
 ·refine Ok.opt (nx hL g3 (by omega) (by omega)) fun⟨a4,d4⟩ ⟨g4,_⟩=>?_
  dsimp only at g4 ⊢
  refine Ok.join (fun y=>∃(v:Int) (b:Bool) (d:D.Dice) (w:D.Paging),y=((u,(i:Int),v,b,()),d,p,w,())∧QD L d) (fun y hy=>?_) fun J2 hJ2=>Ok.ite (fun _=>hJ2 _ ⟨_,_,_,_,rfl,g4⟩) fun _=>hJ2 _ ⟨_,_,_,_,rfl,g4⟩
  obtain⟨v,b,d,w,rfl,hd⟩:=hy
  refine Ok.cnd (fun _=>?_) fun _=>?_
  ·-- something is submitted
   have hb:=h.behind hi
   refine Ok.oe (QuU h hi) (Ok.opt (Qyy (id:=1) (t:=u) hL hd hb.inv hb.ids (by omega) (by omega)) fun⟨o,d5⟩ ⟨g5,o1,o2,o3,o4,o5⟩=>?_)
   dsimp only at g5 o1 o2 o3 o4 o5 ⊢
   refine Ok.join (fun y=>∃(o:D.Op) (d:D.Dice) (w:D.Paging),y=((u,(i:Int),()),p,w,o,d,())∧QD L d∧Qdk { o with ID:=(S:Int) }) (fun y hy=>?_) fun J3 hJ3=>?_
   ·obtain⟨o,d,w,rfl,hd,ho⟩:=hy
    exact Ok.opt (Qpe (j:=j+1) h0 ho (by omega)) fun⟨x,y,e⟩ he=>Ok.ite (fun z=>hJ _ ⟨_,_,_,_,rfl,hd,he z⟩) fun _=>hJ _ ⟨_,_,_,_,rfl,hd,h0⟩
   ·have pg:∀{a:Int},0≤a→a<3→Qdk { (D.Op.mk 0 1 0 0 u (IntKind.wrap .i64 (1+a)) 0 0 0 (D.Answer.mk 0 0 0 0 0 0) (D.Edit.mk 0 0 0 0 0))with ID:=(S:Int) }:=fun{a} h1 h2=>by
     rw[Qg (x:=1+a) (by omega)]
     exact⟨⟨by dsimp only;omega,by simp,by simp,by simp,by dsimp only;omega,by dsimp only;omega,by simp,by simp,by simp⟩,fun _=>by dsimp only;omega,by dsimp only;omega,by simp⟩
    refine Ok.ite (fun _=>Ok.opt (nx hL g5 (by omega) (by omega)) fun⟨a6,d6⟩ ⟨g6,l6,u6⟩=>hJ3 _ ⟨_,_,_,rfl,g6,pg l6 u6⟩) fun _=>Ok.ite (fun _=>Ok.opt (nx hL g5 (by omega) (by omega)) fun⟨a6,d6⟩ ⟨g6,l6,u6⟩=>hJ3 _ ⟨_,_,_,rfl,g6,pg l6 u6⟩) fun _=>hJ3 _ ⟨_,_,_,rfl,g5,?_⟩
    exact Qdk.num ⟨o1,fun e=>(o4 e).2,by rw[o3];omega,o5⟩ (by omega)
  ·refine Ok.join (fun y=>∃(v:Int) (b:Bool) (d:D.Dice) (w:D.Paging),y=((u,(i:Int),v,b,()),d,p,w,())∧QD L d) (fun y hy=>?_) fun J2 hJ2=>Ok.ite (fun _=>hJ2 _ ⟨_,_,_,_,rfl,hd⟩) fun _=>hJ2 _ ⟨_,_,_,_,rfl,hd⟩
   obtain⟨v,b,d,w,rfl,hd⟩:=hy
   refine Ok.cnd (fun _=>Ok.opt (Qvz h hi (t:=u) (by omega) hj) fun⟨x,y,e⟩ he=>Ok.ite (fun z=>?_) fun _=>hJ _ ⟨_,_,_,_,rfl,hd,h0⟩) fun _=>Ok.ite (fun _=>Ok.opt (Qmk h0.ci) fun⟨x,e⟩ he=>Ok.ite (fun z=>Ok.opt (QjH (he.1 z).1) fun f ⟨f1,_⟩=>hJ _ ⟨S,_,_,_,rfl,hd,⟨h.base,h.first,h.ser,by omega,by omega,f1⟩⟩) fun _=>hJ _ ⟨_,_,_,_,rfl,hd,h0⟩) fun _=>?_
   ·obtain⟨T,hT⟩:=he z
    exact hJ _ ⟨_,_,_,_,rfl,hd,hT⟩
   ·refine Ok.opt (Qyd hL hd h.ci (by omega) (by omega)) fun⟨x,d6⟩ ⟨g6,x1,x2⟩=>?_
    dsimp only at g6 x1 x2 ⊢
    refine Ok.opt (QqG (p:=D.Paging.mk p.Base x p.Serial) h.led (by have:=h.ser;dsimp only;omega) x1) fun b hb=>Ok.cnd (fun z=>?_) fun _=>hJ _ ⟨_,_,_,_,rfl,g6,h0⟩
    have hx:CI n (j+1) (PO S) x:=x2.resolve_right fun⟨i,hi,e,b1,b2⟩=>by
     have:=hb.1 z i hi e b1
     have:=h.ser
     dsimp only at *
     omega
    exact hJ _ ⟨S,_,_,_,rfl,g6,⟨h.base,h.first,h.ser,by omega,by omega,hx⟩⟩
end
end
/-
  Operations that are valid: what the program computes.
-/
section
open Go AM
attribute [local irreducible] dueV stepV runV QE answerV
section
variable {n:Nat} {c:D.Config} {b:D.Book} {p q:D.Page} {now M:Int} {l x:D.Ledger} {i:Nat} {o:D.Op} {ops:List D.Op}
theorem OpIn.validE(ho:OpIn o):VD 1000 o=some true:=by
 refine Ok.eq ?_
 unfold VD
 refine Ok.oe oin (Ok.bt (Qt.2 ho.id) (Ok.oe oin (Ok.bt (Qt.2 ho.kind) (Ok.oe oin (Ok.bt (Qt.2 ho.region) (Ok.oe oin (Ok.bt (Qt.2 ho.fence) (Ok.oe oin (Ok.bt (Qt.2 ho.at_) (Ok.oe oin (Ok.bt (Qt.2 ho.page) (Ok.oe oin (Ok.bt (Qt.2 ho.k) ?_)))))))))))))
 exact Ok.ite (fun g=>Ok.s rfl) (fun g=>Ok.oe Qww (Ok.bt (ho.answer (by omega)).1 (Ok.s rfl)))
end
end
/-
  Paging systems that dice make; what the program's checks of clusters and paging systems compute.
-/
section
attribute [local irreducible] dueV stepV runV QE answerV opV Yp opsV Qe3
section
variable {n S q i j fu:Nat} {c:D.Cluster} {r:D.Replica} {o:D.Op} {t k x lo hi:Int} {P:D.Op→Prop} {l:D.Ledger} {p:D.Paging} {L:List Int} {d:D.Dice}
def newR(i:Nat):D.Replica:=D.Replica.mk i 0 (-1) 0 [] 0 [] []
def newC(n:Nat):D.Cluster:=D.Cluster.mk ((List.range n).map newR) [] (List.replicate n false) []
theorem QxH(h:n=1∨n=3∨n=5):Qqk 1000 n=some (newC n,0):=by
 rcases h with rfl|rfl|rfl<;>kernel_rfl
theorem QxI(h:n=1∨n=3∨n=5):CI n 0 (PO 1) (newC n):=by
 have e:∀j,j<n→nth (newC n).Replicas j=newR j:=fun j hj=>by
  show nth ((List.range n).map newR) j=_
  rw[QpZ (by simpa using hj),Qot hj]
 refine⟨⟨by simp[newC],_,Inv.fresh (fun j hj=>by rw[e j hj];rfl) fun j hj=>by rw[e j hj];exact⟨rfl,rfl,rfl,rfl,rfl⟩⟩,by omega,PO.id (by omega),fun j hj=>?_,by simp[newC],by simp[newC],by omega,fun j hj=>by simp[newC]at hj,by simp[newC],by simp[newC]⟩
 rw[e j hj]
 exact⟨by simp[newR],by simp[newR];omega,.inl ⟨rfl,rfl,rfl⟩⟩
theorem QvV(h:n=1∨n=3∨n=5)(hl:Loose 0 l)(hs:l.Seen=[]):Qni 1000 l n=some (D.Paging.mk l (newC n) 1,0):=by
 have hled:=hl.led (by omega)
 refine Ok.eq ?_
 unfold Qni
 refine Ok.oe hled.check (Ok.nt rfl (Ok.oe (QxH h) (Ok.NS (Ok.oe hled.copy ?_))))
 refine Ok.run 0 (fun _=>_) rfl (by omega) (fun i hi=>absurd hi (by omega)) fun K=>?_
 dsimp only
 exact Ok.n (by rw[hs];simp) (Ok.s rfl)
theorem Qt9(hL:L.length≤500)(hd:QD L d):Ok (Wo 1000 d 14) fun x=>∃n j S l,Sys n j S l x.1:=by
 unfold Wo
 refine Ok.opt (Qxl hL hd (by omega)) fun⟨c,d1⟩ ⟨h1,hc⟩=>?_
 dsimp only at h1 hc ⊢
 refine Ok.opt (Qxg hL h1 (by omega)) fun⟨b,d2⟩ ⟨h2,hb⟩=>?_
 dsimp only at h2 hb ⊢
 refine Ok.oe (QxJ hc (by omega) hb) (Ok.opt (QaK hL h2 (by simp) (by simp)) fun⟨a,d3⟩ ⟨h3,m3⟩=>?_)
 dsimp only at h3 m3 ⊢
 simp only[List.mem_cons,List.not_mem_nil,or_false]at m3
 obtain⟨n,hn,rfl⟩:∃n:Nat,(n=1∨n=3∨n=5)∧a=n:=⟨a.toNat,by omega,by omega⟩
 have hfl:=QpP hc hb
 refine Ok.oe (QvV hn hfl rfl) ?_
 have hS:Sys n 0 1 (QdG c b) (D.Paging.mk (QdG c b) (newC n) 1):=⟨rfl,hfl,rfl,by omega,by omega,QxI hn⟩
 have hlen:=hS.ci.len
 dsimp only at hlen ⊢
 refine Ok.join (fun y=>∃(d:D.Dice) (w p:D.Paging),y=((14,864000,()),d,w,p,())∧QD L d∧Sys n 0 1 (QdG c b) p) (fun y hy=>?_) fun J hJ=>?_
 ·obtain⟨d,w,p,rfl,hd,hp⟩:=hy
  dsimp only
  rw[Qg (by omega)]
  refine Ok.opt (nx hL hd (by omega) (by omega)) fun⟨a,d4⟩ ⟨h4,l4,u4⟩=>?_
  dsimp only at h4 l4 u4 ⊢
  refine Ok.loop (fun m x=>∃(j S:Nat) (t k:Int) (d:D.Dice) (p:D.Paging),x=((t,k,()),d,w,p,())∧(0≤k∧k+j≤14)∧(0≤t∧t≤864000+300*j)∧QD L d∧Sys n j S (QdG c b) p∧m=k.toNat) (m:=a.toNat) (by omega) ⟨0,1,864000,a,d4,p,rfl,by omega,by omega,h4,hp,rfl⟩ ?_
  rintro m x ⟨j,S,t,k,d,p,rfl,k1,t1,hd,hp,rfl⟩ K hK
  dsimp only
  refine Ok.ite (fun g=>Ok.opt (QwB hL hd hp (by omega) t1) fun⟨p',t',d'⟩ ⟨w1,w2,T,w3⟩=>?_) fun _=>Ok.s ⟨_,_,_,_,hp⟩
  dsimp only at w1 w2 w3 ⊢
  rw[Qg (by omega)]
  exact hK (k - 1).toNat _ (by omega) ⟨j+1,T,t',k - 1,d',p',rfl,by omega,by omega,w1,w3,rfl⟩
 ·rw[hlen]
  refine Ok.opt (nx hL h3 (by omega) (by omega)) fun⟨a,d4⟩ ⟨h4,_⟩=>Ok.opt (Qsq hS.ci) fun⟨x,e⟩ he=>Ok.ite (fun z=>hJ _ ⟨_,_,_,rfl,h4,⟨rfl,hfl,rfl,by omega,by omega,he z⟩⟩) fun _=>hJ _ ⟨_,_,_,rfl,h4,hS⟩
theorem vin:VL fu x lo hi=some (inV x lo hi):=by
 unfold VL inV
 by_cases h1:lo≤x<;>by_cases h2:x≤hi<;>simp[cd,AM.cnd,h1,h2]
theorem gin:Vj fu x lo hi=some (inV x lo hi):=vin (fu:=fu)
theorem pin:Qj8 fu x lo hi=some (inV x lo hi):=vin (fu:=fu)
abbrev yes:Bool→Prop:=fun _=>True
theorem Ok.any{b:Bool}{x:Option Bool}(h:Ok x yes):Ok (cnd b x (some false)) yes:=Ok.cnd (fun _=>h) fun _=>Ok.s trivial
theorem QtZ(hl:r.Log.length≤900):Ok (QcX 1000 r) yes:=by
 unfold QcX
 refine Ok.loop (fun m x=>∃(i:Nat) (z:Int),x=((z,r.Log,(r.Log.length:Int),(i:Int),()),r,())∧i≤r.Log.length∧m=r.Log.length - i) (m:=r.Log.length) (by omega) ⟨0,1,rfl,by omega,rfl⟩ ?_
 rintro m x ⟨i,z,rfl,i1,rfl⟩ K hK
 dsimp only
 refine Ok.ite (fun g=>Ok.A (Ok.oe vin (Ok.ncnd (fun _=>Ok.s trivial) fun _=>?_))) fun _=>Ok.ite (fun _=>Ok.oe vin (Ok.any (Ok.s trivial))) fun _=>Ok.s trivial
 rw[Qb (by omega)]
 exact hK _ _ (by omega) ⟨i+1,_,rfl,by omega,rfl⟩
theorem QuV(hn:n≤5)(hl:r.Log.length≤900):Ok (Qb4 1000 n r) yes:=by
 unfold Qb4
 refine Ok.j (Ok.oe vin (Ok.any (Ok.oe vin (Ok.cnd (fun g=>?_) fun _=>Ok.s trivial))))
 have hid:=Qt.1 g
 rw[Qg (x:=(n:Int) - 1) (by omega)]at hid
 refine Ok.oe vin (Ok.any (Ok.oe vin (Ok.any (Ok.opt (QtZ hl) fun b _=>Ok.any ?_))))
 dsimp only
 have two:∀{a b:Prop} [Decidable a] [Decidable b],Ok (cnd (decide a) (cnd (decide b) (some true) (some false)) (some false)) yes:=Ok.ite (fun _=>Ok.ite (fun _=>Ok.s trivial) fun _=>Ok.s trivial) fun _=>Ok.s trivial
 have vs:Ok (Qb6 1000 n r) yes:=by
  unfold Qb6
  exact Ok.ite (fun _=>Ok.at hid.1 (by omega) (Ok.any (Ok.s trivial))) fun _=>Ok.s trivial
 have ms:Ok (Qa4 1000 n r) yes:=by
  unfold Qa4
  refine Ok.ite (fun gm=>Ok.at hid.1 (by omega) (Ok.ite (fun _=>Ok.opt (P:=yes) ?_ fun b _=>Ok.cnd (fun _=>Ok.s trivial) fun _=>Ok.s trivial) fun _=>Ok.s trivial)) fun _=>Ok.s trivial
  unfold QS
  refine Ok.opt (P:=fun _=>True) ?_ fun a _=>Ok.sameC (Ok.s trivial)
  unfold Q9
  refine Ok.loop (fun m x=>∃i:Nat,x=((r.Match,(r.Match.length:Int),(i:Int),()),r,())∧i≤r.Match.length∧m=r.Match.length - i) (m:=r.Match.length) (by omega) ⟨0,rfl,by omega,rfl⟩ ?_
  rintro m x ⟨i,rfl,i1,rfl⟩ K hK
  dsimp only
  refine Ok.ite (fun g=>Ok.A (Ok.opt (P:=yes) (Ok.oe vin (Ok.sameC (Ok.s trivial))) fun b _=>Ok.cnd (fun _=>Ok.sameC (Ok.s trivial)) fun _=>?_)) fun _=>Ok.sameC (Ok.s trivial)
  rw[Qb (by omega)]
  exact hK _ _ (by omega) ⟨i+1,rfl,by omega,rfl⟩
 exact Ok.ite (fun _=>two) fun _=>Ok.ite (fun _=>Ok.opt vs fun b _=>Ok.any (Ok.ite (fun _=>Ok.s trivial) fun _=>Ok.s trivial)) fun _=>Ok.ite (fun _=>Ok.opt vs fun b _=>Ok.any (Ok.opt ms fun b _=>Ok.any (Ok.s trivial))) fun _=>Ok.s trivial
theorem Qri(h:CI n q P c):Ok (WM 1000 c) yes:=by
 have hlen:=h.len;have hn:=h.sz;have hw:=h.wire;have hq:=h.q;have hcut:=h.cut
 unfold WM
 rw[hlen]
 refine Ok.j (Ok.oe gin (Ok.any (Ok.ite (fun _=>Ok.s trivial) fun _=>Ok.ite (fun _=>Ok.s trivial) fun _=>?_)))
 dsimp only
 rw[hlen]
 refine Ok.loop (fun m x=>∃i:Nat,x=(((n:Int),c.Replicas,(n:Int),(i:Int),()),c,())∧i≤n∧m=n - i) (m:=n) (by omega) ⟨0,rfl,by omega,rfl⟩ ?_
 rintro m x ⟨i,rfl,i1,rfl⟩ K hK
 dsimp only
 refine Ok.ite (fun g=>Ok.j (Ok.A (Ok.ite (fun _=>Ok.s trivial) fun _=>Ok.opt (QuV hn.2 (by have:=h.short (i:=i) (by omega);omega)) fun b _=>Ok.any ?_))) fun g=>?_
 ·dsimp only
  rw[Qb (by omega)]
  exact hK _ _ (by omega) ⟨i+1,rfl,by omega,rfl⟩
 ·refine Ok.loop (fun m x=>∃i:Nat,x=(((n:Int),c.Wire,(c.Wire.length:Int),(i:Int),()),c,())∧i≤c.Wire.length∧m=c.Wire.length - i) (m:=c.Wire.length) (by omega) ⟨0,rfl,by omega,rfl⟩ ?_
  rintro m x ⟨a,rfl,a1,rfl⟩ K2 hK2
  dsimp only
  refine Ok.ite (fun g2=>Ok.j (Ok.A (Ok.oe gin (Ok.any (Ok.oe gin (Ok.any (Ok.ite (fun _=>Ok.s trivial) fun _=>?_))))))) fun g2=>?_
  ·dsimp only
   rw[Qb (by omega)]
   exact hK2 _ _ (by omega) ⟨a+1,rfl,by omega,rfl⟩
  ·refine Ok.loop (fun m x=>∃i:Nat,x=(((n:Int),c.Cut,(c.Cut.length:Int),(i:Int),()),c,())∧i≤c.Cut.length∧m=c.Cut.length - i) (m:=c.Cut.length) (by omega) ⟨0,rfl,by omega,rfl⟩ ?_
   rintro m x ⟨b,rfl,b1,rfl⟩ K3 hK3
   dsimp only
   refine Ok.ite (fun g3=>Ok.j (Ok.A (Ok.oe gin (Ok.any (Ok.oe gin (Ok.any (Ok.natn (Ok.L (Ok.opt (P:=yes) ?_ fun e _=>Ok.cnd (fun _=>Ok.s trivial) fun _=>?_))))))))) fun _=>Ok.s trivial
   ·unfold XO Vu
    obtain⟨C,hC⟩:∃C,C=c.Cut.take b:=⟨_,rfl⟩
    have hCl:C.length≤800:=by rw[hC];simp;omega
    rw[←hC]
    refine Ok.opt (P:=fun _=>True) ?_ fun a _=>Ok.s trivial
    refine Ok.loop (fun m x=>∃i:Nat,x=((C,(C.length:Int),(i:Int),()),((nth c.Cut b).a0,(nth c.Cut b).a1,()),())∧i≤C.length∧m=C.length - i) (m:=C.length) (by omega) ⟨0,rfl,by omega,rfl⟩ ?_
    rintro m x ⟨i,rfl,i1,rfl⟩ K4 hK4
    dsimp only
    refine Ok.ite (fun g=>Ok.A (Ok.ite (fun _=>Ok.s trivial) fun _=>?_)) fun _=>Ok.s trivial
    rw[Qb (by omega)]
    exact hK4 _ _ (by omega) ⟨i+1,rfl,by omega,rfl⟩
   ·dsimp only
    rw[Qb (by omega)]
    exact hK3 _ _ (by omega) ⟨b+1,rfl,by omega,rfl⟩
theorem Qxk(h:0≤r.Commit∧r.Commit≤r.Log.length)(hl:r.Log.length≤900):XU 1000 r=some (comV r):=by
 refine Ok.eq ?_
 unfold XU comV
 rw[show max 0 (min r.Commit (r.Log.length:Int))=((r.Commit.toNat:Nat):Int)by omega]
 obtain⟨C,hC⟩:∃C,C=r.Log.take r.Commit.toNat:=⟨_,rfl⟩
 have hCl:C.length≤900:=by rw[hC];simp;omega
 refine Ok.natn (Ok.L ?_)
 rw[←hC]
 refine Ok.run C.length (fun i=>((C,(C.length:Int),(i:Int),()),(C.take i).map (fun e=>e.Op),())) rfl (by omega) (fun i hi K hK=>?_) fun K=>?_
 ·dsimp only at hK ⊢
  rw[←Qr hi,List.map_append]at hK
  refine Ok.P (Ok.atn hi (Ok.LS ?_))
  rw[Qb (by omega)]
  exact hK
 ·dsimp only
  rw[List.take_length]
  exact Ok.N (Ok.s rfl)
theorem QsM(h:CI n q P c):Ok (Vi 1000 c) fun l=>l=[]∨∃i,i<n∧l=comV (nth c.Replicas i):=by
 have hlen:=h.len;have hn:=h.sz
 unfold Vi
 refine Ok.opt (Qri h) fun b _=>Ok.ncnd (fun _=>Ok.s (.inl rfl)) fun _=>?_
 rw[hlen]
 refine Ok.loop (fun m x=>∃(i:Nat) (l:List D.Op),x=((l,c.Replicas,(n:Int),(i:Int),()),())∧i≤n∧(l=[]∨∃i,i<n∧l=comV (nth c.Replicas i))∧m=n - i) (m:=n) (by omega) ⟨0,[],rfl,by omega,.inl rfl,rfl⟩ ?_
 rintro m x ⟨i,l,rfl,i1,i2,rfl⟩ K hK
 dsimp only
 refine Ok.ite (fun g=>?_) fun _=>Ok.s i2
 have hi:i<n:=by omega
 have hck:=(h.ck.rep i hi).2.2
 refine Ok.join (fun y=>∃l:List D.Op,y=((l,c.Replicas,(n:Int),(i:Int),()),())∧(l=[]∨∃i,i<n∧l=comV (nth c.Replicas i))) (fun y hy=>?_) fun J hJ=>Ok.A (Ok.oe (Qxk hck.com (by have:=hck.log;omega)) (Ok.ite (fun _=>hJ _ ⟨_,rfl,.inr ⟨i,hi,rfl⟩⟩) fun _=>hJ _ ⟨_,rfl,i2⟩))
 obtain⟨l,rfl,hl⟩:=hy
 dsimp only
 rw[Qb (by omega)]
 exact hK _ _ (by omega) ⟨i+1,l,rfl,by omega,hl,rfl⟩
theorem Qv5(h:Sys n j S l p):Ok (WI 1000 p) yes:=by
 have hlen:=h.ci.len;have hn:=h.ci.sz
 unfold WI
 refine Ok.j (Ok.oe h.led.checkE (Ok.t (Ok.opt (Qri h.ci) fun b _=>Ok.any (Ok.oe pin (Ok.any ?_)))))
 dsimp only
 rw[hlen]
 refine Ok.loop (fun m x=>∃i:Nat,x=((p.Cluster.Replicas,(n:Int),(i:Int),()),p,())∧i≤n∧m=n - i) (m:=n) (by omega) ⟨0,rfl,by omega,rfl⟩ ?_
 rintro m x ⟨i,rfl,i1,rfl⟩ K hK
 dsimp only
 refine Ok.ite (fun g=>Ok.A ?_) fun _=>Ok.s trivial
 have hi:i<n:=by omega
 have hsh:=h.ci.short hi
 have hlog:=h.log hi
 obtain⟨C,hC⟩:∃C,C=(nth p.Cluster.Replicas i).Log:=⟨_,rfl⟩
 rw[←hC]at hsh hlog ⊢
 refine Ok.loop (fun m x=>∃k:Nat,x=((p.Cluster.Replicas,(n:Int),(i:Int),C,(C.length:Int),(k:Int),()),p,())∧k≤C.length∧m=C.length - k) (m:=C.length) (by omega) ⟨0,rfl,by omega,rfl⟩ ?_
 rintro m x ⟨k,rfl,k1,rfl⟩ K2 hK2
 dsimp only
 refine Ok.ite (fun g2=>?_) fun _=>?_
 ·have hk:k<C.length:=by omega
  refine Ok.j (Ok.atn hk (Ok.oe (hlog _ (Qk hk)).1.1.validE (Ok.t (Ok.ite (fun _=>Ok.s trivial) fun _=>?_))))
  dsimp only
  rw[Qb (by omega)]
  exact hK2 _ _ (by omega) ⟨k+1,rfl,by omega,rfl⟩
 ·rw[Qb (by omega)]
  exact hK _ _ (by omega) ⟨i+1,rfl,by omega,rfl⟩
theorem Qjc(h:Sys n j S l p):Ok (ZH 1000 p x) fun b=>b=true→∃i,i<n∧∃o∈comV (nth p.Cluster.Replicas i),o.ID=x:=by
 have no:∀{Q:Prop},false=true→Q:=fun h=>by simp at h
 unfold ZH
 refine Ok.opt (Qv5 h) fun b _=>Ok.cnd (fun _=>Ok.opt (QsM h.ci) fun A hA=>?_) fun _=>Ok.s no
 have hAl:A.length≤300:=by
  rcases hA with rfl|⟨i,hi,rfl⟩
  ·simp
  ·have:=(h.com hi).2;omega
 refine Ok.opt (P:=fun b=>b=true→∃o∈A,o.ID=x) ?_ fun b hb=>Ok.cnd (fun g=>Ok.s fun _=>?_) fun _=>Ok.s no
 ·unfold QO
  refine Ok.opt (P:=fun z=>0≤z→∃o∈A,o.ID=x) ?_ fun z hz=>Ok.sameC (Ok.s fun e=>hz (of_decide_eq_true e))
  unfold QX
  refine Ok.loop (fun m y=>∃i:Nat,y=((A,(A.length:Int),(i:Int),()),(x,()),())∧i≤A.length∧m=A.length - i) (m:=A.length) (by omega) ⟨0,rfl,by omega,rfl⟩ ?_
  rintro m y ⟨i,rfl,i1,rfl⟩ K hK
  dsimp only
  refine Ok.ite (fun g=>?_) fun _=>Ok.sameC (Ok.s fun e=>absurd e (by omega))
  have hi:i<A.length:=by omega
  refine Ok.atn hi (Ok.opt (P:=fun b=>b=true→(nth A i).ID=x) (Ok.sameC (Ok.s fun e=>of_decide_eq_true e)) fun b hb=>Ok.cnd (fun g2=>Ok.sameC (Ok.s fun _=>⟨_,Qk hi,hb g2⟩)) fun _=>?_)
  rw[Qb (by omega)]
  exact hK _ _ (by omega) ⟨i+1,rfl,by omega,rfl⟩
 ·obtain⟨o,ho,e⟩:=hb g
  rcases hA with rfl|⟨i,hi,rfl⟩
  ·simp at ho
  ·exact⟨i,hi,o,ho,e⟩
theorem Qly(h:Sys n j S l p)(hx:x<1∨(S:Int)≤x):ZH 1000 p x=some false:=by
 obtain⟨b,hb,hb2⟩:=Qjc (x:=x) h
 cases b with
 |false=>exact hb
 |true=>
  obtain⟨i,hi,o,ho,e⟩:=hb2 rfl
  obtain⟨y,hy,rfl⟩:=List.mem_map.1 ho
  have:=h.log hi y (List.mem_of_mem_take hy)
  have h1:=this.1.1.id;have h2:=this.2
  omega
end
end
/-
  The example of the chapter of paging: what it computes.
-/
open Go AM
theorem QkH:QeB 1000=some true:=by kernel_rfl
/-
  The law PagingMajority, of what is reckoned of its code.
-/
attribute [local irreducible] dueV stepV runV QE answerV opV Yp opsV Qe3
theorem QrR{L:List D.Entry}{i:Nat}{x:Int}(h:i<L.length):Qk6 (L.take (i+1)) x=Qk6 (L.take i) x+(if (nth L i).Op.ID=x then 1 else 0):=by
 unfold Qk6
 rw[←Qr h,List.countP_append]
 congr 1
 by_cases e:(nth L i).Op.ID=x<;>simp[e]
theorem Qfw{f:Nat→Nat}{i:Nat}:((List.range (i+1)).map f).sum=((List.range i).map f).sum+f i:=by
 rw[List.range_succ,List.map_append,List.sum_append];simp
theorem QqX{L:List D.Entry}{x:Int}:Qk6 L x≤L.length:=List.countP_le_length
theorem QfQ(t:List Int):YK 1000 t=some true:=by
 refine Ok.eq ?_
 unfold YK
 refine Ok.oe QvS (Ok.ncnd (fun _=>Ok.oe QkH (Ok.s rfl)) fun hl=>Ok.oe QxX ?_)
 have hL:=QtY hl
 refine Ok.opt (Qt9 hL dice0) fun⟨p,z,d⟩ ⟨n,j,S,l,hp⟩=>?_
 replace hp:Sys n j S l p:=hp
 have hn:=hp.ci.sz;have hlen:=hp.ci.len;have hlo:=hp.lo;have hhi:=hp.hi;have hser:=hp.ser
 dsimp only at hlen hser ⊢
 rw[hlen]
 refine Ok.loop (fun m x=>∃id:Nat,x=(((n:Int),(id:Int),()),p,())∧(1≤id∧id≤S)∧m=S - id) (m:=S - 1) (by omega) ⟨1,rfl,by omega,rfl⟩ ?_
 rintro m x ⟨id,rfl,i1,rfl⟩ K hK
 dsimp only
 rw[hser]
 refine Ok.ite (fun g=>?_) fun _=>Ok.oe (Qly hp (.inr (Int.le_refl _))) (Ok.f (Ok.oe (Qly hp (.inl (by omega))) (Ok.f (Ok.oe QkH (Ok.t (Ok.s rfl))))))
 refine Ok.join (fun y=>y=(((n:Int),(id:Int),()),p,())) (fun y hy=>?_) fun J hJ=>?_
 ·subst hy
  dsimp only
  rw[Qb (by omega)]
  exact hK _ _ (by omega) ⟨id+1,rfl,by omega,rfl⟩
 rw[hlen]
 have bound:∀a,a≤n→((List.range a).map fun j=>Qk6 (nth p.Cluster.Replicas j).Log id).sum≤256*a:=fun a=>by
  induction a with
  |zero=>intro _;simp
  |succ a ih=>
   intro ha
   rw[Qfw]
   have:=QqX (L:=(nth p.Cluster.Replicas a).Log) (x:=id)
   have:=hp.ci.short (i:=a) (by omega)
   have:=ih (by omega)
   omega
 refine Ok.run n (fun a=>(((n:Int),(id:Int),((((List.range a).map fun j=>Qk6 (nth p.Cluster.Replicas j).Log id).sum:Nat):Int),p.Cluster.Replicas,(n:Int),(a:Int),()),p,())) rfl (by omega) (fun a ha K2 hK2=>?_) fun K2=>?_
 ·have hsh:=hp.ci.short ha
  have hba:=bound a (by omega)
  dsimp only at hK2 ⊢
  rw[Qfw]at hK2
  obtain⟨h0,hh0⟩:∃h0,h0=((List.range a).map fun j=>Qk6 (nth p.Cluster.Replicas j).Log id).sum:=⟨_,rfl⟩
  rw[←hh0]at hK2 hba ⊢
  obtain⟨C,hC⟩:∃C,C=(nth p.Cluster.Replicas a).Log:=⟨_,rfl⟩
  rw[←hC]at hK2 hsh
  refine Ok.P (Ok.A ?_)
  rw[←hC]
  refine Ok.run C.length (fun b=>(((n:Int),(id:Int),((h0+Qk6 (C.take b) id:Nat):Int),p.Cluster.Replicas,(n:Int),(a:Int),C,(C.length:Int),(b:Int),()),p,())) (by simp[Qk6]) (by omega) (fun b hb K3 hK3=>?_) fun K3=>?_
  ·have hle:=QqX (L:=C.take b) (x:=id)
   rw[List.length_take]at hle
   dsimp only at hK3 ⊢
   rw[QrR hb]at hK3
   refine Ok.P (Ok.j (Ok.atn hb (Ok.ite (fun e=>?_) fun e=>?_)))
   ·dsimp only
    rw[if_pos e]at hK3
    rw[Qb (by omega),Qb (by omega)]
    exact hK3
   ·dsimp only
    rw[if_neg e]at hK3
    rw[Qb (by omega)]
    exact hK3
  ·dsimp only
   rw[List.take_length]
   refine Ok.N ?_
   rw[Qb (by omega)]
   exact hK2
 ·dsimp only
  refine Ok.N (Ok.opt (Qjc hp) fun b hb=>Ok.cnd (fun g2=>Ok.oe QdV ?_) fun _=>hJ _ rfl)
  rw[Qkh hn]
  obtain⟨i,hi,o,ho,e⟩:=hb g2
  have:=hp.ci.inv.have_quorum hi ho e
  exact Ok.N (hJ _ rfl)
end Go.Proofs.YtlllfgmajglnhaaGreat
