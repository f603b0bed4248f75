/-
  Whether a person of a crew may be called: what the program and the reference compute.
-/
import Derived.Test.YtlllfgmajglnhaaGreatQRowDriD
import Derived.Test.YtlllfgmajglnhaaGreatQRowDriC
set_option maxRecDepth 100000
set_option linter.defProp false
set_option linter.constructorNameAsVariable false
set_option linter.unusedVariables false
set_option linter.unusedSimpArgs false
set_option autoImplicit true
set_option relaxedAutoImplicit true
namespace Go.Proofs.YtlllfgmajglnhaaGreat
open Go AM
section
def QDd(hd : -10<=d/\d<=100000):Qd6 1000 d=some ((d+3) % 7)/\QhX 1000 d=some ((d+3) % 7):=by
 have key:AM.nzc 7 (AM.nzc 7 (some (Int.tmod (J ((Int.tmod d 7)+10)) 7)))=some ((d+3) % 7):=by
  have h1:=QmT (a:=d) (n:=7) U
  rw[Qb U,Qw7 U,Qw7 U,Bq U]
  by_cases h0:0<=d
  .rw[Bq h0];congr 1;omega
  .have e1:Int.tmod d 7 = -((-d) % 7):=by
    rw[show d = -(-d)by omega,ER,Bq U,ES]
   rw[e1];congr 1;omega
 exact⟨key,key⟩
def QrF(ho:Qe1 off)(ht:0<=t/\t<=8589934592):Wy 1000 ⟨(t+off) / 86400,(t+off) % 86400⟩=some (QbS off t)/\QgF 1000 ⟨(t+off) / 86400,(t+off) % 86400⟩=some (QbS off t):=by
 have:=ho.le
 have hw:=QDd (d:=(t+off) / 86400) U
 unfold Wy QgF QbS
 dsimp only
 rw[hw.1,hw.2,Z0,Qb (x:=((t+off) / 86400+3) % 7*86400) U,Qb U]
 exact⟨rfl,rfl⟩
def QCo(hw:ws.length<900):QeQ 1000 ws s=some (QfN ws s):=by
 refine Ok.eq ?_
 unfold QeQ
 refine Ok.scan ws.length (fun i=>((s,ws,(ws.length:Int),(i:Int),()),())) (fun i=>decide ((V ws i).w<=s) && decide (s<(V ws i).To)) rfl U (fun i hi hq _ k=>?_) (fun i hi hq k hk=>?_) (fun hq k=>?_)
 .have hq':=hq
  simp only[bae,BK]at hq'
  exact Ok.P (Ok.j (Ok.atn hi (Ok.p hq'.1 (Ok.p hq'.2 (Ok.s (by unfold QfN;rw[Qjs hi hq]))))))
 .refine Ok.P (Ok.j (Ok.atn hi ?_))
  dsimp only
  rw[Qa U]
  refine Ok.ite (fun h1=>Ok.ite (fun h2=>by simp[h1,h2]at hq) (fun _=>hk)) (fun _=>hk)
 .exact Ok.N (Ok.s (by unfold QfN;rw[QnF hq]))
def Qx7(hw:ws.length<900):QgE 1000 ws s=some (QfN ws s):=by
 refine Ok.eq ?_
 unfold QgE
 refine Ok.scan ws.length (fun i=>((ws,s,(i:Int),()),())) (fun i=>decide ((V ws i).w<=s) && decide (s<(V ws i).To)) rfl U (fun i hi hq _ k=>?_) (fun i hi hq k hk=>?_) (fun hq k=>?_)
 .have hq':=hq
  simp only[bae,BK]at hq'
  exact Ok.P (Ok.j (Ok.atn hi (Ok.p hq'.1 (Ok.atn hi (Ok.p hq'.2 (Ok.s (by unfold QfN;rw[Qjs hi hq])))))))
 .refine Ok.P (Ok.j (Ok.atn hi ?_))
  dsimp only
  rw[Qa U]
  refine Ok.ite (fun h1=>Ok.atn hi (Ok.ite (fun h2=>by simp[h1,h2]at hq) (fun _=>hk))) (fun _=>hk)
 .exact Ok.N (Ok.s (by unfold QfN;rw[QnF hq]))
def Qt1:Qjz 1000 t t=some (decide (0<=t/\t<=8589934592))/\Qms 1000 t t=some (decide (0<=t/\t<=8589934592)):=by
 have key:AM.C (decide (0<=t)) (AM.C (decide (t<=8589934592)) (AM.C (decide (t<=t)) (AM.C (decide (t<=8589934592)) (AM.C (decide ((J (t - t))<=34560000)) (some true) (some false)) (some false)) (some false)) (some false)) (some false)=some (decide (0<=t/\t<=8589934592)):=by
  rw[Qb (x:=t - t) U]
  by_cases h1:0<=t
  .by_cases h2:t<=8589934592
   ·(try unfold cd);rw[Qfn h1,Qfn h2,Qfn U,Qfn h2,Qfn U];simp[h1,h2]
   ·(try unfold cd);rw[Qfn h1,Qkv h2];simp[h2]
  ·(try unfold cd);rw[Qkv h1];simp[h1]
 exact⟨key,key⟩
def QaN.qlen(h:QaN x):x.Ff.length<=1:=by
 rcases h.quiet with h|⟨a,b,h,_⟩<;>rw[h]<;>simp
def Qzn(h:Zg n c)(hn:n<=48):V2 1000 c p t ur=some (VG c p t ur):=by
 have hpl:=h.plen
 refine Ok.eq ?_
 unfold V2
 have hopen:Ok (Qee 1000 c p t t) fun r=>(r.2=0↔0<=p/\p<4/\0<=t/\t<=8589934592)/\(r.2=0->r.1=⟨c,[tabV (Xe c)]⟩):=by
  unfold Qee
  refine Ok.oe (tOf h hn) (Ok.j (Ok.nt rfl ?_))
  refine Ok.ite (fun h1=>Ok.s ⟨by simp;omega,fun h=>by simp at h⟩) fun h1=>Ok.ite (fun h2=>Ok.s ⟨by simp;omega,fun h=>by simp at h⟩) fun h2=>?_
  refine Ok.oe Qt1.1 (Ok.ncnd (fun h3=>Ok.s ⟨?_,fun h=>by simp at h⟩) fun h3=>Ok.s ⟨?_,fun _=>rfl⟩)
  .have h3:=BM h3
   simp;omega
  .have h3:=BF h3
   simp;omega
 refine Ok.opt hopen fun⟨v,e⟩ ⟨g1,g2⟩=>?_
 dsimp only at g1 g2 |-
 by_cases he:e=0
 .have hr:=g1.1 he
  rw[g2 he]
  refine Ok.n (by simp[he]) (Ok.at hr.1 U ?_)
  obtain⟨x,hx⟩:∃x,V c.l p.toNat=x:=⟨_,rfl⟩
  have hper:=h.per (i:=p.toNat) U
  rw[hx]at hper |-
  have hq:=hper.qlen
  have htab:Ok (XZ 1000 ⟨c,[tabV (Xe c)]⟩ x.r) (·=tabV (Xe c)):=by
   unfold XZ
   rw[hper.zone]
   exact Ok.atn (i:=0) Ob (Ok.s rfl)
  have hlast:Ok (O (XZ 1000 ⟨c,[tabV (Xe c)]⟩ x.r) fun a3=>O (ZS 1000 a3 t) fun a4=>O (Wy 1000 a4) fun a5=>O (QeQ 1000 x.Ff a5) fun a6=>AM.C a6 (some false) (some true)) (·=!QfN x.Ff (QbS (Xe c) t)):=by
   refine Ok.opt htab fun tb htb=>?_
   subst htb
   refine Ok.oe (QAf h.offs hr.2.2) (Ok.oe (QrF h.offs hr.2.2).1 (Ok.oe (QCo U) (Ok.C (fun h1=>Ok.s (by rw[h1];rfl)) (fun h1=>Ok.s (by rw[h1];rfl)))))
  have hv:VG c p t ur=(ur && x.Ft || !QfN x.Ff (QbS (Xe c) t)):=by unfold VG;rw[hx];simp[hr.1,hr.2.1,hr.2.2.1,hr.2.2.2]
  rw[hv]
  refine Ok.C (fun h1=>Ok.C (fun h2=>Ok.s (by simp[h1,h2])) (fun h2=>hlast.mono fun r hr=>by rw[hr,h1,h2];simp)) (fun h1=>hlast.mono fun r hr=>by rw[hr,h1];simp)
 .refine Ok.p he (Ok.s ?_)
  have hr:¬(0<=p/\p<4/\0<=t/\t<=8589934592):=fun h=>he (g1.2 h)
  unfold VG
  rw[Au hr];rfl
def Qxv(h:Zg n c)(hn:n<=48):QbL 1000 c p t ur=some (VG c p t ur):=by
 have hpl:=h.plen
 refine Ok.eq ?_
 unfold QbL
 have hopen:Ok (QiV 1000 c p t t) fun r=>r=0↔0<=p/\p<4/\0<=t/\t<=8589934592:=by
  unfold QiV
  refine Ok.j (Ok.oe (Qfk h hn) (Ok.n (by decide) ?_))
  refine Ok.ite (fun h1=>Ok.s U) fun h1=>Ok.ite (fun h2=>Ok.s U) fun h2=>?_
  refine Ok.oe Qt1.2 (Ok.ncnd (fun h3=>Ok.s ?_) fun h3=>Ok.s ?_)
  .have h3:=BM h3
   omega
  .have h3:=BF h3
   omega
 refine Ok.opt hopen fun e g1=>?_
 by_cases he:e=0
 .have hr:=g1.1 he
  refine Ok.n (by simp[he]) (Ok.at hr.1 U ?_)
  obtain⟨x,hx⟩:∃x,V c.l p.toNat=x:=⟨_,rfl⟩
  have hper:=h.per (i:=p.toNat) U
  rw[hx]at hper |-
  have hq:=hper.qlen
  have hv:VG c p t ur=(ur && x.Ft || !QfN x.Ff (QbS (Xe c) t)):=by unfold VG;rw[hx];simp[hr.1,hr.2.1,hr.2.2.1,hr.2.2.2]
  rw[hv,hper.zone,h.zones.1]
  refine Ok.atn (i:=0) Ob ?_
  have hin:Qn4 1000 (Qid (Xe c)) x.Ff t=some (QfN x.Ff (QbS (Xe c) t)):=by
   refine Ok.eq ?_
   unfold Qn4 QjS
   refine Ok.oe (v:=(QbS (Xe c) t,0)) ?_ (Ok.p rfl (Ok.oe (Quc hper) (Ok.p rfl (Ok.oe (Qx7 U) (Ok.C (fun h1=>Ok.s (by rw[h1])) (fun h1=>Ok.s (by rw[h1])))))))
   refine Ok.eq (Ok.oe (Qz9 h.offs hr.2.2) (Ok.n (by decide) (Ok.oe (QrF h.offs hr.2.2).2 (Ok.s rfl))))
  refine Ok.oe (hin:Qn4 1000 (V [(⟨bZ,Xe c,[]⟩:D.r)] 0) x.Ff t=_) ?_
  refine Ok.C (fun h1=>Ok.C (fun h2=>Ok.C (fun h3=>Ok.s (by simp[h2,h3])) (fun h3=>Ok.s (by simp[h1,h3]))) (fun h2=>Ok.s (by simp[h1,h2]))) (fun h1=>Ok.s (by simp[h1]))
 .refine Ok.p he (Ok.s ?_)
  have hr:¬(0<=p/\p<4/\0<=t/\t<=8589934592):=fun h=>he (g1.2 h)
  unfold VG
  rw[Au hr];rfl
end
def Qae{l:Y Int}(h:i<l.length):l.take (i+1)=l.take i++[V l i]:=(Qp h).symm
structure Qld (p0:Y Int) (q:Int->AH) (w j:Nat) (a:Y Int):Prop where
 len:a.length=p0.length
 wj:w<=j/\j<=p0.length
 done:a.take w=(p0.take j).filter q
 rest:∀k,j<=k->V a k=V p0 k
def QjG{l:Y Int}{q:Int->AH}{i:Nat}(hi:i<=l.length)(h:∀j,j<i->q (V l j)=true):(l.take i).filter q=l.take i:=by
 refine ET.2 fun x hx=>?_
 obtain⟨k,hk,rfl⟩:=BZ hx
 rw[Ae]at hk
 have:=h k U
 simpa [V,AQ,AR (show k<l.length by omega)]using this
def Qqy(hi:i<p0.length)(h:∀j,j<i->q (V p0 j)=true)(hx:q (V p0 i)=false):Qld p0 q i (i+1) p0:=by
 refine⟨rfl,U,?_,fun k _=>rfl⟩
 rw[Qae hi,B5,QjG U h]
 simp[hx]
def Qtm(h:Qld p0 q w j a)(hj:j<p0.length)(hx:q (V a j)=true):Qld p0 q (w+1) (j+1) (a.set w (V a j)):=by
 have h1:=h.wj
 have h2:=h.len
 refine⟨by simp[h.len],U,?_,fun k hk=>?_⟩
 .rw[h.rest j (AN _)]at hx |-
  rw[Qae hj,B5,<-h.done,Qae (by simp;omega),Ql8 U,iB rfl,Ez U]
  simp[hx]
 .rw[Ql8 U,iA U];exact h.rest k U
def Qtn(h:Qld p0 q w j a)(hj:j<p0.length)(hx:q (V a j)=false):Qld p0 q w (j+1) a:=by
 have h1:=h.wj
 refine⟨h.len,U,?_,fun k hk=>h.rest k U⟩
 rw[h.rest j (AN _)]at hx
 rw[Qae hj,B5,<-h.done]
 simp[hx]
def InTo(l:Y Int)(m:Nat)(z:Int):Prop:=∃k,k<m/\V l k=z
def QtE(hm:m<=l.length):InTo l m z↔z∈l.take m:=by
 constructor
 .rintro⟨k,hk,rfl⟩
  have:V (l.take m) k=V l k:=by
   simp only[V,AQ,Ar]
   rw[iB hk]
  rw[<-this]
  exact Qf (by simp;omega)
 .intro h
  obtain⟨k,hk,rfl⟩:=BZ h
  rw[Ae]at hk
  exact⟨k,U,by simp[V,AQ,AR (show k<l.length by omega)]⟩
def QxT(h1:1<=j)(hj:j<l.length)(hm:j<m):InTo (QkM l j) m z↔InTo l m z:=by
 unfold InTo
 constructor
 .rintro⟨k,hk,e⟩
  rw[Qgv h1 hj]at e
  split at e
  .exact⟨j,hm,e⟩
  .split at e
   .exact⟨j - 1,U,e⟩
   .exact⟨k,hk,e⟩
 .rintro⟨k,hk,e⟩
  by_cases g1:k=j
  .subst g1;exact⟨k - 1,U,by rw[Qgv h1 hj,iB rfl];exact e⟩
  .by_cases g2:k=j - 1
   .subst g2;exact⟨j,hm,by rw[Qgv h1 hj,iA U,iB rfl];exact e⟩
   .exact⟨k,hk,by rw[Qgv h1 hj,iA g2,iA g1];exact e⟩
def Qvr(l:Y Int)(n:Nat):Prop:=∀k,1<=k->k<n->V l (k - 1)<V l k
def QnI(hn:n<=l.length)(h:Qvr l n):Asc (l.take n):=by
 have hnth:∀k,k<n->V (l.take n) k=V l k:=fun k hk=>by
  simp only[V,AQ,Ar]
  rw[iB hk]
 have hlt:∀b,b<n->∀a,a<b->V l a<V l b:=by
  intro b
  induction b with
  |zero=>intro _ a ha;omega
  |succ b ih=>
   intro hb a ha
   have h1:=h (b+1) U hb
   rw[Ch]at h1
   by_cases e:a=b
   .subst e;exact h1
   .have:=ih U a U;omega
 have hl:(l.take n).length=n:=by simp;omega
 refine QzS (fun a b hab hb=>?_) (fun k h1 h2=>?_)
 .rw[hl]at hb;rw[hnth a U,hnth b hb];have:=hlt b hb a hab;omega
 .rw[hl]at h2;rw[hnth _ U,hnth k h2];have:=h k h1 h2;omega
structure QnB (p0:Y Int) (m o i k:Nat) (a:Y Int):Prop where
 len:a.length=p0.length
 ik:1<=i/\i<o+k/\o+k<=m/\1<=k
 rest:∀j,o+k<=j+1->V a j=V p0 j
 asc:Qvr a i
 last:V a (i - 1)=V p0 (o+k - 1)
 mem:∀z,InTo a i z↔InTo p0 (o+k) z
def Qwf(ho:1<=o)(hm:o<m)(ha:Qvr p0 o)(he:V p0 o=V p0 (o - 1)):QnB p0 m o o 1 p0:=by
 refine⟨rfl,U,fun _ _=>rfl,ha,by rw[Ch];exact he.symm,fun z=>⟨?_,?_⟩⟩
 .rintro⟨k,hk,e⟩;exact⟨k,U,e⟩
 .rintro⟨k,hk,e⟩
  by_cases h:k=o
  .subst h;exact⟨k - 1,U,by rw[<-he];exact e⟩
  .exact⟨k,U,e⟩
def QAQ(h:QnB p0 m o i k a)(hk:o+k<m)(hml:m<=p0.length)(hs:Xp p0 m)(hne:V a (o+k)≠V a (o+k - 1)):QnB p0 m o (i+1) (k+1) (a.set i (V a (o+k))):=by
 have h1:=h.ik
 have h2:=h.len
 have e1:=h.rest (o+k) U
 have e2:=h.rest (o+k - 1) U
 have hlt:V p0 (o+k - 1)<V p0 (o+k):=by
  have:=hs (o+k - 1) (o+k) U hk
  rw[e1,e2]at hne;omega
 have hset:∀j,V (a.set i (V a (o+k))) j=if j=i then V p0 (o+k)else V a j:=fun j=>by rw[Ql8 U,e1]
 refine⟨by simp[h.len],U,fun j hj=>?_,fun j hj1 hj2=>?_,?_,fun z=>⟨?_,?_⟩⟩
 .rw[hset,iA U];exact h.rest j U
 .rw[hset,hset,iA (show j - 1≠i by omega)]
  by_cases e:j=i
  .rw[iB e,e,h.last];exact hlt
  .rw[iA e];exact h.asc j hj1 U
 .rw[hset,Ch,iB rfl,show o+(k+1) - 1=o+k by omega]
 .rintro⟨j,hj,e⟩
  rw[hset]at e
  split at e
  .exact⟨o+k,U,e⟩
  .obtain⟨j',hj',e'⟩:=(h.mem z).1 ⟨j,U,e⟩
   exact⟨j',U,e'⟩
 .rintro⟨j,hj,e⟩
  by_cases g:j=o+k
  .exact⟨i,U,by rw[hset,iB rfl,<-g];exact e⟩
  .obtain⟨j',hj',e'⟩:=(h.mem z).2 ⟨j,U,e⟩
   exact⟨j',U,by rw[hset,iA U];exact e'⟩
def QAR(h:QnB p0 m o i k a)(hk:o+k<m)(he:V a (o+k)=V a (o+k - 1)):QnB p0 m o i (k+1) a:=by
 have h1:=h.ik
 have e1:=h.rest (o+k) U
 have e2:=h.rest (o+k - 1) U
 have e3:V p0 (o+k)=V p0 (o+k - 1):=by rw[<-e1,<-e2];exact he
 refine⟨h.len,U,fun j hj=>h.rest j U,h.asc,by rw[h.last,show o+(k+1) - 1=o+k by omega];exact e3.symm,fun z=>⟨fun hz=>?_,?_⟩⟩
 .obtain⟨j',hj',e'⟩:=(h.mem z).1 hz
  exact⟨j',U,e'⟩
 .rintro⟨j,hj,e⟩
  by_cases g:j=o+k
  .exact(h.mem z).2 ⟨o+k - 1,U,by rw[<-e3,<-g];exact e⟩
  .exact(h.mem z).2 ⟨j,U,e⟩
open Go AM
def Qw0:Un 1000 x y=some (decide (x<y)):=by
 unfold Un Qby
 by_cases h:x<y<;>simp[O,cd,AM.C,h]
def QyY(hm:m<=l0.length)(hs:m<=900):
  Ok (Zi 1000 0 m l0 0 (m:Int)) fun r=>r.length=l0.length/\Xp r m/\∀z,InTo r m z↔InTo l0 m z:=by
 unfold Zi
 refine Ok.loop (fun q x=>∃(i:Nat) (a:Y Int),x=((0,m,0,(m:Int),(i:Int),()),a,())/\1<=i/\a.length=l0.length/\Xp a (min i m)/\(∀z,InTo a m z↔InTo l0 m z)/\q=m+1 - i) (m:=m) U
  ⟨1,l0,by rw[Qb U];rfl,U,rfl,fun a b h1 h2=>U,fun z=>Iff.rfl,U⟩ ?_
 rintro q x ⟨i,a,rfl,h1,h2,h3,h4,rfl⟩ K hK
 dsimp only
 refine Ok.ite (fun hi=>?_) (fun hi=>Ok.s ⟨h2,by rw[show min i m=m by omega]at h3;exact h3,h4⟩)
 have hlt:i<m:=U
 rw[show min i m=i by omega]at h3
 refine Ok.j ?_
 refine Ok.loop (fun q x=>∃j a',x=((0,m,0,(m:Int),(i:Int),((j:Nat):Int),()),a',())/\j<=i/\a'.length=l0.length/\QnA a' (i+1) j/\(∀z,InTo a' m z↔InTo l0 m z)/\q=j) (m:=i) U
  ⟨i,a,rfl,U,h2,Qj7 h3,h4,rfl⟩ ?_
 rintro q x ⟨j,a',rfl,g1,g2,g3,g4,hqj⟩ K2 hK2
 dsimp only
 have fin:(j=0\/V a' (j - 1)<=V a' j)->Ok (K ((0,m,0,(m:Int),J ((i:Int)+1),()),a',())) fun r=>r.length=l0.length/\Xp r m/\∀z,InTo r m z↔InTo l0 m z:=fun he=>by
  rw[Qa U]
  exact hK (m+1 - (i+1)) _ U ⟨i+1,a',rfl,U,g2,by rw[show min (i+1) m=i+1 by omega];exact QnK g3 he,g4,rfl⟩
 refine Ok.j (Ok.ite (fun hj=>?_) (fun hj=>fin (.inl U)))
 have hw:J ((j:Int) - 1)=((j - 1:Nat):Int):=by rw[Qb U];omega
 rw[hw]
 refine Ok.natn (Ok.E ?_)
 rw[Ah]
 refine Ok.G (Ok.natn (Ok.E ?_))
 rw[Ah]
 refine Ok.G (Ok.oe Qw0 (Ok.ite (fun hless=>?_) (fun hless=>fin (.inr U))))
 dsimp only
 rw[hw]
 refine Ok.natn (Ok.E ?_)
 rw[Ah]
 refine Ok.G (Ok.natn (Ok.E ?_))
 refine Ok.G (Ok.natn (Ok.E ?_))
 refine Ok.G (Ok.natn (Ok.E ?_))
 refine Ok.get (by simp;omega) ?_
 have hsw:(a'.set (0+j) (V a' (j - 1))).set (0+(j - 1)) (V a' (0+j))=QkM a' j:=by simp only[Ah];rfl
 rw[hsw]
 exact hK2 (j - 1) _ U ⟨j - 1,QkM a' j,rfl,U,by rw[QzD];exact g2,Qlq g3 U U U hless,fun z=>(QxT U U U).trans (g4 z),rfl⟩
def Qv6:∀m:Nat,m<13->(QbF 1000 (IntKind.wrap .u64 (m:Int))).isSome=true:=by decide
def QBR(hm:m<=l0.length)(hs:m<=12):
  Ok (W1 1000 0 m l0) fun r=>r.length=l0.length/\Xp r m/\∀z,InTo r m z↔InTo l0 m z:=by
 unfold W1
 rw[Br]
 obtain⟨bv,hb⟩:=Cl.1 (Qv6 m U)
 refine Ok.oe hb (Ok.opt (P:=fun r=>r.length=l0.length/\Xp r m/\∀z,InTo r m z↔InTo l0 m z) ?_ fun r hr=>Ok.ck hr.1 (Ok.s hr))
 unfold YW
 refine Ok.loop (fun q x=>x=((0,m,0,(m:Int),bv,true,true,()),l0,())) (m:=0) U rfl ?_
 rintro q x rfl K hK
 dsimp only
 refine Ok.p (by rw[Qb U];omega) (Ok.opt (QyY hm U) fun r hr=>Ok.ck hr.1 (Ok.s hr))
def Qup(hm:m<=l0.length)(hs:m<=900)(hl:l0.length<=34359738368)(hso:Xp l0 m):
  Ok (XC 1000 0 m l0) fun r=>r.1=0/\r.2.1<=m/\r.2.2.length=l0.length/\Asc (r.2.2.take r.2.1)/\∀z,z∈r.2.2.take r.2.1↔InTo l0 m z:=by
 have done:∀(a:Y Int) (i:Nat),a.length=l0.length->i<=m->Qvr a i->(∀z,InTo a i z↔InTo l0 m z)->Asc (a.take i)/\∀z,z∈a.take i↔InTo l0 m z:=fun a i h1 h2 h3 h4=>
  ⟨QnI U h3,fun z=>by rw[<-QtE U];exact h4 z⟩
 unfold XC
 rw[Br]
 refine Ok.ite (fun h=>Ok.s ⟨rfl,AN _,rfl,done l0 m rfl (AN _) (fun k h1 h2=>U) fun z=>Iff.rfl⟩) fun h=>?_
 refine Ok.loop (fun q x=>∃i:Nat,x=((0,m,(i:Int),()),l0,())/\1<=i/\i<=m/\Qvr l0 i/\q=m - i) (m:=m - 1) U ⟨1,rfl,U,U,fun k h1 h2=>U,rfl⟩ ?_
 rintro q x ⟨i,rfl,h1,h2,h3,rfl⟩ K hK
 dsimp only
 rw[Br]
 refine Ok.ite (fun hi=>?_) (fun hi=>?_)
 .have hw:J ((i:Int) - 1)=((i - 1:Nat):Int):=by rw[Qb U];omega
  rw[hw]
  refine Ok.natn (Ok.E ?_)
  rw[Ah]
  refine Ok.G (Ok.natn (Ok.E ?_))
  rw[Ah]
  refine Ok.G (Ok.ite (fun he=>?_) (fun hne=>?_))
  .refine Ok.natn (Ok.E ?_)
   rw[Ah,Ah]
   refine Ok.loop (fun q x=>∃(w k:Nat) (a:Y Int),x=((0,m,(w:Int),i,m,(k:Int),()),a,())/\QnB l0 m i w k a/\q=m - i - k) (m:=m - i - 1) U ⟨i,1,l0,rfl,Qwf h1 U h3 he,rfl⟩ ?_
   rintro q x ⟨w,k,a,rfl,hinv,rfl⟩ K2 hK2
   have hik:=hinv.ik
   have hal:=hinv.len
   dsimp only
   refine Ok.ite (fun hk=>?_) (fun hk=>?_)
   .have hw2:J ((k:Int) - 1)=((k - 1:Nat):Int):=by rw[Qb U];omega
    rw[hw2]
    refine Ok.j (Ok.natn (Ok.E (Ok.G (Ok.natn (Ok.E (Ok.G ?_))))))
    refine Ok.ite (fun hd=>?_) (fun hd=>?_)
    .refine Ok.natn (Ok.E (Ok.G (Ok.natn (Ok.E ?_))))
     rw[Ah]
     refine Ok.G ?_
     dsimp only
     rw[Qa U,Qa U]
     exact hK2 (m - i - (k+1)) _ U ⟨w+1,k+1,_,rfl,QAQ hinv U hm hso (by rw[show i+k - 1=i+(k - 1)by omega];exact hd),rfl⟩
    .dsimp only
     rw[Qa U]
     exact hK2 (m - i - (k+1)) _ U ⟨w,k+1,a,rfl,QAR hinv U (by rw[show i+k - 1=i+(k - 1)by omega];exact Ak.1 hd),rfl⟩
   .have ek:i+k=m:=U
    refine Ok.natn (Ok.E (Ok.L (Ok.L (Ok.natn (Ok.L (Ok.s ?_))))))
    simp only[Ah,Br,CK]
    have hd:=done a w hal U hinv.asc (by rw[<-ek];exact hinv.mem)
    have ht:(List.take w a++List.replicate (m - w) 0++List.drop m a).take w=a.take w:=by
     grind
    refine⟨trivial,U,by simp;omega,?_,?_⟩
    .rw[ht];exact hd.1
    .rw[ht];exact hd.2
  .rw[Qa U]
   have hlt:V l0 (i - 1)<V l0 i:=by
    have:=hso (i - 1) i U U;omega
   refine hK (m - (i+1)) _ U ⟨i+1,rfl,U,U,fun k a1 a2=>?_,rfl⟩
   by_cases e:k=i
   .subst e;exact hlt
   .exact h3 k a1 U
 .obtain rfl:i=m:=U
  exact Ok.s ⟨rfl,AN _,rfl,done l0 i rfl (AN _) h3 fun z=>Iff.rfl⟩
def inC(x:Int):AH:=decide (0<=x/\x<=3)
def pIn:Yx fu n lo hi=some (decide (lo<=n/\n<=hi)):=cnd2
def people1(h:Zg n c):Vh 1000 x c=some (!inC x):=by
 unfold Vh
 rw[h.plen,show J (((4:Nat):Int) - 1)=3 from rfl,pIn,Z0,Vq]
 rfl
def QAW(h:Zg n c)(hl:l0.length<=900):
  Ok (QS 1000 l0 c) fun r=>r.1=0/\r.2.1<=l0.length/\r.2.2.length=l0.length/\r.2.2.take r.2.1=l0.filter inC:=by
 unfold QS
 have hidx:Ok (QX 1000 l0 c) fun r=>r = -1/\(∀j,j<l0.length->inC (V l0 j)=true)\/∃i:Nat,r=(i:Int)/\i<l0.length/\inC (V l0 i)=false/\∀j,j<i->inC (V l0 j)=true:=by
  unfold QX
  refine Ok.scan l0.length (fun i=>(((l0.length:Int),(i:Int),()),c,l0,())) (fun i=>!inC (V l0 i)) rfl U (fun i hi hq hj k=>?_) (fun i hi hq k hk=>?_) (fun hq k=>?_)
  .refine Ok.P (Ok.natn (Ok.lt hi (Ok.get hi (Ok.oe (people1 h) (Ok.bt hq (Ok.TF (Ok.TF (Ok.s (.inr ⟨i,rfl,hi,by simpa using hq,fun j hj'=>by simpa using hj j hj'⟩)))))))))
  .refine Ok.P (Ok.natn (Ok.lt hi (Ok.get hi (Ok.oe (people1 h) (Ok.bf hq ?_)))))
   rw[Qa U];exact hk
  .exact Ok.N (Ok.TF (Ok.TF (Ok.s (.inl ⟨rfl,fun j hj=>by simpa using hq j hj⟩))))
 refine Ok.opt hidx fun r hr=>?_
 rcases hr with⟨rfl,hall⟩|⟨i,rfl,hi,hx,hj⟩
 .refine Ok.p rfl (Ok.TF (Ok.s ⟨rfl,AN _,rfl,?_⟩))
  have:=QjG (q:=inC) (AN _) hall
  grind
 .refine Ok.N ?_
  rw[Qa U]
  refine Ok.loop (fun q x=>∃(w j:Nat) (a:Y Int),x=(((w:Int),(j:Int),()),c,a,())/\Qld l0 inC w j a/\q=l0.length - j) (m:=l0.length - (i+1)) U ⟨i,i+1,l0,rfl,Qqy hi hj hx,rfl⟩ ?_
  rintro q x ⟨w,j,a,rfl,hinv,rfl⟩ K hK
  have h1:=hinv.wj
  have h2:=hinv.len
  dsimp only
  refine Ok.ite (fun hlt=>?_) (fun hge=>?_)
  .refine Ok.j (Ok.natn (Ok.E (Ok.G (Ok.oe (people1 h) ?_))))
   rw[EU]
   refine Ok.C (fun hq=>?_) (fun hq=>?_)
   .refine Ok.natn (Ok.E (Ok.G ?_))
    dsimp only
    rw[Qa U,Qa U]
    exact hK _ _ U ⟨w+1,j+1,_,rfl,Qtm hinv U hq,rfl⟩
   .dsimp only
    rw[Qa U]
    exact hK _ _ U ⟨w,j+1,a,rfl,Qtn hinv U hq,rfl⟩
  .have ej:j=l0.length:=U
   have hd:=hinv.done
   rw[ej,Ac]at hd
   refine Ok.natn (Ok.L (Ok.L (Ok.L (Ok.natn (Ok.LS (Ok.TF (Ok.s ?_)))))))
   grind
def QcJ(c:D.F)(b:D.b)(x:D.FL)(t:Int):Y Int:=if x.Z=0 then[x.FW]else if x.Z=1 then[whoV c x.FW t]else(V b.v x.FW.toNat).s
def Qy7(h:Zg n c)(hn:n<=48)(hb:QU b)(hx:UD b.v.length x):QcR 1000 c b x t=some (QcJ c b x t):=by
 have hpl:=h.plen;have hsl:=h.slen;have htl:=hb.tlen
 have h1:=hx.lo;have h2:=hx.person;have h3:=hx.sched;have h4:=hx.team
 have hsz:Vj 1000 c b=some ⟨4,2,(b.v.length:Int)⟩:=by unfold Vj;rw[hpl,hsl];rfl
 refine Ok.eq ?_
 unfold QcR QcJ
 refine Ok.j (Ok.oe pIn (Ok.p (by have:=hx.kind;omega) (Ok.oe hsz ?_)))
 dsimp only
 rcases hx.kind with hk|hk|hk
 .have:=h2 hk
  refine Ok.P (Ok.oe pIn (Ok.p (by rw[Qb U];omega) (Ok.N (Ok.N (Ok.s ?_)))))
  rw[iB hk]
 .have:=h3 hk
  refine Ok.N (Ok.P (Ok.oe pIn (Ok.p (by rw[Qb U];omega) (Ok.p hk (Ok.oe (QCO h hn) (Ok.s ?_))))))
  simp_all
 .have:=h4 hk
  refine Ok.N (Ok.N (Ok.P (Ok.oe pIn (Ok.p (by rw[Qb U];omega) (Ok.N (Ok.p hk (Ok.at h1 U (Ok.s ?_))))))))
  simp_all
def QjK(hb:QU b)(hx:UD b.v.length x):(QcJ c b x t).length<=2:=by
 unfold QcJ
 split
 .simp
 .split
  .simp
  .have h4:=hx.team (by have:=hx.kind;omega)
   have h1:=hx.lo
   exact(hb.team _ (Qf U)).len.2
def QnX(h:Zg n c)(hx:UD b.v.length x)(hz:0<=z/\z<=3):z∈QcJ c b x t↔z∈Qdu c b x t:=by
 unfold QcJ Qdu
 have h1:=hx.lo;have h4:=hx.team
 rcases hx.kind with hk|hk|hk
 .simp_all
 .grind
 .simp_all
def Qxc(h:Zg n c)(hn:n<=48)(hb:QU b)(hl:∀x∈l,UD b.v.length x)(hlen:l.length<=6):
  Ok (QbH 1000 c b l t) fun r=>r.1=0/\r.2.1<=r.2.2.length/\r.2.2.length<=12/\r.2.2.take r.2.1=VK c b l t:=by
 unfold QbH
 refine Ok.run l.length (fun i=>((t,l,(l.length:Int),(i:Int),()),c,b,(l.take i).flatMap (fun x=>QcJ c b x t),())) Ob U (fun i hi k hk=>?_) (fun k=>?_)
 .dsimp only
  have hx:=hl _ (Qf hi)
  have hle:((l.take i).flatMap (fun x=>QcJ c b x t)).length<=2*i:=by
   rw[E0]
   have:∀(m:Y D.FL),(∀x∈m,UD b.v.length x)->(m.map (fun x=>(QcJ c b x t).length)).sum<=2*m.length:=by
    intro m hm
    induction m with
    |nil=>simp
    |cons y m ih=>
     have h1:=QjK (c:=c) (t:=t) hb (hm y (BA ..))
     grind
   grind
  have hm2:=QjK (c:=c) (t:=t) hb hx
  refine Ok.P (Ok.atn hi (Ok.oe (Qy7 h hn hb hx) (Ok.L ?_)))
  rw[Qa U]
  have e:(l.take i).flatMap (fun x=>QcJ c b x t)++QcJ c b (V l i) t=(l.take (i+1)).flatMap (fun x=>QcJ c b x t):=by
   rw[<-Qp hi,List.flatMap_append];simp
  rw[e];exact hk
 .dsimp only
  rw[Ac]
  obtain⟨L0,hL0⟩:∃L0,l.flatMap (fun x=>QcJ c b x t)=L0:=⟨_,rfl⟩
  have hle:L0.length<=12:=by
   rw[<-hL0,E0]
   have:∀(m:Y D.FL),(∀x∈m,UD b.v.length x)->(m.map (fun x=>(QcJ c b x t).length)).sum<=2*m.length:=by
    intro m hm
    induction m with
    |nil=>simp
    |cons y m ih=>
     have h1:=QjK (c:=c) (t:=t) hb (hm y (BA ..))
     grind
   grind
  rw[hL0]
  refine Ok.N (Ok.opt (QAW h U) fun⟨a0,a1,a2⟩ ⟨g1,g2,g3,g4⟩=>?_)
  dsimp only at g1 g2 g3 g4 |-
  subst g1
  refine Ok.opt (QBR U U) fun r ⟨s1,s2,s3⟩=>Ok.ck s1 ?_
  refine Ok.opt (Qup U U U s2) fun⟨b0,b1,b2⟩ ⟨k1,k2,k3,k4,k5⟩=>Ok.s ?_
  dsimp only at k1 k2 k3 k4 k5 |-
  refine⟨k1,U,U,Qn2 k4 fun z=>?_⟩
  rw[k5,s3,QtE U,g4,Bl,<-hL0,List.mem_flatMap]
  unfold Means inC
  rw[BK]
  constructor
  .rintro⟨⟨x,hx1,hx2⟩,hz⟩
   exact⟨hz.1,U,x,hx1,(QnX h (hl x hx1) hz).1 hx2⟩
  .rintro⟨hz1,hz2,x,hx1,hx2⟩
   exact⟨⟨x,hx1,(QnX h (hl x hx1) ⟨hz1,U⟩).2 hx2⟩,hz1,U⟩
def Qm3:∀i,(Qan l x i).1.length<=2*i
 |0=>by simp[Qan]
 |i+1=>by
  have:=Qm3 (l:=l) (x:=x) i
  simp only[Qan,Ab]
  have h1:(if (Qan l x i).2=false/\x<=V l i then[x]else[]).length<=1:=by split<;>simp
  have h2:(if V l i≠x then[V l i]else[]).length<=1:=by split<;>simp
  omega
def QzQ(hl:l.length<=400):V6 1000 l x=some (QrT l x):=by
 refine Ok.eq ?_
 unfold V6
 refine Ok.run l.length (fun i=>((l,x,(Qan l x i).2,(i:Int),()),(Qan l x i).1,())) rfl U (fun i hi k hk=>?_) (fun k=>?_)
 .dsimp only
  have hlen:=Qm3 (l:=l) (x:=x) i
  rw[Qan]at hk
  refine Ok.P (Ok.j (Ok.j ?_))
  have fin:∀(d:AH) (o:Y Int),o.length<=2000->d=((Qan l x i).2 || decide (x<=V l i))->o=(Qan l x i).1++(if (Qan l x i).2=false/\x<=V l i then[x]else[])->
    Ok (TN l (i:Int) fun a17=>AM.C (decide (a17≠x)) (TN l (i:Int) fun a18=>AM.TO (o.length+[a18].length) 34359738368 (k ((l,x,d,J ((i:Int)+1),()),o++[a18],()))) (k ((l,x,d,J ((i:Int)+1),()),o,()))) (·=QrT l x):=fun d o ho hd he=>by
   rw[Qa U]
   rw[hd,he]
   refine Ok.atn hi (Ok.ite (fun h=>Ok.atn hi (Ok.TO (by rw[<-he];simp;omega) ?_)) (fun h=>?_))
   .simp_all
   .simp_all
  refine Ok.C (fun hd=>?_) (fun hd=>Ok.atn hi (Ok.ite (fun hx=>Ok.LS ?_) (fun hx=>?_)))
  .grind
  .grind
  .grind
 .dsimp only
  have hlen:=Qm3 (l:=l) (x:=x) l.length
  refine Ok.N (Ok.j (Ok.ncnd (fun hd=>Ok.LS (Ok.s ?_)) (fun hd=>Ok.s ?_)))
  .unfold QrT;rw[iA (by rw[hd];simp)]
  .unfold QrT;rw[iB hd]
def q25In:QJ fu n lo hi=some (decide (lo<=n/\n<=hi)):=cnd2
def QuF(hi:i<l.length):Means c b (l.take (i+1)) t z↔Means c b (l.take i) t z\/(0<=z/\z<4/\z∈Qdu c b (V l i) t):=by
 unfold Means
 rw[<-Qp hi]
 grind
def Qtb(h:Asc o)(hm:∀z∈o,0<=z/\z<4):o.length<=4:=by
 have e:o=([0,1,2,3]:Y Int).filter fun z=>o.contains z:=Qfg h (CQ _ asc4) fun z=>by
  grind
 grind
def QuN(h:Zg n c)(hn:n<=48)(hb:QU b)(hl:∀x∈l,UD b.v.length x)(hlen:l.length<=400):QdE 1000 c b l t=some (VK c b l t):=by
 have hpl:=h.plen;have hsl:=h.slen;have htl:=hb.tlen
 refine Ok.eq ?_
 unfold QdE
 refine Ok.run l.length (fun i=>((l,t,VK c b (l.take i) t,(i:Int),()),c,b,())) (by rw[Bd];rfl) U (fun i hi k hk=>?_) (fun k=>?_)
 .dsimp only
  have hx:=hl _ (Qf hi)
  obtain⟨x,hxx⟩:∃x,V l i=x:=⟨_,rfl⟩
  have hpe:=QhT (c:=c) (b:=b) (l:=l.take i) (t:=t)
  have hple:=QhU (c:=c) (b:=b) (l:=l.take i) (t:=t)
  have fin:∀o:Y Int,Asc o->(∀z,z∈o↔Means c b (l.take i) t z\/(0<=z/\z<4/\z∈Qdu c b x t))->Ok (k ((l,t,o,J ((i:Int)+1),()),c,b,())) (·=VK c b l t):=fun o ho hm=>by
   rw[Qa U,Qn2 ho (fun z=>by rw[hm,QuF hi,hxx])]
   exact hk
  have one:∀v,0<=v/\v<4->(∀z,0<=z/\z<4->(z∈Qdu c b x t↔z=v))->Ok (k ((l,t,QrT (VK c b (l.take i) t) v,J ((i:Int)+1),()),c,b,())) (·=VK c b l t):=fun v hv hm=>
   fin _ (QgY hpe).1 fun z=>by
    rw[(QgY hpe).2,Qcf]
    constructor
    .rintro(hz|rfl)
     .exact .inl hz
     .exact .inr ⟨hv.1,hv.2,(hm _ hv).2 rfl⟩
    .rintro(hz|⟨h1,h2,hz⟩)
     .exact .inl hz
     .exact .inr ((hm z ⟨h1,h2⟩).1 hz)
  have none_:(∀z,0<=z/\z<4->¬z∈Qdu c b x t)->Ok (k ((l,t,VK c b (l.take i) t,J ((i:Int)+1),()),c,b,())) (·=VK c b l t):=fun hm=>
   fin _ hpe fun z=>by
    rw[Qcf]
    exact⟨.inl,fun h=>h.elim id fun⟨h1,h2,hz⟩=>absurd hz (hm z ⟨h1,h2⟩)⟩
  rw[hxx]at hx
  rw[hpl,hsl]
  have h1:=hx.lo;have h2:=hx.person;have h3:=hx.sched;have h4:=hx.team
  refine Ok.P (Ok.j (Ok.atn hi ?_))
  rw[hxx]
  rcases hx.kind with hkd|hkd|hkd
  .have:=h2 hkd
   refine Ok.p hkd (Ok.oe q25In (Ok.p (by rw[Qb U];omega) (Ok.oe (QzQ U) ?_)))
   exact one _ ⟨h1,U⟩ fun z hz=>by unfold Qdu;rw[iB hkd];simp
  .have:=h3 hkd
   refine Ok.N (Ok.p hkd (Ok.oe q25In (Ok.p (by rw[Qb U];omega) (Ok.oe (QB2 h hn) ?_))))
   have hw:=QB3 h (i:=x.FW) (t:=t)
   refine Ok.ite (fun hge=>Ok.oe (QzQ U) ?_) (fun hlt=>?_)
   .exact one _ ⟨hge,hw.2⟩ fun z hz=>by unfold Qdu;rw[iA U,iB hkd,iA U];simp
   .exact none_ fun z hz=>by unfold Qdu;rw[iA U,iB hkd,iB U];simp
  .have:=h4 hkd
   refine Ok.N (Ok.N (Ok.p hkd (Ok.oe q25In (Ok.p (by rw[Qb U];omega) ?_))))
   obtain⟨tm,htm⟩:∃tm,V b.v x.FW.toNat=tm:=⟨_,rfl⟩
   have hteam:=hb.team _ (Qf (l:=b.v) (i:=x.FW.toNat) U)
   rw[htm]at hteam
   have hmv:Qdu c b x t=tm.s:=by unfold Qdu;rw[iA U,iA U,iB ⟨hkd,h1,h4 hkd⟩,htm]
   have hml:=hteam.len
   refine Ok.loop (fun q y=>∃(j:Nat) (o:Y Int),y=((l,t,o,(i:Int),(j:Int),()),c,b,x,())/\j<=tm.s.length/\Asc o/\(∀z,z∈o↔Means c b (l.take i) t z\/(0<=z/\z<4/\z∈tm.s.take j))/\q=tm.s.length - j) (m:=tm.s.length) U
    ⟨0,_,rfl,U,hpe,fun z=>by rw[Qcf];simp,U⟩ ?_
   rintro q y ⟨j,o,rfl,a1,a2,a4,rfl⟩ K hK
   have a3:=Qtb a2 (fun z hz=>by
    rcases(a4 z).1 hz with g|g
    .exact⟨g.1,g.2.1⟩
    .exact⟨g.1,g.2.1⟩)
   dsimp only
   refine Ok.at h1 U ?_
   rw[htm]
   refine Ok.ite (fun hj=>?_) (fun hj=>?_)
   .have hmem:=hteam.mem _ (Qf (l:=tm.s) (i:=j) U)
    refine Ok.j (Ok.at h1 U ?_)
    rw[htm]
    refine Ok.A ?_
    rw[hpl]
    refine Ok.oe q25In (Ok.p (by rw[Qb U];omega) (Ok.at h1 U ?_))
    rw[htm]
    refine Ok.A (Ok.oe (QzQ U) ?_)
    dsimp only
    rw[Qa U]
    refine hK _ _ U ⟨j+1,_,rfl,U,(QgY a2).1,fun z=>?_,rfl⟩
    rw[(QgY a2).2,a4,UO U]
    constructor
    .rintro((hz|⟨z1,z2,z3⟩)|rfl)
     .exact .inl hz
     .exact .inr ⟨z1,z2,.inl z3⟩
     .exact .inr ⟨hmem.1,hmem.2,.inr rfl⟩
    .rintro(hz|⟨z1,z2,z3|z3⟩)
     .exact .inl (.inl hz)
     .exact .inl (.inr ⟨z1,z2,z3⟩)
     .exact .inr z3
   .have ej:j=tm.s.length:=U
    rw[ej,Ac]at a4
    exact fin o a2 fun z=>by rw[a4,hmv]
 .dsimp only
  refine Ok.N (Ok.s ?_)
  rw[Ac]
def Qea(hl:l.length<=900):Qeo 1000 l x=some (l.contains x):=by
 refine Ok.eq ?_
 unfold Qeo
 refine Ok.scan l.length (fun i=>((l,x,(i:Int),()),())) (fun i=>decide (V l i=x)) rfl U (fun i hi hq _ k=>?_) (fun i hi hq k hk=>?_) (fun hq k=>?_)
 .have hq:=BF hq
  refine Ok.P (Ok.atn hi (Ok.p hq (Ok.s ?_)))
  exact(Bi.2 (hq ▸ Qf hi)).symm
 .have hq:=BM hq
  refine Ok.P (Ok.atn hi (Ok.n hq ?_))
  rw[Qa U];exact hk
 .refine Ok.N (Ok.s ?_)
  symm
  rw[C3]
  intro h
  obtain⟨i,hi,e⟩:=BZ (Bi.1 h)
  refine BM (hq i hi) ?_
  simpa [V,AQ,AR hi]using e
open Go AM
def Qfr[AK α]{l:Y α}(h:i<l.length):l.drop i=V l i::l.drop (i+1):=by
 rw[EG h]
 simp[V,AQ,AR h]
def ein:Q7 fu x lo hi=some (inV x lo hi):=by
 unfold Q7 inV
 by_cases h1:lo<=x<;>by_cases h2:x<=hi<;>simp[cd,AM.C,h1,h2]
def aiN:UE fu x lo hi=some (inV x lo hi):=by
 unfold UE inV
 by_cases h1:lo<=x<;>by_cases h2:x<=hi<;>simp[cd,AM.C,h1,h2]
def Qka{l:Y Int}{i:Nat}{x:Int}(hi:i<l.length)(h:decide (x=V l i)=true):l.contains x=true:=by
 rw[BF h];exact Bi.2 (Qf hi)
def QlA{l:Y Int}{x:Int}(h:∀j,j<l.length->decide (x=V l j)=false):l.contains x=false:=by
 cases hb:l.contains x with
 |false=>rfl
 |true=>
  obtain⟨j,hj,e⟩:=BZ (Bi.1 hb)
  have:=BM (h j hj)
  exact absurd (by simp[V,AQ,AR hj,e]) this
def Qd7(hl:l.length<900):Yo 1000 l x=some (l.contains x):=by
 refine Ok.eq ?_
 unfold Yo Qbm
 refine Ok.opt (P:=fun r=>decide (0<=r)=l.contains x) ?_ fun r hr=>Ok.s hr
 refine Ok.scan l.length (fun i=>((l,x,(l.length:Int),(i:Int),()),())) (fun i=>decide (x=V l i)) rfl U (fun i hi hq _ k=>?_) (fun i hi hq k hk=>?_) (fun hq k=>?_)
 .refine Ok.P (Ok.atn hi (Ok.bt hq (Ok.s ?_)))
  rw[Qka hi hq];simp
 .refine Ok.P (Ok.atn hi (Ok.bf hq ?_))
  rw[Qa U];exact hk
 .refine Ok.N (Ok.s ?_)
  rw[QlA hq];rfl
def QaW(hl:l.length<900):Zw 1000 l x=some (l.contains x):=by
 refine Ok.eq ?_
 unfold Zw Qad
 refine Ok.opt (P:=fun r=>decide (0<=r)=l.contains x) ?_ fun r hr=>Ok.TF (Ok.s hr)
 refine Ok.scan l.length (fun i=>((x,(l.length:Int),(i:Int),()),l,())) (fun i=>decide (x=V l i)) rfl U (fun i hi hq _ k=>?_) (fun i hi hq k hk=>?_) (fun hq k=>?_)
 .refine Ok.P (Ok.natn (Ok.lt hi (Ok.get hi (Ok.bt hq (Ok.TF (Ok.s ?_))))))
  rw[Qka hi hq];simp
 .refine Ok.P (Ok.natn (Ok.lt hi (Ok.get hi (Ok.bf hq ?_))))
  rw[Qa U];exact hk
 .refine Ok.N (Ok.TF (Ok.s ?_))
  rw[QlA hq];rfl
def badS(l:Y Int)(i:Nat):AH:=!(decide (0<=V l i) && decide (V l i<=31) && (decide (i=0) || decide (V l (i - 1)<V l i)))
def Qt4(hi:i<l.length)(h:badS l i=true):setV l=false:=by
 cases hb:setV l with
 |false=>rfl
 |true=>
  have hs:=QaH.1 hb
  have h1:=hs.2 _ (Qf hi)
  have h2:0<i->V l (i - 1)<V l i:=fun h0=>Qjt hs.1 U hi
  unfold badS at h
  grind
def QrH(h:∀j,j<l.length->badS l j=false):setV l=true:=by
 have hk:∀j,j<l.length->0<=V l j/\V l j<=31/\(j=0\/V l (j - 1)<V l j):=fun j hj=>by
  have:=h j hj
  unfold badS at this
  grind
 refine QaH.2 ⟨?_,fun x hx=>?_⟩
 .have:=QnI (l:=l) (n:=l.length) (AN _) fun k h1 h2=>by have:=(hk k h2).2.2;omega
  simp_all
 .obtain⟨j,hj,e⟩:=BZ hx
  have:=hk j hj
  rw[show V l j=x by simp[V,AQ,AR hj,e]]at this
  omega
def QAc(hl:l.length<900):QaY 1000 l=some (setV l):=by
 refine Ok.eq ?_
 unfold QaY
 refine Ok.scan l.length (fun i=>((l,l,(l.length:Int),(i:Int),()),())) (badS l) rfl U (fun i hi hq _ k=>?_) (fun i hi hq k hk=>?_) (fun hq k=>?_)
 .refine Ok.P (Ok.j (Ok.atn hi (Ok.oe ein ?_)))
  rw[Qt4 hi hq]
  refine Ok.C (fun h1=>?_) (fun h1=>Ok.s rfl)
  by_cases h0:0<i
  .refine Ok.P ?_
   rw[show J ((i:Int) - 1)=((i - 1:Nat):Int)by rw[Qb U];omega]
   refine Ok.A (Ok.p ?_ (Ok.s rfl))
   unfold badS at hq
   unfold inV at h1
   simp_all
  .unfold badS at hq
   unfold inV at h1
   simp_all
 .refine Ok.P (Ok.j (Ok.atn hi (Ok.oe ein ?_)))
  unfold badS at hq
  simp only[Cm,bae,Bz,BK]at hq
  refine Ok.bt (by unfold inV;simp[hq.1.1,hq.1.2]) ?_
  dsimp only
  rw[Qa U]
  by_cases h0:0<i
  .refine Ok.P ?_
   rw[show J ((i:Int) - 1)=((i - 1:Nat):Int)by rw[Qb U];omega]
   exact Ok.A (Ok.N hk)
  .exact Ok.N hk
 .exact Ok.N (Ok.s (QrH hq).symm)
def Qk8{l:Y Int}(hi:i<l.length)(h:(l.take i).contains (V l i)=true):decide l.Nodup=false:=by
 refine Au fun hn=>?_
 have hm:=Bi.1 h
 have e:l=l.take i++(V l i::l.drop (i+1)):=by rw[<-Qfr hi,B2]
 grind
def QrG{l:Y Int}(h:∀j,j<l.length->(l.take j).contains (V l j)=false):l.Nodup:=by
 have:∀i,i<=l.length->(l.take i).Nodup:=by
  intro i
  induction i with
  |zero=>intro _;simp
  |succ i ih=>
   intro hi
   rw[Qae U]
   grind
 have:=this l.length (AN _)
 simp_all
def QBL(hl:l.length<900):QbB 1000 l=some (Qnu l):=by
 refine Ok.eq ?_
 unfold QbB Qnu
 refine Ok.scan l.length (fun i=>((l,l,(l.length:Int),(i:Int),()),())) (fun i=>(l.take i).contains (V l i)) rfl U (fun i hi hq _ k=>?_) (fun i hi hq k hk=>?_) (fun hq k=>?_)
 .refine Ok.P (Ok.atn hi (Ok.natn (Ok.L (Ok.oe (Qd7 (by simp;omega)) (Ok.bt hq (Ok.s ?_))))))
  rw[Qk8 hi hq];rfl
 .refine Ok.P (Ok.atn hi (Ok.natn (Ok.L (Ok.oe (Qd7 (by simp;omega)) (Ok.bf hq ?_)))))
  rw[Qa U];exact hk
 .refine Ok.N (Ok.s ?_)
  rw[Ax (QrG hq),B8]
  grind
structure QC (p:D.Page):Prop where
 st:p.P.length<=300
 pe:∀s∈p.P,s.l.length<=40/\-1000000<=s.K/\s.K<=1000000
 de:p.i.length<=40
 se:p.h.length<=100
 nx : -1000000<=p.E7/\p.E7<=1000000
def Qvd(h:QC p):V1 1000 p=some (Qia p):=by
 have hst:=h.st
 have hnx:=h.nx
 refine Ok.eq ?_
 unfold V1 Qia
 refine Ok.loop (fun m x=>∃(i:Nat) (k t:Int),x=((t,k,p.P,(p.P.length:Int),(i:Int),()),p,())/\i<=p.P.length/\-1<=k/\k<=1000000/\WQ p.E7 k t (p.P.drop i)=WQ p.E7 (-1) p.T p.P/\m=p.P.length - i) (m:=p.P.length) U
  ⟨0,-1,p.T,rfl,U,U,U,rfl,rfl⟩ ?_
 rintro m x ⟨i,k,t,rfl,h1,h2,h2',h3,rfl⟩ K hK
 dsimp only
 refine Ok.ite (fun hi=>?_) (fun hi=>?_)
 .have hlt:i<p.P.length:=U
  have hs:=h.pe _ (Qf hlt)
  refine Ok.atn hlt (Ok.j ?_)
  obtain⟨s,hse⟩:∃s,V p.P i=s:=⟨_,rfl⟩
  rw[Qfr hlt,WQ,hse]at h3
  rw[hse]at hs |-
  rw[<-h3]
  have next:(decide (t<=s.At) && (decide (s.K = -1) || decide (0<=s.K) && decide (k<s.K) && decide (s.K<p.E7)) && setV s.l)=true->
    Ok (K ((s.At,max k s.K,p.P,(p.P.length:Int),J ((i:Int)+1),()),p,())) (·=(decide (t<=s.At) && (decide (s.K = -1) || decide (0<=s.K) && decide (k<s.K) && decide (s.K<p.E7)) && setV s.l && WQ p.E7 (max k s.K) s.At (p.P.drop (i+1)) && decide (p.P.length<=200))):=fun e=>by
   rw[Qa U,h3]
   rw[e,B8]at h3
   exact hK _ _ U ⟨i+1,max k s.K,s.At,rfl,U,U,U,h3,rfl⟩
  refine Ok.ite (fun g1=>Ok.s (by rw[Au (show ¬t<=s.At by omega)];simp)) fun g1=>?_
  refine Ok.oe (QAc U) (Ok.C (fun g2=>?_) (fun g2=>Ok.s (by rw[g2];simp)))
  refine Ok.ite (fun g3=>?_) (fun g3=>?_)
  .rw[Qb (x:=k+1) U,Qb (x:=p.E7 - 1) U]
   refine Ok.oe ein (Ok.C (fun g4=>?_) (fun g4=>?_))
   .unfold inV at g4
    grind
   .refine Ok.s ?_
    have:(decide (s.K = -1) || decide (0<=s.K) && decide (k<s.K) && decide (s.K<p.E7))=false:=by
     unfold inV at g4
     grind
    rw[this];simp
  .grind
 .have e:i=p.P.length:=U
  refine Ok.s ?_
  subst e
  rw[List.drop_length,WQ]at h3
  grind
def QzH:QaO 1000 p=some (inV p.FM p.T farV && inV p.FJ 0 farV && inV p.FK 0 farV && inV p.E6 0 4 && inV p.FI 0 4):=by
 refine Ok.eq ?_
 unfold QaO
 refine Ok.oe ein (Ok.C (fun h1=>Ok.oe ein (Ok.C (fun h2=>Ok.oe ein (Ok.C (fun h3=>Ok.oe ein (Ok.C (fun h4=>Ok.oe ein (Ok.C (fun h5=>Ok.s ?_) (fun h5=>Ok.s ?_))) (fun h4=>Ok.s ?_))) (fun h3=>Ok.s ?_))) (fun h2=>Ok.s ?_))) (fun h1=>Ok.s ?_))
 all_goals simp_all [farV]
def QoG(h:Qdl n q):Vg 1000 q=some (YK q):=by
 have h1:=h.rep
 have h2:=h.len
 refine Ok.eq ?_
 unfold Vg
 refine Ok.j (Ok.oe pIn (Ok.P (Ok.N (Ok.s ?_))))
 rw[(Yv h).1,Qb (x:=q.Fh+1) U,Qb]
 have h3:q.Fh=0\/q.Fh=1\/q.Fh=2:=U
 grind
def Qon(h:Qdl n q):QrR q=true:=by
 unfold QrR
 rw[AW]
 intro s hs
 have:=(h.step s hs).wait
 simp;omega
def Qx4(h:Qdl n q):Qr 1000 q.Steps=some false:=by
 have h2:=h.len
 refine Ok.eq ?_
 unfold Qr Q4
 refine Ok.opt (P:=fun r=>r = -1) ?_ fun r hr=>Ok.s (by rw[hr];rfl)
 refine Ok.run q.Steps.length (fun i=>((q.Steps,(q.Steps.length:Int),(i:Int),()),())) rfl U (fun i hi k hk=>?_) (fun k=>?_)
 .have hw:=(h.step _ (Qf hi)).wait
  refine Ok.P (Ok.atn hi (Ok.oe (v:=false) ?_ (Ok.f ?_)))
  .unfold Qbi
   rw[ein,Z0]
   unfold inV;simp;omega
  .rw[Qa U];exact hk
 .exact Ok.N (Ok.s rfl)
def QkP(hb:QU b)(h:QC p):Yq 1000 b p=some (QG b p):=by
 have hpl:=hb.plen
 refine Ok.eq ?_
 unfold Yq
 refine Ok.j (Ok.oe ein (Ok.C (fun h1=>?_) (fun h1=>Ok.s (by simp[QG,h1]))))
 rw[Qb (x:=(b.k.length:Int) - 1) U]
 refine Ok.oe ein (Ok.C (fun h2=>?_) (fun h2=>Ok.s (by simp[QG,h2])))
 refine Ok.oe ein (Ok.C (fun h3=>?_) (fun h3=>Ok.s (by simp[QG,h3])))
 have h2':=h2
 unfold inV at h2'
 simp only[bae,BK]at h2'
 refine Ok.at h2'.1 U (Ok.j ?_)
 have hq:Qdl b.v.length (Xf b p):=hb.pol _ (Qf U)
 have hw:=Qon hq
 show Ok (O (Qr 1000 (Xf b p).Steps) _) _
 refine Ok.oe (Qx4 hq) (Ok.f (Ok.oe (QoG hq) (Ok.oe ein ?_)))
 refine Ok.C (fun h4=>?_) (fun h4=>Ok.s (by have h4:inV p.E7 0 (YK (Xf b p))=false:=h4;simp[QG,h4]))
 have h4:inV p.E7 0 (YK (Xf b p))=true:=h4
 refine Ok.oe ein (Ok.C (fun h5=>?_) (fun h5=>Ok.s (by simp[QG,h5])))
 refine Ok.oe ein (Ok.C (fun h6=>?_) (fun h6=>Ok.s (by simp[QG,h6])))
 refine Ok.oe QzH (Ok.C (fun h7=>?_) (fun h7=>Ok.s ?_))
 .refine Ok.oe (Qvd h) (Ok.C (fun h8=>?_) (fun h8=>Ok.s (by simp[QG,h8])))
  have hde:=h.de;have hse:=h.se
  refine Ok.oe (QAc U) (Ok.C (fun h9=>?_) (fun h9=>Ok.s (by simp[QG,h9])))
  refine Ok.oe (QBL U) ?_
  simp only[bae]at h7
  exact Ok.C (fun h10=>Ok.s (by simp[QG,h1,h2,h3,hw,h4,h5,h6,h7,h8,h9,h10])) (fun h10=>Ok.s (by simp[QG,h10]))
 .symm
  unfold QG
  simp_all
def Qua:QaU 1000 a=some (YY a):=by
 refine Ok.eq ?_
 unfold QaU
 refine Ok.j ?_
 refine Ok.ite (fun k3=>?_) (fun k3=>?_)
 .refine Ok.oe aiN (Ok.C (fun h1=>Ok.oe aiN (Ok.C (fun h2=>Ok.oe aiN (Ok.C (fun h3=>Ok.oe aiN (Ok.C (fun h4=>Ok.oe aiN (Ok.C (fun h5=>Ok.oe aiN (Ok.C (fun h6=>Ok.s ?_) (fun h6=>Ok.s ?_))) (fun h5=>Ok.s ?_))) (fun h4=>Ok.s ?_))) (fun h3=>Ok.s ?_))) (fun h2=>Ok.s ?_))) (fun h1=>Ok.s ?_))
  all_goals (unfold YY;rw[iB k3];simp_all)
 .refine Ok.ite (fun k4=>?_) (fun k4=>?_)
  .refine Ok.oe aiN (Ok.C (fun h1=>Ok.oe aiN (Ok.C (fun h2=>Ok.oe aiN (Ok.C (fun h3=>Ok.oe aiN (Ok.C (fun h4=>Ok.oe aiN (Ok.C (fun h5=>Ok.oe aiN (Ok.C (fun h6=>Ok.s ?_) (fun h6=>Ok.s ?_))) (fun h5=>Ok.s ?_))) (fun h4=>Ok.s ?_))) (fun h3=>Ok.s ?_))) (fun h2=>Ok.s ?_))) (fun h1=>Ok.s ?_))
   all_goals (unfold YY;rw[iA k3,iB k4];simp_all)
  .have e0:inV a.Fo 0 0=decide (a.Fo=0):=by unfold inV;by_cases h:a.Fo=0<;>simp[h];omega
   refine Ok.oe aiN (Ok.C (fun h1=>Ok.oe aiN (Ok.C (fun h2=>Ok.oe aiN (Ok.C (fun h3=>Ok.oe aiN (Ok.C (fun h4=>Ok.oe aiN (Ok.C (fun h5=>Ok.oe aiN (Ok.C (fun h6=>Ok.s ?_) (fun h6=>Ok.s ?_))) (fun h5=>Ok.s ?_))) (fun h4=>Ok.s ?_))) (fun h3=>Ok.s ?_))) (fun h2=>Ok.s ?_))) (fun h1=>Ok.s ?_))
   all_goals (unfold YY;rw[iA k3,iA k4,<-e0];simp_all)
section
def Qt2{R:D.Page->Prop}(hb:QU b)(hQ:Qkr Q M c b)(hs:∀q,QN Q M b q->Yp q now=true->R q->R (stepQ c b q)):∀(n:Nat) {p:D.Page},QN Q M b p->R p->R (runN c b now n p).1
 |0,p,h,hr=>hr
 |n+1,p,h,hr=>by
  rw[runN]
  split
  .rename_i hw
   have hd:=Qbf hw
   rw[h.stepVis hb hd.1,iA Ob]
   exact Qt2 hb hQ hs n (h.stepQ_inv hb hd.1 (hQ p h)) (hs p h hw hr)
  .exact hr
def Qk7{R:D.Page->Prop}(hb:QU b)(hQ:Qkr Q M c b)(hs:∀q,QN Q M b q->Yp q now=true->R q->R (stepQ c b q))(h:QN Q M b p)(hr:R p):R (runV c b p now).1:=by
 rw[QjX (h.check hb)]
 exact Qt2 hb hQ hs 100 h hr
structure Kept (p q:D.Page):Prop where
 id:q.S=p.S
 pol:q.W=p.W
 start:q.T=p.T
 by_:q.By=p.By
 until_:q.FK=p.FK
 snoozes:q.E6=p.E6
 hands:q.FI=p.FI
 seen:q.h=p.h
def Kept.refl(p):Kept p p:=⟨rfl,rfl,rfl,rfl,rfl,rfl,rfl,rfl⟩
def Kept.step{b:D.b}{p q:D.Page}{c:D.F}(h:Kept p q):Kept p (stepQ c b q):=by
 obtain⟨h1,h2,h3,h4,h5,h6,h7,h8⟩:=h
 unfold stepQ
 split
 .exact⟨h1,h2,h3,h4,h5,h6,h7,h8⟩
 .split<;>exact⟨h1,h2,h3,h4,h5,h6,h7,h8⟩
def Qf9(hb:QU b)(hQ:Qkr Q M c b)(h:QN Q M b p):Kept p (runV c b p now).1:=
 Qk7 hb hQ (fun q _ _ hr=>hr.step) h (Kept.refl p)
def QxS(hw:Yp q now=true)(h:q.FM<=now):(stepQ c b q).FM<=now:=by
 have hd:=Qbf hw
 have hs:=Qfs hd.1
 have h2:=hd.2
 unfold dueV at h2
 unfold stepQ
 grind
def QxE(hb:QU b)(hQ:Qkr Q M c b)(h:QN Q M b p)(hl:p.FM<=now):(runV c b p now).1.FM<=now:=
 Qk7 (R:=fun q=>q.FM<=now) hb hQ (fun q _ hw hr=>QxS hw hr) h hl
def QlE(h:p.p=0):dueV p=(p.FJ,true):=by unfold dueV;rw[iB h]
def Qqz(h:p.p=2):dueV p=(p.FK,true):=by unfold dueV;rw[iA U,iB h]
def Qrw(h:Wr p a=0):p.FM<=a.At/\Yp p a.At=false/\p.p≠4/\(p.p=3->a.Z=5)/\(p.p=1->a.Z≠2)/\p.h.length≠64:=by
 revert h
 unfold Wr
 grind
def Qjr:(XL p a).S=p.S/\(XL p a).W=p.W/\(XL p a).T=p.T/\(XL p a).E7=p.E7:=by
 unfold XL;repeat' split
 all_goals simp_all
def Qqc(h:p.FM<=a.At):(XL p a).FM<=a.At:=by
 unfold XL;repeat' split
 all_goals simp_all
def Qlg:(a.Z=4->(XL p a).P=p.P++[⟨-1,a.At,[a.Fo]⟩])/\(a.Z≠4->(XL p a).P=p.P):=by
 unfold XL
 grind
end
def kN(l:Y D.T)(i:Nat):Int:=(((l.take i).filter fun s=>decide (0<=s.K)).length:Int)
def tN(st:Int)(l:Y D.T)(i:Nat):Int:=if i=0 then st else(V l (i - 1)).At
def QfE[AK α]{l m:Y α}(h:i<l.length):V (l++m) i=V l i:=by
 simp[V,AQ,BN h]
def QiH[AK α]{l:Y α}{x:α}:V (l++[x]) l.length=x:=by
 simp[V,AQ]
def QtG(h:i<=l.length):kN (l++m) i=kN l i:=by
 unfold kN;rw[List.take_append_of_le_length h]
def QwR:kN (l++[x]) (l.length+1)=kN l l.length+(if 0<=x.K then 1 else 0):=by
 unfold kN
 grind
def Qt6(h:i<=l.length):tN st (l++m) i=tN st l i:=by
 unfold tN
 split
 .rfl
 .rw[QfE U]
def QxV:tN st l (i+1)=(V l i).At:=by unfold tN;rw[iA U];rfl
def Goes.scan(g:Goes Q st l k t h):kN l l.length=k/\tN st l l.length=t/\
  ∀i,i<l.length->tN st l i<=(V l i).At/\setV (V l i).l=true/\((V l i).K = -1/\0<i\/(V l i).K=kN l i/\0<=(V l i).K/\Q (V l i))/\(i=0->(V l i).At=st):=by
 induction g with
 |nil=>exact⟨rfl,rfl,fun i hi=>by simp at hi⟩
 |@step l k t h a P g h1 h2 h3 h4 ih=>
  obtain⟨i1,i2,i3⟩:=ih
  have hp:=g.pos
  refine⟨by rw[Ab,B7,QwR,i1,iB (by dsimp only;omega)],by rw[Ab,B7,QxV,QiH],fun i hi=>?_⟩
  by_cases e:i=l.length
  .subst e
   rw[QiH,Qt6 (AN _),QtG (AN _),i1,i2]
   simp_all
  .have hi':i<l.length:=by rw[Ab,B7]at hi;omega
   rw[QfE hi',Qt6 U,QtG U]
   exact i3 i hi'
 |@hand l k t h a x g h1 h2 h3 h4 ih=>
  obtain⟨i1,i2,i3⟩:=ih
  have hne:l.length≠0:=fun e=>h2 (List.length_eq_zero_iff.1 e)
  refine⟨by rw[Ab,B7,QwR,i1,iA Ob];simp,by rw[Ab,B7,QxV,QiH],fun i hi=>?_⟩
  by_cases e:i=l.length
  .subst e
   rw[QiH,Qt6 (AN _),QtG (AN _),i2]
   exact⟨h1,Qt5 h3 h4,.inl ⟨rfl,U⟩,fun e=>absurd e hne⟩
  .have hi':i<l.length:=by rw[Ab,B7]at hi;omega
   rw[QfE hi',Qt6 U,QtG U]
   exact i3 i hi'
open Go AM
section
variable {R zF zB:Type} {Q:R->Prop}
def AM.Ok.run2{B:(zF×zB->I R)->zF×zB->I R}(n:Nat)(st:Nat->zF){r:zB}{fu:Nat}{x:zF}(hx:x=st 0)(hf:n<fu)(hs:∀i,i<n->∀k,(Ok (k (st (i+1),r)) Q->Ok (B k (st i,r)) Q))(h:∀k,Ok (B k (st n,r)) Q):Ok (Qe B fu (x,r)) Q:=
 Ok.run n (fun i=>(st i,r)) (by rw[hx]) hf hs h
def AM.Ok.scan2{B:(zF×zB->I R)->zF×zB->I R}(n:Nat)(st:Nat->zF){r:zB}(q:Nat->AH){fu:Nat}{x:zF}(hx:x=st 0)(hf:n<fu)(hy:∀i,i<n->q i=true->(∀j,j<i->q j=false)->∀k,Ok (B k (st i,r)) Q)(hn:∀i,i<n->q i=false->∀k,(Ok (k (st (i+1),r)) Q->Ok (B k (st i,r)) Q))(he:(∀j,j<n->q j=false)->∀k,Ok (B k (st n,r)) Q):Ok (Qe B fu (x,r)) Q:=
 Ok.scan n (fun i=>(st i,r)) q (by rw[hx]) hf hy hn he
end
def QpU[AK α]{l:Y α}(h:i<l.length):l.set i (V l i)=l:=by
 have e:V l i=l[i]:=by simp[V,AQ,AR h]
 rw[e];exact List.set_getElem_self h
def asc32:Asc ((List.range 32).map fun(i:Nat)=>(i:Int)):=by unfold Asc;decide
structure CkF (b:D.b) (p:D.Page):Prop where
 id:1<=p.S/\p.S<=999999
 pol:0<=p.W/\p.W<(b.k.length:Int)
 start:0<=p.T/\p.T<=8589934592
 next:0<=p.E7/\p.E7<=YK (Xf b p)
 state:0<=p.p/\p.p<=4
 by_ : -1<=p.By/\p.By<=31
 last:p.T<=p.FM/\p.FM<=farV
 due:0<=p.FJ/\p.FJ<=farV
 until_:0<=p.FK/\p.FK<=farV
 snoozes:0<=p.E6/\p.E6<=4
 hands:0<=p.FI/\p.FI<=4
 starts:p.P.length<=200
 declined:setV p.i=true
 seen:p.h.Nodup/\p.h.length<=64
section
variable {n:Nat} {c:D.F} {b:D.b} {p q:D.Page} {now:Int}
def Yc(h:QG b p=true):CkF b p:=by
 unfold QG Qia Qnu at h
 simp only[bae,Qu,BK]at h
 obtain⟨⟨⟨⟨⟨⟨⟨⟨⟨⟨⟨⟨⟨⟨h1,h2⟩,h3⟩,h4⟩,h5⟩,h6⟩,h7⟩,h8⟩,h9⟩,h10⟩,h11⟩,h12⟩,h13⟩,h14⟩,h15⟩:=h
 exact⟨h1,U,h3,h5,h6,h7,h8,h9,h10,h11,h12,h13.2,h14,h15⟩
def CkF.polOK(h:CkF b p)(hb:QU b):Qdl b.v.length (Xf b p):=hb.pol _ (Qf (by have:=h.pol;omega))
def QC.stepQ(h:QC p)(hc:CkF b p)(hb:QU b):QC (stepQ c b p):=by
 have h1:=hc.starts;have h2:=hc.next
 have h3:=Yv (hc.polOK hb)
 unfold Go.Proofs.YtlllfgmajglnhaaGreat.stepQ
 split
 .exact⟨h.st,h.pe,h.de,h.se,h.nx⟩
 .split
  .exact⟨h.st,h.pe,h.de,h.se,h.nx⟩
  .refine⟨by dsimp only;simp;omega,?_,by dsimp only;simp,h.se,by dsimp only;omega⟩
   refine V5 h.pe ⟨?_,by dsimp only;omega,by dsimp only;omega⟩
   have:=Qqm (c:=c) (b:=b) (s:=Zz b p) (t:=p.FJ)
   dsimp only;omega
def QC.page0:QC page0:=⟨by simp[Go.Proofs.YtlllfgmajglnhaaGreat.page0],by simp[Go.Proofs.YtlllfgmajglnhaaGreat.page0],by simp[Go.Proofs.YtlllfgmajglnhaaGreat.page0],by simp[Go.Proofs.YtlllfgmajglnhaaGreat.page0],by simp[Go.Proofs.YtlllfgmajglnhaaGreat.page0]⟩
def QC.stepV(h:QC p)(hb:QU b):QC (stepV c b p).1:=by
 unfold Go.Proofs.YtlllfgmajglnhaaGreat.stepV
 split
 .exact .page0
 .rename_i hc
  split
  .exact .page0
  .split
   .exact .page0
   .exact h.stepQ (Yc (by simpa using hc)) hb
def QC.runN(hb:QU b):∀(k:Nat) {p:D.Page},QC p->QC (runN c b now k p).1
 |0,p,h=>h
 |k+1,p,h=>by
  rw[Go.Proofs.YtlllfgmajglnhaaGreat.runN]
  split
  .split
   .exact .page0
   .exact QC.runN hb k (h.stepV hb)
  .exact h
def QC.runV(h:QC p)(hb:QU b):QC (runV c b p now).1:=by
 unfold Go.Proofs.YtlllfgmajglnhaaGreat.runV
 split
 .exact .page0
 .exact QC.runN hb 100 h
def QC.answerV{a:D.a}(h:QC p)(hb:QU b):QC (answerV b p a).1:=by
 unfold Go.Proofs.YtlllfgmajglnhaaGreat.answerV
 split
 .exact .page0
 .rename_i hc
  have hf:CkF b p:=Yc (by cases hk:QG b p<;>simp_all)
  have hx:=hf.starts;have hs:=hf.seen
  split
  .exact .page0
  .split
   .exact h
   .split
    .exact .page0
    .have hd:(Qai p a).length<=40:=by
      unfold Qai
      split
      .have hde:=QaH.1 hf.declined
       have h32:(QiM p.i a.R).length<=p.i.length+1:=by
        unfold QiM
        rw[Ab,Ad]
        have hsum:∀l:Y Int,(l.filter (fun z=>decide (z<a.R))).length+(l.filter (fun z=>decide (a.R<z))).length<=l.length:=by
         intro l
         induction l with
         |nil=>simp
         |cons y l ih=>
          rw[List.filter_cons,List.filter_cons,Ad]
          by_cases g1:y<a.R
          .rw[iB (by simpa using g1),iA (by simp;omega),Ad];omega
          .by_cases g2:a.R<y
           .rw[iA (by simpa using g1),iB (by simpa using g2),Ad];omega
           .rw[iA (by simpa using g1),iA (by simpa using g2)];omega
        have:=hsum p.i
        omega
       have hlen:p.i.length<=32:=by
        have e:p.i=((List.range 32).map fun(i:Nat)=>(i:Int)).filter fun z=>p.i.contains z:=Qfg hde.1 (CQ _ asc32) fun z=>by
         simp only[Bl,Bi,BQ,Ce]
         exact⟨fun hz=>⟨⟨z.toNat,by have:=hde.2 z hz;omega,by have:=hde.2 z hz;omega⟩,hz⟩,fun hz=>hz.2⟩
        rw[e]
        exact AY (CR _ _) Ob
       omega
      .exact h.de
     have hse:(p.h++[a.S]).length<=100:=by simp;omega
     unfold XL
     split
     .split
      .exact⟨h.st,h.pe,h.de,hse,h.nx⟩
      .exact⟨h.st,h.pe,h.de,hse,h.nx⟩
     .split
      .exact⟨h.st,h.pe,hd,hse,h.nx⟩
      .split
       .exact⟨h.st,h.pe,h.de,hse,h.nx⟩
       .split
        .exact⟨by dsimp only;simp;omega,V5 h.pe ⟨Ob,by dsimp only;omega,by dsimp only;omega⟩,by dsimp only;simp,hse,h.nx⟩
        .exact⟨h.st,h.pe,h.de,hse,h.nx⟩
def QN.plen(h:QN Q M b p)(hb:QU b):QC p:=by
 obtain⟨h1,h2,h3⟩:=h.len hb
 have hf:=Yc (h.check hb)
 have hc:=Yv (h.polOK hb)
 have hlen:∀{l:Y Int},setV l=true->l.length<=40:=by
  intro l hl
  have hde:=QaH.1 hl
  have e:l=((List.range 32).map fun(i:Nat)=>(i:Int)).filter fun z=>l.contains z:=Qfg hde.1 (CQ _ asc32) fun z=>by
   simp only[Bl,Bi,BQ,Ce]
   exact⟨fun hz=>⟨⟨z.toNat,by have:=hde.2 z hz;omega,by have:=hde.2 z hz;omega⟩,hz⟩,fun hz=>hz.2⟩
  rw[e]
  exact AY (CR _ _) Ob
 refine⟨U,fun s hs=>?_,hlen h.declined,by have:=hf.seen;omega,by have:=hf.next;omega⟩
 obtain⟨t,g1,_⟩:=h.goes
 obtain⟨k1,k2,k3⟩:=g1.scan
 obtain⟨i,hi,rfl⟩:=BZ hs
 have:=k3 i hi
 have hkk:kN p.P i<=300:=by
  unfold kN
  have:=CR (fun s:D.T=>decide (0<=s.K)) (p.P.take i)
  have:=EV i p.P
  omega
 rw[show V p.P i=p.P[i]by simp[V,AQ,AR hi]]at this
 exact⟨hlen this.2.1,U,U⟩
end
section
attribute [local irreducible] dueV stepV runV QG
section
def QnP:Va 1000 p=some (dueV p):=by
 unfold Va dueV
 by_cases h0:p.p=0
 .simp[cd,AM.C,h0]
 .by_cases h2:p.p=2<;>simp[cd,AM.C,h0,h2]
def QzO:QaP 1000 p t=some (Yp p t):=by
 unfold QaP Yp
 rw[QnP,Z0]
 obtain⟨a,d⟩:=dueV p
 cases d<;>by_cases h:a<=t<;>simp[cd,AM.C,h]
def Qqs(h:l.length<=1000):XA 1000 l=some l:=by unfold XA;exact Yh U
def Qfm(h:l.length<=1000):Qy 1000 l=some l:=by unfold Qy;exact Yh U
def Qwe(h:l.length<=1000):WZ 1000 l=some l:=by unfold WZ;exact Yh U
def QlB(h:QC p):X1 1000 p=some p:=by
 have h1:=h.st;have h2:=h.de;have h3:=h.se
 refine Ok.eq ?_
 unfold X1
 refine Ok.oe (Qqs U) ?_
 refine Ok.run2 p.P.length (fun i=>((p.P.length:Int),(i:Int),())) rfl U (fun i hi k hk=>?_) (fun k=>?_)
 .dsimp only
  have hp:=(h.pe _ (Qf hi)).1
  refine Ok.P (Ok.natn (Ok.lt hi (Ok.get hi (Ok.oe (Qwe U) (Ok.natn (Ok.lt hi (Ok.get hi ?_)))))))
  rw[Qa U,show(D.T.mk (V p.P i).K (V p.P i).At (V p.P i).l)=V p.P i from rfl,QpU hi]
  exact hk
 .dsimp only
  exact Ok.N (Ok.oe (Qfm U) (Ok.oe (Qfm U) (Ok.s rfl)))
def QuL(q:D.W)(i:Int):Int×Int×AH:=if 0<=i/\i<YK q then(i % (q.Steps.length:Int),i / (q.Steps.length:Int),true)else(0,0,false)
def QBB(h:Qdl m q):Qch 1000 q i=some (QuL q i):=by
 have h2:=h.len
 have hc:=Yv h
 refine Ok.eq ?_
 unfold Qch QuL
 refine Ok.oe (QoG h) ?_
 rw[Qb (x:=YK q - 1) U]
 refine Ok.oe pIn ?_
 by_cases hi:0<=i/\i<YK q
 .have g1:=Int.ediv_le_self (a:=i) (q.Steps.length:Int) hi.1
  have g2:0<=i / (q.Steps.length:Int):=EO hi.1 U
  refine Ok.np U (Ok.Z (Ok.Z (Ok.s ?_)))
  rw[iB hi,Bq hi.1,Bv hi.1,Qb U]
 .refine Ok.nn U (Ok.s ?_)
  rw[iA hi]
def Qz3{q:D.W}(h:1<=q.Steps.length):0<=i % (q.Steps.length:Int)/\i % (q.Steps.length:Int)<(q.Steps.length:Int):=
 ⟨Co _ U,Cp _ U⟩
abbrev pgA(p:D.Page):Int×Int×Int×Int×Int×Int×Int×Int×Int×Int×Int×Unit:=(p.S,p.W,p.T,p.E7,p.FJ,p.p,p.By,p.FK,p.FM,p.E6,p.FI,())
def Qlo(h:Zg n c)(hn:n<=48):ZE 1000 x c p s=some (!VG c x p.FJ s.Fm,p):=by
 unfold ZE
 rw[Qzn h hn,Z0,Vq,Vq]
def QBf(h:Zg n c)(hn:n<=48)(hm:m<=l0.length)(hl:m<=900):
  Ok (Qx 1000 0 m l0 c p s) fun r=>r.2=p/\(r.1 = -1/\(∀j,j<m->VG c (V l0 j) p.FJ s.Fm=true)\/∃i:Nat,r.1=(i:Int)/\i<m/\VG c (V l0 i) p.FJ s.Fm=false/\∀j,j<i->VG c (V l0 j) p.FJ s.Fm=true):=by
 unfold Qx
 rw[Br]
 refine Ok.scan2 m (fun i=>(0,m,(m:Int),(i:Int),())) (fun i=>!VG c (V l0 i) p.FJ s.Fm) rfl U (fun i hi hq hj k=>?_) (fun i hi hq k hk=>?_) (fun hq k=>?_)
 .dsimp only
  rw[Br]
  refine Ok.P (Ok.natn (Ok.E ?_))
  rw[Ah]
  refine Ok.G (Ok.oe (Qlo (p:=p) h hn) ?_)
  exact Ok.bt hq (Ok.TF (Ok.TF (Ok.TF (Ok.s ⟨rfl,.inr ⟨i,rfl,hi,by simpa using hq,fun j hj'=>by simpa using hj j hj'⟩⟩))))
 .dsimp only
  rw[Br]
  refine Ok.P (Ok.natn (Ok.E ?_))
  rw[Ah]
  refine Ok.G (Ok.oe (Qlo (p:=p) h hn) (Ok.bf hq ?_))
  rw[Qa U]
  exact hk
 .exact Ok.N (Ok.TF (Ok.TF (Ok.TF (Ok.s ⟨rfl,.inl ⟨rfl,fun j hj=>by simpa using hq j hj⟩⟩))))
def QAV(h:Zg n c)(hn:n<=48)(hm:m<=l0.length)(hl:l0.length<=900):
  Ok (Qw 1000 0 m l0 c p s) fun r=>r.2.2.1=p/\List.drop r.1 (List.take r.2.1 r.2.2.2)=(l0.take m).filter fun z=>VG c z p.FJ s.Fm:=by
 unfold Qw
 refine Ok.opt (QBf h hn hm U) fun⟨r,p'⟩ ⟨hp',hr⟩=>?_
 dsimp only at hp' hr |-
 subst hp'
 rcases hr with⟨rfl,hall⟩|⟨i,rfl,hi,hx,hj⟩
 .refine Ok.p rfl (Ok.TF (Ok.TF (Ok.s ⟨rfl,?_⟩)))
  dsimp only
  rw[Cb,QjG (q:=fun z=>VG c z p'.FJ s.Fm) hm hall]
 .refine Ok.N ?_
  rw[Qa U]
  refine Ok.loop (fun q x=>∃(w j:Nat) (a:Y Int),x=((0,m,(w:Int),(j:Int),()),c,pgA p',s,a,p'.P,p'.i,p'.h,())/\Qld (l0) (fun z=>VG c z p'.FJ s.Fm) w j a/\(w<j/\j<=m)/\q=m - j) (m:=m - (i+1)) U ⟨i,i+1,l0,rfl,Qqy U hj hx,U,rfl⟩ ?_
  rintro q x ⟨w,j,a,rfl,hinv,hjm,rfl⟩ K hK
  have h1:=hinv.wj
  have h2:=hinv.len
  dsimp only
  rw[Br]
  refine Ok.ite (fun hlt=>?_) (fun hge=>?_)
  .refine Ok.j (Ok.natn (Ok.E ?_))
   rw[Ah]
   refine Ok.G (Ok.oe (Qlo (p:=p') h hn) ?_)
   dsimp only
   rw[EU]
   refine Ok.C (fun hq=>?_) (fun hq=>?_)
   .refine Ok.natn (Ok.E ?_)
    rw[Ah]
    refine Ok.G ?_
    rw[Qa U,Qa U]
    exact hK _ _ U ⟨w+1,j+1,_,rfl,Qtm hinv U hq,U,rfl⟩
   .rw[Qa U]
    exact hK _ _ U ⟨w,j+1,a,rfl,Qtn hinv U hq,U,rfl⟩
  .have ej:j=m:=U
   have hd:=hinv.done
   rw[ej]at hd
   refine Ok.natn (Ok.E (Ok.L (Ok.L (Ok.natn (Ok.L (Ok.TF (Ok.TF (Ok.s ⟨rfl,?_⟩))))))))
   grind
def Qyx(h:Zg n c)(hn:n<=48)(hb:QU b)(hf:CkF b p)(hnx:p.E7<YK (Xf b p))(hs:p.P.length<=300):
  Ok (Yr 1000 c b p) fun r=>r.1={ p with P:=p.P++[⟨p.E7,p.FJ,Qcu c b (Zz b p) p.FJ⟩],i:=[],E7:=p.E7+1,FJ:=if Qcu c b (Zz b p) p.FJ=[]then p.FJ else p.FJ+(Zz b p).Fs }:=by
 have hp:=hf.pol;have h0:=hf.next;have hd:=hf.due
 have hq:Qdl b.v.length (Xf b p):=hf.polOK hb
 have hpl:=hb.plen;have hql:=hq.len
 have hc:=Yv hq
 unfold farV at hd
 unfold Yr
 refine Ok.at hp.1 hp.2 ?_
 show Ok (O (Qch 1000 (Xf b p) p.E7) _) _
 refine Ok.oe (QBB hq) ?_
 unfold QuL
 rw[iB ⟨h0.1,hnx⟩]
 dsimp only
 have hm:=Qz3 (q:=Xf b p) (i:=p.E7) hql.1
 refine Ok.at hm.1 hm.2 ?_
 have hst:=hq.step _ (Qs0 hq h0.1)
 have hw:0<=(Zz b p).Fs/\(Zz b p).Fs<=900:=hst.wait
 have hlen:(Zz b p).Fe.length<=2:=hst.len
 rw[show V (V b.k p.W.toNat).Steps (p.E7 % ((Xf b p).Steps.length:Int)).toNat=Zz b p from rfl]
 refine Ok.opt (Qxc h hn hb hst.target U) fun⟨v0,v1,v2⟩ ⟨g1,g2,g3,g4⟩=>?_
 dsimp only at g1 g2 g3 g4 |-
 subst g1
 refine Ok.opt (QAV (s:=Zz b p) h hn g2 U) fun⟨w0,w1,w2,w3⟩ ⟨e1,e2⟩=>?_
 dsimp only at e1 e2 |-
 subst e1
 rw[e2,g4]
 show Ok (AM.TO (w2.P.length+_) _ _) _
 have hcall:(List.filter (fun z=>VG c z w2.FJ (Zz b w2).Fm) (VK c b (Zz b w2).Fe w2.FJ))=Qcu c b (Zz b w2) w2.FJ:=rfl
 rw[hcall]
 refine Ok.LS (Ok.j (Ok.ite (fun hpos=>Ok.s ?_) (fun hpos=>Ok.s ?_)))
 .have hne:Qcu c b (Zz b w2) w2.FJ≠[]:=fun e=>by rw[e]at hpos;simp at hpos
  show _=_
  rw[iA hne,Qb U,Qb U]
 .have he:Qcu c b (Zz b w2) w2.FJ=[]:=E1.2 U
  show _=_
  rw[iB he,Qb U]
def QBS(h:Zg n c)(hn:n<=48)(hb:QU b)(hp:QC p):Qbz 1000 c b p=some (stepV c b p):=by
 refine Ok.eq ?_
 unfold Qbz
 have hst:=hp.st
 refine Ok.oe QnP (Ok.oe (QkP hb hp) (Ok.ncnd (fun hc=>Ok.s ?_) (fun hc=>?_)))
 .unfold stepV;rw[iB hc];rfl
 have hf:=Yc hc
 refine Ok.ncnd (fun hd=>Ok.s ?_) (fun hd=>?_)
 .unfold stepV;rw[iA (by rw[hc];simp),iB hd];rfl
 refine Ok.ite (fun hl=>Ok.s ?_) (fun hl=>?_)
 .unfold stepV;rw[iA (by rw[hc];simp),iA (by rw[hd];simp),iB U];rfl
 have hV:stepV c b p=(stepQ c b p,0):=by unfold stepV;rw[iA (by rw[hc];simp),iA (by rw[hd];simp),iA U]
 rw[hV]
 have hs:=Qfs hd
 have hpol:=hf.pol;have hnx:=hf.next;have hl2:=hf.last;have hdu:=hf.due
 refine Ok.oe (QlB hp) (Ok.j (Ok.ite (fun h2=>Ok.s ?_) (fun h2=>?_)))
 .unfold stepQ
  rw[iB h2,Qqz h2,EW]
 .have h0:p.p=0:=U
  refine Ok.at hpol.1 hpol.2 ?_
  show Ok (O (Vg 1000 (Xf b p)) _) _
  refine Ok.oe (QoG (hf.polOK hb)) (Ok.ite (fun he=>Ok.s ?_) (fun he=>?_))
  .unfold stepQ
   rw[iA h2,iB U,QlE h0,EW]
  .have hf':CkF b { p with FM:=max p.FM p.FJ }:=⟨hf.id,hf.pol,hf.start,hf.next,hf.state,hf.by_,by dsimp only;omega,hf.due,hf.until_,hf.snoozes,hf.hands,hf.starts,hf.declined,hf.seen⟩
   have hb':=Qyx (p:={ p with FM:=max p.FM p.FJ }) h hn hb hf' (by show p.E7<YK (Xf b p);omega) hst
   have hQ:stepQ c b p={ p with FM:=max p.FJ p.FM,P:=p.P++[⟨p.E7,p.FJ,Qcu c b (Zz b p) p.FJ⟩],i:=[],E7:=p.E7+1,FJ:=if Qcu c b (Zz b p) p.FJ=[]then p.FJ else p.FJ+(Zz b p).Fs }:=by
    unfold stepQ;rw[iA h2,iA (show ¬YK (Xf b p)<=p.E7 by omega)]
   rw[QlE h0,hQ,EW p.FJ p.FM]
   refine Ok.opt hb' fun⟨r,z⟩ hr=>Ok.s ?_
   dsimp only at hr |-
   subst hr
   rfl
def QCC(h:Zg n c)(hn:n<=48)(hb:QU b)(hp:QC p):QcG 1000 c b p now=some (runV c b p now):=by
 refine Ok.eq ?_
 unfold QcG
 refine Ok.oe (QkP hb hp) (Ok.ncnd (fun hc=>Ok.s ?_) (fun hc=>?_))
 .unfold runV;rw[iB hc];rfl
 rw[QjX hc]
 have hf:=Yc hc
 have hcn:=Yv (hf.polOK hb)
 have hnx:=hf.next
 have hle:QaZ b p<=11:=by
  unfold QaZ
  grind
 refine Ok.oe (QlB hp) ?_
 refine Ok.loop (fun m x=>∃(q:D.Page) (k:Nat),x=((now,()),c,b,q,page0,())/\QC q/\QaZ b q+1<=k/\runN c b now k q=runN c b now 100 p/\m=QaZ b q) (m:=QaZ b p) U ⟨p,100,rfl,hp,U,rfl,rfl⟩ ?_
 rintro m x ⟨q,k,rfl,hq,hk,he,rfl⟩ K hK
 dsimp only
 obtain⟨k,rfl⟩:∃k',k=k'+1:=⟨k - 1,U⟩
 rw[runN]at he
 refine Ok.oe QzO (Ok.C (fun hw=>?_) (fun hw=>Ok.s ?_))
 .rw[iB hw]at he
  refine Ok.oe (QBS h hn hb hq) (Ok.ite (fun h1=>Ok.s ?_) (fun h1=>?_))
  .rw[iB h1]at he;exact he
  .rw[iA h1]at he
   have hd:=Qbf hw
   have hst:stepV c b q=(stepQ c b q,0):=by
    revert h1
    unfold stepV
    grind
   have hl:=QdW (c:=c) (b:=b) hd.1
   rw[hst]at he |-
   refine hK (QaZ b (stepQ c b q)) _ hl ⟨stepQ c b q,k,rfl,?_,U,he,rfl⟩
   have:=hq.stepV (c:=c) hb
   grind
 .grind
end
end
section
open Go AM
attribute [local irreducible] dueV stepV runV QG
section
def rin:QJ fu x lo hi=some (inV x lo hi):=by
 unfold QJ inV
 by_cases h1:lo<=x<;>by_cases h2:x<=hi<;>simp[cd,AM.C,h1,h2]
def QzT:badS l i=true↔¬(0<=V l i/\V l i<=31/\(i=0\/V l (i - 1)<V l i)):=by
 unfold badS
 grind
def QCe:badS l i=false↔(0<=V l i/\V l i<=31/\(i=0\/V l (i - 1)<V l i)):=by
 rw[<-Bool.not_eq_true,QzT,Ak]
def QpT(hl:l.length<900):Qep 1000 l 32=some (setV l):=by
 refine Ok.eq ?_
 unfold Qep
 refine Ok.scan l.length (fun i=>((l,32,(i:Int),()),())) (badS l) rfl U (fun i hi hq _ k=>?_) (fun i hi hq k hk=>?_) (fun hq k=>?_)
 .have hb:=QzT.1 hq
  dsimp only
  rw[Qt4 hi hq]
  refine Ok.P (Ok.j (Ok.atn hi (Ok.ite (fun h1=>Ok.s rfl) (fun h1=>Ok.atn hi (Ok.ite (fun h2=>Ok.s rfl) (fun h2=>?_))))))
  have h0:0<i:=U
  refine Ok.P ?_
  rw[show J ((i:Int) - 1)=((i - 1:Nat):Int)by rw[Qb U];omega]
  exact Ok.A (Ok.atn hi (Ok.P (Ok.s rfl)))
 .have hb:=QCe.1 hq
  dsimp only
  refine Ok.P (Ok.j (Ok.atn hi (Ok.N (Ok.atn hi (Ok.N ?_)))))
  dsimp only
  rw[Qa U]
  by_cases h0:0<i
  .refine Ok.P ?_
   rw[show J ((i:Int) - 1)=((i - 1:Nat):Int)by rw[Qb U];omega]
   exact Ok.A (Ok.atn hi (Ok.N hk))
  .exact Ok.N hk
 .exact Ok.N (Ok.s (QrH hq).symm)
def QsY(h:QC p):QgM 1000 p=some (Qia p):=by
 have hst:=h.st
 have hnx:=h.nx
 refine Ok.eq ?_
 unfold QgM Qia
 refine Ok.loop (fun m x=>∃(i:Nat) (k t:Int),x=((k,t,(i:Int),()),p,())/\i<=p.P.length/\-1<=k/\k<=1000000/\WQ p.E7 k t (p.P.drop i)=WQ p.E7 (-1) p.T p.P/\m=p.P.length - i) (m:=p.P.length) U
  ⟨0,-1,p.T,rfl,U,U,U,rfl,rfl⟩ ?_
 rintro m x ⟨i,k,t,rfl,h1,h2,h2',h3,rfl⟩ K hK
 dsimp only
 refine Ok.ite (fun hi=>?_) (fun hi=>?_)
 .have hlt:i<p.P.length:=U
  have hs:=h.pe _ (Qf hlt)
  refine Ok.j (Ok.atn hlt ?_)
  obtain⟨s,hse⟩:∃s,V p.P i=s:=⟨_,rfl⟩
  rw[Qfr hlt,WQ,hse]at h3
  rw[hse]at hs |-
  refine Ok.TG (fun y=>y=((k,(i:Int),()),p,s,())/\t<=s.At/\(s.K = -1\/0<=s.K/\k<s.K/\s.K<p.E7)/\setV s.l=true) (fun y hy=>?_) (fun zG hJ=>?_)
  .obtain⟨rfl,c1,c2,c3⟩:=hy
   have hC:(decide (t<=s.At) && (decide (s.K = -1) || decide (0<=s.K) && decide (k<s.K) && decide (s.K<p.E7)) && setV s.l)=true:=by
    rw[c3];simp;omega
   rw[hC,B8]at h3
   dsimp only
   rw[Qa U]
   refine Ok.ite (fun g=>?_) (fun g=>?_)
   .rw[show max k s.K=s.K by omega]at h3
    exact hK _ _ U ⟨i+1,s.K,s.At,rfl,U,U,U,h3,rfl⟩
   .rw[show max k s.K=k by omega]at h3
    exact hK _ _ U ⟨i+1,k,s.At,rfl,U,U,U,h3,rfl⟩
  .refine Ok.ite (fun g1=>Ok.s ?_) (fun g1=>Ok.ite (fun g2=>Ok.s ?_) (fun g2=>Ok.ite (fun g3=>Ok.ite (fun g4=>Ok.s ?_) (fun g4=>Ok.ite (fun g5=>Ok.s ?_) (fun g5=>Ok.oe (QpT U) (Ok.C (fun g6=>hJ _ ⟨rfl,U,U,g6⟩) (fun g6=>Ok.s ?_))))) (fun g3=>Ok.oe (QpT U) (Ok.C (fun g6=>hJ _ ⟨rfl,U,U,g6⟩) (fun g6=>Ok.s ?_)))))
   .grind
   .grind
   .grind
   .grind
   .rw[<-h3,g6];simp
   .rw[<-h3,g6];simp
 .have e:i=p.P.length:=U
  refine Ok.s ?_
  subst e
  rw[List.drop_length,WQ]at h3
  grind
def QnN(h:Qdl m q):QdD 1000 q=some (YK q):=by
 have h1:=h.rep
 have h2:=h.len
 refine Ok.eq ?_
 unfold QdD
 refine Ok.j (Ok.oe rin (Ok.bt (Qu.2 U) (Ok.N (Ok.s ?_))))
 rw[(Yv h).1,Qb (x:=q.Fh+1) U,Qb]
 have h3:q.Fh=0\/q.Fh=1\/q.Fh=2:=U
 grind
def Qvm(h:Qdl m q):QfU 1000 q=some true:=by
 have h2:=h.len
 refine Ok.eq ?_
 unfold QfU
 refine Ok.run2 q.Steps.length (fun i=>((i:Int),())) rfl U (fun i hi k hk=>?_) (fun k=>Ok.N (Ok.s rfl))
 dsimp only
 have hw:=(h.step _ (Qf hi)).wait
 refine Ok.P (Ok.atn hi (Ok.oe rin (Ok.nt (Qu.2 U) ?_)))
 rw[Qa U]
 exact hk
def Qxb(h:Qdl m q):QiW 1000 q i=some (QuL q i):=by
 have h2:=h.len
 have hc:=Yv h
 refine Ok.eq ?_
 unfold QiW QuL
 refine Ok.j (Ok.ite (fun g1=>Ok.s ?_) (fun g1=>Ok.oe (QnN h) (Ok.ite (fun g2=>Ok.s ?_) (fun g2=>Ok.Z (Ok.Z (Ok.s ?_))))))
 .rw[iA U]
 .rw[iA U]
 .have g3:=Int.ediv_le_self (a:=i) (q.Steps.length:Int) U
  have g4:0<=i / (q.Steps.length:Int):=EO U U
  rw[iB U,Bq U,Bv U,Qb U]
def newV(b:D.b)(id pol start:Int):D.Page×Int:=
 if inV id 1 999999=true/\inV start 0 8589934592=true then(if inV pol 0 ((b.k.length:Int) - 1)=true then(newP id pol start,0)else(page0,3))else(page0,1)
def Qo4{id pol start:Int}(hb:QU b):Qmx 1000 b id pol start=some (newV b id pol start):=by
 have hp:=hb.plen
 refine Ok.eq ?_
 unfold Qmx newV
 refine Ok.j (Ok.oe rin (Ok.C (fun h1=>Ok.oe rin (Ok.C (fun h2=>?_) (fun h2=>Ok.s ?_))) (fun h1=>Ok.s ?_)))
 .dsimp only
  rw[iB ⟨h1,h2⟩,Qb U]
  refine Ok.oe rin (Ok.ncnd (fun h3=>Ok.s ?_) (fun h3=>Ok.s ?_))
  .rw[iA (by rw[h3];simp)];rfl
  .rw[iB h3];rfl
 .rw[iA (by rw[h2];simp)];rfl
 .rw[iA (by rw[h1];simp)];rfl
def QBq{id pol start:Int}(hb:QU b):Qfv 1000 b id pol start=some (newV b id pol start):=Qo4 hb
def Qgn(hb:QU b)(h:QC p):U1 1000 b p=some (QG b p):=by
 have hde:=h.de;have hse:=h.se
 have hpl:=hb.plen
 refine Ok.eq ?_
 unfold U1
 refine Ok.j (Ok.oe (Qo4 hb) ?_)
 unfold newV
 by_cases h1:inV p.S 1 999999=true/\inV p.T 0 8589934592=true
 .rw[iB h1]
  by_cases h2:inV p.W 0 ((b.k.length:Int) - 1)=true
  .rw[iB h2]
   have h2':=Qu.1 h2
   have hq:Qdl b.v.length (Xf b p):=hb.pol _ (Qf U)
   have hw:=Qon hq
   refine Ok.NS (Ok.at h2'.1 U ?_)
   show Ok (O (QfU 1000 (Xf b p)) _) _
   refine Ok.oe (Qvm hq) (Ok.t (Ok.at h2'.1 U ?_))
   show Ok (O (QdD 1000 (Xf b p)) _) _
   refine Ok.oe (QnN hq) (Ok.oe rin (Ok.C (fun h4=>?_) (fun h4=>Ok.s (by simp[QG,h4]))))
   refine Ok.j (Ok.oe rin (Ok.C (fun h5=>?_) (fun h5=>Ok.s (by simp[QG,h5]))))
   refine Ok.oe rin (Ok.C (fun h6=>?_) (fun h6=>Ok.s (by simp[QG,h6])))
   refine Ok.oe rin (Ok.C (fun h7=>?_) (fun h7=>Ok.s (by have h7:inV p.FM p.T farV=false:=h7;simp[QG,h7])))
   refine Ok.oe rin (Ok.C (fun h8=>?_) (fun h8=>Ok.s (by have h8:inV p.FJ 0 farV=false:=h8;simp[QG,h8])))
   refine Ok.oe rin (Ok.C (fun h9=>?_) (fun h9=>Ok.s (by have h9:inV p.FK 0 farV=false:=h9;simp[QG,h9])))
   refine Ok.j (Ok.oe rin (Ok.C (fun h10=>?_) (fun h10=>Ok.s (by simp[QG,h10]))))
   refine Ok.oe rin (Ok.C (fun h11=>?_) (fun h11=>Ok.s (by simp[QG,h11])))
   refine Ok.oe (QsY h) (Ok.C (fun h12=>?_) (fun h12=>Ok.s (by simp[QG,h12])))
   refine Ok.oe (QpT U) (Ok.C (fun h13=>?_) (fun h13=>Ok.s (by simp[QG,h13])))
   refine Ok.ite (fun h14=>Ok.s (by simp[QG,Qnu,Au (show ¬p.h.length<=64 by omega)])) (fun h14=>?_)
   have h7':inV p.FM p.T farV=true:=h7
   have h8':inV p.FJ 0 farV=true:=h8
   have h9':inV p.FK 0 farV=true:=h9
   have hcv:QG b p=Qnu p.h:=by simp[QG,h1.1,h1.2,h2,hw,h4,h5,h6,h7',h8',h9',h10,h11,h12,h13]
   rw[hcv]
   unfold Qnu
   rw[Ax (show p.h.length<=64 by omega),EP]
   refine Ok.scan2 p.h.length (fun i=>((i:Int),())) (fun i=>(p.h.take i).contains (V p.h i)) rfl U (fun i hi hq _ k=>?_) (fun i hi hq k hk=>?_) (fun hq k=>?_)
   .refine Ok.P (Ok.natn (Ok.L (Ok.atn hi (Ok.oe (Qea (by simp;omega)) (Ok.bt hq (Ok.s ?_))))))
    rw[Qk8 hi hq]
   .refine Ok.P (Ok.natn (Ok.L (Ok.atn hi (Ok.oe (Qea (by simp;omega)) (Ok.bf hq ?_)))))
    rw[Qa U];exact hk
   .exact Ok.N (Ok.s (Ax (QrG hq)).symm)
  .rw[iA h2]
   exact Ok.PS (Ok.s (by simp[QG,h2]))
 .rw[iA h1]
  refine Ok.PS (Ok.s ?_)
  have:QG b p=false:=by
   rw[C3]
   intro hc
   have hf:=Yc hc
   exact h1 ⟨Qu.2 hf.id,Qu.2 hf.start⟩
  rw[this]
def Qgq:Qh0 1000 p=some (dueV p):=QnP
def Qsa(h:QC p):QgL 1000 p=some (Wj p):=by
 have h1:=h.st
 refine Ok.eq ?_
 unfold QgL Wj
 refine Ok.ite (fun h0=>Ok.s ?_) (fun h0=>?_)
 .simp_all
 .have hne:p.P≠[]:=fun e=>h0 (by rw[e];rfl)
  have hpos:=B1.2 hne
  rw[show J ((p.P.length:Int) - 1)=((p.P.length - 1:Nat):Int)by rw[Qb U];omega]
  have hp:=(h.pe _ (Qf (l:=p.P) (i:=p.P.length - 1) U)).1
  refine Ok.A (Ok.L (Ok.s ?_))
  rw[iA hne]
def Qdo(h:QC p):QbM 1000 p=some p:=by
 have h1:=h.st;have h2:=h.de;have h3:=h.se
 refine Ok.eq ?_
 unfold QbM
 refine Ok.run p.P.length (fun i=>(((i:Int),()),p,page0,p.P.take i,())) rfl U (fun i hi k hk=>?_) (fun k=>?_)
 .dsimp only
  have hp:=(h.pe _ (Qf hi)).1
  refine Ok.P (Ok.atn hi (Ok.L (Ok.LS ?_)))
  rw[Qa U,Qp hi]
  exact hk
 .dsimp only
  rw[Ac]
  exact Ok.N (Ok.L (Ok.L (Ok.s rfl)))
def Qsi{l:Y Int}{f:Int->AH}{i:Nat}(hi:i<l.length):(l.take (i+1)).filter f=(l.take i).filter f++(if f (V l i)=true then[V l i]else[]):=by
 rw[<-Qp hi,B5]
 grind
def QxR(h:Zg n c)(hn:n<=48)(hb:QU b)(hp:QC p):Qk5 1000 c b p=some (stepV c b p):=by
 refine Ok.eq ?_
 unfold Qk5
 have hst:=hp.st
 refine Ok.oe (Qgn hb hp) (Ok.ncnd (fun hc=>Ok.s ?_) (fun hc=>?_))
 .unfold stepV;rw[iB hc];rfl
 have hf:=Yc hc
 refine Ok.oe Qgq (Ok.ncnd (fun hd=>Ok.s ?_) (fun hd=>?_))
 .unfold stepV;rw[iA (by rw[hc];simp),iB hd];rfl
 have hst2:=hf.starts
 refine Ok.ite (fun hl=>Ok.s ?_) (fun hl=>?_)
 .unfold stepV;rw[iA (by rw[hc];simp),iA (by rw[hd];simp),iB U];rfl
 have hV:stepV c b p=(stepQ c b p,0):=by unfold stepV;rw[iA (by rw[hc];simp),iA (by rw[hd];simp),iA U]
 rw[hV]
 have hs:=Qfs hd
 have hpol:=hf.pol;have hnx:=hf.next;have hl2:=hf.last;have hdu:=hf.due
 refine Ok.oe (Qdo hp) (Ok.ite (fun h2=>Ok.s ?_) (fun h2=>?_))
 .unfold stepQ
  rw[iB h2,Qqz h2]
 .have h0:p.p=0:=U
  have hq:=hf.polOK hb
  have hcn:=Yv hq
  have hql:=hq.len
  refine Ok.at hpol.1 hpol.2 ?_
  show Ok (O (QiW 1000 (Xf b p) p.E7) _) _
  refine Ok.oe (Qxb hq) ?_
  unfold QuL
  rw[QlE h0]
  by_cases he:p.E7<YK (Xf b p)
  .rw[iB ⟨hnx.1,he⟩]
   dsimp only
   have hm:=Qz3 (q:=Xf b p) (i:=p.E7) hql.1
   refine Ok.f (Ok.at hm.1 hm.2 ?_)
   have hstp:=hq.step _ (Qs0 hq hnx.1)
   have hw:0<=(Zz b p).Fs/\(Zz b p).Fs<=900:=hstp.wait
   have hlen:(Zz b p).Fe.length<=2:=hstp.len
   show Ok (O (QdE 1000 c b (Zz b p).Fe p.FJ) _) _
   refine Ok.oe (QuN h hn hb hstp.target U) ?_
   have hpl:=QhU (c:=c) (b:=b) (l:=(Zz b p).Fe) (t:=p.FJ)
   obtain⟨l,hl3⟩:∃l,VK c b (Zz b p).Fe p.FJ=l:=⟨_,rfl⟩
   rw[hl3]at hpl |-
   have hcall:Qcu c b (Zz b p) p.FJ=l.filter fun z=>VG c z p.FJ (Zz b p).Fm:=by unfold Qcu;rw[hl3]
   refine Ok.run l.length (fun i=>((p.FJ,p.E7 % ((Xf b p).Steps.length:Int),l,(i:Int),()),c,p,page0,(p.S,p.W,p.T,p.E7,p.FJ,p.p,p.By,p.FK,max p.FJ p.FM,p.E6,p.FI,()),Xf b p,(p.E7,p.FJ,()),p.P,p.i,p.h,(l.take i).filter (fun z=>VG c z p.FJ (Zz b p).Fm),())) rfl U (fun i hi k hk=>?_) (fun k=>?_)
   .dsimp only
    have hfl:=CR (fun z=>VG c z p.FJ (Zz b p).Fm) (l.take i)
    have htl:=EV i l
    refine Ok.P (Ok.j (Ok.atn hi (Ok.at hm.1 hm.2 (Ok.oe (Qxv h hn) ?_))))
    show Ok (AM.C (VG c (V l i) p.FJ (Zz b p).Fm) _ _) _
    rw[Qsi hi]at hk
    refine Ok.C (fun g=>Ok.atn hi (Ok.LS ?_)) (fun g=>?_)
    .dsimp only
     rw[iB g]at hk
     rw[Qa U]
     exact hk
    .dsimp only
     rw[iA (by rw[g];simp),An]at hk
     rw[Qa U]
     exact hk
   .dsimp only
    rw[Ac,<-hcall]
    unfold stepQ
    rw[iA h2,iA U]
    refine Ok.N (Ok.LS (Ok.j (Ok.ite (fun g=>Ok.at hm.1 hm.2 (Ok.s ?_)) (fun g=>Ok.s ?_))))
    .have hne:Qcu c b (Zz b p) p.FJ≠[]:=fun e=>by rw[e]at g;simp at g
     unfold farV at hdu
     show _=_
     rw[iA hne,Qb U]
     have:J (p.FJ+(Zz b p).Fs)=p.FJ+(Zz b p).Fs:=Qb U
     unfold Zz at this
     rw[this]
     rfl
    .have he':Qcu c b (Zz b p) p.FJ=[]:=E1.2 U
     show _=_
     rw[iB he',Qb U]
  .rw[iA U]
   dsimp only
   refine Ok.t (Ok.s ?_)
   unfold stepQ
   simp_all
def Qzq(h:Zg n c)(hn:n<=48)(hb:QU b)(hp:QC p):QpA 1000 c b p now=some (runV c b p now):=by
 refine Ok.eq ?_
 unfold QpA
 refine Ok.oe (Qgn hb hp) (Ok.ncnd (fun hc=>Ok.s ?_) (fun hc=>?_))
 .unfold runV;rw[iB hc];rfl
 rw[QjX hc]
 have hf:=Yc hc
 have hcn:=Yv (hf.polOK hb)
 have hnx:=hf.next
 have hle:QaZ b p<=11:=by
  unfold QaZ
  grind
 refine Ok.oe (Qdo hp) ?_
 refine Ok.loop (fun m x=>∃(q:D.Page) (k:Nat),x=((now,()),c,b,q,page0,())/\QC q/\QaZ b q+1<=k/\runN c b now k q=runN c b now 100 p/\m=QaZ b q) (m:=QaZ b p) U ⟨p,100,rfl,hp,U,rfl,rfl⟩ ?_
 rintro m x ⟨q,k,rfl,hq,hk,he,rfl⟩ K hK
 dsimp only
 obtain⟨k,rfl⟩:∃k',k=k'+1:=⟨k - 1,U⟩
 rw[runN]at he
 refine Ok.oe Qgq ?_
 have hwv:Yp q now=((dueV q).2 && decide ((dueV q).1<=now)):=rfl
 refine Ok.TG (fun y=>y=((now,()),c,b,q,page0,())/\Yp q now=true) (fun y hy=>?_) (fun zG hJ=>?_)
 .obtain⟨rfl,hw⟩:=hy
  dsimp only
  rw[iB hw]at he
  refine Ok.oe (QxR h hn hb hq) (Ok.ite (fun h1=>Ok.s ?_) (fun h1=>?_))
  .rw[iB h1]at he;exact he
  .rw[iA h1]at he
   have hd:=Qbf hw
   have hst:stepV c b q=(stepQ c b q,0):=by
    revert h1
    unfold stepV
    grind
   have hl:=QdW (c:=c) (b:=b) hd.1
   rw[hst]at he |-
   refine hK (QaZ b (stepQ c b q)) _ hl ⟨stepQ c b q,k,rfl,?_,U,he,rfl⟩
   have:=hq.stepV (c:=c) hb
   grind
 .refine Ok.C (fun h1=>Ok.ite (fun h2=>Ok.s ?_) (fun h2=>hJ _ ⟨rfl,by rw[hwv,h1];simp;omega⟩)) (fun h1=>Ok.s ?_)
  .grind
  .grind
end
end
section
def QAZ:YQ 1000 p=some (dueV p):=by
 unfold YQ
 simp only[Vq]
 exact QnP
def Qx3:Ys 1000 p t=some (Yp p t):=by
 unfold Ys Yp
 simp only[Vq]
 rw[QAZ,Z0]
 obtain⟨a,d⟩:=dueV p
 cases d<;>by_cases h:a<=t<;>simp[cd,AM.C,h]
def Qum(h:QC p):Yi 1000 p=some (Wj p):=by
 have h1:=h.st
 refine Ok.eq ?_
 unfold Yi Wj
 refine Ok.ite (fun h0=>Ok.TF (Ok.TF (Ok.TF (Ok.s ?_)))) (fun h0=>?_)
 .simp_all
 .have hne:p.P≠[]:=fun e=>h0 (by rw[e];rfl)
  have hpos:=B1.2 hne
  rw[show J ((p.P.length:Int) - 1)=((p.P.length - 1:Nat):Int)by rw[Qb U];omega]
  have hp:=(h.pe _ (Qf (l:=p.P) (i:=p.P.length - 1) U)).1
  refine Ok.natn (Ok.E (Ok.G (Ok.oe (Qfm U) (Ok.TF (Ok.TF (Ok.TF (Ok.s ?_)))))))
  rw[iA hne]
def QnL(h:QC p):(Wj p).length<=40:=by
 unfold Wj
 split
 .simp
 .rename_i hne
  have hpos:=B1.2 hne
  exact(h.pe _ (Qf U)).1
def Qu1:Z1 1000 p a=some (Wr p a):=by
 refine Ok.eq ?_
 unfold Z1
 refine Ok.TG (fun y=>y.1.1=decide ((a.Z=3/\p.E6=4)\/(a.Z=4/\(p.FI=4\/p.P.length=200)))/\y.2=(pgA p,a,p.P,p.i,p.h,())) (fun y hy=>?_) (fun zG hJ=>?_)
 .obtain⟨⟨full,⟨⟩⟩,r⟩:=y
  obtain⟨h1,h2⟩:=hy
  dsimp only at h1 h2
  subst h2
  dsimp only[pgA]
  refine Ok.j (Ok.ite (fun g1=>Ok.TF (Ok.TF (Ok.TF (Ok.s ?_)))) (fun g1=>?_))
  .unfold Wr;rw[iB (.inl g1)]
  refine Ok.oe (Qx3 (p:=p)) (Ok.C (fun g2=>Ok.TF (Ok.TF (Ok.TF (Ok.s ?_)))) (fun g2=>?_))
  .unfold Wr;rw[iB (.inr g2)]
  unfold Wr
  rw[iA (by rw[g2];simp;omega)]
  refine Ok.TG (fun y=>y.1.1=full/\y.1.2.1=decide (p.p=4\/(p.p=3/\a.Z≠5)\/(p.p=1/\a.Z=2))/\y.2=(pgA p,p.P,p.i,p.h,())) (fun y hy=>?_) (fun zG hJ=>?_)
  .obtain⟨⟨f2,s2,⟨⟩⟩,r⟩:=y
   obtain⟨k1,k2,k3⟩:=hy
   dsimp only at k1 k2 k3
   subst k3;subst k1
   dsimp only[pgA]
   refine Ok.C (fun g3=>Ok.TF (Ok.TF (Ok.TF (Ok.s ?_)))) (fun g3=>?_)
   .simp_all
   .rw[k2]at g3;rw[iA (BM g3)]
    refine Ok.ite (fun g4=>Ok.TF (Ok.TF (Ok.TF (Ok.s ?_)))) (fun g4=>?_)
    .omega
    .refine Ok.C (fun g5=>Ok.TF (Ok.TF (Ok.TF (Ok.s ?_)))) (fun g5=>Ok.TF (Ok.TF (Ok.TF (Ok.s ?_))))
     .simp_all
     .grind
  .refine Ok.ite (fun g3=>hJ _ ⟨rfl,?_,rfl⟩) (fun g3=>Ok.ite (fun g4=>Ok.ite (fun g5=>hJ _ ⟨rfl,?_,rfl⟩) (fun g5=>Ok.ite (fun g6=>Ok.ite (fun g7=>hJ _ ⟨rfl,?_,rfl⟩) (fun g7=>hJ _ ⟨rfl,?_,rfl⟩)) (fun g6=>hJ _ ⟨rfl,?_,rfl⟩))) (fun g4=>Ok.ite (fun g6=>Ok.ite (fun g7=>hJ _ ⟨rfl,?_,rfl⟩) (fun g7=>hJ _ ⟨rfl,?_,rfl⟩)) (fun g6=>hJ _ ⟨rfl,?_,rfl⟩)))
   all_goals grind
 .refine Ok.ite (fun g1=>Ok.ite (fun g2=>hJ _ ⟨?_,rfl⟩) (fun g2=>Ok.ite (fun g3=>Ok.ite (fun g4=>hJ _ ⟨?_,rfl⟩) (fun g4=>Ok.ite (fun g5=>hJ _ ⟨?_,rfl⟩) (fun g5=>hJ _ ⟨?_,rfl⟩))) (fun g3=>hJ _ ⟨?_,rfl⟩)))
   (fun g1=>Ok.ite (fun g3=>Ok.ite (fun g4=>hJ _ ⟨?_,rfl⟩) (fun g4=>Ok.ite (fun g5=>hJ _ ⟨?_,rfl⟩) (fun g5=>hJ _ ⟨?_,rfl⟩))) (fun g3=>hJ _ ⟨?_,rfl⟩))
  all_goals grind
def QxU(h1:1<=j)(hj:j<l.length):(QkM l j).Perm l:=by
 unfold QkM
 have e1:V l j=l[j]:=by simp[V,AQ,AR hj]
 have e2:V l (j - 1)=l[j - 1]:=by simp[V,AQ,AR (show j - 1<l.length by omega)]
 grind
def QwN(hs:l0.length<=900):
  Ok (Zn 1000 l0 0 (l0.length:Int)) fun r=>r.Perm l0/\Xp r l0.length:=by
 obtain⟨m,hm⟩:∃m,l0.length=m:=⟨_,rfl⟩
 rw[hm]
 rw[hm]at hs
 unfold Zn
 refine Ok.loop (fun q x=>∃(i:Nat) (a:Y Int),x=((0,(m:Int),(i:Int),()),a,())/\1<=i/\a.Perm l0/\Xp a (min i m)/\q=m+1 - i) (m:=m) U
  ⟨1,l0,by rw[Qb U];rfl,U,.refl _,fun a b h1 h2=>U,U⟩ ?_
 rintro q x ⟨i,a,rfl,h1,h2,h3,rfl⟩ K hK
 have hal:=h2.length_eq
 dsimp only
 refine Ok.ite (fun hi=>?_) (fun hi=>Ok.s ⟨h2,by rw[show min i m=m by omega]at h3;exact h3⟩)
 have hlt:i<m:=U
 rw[show min i m=i by omega]at h3
 refine Ok.j ?_
 refine Ok.loop (fun q x=>∃j a',x=((0,(m:Int),(i:Int),((j:Nat):Int),()),a',())/\j<=i/\a'.Perm l0/\QnA a' (i+1) j/\q=j) (m:=i) U
  ⟨i,a,rfl,U,h2,Qj7 h3,rfl⟩ ?_
 rintro q x ⟨j,a',rfl,g1,g2,g3,hqj⟩ K2 hK2
 have hal':=g2.length_eq
 dsimp only
 have fin:(j=0\/V a' (j - 1)<=V a' j)->Ok (K ((0,(m:Int),J ((i:Int)+1),()),a',())) fun r=>r.Perm l0/\Xp r m:=fun he=>by
  rw[Qa U]
  exact hK (m+1 - (i+1)) _ U ⟨i+1,a',rfl,U,g2,by rw[show min (i+1) m=i+1 by omega];exact QnK g3 he,rfl⟩
 refine Ok.j (Ok.ite (fun hj=>?_) (fun hj=>fin (.inl U)))
 have hw:J ((j:Int) - 1)=((j - 1:Nat):Int):=by rw[Qb U];omega
 rw[hw]
 refine Ok.natn (Ok.E (Ok.G (Ok.natn (Ok.E (Ok.G (Ok.oe Qw0 (Ok.ite (fun hless=>?_) (fun hless=>fin (.inr U)))))))))
 dsimp only
 rw[hw]
 refine Ok.natn (Ok.E (Ok.G (Ok.natn (Ok.E (Ok.G (Ok.natn (Ok.E (Ok.G (Ok.natn (Ok.lt (by simp;omega) (Ok.get (by simp;omega) ?_)))))))))))
 have hsw:(a'.set j (V a' (j - 1))).set (j - 1) (V a' j)=QkM a' j:=rfl
 rw[hsw]
 exact hK2 (j - 1) _ U ⟨j - 1,QkM a' j,rfl,U,(QxU U U).trans g2,Qlq g3 U U U hless,rfl⟩
def Qzy(hs:l0.length<=12):
  Ok (VD 1000 l0) fun r=>r.Perm l0/\Xp r l0.length:=by
 unfold VD
 obtain⟨bv,hb⟩:=Cl.1 (Qv6 l0.length U)
 refine Ok.oe hb (Ok.opt (P:=fun r=>r.Perm l0/\Xp r l0.length) ?_ fun r hr=>Ok.ck hr.1.length_eq (Ok.s hr))
 unfold Xa
 refine Ok.loop (fun q x=>x=((0,(l0.length:Int),bv,true,true,()),l0,())) (m:=0) U rfl ?_
 rintro q x rfl K hK
 dsimp only
 refine Ok.p (by rw[Qb U];omega) (Ok.opt (QwN U) fun r hr=>Ok.ck hr.1.length_eq (Ok.s hr))
def Qug(h:Xp l l.length)(hd:l.Nodup):Asc l:=by
 refine QzS h fun k h1 h2 e=>?_
 have e1:V l (k - 1)=l[k - 1]:=by simp[V,AQ,AR (show k - 1<l.length by omega)]
 have e2:V l k=l[k]:=by simp[V,AQ,AR h2]
 rw[e1,e2]at e
 have:=(List.nodup_iff_pairwise_ne.1 hd)
 exact(CP.1 this (k - 1) k U h2 U) e
def QvO(h:Asc l):l.Nodup:=List.Pairwise.imp (fun h=>U) h
def QxN(hl:Asc l)(hx:l.contains x=false)(hp:r.Perm (l++[x]))(hs:Xp r r.length):r=QiM l x:=by
 have hnd:(l++[x]).Nodup:=EX.2 ⟨QvO hl,Ob,fun y hy z hz e=>by
  rw[Ai.1 hz]at e
  subst e
  rw[Bi.2 hy]at hx;simp at hx⟩
 refine Qfg (Qug hs (hp.nodup_iff.2 hnd)) (QcO hl).1 fun z=>?_
 rw[hp.mem_iff,(QcO hl).2];simp
def Qtl(h:p.i.length<=40):ZO 1000 x p=some (!p.i.contains x,p):=by
 unfold ZO
 rw[QaW U,Z0]
def Qqw(hl:l.length<=900)(h:p.i.length<=40):Qv 1000 l p=some (l.any fun z=>!p.i.contains z,p):=by
 refine Ok.eq ?_
 unfold Qv QR
 refine Ok.opt (P:=fun(r:Int×D.Page)=>decide (0<=r.1)=(l.any fun z=>!p.i.contains z)/\r.2=p) ?_ fun⟨r,p'⟩ ⟨e1,e2⟩=>Ok.s (by dsimp only at e1 e2;rw[e1,e2])
 refine Ok.scan2 l.length (fun i=>(l,(l.length:Int),(i:Int),())) (fun i=>!p.i.contains (V l i)) rfl U (fun i hi hq _ k=>?_) (fun i hi hq k hk=>?_) (fun hq k=>?_)
 .refine Ok.P (Ok.atn hi (Ok.oe (Qtl (p:=p) h) (Ok.bt hq (Ok.s ⟨?_,rfl⟩))))
  rw[Qjs hi hq];simp
 .refine Ok.P (Ok.atn hi (Ok.oe (Qtl (p:=p) h) (Ok.bf hq ?_)))
  rw[Qa U];exact hk
 .refine Ok.N (Ok.s ⟨?_,rfl⟩)
  rw[QnF hq];rfl
def Qwn(hs:setV p.i=true)(hd:p.i.length<=11):(Qai p a).length<=40:=by
 unfold Qai
 split
 .have hde:=QaH.1 hs
  unfold QiM
  grind
 .omega
def Qse(h:QC p)(hd:p.i.length<=11)(hs:setV p.i=true):
  ZX 1000 p a=some { p with i:=Qai p a,FJ:=if Qas p a=true/\p.p=0 then a.At else p.FJ }:=by
 have hcl:=QnL h
 refine Ok.eq ?_
 unfold ZX
 refine Ok.oe (Qum h) ?_
 refine Ok.TG (fun y=>y=((Wj p,()),pgA p,a,page0,p.P,Qai p a,p.h,())) (fun y hy=>?_) (fun zG hJ=>?_)
 .subst hy
  dsimp only[pgA]
  have hdl:=Qwn (a:=a) hs hd
  refine Ok.j (Ok.ite (fun g1=>Ok.ite (fun g2=>?_) (fun g2=>Ok.s ?_)) (fun g1=>Ok.s ?_))
  .refine Ok.oe (Qqw (p:={ p with i:=Qai p a }) U hdl) (Ok.C (fun g3=>Ok.s ?_) (fun g3=>Ok.s ?_))
   .have:Qas p a=false:=by
     unfold Qas
     simp_all
    simp_all
   .have:Qas p a=true:=by
     unfold Qas
     grind
    simp_all
  .have:Qas p a=false:=by
    unfold Qas
    simp_all
   simp_all
  .simp_all
 .refine Ok.oe (Qd7 U) (Ok.C (fun g1=>?_) (fun g1=>?_))
  .refine Ok.oe (QaW U) (Ok.C (fun g2=>?_) (fun g2=>?_))
   .refine hJ _ ?_
    have:Qai p a=p.i:=by
     unfold Qai
     rw[iB g1];exact Qxg (QaH.1 hs).1 (Bi.1 g2)
    rw[this];rfl
   .refine Ok.LS (Ok.opt (Qzy (by simp;omega)) fun r ⟨hr1,hr2⟩=>Ok.ck hr1.length_eq (hJ _ ?_))
    have:r=Qai p a:=by
     unfold Qai
     rw[iB g1]
     exact QxN (QaH.1 hs).1 g2 hr1 (by rw[hr1.length_eq];exact hr2)
    rw[this];rfl
  .refine hJ _ ?_
   have:Qai p a=p.i:=by unfold Qai;rw[iA (by rw[g1];simp)]
   rw[this];rfl
def QvI(hb:QU b)(h:QC p)(hd:p.i.length<=11):UH 1000 c b p a=some (answerV b p a):=by
 have hse:=h.se;have hst:=h.st
 refine Ok.eq ?_
 unfold UH
 refine Ok.TG (fun y=>y=((),p,a,page0,())/\QG b p=true/\YY a=true) (fun y hy=>?_) (fun zG hJ=>?_)
 .obtain⟨rfl,hc,hv⟩:=hy
  dsimp only
  unfold answerV
  rw[iA (by rw[hc,hv];simp)]
  have hf:=Yc hc
  have hv':=hv
  unfold YY at hv'
  simp only[bae,Qu]at hv'
  obtain⟨⟨⟨⟨⟨v1,v2⟩,v3⟩,v4⟩,v5⟩,v6⟩:=hv'
  have hsn:=hf.snoozes;have hha:=hf.hands
  refine Ok.ite (fun g1=>Ok.s ?_) (fun g1=>?_)
  .rw[iB g1];rfl
  rw[iA g1]
  refine Ok.oe (QlB h) (Ok.oe (QaW U) (Ok.C (fun g2=>Ok.s ?_) (fun g2=>?_)))
  .rw[iB g2]
  rw[iA (by rw[g2];simp)]
  refine Ok.oe Qu1 (Ok.ite (fun g3=>Ok.s ?_) (fun g3=>?_))
  .rw[iB g3];rfl
  rw[iA g3]
  refine Ok.LS ?_
  refine Ok.TG (fun y=>y=((),pgA p,a,page0,p.P,p.i,p.h++[a.S],())/\¬(a.Z=1/\p.p=1)) (fun y hy=>?_) (fun zG hJ=>?_)
  .obtain⟨rfl,hn⟩:=hy
   dsimp only[pgA]
   unfold XL
   refine Ok.j (Ok.ite (fun k1=>Ok.s ?_) (fun k1=>Ok.ite (fun k2=>?_) (fun k2=>Ok.ite (fun k3=>Ok.s ?_) (fun k3=>Ok.ite (fun k4=>Ok.LS (Ok.s ?_)) (fun k4=>Ok.ite (fun k5=>Ok.s ?_) (fun k5=>absurd v5 U))))))
   .simp_all
   .rw[iA k1,iB k2]
    have hp':QC { p with FM:=a.At,h:=p.h++[a.S] }:=⟨h.st,h.pe,h.de,by have:=hf.seen;dsimp only;simp;omega,h.nx⟩
    exact Ok.oe (Qse (p:={ p with FM:=a.At,h:=p.h++[a.S] }) hp' hd hf.declined) (Ok.s rfl)
   .rw[iA k1,iA k2,iB k3]
    rw[iB k3]at v6
    have v6:=Qu.1 v6
    rw[Qb U,Qb U]
   .rw[iA k1,iA k2,iA k3,iB k4,Qb U,Qb U]
   .simp_all
  .refine Ok.ite (fun k1=>Ok.ite (fun k2=>Ok.s ?_) (fun k2=>hJ _ ⟨rfl,U⟩)) (fun k1=>hJ _ ⟨rfl,U⟩)
   unfold XL
   simp_all
 .refine Ok.oe (QkP hb h) (Ok.C (fun g1=>Ok.oe Qua (Ok.C (fun g2=>hJ _ ⟨rfl,g1,g2⟩) (fun g2=>Ok.s ?_))) (fun g1=>Ok.s ?_))
  .unfold answerV;rw[iB (.inr g2)];rfl
  .unfold answerV;rw[iB (.inl g1)];rfl
end
open Go AM
section
def Qok:QfV 1000 a=some (YY a):=by
 refine Ok.eq ?_
 unfold QfV
 refine Ok.j (Ok.oe rin (Ok.C (fun h1=>Ok.oe rin (Ok.C (fun h2=>Ok.oe rin (Ok.C (fun h3=>Ok.oe rin (Ok.C (fun h4=>?_) (fun h4=>Ok.s ?_))) (fun h3=>Ok.s ?_))) (fun h2=>Ok.s ?_))) (fun h1=>Ok.s ?_)))
 .dsimp only
  refine Ok.TG (fun y=>y.1.1=a.Z/\y.1.2.1=decide (a.Z=1\/a.Z=2\/a.Z=5)/\y.2=(a,())) (fun y hy=>?_) (fun zG hJ=>?_)
  .obtain⟨⟨k,z,⟨⟩⟩,r⟩:=y
   obtain⟨e1,e2,e3⟩:=hy
   dsimp only at e1 e2 e3
   subst e3;subst e1
   dsimp only
   refine Ok.C (fun g=>Ok.s ?_) (fun g=>Ok.ite (fun k3=>Ok.oe rin (Ok.s ?_)) (fun k3=>Ok.ite (fun k4=>Ok.oe rin (Ok.s ?_)) (fun k4=>Ok.s ?_)))
   .rw[e2]at g
    have g:=BF g
    have hk:inV a.Z 1 5=true:=Qu.2 U
    unfold YY
    grind
   .have hk:inV a.Z 1 5=true:=Qu.2 U
    unfold YY
    simp_all
   .have hk:inV a.Z 1 5=true:=Qu.2 U
    unfold YY
    simp_all
   .rw[e2]at g
    have g:=BM g
    have hk:inV a.Z 1 5=false:=C3.2 fun h=>by have:=Qu.1 h;omega
    unfold YY
    rw[hk];simp
  .refine Ok.ite (fun g1=>hJ _ ⟨rfl,?_,rfl⟩) (fun g1=>Ok.ite (fun g2=>hJ _ ⟨rfl,?_,rfl⟩) (fun g2=>hJ _ ⟨rfl,?_,rfl⟩))
   all_goals simp_all
 .unfold YY;rw[h4];simp
 .unfold YY;rw[h3];simp
 .unfold YY;rw[h2];simp
 .unfold YY;rw[h1];simp
def Qrv(hf:CkF b p):Qer 1000 p a=some (Wr p a):=by
 have hs1:=hf.seen;have hs2:=hf.snoozes;have hs3:=hf.hands;have hs4:=hf.starts
 refine Ok.eq ?_
 unfold Qer
 refine Ok.oe Qgq ?_
 rcases hdv:dueV p with⟨da,dd⟩
 dsimp only
 refine Ok.j (Ok.ite (fun g1=>Ok.s ?_) (fun g1=>Ok.C (fun g2=>Ok.ite (fun g3=>Ok.s ?_) (fun g3=>?_)) (fun g2=>?_)))
 .unfold Wr;rw[iB (.inl g1)]
 .unfold Wr;rw[iB (.inr (by unfold Yp;rw[hdv,g2];simp;omega))]
 all_goals
  have hw:Yp p a.At=false:=by
   unfold Yp
   simp_all
  unfold Wr
  rw[iA (by rw[hw];simp;omega)]
  refine Ok.TG (fun y=>y.1.1=decide (p.p=4\/(p.p=3/\a.Z≠5)\/(p.p=1/\a.Z=2))/\y.2=(p,a,())) (fun y hy=>?_) (fun zG hJ=>?_)
  .obtain⟨⟨s2,⟨⟩⟩,r⟩:=y
   obtain⟨k2,k3⟩:=hy
   dsimp only at k2 k3
   subst k3
   dsimp only
   refine Ok.C (fun g3=>Ok.s ?_) (fun g3=>?_)
   .simp_all
   .rw[k2]at g3;rw[iA (BM g3)]
    refine Ok.TG (fun y=>y.1.1=decide (p.h.length=64\/(a.Z=3/\p.E6=4)\/(a.Z=4/\(p.FI=4\/p.P.length=200)))) (fun y hy=>?_) (fun zG hJ=>?_)
    .obtain⟨⟨s3,⟨⟩⟩,⟨⟩⟩:=y
     dsimp only at hy |-
     refine Ok.C (fun g4=>Ok.s ?_) (fun g4=>Ok.s ?_)
     .simp_all
     .simp_all
    .refine Ok.ite (fun g4=>hJ _ ?_) (fun g4=>Ok.ite (fun g5=>Ok.ite (fun g6=>hJ _ ?_) (fun g6=>Ok.ite (fun g7=>Ok.ite (fun g8=>hJ _ ?_) (fun g8=>Ok.ite (fun g9=>hJ _ ?_) (fun g9=>hJ _ ?_))) (fun g7=>hJ _ ?_))) (fun g5=>Ok.ite (fun g7=>Ok.ite (fun g8=>hJ _ ?_) (fun g8=>Ok.ite (fun g9=>hJ _ ?_) (fun g9=>hJ _ ?_))) (fun g7=>hJ _ ?_)))
     all_goals grind
  .refine Ok.ite (fun g3=>hJ _ ⟨?_,rfl⟩) (fun g3=>Ok.ite (fun g4=>Ok.ite (fun g5=>hJ _ ⟨?_,rfl⟩) (fun g5=>Ok.ite (fun g6=>Ok.ite (fun g7=>hJ _ ⟨?_,rfl⟩) (fun g7=>hJ _ ⟨?_,rfl⟩)) (fun g6=>hJ _ ⟨?_,rfl⟩))) (fun g4=>Ok.ite (fun g6=>Ok.ite (fun g7=>hJ _ ⟨?_,rfl⟩) (fun g7=>hJ _ ⟨?_,rfl⟩)) (fun g6=>hJ _ ⟨?_,rfl⟩)))
   all_goals grind
def Qs8(hl:l.length<=400)(h:Asc l):V6 1000 l x=some (QiM l x):=by
 rw[QzQ hl]
 congr 1
 exact Qfg (QgY h).1 (QcO h).1 fun z=>by rw[(QgY h).2,(QcO h).2]
def Qr0(hb:QU b)(h:QC p):QgK 1000 c b p a=some (answerV b p a):=by
 have hse:=h.se;have hst:=h.st;have hde:=h.de
 refine Ok.eq ?_
 unfold QgK
 refine Ok.TG (fun y=>y=((),p,a,page0,())/\QG b p=true/\YY a=true) (fun y hy=>?_) (fun zG hJ=>?_)
 .obtain⟨rfl,hc,hv⟩:=hy
  dsimp only
  unfold answerV
  rw[iA (by rw[hc,hv];simp)]
  have hf:=Yc hc
  have hv':=hv
  unfold YY at hv'
  simp only[bae,Qu]at hv'
  obtain⟨⟨⟨⟨⟨v1,v2⟩,v3⟩,v4⟩,v5⟩,v6⟩:=hv'
  have hsn:=hf.snoozes;have hha:=hf.hands
  refine Ok.ite (fun g1=>Ok.s ?_) (fun g1=>?_)
  .rw[iB g1];rfl
  rw[iA g1]
  refine Ok.oe (Qdo h) (Ok.oe (Qea U) (Ok.C (fun g2=>Ok.s ?_) (fun g2=>?_)))
  .rw[iB g2]
  rw[iA (by rw[g2];simp)]
  refine Ok.oe (Qrv hf) (Ok.ite (fun g3=>Ok.s ?_) (fun g3=>?_))
  .rw[iB g3];rfl
  rw[iA g3]
  refine Ok.LS (Ok.j ?_)
  unfold XL
  refine Ok.ite (fun k1=>Ok.ite (fun k2=>Ok.s ?_) (fun k2=>Ok.s ?_)) (fun k1=>Ok.ite (fun k2=>?_) (fun k2=>Ok.ite (fun k3=>Ok.s ?_) (fun k3=>Ok.ite (fun k4=>Ok.LS (Ok.s ?_)) (fun k4=>Ok.ite (fun k5=>Ok.s ?_) (fun k5=>absurd v5 U)))))
  .simp_all
  .simp_all
  .rw[iA k1,iB k2]
   have hcl:=QnL h
   refine Ok.oe (Qsa h) ?_
   refine Ok.TG (fun y=>y=((Wj p,()),p,a,page0,(p.S,p.W,p.T,p.E7,p.FJ,p.p,p.By,p.FK,a.At,p.E6,p.FI,Qai p a,()),p.P,p.h++[a.S],())) (fun y hy=>?_) (fun zG hJ=>?_)
   .subst hy
    dsimp only
    have hdl:(Qai p a).length<=900:=by
     unfold Qai QiM
     grind
    obtain⟨aD,haD⟩:∃aD:Nat->AH,∀i,aD i=(decide ((0:Int)<(((Wj p).length:Nat):Int)) && ((Wj p).take i).all fun z=>(Qai p a).contains z):=⟨fun i=>_,fun i=>rfl⟩
    have hall:∀i,i<(Wj p).length->aD (i+1)=(aD i && (Qai p a).contains (V (Wj p) i)):=fun i hi=>by
     rw[haD,haD,<-Qp hi,List.all_append,Bool.and_assoc]
     simp
    have hlast:Qas p a=aD (Wj p).length:=by
     rw[haD,Ac]
     unfold Qas
     congr 1
     refine decide_eq_decide.2 ⟨fun hne=>by have:=B1.2 hne;omega,fun hpos e=>by rw[e]at hpos;simp at hpos⟩
    refine Ok.run2 (Wj p).length (fun i=>(Wj p,aD i,(i:Int),())) (by rw[haD];simp) U (fun i hi k hk=>?_) (fun k=>?_)
    .dsimp only at hk |-
     rw[hall i hi]at hk
     refine Ok.P (Ok.j (Ok.C (fun g=>Ok.atn hi (Ok.oe (Qea hdl) (Ok.C (fun g'=>?_) (fun g'=>?_)))) (fun g=>?_)))
     .dsimp only
      rw[Qa U]
      simp_all
     .dsimp only
      rw[Qa U]
      simp_all
     .dsimp only
      rw[Qa U]
      rw[g]at hk;exact hk
    .dsimp only
     rw[hlast]
     refine Ok.N (Ok.C (fun g=>Ok.ite (fun g0=>Ok.s ?_) (fun g0=>Ok.s ?_)) (fun g=>Ok.s ?_))
     .rw[iB ⟨g,g0⟩]
     .simp_all
     .grind
   .refine Ok.oe (Qea U) (Ok.C (fun g4=>?_) (fun g4=>?_))
    .have hd:=(QaH.1 hf.declined).1
     refine Ok.oe (Qs8 U hd) (hJ _ ?_)
     have:Qai p a=QiM p.i a.R:=by unfold Qai;rw[iB g4]
     rw[this]
    .refine hJ _ ?_
     have:Qai p a=p.i:=by unfold Qai;rw[iA (by rw[g4];simp)]
     rw[this]
  .rw[iA k1,iA k2,iB k3]
   rw[iB k3]at v6
   have v6:=Qu.1 v6
   rw[Qb U,Qb U]
  .rw[iA k1,iA k2,iA k3,iB k4,Qb U,Qb U]
  .simp_all
 .refine Ok.oe (Qgn hb h) (Ok.C (fun g1=>Ok.oe Qok (Ok.C (fun g2=>hJ _ ⟨rfl,g1,g2⟩) (fun g2=>Ok.s ?_))) (fun g1=>Ok.s ?_))
  .unfold answerV;rw[iB (.inr g2)];rfl
  .unfold answerV;rw[iB (.inl g1)];rfl
end
section
structure PgX (k:Int) (p:D.Page):Prop where
 decl:∀x∈p.i,x<4
 seen:∀x∈p.h,1<=x/\x<=k
def PgX.mono(h:PgX k p)(hk:k<=k'):PgX k' p:=⟨h.decl,fun x hx=>⟨(h.seen x hx).1,Cq (h.seen x hx).2 hk⟩⟩
def PgX.step{c:D.F}{b:D.b}{p:D.Page}{k:Int}(h:PgX k p):PgX k (stepQ c b p):=by
 unfold stepQ
 split
 .exact⟨h.decl,h.seen⟩
 .split
  .exact⟨h.decl,h.seen⟩
  .exact⟨Ob,h.seen⟩
def PgX.run(h:PgX k p)(hb:QU b)(hQ:Qkr Q M c b)(hi:QN Q M b p):PgX k (runV c b p now).1:=
 Qk7 hb hQ (fun q _ _ hr=>hr.step) hi h
def Qxf(h:z∈QiM l x):z∈l\/z=x:=by
 unfold QiM at h
 rcases Af.1 h with h|h
 .exact .inl (Bl.1 h).1
 .rcases AZ.1 h with h|h
  .exact .inr h
  .exact .inl (Bl.1 h).1
def PgX.answer(h:PgX k p)(ha:a.R<4)(hi:1<=a.S/\a.S<=k):PgX k (XL p a):=by
 have hs:∀x∈p.h++[a.S],1<=x/\x<=k:=V5 h.seen hi
 have hd:∀x∈Qai p a,x<4:=by
  unfold Qai
  split
  .intro x hx
   rcases Qxf hx with hx|rfl
   .exact h.decl x hx
   .exact ha
  .exact h.decl
 unfold XL
 split
 .split
  .exact⟨h.decl,hs⟩
  .exact⟨h.decl,hs⟩
 .split
  .exact⟨hd,hs⟩
  .split
   .exact⟨h.decl,hs⟩
   .split
    .exact⟨Ob,hs⟩
    .exact⟨h.decl,hs⟩
def PgX.dlen(h:PgX k p)(hi:setV p.i=true):p.i.length<=4:=by
 have hs:=QaH.1 hi
 exact Qtb hs.1 fun z hz=>⟨(hs.2 z hz).1,h.decl z hz⟩
def PgX.new{id pol start:Int}:PgX k (newP id pol start):=⟨by simp[newP],by simp[newP]⟩
end
open Go AM
def Qy3{t:Y Int}:QjJ 1000 t=some (decide ((t.length:Int)<=500)):=rfl
def QBI{t:Y Int}:QfC 1000 t=some ⟨t,0⟩:=rfl
def dice0{t:Y Int}:QY t ⟨t,0⟩:=⟨rfl,Aj _,by dsimp only;omega⟩
def Qw1{t:Y Int}(h:decide ((t.length:Int)<=500)=true):t.length<=500:=by have:=BF h;omega
section
attribute [local irreducible] dueV stepV runV QG answerV
section
structure QAk (a:D.a):Prop where
 pers : -1<=a.R/\a.R<4
 kind:1<=a.Z/\a.Z<=5
 arg3:a.Z=3->1<=a.Fo/\a.Fo<=5000
 arg4:a.Z=4->0<=a.Fo/\a.Fo<4
 arg0:a.Z≠3->a.Z≠4->a.Fo=0
def QAk.valid(h:QAk a)(h1:1<=a.S/\a.S<=999999)(h2:1<=a.Page/\a.Page<=999999)(h3:0<=a.At/\a.At<=8589934592):YY a=true:=by
 have hp:=h.pers;have hk:=h.kind
 unfold YY
 rw[Qu.2 h1,Qu.2 h2,Qu.2 (show -1<=a.R/\a.R<=31 by omega),Qu.2 h3,Qu.2 hk]
 simp only[B8]
 split
 .rename_i k3;have:=h.arg3 k3;exact Qu.2 U
 .split
  .rename_i k4;have:=h.arg4 k4;exact Qu.2 U
  .rename_i k3 k4;exact Ax (h.arg0 k3 k4)
def QvJ{id page at_:Int}(hL:L.length<=500)(hd:QY L d):Ok (V3 1000 d id page at_) fun r=>QY L r.2/\QAk r.1/\r.1.S=id/\r.1.Page=page/\r.1.At=at_:=by
 unfold V3
 refine Ok.opt (nx hL hd U U) fun⟨a0,d1⟩ ⟨h1,l1,u1⟩=>?_
 dsimp only at h1 l1 u1 |-
 refine Ok.opt (nx hL h1 U U) fun⟨a2,d3⟩ ⟨h3,l3,u3⟩=>?_
 dsimp only at h3 l3 u3 |-
 rw[Qb (x:=1+a2) U,Qb (x:=a0 - 1) U]
 refine Ok.j (Ok.ite (fun g=>?_) (fun g=>Ok.ite (fun g'=>?_) (fun g'=>?_)))
 .refine Ok.opt (QcK hL h3 Ob Ob) fun⟨a8,d9⟩ ⟨h9,m9⟩=>Ok.s ⟨h9,⟨by dsimp only;omega,by dsimp only;omega,fun _=>?_,fun e=>?_,fun e=>absurd g e⟩,rfl,rfl,rfl⟩
  .dsimp only at m9 |-
   simp only[AZ,BI,or_false]at m9
   omega
  .dsimp only at e;omega
 .refine Ok.opt (nx hL h3 U U) fun⟨a10,d11⟩ ⟨h11,l11,u11⟩=>Ok.s ⟨h11,⟨by dsimp only;omega,by dsimp only;omega,fun e=>?_,fun _=>⟨l11,u11⟩,fun _ e=>absurd g' e⟩,rfl,rfl,rfl⟩
  dsimp only at e;omega
 .exact Ok.s ⟨h3,⟨by dsimp only;omega,by dsimp only;omega,fun e=>absurd e g,fun e=>absurd e g',fun _ _=>rfl⟩,rfl,rfl,rfl⟩
def QxF(hb:QU b)(hQ:Qkr Q M c b)(h:QN Q M b p)(now):∃q,runV c b p now=(q,0)/\QN Q M b q/\Yp q now=false/\Kept p q:=by
 have h1:=QeB (now:=now) hb hQ h
 have h2:=Qf9 (now:=now) hb hQ h
 rcases hr:runV c b p now with⟨q,e⟩
 rw[hr]at h1 h2
 obtain⟨a1,a2,a3⟩:=h1
 dsimp only at a1 a2 a3 h2
 subst a2
 exact⟨q,rfl,a1,a3,h2⟩
end
end
open Go AM
def QO(id f:Int)(l:Y D.T):Y D.Call:=l.flatMap fun s=>s.l.map fun x=>D.Call.mk id s.K s.At x f
def Qc6{id f:Int}:QO id f (a++b)=QO id f a++QO id f b:=by unfold QO;rw[List.flatMap_append]
def unf(c:D.Call):D.Call:={ c with Fence:=0 }
def Qsc{id f:Int}:(QO id f l).map unf=QO id 0 l:=by
 unfold QO
 rw[List.map_flatMap]
 congr 1
 funext s
 rw[CN];rfl
def ownC(id:Int)(l:Y D.Call):Y D.Call:=l.filter fun c=>decide (c.Page=id)
def QaA{id:Int}:ownC id (a++b)=ownC id a++ownC id b:=B5 ..
def W8{id f:Int}:∀c∈QO id f l,c.Page=id/\c.Fence=f:=by
 intro c hc
 unfold QO at hc
 grind
def Qmd{id f:Int}:ownC id (QO id f l)=QO id f l:=by
 unfold ownC
 exact ET.2 fun c hc=>by simpa using(W8 c hc).1
def QuK{id i f:Int}(h:i≠id):ownC i (QO id f l)=[]:=by
 unfold ownC
 exact Cv.2 fun c hc=>by have:=(W8 c hc).1;simp;omega
structure Told (fence:Int) (p:D.Page) (l:Y D.Call):Prop where
 same:(ownC p.S l).map unf=QO p.S 0 p.P
 up:(ownC p.S l).Pairwise fun x y=>x.Fence<=y.Fence
 fit:∀c∈ownC p.S l,0<=c.Fence/\c.Fence<=fence
def Told.mono(h:Told f p l)(hg:f<=g):Told g p l:=⟨h.same,h.up,fun c hc=>by have:=h.fit c hc;omega⟩
def Told.more(h:Told f p l)(hf:0<=f)(hid:q.S=p.S)(hs:q.P=p.P++m):Told f q (l++QO p.S f m):=by
 refine⟨?_,?_,?_⟩
 .rw[hid,QaA,Qmd,Aq,h.same,Qsc,hs,Qc6]
 .rw[hid,QaA,Qmd]
  refine CH.2 ⟨h.up,?_,fun x hx y hy=>?_⟩
  .refine List.pairwise_iff_forall_sublist.2 fun{x y} hxy=>?_
   have h1:=(W8 x (hxy.subset Ob)).2
   have h2:=(W8 y (hxy.subset Ob)).2
   omega
  .have h1:=(h.fit x hx).2
   have h2:=(W8 y hy).2
   omega
 .rw[hid,QaA,Qmd]
  intro c hc
  rcases Af.1 hc with hc|hc
  .exact h.fit c hc
  .have:=(W8 c hc).2;omega
def Told.other{f id:Int}(h:Told f p l)(hid:p.S≠id):Told f p (l++QO id f m):=by
 have e:ownC p.S (l++QO id f m)=ownC p.S l:=by rw[QaA,QuK hid,An]
 exact⟨by rw[e];exact h.same,by rw[e];exact h.up,by rw[e];exact h.fit⟩
def AscP(l:Y D.Page):Prop:=l.Pairwise fun p q=>p.S<q.S
def posV(id:Int):Y D.Page->Nat
 |[]=>0
 |p::r=>if p.S<id then posV id r+1 else 0
def Qde{id:Int}:∀{l:Y D.Page},posV id l<=l.length
 |[]=>AN _
 |p::r=>by
  rw[posV]
  split
  .have:=Qde (id:=id) (l:=r);rw[Ad];omega
  .exact BL _
def hasV(id:Int)(l:Y D.Page):AH:=decide (posV id l<l.length/\(V l (posV id l)).S=id)
def QbG[AK α]{x:α}{l:Y α}:V (x::l) (i+1)=V l i:=by simp[V]
def Qeg[AK α]{x:α}{l:Y α}:V (x::l) 0=x:=by simp[V]
def Qmn{id:Int}:∀{l:Y D.Page} {i:Nat},i<posV id l->(V l i).S<id
 |[],i,h=>by simp[posV]at h
 |p::r,i,h=>by
  rw[posV]at h
  split at h
  .rename_i hp
   cases i with
   |zero=>rw[Qeg];exact hp
   |succ i=>rw[QbG];exact Qmn U
  .omega
def Qmm{id:Int}:∀{l:Y D.Page},AscP l->∀{i:Nat},posV id l<=i->i<l.length->id<=(V l i).S
 |[],_,i,_,h=>by simp at h
 |p::r,ha,i,h1,h2=>by
  have ha':=CF.1 ha
  rw[posV]at h1
  split at h1
  .cases i with
   |zero=>omega
   |succ i=>rw[QbG];exact Qmm ha'.2 U (by simpa using h2)
  .cases i with
   |zero=>rw[Qeg];omega
   |succ i=>
    rw[QbG]
    have:=ha'.1 (V r i) (Qf (by simpa using h2))
    omega
def Qd5(h:AscP l)(hij:i<j)(hj:j<l.length):(V l i).S<(V l j).S:=by
 have:=CP.1 h i j U hj hij
 simpa [V,AQ,AR hj,AR (show i<l.length by omega)]using this
def QhV(h:AscP l)(hi:i<l.length):posV (V l i).S l=i:=by
 rcases Cs (posV (V l i).S l) i with g|g|g
 .have:=Qmm h (AN (posV (V l i).S l)) U
  have:=Qd5 h g hi
  omega
 .exact g
 .have:=Qmn g;omega
def QlW(h:AscP l)(hi:i<l.length):hasV (V l i).S l=true:=by
 unfold hasV;rw[QhV h hi];simp[hi]
def QwJ{id:Int}(ha:AscP l)(h:hasV id l=false):∀p∈l,p.S≠id:=by
 intro p hp e
 obtain⟨i,hi,rfl⟩:=BZ hp
 have e1:V l i=l[i]:=by simp[V,AQ,AR hi]
 have:=QlW ha hi
 simp_all
def insP(l:Y D.Page)(p:D.Page):Y D.Page:=l.take (posV p.S l)++p::l.drop (posV p.S l)
def Qxl{id:Int}:∀{l:Y D.Page},∀p∈l.take (posV id l),p.S<id
 |[],p,h=>by simp at h
 |q::r,p,h=>by
  rw[posV]at h
  split at h
  .rename_i hq
   rw[CS]at h
   rcases AZ.1 h with rfl|h
   .exact hq
   .exact Qxl p h
  .simp at h
def QsA{id:Int}:∀{l:Y D.Page},AscP l->∀p∈l.drop (posV id l),id<=p.S
 |[],_,p,h=>by simp at h
 |q::r,ha,p,h=>by
  have ha':=CF.1 ha
  rw[posV]at h
  split at h
  .rw[Ci]at h;exact QsA ha'.2 p h
  .rename_i hq
   rw[Cb]at h
   rcases AZ.1 h with rfl|h
   .omega
   .have:=ha'.1 p h;omega
def QyT(h:AscP l)(hn:hasV p.S l=false):AscP (insP l p):=by
 have hne:=QwJ h hn
 refine CH.2 ⟨h.sublist (C9 ..),CF.2 ⟨fun q hq=>?_,h.sublist (List.drop_sublist ..)⟩,fun q hq r hr=>?_⟩
 .have:=QsA h q hq
  grind
 .have h1:=Qxl q hq
  rcases AZ.1 hr with rfl|hr
  .exact h1
  .have:=QsA h r hr;omega
def Qiz:q∈insP l p↔q=p\/q∈l:=by
 unfold insP
 rw[Af,AZ]
 constructor
 .grind
 .rintro(h|h)
  .exact .inr (.inl h)
  .have h2:=h
   rw[<-B2 (posV p.S l) l]at h2
   grind
def Qzv(h:AscP l)(hi:i<l.length)(hp:p.S=(V l i).S):AscP (l.set i p):=by
 have e:∀j,j<l.length->(V (l.set i p) j).S=(V l j).S:=fun j hj=>by
  by_cases hij:j=i
  .subst hij;simp[V,AQ,hi]at hp |-;exact hp
  .simp[V,AQ,CA,Ag hij]
 refine CP.2 fun j k hj hk hjk=>?_
 have hj':j<l.length:=by simpa using hj
 have hk':k<l.length:=by simpa using hk
 have h1:=e j hj';have h2:=e k hk'
 have h3:=Qd5 h hjk hk'
 have g1:V (l.set i p) j=(l.set i p)[j]:=by simp only[V,AQ,AR hj,B0]
 have g2:V (l.set i p) k=(l.set i p)[k]:=by simp only[V,AQ,AR hk,B0]
 simp_all
structure QnE (l:Y Int) (n:Nat):Prop where
 len:l.length<=n
 nodup:l.Nodup
 fit:∀x∈l,1<=x/\x<=1099511627776
def QnE.snoc(h:QnE l n)(h1:1<=x/\x<=1099511627776)(h2:l.contains x=false):QnE (l++[x]) (n+1):=by
 refine⟨by have:=h.len;simp;omega,EX.2 ⟨h.nodup,Ob,fun y hy z hz e=>?_⟩,fun y hy=>?_⟩
 .simp_all
 .rcases Af.1 hy with hy|hy
  .exact h.fit y hy
  .simp_all
def QT:Int->D.T->Prop:=fun _ s=>s.l.length<=4
def QT.step{M:Int}{c:D.F}{b:D.b}:Qkr QT M c b:=fun _ _ _ _=>Qqm
def Goes.short(hq:∀s,Q s->s.l.length<=4)(g:Goes Q st l k t h):∀s∈l,s.l.length<=4:=by
 induction g with
 |nil=>intro s hs;simp at hs
 |step g h1 h2 h3 h4 ih=>
  grind
 |hand g h1 h2 h3 h4 ih=>
  grind
structure Qd (M:Int) (n:Nat) (l:D.G):Prop where
 top:M<=8000000000
 now:0<=l.E9/\l.E9<=M - 20000
 small:n<=48
 cfg:Zg n l.F
 book:QU l.b
 page:∀p∈l.H,QN QT M l.b p/\p.FM<=l.E9
 asc:AscP l.H
 len:l.H.length<=64
 owner : -1<=l.E5/\l.E5<=4
 fence:0<=l.Fence/\l.Fence<=(l.h.length:Int)
 seen:QnE l.h 256
 told:∀p∈l.H,Told l.Fence p l.Calls
 all:∀c∈l.Calls,∃p∈l.H,p.S=c.Page
structure LW (M:Int) (n:Nat) (l:D.G):Prop where
 top:M<=8000000000
 now:0<=l.E9/\l.E9<=8589934592
 small:n<=48
 cfg:Zg n l.F
 book:QU l.b
 page:∀p∈l.H,QN QT M l.b p/\p.FM<=l.E9
 asc:AscP l.H
 len:l.H.length<=64
 owner : -1<=l.E5/\l.E5<=4
 fence:0<=l.Fence/\l.Fence<=1048576
 seen:QnE l.h 256
 told:∀p∈l.H,Told l.Fence p l.Calls
 all:∀c∈l.Calls,∃p∈l.H,p.S=c.Page
def Qd.w(h:Qd M n l):LW M n l:=by
 have h1:=h.top;have h2:=h.now;have h3:=h.fence;have h4:=h.seen.len
 exact⟨h1,U,h.small,h.cfg,h.book,h.page,h.asc,h.len,h.owner,U,h.seen,h.told,h.all⟩
def putV(l:D.G)(i:Nat)(p:D.Page):D.G:=
 { l with H:=l.H.set i p,Calls:=l.Calls++QO p.S l.Fence (p.P.drop (V l.H i).P.length) }
def runI(l:D.G)(i:Nat):D.G:=if (runV l.F l.b (V l.H i) l.E9).2≠0 then l else putV l i (runV l.F l.b (V l.H i) l.E9).1
def ZG(l:D.G):Nat->D.G
 |0=>l
 |k+1=>runI (ZG l k) k
def QlJ(c:D.F)(i:Int)(x:D.t):D.F:=
 { c with f:=c.f.set i.toNat { V c.f i.toNat with FS:=(V c.f i.toNat).FS++[x] } }
def opV(l:D.G)(o:D.Op):D.G×Int:=
  if o.Z=1 then
    (if hasV o.Page l.H=true then(l,4)else if l.H.length=64 then(l,5)else if o.Page<1 then(l,1)
     else if 0<=o.W/\o.W<(l.b.k.length:Int)then(runI { l with H:=insP l.H (newP o.Page o.W l.E9) } (posV o.Page l.H),0)else(l,3))
  else if o.Z=2 then(if o.Fence=l.Fence+1 then({ l with E5:=o.Region,Fence:=o.Fence },0)else(l,23))
  else if o.Z=3 then
    (if o.Region=l.E5/\o.Fence=l.Fence then
      (if hasV o.Page l.H=true then
        (if Yp (V l.H (posV o.Page l.H)) l.E9=true/\o.K=(if (V l.H (posV o.Page l.H)).p=2 then -1 else(V l.H (posV o.Page l.H)).E7)then(runI l (posV o.Page l.H),0)else(l,9))
       else(l,3))
     else(l,23))
  else if o.Z=4 then
    (if hasV o.a.Page l.H=true then
      (if (answerV l.b (V (runI l (posV o.a.Page l.H)).H (posV o.a.Page l.H)) { o.a with At:=l.E9 }).2=0 then
         (putV (runI l (posV o.a.Page l.H)) (posV o.a.Page l.H) (answerV l.b (V (runI l (posV o.a.Page l.H)).H (posV o.a.Page l.H)) { o.a with At:=l.E9 }).1,0)
       else(runI l (posV o.a.Page l.H),(answerV l.b (V (runI l (posV o.a.Page l.H)).H (posV o.a.Page l.H)) { o.a with At:=l.E9 }).2))
     else(l,3))
  else if 0<=o.e/\o.e<2 then({ ZG l l.H.length with F:=QlJ l.F o.e o.t },0)else(ZG l l.H.length,3)
def Zk(l:D.G)(o:D.Op):D.G×Int:=
 if l.h.contains o.S=true then(l,0)else opV { l with E9:=max l.E9 o.At,h:=l.h++[o.S] } o
section
variable {M:Int} {n:Nat} {l:D.G} {i:Nat} {p q:D.Page} {b:D.b} {c:D.F} {now:Int}
def Ext(p q:D.Page):Prop:=∃m,q.P=p.P++m
def Ext.refl(p):Ext p p:=⟨[],Ob⟩
def Ext.step(h:Ext p q):Ext p (stepQ c b q):=by
 obtain⟨m,hm⟩:=h
 unfold stepQ
 split
 .exact⟨m,hm⟩
 .split
  .exact⟨m,hm⟩
  .exact⟨m++[_],by dsimp only;rw[hm,List.append_assoc]⟩
def QpR(hb:QU b)(h:QN QT M b p):Ext p (runV c b p now).1:=
 Qk7 hb QT.step (fun q _ _ hr=>hr.step) h (Ext.refl p)
def Qhu:Ext p (XL p a):=by
 by_cases h:a.Z=4
 .exact⟨_,Qlg.1 h⟩
 .exact⟨[],by rw[Qlg.2 h];simp⟩
def QuQ(hx:Ext (V l.H i) p):∃m,p.P=(V l.H i).P++m/\(putV l i p).Calls=l.Calls++QO p.S l.Fence m:=by
 obtain⟨m,hm⟩:=hx
 refine⟨m,hm,?_⟩
 unfold putV
 simp_all
def Ql[AK α]{l:Y α}{x:α}(h:i<l.length):V (l.set i x) i=x:=by
 simp[V,AQ,h]
def QB[AK α]{l:Y α}{x:α}(h:j≠i):V (l.set i x) j=V l j:=by
 simp[V,AQ,CA,Ag h]
def Qdb[AK α]{l:Y α}{x:α}(h:x∈l):∃i,i<l.length/\V l i=x:=by
 obtain⟨i,hi,e⟩:=BZ h
 exact⟨i,hi,by simp[V,AQ,AR hi,e]⟩
def Qd.put(h:Qd M n l)(hi:i<l.H.length)(hp:QN QT M l.b p)(hl:p.FM<=l.E9)(hid:p.S=(V l.H i).S)(hx:Ext (V l.H i) p):Qd M n (putV l i p):=by
 obtain⟨m,hm,hc⟩:=QuQ hx
 have hf:=h.fence
 have hpage:∀q∈(l.H.set i p),q=p\/(q∈l.H/\q.S≠p.S):=by
  intro q hq
  obtain⟨j,hj,rfl⟩:=Qdb hq
  rw[CL]at hj
  by_cases e:j=i
  .subst e;rw[Ql hj];exact .inl rfl
  .rw[QB e]
   refine .inr ⟨Qf hj,fun e2=>?_⟩
   rw[hid]at e2
   have h1:=QhV h.asc hj
   have h2:=QhV h.asc hi
   rw[e2]at h1;omega
 refine⟨h.top,h.now,h.small,h.cfg,h.book,fun q hq=>?_,Qzv h.asc hi hid,by show(l.H.set i p).length<=64;rw[CL];exact h.len,h.owner,h.fence,h.seen,fun q hq=>?_,fun x hx=>?_⟩
 .rcases hpage q hq with rfl|⟨hq,_⟩
  .exact⟨hp,hl⟩
  .exact h.page q hq
 .rw[hc]
  show Told l.Fence q _
  rcases hpage q hq with rfl|⟨hq,hne⟩
  .exact hid ▸ (h.told _ (Qf hi)).more hf.1 hid hm
  .exact(h.told q hq).other hne
 .rw[hc]at hx
  show ∃q∈l.H.set i p,q.S=x.Page
  rcases Af.1 hx with hx|hx
  .obtain⟨q,hq,e⟩:=h.all x hx
   obtain⟨j,hj,rfl⟩:=Qdb hq
   by_cases e2:j=i
   .subst e2;exact⟨p,by have:=Qf (l:=l.H.set j p) (i:=j) (by simpa using hj);rwa [Ql hj]at this,by rw[hid,e]⟩
   .exact⟨_,by have:=Qf (l:=l.H.set i p) (i:=j) (by simpa using hj);rwa [QB e2]at this,e⟩
  .exact⟨p,by have:=Qf (l:=l.H.set i p) (i:=i) (by simpa using hi);rwa [Ql hi]at this,(W8 x hx).1.symm⟩
def Qd.at(h:Qd M n l)(hi:i<l.H.length):QN QT M l.b (V l.H i)/\(V l.H i).FM<=l.E9:=h.page _ (Qf hi)
def LW.at(h:LW M n l)(hi:i<l.H.length):QN QT M l.b (V l.H i)/\(V l.H i).FM<=l.E9:=h.page _ (Qf hi)
def LW.runEq(h:LW M n l)(hi:i<l.H.length):runI l i=putV l i (runV l.F l.b (V l.H i) l.E9).1:=by
 unfold runI
 rw[(QeB h.book QT.step (h.at hi).1).2.1,iA Ob]
def Qd.runEq(h:Qd M n l)(hi:i<l.H.length):runI l i=putV l i (runV l.F l.b (V l.H i) l.E9).1:=h.w.runEq hi
def Qd.run(h:Qd M n l)(hi:i<l.H.length):Qd M n (runI l i):=by
 rw[h.runEq hi]
 have hp:=h.at hi
 exact h.put hi (QeB h.book QT.step hp.1).1 (QxE h.book QT.step hp.1 hp.2) (Qf9 h.book QT.step hp.1).id (QpR h.book hp.1)
def Y7:(runI l i).E9=l.E9/\(runI l i).F=l.F/\(runI l i).b=l.b/\(runI l i).E5=l.E5/\(runI l i).Fence=l.Fence/\(runI l i).h=l.h/\(runI l i).H.length=l.H.length:=by
 unfold runI putV
 grind
def QdS(h:Qd M n l)(hi:i<l.H.length):V (runI l i).H j=if j=i then(runV l.F l.b (V l.H i) l.E9).1 else V l.H j:=by
 rw[h.runEq hi]
 unfold putV
 dsimp only
 split
 .rename_i e;subst e;rw[Ql hi]
 .rename_i e;rw[QB e]
def YG:∀{k:Nat},(ZG l k).E9=l.E9/\(ZG l k).F=l.F/\(ZG l k).b=l.b/\(ZG l k).E5=l.E5/\(ZG l k).Fence=l.Fence/\(ZG l k).h=l.h/\(ZG l k).H.length=l.H.length
 |0=>⟨rfl,rfl,rfl,rfl,rfl,rfl,rfl⟩
 |k+1=>by
  have h1:=Y7 (l:=ZG l k) (i:=k)
  have h2:=YG (k:=k)
  rw[ZG]
  exact⟨h1.1.trans h2.1,h1.2.1.trans h2.2.1,h1.2.2.1.trans h2.2.2.1,h1.2.2.2.1.trans h2.2.2.2.1,h1.2.2.2.2.1.trans h2.2.2.2.2.1,h1.2.2.2.2.2.1.trans h2.2.2.2.2.2.1,h1.2.2.2.2.2.2.trans h2.2.2.2.2.2.2⟩
def Qd.runs(h:Qd M n l):∀{k:Nat},k<=l.H.length->Qd M n (ZG l k)
 |0,_=>h
 |k+1,hk=>by
  have h2:=YG (l:=l) (k:=k)
  exact(h.runs (k:=k) U).run U
def QoK(h:Zg n c)(hx:Qb0 x)(hs:0<=s/\s<2):Zg (n+1) (QlJ c s x):=by
 have hsl:=h.slen
 have hi:s.toNat<c.f.length:=U
 have hso:=h.sched _ (Qf hi)
 refine⟨h.zone,h.pname,h.person,h.cal,?_,fun y hy=>?_⟩
 .rw[<-h.sname]
  unfold QlJ
  dsimp only
  refine EY Ob fun j h1 h2=>?_
  simp only[List.getElem_map,List.getElem_set]
  split
  .rename_i e;subst e
   simp[V,AQ,AR hi]
  .rfl
 .obtain⟨j,hj,rfl⟩:=Qdb hy
  have hj:j<(c.f.set s.toNat _).length:=hj
  rw[CL]at hj
  show Qfd (n+1) (V (c.f.set s.toNat _) j)
  by_cases e:j=s.toNat
  .subst e
   rw[Ql hi]
   exact⟨hso.layers,by have:=hso.len;simp;omega,fun z hz=>by
    rcases Af.1 hz with hz|hz
    .exact hso.edit z hz
    .rw[Ai.1 hz];exact hx⟩
  .rw[QB e]
   have:=h.sched _ (Qf hj)
   exact⟨this.layers,by have:=this.len;omega,this.edit⟩
structure OpIn (o:D.Op):Prop where
 id:1<=o.S/\o.S<=1099511627776
 kind:1<=o.Z/\o.Z<=5
 region:0<=o.Region/\o.Region<=4
 fence:0<=o.Fence/\o.Fence<=1048576
 at_:0<=o.At/\o.At<=8589934592
 page:0<=o.Page/\o.Page<=999999
 k : -1<=o.K/\o.K<=1000
 answer:o.Z=4->YY o.a=true/\(o.a.Z=3->o.a.Fo<=5000)
 edit:o.Z=5->0<=o.e/\o.e<2->Qb0 o.t
def Qx0(h:YY a=true)(ht:0<=t/\t<=8589934592):YY { a with At:=t }=true:=by
 unfold YY at h |-
 simp only[bae,Qu]at h |-
 simp_all
def Qd.see(h:Qd M n l)(ho:OpIn o)(hn:max l.E9 o.At<=M - 20000)(hs:l.h.contains o.S=false)(hl:l.h.length<256):Qd M n { l with E9:=max l.E9 o.At,h:=l.h++[o.S] }:=by
 have hnow:=h.now;have hf:=h.fence
 refine⟨h.top,⟨by dsimp only;omega,hn⟩,h.small,h.cfg,h.book,fun p hp=>⟨(h.page p hp).1,by have:=(h.page p hp).2;dsimp only;omega⟩,h.asc,h.len,h.owner,⟨hf.1,by dsimp only;rw[List.length_append];simp;omega⟩,?_,h.told,h.all⟩
 have:=h.seen.snoc ho.id hs
 exact⟨by dsimp only;simp;omega,this.nodup,this.fit⟩
def Qd.open{o:D.Op}(h:Qd M n l)(hp:hasV o.Page l.H=false)(h1:1<=o.Page/\o.Page<=999999)(h2:0<=o.W/\o.W<(l.b.k.length:Int))(hl:l.H.length<64):
  Qd M n { l with H:=insP l.H (newP o.Page o.W l.E9) }/\posV o.Page l.H<(insP l.H (newP o.Page o.W l.E9)).length/\V (insP l.H (newP o.Page o.W l.E9)) (posV o.Page l.H)=newP o.Page o.W l.E9:=by
 have hnow:=h.now
 have hnew:QN QT M l.b (newP o.Page o.W l.E9):=QBs h.top h.book h1 h2 hnow
 have hlen:(insP l.H (newP o.Page o.W l.E9)).length=l.H.length+1:=by
  unfold insP;rw[List.length_append,List.length_cons,List.length_take,List.length_drop]
  omega
 have hpos:=Qde (id:=o.Page) (l:=l.H)
 refine⟨⟨h.top,h.now,h.small,h.cfg,h.book,fun q hq=>?_,QyT h.asc hp,by dsimp only;omega,h.owner,h.fence,h.seen,fun q hq=>?_,fun x hx=>?_⟩,U,?_⟩
 .rcases Qiz.1 hq with rfl|hq
  .exact⟨hnew,Aj _⟩
  .exact h.page q hq
 .rcases Qiz.1 hq with rfl|hq
  .have e:ownC o.Page l.Calls=[]:=Cv.2 fun x hx=>by
    obtain⟨q,hq,e⟩:=h.all x hx
    have:=QwJ h.asc hp q hq
    simp;omega
   exact⟨by show(ownC o.Page l.Calls).map unf=_;rw[e];rfl,by show(ownC o.Page l.Calls).Pairwise _;rw[e];exact List.Pairwise.nil,by show ∀x∈ownC o.Page l.Calls,_;rw[e];simp⟩
  .exact h.told q hq
 .obtain⟨q,hq,e⟩:=h.all x hx
  exact⟨q,Qiz.2 (.inr hq),e⟩
 .unfold insP
  show V (l.H.take (posV o.Page l.H)++_::_) (posV o.Page l.H)=_
  simp[V,AQ,B9,CC hpos]
def Qd.own(h:Qd M n l)(ho:OpIn o)(hf:o.Fence=l.Fence+1)(hs:l.Fence<(l.h.length:Int)):Qd M n { l with E5:=o.Region,Fence:=o.Fence }:=by
 have hr:=ho.region;have h0:=h.fence
 exact⟨h.top,h.now,h.small,h.cfg,h.book,h.page,h.asc,h.len,⟨by dsimp only;omega,by dsimp only;omega⟩,⟨by dsimp only;omega,by dsimp only;omega⟩,h.seen,fun p hp=>(h.told p hp).mono (by dsimp only;omega),h.all⟩
def Qd.edit{o:D.Op}(h:Qd M n l)(hn:n<48)(hx:Qb0 o.t)(hs:0<=o.e/\o.e<2):Qd M (n+1) { l with F:=QlJ l.F o.e o.t }:=
 ⟨h.top,h.now,U,QoK h.cfg hx hs,h.book,h.page,h.asc,h.len,h.owner,h.fence,h.seen,h.told,h.all⟩
def Qd.wide(h:Qd M n l)(hn:n<48):Qd M (n+1) l:=
 ⟨h.top,h.now,U,h.cfg.mono U,h.book,h.page,h.asc,h.len,h.owner,h.fence,h.seen,h.told,h.all⟩
def UK{id:Int}(h:hasV id l.H=true):posV id l.H<l.H.length/\(V l.H (posV id l.H)).S=id:=by
 unfold hasV at h;exact of_decide_eq_true h
def Qd.answer(h:Qd M n l)(hi:i<l.H.length)(ha:a.At=l.E9)(hv:YY a=true)(hs:a.Z=3->a.Fo<=5000)(hr:(answerV l.b (V l.H i) a).2=0):Qd M n (putV l i (answerV l.b (V l.H i) a).1):=by
 have hp:=h.at hi
 have hc:=hp.1.check h.book
 have hnow:=h.now
 revert hr
 unfold answerV
 rw[hc,hv,iA Ob]
 split
 .intro e;simp at e
 .split
  .intro _;exact h.put hi hp.1 hp.2 rfl (Ext.refl _)
  .rename_i hs2
   split
   .omega
   .rename_i hre
    intro _
    have hre:Wr (V l.H i) a=0:=by simpa using hre
    have h0:=Qrw hre
    exact h.put hi (hp.1.answerQ_inv h.book hv U hs (by simpa using hs2) hre) (by rw[<-ha];exact Qqc h0.1) Qjr.1 Qhu
def Qd.op0(hw:Qd M n l)(ho:OpIn o)(hk5:o.Z≠5)(hs:l.Fence<(l.h.length:Int)):Qd M n (opV l o).1:=by
 have hk:=ho.kind
 unfold opV
 split
 .split
  .exact hw
  .rename_i hp
   split
   .exact hw
   .split
    .exact hw
    .split
     .rename_i h1 h2 h3
      have h4:=ho.page;have h5:=hw.len
      have:=hw.open (o:=o) (by simpa using hp) U h3 U
      exact this.1.run this.2.1
     .exact hw
 .split
  .split
   .rename_i hf
    exact hw.own ho hf hs
   .exact hw
  .split
   .split
    .split
     .rename_i hp
      generalize (if (V l.H (posV o.Page l.H)).p=2 then(-1:Int)else(V l.H (posV o.Page l.H)).E7)=kk
      split
      .exact hw.run (UK hp).1
      .exact hw
     .exact hw
    .exact hw
   .split
    .rename_i k4
     split
     .rename_i hp
      have hi:=(UK hp).1
      have hr:=hw.run hi
      have hkp:=Y7 (l:=l) (i:=posV o.a.Page l.H)
      have ha:=ho.answer k4
      have hnow:=hw.now;have htop:=hw.top
      split
      .rename_i he
       have:=hr.answer (i:=posV o.a.Page l.H) (a:={ o.a with At:=l.E9 }) U hkp.1.symm (Qx0 ha.1 U) ha.2 (by rw[hkp.2.2.1];exact he)
       simp_all
      .exact hr
     .exact hw
    .omega
def Qd.op(h:Qd M n l)(hn:n<48)(ho:OpIn o)(hs:l.Fence<(l.h.length:Int)):Qd M (n+1) (opV l o).1:=by
 have hw:=h.wide hn
 by_cases k5:o.Z=5
 .unfold opV
  rw[iA U,iA U,iA U,iA U]
  split
  .rename_i hsch
   have h3:=h.runs (AN _)
   have h4:=YG (l:=l) (k:=l.H.length)
   have:=h3.edit hn (ho.edit k5 hsch) hsch
   simp_all
  .exact hw.runs (AN _)
 .exact hw.op0 ho k5 hs
def Qd.apply(h:Qd M n l)(hn:n<48)(ho:OpIn o)(ht:max l.E9 o.At<=M - 20000)(hl:l.h.length<256):Qd M (n+1) (Zk l o).1:=by
 unfold Zk
 split
 .exact h.wide hn
 .rename_i hs
  exact(h.see ho ht (by simpa using hs) hl).op hn ho (by dsimp only;have:=h.fence;rw[List.length_append];simp;omega)
def Qd.apply0(h:Qd M n l)(ho:OpIn o)(hk5:o.Z≠5)(ht:max l.E9 o.At<=M - 20000)(hl:l.h.length<256):Qd M n (Zk l o).1:=by
 unfold Zk
 split
 .exact h
 .rename_i hs
  exact(h.see ho ht (by simpa using hs) hl).op0 ho hk5 (by dsimp only;have:=h.fence;rw[List.length_append];simp;omega)
end
section
attribute [local irreducible] dueV stepV runV QG answerV
section
def Qb5{id f:Int}:∀{l:Y D.T},(∀s∈l,s.l.length<=m)->(QO id f l).length<=m*l.length
 |[],_=>by simp[QO]
 |s::l,h=>by
  have:=Qb5 (id:=id) (f:=f) (l:=l) fun x hx=>h x (BB _ hx)
  have h1:=h s (BA ..)
  unfold QO at this |-
  rw[EM,Ab,AX,Ad,Nat.mul_succ];omega
def Qfi{id f:Int}:QO id f (l++[s])=QO id f l++s.l.map fun x=>D.Call.mk id s.K s.At x f:=by
 rw[Qc6];unfold QO;simp
def QtP[AK α]{l:Y α}:V (l.drop k) j=V l (k+j):=by
 simp[V,AQ,Ap]
def QoB(h:QC p)(hk:k<=p.P.length):QdH 1000 p (k:Int) f=some (QO p.S f (p.P.drop k)):=by
 have hst:=h.st
 refine Ok.eq ?_
 unfold QdH
 refine Ok.run (p.P.length - k) (fun j=>((f,((k+j:Nat):Int),()),p,QO p.S f ((p.P.drop k).take j),())) rfl U (fun j hj kk hkk=>?_) (fun kk=>?_)
 .try dsimp only
  have hlt:k+j<p.P.length:=U
  refine Ok.P (Ok.atn hlt ?_)
  have hpe:=(h.pe _ (Qf hlt)).1
  have hdl:j<(p.P.drop k).length:=by simp;omega
  have hts:(p.P.drop k).take (j+1)=(p.P.drop k).take j++[V p.P (k+j)]:=by rw[<-Qp hdl,QtP]
  have hol:(QO p.S f ((p.P.drop k).take j)).length<=40*((p.P.drop k).take j).length:=Qb5 (m:=40) fun s hs=>(h.pe s (Bp (Bo hs))).1
  rw[Ae]at hol
  obtain⟨s,hs⟩:∃s,V p.P (k+j)=s:=⟨_,rfl⟩
  rw[hs]at hpe hts |-
  refine Ok.run s.l.length (fun z=>((f,((k+j:Nat):Int),(z:Int),()),p,s,QO p.S f ((p.P.drop k).take j)++(s.l.take z).map (fun x=>D.Call.mk p.S s.K s.At x f),())) (by rw[Bd,Al,An];rfl) U (fun z hz k2 hk2=>?_) (fun k2=>?_)
  .try dsimp only
   refine Ok.P (Ok.atn hz (Ok.TO ?_ ?_))
   .grind
   .try dsimp only
    rw[Qa U]
    try dsimp only at hk2
    rw[<-Qp hz,Aq,<-Aw]at hk2
    exact hk2
  .try dsimp only
   refine Ok.N ?_
   try dsimp only
   rw[Qa U,Ac]
   try dsimp only at hkk
   rw[hts,Qfi]at hkk
   exact hkk
 .try dsimp only
  refine Ok.N (Ok.s ?_)
  rw[Bf Ob]
def Qni{id:Int}(hi:i<cs.length):ownC id (cs.take (i+1))=ownC id (cs.take i)++(if (V cs i).Page=id then[V cs i]else[]):=by
 rw[<-Qp hi,QaA]
 congr 1
 unfold ownC
 grind
def QBW(h:QC p)(hl:l.Calls.length<=900)(ht:Told l.Fence p l.Calls):QgP 1000 l p=some true:=by
 have hW:=ht.same
 obtain⟨W,hWe⟩:∃W,QO p.S 0 p.P=W:=⟨_,rfl⟩
 rw[hWe]at hW
 have hWl:W.length=(ownC p.S l.Calls).length:=by rw[<-hW,AX]
 have hol:∀i,(ownC p.S (l.Calls.take i)).length<=900:=fun i=>by
  unfold ownC
  grind
 refine Ok.eq ?_
 unfold QgP
 have hc:=QoB (k:=0) (f:=0) h (BL _)
 rw[Cb,hWe]at hc
 refine Ok.oe hc ?_
 refine Ok.loop (fun m x=>∃(i:Nat) (fe:Int),x=((W,((ownC p.S (l.Calls.take i)).length:Int),fe,(i:Int),()),l,p,())/\i<=l.Calls.length/\(fe=0\/∃c∈ownC p.S (l.Calls.take i),c.Fence=fe)/\m=l.Calls.length - i) (m:=l.Calls.length) U
  ⟨0,0,by rw[Bd];rfl,U,.inl rfl,rfl⟩ ?_
 rintro m x ⟨i,fe,rfl,i1,i2,rfl⟩ K hK
 try dsimp only
 have hoi:=hol i
 refine Ok.ite (fun hi=>?_) (fun hi=>?_)
 .have hlt:i<l.Calls.length:=U
  refine Ok.j (Ok.atn hlt ?_)
  have hsu:=Qni (id:=p.S) hlt
  have hsp:l.Calls=l.Calls.take i++V l.Calls i::l.Calls.drop (i+1):=by rw[<-Qfr hlt,B2]
  obtain⟨c,hce⟩:∃c,V l.Calls i=c:=⟨_,rfl⟩
  rw[hce]at hsu hsp |-
  refine Ok.ite (fun g=>?_) (fun g=>?_)
  .rw[iA g,An]at hsu
   try dsimp only
   rw[Qa U]
   refine hK _ _ U ⟨i+1,fe,by rw[hsu],U,by rw[hsu];exact i2,rfl⟩
  .have g:c.Page=p.S:=U
   rw[iB g]at hsu
   have hown:ownC p.S l.Calls=ownC p.S (l.Calls.take i)++c::ownC p.S (l.Calls.drop (i+1)):=by
    rw[hsp,QaA]
    congr 1
    .rw[<-hsp]
    .unfold ownC
     grind
   have hcm:c∈ownC p.S l.Calls:=by rw[hown];simp
   have hfit:=ht.fit c hcm
   have hle:fe<=c.Fence:=by
    rcases i2 with rfl|⟨c',hc',rfl⟩
    .exact hfit.1
    .have:=ht.up
     grind
   have hn:(ownC p.S (l.Calls.take i)).length<W.length:=by rw[hWl,hown];simp
   have hnth:V W (ownC p.S (l.Calls.take i)).length=unf c:=by
    have e:W=(ownC p.S (l.Calls.take i)).map unf++(unf c::(ownC p.S (l.Calls.drop (i+1))).map unf):=by rw[<-hW,hown,Aq,AU]
    rw[e]
    simp[V,AQ]
   refine Ok.TG (fun y=>y=((W,((ownC p.S (l.Calls.take i)).length:Int),(i:Int),()),l,p,c,())) (fun y hy=>?_) (fun zG hJ=>Ok.N (Ok.N (Ok.N (hJ _ rfl))))
   subst hy
   try dsimp only
   refine Ok.atn hn ?_
   rw[hnth]
   refine Ok.n (fun h=>h rfl) ?_
   try dsimp only
   rw[Qa U,Qa U]
   refine hK _ _ U ⟨i+1,c.Fence,by rw[hsu];simp,U,.inr ⟨c,by rw[hsu];simp,rfl⟩,rfl⟩
 .have e:i=l.Calls.length:=U
  subst e
  refine Ok.s (Ax ?_)
  simp_all
def sumC(l:Y D.Page)(f:D.Page->Nat):Nat:=(l.map f).sum
def QzB(e:∀p∈l,f p=g p+h p):sumC l f=sumC l g+sumC l h:=by
 induction l with
 |nil=>rfl
 |cons p l ih=>
  have:=ih fun q hq=>e q (BB _ hq)
  have h1:=e p (BA ..)
  simp only[sumC,AU,Cc]at this |-
  omega
def QzC(ha:AscP l)(hx:∃p∈l,p.S=x):sumC l (fun p=>if x=p.S then 1 else 0)=1:=by
 induction l with
 |nil=>obtain⟨p,hp,_⟩:=hx;simp at hp
 |cons q l ih=>
  have ha':=CF.1 ha
  have hz:∀(l:Y D.Page),(∀p∈l,x≠p.S)->sumC l (fun p=>if x=p.S then 1 else 0)=0:=by
   intro l
   induction l with
   |nil=>intro _;rfl
   |cons p l ih=>
    intro h
    simp only[sumC,AU,Cc]
    rw[iA (h p (BA ..))]
    have:=ih fun q hq=>h q (BB _ hq)
    unfold sumC at this;omega
  simp only[sumC,AU,Cc]
  by_cases e:x=q.S
  .rw[iB e]
   have:=hz l fun p hp e'=>by have:=ha'.1 p hp;omega
   unfold sumC at this;omega
  .rw[iA e]
   have:=ih ha'.2 (by
    obtain⟨p,hp,h2⟩:=hx
    rcases AZ.1 hp with rfl|hp
    .exact absurd h2.symm e
    .exact⟨p,hp,h2⟩)
   unfold sumC at this;omega
def Qoi(ha:AscP l):∀{cs:Y D.Call},(∀c∈cs,∃p∈l,p.S=c.Page)->sumC l (fun p=>(ownC p.S cs).length)=cs.length
 |[],_=>by
  have:∀l:Y D.Page,sumC l (fun p=>(ownC p.S []).length)=0:=by
   intro l
   induction l with
   |nil=>rfl
   |cons p l ih=>simp only[sumC,AU,Cc]at ih |-;simpa [ownC]using ih
  rw[this];rfl
 |c::cs,h=>by
  have h1:=Qoi ha (cs:=cs) fun x hx=>h x (BB _ hx)
  have h2:=QzC ha (h c (BA ..))
  rw[QzB (g:=fun p=>(ownC p.S cs).length) (h:=fun p=>if c.Page=p.S then 1 else 0) (fun p hp=>?_),h1,h2,Ad]
  unfold ownC
  grind
def Qs1(h:∀p∈l,f p<=m):sumC l f<=m*l.length:=by
 induction l with
 |nil=>simp[sumC]
 |cons p l ih=>
  have h1:=h p (BA ..)
  have h2:=ih fun q hq=>h q (BB _ hq)
  simp only[sumC,AU,Cc,Ad]at h2 |-
  grind
end
end
open Go AM
section
def UP[AK α]{l:Y α}(h:i<k):V (l.take k) i=V l i:=by
 simp[V,AQ,Ar,h]
def QU.tnm(h:QU b)(hi:i<b.v.length):(V b.v i).Name=V Qii i:=by
 rw[QkZ h.tname hi,UP hi]
def QU.pnm(h:QU b)(hi:i<b.k.length):(V b.k i).Name=V Qm8 i:=by
 rw[QkZ h.pname hi,UP hi]
def forall3{P:Nat->Prop}(h0:P 0)(h1:P 1)(h2:P 2):∀i,i<3->P i:=fun i hi=>by
 rcases(show i=0\/i=1\/i=2 by omega)with rfl|rfl|rfl
 .exact h0
 .exact h1
 .exact h2
def QBk:∀i,i<2->QgG 1000 (V Qii i)=some true:=forall2 (by kernel_rfl) (by kernel_rfl)
def QBj:∀i,i<3->QgG 1000 (V Qm8 i)=some true:=forall3 (by kernel_rfl) (by kernel_rfl) (by kernel_rfl)
def Qqk:∀i,i<2->∀j,j<i->V Qii j≠V Qii i:=by decide
def Qtc:∀i,i<3->∀j,j<i->V Qm8 j≠V Qm8 i:=by decide
def QBN(ha:Asc l)(hm:∀x∈l,0<=x/\x<m)(hl:l.length<900):Qep 1000 l m=some true:=by
 refine Ok.eq ?_
 unfold Qep
 refine Ok.run l.length (fun i=>((l,m,(i:Int),()),())) rfl U (fun i hi k hk=>?_) (fun k=>by dsimp only;exact Ok.N (Ok.s rfl))
 have hx:=hm _ (Qf hi)
 dsimp only
 refine Ok.P (Ok.j (Ok.atn hi (Ok.N (Ok.atn hi (Ok.N ?_)))))
 dsimp only
 rw[Qa U]
 by_cases h0:0<i
 .refine Ok.P ?_
  rw[show J ((i:Int) - 1)=((i - 1:Nat):Int)by rw[Qb U];omega]
  have:=Qjt ha (show i - 1<i by omega) hi
  exact Ok.A (Ok.atn hi (Ok.N hk))
 .exact Ok.N hk
def QxX(h:Zg n c)(hb:QU b)(hi:i<b.v.length):Qk4 1000 c b (i:Int)=some 0:=by
 have htl:=hb.tlen
 have ht:=hb.team _ (Qf hi)
 have hnm:=hb.tnm hi
 have hpl:=h.plen
 refine Ok.eq ?_
 unfold Qk4
 refine Ok.atn hi (Ok.oe (by rw[hnm];exact QBk i U) (Ok.nt rfl ?_))
 obtain⟨x,hx⟩:∃x,V b.v i=x:=⟨_,rfl⟩
 rw[hx]at ht hnm |-
 refine Ok.run2 i (fun k=>((i:Int),(k:Int),())) rfl U (fun k hk K hK=>?_) (fun K=>?_)
 .dsimp only
  refine Ok.P (Ok.A (Ok.n ?_ ?_))
  .rw[hb.tnm U,hnm];exact Qqk i U k hk
  .rw[Qa U];exact hK
 .dsimp only
  have hml:=ht.len
  refine Ok.N (Ok.N ?_)
  refine Ok.run2 (x.s.length - 1) (fun k=>(((k+1:Nat):Int),())) rfl U (fun k hk K hK=>?_) (fun K=>?_)
  .dsimp only
   rw[show J (((k+1:Nat):Int) - 1)=(k:Int)by rw[Qb U];omega]
   have:=Qjt ht.asc (show k<k+1 by omega) (show k+1<x.s.length by omega)
   refine Ok.P (Ok.A (Ok.A (Ok.N ?_)))
   rw[Qa U];exact hK
  .dsimp only
   refine Ok.N (Ok.oe (QBN ht.asc (fun z hz=>?_) U) (Ok.nt rfl (Ok.s rfl)))
   have:=ht.mem z hz;omega
def QrM(h:Zg n c)(hb:QU b)(hl:l.length<=2)(ht:∀x∈l,UD b.v.length x):Qeq 1000 c b l=some 0:=by
 have hpl:=h.plen;have hsl:=h.slen
 refine Ok.eq ?_
 unfold Qeq
 refine Ok.N (Ok.run l.length (fun i=>((l,(i:Int),()),c,b,())) rfl U (fun i hi k hk=>?_) (fun k=>by dsimp only;exact Ok.N (Ok.s rfl)))
 dsimp only
 have hx:=ht _ (Qf hi)
 have h1:=hx.lo;have h2:=hx.person;have h3:=hx.sched;have h4:=hx.team
 refine Ok.P (Ok.j ?_)
 refine Ok.TG (fun y=>∃m:Int,y=((l,(i:Int),m,()),c,b,())/\(V l i).FW<m) (fun y hy=>?_) (fun zG hJ=>?_)
 .obtain⟨m,rfl,hm⟩:=hy
  dsimp only
  rw[Qa U]
  exact Ok.atn hi (Ok.N (Ok.atn hi (Ok.N hk)))
 .refine Ok.atn hi ?_
  rcases hx.kind with hk|hk|hk
  .have:=h2 hk
   exact Ok.p hk (hJ _ ⟨_,rfl,U⟩)
  .have:=h3 hk
   exact Ok.N (Ok.p hk (hJ _ ⟨_,rfl,U⟩))
  .have:=h4 hk
   exact Ok.N (Ok.N (Ok.p hk (hJ _ ⟨_,rfl,U⟩)))
def Qsz(h:Zg n c)(hb:QU b)(hi:i<b.k.length):QgJ 1000 c b (i:Int)=some 0:=by
 have htl:=hb.plen
 have ht:=hb.pol _ (Qf hi)
 have hnm:=hb.pnm hi
 refine Ok.eq ?_
 unfold QgJ
 refine Ok.atn hi (Ok.oe (by rw[hnm];exact QBj i U) (Ok.nt rfl ?_))
 obtain⟨x,hx⟩:∃x,V b.k i=x:=⟨_,rfl⟩
 rw[hx]at ht hnm |-
 refine Ok.run2 i (fun k=>((i:Int),(k:Int),())) rfl U (fun k hk K hK=>?_) (fun K=>?_)
 .dsimp only
  refine Ok.P (Ok.A (Ok.n ?_ ?_))
  .rw[hb.pnm U,hnm];exact Qtc i U k hk
  .rw[Qa U];exact hK
 .dsimp only
  have hml:=ht.len;have hrp:=ht.rep
  refine Ok.N (Ok.N (Ok.N (Ok.oe rin (Ok.nt (Qu.2 U) ?_))))
  refine Ok.run2 x.Steps.length (fun k=>((k:Int),())) rfl U (fun k hk K hK=>?_) (fun K=>by dsimp only;exact Ok.N (Ok.s rfl))
  dsimp only
  have hs:=ht.step _ (Qf hk)
  have hw:=hs.wait
  refine Ok.P (Ok.atn hk (Ok.oe rin (Ok.nt (Qu.2 U) (Ok.atn hk (Ok.oe (QrM h hb hs.len hs.target) (Ok.NS ?_))))))
  rw[Qa U];exact hK
def Qql(h:Zg n c)(hn:n<=48)(hb:QU b):QfT 1000 c b=some 0:=by
 have htl:=hb.tlen;have hpl:=hb.plen
 refine Ok.eq ?_
 unfold QfT
 refine Ok.oe (Qfk h hn) (Ok.NS (Ok.opt (P:=(·=0)) ?_ fun r hr=>Ok.s hr))
 unfold Qpw
 refine Ok.j (Ok.N (Ok.N ?_))
 refine Ok.run b.v.length (fun i=>(((i:Int),()),c,b,())) rfl U (fun i hi k hk=>?_) (fun k=>?_)
 .dsimp only
  refine Ok.P (Ok.oe (QxX h hb hi) (Ok.NS ?_))
  rw[Qa U];exact hk
 .dsimp only
  refine Ok.N (Ok.run b.k.length (fun i=>(((i:Int),()),c,b,())) rfl U (fun i hi k hk=>?_) (fun k=>by dsimp only;exact Ok.N (Ok.s rfl)))
  dsimp only
  refine Ok.P (Ok.oe (Qsz h hb hi) (Ok.NS ?_))
  rw[Qa U];exact hk
end
section
attribute [local irreducible] dueV stepV runV QG answerV
section
def LW.callsN(h:LW M n l):sumC l.H (fun p=>(ownC p.S l.Calls).length)=l.Calls.length:=Qoi h.asc h.all
def LW.ownN(h:LW M n l)(hp:p∈l.H):(ownC p.S l.Calls).length=(QO p.S 0 p.P).length:=by
 have:=(h.told p hp).same
 grind
def LW.callsLe(h:LW M n l)(hpg:l.H.length<=9):l.Calls.length<=468:=by
 rw[<-h.callsN]
 have:=Qs1 (l:=l.H) (f:=fun p=>(ownC p.S l.Calls).length) (m:=52) fun p hp=>by
  obtain⟨g1,g2⟩:=h.page p hp
  obtain⟨t,g3,_⟩:=g1.goes
  have h1:=Qb5 (id:=p.S) (f:=0) (m:=4) (Goes.short (fun s hs=>hs) g3)
  have h2:=(g1.len h.book).1
  show(ownC p.S l.Calls).length<=52
  rw[h.ownN hp];omega
 omega
def Qd.callsLe(h:Qd M n l)(hpg:l.H.length<=9):l.Calls.length<=468:=h.w.callsLe hpg
def QrL:sumC (l++[p]) f=sumC l f+f p:=by simp[sumC]
def QcH(h:LW M n l)(hpg:l.H.length<=9):Vl 1000 l=some true:=by
 have htop:=h.top;have hnow:=h.now;have how:=h.owner;have hfe:=h.fence;have hse:=h.seen.len;have hcl:=h.callsLe hpg
 refine Ok.eq ?_
 unfold Vl
 refine Ok.j (Ok.oe (Qql h.cfg h.small h.book) (Ok.NS (Ok.oe rin (Ok.bt (Qu.2 U) (Ok.N (Ok.oe rin (Ok.bt (Qu.2 how) (Ok.oe rin (Ok.bt (Qu.2 U) (Ok.N ?_))))))))))
 have hsle:∀i,sumC (l.H.take i) (fun p=>(ownC p.S l.Calls).length)<=468*i:=fun i=>by
  have:=Qs1 (l:=l.H.take i) (f:=fun p=>(ownC p.S l.Calls).length) (m:=468) fun p hp=>by
   show(ownC p.S l.Calls).length<=468
   unfold ownC
   grind
  grind
 refine Ok.run l.H.length (fun i=>((((sumC (l.H.take i) (fun p=>(ownC p.S l.Calls).length):Nat):Int),(i:Int),()),l,())) rfl U (fun i hi k hk=>?_) (fun k=>?_)
 .try dsimp only
  have hm:=Qf hi
  obtain⟨g1,g2⟩:=h.page _ hm
  have gt:=h.told _ hm
  have hown:=h.ownN hm
  have hs1:=hsle i
  have hs2:=hsle (i+1)
  refine Ok.P (Ok.atn hi ?_)
  have hasc:0<i->(V l.H (i - 1)).S<(V l.H i).S:=fun h0=>Qd5 h.asc U hi
  try dsimp only at hk
  rw[<-Qp hi,QrL]at hk
  obtain⟨p,hp⟩:∃p,V l.H i=p:=⟨_,rfl⟩
  rw[hp]at g1 g2 gt hown hk hasc |-
  have hpl:=g1.plen h.book
  refine Ok.TG (fun y=>y=((((sumC (l.H.take i) (fun p=>(ownC p.S l.Calls).length):Nat):Int),(i:Int),()),l,p,())) (fun y hy=>?_) (fun zG hJ=>?_)
  .subst hy
   try dsimp only
   have hc:=QoB (k:=0) (f:=0) hpl (BL _)
   rw[Cb]at hc
   refine Ok.oe hc ?_
   try dsimp only
   rw[Qa U,<-hown,Qb (by have:(ownC p.S l.Calls).length<=468:=(by unfold ownC;exact Nat.le_trans (List.length_filter_le _ _) hcl);omega)]
   exact hk
  .have tail:Ok (O (U1 1000 l.b p) fun a13=>AM.C a13 (AM.C (decide (l.E9<p.FM)) (some false) (O (QgP 1000 l p) fun a14=>AM.C a14 (zG ((((sumC (l.H.take i) (fun p=>(ownC p.S l.Calls).length):Nat):Int),(i:Int),()),l,p,())) (some false))) (some false)) (·=true):=
    Ok.oe (Qgn h.book hpl) (Ok.bt (g1.check h.book) (Ok.N (Ok.oe (QBW hpl U gt) (Ok.t (hJ _ rfl)))))
   by_cases h0:0<i
   .refine Ok.P ?_
    rw[show J ((i:Int) - 1)=((i - 1:Nat):Int)by rw[Qb U];omega]
    have:=hasc h0
    exact Ok.A (Ok.N tail)
   .exact Ok.N tail
 .try dsimp only
  refine Ok.N ?_
  rw[Ac,h.callsN]
  refine Ok.run l.h.length (fun i=>(((l.Calls.length:Int),(i:Int),()),l,())) rfl U (fun i hi k hk=>?_) (fun k=>by dsimp only;exact Ok.N (Ok.s (decide_eq_true rfl)))
  try dsimp only
  have hx:=h.seen.fit _ (Qf hi)
  have hno:(l.h.take i).contains (V l.h i)=false:=by
   cases hc:(l.h.take i).contains (V l.h i)with
   |false=>rfl
   |true=>
    have:=Qk8 hi hc
    rw[Ax h.seen.nodup]at this;simp at this
  refine Ok.P (Ok.j (Ok.atn hi (Ok.oe rin (Ok.bt (Qu.2 hx) (Ok.natn (Ok.L (Ok.atn hi (Ok.oe (Qea (by simp;omega)) (Ok.bf hno ?_)))))))))
  try dsimp only
  rw[Qa U];exact hk
abbrev lgA(l:D.G):Int×Y D.r×Y D.R×Y D.n×Y D.e×Y D.FU×Y D.W×Int×Int×Unit:=(l.E9,l.F.FG,l.F.l,l.F.o,l.F.f,l.b.v,l.b.k,l.E5,l.Fence,())
def Qc8(l:D.G)(id:Int):D.Page×AH:=if hasV id l.H=true then(V l.H (posV id l.H),true)else(page0,false)
def QoQ{id:Int}(ha:AscP l.H)(hi:i<l.H.length)(h:(V l.H i).S=id):Qc8 l id=(V l.H i,true):=by
 subst h
 unfold Qc8
 rw[iB (QlW ha hi),QhV ha hi]
def Qwy{id:Int}(h:∀i,i<l.H.length->(V l.H i).S≠id):Qc8 l id=(page0,false):=by
 unfold Qc8
 rw[iA]
 intro hh
 have:=UK hh
 exact h _ this.1 this.2
def Qwx{id:Int}(hp:∀p∈l.H,QC p)(ha:AscP l.H)(hl:l.H.length<=64):QgN 1000 l id=some (Qc8 l id):=by
 refine Ok.eq ?_
 unfold QgN
 refine Ok.scan2 l.H.length (fun i=>(id,(i:Int),())) (fun i=>decide ((V l.H i).S=id)) rfl U (fun i hi hq _ k=>?_) (fun i hi hq k hk=>?_) (fun hq k=>?_)
 .have hq:=BF hq
  refine Ok.P (Ok.atn hi (Ok.p hq (Ok.atn hi (Ok.oe (Qdo (hp _ (Qf hi))) (Ok.s ?_)))))
  rw[QoQ ha hi hq]
 .have hq:=BM hq
  refine Ok.P (Ok.atn hi (Ok.n hq ?_))
  try dsimp only
  rw[Qa U];exact hk
 .refine Ok.N (Ok.s ?_)
  rw[Qwy fun i hi=>BM (hq i hi)];rfl
def Qit{id:Int}(hp:∀p∈l.H,QC p)(ha:AscP l.H)(hl:l.H.length<=64):Z6 1000 l id=some (Qc8 l id):=by
 refine Ok.eq ?_
 unfold Z6
 refine Ok.scan2 l.H.length (fun i=>(id,(i:Int),())) (fun i=>decide ((V l.H i).S=id)) rfl U (fun i hi hq _ k=>?_) (fun i hi hq k hk=>?_) (fun hq k=>?_)
 .have hq:=BF hq
  refine Ok.P (Ok.natn (Ok.lt hi (Ok.get hi (Ok.p hq (Ok.natn (Ok.lt hi (Ok.get hi (Ok.oe (Qdo (hp _ (Qf hi))) (Ok.TF (Ok.TF (Ok.TF (Ok.s ?_))))))))))))
  rw[QoQ ha hi hq]
 .have hq:=BM hq
  refine Ok.P (Ok.natn (Ok.lt hi (Ok.get hi (Ok.n hq ?_))))
  try dsimp only
  rw[Qa U];exact hk
 .refine Ok.N (Ok.TF (Ok.TF (Ok.TF (Ok.s ?_))))
  rw[Qwy fun i hi=>BM (hq i hi)];rfl
def LW.plens(h:LW M n l):∀p∈l.H,QC p:=fun p hp=>(h.page p hp).1.plen h.book
def Qd.plens(h:Qd M n l):∀p∈l.H,QC p:=h.w.plens
def Qz7(ha:AscP l.H)(hl:l.H.length<=64)(hcl:l.Calls.length<=100000)(hi:i<l.H.length)(hid:p.S=(V l.H i).S)(hpl:QC p)(hle:(V l.H i).P.length<=p.P.length):
  X3 1000 l p=some (putV l i p):=by
 refine Ok.eq ?_
 unfold X3
 refine Ok.run l.H.length (fun j=>(((j:Int),()),lgA l,p,({ E9:=0,F:={ FG:=[],l:=[],o:=[],f:=[] },b:={ v:=[],k:=[] },H:=[],E5:=0,Fence:=0,h:=[],Calls:=[] }:D.G),(if j<=i then l.H else l.H.set i p),l.h,(if j<=i then l.Calls else l.Calls++QO p.S l.Fence (p.P.drop (V l.H i).P.length)),())) (by rw[iB (BL _),iB (BL _)];rfl) U (fun j hj k hk=>?_) (fun k=>?_)
 .try dsimp only[lgA]at hk |-
  have hlen:(if j<=i then l.H else l.H.set i p).length=l.H.length:=by split<;>simp
  have hj':j<(if j<=i then l.H else l.H.set i p).length:=U
  have hnth:j≠i->V (if j<=i then l.H else l.H.set i p) j=V l.H j:=fun hne=>by
   split
   .rfl
   .exact QB hne
  refine Ok.P (Ok.j (Ok.natn (Ok.lt hj' (Ok.get hj' ?_))))
  by_cases e:j=i
  .subst e
   rw[iB (AN _),iB (AN _)]
   rw[iA U,iA U]at hk
   have hc:=QoB (k:=(V l.H j).P.length) (f:=l.Fence) hpl hle
   have hcb:(QO p.S l.Fence (p.P.drop (V l.H j).P.length)).length<=40*(p.P.drop (V l.H j).P.length).length:=Qb5 fun s hs=>(hpl.pe s (Bp hs)).1
   have hst:=hpl.st
   rw[Bg]at hcb
   refine Ok.p hid.symm (Ok.natn (Ok.lt hi (Ok.get hi (Ok.oe hc (Ok.L (Ok.natn (Ok.lt hi (Ok.get hi ?_))))))))
   try dsimp only
   rw[Qa U]
   exact hk
  .rw[hnth e]
   have hne:(V l.H j).S≠p.S:=by
    rw[hid]
    rcases Cw e with h|h
    .have:=Qd5 ha h hi;omega
    .have:=Qd5 ha h hj;omega
   refine Ok.n hne ?_
   try dsimp only
   rw[Qa U]
   grind
 .try dsimp only[lgA]
  rw[iA U,iA U]
  refine Ok.NS (Ok.s ?_)
  rfl
def QpP{id:Int}(h:LW M n l)(hpg:l.H.length<=9):Yl 1000 l id l.E9=some (if hasV id l.H=true then runI l (posV id l.H)else l):=by
 have hcl:=h.callsLe hpg
 refine Ok.eq ?_
 unfold Yl
 refine Ok.oe (Qit h.plens h.asc U) ?_
 unfold Qc8
 by_cases hh:hasV id l.H=true
 .rw[iB hh,iB hh]
  try dsimp only
  have hi:=UK hh
  obtain⟨g1,g2⟩:=h.at hi.1
  obtain⟨q,r1,r2,r3,r4⟩:=QxF (c:=l.F) h.book QT.step g1 l.E9
  have hx:=QpR (c:=l.F) (now:=l.E9) h.book g1
  rw[r1]at hx
  refine Ok.f (Ok.oe (Qzq h.cfg h.small h.book (g1.plen h.book)) ?_)
  rw[r1]
  try dsimp only
  refine Ok.NS (Ok.oe (Qz7 (i:=posV id l.H) h.asc U U hi.1 r4.id (r2.plen h.book) ?_) (Ok.s ?_))
  .obtain⟨m,hm⟩:=hx
   simp_all
  .unfold runI
   simp_all
 .rw[iA hh,iA hh]
  exact Ok.t (Ok.s rfl)
end
end
section
open Go AM
attribute [local irreducible] dueV stepV runV QG answerV
section
def Qtj(hp:∀p∈l.H,QC p)(h1:l.H.length<=64)(h2:l.h.length<=1000)(h3:l.Calls.length<=100000):QbN 1000 l=some l:=by
 refine Ok.eq ?_
 unfold QbN
 refine Ok.run l.H.length (fun i=>(((i:Int),()),l,({ E9:=0,F:={ FG:=[],l:=[],o:=[],f:=[] },b:={ v:=[],k:=[] },H:=[],E5:=0,Fence:=0,h:=[],Calls:=[] }:D.G),l.H.take i,())) rfl U (fun i hi k hk=>?_) (fun k=>?_)
 .try dsimp only
  refine Ok.P (Ok.atn hi (Ok.oe (Qdo (hp _ (Qf hi))) (Ok.LS ?_)))
  try dsimp only
  rw[Qa U,Qp hi]
  exact hk
 .try dsimp only
  rw[Ac]
  exact Ok.N (Ok.L (Ok.L (Ok.s rfl)))
def QzF{α:Type}[AK α]{L:Y α}{k:Nat}{x:α}(h:k<L.length):(L.take (k+1)).set k x=L.take k++[x]:=by
 rw[<-Qp h,List.set_append_right _ _ (by rw[Ae];omega)]
 simp[CC (EK h)]
def QyV{P:D.Page}{L:Y D.Page}{k:Nat}(hk:k<=L.length):
  (List.take (k+1) (L++[P])++List.take ((L++[P]).length - (k+1)) (List.drop k (L++[P]))).set k P=L.take k++P::L.drop k:=by
 have hl:(L++[P]).length=L.length+1:=Ob
 rw[List.set_append_left _ _ (by rw[Ae,hl];omega),QzF (by rw[hl];omega),CZ hk,List.drop_append_of_le_length hk,hl,show L.length+1 - (k+1)=(L.drop k).length by simp,EZ,Aw]
 rfl
def QBC{id:Int}(ha:AscP L)(hk:k<=L.length)(h1:∀j,j<k->(V L j).S<id)(h2:k<L.length->id<=(V L k).S):posV id L=k:=by
 rcases Cs (posV id L) k with h|h|h
 .have:=Qmm ha (id:=id) (AN _) (show posV id L<L.length by omega)
  have:=h1 _ h;omega
 .exact h
 .have:=Qmn (l:=L) h
  have:=h2 (by have:=Qde (id:=id) (l:=L);omega);omega
def QBt(h:Qd M n l)(hpg:l.H.length<=8)(ho:OpIn o)(hk:o.Z=1):WW 1000 l o l.E9 (hasV o.Page l.H)=some (opV l o):=by
 have hnow:=h.now;have htop:=h.top;have hpl:=h.book.plen;have hop:=ho.page
 have hsl:=h.seen.len;have hcl:=h.callsLe U
 refine Ok.eq ?_
 unfold WW opV
 rw[iB hk]
 refine Ok.C (fun g=>Ok.s ?_) (fun g=>?_)
 .rw[iB g]
 rw[iA (by rw[g];simp)]
 refine Ok.N ?_
 rw[iA U]
 refine Ok.oe (Qo4 h.book) ?_
 unfold newV
 by_cases g1:o.Page<1
 .rw[iB g1,iA (fun hh=>by have:=Qu.1 hh.1;omega)]
  exact Ok.PS (Ok.s rfl)
 rw[iA g1,iB ⟨Qu.2 U,Qu.2 U⟩]
 by_cases g2:0<=o.W/\o.W<(l.b.k.length:Int)
 .rw[iB g2,iB (Qu.2 U)]
  try dsimp only
  refine Ok.NS ?_
  obtain⟨hi1,hi2,hi3⟩:=h.open (o:=o) g U g2 U
  have hple:=Qde (id:=o.Page) (l:=l.H)
  refine Ok.TG (fun y=>y=((l.E9,((posV o.Page l.H:Nat):Int),()),lgA l,({ E9:=0,F:={ FG:=[],l:=[],o:=[],f:=[] },b:={ v:=[],k:=[] },H:=[],E5:=0,Fence:=0,h:=[],Calls:=[] }:D.G),newP o.Page o.W l.E9,l.H,l.h,l.Calls,())) (fun y hy=>?_) (fun zG hJ=>?_)
  .subst hy
   try dsimp only[lgA]
   obtain⟨P,hP⟩:∃P,newP o.Page o.W l.E9=P:=⟨_,rfl⟩
   have hPid:P.S=o.Page:=by subst hP;rfl
   rw[hP]at hi1 hi2 hi3 |-
   have hins:insP l.H P=l.H.take (posV o.Page l.H)++P::l.H.drop (posV o.Page l.H):=by unfold insP;rw[hPid]
   have hle1:(l.H++[P]).length=l.H.length+1:=Ob
   try dsimp only
   rw[Qa U]
   refine Ok.LS (Ok.natn (Ok.L (Ok.natn (Ok.L (Ok.ck rfl (Ok.ck rfl (Ok.L (Ok.L (Ok.natn (Ok.lt ?_ (Ok.get ?_ ?_)))))))))))
   .grind
   .grind
   rw[QyV hple,<-hins]
   have hrun:=QpP (id:=P.S) hi1.w (by show(insP l.H P).length<=9;rw[hins];simp;omega)
   have hpos:posV P.S (insP l.H P)=posV o.Page l.H:=by
    have:=QhV hi1.asc hi2
    simp_all
   have hhas:hasV P.S (insP l.H P)=true:=by
    have:=QlW hi1.asc hi2
    simp_all
   rw[iB hhas,hpos]at hrun
   exact Ok.oe hrun (Ok.s rfl)
  .have hfound:∀k:Nat,k<=l.H.length->(∀j,j<k->(V l.H j).S<o.Page)->(k<l.H.length->o.Page<=(V l.H k).S)->Ok (zG ((l.E9,(k:Int),()),lgA l,({ E9:=0,F:={ FG:=[],l:=[],o:=[],f:=[] },b:={ v:=[],k:=[] },H:=[],E5:=0,Fence:=0,h:=[],Calls:=[] }:D.G),newP o.Page o.W l.E9,l.H,l.h,l.Calls,())) _:=fun k h1 h2 h3=>hJ _ (by rw[QBC h.asc h1 h2 h3])
   refine Ok.scan2 l.H.length (fun i=>(l.E9,(i:Int),())) (fun i=>!decide ((V l.H i).S<o.Page)) rfl U (fun i hi hq hj k=>?_) (fun i hi hq k hk=>?_) (fun hq k=>?_)
   .refine Ok.j ?_
    dsimp only
    refine Ok.P (Ok.natn (Ok.lt hi (Ok.get hi (Ok.n ?_ (hfound i U (fun j hj'=>by simpa using hj j hj') (fun _=>by simpa using hq))))))
    have:¬(V l.H i).S<o.Page:=by simpa using hq
    exact this
   .have hlt:(V l.H i).S<o.Page:=by simpa using hq
    refine Ok.j ?_
    dsimp only
    refine Ok.P (Ok.natn (Ok.lt hi (Ok.get hi (Ok.p hlt ?_))))
    try dsimp only
    rw[Qa U];exact hk
   .refine Ok.j ?_
    dsimp only
    exact(Ok.N (hfound l.H.length (AN _) (fun j hj'=>by simpa using hq j hj') (fun hh=>absurd hh (Ck _))))
 .rw[iA g2,iA (fun hh=>g2 (by have:=Qu.1 hh;omega))]
  exact Ok.PS (Ok.s rfl)
def QcE(h:(answerV b p a).2=0):(answerV b p a).1=p\/(answerV b p a).1=XL p a:=by
 revert h
 unfold answerV
 grind
def QsU(h:Qd M n l)(hi:i<l.H.length):(V (runI l i).H i).S=(V l.H i).S:=by
 rw[QdS h hi,iB rfl]
 exact(Qf9 h.book QT.step (h.at hi).1).id
def Qzp(h:Qd M n l)(hpg:l.H.length<=9)(hk:o.Z=4)(ha:YY o.a=true):Wp 1000 l o.a l.E9=some (opV l o):=by
 have hcl:=h.callsLe hpg
 refine Ok.eq ?_
 unfold Wp opV
 rw[iA U,iA U,iA U,iB hk]
 refine Ok.oe (Qit h.plens h.asc U) ?_
 unfold Qc8
 by_cases hh:hasV o.a.Page l.H=true
 .rw[iB hh,iB hh]
  try dsimp only
  have hi:=UK hh
  have hrun:=QpP (id:=o.a.Page) h.w hpg
  rw[iB hh]at hrun
  refine Ok.f (Ok.oe hrun ?_)
  have h2:=h.run hi.1
  have hkp:=Y7 (l:=l) (i:=posV o.a.Page l.H)
  obtain⟨i,hie⟩:∃i,posV o.a.Page l.H=i:=⟨_,rfl⟩
  rw[hie]at hi h2 hkp |-
  have hid2:(V (runI l i).H i).S=o.a.Page:=(QsU h hi.1).trans hi.2
  have hi2:i<(runI l i).H.length:=U
  have hcl2:=h2.callsLe U
  refine Ok.oe (Qit h2.plens h2.asc U) ?_
  rw[QoQ h2.asc hi2 hid2]
  try dsimp only
  obtain⟨a,hae⟩:∃a:D.a,a=D.a.mk o.a.S o.a.Page o.a.R o.a.Z o.a.Fo l.E9:=⟨_,rfl⟩
  rw[<-hae]
  have hpl2:=h2.plens _ (Qf hi2)
  refine Ok.oe (Qr0 h2.book hpl2) ?_
  rw[hkp.2.2.1]
  have hz:=QcE (b:=l.b) (p:=V (runI l i).H i) (a:=a)
  have hAl:=hpl2.answerV (a:=a) h.book
  obtain⟨A,e,hA⟩:∃A e,answerV l.b (V (runI l i).H i) a=(A,e):=⟨_,_,rfl⟩
  rw[hA]at hz hAl |-
  try dsimp only at hz hAl |-
  by_cases he:e=0
  .rw[iB he]
   have hq:=hz he
   have hpid:A.S=(V (runI l i).H i).S:=by
    rcases hq with rfl|rfl
    .rfl
    .exact Qjr.1
   have hpst:(V (runI l i).H i).P.length<=A.P.length:=by
    rcases hq with rfl|rfl
    .exact AN _
    .obtain⟨m,hm⟩:=Qhu (p:=V (runI l i).H i) (a:=a)
     rw[hm];simp
   refine Ok.N (Ok.oe (Qz7 (i:=i) h2.asc U U hi2 hpid hAl hpst) (Ok.s rfl))
  .rw[iA he]
   exact Ok.p he (Ok.s rfl)
 .rw[iA hh,iA hh]
  exact Ok.t (Ok.s rfl)
def QA0(h:Zg n c)(hn:n<48)(hx:0<=s/\s<2->Qb0 x):QiU 1000 c s x=some (if 0<=s/\s<2 then(QlJ c s x,0)else({ FG:=[],l:=[],o:=[],f:=[] },3)):=by
 have hsl:=h.slen
 refine Ok.eq ?_
 unfold QiU
 refine Ok.j (Ok.oe (Qfk h U) (Ok.NS (Ok.ite (fun g=>Ok.s ?_) (fun g=>Ok.ite (fun g2=>Ok.s ?_) (fun g2=>?_)))))
 .rw[iA U]
 .rw[iA U]
 .rw[iB U]
  try dsimp only
  have hso:=h.sched _ (Qf (l:=c.f) (i:=s.toNat) U)
  have hlen:=hso.len
  refine Ok.at U U (Ok.L (Ok.LS (Ok.oe (v:=QlJ c s x) ?_ (Ok.oe (Qfk (QoK h (hx U) U) U) (Ok.NS (Ok.s rfl))))))
  refine Ok.eq ?_
  unfold Qpu
  refine Ok.L (Ok.nat U (Ok.E (Ok.G (Ok.s ?_))))
  rfl
def apply0W(h:LW M n l)(hpg:l.H.length<=9)(hkd:o.Z=2\/o.Z=3)(hof:0<=o.Fence/\o.Fence<=1048576):Yk 1000 l o l.E9=some (opV l o):=by
 have hfe:=h.fence
 refine Ok.eq ?_
 unfold Yk
 refine Ok.oe (Qit h.plens h.asc U) ?_
 have hf2:(Qc8 l o.Page).2=hasV o.Page l.H:=by
  unfold Qc8
  grind
 obtain⟨fp,fo,hfe2⟩:∃fp fo,Qc8 l o.Page=(fp,fo):=⟨_,_,rfl⟩
 rw[hfe2]at hf2 |-
 try dsimp only at hf2 |-
 subst hf2
 refine Ok.j (Ok.N (Ok.ite (fun k2=>?_) (fun k2=>Ok.P ?_)))
 all_goals have k1:¬o.Z=1:=U
 .unfold opV
  rw[iA k1,iB k2,Qb U]
  refine Ok.ite (fun g=>Ok.s ?_) (fun g=>Ok.s ?_)
  .rw[iA U]
  .rw[iB U]
 .have k3:o.Z=3:=U
  unfold opV
  rw[iA k1,iA k2,iB k3]
  refine Ok.TG (fun y=>y=((l.E9,hasV o.Page l.H,()),lgA l,o,({ E9:=0,F:={ FG:=[],l:=[],o:=[],f:=[] },b:={ v:=[],k:=[] },H:=[],E5:=0,Fence:=0,h:=[],Calls:=[] }:D.G),fp,l.H,l.h,l.Calls,())/\o.Region=l.E5/\o.Fence=l.Fence) (fun y hy=>?_) (fun zG hJ=>Ok.ite (fun g=>Ok.s ?_) (fun g=>Ok.ite (fun g2=>Ok.s ?_) (fun g2=>hJ _ ⟨rfl,U,U⟩)))
  .obtain⟨rfl,g1,g2⟩:=hy
   try dsimp only[lgA]
   rw[iB ⟨g1,g2⟩]
   refine Ok.ncnd (fun hh=>Ok.s ?_) (fun hh=>?_)
   .simp_all
   .rw[iB hh]
    have hfp:fp=V l.H (posV o.Page l.H):=by
     unfold Qc8 at hfe2
     simp_all
    subst hfp
    have hrun:=QpP (id:=o.Page) h U
    rw[iB hh]at hrun
    refine Ok.oe Qgq ?_
    obtain⟨pg,hpg2⟩:∃pg,V l.H (posV o.Page l.H)=pg:=⟨_,rfl⟩
    rw[hpg2]
    obtain⟨kk,hkk⟩:∃kk:Int,(if pg.p=2 then(-1:Int)else pg.E7)=kk:=⟨_,rfl⟩
    rw[hkk]
    have hw:Yp pg l.E9=((dueV pg).2 && decide ((dueV pg).1<=l.E9)):=rfl
    refine Ok.TG (fun y=>y=((l.E9,(dueV pg).1,(dueV pg).2,kk,()),lgA l,o,({ E9:=0,F:={ FG:=[],l:=[],o:=[],f:=[] },b:={ v:=[],k:=[] },H:=[],E5:=0,Fence:=0,h:=[],Calls:=[] }:D.G),l.H,l.h,l.Calls,())) (fun y hy=>?_) (fun zG hJ=>Ok.ite (fun g=>hJ _ (by rw[<-hkk,iB g])) (fun g=>hJ _ (by rw[<-hkk,iA g])))
    subst hy
    try dsimp only[lgA]
    refine Ok.j (Ok.C (fun g3=>Ok.ite (fun g4=>Ok.s ?_) (fun g4=>Ok.ite (fun g5=>Ok.s ?_) (fun g5=>Ok.oe hrun (Ok.s ?_)))) (fun g3=>Ok.s ?_))
    .rw[iA (fun hx=>by rw[hw,g3]at hx;have:=BF (show decide ((dueV pg).1<=l.E9)=true by simpa using hx.1);omega)]
    .rw[iA (fun hx=>g5 hx.2.symm)]
    .simp_all
    .simp_all
  .rw[iA U]
  .rw[iA U]
def QvL(h:Qd M n l)(hn:n<48)(hpg:l.H.length<=8)(ho:OpIn o):Yk 1000 l o l.E9=some (opV l o):=by
 have hfe:=h.fence;have hse:=h.seen.len;have hkd:=ho.kind;have hof:=ho.fence
 by_cases hk23:o.Z=2\/o.Z=3
 .exact apply0W h.w U hk23 hof
 refine Ok.eq ?_
 unfold Yk
 refine Ok.oe (Qit h.plens h.asc U) ?_
 have hf2:(Qc8 l o.Page).2=hasV o.Page l.H:=by
  unfold Qc8
  grind
 obtain⟨fp,fo,hfe2⟩:∃fp fo,Qc8 l o.Page=(fp,fo):=⟨_,_,rfl⟩
 rw[hfe2]at hf2 |-
 try dsimp only at hf2 |-
 subst hf2
 refine Ok.j (Ok.ite (fun k1=>?_) (fun k1=>Ok.ite (fun k2=>absurd (.inl k2) hk23) (fun k2=>Ok.ite (fun k3=>absurd (.inr k3) hk23) (fun k3=>Ok.ite (fun k4=>?_) (fun k4=>Ok.ite (fun k5=>?_) (fun k5=>absurd hkd U))))))
 .exact Ok.oe (QBt h hpg ho k1) (Ok.s rfl)
 .exact Ok.oe (Qzp h U k4 (ho.answer k4).1) (Ok.s rfl)
 .unfold opV
  rw[iA k1,iA k2,iA k3,iA k4]
  have hkeep:∀i,(ZG l i).E9=l.E9/\(ZG l i).F=l.F/\(ZG l i).b=l.b/\(ZG l i).E5=l.E5/\(ZG l i).Fence=l.Fence/\(ZG l i).h=l.h/\(ZG l i).H.length=l.H.length:=fun i=>YG
  refine Ok.run l.H.length (fun i=>((l.E9,(i:Int),()),lgA (ZG l i),o,({ E9:=0,F:={ FG:=[],l:=[],o:=[],f:=[] },b:={ v:=[],k:=[] },H:=[],E5:=0,Fence:=0,h:=[],Calls:=[] }:D.G),(ZG l i).H,(ZG l i).h,(ZG l i).Calls,())) rfl U (fun i hi k hk=>?_) (fun k=>?_)
  .try dsimp only[lgA]
   have hki:=hkeep i
   have hi2:i<(ZG l i).H.length:=U
   have hL:=h.runs (k:=i) U
   have hrun:=QpP (id:=(V (ZG l i).H i).S) hL.w U
   rw[iB (QlW hL.asc hi2),QhV hL.asc hi2,hki.1]at hrun
   refine Ok.P (Ok.natn (Ok.lt hi2 (Ok.get hi2 (Ok.oe hrun ?_))))
   try dsimp only
   rw[Qa U]
   exact hk
  .try dsimp only[lgA]
   have hki:=hkeep l.H.length
   refine Ok.N ?_
   have hed:=QA0 (c:=l.F) (s:=o.e) h.cfg hn (ho.edit k5)
   refine Ok.oe (v:=if 0<=o.e/\o.e<2 then(QlJ l.F o.e o.t,0)else({ FG:=[],l:=[],o:=[],f:=[] },3)) ?_ ?_
   .simp_all
   .by_cases hs:0<=o.e/\o.e<2
    .rw[iB hs,iB hs]
     exact Ok.NS (Ok.s rfl)
    .rw[iA hs,iA hs]
     exact Ok.PS (Ok.s rfl)
def OpIn.valid(ho:OpIn o):QdG 1000 o=some true:=by
 refine Ok.eq ?_
 unfold QdG
 refine Ok.oe rin (Ok.bt (Qu.2 ho.id) (Ok.oe rin (Ok.bt (Qu.2 ho.kind) (Ok.oe rin (Ok.bt (Qu.2 ho.region) (Ok.oe rin (Ok.bt (Qu.2 ho.fence) (Ok.oe rin (Ok.bt (Qu.2 ho.at_) (Ok.oe rin (Ok.bt (Qu.2 ho.page) (Ok.oe rin (Ok.bt (Qu.2 ho.k) ?_)))))))))))))
 exact Ok.ite (fun g=>Ok.s rfl) (fun g=>Ok.oe Qok (Ok.bt (ho.answer U).1 (Ok.s rfl)))
def QvM(h:Qd M n l)(hn:n<48)(hpg:l.H.length<=8)(ho:OpIn o)(ht:max l.E9 o.At<=M - 20000)(hl:l.h.length<256):QfW 1000 l o=some (Zk l o):=by
 have hcl:=h.callsLe U
 refine Ok.eq ?_
 unfold QfW Zk
 refine Ok.j (Ok.oe (QcH h.w U) (Ok.t (Ok.oe ho.valid (Ok.t ?_))))
 try dsimp only
 refine Ok.oe (Qtj h.plens U U U) (Ok.oe (Qea U) (Ok.C (fun g=>Ok.s ?_) (fun g=>?_)))
 .rw[iB g]
 .rw[iA (by rw[g];simp)]
  have h2:=h.see ho ht g hl
  refine Ok.N (Ok.LS (Ok.oe (QvL (l:={ l with E9:=max l.E9 o.At,h:=l.h++[o.S] }) h2 hn hpg ho) (Ok.s rfl)))
end
end
section
attribute [local irreducible] dueV stepV runV QG answerV
section
def Ids(m:Int)(l:D.G):Prop:=∀p∈l.H,p.S<=m
def Ids.mono(h:Ids m l)(hk:m<=k):Ids k l:=fun p hp=>Cq (h p hp) hk
def QBe{L:Y D.Page}(ha:AscP L){k:Nat}(h:∀p∈L,1<=p.S/\p.S<=(k:Int)):L.length<=k:=by
 have hlo:∀i,i<L.length->(i:Int)+1<=(V L i).S:=by
  intro i
  induction i with
  |zero=>intro hi;have:=(h _ (Qf hi)).1;omega
  |succ i ih=>
   intro hi
   have:=ih U
   have:=Qd5 ha (show i<i+1 by omega) hi
   omega
 rcases Ay k L.length with h1|h1
 .have h2:=hlo (L.length - 1) U
  have h3:=(h _ (Qf (l:=L) (i:=L.length - 1) U)).2
  omega
 .exact h1
def Qd.small3{n:Nat}{M:Int}{l:D.G}{k:Nat}(h:Qd M n l)(hi:Ids (k:Int) l):l.H.length<=k:=
 QBe h.asc fun p hp=>⟨(h.page p hp).1.id.1,hi p hp⟩
def Ids.put(h:Ids m l)(hi:i<l.H.length)(hp:p.S=(V l.H i).S):Ids m (putV l i p):=fun q hq=>by
 rcases EH hq with hq|rfl
 .exact h q hq
 .rw[hp];exact h _ (Qf hi)
def Ids.run(h:Ids m l)(hl:Qd M n l)(hi:i<l.H.length):Ids m (runI l i):=by
 rw[hl.runEq hi]
 exact h.put hi (Qf9 hl.book QT.step (hl.at hi).1).id
def Ids.runs(h:Ids m l)(hl:Qd M n l):∀{k:Nat},k<=l.H.length->Ids m (ZG l k)
 |0,_=>h
 |k+1,hk=>by
  rw[ZG]
  exact(Ids.runs h hl (k:=k) U).run (hl.runs U) (by have:=(YG (l:=l) (k:=k)).2.2.2.2.2.2;omega)
def Ids.op(h:Ids m l)(hl:Qd M n l)(ho:OpIn o)(hp:o.Z=1->o.Page<=m):Ids m (opV l o).1:=by
 unfold opV
 split
 .rename_i k1
  split
  .exact h
  .rename_i hh
   split
   .exact h
   .split
    .exact h
    .split
     .rename_i h1 h2 h3
      have hop:=ho.page
      have hi:=hl.open (o:=o) (by simpa using hh) U h3 (by have:=hl.len;omega)
      have hid:Ids m { l with H:=insP l.H (newP o.Page o.W l.E9) }:=fun q hq=>by
       rcases Qiz.1 hq with rfl|hq
       .exact hp k1
       .exact h q hq
      exact hid.run hi.1 hi.2.1
     .exact h
 .split
  .split
   .exact h
   .exact h
  .split
   .split
    .split
     .rename_i hh
      generalize (if (V l.H (posV o.Page l.H)).p=2 then(-1:Int)else(V l.H (posV o.Page l.H)).E7)=kk
      split
      .exact h.run hl (UK hh).1
      .exact h
     .exact h
    .exact h
   .split
    .split
     .rename_i hh
      have hi:=(UK hh).1
      split
      .rename_i he
       have h2:=hl.run hi
       have hk:=Y7 (l:=l) (i:=posV o.a.Page l.H)
       refine(h.run hl hi).put U ?_
       rcases QcE he with e|e
       .rw[e]
       .rw[e];exact Qjr.1
      .exact h.run hl hi
     .exact h
    .split
     .exact h.runs hl (AN _)
     .exact h.runs hl (AN _)
def Ids.apply(h:Ids m l)(hl:Qd M n l)(ho:OpIn o)(ht:max l.E9 o.At<=M - 20000)(hs:l.h.length<256)(hp:o.Z=1->o.Page<=m):Ids m (Zk l o).1:=by
 unfold Zk
 split
 .exact h
 .rename_i hse
  exact Ids.op (l:={ l with E9:=max l.E9 o.At,h:=l.h++[o.S] }) h (hl.see ho ht (by simpa using hse) hs) ho hp
def QtS:(opV l o).1.E9=l.E9/\(opV l o).1.h=l.h:=by
 unfold opV
 have h1:=fun i=>Y7 (l:=l) (i:=i)
 have h2:=fun k=>YG (l:=l) (k:=k)
 split
 .split
  .exact⟨rfl,rfl⟩
  .split
   .exact⟨rfl,rfl⟩
   .split
    .exact⟨rfl,rfl⟩
    .split
     .exact⟨(Y7 (l:={ l with H:=insP l.H (newP o.Page o.W l.E9) })).1,(Y7 (l:={ l with H:=insP l.H (newP o.Page o.W l.E9) })).2.2.2.2.2.1⟩
     .exact⟨rfl,rfl⟩
 .split
  .grind
  .split
   .grind
   .split
    .split
     .split
      .exact⟨(h1 _).1,(h1 _).2.2.2.2.2.1⟩
      .simp_all
     .exact⟨rfl,rfl⟩
    .grind
def Qr1:(Zk l o).1.h.length<=l.h.length+1/\((Zk l o).1.E9=l.E9\/(Zk l o).1.E9=max l.E9 o.At):=by
 unfold Zk
 split
 .simp_all
 .have:=QtS (l:={ l with E9:=max l.E9 o.At,h:=l.h++[o.S] }) (o:=o)
  simp_all
def Qvl(h:Qd M n l)(hpg:l.H.length<=9):Ok (Wo 1000 l t) fun w=>w.length<=9/\∀s∈w,∃p∈l.H,s.K=p.S:=by
 unfold Wo
 refine Ok.j ?_
 refine Ok.loop (fun m x=>∃(i:Nat) (w:Y D.T),x=((t,(i:Int),()),l,w,())/\i<=l.H.length/\w.length<=i/\(∀s∈w,∃p∈l.H,s.K=p.S)/\m=l.H.length - i) (m:=l.H.length) U ⟨0,[],rfl,U,Ob,Ob,rfl⟩ ?_
 rintro m x ⟨i,w,rfl,i1,i2,i3,rfl⟩ K hK
 try dsimp only
 refine Ok.j (Ok.ite (fun hi=>?_) (fun hi=>Ok.s ⟨U,i3⟩))
 have hlt:i<l.H.length:=U
 refine Ok.oe (QcH h.w hpg) (Ok.t ?_)
 try dsimp only
 have next:∀w:Y D.T,w.length<=i+1->(∀s∈w,∃p∈l.H,s.K=p.S)->Ok (K ((t,J ((i:Int)+1),()),l,w,())) fun w=>w.length<=9/\∀s∈w,∃p∈l.H,s.K=p.S:=fun w h1 h2=>by
  try dsimp only
  rw[Qa U]
  exact hK _ _ U ⟨i+1,w,rfl,U,h1,h2,rfl⟩
 refine Ok.j (Ok.atn hlt (Ok.oe Qgq (Ok.C (fun g=>Ok.ite (fun g2=>Ok.atn hlt (Ok.LS (next _ (by simp;omega) ?_))) (fun g2=>next w U i3)) (fun g=>next w U i3))))
 exact V5 i3 ⟨_,Qf hlt,rfl⟩
def QCy{id t:Int}(hL:L.length<=500)(hd:QY L d)(h:Qd M n l)(hids:Ids 3 l)(hid:1<=id/\id<=1000)(ht:0<=t/\t<=8589934592):
  Ok (QcI 1000 d l id t) fun r=>QY L r.2/\OpIn r.1/\r.1.S=id/\r.1.At=t/\(r.1.Z=1->1<=r.1.Page/\r.1.Page<=3)/\(r.1.Z=4->r.1.a.R<4):=by
 have hpl:=h.book.plen;have hfe:=h.fence;have hse:=h.seen.len;have how:=h.owner
 have hpg:=h.small3 (k:=3) hids
 unfold QcI
 refine Ok.opt (nx hL hd U U) fun⟨a0,d1⟩ ⟨h1,l1,u1⟩=>?_
 try dsimp only at h1 l1 u1 |-
 refine Ok.opt (nx hL h1 U U) fun⟨a2,d3⟩ ⟨h3,l3,u3⟩=>?_
 try dsimp only at h3 l3 u3 |-
 refine Ok.opt (nx hL h3 U U) fun⟨a4,d5⟩ ⟨h5,l5,u5⟩=>?_
 try dsimp only at h5 l5 u5 |-
 rw[Qb (x:=1+a0) U,Qb (x:=1+a4) U]
 have noEdit:∀{P:Prop},¬(1+a0=5)->1+a0=5->P:=fun h1 h2=>absurd h2 h1
 refine Ok.j (Ok.ite (fun k1=>?_) (fun k1=>Ok.ite (fun k2=>?_) (fun k2=>Ok.ite (fun k3=>?_) (fun k3=>Ok.ite (fun k4=>?_) (fun k4=>Ok.ite (fun k5=>?_) (fun k5=>?_))))))
 .refine Ok.opt (nx hL h5 U U) fun⟨a10,d11⟩ ⟨h11,l11,u11⟩=>?_
  try dsimp only at h11 l11 u11 |-
  rw[Qb (x:=(l.b.k.length:Int)+1) U,Qb (x:=(l.b.k.length:Int)+1 - a10) U]
  refine Ok.opt (nx hL h11 U U) fun⟨a12,d13⟩ ⟨h13,l13,u13⟩=>Ok.s ⟨h13,?_,rfl,rfl,fun _=>by dsimp only;omega,fun e=>absurd (show 1+a0=4 from e) U⟩
  exact⟨by dsimp only;omega,by dsimp only;omega,by dsimp only;omega,by dsimp only;omega,ht,by dsimp only;omega,by dsimp only;omega,fun e=>absurd (show 1+a0=4 from e) U,fun e=>absurd (show 1+a0=5 from e) U⟩
 .refine Ok.opt (QcK hL h5 Ob Ob) fun⟨a14,d15⟩ ⟨h15,m15⟩=>?_
  try dsimp only at h15 m15 |-
  simp only[AZ,BI,or_false]at m15
  try dsimp only
  rw[Qb (x:=l.Fence+a14) U]
  refine Ok.s ⟨h15,?_,rfl,rfl,fun e=>absurd (show 1+a0=1 from e) k1,fun e=>absurd (show 1+a0=4 from e) U⟩
  exact⟨by dsimp only;omega,by dsimp only;omega,by dsimp only;omega,by dsimp only;omega,ht,by dsimp only;omega,by dsimp only;omega,fun e=>absurd (show 1+a0=4 from e) U,fun e=>absurd (show 1+a0=5 from e) U⟩
 ·have hop:∀o:D.Op,OpIn o->o.S=id->o.At=t->o.Z=3->∀d,QY L d->Ok (some (o,d)) fun r=>QY L r.2/\OpIn r.1/\r.1.S=id/\r.1.At=t/\(r.1.Z=1->1<=r.1.Page/\r.1.Page<=3)/\(r.1.Z=4->r.1.a.R<4):=fun o h1 h2 h3 h4 d hd=>Ok.s ⟨hd,h1,h2,h3,fun e=>absurd (show o.Z=1 from e) U,fun e=>absurd (show o.Z=4 from e) U⟩
  refine Ok.TG (fun y=>∃(d:D.FC) (z o:D.Op),y=((t,1+a4,()),d,l,z,o,())/\QY L d/\OpIn o/\o.S=id/\o.At=t/\o.Z=3) (fun y hy=>?_) (fun zG hJ=>?_)
  .obtain⟨d,z,o,rfl,j1,j2,j3,j4,j5⟩:=hy
   try dsimp only
   refine Ok.TG (fun y=>∃(d:D.FC) (z o:D.Op),y=((t,1+a4,()),d,l,z,o,())/\QY L d/\OpIn o/\o.S=id/\o.At=t/\o.Z=3) (fun y hy=>?_) (fun zG hJ=>?_)
   .obtain⟨d,z,o,rfl,j1,j2,j3,j4,j5⟩:=hy
    try dsimp only
    refine Ok.TG (fun y=>∃(d:D.FC) (z o:D.Op),y=((),l,z,o,d,())/\QY L d/\OpIn o/\o.S=id/\o.At=t/\o.Z=3) (fun y hy=>?_) (fun zG hJ=>?_)
    .obtain⟨d,z,o,rfl,j1,j2,j3,j4,j5⟩:=hy
     try dsimp only
     refine Ok.oe (Qwx h.plens h.asc U) ?_
     unfold Qc8
     by_cases hh:hasV o.Page l.H=true
     .rw[iB hh]
      try dsimp only
      have hi:=UK hh
      obtain⟨g1,_⟩:=h.at hi.1
      have hnx:=(Yc (g1.check h.book)).next
      have hcn:=Yv (g1.polOK h.book)
      refine Ok.t (Ok.ite (fun g=>Ok.s ⟨j1,?_,j3,j4,fun e=>absurd (show o.Z=1 from e) U,fun e=>absurd (show o.Z=4 from e) U⟩) (fun g=>Ok.s ⟨j1,?_,j3,j4,fun e=>absurd (show o.Z=1 from e) U,fun e=>absurd (show o.Z=4 from e) U⟩))
      .exact⟨j2.id,j2.kind,j2.region,j2.fence,j2.at_,j2.page,by dsimp only;omega,j2.answer,j2.edit⟩
      .exact⟨j2.id,j2.kind,j2.region,j2.fence,j2.at_,j2.page,by dsimp only;omega,j2.answer,j2.edit⟩
     .rw[iA hh]
      exact Ok.f (hop _ j2 j3 j4 j5 _ j1)
    .refine Ok.opt (Qvl h U) fun w ⟨w1,w2⟩=>?_
     refine Ok.ite (fun g=>?_) (fun g=>hJ _ ⟨_,_,_,rfl,j1,⟨j2.id,j2.kind,j2.region,j2.fence,j2.at_,by dsimp only;omega,j2.k,j2.answer,j2.edit⟩,j3,j4,j5⟩)
     refine Ok.opt (nx hL j1 U U) fun⟨a36,d37⟩ ⟨h37,l37,u37⟩=>?_
     try dsimp only at h37 l37 u37 |-
     refine Ok.at l37 u37 (hJ _ ⟨_,_,_,rfl,h37,⟨j2.id,j2.kind,j2.region,j2.fence,j2.at_,?_,j2.k,j2.answer,j2.edit⟩,j3,j4,j5⟩)
     obtain⟨p,hp,e⟩:=w2 _ (Qf (l:=w) (i:=a36.toNat) U)
     have:=(h.page p hp).1.id
     grind
   .refine Ok.opt (nx hL j1 U U) fun⟨a40,d41⟩ ⟨h41,_⟩=>Ok.ite (fun g=>?_) (fun g=>hJ _ ⟨_,_,_,rfl,h41,j2,j3,j4,j5⟩)
    try dsimp only at h41
    refine Ok.opt (nx hL h41 U U) fun⟨a42,d43⟩ ⟨h43,l43,u43⟩=>hJ _ ⟨_,_,_,rfl,h43,⟨j2.id,j2.kind,j2.region,?_,j2.at_,j2.page,j2.k,j2.answer,j2.edit⟩,j3,j4,j5⟩
    grind
  .refine Ok.opt (nx hL h5 U U) fun⟨a45,d46⟩ ⟨h46,_⟩=>Ok.ite (fun g=>?_) (fun g=>?_)
   .try dsimp only at h46
    refine Ok.opt (nx hL h46 U U) fun⟨a47,d48⟩ ⟨h48,l48,u48⟩=>hJ _ ⟨_,_,_,rfl,h48,?_,rfl,rfl,k3⟩
    try dsimp only at l48 u48
    exact⟨by dsimp only;omega,by dsimp only;omega,by dsimp only;omega,by dsimp only;omega,ht,by dsimp only;omega,by dsimp only;omega,fun e=>absurd (show 1+a0=4 from e) U,fun e=>absurd (show 1+a0=5 from e) U⟩
   .refine hJ _ ⟨_,_,_,rfl,h46,?_,rfl,rfl,k3⟩
    exact⟨by dsimp only;omega,by dsimp only;omega,by dsimp only;omega,by dsimp only;omega,ht,by dsimp only;omega,by dsimp only;omega,fun e=>absurd (show 1+a0=4 from e) U,fun e=>absurd (show 1+a0=5 from e) U⟩
 .refine Ok.opt (nx hL h5 U U) fun⟨a49,d50⟩ ⟨h50,l50,u50⟩=>?_
  try dsimp only at h50 l50 u50 |-
  rw[Qb (x:=1+a49) U]
  refine Ok.opt (QvJ hL h50) fun⟨a,d52⟩ ⟨h52,ha,e1,e2,e3⟩=>Ok.s ⟨h52,?_,rfl,rfl,fun e=>absurd (show 1+a0=1 from e) k1,fun _=>ha.pers.2⟩
  try dsimp only at ha e1 e2 e3
  exact⟨by dsimp only;omega,by dsimp only;omega,by dsimp only;omega,by dsimp only;omega,ht,by dsimp only;omega,by dsimp only;omega,fun _=>⟨ha.valid U U U,fun e=>(ha.arg3 e).2⟩,fun e=>absurd (show 1+a0=5 from e) U⟩
 .refine Ok.opt (nx hL h5 U U) fun⟨a53,d54⟩ ⟨h54,l54,u54⟩=>?_
  try dsimp only at h54 l54 u54 |-
  refine Ok.opt (Qmc hL h54) fun⟨x,d56⟩ ⟨h56,hx⟩=>Ok.s ⟨h56,?_,rfl,rfl,fun e=>absurd (show 1+a0=1 from e) k1,fun e=>absurd (show 1+a0=4 from e) U⟩
  try dsimp only at hx
  exact⟨by dsimp only;omega,by dsimp only;omega,by dsimp only;omega,by dsimp only;omega,ht,by dsimp only;omega,by dsimp only;omega,fun e=>absurd (show 1+a0=4 from e) k4,fun _ _=>hx⟩
 .omega
structure QCS (k:Nat) (l:D.G):Prop where
 inv:Qd 1000000 (2+k) l
 ids:Ids 3 l
 seen:l.h.length<=k
 now:l.E9<=864000+700*(k:Int)
def QuI(hc:Zg 2 c)(hb:QU b):Qd 1000000 2 { E9:=0,F:=c,b:=b,H:=[],E5:=-1,Fence:=0,h:=[],Calls:=[] }:=
 ⟨U,by dsimp only;omega,U,hc,hb,Ob,List.Pairwise.nil,Ob,by dsimp only;omega,Ob,⟨Ob,List.nodup_nil,Ob⟩,Ob,Ob⟩
def QBr(hc:Zg n c)(hn:n<=48)(hb:QU b):Qmz 1000 c b=some ({ E9:=0,F:=c,b:=b,H:=[],E5:=-1,Fence:=0,h:=[],Calls:=[] },0):=by
 refine Ok.eq ?_
 unfold Qmz
 exact Ok.oe (Qql hc hn hb) (Ok.NS (Ok.s rfl))
end
end
section
open Go AM
attribute [local irreducible] dueV stepV runV QG answerV
section
def seeV(l:D.G)(o:D.Op):D.G:={ l with E9:=max l.E9 o.At,h:=l.h++[o.S] }
def QbU(hs:l.h.contains o.S=false):Zk l o=opV (seeV l o) o:=by
 unfold Zk;rw[hs];rfl
def ansP(c:D.F)(b:D.b)(p:D.Page)(a:D.a)(now:Int):D.Page:=
 if (answerV b (runV c b p now).1 { a with At:=now }).2=0 then(answerV b (runV c b p now).1 { a with At:=now }).1 else(runV c b p now).1
def QuJ(h:Qd M n l)(hk:o.Z=4):(opV l o).1.F=l.F/\(opV l o).1.b=l.b/\
  (opV l o).1.H=if hasV o.a.Page l.H=true then l.H.set (posV o.a.Page l.H) (ansP l.F l.b (V l.H (posV o.a.Page l.H)) o.a l.E9)else l.H:=by
 unfold opV
 rw[iA U,iA U,iA U,iB hk]
 split
 .rename_i g
  obtain⟨g1,g2⟩:=UK g
  have hpg:=QdS h g1 (j:=posV o.a.Page l.H)
  rw[iB rfl]at hpg
  have hpages:(runI l (posV o.a.Page l.H)).H=l.H.set (posV o.a.Page l.H) (runV l.F l.b (V l.H (posV o.a.Page l.H)) l.E9).1:=by
   rw[h.runEq g1];rfl
  split
  .rename_i g3
   rw[hpg]at g3
   refine⟨Y7.2.1,Y7.2.2.1,?_⟩
   show List.set _ _ _=_
   rw[hpages,List.set_set,<-hpages,hpg]
   unfold ansP
   rw[iB g3]
  .rename_i g3
   rw[hpg]at g3
   refine⟨Y7.2.1,Y7.2.2.1,?_⟩
   show(runI l _).H=_
   rw[hpages]
   unfold ansP
   rw[iA g3]
 .exact⟨rfl,rfl,rfl⟩
end
end
section
attribute [local irreducible] dueV stepV runV QG answerV
section
def QBn:∀i,i<2->QbV 1000 (V Qii i)=some true:=forall2 (by kernel_rfl) (by kernel_rfl)
def QBm:∀i,i<3->QbV 1000 (V Qm8 i)=some true:=forall3 (by kernel_rfl) (by kernel_rfl) (by kernel_rfl)
def Qwr(hb:QU b)(hi:i<b.v.length):ZC 1000 (i:Int) b=some false:=by
 have htl:=hb.tlen
 have hone:∀j,j<b.v.length->VV 1000 (j:Int) b=some (V Qii j):=fun j hj=>by
  refine Ok.eq ?_
  unfold VV
  exact Ok.atn hj (Ok.TF (Ok.s (hb.tnm hj)))
 refine Ok.eq ?_
 unfold ZC
 refine Ok.run2 i (fun k=>((i:Int),(i:Int),(k:Int),())) rfl U (fun k hk K hK=>?_) (fun K=>by dsimp only;exact Ok.N (Ok.TF (Ok.s rfl)))
 try dsimp only
 refine Ok.P (Ok.oe (hone k U) (Ok.oe (hone i hi) (Ok.n (Qqk i U k hk) ?_)))
 try dsimp only
 rw[Qa U];exact hK
def Qwq(hb:QU b)(hi:i<b.k.length):ZD 1000 (i:Int) b=some false:=by
 have htl:=hb.plen
 have hone:∀j,j<b.k.length->VW 1000 (j:Int) b=some (V Qm8 j):=fun j hj=>by
  refine Ok.eq ?_
  unfold VW
  exact Ok.atn hj (Ok.TF (Ok.s (hb.pnm hj)))
 refine Ok.eq ?_
 unfold ZD
 refine Ok.run2 i (fun k=>((i:Int),(i:Int),(k:Int),())) rfl U (fun k hk K hK=>?_) (fun K=>by dsimp only;exact Ok.N (Ok.TF (Ok.s rfl)))
 try dsimp only
 refine Ok.P (Ok.oe (hone k U) (Ok.oe (hone i hi) (Ok.n (Qtc i U k hk) ?_)))
 try dsimp only
 rw[Qa U];exact hK
def QBO(h:Zg n c)(ht:Qqa t):QgC 1000 c t.s=some 0:=by
 have hpl:=h.plen;have hml:=ht.len
 refine Ok.eq ?_
 unfold QgC
 refine Ok.N (Ok.run2 (t.s.length - 1) (fun k=>(t.s,((k+1:Nat):Int),())) rfl U (fun k hk K hK=>?_) (fun K=>?_))
 .try dsimp only
  have:=Qjt ht.asc (show k<k+1 by omega) (show k+1<t.s.length by omega)
  refine Ok.P (Ok.A ?_)
  rw[show J (((k+1:Nat):Int) - 1)=(k:Int)by rw[Qb U];omega]
  refine Ok.A (Ok.N ?_)
  try dsimp only
  rw[Qa U];exact hK
 .try dsimp only
  rw[hpl]
  have h1:=ht.mem _ (Qf (l:=t.s) (i:=0) U)
  have h2:=ht.mem _ (Qf (l:=t.s) (i:=t.s.length - 1) U)
  refine Ok.N (Ok.j (Ok.at U U ?_))
  rw[show J (((4:Nat):Int) - 1)=3 from rfl,show J ((t.s.length:Int) - 1)=((t.s.length - 1:Nat):Int)by rw[Qb U];omega]
  refine Ok.oe pIn (Ok.p ⟨h1.1,by have:=h1.2;show V t.s (0:Int).toNat<=3;simp only[Int.toNat_zero];omega⟩ (Ok.A (Ok.oe pIn (Ok.P (Ok.s rfl)))))
def QzA(h:Zg n c)(hb:QU b)(hs:StepOK' b.v.length s):Qem 1000 c b s=some 0:=by
 have hpl:=h.plen;have hsl:=h.slen;have htl:=hb.tlen;have hw:=hs.wait;have htn:=hs.len
 have hsz:Vj 1000 c b=some ⟨4,2,(b.v.length:Int)⟩:=by unfold Vj;rw[hpl,hsl];rfl
 refine Ok.eq ?_
 unfold Qem
 refine Ok.oe pIn (Ok.np U (Ok.N (Ok.oe hsz ?_)))
 try dsimp only
 refine Ok.run2 s.Fe.length (fun i=>(s.Fe,(s.Fe.length:Int),(i:Int),())) rfl U (fun i hi K hK=>?_) (fun K=>by dsimp only;exact Ok.N (Ok.s rfl))
 try dsimp only
 have hx:=hs.target _ (Qf hi)
 have h1:=hx.lo;have h2:=hx.person;have h3:=hx.sched;have h4:=hx.team
 refine Ok.P (Ok.j (Ok.atn hi (Ok.oe pIn (Ok.p (by have:=hx.kind;omega) ?_))))
 have next:Ok (K ((s.Fe,(s.Fe.length:Int),J ((i:Int)+1),()),(4,2,(b.v.length:Int),()),())) (·=0):=by rw[Qa U];exact hK
 rcases hx.kind with hk|hk|hk
 .have:=h2 hk
  refine Ok.P (Ok.oe pIn (Ok.p ⟨h1,by rw[Qb U];omega⟩ next))
 .have:=h3 hk
  refine Ok.N (Ok.P (Ok.oe pIn (Ok.p ⟨h1,by rw[Qb U];omega⟩ next)))
 .have:=h4 hk
  refine Ok.N (Ok.N (Ok.P (Ok.oe pIn (Ok.p ⟨h1,by rw[Qb U];omega⟩ next))))
def Qyy(h:Zg n c)(hn:n<=48)(hb:QU b):QcP 1000 c b=some 0:=by
 have htl:=hb.tlen;have hpl:=hb.plen
 refine Ok.eq ?_
 unfold QcP
 refine Ok.oe (QkQ h hn) (Ok.NS (Ok.j (Ok.N (Ok.N ?_))))
 refine Ok.run b.v.length (fun i=>((b.v,(b.v.length:Int),(i:Int),()),c,b,())) rfl U (fun i hi K hK=>?_) (fun K=>?_)
 .try dsimp only
  have ht:=hb.team _ (Qf hi)
  refine Ok.P (Ok.atn hi (Ok.oe (by rw[hb.tnm hi];exact QBn i U) (Ok.nt rfl (Ok.oe (Qwr hb hi) (Ok.f (Ok.oe (QBO h ht) (Ok.NS ?_)))))))
  try dsimp only
  rw[Qa U];exact hK
 .try dsimp only
  refine Ok.N (Ok.run b.k.length (fun i=>(((b.k.length:Int),(i:Int),()),c,b,())) rfl U (fun i hi K hK=>?_) (fun K=>by dsimp only;exact Ok.N (Ok.s rfl)))
  try dsimp only
  have ht:=hb.pol _ (Qf hi)
  have hml:=ht.len;have hrp:=ht.rep
  refine Ok.P (Ok.oe (v:=0) ?_ (Ok.NS ?_))
  .refine Ok.eq ?_
   unfold QfL
   refine Ok.atn hi (Ok.oe (by rw[hb.pnm hi];exact QBm i U) (Ok.nt rfl (Ok.oe (Qwq hb hi) (Ok.f (Ok.N (Ok.N (Ok.oe pIn (Ok.np U ?_))))))))
   refine Ok.run (V b.k i).Steps.length (fun k=>(((V b.k i).Steps,(((V b.k i).Steps.length:Nat):Int),(k:Int),()),c,b,())) rfl U (fun k hk K2 hK2=>?_) (fun K2=>by dsimp only;exact Ok.N (Ok.s rfl))
   try dsimp only
   refine Ok.P (Ok.atn hk (Ok.oe (QzA h hb (ht.step _ (Qf hk))) (Ok.NS ?_)))
   try dsimp only
   rw[Qa U];exact hK2
  .try dsimp only
   rw[Qa U];exact hK
def oin:Wm fu x lo hi=some (inV x lo hi):=by
 unfold Wm inV
 by_cases h1:lo<=x<;>by_cases h2:x<=hi<;>simp[cd,AM.C,h1,h2]
def Qzu(h:QnE L 256):Qgx 1000 L=some true:=by
 have hl:=h.len
 refine Ok.eq ?_
 unfold Qgx
 refine Ok.run L.length (fun i=>((L,L,((L.length:Nat):Int),(i:Int),()),())) rfl U (fun i hi k hk=>?_) (fun k=>by dsimp only;exact Ok.N (Ok.s (decide_eq_true U)))
 try dsimp only
 have hx:=h.fit _ (Qf hi)
 have hno:(L.take i).contains (V L i)=false:=by
  cases hc:(L.take i).contains (V L i)with
  |false=>rfl
  |true=>
   have:=Qk8 hi hc
   rw[Ax h.nodup]at this;simp at this
 refine Ok.P (Ok.j (Ok.atn hi (Ok.oe oin (Ok.bt (Qu.2 hx) (Ok.natn (Ok.L (Ok.oe (Qd7 (by simp;omega)) (Ok.bf hno ?_))))))))
 try dsimp only
 rw[Qa U];exact hk
structure DelC (p0:Y D.Call) (q:D.Call->AH) (w j:Nat) (a:Y D.Call):Prop where
 len:a.length=p0.length
 wj:w<=j/\j<=p0.length
 done:a.take w=(p0.take j).filter q
 rest:∀k,j<=k->V a k=V p0 k
def QlP{L:Y D.Call}{q:D.Call->AH}{i:Nat}(hi:i<=L.length)(h:∀j,j<i->q (V L j)=true):(L.take i).filter q=L.take i:=by
 refine ET.2 fun x hx=>?_
 obtain⟨k,hk,rfl⟩:=BZ hx
 rw[Ae]at hk
 have:=h k U
 simpa [V,AQ,AR (show k<L.length by omega)]using this
def QtO{L:Y D.Call}{j k:Nat}{x:D.Call}(hj:j<L.length):V (L.set j x) k=if k=j then x else V L k:=by
 by_cases e:k=j
 .subst e;rw[iB rfl,Ql hj]
 .rw[iA e,QB e]
def Qut(hi:i<p0.length)(h:∀j,j<i->q (V p0 j)=true)(hx:q (V p0 i)=false):DelC p0 q i (i+1) p0:=by
 refine⟨rfl,U,?_,fun k _=>rfl⟩
 rw[<-Qp hi,B5,QlP U h]
 simp[hx]
def Qwo(h:DelC p0 q w j a)(hj:j<p0.length)(hx:q (V a j)=true):DelC p0 q (w+1) (j+1) (a.set w (V a j)):=by
 have h1:=h.wj
 have h2:=h.len
 refine⟨by simp[h.len],U,?_,fun k hk=>?_⟩
 .rw[h.rest j (AN _)]at hx |-
  rw[<-Qp hj,B5,<-h.done,<-Qp (l:=a.set w (V p0 j)) (by simp;omega),QtO U,iB rfl,Ez U]
  simp[hx]
 .rw[QtO U,iA U];exact h.rest k U
def Qwp(h:DelC p0 q w j a)(hj:j<p0.length)(hx:q (V a j)=false):DelC p0 q w (j+1) a:=by
 have h1:=h.wj
 refine⟨h.len,U,?_,fun k hk=>h.rest k U⟩
 rw[h.rest j (AN _)]at hx
 rw[<-Qp hj,B5,<-h.done]
 simp[hx]
def Qxd:UV 1000 x p=some (decide (x.Page≠p.S)):=by
 unfold UV
 rw[Vq]
def QBw(hl:L.length<=900):Ok (QW 1000 L p) fun r=>List.drop r.1 (List.take r.2.1 r.2.2)=ownC p.S L:=by
 have hown:∀{x:D.Call},decide (x.Page≠p.S)=!(decide (x.Page=p.S)):=fun{x}=>by by_cases e:x.Page=p.S<;>simp[e]
 unfold QW
 have hidx:Ok (Q0 1000 L p) fun r=>(r = -1/\(∀j,j<L.length->decide ((V L j).Page=p.S)=true))\/∃i:Nat,r=(i:Int)/\i<L.length/\decide ((V L i).Page=p.S)=false/\∀j,j<i->decide ((V L j).Page=p.S)=true:=by
  unfold Q0
  refine Ok.scan2 L.length (fun i=>(((L.length:Nat):Int),(i:Int),())) (fun i=>!decide ((V L i).Page=p.S)) rfl U (fun i hi hq hj k=>?_) (fun i hi hq k hk=>?_) (fun hq k=>?_)
  .refine Ok.P (Ok.natn (Ok.lt hi (Ok.get hi (Ok.oe Qxd ?_))))
   rw[hown]
   exact Ok.bt hq (Ok.TF (Ok.TF (Ok.s (.inr ⟨i,rfl,hi,by simpa using hq,fun j hj'=>by simpa using hj j hj'⟩))))
  .refine Ok.P (Ok.natn (Ok.lt hi (Ok.get hi (Ok.oe Qxd ?_))))
   rw[hown]
   refine Ok.bf hq ?_
   try dsimp only
   rw[Qa U];exact hk
  .exact Ok.N (Ok.TF (Ok.TF (Ok.s (.inl ⟨rfl,fun j hj=>by simpa using hq j hj⟩))))
 refine Ok.opt hidx fun r hr=>?_
 rcases hr with⟨rfl,hall⟩|⟨i,rfl,hi,hx,hj⟩
 .refine Ok.p rfl (Ok.TF (Ok.s ?_))
  try dsimp only
  have:=QlP (q:=fun z=>decide (z.Page=p.S)) (AN _) hall
  rw[Ac]at this |-
  rw[Cb]
  exact this.symm
 .refine Ok.N ?_
  try dsimp only
  rw[Qa U]
  refine Ok.loop (fun q x=>∃(w j:Nat) (a:Y D.Call),x=(((w:Int),(j:Int),()),p,a,())/\DelC L (fun z=>decide (z.Page=p.S)) w j a/\q=L.length - j) (m:=L.length - (i+1)) U ⟨i,i+1,L,rfl,Qut hi hj hx,rfl⟩ ?_
  rintro q x ⟨w,j,a,rfl,hinv,rfl⟩ K hK
  have h1:=hinv.wj
  have h2:=hinv.len
  try dsimp only
  refine Ok.ite (fun hlt=>?_) (fun hge=>?_)
  .refine Ok.j (Ok.natn (Ok.E (Ok.G (Ok.oe Qxd ?_))))
   rw[hown,EU]
   refine Ok.C (fun hq=>?_) (fun hq=>?_)
   .refine Ok.natn (Ok.E (Ok.G ?_))
    try dsimp only
    rw[Qa U,Qa U]
    exact hK _ _ U ⟨w+1,j+1,_,rfl,Qwo hinv U hq,rfl⟩
   .try dsimp only
    rw[Qa U]
    exact hK _ _ U ⟨w,j+1,a,rfl,Qwp hinv U hq,rfl⟩
  .have ej:j=L.length:=U
   have hd:=hinv.done
   rw[ej,Ac]at hd
   refine Ok.natn (Ok.L (Ok.L (Ok.L (Ok.natn (Ok.LS (Ok.TF (Ok.s ?_)))))))
   try dsimp only
   rw[Cb,Aw,CZ (by simp;omega),Ca,C7]
   exact hd
def QnZ[AK α]{A B:Y α}:V (A++B) (A.length+z)=V B z:=by
 simp[V,AQ,BR]
def Qwb(hpl:QC p)(hC:zH.length<=900)(h1:zH.map unf=QO p.S 0 p.P)(h2:zH.Pairwise fun x y=>x.Fence<=y.Fence)(h3:∀c∈zH,0<=c.Fence/\c.Fence<=f):Qeh 1000 p zH f=some true:=by
 have hst:=hpl.st
 have hlen:zH.length=(QO p.S 0 p.P).length:=by rw[<-h1,AX]
 have hnth:∀k,k<zH.length->unf (V zH k)=V (QO p.S 0 p.P) k:=fun k hk=>by
  rw[<-h1]
  simp[V,AQ,AR hk]
 obtain⟨lf,hlf⟩:∃lf:Nat->Int,∀k,lf k=if k=0 then 0 else(V zH (k - 1)).Fence:=⟨fun k=>_,fun k=>rfl⟩
 have hlow:∀k,k<zH.length->lf k<=(V zH k).Fence/\(V zH k).Fence<=f:=fun k hk=>by
  have hf:=h3 _ (Qf hk)
  refine⟨?_,hf.2⟩
  rw[hlf]
  split
  .exact hf.1
  .have:=CP.1 h2 (k - 1) k U hk U
   simpa [V,AQ,AR hk,AR (show k - 1<zH.length by omega)]using this
 refine Ok.eq ?_
 unfold Qeh
 refine Ok.run p.P.length (fun j=>((zH,f,(((QO p.S 0 (p.P.take j)).length:Nat):Int),lf (QO p.S 0 (p.P.take j)).length,p.P,(p.P.length:Int),(j:Int),()),p,())) (by rw[hlf];rfl) U (fun j hj k hk=>?_) (fun k=>?_)
 .try dsimp only
  refine Ok.P (Ok.atn hj ?_)
  have hts:p.P.take (j+1)=p.P.take j++[V p.P j]:=(Qp hj).symm
  have hsp:p.P=p.P.take j++(V p.P j::p.P.drop (j+1)):=by rw[<-Qfr hj,B2]
  have hpe:=(hpl.pe _ (Qf hj)).1
  obtain⟨s,hs⟩:∃s,V p.P j=s:=⟨_,rfl⟩
  rw[hs]at hts hsp hpe |-
  obtain⟨base,hbase⟩:∃base,(QO p.S 0 (p.P.take j)).length=base:=⟨_,rfl⟩
  have hall:QO p.S 0 p.P=QO p.S 0 (p.P.take j)++(s.l.map (fun x=>D.Call.mk p.S s.K s.At x 0)++QO p.S 0 (p.P.drop (j+1))):=by
   conv=>lhs;rw[hsp]
   rw[Qc6]
   rfl
  have hbl:base+s.l.length<=zH.length:=by rw[hlen,hall,<-hbase];simp
  have hat:∀z,z<s.l.length->V (QO p.S 0 p.P) (base+z)=D.Call.mk p.S s.K s.At (V s.l z) 0:=fun z hz=>by
   rw[hall,<-hbase,QnZ,QfE (by simpa using hz)]
   simp[V,AQ,hz]
  try dsimp only at hk
  rw[hts,Qfi,Ab,AX,hbase]at hk
  rw[hbase]
  refine Ok.run s.l.length (fun z=>((zH,f,((base+z:Nat):Int),lf (base+z),p.P,(p.P.length:Int),(j:Int),s.l,(s.l.length:Int),(z:Int),()),p,s,())) rfl U (fun z hz k2 hk2=>?_) (fun k2=>?_)
  .try dsimp only
   have hlt:base+z<zH.length:=U
   have hlw:=hlow _ hlt
   have hun:=hnth _ hlt
   rw[hat z hz]at hun
   refine Ok.P (Ok.atn hz (Ok.j (Ok.N (Ok.atn hlt (Ok.oe oin (Ok.bt (Qu.2 hlw) (Ok.atn hlt (Ok.atn hlt (Ok.n ?_ ?_)))))))))
   .obtain⟨cc,hcc⟩:∃cc,V zH (base+z)=cc:=⟨_,rfl⟩
    rw[hcc]at hun |-
    obtain⟨c1,c2,c3,c4,c5⟩:=cc
    simp only[unf,D.Call.mk.injEq]at hun
    grind
   .try dsimp only
    refine Ok.atn hlt ?_
    try dsimp only
    rw[Qa U,Qa U]
    grind
  .try dsimp only
   refine Ok.N ?_
   try dsimp only
   rw[Qa U]
   exact hk
 .try dsimp only
  rw[Ac]
  exact Ok.N (Ok.s (Ax (by rw[hlen])))
def Qqr(h:L.length<=1000):X8 1000 L=some L:=by unfold X8;exact Yh U
def Qo0(h:LW M n l)(hpg:l.H.length<=9):XM 1000 l=some true:=by
 have htop:=h.top;have hnow:=h.now;have how:=h.owner;have hfe:=h.fence;have hse:=h.seen.len;have hcl:=h.callsLe hpg
 refine Ok.eq ?_
 unfold XM
 refine Ok.j (Ok.oe oin (Ok.bt (Qu.2 U) (Ok.N (Ok.oe oin (Ok.bt (Qu.2 how) (Ok.oe oin (Ok.bt (Qu.2 U) (Ok.oe (Qzu h.seen) (Ok.t ?_)))))))))
 try dsimp only
 refine Ok.oe (Qyy h.cfg h.small h.book) (Ok.p rfl (Ok.oe (v:=true) ?_ (Ok.t (Ok.s rfl))))
 refine Ok.eq ?_
 unfold QhN
 have hsle:∀i,sumC (l.H.take i) (fun p=>(ownC p.S l.Calls).length)<=468*i:=fun i=>by
  have:=Qs1 (l:=l.H.take i) (f:=fun p=>(ownC p.S l.Calls).length) (m:=468) fun p hp=>by
   show(ownC p.S l.Calls).length<=468
   unfold ownC
   grind
  grind
 refine Ok.run l.H.length (fun i=>((((sumC (l.H.take i) (fun p=>(ownC p.S l.Calls).length):Nat):Int),l.H,(l.H.length:Int),(i:Int),()),l,())) rfl U (fun i hi k hk=>?_) (fun k=>?_)
 .try dsimp only
  have hm:=Qf hi
  obtain⟨g1,g2⟩:=h.page _ hm
  have gt:=h.told _ hm
  have hs1:=hsle i
  refine Ok.P (Ok.atn hi ?_)
  have hasc:0<i->(V l.H (i - 1)).S<(V l.H i).S:=fun h0=>Qd5 h.asc U hi
  try dsimp only at hk
  rw[<-Qp hi,QrL]at hk
  obtain⟨p,hp⟩:∃p,V l.H i=p:=⟨_,rfl⟩
  rw[hp]at g1 g2 gt hk hasc |-
  have hpl:=g1.plen h.book
  have hol:(ownC p.S l.Calls).length<=468:=by unfold ownC;exact Nat.le_trans (List.length_filter_le _ _) hcl
  refine Ok.TG (fun y=>y=((((sumC (l.H.take i) (fun p=>(ownC p.S l.Calls).length):Nat):Int),l.H,(l.H.length:Int),(i:Int),()),l,p,())) (fun y hy=>?_) (fun zG hJ=>?_)
  .subst hy
   try dsimp only
   refine Ok.oe (Qqr U) (Ok.opt (QBw (p:=p) U) fun⟨r0,r1,r2⟩ hr=>?_)
   try dsimp only at hr |-
   rw[hr]
   refine Ok.oe (Qwb hpl U gt.same gt.up gt.fit) (Ok.f ?_)
   try dsimp only
   rw[Qa U,Qb U]
   exact hk
  .have tail:Ok (O (Yq 1000 l.b p) fun a13=>AM.C a13 (AM.C (decide (l.E9<p.FM)) (some false) (zG ((((sumC (l.H.take i) (fun p=>(ownC p.S l.Calls).length):Nat):Int),l.H,(l.H.length:Int),(i:Int),()),l,p,()))) (some false)) (·=true):=
    Ok.oe (QkP h.book hpl) (Ok.bt (g1.check h.book) (Ok.N (hJ _ rfl)))
   by_cases h0:0<i
   .refine Ok.P ?_
    rw[show J ((i:Int) - 1)=((i - 1:Nat):Int)by rw[Qb U];omega]
    have:=hasc h0
    exact Ok.A (Ok.N tail)
   .exact Ok.N tail
 .try dsimp only
  rw[Ac,h.callsN]
  exact Ok.N (Ok.s (Ax rfl))
end
end
section
open Go AM
attribute [local irreducible] dueV stepV runV QG answerV
section
def Qpi{id:Int}:∀{L K:Y D.Page},L.map D.Page.S=K.map D.Page.S->posV id L=posV id K
 |[],[],_=>rfl
 |[],_::_,h=>by simp at h
 |_::_,[],h=>by simp at h
 |y::r,z::s,h=>by
  simp only[AU,Cr]at h
  simp only[posV,h.1,Qpi h.2]
def Qz0{L K:Y D.Page}(hl:L.length=K.length)(h:∀i,i<L.length->(V L i).S=(V K i).S):L.map D.Page.S=K.map D.Page.S:=by
 refine EY (by simpa using hl) fun i h1 h2=>?_
 simp only[AX]at h1 h2
 have:=h i h1
 simpa [V,AQ,AR h1,AR h2]using this
def QyO{id:Int}(hl:L.length=K.length)(h:∀i,i<L.length->(V L i).S=(V K i).S):hasV id L=hasV id K:=by
 have e:=Qpi (id:=id) (Qz0 hl h)
 unfold hasV
 grind
def QtQ:V (insP L p) j=if j<posV p.S L then V L j else if j=posV p.S L then p else V L (j - 1):=by
 have hp:=Qde (id:=p.S) (l:=L)
 have htl:(L.take (posV p.S L)).length=posV p.S L:=by simp;omega
 unfold insP
 split
 .rename_i g
  rw[QfE U,UP g]
 .rename_i g
  obtain⟨k,rfl⟩:∃k,j=(L.take (posV p.S L)).length+k:=⟨j - posV p.S L,U⟩
  rw[QnZ,htl]
  cases k with
  |zero=>rw[iB U,Qeg]
  |succ k=>
   rw[iA U,QbG,QtP]
   congr 1
structure Alike (M:Int) (n:Nat) (l x:D.G):Prop where
 li:Qd M n l
 xi:Qd M n x
 cfg:x.F=l.F
 book:x.b=l.b
 now:x.E9<=l.E9
 len:x.H.length=l.H.length
 page:∀i,i<l.H.length->(V x.H i).S=(V l.H i).S/\(runV l.F l.b (V x.H i) l.E9).1=(runV l.F l.b (V l.H i) l.E9).1
def Alike.has(h:Alike M n l x){id:Int}:hasV id x.H=hasV id l.H/\posV id x.H=posV id l.H:=by
 have e:∀i,i<x.H.length->(V x.H i).S=(V l.H i).S:=fun i hi=>(h.page i (by rw[<-h.len];exact hi)).1
 exact⟨QyO h.len e,Qpi (Qz0 h.len e)⟩
def Alike.wide(h:Alike M n l x)(hn:n<48):Alike M (n+1) l x:=⟨h.li.wide hn,h.xi.wide hn,h.cfg,h.book,h.now,h.len,h.page⟩
def Qzf(hk:o.Z=5):(opV l o).1.H=(ZG l l.H.length).H/\(opV l o).1.b=l.b/\(opV l o).1.F=(if 0<=o.e/\o.e<2 then QlJ l.F o.e o.t else l.F):=by
 unfold opV
 rw[iA U,iA U,iA U,iA U]
 split
 .exact⟨rfl,YG.2.2.1,rfl⟩
 .exact⟨rfl,YG.2.2.1,YG.2.1⟩
def Alike.runL(h:Alike M n l x)(hi:i<l.H.length):Alike M n (runI l i) x:=by
 obtain⟨k1,k2,k3,k4,k5,k6,k7⟩:=Y7 (l:=l) (i:=i)
 refine⟨h.li.run hi,h.xi,by rw[k2];exact h.cfg,by rw[k3];exact h.book,by rw[k1];exact h.now,by rw[k7];exact h.len,fun j hj=>?_⟩
 rw[k7]at hj
 rw[k1,k2,k3]
 by_cases e:j=i
 .subst e
  refine⟨by rw[QsU h.li hi];exact(h.page j hj).1,?_⟩
  rw[QdS h.li hi,iB rfl,Qoe (c:=l.F) h.li.book QT.step (Aj _) (h.li.at hi).1]
  exact(h.page j hj).2
 .rw[QdS h.li hi,iA e]
  exact h.page j hj
def Alike.runR(h:Alike M n l x)(hi:i<l.H.length)(hnow:x.E9=l.E9):Alike M n l (runI x i):=by
 obtain⟨k1,k2,k3,k4,k5,k6,k7⟩:=Y7 (l:=x) (i:=i)
 have hx:i<x.H.length:=by rw[h.len];exact hi
 refine⟨h.li,h.xi.run hx,by rw[k2];exact h.cfg,by rw[k3];exact h.book,by rw[k1];exact h.now,by rw[k7];exact h.len,fun j hj=>?_⟩
 by_cases e:j=i
 .subst e
  refine⟨by rw[QsU h.xi hx];exact(h.page j hj).1,?_⟩
  have hq:QN QT M l.b (V x.H j):=by
   have:=(h.xi.at hx).1
   rw[h.book]at this;exact this
  rw[QdS h.xi hx,iB rfl,h.cfg,h.book,hnow,Qoe (c:=l.F) h.li.book QT.step (Aj _) hq]
  exact(h.page j hj).2
 .rw[QdS h.xi hx,iA e]
  exact h.page j hj
def QkX:(insP L p).length=L.length+1:=by
 have:=Qde (id:=p.S) (l:=L)
 unfold insP;rw[List.length_append,List.length_cons,List.length_take,List.length_drop];omega
def Alike.open(h:Alike M n l x)(hn:n<48)(ho:OpIn o)(hk:o.Z=1)(hnow:x.E9=l.E9):Alike M (n+1) (opV l o).1 (opV x o).1:=by
 have hw:=h.wide hn
 obtain⟨e1,e2⟩:=h.has (id:=o.Page)
 have same:∀e:Int,opV l o=(l,e)->opV x o=(x,e)->Alike M (n+1) (opV l o).1 (opV x o).1:=fun e g1 g2=>by rw[g1,g2];exact hw
 by_cases g1:hasV o.Page l.H=true
 .exact same 4 (by unfold opV;rw[iB hk,iB g1]) (by unfold opV;rw[iB hk,e1,iB g1])
 by_cases g2:l.H.length=64
 .exact same 5 (by unfold opV;rw[iB hk,iA g1,iB g2]) (by unfold opV;rw[iB hk,e1,iA g1,h.len,iB g2])
 by_cases g3:o.Page<1
 .exact same 1 (by unfold opV;rw[iB hk,iA g1,iA g2,iB g3]) (by unfold opV;rw[iB hk,e1,iA g1,h.len,iA g2,iB g3])
 by_cases g4:0<=o.W/\o.W<(l.b.k.length:Int)
 case neg=>exact same 3 (by unfold opV;rw[iB hk,iA g1,iA g2,iA g3,iA g4]) (by unfold opV;rw[iB hk,e1,iA g1,h.len,iA g2,iA g3,h.book,iA g4])
 have f1:opV l o=(runI { l with H:=insP l.H (newP o.Page o.W l.E9) } (posV o.Page l.H),0):=by unfold opV;rw[iB hk,iA g1,iA g2,iA g3,iB g4]
 have f2:opV x o=(runI { x with H:=insP x.H (newP o.Page o.W l.E9) } (posV o.Page l.H),0):=by unfold opV;rw[iB hk,e1,iA g1,h.len,iA g2,iA g3,h.book,iB g4,e2,hnow]
 have hlen:=h.li.len
 obtain⟨i1,i2,i3⟩:=h.li.open (o:=o) (by simpa using g1) ⟨U,ho.page.2⟩ g4 U
 have hx4:0<=o.W/\o.W<(x.b.k.length:Int):=by rw[h.book];exact g4
 obtain⟨j1,j2,j3⟩:=h.xi.open (o:=o) (by rw[e1];simpa using g1) ⟨U,ho.page.2⟩ hx4 (by rw[h.len];omega)
 have eP:newP o.Page o.W x.E9=newP o.Page o.W l.E9:=by rw[hnow]
 rw[eP]at j1
 have hP:(newP o.Page o.W l.E9).S=o.Page:=rfl
 have hA:Alike M n { l with H:=insP l.H (newP o.Page o.W l.E9) } { x with H:=insP x.H (newP o.Page o.W l.E9) }:=by
  refine⟨i1,j1,h.cfg,h.book,h.now,by show(insP _ _).length=(insP _ _).length;rw[QkX,QkX,h.len],fun i hi=>?_⟩
  replace hi:i<l.H.length+1:=by have:i<(insP l.H (newP o.Page o.W l.E9)).length:=hi;rw[QkX]at this;exact this
  show(V (insP x.H _) i).S=(V (insP l.H _) i).S/\(runV l.F l.b (V (insP x.H _) i) l.E9).1=(runV l.F l.b (V (insP l.H _) i) l.E9).1
  have hpos:=Qde (id:=o.Page) (l:=l.H)
  rw[QtQ,QtQ,hP,e2]
  by_cases q1:i<posV o.Page l.H
  .rw[iB q1,iB q1];exact h.page i U
  .rw[iA q1,iA q1]
   by_cases q2:i=posV o.Page l.H
   .simp_all
   .rw[iA q2,iA q2];exact h.page (i - 1) U
 have hB:=hA.runR (i:=posV o.Page l.H) i2 hnow
 have hC:=hB.runL (i:=posV o.Page l.H) i2
 rw[f1,f2]
 exact hC.wide hn
end
end
section
attribute [local irreducible] dueV stepV runV QG answerV
section
def QhL(p:D.Page):Int:=if p.p=2 then -1 else p.E7
def Quv(h:Qd M n l)(hk:o.Z=3)(hr:o.Region=l.E5)(hf:o.Fence=l.Fence)(hi:i<l.H.length)(hp:o.Page=(V l.H i).S)(hw:Yp (V l.H i) (max l.E9 o.At)=true)(hK:o.K=QhL (V l.H i))(hs:l.h.contains o.S=false):Zk l o=(runI (seeV l o) i,0):=by
 have hpos:posV o.Page (seeV l o).H=i:=by rw[hp];exact QhV h.asc hi
 have hhas:hasV o.Page (seeV l o).H=true:=by rw[hp];exact QlW h.asc hi
 rw[QbU hs]
 have g:Yp (V (seeV l o).H (posV o.Page (seeV l o).H)) (seeV l o).E9=true/\o.K=(if (V (seeV l o).H (posV o.Page (seeV l o).H)).p=2 then -1 else(V (seeV l o).H (posV o.Page (seeV l o).H)).E7):=by
  rw[hpos];exact⟨hw,hK⟩
 have g0:o.Region=(seeV l o).E5/\o.Fence=(seeV l o).Fence:=⟨hr,hf⟩
 unfold opV
 rw[iA U,iA U,iB hk,iB g0,iB hhas,iB g,hpos]
def Qoc(h:Qd M n l)(hi:i<l.H.length):(runI l i).H=l.H.set i (runV l.F l.b (V l.H i) l.E9).1/\Yp (V (runI l i).H i) l.E9=false:=by
 have e:(runI l i).H=l.H.set i (runV l.F l.b (V l.H i) l.E9).1:=by rw[h.runEq hi];rfl
 refine⟨e,?_⟩
 rw[e,Ql hi]
 exact(QeB h.book QT.step (h.at hi).1).2.2
def XT(l:D.G)(now:Int):Y Nat:=(List.range l.H.length).filter fun i=>Yp (V l.H i) now
def Qgj:j∈XT l now↔j<l.H.length/\Yp (V l.H j) now=true:=by
 unfold XT;rw[List.mem_filter,List.mem_range]
def Qs6:(XT l now).Nodup:=(List.nodup_range).filter _
structure Driven (M:Int) (n:Nat) (l:D.G) (now:Int) (k:Nat) (x:D.G):Prop where
 inv:Qd M n x
 time:x.E9<=now/\(0<k->x.E9=now)
 len:x.H.length=l.H.length
 cfg:x.F=l.F/\x.b=l.b/\x.E5=l.E5/\x.Fence=l.Fence
 page:∀j,j<l.H.length->V x.H j=if j∈(XT l now).take k then(runV l.F l.b (V l.H j) now).1 else V l.H j
def Driven.done(h:Driven M n l now (XT l now).length x)(hl:Qd M n l)(hj:j<x.H.length):Yp (V x.H j) now=false:=by
 rw[h.len]at hj
 rw[h.page j hj,Ac]
 split
 .exact(QeB hl.book QT.step (hl.at hj).1).2.2
 .rename_i g
  cases hw:Yp (V l.H j) now with
  |false=>rfl
  |true=>exact absurd (Qgj.2 ⟨hj,hw⟩) g
def Quf(hs:l.h.contains o.S=false)(hk:o.Z=2):Zk l o=if o.Fence=l.Fence+1 then({ seeV l o with E5:=o.Region,Fence:=o.Fence },0)else(seeV l o,23):=by
 rw[QbU hs]
 unfold opV
 rw[iA U,iB hk]
 rfl
def Qd3(L:Y D.Page)(t:Int):Y D.T:=(L.filter fun p=>Yp p t).map fun p=>⟨p.S,(dueV p).1,[]⟩
def Qom(hi:i<L.length):Qd3 (L.take (i+1)) t=Qd3 (L.take i) t++(if Yp (V L i) t=true then[⟨(V L i).S,(dueV (V L i)).1,[]⟩]else[]):=by
 unfold Qd3
 rw[<-Qp hi,B5,Aq]
 congr 1
 cases g:Yp (V L i) t with
 |true=>simp[g]
 |false=>simp[g]
def QmZ:(Qd3 L t).length<=L.length:=by
 unfold Qd3;rw[List.length_map];exact CR ..
def Qs7(h:LW M n l)(hpg:l.H.length<=9):Wo 1000 l t=some (Qd3 l.H t):=by
 refine Ok.eq ?_
 unfold Wo
 refine Ok.j ?_
 refine Ok.run l.H.length (fun i=>((t,(i:Int),()),l,Qd3 (l.H.take i) t,())) rfl U (fun i hi k hk=>?_) (fun k=>?_)
 .try dsimp only
  have hs:=Qom (t:=t) hi
  have hlen:=QmZ (L:=l.H.take i) (t:=t)
  rw[Ae]at hlen
  try dsimp only at hk
  rw[hs]at hk
  refine Ok.j (Ok.P (Ok.oe (QcH h hpg) (Ok.t ?_)))
  refine Ok.j (Ok.atn hi (Ok.oe Qgq (Ok.C (fun g=>Ok.ite (fun g2=>Ok.atn hi (Ok.LS ?_)) (fun g2=>?_)) (fun g=>?_))))
  .try dsimp only
   rw[Qa U]
   rw[iB (by unfold Yp;rw[g,decide_eq_true g2];rfl)]at hk;exact hk
  .try dsimp only
   rw[Qa U]
   rw[iA (by unfold Yp;rw[decide_eq_false g2];simp),An]at hk;exact hk
  .try dsimp only
   rw[Qa U]
   rw[iA (by unfold Yp;rw[g];simp),An]at hk;exact hk
 .try dsimp only
  refine Ok.j (Ok.N (Ok.s ?_))
  rw[Ac]
def Driven.none(h:Driven M n l now (XT l now).length x)(hl:Qd M n l):Qd3 x.H now=[]:=by
 unfold Qd3
 rw[List.map_eq_nil_iff,Cv]
 intro p hp
 obtain⟨j,hj,rfl⟩:=Qdb hp
 rw[h.done hl hj];simp
end
end
open Go AM
def quo(n:Nat)(Q:Nat->AH):Prop:=n / 2+1<=(List.range n).countP Q
def QnO:∀{L:Y α},(∀i∈L,¬(P i=true/\Q i=true))->L.countP P+L.countP Q<=L.length
 |[],_=>by simp
 |y::r,h=>by
  have ih:=QnO (P:=P) (Q:=Q) (L:=r) fun i hi=>h i (by simp[hi])
  have hy:=h y Ob
  simp only[List.countP_cons,Ad]
  by_cases p:P y=true<;>by_cases q:Q y=true
  .exact absurd ⟨p,q⟩ hy
  all_goals simp[p,q];omega
def QiN(hp:quo n P)(hq:quo n Q):∃i,i<n/\P i=true/\Q i=true:=by
 rcases EE (∃i,i<n/\P i=true/\Q i=true)with h|h
 .exact h
 .have:=QnO (P:=P) (Q:=Q) (L:=List.range n) fun i hi ⟨g1,g2⟩=>h ⟨i,by simpa using hi,g1,g2⟩
  simp only[List.length_range]at this
  unfold quo at hp hq
  omega
structure Gh where
 clog:Nat->Int->Y D.m
 glog:Int->Y D.m
 lead:Int->I Nat
 vot:Nat->Int->I Nat
 ack:Nat->Int->Nat
section
abbrev trm(L:Y D.m)(k:Nat):Int:=(V L k).Q
def Good(g:Gh)(t:Int)(k:Nat):Prop:=1<=k/\k<=(g.glog t).length/\trm (g.glog t) (k - 1)=t
def May(n:Nat)(g:Gh)(T:Nat->Int)(t:Int)(k:Nat):Prop:=∃Q,quo n Q/\∀j,j<n->Q j=true->k<=g.ack j t\/T j<=t
def Chosen(n:Nat)(g:Gh)(t:Int)(k:Nat):Prop:=∃Q,quo n Q/\∀j,j<n->Q j=true->k<=g.ack j t
def Chosen.may(h:Chosen n g t k):May n g T t k:=by
 obtain⟨Q,h1,h2⟩:=h
 exact⟨Q,h1,fun j hj hq=>.inl (h2 j hj hq)⟩
structure Qbg (g:Gh) (u:Int) (L:Y D.m):Prop where
 term:∀k,k<L.length->1<=trm L k/\trm L k<=u
 asc:∀i j,i<=j->j<L.length->trm L i<=trm L j
 mat:∀k,k<L.length->L.take (k+1)=(g.glog (trm L k)).take (k+1)
def Qbg.nil:Qbg g u []:=⟨fun k h=>by simp at h,fun i j _ h=>by simp at h,fun k h=>by simp at h⟩
def Qbg.up(h:Qbg g u L)(hu:u<=v):Qbg g v L:=⟨fun k hk=>by have:=h.term k hk;omega,h.asc,h.mat⟩
def Qbg.take(h:Qbg g u L):Qbg g u (L.take k):=by
 have e:∀i,i<(L.take k).length->trm (L.take k) i=trm L i/\i<L.length/\i<k:=fun i hi=>by
  rw[Ae]at hi
  exact⟨by show D.m.Q (V _ _)=_;rw[UP U],U,U⟩
 refine⟨fun i hi=>?_,fun i j hij hj=>?_,fun i hi=>?_⟩
 .obtain⟨e1,e2,e3⟩:=e i hi
  rw[e1];exact h.term i e2
 .obtain⟨e1,e2,e3⟩:=e j hj
  obtain⟨f1,_⟩:=e i U
  rw[e1,f1];exact h.asc i j hij e2
 .obtain⟨e1,e2,e3⟩:=e i hi
  rw[e1,<-h.mat i e2,Ca,show min (i+1) k=i+1 by omega]
def QeM{A B:Y α}(h:A.take b=B.take b)(hab:a<=b):A.take a=B.take a:=by
 have:=BC (List.take a) h
 grind
def QhM[AK α]{A B:Y α}(h:A.take b=B.take b)(hab:a<b):V A a=V B a:=by
 rw[<-UP (l:=A) hab,h,UP hab]
def Vb{A B:Y α}(h:A.take b=B.take b)(hb:b<=B.length):b<=A.length:=by
 have:=BC List.length h
 grind
def Qbg.meet(h:Qbg g u L)(h2:Qbg g v K)(hk:k<L.length)(hk2:k<K.length)(e:trm L k=trm K k):L.take (k+1)=K.take (k+1):=by
 rw[h.mat k hk,h2.mat k hk2,e]
def Xi(L:Y D.m):Int:=if L=[]then 0 else trm L (L.length - 1)
def Qbg.last(h:Qbg g u L)(hl:0<L.length):L=(g.glog (Xi L)).take L.length/\1<=Xi L/\Xi L<=u/\Xi L=trm L (L.length - 1):=by
 have hne:L≠[]:=fun e=>by rw[e]at hl;simp at hl
 have e:Xi L=trm L (L.length - 1):=by unfold Xi;rw[iA hne]
 have h1:=h.mat (L.length - 1) U
 have h2:=h.term (L.length - 1) U
 grind
structure GhOK (n:Nat) (g:Gh) (T:Nat->Int):Prop where
 glog:∀t,Qbg g t (g.glog t)
 none:∀t,g.lead t=none->g.glog t=[]
 clog:∀c t,Qbg g (t - 1) (g.clog c t)
 pre:∀t c,g.lead t=some c->(g.clog c t).length<=(g.glog t).length/\(g.glog t).take (g.clog c t).length=g.clog c t
 vot:∀j t c,j<n->g.vot j t=some c->t<=T j
 votC:∀j t c,j<n->g.vot j t=some c->t<=T c
 lead:∀t c,g.lead t=some c->∃Q,quo n Q/\∀j,j<n->Q j=true->g.vot j t=some c
 ackT:∀j t,j<n->0<g.ack j t->t<=T j
 ackL:∀j t,j<n->g.ack j t<=(g.glog t).length
 later:∀t u k c,g.lead u=some c->t<u->Good g t k->May n g T t k->(g.glog u).take k=(g.glog t).take k
 vote:∀j u c t k,j<n->g.vot j u=some c->t<u->Good g t k->k<=g.ack j t->May n g T t k->(g.clog c u).take k=(g.glog t).take k
def GhOK.one(h:GhOK n g T)(ha:g.lead t=some a)(hq:quo n Q)(hb:∀j,j<n->Q j=true->g.vot j t=some b):a=b:=by
 obtain⟨P,h1,h2⟩:=h.lead t a ha
 obtain⟨j,h3,h4,h5⟩:=QiN h1 hq
 grind
def Holds(n:Nat)(g:Gh)(T:Nat->Int)(j:Nat)(L:Y D.m):Prop:=∀t k,Good g t k->k<=g.ack j t->May n g T t k->L.take k=(g.glog t).take k
def Qsk(h:GhOK n g T)(hj:Qbg g u L)(hc:Qbg g (u - 1) K)(hf:Xi L<Xi K\/(Xi K=Xi L/\L.length<=K.length))(ht:t<u)(hg:Good g t k)(hm:May n g T t k)(hL:L.take k=(g.glog t).take k):K.take k=(g.glog t).take k:=by
 obtain⟨k1,k2,k3⟩:=hg
 have hkl:=Vb hL k2
 obtain⟨l1,l2,l3,l4⟩:=hj.last U
 have ht2:trm L (k - 1)=t:=by show(V L (k - 1)).Q=t;rw[QhM hL U];exact k3
 have htl:t<=Xi L:=by rw[l4,<-ht2];exact hj.asc _ _ U U
 have hK:0<K.length:=by
  rcases CO K.length with e|e
  .have:Xi K=0:=by unfold Xi;rw[iB (List.eq_nil_of_length_eq_zero e)]
   omega
  .exact e
 obtain⟨c1,c2,c3,c4⟩:=hc.last hK
 rcases hf with hf|⟨he,hlen⟩
 ·have hne:g.lead (Xi K)≠none:=fun e=>by
   have:=h.none _ e
   grind
  obtain⟨b,hb⟩:=Option.ne_none_iff_exists'.1 hne
  have hl:=h.later t (Xi K) k b hb U ⟨k1,k2,k3⟩ hm
  have hlen:k<=K.length:=by
   rcases Ay K.length k with hlt|hge
   .exfalso
    have e1:V (g.glog (Xi K)) (K.length - 1)=V (g.glog t) (K.length - 1):=QhM hl U
    have e2:V K (K.length - 1)=V (g.glog (Xi K)) (K.length - 1):=by
     conv=>lhs;rw[c1]
     rw[UP (by rw[Ae];have:=BC List.length c1;rw[Ae]at this;omega)]
     grind
    have e3:=((h.glog t).term (K.length - 1) U).2
    grind
   .exact hge
  grind
 ·grind
end
section
variable {n:Nat} {g g':Gh} {T T':Nat->Int} {L K:Y D.m} {i j k c:Nat} {t u v:Int}
def Uf(h:A.take b=B.take b)(hab:a<b):trm A a=trm B a:=by show D.m.Q (V A a)=D.m.Q (V B a);rw[QhM h hab]
def Com(n:Nat)(g:Gh)(c:Nat)(L:Y D.m):Prop:=c=0\/∃t k,Good g t k/\Chosen n g t k/\c<=k/\c<=L.length/\L.take c=(g.glog t).take c
structure QrX (n:Nat) (g:Gh) (T:Nat->Int) (j:Nat) (r:D.N):Prop where
 id:r.S=j
 term:r.Q=T j
 pos:0<=r.Q
 pos1:r.FA=1\/r.FA=2->1<=r.Q
 log:Qbg g r.Q r.j
 holds:Holds n g T j r.j
 curL:g.ack j r.Q<=r.j.length
 cur:r.j.take (g.ack j r.Q)=(g.glog r.Q).take (g.ack j r.Q)
 com0:0<=r.d
 com:Com n g r.d.toNat r.j
 votN:r.FZ = -1->g.vot j r.Q=none
 vot:∀c:Nat,r.FZ=c->g.vot j r.Q=some c
 cand:r.FA=1->r.FZ=j/\g.clog j r.Q=r.j/\g.lead r.Q≠some j/\∀i,i<n->V r.FQ i=true->g.vot i r.Q=some j
 ldr:r.FA=2->g.lead r.Q=some j/\r.j=g.glog r.Q/\(∀i,i<n->V r.E8 i<=g.ack i r.Q)
structure QrW (n:Nat) (g:Gh) (T:Nat->Int) (m:D.c):Prop where
 from0:0<=m.w/\m.w<n
 to0:0<=m.To/\m.To<n
 term:m.Q<=T m.w.toNat
 vote:m.Z=1->m.z=(g.clog m.w.toNat m.Q).length/\m.FT=Xi (g.clog m.w.toNat m.Q)
 voted:m.Z=2->m.OK=true->g.vot m.w.toNat m.Q=some m.To.toNat
 app:m.Z=3->g.lead m.Q=some m.w.toNat/\0<=m.z/\m.z.toNat+m.q.length<=(g.glog m.Q).length/\m.q=((g.glog m.Q).drop m.z.toNat).take m.q.length/\(0<m.z->m.FT=trm (g.glog m.Q) (m.z.toNat - 1))/\0<=m.d/\Com n g m.d.toNat (g.glog m.Q)
 acked:m.Z=4->m.OK=true->m.z<=g.ack m.w.toNat m.Q
structure Gle (n:Nat) (g:Gh) (T:Nat->Int) (g':Gh) (T':Nat->Int) (i:Nat):Prop where
 glog:∀t,(g'.glog t).take (g.glog t).length=g.glog t
 clog:∀c u,u<=T c->g'.clog c u=g.clog c u
 lead:∀t c,g.lead t=some c->g'.lead t=some c
 own:∀t c,c≠i->g'.lead t=some c->g.lead t=some c/\g'.glog t=g.glog t
 vot:∀j t c,g.vot j t=some c->g'.vot j t=some c
 votO:∀j t,j≠i->g'.vot j t=g.vot j t
 ack:∀j t,g.ack j t<=g'.ack j t
 ackO:∀j t,j≠i->g'.ack j t=g.ack j t
 ackN:∀t,g.ack i t<g'.ack i t->T i<=t
 tm:∀j,T j<=T' j
 tmO:∀j,j≠i->T' j=T j
section
variable (h:Gle n g T g' T' i)
include h
theorem Gle.len(t):(g.glog t).length<=(g'.glog t).length:=Vb (by rw[h.glog,Ac]) (AN _)
theorem Gle.pre(hk:k<=(g.glog t).length):(g'.glog t).take k=(g.glog t).take k:=by
 have:=BC (List.take k) (h.glog t)
 grind
theorem Gle.good(hg:Good g t k):Good g' t k:=by
 obtain⟨a,b,c⟩:=hg
 have hl:=h.len t
 exact⟨a,U,by rw[Uf (h.pre (AN _)) U];exact c⟩
theorem Gle.back(hg:Good g' t k)(hk:k<=(g.glog t).length):Good g t k:=by
 obtain⟨a,b,c⟩:=hg
 exact⟨a,hk,by rw[<-Uf (h.pre (AN _)) U];exact c⟩
theorem Gle.chosen(hc:Chosen n g t k):Chosen n g' t k:=by
 obtain⟨Q,a,b⟩:=hc
 exact⟨Q,a,fun j hj hq=>AY (b j hj hq) (h.ack j t)⟩
theorem Gle.may(hm:May n g' T' t k):May n g T t k:=by
 obtain⟨Q,a,b⟩:=hm
 refine⟨Q,a,fun j hj hq=>?_⟩
 by_cases e:j=i
 .subst e
  rcases b j hj hq with b|b
  .rcases Ay (g.ack j t) (g'.ack j t)with c|c
   .exact .inr (h.ackN t c)
   .exact .inl U
  .exact .inr (by have:=h.tm j;omega)
 .rcases b j hj hq with b|b
  .exact .inl (by rw[<-h.ackO j t e];exact b)
  .exact .inr (by have:=h.tmO j e;omega)
theorem Gle.logOK(hl:Qbg g u L):Qbg g' u L:=by
 refine⟨hl.term,hl.asc,fun k hk=>?_⟩
 have:=hl.mat k hk
 have hk2:k+1<=(g.glog (trm L k)).length:=by
  have:=BC List.length this
  grind
 rw[this,h.pre hk2]
theorem Gle.com(hc:Com n g c L):Com n g' c L:=by
 rcases hc with hc|⟨t,k,a,b,d,e,f⟩
 .exact .inl hc
 .exact .inr ⟨t,k,h.good a,h.chosen b,d,e,by rw[f,h.pre];have:=a.2.1;omega⟩
theorem Gle.comPre(hc:Com n g c (g.glog t)):Com n g' c (g'.glog t):=by
 rcases hc with hc|⟨u,k,a,b,d,e,f⟩
 .exact .inl hc
 .exact .inr ⟨u,k,h.good a,h.chosen b,d,AY e (h.len t),by rw[h.pre e,f,h.pre];have:=a.2.1;omega⟩
theorem Gle.holds(hG:GhOK n g T)(hj:j<n)(he:j≠i)(hh:Holds n g T j L):Holds n g' T' j L:=by
 intro t k a b c
 rw[h.ackO j t he]at b
 have hk:k<=(g.glog t).length:=AY b (hG.ackL j t hj)
 rw[h.pre hk]
 exact hh t k (h.back a hk) b (h.may c)
theorem Gle.rep(hG:GhOK n g T)(hj:j<n)(he:j≠i)(hr:QrX n g T j r):QrX n g' T' j r:=by
 have hT:=hr.term
 refine⟨hr.id,by rw[h.tmO j he];exact hr.term,hr.pos,hr.pos1,h.logOK hr.log,h.holds hG hj he hr.holds,by rw[h.ackO j _ he];exact hr.curL,?_,hr.com0,h.com hr.com,fun e=>by rw[h.votO j _ he];exact hr.votN e,fun c e=>h.vot _ _ _ (hr.vot c e),fun e=>?_,fun e=>?_⟩
 .rw[h.ackO j _ he,hr.cur,h.pre (hG.ackL j _ hj)]
 .obtain⟨a,b,c,d⟩:=hr.cand e
  exact⟨a,by rw[h.clog j _ U];exact b,fun x=>c (h.own _ _ he x).1,fun i hi hv=>h.vot _ _ _ (d i hi hv)⟩
 .obtain⟨a,b,c⟩:=hr.ldr e
  have a2:=h.lead _ _ a
  exact⟨a2,by rw[(h.own _ _ he a2).2];exact b,fun i hi=>by have:=c i hi;have:=h.ack i r.Q;omega⟩
theorem Gle.msg(hm:QrW n g T m):QrW n g' T' m:=by
 have hT:=hm.term
 refine⟨hm.from0,hm.to0,by have:=h.tm m.w.toNat;omega,fun e=>?_,fun e e2=>h.vot _ _ _ (hm.voted e e2),fun e=>?_,fun e e2=>?_⟩
 .rw[h.clog _ _ hT];exact hm.vote e
 .obtain⟨a,b,c,d,f,f2,f3⟩:=hm.app e
  have hl:=h.len m.Q
  refine⟨h.lead _ _ a,b,U,?_,fun x=>?_,f2,h.comPre f3⟩
  .conv=>lhs;rw[d]
   have:=BC (List.drop m.z.toNat) (h.pre (k:=m.z.toNat+m.q.length) c)
   rw[C8,C8,show m.z.toNat+m.q.length - m.z.toNat=m.q.length by omega]at this
   exact this.symm
  .rw[f x,Uf (h.pre c) U]
 .have:=hm.acked e e2;have:=h.ack m.w.toNat m.Q;omega
end
end
open Go AM
section
def GhOK.leadT(h:GhOK n g T)(hl:g.lead t=some c):t<=T c:=by
 obtain⟨Q,a,b⟩:=h.lead t c hl
 obtain⟨j,h1,h2,_⟩:=QiN a a
 exact h.votC j t c h1 (b j h1 h2)
def Gle.term(h:∀j,T j<=T' j)(h2:∀j,j≠i->T' j=T j):Gle n g T g T' i:=
 ⟨fun t=>Ac,fun _ _ _=>rfl,fun _ _ e=>e,fun _ _ _ e=>⟨e,rfl⟩,fun _ _ _ e=>e,fun _ _ _=>rfl,fun _ _=>AN _,fun _ _ _=>rfl,fun t e=>U,h,h2⟩
def GhOK.term(hG:GhOK n g T)(h:∀j,T j<=T' j)(h2:∀j,j≠i->T' j=T j):GhOK n g T':=by
 have hg:Gle n g T g T' i:=.term h h2
 refine⟨hG.glog,hG.none,hG.clog,hG.pre,fun j t c a b=>?_,fun j t c a b=>?_,hG.lead,fun j t a b=>?_,hG.ackL,fun t u k c a b d e=>hG.later t u k c a b d (hg.may e),fun j u c t k a b d e f m=>hG.vote j u c t k a b d e f (hg.may m)⟩
 .have:=hG.vot j t c a b;have:=h j;omega
 .have:=hG.votC j t c a b;have:=h c;omega
 .have:=hG.ackT j t a b;have:=h j;omega
def Gh.setV(g:Gh)(j:Nat)(u:Int)(c:Nat):Gh:={ g with vot:=fun a b=>if a=j/\b=u then some c else g.vot a b }
def Gle.setV(hv:g.vot j u=Option.none):Gle n g T (g.setV j u c) T j:=by
 refine⟨fun t=>Ac,fun _ _ _=>rfl,fun _ _ e=>e,fun _ _ _ e=>⟨e,rfl⟩,fun a b d e=>?_,fun a b e=>?_,fun _ _=>AN _,fun _ _ _=>rfl,fun t e=>absurd e (Ck _),fun _=>Aj _,fun _ _=>rfl⟩
 .simp only[Gh.setV]
  grind
 .simp only[Gh.setV,e,false_and,if_false]
def GhOK.setV(hG:GhOK n g T)(hv:g.vot j u=Option.none)(hT:u<=T j)(hc:u<=T c)(hk:∀t k,t<u->Good g t k->k<=g.ack j t->May n g T t k->(g.clog c u).take k=(g.glog t).take k):GhOK n (g.setV j u c) T:=by
 have hg:Gle n g T (g.setV j u c) T j:=.setV hv
 have hs:∀a b d,(g.setV j u c).vot a b=some d->(a=j/\b=u/\d=c)\/g.vot a b=some d:=fun a b d e=>by
  simp only[Gh.setV]at e
  grind
 refine⟨fun t=>hg.logOK (hG.glog t),hG.none,fun c t=>hg.logOK (hG.clog c t),hG.pre,fun a b d h e=>?_,fun a b d h e=>?_,fun t d e=>?_,hG.ackT,hG.ackL,fun t u k c a b d e=>hG.later t u k c a b (hg.back d d.2.1) (hg.may e),fun a b d t k h e f f2 f3 m=>?_⟩
 .rcases hs a b d e with⟨x,y,z⟩|x
  .rw[x,y];exact hT
  .exact hG.vot a b d h x
 .rcases hs a b d e with⟨x,y,z⟩|x
  .rw[z,y];exact hc
  .exact hG.votC a b d h x
 .obtain⟨Q,h1,h2⟩:=hG.lead t d e
  exact⟨Q,h1,fun a ha hq=>hg.vot _ _ _ (h2 a ha hq)⟩
 .have f2':Good g t k:=hg.back f2 f2.2.1
  rcases hs a b d e with⟨x,y,z⟩|x
  .subst x;subst y;subst z
   exact hk t k f f2' f3 (hg.may m)
  .exact hG.vote a b d t k h x f f2' f3 (hg.may m)
def Gh.setC(g:Gh)(c:Nat)(u:Int)(L:Y D.m):Gh:={ g with clog:=fun a b=>if a=c/\b=u then L else g.clog a b }
def Gle.setC(hu:T c<u):Gle n g T (g.setC c u L) T c:=by
 refine⟨fun t=>Ac,fun a b e=>?_,fun _ _ e=>e,fun _ _ _ e=>⟨e,rfl⟩,fun _ _ _ e=>e,fun _ _ _=>rfl,fun _ _=>AN _,fun _ _ _=>rfl,fun t e=>absurd e (Ck _),fun _=>Aj _,fun _ _=>rfl⟩
 simp only[Gh.setC]
 grind
def GhOK.setC(hG:GhOK n g T)(hu:T c<u)(hL:Qbg g (u - 1) L):GhOK n (g.setC c u L) T:=by
 have hg:Gle n g T (g.setC c u L) T c:=.setC hu
 refine⟨fun t=>hg.logOK (hG.glog t),hG.none,fun a b=>?_,fun t a e=>?_,hG.vot,hG.votC,hG.lead,hG.ackT,hG.ackL,fun t u k c a b d e=>hG.later t u k c a b (hg.back d d.2.1) (hg.may e),fun a b d t k h e f f2 f3 m=>?_⟩
 .apply hg.logOK
  simp only[Gh.setC]
  split
  .simp_all
  .exact hG.clog a b
 .rw[hg.clog _ _ (hG.leadT e)];exact hG.pre t a e
 .rw[hg.clog _ _ (hG.votC _ _ _ h e)];exact hG.vote a b d t k h e f (hg.back f2 f2.2.1) f3 (hg.may m)
def Gh.setA(g:Gh)(j:Nat)(t:Int)(k:Nat):Gh:={ g with ack:=fun a b=>if a=j/\b=t then max (g.ack j t) k else g.ack a b }
def Gle.setA(hT:T j<=t):Gle n g T (g.setA j t k) T j:=by
 refine⟨fun t=>Ac,fun _ _ _=>rfl,fun _ _ e=>e,fun _ _ _ e=>⟨e,rfl⟩,fun _ _ _ e=>e,fun _ _ _=>rfl,fun a b=>?_,fun a b e=>?_,fun u e=>?_,fun _=>Aj _,fun _ _=>rfl⟩
 .simp only[Gh.setA];split
  .grind
  .omega
 .simp only[Gh.setA,e,false_and,if_false]
 .simp only[Gh.setA]at e;split at e
  .omega
  .omega
def GhOK.setA(hG:GhOK n g T)(hT:T j=t)(hk:k<=(g.glog t).length):GhOK n (g.setA j t k) T:=by
 have hg:Gle n g T (g.setA j t k) T j:=.setA U
 refine⟨fun t=>hg.logOK (hG.glog t),hG.none,fun c t=>hg.logOK (hG.clog c t),hG.pre,hG.vot,hG.votC,hG.lead,fun a b h e=>?_,fun a b h=>?_,fun t u k c a b d e=>hG.later t u k c a b (hg.back d d.2.1) (hg.may e),fun a b d u l h e f f2 f3 m=>?_⟩
 .simp only[Gh.setA]at e;split at e
  .simp_all
  .exact hG.ackT a b h e
 .simp only[Gh.setA];split
  .next h2=>rw[h2.2];have:=hG.ackL j t (by rw[<-h2.1];exact h);omega
  .exact hG.ackL a b h
 .have hv:=hG.vot a b d h e
  refine hG.vote a b d u l h e f (hg.back f2 f2.2.1) ?_ (hg.may m)
  simp only[Gh.setA]at f3;split at f3
  .grind
  .exact f3
def Gh.setL(g:Gh)(c:Nat)(u:Int):Gh:={ g with lead:=fun t=>if t=u then some c else g.lead t,glog:=fun t=>if t=u then g.clog c u else g.glog t,ack:=fun a b=>if a=c/\b=u then(g.clog c u).length else g.ack a b }
def GhOK.ack0(hG:GhOK n g T)(hl:g.lead u=Option.none)(hj:j<n):g.ack j u=0:=by
 have:=hG.ackL j u hj
 rw[hG.none u hl]at this
 simpa using this
def Gle.setL(hG:GhOK n g T)(hl:g.lead u=Option.none)(hc:c<n)(hT:T c=u):Gle n g T (g.setL c u) T c:=by
 have hz:=hG.none u hl
 refine⟨fun t=>?_,fun _ _ _=>rfl,fun t d e=>?_,fun t d e e2=>?_,fun _ _ _ e=>e,fun _ _ _=>rfl,fun a b=>?_,fun a b e=>?_,fun t e=>?_,fun _=>Aj _,fun _ _=>rfl⟩
 .simp only[Gh.setL];split
  .simp_all
  .exact Ac
 .simp only[Gh.setL];rw[iA]
  .exact e
  .grind
 .simp only[Gh.setL]at e2 |-;split at e2
  .simp_all
  .simp_all
 .simp only[Gh.setL];split
  .next h=>rw[h.1,h.2,hG.ack0 hl hc];omega
  .omega
 .simp only[Gh.setL,e,false_and,if_false]
 .simp only[Gh.setL]at e;split at e
  .next h=>omega
  .omega
def GhOK.setL(hG:GhOK n g T)(hl:g.lead u=Option.none)(hc:c<n)(hT:T c=u)(hq:quo n Q)(hv:∀j,j<n->Q j=true->g.vot j u=some c):GhOK n (g.setL c u) T:=by
 have hg:Gle n g T (g.setL c u) T c:=.setL hG hl hc hT
 have hz:=hG.none u hl
 have hn:∀t,t≠u->(g.setL c u).glog t=g.glog t:=fun t h=>by simp only[Gh.setL];rw[iA h]
 have hu:(g.setL c u).glog u=g.clog c u:=by simp[Gh.setL]
 have hb:∀k,¬Good (g.setL c u) u k:=fun k ⟨a,b,d⟩=>by
  rw[hu]at b d
  have:=(hG.clog c u).term (k - 1) U
  omega
 have hd:∀{t k},Good (g.setL c u) t k->t≠u/\Good g t k:=fun{t k} h=>by
  have e:t≠u:=fun e=>hb k (e ▸ h)
  refine⟨e,?_⟩
  unfold Good at h |-
  rwa [hn t e]at h
 refine⟨fun t=>?_,fun t e=>?_,fun a b=>hg.logOK (hG.clog a b),fun t d e=>?_,hG.vot,hG.votC,fun t d e=>?_,fun a b h e=>?_,fun a b h=>?_,fun t v k d e f f2 m=>?_,fun a b d t k h e f f2 f3 m=>?_⟩
 .by_cases e:t=u
  .rw[e,hu];exact hg.logOK ((hG.clog c u).up U)
  .rw[hn t e];exact hg.logOK (hG.glog t)
 .have e2:t≠u:=fun h=>by simp[Gh.setL,h]at e
  rw[hn t e2]
  exact hG.none t (by simpa [Gh.setL,e2]using e)
 .by_cases e2:t=u
  .subst e2
   have:d=c:=by simpa [Gh.setL,eq_comm]using e
   subst this
   rw[hu];exact⟨AN _,Ac⟩
  .rw[hn t e2];exact hG.pre t d (by simpa [Gh.setL,e2]using e)
 .by_cases e2:t=u
  .subst e2
   have:d=c:=by simpa [Gh.setL,eq_comm]using e
   subst this
   exact⟨Q,hq,hv⟩
  .exact hG.lead t d (by simpa [Gh.setL,e2]using e)
 .simp only[Gh.setL]at e;split at e
  .simp_all
  .exact hG.ackT a b h e
 .by_cases e2:b=u
  .subst e2
   rw[hu];simp only[Gh.setL];split
   .exact AN _
   .rw[hG.ack0 hl h];omega
  .rw[hn b e2];simp only[Gh.setL,e2,and_false,if_false];exact hG.ackL a b h
 .obtain⟨g1,g2⟩:=hd f2
  have m2:=hg.may m
  rw[hn t g1]
  by_cases e2:v=u
  .subst e2
   have:d=c:=by simpa [Gh.setL,eq_comm]using e
   subst this
   rw[hu]
   obtain⟨P,p1,p2⟩:=m2
   obtain⟨x,x1,x2,x3⟩:=QiN hq p1
   have x4:=hv x x1 x2
   have x5:=hG.vot _ _ _ x1 x4
   rcases p2 x x1 x3 with y|y
   .exact hG.vote x v d t k x1 x4 f g2 y (hg.may m)
   .omega
  .rw[hn v e2]
   exact hG.later t v k d (by simpa [Gh.setL,e2]using e) f g2 m2
 .obtain⟨g1,g2⟩:=hd f2
  rw[hn t g1]
  refine hG.vote a b d t k h e f g2 ?_ (hg.may m)
  simpa only[Gh.setL,g1,and_false,if_false]using f3
def Gh.setP(g:Gh)(i:Nat)(t:Int)(e:D.m):Gh:={ g with glog:=fun b=>if b=t then g.glog t++[e]else g.glog b,ack:=fun a b=>if a=i/\b=t then(g.glog t).length+1 else g.ack a b }
def Gle.setP(hG:GhOK n g T)(hl:g.lead t=some i)(hi:i<n)(hT:T i=t):Gle n g T (g.setP i t e) T i:=by
 refine⟨fun b=>?_,fun _ _ _=>rfl,fun _ _ e=>e,fun b d h h2=>⟨h2,?_⟩,fun _ _ _ e=>e,fun _ _ _=>rfl,fun a b=>?_,fun a b e=>?_,fun b h=>?_,fun _=>Aj _,fun _ _=>rfl⟩
 .simp only[Gh.setP];split
  .simp_all
  .exact Ac
 .simp only[Gh.setP];rw[iA]
  intro hb;subst hb
  have h2:g.lead b=some d:=h2
  simp_all
 .simp only[Gh.setP];split
  .next h=>have:=hG.ackL i t hi;rw[h.1,h.2];omega
  .omega
 .simp only[Gh.setP,e,false_and,if_false]
 .simp only[Gh.setP]at h;split at h
  .next h=>omega
  .omega
def GhOK.setP(hG:GhOK n g T)(hl:g.lead t=some i)(hi:i<n)(hT:T i=t)(he:e.Q=t)(h1:1<=t):GhOK n (g.setP i t e) T:=by
 have hg:Gle n g T (g.setP i t e) T i:=.setP hG hl hi hT
 have hn:∀b,b≠t->(g.setP i t e).glog b=g.glog b:=fun t h=>by simp only[Gh.setP];rw[iA h]
 have hu:(g.setP i t e).glog t=g.glog t++[e]:=by simp[Gh.setP]
 have hA:=hG.glog t
 have tl:∀k,k<(g.glog t).length->trm (g.glog t++[e]) k=trm (g.glog t) k:=fun k hk=>Uf (b:=(g.glog t).length) (by rw[EZ,Ac]) hk
 have tr:trm (g.glog t++[e]) (g.glog t).length=t:=by
  show D.m.Q (V _ _)=t
  rw[<-he];congr 1
  simp[V]
 refine⟨fun b=>?_,fun b h=>?_,fun a b=>hg.logOK (hG.clog a b),fun b d h=>?_,hG.vot,hG.votC,hG.lead,fun a b h h2=>?_,fun a b h=>?_,fun b v k d h f f2 m=>?_,fun a b d v k h h2 f f2 f3 m=>?_⟩
 .by_cases hb:b=t
  .subst hb
   rw[hu]
   refine⟨fun k hk=>?_,fun x y hxy hy=>?_,fun k hk=>?_⟩
   .rw[Ab]at hk
    rcases Ay k (g.glog b).length with c|c
    .rw[tl k c];exact hA.term k c
    .grind
   .rw[Ab]at hy
    rcases Ay y (g.glog b).length with c|c
    .rw[tl y c,tl x U];exact hA.asc x y hxy c
    .rw[show y=(g.glog b).length by simp at hy;omega,tr]
     rcases Ay x (g.glog b).length with c2|c2
     .rw[tl x c2];exact(hA.term x c2).2
     .grind
   .rw[Ab]at hk
    rcases Ay k (g.glog b).length with c|c
    .rw[tl k c]
     have:=(hg.logOK hA).mat k c
     grind
    .grind
  .rw[hn b hb];exact hg.logOK (hG.glog b)
 .have hb:b≠t:=fun hb=>by
   subst hb
   have h:g.lead b=Option.none:=h
   simp_all
  rw[hn b hb];exact hG.none b h
 .obtain⟨p1,p2⟩:=hG.pre b d h
  have:=hg.len b
  exact⟨AY p1 this,by show List.take (g.clog d b).length _=g.clog d b;rw[hg.pre p1];exact p2⟩
 .simp only[Gh.setP]at h2;split at h2
  .simp_all
  .exact hG.ackT a b h h2
 .by_cases hb:b=t
  .subst hb
   rw[hu,Ab];simp only[Gh.setP];split
   .exact AN _
   .have:=hG.ackL a b h;omega
  .rw[hn b hb];simp only[Gh.setP,hb,and_false,if_false];exact hG.ackL a b h
 .have m2:=hg.may m
  rcases Ay (g.glog b).length k with c|c
  .exfalso
   have hb:b=t:=Bw fun x=>by have:=f2.2.1;rw[hn b x]at this;omega
   subst hb
   obtain⟨P,p1,p2⟩:=hG.lead v d h
   obtain⟨R,r1,r2⟩:=m
   obtain⟨x,x1,x2,x3⟩:=QiN p1 r1
   have x4:=hG.vot _ _ _ x1 (p2 x x1 x2)
   rcases r2 x x1 x3 with y|y
   .simp only[Gh.setP]at y;split at y
    .grind
    .have:=hG.ackL x b x1;omega
   .omega
  .rw[hg.pre c]
   have:=hG.later b v k d h f (hg.back f2 c) m2
   rw[<-this,hg.pre (Vb this.symm.symm c |> fun z=>z)]
 .have f3':k<=g.ack a v:=by
   simp only[Gh.setP]at f3;split at f3
   .next z=>have:=hG.vot a b d h h2;rw[z.1]at this;omega
   .exact f3
  have c:k<=(g.glog v).length:=AY f3' (hG.ackL a v h)
  rw[hg.pre c]
  exact hG.vote a b d v k h h2 f (hg.back f2 c) f3' (hg.may m)
end
def upd(R:Nat->D.N)(i:Nat)(r:D.N):Nat->D.N:=fun j=>if j=i then r else R j
def tm(R:Nat->D.N):Nat->Int:=fun j=>(R j).Q
structure Inv (n:Nat) (P:D.Op->Prop) (g:Gh) (R:Nat->D.N) (W:Y D.c):Prop where
 gh:GhOK n g (tm R)
 rep:∀j,j<n->QrX n g (tm R) j (R j)
 msg:∀m∈W,QrW n g (tm R) m
 ops:∀t,∀e∈g.glog t,P e.Op
 nod:∀t,((g.glog t).map fun e=>e.Op.S).Nodup
section
def Ug:upd R i r i=r:=by simp[upd]
def Qvj(h:j≠i):upd R i r j=R j:=by simp[upd,h]
def tm_i:tm (upd R i r) i=r.Q:=by simp[upd,tm]
def tm_o(h:j≠i):tm (upd R i r) j=tm R j:=by simp[upd,tm,h]
def Qib(h:r.Q=(R i).Q):tm (upd R i r)=tm R:=by
 funext j
 by_cases e:j=i
 .subst e;rw[tm_i,h];rfl
 .exact tm_o e
def Inv.next(h:Inv n P g R W)(hg:Gle n g (tm R) g' (tm (upd R i r)) i)(hG:GhOK n g' (tm (upd R i r)))(hr:QrX n g' (tm (upd R i r)) i r)(ho:(∀t,∀e∈g'.glog t,P e.Op)/\∀t,((g'.glog t).map fun e=>e.Op.S).Nodup:=by exact⟨h.ops,h.nod⟩):Inv n P g' (upd R i r) W:=by
 refine⟨hG,fun j hj=>?_,fun m hm=>hg.msg (h.msg m hm),ho.1,ho.2⟩
 by_cases e:j=i
 .subst e;rw[Ug];exact hr
 .rw[Qvj e];exact hg.rep h.gh hj e (h.rep j hj)
def Inv.sub(h:Inv n P g R W)(hs:∀m∈zD,m∈W):Inv n P g R zD:=⟨h.gh,h.rep,fun m hm=>h.msg m (hs m hm),h.ops,h.nod⟩
def Inv.add(h:Inv n P g R W)(hm:∀m∈zD,QrW n g (tm R) m):Inv n P g R (W++zD):=⟨h.gh,h.rep,fun m hi=>(Af.1 hi).elim (h.msg m) (hm m),h.ops,h.nod⟩
def Gle.trans(h:Gle n g T g1 T1 i)(h2:Gle n g1 T1 g2 T2 i):Gle n g T g2 T2 i:=by
 refine⟨fun t=>?_,fun c u hu=>?_,fun t c e=>h2.lead _ _ (h.lead _ _ e),fun t c e f=>?_,fun j t c e=>h2.vot _ _ _ (h.vot _ _ _ e),fun j t e=>(h2.votO j t e).trans (h.votO j t e),fun j t=>AY (h.ack j t) (h2.ack j t),fun j t e=>(h2.ackO j t e).trans (h.ackO j t e),fun t e=>?_,fun j=>Cq (h.tm j) (h2.tm j),fun j e=>(h2.tmO j e).trans (h.tmO j e)⟩
 .rw[h2.pre (h.len t),h.glog]
 .rw[h2.clog c u (by have:=h.tm c;omega),h.clog c u hu]
 .obtain⟨a,b⟩:=h2.own t c e f
  obtain⟨a',b'⟩:=h.own t c e a
  exact⟨a',b.trans b'⟩
 .rcases Ay (g.ack i t) (g1.ack i t)with x|x
  .exact h.ackN t x
  .have:=h2.ackN t U;have:=h.tm i;omega
def QrX.quiet(h:QrX n g T j r)(h1:r'.S=r.S)(h2:r'.Q=r.Q)(h3:r'.FZ=r.FZ)(h4:r'.j=r.j)(h5:r'.d=r.d)(h0:r'.FA=0):QrX n g T j r':=by
 refine⟨by rw[h1];exact h.id,by rw[h2];exact h.term,by rw[h2];exact h.pos,fun e=>by rw[h0]at e;exact absurd e (by decide),by rw[h2,h4];exact h.log,by rw[h4];exact h.holds,by rw[h2,h4];exact h.curL,by rw[h2,h4];exact h.cur,by rw[h5];exact h.com0,by rw[h4,h5];exact h.com,by rw[h3,h2];exact h.votN,by rw[h3,h2];exact h.vot,fun e=>by rw[h0]at e;exact absurd e (by decide),fun e=>by rw[h0]at e;exact absurd e (by decide)⟩
def Inv.quiet(h:Inv n P g R W)(hi:i<n)(h1:r.S=(R i).S)(h2:r.Q=(R i).Q)(h3:r.FZ=(R i).FZ)(h4:r.j=(R i).j)(h5:r.d=(R i).d)(h0:r.FA=0):Inv n P g (upd R i r) W:=by
 have hT:=Qib h2
 refine h.next ?_ ?_ ?_
 .rw[hT];exact .term (fun _=>Aj _) fun _ _=>rfl
 .rw[hT];exact h.gh
 .rw[hT];exact(h.rep i hi).quiet h1 h2 h3 h4 h5 h0
def Inv.follow(h:Inv n P g R W)(hi:i<n)(hu:(R i).Q<u)(h1:r.S=(R i).S)(h2:r.Q=u)(h3:r.FZ = -1)(h4:r.j=(R i).j)(h5:r.d=(R i).d)(h0:r.FA=0):Inv n P g (upd R i r) W:=by
 have hr:=h.rep i hi
 have hT:∀j,tm R j<=tm (upd R i r) j:=fun j=>by
  by_cases e:j=i
  .subst e;rw[tm_i,h2];show(R j).Q<=u;omega
  .rw[tm_o e];exact Aj _
 have hg:Gle n g (tm R) g (tm (upd R i r)) i:=.term hT fun j e=>tm_o e
 have ht:=hr.term
 have ha:g.ack i u=0:=E2 fun x=>by have:=h.gh.ackT i u hi x;omega
 have hv:g.vot i u=none:=by
  rcases e:g.vot i u with _|c
  .rfl
  .have:=h.gh.vot i u c hi e;omega
 refine h.next hg (h.gh.term hT fun j e=>tm_o e) ⟨by rw[h1];exact hr.id,by rw[tm_i],by have:=hr.pos;omega,fun e=>by rw[h0]at e;exact absurd e (by decide),by rw[h4,h2];exact hr.log.up U,?_,by rw[h2,ha];exact BL _,by rw[h2,ha];rfl,by rw[h5];exact hr.com0,by rw[h4,h5];exact hr.com,fun _=>by rw[h2];exact hv,fun c e=>by rw[h3]at e;omega,fun e=>by rw[h0]at e;exact absurd e (by decide),fun e=>by rw[h0]at e;exact absurd e (by decide)⟩
 rw[h4]
 exact fun t k a b c=>hr.holds t k a b (hg.may c)
def Inv.grant(h:Inv n P g R W)(hi:i<n)(hu:(R i).Q=u)(hv:(R i).FZ = -1)(hr0:(R i).FA=0)(hc:u<=tm R c)(hf:Xi (R i).j<Xi (g.clog c u)\/(Xi (g.clog c u)=Xi (R i).j/\(R i).j.length<=(g.clog c u).length))(h1:r={ R i with FZ:=c }):Inv n P (g.setV i u c) (upd R i r) W/\(g.setV i u c).vot i u=some c:=by
 have hr:=h.rep i hi
 have ht:=hr.term
 have hvn:g.vot i u=Option.none:=by rw[<-hu];exact hr.votN hv
 have hT:tm (upd R i r)=tm R:=Qib (by rw[h1])
 have hg:Gle n g (tm R) (g.setV i u c) (tm R) i:=.setV hvn
 have hs:(g.setV i u c).vot i u=some c:=by simp[Gh.setV]
 refine⟨h.next (by rw[hT];exact hg) ?_ ?_,hs⟩
 .rw[hT]
  refine h.gh.setV hvn U hc fun t k a b d m=>?_
  exact Qsk h.gh (by rw[<-hu];exact hr.log) (h.gh.clog c u) hf a b m (hr.holds t k b d m)
 .rw[hT,h1]
  refine⟨hr.id,hr.term,hr.pos,hr.pos1,hg.logOK hr.log,fun t k a b d=>hr.holds t k a b (hg.may d),hr.curL,hr.cur,hr.com0,hg.com hr.com,fun e=>?_,fun d e=>?_,fun e=>?_,fun e=>?_⟩
  .simp_all
  .grind
  .simp_all
  .simp_all
def Inv.stand{n:Nat}{P:D.Op->Prop}{g:Gh}{R:Nat->D.N}{W:Y D.c}{r:D.N}{i:Nat}{u:Int}(h:Inv n P g R W)(hi:i<n)(hu:(R i).Q+1=u)(hl:∀j,j<n->V r.FQ j=true->j=i)(h1:r.S=(R i).S)(h2:r.Q=u)(h3:r.FZ=i)(h4:r.j=(R i).j)(h5:r.d=(R i).d)(h0:r.FA=1):Inv n P ((g.setC i u r.j).setV i u i) (upd R i r) W/\((g.setC i u r.j).setV i u i).clog i u=r.j:=by
 have hr:=h.rep i hi
 have ht:=hr.term
 have hT:∀j,tm R j<=tm (upd R i r) j:=fun j=>by
  by_cases e:j=i
  .subst e;rw[tm_i,h2];show(R j).Q<=u;omega
  .rw[tm_o e];exact Aj _
 have hti:tm R i<u:=U
 have g1:Gle n g (tm R) (g.setC i u r.j) (tm R) i:=.setC hti
 have g2:Gle n (g.setC i u r.j) (tm R) (g.setC i u r.j) (tm (upd R i r)) i:=.term hT fun j e=>tm_o e
 have hG1:GhOK n (g.setC i u r.j) (tm R):=h.gh.setC hti (by rw[h4,show u - 1=(R i).Q by omega];exact hr.log)
 have hG2:GhOK n (g.setC i u r.j) (tm (upd R i r)):=hG1.term hT fun j e=>tm_o e
 have hv:(g.setC i u r.j).vot i u=Option.none:=by
  rcases e:(g.setC i u r.j).vot i u with _|c
  .rfl
  .have:=h.gh.vot i u c hi e;omega
 have g3:Gle n (g.setC i u r.j) (tm (upd R i r)) ((g.setC i u r.j).setV i u i) (tm (upd R i r)) i:=.setV hv
 have hcl:(g.setC i u r.j).clog i u=r.j:=by simp[Gh.setC]
 have hti2:u<=tm (upd R i r) i:=by rw[tm_i,h2];exact Aj _
 have hg:=(g1.trans g2).trans g3
 have ha:g.ack i u=0:=E2 fun x=>by have:=h.gh.ackT i u hi x;omega
 have hh:∀t k,Good g t k->k<=g.ack i t->May n g (tm R) t k->r.j.take k=(g.glog t).take k:=by rw[h4];exact hr.holds
 have hs:((g.setC i u r.j).setV i u i).vot i u=some i:=by simp[Gh.setV]
 refine⟨h.next hg ?_ ?_,hcl⟩
 .refine hG2.setV hv hti2 hti2 fun t k a b d m=>?_
  rw[hcl]
  exact hh t k b d ((g1.trans g2).may m)
 .refine⟨by rw[h1];exact hr.id,by rw[tm_i],by have:=hr.pos;omega,fun _=>by have:=hr.pos;omega,hg.logOK (by rw[h4,h2];exact hr.log.up U),fun t k a b d=>hh t k a b (hg.may d),by rw[h2];show g.ack i u<=_;rw[ha];exact BL _,?_,by rw[h5];exact hr.com0,hg.com (by rw[h4,h5];exact hr.com),fun e=>?_,fun d e=>?_,fun e=>⟨h3,by rw[h2];exact hcl,fun x=>?_,fun j hj hv=>?_⟩,fun e=>?_⟩
  .rw[h2];show r.j.take (g.ack i u)=(g.glog u).take (g.ack i u);rw[ha];rfl
  .rw[h3]at e;omega
  .grind
  .rw[h2]at x
   have:=h.gh.leadT (c:=i) (t:=u) x
   omega
  .grind
  .omega
def Inv.votes(h:Inv n P g R W)(hi:i<n)(h0:(R i).FA=1)(hv:∀j,j<n->V r.FQ j=true->V (R i).FQ j=true\/g.vot j (R i).Q=some i)(h1:r={ R i with FQ:=r.FQ }):Inv n P g (upd R i r) W:=by
 have hr:=h.rep i hi
 have hT:tm (upd R i r)=tm R:=Qib (by rw[h1])
 refine h.next (by rw[hT];exact .term (fun _=>Aj _) fun _ _=>rfl) (by rw[hT];exact h.gh) ?_
 rw[hT]
 obtain⟨a,b,c,d⟩:=hr.cand h0
 have e3:r.FA=1:=by rw[h1];exact h0
 rw[h1]
 refine⟨hr.id,hr.term,hr.pos,hr.pos1,hr.log,hr.holds,hr.curL,hr.cur,hr.com0,hr.com,hr.votN,hr.vot,fun _=>⟨a,b,c,fun j hj e=>(hv j hj e).elim (d j hj) id⟩,fun e=>?_⟩
 grind
def QxJ(hG:GhOK n g T)(h:Good (g.setL c u) t k):t≠u/\Good g t k:=by
 have e:t≠u:=fun e=>by
  subst e
  obtain⟨a,b,d⟩:=h
  have hu:(g.setL c t).glog t=g.clog c t:=by simp[Gh.setL]
  rw[hu]at b d
  have:=(hG.clog c t).term (k - 1) U
  omega
 refine⟨e,?_⟩
 unfold Good at h |-
 rwa [show(g.setL c u).glog t=g.glog t by simp[Gh.setL,e]]at h
def Inv.leads(h:Inv n P g R W)(hi:i<n)(h0:(R i).FA=1)(hq:quo n fun j=>V (R i).FQ j)(hm:∀j,j<n->V r.E8 j=if j=i then((R i).j.length:Int)else 0)(h1:r={ R i with FA:=2,E8:=r.E8 }):Inv n P (g.setL i (R i).Q) (upd R i r) W:=by
 have hr:=h.rep i hi
 have ht:=hr.term
 have hT:tm (upd R i r)=tm R:=Qib (by rw[h1])
 obtain⟨a,b,c,d⟩:=hr.cand h0
 have hl:g.lead (R i).Q=Option.none:=by
  rcases e:g.lead (R i).Q with _|x
  .rfl
  .have:=h.gh.one e hq d
   grind
 have hg:Gle n g (tm R) (g.setL i (R i).Q) (tm R) i:=.setL h.gh hl hi ht.symm
 have hu:(g.setL i (R i).Q).glog (R i).Q=(R i).j:=by rw[<-b];simp[Gh.setL]
 have ha:(g.setL i (R i).Q).ack i (R i).Q=(R i).j.length:=by rw[<-b];simp[Gh.setL]
 have hcl:g.clog i (R i).Q=[]\/∃t k,g.clog i (R i).Q=(g.glog t).take k:=by
  rcases CO (g.clog i (R i).Q).length with z|z
  .grind
  .exact .inr ⟨_,_,((h.gh.clog i (R i).Q).last z).1⟩
 have ho:(∀t,∀e∈(g.setL i (R i).Q).glog t,P e.Op)/\∀t,(((g.setL i (R i).Q).glog t).map fun e=>e.Op.S).Nodup:=by
  refine⟨fun t e he=>?_,fun t=>?_⟩
  .by_cases x:t=(R i).Q
   .rw[x,hu,<-b]at he
    rcases hcl with y|⟨t,k,y⟩
    .grind
    .rw[y]at he;exact h.ops t e (Bo he)
   .exact h.ops t e (by simpa [Gh.setL,x]using he)
  .by_cases x:t=(R i).Q
   .rw[x,hu,<-b]
    rcases hcl with y|⟨t,k,y⟩
    .grind
    .rw[y,Bh];exact(h.nod t).sublist (C9 _ _)
   .rw[show(g.setL i (R i).Q).glog t=g.glog t by simp[Gh.setL,x]];exact h.nod t
 refine h.next (by rw[hT];exact hg) (by rw[hT];exact h.gh.setL hl hi ht.symm hq d) ?_ ho
 rw[hT,h1]
 refine⟨hr.id,hr.term,hr.pos,fun _=>hr.pos1 (.inl h0),hg.logOK hr.log,fun t k x y z=>?_,EQ ha,?_,hr.com0,hg.com hr.com,hr.votN,hr.vot,fun e=>?_,fun e=>⟨by simp[Gh.setL],hu.symm,fun j hj=>?_⟩⟩
 .obtain⟨g1,g2⟩:=QxJ h.gh x
  rw[show(g.setL i (R i).Q).glog t=g.glog t by simp[Gh.setL,g1]]
  refine hr.holds t k g2 ?_ (hg.may z)
  simpa only[Gh.setL,g1,and_false,if_false]using y
 .grind
 .grind
 .grind
end
open Go AM
section
def Inv.propose(h:Inv n P g R W)(hi:i<n)(h2:(R i).FA=2)(hP:P e.Op)(hfr:∀x∈(R i).j,x.Op.S≠e.Op.S)(he:e.Q=(R i).Q)(hL:r.j=(R i).j++[e])(hm:∀j,j<n->V r.E8 j<=if j=i then((R i).j.length:Int)+1 else V (R i).E8 j)(hc:r.d=(R i).d\/n=1/\r.d=((R i).j.length:Int)+1)(h1:r={ R i with j:=r.j,d:=r.d,E8:=r.E8 }):Inv n P (g.setP i (R i).Q e) (upd R i r) W:=by
 have hr:=h.rep i hi
 have ht:=hr.term
 have hT:tm (upd R i r)=tm R:=Qib (by rw[h1])
 obtain⟨a,b,d⟩:=hr.ldr h2
 have hp:=hr.pos1 (.inr h2)
 have hg:Gle n g (tm R) (g.setP i (R i).Q e) (tm R) i:=.setP h.gh a hi ht.symm
 have hu:(g.setP i (R i).Q e).glog (R i).Q=r.j:=by rw[hL,b];simp[Gh.setP]
 have hn:∀t,t≠(R i).Q->(g.setP i (R i).Q e).glog t=g.glog t:=fun t x=>by simp[Gh.setP,x]
 have ha:(g.setP i (R i).Q e).ack i (R i).Q=r.j.length:=by rw[hL,b];simp[Gh.setP]
 have hG:GhOK n (g.setP i (R i).Q e) (tm R):=h.gh.setP a hi ht.symm he hp
 have ll:r.j.length=(R i).j.length+1:=by rw[hL];simp
 have e2:r.FA=2:=by rw[h1];exact h2
 have ho:(∀t,∀x∈(g.setP i (R i).Q e).glog t,P x.Op)/\∀t,(((g.setP i (R i).Q e).glog t).map fun e=>e.Op.S).Nodup:=by
  refine⟨fun t x hx=>?_,fun t=>?_⟩
  .by_cases y:t=(R i).Q
   .rw[y,hu,hL,b]at hx
    rcases Af.1 hx with z|z
    .exact h.ops _ x z
    .grind
   .rw[hn t y]at hx;exact h.ops t x hx
  .by_cases y:t=(R i).Q
   .rw[y,hu,hL,Aq,EX]
    refine⟨by rw[b];exact h.nod _,Ob,fun x hx z hz e2=>?_⟩
    grind
   .rw[hn t y];exact h.nod t
 refine h.next (by rw[hT];exact hg) (by rw[hT];exact hG) ?_ ho
 rw[hT,h1]
 refine⟨hr.id,hr.term,hr.pos,hr.pos1,?_,fun t k x y z=>?_,EQ ha,?_,?_,?_,hr.votN,hr.vot,fun x=>?_,fun x=>⟨a,hu.symm,fun j hj=>?_⟩⟩
 .show Qbg _ _ r.j
  rw[<-hu];exact hG.glog _
 .show r.j.take k=_
  by_cases e3:t=(R i).Q
  .rw[e3,hu]
  .rw[hn t e3]
   have x2:Good g t k:=by unfold Good at x |-;rwa [hn t e3]at x
   have y2:k<=g.ack i t:=by simpa only[Gh.setP,e3,and_false,if_false]using y
   have:=hr.holds t k x2 y2 (hg.may z)
   have hk:=Vb this x2.2.1
   grind
 .grind
 .show 0<=r.d
  have:=hr.com0
  omega
 .show Com n _ r.d.toNat r.j
  rcases hc with x|⟨x,y⟩
  .rw[x,<-hu]
   exact hg.comPre (by rw[<-b];exact hr.com)
  .refine .inr ⟨(R i).Q,r.j.length,⟨U,by rw[hu];exact AN _,?_⟩,⟨fun _=>true,?_,fun j hj _=>?_⟩,by rw[y];omega,by rw[y];omega,by rw[hu]⟩
   .rw[hu,hL]
    show D.m.Q (V _ _)=_
    rw[<-he];congr 1;simp[V]
   .subst x;simp[quo]
   .grind
 .grind
 .show V r.E8 j<=_
  have:=hm j hj
  split at this
  .grind
  .next e3=>have h3:=d j hj;have:=hg.ack j (R i).Q;show _<=(((g.setP i (R i).Q e).ack j (R i).Q:Nat):Int);omega
def Inv.sends{n:Nat}{P:D.Op->Prop}{g:Gh}{R:Nat->D.N}{W:Y D.c}{m:D.c}{i:Nat}(h:Inv n P g R W)(hi:i<n)(h2:(R i).FA=2)(hj:0<=m.To/\m.To<n)(h1:m.w=i)(h3:m.Z=3)(h4:m.Q=(R i).Q)(h5:0<=m.z/\m.z<=(R i).j.length)(h6:m.q=(R i).j.drop m.z.toNat)(h7:0<m.z->m.FT=trm (R i).j (m.z.toNat - 1))(h8:m.d=(R i).d):QrW n g (tm R) m:=by
 have hr:=h.rep i hi
 obtain⟨a,b,d⟩:=hr.ldr h2
 have ht:=hr.term
 have hl:m.q.length=(R i).j.length - m.z.toNat:=by rw[h6];simp
 refine⟨⟨U,U⟩,hj,by rw[h1,h4,hr.term];exact Aj _,fun e=>U,fun e=>U,fun _=>⟨by rw[h4,h1];exact a,h5.1,by rw[h4,<-b,hl];omega,?_,fun x=>by rw[h4,<-b];exact h7 x,by rw[h8];exact hr.com0,by rw[h4,<-b,h8];exact hr.com⟩,fun e=>U⟩
 grind
def agree(hL:Qbg g u L)(hG:Qbg g v G)(hE:E=(G.drop p).take E.length)(hp:p+E.length<=G.length)(hpL:p<=L.length)(h0:p=0\/trm L (p - 1)=trm G (p - 1))(hs:s<=E.length)(hm:∀x,x<s->p+x<L.length/\trm L (p+x)=trm E x):L.take (p+s)=G.take (p+s):=by
 rcases CO (p+s)with z|z
 .rw[z];rfl
 .have hE2:∀x,x<E.length->trm E x=trm G (p+x):=fun x hx=>by
   show D.m.Q (V _ _)=D.m.Q (V _ _)
   congr 1
   conv=>lhs;rw[hE]
   rw[UP hx]
   simp[V,Ap]
  have e:trm L (p+s - 1)=trm G (p+s - 1)/\p+s - 1<L.length:=by
   rcases CO s with y|y
   .grind
   .obtain⟨a,b⟩:=hm (s - 1) U
    grind
  have:=hL.meet hG e.2 U e.1
  grind
def QCl{L G E:Y D.m}{s p:Nat}(hE:E=(G.drop p).take E.length)(hp:p+E.length<=G.length)(hs:s<=E.length)(ha:L.take (p+s)=G.take (p+s)):L.take (p+s)++E.drop s=G.take (p+E.length):=by
 rw[ha]
 have e:E.drop s=(G.drop (p+s)).take (E.length - s):=by
  conv=>lhs;rw[hE]
  rw[C8,List.drop_drop]
 rw[e]
 conv=>rhs;rw[show p+E.length=(p+s)+(E.length - s)by omega,List.take_add]
end
section
variable {n:Nat} {P:D.Op->Prop} {g g':Gh} {T T':Nat->Int} {R:Nat->D.N} {W zD:Y D.c} {r r':D.N} {m:D.c} {L K G E:Y D.m} {i j k c s p:Nat} {t u v:Int} {e:D.m}
def QxH:(g.setA i t k).ack i t=max (g.ack i t) k:=by simp[Gh.setA]
def QBM(h:¬(j=i/\u=t)):(g.setA i t k).ack j u=g.ack j u:=by simp[Gh.setA,h]
def Inv.accept(h:Inv n P g R W)(hi:i<n)(hm:QrW n g (tm R) m)(hk:m.Z=3)(ht:(R i).Q=m.Q)(h0:(R i).FA≠1/\(R i).FA≠2)(hpL:m.z.toNat<=(R i).j.length)(hpt:m.z.toNat=0\/trm (R i).j (m.z.toNat - 1)=m.FT)(hs:s<=m.q.length)(hx:∀x,x<s->m.z.toNat+x<(R i).j.length/\trm (R i).j (m.z.toNat+x)=trm m.q x)(hL:s=m.q.length/\r.j=(R i).j\/s<m.q.length/\((R i).j.length<=m.z.toNat+s\/trm (R i).j (m.z.toNat+s)≠trm m.q s)/\r.j=(R i).j.take (m.z.toNat+s)++m.q.drop s/\(R i).d.toNat<=m.z.toNat+s)(hc:r.d=max (R i).d (min m.d ((m.z.toNat+m.q.length:Nat):Int)))(h1:r={ R i with j:=r.j,d:=r.d }):
  Inv n P (g.setA i m.Q (m.z.toNat+m.q.length)) (upd R i r) W/\m.z.toNat+m.q.length<=(g.setA i m.Q (m.z.toNat+m.q.length)).ack i m.Q:=by
 have hr:=h.rep i hi
 have hT:tm (upd R i r)=tm R:=Qib (by rw[h1])
 obtain⟨a1,a2,a3,a4,a5,a6,a7⟩:=hm.app hk
 have hrt:=hr.term
 have hG:=h.gh.glog m.Q
 have hA:(R i).j.take (m.z.toNat+s)=(g.glog m.Q).take (m.z.toNat+s):=by
  refine agree (u:=(R i).Q) hr.log hG a4 a3 hpL ?_ hs hx
  rcases hpt with x|x
  .exact .inl x
  .rcases CO m.z.toNat with y|y
   .exact .inl y
   .exact .inr (by rw[x];exact a5 U)
 have hlog:r.j.take (m.z.toNat+m.q.length)=(g.glog m.Q).take (m.z.toNat+m.q.length)/\(r.j=(R i).j\/r.j=(g.glog m.Q).take (m.z.toNat+m.q.length)):=by
  rcases hL with⟨x,y⟩|⟨x,y,z,_⟩
  .rw[y,<-x];exact⟨hA,.inl rfl⟩
  .have:=QCl a4 a3 hs hA
   rw[z,this]
   exact⟨by rw[Ca,C7],.inr rfl⟩
 have hlen:m.z.toNat+m.q.length<=r.j.length:=Vb hlog.1 a3
 have key:∀k,(R i).j.take k=(g.glog m.Q).take k->k<=(g.glog m.Q).length->r.j.take k=(g.glog m.Q).take k/\k<=r.j.length:=by
  intro k e1 e2
  have e3:=Vb e1 e2
  rcases Ay (m.z.toNat+m.q.length) k with x|x
  .rcases hL with⟨_,y⟩|⟨y,z,_⟩
   .rw[y];exact⟨e1,e3⟩
   .exfalso
    rcases z with z|z
    .omega
    .apply z
     rw[Uf e1 U]
     show D.m.Q (V _ _)=D.m.Q (V _ _)
     congr 1
     conv=>rhs;rw[a4]
     rw[UP y]
     simp[V,Ap]
  .exact⟨QeM hlog.1 x,U⟩
 have hT2:tm R i=m.Q:=U
 have hg:Gle n g (tm R) (g.setA i m.Q (m.z.toNat+m.q.length)) (tm R) i:=.setA U
 have hack:=QxH (g:=g) (i:=i) (t:=m.Q) (k:=m.z.toNat+m.q.length)
 have hcur:(R i).j.take (g.ack i m.Q)=(g.glog m.Q).take (g.ack i m.Q):=by rw[<-ht];exact hr.cur
 have kcur:=key _ hcur (h.gh.ackL i m.Q hi)
 refine⟨h.next (by rw[hT];exact hg) (by rw[hT];exact h.gh.setA hT2 a3) ?_,by rw[hack];omega⟩
 rw[hT,h1]
 refine⟨hr.id,hr.term,hr.pos,hr.pos1,hg.logOK ?_,fun t k x y z=>?_,?_,?_,?_,hg.com ?_,hr.votN,hr.vot,fun e=>?_,fun e=>?_⟩
 .show Qbg g (R i).Q r.j
  rcases hlog.2 with x|x
  .rw[x];exact hr.log
  .rw[x,ht];exact hG.take
 .show r.j.take k=(g.glog t).take k
  by_cases e:t=m.Q
  .subst e
   rw[hack]at y
   rcases Ay (m.z.toNat+m.q.length) k with q|q
   .exact QeM kcur.1 U
   .exact QeM hlog.1 q
  .rw[QBM (by intro q;exact e q.2)]at y
   have x2:Good g t k:=x
   have hh:=hr.holds t k x2 y (hg.may z)
   have hlt:t<=tm R i:=h.gh.ackT i t hi (by have:=x2.1;omega)
   have hl:=h.gh.later t m.Q k _ a1 U x2 (hg.may z)
   rw[<-hl]
   exact(key k (hh.trans hl.symm) (Vb hl x2.2.1)).1
 .show(g.setA i m.Q (m.z.toNat+m.q.length)).ack i (R i).Q<=r.j.length
  rw[ht,hack];have:=kcur.2;omega
 .show r.j.take ((g.setA i m.Q (m.z.toNat+m.q.length)).ack i (R i).Q)=(g.glog (R i).Q).take _
  rw[ht,hack]
  rcases Nat.le_total (g.ack i m.Q) (m.z.toNat+m.q.length)with q|q
  .rw[Nat.max_eq_right q];exact hlog.1
  .rw[Nat.max_eq_left q];exact kcur.1
 .show 0<=r.d
  have:=hr.com0;rw[hc];omega
 .show Com n g r.d.toNat r.j
  have hC:Com n g (R i).d.toNat r.j:=by
   rcases hr.com with x|⟨t,k,x1,x2,x3,x4,x5⟩
   .exact .inl x
   .rcases hL with⟨_,y⟩|⟨_,_,_,y⟩
    .rw[y];exact .inr ⟨t,k,x1,x2,x3,x4,x5⟩
    .have e1:=QeM hA y
     have e2:=key _ e1 (by
      have:(R i).d.toNat<=(g.glog m.Q).length:=by
       have:=BC List.length e1
       rw[Ae,Ae]at this
       omega
      exact this)
     exact .inr ⟨t,k,x1,x2,x3,e2.2,by rw[e2.1,<-e1];exact x5⟩
  rcases Int.le_total (min m.d ((m.z.toNat+m.q.length:Nat):Int)) (R i).d with q|q
  .rw[hc,show max (R i).d (min m.d ((m.z.toNat+m.q.length:Nat):Int))=(R i).d by omega];exact hC
  .rw[hc,show max (R i).d (min m.d ((m.z.toNat+m.q.length:Nat):Int))=min m.d ((m.z.toNat+m.q.length:Nat):Int)by omega]
   rcases a7 with x|⟨t,k,x1,x2,x3,x4,x5⟩
   .exact .inl U
   .have b1:(min m.d ((m.z.toNat+m.q.length:Nat):Int)).toNat<=m.d.toNat:=U
    have b2:(min m.d ((m.z.toNat+m.q.length:Nat):Int)).toNat<=m.z.toNat+m.q.length:=U
    exact .inr ⟨t,k,x1,x2,U,U,by rw[QeM hlog.1 b2];exact QeM x5 b1⟩
 .exact absurd e h0.1
 .exact absurd e h0.2
def Inv.acks(h:Inv n P g R W)(hi:i<n)(h2:(R i).FA=2)(hm:∀j,j<n->V r.E8 j<=g.ack j (R i).Q)(hc:r.d=(R i).d\/∃k:Nat,r.d=k/\1<=k/\k<=(R i).j.length/\trm (R i).j (k - 1)=(R i).Q/\quo n fun j=>decide ((k:Int)<=V r.E8 j))(h1:r={ R i with d:=r.d,E8:=r.E8 }):Inv n P g (upd R i r) W:=by
 have hr:=h.rep i hi
 have hT:tm (upd R i r)=tm R:=Qib (by rw[h1])
 obtain⟨a,b,d⟩:=hr.ldr h2
 refine h.next (by rw[hT];exact .term (fun _=>Aj _) fun _ _=>rfl) (by rw[hT];exact h.gh) ?_
 rw[hT,h1]
 refine⟨hr.id,hr.term,hr.pos,hr.pos1,hr.log,hr.holds,hr.curL,hr.cur,?_,?_,hr.votN,hr.vot,fun e=>?_,fun _=>⟨a,b,hm⟩⟩
 .show 0<=r.d
  have:=hr.com0
  omega
 .show Com n g r.d.toNat (R i).j
  rcases hc with x|⟨k,x,x1,x2,x3,x4⟩
  .rw[x];exact hr.com
  .rw[x]
   refine .inr ⟨(R i).Q,k,⟨x1,by rw[<-b];exact x2,by rw[<-b];exact x3⟩,⟨_,x4,fun j hj q=>?_⟩,U,U,by rw[b]⟩
   grind
 .grind
def Inv.fresh(hR:∀j,j<n->(R j).S=j)(h1:∀j,j<n->(R j).Q=0/\(R j).FZ = -1/\(R j).FA=0/\(R j).j=[]/\(R j).d=0):Inv n P ⟨fun _ _=>[],fun _=>[],fun _=>none,fun _ _=>none,fun _ _=>0⟩ R []:=by
 refine⟨⟨fun _=>.nil,fun _ _=>rfl,fun _ _=>.nil,fun _ _ e=>(nomatch e),fun _ _ _ _ e=>(nomatch e),fun _ _ _ _ e=>(nomatch e),fun _ _ e=>(nomatch e),fun _ _ _ e=>absurd e (Ck _),fun _ _ _=>BL _,fun _ _ _ _ e=>(nomatch e),fun _ _ _ _ _ _ e=>(nomatch e)⟩,fun j hj=>?_,fun m e=>(nomatch e),fun _ _ e=>(nomatch e),fun _=>List.nodup_nil⟩
 obtain⟨a,b,c,d,f⟩:=h1 j hj
 refine⟨hR j hj,rfl,U,fun e=>U,by rw[d];exact .nil,fun t k x=>?_,BL _,by rw[d],U,.inl (by rw[f];rfl),fun _=>rfl,fun c e=>by rw[b]at e;omega,fun e=>U,fun e=>U⟩
 simp_all
end
open Go AM
def folV(r:D.N)(t:Int):D.N:=if r.Q<t then{ r with Q:=t,FA:=0,FZ:=-1,FQ:=[],E8:=[] }else r
def QqR(r:D.N)(m:D.c):Prop:=Xi r.j<m.FT\/(m.FT=Xi r.j/\(r.j.length:Int)<=m.z)
instance (r:D.N) (m:D.c):Decidable (QqR r m):=by unfold QqR;infer_instance
def yesV(o:D.N)(m:D.c):AH:=decide (o.Q=m.Q/\(o.FZ = -1\/o.FZ=m.w)/\o.FA=0/\QqR o m)
def VP(r:D.N)(m:D.c):D.N×D.c:=(if yesV (folV r m.Q) m then{ folV r m.Q with FZ:=m.w }else folV r m.Q,⟨2,r.S,m.w,(folV r m.Q).Q,0,0,0,[],yesV (folV r m.Q) m⟩)
section
def Qp2:upd R i (R i)=R:=by
 funext j;by_cases e:j=i
 .subst e;exact Ug
 .exact Qvj e
def QmW:upd (upd R i a) i b=upd R i b:=by
 funext j;by_cases e:j=i
 .subst e;rw[Ug,Ug]
 .rw[Qvj e,Qvj e,Qvj e]
def Inv.fol(h:Inv n P g R W)(hi:i<n):Inv n P g (upd R i (folV (R i) t)) W:=by
 unfold folV
 split
 .next x=>exact h.follow hi x rfl rfl rfl rfl rfl rfl
 .rw[Qp2];exact h
def QA7:(folV r t).S=r.S:=by unfold folV;split<;>rfl
def QkU:(folV r t).j=r.j:=by unfold folV;split<;>rfl
def QoT:(folV r t).d=r.d:=by unfold folV;split<;>rfl
def Qt7(h:0<=a):(a.toNat:Int)=a:=U
def Inv.hear(h:Inv n P g R W)(hi:i<n)(hm:m∈W)(hk:m.Z=1)(hto:m.To=i)(hne:m.w≠i):∃g',Inv n P g' (upd R i (VP (R i) m).1) (W++[(VP (R i) m).2]):=by
 have hid:=(h.rep i hi).id
 have h1:=h.fol (t:=m.Q) hi
 have m1:=h1.msg m hm
 obtain⟨o,ho⟩:∃o,o=folV (R i) m.Q:=⟨_,rfl⟩
 have hoid:o.S=i:=by rw[ho,QA7,hid]
 unfold VP
 simp only[<-ho]
 rw[<-ho]at h1 m1
 have hf:=Qt7 m1.from0.1
 have reply:∀{g':Gh} {r':D.N},Inv n P g' (upd R i r') W->r'.Q=o.Q->(yesV o m=true->g'.vot i o.Q=some m.w.toNat)->QrW n g' (tm (upd R i r')) ⟨2,(R i).S,m.w,o.Q,0,0,0,[],yesV o m⟩:=by
  intro g' r' hI e1 e2
  refine⟨⟨?_,?_⟩,m1.from0,?_,fun e=>?_,fun _ e=>?_,fun e=>?_,fun e=>?_⟩
  .show 0<=(R i).S;omega
  .show(R i).S<n;omega
  .show o.Q<=tm _ (R i).S.toNat
   rw[hid,BJ,tm_i,e1];exact Aj _
  .have e:(2:Int)=1:=e;omega
  .show g'.vot (R i).S.toNat o.Q=_
   rw[hid,BJ];exact e2 e
  .have e:(2:Int)=3:=e;omega
  .have e:(2:Int)=4:=e;omega
 by_cases hy:yesV o m=true
 .rw[iB hy]
  obtain⟨y1,y2,y3,y4⟩:=BF hy
  have hr:=h1.rep i hi
  rw[Ug]at hr
  rcases y2 with y2|y2
  .obtain⟨v1,v2⟩:=m1.vote hk
   obtain⟨k1,k2⟩:=h1.grant (u:=m.Q) (c:=m.w.toNat) (r:={ o with FZ:=m.w }) hi (by rw[Ug];exact y1) (by rw[Ug];exact y2) (by rw[Ug];exact y3) m1.term (by
    rw[Ug,<-v2]
    rcases y4 with z|⟨z,z2⟩
    .exact .inl z
    .exact .inr ⟨z,U⟩) (by rw[Ug,hf])
   rw[QmW]at k1
   exact⟨_,k1.add fun x hx=>by rw[Ai.1 hx];exact reply k1 rfl fun _=>by rw[y1];exact k2⟩
  .have e:({ o with FZ:=m.w }:D.N)=o:=by rw[<-y2]
   rw[e]
   exact⟨g,h1.add fun x hx=>by rw[Ai.1 hx];exact reply h1 rfl fun _=>hr.vot _ (by rw[y2,hf])⟩
 .rw[iA hy]
  exact⟨g,h1.add fun x hx=>by rw[Ai.1 hx];exact reply h1 rfl fun e=>absurd e hy⟩
def Qg1(n:Nat)(r:D.N):D.N:={ r with FA:=2,E8:=(List.replicate n 0).set r.S.toNat r.j.length }
def Wg(n:Nat)(r:D.N)(m:D.c):D.N:=
 if r.Q<m.Q then folV r m.Q
 else if r.FA≠1\/m.Q≠r.Q\/m.OK=false then r
 else if n / 2+1<=(List.range n).countP (fun j=>V (r.FQ.set m.w.toNat true) j)then Qg1 n { r with FQ:=r.FQ.set m.w.toNat true }
 else{ r with FQ:=r.FQ.set m.w.toNat true }
def Inv.lead(h:Inv n P g R W)(hi:i<n)(h0:(R i).FA=1)(hq:quo n fun j=>V (R i).FQ j):∃g',Inv n P g' (upd R i (Qg1 n (R i))) W:=by
 have hid:=(h.rep i hi).id
 refine⟨_,h.leads hi h0 hq (r:=Qg1 n (R i)) (fun j hj=>?_) rfl⟩
 simp only[Qg1,hid,BJ,V]
 grind
def Inv.voted(h:Inv n P g R W)(hi:i<n)(hm:m∈W)(hk:m.Z=2)(hto:m.To=i):∃g',Inv n P g' (upd R i (Wg n (R i) m)) W:=by
 unfold Wg
 split
 .exact⟨g,h.fol hi⟩
 split
 .exact⟨g,by rw[Qp2];exact h⟩
 .next x y=>
  have y1:(R i).FA=1:=Bw fun z=>y (.inl z)
  have y2:m.Q=(R i).Q:=Bw fun z=>y (.inr (.inl z))
  have y3:m.OK=true:=by cases z:m.OK with|true=>rfl|false=>exact absurd (.inr (.inr z)) y
  have hv:=(h.msg m hm).voted hk y3
  rw[hto,BJ,y2]at hv
  have h1:Inv n P g (upd R i { R i with FQ:=(R i).FQ.set m.w.toNat true }) W:=by
   refine h.votes hi y1 (fun j hj e=>?_) rfl
   by_cases e2:j=m.w.toNat
   .simp_all
   .refine .inl ?_
    rw[<-e]
    simp[V,CA,Ag e2]
  split
  .next z=>
   have:=h1.lead hi (by rw[Ug];exact y1) (by rw[Ug];exact z)
   rwa [Ug,QmW]at this
  .exact⟨g,h1⟩
def W2:Y D.m->Y D.m->Nat
 |x::l,y::e=>if x.Q=y.Q then W2 l e+1 else 0
 |_,_=>0
def QeE:∀{L E:Y D.m},W2 L E<=E.length/\W2 L E<=L.length
 |[],E=>by simp[W2]
 |_::_,[]=>by simp[W2]
 |x::l,y::e=>by
  have:=QeE (L:=l) (E:=e)
  simp only[W2];split<;>simp<;>omega
def QmN:∀{L E:Y D.m} {x:Nat},x<W2 L E->trm L x=trm E x
 |[],E,x,h=>by simp[W2]at h
 |_::_,[],x,h=>by simp[W2]at h
 |a::l,b::e,x,h=>by
  simp only[W2]at h
  split at h
  .next q=>
   cases x with
   |zero=>exact q
   |succ x=>exact QmN (L:=l) (E:=e) (x:=x) U
  .omega
def Qjh:∀{L E:Y D.m},W2 L E<E.length->L.length<=W2 L E\/trm L (W2 L E)≠trm E (W2 L E)
 |[],E,h=>.inl Ob
 |_::_,[],h=>by simp[W2]at h
 |a::l,b::e,h=>by
  by_cases q:a.Q=b.Q
  .have e1:W2 (a::l) (b::e)=W2 l e+1:=by simp[W2,q]
   rw[e1]at h |-
   rcases Qjh (L:=l) (E:=e) (by simp at h;omega)with x|x
   .exact .inl (by simp;omega)
   .exact .inr x
  .have e1:W2 (a::l) (b::e)=0:=by simp[W2,q]
   rw[e1];exact .inr q
def QgX:trm (L.drop p) x=trm L (p+x):=by
 show D.m.Q (V _ _)=D.m.Q (V _ _)
 congr 1;simp[V,Ap]
def Qaw(L:Y D.m)(p:Nat)(E:Y D.m):Y D.m×Nat:=if W2 (L.drop p) E=E.length then(L,L.length)else(L.take (p+W2 (L.drop p) E)++E.drop (W2 (L.drop p) E),p+W2 (L.drop p) E)
def hrdV(r:D.N)(m:D.c):D.N:=if (folV r m.Q).FA=1/\(folV r m.Q).Q=m.Q then{ folV r m.Q with FA:=0,FQ:=[] }else folV r m.Q
def Inv.step{n:Nat}{P:D.Op->Prop}{g:Gh}{R:Nat->D.N}{W:Y D.c}{m:D.c}{i:Nat}(h:Inv n P g R W)(hi:i<n):Inv n P g (upd R i (hrdV (R i) m)) W:=by
 have h1:=h.fol (t:=m.Q) hi
 unfold hrdV
 split
 .have:=h1.quiet (r:={ folV (R i) m.Q with FA:=0,FQ:=[] }) hi (by rw[Ug]) (by rw[Ug]) (by rw[Ug]) (by rw[Ug]) (by rw[Ug]) rfl
  rwa [QmW]at this
 .exact h1
def Inv.refuse(h:Inv n P g R W)(hi:i<n)(hm:m∈W)(hto:m.To=i):Inv n P g (upd R i (hrdV (R i) m)) (W++[⟨4,(R i).S,m.w,(hrdV (R i) m).Q,0,0,0,[],false⟩]):=by
 have hid:=(h.rep i hi).id
 refine(h.step hi).add fun x hx=>?_
 rw[Ai.1 hx]
 refine⟨⟨?_,?_⟩,(h.msg m hm).from0,?_,fun e=>?_,fun e=>?_,fun e=>?_,fun _ e=>nomatch e⟩
 .simp_all
 .simp_all
 .show(hrdV (R i) m).Q<=tm _ (R i).S.toNat
  rw[hid,BJ,tm_i];exact Aj _
 .simp_all
 .simp_all
 .simp_all
def Inv.take(h:Inv n P g R W)(hi:i<n)(hm:m∈W)(hk:m.Z=3)(hto:m.To=i)(h0:(hrdV (R i) m).FA≠2)(ht:m.Q=(hrdV (R i) m).Q)(hp:m.z<=(hrdV (R i) m).j.length)(hpt:m.z=0\/trm (hrdV (R i) m).j (m.z.toNat - 1)=m.FT)(hkeep:(hrdV (R i) m).d<=(Qaw (hrdV (R i) m).j m.z.toNat m.q).2)(h1:r={ hrdV (R i) m with j:=(Qaw (hrdV (R i) m).j m.z.toNat m.q).1,d:=max (hrdV (R i) m).d (min m.d (m.z+m.q.length)) }):
  ∃g',Inv n P g' (upd R i r) (W++[⟨4,(R i).S,m.w,(hrdV (R i) m).Q,m.z+m.q.length,0,0,[],true⟩]):=by
 have hid:=(h.rep i hi).id
 have hI:=h.step (m:=m) hi
 have hm1:=hI.msg m hm
 obtain⟨a1,a2,a3,a4,a5,a6,a7⟩:=hm1.app hk
 obtain⟨o,ho⟩:∃o,o=hrdV (R i) m:=⟨_,rfl⟩
 have hr:=hI.rep i hi
 rw[Ug]at hr
 rw[<-ho]at hI hm1 h0 ht hp hpt hkeep h1 hr |-
 have hr1:o.FA≠1:=by
  rw[ho]
  rw[ho]at ht
  unfold hrdV at ht |-
  split
  .show(0:Int)≠1;decide
  .next x=>intro y;rw[iA x]at ht;exact x ⟨y,ht.symm⟩
 have sl:=QeE (L:=o.j.drop m.z.toNat) (E:=m.q)
 have hpn:m.z.toNat<=o.j.length:=U
 have hcc:min m.d (m.z+m.q.length)=min m.d ((m.z.toNat+m.q.length:Nat):Int):=by rw[Int.natCast_add,Qt7 a2]
 have dl:(o.j.drop m.z.toNat).length=o.j.length - m.z.toNat:=Ob
 have:=hI.accept (r:=r) (s:=W2 (o.j.drop m.z.toNat) m.q) hi hm1 hk (by rw[Ug];exact ht.symm) (by rw[Ug];exact⟨hr1,h0⟩) (by rw[Ug];exact hpn) (by
   rw[Ug]
   exact hpt.elim (fun x=>.inl U) fun x=>.inr x) sl.1 (fun x hx=>by
   rw[Ug]
   exact⟨U,by rw[<-QgX];exact QmN hx⟩) (by
   rw[Ug,h1]
   unfold Qaw at hkeep |-
   split
   .next x=>exact .inl ⟨x,rfl⟩
   .next x=>
    rw[iA x]at hkeep
    refine .inr ⟨U,?_,rfl,?_⟩
    .rcases Qjh (L:=o.j.drop m.z.toNat) (E:=m.q) U with y|y
     .exact .inl U
     .exact .inr (by rw[<-QgX];exact y)
    .have hkeep:o.d<=((m.z.toNat+W2 (o.j.drop m.z.toNat) m.q:Nat):Int):=hkeep
     omega) (by rw[Ug,h1,hcc]) (by rw[Ug,h1])
 rw[QmW]at this
 obtain⟨g2,g3⟩:=this
 refine⟨_,g2.add fun x hx=>?_⟩
 rw[Ai.1 hx]
 have rt:r.Q=o.Q:=by rw[h1]
 refine⟨⟨?_,?_⟩,(h.msg m hm).from0,?_,fun e=>?_,fun e=>?_,fun e=>?_,fun _ _=>?_⟩
 .show 0<=(R i).S;omega
 .show(R i).S<n;omega
 .show o.Q<=tm _ (R i).S.toNat
  rw[hid,BJ,tm_i,rt];exact Aj _
 .have e:(4:Int)=1:=e;omega
 .have e:(4:Int)=2:=e;omega
 .have e:(4:Int)=3:=e;omega
 .show m.z+m.q.length<=(((g.setA i m.Q (m.z.toNat+m.q.length)).ack (R i).S.toNat o.Q:Nat):Int)
  rw[hid,BJ,<-ht];omega
end
def topV(P:Nat->AH)(lo:Nat):Nat->Nat
 |0=>lo
 |k+1=>if lo<k+1 then(if P (k+1)then k+1 else topV P lo k)else lo
def QmU:∀{k:Nat},topV P lo k=lo\/(lo<topV P lo k/\topV P lo k<=k/\P (topV P lo k)=true)
 |0=>.inl rfl
 |k+1=>by
  unfold topV
  split
  .split
   .next a b=>exact .inr ⟨a,AN _,b⟩
   .rcases QmU (P:=P) (lo:=lo) (k:=k)with x|⟨x,y,z⟩
    .exact .inl x
    .exact .inr ⟨x,U,z⟩
  .exact .inl rfl
def Ur(r:D.N)(m:D.c):Y Int:=r.E8.set m.w.toNat (max (V r.E8 m.w.toNat) m.z)
def Qh5(n:Nat)(r:D.N)(M:Y Int)(k:Nat):AH:=decide (n / 2+1<=(List.range n).countP fun j=>decide ((k:Int)<=V M j)) && decide (trm r.j (k - 1)=r.Q)
def Ul(n:Nat)(r:D.N)(m:D.c):D.N:=
 if r.Q<m.Q then folV r m.Q
 else if r.FA≠2\/m.Q≠r.Q\/m.OK=false\/m.z<0\/(r.j.length:Int)<m.z then r
 else{ r with E8:=Ur r m,d:=(topV (Qh5 n r (Ur r m)) r.d.toNat r.j.length:Nat) }
def Vt(n:Nat)(r:D.N):D.N:={ r with Q:=r.Q+1,FA:=1,FZ:=r.S,E8:=[],FQ:=(List.replicate n false).set r.S.toNat true }
def prpV(n:Nat)(r:D.N)(o:D.Op):D.N:={ r with j:=r.j++[⟨r.Q,o⟩],E8:=r.E8.set r.S.toNat (r.j.length+1),d:=if n / 2+1=1 then r.j.length+1 else r.d }
def Qv4(r:D.N):D.N:={ r with FA:=0,FQ:=[],E8:=[] }
section
def Qo7[AK α]{l:Y α}{x:α}(h:j≠i):V (l.set i x) j=V l j:=by simp[V,CA,Ag h]
def Qsx[AK α]{l:Y α}{x:α}(h:i<l.length):V (l.set i x) i=x:=by simp[V,h]
def Inv.acked(h:Inv n P g R W)(hi:i<n)(hm:m∈W)(hk:m.Z=4)(hto:m.To=i)(hml:(R i).FA=2->(R i).E8.length=n):∃g',Inv n P g' (upd R i (Ul n (R i) m)) W:=by
 unfold Ul
 split
 .exact⟨g,h.fol hi⟩
 split
 .exact⟨g,by rw[Qp2];exact h⟩
 .next x y=>
  have y1:(R i).FA=2:=Bw fun z=>y (.inl z)
  have y2:m.Q=(R i).Q:=Bw fun z=>y (.inr (.inl z))
  have y3:m.OK=true:=by cases z:m.OK with|true=>rfl|false=>exact absurd (.inr (.inr (.inl z))) y
  have hv:=(h.msg m hm).acked hk y3
  have hf:=(h.msg m hm).from0
  rw[y2]at hv
  have hr:=h.rep i hi
  obtain⟨a,b,d⟩:=hr.ldr y1
  have hc0:=hr.com0
  refine⟨g,h.acks hi y1 (fun j hj=>?_) ?_ rfl⟩
  .show V (Ur (R i) m) j<=_
   unfold Ur
   by_cases e:j=m.w.toNat
   .subst e
    rw[Qsx (by rw[hml y1];exact hj)]
    grind
   .rw[Qo7 e];exact d j hj
  .rcases QmU (P:=Qh5 n (R i) (Ur (R i) m)) (lo:=(R i).d.toNat) (k:=(R i).j.length)with z|⟨z1,z2,z3⟩
   .refine .inl ?_
    grind
   .refine .inr ⟨_,rfl,U,z2,?_,?_⟩
    .simp only[Qh5,bae,BK]at z3;exact z3.2
    .simp only[Qh5,bae,BK]at z3;exact z3.1
def Inv.back(h:Inv n P g R W)(hi:i<n):Inv n P g (upd R i (Qv4 (R i))) W:=h.quiet hi rfl rfl rfl rfl rfl rfl
def Inv.prop(h:Inv n P g R W)(hi:i<n)(h2:(R i).FA=2)(hml:(R i).E8.length=n)(hP:P o)(hfr:∀x∈(R i).j,x.Op.S≠o.S):∃g',Inv n P g' (upd R i (prpV n (R i) o)) W:=by
 have hid:=(h.rep i hi).id
 refine⟨_,h.propose hi h2 (e:=⟨(R i).Q,o⟩) hP hfr rfl rfl (fun j hj=>?_) ?_ rfl⟩
 .show V ((R i).E8.set _ _) j<=_
  rw[hid,BJ]
  by_cases e:j=i
  .subst e;rw[Qsx U,iB rfl];exact Aj _
  .rw[Qo7 e,iA e];exact Aj _
 .show(if n / 2+1=1 then _ else _)=_\/_
  split
  .next x=>exact .inr ⟨U,by simp[prpV,x]⟩
  .omega
def QiB:Xi L=if L.length=0 then 0 else trm L (L.length - 1):=by
 unfold Xi
 simp_all
def Inv.stands{n:Nat}{P:D.Op->Prop}{g:Gh}{R:Nat->D.N}{W zD:Y D.c}{i:Nat}(h:Inv n P g R W)(hi:i<n)(hV:∀m∈zD,m.Z=1/\m.w=i/\0<=m.To/\m.To<n/\m.Q=(R i).Q+1/\m.z=(R i).j.length/\m.FT=Xi (R i).j):∃g',Inv n P g' (upd R i (if n / 2+1=1 then Qg1 n (Vt n (R i))else Vt n (R i))) (W++zD):=by
 have hid:=(h.rep i hi).id
 have hvs:∀j,j<n->V (Vt n (R i)).FQ j=true->j=i:=fun j hj hv=>by
  simp only[Vt,hid,BJ]at hv
  exact Bw fun e=>by
   rw[Qo7 e]at hv
   simp[V,Eo,hj]at hv
 obtain⟨a,b⟩:=h.stand (r:=Vt n (R i)) (u:=(R i).Q+1) hi rfl hvs rfl rfl (by show(R i).S=i;exact hid) rfl rfl rfl
 have c:=a.add (zD:=zD) fun m hm=>by
  obtain⟨x1,x2,x3,x4,x5,x6,x7⟩:=hV m hm
  refine⟨⟨U,U⟩,⟨x3,x4⟩,?_,fun _=>?_,fun e=>U,fun e=>U,fun e=>U⟩
  .rw[x2,BJ,tm_i,x5];exact Aj _
  .rw[x2,BJ,x5,b];exact⟨x6,x7⟩
 split
 .next e=>
  have:=c.lead hi (by rw[Ug];rfl) (by
   rw[Ug]
   have:n=1:=U
   subst this
   have:i=0:=U
   subst this
   simp[quo,Vt,hid,V])
  rwa [Ug,QmW]at this
 .exact⟨_,c⟩
end
open Go AM
def InvC(n:Nat)(P:D.Op->Prop)(Rs:Y D.N)(W:Y D.c):Prop:=Rs.length=n/\∃g,Inv n P g (V Rs) W
section
def QBX(h:i<Rs.length):upd (V Rs) i r=V (Rs.set i r):=by
 funext j
 by_cases e:j=i
 .subst e;rw[Ug,Qsx h]
 .rw[Qvj e,Qo7 e]
def InvC.of(h:InvC n P Rs W)(hi:i<n)(hR:R'=Rs.set i r)(hn:∀g,Inv n P g (V Rs) W->∃g',Inv n P g' (upd (V Rs) i r) zD):InvC n P R' zD:=by
 obtain⟨a,g,b⟩:=h
 obtain⟨g',c⟩:=hn g b
 exact⟨by rw[hR,CL];exact a,g',by rw[hR,<-QBX U];exact c⟩
def InvC.sub(h:InvC n P Rs W)(hs:∀m∈zD,m∈W):InvC n P Rs zD:=⟨h.1,h.2.elim fun g x=>⟨g,x.sub hs⟩⟩
def InvC.mono(h:InvC n P Rs W)(hp:∀o,P o->P' o):InvC n P' Rs W:=⟨h.1,h.2.elim fun g x=>⟨g,x.gh,x.rep,x.msg,fun t e he=>hp _ (x.ops t e he),x.nod⟩⟩
def InvC.log(h:InvC n P Rs W)(hi:i<n):(∀e∈(V Rs i).j,P e.Op)/\((V Rs i).j.map fun e=>e.Op.S).Nodup:=by
 obtain⟨_,g,b⟩:=h
 rcases CO (V Rs i).j.length with z|z
 .simp_all
 .have:=((b.rep i hi).log.last z).1
  refine⟨fun e he=>?_,?_⟩
  .rw[this]at he;exact b.ops _ e (Bo he)
  .rw[this,Bh];exact(b.nod _).sublist (C9 _ _)
def InvC.id(h:InvC n P Rs W)(hi:i<n):(V Rs i).S=i:=by
 obtain⟨_,g,b⟩:=h
 exact(b.rep i hi).id
def InvC.hear(h:InvC n P Rs W)(hi:i<n)(hm:m∈W)(hk:m.Z=1)(hto:m.To=i)(hne:m.w≠i):InvC n P (Rs.set i (VP (V Rs i) m).1) (W++[(VP (V Rs i) m).2]):=
 h.of hi rfl fun g x=>x.hear hi hm hk hto hne
def InvC.voted(h:InvC n P Rs W)(hi:i<n)(hm:m∈W)(hk:m.Z=2)(hto:m.To=i):InvC n P (Rs.set i (Wg n (V Rs i) m)) W:=
 h.of hi rfl fun g x=>x.voted hi hm hk hto
def InvC.refuse(h:InvC n P Rs W)(hi:i<n)(hm:m∈W)(hto:m.To=i):InvC n P (Rs.set i (hrdV (V Rs i) m)) (W++[⟨4,(V Rs i).S,m.w,(hrdV (V Rs i) m).Q,0,0,0,[],false⟩]):=
 h.of hi rfl fun g x=>⟨g,x.refuse hi hm hto⟩
def InvC.take(h:InvC n P Rs W)(hi:i<n)(hm:m∈W)(hk:m.Z=3)(hto:m.To=i)(h0:(hrdV (V Rs i) m).FA≠2)(ht:m.Q=(hrdV (V Rs i) m).Q)(hp:m.z<=(hrdV (V Rs i) m).j.length)(hpt:m.z=0\/trm (hrdV (V Rs i) m).j (m.z.toNat - 1)=m.FT)(hkeep:(hrdV (V Rs i) m).d<=(Qaw (hrdV (V Rs i) m).j m.z.toNat m.q).2):
  InvC n P (Rs.set i { hrdV (V Rs i) m with j:=(Qaw (hrdV (V Rs i) m).j m.z.toNat m.q).1,d:=max (hrdV (V Rs i) m).d (min m.d (m.z+m.q.length)) }) (W++[⟨4,(V Rs i).S,m.w,(hrdV (V Rs i) m).Q,m.z+m.q.length,0,0,[],true⟩]):=
 h.of hi rfl fun g x=>x.take hi hm hk hto h0 ht hp hpt hkeep rfl
def InvC.acked(h:InvC n P Rs W)(hi:i<n)(hm:m∈W)(hk:m.Z=4)(hto:m.To=i)(hml:(V Rs i).FA=2->(V Rs i).E8.length=n):InvC n P (Rs.set i (Ul n (V Rs i) m)) W:=
 h.of hi rfl fun g x=>x.acked hi hm hk hto hml
def InvC.back(h:InvC n P Rs W)(hi:i<n):InvC n P (Rs.set i (Qv4 (V Rs i))) W:=h.of hi rfl fun g x=>⟨g,x.back hi⟩
def InvC.prop(h:InvC n P Rs W)(hi:i<n)(h2:(V Rs i).FA=2)(hml:(V Rs i).E8.length=n)(hP:P o)(hfr:∀x∈(V Rs i).j,x.Op.S≠o.S):InvC n P (Rs.set i (prpV n (V Rs i) o)) W:=h.of hi rfl fun g x=>x.prop hi h2 hml hP hfr
def InvC.stands{n:Nat}{P:D.Op->Prop}{Rs:Y D.N}{W zD:Y D.c}{i:Nat}(h:InvC n P Rs W)(hi:i<n)(hV:∀m∈zD,m.Z=1/\m.w=i/\0<=m.To/\m.To<n/\m.Q=(V Rs i).Q+1/\m.z=(V Rs i).j.length/\m.FT=Xi (V Rs i).j):InvC n P (Rs.set i (if n / 2+1=1 then Qg1 n (Vt n (V Rs i))else Vt n (V Rs i))) (W++zD):=
 h.of hi rfl fun g x=>x.stands hi hV
def appV(r:D.N)(j:Nat):D.c:=⟨3,r.S,j,r.Q,V r.E8 j,if 0<V r.E8 j then trm r.j ((V r.E8 j).toNat - 1)else 0,r.d,r.j.drop (V r.E8 j).toNat,false⟩
def InvC.beat(h:InvC n P Rs W)(hi:i<n)(h2:(V Rs i).FA=2)(hM:∀j,j<n->0<=V (V Rs i).E8 j/\V (V Rs i).E8 j<=(V Rs i).j.length)(hV:∀m∈zD,∃j,j<n/\m=appV (V Rs i) j):InvC n P Rs (W++zD):=by
 obtain⟨a,g,b⟩:=h
 refine⟨a,g,b.add fun m hm=>?_⟩
 obtain⟨j,hj,rfl⟩:=hV m hm
 exact b.sends hi h2 ⟨by show(0:Int)<=j;omega,by show(j:Int)<n;omega⟩ (b.rep i hi).id rfl rfl (hM j hj) rfl (fun x=>iB x) rfl
def comV(r:D.N):Y D.Op:=(r.j.take r.d.toNat).map fun e=>e.Op
end
def Grows(r r':D.N):Prop:=r.d<=r'.d/\r'.j.take r.d.toNat=r.j.take r.d.toNat
section
def Grows.same(h:r'.d=r.d)(h2:r'.j=r.j):Grows r r':=⟨U,by rw[h2]⟩
def Grows.trans(h:Grows r r')(h2:Grows r' r''):Grows r r'':=
 ⟨Cq h.1 h2.1,(QeM h2.2 (by have:=h.1;omega)).trans h.2⟩
def InvC.com_le(h:InvC n P Rs W)(hi:i<n):0<=(V Rs i).d/\(V Rs i).d<=(V Rs i).j.length:=by
 obtain⟨a,g,b⟩:=h
 have hr:=b.rep i hi
 have:=hr.com0
 rcases hr.com with x|⟨_,_,_,_,_,x,_⟩<;>omega
def Grows.fol:Grows r (folV r t):=.same QoT QkU
def Qiy:(hrdV r m).d=r.d/\(hrdV r m).j=r.j:=by
 unfold hrdV;split<;>exact⟨QoT,QkU⟩
def Grows.hrd:Grows r (hrdV r m):=.same Qiy.1 Qiy.2
def Grows.hear:Grows r (VP r m).1:=by
 unfold VP;simp only;split<;>exact .same QoT QkU
def Grows.voted:Grows r (Wg n r m):=by
 unfold Wg;split
 .exact .fol
 split
 .exact .same rfl rfl
 split<;>exact .same rfl rfl
def Grows.back:Grows r (Qv4 r):=.same rfl rfl
def Grows.stands:Grows r (if n / 2+1=1 then Qg1 n (Vt n r)else Vt n r):=by split<;>exact .same rfl rfl
def Grows.prop(h:0<=r.d/\r.d<=r.j.length):Grows r (prpV n r o):=by
 refine⟨?_,?_⟩
 .simp only[prpV];split<;>omega
 .show(r.j++[_]).take _=_
  grind
def Grows.take(h:0<=r.d/\r.d<=r.j.length)(hk:(hrdV r m).d<=(Qaw (hrdV r m).j m.z.toNat m.q).2):Grows r { hrdV r m with j:=(Qaw (hrdV r m).j m.z.toNat m.q).1,d:=max (hrdV r m).d (min m.d (m.z+m.q.length)) }:=by
 obtain⟨a,b⟩:=Qiy (r:=r) (m:=m)
 rw[a,b]at hk
 refine⟨by show _<=max _ _;rw[a];omega,?_⟩
 show(Qaw (hrdV r m).j _ _).1.take _=_
 rw[b]
 unfold Qaw at hk |-
 grind
def Grows.acked(h:0<=r.d):Grows r (Ul n r m):=by
 unfold Ul;split
 .exact .fol
 split
 .exact .same rfl rfl
 .refine⟨?_,rfl⟩
  show r.d<=((topV _ _ _:Nat):Int)
  rcases QmU (P:=Qh5 n r (Ur r m)) (lo:=r.d.toNat) (k:=r.j.length)with z|⟨z,_⟩<;>omega
end
open Go AM
def XK(b c:AH)(r:D.N)(m:D.c):D.N×I D.c:=
 if b=false\/m.z<0\/m.FT<0\/m.d<0 then(r,none)
 else if m.Q=(hrdV r m).Q/\(hrdV r m).FA≠2/\m.z<=(hrdV r m).j.length/\(m.z=0\/trm (hrdV r m).j (m.z.toNat - 1)=m.FT)then
  if c=false\/((Qaw (hrdV r m).j m.z.toNat m.q).2:Int)<(hrdV r m).d then(r,none)
  else({ hrdV r m with j:=(Qaw (hrdV r m).j m.z.toNat m.q).1,d:=max (hrdV r m).d (min m.d (m.z+m.q.length)) },some ⟨4,r.S,m.w,(hrdV r m).Q,m.z+m.q.length,0,0,[],true⟩)
 else(hrdV r m,some ⟨4,r.S,m.w,(hrdV r m).Q,0,0,0,[],false⟩)
def Zf(n:Nat)(b c:AH)(r:D.N)(m:D.c):D.N×I D.c:=
 if m.Z=1 then(if b=false then(r,none)else((VP r m).1,some (VP r m).2))
 else if m.Z=2 then(if b=false then r else Wg n r m,none)
 else if m.Z=3 then XK b c r m
 else if m.Z=4 then(if b=false then r else Ul n r m,none)
 else(r,none)
section
def Qzw{Rs:Y D.N}{i:Nat}(h:i<Rs.length):Rs.set i (V Rs i)=Rs:=by
 apply Cg
 intro j
 by_cases e:j=i
 .subst e;simp[V,h]
 .grind
def InvC.stay(h:InvC n P Rs W)(hi:i<n)(hs:∀m∈zD,m∈W):InvC n P (Rs.set i (V Rs i)) (zD++[]):=by
 rw[Qzw (by rw[h.1];exact hi),An];exact h.sub hs
def Qsu{W zD A:Y D.c}(hs:∀m∈zD,m∈W):∀m∈zD++A,m∈W++A:=fun m hm=>(Af.1 hm).elim (fun x=>Af.2 (.inl (hs m x))) fun x=>Af.2 (.inr x)
def InvC.handle(h:InvC n P Rs W)(hi:i<n)(hm:m∈W)(hto:m.To=i)(hne:m.w≠i)(hs:∀m∈zD,m∈W)(hml:(V Rs i).FA=2->(V Rs i).E8.length=n):InvC n P (Rs.set i (Zf n b c (V Rs i) m).1) (zD++(Zf n b c (V Rs i) m).2.toList)/\Grows (V Rs i) (Zf n b c (V Rs i) m).1:=by
 have hc:=h.com_le hi
 unfold Zf
 split
 .next hk=>
  split
  .exact⟨h.stay hi hs,.same rfl rfl⟩
  .exact⟨(h.hear hi hm hk hto hne).sub (Qsu hs),.hear⟩
 split
 .next hk=>
  simp only[E3]
  split
  .exact⟨h.stay hi hs,.same rfl rfl⟩
  .exact⟨by rw[An];exact(h.voted hi hm hk hto).sub hs,.voted⟩
 split
 .next hk=>
  unfold XK
  split
  .exact⟨h.stay hi hs,.same rfl rfl⟩
  split
  .next x=>
   obtain⟨x1,x2,x3,x4⟩:=x
   split
   .exact⟨h.stay hi hs,.same rfl rfl⟩
   .next y=>
    have y:(hrdV (V Rs i) m).d<=(Qaw (hrdV (V Rs i) m).j m.z.toNat m.q).2:=Int.not_lt.1 fun z=>y (.inr z)
    exact⟨(h.take hi hm hk hto x2 x1 x3 x4 y).sub (Qsu hs),.take hc y⟩
  .exact⟨(h.refuse hi hm hto).sub (Qsu hs),.hrd⟩
 split
 .next hk=>
  simp only[E3]
  split
  .exact⟨h.stay hi hs,.same rfl rfl⟩
  .exact⟨by rw[An];exact(h.acked hi hm hk hto hml).sub hs,.acked hc.1⟩
 .exact⟨h.stay hi hs,.same rfl rfl⟩
end
def Ql5:∀{zI:Nat} {l:Y Int},l.Nodup->(∀x∈l,1<=x/\x<=zI)->l.length<=zI
 |0,l,_,hb=>by
  cases l with
  |nil=>simp
  |cons a r=>have:=hb a Ob;omega
 |zI+1,l,h,hb=>by
  by_cases hm:((zI+1:Nat):Int)∈l
  .have h2:(l.erase ((zI+1:Nat):Int)).length<=zI:=Ql5 (h.erase _) fun x hx=>by
    have h3:=(h.mem_erase_iff).1 hx
    have:=hb x h3.2
    have h4:x≠((zI+1:Nat):Int):=h3.1
    omega
   rw[E4 hm]at h2
   omega
  .have:=Ql5 (zI:=zI) h fun x hx=>by
    have:=hb x hx
    have h4:x≠((zI+1:Nat):Int):=fun e=>hm (e ▸ hx)
    omega
   omega
def Ql6:∀{E l:Y Int},l.Nodup->(∀x∈l,x∈E)->l.length<=E.length
 |[],l,_,h=>by
  cases l with
  |nil=>simp
  |cons a r=>exact absurd (h a Ob) Ob
 |a::E,l,h,hb=>by
  by_cases hm:a∈l
  .have h2:(l.erase a).length<=E.length:=Ql6 (h.erase _) fun x hx=>by
    have h3:=(h.mem_erase_iff).1 hx
    exact(AZ.1 (hb x h3.2)).resolve_left h3.1
   rw[E4 hm]at h2
   simp;omega
  .have:=Ql6 (E:=E) h fun x hx=>(AZ.1 (hb x hx)).resolve_left fun e=>hm (e ▸ hx)
   simp;omega
def InvC.short{n:Nat}{P:D.Op->Prop}{Rs:Y D.N}{W:Y D.c}{i zI:Nat}(h:InvC n P Rs W)(hi:i<n)(hP:∀o,P o->1<=o.S/\o.S<=zI):(V Rs i).j.length<=zI:=by
 have:=Ql5 (h.log hi).2 (zI:=zI) fun x hx=>by
  obtain⟨e,he,rfl⟩:=BQ.1 hx
  exact hP _ ((h.log hi).1 e he)
 simpa using this
def Wd(W:Y D.c):Nat:=(W.map fun m=>if m.Z=1\/m.Z=3 then 2 else 1).sum
def QlC:Wd (zD++W)=Wd zD+Wd W:=by simp[Wd]
def Qtk:Wd W<=2*W.length:=by
 induction W with
 |nil=>simp[Wd]
 |cons m W ih=>simp only[Wd,AU,Cc,Ad]at ih |-;split<;>omega
def Qqx:Wd (W++(Zf n b c r m).2.toList)<Wd (m::W):=by
 have e:Wd (m::W)=(if m.Z=1\/m.Z=3 then 2 else 1)+Wd W:=by simp[Wd]
 have e2:Wd (Zf n b c r m).2.toList<(if m.Z=1\/m.Z=3 then 2 else 1):=by
  unfold Zf
  by_cases h1:m.Z=1
  .rw[iB h1,iB (Or.inl h1)];split<;>simp[Wd,VP]
  rw[iA h1]
  by_cases h2:m.Z=2
  .rw[iB h2];simp[Wd];split<;>omega
  rw[iA h2]
  by_cases h3:m.Z=3
  .rw[iB h3,iB (Or.inr h3)];unfold XK
   split
   .simp[Wd]
   split
   .split<;>simp[Wd]
   .simp[Wd]
  rw[iA h3]
  split
  .simp[Wd];split<;>omega
  .simp[Wd];split<;>omega
 rw[QlC,e];omega
open Go AM
section
variable {n fu:Nat} {r:D.N} {m:D.c} {o:D.Op} {L E:Y D.m} {t k x:Int}
def quoV(x:Int):Int:=if inV x 1 5=true then x / 2+1 else 0
def QhW:X4 fu x=some (quoV x):=by
 refine Ok.eq ?_
 unfold X4 quoV
 refine Ok.oe rin (Ok.ncnd (fun g=>Ok.s ?_) (fun g=>?_))
 .rw[g];rfl
 .have h:=Qu.1 g
  rw[iB g]
  have e:Int.tdiv x 2=x / 2:=Bv U
  rw[e,Qb (x:=x / 2) U,Qb (x:=x / 2+1) U]
  exact Ok.Z (Ok.s rfl)
def Qn3(h:1<=n/\n<=5):quoV n=((n / 2+1:Nat):Int):=by
 unfold quoV
 rw[iB (Qu.2 U)];omega
def QCA(h:quoV n≠0):1<=n/\n<=5:=by
 unfold quoV at h
 split at h
 .next g=>have:=Qu.1 g;omega
 .exact absurd rfl h
def Qwz(hl:L.length<=900):Ok (Y6 1000 L t) fun b=>b=true->L.length<=256:=by
 unfold Y6
 refine Ok.loop (fun m x=>∃(i:Nat) (z:Int),x=((L,t,z,(i:Int),()),())/\i<=L.length/\m=L.length - i) (m:=L.length) U ⟨0,1,rfl,U,rfl⟩ ?_
 rintro m x ⟨i,z,rfl,h1,rfl⟩ K hK
 dsimp only
 refine Ok.ite (fun g=>Ok.j ?_) (fun g=>Ok.s fun h=>by have:=BF h;omega)
 have hi:i<L.length:=U
 refine Ok.atn hi (Ok.ite (fun _=>Ok.s Ob) fun _=>Ok.atn hi (Ok.ite (fun _=>Ok.s Ob) fun _=>?_))
 dsimp only
 refine Ok.atn hi ?_
 rw[Qa U]
 exact hK _ _ U ⟨i+1,_,rfl,U,rfl⟩
structure CkR (n:Nat) (r:D.N):Prop where
 sz:1<=n/\n<=5
 id:0<=r.S/\r.S<n
 term:0<=r.Q/\r.Q<=1048576
 log:r.j.length<=256
 com:0<=r.d/\r.d<=r.j.length
 vote:r.FQ.length<=5
 cand:r.FA=1->r.FQ.length=n
 mat:r.E8.length<=5
 ldr:r.FA=2->r.E8.length=n/\∀j,j<n->0<=V r.E8 j/\V r.E8 j<=r.j.length
def Qwc(hl:r.j.length<=900):Ok (Yy 1000 n r) fun b=>b=true->CkR n r:=by
 unfold Yy
 have no:∀{Q:Prop},false=true->Q:=fun h=>by simp at h
 refine Ok.j (Ok.oe QhW (Ok.ite (fun g=>Ok.s no) fun g=>?_))
 have hn:=QCA g
 rw[Qb (x:=(n:Int) - 1) U]
 refine Ok.oe rin (Ok.C (fun g1=>?_) fun _=>Ok.s no)
 refine Ok.oe rin (Ok.C (fun g2=>?_) fun _=>Ok.s no)
 refine Ok.oe rin (Ok.C (fun g3=>?_) fun _=>Ok.s no)
 refine Ok.opt (Qwz hl) fun b hb=>Ok.C (fun g4=>?_) fun _=>Ok.s no
 refine Ok.oe rin (Ok.C (fun g5=>?_) fun _=>Ok.s no)
 have h1:=Qu.1 g1;have h2:=Qu.1 g2;have h5:=Qu.1 g5;have h4:=hb g4
 dsimp only
 refine Ok.ite (fun r0=>Ok.ite (fun v0=>Ok.ite (fun m0=>Ok.s fun _=>?_) fun _=>Ok.s no) fun _=>Ok.s no) fun r0=>Ok.ite (fun r1=>Ok.ite (fun v1=>Ok.at U U (Ok.C (fun _=>Ok.ite (fun m1=>Ok.s fun _=>?_) fun _=>Ok.s no) fun _=>Ok.s no)) fun _=>Ok.s no) fun r1=>Ok.ite (fun r2=>?_) fun _=>Ok.s no
 .exact⟨hn,U,U,h4,U,U,fun e=>U,U,fun e=>U⟩
 .exact⟨hn,U,U,h4,U,U,fun e=>U,U,fun e=>U⟩
 .refine Ok.j (Ok.ite (fun _=>Ok.s no) fun v2=>Ok.at U U (Ok.C (fun _=>Ok.ite (fun _=>Ok.s no) fun m2=>Ok.at U U (Ok.ite (fun _=>Ok.s no) fun _=>?_)) fun _=>Ok.s no))
  dsimp only
  refine Ok.loop (fun m x=>∃i:Nat,x=(((n:Int),(i:Int),()),r,())/\i<=n/\(∀j,j<i->0<=V r.E8 j/\V r.E8 j<=r.j.length)/\m=n - i) (m:=n) U ⟨0,rfl,U,fun j hj=>U,rfl⟩ ?_
  rintro m x ⟨i,rfl,i1,i2,rfl⟩ K hK
  dsimp only
  refine Ok.ite (fun g=>Ok.A (Ok.oe rin (Ok.ncnd (fun _=>Ok.s no) fun g6=>?_))) fun g=>Ok.s fun _=>?_
  .rw[Qa U]
   have h6:=Qu.1 g6
   exact hK _ _ U ⟨i+1,rfl,U,fun j hj=>by
    by_cases e:j=i
    .subst e;exact h6
    .exact i2 j U,rfl⟩
  .exact⟨hn,U,U,h4,U,U,fun e=>U,U,fun _=>⟨U,fun j hj=>i2 j U⟩⟩
def CkR.copy(h:CkR n r):Wq fu r=some r:=by
 have h1:=h.log;have h2:=h.vote;have h3:=h.mat
 exact Ok.eq (Ok.L (Ok.L (Ok.L (Ok.s rfl))))
def CkR.copyP(h:CkR n r):QdI fu r=some r:=h.copy (fu:=fu)
def Qtu:QaF fu r t=some (folV r t):=by
 refine Ok.eq ?_
 unfold QaF folV
 refine Ok.j (Ok.ite (fun g=>Ok.s ?_) fun g=>Ok.s ?_)
 .rw[iB g]
 .rw[iA g]
def QwZ(hn:n<=5)(hid:0<=r.S/\r.S<n):Qi0 fu n r=some (Qg1 n r):=by
 refine Ok.eq ?_
 unfold Qi0
 exact Ok.natn (Ok.L (Ok.nat hid.1 (Ok.lt (by simp;omega) (Ok.get (by simp;omega) (Ok.s rfl)))))
def QoX(hl:r.j.length<=900):Qet fu r=some (Xi r.j):=by
 refine Ok.eq ?_
 unfold Qet
 rw[QiB]
 refine Ok.ite (fun g=>Ok.s (by rw[iB U])) fun g=>?_
 rw[Qb U]
 refine Ok.at U U (Ok.s ?_)
 simp_all
def QyN(hl:r.j.length<=900):QdJ fu r m.z m.FT=some (decide (QqR r m)):=by
 refine Ok.eq ?_
 unfold QdJ
 refine Ok.oe (QoX hl) (Ok.ite (fun g=>Ok.s ?_) fun g=>Ok.oe (QoX hl) (Ok.ite (fun g2=>Ok.ite (fun g3=>Ok.s ?_) fun g3=>Ok.s ?_) fun g2=>Ok.s ?_))
 all_goals simp[*,QqR]
structure CkM (n:Nat) (r:D.N) (m:D.c) (k:Int):Prop where
 rep:CkR n r
 kind:m.Z=k
 to:m.To=r.S
 from0:0<=m.w/\m.w<n
 ne:m.w≠r.S
 term:1<=m.Q/\m.Q<=1048576
def AM.Ok.self{α:Type}{o:I α}{Q:α->Prop}(h:Ok o Q):Ok o fun x=>Q x/\o=some x:=by obtain⟨v,e,q⟩:=h;exact⟨v,e,q,e⟩
def QzI(hl:r.j.length<=900):Ok (U2 1000 n r m k) fun b=>b=true->CkM n r m k:=by
 unfold U2
 have no:∀{Q:Prop},false=true->Q:=fun h=>by simp at h
 refine Ok.opt (Qwc hl) fun b hb=>Ok.C (fun g=>?_) fun _=>Ok.s no
 have hc:=hb g
 have hn:=hc.sz
 rw[Qb (x:=(n:Int) - 1) U]
 refine Ok.ite (fun g1=>Ok.ite (fun g2=>Ok.oe rin (Ok.C (fun g3=>Ok.ite (fun g4=>Ok.oe rin (Ok.C (fun g5=>Ok.s fun _=>?_) fun _=>Ok.s no)) fun _=>Ok.s no) fun _=>Ok.s no)) fun _=>Ok.s no) fun _=>Ok.s no
 have h3:=Qu.1 g3
 exact⟨hc,g1,g2,U,g4,Qu.1 g5⟩
def outM(x:D.N×D.c×AH):D.N×I D.c:=(x.1,if x.2.2=true then some x.2.1 else none)
def QBc(hc:CkR n r):Ok (Qk6 1000 n r m) fun x=>∃b,(b=true->CkM n r m 1)/\(outM x=if b=false then(r,none)else((VP r m).1,some (VP r m).2))/\U2 1000 n r m 1=some b:=by
 have hl:r.j.length<=900:=by have:=hc.log;omega
 unfold Qk6
 refine Ok.opt (QzI hl).self fun b ⟨hb,hto⟩=>Ok.ncnd (fun g=>Ok.oe hc.copy (Ok.s ⟨false,Ob,rfl,by rw[hto,g]⟩)) fun g=>Ok.oe hc.copyP (Ok.oe Qtu ?_)
 have hf:(folV r m.Q).j.length<=900:=by rw[QkU];exact hl
 refine Ok.TG (fun y=>∃w w',y=((yesV (folV r m.Q) m,()),r,m,w,w',folV r m.Q,())) (fun y hy=>?_) fun zG hJ=>?_
 .obtain⟨w,w',rfl⟩:=hy
  dsimp only
  refine Ok.TG (fun y=>∃w w',y=((yesV (folV r m.Q) m,()),r,m,w,w',(VP r m).1,())) (fun y hy=>?_) fun zG hJ=>?_
  .obtain⟨w,w',rfl⟩:=hy
   refine Ok.s ⟨true,fun _=>hb g,?_,by rw[hto,g]⟩
   have:(VP r m).1.Q=(folV r m.Q).Q:=by unfold VP;simp only;split<;>rfl
   simp only[outM,this];rfl
  .refine Ok.C (fun g=>hJ _ ⟨w,w',?_⟩) fun g=>hJ _ ⟨w,w',?_⟩
   .simp[VP,g]
   .simp[VP,g]
 .have yes:∀{c:AH} {w:D.N} {w':D.c},yesV (folV r m.Q) m=c->Ok (zG ((c,()),r,m,w,w',folV r m.Q,())) fun x=>∃b,(b=true->CkM n r m 1)/\(outM x=if b=false then(r,none)else((VP r m).1,some (VP r m).2))/\U2 1000 n r m 1=some b:=fun h=>hJ _ ⟨_,_,by rw[h]⟩
  have fr:∀{w:D.N} {w':D.c},(folV r m.Q).Q=m.Q->((folV r m.Q).FZ = -1\/(folV r m.Q).FZ=m.w)->(folV r m.Q).FA=0->Ok (O (QdJ 1000 (folV r m.Q) m.z m.FT) fun c=>C c (zG ((true,()),r,m,w,w',folV r m.Q,())) (zG ((false,()),r,m,w,w',folV r m.Q,()))) fun x=>∃b,(b=true->CkM n r m 1)/\(outM x=if b=false then(r,none)else((VP r m).1,some (VP r m).2))/\U2 1000 n r m 1=some b:=fun h1 h2 h3=>Ok.oe (QyN hf) (Ok.C (fun g=>yes (Ax ⟨h1,h2,h3,BF g⟩)) fun g=>yes (Au fun h=>BM g h.2.2.2))
  refine Ok.ite (fun g1=>Ok.ite (fun g2=>Ok.ite (fun g4=>fr g1 (.inl g2) g4) fun g4=>yes (Au fun h=>g4 h.2.2.1)) fun g2=>Ok.ite (fun g3=>Ok.ite (fun g4=>fr g1 (.inr g3) g4) fun g4=>yes (Au fun h=>g4 h.2.2.1)) fun g3=>yes (Au fun h=>h.2.1.elim g2 g3)) fun g1=>yes (Au fun h=>g1 h.1)
def Vw{P:Nat->AH}{i:Nat}:(List.range (i+1)).countP P=(List.range i).countP P+(if P i=true then 1 else 0):=by
 rw[List.range_succ,List.countP_append];simp[List.countP_cons]
def Qfq{P:Nat->AH}{i:Nat}:(List.range i).countP P<=i:=by
 have:=List.countP_le_length (p:=P) (l:=List.range i);simpa using this
def QzN(hc:CkR n r):Ok (QiZ 1000 n r m) fun x=>∃b,(b=true->CkM n r m 2)/\(x=if b=false then r else Wg n r m)/\U2 1000 n r m 2=some b:=by
 have hl:r.j.length<=900:=by have:=hc.log;omega
 have hn:=hc.sz
 unfold QiZ
 refine Ok.oe hc.copy (Ok.opt (QzI hl).self fun b ⟨hb,hto⟩=>Ok.ncnd (fun g=>Ok.s ⟨false,Ob,rfl,by rw[hto,g]⟩) fun g=>?_)
 have hm:=hb g
 have fin:∀y,y=Wg n r m->∃b,(b=true->CkM n r m 2)/\(y=if b=false then r else Wg n r m)/\U2 1000 n r m 2=some b:=fun y h=>⟨true,fun _=>hm,by rw[h];rfl,by rw[hto,g]⟩
 refine Ok.ite (fun g1=>Ok.oe Qtu (Ok.s (fin _ (by unfold Wg;rw[iB g1])))) fun g1=>Ok.j (Ok.ite (fun g2=>Ok.s (fin _ (by unfold Wg;rw[iA g1,iB (.inl g2)]))) fun g2=>Ok.ite (fun g3=>Ok.s (fin _ (by unfold Wg;rw[iA g1,iB (.inr (.inl g3))]))) fun g3=>Ok.C (fun g4=>?_) fun g4=>Ok.s (fin _ (by unfold Wg;rw[iA g1,iB (.inr (.inr g4))])))
 have e2:r.FA=1:=Ak.1 g2
 have e3:m.Q=r.Q:=Ak.1 g3
 have hv:=hc.cand e2
 have hfm:=hm.from0
 dsimp only
 refine Ok.nat hfm.1 (Ok.E (Ok.G ?_))
 obtain⟨zD,hV⟩:∃zD,zD=r.FQ.set m.w.toNat true:=⟨_,rfl⟩
 have hVl:zD.length=n:=by rw[hV,CL];exact hv
 rw[<-hV]
 have hres:Wg n r m=if n / 2+1<=(List.range n).countP (fun j=>V zD j)then Qg1 n { r with FQ:=zD }else{ r with FQ:=zD }:=by
  unfold Wg
  simp_all
 refine Ok.run n (fun i=>(((n:Int),(((List.range i).countP fun j=>V zD j:Nat):Int),(i:Int),()),D.N.mk 0 0 0 0 [] 0 [] [],(r.S,r.Q,r.FZ,r.FA,r.d,()),r.j,zD,r.E8,())) rfl U (fun i hi K hK=>?_) (fun K=>?_)
 .have hcl:=Qfq (P:=fun j=>V zD j) (i:=i)
  dsimp only
  refine Ok.P (Ok.j (Ok.natn (Ok.E (Ok.G (Ok.C (fun g5=>?_) fun g5=>?_)))))
  .dsimp only at hK |-
   rw[Vw,iB g5]at hK
   rw[Qa U,Qa U]
   exact hK
  .dsimp only at hK |-
   rw[Vw,iA (by simp[g5])]at hK
   rw[Qa U]
   exact hK
 .dsimp only
  refine Ok.N (Ok.j (Ok.oe QhW ?_))
  rw[Qn3 hn]
  refine Ok.ite (fun g5=>Ok.oe (QwZ (r:=D.N.mk r.S r.Q r.FZ r.FA r.j r.d zD r.E8) hn.2 hc.id) (Ok.s (fin _ ?_))) fun g5=>Ok.s (fin _ ?_)
  .grind
  .grind
def Qzz(hl:r.j.length<=900):Ok (QiX 1000 n r) fun x=>(x.2.2=0->CkR n r/\r.Q<1048576/\x.1=(if n / 2+1=1 then Qg1 n (Vt n r)else Vt n r)/\x.2.1.length<=5/\(∀m∈x.2.1,m.Z=1/\m.w=r.S/\0<=m.To/\m.To<n/\m.Q=r.Q+1/\m.z=r.j.length/\m.FT=Xi r.j/\m.q=[]/\m.To≠r.S)/\∀j:Nat,j<n->(j:Int)≠r.S->∃m∈x.2.1,m.To=j)/\(Yy 1000 n r=some true->r.Q<1048576->x.2.2=0):=by
 unfold QiX
 refine Ok.opt (Qwc hl).self fun b ⟨hb,hbe⟩=>Ok.ncnd (fun g=>Ok.s ⟨fun e=>by simp at e,fun e=>by rw[hbe,g]at e;simp at e⟩) fun g=>Ok.ite (fun g1=>Ok.s ⟨fun e=>by simp at e,fun _ e=>U⟩) fun g1=>?_
 have hc:=hb g
 have hn:=hc.sz;have hid:=hc.id;have ht:=hc.term
 refine Ok.oe hc.copy (Ok.natn (Ok.L (Ok.nat hid.1 (Ok.lt (by simp;omega) (Ok.get (by simp;omega) ?_)))))
 rw[Qb (x:=r.Q+1) U]
 refine Ok.TG (fun y=>∃R z,y=(((n:Int),()),r,z,R,())/\R.Q=r.Q+1/\R=(if n / 2+1=1 then Qg1 n (Vt n r)else Vt n r)) (fun y hy=>?_) fun zG hJ=>Ok.oe QhW (by
  rw[Qn3 hn]
  exact Ok.ite (fun g2=>Ok.oe (QwZ (r:=Vt n r) hn.2 hid) (hJ _ ⟨_,_,rfl,rfl,by rw[iB U]⟩)) fun g2=>hJ _ ⟨_,_,rfl,rfl,by rw[iA U];rfl⟩)
 obtain⟨R,z,rfl,hR,hR2⟩:=hy
 dsimp only
 refine Ok.loop (fun m x=>∃(i:Nat) (zD:Y D.c),x=(((n:Int),(i:Int),()),r,z,R,zD,())/\i<=n/\zD.length<=i/\((∀m∈zD,m.Z=1/\m.w=r.S/\0<=m.To/\m.To<n/\m.Q=r.Q+1/\m.z=r.j.length/\m.FT=Xi r.j/\m.q=[]/\m.To≠r.S)/\∀j:Nat,j<i->(j:Int)≠r.S->∃m∈zD,m.To=j)/\m=n - i) (m:=n) U ⟨0,[],rfl,U,Ob,⟨Ob,fun j hj=>absurd hj U⟩,rfl⟩ ?_
 rintro m x ⟨i,zD,rfl,i1,i2,⟨i3,i4⟩,rfl⟩ K hK
 dsimp only
 refine Ok.ite (fun g=>Ok.j (Ok.ite (fun g2=>Ok.oe (QoX hl) (Ok.LS ?_)) fun g2=>?_)) fun g=>Ok.s ⟨fun _=>⟨hc,U,hR2,by dsimp only;omega,i3,fun j hj=>i4 j U⟩,fun _ _=>rfl⟩
 .dsimp only
  rw[Qa U]
  refine hK _ _ U ⟨i+1,_,rfl,U,by simp;omega,⟨fun m hm=>?_,fun j hj hne=>?_⟩,rfl⟩
  .grind
  .by_cases e:j=i
   .subst e;exact⟨_,Af.2 (.inr (Ai.2 rfl)),rfl⟩
   .obtain⟨m,m1,m2⟩:=i4 j U hne
    grind
 .dsimp only
  rw[Qa U]
  exact hK _ _ U ⟨i+1,_,rfl,U,U,⟨i3,fun j hj hne=>i4 j U hne⟩,rfl⟩
end
end Go.Proofs.YtlllfgmajglnhaaGreat
