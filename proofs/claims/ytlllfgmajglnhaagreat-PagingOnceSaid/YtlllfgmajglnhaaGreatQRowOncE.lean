/-
  Who is on call in a crew: what the reference computes.
-/
import Derived.Test.YtlllfgmajglnhaaGreatQRowOncD
import Derived.Test.YtlllfgmajglnhaaGreatQRowOncC
set_option maxRecDepth 100000
set_option linter.defProp false
set_option linter.constructorNameAsVariable false
set_option linter.unusedVariables false
set_option linter.unusedSimpArgs false
set_option autoImplicit true
set_option relaxedAutoImplicit true
namespace Go.Proofs.YtlllfgmajglnhaaGreat
open Go AM
section
def Qii(off:Int):D.q:=⟨bZ,off,[]⟩
def r4In:Qcl fu n lo hi=some (decide (lo<=n/\n<=hi)):=cnd2
def QxF(ho:Qe6 off):W9 1000 (Qii off)=some ([],0):=by
 rcases ho with rfl|rfl|rfl<;>kernel_rfl
def QBO:QgK 1000 (Qii off) [] t=some off:=by
 refine Ok.eq ?_
 unfold QgK
 refine Ok.j (Ok.run 0 (fun _=>(([],(t,(off,(0,())))),())) rfl U (fun i hi=>absurd hi U) (fun k=>?_))
 exact Ok.j (Ok.NS (Ok.s rfl))
def QAp(ho:Qe6 off)(ht:0<=t/\t<=8589934592):Qaq 1000 (Qii off) t=some (⟨(t+off) / 86400,(t+off) % 86400⟩,0):=by
 have:=ho.le
 have h1:QcX 1000 (Qii off) t=some (off,0):=by
  refine Ok.eq ?_
  unfold QcX
  exact Ok.oe (QxF ho) (Ok.n (by decide) (Ok.oe r4In (Ok.np U (Ok.oe QBO (Ok.s rfl)))))
 refine Ok.eq ?_
 unfold Qaq
 refine Ok.oe h1 (Ok.n (by decide) ?_)
 unfold Qmy
 rw[Qc (x:=t+off) U,Qc (x:=t+off+864000) U,Bz U,Bq U,Qc (x:=(t+off+864000) / 86400) U,Qc U,Qxl U,Qxl U,ZY]
 exact Ok.s (by rw[BJ,D.Fj.mk.injEq];omega)
def QAo(ho:Qe6 off)(hd:1<=d/\d<=1000000)(hs:0<=s/\s<=86399):
  Ok (QdG 1000 (Qii off) ⟨d,s⟩) fun r=>decide (r.2=0)=decide (d*86400+s - off<=8589934592)/\(r.2=0->r.1=d*86400+s - off):=by
 have:=ho.le
 unfold QdG
 refine Ok.oe (QxF ho) (Ok.n (by decide) (Ok.oe r4In (Ok.np (by dsimp only;omega) (Ok.n (by dsimp only;omega) ?_))))
 have hsm:QiU 1000 d=some (decide (-2<=d/\d<=99422)):=by unfold QiU;rw[r4In,ZY]
 refine Ok.oe hsm ?_
 by_cases hd2:d<=99422
 .refine Ok.np U ?_
  refine Ok.loop (fun m x=>x=(([],(-1,())),(Qii off,(⟨d,s⟩,())))/\m=1\/x=(([],(0,())),(Qii off,(⟨d,s⟩,())))/\m=0/\¬d*86400+s - off<=8589934592) (m:=1) U (.inl ⟨rfl,rfl⟩) ?_
  rintro m x (⟨rfl,rfl⟩|⟨rfl,rfl,hno⟩) K hK
  .dsimp only
   refine Ok.PS (Ok.j (Ok.n (by decide) ?_))
   dsimp only
   refine Ok.j (Ok.n (by rw[Qc U];simp) ?_)
   have ew:max 0 (X (X (X (d*86400)+s) - off))=d*86400+s - off:=by
    rw[Qc (x:=d*86400) U,Qc (x:=d*86400+s) U,Qc (x:=d*86400+s - off) U];omega
   by_cases h:d*86400+s - off<=8589934592
   .exact Ok.p (show max 0 (X (X (X (d*86400)+s) - off))<8589934593 by rw[ew];omega) (Ok.s ⟨by simp[h],fun _=>ew⟩)
   .exact Ok.n (show ¬max 0 (X (X (X (d*86400)+s) - off))<8589934593 by rw[ew];omega) (hK 0 _ U (.inr ⟨rfl,rfl,h⟩))
  .dsimp only
   exact Ok.NS (Ok.s ⟨by simp;omega,fun h=>by simp at h⟩)
 .refine Ok.nn U (Ok.s ⟨by simp;omega,fun h=>by simp at h⟩)
def QDe(hl:Y3 l)(ho:Qe6 off)(hk:0<=k/\k<=200000)(hu:l.Unit=1):
  Ok (QcZ 1000 (Qii off) l k) fun r=>r.2=decide (Xc off l k<=8589934592)/\(r.2=true->r.1=Xc off l k):=by
 have:=ho.le
 have h1:=hl.day;have h2:=hl.second;have h4:=hl.every
 unfold QcZ
 refine Ok.N (Ok.j (Ok.N ?_))
 dsimp only
 have hE:l.FN=1\/l.FN=2\/l.FN=3:=U
 have hh:Xc off l k=(l.R.Fm+k*l.FN)*86400+l.R.Fb - off:=(QtX (QmZ hu)).symm
 have hb:0<=k*l.FN/\k*l.FN<=600000:=by rcases hE with e|e|e<;>rw[e]<;>omega
 rw[Qc (x:=k*l.FN) U,Qc (x:=l.R.Fm+k*l.FN) U]
 refine Ok.opt (QAo (d:=l.R.Fm+k*l.FN) (s:=l.R.Fb) ho U U) fun⟨v,b⟩ ⟨g1,g2⟩=>?_
 rw[<-hh]at g1 g2
 refine Ok.s ⟨g1,fun h=>g2 (BF h)⟩
def QCI(hl:Y3 l)(ho:Qe6 off)(ht:0<=t/\t<=8589934592):QiX 1000 (Qii off) l t=some (Z9 off l t):=by
 have hoo:=ho.le
 have h1:=hl.day;have h2:=hl.second;have h4:=hl.every
 have hf:=QiA (off:=off) hl ho
 have h0:Xc off l 0=YJ off l:=by unfold Xc;omega
 have hfd:YJ off l=l.R.Fm*86400+l.R.Fb - off:=rfl
 have e3:=Qr6 (t:=t) hl ho U
 refine Ok.eq ?_
 unfold QiX
 rcases hl.unit with hu|hu
 .refine Ok.p hu (Ok.j ?_)
  refine Ok.opt (QAo (d:=l.R.Fm) (s:=l.R.Fb) ho U U) fun⟨v,b⟩ ⟨g1,g2⟩=>?_
  dsimp only at g1 g2 |-
  have hb:b=0:=by
   grind
  rw[g2 hb,<-hfd]
  refine Ok.p hb (Ok.ite (fun hle=>?_) (fun hgt=>Ok.s ?_))
  .have e1:X (3600*l.FN)=3600*l.FN:=Qc U
   rw[e1]
   refine Ok.Z ?_
   rw[Qc (x:=t - YJ off l) U,Bz U]
   have e2:(t - YJ off l) / (3600*l.FN)=Z9 off l t:=by unfold Z9;rw[iA U,Qj5 hu]
   rw[e2,Qc U]
   exact Ok.s rfl
  .exact(Qqe (by rw[h0];omega)).symm
 .refine Ok.N (Ok.oe (QAp ho ht) (Ok.j (Ok.N ?_)))
  dsimp only
  obtain⟨dy,hD⟩:∃dy,(t+off) / 86400=dy:=⟨_,rfl⟩
  rw[hD]
  have hDb : -1<=dy/\dy<=99422:=U
  refine Ok.j (Ok.Z ?_)
  rw[Qc (x:=dy+2) U,Qc (x:=dy+2 - l.R.Fm) U,Bz U]
  obtain⟨k0,hk0⟩:∃k0,max (dy+2 - l.R.Fm) 0 / l.FN=k0:=⟨_,rfl⟩
  rw[hk0]
  have hE:l.FN=1\/l.FN=2\/l.FN=3:=U
  have hlin:∀k,Xc off l k=YJ off l+86400*l.FN*k:=fun k=>(QtY hl).2 hu
  have hk:0<=k0/\k0<=99424/\(∀k,0<=k->k<=k0 - 3->Xc off l k<=t)/\t<Xc off l (k0+1):=by
   grind
  obtain⟨k1,k2,k3,k4⟩:=hk
  rw[Qc (x:=k0) U]
  refine Ok.loop (fun m x=>∃k,x=((t,k,()),Qii off,l,())/\-1<=k/\k<=k0/\(k = -1\/k0 - 3<=k)/\t<Xc off l (k+1)/\m=(k - (k0 - 4)).toNat) (m:=4) U ⟨k0,rfl,U,U,U,k4,U⟩ ?_
  rintro m x ⟨k,rfl,a1,a2,a3,a4,rfl⟩ K hK
  dsimp only
  refine Ok.ite (fun hpos=>?_) (fun hz=>?_)
  .refine Ok.j (Ok.opt (QDe (k:=k) hl ho U hu) fun⟨v,b⟩ ⟨g1,g2⟩=>?_)
   dsimp only at g1 g2 |-
   have down:¬Xc off l k<=t->Ok (K ((t,X (k - 1),()),Qii off,l,())) (·=Z9 off l t):=fun hgt=>by
    rw[Qc (x:=k - 1) U]
    have hne:¬k<=k0 - 3:=fun h=>hgt (k3 k hpos h)
    exact hK _ _ U ⟨k - 1,rfl,U,U,U,by rw[show k - 1+1=k by omega];omega,rfl⟩
   by_cases hm:Xc off l k<=8589934592
   .have hb:b=true:=by rw[g1];simp[hm]
    subst hb
    rw[g2 rfl]
    refine Ok.t (Ok.ite (fun hle=>?_) (fun hgt=>down hgt))
    exact Ok.s (Qqd hl hpos hle a4).symm
   .have hb:b=false:=by rw[g1];simp[hm]
    subst hb
    exact Ok.f (down U)
  .obtain rfl:k = -1:=U
   exact Ok.s (Qqe (by simpa using a4)).symm
def QzB(hl:Y3 l)(ho:Qe6 off):QiW 1000 (Qii off) l=some 0:=by
 have h1:=hl.day;have h2:=hl.second;have h3:=hl.unit;have h4:=hl.every;have h5:=hl.len
 have hz:QdF 1000 (Qii off)=some 0:=by unfold QdF;rw[QxF ho,ZY]
 refine Ok.eq ?_
 unfold QiW
 (repeat(first|with_reducible refine Ok.j ?_|with_reducible refine Ok.oe (hz) ?_|(with_reducible refine Ok.n ?hh ?_;case hh=>(first|omega|decide|assumption|(dsimp only;omega)|(simp;done)))))
 exact Ok.s rfl
def QDf(h:Ze n c)(hl:Y3 l)(ht:0<=t/\t<=8589934592):Qk7 1000 c l t=some (if Z9 (Xd c) l t<0 then(0,false)else(Z9 (Xd c) l t,true)):=by
 have hS:QfY 1000 (Qii (Xd c)) l t=some (Z9 (Xd c) l t,0):=by
  refine Ok.eq ?_
  unfold QfY
  refine Ok.oe (QzB hl h.offs) (Ok.n (by decide) (Ok.j (Ok.N (Ok.N ?_))))
  exact Ok.oe (QCI hl h.offs ht) (Ok.s rfl)
 refine Ok.eq ?_
 unfold Qk7
 rw[h.zones.1,hl.zone]
 refine Ok.atn (i:=0) Ob (Ok.oe (hS:QfY 1000 (O [(⟨bZ,Xd c,[]⟩:D.q)] 0) l t=_) ?_)
 refine Ok.j (Ok.n (by decide) ?_)
 by_cases hs:Z9 (Xd c) l t<0
 .exact Ok.p hs (Ok.s (by rw[iB hs]))
 .refine Ok.n hs ?_
  rw[hl.win]
  refine Ok.NS ?_
  dsimp only
  exact Ok.p hl.cal.2 (Ok.s (by rw[iA hs]))
def qRaw(h:Ze n c)(hl:Y3 l)(ht:0<=t/\t<=8589934592):QmC 1000 c l t=some (Qea (Xd c) l t):=by
 have hlen:=hl.len
 refine Ok.eq ?_
 unfold QmC
 refine Ok.oe (QDf h hl ht) ?_
 by_cases hs:Z9 (Xd c) l t<0
 .rw[iB hs]
  refine Ok.nf rfl (Ok.s ?_)
  unfold Qea
  rw[iB hs]
 .rw[iA hs]
  refine Ok.nt rfl (Ok.Z ?_)
  rw[QAd hl hs]
  exact Ok.s rfl
def QDc(hs:s.FX.length<900):Qk8 1000 s p t=some (Qlq s.FX p t):=by
 refine Ok.eq ?_
 unfold Qk8
 refine Ok.scan s.FX.length (fun i=>((p,t,(i:Int),()),s,())) (fun i=>Qsv p t (O s.FX i)) rfl U (fun i hi hq _ k=>?_) (fun i hi hq k hk=>?_) (fun hq k=>?_)
 .refine Ok.P (Ok.j (Ok.atn hi ?_))
  have hq':=hq
  simp only[Qsv,bae,BK]at hq'
  exact Ok.p hq'.1.1.1 (Ok.p hq'.1.1.2 (Ok.p hq'.1.2 (Ok.p hq'.2 (Ok.s (by unfold Qlq;rw[Qjt hi hq])))))
 .refine Ok.P (Ok.j (Ok.atn hi ?_))
  dsimp only
  rw[Qa U]
  have hq':¬((O s.FX i).a=0/\(O s.FX i).A=p/\(O s.FX i).v<=t/\t<(O s.FX i).To):=fun⟨a,b,c,d⟩=>by
   simp[Qsv,a,b,c,d]at hq
  refine Ok.ite (fun g1=>Ok.ite (fun g2=>Ok.ite (fun g3=>Ok.ite (fun g4=>absurd ⟨g1,g2,g3,g4⟩ hq') (fun _=>hk)) (fun _=>hk)) (fun _=>hk)) (fun _=>hk)
 .refine Ok.N (Ok.s ?_)
  unfold Qlq
  rw[QnT hq]
def QDd(hs:es.length<900):Qk9 1000 es p t=some (QiD es p t):=by
 refine Ok.eq ?_
 unfold Qk9
 refine Ok.run es.length (fun i=>((es,QiD (es.take i) p t,t,(i:Int),()),())) (by simp[QiD]) U (fun i hi k hk=>?_) (fun k=>?_)
 .refine Ok.P (Ok.j (Ok.atn hi ?_))
  dsimp only
  rw[Qa U]
  rw[Qn8 hi]at hk
  have hfold:∀v,v=Qq9 t (QiD (es.take i) p t) (O es i)->Ok (k ((es,v,t,((i+1:Nat):Int),()),())) (·=QiD es p t):=fun v e=>by rw[e];exact hk
  refine Ok.ite (fun h1=>hfold _ ?_) fun h1=>Ok.ite (fun h2=>hfold _ ?_) fun h2=>Ok.ite (fun h3=>hfold _ ?_) fun h3=>Ok.ite (fun h4=>Ok.ite (fun h5=>hfold _ ?_) fun h5=>Ok.p h4 (Ok.ite (fun h6=>hfold _ ?_) fun h6=>hfold _ ?_)) fun h4=>Ok.n h4 (hfold _ ?_)
  all_goals unfold Qq9
  .rw[iB U]
  .rw[iB U]
  .omega
  .omega
  .omega
  .omega
  .omega
 .refine Ok.N (Ok.s ?_)
  rw[Ad]
def qTop(h:Ze n c)(hn:n<=48)(hi:0<=i/\i<2)(ht:0<=t/\t<=8589934592):Ok (QpL 1000 c i t) fun r=>r.2=layP (Xd c) (O c.f i.toNat) t:=by
 have hsl:=h.slen
 have hs:=h.sch (i:=i.toNat) U
 obtain⟨l,hl1,hl2⟩:=hs.layers
 have hlen:=hs.len
 unfold QpL layP
 refine Ok.at U U ?_
 rw[hl1,show O [l] 0=l from rfl,show X (((List.length [l]:Nat):Int) - 1)=0 from by rw[Qc Ob];simp]
 obtain⟨s,hsd⟩:∃s,O c.f i.toNat=s:=⟨_,rfl⟩
 rw[hsd]at hl1 hlen |-
 refine Ok.loop (fun m x=>x=((t,0,()),c,s,())/\m=1\/x=((t,-1,()),c,s,())/\m=0/\¬(0<=Qea (Xd c) l t/\Qlq s.FX (Qea (Xd c) l t) t=false)) (m:=1) U (.inl ⟨rfl,rfl⟩) ?_
 rintro m x (⟨rfl,rfl⟩|⟨rfl,rfl,hno⟩) K hK
 .dsimp only
  rw[hl1]
  refine Ok.P (Ok.j (Ok.atn (i:=0) Ob (Ok.oe (qRaw h hl2 ht:QmC 1000 c (O [l] 0) t=_) ?_)))
  have hnx:¬(0<=Qea (Xd c) l t/\Qlq s.FX (Qea (Xd c) l t) t=false)->Ok (K ((t,X (0 - 1),()),c,s,())) fun r=>r.2=if 0<=Qea (Xd c) l t/\Qlq s.FX (Qea (Xd c) l t) t=false then Qea (Xd c) l t else -1:=fun hno=>hK 0 _ U (.inr ⟨rfl,rfl,hno⟩)
  refine Ok.ite (fun h1=>Ok.oe (QDc U) (Ok.J (fun h2=>hnx (fun h=>by have:=h.2.symm.trans h2;simp at this)) (fun h2=>Ok.s (by rw[iB ⟨h1,h2⟩];rfl)))) (fun h1=>hnx (fun h=>h1 h.1))
 .dsimp only
  exact Ok.N (Ok.s (by rw[iA hno]))
def QCb(h:Ze n c)(hn:n<=48):QmD 1000 c i t=some (whoV c i t):=by
 have hsl:=h.slen
 have key:Ok (QpM 1000 c i t) (·=whoV c i t):=by
  unfold QpM QxI whoV
  by_cases hc:0<=i/\i<2/\0<=t/\t<=8589934592
  ·(try unfold cd);rw[iB hc,Qft hc.1,Qft U,Qft hc.2.2.1,Qft hc.2.2.2,Qfq h hn,ZY,Qft rfl,ZY]
   refine Ok.nt rfl ?_
   unfold Qs9
   have hs:=h.sch (i:=i.toNat) U
   have hlen:=hs.len
   refine Ok.opt (P:=(·=whoS (Xd c) (O c.f i.toNat) t)) ?_ fun r hr=>Ok.s hr
   refine Ok.opt (qTop h hn ⟨hc.1,hc.2.1⟩ hc.2.2) fun⟨a,p⟩ hp=>?_
   dsimp only at hp |-
   refine Ok.at U U (Ok.oe (QDd U) (Ok.s ?_))
   unfold whoS
   rw[hp]
  .rw[iA hc]
   have hf:AM.J (decide (0<=i)) (AM.J (decide (i<(c.f.length:Int))) (AM.J (decide (0<=t)) (AM.J (decide (t<=8589934592)) (V (UK 1000 c) fun a0=>AM.J (decide (a0=0)) (some true) (some false)) (some false)) (some false)) (some false)) (some false)=some false:=by
    rw[hsl]
    by_cases h1:0<=i
    ·(try unfold cd);rw[Qft h1]
     by_cases h2:i<((2:Nat):Int)
     ·(try unfold cd);rw[Qft h2]
      by_cases h3:0<=t
      ·(try unfold cd);rw[Qft h3,QkA U]
      ·(try unfold cd);rw[QkA h3]
     ·(try unfold cd);rw[QkA h2]
    ·(try unfold cd);rw[QkA h1]
   (try unfold cd);rw[hf,ZY]
   exact Ok.nf rfl (Ok.s rfl)
 unfold QmD
 rw[Ok.eq key,ZY]
end
def QDi(hd : -10<=d/\d<=100000):Qbv 1000 d=some ((d+3) % 7)/\Qer 1000 d=some ((d+3) % 7):=by
 have key:AM.nzc 7 (AM.nzc 7 (some (Int.tmod (X ((Int.tmod d 7)+10)) 7)))=some ((d+3) % 7):=by
  have h1:=Qm3 (a:=d) (n:=7) U
  rw[Qc U,Qxl U,Qxl U,Bq U]
  by_cases h0:0<=d
  .rw[Bq h0];congr 1;omega
  .have e1:Int.tmod d 7 = -((-d) % 7):=by
    rw[show d = -(-d)by omega,EW,Bq U,EX]
   rw[e1];congr 1;omega
 exact⟨key,key⟩
def Qr3(ho:Qe6 off)(ht:0<=t/\t<=8589934592):Wr 1000 ⟨(t+off) / 86400,(t+off) % 86400⟩=some (QbT off t)/\QgM 1000 ⟨(t+off) / 86400,(t+off) % 86400⟩=some (QbT off t):=by
 have:=ho.le
 have hw:=QDi (d:=(t+off) / 86400) U
 unfold Wr QgM QbT
 dsimp only
 rw[hw.1,hw.2,ZY,Qc (x:=((t+off) / 86400+3) % 7*86400) U,Qc U]
 exact⟨rfl,rfl⟩
def QCx(hw:ws.length<900):QeT 1000 ws s=some (QfS ws s):=by
 refine Ok.eq ?_
 unfold QeT
 refine Ok.scan ws.length (fun i=>((s,ws,(ws.length:Int),(i:Int),()),())) (fun i=>decide ((O ws i).v<=s) && decide (s<(O ws i).To)) rfl U (fun i hi hq _ k=>?_) (fun i hi hq k hk=>?_) (fun hq k=>?_)
 .have hq':=hq
  simp only[bae,BK]at hq'
  exact Ok.P (Ok.j (Ok.atn hi (Ok.p hq'.1 (Ok.p hq'.2 (Ok.s (by unfold QfS;rw[Qjt hi hq]))))))
 .refine Ok.P (Ok.j (Ok.atn hi ?_))
  dsimp only
  rw[Qa U]
  refine Ok.ite (fun h1=>Ok.ite (fun h2=>by simp[h1,h2]at hq) (fun _=>hk)) (fun _=>hk)
 .exact Ok.N (Ok.s (by unfold QfS;rw[QnT hq]))
def Qym(hw:ws.length<900):QgL 1000 ws s=some (QfS ws s):=by
 refine Ok.eq ?_
 unfold QgL
 refine Ok.scan ws.length (fun i=>((ws,s,(i:Int),()),())) (fun i=>decide ((O ws i).v<=s) && decide (s<(O ws i).To)) rfl U (fun i hi hq _ k=>?_) (fun i hi hq k hk=>?_) (fun hq k=>?_)
 .have hq':=hq
  simp only[bae,BK]at hq'
  exact Ok.P (Ok.j (Ok.atn hi (Ok.p hq'.1 (Ok.atn hi (Ok.p hq'.2 (Ok.s (by unfold QfS;rw[Qjt hi hq])))))))
 .refine Ok.P (Ok.j (Ok.atn hi ?_))
  dsimp only
  rw[Qa U]
  refine Ok.ite (fun h1=>Ok.atn hi (Ok.ite (fun h2=>by simp[h1,h2]at hq) (fun _=>hk))) (fun _=>hk)
 .exact Ok.N (Ok.s (by unfold QfS;rw[QnT hq]))
def Qup:QjA 1000 t t=some (decide (0<=t/\t<=8589934592))/\Qmz 1000 t t=some (decide (0<=t/\t<=8589934592)):=by
 have key:AM.J (decide (0<=t)) (AM.J (decide (t<=8589934592)) (AM.J (decide (t<=t)) (AM.J (decide (t<=8589934592)) (AM.J (decide ((X (t - t))<=34560000)) (some true) (some false)) (some false)) (some false)) (some false)) (some false)=some (decide (0<=t/\t<=8589934592)):=by
  rw[Qc (x:=t - t) U]
  by_cases h1:0<=t
  .by_cases h2:t<=8589934592
   ·(try unfold cd);rw[Qft h1,Qft h2,Qft U,Qft h2,Qft U];simp[h1,h2]
   ·(try unfold cd);rw[Qft h1,QkA h2];simp[h2]
  ·(try unfold cd);rw[QkA h1];simp[h1]
 exact⟨key,key⟩
def QaB.qlen(h:QaB x):x.Fl.length<=1:=by
 rcases h.quiet with h|⟨a,b,h,_⟩<;>rw[h]<;>simp
def QzC(h:Ze n c)(hn:n<=48):VR 1000 c p t ur=some (Vu c p t ur):=by
 have hpl:=h.plen
 refine Ok.eq ?_
 unfold VR
 have hopen:Ok (Qeh 1000 c p t t) fun r=>(r.2=0↔0<=p/\p<4/\0<=t/\t<=8589934592)/\(r.2=0->r.1=⟨c,[tabV (Xd c)]⟩):=by
  unfold Qeh
  refine Ok.oe (tOf h hn) (Ok.j (Ok.nt rfl ?_))
  refine Ok.ite (fun h1=>Ok.s ⟨by simp;omega,fun h=>by simp at h⟩) fun h1=>Ok.ite (fun h2=>Ok.s ⟨by simp;omega,fun h=>by simp at h⟩) fun h2=>?_
  refine Ok.oe Qup.1 (Ok.ncnd (fun h3=>Ok.s ⟨?_,fun h=>by simp at h⟩) fun h3=>Ok.s ⟨?_,fun _=>rfl⟩)
  .have h3:=BN h3
   simp;omega
  .have h3:=BF h3
   simp;omega
 refine Ok.opt hopen fun⟨v,e⟩ ⟨g1,g2⟩=>?_
 dsimp only at g1 g2 |-
 by_cases he:e=0
 .have hr:=g1.1 he
  rw[g2 he]
  refine Ok.n (by simp[he]) (Ok.at hr.1 U ?_)
  obtain⟨x,hx⟩:∃x,O c.k p.toNat=x:=⟨_,rfl⟩
  have hper:=h.per (i:=p.toNat) U
  rw[hx]at hper |-
  have hq:=hper.qlen
  have htab:Ok (XU 1000 ⟨c,[tabV (Xd c)]⟩ x.q) (·=tabV (Xd c)):=by
   unfold XU
   rw[hper.zone]
   exact Ok.atn (i:=0) Ob (Ok.s rfl)
  have hlast:Ok (V (XU 1000 ⟨c,[tabV (Xd c)]⟩ x.q) fun a3=>V (ZQ 1000 a3 t) fun a4=>V (Wr 1000 a4) fun a5=>V (QeT 1000 x.Fl a5) fun a6=>AM.J a6 (some false) (some true)) (·=!QfS x.Fl (QbT (Xd c) t)):=by
   refine Ok.opt htab fun tb htb=>?_
   subst htb
   refine Ok.oe (QAv h.offs hr.2.2) (Ok.oe (Qr3 h.offs hr.2.2).1 (Ok.oe (QCx U) (Ok.J (fun h1=>Ok.s (by rw[h1];rfl)) (fun h1=>Ok.s (by rw[h1];rfl)))))
  have hv:Vu c p t ur=(ur && x.F1 || !QfS x.Fl (QbT (Xd c) t)):=by unfold Vu;rw[hx];simp[hr.1,hr.2.1,hr.2.2.1,hr.2.2.2]
  rw[hv]
  refine Ok.J (fun h1=>Ok.J (fun h2=>Ok.s (by simp[h1,h2])) (fun h2=>hlast.mono fun r hr=>by rw[hr,h1,h2];simp)) (fun h1=>hlast.mono fun r hr=>by rw[hr,h1];simp)
 .refine Ok.p he (Ok.s ?_)
  have hr:¬(0<=p/\p<4/\0<=t/\t<=8589934592):=fun h=>he (g1.2 h)
  unfold Vu
  rw[Au hr];rfl
def QxL(h:Ze n c)(hn:n<=48):QbM 1000 c p t ur=some (Vu c p t ur):=by
 have hpl:=h.plen
 refine Ok.eq ?_
 unfold QbM
 have hopen:Ok (QiZ 1000 c p t t) fun r=>r=0↔0<=p/\p<4/\0<=t/\t<=8589934592:=by
  unfold QiZ
  refine Ok.j (Ok.oe (Qfq h hn) (Ok.n (by decide) ?_))
  refine Ok.ite (fun h1=>Ok.s U) fun h1=>Ok.ite (fun h2=>Ok.s U) fun h2=>?_
  refine Ok.oe Qup.2 (Ok.ncnd (fun h3=>Ok.s ?_) fun h3=>Ok.s ?_)
  .have h3:=BN h3
   omega
  .have h3:=BF h3
   omega
 refine Ok.opt hopen fun e g1=>?_
 by_cases he:e=0
 .have hr:=g1.1 he
  refine Ok.n (by simp[he]) (Ok.at hr.1 U ?_)
  obtain⟨x,hx⟩:∃x,O c.k p.toNat=x:=⟨_,rfl⟩
  have hper:=h.per (i:=p.toNat) U
  rw[hx]at hper |-
  have hq:=hper.qlen
  have hv:Vu c p t ur=(ur && x.F1 || !QfS x.Fl (QbT (Xd c) t)):=by unfold Vu;rw[hx];simp[hr.1,hr.2.1,hr.2.2.1,hr.2.2.2]
  rw[hv,hper.zone,h.zones.1]
  refine Ok.atn (i:=0) Ob ?_
  have hin:Qoj 1000 (Qii (Xd c)) x.Fl t=some (QfS x.Fl (QbT (Xd c) t)):=by
   refine Ok.eq ?_
   unfold Qoj QjX
   refine Ok.oe (v:=(QbT (Xd c) t,0)) ?_ (Ok.p rfl (Ok.oe (Quy hper) (Ok.p rfl (Ok.oe (Qym U) (Ok.J (fun h1=>Ok.s (by rw[h1])) (fun h1=>Ok.s (by rw[h1])))))))
   refine Ok.eq (Ok.oe (QAp h.offs hr.2.2) (Ok.n (by decide) (Ok.oe (Qr3 h.offs hr.2.2).2 (Ok.s rfl))))
  refine Ok.oe (hin:Qoj 1000 (O [(⟨bZ,Xd c,[]⟩:D.q)] 0) x.Fl t=_) ?_
  refine Ok.J (fun h1=>Ok.J (fun h2=>Ok.J (fun h3=>Ok.s (by simp[h2,h3])) (fun h3=>Ok.s (by simp[h1,h3]))) (fun h2=>Ok.s (by simp[h1,h2]))) (fun h1=>Ok.s (by simp[h1]))
 .refine Ok.p he (Ok.s ?_)
  have hr:¬(0<=p/\p<4/\0<=t/\t<=8589934592):=fun h=>he (g1.2 h)
  unfold Vu
  rw[Au hr];rfl
open Go AM
def U0{l:Y Int}(h:i<l.length):l.take (i+1)=l.take i++[O l i]:=(Qn h).symm
structure Qlj (p0:Y Int) (q:Int->AH) (w j:Nat) (a:Y Int):Prop where
 len:a.length=p0.length
 wj:w<=j/\j<=p0.length
 done:a.take w=(p0.take j).filter q
 rest:∀k,j<=k->O a k=O p0 k
def QjH{l:Y Int}{q:Int->AH}{i:Nat}(hi:i<=l.length)(h:∀j,j<i->q (O l j)=true):(l.take i).filter q=l.take i:=by
 refine EY.2 fun x hx=>?_
 obtain⟨k,hk,rfl⟩:=BX hx
 rw[Ae]at hk
 have:=h k U
 simpa [O,AQ,AU (show k<l.length by omega)]using this
def QqT(hi:i<p0.length)(h:∀j,j<i->q (O p0 j)=true)(hx:q (O p0 i)=false):Qlj p0 q i (i+1) p0:=by
 refine⟨rfl,U,?_,fun k _=>rfl⟩
 rw[U0 hi,B6,QjH U h]
 simp[hx]
def QtL(h:Qlj p0 q w j a)(hj:j<p0.length)(hx:q (O a j)=true):Qlj p0 q (w+1) (j+1) (a.set w (O a j)):=by
 have h1:=h.wj
 have h2:=h.len
 refine⟨by simp[h.len],U,?_,fun k hk=>?_⟩
 .rw[h.rest j (AP _)]at hx |-
  rw[U0 hj,B6,<-h.done,U0 (by simp;omega),Qmg U,iB rfl,E0 U]
  simp[hx]
 .rw[Qmg U,iA U];exact h.rest k U
def QtM(h:Qlj p0 q w j a)(hj:j<p0.length)(hx:q (O a j)=false):Qlj p0 q w (j+1) a:=by
 have h1:=h.wj
 refine⟨h.len,U,?_,fun k hk=>h.rest k U⟩
 rw[h.rest j (AP _)]at hx
 rw[U0 hj,B6,<-h.done]
 simp[hx]
def InTo(l:Y Int)(m:Nat)(z:Int):Prop:=∃k,k<m/\O l k=z
def Qt2(hm:m<=l.length):InTo l m z↔z∈l.take m:=by
 constructor
 .rintro⟨k,hk,rfl⟩
  have:O (l.take m) k=O l k:=by
   simp only[O,AQ,Aq]
   rw[iB hk]
  rw[<-this]
  exact Qf (by simp;omega)
 .intro h
  obtain⟨k,hk,rfl⟩:=BX h
  rw[Ae]at hk
  exact⟨k,U,by simp[O,AQ,AU (show k<l.length by omega)]⟩
def Qx9(h1:1<=j)(hj:j<l.length)(hm:j<m):InTo (QkP l j) m z↔InTo l m z:=by
 unfold InTo
 constructor
 .rintro⟨k,hk,e⟩
  rw[QgC h1 hj]at e
  split at e
  .exact⟨j,hm,e⟩
  .split at e
   .exact⟨j - 1,U,e⟩
   .exact⟨k,hk,e⟩
 .rintro⟨k,hk,e⟩
  by_cases g1:k=j
  .subst g1;exact⟨k - 1,U,by rw[QgC h1 hj,iB rfl];exact e⟩
  .by_cases g2:k=j - 1
   .subst g2;exact⟨j,hm,by rw[QgC h1 hj,iA U,iB rfl];exact e⟩
   .exact⟨k,hk,by rw[QgC h1 hj,iA g2,iA g1];exact e⟩
def QvK(l:Y Int)(n:Nat):Prop:=∀k,1<=k->k<n->O l (k - 1)<O l k
def QnW(hn:n<=l.length)(h:QvK l n):Asc (l.take n):=by
 have hnth:∀k,k<n->O (l.take n) k=O l k:=fun k hk=>by
  simp only[O,AQ,Aq]
  rw[iB hk]
 have hlt:∀b,b<n->∀a,a<b->O l a<O l b:=by
  intro b
  induction b with
  |zero=>intro _ a ha;omega
  |succ b ih=>
   intro hb a ha
   have h1:=h (b+1) U hb
   rw[Ci]at h1
   by_cases e:a=b
   .subst e;exact h1
   .have:=ih U a U;omega
 have hl:(l.take n).length=n:=by simp;omega
 refine Qz8 (fun a b hab hb=>?_) (fun k h1 h2=>?_)
 .rw[hl]at hb;rw[hnth a U,hnth b hb];have:=hlt b hb a hab;omega
 .rw[hl]at h2;rw[hnth _ U,hnth k h2];have:=h k h1 h2;omega
structure QnP (p0:Y Int) (m o i k:Nat) (a:Y Int):Prop where
 len:a.length=p0.length
 ik:1<=i/\i<o+k/\o+k<=m/\1<=k
 rest:∀j,o+k<=j+1->O a j=O p0 j
 asc:QvK a i
 last:O a (i - 1)=O p0 (o+k - 1)
 mem:∀z,InTo a i z↔InTo p0 (o+k) z
def Qwx(ho:1<=o)(hm:o<m)(ha:QvK p0 o)(he:O p0 o=O p0 (o - 1)):QnP p0 m o o 1 p0:=by
 refine⟨rfl,U,fun _ _=>rfl,ha,by rw[Ci];exact he.symm,fun z=>⟨?_,?_⟩⟩
 .rintro⟨k,hk,e⟩;exact⟨k,U,e⟩
 .rintro⟨k,hk,e⟩
  by_cases h:k=o
  .subst h;exact⟨k - 1,U,by rw[<-he];exact e⟩
  .exact⟨k,U,e⟩
def QA5(h:QnP p0 m o i k a)(hk:o+k<m)(hml:m<=p0.length)(hs:Xn p0 m)(hne:O a (o+k)≠O a (o+k - 1)):QnP p0 m o (i+1) (k+1) (a.set i (O a (o+k))):=by
 have h1:=h.ik
 have h2:=h.len
 have e1:=h.rest (o+k) U
 have e2:=h.rest (o+k - 1) U
 have hlt:O p0 (o+k - 1)<O p0 (o+k):=by
  have:=hs (o+k - 1) (o+k) U hk
  rw[e1,e2]at hne;omega
 have hset:∀j,O (a.set i (O a (o+k))) j=if j=i then O p0 (o+k)else O a j:=fun j=>by rw[Qmg U,e1]
 refine⟨by simp[h.len],U,fun j hj=>?_,fun j hj1 hj2=>?_,?_,fun z=>⟨?_,?_⟩⟩
 .rw[hset,iA U];exact h.rest j U
 .rw[hset,hset,iA (show j - 1≠i by omega)]
  by_cases e:j=i
  .rw[iB e,e,h.last];exact hlt
  .rw[iA e];exact h.asc j hj1 U
 .rw[hset,Ci,iB rfl,show o+(k+1) - 1=o+k by omega]
 .rintro⟨j,hj,e⟩
  rw[hset]at e
  split at e
  .exact⟨o+k,U,e⟩
  .obtain⟨j',hj',e'⟩:=(h.mem z).1 ⟨j,U,e⟩
   exact⟨j',U,e'⟩
 .rintro⟨j,hj,e⟩
  by_cases g:j=o+k
  .exact⟨i,U,by rw[hset,iB rfl,<-g];exact e⟩
  .obtain⟨j',hj',e'⟩:=(h.mem z).2 ⟨j,U,e⟩
   exact⟨j',U,by rw[hset,iA U];exact e'⟩
def QA6(h:QnP p0 m o i k a)(hk:o+k<m)(he:O a (o+k)=O a (o+k - 1)):QnP p0 m o i (k+1) a:=by
 have h1:=h.ik
 have e1:=h.rest (o+k) U
 have e2:=h.rest (o+k - 1) U
 have e3:O p0 (o+k)=O p0 (o+k - 1):=by rw[<-e1,<-e2];exact he
 refine⟨h.len,U,fun j hj=>h.rest j U,h.asc,by rw[h.last,show o+(k+1) - 1=o+k by omega];exact e3.symm,fun z=>⟨fun hz=>?_,?_⟩⟩
 .obtain⟨j',hj',e'⟩:=(h.mem z).1 hz
  exact⟨j',U,e'⟩
 .rintro⟨j,hj,e⟩
  by_cases g:j=o+k
  .exact(h.mem z).2 ⟨o+k - 1,U,by rw[<-e3,<-g];exact e⟩
  .exact(h.mem z).2 ⟨j,U,e⟩
def Qxe:Ub 1000 x y=some (decide (x<y)):=by
 unfold Ub Qbw
 by_cases h:x<y<;>simp[V,cd,AM.J,h]
def Qzd(hm:m<=l0.length)(hs:m<=900):
  Ok (Zi 1000 0 m l0 0 (m:Int)) fun r=>r.length=l0.length/\Xn r m/\∀z,InTo r m z↔InTo l0 m z:=by
 unfold Zi
 refine Ok.loop (fun q x=>∃(i:Nat) (a:_),x=((0,m,0,(m:Int),(i:Int),()),a,())/\1<=i/\a.length=l0.length/\Xn a (min i m)/\(∀z,InTo a m z↔InTo l0 m z)/\q=m+1 - i) (m:=m) U
  ⟨1,l0,by rw[Qc U];rfl,U,rfl,fun a b h1 h2=>U,fun z=>Iff.rfl,U⟩ ?_
 rintro q x ⟨i,a,rfl,h1,h2,h3,h4,rfl⟩ K hK
 dsimp only
 refine Ok.ite (fun hi=>?_) (fun hi=>Ok.s ⟨h2,by rw[show min i m=m by omega]at h3;exact h3,h4⟩)
 have hlt:i<m:=U
 rw[show min i m=i by omega]at h3
 refine Ok.j ?_
 refine Ok.loop (fun q x=>∃j a',x=((0,m,0,(m:Int),(i:Int),((j:Nat):Int),()),a',())/\j<=i/\a'.length=l0.length/\QnO a' (i+1) j/\(∀z,InTo a' m z↔InTo l0 m z)/\q=j) (m:=i) U
  ⟨i,a,rfl,U,h2,Qkd h3,h4,rfl⟩ ?_
 rintro q x ⟨j,a',rfl,g1,g2,g3,g4,hqj⟩ K2 hK2
 dsimp only
 have fin:(j=0\/O a' (j - 1)<=O a' j)->Ok (K ((0,m,0,(m:Int),X ((i:Int)+1),()),a',())) fun r=>r.length=l0.length/\Xn r m/\∀z,InTo r m z↔InTo l0 m z:=fun he=>by
  rw[Qa U]
  exact hK (m+1 - (i+1)) _ U ⟨i+1,a',rfl,U,g2,by rw[show min (i+1) m=i+1 by omega];exact QnY g3 he,g4,rfl⟩
 refine Ok.j (Ok.ite (fun hj=>?_) (fun hj=>fin (.inl U)))
 have hw:X ((j:Int) - 1)=((j - 1:Nat):Int):=by rw[Qc U];omega
 rw[hw]
 refine Ok.natn (Ok.E ?_)
 rw[Ai]
 refine Ok.G (Ok.natn (Ok.E ?_))
 rw[Ai]
 refine Ok.G (Ok.oe Qxe (Ok.ite (fun hless=>?_) (fun hless=>fin (.inr U))))
 dsimp only
 rw[hw]
 refine Ok.natn (Ok.E ?_)
 rw[Ai]
 refine Ok.G (Ok.natn (Ok.E ?_))
 refine Ok.G (Ok.natn (Ok.E ?_))
 refine Ok.G (Ok.natn (Ok.E ?_))
 refine Ok.get (by simp;omega) ?_
 have hsw:(a'.set (0+j) (O a' (j - 1))).set (0+(j - 1)) (O a' (0+j))=QkP a' j:=by simp only[Ai];rfl
 rw[hsw]
 exact hK2 (j - 1) _ U ⟨j - 1,QkP a' j,rfl,U,by rw[QzS];exact g2,Qlx g3 U U U hless,fun z=>(Qx9 U U U).trans (g4 z),rfl⟩
def Qwo:∀m:Nat,m<13->(QbF 1000 (IntKind.wrap .u64 (m:Int))).isSome=true:=by decide
def QB1(hm:m<=l0.length)(hs:m<=12):
  Ok (WS 1000 0 m l0) fun r=>r.length=l0.length/\Xn r m/\∀z,InTo r m z↔InTo l0 m z:=by
 unfold WS
 rw[Bj]
 obtain⟨bv,hb⟩:=Cm.1 (Qwo m U)
 refine Ok.oe hb (Ok.opt (P:=fun r=>r.length=l0.length/\Xn r m/\∀z,InTo r m z↔InTo l0 m z) ?_ fun r hr=>Ok.ck hr.1 (Ok.s hr))
 unfold YW
 refine Ok.loop (fun q x=>x=((0,m,0,(m:Int),bv,true,true,()),l0,())) (m:=0) U rfl ?_
 rintro q x rfl K hK
 dsimp only
 refine Ok.p (by rw[Qc U];omega) (Ok.opt (Qzd hm U) fun r hr=>Ok.ck hr.1 (Ok.s hr))
def QuL(hm:m<=l0.length)(hs:m<=900)(hl:l0.length<=34359738368)(hso:Xn l0 m):
  Ok (XA 1000 0 m l0) fun r=>r.1=0/\r.2.1<=m/\r.2.2.length=l0.length/\Asc (r.2.2.take r.2.1)/\∀z,z∈r.2.2.take r.2.1↔InTo l0 m z:=by
 have done:∀(a:Y Int) (i:Nat),a.length=l0.length->i<=m->QvK a i->(∀z,InTo a i z↔InTo l0 m z)->Asc (a.take i)/\∀z,z∈a.take i↔InTo l0 m z:=fun a i h1 h2 h3 h4=>
  ⟨QnW U h3,fun z=>by rw[<-Qt2 U];exact h4 z⟩
 unfold XA
 rw[Bj]
 refine Ok.ite (fun h=>Ok.s ⟨rfl,AP _,rfl,done l0 m rfl (AP _) (fun k h1 h2=>U) fun z=>Iff.rfl⟩) fun h=>?_
 refine Ok.loop (fun q x=>∃i:Nat,x=((0,m,(i:Int),()),l0,())/\1<=i/\i<=m/\QvK l0 i/\q=m - i) (m:=m - 1) U ⟨1,rfl,U,U,fun k h1 h2=>U,rfl⟩ ?_
 rintro q x ⟨i,rfl,h1,h2,h3,rfl⟩ K hK
 dsimp only
 rw[Bj]
 refine Ok.ite (fun hi=>?_) (fun hi=>?_)
 .have hw:X ((i:Int) - 1)=((i - 1:Nat):Int):=by rw[Qc U];omega
  rw[hw]
  refine Ok.natn (Ok.E ?_)
  rw[Ai]
  refine Ok.G (Ok.natn (Ok.E ?_))
  rw[Ai]
  refine Ok.G (Ok.ite (fun he=>?_) (fun hne=>?_))
  .refine Ok.natn (Ok.E ?_)
   rw[Ai,Ai]
   refine Ok.loop (fun q x=>∃(w k:Nat) (a:Y Int),x=((0,m,(w:Int),i,m,(k:Int),()),a,())/\QnP l0 m i w k a/\q=m - i - k) (m:=m - i - 1) U ⟨i,1,l0,rfl,Qwx h1 U h3 he,rfl⟩ ?_
   rintro q x ⟨w,k,a,rfl,hinv,rfl⟩ K2 hK2
   have hik:=hinv.ik
   have hal:=hinv.len
   dsimp only
   refine Ok.ite (fun hk=>?_) (fun hk=>?_)
   .have hw2:X ((k:Int) - 1)=((k - 1:Nat):Int):=by rw[Qc U];omega
    rw[hw2]
    refine Ok.j (Ok.natn (Ok.E (Ok.G (Ok.natn (Ok.E (Ok.G ?_))))))
    refine Ok.ite (fun hd=>?_) (fun hd=>?_)
    .refine Ok.natn (Ok.E (Ok.G (Ok.natn (Ok.E ?_))))
     rw[Ai]
     refine Ok.G ?_
     dsimp only
     rw[Qa U,Qa U]
     exact hK2 (m - i - (k+1)) _ U ⟨w+1,k+1,_,rfl,QA5 hinv U hm hso (by rw[show i+k - 1=i+(k - 1)by omega];exact hd),rfl⟩
    .dsimp only
     rw[Qa U]
     exact hK2 (m - i - (k+1)) _ U ⟨w,k+1,a,rfl,QA6 hinv U (by rw[show i+k - 1=i+(k - 1)by omega];exact Ag.1 hd),rfl⟩
   .have ek:i+k=m:=U
    refine Ok.natn (Ok.E (Ok.L (Ok.L (Ok.natn (Ok.L (Ok.s ?_))))))
    simp only[Ai,Bj,Bu]
    have hd:=done a w hal U hinv.asc (by rw[<-ek];exact hinv.mem)
    have ht:(List.take w a++List.replicate (m - w) 0++List.drop m a).take w=a.take w:=by
     grind
    refine⟨trivial,U,by simp;omega,?_,?_⟩
    .rw[ht];exact hd.1
    .rw[ht];exact hd.2
  .rw[Qa U]
   have hlt:O l0 (i - 1)<O l0 i:=by
    have:=hso (i - 1) i U U;omega
   refine hK (m - (i+1)) _ U ⟨i+1,rfl,U,U,fun k a1 a2=>?_,rfl⟩
   by_cases e:k=i
   .subst e;exact hlt
   .exact h3 k a1 U
 .obtain rfl:i=m:=U
  exact Ok.s ⟨rfl,AP _,rfl,done l0 i rfl (AP _) h3 fun z=>Iff.rfl⟩
def inC(x:Int):AH:=decide (0<=x/\x<=3)
def pIn:Yx fu n lo hi=some (decide (lo<=n/\n<=hi)):=cnd2
def people1(h:Ze n c):W6 1000 x c=some (!inC x):=by
 unfold W6
 rw[h.plen,show X (((4:Nat):Int) - 1)=3 from rfl,pIn,ZY,Vg]
 rfl
def QA9(h:Ze n c)(hl:l0.length<=900):
  Ok (QS 1000 l0 c) fun r=>r.1=0/\r.2.1<=l0.length/\r.2.2.length=l0.length/\r.2.2.take r.2.1=l0.filter inC:=by
 unfold QS
 have hidx:Ok (QX 1000 l0 c) fun r=>r = -1/\(∀j,j<l0.length->inC (O l0 j)=true)\/∃i:Nat,r=(i:Int)/\i<l0.length/\inC (O l0 i)=false/\∀j,j<i->inC (O l0 j)=true:=by
  unfold QX
  refine Ok.scan l0.length (fun i=>(((l0.length:Int),(i:Int),()),c,l0,())) (fun i=>!inC (O l0 i)) rfl U (fun i hi hq hj k=>?_) (fun i hi hq k hk=>?_) (fun hq k=>?_)
  .refine Ok.P (Ok.natn (Ok.lt hi (Ok.get hi (Ok.oe (people1 h) (Ok.bt hq (Ok.TF (Ok.TF (Ok.s (.inr ⟨i,rfl,hi,by simpa using hq,fun j hj'=>by simpa using hj j hj'⟩)))))))))
  .refine Ok.P (Ok.natn (Ok.lt hi (Ok.get hi (Ok.oe (people1 h) (Ok.bf hq ?_)))))
   rw[Qa U];exact hk
  .exact Ok.N (Ok.TF (Ok.TF (Ok.s (.inl ⟨rfl,fun j hj=>by simpa using hq j hj⟩))))
 refine Ok.opt hidx fun r hr=>?_
 rcases hr with⟨rfl,hall⟩|⟨i,rfl,hi,hx,hj⟩
 .refine Ok.p rfl (Ok.TF (Ok.s ⟨rfl,AP _,rfl,?_⟩))
  have:=QjH (q:=inC) (AP _) hall
  grind
 .refine Ok.N ?_
  rw[Qa U]
  refine Ok.loop (fun q x=>∃(w j:Nat) (a:Y Int),x=(((w:Int),(j:Int),()),c,a,())/\Qlj l0 inC w j a/\q=l0.length - j) (m:=l0.length - (i+1)) U ⟨i,i+1,l0,rfl,QqT hi hj hx,rfl⟩ ?_
  rintro q x ⟨w,j,a,rfl,hinv,rfl⟩ K hK
  have h1:=hinv.wj
  have h2:=hinv.len
  dsimp only
  refine Ok.ite (fun hlt=>?_) (fun hge=>?_)
  .refine Ok.j (Ok.natn (Ok.E (Ok.G (Ok.oe (people1 h) ?_))))
   rw[EZ]
   refine Ok.J (fun hq=>?_) (fun hq=>?_)
   .refine Ok.natn (Ok.E (Ok.G ?_))
    dsimp only
    rw[Qa U,Qa U]
    exact hK _ _ U ⟨w+1,j+1,_,rfl,QtL hinv U hq,rfl⟩
   .dsimp only
    rw[Qa U]
    exact hK _ _ U ⟨w,j+1,a,rfl,QtM hinv U hq,rfl⟩
  .have ej:j=l0.length:=U
   have hd:=hinv.done
   rw[ej,Ad]at hd
   refine Ok.natn (Ok.L (Ok.L (Ok.L (Ok.natn (Ok.LS (Ok.TF (Ok.s ?_)))))))
   grind
def QcO(c:D.E)(b:D.b)(x:D.FS)(t:Int):Y Int:=if x.a=0 then[x.Fd]else if x.a=1 then[whoV c x.Fd t]else(O b.t x.Fd.toNat).r
def Qzm(h:Ze n c)(hn:n<=48)(hb:QU b)(hx:Uo b.t.length x):QcW 1000 c b x t=some (QcO c b x t):=by
 have hpl:=h.plen;have hsl:=h.slen;have htl:=hb.tlen
 have h1:=hx.lo;have h2:=hx.person;have h3:=hx.sched;have h4:=hx.team
 have hsz:W8 1000 c b=some ⟨4,2,(b.t.length:Int)⟩:=by unfold W8;rw[hpl,hsl];rfl
 refine Ok.eq ?_
 unfold QcW QcO
 refine Ok.j (Ok.oe pIn (Ok.p (by have:=hx.kind;omega) (Ok.oe hsz ?_)))
 dsimp only
 rcases hx.kind with hk|hk|hk
 .have:=h2 hk
  refine Ok.P (Ok.oe pIn (Ok.p (by rw[Qc U];omega) (Ok.N (Ok.N (Ok.s ?_)))))
  rw[iB hk]
 .have:=h3 hk
  refine Ok.N (Ok.P (Ok.oe pIn (Ok.p (by rw[Qc U];omega) (Ok.p hk (Ok.oe (QCX h hn) (Ok.s ?_))))))
  simp_all
 .have:=h4 hk
  refine Ok.N (Ok.N (Ok.P (Ok.oe pIn (Ok.p (by rw[Qc U];omega) (Ok.N (Ok.p hk (Ok.at h1 U (Ok.s ?_))))))))
  simp_all
def QjL(hb:QU b)(hx:Uo b.t.length x):(QcO c b x t).length<=2:=by
 unfold QcO
 split
 .simp
 .split
  .simp
  .have h4:=hx.team (by have:=hx.kind;omega)
   have h1:=hx.lo
   exact(hb.team _ (Qf U)).len.2
def Qoc(h:Ze n c)(hx:Uo b.t.length x)(hz:0<=z/\z<=3):z∈QcO c b x t↔z∈Qdz c b x t:=by
 unfold QcO Qdz
 have h1:=hx.lo;have h4:=hx.team
 rcases hx.kind with hk|hk|hk
 .simp_all
 .grind
 .simp_all
def Qxr(h:Ze n c)(hn:n<=48)(hb:QU b)(hl:∀x∈l,Uo b.t.length x)(hlen:l.length<=6):
  Ok (QbI 1000 c b l t) fun r=>r.1=0/\r.2.1<=r.2.2.length/\r.2.2.length<=12/\r.2.2.take r.2.1=Vy c b l t:=by
 unfold QbI
 refine Ok.run l.length (fun i=>((t,l,(l.length:Int),(i:Int),()),c,b,(l.take i).flatMap (fun x=>QcO c b x t),())) Ob U (fun i hi k hk=>?_) (fun k=>?_)
 .dsimp only
  have hx:=hl _ (Qf hi)
  have hle:((l.take i).flatMap (fun x=>QcO c b x t)).length<=2*i:=by
   rw[E1]
   have:∀(m:Y D.FS),(∀x∈m,Uo b.t.length x)->(m.map (fun x=>(QcO c b x t).length)).sum<=2*m.length:=by
    intro m hm
    induction m with
    |nil=>simp
    |cons y m ih=>
     have h1:=QjL (c:=c) (t:=t) hb (hm y (BA ..))
     grind
   grind
  have hm2:=QjL (c:=c) (t:=t) hb hx
  refine Ok.P (Ok.atn hi (Ok.oe (Qzm h hn hb hx) (Ok.L ?_)))
  rw[Qa U]
  have e:(l.take i).flatMap (fun x=>QcO c b x t)++QcO c b (O l i) t=(l.take (i+1)).flatMap (fun x=>QcO c b x t):=by
   rw[<-Qn hi,List.flatMap_append];simp
  rw[e];exact hk
 .dsimp only
  rw[Ad]
  obtain⟨L0,hL0⟩:∃L0,l.flatMap (fun x=>QcO c b x t)=L0:=⟨_,rfl⟩
  have hle:L0.length<=12:=by
   rw[<-hL0,E1]
   have:∀(m:Y D.FS),(∀x∈m,Uo b.t.length x)->(m.map (fun x=>(QcO c b x t).length)).sum<=2*m.length:=by
    intro m hm
    induction m with
    |nil=>simp
    |cons y m ih=>
     have h1:=QjL (c:=c) (t:=t) hb (hm y (BA ..))
     grind
   grind
  rw[hL0]
  refine Ok.N (Ok.opt (QA9 h U) fun⟨a0,a1,a2⟩ ⟨g1,g2,g3,g4⟩=>?_)
  dsimp only at g1 g2 g3 g4 |-
  subst g1
  refine Ok.opt (QB1 U U) fun r ⟨s1,s2,s3⟩=>Ok.ck s1 ?_
  refine Ok.opt (QuL U U U s2) fun⟨b0,b1,b2⟩ ⟨k1,k2,k3,k4,k5⟩=>Ok.s ?_
  dsimp only at k1 k2 k3 k4 k5 |-
  refine⟨k1,U,U,Qoh k4 fun z=>?_⟩
  rw[k5,s3,Qt2 U,g4,Bk,<-hL0,List.mem_flatMap]
  unfold Means inC
  rw[BK]
  constructor
  .rintro⟨⟨x,hx1,hx2⟩,hz⟩
   exact⟨hz.1,U,x,hx1,(Qoc h (hl x hx1) hz).1 hx2⟩
  .rintro⟨hz1,hz2,x,hx1,hx2⟩
   exact⟨⟨x,hx1,(Qoc h (hl x hx1) ⟨hz1,U⟩).2 hx2⟩,hz1,U⟩
open Go AM
def Qne:∀i,(U9 l x i).1.length<=2*i
 |0=>by simp[U9]
 |i+1=>by
  have:=Qne (l:=l) (x:=x) i
  simp only[U9,Ac]
  have h1:(if (U9 l x i).2=false/\x<=O l i then[x]else[]).length<=1:=by split<;>simp
  have h2:(if O l i≠x then[O l i]else[]).length<=1:=by split<;>simp
  omega
def Qz6(hl:l.length<=400):VV 1000 l x=some (Qsj l x):=by
 refine Ok.eq ?_
 unfold VV
 refine Ok.run l.length (fun i=>((l,x,(U9 l x i).2,(i:Int),()),(U9 l x i).1,())) rfl U (fun i hi k hk=>?_) (fun k=>?_)
 .dsimp only
  have hlen:=Qne (l:=l) (x:=x) i
  rw[U9]at hk
  refine Ok.P (Ok.j (Ok.j ?_))
  have fin:∀(d:AH) (o:Y Int),o.length<=2000->d=((U9 l x i).2 || decide (x<=O l i))->o=(U9 l x i).1++(if (U9 l x i).2=false/\x<=O l i then[x]else[])->
    Ok (TN l (i:Int) fun a17=>AM.J (decide (a17≠x)) (TN l (i:Int) fun a18=>AM.TO (o.length+[a18].length) 34359738368 (k ((l,x,d,X ((i:Int)+1),()),o++[a18],()))) (k ((l,x,d,X ((i:Int)+1),()),o,()))) (·=Qsj l x):=fun d o ho hd he=>by
   rw[Qa U]
   rw[hd,he]
   refine Ok.atn hi (Ok.ite (fun h=>Ok.atn hi (Ok.TO (by rw[<-he];simp;omega) ?_)) (fun h=>?_))
   .simp_all
   .simp_all
  refine Ok.J (fun hd=>?_) (fun hd=>Ok.atn hi (Ok.ite (fun hx=>Ok.LS ?_) (fun hx=>?_)))
  .grind
  .grind
  .grind
 .dsimp only
  have hlen:=Qne (l:=l) (x:=x) l.length
  refine Ok.N (Ok.j (Ok.ncnd (fun hd=>Ok.LS (Ok.s ?_)) (fun hd=>Ok.s ?_)))
  .unfold Qsj;rw[iA (by rw[hd];simp)]
  .unfold Qsj;rw[iB hd]
def q25In:QH fu n lo hi=some (decide (lo<=n/\n<=hi)):=cnd2
def QuZ(hi:i<l.length):Means c b (l.take (i+1)) t z↔Means c b (l.take i) t z\/(0<=z/\z<4/\z∈Qdz c b (O l i) t):=by
 unfold Means
 rw[<-Qn hi]
 grind
def QtA(h:Asc o)(hm:∀z∈o,0<=z/\z<4):o.length<=4:=by
 have e:o=([0,1,2,3]:Y Int).filter fun z=>o.contains z:=Qfm h (CP _ asc4) fun z=>by
  grind
 grind
def Qu7(h:Ze n c)(hn:n<=48)(hb:QU b)(hl:∀x∈l,Uo b.t.length x)(hlen:l.length<=400):QdJ 1000 c b l t=some (Vy c b l t):=by
 have hpl:=h.plen;have hsl:=h.slen;have htl:=hb.tlen
 refine Ok.eq ?_
 unfold QdJ
 refine Ok.run l.length (fun i=>((l,t,Vy c b (l.take i) t,(i:Int),()),c,b,())) (by rw[Bc];rfl) U (fun i hi k hk=>?_) (fun k=>?_)
 .dsimp only
  have hx:=hl _ (Qf hi)
  obtain⟨x,hxx⟩:∃x,O l i=x:=⟨_,rfl⟩
  have hpe:=QhY (c:=c) (b:=b) (l:=l.take i) (t:=t)
  have hple:=QhZ (c:=c) (b:=b) (l:=l.take i) (t:=t)
  have fin:∀o:Y Int,Asc o->(∀z,z∈o↔Means c b (l.take i) t z\/(0<=z/\z<4/\z∈Qdz c b x t))->Ok (k ((l,t,o,X ((i:Int)+1),()),c,b,())) (·=Vy c b l t):=fun o ho hm=>by
   rw[Qa U,Qoh ho (fun z=>by rw[hm,QuZ hi,hxx])]
   exact hk
  have one:∀v,0<=v/\v<4->(∀z,0<=z/\z<4->(z∈Qdz c b x t↔z=v))->Ok (k ((l,t,Qsj (Vy c b (l.take i) t) v,X ((i:Int)+1),()),c,b,())) (·=Vy c b l t):=fun v hv hm=>
   fin _ (Qg5 hpe).1 fun z=>by
    rw[(Qg5 hpe).2,Qci]
    constructor
    .rintro(hz|rfl)
     .exact .inl hz
     .exact .inr ⟨hv.1,hv.2,(hm _ hv).2 rfl⟩
    .rintro(hz|⟨h1,h2,hz⟩)
     .exact .inl hz
     .exact .inr ((hm z ⟨h1,h2⟩).1 hz)
  have none_:(∀z,0<=z/\z<4->¬z∈Qdz c b x t)->Ok (k ((l,t,Vy c b (l.take i) t,X ((i:Int)+1),()),c,b,())) (·=Vy c b l t):=fun hm=>
   fin _ hpe fun z=>by
    rw[Qci]
    exact⟨.inl,fun h=>h.elim id fun⟨h1,h2,hz⟩=>absurd hz (hm z ⟨h1,h2⟩)⟩
  rw[hxx]at hx
  rw[hpl,hsl]
  have h1:=hx.lo;have h2:=hx.person;have h3:=hx.sched;have h4:=hx.team
  refine Ok.P (Ok.j (Ok.atn hi ?_))
  rw[hxx]
  rcases hx.kind with hkd|hkd|hkd
  .have:=h2 hkd
   refine Ok.p hkd (Ok.oe q25In (Ok.p (by rw[Qc U];omega) (Ok.oe (Qz6 U) ?_)))
   exact one _ ⟨h1,U⟩ fun z hz=>by unfold Qdz;rw[iB hkd];simp
  .have:=h3 hkd
   refine Ok.N (Ok.p hkd (Ok.oe q25In (Ok.p (by rw[Qc U];omega) (Ok.oe (QCb h hn) ?_))))
   have hw:=QCc h (i:=x.Fd) (t:=t)
   refine Ok.ite (fun hge=>Ok.oe (Qz6 U) ?_) (fun hlt=>?_)
   .exact one _ ⟨hge,hw.2⟩ fun z hz=>by unfold Qdz;rw[iA U,iB hkd,iA U];simp
   .exact none_ fun z hz=>by unfold Qdz;rw[iA U,iB hkd,iB U];simp
  .have:=h4 hkd
   refine Ok.N (Ok.N (Ok.p hkd (Ok.oe q25In (Ok.p (by rw[Qc U];omega) ?_))))
   obtain⟨tm,htm⟩:∃tm,O b.t x.Fd.toNat=tm:=⟨_,rfl⟩
   have hteam:=hb.team _ (Qf (l:=b.t) (i:=x.Fd.toNat) U)
   rw[htm]at hteam
   have hmv:Qdz c b x t=tm.r:=by unfold Qdz;rw[iA U,iA U,iB ⟨hkd,h1,h4 hkd⟩,htm]
   have hml:=hteam.len
   refine Ok.loop (fun q y=>∃(j:Nat) (o:Y Int),y=((l,t,o,(i:Int),(j:Int),()),c,b,x,())/\j<=tm.r.length/\Asc o/\(∀z,z∈o↔Means c b (l.take i) t z\/(0<=z/\z<4/\z∈tm.r.take j))/\q=tm.r.length - j) (m:=tm.r.length) U
    ⟨0,_,rfl,U,hpe,fun z=>by rw[Qci];simp,U⟩ ?_
   rintro q y ⟨j,o,rfl,a1,a2,a4,rfl⟩ K hK
   have a3:=QtA a2 (fun z hz=>by
    rcases(a4 z).1 hz with g|g
    .exact⟨g.1,g.2.1⟩
    .exact⟨g.1,g.2.1⟩)
   dsimp only
   refine Ok.at h1 U ?_
   rw[htm]
   refine Ok.ite (fun hj=>?_) (fun hj=>?_)
   .have hmem:=hteam.mem _ (Qf (l:=tm.r) (i:=j) U)
    refine Ok.j (Ok.at h1 U ?_)
    rw[htm]
    refine Ok.A ?_
    rw[hpl]
    refine Ok.oe q25In (Ok.p (by rw[Qc U];omega) (Ok.at h1 U ?_))
    rw[htm]
    refine Ok.A (Ok.oe (Qz6 U) ?_)
    dsimp only
    rw[Qa U]
    refine hK _ _ U ⟨j+1,_,rfl,U,(Qg5 a2).1,fun z=>?_,rfl⟩
    rw[(Qg5 a2).2,a4,UA U]
    constructor
    .rintro((hz|⟨z1,z2,z3⟩)|rfl)
     .exact .inl hz
     .exact .inr ⟨z1,z2,.inl z3⟩
     .exact .inr ⟨hmem.1,hmem.2,.inr rfl⟩
    .rintro(hz|⟨z1,z2,z3|z3⟩)
     .exact .inl (.inl hz)
     .exact .inl (.inr ⟨z1,z2,z3⟩)
     .exact .inr z3
   .have ej:j=tm.r.length:=U
    rw[ej,Ad]at a4
    exact fin o a2 fun z=>by rw[a4,hmv]
 .dsimp only
  refine Ok.N (Ok.s ?_)
  rw[Ad]
def Qec(hl:l.length<=900):Qes 1000 l x=some (l.contains x):=by
 refine Ok.eq ?_
 unfold Qes
 refine Ok.scan l.length (fun i=>((l,x,(i:Int),()),())) (fun i=>decide (O l i=x)) rfl U (fun i hi hq _ k=>?_) (fun i hi hq k hk=>?_) (fun hq k=>?_)
 .have hq:=BF hq
  refine Ok.P (Ok.atn hi (Ok.p hq (Ok.s ?_)))
  exact(Bg.2 (hq ▸ Qf hi)).symm
 .have hq:=BN hq
  refine Ok.P (Ok.atn hi (Ok.n hq ?_))
  rw[Qa U];exact hk
 .refine Ok.N (Ok.s ?_)
  symm
  rw[C4]
  intro h
  obtain⟨i,hi,e⟩:=BX (Bg.1 h)
  refine BN (hq i hi) ?_
  simpa [O,AQ,AU hi]using e
def Qfw[AK α]{l:Y α}(h:i<l.length):l.drop i=O l i::l.drop (i+1):=by
 rw[EH h]
 simp[O,AQ,AU h]
def ein:Q7 fu x lo hi=some (inV x lo hi):=by
 unfold Q7 inV
 by_cases h1:lo<=x<;>by_cases h2:x<=hi<;>simp[cd,AM.J,h1,h2]
def aiN:Uq fu x lo hi=some (inV x lo hi):=by
 unfold Uq inV
 by_cases h1:lo<=x<;>by_cases h2:x<=hi<;>simp[cd,AM.J,h1,h2]
def Qkh{l:Y Int}{i:Nat}{x:Int}(hi:i<l.length)(h:decide (x=O l i)=true):l.contains x=true:=by
 rw[BF h];exact Bg.2 (Qf hi)
def QlK{l:Y Int}{x:Int}(h:∀j,j<l.length->decide (x=O l j)=false):l.contains x=false:=by
 cases hb:l.contains x with
 |false=>rfl
 |true=>
  obtain⟨j,hj,e⟩:=BX (Bg.1 hb)
  have:=BN (h j hj)
  exact absurd (by simp[O,AQ,AU hj,e]) this
def Qd9(hl:l.length<900):Yo 1000 l x=some (l.contains x):=by
 refine Ok.eq ?_
 unfold Yo Qbg
 refine Ok.opt (P:=fun r=>decide (0<=r)=l.contains x) ?_ fun r hr=>Ok.s hr
 refine Ok.scan l.length (fun i=>((l,x,(l.length:Int),(i:Int),()),())) (fun i=>decide (x=O l i)) rfl U (fun i hi hq _ k=>?_) (fun i hi hq k hk=>?_) (fun hq k=>?_)
 .refine Ok.P (Ok.atn hi (Ok.bt hq (Ok.s ?_)))
  rw[Qkh hi hq];simp
 .refine Ok.P (Ok.atn hi (Ok.bf hq ?_))
  rw[Qa U];exact hk
 .refine Ok.N (Ok.s ?_)
  rw[QlK hq];rfl
def QaM(hl:l.length<900):Zu 1000 l x=some (l.contains x):=by
 refine Ok.eq ?_
 unfold Zu UZ
 refine Ok.opt (P:=fun r=>decide (0<=r)=l.contains x) ?_ fun r hr=>Ok.TF (Ok.s hr)
 refine Ok.scan l.length (fun i=>((x,(l.length:Int),(i:Int),()),l,())) (fun i=>decide (x=O l i)) rfl U (fun i hi hq _ k=>?_) (fun i hi hq k hk=>?_) (fun hq k=>?_)
 .refine Ok.P (Ok.natn (Ok.lt hi (Ok.get hi (Ok.bt hq (Ok.TF (Ok.s ?_))))))
  rw[Qkh hi hq];simp
 .refine Ok.P (Ok.natn (Ok.lt hi (Ok.get hi (Ok.bf hq ?_))))
  rw[Qa U];exact hk
 .refine Ok.N (Ok.TF (Ok.s ?_))
  rw[QlK hq];rfl
def badS(l:Y Int)(i:Nat):AH:=!(decide (0<=O l i) && decide (O l i<=31) && (decide (i=0) || decide (O l (i - 1)<O l i)))
def Qus(hi:i<l.length)(h:badS l i=true):setV l=false:=by
 cases hb:setV l with
 |false=>rfl
 |true=>
  have hs:=Qav.1 hb
  have h1:=hs.2 _ (Qf hi)
  have h2:0<i->O l (i - 1)<O l i:=fun h0=>Qjv hs.1 U hi
  unfold badS at h
  grind
def Qr5(h:∀j,j<l.length->badS l j=false):setV l=true:=by
 have hk:∀j,j<l.length->0<=O l j/\O l j<=31/\(j=0\/O l (j - 1)<O l j):=fun j hj=>by
  have:=h j hj
  unfold badS at this
  grind
 refine Qav.2 ⟨?_,fun x hx=>?_⟩
 .have:=QnW (l:=l) (n:=l.length) (AP _) fun k h1 h2=>by have:=(hk k h2).2.2;omega
  simp_all
 .obtain⟨j,hj,e⟩:=BX hx
  have:=hk j hj
  rw[show O l j=x by simp[O,AQ,AU hj,e]]at this
  omega
def QAs(hl:l.length<900):QaO 1000 l=some (setV l):=by
 refine Ok.eq ?_
 unfold QaO
 refine Ok.scan l.length (fun i=>((l,l,(l.length:Int),(i:Int),()),())) (badS l) rfl U (fun i hi hq _ k=>?_) (fun i hi hq k hk=>?_) (fun hq k=>?_)
 .refine Ok.P (Ok.j (Ok.atn hi (Ok.oe ein ?_)))
  rw[Qus hi hq]
  refine Ok.J (fun h1=>?_) (fun h1=>Ok.s rfl)
  by_cases h0:0<i
  .refine Ok.P ?_
   rw[show X ((i:Int) - 1)=((i - 1:Nat):Int)by rw[Qc U];omega]
   refine Ok.A (Ok.p ?_ (Ok.s rfl))
   unfold badS at hq
   unfold inV at h1
   simp_all
  .unfold badS at hq
   unfold inV at h1
   simp_all
 .refine Ok.P (Ok.j (Ok.atn hi (Ok.oe ein ?_)))
  unfold badS at hq
  simp only[Cn,bae,B0,BK]at hq
  refine Ok.bt (by unfold inV;simp[hq.1.1,hq.1.2]) ?_
  dsimp only
  rw[Qa U]
  by_cases h0:0<i
  .refine Ok.P ?_
   rw[show X ((i:Int) - 1)=((i - 1:Nat):Int)by rw[Qc U];omega]
   exact Ok.A (Ok.N hk)
  .exact Ok.N hk
 .exact Ok.N (Ok.s (Qr5 hq).symm)
def Qle{l:Y Int}(hi:i<l.length)(h:(l.take i).contains (O l i)=true):decide l.Nodup=false:=by
 refine Au fun hn=>?_
 have hm:=Bg.1 h
 have e:l=l.take i++(O l i::l.drop (i+1)):=by rw[<-Qfw hi,B2]
 grind
def Qr4{l:Y Int}(h:∀j,j<l.length->(l.take j).contains (O l j)=false):l.Nodup:=by
 have:∀i,i<=l.length->(l.take i).Nodup:=by
  intro i
  induction i with
  |zero=>intro _;simp
  |succ i ih=>
   intro hi
   rw[U0 U]
   grind
 have:=this l.length (AP _)
 simp_all
def QBW(hl:l.length<900):QbA 1000 l=some (QnI l):=by
 refine Ok.eq ?_
 unfold QbA QnI
 refine Ok.scan l.length (fun i=>((l,l,(l.length:Int),(i:Int),()),())) (fun i=>(l.take i).contains (O l i)) rfl U (fun i hi hq _ k=>?_) (fun i hi hq k hk=>?_) (fun hq k=>?_)
 .refine Ok.P (Ok.atn hi (Ok.natn (Ok.L (Ok.oe (Qd9 (by simp;omega)) (Ok.bt hq (Ok.s ?_))))))
  rw[Qle hi hq];rfl
 .refine Ok.P (Ok.atn hi (Ok.natn (Ok.L (Ok.oe (Qd9 (by simp;omega)) (Ok.bf hq ?_)))))
  rw[Qa U];exact hk
 .refine Ok.N (Ok.s ?_)
  rw[Az (Qr4 hq),B9]
  grind
structure QA (p:D.Page):Prop where
 st:p.P.length<=300
 pe:∀s∈p.P,s.k.length<=40/\-1000000<=s.K/\s.K<=1000000
 de:p.g.length<=40
 se:p.h.length<=100
 nx : -1000000<=p.FB/\p.FB<=1000000
def Qvw(h:QA p):VP 1000 p=some (Qie p):=by
 have hst:=h.st
 have hnx:=h.nx
 refine Ok.eq ?_
 unfold VP Qie
 refine Ok.loop (fun m x=>∃(i:Nat) (k t:Int),x=((t,k,p.P,(p.P.length:Int),(i:Int),()),p,())/\i<=p.P.length/\-1<=k/\k<=1000000/\WJ p.FB k t (p.P.drop i)=WJ p.FB (-1) p.R p.P/\m=p.P.length - i) (m:=p.P.length) U
  ⟨0,-1,p.R,rfl,U,U,U,rfl,rfl⟩ ?_
 rintro m x ⟨i,k,t,rfl,h1,h2,h2',h3,rfl⟩ K hK
 dsimp only
 refine Ok.ite (fun hi=>?_) (fun hi=>?_)
 .have hlt:i<p.P.length:=U
  have hs:=h.pe _ (Qf hlt)
  refine Ok.atn hlt (Ok.j ?_)
  obtain⟨s,hse⟩:∃s,O p.P i=s:=⟨_,rfl⟩
  rw[Qfw hlt,WJ,hse]at h3
  rw[hse]at hs |-
  rw[<-h3]
  have next:(decide (t<=s.At) && (decide (s.K = -1) || decide (0<=s.K) && decide (k<s.K) && decide (s.K<p.FB)) && setV s.k)=true->
    Ok (K ((s.At,max k s.K,p.P,(p.P.length:Int),X ((i:Int)+1),()),p,())) (·=(decide (t<=s.At) && (decide (s.K = -1) || decide (0<=s.K) && decide (k<s.K) && decide (s.K<p.FB)) && setV s.k && WJ p.FB (max k s.K) s.At (p.P.drop (i+1)) && decide (p.P.length<=200))):=fun e=>by
   rw[Qa U,h3]
   rw[e,B9]at h3
   exact hK _ _ U ⟨i+1,max k s.K,s.At,rfl,U,U,U,h3,rfl⟩
  refine Ok.ite (fun g1=>Ok.s (by rw[Au (show ¬t<=s.At by omega)];simp)) fun g1=>?_
  refine Ok.oe (QAs U) (Ok.J (fun g2=>?_) (fun g2=>Ok.s (by rw[g2];simp)))
  refine Ok.ite (fun g3=>?_) (fun g3=>?_)
  .rw[Qc (x:=k+1) U,Qc (x:=p.FB - 1) U]
   refine Ok.oe ein (Ok.J (fun g4=>?_) (fun g4=>?_))
   .unfold inV at g4
    grind
   .refine Ok.s ?_
    have:(decide (s.K = -1) || decide (0<=s.K) && decide (k<s.K) && decide (s.K<p.FB))=false:=by
     unfold inV at g4
     grind
    rw[this];simp
  .grind
 .have e:i=p.P.length:=U
  refine Ok.s ?_
  subst e
  rw[List.drop_length,WJ]at h3
  grind
def QzV:QaC 1000 p=some (inV p.FT p.R farV && inV p.FQ 0 farV && inV p.FR 0 farV && inV p.z 0 4 && inV p.FP 0 4):=by
 refine Ok.eq ?_
 unfold QaC
 refine Ok.oe ein (Ok.J (fun h1=>Ok.oe ein (Ok.J (fun h2=>Ok.oe ein (Ok.J (fun h3=>Ok.oe ein (Ok.J (fun h4=>Ok.oe ein (Ok.J (fun h5=>Ok.s ?_) (fun h5=>Ok.s ?_))) (fun h4=>Ok.s ?_))) (fun h3=>Ok.s ?_))) (fun h2=>Ok.s ?_))) (fun h1=>Ok.s ?_))
 all_goals simp_all [farV]
def QoX(h:Qdr n q):W2 1000 q=some (YI q):=by
 have h1:=h.rep
 have h2:=h.len
 refine Ok.eq ?_
 unfold W2
 refine Ok.j (Ok.oe pIn (Ok.P (Ok.N (Ok.s ?_))))
 rw[(Yv h).1,Qc (x:=q.Fo+1) U,Qc]
 have h3:q.Fo=0\/q.Fo=1\/q.Fo=2:=U
 grind
def QoF(h:Qdr n q):Qsh q=true:=by
 unfold Qsh
 rw[AW]
 intro s hs
 have:=(h.step s hs).wait
 simp;omega
def Qyk(h:Qdr n q):Qo 1000 q.Steps=some false:=by
 have h2:=h.len
 refine Ok.eq ?_
 unfold Qo Q2
 refine Ok.opt (P:=fun r=>r = -1) ?_ fun r hr=>Ok.s (by rw[hr];rfl)
 refine Ok.run q.Steps.length (fun i=>((q.Steps,(q.Steps.length:Int),(i:Int),()),())) rfl U (fun i hi k hk=>?_) (fun k=>?_)
 .have hw:=(h.step _ (Qf hi)).wait
  refine Ok.P (Ok.atn hi (Ok.oe (v:=false) ?_ (Ok.f ?_)))
  .unfold Qbc
   rw[ein,ZY]
   unfold inV;simp;omega
  .rw[Qa U];exact hk
 .exact Ok.N (Ok.s rfl)
def QkS(hb:QU b)(h:QA p):Yp 1000 b p=some (QJ b p):=by
 have hpl:=hb.plen
 refine Ok.eq ?_
 unfold Yp
 refine Ok.j (Ok.oe ein (Ok.J (fun h1=>?_) (fun h1=>Ok.s (by simp[QJ,h1]))))
 rw[Qc (x:=(b.j.length:Int) - 1) U]
 refine Ok.oe ein (Ok.J (fun h2=>?_) (fun h2=>Ok.s (by simp[QJ,h2])))
 refine Ok.oe ein (Ok.J (fun h3=>?_) (fun h3=>Ok.s (by simp[QJ,h3])))
 have h2':=h2
 unfold inV at h2'
 simp only[bae,BK]at h2'
 refine Ok.at h2'.1 U (Ok.j ?_)
 have hq:Qdr b.t.length (Xe b p):=hb.pol _ (Qf U)
 have hw:=QoF hq
 show Ok (V (Qo 1000 (Xe b p).Steps) _) _
 refine Ok.oe (Qyk hq) (Ok.f (Ok.oe (QoX hq) (Ok.oe ein ?_)))
 refine Ok.J (fun h4=>?_) (fun h4=>Ok.s (by have h4:inV p.FB 0 (YI (Xe b p))=false:=h4;simp[QJ,h4]))
 have h4:inV p.FB 0 (YI (Xe b p))=true:=h4
 refine Ok.oe ein (Ok.J (fun h5=>?_) (fun h5=>Ok.s (by simp[QJ,h5])))
 refine Ok.oe ein (Ok.J (fun h6=>?_) (fun h6=>Ok.s (by simp[QJ,h6])))
 refine Ok.oe QzV (Ok.J (fun h7=>?_) (fun h7=>Ok.s ?_))
 .refine Ok.oe (Qvw h) (Ok.J (fun h8=>?_) (fun h8=>Ok.s (by simp[QJ,h8])))
  have hde:=h.de;have hse:=h.se
  refine Ok.oe (QAs U) (Ok.J (fun h9=>?_) (fun h9=>Ok.s (by simp[QJ,h9])))
  refine Ok.oe (QBW U) ?_
  simp only[bae]at h7
  exact Ok.J (fun h10=>Ok.s (by simp[QJ,h1,h2,h3,hw,h4,h5,h6,h7,h8,h9,h10])) (fun h10=>Ok.s (by simp[QJ,h10]))
 .symm
  unfold QJ
  simp_all
def Quw:QaK 1000 a=some (YY a):=by
 refine Ok.eq ?_
 unfold QaK
 refine Ok.j ?_
 refine Ok.ite (fun k3=>?_) (fun k3=>?_)
 .refine Ok.oe aiN (Ok.J (fun h1=>Ok.oe aiN (Ok.J (fun h2=>Ok.oe aiN (Ok.J (fun h3=>Ok.oe aiN (Ok.J (fun h4=>Ok.oe aiN (Ok.J (fun h5=>Ok.oe aiN (Ok.J (fun h6=>Ok.s ?_) (fun h6=>Ok.s ?_))) (fun h5=>Ok.s ?_))) (fun h4=>Ok.s ?_))) (fun h3=>Ok.s ?_))) (fun h2=>Ok.s ?_))) (fun h1=>Ok.s ?_))
  all_goals (unfold YY;rw[iB k3];simp_all)
 .refine Ok.ite (fun k4=>?_) (fun k4=>?_)
  .refine Ok.oe aiN (Ok.J (fun h1=>Ok.oe aiN (Ok.J (fun h2=>Ok.oe aiN (Ok.J (fun h3=>Ok.oe aiN (Ok.J (fun h4=>Ok.oe aiN (Ok.J (fun h5=>Ok.oe aiN (Ok.J (fun h6=>Ok.s ?_) (fun h6=>Ok.s ?_))) (fun h5=>Ok.s ?_))) (fun h4=>Ok.s ?_))) (fun h3=>Ok.s ?_))) (fun h2=>Ok.s ?_))) (fun h1=>Ok.s ?_))
   all_goals (unfold YY;rw[iA k3,iB k4];simp_all)
  .have e0:inV a.Fw 0 0=decide (a.Fw=0):=by unfold inV;by_cases h:a.Fw=0<;>simp[h];omega
   refine Ok.oe aiN (Ok.J (fun h1=>Ok.oe aiN (Ok.J (fun h2=>Ok.oe aiN (Ok.J (fun h3=>Ok.oe aiN (Ok.J (fun h4=>Ok.oe aiN (Ok.J (fun h5=>Ok.oe aiN (Ok.J (fun h6=>Ok.s ?_) (fun h6=>Ok.s ?_))) (fun h5=>Ok.s ?_))) (fun h4=>Ok.s ?_))) (fun h3=>Ok.s ?_))) (fun h2=>Ok.s ?_))) (fun h1=>Ok.s ?_))
   all_goals (unfold YY;rw[iA k3,iA k4,<-e0];simp_all)
open Go AM
section
def Quq{R:D.Page->Prop}(hb:QU b)(hQ:Qkx Q M c b)(hs:∀q,QM Q M b q->Y2 q now=true->R q->R (stepQ c b q)):∀(n:Nat) {p:D.Page},QM Q M b p->R p->R (runN c b now n p).1
 |0,p,h,hr=>hr
 |n+1,p,h,hr=>by
  rw[runN]
  split
  .rename_i hw
   have hd:=Qa9 hw
   rw[h.stepVis hb hd.1,iA Ob]
   exact Quq hb hQ hs n (h.stepQ_inv hb hd.1 (hQ p h)) (hs p h hw hr)
  .exact hr
def Qld{R:D.Page->Prop}(hb:QU b)(hQ:Qkx Q M c b)(hs:∀q,QM Q M b q->Y2 q now=true->R q->R (stepQ c b q))(h:QM Q M b p)(hr:R p):R (runV c b p now).1:=by
 rw[Qj2 (h.check hb)]
 exact Quq hb hQ hs 100 h hr
structure Kept (p q:D.Page):Prop where
 id:q.S=p.S
 pol:q.W=p.W
 start:q.R=p.R
 by_:q.By=p.By
 until_:q.FR=p.FR
 snoozes:q.z=p.z
 hands:q.FP=p.FP
 seen:q.h=p.h
def Kept.refl(p):Kept p p:=⟨rfl,rfl,rfl,rfl,rfl,rfl,rfl,rfl⟩
def Kept.step{b:D.b}{p q:D.Page}{c:D.E}(h:Kept p q):Kept p (stepQ c b q):=by
 obtain⟨h1,h2,h3,h4,h5,h6,h7,h8⟩:=h
 unfold stepQ
 split
 .exact⟨h1,h2,h3,h4,h5,h6,h7,h8⟩
 .split<;>exact⟨h1,h2,h3,h4,h5,h6,h7,h8⟩
def Qgg(hb:QU b)(hQ:Qkx Q M c b)(h:QM Q M b p):Kept p (runV c b p now).1:=
 Qld hb hQ (fun q _ _ hr=>hr.step) h (Kept.refl p)
def Qx8(hw:Y2 q now=true)(h:q.FT<=now):(stepQ c b q).FT<=now:=by
 have hd:=Qa9 hw
 have hs:=Qfx hd.1
 have h2:=hd.2
 unfold dueV at h2
 unfold stepQ
 grind
def QxU(hb:QU b)(hQ:Qkx Q M c b)(h:QM Q M b p)(hl:p.FT<=now):(runV c b p now).1.FT<=now:=
 Qld (R:=fun q=>q.FT<=now) hb hQ (fun q _ hw hr=>Qx8 hw hr) h hl
def QlO(h:p.p=0):dueV p=(p.FQ,true):=by unfold dueV;rw[iB h]
def QqU(h:p.p=2):dueV p=(p.FR,true):=by unfold dueV;rw[iA U,iB h]
def QrU(h:Wj p a=0):p.FT<=a.At/\Y2 p a.At=false/\p.p≠4/\(p.p=3->a.a=5)/\(p.p=1->a.a≠2)/\p.h.length≠64:=by
 revert h
 unfold Wj
 grind
def Qjs:(XI p a).S=p.S/\(XI p a).W=p.W/\(XI p a).R=p.R/\(XI p a).FB=p.FB:=by
 unfold XI;repeat' split
 all_goals simp_all
def Qqv(h:p.FT<=a.At):(XI p a).FT<=a.At:=by
 unfold XI;repeat' split
 all_goals simp_all
def Qlm:(a.a=4->(XI p a).P=p.P++[⟨-1,a.At,[a.Fw]⟩])/\(a.a≠4->(XI p a).P=p.P):=by
 unfold XI
 grind
end
def kN(l:Y D.R)(i:Nat):Int:=(((l.take i).filter fun s=>decide (0<=s.K)).length:Int)
def tN(st:Int)(l:Y D.R)(i:Nat):Int:=if i=0 then st else(O l (i - 1)).At
def QfJ[AK α]{l m:Y α}(h:i<l.length):O (l++m) i=O l i:=by
 simp[O,AQ,BL h]
def QiN[AK α]{l:Y α}{x:α}:O (l++[x]) l.length=x:=by
 simp[O,AQ]
def Qt4(h:i<=l.length):kN (l++m) i=kN l i:=by
 unfold kN;rw[List.take_append_of_le_length h]
def Qw5:kN (l++[x]) (l.length+1)=kN l l.length+(if 0<=x.K then 1 else 0):=by
 unfold kN
 grind
def Quu(h:i<=l.length):tN st (l++m) i=tN st l i:=by
 unfold tN
 split
 .rfl
 .rw[QfJ U]
def Qyb:tN st l (i+1)=(O l i).At:=by unfold tN;rw[iA U];rfl
def Goes.scan(g:Goes Q st l k t h):kN l l.length=k/\tN st l l.length=t/\
  ∀i,i<l.length->tN st l i<=(O l i).At/\setV (O l i).k=true/\((O l i).K = -1/\0<i\/(O l i).K=kN l i/\0<=(O l i).K/\Q (O l i))/\(i=0->(O l i).At=st):=by
 induction g with
 |nil=>exact⟨rfl,rfl,fun i hi=>by simp at hi⟩
 |@step l k t h a P g h1 h2 h3 h4 ih=>
  obtain⟨i1,i2,i3⟩:=ih
  have hp:=g.pos
  refine⟨by rw[Ac,Br,Qw5,i1,iB (by dsimp only;omega)],by rw[Ac,Br,Qyb,QiN],fun i hi=>?_⟩
  by_cases e:i=l.length
  .subst e
   rw[QiN,Quu (AP _),Qt4 (AP _),i1,i2]
   simp_all
  .have hi':i<l.length:=by rw[Ac,Br]at hi;omega
   rw[QfJ hi',Quu U,Qt4 U]
   exact i3 i hi'
 |@hand l k t h a x g h1 h2 h3 h4 ih=>
  obtain⟨i1,i2,i3⟩:=ih
  have hne:l.length≠0:=fun e=>h2 (List.length_eq_zero_iff.1 e)
  refine⟨by rw[Ac,Br,Qw5,i1,iA Ob];simp,by rw[Ac,Br,Qyb,QiN],fun i hi=>?_⟩
  by_cases e:i=l.length
  .subst e
   rw[QiN,Quu (AP _),Qt4 (AP _),i2]
   exact⟨h1,Qut h3 h4,.inl ⟨rfl,U⟩,fun e=>absurd e hne⟩
  .have hi':i<l.length:=by rw[Ac,Br]at hi;omega
   rw[QfJ hi',Quu U,Qt4 U]
   exact i3 i hi'
section
variable {R zF zB:Type} {Q:R->Prop}
def AM.Ok.run2{B:(zF×zB->I R)->zF×zB->I R}(n:Nat)(st:Nat->zF){r:zB}{fu:Nat}{x:zF}(hx:x=st 0)(hf:n<fu)(hs:∀i,i<n->∀k,(Ok (k (st (i+1),r)) Q->Ok (B k (st i,r)) Q))(h:∀k,Ok (B k (st n,r)) Q):Ok (Qe B fu (x,r)) Q:=
 Ok.run n (fun i=>(st i,r)) (by rw[hx]) hf hs h
def AM.Ok.scan2{B:(zF×zB->I R)->zF×zB->I R}(n:Nat)(st:Nat->zF){r:zB}(q:Nat->AH){fu:Nat}{x:zF}(hx:x=st 0)(hf:n<fu)(hy:∀i,i<n->q i=true->(∀j,j<i->q j=false)->∀k,Ok (B k (st i,r)) Q)(hn:∀i,i<n->q i=false->∀k,(Ok (k (st (i+1),r)) Q->Ok (B k (st i,r)) Q))(he:(∀j,j<n->q j=false)->∀k,Ok (B k (st n,r)) Q):Ok (Qe B fu (x,r)) Q:=
 Ok.scan n (fun i=>(st i,r)) q (by rw[hx]) hf hy hn he
end
def Qqc[AK α]{l:Y α}(h:i<l.length):l.set i (O l i)=l:=by
 have e:O l i=l[i]:=by simp[O,AQ,AU h]
 rw[e];exact List.set_getElem_self h
def asc32:Asc ((List.range 32).map fun(i:Nat)=>(i:Int)):=by unfold Asc;decide
structure CkF (b:D.b) (p:D.Page):Prop where
 id:1<=p.S/\p.S<=999999
 pol:0<=p.W/\p.W<(b.j.length:Int)
 start:0<=p.R/\p.R<=8589934592
 next:0<=p.FB/\p.FB<=YI (Xe b p)
 state:0<=p.p/\p.p<=4
 by_ : -1<=p.By/\p.By<=31
 last:p.R<=p.FT/\p.FT<=farV
 due:0<=p.FQ/\p.FQ<=farV
 until_:0<=p.FR/\p.FR<=farV
 snoozes:0<=p.z/\p.z<=4
 hands:0<=p.FP/\p.FP<=4
 starts:p.P.length<=200
 declined:setV p.g=true
 seen:p.h.Nodup/\p.h.length<=64
section
variable {n:Nat} {c:D.E} {b:D.b} {p q:D.Page} {now:Int}
def Yb(h:QJ b p=true):CkF b p:=by
 unfold QJ Qie QnI at h
 simp only[bae,Qt,BK]at h
 obtain⟨⟨⟨⟨⟨⟨⟨⟨⟨⟨⟨⟨⟨⟨h1,h2⟩,h3⟩,h4⟩,h5⟩,h6⟩,h7⟩,h8⟩,h9⟩,h10⟩,h11⟩,h12⟩,h13⟩,h14⟩,h15⟩:=h
 exact⟨h1,U,h3,h5,h6,h7,h8,h9,h10,h11,h12,h13.2,h14,h15⟩
def CkF.polOK(h:CkF b p)(hb:QU b):Qdr b.t.length (Xe b p):=hb.pol _ (Qf (by have:=h.pol;omega))
def QA.stepQ(h:QA p)(hc:CkF b p)(hb:QU b):QA (stepQ c b p):=by
 have h1:=hc.starts;have h2:=hc.next
 have h3:=Yv (hc.polOK hb)
 unfold Go.Proofs.YtlllfgmajglnhaaGreat.stepQ
 split
 .exact⟨h.st,h.pe,h.de,h.se,h.nx⟩
 .split
  .exact⟨h.st,h.pe,h.de,h.se,h.nx⟩
  .refine⟨by dsimp only;simp;omega,?_,by dsimp only;simp,h.se,by dsimp only;omega⟩
   refine VU h.pe ⟨?_,by dsimp only;omega,by dsimp only;omega⟩
   have:=QqF (c:=c) (b:=b) (s:=Zy b p) (t:=p.FQ)
   dsimp only;omega
def QA.page0:QA page0:=⟨by simp[Go.Proofs.YtlllfgmajglnhaaGreat.page0],by simp[Go.Proofs.YtlllfgmajglnhaaGreat.page0],by simp[Go.Proofs.YtlllfgmajglnhaaGreat.page0],by simp[Go.Proofs.YtlllfgmajglnhaaGreat.page0],by simp[Go.Proofs.YtlllfgmajglnhaaGreat.page0]⟩
def QA.stepV(h:QA p)(hb:QU b):QA (stepV c b p).1:=by
 unfold Go.Proofs.YtlllfgmajglnhaaGreat.stepV
 split
 .exact .page0
 .rename_i hc
  split
  .exact .page0
  .split
   .exact .page0
   .exact h.stepQ (Yb (by simpa using hc)) hb
def QA.runN(hb:QU b):∀(k:Nat) {p:D.Page},QA p->QA (runN c b now k p).1
 |0,p,h=>h
 |k+1,p,h=>by
  rw[Go.Proofs.YtlllfgmajglnhaaGreat.runN]
  split
  .split
   .exact .page0
   .exact QA.runN hb k (h.stepV hb)
  .exact h
def QA.runV(h:QA p)(hb:QU b):QA (runV c b p now).1:=by
 unfold Go.Proofs.YtlllfgmajglnhaaGreat.runV
 split
 .exact .page0
 .exact QA.runN hb 100 h
def QA.answerV{a:D.Z}(h:QA p)(hb:QU b):QA (answerV b p a).1:=by
 unfold Go.Proofs.YtlllfgmajglnhaaGreat.answerV
 split
 .exact .page0
 .rename_i hc
  have hf:CkF b p:=Yb (by cases hk:QJ b p<;>simp_all)
  have hx:=hf.starts;have hs:=hf.seen
  split
  .exact .page0
  .split
   .exact h
   .split
    .exact .page0
    .have hd:(U4 p a).length<=40:=by
      unfold U4
      split
      .have hde:=Qav.1 hf.declined
       have h32:(QiS p.g a.Q).length<=p.g.length+1:=by
        unfold QiS
        rw[Ac,Ab]
        have hsum:∀l:Y Int,(l.filter (fun z=>decide (z<a.Q))).length+(l.filter (fun z=>decide (a.Q<z))).length<=l.length:=by
         intro l
         induction l with
         |nil=>simp
         |cons y l ih=>
          rw[List.filter_cons,List.filter_cons,Ab]
          by_cases g1:y<a.Q
          .rw[iB (by simpa using g1),iA (by simp;omega),Ab];omega
          .by_cases g2:a.Q<y
           .rw[iA (by simpa using g1),iB (by simpa using g2),Ab];omega
           .rw[iA (by simpa using g1),iA (by simpa using g2)];omega
        have:=hsum p.g
        omega
       have hlen:p.g.length<=32:=by
        have e:p.g=((List.range 32).map fun(i:Nat)=>(i:Int)).filter fun z=>p.g.contains z:=Qfm hde.1 (CP _ asc32) fun z=>by
         simp only[Bk,Bg,BT,Cf]
         exact⟨fun hz=>⟨⟨z.toNat,by have:=hde.2 z hz;omega,by have:=hde.2 z hz;omega⟩,hz⟩,fun hz=>hz.2⟩
        rw[e]
        exact AX (CQ _ _) Ob
       omega
      .exact h.de
     have hse:(p.h++[a.S]).length<=100:=by simp;omega
     unfold XI
     split
     .split
      .exact⟨h.st,h.pe,h.de,hse,h.nx⟩
      .exact⟨h.st,h.pe,h.de,hse,h.nx⟩
     .split
      .exact⟨h.st,h.pe,hd,hse,h.nx⟩
      .split
       .exact⟨h.st,h.pe,h.de,hse,h.nx⟩
       .split
        .exact⟨by dsimp only;simp;omega,VU h.pe ⟨Ob,by dsimp only;omega,by dsimp only;omega⟩,by dsimp only;simp,hse,h.nx⟩
        .exact⟨h.st,h.pe,h.de,hse,h.nx⟩
def QM.plen(h:QM Q M b p)(hb:QU b):QA p:=by
 obtain⟨h1,h2,h3⟩:=h.len hb
 have hf:=Yb (h.check hb)
 have hc:=Yv (h.polOK hb)
 have hlen:∀{l:Y Int},setV l=true->l.length<=40:=by
  intro l hl
  have hde:=Qav.1 hl
  have e:l=((List.range 32).map fun(i:Nat)=>(i:Int)).filter fun z=>l.contains z:=Qfm hde.1 (CP _ asc32) fun z=>by
   simp only[Bk,Bg,BT,Cf]
   exact⟨fun hz=>⟨⟨z.toNat,by have:=hde.2 z hz;omega,by have:=hde.2 z hz;omega⟩,hz⟩,fun hz=>hz.2⟩
  rw[e]
  exact AX (CQ _ _) Ob
 refine⟨U,fun s hs=>?_,hlen h.declined,by have:=hf.seen;omega,by have:=hf.next;omega⟩
 obtain⟨t,g1,_⟩:=h.goes
 obtain⟨k1,k2,k3⟩:=g1.scan
 obtain⟨i,hi,rfl⟩:=BX hs
 have:=k3 i hi
 have hkk:kN p.P i<=300:=by
  unfold kN
  have:=CQ (fun s:D.R=>decide (0<=s.K)) (p.P.take i)
  have:=E2 i p.P
  omega
 rw[show O p.P i=p.P[i]by simp[O,AQ,AU hi]]at this
 exact⟨hlen this.2.1,U,U⟩
end
section
open Go AM
attribute [local irreducible] dueV stepV runV QJ
section
def Qn4:WX 1000 p=some (dueV p):=by
 unfold WX dueV
 by_cases h0:p.p=0
 .simp[cd,AM.J,h0]
 .by_cases h2:p.p=2<;>simp[cd,AM.J,h0,h2]
def Qz4:QaD 1000 p t=some (Y2 p t):=by
 unfold QaD Y2
 rw[Qn4,ZY]
 obtain⟨a,d⟩:=dueV p
 cases d<;>by_cases h:a<=t<;>simp[cd,AM.J,h]
def QqN(h:l.length<=1000):Xy 1000 l=some l:=by unfold Xy;exact Yh U
def Qfs(h:l.length<=1000):Qu 1000 l=some l:=by unfold Qu;exact Yh U
def Qww(h:l.length<=1000):WQ 1000 l=some l:=by unfold WQ;exact Yh U
def QlL(h:QA p):XW 1000 p=some p:=by
 have h1:=h.st;have h2:=h.de;have h3:=h.se
 refine Ok.eq ?_
 unfold XW
 refine Ok.oe (QqN U) ?_
 refine Ok.run2 p.P.length (fun i=>((p.P.length:Int),(i:Int),())) rfl U (fun i hi k hk=>?_) (fun k=>?_)
 .dsimp only
  have hp:=(h.pe _ (Qf hi)).1
  refine Ok.P (Ok.natn (Ok.lt hi (Ok.get hi (Ok.oe (Qww U) (Ok.natn (Ok.lt hi (Ok.get hi ?_)))))))
  rw[Qa U,show(D.R.mk (O p.P i).K (O p.P i).At (O p.P i).k)=O p.P i from rfl,Qqc hi]
  exact hk
 .dsimp only
  exact Ok.N (Ok.oe (Qfs U) (Ok.oe (Qfs U) (Ok.s rfl)))
def Qu5(q:D.W)(i:Int):Int×Int×AH:=if 0<=i/\i<YI q then(i % (q.Steps.length:Int),i / (q.Steps.length:Int),true)else(0,0,false)
def QBL(h:Qdr m q):Qck 1000 q i=some (Qu5 q i):=by
 have h2:=h.len
 have hc:=Yv h
 refine Ok.eq ?_
 unfold Qck Qu5
 refine Ok.oe (QoX h) ?_
 rw[Qc (x:=YI q - 1) U]
 refine Ok.oe pIn ?_
 by_cases hi:0<=i/\i<YI q
 .have g1:=Int.ediv_le_self (a:=i) (q.Steps.length:Int) hi.1
  have g2:0<=i / (q.Steps.length:Int):=EP hi.1 U
  refine Ok.np U (Ok.Z (Ok.Z (Ok.s ?_)))
  rw[iB hi,Bq hi.1,Bz hi.1,Qc U]
 .refine Ok.nn U (Ok.s ?_)
  rw[iA hi]
def QAi{q:D.W}(h:1<=q.Steps.length):0<=i % (q.Steps.length:Int)/\i % (q.Steps.length:Int)<(q.Steps.length:Int):=
 ⟨Cp _ U,Cq _ U⟩
abbrev pgA(p:D.Page):Int×Int×Int×Int×Int×Int×Int×Int×Int×Int×Int×Unit:=(p.S,p.W,p.R,p.FB,p.FQ,p.p,p.By,p.FR,p.FT,p.z,p.FP,())
def Qlu(h:Ze n c)(hn:n<=48):ZD 1000 x c p s=some (!Vu c x p.FQ s.Fv,p):=by
 unfold ZD
 rw[QzC h hn,ZY,Vg,Vg]
def QBq(h:Ze n c)(hn:n<=48)(hm:m<=l0.length)(hl:m<=900):
  Ok (Qw 1000 0 m l0 c p s) fun r=>r.2=p/\(r.1 = -1/\(∀j,j<m->Vu c (O l0 j) p.FQ s.Fv=true)\/∃i:Nat,r.1=(i:Int)/\i<m/\Vu c (O l0 i) p.FQ s.Fv=false/\∀j,j<i->Vu c (O l0 j) p.FQ s.Fv=true):=by
 unfold Qw
 rw[Bj]
 refine Ok.scan2 m (fun i=>(0,m,(m:Int),(i:Int),())) (fun i=>!Vu c (O l0 i) p.FQ s.Fv) rfl U (fun i hi hq hj k=>?_) (fun i hi hq k hk=>?_) (fun hq k=>?_)
 .dsimp only
  rw[Bj]
  refine Ok.P (Ok.natn (Ok.E ?_))
  rw[Ai]
  refine Ok.G (Ok.oe (Qlu (p:=p) h hn) ?_)
  exact Ok.bt hq (Ok.TF (Ok.TF (Ok.TF (Ok.s ⟨rfl,.inr ⟨i,rfl,hi,by simpa using hq,fun j hj'=>by simpa using hj j hj'⟩⟩))))
 .dsimp only
  rw[Bj]
  refine Ok.P (Ok.natn (Ok.E ?_))
  rw[Ai]
  refine Ok.G (Ok.oe (Qlu (p:=p) h hn) (Ok.bf hq ?_))
  rw[Qa U]
  exact hk
 .exact Ok.N (Ok.TF (Ok.TF (Ok.TF (Ok.s ⟨rfl,.inl ⟨rfl,fun j hj=>by simpa using hq j hj⟩⟩))))
def QA8(h:Ze n c)(hn:n<=48)(hm:m<=l0.length)(hl:l0.length<=900):
  Ok (Qv 1000 0 m l0 c p s) fun r=>r.2.2.1=p/\List.drop r.1 (List.take r.2.1 r.2.2.2)=(l0.take m).filter fun z=>Vu c z p.FQ s.Fv:=by
 unfold Qv
 refine Ok.opt (QBq h hn hm U) fun⟨r,p'⟩ ⟨hp',hr⟩=>?_
 dsimp only at hp' hr |-
 subst hp'
 rcases hr with⟨rfl,hall⟩|⟨i,rfl,hi,hx,hj⟩
 .refine Ok.p rfl (Ok.TF (Ok.TF (Ok.s ⟨rfl,?_⟩)))
  dsimp only
  rw[Cb,QjH (q:=fun z=>Vu c z p'.FQ s.Fv) hm hall]
 .refine Ok.N ?_
  rw[Qa U]
  refine Ok.loop (fun q x=>∃(w j:Nat) (a:Y Int),x=((0,m,(w:Int),(j:Int),()),c,pgA p',s,a,p'.P,p'.g,p'.h,())/\Qlj (l0) (fun z=>Vu c z p'.FQ s.Fv) w j a/\(w<j/\j<=m)/\q=m - j) (m:=m - (i+1)) U ⟨i,i+1,l0,rfl,QqT U hj hx,U,rfl⟩ ?_
  rintro q x ⟨w,j,a,rfl,hinv,hjm,rfl⟩ K hK
  have h1:=hinv.wj
  have h2:=hinv.len
  dsimp only
  rw[Bj]
  refine Ok.ite (fun hlt=>?_) (fun hge=>?_)
  .refine Ok.j (Ok.natn (Ok.E ?_))
   rw[Ai]
   refine Ok.G (Ok.oe (Qlu (p:=p') h hn) ?_)
   dsimp only
   rw[EZ]
   refine Ok.J (fun hq=>?_) (fun hq=>?_)
   .refine Ok.natn (Ok.E ?_)
    rw[Ai]
    refine Ok.G ?_
    rw[Qa U,Qa U]
    exact hK _ _ U ⟨w+1,j+1,_,rfl,QtL hinv U hq,U,rfl⟩
   .rw[Qa U]
    exact hK _ _ U ⟨w,j+1,a,rfl,QtM hinv U hq,U,rfl⟩
  .have ej:j=m:=U
   have hd:=hinv.done
   rw[ej]at hd
   refine Ok.natn (Ok.E (Ok.L (Ok.L (Ok.natn (Ok.L (Ok.TF (Ok.TF (Ok.s ⟨rfl,?_⟩))))))))
   grind
def QyM(h:Ze n c)(hn:n<=48)(hb:QU b)(hf:CkF b p)(hnx:p.FB<YI (Xe b p))(hs:p.P.length<=300):
  Ok (Yq 1000 c b p) fun r=>r.1={ p with P:=p.P++[⟨p.FB,p.FQ,Qcz c b (Zy b p) p.FQ⟩],g:=[],FB:=p.FB+1,FQ:=if Qcz c b (Zy b p) p.FQ=[]then p.FQ else p.FQ+(Zy b p).Fz }:=by
 have hp:=hf.pol;have h0:=hf.next;have hd:=hf.due
 have hq:Qdr b.t.length (Xe b p):=hf.polOK hb
 have hpl:=hb.plen;have hql:=hq.len
 have hc:=Yv hq
 unfold farV at hd
 unfold Yq
 refine Ok.at hp.1 hp.2 ?_
 show Ok (V (Qck 1000 (Xe b p) p.FB) _) _
 refine Ok.oe (QBL hq) ?_
 unfold Qu5
 rw[iB ⟨h0.1,hnx⟩]
 dsimp only
 have hm:=QAi (q:=Xe b p) (i:=p.FB) hql.1
 refine Ok.at hm.1 hm.2 ?_
 have hst:=hq.step _ (Qtr hq h0.1)
 have hw:0<=(Zy b p).Fz/\(Zy b p).Fz<=900:=hst.wait
 have hlen:(Zy b p).Fk.length<=2:=hst.len
 rw[show O (O b.j p.W.toNat).Steps (p.FB % ((Xe b p).Steps.length:Int)).toNat=Zy b p from rfl]
 refine Ok.opt (Qxr h hn hb hst.target U) fun⟨v0,v1,v2⟩ ⟨g1,g2,g3,g4⟩=>?_
 dsimp only at g1 g2 g3 g4 |-
 subst g1
 refine Ok.opt (QA8 (s:=Zy b p) h hn g2 U) fun⟨w0,w1,w2,w3⟩ ⟨e1,e2⟩=>?_
 dsimp only at e1 e2 |-
 subst e1
 rw[e2,g4]
 show Ok (AM.TO (w2.P.length+_) _ _) _
 have hcall:(List.filter (fun z=>Vu c z w2.FQ (Zy b w2).Fv) (Vy c b (Zy b w2).Fk w2.FQ))=Qcz c b (Zy b w2) w2.FQ:=rfl
 rw[hcall]
 refine Ok.LS (Ok.j (Ok.ite (fun hpos=>Ok.s ?_) (fun hpos=>Ok.s ?_)))
 .have hne:Qcz c b (Zy b w2) w2.FQ≠[]:=fun e=>by rw[e]at hpos;simp at hpos
  show _=_
  rw[iA hne,Qc U,Qc U]
 .have he:Qcz c b (Zy b w2) w2.FQ=[]:=E3.2 U
  show _=_
  rw[iB he,Qc U]
def QB2(h:Ze n c)(hn:n<=48)(hb:QU b)(hp:QA p):Qby 1000 c b p=some (stepV c b p):=by
 refine Ok.eq ?_
 unfold Qby
 have hst:=hp.st
 refine Ok.oe Qn4 (Ok.oe (QkS hb hp) (Ok.ncnd (fun hc=>Ok.s ?_) (fun hc=>?_)))
 .unfold stepV;rw[iB hc];rfl
 have hf:=Yb hc
 refine Ok.ncnd (fun hd=>Ok.s ?_) (fun hd=>?_)
 .unfold stepV;rw[iA (by rw[hc];simp),iB hd];rfl
 refine Ok.ite (fun hl=>Ok.s ?_) (fun hl=>?_)
 .unfold stepV;rw[iA (by rw[hc];simp),iA (by rw[hd];simp),iB U];rfl
 have hV:stepV c b p=(stepQ c b p,0):=by unfold stepV;rw[iA (by rw[hc];simp),iA (by rw[hd];simp),iA U]
 rw[hV]
 have hs:=Qfx hd
 have hpol:=hf.pol;have hnx:=hf.next;have hl2:=hf.last;have hdu:=hf.due
 refine Ok.oe (QlL hp) (Ok.j (Ok.ite (fun h2=>Ok.s ?_) (fun h2=>?_)))
 .unfold stepQ
  rw[iB h2,QqU h2,Ea]
 .have h0:p.p=0:=U
  refine Ok.at hpol.1 hpol.2 ?_
  show Ok (V (W2 1000 (Xe b p)) _) _
  refine Ok.oe (QoX (hf.polOK hb)) (Ok.ite (fun he=>Ok.s ?_) (fun he=>?_))
  .unfold stepQ
   rw[iA h2,iB U,QlO h0,Ea]
  .have hf':CkF b { p with FT:=max p.FT p.FQ }:=⟨hf.id,hf.pol,hf.start,hf.next,hf.state,hf.by_,by dsimp only;omega,hf.due,hf.until_,hf.snoozes,hf.hands,hf.starts,hf.declined,hf.seen⟩
   have hb':=QyM (p:={ p with FT:=max p.FT p.FQ }) h hn hb hf' (by show p.FB<YI (Xe b p);omega) hst
   have hQ:stepQ c b p={ p with FT:=max p.FQ p.FT,P:=p.P++[⟨p.FB,p.FQ,Qcz c b (Zy b p) p.FQ⟩],g:=[],FB:=p.FB+1,FQ:=if Qcz c b (Zy b p) p.FQ=[]then p.FQ else p.FQ+(Zy b p).Fz }:=by
    unfold stepQ;rw[iA h2,iA (show ¬YI (Xe b p)<=p.FB by omega)]
   rw[QlO h0,hQ,Ea p.FQ p.FT]
   refine Ok.opt hb' fun⟨r,z⟩ hr=>Ok.s ?_
   dsimp only at hr |-
   subst hr
   rfl
def QCL(h:Ze n c)(hn:n<=48)(hb:QU b)(hp:QA p):QcM 1000 c b p now=some (runV c b p now):=by
 refine Ok.eq ?_
 unfold QcM
 refine Ok.oe (QkS hb hp) (Ok.ncnd (fun hc=>Ok.s ?_) (fun hc=>?_))
 .unfold runV;rw[iB hc];rfl
 rw[Qj2 hc]
 have hf:=Yb hc
 have hcn:=Yv (hf.polOK hb)
 have hnx:=hf.next
 have hle:QaP b p<=11:=by
  unfold QaP
  grind
 refine Ok.oe (QlL hp) ?_
 refine Ok.loop (fun m x=>∃(q:D.Page) (k:Nat),x=((now,()),c,b,q,page0,())/\QA q/\QaP b q+1<=k/\runN c b now k q=runN c b now 100 p/\m=QaP b q) (m:=QaP b p) U ⟨p,100,rfl,hp,U,rfl,rfl⟩ ?_
 rintro m x ⟨q,k,rfl,hq,hk,he,rfl⟩ K hK
 dsimp only
 obtain⟨k,rfl⟩:∃k',k=k'+1:=⟨k - 1,U⟩
 rw[runN]at he
 refine Ok.oe Qz4 (Ok.J (fun hw=>?_) (fun hw=>Ok.s ?_))
 .rw[iB hw]at he
  refine Ok.oe (QB2 h hn hb hq) (Ok.ite (fun h1=>Ok.s ?_) (fun h1=>?_))
  .rw[iB h1]at he;exact he
  .rw[iA h1]at he
   have hd:=Qa9 hw
   have hst:stepV c b q=(stepQ c b q,0):=by
    revert h1
    unfold stepV
    grind
   have hl:=QdZ (c:=c) (b:=b) hd.1
   rw[hst]at he |-
   refine hK (QaP b (stepQ c b q)) _ hl ⟨stepQ c b q,k,rfl,?_,U,he,rfl⟩
   have:=hq.stepV (c:=c) hb
   grind
 .grind
end
end
section
attribute [local irreducible] dueV stepV runV QJ
section
def rin:QH fu x lo hi=some (inV x lo hi):=by
 unfold QH inV
 by_cases h1:lo<=x<;>by_cases h2:x<=hi<;>simp[cd,AM.J,h1,h2]
def Qz9:badS l i=true↔¬(0<=O l i/\O l i<=31/\(i=0\/O l (i - 1)<O l i)):=by
 unfold badS
 grind
def QCn:badS l i=false↔(0<=O l i/\O l i<=31/\(i=0\/O l (i - 1)<O l i)):=by
 rw[<-Bool.not_eq_true,Qz9,Ag]
def Qqb(hl:l.length<900):Qet 1000 l 32=some (setV l):=by
 refine Ok.eq ?_
 unfold Qet
 refine Ok.scan l.length (fun i=>((l,32,(i:Int),()),())) (badS l) rfl U (fun i hi hq _ k=>?_) (fun i hi hq k hk=>?_) (fun hq k=>?_)
 .have hb:=Qz9.1 hq
  dsimp only
  rw[Qus hi hq]
  refine Ok.P (Ok.j (Ok.atn hi (Ok.ite (fun h1=>Ok.s rfl) (fun h1=>Ok.atn hi (Ok.ite (fun h2=>Ok.s rfl) (fun h2=>?_))))))
  have h0:0<i:=U
  refine Ok.P ?_
  rw[show X ((i:Int) - 1)=((i - 1:Nat):Int)by rw[Qc U];omega]
  exact Ok.A (Ok.atn hi (Ok.P (Ok.s rfl)))
 .have hb:=QCn.1 hq
  dsimp only
  refine Ok.P (Ok.j (Ok.atn hi (Ok.N (Ok.atn hi (Ok.N ?_)))))
  dsimp only
  rw[Qa U]
  by_cases h0:0<i
  .refine Ok.P ?_
   rw[show X ((i:Int) - 1)=((i - 1:Nat):Int)by rw[Qc U];omega]
   exact Ok.A (Ok.atn hi (Ok.N hk))
  .exact Ok.N hk
 .exact Ok.N (Ok.s (Qr5 hq).symm)
def Qtp(h:QA p):QgT 1000 p=some (Qie p):=by
 have hst:=h.st
 have hnx:=h.nx
 refine Ok.eq ?_
 unfold QgT Qie
 refine Ok.loop (fun m x=>∃(i:Nat) (k t:Int),x=((k,t,(i:Int),()),p,())/\i<=p.P.length/\-1<=k/\k<=1000000/\WJ p.FB k t (p.P.drop i)=WJ p.FB (-1) p.R p.P/\m=p.P.length - i) (m:=p.P.length) U
  ⟨0,-1,p.R,rfl,U,U,U,rfl,rfl⟩ ?_
 rintro m x ⟨i,k,t,rfl,h1,h2,h2',h3,rfl⟩ K hK
 dsimp only
 refine Ok.ite (fun hi=>?_) (fun hi=>?_)
 .have hlt:i<p.P.length:=U
  have hs:=h.pe _ (Qf hlt)
  refine Ok.j (Ok.atn hlt ?_)
  obtain⟨s,hse⟩:∃s,O p.P i=s:=⟨_,rfl⟩
  rw[Qfw hlt,WJ,hse]at h3
  rw[hse]at hs |-
  refine Ok.TG (fun y=>y=((k,(i:Int),()),p,s,())/\t<=s.At/\(s.K = -1\/0<=s.K/\k<s.K/\s.K<p.FB)/\setV s.k=true) (fun y hy=>?_) (fun zG hJ=>?_)
  .obtain⟨rfl,c1,c2,c3⟩:=hy
   have hC:(decide (t<=s.At) && (decide (s.K = -1) || decide (0<=s.K) && decide (k<s.K) && decide (s.K<p.FB)) && setV s.k)=true:=by
    rw[c3];simp;omega
   rw[hC,B9]at h3
   dsimp only
   rw[Qa U]
   refine Ok.ite (fun g=>?_) (fun g=>?_)
   .rw[show max k s.K=s.K by omega]at h3
    exact hK _ _ U ⟨i+1,s.K,s.At,rfl,U,U,U,h3,rfl⟩
   .rw[show max k s.K=k by omega]at h3
    exact hK _ _ U ⟨i+1,k,s.At,rfl,U,U,U,h3,rfl⟩
  .refine Ok.ite (fun g1=>Ok.s ?_) (fun g1=>Ok.ite (fun g2=>Ok.s ?_) (fun g2=>Ok.ite (fun g3=>Ok.ite (fun g4=>Ok.s ?_) (fun g4=>Ok.ite (fun g5=>Ok.s ?_) (fun g5=>Ok.oe (Qqb U) (Ok.J (fun g6=>hJ _ ⟨rfl,U,U,g6⟩) (fun g6=>Ok.s ?_))))) (fun g3=>Ok.oe (Qqb U) (Ok.J (fun g6=>hJ _ ⟨rfl,U,U,g6⟩) (fun g6=>Ok.s ?_)))))
   .grind
   .grind
   .grind
   .grind
   .rw[<-h3,g6];simp
   .rw[<-h3,g6];simp
 .have e:i=p.P.length:=U
  refine Ok.s ?_
  subst e
  rw[List.drop_length,WJ]at h3
  grind
def Qn2(h:Qdr m q):QdI 1000 q=some (YI q):=by
 have h1:=h.rep
 have h2:=h.len
 refine Ok.eq ?_
 unfold QdI
 refine Ok.j (Ok.oe rin (Ok.bt (Qt.2 U) (Ok.N (Ok.s ?_))))
 rw[(Yv h).1,Qc (x:=q.Fo+1) U,Qc]
 have h3:q.Fo=0\/q.Fo=1\/q.Fo=2:=U
 grind
def QvF(h:Qdr m q):Qf0 1000 q=some true:=by
 have h2:=h.len
 refine Ok.eq ?_
 unfold Qf0
 refine Ok.run2 q.Steps.length (fun i=>((i:Int),())) rfl U (fun i hi k hk=>?_) (fun k=>Ok.N (Ok.s rfl))
 dsimp only
 have hw:=(h.step _ (Qf hi)).wait
 refine Ok.P (Ok.atn hi (Ok.oe rin (Ok.nt (Qt.2 U) ?_)))
 rw[Qa U]
 exact hk
def Qxq(h:Qdr m q):Qi0 1000 q i=some (Qu5 q i):=by
 have h2:=h.len
 have hc:=Yv h
 refine Ok.eq ?_
 unfold Qi0 Qu5
 refine Ok.j (Ok.ite (fun g1=>Ok.s ?_) (fun g1=>Ok.oe (Qn2 h) (Ok.ite (fun g2=>Ok.s ?_) (fun g2=>Ok.Z (Ok.Z (Ok.s ?_))))))
 .rw[iA U]
 .rw[iA U]
 .have g3:=Int.ediv_le_self (a:=i) (q.Steps.length:Int) U
  have g4:0<=i / (q.Steps.length:Int):=EP U U
  rw[iB U,Bq U,Bz U,Qc U]
def newV(b:D.b)(id pol start:Int):D.Page×Int:=
 if inV id 1 999999=true/\inV start 0 8589934592=true then(if inV pol 0 ((b.j.length:Int) - 1)=true then(newP id pol start,0)else(page0,3))else(page0,1)
def Qpn{id pol start:Int}(hb:QU b):QmF 1000 b id pol start=some (newV b id pol start):=by
 have hp:=hb.plen
 refine Ok.eq ?_
 unfold QmF newV
 refine Ok.j (Ok.oe rin (Ok.J (fun h1=>Ok.oe rin (Ok.J (fun h2=>?_) (fun h2=>Ok.s ?_))) (fun h1=>Ok.s ?_)))
 .dsimp only
  rw[iB ⟨h1,h2⟩,Qc U]
  refine Ok.oe rin (Ok.ncnd (fun h3=>Ok.s ?_) (fun h3=>Ok.s ?_))
  .rw[iA (by rw[h3];simp)];rfl
  .rw[iB h3];rfl
 .rw[iA (by rw[h2];simp)];rfl
 .rw[iA (by rw[h1];simp)];rfl
def QBC{id pol start:Int}(hb:QU b):QfA 1000 b id pol start=some (newV b id pol start):=Qpn hb
def Qgt(hb:QU b)(h:QA p):UM 1000 b p=some (QJ b p):=by
 have hde:=h.de;have hse:=h.se
 have hpl:=hb.plen
 refine Ok.eq ?_
 unfold UM
 refine Ok.j (Ok.oe (Qpn hb) ?_)
 unfold newV
 by_cases h1:inV p.S 1 999999=true/\inV p.R 0 8589934592=true
 .rw[iB h1]
  by_cases h2:inV p.W 0 ((b.j.length:Int) - 1)=true
  .rw[iB h2]
   have h2':=Qt.1 h2
   have hq:Qdr b.t.length (Xe b p):=hb.pol _ (Qf U)
   have hw:=QoF hq
   refine Ok.NS (Ok.at h2'.1 U ?_)
   show Ok (V (Qf0 1000 (Xe b p)) _) _
   refine Ok.oe (QvF hq) (Ok.t (Ok.at h2'.1 U ?_))
   show Ok (V (QdI 1000 (Xe b p)) _) _
   refine Ok.oe (Qn2 hq) (Ok.oe rin (Ok.J (fun h4=>?_) (fun h4=>Ok.s (by simp[QJ,h4]))))
   refine Ok.j (Ok.oe rin (Ok.J (fun h5=>?_) (fun h5=>Ok.s (by simp[QJ,h5]))))
   refine Ok.oe rin (Ok.J (fun h6=>?_) (fun h6=>Ok.s (by simp[QJ,h6])))
   refine Ok.oe rin (Ok.J (fun h7=>?_) (fun h7=>Ok.s (by have h7:inV p.FT p.R farV=false:=h7;simp[QJ,h7])))
   refine Ok.oe rin (Ok.J (fun h8=>?_) (fun h8=>Ok.s (by have h8:inV p.FQ 0 farV=false:=h8;simp[QJ,h8])))
   refine Ok.oe rin (Ok.J (fun h9=>?_) (fun h9=>Ok.s (by have h9:inV p.FR 0 farV=false:=h9;simp[QJ,h9])))
   refine Ok.j (Ok.oe rin (Ok.J (fun h10=>?_) (fun h10=>Ok.s (by simp[QJ,h10]))))
   refine Ok.oe rin (Ok.J (fun h11=>?_) (fun h11=>Ok.s (by simp[QJ,h11])))
   refine Ok.oe (Qtp h) (Ok.J (fun h12=>?_) (fun h12=>Ok.s (by simp[QJ,h12])))
   refine Ok.oe (Qqb U) (Ok.J (fun h13=>?_) (fun h13=>Ok.s (by simp[QJ,h13])))
   refine Ok.ite (fun h14=>Ok.s (by simp[QJ,QnI,Au (show ¬p.h.length<=64 by omega)])) (fun h14=>?_)
   have h7':inV p.FT p.R farV=true:=h7
   have h8':inV p.FQ 0 farV=true:=h8
   have h9':inV p.FR 0 farV=true:=h9
   have hcv:QJ b p=QnI p.h:=by simp[QJ,h1.1,h1.2,h2,hw,h4,h5,h6,h7',h8',h9',h10,h11,h12,h13]
   rw[hcv]
   unfold QnI
   rw[Az (show p.h.length<=64 by omega),EQ]
   refine Ok.scan2 p.h.length (fun i=>((i:Int),())) (fun i=>(p.h.take i).contains (O p.h i)) rfl U (fun i hi hq _ k=>?_) (fun i hi hq k hk=>?_) (fun hq k=>?_)
   .refine Ok.P (Ok.natn (Ok.L (Ok.atn hi (Ok.oe (Qec (by simp;omega)) (Ok.bt hq (Ok.s ?_))))))
    rw[Qle hi hq]
   .refine Ok.P (Ok.natn (Ok.L (Ok.atn hi (Ok.oe (Qec (by simp;omega)) (Ok.bf hq ?_)))))
    rw[Qa U];exact hk
   .exact Ok.N (Ok.s (Az (Qr4 hq)).symm)
  .rw[iA h2]
   exact Ok.PS (Ok.s (by simp[QJ,h2]))
 .rw[iA h1]
  refine Ok.PS (Ok.s ?_)
  have:QJ b p=false:=by
   rw[C4]
   intro hc
   have hf:=Yb hc
   exact h1 ⟨Qt.2 hf.id,Qt.2 hf.start⟩
  rw[this]
def Qgw:Qh4 1000 p=some (dueV p):=Qn4
def QsC(h:QA p):QgS 1000 p=some (Wb p):=by
 have h1:=h.st
 refine Ok.eq ?_
 unfold QgS Wb
 refine Ok.ite (fun h0=>Ok.s ?_) (fun h0=>?_)
 .simp_all
 .have hne:p.P≠[]:=fun e=>h0 (by rw[e];rfl)
  have hpos:=CC.2 hne
  rw[show X ((p.P.length:Int) - 1)=((p.P.length - 1:Nat):Int)by rw[Qc U];omega]
  have hp:=(h.pe _ (Qf (l:=p.P) (i:=p.P.length - 1) U)).1
  refine Ok.A (Ok.L (Ok.s ?_))
  rw[iA hne]
def Qdu(h:QA p):QbN 1000 p=some p:=by
 have h1:=h.st;have h2:=h.de;have h3:=h.se
 refine Ok.eq ?_
 unfold QbN
 refine Ok.run p.P.length (fun i=>(((i:Int),()),p,page0,p.P.take i,())) rfl U (fun i hi k hk=>?_) (fun k=>?_)
 .dsimp only
  have hp:=(h.pe _ (Qf hi)).1
  refine Ok.P (Ok.atn hi (Ok.L (Ok.LS ?_)))
  rw[Qa U,Qn hi]
  exact hk
 .dsimp only
  rw[Ad]
  exact Ok.N (Ok.L (Ok.L (Ok.s rfl)))
def QsL{l:Y Int}{f:Int->AH}{i:Nat}(hi:i<l.length):(l.take (i+1)).filter f=(l.take i).filter f++(if f (O l i)=true then[O l i]else[]):=by
 rw[<-Qn hi,B6]
 grind
def Qx7(h:Ze n c)(hn:n<=48)(hb:QU b)(hp:QA p):Qlb 1000 c b p=some (stepV c b p):=by
 refine Ok.eq ?_
 unfold Qlb
 have hst:=hp.st
 refine Ok.oe (Qgt hb hp) (Ok.ncnd (fun hc=>Ok.s ?_) (fun hc=>?_))
 .unfold stepV;rw[iB hc];rfl
 have hf:=Yb hc
 refine Ok.oe Qgw (Ok.ncnd (fun hd=>Ok.s ?_) (fun hd=>?_))
 .unfold stepV;rw[iA (by rw[hc];simp),iB hd];rfl
 have hst2:=hf.starts
 refine Ok.ite (fun hl=>Ok.s ?_) (fun hl=>?_)
 .unfold stepV;rw[iA (by rw[hc];simp),iA (by rw[hd];simp),iB U];rfl
 have hV:stepV c b p=(stepQ c b p,0):=by unfold stepV;rw[iA (by rw[hc];simp),iA (by rw[hd];simp),iA U]
 rw[hV]
 have hs:=Qfx hd
 have hpol:=hf.pol;have hnx:=hf.next;have hl2:=hf.last;have hdu:=hf.due
 refine Ok.oe (Qdu hp) (Ok.ite (fun h2=>Ok.s ?_) (fun h2=>?_))
 .unfold stepQ
  rw[iB h2,QqU h2]
 .have h0:p.p=0:=U
  have hq:=hf.polOK hb
  have hcn:=Yv hq
  have hql:=hq.len
  refine Ok.at hpol.1 hpol.2 ?_
  show Ok (V (Qi0 1000 (Xe b p) p.FB) _) _
  refine Ok.oe (Qxq hq) ?_
  unfold Qu5
  rw[QlO h0]
  by_cases he:p.FB<YI (Xe b p)
  .rw[iB ⟨hnx.1,he⟩]
   dsimp only
   have hm:=QAi (q:=Xe b p) (i:=p.FB) hql.1
   refine Ok.f (Ok.at hm.1 hm.2 ?_)
   have hstp:=hq.step _ (Qtr hq hnx.1)
   have hw:0<=(Zy b p).Fz/\(Zy b p).Fz<=900:=hstp.wait
   have hlen:(Zy b p).Fk.length<=2:=hstp.len
   show Ok (V (QdJ 1000 c b (Zy b p).Fk p.FQ) _) _
   refine Ok.oe (Qu7 h hn hb hstp.target U) ?_
   have hpl:=QhZ (c:=c) (b:=b) (l:=(Zy b p).Fk) (t:=p.FQ)
   obtain⟨l,hl3⟩:∃l,Vy c b (Zy b p).Fk p.FQ=l:=⟨_,rfl⟩
   rw[hl3]at hpl |-
   have hcall:Qcz c b (Zy b p) p.FQ=l.filter fun z=>Vu c z p.FQ (Zy b p).Fv:=by unfold Qcz;rw[hl3]
   refine Ok.run l.length (fun i=>((p.FQ,p.FB % ((Xe b p).Steps.length:Int),l,(i:Int),()),c,p,page0,(p.S,p.W,p.R,p.FB,p.FQ,p.p,p.By,p.FR,max p.FQ p.FT,p.z,p.FP,()),Xe b p,(p.FB,p.FQ,()),p.P,p.g,p.h,(l.take i).filter (fun z=>Vu c z p.FQ (Zy b p).Fv),())) rfl U (fun i hi k hk=>?_) (fun k=>?_)
   .dsimp only
    have hfl:=CQ (fun z=>Vu c z p.FQ (Zy b p).Fv) (l.take i)
    have htl:=E2 i l
    refine Ok.P (Ok.j (Ok.atn hi (Ok.at hm.1 hm.2 (Ok.oe (QxL h hn) ?_))))
    show Ok (AM.J (Vu c (O l i) p.FQ (Zy b p).Fv) _ _) _
    rw[QsL hi]at hk
    refine Ok.J (fun g=>Ok.atn hi (Ok.LS ?_)) (fun g=>?_)
    .dsimp only
     rw[iB g]at hk
     rw[Qa U]
     exact hk
    .dsimp only
     rw[iA (by rw[g];simp),Ao]at hk
     rw[Qa U]
     exact hk
   .dsimp only
    rw[Ad,<-hcall]
    unfold stepQ
    rw[iA h2,iA U]
    refine Ok.N (Ok.LS (Ok.j (Ok.ite (fun g=>Ok.at hm.1 hm.2 (Ok.s ?_)) (fun g=>Ok.s ?_))))
    .have hne:Qcz c b (Zy b p) p.FQ≠[]:=fun e=>by rw[e]at g;simp at g
     unfold farV at hdu
     show _=_
     rw[iA hne,Qc U]
     have:X (p.FQ+(Zy b p).Fz)=p.FQ+(Zy b p).Fz:=Qc U
     unfold Zy at this
     rw[this]
     rfl
    .have he':Qcz c b (Zy b p) p.FQ=[]:=E3.2 U
     show _=_
     rw[iB he',Qc U]
  .rw[iA U]
   dsimp only
   refine Ok.t (Ok.s ?_)
   unfold stepQ
   simp_all
def QzF(h:Ze n c)(hn:n<=48)(hb:QU b)(hp:QA p):QpT 1000 c b p now=some (runV c b p now):=by
 refine Ok.eq ?_
 unfold QpT
 refine Ok.oe (Qgt hb hp) (Ok.ncnd (fun hc=>Ok.s ?_) (fun hc=>?_))
 .unfold runV;rw[iB hc];rfl
 rw[Qj2 hc]
 have hf:=Yb hc
 have hcn:=Yv (hf.polOK hb)
 have hnx:=hf.next
 have hle:QaP b p<=11:=by
  unfold QaP
  grind
 refine Ok.oe (Qdu hp) ?_
 refine Ok.loop (fun m x=>∃(q:D.Page) (k:Nat),x=((now,()),c,b,q,page0,())/\QA q/\QaP b q+1<=k/\runN c b now k q=runN c b now 100 p/\m=QaP b q) (m:=QaP b p) U ⟨p,100,rfl,hp,U,rfl,rfl⟩ ?_
 rintro m x ⟨q,k,rfl,hq,hk,he,rfl⟩ K hK
 dsimp only
 obtain⟨k,rfl⟩:∃k',k=k'+1:=⟨k - 1,U⟩
 rw[runN]at he
 refine Ok.oe Qgw ?_
 have hwv:Y2 q now=((dueV q).2 && decide ((dueV q).1<=now)):=rfl
 refine Ok.TG (fun y=>y=((now,()),c,b,q,page0,())/\Y2 q now=true) (fun y hy=>?_) (fun zG hJ=>?_)
 .obtain⟨rfl,hw⟩:=hy
  dsimp only
  rw[iB hw]at he
  refine Ok.oe (Qx7 h hn hb hq) (Ok.ite (fun h1=>Ok.s ?_) (fun h1=>?_))
  .rw[iB h1]at he;exact he
  .rw[iA h1]at he
   have hd:=Qa9 hw
   have hst:stepV c b q=(stepQ c b q,0):=by
    revert h1
    unfold stepV
    grind
   have hl:=QdZ (c:=c) (b:=b) hd.1
   rw[hst]at he |-
   refine hK (QaP b (stepQ c b q)) _ hl ⟨stepQ c b q,k,rfl,?_,U,he,rfl⟩
   have:=hq.stepV (c:=c) hb
   grind
 .refine Ok.J (fun h1=>Ok.ite (fun h2=>Ok.s ?_) (fun h2=>hJ _ ⟨rfl,by rw[hwv,h1];simp;omega⟩)) (fun h1=>Ok.s ?_)
  .grind
  .grind
end
end
open Go AM
section
def QBa:YP 1000 p=some (dueV p):=by
 unfold YP
 simp only[Vg]
 exact Qn4
def Qyj:Yr 1000 p t=some (Y2 p t):=by
 unfold Yr Y2
 simp only[Vg]
 rw[QBa,ZY]
 obtain⟨a,d⟩:=dueV p
 cases d<;>by_cases h:a<=t<;>simp[cd,AM.J,h]
def QuI(h:QA p):Yi 1000 p=some (Wb p):=by
 have h1:=h.st
 refine Ok.eq ?_
 unfold Yi Wb
 refine Ok.ite (fun h0=>Ok.TF (Ok.TF (Ok.TF (Ok.s ?_)))) (fun h0=>?_)
 .simp_all
 .have hne:p.P≠[]:=fun e=>h0 (by rw[e];rfl)
  have hpos:=CC.2 hne
  rw[show X ((p.P.length:Int) - 1)=((p.P.length - 1:Nat):Int)by rw[Qc U];omega]
  have hp:=(h.pe _ (Qf (l:=p.P) (i:=p.P.length - 1) U)).1
  refine Ok.natn (Ok.E (Ok.G (Ok.oe (Qfs U) (Ok.TF (Ok.TF (Ok.TF (Ok.s ?_)))))))
  rw[iA hne]
def QnZ(h:QA p):(Wb p).length<=40:=by
 unfold Wb
 split
 .simp
 .rename_i hne
  have hpos:=CC.2 hne
  exact(h.pe _ (Qf U)).1
def Qvm:Z1 1000 p a=some (Wj p a):=by
 refine Ok.eq ?_
 unfold Z1
 refine Ok.TG (fun y=>y.1.1=decide ((a.a=3/\p.z=4)\/(a.a=4/\(p.FP=4\/p.P.length=200)))/\y.2=(pgA p,a,p.P,p.g,p.h,())) (fun y hy=>?_) (fun zG hJ=>?_)
 .obtain⟨⟨full,⟨⟩⟩,r⟩:=y
  obtain⟨h1,h2⟩:=hy
  dsimp only at h1 h2
  subst h2
  dsimp only[pgA]
  refine Ok.j (Ok.ite (fun g1=>Ok.TF (Ok.TF (Ok.TF (Ok.s ?_)))) (fun g1=>?_))
  .unfold Wj;rw[iB (.inl g1)]
  refine Ok.oe (Qyj (p:=p)) (Ok.J (fun g2=>Ok.TF (Ok.TF (Ok.TF (Ok.s ?_)))) (fun g2=>?_))
  .unfold Wj;rw[iB (.inr g2)]
  unfold Wj
  rw[iA (by rw[g2];simp;omega)]
  refine Ok.TG (fun y=>y.1.1=full/\y.1.2.1=decide (p.p=4\/(p.p=3/\a.a≠5)\/(p.p=1/\a.a=2))/\y.2=(pgA p,p.P,p.g,p.h,())) (fun y hy=>?_) (fun zG hJ=>?_)
  .obtain⟨⟨f2,s2,⟨⟩⟩,r⟩:=y
   obtain⟨k1,k2,k3⟩:=hy
   dsimp only at k1 k2 k3
   subst k3;subst k1
   dsimp only[pgA]
   refine Ok.J (fun g3=>Ok.TF (Ok.TF (Ok.TF (Ok.s ?_)))) (fun g3=>?_)
   .simp_all
   .rw[k2]at g3;rw[iA (BN g3)]
    refine Ok.ite (fun g4=>Ok.TF (Ok.TF (Ok.TF (Ok.s ?_)))) (fun g4=>?_)
    .omega
    .refine Ok.J (fun g5=>Ok.TF (Ok.TF (Ok.TF (Ok.s ?_)))) (fun g5=>Ok.TF (Ok.TF (Ok.TF (Ok.s ?_))))
     .simp_all
     .grind
  .refine Ok.ite (fun g3=>hJ _ ⟨rfl,?_,rfl⟩) (fun g3=>Ok.ite (fun g4=>Ok.ite (fun g5=>hJ _ ⟨rfl,?_,rfl⟩) (fun g5=>Ok.ite (fun g6=>Ok.ite (fun g7=>hJ _ ⟨rfl,?_,rfl⟩) (fun g7=>hJ _ ⟨rfl,?_,rfl⟩)) (fun g6=>hJ _ ⟨rfl,?_,rfl⟩))) (fun g4=>Ok.ite (fun g6=>Ok.ite (fun g7=>hJ _ ⟨rfl,?_,rfl⟩) (fun g7=>hJ _ ⟨rfl,?_,rfl⟩)) (fun g6=>hJ _ ⟨rfl,?_,rfl⟩)))
   all_goals grind
 .refine Ok.ite (fun g1=>Ok.ite (fun g2=>hJ _ ⟨?_,rfl⟩) (fun g2=>Ok.ite (fun g3=>Ok.ite (fun g4=>hJ _ ⟨?_,rfl⟩) (fun g4=>Ok.ite (fun g5=>hJ _ ⟨?_,rfl⟩) (fun g5=>hJ _ ⟨?_,rfl⟩))) (fun g3=>hJ _ ⟨?_,rfl⟩)))
   (fun g1=>Ok.ite (fun g3=>Ok.ite (fun g4=>hJ _ ⟨?_,rfl⟩) (fun g4=>Ok.ite (fun g5=>hJ _ ⟨?_,rfl⟩) (fun g5=>hJ _ ⟨?_,rfl⟩))) (fun g3=>hJ _ ⟨?_,rfl⟩))
  all_goals grind
def Qya(h1:1<=j)(hj:j<l.length):(QkP l j).Perm l:=by
 unfold QkP
 have e1:O l j=l[j]:=by simp[O,AQ,AU hj]
 have e2:O l (j - 1)=l[j - 1]:=by simp[O,AQ,AU (show j - 1<l.length by omega)]
 grind
def Qw2(hs:l0.length<=900):
  Ok (Zm 1000 l0 0 (l0.length:Int)) fun r=>r.Perm l0/\Xn r l0.length:=by
 obtain⟨m,hm⟩:∃m,l0.length=m:=⟨_,rfl⟩
 rw[hm]
 rw[hm]at hs
 unfold Zm
 refine Ok.loop (fun q x=>∃(i:Nat) (a:_),x=((0,(m:Int),(i:Int),()),a,())/\1<=i/\a.Perm l0/\Xn a (min i m)/\q=m+1 - i) (m:=m) U
  ⟨1,l0,by rw[Qc U];rfl,U,.refl _,fun a b h1 h2=>U,U⟩ ?_
 rintro q x ⟨i,a,rfl,h1,h2,h3,rfl⟩ K hK
 have hal:=h2.length_eq
 dsimp only
 refine Ok.ite (fun hi=>?_) (fun hi=>Ok.s ⟨h2,by rw[show min i m=m by omega]at h3;exact h3⟩)
 have hlt:i<m:=U
 rw[show min i m=i by omega]at h3
 refine Ok.j ?_
 refine Ok.loop (fun q x=>∃j a',x=((0,(m:Int),(i:Int),((j:Nat):Int),()),a',())/\j<=i/\a'.Perm l0/\QnO a' (i+1) j/\q=j) (m:=i) U
  ⟨i,a,rfl,U,h2,Qkd h3,rfl⟩ ?_
 rintro q x ⟨j,a',rfl,g1,g2,g3,hqj⟩ K2 hK2
 have hal':=g2.length_eq
 dsimp only
 have fin:(j=0\/O a' (j - 1)<=O a' j)->Ok (K ((0,(m:Int),X ((i:Int)+1),()),a',())) fun r=>r.Perm l0/\Xn r m:=fun he=>by
  rw[Qa U]
  exact hK (m+1 - (i+1)) _ U ⟨i+1,a',rfl,U,g2,by rw[show min (i+1) m=i+1 by omega];exact QnY g3 he,rfl⟩
 refine Ok.j (Ok.ite (fun hj=>?_) (fun hj=>fin (.inl U)))
 have hw:X ((j:Int) - 1)=((j - 1:Nat):Int):=by rw[Qc U];omega
 rw[hw]
 refine Ok.natn (Ok.E (Ok.G (Ok.natn (Ok.E (Ok.G (Ok.oe Qxe (Ok.ite (fun hless=>?_) (fun hless=>fin (.inr U)))))))))
 dsimp only
 rw[hw]
 refine Ok.natn (Ok.E (Ok.G (Ok.natn (Ok.E (Ok.G (Ok.natn (Ok.E (Ok.G (Ok.natn (Ok.lt (by simp;omega) (Ok.get (by simp;omega) ?_)))))))))))
 have hsw:(a'.set j (O a' (j - 1))).set (j - 1) (O a' j)=QkP a' j:=rfl
 rw[hsw]
 exact hK2 (j - 1) _ U ⟨j - 1,QkP a' j,rfl,U,(Qya U U).trans g2,Qlx g3 U U U hless,rfl⟩
def QzN(hs:l0.length<=12):
  Ok (Vr 1000 l0) fun r=>r.Perm l0/\Xn r l0.length:=by
 unfold Vr
 obtain⟨bv,hb⟩:=Cm.1 (Qwo l0.length U)
 refine Ok.oe hb (Ok.opt (P:=fun r=>r.Perm l0/\Xn r l0.length) ?_ fun r hr=>Ok.ck hr.1.length_eq (Ok.s hr))
 unfold Y9
 refine Ok.loop (fun q x=>x=((0,(l0.length:Int),bv,true,true,()),l0,())) (m:=0) U rfl ?_
 rintro q x rfl K hK
 dsimp only
 refine Ok.p (by rw[Qc U];omega) (Ok.opt (Qw2 U) fun r hr=>Ok.ck hr.1.length_eq (Ok.s hr))
def QuB(h:Xn l l.length)(hd:l.Nodup):Asc l:=by
 refine Qz8 h fun k h1 h2 e=>?_
 have e1:O l (k - 1)=l[k - 1]:=by simp[O,AQ,AU (show k - 1<l.length by omega)]
 have e2:O l k=l[k]:=by simp[O,AQ,AU h2]
 rw[e1,e2]at e
 have:=(List.nodup_iff_pairwise_ne.1 hd)
 exact(CO.1 this (k - 1) k U h2 U) e
def Qv6(h:Asc l):l.Nodup:=List.Pairwise.imp (fun h=>U) h
def Qx3(hl:Asc l)(hx:l.contains x=false)(hp:r.Perm (l++[x]))(hs:Xn r r.length):r=QiS l x:=by
 have hnd:(l++[x]).Nodup:=Eb.2 ⟨Qv6 hl,Ob,fun y hy z hz e=>by
  rw[Af.1 hz]at e
  subst e
  rw[Bg.2 hy]at hx;simp at hx⟩
 refine Qfm (QuB hs (hp.nodup_iff.2 hnd)) (QcT hl).1 fun z=>?_
 rw[hp.mem_iff,(QcT hl).2];simp
def QtK(h:p.g.length<=40):ZM 1000 x p=some (!p.g.contains x,p):=by
 unfold ZM
 rw[QaM U,ZY]
def QqQ(hl:l.length<=900)(h:p.g.length<=40):Qs 1000 l p=some (l.any fun z=>!p.g.contains z,p):=by
 refine Ok.eq ?_
 unfold Qs QQ
 refine Ok.opt (P:=fun(r:Int×D.Page)=>decide (0<=r.1)=(l.any fun z=>!p.g.contains z)/\r.2=p) ?_ fun⟨r,p'⟩ ⟨e1,e2⟩=>Ok.s (by dsimp only at e1 e2;rw[e1,e2])
 refine Ok.scan2 l.length (fun i=>(l,(l.length:Int),(i:Int),())) (fun i=>!p.g.contains (O l i)) rfl U (fun i hi hq _ k=>?_) (fun i hi hq k hk=>?_) (fun hq k=>?_)
 .refine Ok.P (Ok.atn hi (Ok.oe (QtK (p:=p) h) (Ok.bt hq (Ok.s ⟨?_,rfl⟩))))
  rw[Qjt hi hq];simp
 .refine Ok.P (Ok.atn hi (Ok.oe (QtK (p:=p) h) (Ok.bf hq ?_)))
  rw[Qa U];exact hk
 .refine Ok.N (Ok.s ⟨?_,rfl⟩)
  rw[QnT hq];rfl
def QwG(hs:setV p.g=true)(hd:p.g.length<=11):(U4 p a).length<=40:=by
 unfold U4
 split
 .have hde:=Qav.1 hs
  unfold QiS
  grind
 .omega
def QsG(h:QA p)(hd:p.g.length<=11)(hs:setV p.g=true):
  ZV 1000 p a=some { p with g:=U4 p a,FQ:=if Qag p a=true/\p.p=0 then a.At else p.FQ }:=by
 have hcl:=QnZ h
 refine Ok.eq ?_
 unfold ZV
 refine Ok.oe (QuI h) ?_
 refine Ok.TG (fun y=>y=((Wb p,()),pgA p,a,page0,p.P,U4 p a,p.h,())) (fun y hy=>?_) (fun zG hJ=>?_)
 .subst hy
  dsimp only[pgA]
  have hdl:=QwG (a:=a) hs hd
  refine Ok.j (Ok.ite (fun g1=>Ok.ite (fun g2=>?_) (fun g2=>Ok.s ?_)) (fun g1=>Ok.s ?_))
  .refine Ok.oe (QqQ (p:={ p with g:=U4 p a }) U hdl) (Ok.J (fun g3=>Ok.s ?_) (fun g3=>Ok.s ?_))
   .have:Qag p a=false:=by
     unfold Qag
     simp_all
    simp_all
   .have:Qag p a=true:=by
     unfold Qag
     grind
    simp_all
  .have:Qag p a=false:=by
    unfold Qag
    simp_all
   simp_all
  .simp_all
 .refine Ok.oe (Qd9 U) (Ok.J (fun g1=>?_) (fun g1=>?_))
  .refine Ok.oe (QaM U) (Ok.J (fun g2=>?_) (fun g2=>?_))
   .refine hJ _ ?_
    have:U4 p a=p.g:=by
     unfold U4
     rw[iB g1];exact Qxv (Qav.1 hs).1 (Bg.1 g2)
    rw[this];rfl
   .refine Ok.LS (Ok.opt (QzN (by simp;omega)) fun r ⟨hr1,hr2⟩=>Ok.ck hr1.length_eq (hJ _ ?_))
    have:r=U4 p a:=by
     unfold U4
     rw[iB g1]
     exact Qx3 (Qav.1 hs).1 g2 hr1 (by rw[hr1.length_eq];exact hr2)
    rw[this];rfl
  .refine hJ _ ?_
   have:U4 p a=p.g:=by unfold U4;rw[iA (by rw[g1];simp)]
   rw[this];rfl
def Qv0(hb:QU b)(h:QA p)(hd:p.g.length<=11):Ut 1000 c b p a=some (answerV b p a):=by
 have hse:=h.se;have hst:=h.st
 refine Ok.eq ?_
 unfold Ut
 refine Ok.TG (fun y=>y=((),p,a,page0,())/\QJ b p=true/\YY a=true) (fun y hy=>?_) (fun zG hJ=>?_)
 .obtain⟨rfl,hc,hv⟩:=hy
  dsimp only
  unfold answerV
  rw[iA (by rw[hc,hv];simp)]
  have hf:=Yb hc
  have hv':=hv
  unfold YY at hv'
  simp only[bae,Qt]at hv'
  obtain⟨⟨⟨⟨⟨v1,v2⟩,v3⟩,v4⟩,v5⟩,v6⟩:=hv'
  have hsn:=hf.snoozes;have hha:=hf.hands
  refine Ok.ite (fun g1=>Ok.s ?_) (fun g1=>?_)
  .rw[iB g1];rfl
  rw[iA g1]
  refine Ok.oe (QlL h) (Ok.oe (QaM U) (Ok.J (fun g2=>Ok.s ?_) (fun g2=>?_)))
  .rw[iB g2]
  rw[iA (by rw[g2];simp)]
  refine Ok.oe Qvm (Ok.ite (fun g3=>Ok.s ?_) (fun g3=>?_))
  .rw[iB g3];rfl
  rw[iA g3]
  refine Ok.LS ?_
  refine Ok.TG (fun y=>y=((),pgA p,a,page0,p.P,p.g,p.h++[a.S],())/\¬(a.a=1/\p.p=1)) (fun y hy=>?_) (fun zG hJ=>?_)
  .obtain⟨rfl,hn⟩:=hy
   dsimp only[pgA]
   unfold XI
   refine Ok.j (Ok.ite (fun k1=>Ok.s ?_) (fun k1=>Ok.ite (fun k2=>?_) (fun k2=>Ok.ite (fun k3=>Ok.s ?_) (fun k3=>Ok.ite (fun k4=>Ok.LS (Ok.s ?_)) (fun k4=>Ok.ite (fun k5=>Ok.s ?_) (fun k5=>absurd v5 U))))))
   .simp_all
   .rw[iA k1,iB k2]
    have hp':QA { p with FT:=a.At,h:=p.h++[a.S] }:=⟨h.st,h.pe,h.de,by have:=hf.seen;dsimp only;simp;omega,h.nx⟩
    exact Ok.oe (QsG (p:={ p with FT:=a.At,h:=p.h++[a.S] }) hp' hd hf.declined) (Ok.s rfl)
   .rw[iA k1,iA k2,iB k3]
    rw[iB k3]at v6
    have v6:=Qt.1 v6
    rw[Qc U,Qc U]
   .rw[iA k1,iA k2,iA k3,iB k4,Qc U,Qc U]
   .simp_all
  .refine Ok.ite (fun k1=>Ok.ite (fun k2=>Ok.s ?_) (fun k2=>hJ _ ⟨rfl,U⟩)) (fun k1=>hJ _ ⟨rfl,U⟩)
   unfold XI
   simp_all
 .refine Ok.oe (QkS hb h) (Ok.J (fun g1=>Ok.oe Quw (Ok.J (fun g2=>hJ _ ⟨rfl,g1,g2⟩) (fun g2=>Ok.s ?_))) (fun g1=>Ok.s ?_))
  .unfold answerV;rw[iB (.inr g2)];rfl
  .unfold answerV;rw[iB (.inl g1)];rfl
end
section
def QoD:Qf1 1000 a=some (YY a):=by
 refine Ok.eq ?_
 unfold Qf1
 refine Ok.j (Ok.oe rin (Ok.J (fun h1=>Ok.oe rin (Ok.J (fun h2=>Ok.oe rin (Ok.J (fun h3=>Ok.oe rin (Ok.J (fun h4=>?_) (fun h4=>Ok.s ?_))) (fun h3=>Ok.s ?_))) (fun h2=>Ok.s ?_))) (fun h1=>Ok.s ?_)))
 .dsimp only
  refine Ok.TG (fun y=>y.1.1=a.a/\y.1.2.1=decide (a.a=1\/a.a=2\/a.a=5)/\y.2=(a,())) (fun y hy=>?_) (fun zG hJ=>?_)
  .obtain⟨⟨k,z,⟨⟩⟩,r⟩:=y
   obtain⟨e1,e2,e3⟩:=hy
   dsimp only at e1 e2 e3
   subst e3;subst e1
   dsimp only
   refine Ok.J (fun g=>Ok.s ?_) (fun g=>Ok.ite (fun k3=>Ok.oe rin (Ok.s ?_)) (fun k3=>Ok.ite (fun k4=>Ok.oe rin (Ok.s ?_)) (fun k4=>Ok.s ?_)))
   .rw[e2]at g
    have g:=BF g
    have hk:inV a.a 1 5=true:=Qt.2 U
    unfold YY
    grind
   .have hk:inV a.a 1 5=true:=Qt.2 U
    unfold YY
    simp_all
   .have hk:inV a.a 1 5=true:=Qt.2 U
    unfold YY
    simp_all
   .rw[e2]at g
    have g:=BN g
    have hk:inV a.a 1 5=false:=C4.2 fun h=>by have:=Qt.1 h;omega
    unfold YY
    rw[hk];simp
  .refine Ok.ite (fun g1=>hJ _ ⟨rfl,?_,rfl⟩) (fun g1=>Ok.ite (fun g2=>hJ _ ⟨rfl,?_,rfl⟩) (fun g2=>hJ _ ⟨rfl,?_,rfl⟩))
   all_goals simp_all
 .unfold YY;rw[h4];simp
 .unfold YY;rw[h3];simp
 .unfold YY;rw[h2];simp
 .unfold YY;rw[h1];simp
def QrT(hf:CkF b p):Qev 1000 p a=some (Wj p a):=by
 have hs1:=hf.seen;have hs2:=hf.snoozes;have hs3:=hf.hands;have hs4:=hf.starts
 refine Ok.eq ?_
 unfold Qev
 refine Ok.oe Qgw ?_
 rcases hdv:dueV p with⟨da,dd⟩
 dsimp only
 refine Ok.j (Ok.ite (fun g1=>Ok.s ?_) (fun g1=>Ok.J (fun g2=>Ok.ite (fun g3=>Ok.s ?_) (fun g3=>?_)) (fun g2=>?_)))
 .unfold Wj;rw[iB (.inl g1)]
 .unfold Wj;rw[iB (.inr (by unfold Y2;rw[hdv,g2];simp;omega))]
 all_goals
  have hw:Y2 p a.At=false:=by
   unfold Y2
   simp_all
  unfold Wj
  rw[iA (by rw[hw];simp;omega)]
  refine Ok.TG (fun y=>y.1.1=decide (p.p=4\/(p.p=3/\a.a≠5)\/(p.p=1/\a.a=2))/\y.2=(p,a,())) (fun y hy=>?_) (fun zG hJ=>?_)
  .obtain⟨⟨s2,⟨⟩⟩,r⟩:=y
   obtain⟨k2,k3⟩:=hy
   dsimp only at k2 k3
   subst k3
   dsimp only
   refine Ok.J (fun g3=>Ok.s ?_) (fun g3=>?_)
   .simp_all
   .rw[k2]at g3;rw[iA (BN g3)]
    refine Ok.TG (fun y=>y.1.1=decide (p.h.length=64\/(a.a=3/\p.z=4)\/(a.a=4/\(p.FP=4\/p.P.length=200)))) (fun y hy=>?_) (fun zG hJ=>?_)
    .obtain⟨⟨s3,⟨⟩⟩,⟨⟩⟩:=y
     dsimp only at hy |-
     refine Ok.J (fun g4=>Ok.s ?_) (fun g4=>Ok.s ?_)
     .simp_all
     .simp_all
    .refine Ok.ite (fun g4=>hJ _ ?_) (fun g4=>Ok.ite (fun g5=>Ok.ite (fun g6=>hJ _ ?_) (fun g6=>Ok.ite (fun g7=>Ok.ite (fun g8=>hJ _ ?_) (fun g8=>Ok.ite (fun g9=>hJ _ ?_) (fun g9=>hJ _ ?_))) (fun g7=>hJ _ ?_))) (fun g5=>Ok.ite (fun g7=>Ok.ite (fun g8=>hJ _ ?_) (fun g8=>Ok.ite (fun g9=>hJ _ ?_) (fun g9=>hJ _ ?_))) (fun g7=>hJ _ ?_)))
     all_goals grind
  .refine Ok.ite (fun g3=>hJ _ ⟨?_,rfl⟩) (fun g3=>Ok.ite (fun g4=>Ok.ite (fun g5=>hJ _ ⟨?_,rfl⟩) (fun g5=>Ok.ite (fun g6=>Ok.ite (fun g7=>hJ _ ⟨?_,rfl⟩) (fun g7=>hJ _ ⟨?_,rfl⟩)) (fun g6=>hJ _ ⟨?_,rfl⟩))) (fun g4=>Ok.ite (fun g6=>Ok.ite (fun g7=>hJ _ ⟨?_,rfl⟩) (fun g7=>hJ _ ⟨?_,rfl⟩)) (fun g6=>hJ _ ⟨?_,rfl⟩)))
   all_goals grind
def Qty(hl:l.length<=400)(h:Asc l):VV 1000 l x=some (QiS l x):=by
 rw[Qz6 hl]
 congr 1
 exact Qfm (Qg5 h).1 (QcT h).1 fun z=>by rw[(Qg5 h).2,(QcT h).2]
def Qss(hb:QU b)(h:QA p):QgR 1000 c b p a=some (answerV b p a):=by
 have hse:=h.se;have hst:=h.st;have hde:=h.de
 refine Ok.eq ?_
 unfold QgR
 refine Ok.TG (fun y=>y=((),p,a,page0,())/\QJ b p=true/\YY a=true) (fun y hy=>?_) (fun zG hJ=>?_)
 .obtain⟨rfl,hc,hv⟩:=hy
  dsimp only
  unfold answerV
  rw[iA (by rw[hc,hv];simp)]
  have hf:=Yb hc
  have hv':=hv
  unfold YY at hv'
  simp only[bae,Qt]at hv'
  obtain⟨⟨⟨⟨⟨v1,v2⟩,v3⟩,v4⟩,v5⟩,v6⟩:=hv'
  have hsn:=hf.snoozes;have hha:=hf.hands
  refine Ok.ite (fun g1=>Ok.s ?_) (fun g1=>?_)
  .rw[iB g1];rfl
  rw[iA g1]
  refine Ok.oe (Qdu h) (Ok.oe (Qec U) (Ok.J (fun g2=>Ok.s ?_) (fun g2=>?_)))
  .rw[iB g2]
  rw[iA (by rw[g2];simp)]
  refine Ok.oe (QrT hf) (Ok.ite (fun g3=>Ok.s ?_) (fun g3=>?_))
  .rw[iB g3];rfl
  rw[iA g3]
  refine Ok.LS (Ok.j ?_)
  unfold XI
  refine Ok.ite (fun k1=>Ok.ite (fun k2=>Ok.s ?_) (fun k2=>Ok.s ?_)) (fun k1=>Ok.ite (fun k2=>?_) (fun k2=>Ok.ite (fun k3=>Ok.s ?_) (fun k3=>Ok.ite (fun k4=>Ok.LS (Ok.s ?_)) (fun k4=>Ok.ite (fun k5=>Ok.s ?_) (fun k5=>absurd v5 U)))))
  .simp_all
  .simp_all
  .rw[iA k1,iB k2]
   have hcl:=QnZ h
   refine Ok.oe (QsC h) ?_
   refine Ok.TG (fun y=>y=((Wb p,()),p,a,page0,(p.S,p.W,p.R,p.FB,p.FQ,p.p,p.By,p.FR,a.At,p.z,p.FP,U4 p a,()),p.P,p.h++[a.S],())) (fun y hy=>?_) (fun zG hJ=>?_)
   .subst hy
    dsimp only
    have hdl:(U4 p a).length<=900:=by
     unfold U4 QiS
     grind
    obtain⟨aD,haD⟩:∃aD:Nat->AH,∀i,aD i=(decide ((0:Int)<(((Wb p).length:Nat):Int)) && ((Wb p).take i).all fun z=>(U4 p a).contains z):=⟨fun i=>_,fun i=>rfl⟩
    have hall:∀i,i<(Wb p).length->aD (i+1)=(aD i && (U4 p a).contains (O (Wb p) i)):=fun i hi=>by
     rw[haD,haD,<-Qn hi,List.all_append,Bool.and_assoc]
     simp
    have hlast:Qag p a=aD (Wb p).length:=by
     rw[haD,Ad]
     unfold Qag
     congr 1
     refine decide_eq_decide.2 ⟨fun hne=>by have:=CC.2 hne;omega,fun hpos e=>by rw[e]at hpos;simp at hpos⟩
    refine Ok.run2 (Wb p).length (fun i=>(Wb p,aD i,(i:Int),())) (by rw[haD];simp) U (fun i hi k hk=>?_) (fun k=>?_)
    .dsimp only at hk |-
     rw[hall i hi]at hk
     refine Ok.P (Ok.j (Ok.J (fun g=>Ok.atn hi (Ok.oe (Qec hdl) (Ok.J (fun g'=>?_) (fun g'=>?_)))) (fun g=>?_)))
     .dsimp only
      rw[Qa U]
      simp_all
     .dsimp only
      rw[Qa U]
      simp_all
     .dsimp only
      rw[Qa U]
      rw[g]at hk;exact hk
    .dsimp only
     rw[hlast]
     refine Ok.N (Ok.J (fun g=>Ok.ite (fun g0=>Ok.s ?_) (fun g0=>Ok.s ?_)) (fun g=>Ok.s ?_))
     .rw[iB ⟨g,g0⟩]
     .simp_all
     .grind
   .refine Ok.oe (Qec U) (Ok.J (fun g4=>?_) (fun g4=>?_))
    .have hd:=(Qav.1 hf.declined).1
     refine Ok.oe (Qty U hd) (hJ _ ?_)
     have:U4 p a=QiS p.g a.Q:=by unfold U4;rw[iB g4]
     rw[this]
    .refine hJ _ ?_
     have:U4 p a=p.g:=by unfold U4;rw[iA (by rw[g4];simp)]
     rw[this]
  .rw[iA k1,iA k2,iB k3]
   rw[iB k3]at v6
   have v6:=Qt.1 v6
   rw[Qc U,Qc U]
  .rw[iA k1,iA k2,iA k3,iB k4,Qc U,Qc U]
  .simp_all
 .refine Ok.oe (Qgt hb h) (Ok.J (fun g1=>Ok.oe QoD (Ok.J (fun g2=>hJ _ ⟨rfl,g1,g2⟩) (fun g2=>Ok.s ?_))) (fun g1=>Ok.s ?_))
  .unfold answerV;rw[iB (.inr g2)];rfl
  .unfold answerV;rw[iB (.inl g1)];rfl
end
open Go AM
section
structure PgX (k:Int) (p:D.Page):Prop where
 decl:∀x∈p.g,x<4
 seen:∀x∈p.h,1<=x/\x<=k
def PgX.mono(h:PgX k p)(hk:k<=k'):PgX k' p:=⟨h.decl,fun x hx=>⟨(h.seen x hx).1,Cr (h.seen x hx).2 hk⟩⟩
def PgX.step{c:D.E}{b:D.b}{p:D.Page}{k:Int}(h:PgX k p):PgX k (stepQ c b p):=by
 unfold stepQ
 split
 .exact⟨h.decl,h.seen⟩
 .split
  .exact⟨h.decl,h.seen⟩
  .exact⟨Ob,h.seen⟩
def PgX.run(h:PgX k p)(hb:QU b)(hQ:Qkx Q M c b)(hi:QM Q M b p):PgX k (runV c b p now).1:=
 Qld hb hQ (fun q _ _ hr=>hr.step) hi h
def Qxu(h:z∈QiS l x):z∈l\/z=x:=by
 unfold QiS at h
 rcases Ah.1 h with h|h
 .exact .inl (Bk.1 h).1
 .rcases AY.1 h with h|h
  .exact .inr h
  .exact .inl (Bk.1 h).1
def PgX.answer(h:PgX k p)(ha:a.Q<4)(hi:1<=a.S/\a.S<=k):PgX k (XI p a):=by
 have hs:∀x∈p.h++[a.S],1<=x/\x<=k:=VU h.seen hi
 have hd:∀x∈U4 p a,x<4:=by
  unfold U4
  split
  .intro x hx
   rcases Qxu hx with hx|rfl
   .exact h.decl x hx
   .exact ha
  .exact h.decl
 unfold XI
 split
 .split
  .exact⟨h.decl,hs⟩
  .exact⟨h.decl,hs⟩
 .split
  .exact⟨hd,hs⟩
  .split
   .exact⟨h.decl,hs⟩
   .split
    .exact⟨Ob,hs⟩
    .exact⟨h.decl,hs⟩
def PgX.dlen(h:PgX k p)(hi:setV p.g=true):p.g.length<=4:=by
 have hs:=Qav.1 hi
 exact QtA hs.1 fun z hz=>⟨(hs.2 z hz).1,h.decl z hz⟩
def PgX.new{id pol start:Int}:PgX k (newP id pol start):=⟨by simp[newP],by simp[newP]⟩
end
def Qzj{t:Y Int}:QjK 1000 t=some (decide ((t.length:Int)<=500)):=rfl
def QBT{t:Y Int}:QfH 1000 t=some ⟨t,0⟩:=rfl
def dice0{t:Y Int}:Qz t ⟨t,0⟩:=⟨rfl,Al _,by dsimp only;omega⟩
def Qxf{t:Y Int}(h:decide ((t.length:Int)<=500)=true):t.length<=500:=by have:=BF h;omega
section
open Go AM
attribute [local irreducible] dueV stepV runV QJ answerV
section
structure QAA (a:D.Z):Prop where
 pers : -1<=a.Q/\a.Q<4
 kind:1<=a.a/\a.a<=5
 arg3:a.a=3->1<=a.Fw/\a.Fw<=5000
 arg4:a.a=4->0<=a.Fw/\a.Fw<4
 arg0:a.a≠3->a.a≠4->a.Fw=0
def QAA.valid(h:QAA a)(h1:1<=a.S/\a.S<=999999)(h2:1<=a.Page/\a.Page<=999999)(h3:0<=a.At/\a.At<=8589934592):YY a=true:=by
 have hp:=h.pers;have hk:=h.kind
 unfold YY
 rw[Qt.2 h1,Qt.2 h2,Qt.2 (show -1<=a.Q/\a.Q<=31 by omega),Qt.2 h3,Qt.2 hk]
 simp only[B9]
 split
 .rename_i k3;have:=h.arg3 k3;exact Qt.2 U
 .split
  .rename_i k4;have:=h.arg4 k4;exact Qt.2 U
  .rename_i k3 k4;exact Az (h.arg0 k3 k4)
def Qv1{id page at_:Int}(hL:L.length<=500)(hd:Qz L d):Ok (VS 1000 d id page at_) fun r=>Qz L r.2/\QAA r.1/\r.1.S=id/\r.1.Page=page/\r.1.At=at_:=by
 unfold VS
 refine Ok.opt (nx hL hd U U) fun⟨a0,d1⟩ ⟨h1,l1,u1⟩=>?_
 dsimp only at h1 l1 u1 |-
 refine Ok.opt (nx hL h1 U U) fun⟨a2,d3⟩ ⟨h3,l3,u3⟩=>?_
 dsimp only at h3 l3 u3 |-
 rw[Qc (x:=1+a2) U,Qc (x:=a0 - 1) U]
 refine Ok.j (Ok.ite (fun g=>?_) (fun g=>Ok.ite (fun g'=>?_) (fun g'=>?_)))
 .refine Ok.opt (Qce hL h3 Ob Ob) fun⟨a8,d9⟩ ⟨h9,m9⟩=>Ok.s ⟨h9,⟨by dsimp only;omega,by dsimp only;omega,fun _=>?_,fun e=>?_,fun e=>absurd g e⟩,rfl,rfl,rfl⟩
  .dsimp only at m9 |-
   simp only[AY,BG,or_false]at m9
   omega
  .dsimp only at e;omega
 .refine Ok.opt (nx hL h3 U U) fun⟨a10,d11⟩ ⟨h11,l11,u11⟩=>Ok.s ⟨h11,⟨by dsimp only;omega,by dsimp only;omega,fun e=>?_,fun _=>⟨l11,u11⟩,fun _ e=>absurd g' e⟩,rfl,rfl,rfl⟩
  dsimp only at e;omega
 .exact Ok.s ⟨h3,⟨by dsimp only;omega,by dsimp only;omega,fun e=>absurd e g,fun e=>absurd e g',fun _ _=>rfl⟩,rfl,rfl,rfl⟩
def QxV(hb:QU b)(hQ:Qkx Q M c b)(h:QM Q M b p)(now):∃q,runV c b p now=(q,0)/\QM Q M b q/\Y2 q now=false/\Kept p q:=by
 have h1:=QeG (now:=now) hb hQ h
 have h2:=Qgg (now:=now) hb hQ h
 rcases hr:runV c b p now with⟨q,e⟩
 rw[hr]at h1 h2
 obtain⟨a1,a2,a3⟩:=h1
 dsimp only at a1 a2 a3 h2
 subst a2
 exact⟨q,rfl,a1,a3,h2⟩
end
end
def QN(id f:Int)(l:Y D.R):Y D.Call:=l.flatMap fun s=>s.k.map fun x=>D.Call.mk id s.K s.At x f
def Qdb{id f:Int}:QN id f (a++b)=QN id f a++QN id f b:=by unfold QN;rw[List.flatMap_append]
def unf(c:D.Call):D.Call:={ c with Fence:=0 }
def QsE{id f:Int}:(QN id f l).map unf=QN id 0 l:=by
 unfold QN
 rw[List.map_flatMap]
 congr 1
 funext s
 rw[CY];rfl
def ownC(id:Int)(l:Y D.Call):Y D.Call:=l.filter fun c=>decide (c.Page=id)
def Qan{id:Int}:ownC id (a++b)=ownC id a++ownC id b:=B6 ..
def Yu{id f:Int}:∀c∈QN id f l,c.Page=id/\c.Fence=f:=by
 intro c hc
 unfold QN at hc
 grind
def Qmk{id f:Int}:ownC id (QN id f l)=QN id f l:=by
 unfold ownC
 exact EY.2 fun c hc=>by simpa using(Yu c hc).1
def Qu4{id i f:Int}(h:i≠id):ownC i (QN id f l)=[]:=by
 unfold ownC
 exact Cw.2 fun c hc=>by have:=(Yu c hc).1;simp;omega
structure Told (fence:Int) (p:D.Page) (l:Y D.Call):Prop where
 same:(ownC p.S l).map unf=QN p.S 0 p.P
 up:(ownC p.S l).Pairwise fun x y=>x.Fence<=y.Fence
 fit:∀c∈ownC p.S l,0<=c.Fence/\c.Fence<=fence
def Told.mono(h:Told f p l)(hg:f<=g):Told g p l:=⟨h.same,h.up,fun c hc=>by have:=h.fit c hc;omega⟩
def Told.more(h:Told f p l)(hf:0<=f)(hid:q.S=p.S)(hs:q.P=p.P++m):Told f q (l++QN p.S f m):=by
 refine⟨?_,?_,?_⟩
 .rw[hid,Qan,Qmk,Aw,h.same,QsE,hs,Qdb]
 .rw[hid,Qan,Qmk]
  refine B5.2 ⟨h.up,?_,fun x hx y hy=>?_⟩
  .refine List.pairwise_iff_forall_sublist.2 fun{x y} hxy=>?_
   have h1:=(Yu x (hxy.subset Ob)).2
   have h2:=(Yu y (hxy.subset Ob)).2
   omega
  .have h1:=(h.fit x hx).2
   have h2:=(Yu y hy).2
   omega
 .rw[hid,Qan,Qmk]
  intro c hc
  rcases Ah.1 hc with hc|hc
  .exact h.fit c hc
  .have:=(Yu c hc).2;omega
def Told.other{f id:Int}(h:Told f p l)(hid:p.S≠id):Told f p (l++QN id f m):=by
 have e:ownC p.S (l++QN id f m)=ownC p.S l:=by rw[Qan,Qu4 hid,Ao]
 exact⟨by rw[e];exact h.same,by rw[e];exact h.up,by rw[e];exact h.fit⟩
def AscP(l:Y D.Page):Prop:=l.Pairwise fun p q=>p.S<q.S
def posV(id:Int):Y D.Page->Nat
 |[]=>0
 |p::r=>if p.S<id then posV id r+1 else 0
def Qdj{id:Int}:∀{l:Y D.Page},posV id l<=l.length
 |[]=>AP _
 |p::r=>by
  rw[posV]
  split
  .have:=Qdj (id:=id) (l:=r);rw[Ab];omega
  .exact BM _
def hasV(id:Int)(l:Y D.Page):AH:=decide (posV id l<l.length/\(O l (posV id l)).S=id)
def QbG[AK α]{x:α}{l:Y α}:O (x::l) (i+1)=O l i:=by simp[O]
def Qej[AK α]{x:α}{l:Y α}:O (x::l) 0=x:=by simp[O]
def Qmu{id:Int}:∀{l:Y D.Page} {i:Nat},i<posV id l->(O l i).S<id
 |[],i,h=>by simp[posV]at h
 |p::r,i,h=>by
  rw[posV]at h
  split at h
  .rename_i hp
   cases i with
   |zero=>rw[Qej];exact hp
   |succ i=>rw[QbG];exact Qmu U
  .omega
def Qmt{id:Int}:∀{l:Y D.Page},AscP l->∀{i:Nat},posV id l<=i->i<l.length->id<=(O l i).S
 |[],_,i,_,h=>by simp at h
 |p::r,ha,i,h1,h2=>by
  have ha':=CH.1 ha
  rw[posV]at h1
  split at h1
  .cases i with
   |zero=>omega
   |succ i=>rw[QbG];exact Qmt ha'.2 U (by simpa using h2)
  .cases i with
   |zero=>rw[Qej];omega
   |succ i=>
    rw[QbG]
    have:=ha'.1 (O r i) (Qf (by simpa using h2))
    omega
def Qd8(h:AscP l)(hij:i<j)(hj:j<l.length):(O l i).S<(O l j).S:=by
 have:=CO.1 h i j U hj hij
 simpa [O,AQ,AU hj,AU (show i<l.length by omega)]using this
def QjV(h:AscP l)(hi:i<l.length):posV (O l i).S l=i:=by
 rcases Cu (posV (O l i).S l) i with g|g|g
 .have:=Qmt h (AP (posV (O l i).S l)) U
  have:=Qd8 h g hi
  omega
 .exact g
 .have:=Qmu g;omega
def Qpd(h:AscP l)(hi:i<l.length):hasV (O l i).S l=true:=by
 unfold hasV;rw[QjV h hi];simp[hi]
def QwY{id:Int}(ha:AscP l)(h:hasV id l=false):∀p∈l,p.S≠id:=by
 intro p hp e
 obtain⟨i,hi,rfl⟩:=BX hp
 have e1:O l i=l[i]:=by simp[O,AQ,AU hi]
 have:=Qpd ha hi
 simp_all
def insP(l:Y D.Page)(p:D.Page):Y D.Page:=l.take (posV p.S l)++p::l.drop (posV p.S l)
def QxA{id:Int}:∀{l:Y D.Page},∀p∈l.take (posV id l),p.S<id
 |[],p,h=>by simp at h
 |q::r,p,h=>by
  rw[posV]at h
  split at h
  .rename_i hq
   rw[CR]at h
   rcases AY.1 h with rfl|h
   .exact hq
   .exact QxA p h
  .simp at h
def Qs2{id:Int}:∀{l:Y D.Page},AscP l->∀p∈l.drop (posV id l),id<=p.S
 |[],_,p,h=>by simp at h
 |q::r,ha,p,h=>by
  have ha':=CH.1 ha
  rw[posV]at h
  split at h
  .rw[Cj]at h;exact Qs2 ha'.2 p h
  .rename_i hq
   rw[Cb]at h
   rcases AY.1 h with rfl|h
   .omega
   .have:=ha'.1 p h;omega
def Qy8(h:AscP l)(hn:hasV p.S l=false):AscP (insP l p):=by
 have hne:=QwY h hn
 refine B5.2 ⟨h.sublist (EA ..),CH.2 ⟨fun q hq=>?_,h.sublist (List.drop_sublist ..)⟩,fun q hq r hr=>?_⟩
 .have:=Qs2 h q hq
  grind
 .have h1:=QxA q hq
  rcases AY.1 hr with rfl|hr
  .exact h1
  .have:=Qs2 h r hr;omega
def QiF:q∈insP l p↔q=p\/q∈l:=by
 unfold insP
 rw[Ah,AY]
 constructor
 .grind
 .rintro(h|h)
  .exact .inr (.inl h)
  .have h2:=h
   rw[<-B2 (posV p.S l) l]at h2
   grind
def QzK(h:AscP l)(hi:i<l.length)(hp:p.S=(O l i).S):AscP (l.set i p):=by
 have e:∀j,j<l.length->(O (l.set i p) j).S=(O l j).S:=fun j hj=>by
  by_cases hij:j=i
  .subst hij;simp[O,AQ,hi]at hp |-;exact hp
  .simp[O,AQ,CB,Aj hij]
 refine CO.2 fun j k hj hk hjk=>?_
 have hj':j<l.length:=by simpa using hj
 have hk':k<l.length:=by simpa using hk
 have h1:=e j hj';have h2:=e k hk'
 have h3:=Qd8 h hjk hk'
 have g1:O (l.set i p) j=(l.set i p)[j]:=by simp only[O,AQ,AU hj,Bt]
 have g2:O (l.set i p) k=(l.set i p)[k]:=by simp only[O,AQ,AU hk,Bt]
 simp_all
structure QnS (l:Y Int) (n:Nat):Prop where
 len:l.length<=n
 nodup:l.Nodup
 fit:∀x∈l,1<=x/\x<=1099511627776
def QnS.snoc(h:QnS l n)(h1:1<=x/\x<=1099511627776)(h2:l.contains x=false):QnS (l++[x]) (n+1):=by
 refine⟨by have:=h.len;simp;omega,Eb.2 ⟨h.nodup,Ob,fun y hy z hz e=>?_⟩,fun y hy=>?_⟩
 .simp_all
 .rcases Ah.1 hy with hy|hy
  .exact h.fit y hy
  .simp_all
def QT:Int->D.R->Prop:=fun _ s=>s.k.length<=4
def QT.step{M:Int}{c:D.E}{b:D.b}:Qkx QT M c b:=fun _ _ _ _=>QqF
def Goes.short(hq:∀s,Q s->s.k.length<=4)(g:Goes Q st l k t h):∀s∈l,s.k.length<=4:=by
 induction g with
 |nil=>intro s hs;simp at hs
 |step g h1 h2 h3 h4 ih=>
  grind
 |hand g h1 h2 h3 h4 ih=>
  grind
structure Qd (M:Int) (n:Nat) (l:D.F):Prop where
 top:M<=8000000000
 now:0<=l.FC/\l.FC<=M - 20000
 small:n<=48
 cfg:Ze n l.E
 book:QU l.b
 page:∀p∈l.G,QM QT M l.b p/\p.FT<=l.FC
 asc:AscP l.G
 len:l.G.length<=64
 owner : -1<=l.FE/\l.FE<=4
 fence:0<=l.Fence/\l.Fence<=(l.h.length:Int)
 seen:QnS l.h 256
 told:∀p∈l.G,Told l.Fence p l.Calls
 all:∀c∈l.Calls,∃p∈l.G,p.S=c.Page
structure LW (M:Int) (n:Nat) (l:D.F):Prop where
 top:M<=8000000000
 now:0<=l.FC/\l.FC<=8589934592
 small:n<=48
 cfg:Ze n l.E
 book:QU l.b
 page:∀p∈l.G,QM QT M l.b p/\p.FT<=l.FC
 asc:AscP l.G
 len:l.G.length<=64
 owner : -1<=l.FE/\l.FE<=4
 fence:0<=l.Fence/\l.Fence<=1048576
 seen:QnS l.h 256
 told:∀p∈l.G,Told l.Fence p l.Calls
 all:∀c∈l.Calls,∃p∈l.G,p.S=c.Page
def Qd.w(h:Qd M n l):LW M n l:=by
 have h1:=h.top;have h2:=h.now;have h3:=h.fence;have h4:=h.seen.len
 exact⟨h1,U,h.small,h.cfg,h.book,h.page,h.asc,h.len,h.owner,U,h.seen,h.told,h.all⟩
def putV(l:D.F)(i:Nat)(p:D.Page):D.F:=
 { l with G:=l.G.set i p,Calls:=l.Calls++QN p.S l.Fence (p.P.drop (O l.G i).P.length) }
def runI(l:D.F)(i:Nat):D.F:=if (runV l.E l.b (O l.G i) l.FC).2≠0 then l else putV l i (runV l.E l.b (O l.G i) l.FC).1
def Zw(l:D.F):Nat->D.F
 |0=>l
 |k+1=>runI (Zw l k) k
def QlT(c:D.E)(i:Int)(x:D.s):D.E:=
 { c with f:=c.f.set i.toNat { O c.f i.toNat with FX:=(O c.f i.toNat).FX++[x] } }
def opV(l:D.F)(o:D.Op):D.F×Int:=
  if o.a=1 then
    (if hasV o.Page l.G=true then(l,4)else if l.G.length=64 then(l,5)else if o.Page<1 then(l,1)
     else if 0<=o.W/\o.W<(l.b.j.length:Int)then(runI { l with G:=insP l.G (newP o.Page o.W l.FC) } (posV o.Page l.G),0)else(l,3))
  else if o.a=2 then(if o.Fence=l.Fence+1 then({ l with FE:=o.Region,Fence:=o.Fence },0)else(l,23))
  else if o.a=3 then
    (if o.Region=l.FE/\o.Fence=l.Fence then
      (if hasV o.Page l.G=true then
        (if Y2 (O l.G (posV o.Page l.G)) l.FC=true/\o.K=(if (O l.G (posV o.Page l.G)).p=2 then -1 else(O l.G (posV o.Page l.G)).FB)then(runI l (posV o.Page l.G),0)else(l,9))
       else(l,3))
     else(l,23))
  else if o.a=4 then
    (if hasV o.Z.Page l.G=true then
      (if (answerV l.b (O (runI l (posV o.Z.Page l.G)).G (posV o.Z.Page l.G)) { o.Z with At:=l.FC }).2=0 then
         (putV (runI l (posV o.Z.Page l.G)) (posV o.Z.Page l.G) (answerV l.b (O (runI l (posV o.Z.Page l.G)).G (posV o.Z.Page l.G)) { o.Z with At:=l.FC }).1,0)
       else(runI l (posV o.Z.Page l.G),(answerV l.b (O (runI l (posV o.Z.Page l.G)).G (posV o.Z.Page l.G)) { o.Z with At:=l.FC }).2))
     else(l,3))
  else if 0<=o.e/\o.e<2 then({ Zw l l.G.length with E:=QlT l.E o.e o.s },0)else(Zw l l.G.length,3)
def ZK(l:D.F)(o:D.Op):D.F×Int:=
 if l.h.contains o.S=true then(l,0)else opV { l with FC:=max l.FC o.At,h:=l.h++[o.S] } o
section
variable {M:Int} {n:Nat} {l:D.F} {i:Nat} {p q:D.Page} {b:D.b} {c:D.E} {now:Int}
def Ext(p q:D.Page):Prop:=∃m,q.P=p.P++m
def Ext.refl(p):Ext p p:=⟨[],Ob⟩
def Ext.step(h:Ext p q):Ext p (stepQ c b q):=by
 obtain⟨m,hm⟩:=h
 unfold stepQ
 split
 .exact⟨m,hm⟩
 .split
  .exact⟨m,hm⟩
  .exact⟨m++[_],by dsimp only;rw[hm,List.append_assoc]⟩
def Qp9(hb:QU b)(h:QM QT M b p):Ext p (runV c b p now).1:=
 Qld hb QT.step (fun q _ _ hr=>hr.step) h (Ext.refl p)
def QhB:Ext p (XI p a):=by
 by_cases h:a.a=4
 .exact⟨_,Qlm.1 h⟩
 .exact⟨[],by rw[Qlm.2 h];simp⟩
def Qva(hx:Ext (O l.G i) p):∃m,p.P=(O l.G i).P++m/\(putV l i p).Calls=l.Calls++QN p.S l.Fence m:=by
 obtain⟨m,hm⟩:=hx
 refine⟨m,hm,?_⟩
 unfold putV
 simp_all
def Q3[AK α]{l:Y α}{x:α}(h:i<l.length):O (l.set i x) i=x:=by
 simp[O,AQ,h]
def YC[AK α]{l:Y α}{x:α}(h:j≠i):O (l.set i x) j=O l j:=by
 simp[O,AQ,CB,Aj h]
def QjM[AK α]{l:Y α}{x:α}(h:x∈l):∃i,i<l.length/\O l i=x:=by
 obtain⟨i,hi,e⟩:=BX h
 exact⟨i,hi,by simp[O,AQ,AU hi,e]⟩
def Qd.put(h:Qd M n l)(hi:i<l.G.length)(hp:QM QT M l.b p)(hl:p.FT<=l.FC)(hid:p.S=(O l.G i).S)(hx:Ext (O l.G i) p):Qd M n (putV l i p):=by
 obtain⟨m,hm,hc⟩:=Qva hx
 have hf:=h.fence
 have hpage:∀q∈(l.G.set i p),q=p\/(q∈l.G/\q.S≠p.S):=by
  intro q hq
  obtain⟨j,hj,rfl⟩:=QjM hq
  rw[CL]at hj
  by_cases e:j=i
  .subst e;rw[Q3 hj];exact .inl rfl
  .rw[YC e]
   refine .inr ⟨Qf hj,fun e2=>?_⟩
   rw[hid]at e2
   have h1:=QjV h.asc hj
   have h2:=QjV h.asc hi
   rw[e2]at h1;omega
 refine⟨h.top,h.now,h.small,h.cfg,h.book,fun q hq=>?_,QzK h.asc hi hid,by show(l.G.set i p).length<=64;rw[CL];exact h.len,h.owner,h.fence,h.seen,fun q hq=>?_,fun x hx=>?_⟩
 .rcases hpage q hq with rfl|⟨hq,_⟩
  .exact⟨hp,hl⟩
  .exact h.page q hq
 .rw[hc]
  show Told l.Fence q _
  rcases hpage q hq with rfl|⟨hq,hne⟩
  .exact hid ▸ (h.told _ (Qf hi)).more hf.1 hid hm
  .exact(h.told q hq).other hne
 .rw[hc]at hx
  show ∃q∈l.G.set i p,q.S=x.Page
  rcases Ah.1 hx with hx|hx
  .obtain⟨q,hq,e⟩:=h.all x hx
   obtain⟨j,hj,rfl⟩:=QjM hq
   by_cases e2:j=i
   .subst e2;exact⟨p,by have:=Qf (l:=l.G.set j p) (i:=j) (by simpa using hj);rwa [Q3 hj]at this,by rw[hid,e]⟩
   .exact⟨_,by have:=Qf (l:=l.G.set i p) (i:=j) (by simpa using hj);rwa [YC e2]at this,e⟩
  .exact⟨p,by have:=Qf (l:=l.G.set i p) (i:=i) (by simpa using hi);rwa [Q3 hi]at this,(Yu x hx).1.symm⟩
def Qd.at(h:Qd M n l)(hi:i<l.G.length):QM QT M l.b (O l.G i)/\(O l.G i).FT<=l.FC:=h.page _ (Qf hi)
def LW.at(h:LW M n l)(hi:i<l.G.length):QM QT M l.b (O l.G i)/\(O l.G i).FT<=l.FC:=h.page _ (Qf hi)
def LW.runEq(h:LW M n l)(hi:i<l.G.length):runI l i=putV l i (runV l.E l.b (O l.G i) l.FC).1:=by
 unfold runI
 rw[(QeG h.book QT.step (h.at hi).1).2.1,iA Ob]
def Qd.runEq(h:Qd M n l)(hi:i<l.G.length):runI l i=putV l i (runV l.E l.b (O l.G i) l.FC).1:=h.w.runEq hi
def Qd.run(h:Qd M n l)(hi:i<l.G.length):Qd M n (runI l i):=by
 rw[h.runEq hi]
 have hp:=h.at hi
 exact h.put hi (QeG h.book QT.step hp.1).1 (QxU h.book QT.step hp.1 hp.2) (Qgg h.book QT.step hp.1).id (Qp9 h.book hp.1)
def Xv:(runI l i).FC=l.FC/\(runI l i).E=l.E/\(runI l i).b=l.b/\(runI l i).FE=l.FE/\(runI l i).Fence=l.Fence/\(runI l i).h=l.h/\(runI l i).G.length=l.G.length:=by
 unfold runI putV
 grind
def QdV(h:Qd M n l)(hi:i<l.G.length):O (runI l i).G j=if j=i then(runV l.E l.b (O l.G i) l.FC).1 else O l.G j:=by
 rw[h.runEq hi]
 unfold putV
 dsimp only
 split
 .rename_i e;subst e;rw[Q3 hi]
 .rename_i e;rw[YC e]
def YF:∀{k:Nat},(Zw l k).FC=l.FC/\(Zw l k).E=l.E/\(Zw l k).b=l.b/\(Zw l k).FE=l.FE/\(Zw l k).Fence=l.Fence/\(Zw l k).h=l.h/\(Zw l k).G.length=l.G.length
 |0=>⟨rfl,rfl,rfl,rfl,rfl,rfl,rfl⟩
 |k+1=>by
  have h1:=Xv (l:=Zw l k) (i:=k)
  have h2:=YF (k:=k)
  rw[Zw]
  exact⟨h1.1.trans h2.1,h1.2.1.trans h2.2.1,h1.2.2.1.trans h2.2.2.1,h1.2.2.2.1.trans h2.2.2.2.1,h1.2.2.2.2.1.trans h2.2.2.2.2.1,h1.2.2.2.2.2.1.trans h2.2.2.2.2.2.1,h1.2.2.2.2.2.2.trans h2.2.2.2.2.2.2⟩
def Qd.runs(h:Qd M n l):∀{k:Nat},k<=l.G.length->Qd M n (Zw l k)
 |0,_=>h
 |k+1,hk=>by
  have h2:=YF (l:=l) (k:=k)
  exact(h.runs (k:=k) U).run U
def Qo1(h:Ze n c)(hx:Qb3 x)(hs:0<=s/\s<2):Ze (n+1) (QlT c s x):=by
 have hsl:=h.slen
 have hi:s.toNat<c.f.length:=U
 have hso:=h.sched _ (Qf hi)
 refine⟨h.zone,h.pname,h.person,h.cal,?_,fun y hy=>?_⟩
 .rw[<-h.sname]
  unfold QlT
  dsimp only
  refine Ec Ob fun j h1 h2=>?_
  simp only[List.getElem_map,List.getElem_set]
  split
  .rename_i e;subst e
   simp[O,AQ,AU hi]
  .rfl
 .obtain⟨j,hj,rfl⟩:=QjM hy
  have hj:j<(c.f.set s.toNat _).length:=hj
  rw[CL]at hj
  show Qfi (n+1) (O (c.f.set s.toNat _) j)
  by_cases e:j=s.toNat
  .subst e
   rw[Q3 hi]
   exact⟨hso.layers,by have:=hso.len;simp;omega,fun z hz=>by
    rcases Ah.1 hz with hz|hz
    .exact hso.edit z hz
    .rw[Af.1 hz];exact hx⟩
  .rw[YC e]
   have:=h.sched _ (Qf hj)
   exact⟨this.layers,by have:=this.len;omega,this.edit⟩
structure OpIn (o:D.Op):Prop where
 id:1<=o.S/\o.S<=1099511627776
 kind:1<=o.a/\o.a<=5
 region:0<=o.Region/\o.Region<=4
 fence:0<=o.Fence/\o.Fence<=1048576
 at_:0<=o.At/\o.At<=8589934592
 page:0<=o.Page/\o.Page<=999999
 k : -1<=o.K/\o.K<=1000
 answer:o.a=4->YY o.Z=true/\(o.Z.a=3->o.Z.Fw<=5000)
 edit:o.a=5->0<=o.e/\o.e<2->Qb3 o.s
def Qyg(h:YY a=true)(ht:0<=t/\t<=8589934592):YY { a with At:=t }=true:=by
 unfold YY at h |-
 simp only[bae,Qt]at h |-
 simp_all
def Qd.see(h:Qd M n l)(ho:OpIn o)(hn:max l.FC o.At<=M - 20000)(hs:l.h.contains o.S=false)(hl:l.h.length<256):Qd M n { l with FC:=max l.FC o.At,h:=l.h++[o.S] }:=by
 have hnow:=h.now;have hf:=h.fence
 refine⟨h.top,⟨by dsimp only;omega,hn⟩,h.small,h.cfg,h.book,fun p hp=>⟨(h.page p hp).1,by have:=(h.page p hp).2;dsimp only;omega⟩,h.asc,h.len,h.owner,⟨hf.1,by dsimp only;rw[List.length_append];simp;omega⟩,?_,h.told,h.all⟩
 have:=h.seen.snoc ho.id hs
 exact⟨by dsimp only;simp;omega,this.nodup,this.fit⟩
def Qd.open{o:D.Op}(h:Qd M n l)(hp:hasV o.Page l.G=false)(h1:1<=o.Page/\o.Page<=999999)(h2:0<=o.W/\o.W<(l.b.j.length:Int))(hl:l.G.length<64):
  Qd M n { l with G:=insP l.G (newP o.Page o.W l.FC) }/\posV o.Page l.G<(insP l.G (newP o.Page o.W l.FC)).length/\O (insP l.G (newP o.Page o.W l.FC)) (posV o.Page l.G)=newP o.Page o.W l.FC:=by
 have hnow:=h.now
 have hnew:QM QT M l.b (newP o.Page o.W l.FC):=QBE h.top h.book h1 h2 hnow
 have hlen:(insP l.G (newP o.Page o.W l.FC)).length=l.G.length+1:=by
  unfold insP;rw[List.length_append,List.length_cons,List.length_take,List.length_drop]
  omega
 have hpos:=Qdj (id:=o.Page) (l:=l.G)
 refine⟨⟨h.top,h.now,h.small,h.cfg,h.book,fun q hq=>?_,Qy8 h.asc hp,by dsimp only;omega,h.owner,h.fence,h.seen,fun q hq=>?_,fun x hx=>?_⟩,U,?_⟩
 .rcases QiF.1 hq with rfl|hq
  .exact⟨hnew,Al _⟩
  .exact h.page q hq
 .rcases QiF.1 hq with rfl|hq
  .have e:ownC o.Page l.Calls=[]:=Cw.2 fun x hx=>by
    obtain⟨q,hq,e⟩:=h.all x hx
    have:=QwY h.asc hp q hq
    simp;omega
   exact⟨by show(ownC o.Page l.Calls).map unf=_;rw[e];rfl,by show(ownC o.Page l.Calls).Pairwise _;rw[e];exact List.Pairwise.nil,by show ∀x∈ownC o.Page l.Calls,_;rw[e];simp⟩
  .exact h.told q hq
 .obtain⟨q,hq,e⟩:=h.all x hx
  exact⟨q,QiF.2 (.inr hq),e⟩
 .unfold insP
  show O (l.G.take (posV o.Page l.G)++_::_) (posV o.Page l.G)=_
  simp[O,AQ,CA,CD hpos]
def Qd.own(h:Qd M n l)(ho:OpIn o)(hf:o.Fence=l.Fence+1)(hs:l.Fence<(l.h.length:Int)):Qd M n { l with FE:=o.Region,Fence:=o.Fence }:=by
 have hr:=ho.region;have h0:=h.fence
 exact⟨h.top,h.now,h.small,h.cfg,h.book,h.page,h.asc,h.len,⟨by dsimp only;omega,by dsimp only;omega⟩,⟨by dsimp only;omega,by dsimp only;omega⟩,h.seen,fun p hp=>(h.told p hp).mono (by dsimp only;omega),h.all⟩
def Qd.edit{o:D.Op}(h:Qd M n l)(hn:n<48)(hx:Qb3 o.s)(hs:0<=o.e/\o.e<2):Qd M (n+1) { l with E:=QlT l.E o.e o.s }:=
 ⟨h.top,h.now,U,Qo1 h.cfg hx hs,h.book,h.page,h.asc,h.len,h.owner,h.fence,h.seen,h.told,h.all⟩
def Qd.wide(h:Qd M n l)(hn:n<48):Qd M (n+1) l:=
 ⟨h.top,h.now,U,h.cfg.mono U,h.book,h.page,h.asc,h.len,h.owner,h.fence,h.seen,h.told,h.all⟩
def Uw{id:Int}(h:hasV id l.G=true):posV id l.G<l.G.length/\(O l.G (posV id l.G)).S=id:=by
 unfold hasV at h;exact of_decide_eq_true h
def Qd.answer(h:Qd M n l)(hi:i<l.G.length)(ha:a.At=l.FC)(hv:YY a=true)(hs:a.a=3->a.Fw<=5000)(hr:(answerV l.b (O l.G i) a).2=0):Qd M n (putV l i (answerV l.b (O l.G i) a).1):=by
 have hp:=h.at hi
 have hc:=hp.1.check h.book
 have hnow:=h.now
 revert hr
 unfold answerV
 rw[hc,hv,iA Ob]
 split
 .intro e;simp at e
 .split
  .intro _;exact h.put hi hp.1 hp.2 rfl (Ext.refl _)
  .rename_i hs2
   split
   .omega
   .rename_i hre
    intro _
    have hre:Wj (O l.G i) a=0:=by simpa using hre
    have h0:=QrU hre
    exact h.put hi (hp.1.answerQ_inv h.book hv U hs (by simpa using hs2) hre) (by rw[<-ha];exact Qqv h0.1) Qjs.1 QhB
def Qd.op0(hw:Qd M n l)(ho:OpIn o)(hk5:o.a≠5)(hs:l.Fence<(l.h.length:Int)):Qd M n (opV l o).1:=by
 have hk:=ho.kind
 unfold opV
 split
 .split
  .exact hw
  .rename_i hp
   split
   .exact hw
   .split
    .exact hw
    .split
     .rename_i h1 h2 h3
      have h4:=ho.page;have h5:=hw.len
      have:=hw.open (o:=o) (by simpa using hp) U h3 U
      exact this.1.run this.2.1
     .exact hw
 .split
  .split
   .rename_i hf
    exact hw.own ho hf hs
   .exact hw
  .split
   .split
    .split
     .rename_i hp
      generalize (if (O l.G (posV o.Page l.G)).p=2 then(-1:Int)else(O l.G (posV o.Page l.G)).FB)=kk
      split
      .exact hw.run (Uw hp).1
      .exact hw
     .exact hw
    .exact hw
   .split
    .rename_i k4
     split
     .rename_i hp
      have hi:=(Uw hp).1
      have hr:=hw.run hi
      have hkp:=Xv (l:=l) (i:=posV o.Z.Page l.G)
      have ha:=ho.answer k4
      have hnow:=hw.now;have htop:=hw.top
      split
      .rename_i he
       have:=hr.answer (i:=posV o.Z.Page l.G) (a:={ o.Z with At:=l.FC }) U hkp.1.symm (Qyg ha.1 U) ha.2 (by rw[hkp.2.2.1];exact he)
       simp_all
      .exact hr
     .exact hw
    .omega
def Qd.op(h:Qd M n l)(hn:n<48)(ho:OpIn o)(hs:l.Fence<(l.h.length:Int)):Qd M (n+1) (opV l o).1:=by
 have hw:=h.wide hn
 by_cases k5:o.a=5
 .unfold opV
  rw[iA U,iA U,iA U,iA U]
  split
  .rename_i hsch
   have h3:=h.runs (AP _)
   have h4:=YF (l:=l) (k:=l.G.length)
   have:=h3.edit hn (ho.edit k5 hsch) hsch
   simp_all
  .exact hw.runs (AP _)
 .exact hw.op0 ho k5 hs
def Qd.apply(h:Qd M n l)(hn:n<48)(ho:OpIn o)(ht:max l.FC o.At<=M - 20000)(hl:l.h.length<256):Qd M (n+1) (ZK l o).1:=by
 unfold ZK
 split
 .exact h.wide hn
 .rename_i hs
  exact(h.see ho ht (by simpa using hs) hl).op hn ho (by dsimp only;have:=h.fence;rw[List.length_append];simp;omega)
def Qd.apply0(h:Qd M n l)(ho:OpIn o)(hk5:o.a≠5)(ht:max l.FC o.At<=M - 20000)(hl:l.h.length<256):Qd M n (ZK l o).1:=by
 unfold ZK
 split
 .exact h
 .rename_i hs
  exact(h.see ho ht (by simpa using hs) hl).op0 ho hk5 (by dsimp only;have:=h.fence;rw[List.length_append];simp;omega)
end
section
open Go AM
attribute [local irreducible] dueV stepV runV QJ answerV
section
def Qb7{id f:Int}:∀{l:Y D.R},(∀s∈l,s.k.length<=m)->(QN id f l).length<=m*l.length
 |[],_=>by simp[QN]
 |s::l,h=>by
  have:=Qb7 (id:=id) (f:=f) (l:=l) fun x hx=>h x (BB _ hx)
  have h1:=h s (BA ..)
  unfold QN at this |-
  rw[EN,Ac,AZ,Ab,Nat.mul_succ];omega
def Qfo{id f:Int}:QN id f (l++[s])=QN id f l++s.k.map fun x=>D.Call.mk id s.K s.At x f:=by
 rw[Qdb];unfold QN;simp
def Que[AK α]{l:Y α}:O (l.drop k) j=O l (k+j):=by
 simp[O,AQ,Ap]
def QoS(h:QA p)(hk:k<=p.P.length):QdM 1000 p (k:Int) f=some (QN p.S f (p.P.drop k)):=by
 have hst:=h.st
 refine Ok.eq ?_
 unfold QdM
 refine Ok.run (p.P.length - k) (fun j=>((f,((k+j:Nat):Int),()),p,QN p.S f ((p.P.drop k).take j),())) rfl U (fun j hj kk hkk=>?_) (fun kk=>?_)
 .try dsimp only
  have hlt:k+j<p.P.length:=U
  refine Ok.P (Ok.atn hlt ?_)
  have hpe:=(h.pe _ (Qf hlt)).1
  have hdl:j<(p.P.drop k).length:=by simp;omega
  have hts:(p.P.drop k).take (j+1)=(p.P.drop k).take j++[O p.P (k+j)]:=by rw[<-Qn hdl,Que]
  have hol:(QN p.S f ((p.P.drop k).take j)).length<=40*((p.P.drop k).take j).length:=Qb7 (m:=40) fun s hs=>(h.pe s (Bw (Bp hs))).1
  rw[Ae]at hol
  obtain⟨s,hs⟩:∃s,O p.P (k+j)=s:=⟨_,rfl⟩
  rw[hs]at hpe hts |-
  refine Ok.run s.k.length (fun z=>((f,((k+j:Nat):Int),(z:Int),()),p,s,QN p.S f ((p.P.drop k).take j)++(s.k.take z).map (fun x=>D.Call.mk p.S s.K s.At x f),())) (by rw[Bc,Ak,Ao];rfl) U (fun z hz k2 hk2=>?_) (fun k2=>?_)
  .try dsimp only
   refine Ok.P (Ok.atn hz (Ok.TO ?_ ?_))
   .grind
   .try dsimp only
    rw[Qa U]
    try dsimp only at hk2
    rw[<-Qn hz,Aw,<-Ax]at hk2
    exact hk2
  .try dsimp only
   refine Ok.N ?_
   try dsimp only
   rw[Qa U,Ad]
   try dsimp only at hkk
   rw[hts,Qfo]at hkk
   exact hkk
 .try dsimp only
  refine Ok.N (Ok.s ?_)
  rw[Bl Ob]
def Qnx{id:Int}(hi:i<cs.length):ownC id (cs.take (i+1))=ownC id (cs.take i)++(if (O cs i).Page=id then[O cs i]else[]):=by
 rw[<-Qn hi,Qan]
 congr 1
 unfold ownC
 grind
def QB6(h:QA p)(hl:l.Calls.length<=900)(ht:Told l.Fence p l.Calls):QgW 1000 l p=some true:=by
 have hW:=ht.same
 obtain⟨W,hWe⟩:∃W,QN p.S 0 p.P=W:=⟨_,rfl⟩
 rw[hWe]at hW
 have hWl:W.length=(ownC p.S l.Calls).length:=by rw[<-hW,AZ]
 have hol:∀i,(ownC p.S (l.Calls.take i)).length<=900:=fun i=>by
  unfold ownC
  grind
 refine Ok.eq ?_
 unfold QgW
 have hc:=QoS (k:=0) (f:=0) h (BM _)
 rw[Cb,hWe]at hc
 refine Ok.oe hc ?_
 refine Ok.loop (fun m x=>∃(i:Nat) (fe:Int),x=((W,((ownC p.S (l.Calls.take i)).length:Int),fe,(i:Int),()),l,p,())/\i<=l.Calls.length/\(fe=0\/∃c∈ownC p.S (l.Calls.take i),c.Fence=fe)/\m=l.Calls.length - i) (m:=l.Calls.length) U
  ⟨0,0,by rw[Bc];rfl,U,.inl rfl,rfl⟩ ?_
 rintro m x ⟨i,fe,rfl,i1,i2,rfl⟩ K hK
 try dsimp only
 have hoi:=hol i
 refine Ok.ite (fun hi=>?_) (fun hi=>?_)
 .have hlt:i<l.Calls.length:=U
  refine Ok.j (Ok.atn hlt ?_)
  have hsu:=Qnx (id:=p.S) hlt
  have hsp:l.Calls=l.Calls.take i++O l.Calls i::l.Calls.drop (i+1):=by rw[<-Qfw hlt,B2]
  obtain⟨c,hce⟩:∃c,O l.Calls i=c:=⟨_,rfl⟩
  rw[hce]at hsu hsp |-
  refine Ok.ite (fun g=>?_) (fun g=>?_)
  .rw[iA g,Ao]at hsu
   try dsimp only
   rw[Qa U]
   refine hK _ _ U ⟨i+1,fe,by rw[hsu],U,by rw[hsu];exact i2,rfl⟩
  .have g:c.Page=p.S:=U
   rw[iB g]at hsu
   have hown:ownC p.S l.Calls=ownC p.S (l.Calls.take i)++c::ownC p.S (l.Calls.drop (i+1)):=by
    rw[hsp,Qan]
    congr 1
    .rw[<-hsp]
    .unfold ownC
     grind
   have hcm:c∈ownC p.S l.Calls:=by rw[hown];simp
   have hfit:=ht.fit c hcm
   have hle:fe<=c.Fence:=by
    rcases i2 with rfl|⟨c',hc',rfl⟩
    .exact hfit.1
    .have:=ht.up
     grind
   have hn:(ownC p.S (l.Calls.take i)).length<W.length:=by rw[hWl,hown];simp
   have hnth:O W (ownC p.S (l.Calls.take i)).length=unf c:=by
    have e:W=(ownC p.S (l.Calls.take i)).map unf++(unf c::(ownC p.S (l.Calls.drop (i+1))).map unf):=by rw[<-hW,hown,Aw,AR]
    rw[e]
    simp[O,AQ]
   refine Ok.TG (fun y=>y=((W,((ownC p.S (l.Calls.take i)).length:Int),(i:Int),()),l,p,c,())) (fun y hy=>?_) (fun zG hJ=>Ok.N (Ok.N (Ok.N (hJ _ rfl))))
   subst hy
   try dsimp only
   refine Ok.atn hn ?_
   rw[hnth]
   refine Ok.n (fun h=>h rfl) ?_
   try dsimp only
   rw[Qa U,Qa U]
   refine hK _ _ U ⟨i+1,c.Fence,by rw[hsu];simp,U,.inr ⟨c,by rw[hsu];simp,rfl⟩,rfl⟩
 .have e:i=l.Calls.length:=U
  subst e
  refine Ok.s (Az ?_)
  simp_all
def sumC(l:Y D.Page)(f:D.Page->Nat):Nat:=(l.map f).sum
def QzQ(e:∀p∈l,f p=g p+h p):sumC l f=sumC l g+sumC l h:=by
 induction l with
 |nil=>rfl
 |cons p l ih=>
  have:=ih fun q hq=>e q (BB _ hq)
  have h1:=e p (BA ..)
  simp only[sumC,AR,Cc]at this |-
  omega
def QzR(ha:AscP l)(hx:∃p∈l,p.S=x):sumC l (fun p=>if x=p.S then 1 else 0)=1:=by
 induction l with
 |nil=>obtain⟨p,hp,_⟩:=hx;simp at hp
 |cons q l ih=>
  have ha':=CH.1 ha
  have hz:∀(l:Y D.Page),(∀p∈l,x≠p.S)->sumC l (fun p=>if x=p.S then 1 else 0)=0:=by
   intro l
   induction l with
   |nil=>intro _;rfl
   |cons p l ih=>
    intro h
    simp only[sumC,AR,Cc]
    rw[iA (h p (BA ..))]
    have:=ih fun q hq=>h q (BB _ hq)
    unfold sumC at this;omega
  simp only[sumC,AR,Cc]
  by_cases e:x=q.S
  .rw[iB e]
   have:=hz l fun p hp e'=>by have:=ha'.1 p hp;omega
   unfold sumC at this;omega
  .rw[iA e]
   have:=ih ha'.2 (by
    obtain⟨p,hp,h2⟩:=hx
    rcases AY.1 hp with rfl|hp
    .exact absurd h2.symm e
    .exact⟨p,hp,h2⟩)
   unfold sumC at this;omega
def QoB(ha:AscP l):∀{cs:Y D.Call},(∀c∈cs,∃p∈l,p.S=c.Page)->sumC l (fun p=>(ownC p.S cs).length)=cs.length
 |[],_=>by
  have:∀l:Y D.Page,sumC l (fun p=>(ownC p.S []).length)=0:=by
   intro l
   induction l with
   |nil=>rfl
   |cons p l ih=>simp only[sumC,AR,Cc]at ih |-;simpa [ownC]using ih
  rw[this];rfl
 |c::cs,h=>by
  have h1:=QoB ha (cs:=cs) fun x hx=>h x (BB _ hx)
  have h2:=QzR ha (h c (BA ..))
  rw[QzQ (g:=fun p=>(ownC p.S cs).length) (h:=fun p=>if c.Page=p.S then 1 else 0) (fun p hp=>?_),h1,h2,Ab]
  unfold ownC
  grind
def Qts(h:∀p∈l,f p<=m):sumC l f<=m*l.length:=by
 induction l with
 |nil=>simp[sumC]
 |cons p l ih=>
  have h1:=h p (BA ..)
  have h2:=ih fun q hq=>h q (BB _ hq)
  simp only[sumC,AR,Cc,Ab]at h2 |-
  grind
end
end
section
def QbH[AK α]{l:Y α}(h:i<k):O (l.take k) i=O l i:=by
 simp[O,AQ,Aq,h]
def QU.tnm(h:QU b)(hi:i<b.t.length):(O b.t i).Name=O Qin i:=by
 rw[Qk3 h.tname hi,QbH hi]
def QU.pnm(h:QU b)(hi:i<b.j.length):(O b.j i).Name=O Qnj i:=by
 rw[Qk3 h.pname hi,QbH hi]
def forall3{P:Nat->Prop}(h0:P 0)(h1:P 1)(h2:P 2):∀i,i<3->P i:=fun i hi=>by
 rcases(show i=0\/i=1\/i=2 by omega)with rfl|rfl|rfl
 .exact h0
 .exact h1
 .exact h2
def QBw:∀i,i<2->QgN 1000 (O Qin i)=some true:=forall2 (by kernel_rfl) (by kernel_rfl)
def QBv:∀i,i<3->QgN 1000 (O Qnj i)=some true:=forall3 (by kernel_rfl) (by kernel_rfl) (by kernel_rfl)
def QqD:∀i,i<2->∀j,j<i->O Qin j≠O Qin i:=by decide
def QtB:∀i,i<3->∀j,j<i->O Qnj j≠O Qnj i:=by decide
def QBY(ha:Asc l)(hm:∀x∈l,0<=x/\x<m)(hl:l.length<900):Qet 1000 l m=some true:=by
 refine Ok.eq ?_
 unfold Qet
 refine Ok.run l.length (fun i=>((l,m,(i:Int),()),())) rfl U (fun i hi k hk=>?_) (fun k=>by dsimp only;exact Ok.N (Ok.s rfl))
 have hx:=hm _ (Qf hi)
 dsimp only
 refine Ok.P (Ok.j (Ok.atn hi (Ok.N (Ok.atn hi (Ok.N ?_)))))
 dsimp only
 rw[Qa U]
 by_cases h0:0<i
 .refine Ok.P ?_
  rw[show X ((i:Int) - 1)=((i - 1:Nat):Int)by rw[Qc U];omega]
  have:=Qjv ha (show i - 1<i by omega) hi
  exact Ok.A (Ok.atn hi (Ok.N hk))
 .exact Ok.N hk
def Qyd(h:Ze n c)(hb:QU b)(hi:i<b.t.length):Qla 1000 c b (i:Int)=some 0:=by
 have htl:=hb.tlen
 have ht:=hb.team _ (Qf hi)
 have hnm:=hb.tnm hi
 have hpl:=h.plen
 refine Ok.eq ?_
 unfold Qla
 refine Ok.atn hi (Ok.oe (by rw[hnm];exact QBw i U) (Ok.nt rfl ?_))
 obtain⟨x,hx⟩:∃x,O b.t i=x:=⟨_,rfl⟩
 rw[hx]at ht hnm |-
 refine Ok.run2 i (fun k=>((i:Int),(k:Int),())) rfl U (fun k hk K hK=>?_) (fun K=>?_)
 .dsimp only
  refine Ok.P (Ok.A (Ok.n ?_ ?_))
  .rw[hb.tnm U,hnm];exact QqD i U k hk
  .rw[Qa U];exact hK
 .dsimp only
  have hml:=ht.len
  refine Ok.N (Ok.N ?_)
  refine Ok.run2 (x.r.length - 1) (fun k=>(((k+1:Nat):Int),())) rfl U (fun k hk K hK=>?_) (fun K=>?_)
  .dsimp only
   rw[show X (((k+1:Nat):Int) - 1)=(k:Int)by rw[Qc U];omega]
   have:=Qjv ht.asc (show k<k+1 by omega) (show k+1<x.r.length by omega)
   refine Ok.P (Ok.A (Ok.A (Ok.N ?_)))
   rw[Qa U];exact hK
  .dsimp only
   refine Ok.N (Ok.oe (QBY ht.asc (fun z hz=>?_) U) (Ok.nt rfl (Ok.s rfl)))
   have:=ht.mem z hz;omega
def Qsb(h:Ze n c)(hb:QU b)(hl:l.length<=2)(ht:∀x∈l,Uo b.t.length x):Qeu 1000 c b l=some 0:=by
 have hpl:=h.plen;have hsl:=h.slen
 refine Ok.eq ?_
 unfold Qeu
 refine Ok.N (Ok.run l.length (fun i=>((l,(i:Int),()),c,b,())) rfl U (fun i hi k hk=>?_) (fun k=>by dsimp only;exact Ok.N (Ok.s rfl)))
 dsimp only
 have hx:=ht _ (Qf hi)
 have h1:=hx.lo;have h2:=hx.person;have h3:=hx.sched;have h4:=hx.team
 refine Ok.P (Ok.j ?_)
 refine Ok.TG (fun y=>∃m:Int,y=((l,(i:Int),m,()),c,b,())/\(O l i).Fd<m) (fun y hy=>?_) (fun zG hJ=>?_)
 .obtain⟨m,rfl,hm⟩:=hy
  dsimp only
  rw[Qa U]
  exact Ok.atn hi (Ok.N (Ok.atn hi (Ok.N hk)))
 .refine Ok.atn hi ?_
  rcases hx.kind with hk|hk|hk
  .have:=h2 hk
   exact Ok.p hk (hJ _ ⟨_,rfl,U⟩)
  .have:=h3 hk
   exact Ok.N (Ok.p hk (hJ _ ⟨_,rfl,U⟩))
  .have:=h4 hk
   exact Ok.N (Ok.N (Ok.p hk (hJ _ ⟨_,rfl,U⟩)))
def Qs1(h:Ze n c)(hb:QU b)(hi:i<b.j.length):QgQ 1000 c b (i:Int)=some 0:=by
 have htl:=hb.plen
 have ht:=hb.pol _ (Qf hi)
 have hnm:=hb.pnm hi
 refine Ok.eq ?_
 unfold QgQ
 refine Ok.atn hi (Ok.oe (by rw[hnm];exact QBv i U) (Ok.nt rfl ?_))
 obtain⟨x,hx⟩:∃x,O b.j i=x:=⟨_,rfl⟩
 rw[hx]at ht hnm |-
 refine Ok.run2 i (fun k=>((i:Int),(k:Int),())) rfl U (fun k hk K hK=>?_) (fun K=>?_)
 .dsimp only
  refine Ok.P (Ok.A (Ok.n ?_ ?_))
  .rw[hb.pnm U,hnm];exact QtB i U k hk
  .rw[Qa U];exact hK
 .dsimp only
  have hml:=ht.len;have hrp:=ht.rep
  refine Ok.N (Ok.N (Ok.N (Ok.oe rin (Ok.nt (Qt.2 U) ?_))))
  refine Ok.run2 x.Steps.length (fun k=>((k:Int),())) rfl U (fun k hk K hK=>?_) (fun K=>by dsimp only;exact Ok.N (Ok.s rfl))
  dsimp only
  have hs:=ht.step _ (Qf hk)
  have hw:=hs.wait
  refine Ok.P (Ok.atn hk (Ok.oe rin (Ok.nt (Qt.2 U) (Ok.atn hk (Ok.oe (Qsb h hb hs.len hs.target) (Ok.NS ?_))))))
  rw[Qa U];exact hK
def QqE(h:Ze n c)(hn:n<=48)(hb:QU b):QfZ 1000 c b=some 0:=by
 have htl:=hb.tlen;have hpl:=hb.plen
 refine Ok.eq ?_
 unfold QfZ
 refine Ok.oe (Qfq h hn) (Ok.NS (Ok.opt (P:=(·=0)) ?_ fun r hr=>Ok.s hr))
 unfold QpP
 refine Ok.j (Ok.N (Ok.N ?_))
 refine Ok.run b.t.length (fun i=>(((i:Int),()),c,b,())) rfl U (fun i hi k hk=>?_) (fun k=>?_)
 .dsimp only
  refine Ok.P (Ok.oe (Qyd h hb hi) (Ok.NS ?_))
  rw[Qa U];exact hk
 .dsimp only
  refine Ok.N (Ok.run b.j.length (fun i=>(((i:Int),()),c,b,())) rfl U (fun i hi k hk=>?_) (fun k=>by dsimp only;exact Ok.N (Ok.s rfl)))
  dsimp only
  refine Ok.P (Ok.oe (Qs1 h hb hi) (Ok.NS ?_))
  rw[Qa U];exact hk
end
section
open Go AM
attribute [local irreducible] dueV stepV runV QJ answerV
section
def LW.callsN(h:LW M n l):sumC l.G (fun p=>(ownC p.S l.Calls).length)=l.Calls.length:=QoB h.asc h.all
def LW.ownN(h:LW M n l)(hp:p∈l.G):(ownC p.S l.Calls).length=(QN p.S 0 p.P).length:=by
 have:=(h.told p hp).same
 grind
def LW.callsLe(h:LW M n l)(hpg:l.G.length<=9):l.Calls.length<=468:=by
 rw[<-h.callsN]
 have:=Qts (l:=l.G) (f:=fun p=>(ownC p.S l.Calls).length) (m:=52) fun p hp=>by
  obtain⟨g1,g2⟩:=h.page p hp
  obtain⟨t,g3,_⟩:=g1.goes
  have h1:=Qb7 (id:=p.S) (f:=0) (m:=4) (Goes.short (fun s hs=>hs) g3)
  have h2:=(g1.len h.book).1
  show(ownC p.S l.Calls).length<=52
  rw[h.ownN hp];omega
 omega
def Qd.callsLe(h:Qd M n l)(hpg:l.G.length<=9):l.Calls.length<=468:=h.w.callsLe hpg
def Qsa:sumC (l++[p]) f=sumC l f+f p:=by simp[sumC]
def QcN(h:LW M n l)(hpg:l.G.length<=9):Wu 1000 l=some true:=by
 have htop:=h.top;have hnow:=h.now;have how:=h.owner;have hfe:=h.fence;have hse:=h.seen.len;have hcl:=h.callsLe hpg
 refine Ok.eq ?_
 unfold Wu
 refine Ok.j (Ok.oe (QqE h.cfg h.small h.book) (Ok.NS (Ok.oe rin (Ok.bt (Qt.2 U) (Ok.N (Ok.oe rin (Ok.bt (Qt.2 how) (Ok.oe rin (Ok.bt (Qt.2 U) (Ok.N ?_))))))))))
 have hsle:∀i,sumC (l.G.take i) (fun p=>(ownC p.S l.Calls).length)<=468*i:=fun i=>by
  have:=Qts (l:=l.G.take i) (f:=fun p=>(ownC p.S l.Calls).length) (m:=468) fun p hp=>by
   show(ownC p.S l.Calls).length<=468
   unfold ownC
   grind
  grind
 refine Ok.run l.G.length (fun i=>((((sumC (l.G.take i) (fun p=>(ownC p.S l.Calls).length):Nat):Int),(i:Int),()),l,())) rfl U (fun i hi k hk=>?_) (fun k=>?_)
 .try dsimp only
  have hm:=Qf hi
  obtain⟨g1,g2⟩:=h.page _ hm
  have gt:=h.told _ hm
  have hown:=h.ownN hm
  have hs1:=hsle i
  have hs2:=hsle (i+1)
  refine Ok.P (Ok.atn hi ?_)
  have hasc:0<i->(O l.G (i - 1)).S<(O l.G i).S:=fun h0=>Qd8 h.asc U hi
  try dsimp only at hk
  rw[<-Qn hi,Qsa]at hk
  obtain⟨p,hp⟩:∃p,O l.G i=p:=⟨_,rfl⟩
  rw[hp]at g1 g2 gt hown hk hasc |-
  have hpl:=g1.plen h.book
  refine Ok.TG (fun y=>y=((((sumC (l.G.take i) (fun p=>(ownC p.S l.Calls).length):Nat):Int),(i:Int),()),l,p,())) (fun y hy=>?_) (fun zG hJ=>?_)
  .subst hy
   try dsimp only
   have hc:=QoS (k:=0) (f:=0) hpl (BM _)
   rw[Cb]at hc
   refine Ok.oe hc ?_
   try dsimp only
   rw[Qa U,<-hown,Qc (by have:(ownC p.S l.Calls).length<=468:=(by unfold ownC;exact Nat.le_trans (List.length_filter_le _ _) hcl);omega)]
   exact hk
  .have tail:Ok (V (UM 1000 l.b p) fun a13=>AM.J a13 (AM.J (decide (l.FC<p.FT)) (some false) (V (QgW 1000 l p) fun a14=>AM.J a14 (zG ((((sumC (l.G.take i) (fun p=>(ownC p.S l.Calls).length):Nat):Int),(i:Int),()),l,p,())) (some false))) (some false)) (·=true):=
    Ok.oe (Qgt h.book hpl) (Ok.bt (g1.check h.book) (Ok.N (Ok.oe (QB6 hpl U gt) (Ok.t (hJ _ rfl)))))
   by_cases h0:0<i
   .refine Ok.P ?_
    rw[show X ((i:Int) - 1)=((i - 1:Nat):Int)by rw[Qc U];omega]
    have:=hasc h0
    exact Ok.A (Ok.N tail)
   .exact Ok.N tail
 .try dsimp only
  refine Ok.N ?_
  rw[Ad,h.callsN]
  refine Ok.run l.h.length (fun i=>(((l.Calls.length:Int),(i:Int),()),l,())) rfl U (fun i hi k hk=>?_) (fun k=>by dsimp only;exact Ok.N (Ok.s (decide_eq_true rfl)))
  try dsimp only
  have hx:=h.seen.fit _ (Qf hi)
  have hno:(l.h.take i).contains (O l.h i)=false:=by
   cases hc:(l.h.take i).contains (O l.h i)with
   |false=>rfl
   |true=>
    have:=Qle hi hc
    rw[Az h.seen.nodup]at this;simp at this
  refine Ok.P (Ok.j (Ok.atn hi (Ok.oe rin (Ok.bt (Qt.2 hx) (Ok.natn (Ok.L (Ok.atn hi (Ok.oe (Qec (by simp;omega)) (Ok.bf hno ?_)))))))))
  try dsimp only
  rw[Qa U];exact hk
abbrev lgA(l:D.F):Int×Y D.q×Y D.Q×Y D.m×Y D.e×Y D.Fc×Y D.W×Int×Int×Unit:=(l.FC,l.E.FL,l.E.k,l.E.o,l.E.f,l.b.t,l.b.j,l.FE,l.Fence,())
def Qde(l:D.F)(id:Int):D.Page×AH:=if hasV id l.G=true then(O l.G (posV id l.G),true)else(page0,false)
def Qo7{id:Int}(ha:AscP l.G)(hi:i<l.G.length)(h:(O l.G i).S=id):Qde l id=(O l.G i,true):=by
 subst h
 unfold Qde
 rw[iB (Qpd ha hi),QjV ha hi]
def QwR{id:Int}(h:∀i,i<l.G.length->(O l.G i).S≠id):Qde l id=(page0,false):=by
 unfold Qde
 rw[iA]
 intro hh
 have:=Uw hh
 exact h _ this.1 this.2
def QwQ{id:Int}(hp:∀p∈l.G,QA p)(ha:AscP l.G)(hl:l.G.length<=64):QgU 1000 l id=some (Qde l id):=by
 refine Ok.eq ?_
 unfold QgU
 refine Ok.scan2 l.G.length (fun i=>(id,(i:Int),())) (fun i=>decide ((O l.G i).S=id)) rfl U (fun i hi hq _ k=>?_) (fun i hi hq k hk=>?_) (fun hq k=>?_)
 .have hq:=BF hq
  refine Ok.P (Ok.atn hi (Ok.p hq (Ok.atn hi (Ok.oe (Qdu (hp _ (Qf hi))) (Ok.s ?_)))))
  rw[Qo7 ha hi hq]
 .have hq:=BN hq
  refine Ok.P (Ok.atn hi (Ok.n hq ?_))
  try dsimp only
  rw[Qa U];exact hk
 .refine Ok.N (Ok.s ?_)
  rw[QwR fun i hi=>BN (hq i hi)];rfl
def Qiz{id:Int}(hp:∀p∈l.G,QA p)(ha:AscP l.G)(hl:l.G.length<=64):Z6 1000 l id=some (Qde l id):=by
 refine Ok.eq ?_
 unfold Z6
 refine Ok.scan2 l.G.length (fun i=>(id,(i:Int),())) (fun i=>decide ((O l.G i).S=id)) rfl U (fun i hi hq _ k=>?_) (fun i hi hq k hk=>?_) (fun hq k=>?_)
 .have hq:=BF hq
  refine Ok.P (Ok.natn (Ok.lt hi (Ok.get hi (Ok.p hq (Ok.natn (Ok.lt hi (Ok.get hi (Ok.oe (Qdu (hp _ (Qf hi))) (Ok.TF (Ok.TF (Ok.TF (Ok.s ?_))))))))))))
  rw[Qo7 ha hi hq]
 .have hq:=BN hq
  refine Ok.P (Ok.natn (Ok.lt hi (Ok.get hi (Ok.n hq ?_))))
  try dsimp only
  rw[Qa U];exact hk
 .refine Ok.N (Ok.TF (Ok.TF (Ok.TF (Ok.s ?_))))
  rw[QwR fun i hi=>BN (hq i hi)];rfl
def LW.plens(h:LW M n l):∀p∈l.G,QA p:=fun p hp=>(h.page p hp).1.plen h.book
def Qd.plens(h:Qd M n l):∀p∈l.G,QA p:=h.w.plens
def QAn(ha:AscP l.G)(hl:l.G.length<=64)(hcl:l.Calls.length<=100000)(hi:i<l.G.length)(hid:p.S=(O l.G i).S)(hpl:QA p)(hle:(O l.G i).P.length<=p.P.length):
  XY 1000 l p=some (putV l i p):=by
 refine Ok.eq ?_
 unfold XY
 refine Ok.run l.G.length (fun j=>(((j:Int),()),lgA l,p,({ FC:=0,E:={ FL:=[],k:=[],o:=[],f:=[] },b:={ t:=[],j:=[] },G:=[],FE:=0,Fence:=0,h:=[],Calls:=[] }:D.F),(if j<=i then l.G else l.G.set i p),l.h,(if j<=i then l.Calls else l.Calls++QN p.S l.Fence (p.P.drop (O l.G i).P.length)),())) (by rw[iB (BM _),iB (BM _)];rfl) U (fun j hj k hk=>?_) (fun k=>?_)
 .try dsimp only[lgA]at hk |-
  have hlen:(if j<=i then l.G else l.G.set i p).length=l.G.length:=by split<;>simp
  have hj':j<(if j<=i then l.G else l.G.set i p).length:=U
  have hnth:j≠i->O (if j<=i then l.G else l.G.set i p) j=O l.G j:=fun hne=>by
   split
   .rfl
   .exact YC hne
  refine Ok.P (Ok.j (Ok.natn (Ok.lt hj' (Ok.get hj' ?_))))
  by_cases e:j=i
  .subst e
   rw[iB (AP _),iB (AP _)]
   rw[iA U,iA U]at hk
   have hc:=QoS (k:=(O l.G j).P.length) (f:=l.Fence) hpl hle
   have hcb:(QN p.S l.Fence (p.P.drop (O l.G j).P.length)).length<=40*(p.P.drop (O l.G j).P.length).length:=Qb7 fun s hs=>(hpl.pe s (Bw hs)).1
   have hst:=hpl.st
   rw[Bn]at hcb
   refine Ok.p hid.symm (Ok.natn (Ok.lt hi (Ok.get hi (Ok.oe hc (Ok.L (Ok.natn (Ok.lt hi (Ok.get hi ?_))))))))
   try dsimp only
   rw[Qa U]
   exact hk
  .rw[hnth e]
   have hne:(O l.G j).S≠p.S:=by
    rw[hid]
    rcases Cx e with h|h
    .have:=Qd8 ha h hi;omega
    .have:=Qd8 ha h hj;omega
   refine Ok.n hne ?_
   try dsimp only
   rw[Qa U]
   grind
 .try dsimp only[lgA]
  rw[iA U,iA U]
  refine Ok.NS (Ok.s ?_)
  rfl
def Qp7{id:Int}(h:LW M n l)(hpg:l.G.length<=9):Yl 1000 l id l.FC=some (if hasV id l.G=true then runI l (posV id l.G)else l):=by
 have hcl:=h.callsLe hpg
 refine Ok.eq ?_
 unfold Yl
 refine Ok.oe (Qiz h.plens h.asc U) ?_
 unfold Qde
 by_cases hh:hasV id l.G=true
 .rw[iB hh,iB hh]
  try dsimp only
  have hi:=Uw hh
  obtain⟨g1,g2⟩:=h.at hi.1
  obtain⟨q,r1,r2,r3,r4⟩:=QxV (c:=l.E) h.book QT.step g1 l.FC
  have hx:=Qp9 (c:=l.E) (now:=l.FC) h.book g1
  rw[r1]at hx
  refine Ok.f (Ok.oe (QzF h.cfg h.small h.book (g1.plen h.book)) ?_)
  rw[r1]
  try dsimp only
  refine Ok.NS (Ok.oe (QAn (i:=posV id l.G) h.asc U U hi.1 r4.id (r2.plen h.book) ?_) (Ok.s ?_))
  .obtain⟨m,hm⟩:=hx
   simp_all
  .unfold runI
   simp_all
 .rw[iA hh,iA hh]
  exact Ok.t (Ok.s rfl)
end
end
section
attribute [local irreducible] dueV stepV runV QJ answerV
section
def QtJ(hp:∀p∈l.G,QA p)(h1:l.G.length<=64)(h2:l.h.length<=1000)(h3:l.Calls.length<=100000):QbO 1000 l=some l:=by
 refine Ok.eq ?_
 unfold QbO
 refine Ok.run l.G.length (fun i=>(((i:Int),()),l,({ FC:=0,E:={ FL:=[],k:=[],o:=[],f:=[] },b:={ t:=[],j:=[] },G:=[],FE:=0,Fence:=0,h:=[],Calls:=[] }:D.F),l.G.take i,())) rfl U (fun i hi k hk=>?_) (fun k=>?_)
 .try dsimp only
  refine Ok.P (Ok.atn hi (Ok.oe (Qdu (hp _ (Qf hi))) (Ok.LS ?_)))
  try dsimp only
  rw[Qa U,Qn hi]
  exact hk
 .try dsimp only
  rw[Ad]
  exact Ok.N (Ok.L (Ok.L (Ok.s rfl)))
def QzT{α:Type}[AK α]{L:Y α}{k:Nat}{x:α}(h:k<L.length):(L.take (k+1)).set k x=L.take k++[x]:=by
 rw[<-Qn h,List.set_append_right _ _ (by rw[Ae];omega)]
 simp[CD (EL h)]
def Qza{P:D.Page}{L:Y D.Page}{k:Nat}(hk:k<=L.length):
  (List.take (k+1) (L++[P])++List.take ((L++[P]).length - (k+1)) (List.drop k (L++[P]))).set k P=L.take k++P::L.drop k:=by
 have hl:(L++[P]).length=L.length+1:=Ob
 rw[List.set_append_left _ _ (by rw[Ae,hl];omega),QzT (by rw[hl];omega),CZ hk,List.drop_append_of_le_length hk,hl,show L.length+1 - (k+1)=(L.drop k).length by simp,EB,Ax]
 rfl
def QBM{id:Int}(ha:AscP L)(hk:k<=L.length)(h1:∀j,j<k->(O L j).S<id)(h2:k<L.length->id<=(O L k).S):posV id L=k:=by
 rcases Cu (posV id L) k with h|h|h
 .have:=Qmt ha (id:=id) (AP _) (show posV id L<L.length by omega)
  have:=h1 _ h;omega
 .exact h
 .have:=Qmu (l:=L) h
  have:=h2 (by have:=Qdj (id:=id) (l:=L);omega);omega
def QBF(h:Qd M n l)(hpg:l.G.length<=8)(ho:OpIn o)(hk:o.a=1):WN 1000 l o l.FC (hasV o.Page l.G)=some (opV l o):=by
 have hnow:=h.now;have htop:=h.top;have hpl:=h.book.plen;have hop:=ho.page
 have hsl:=h.seen.len;have hcl:=h.callsLe U
 refine Ok.eq ?_
 unfold WN opV
 rw[iB hk]
 refine Ok.J (fun g=>Ok.s ?_) (fun g=>?_)
 .rw[iB g]
 rw[iA (by rw[g];simp)]
 refine Ok.N ?_
 rw[iA U]
 refine Ok.oe (Qpn h.book) ?_
 unfold newV
 by_cases g1:o.Page<1
 .rw[iB g1,iA (fun hh=>by have:=Qt.1 hh.1;omega)]
  exact Ok.PS (Ok.s rfl)
 rw[iA g1,iB ⟨Qt.2 U,Qt.2 U⟩]
 by_cases g2:0<=o.W/\o.W<(l.b.j.length:Int)
 .rw[iB g2,iB (Qt.2 U)]
  try dsimp only
  refine Ok.NS ?_
  obtain⟨hi1,hi2,hi3⟩:=h.open (o:=o) g U g2 U
  have hple:=Qdj (id:=o.Page) (l:=l.G)
  refine Ok.TG (fun y=>y=((l.FC,((posV o.Page l.G:Nat):Int),()),lgA l,({ FC:=0,E:={ FL:=[],k:=[],o:=[],f:=[] },b:={ t:=[],j:=[] },G:=[],FE:=0,Fence:=0,h:=[],Calls:=[] }:D.F),newP o.Page o.W l.FC,l.G,l.h,l.Calls,())) (fun y hy=>?_) (fun zG hJ=>?_)
  .subst hy
   try dsimp only[lgA]
   obtain⟨P,hP⟩:∃P,newP o.Page o.W l.FC=P:=⟨_,rfl⟩
   have hPid:P.S=o.Page:=by subst hP;rfl
   rw[hP]at hi1 hi2 hi3 |-
   have hins:insP l.G P=l.G.take (posV o.Page l.G)++P::l.G.drop (posV o.Page l.G):=by unfold insP;rw[hPid]
   have hle1:(l.G++[P]).length=l.G.length+1:=Ob
   try dsimp only
   rw[Qa U]
   refine Ok.LS (Ok.natn (Ok.L (Ok.natn (Ok.L (Ok.ck rfl (Ok.ck rfl (Ok.L (Ok.L (Ok.natn (Ok.lt ?_ (Ok.get ?_ ?_)))))))))))
   .grind
   .grind
   rw[Qza hple,<-hins]
   have hrun:=Qp7 (id:=P.S) hi1.w (by show(insP l.G P).length<=9;rw[hins];simp;omega)
   have hpos:posV P.S (insP l.G P)=posV o.Page l.G:=by
    have:=QjV hi1.asc hi2
    simp_all
   have hhas:hasV P.S (insP l.G P)=true:=by
    have:=Qpd hi1.asc hi2
    simp_all
   rw[iB hhas,hpos]at hrun
   exact Ok.oe hrun (Ok.s rfl)
  .have hfound:∀k:Nat,k<=l.G.length->(∀j,j<k->(O l.G j).S<o.Page)->(k<l.G.length->o.Page<=(O l.G k).S)->Ok (zG ((l.FC,(k:Int),()),lgA l,({ FC:=0,E:={ FL:=[],k:=[],o:=[],f:=[] },b:={ t:=[],j:=[] },G:=[],FE:=0,Fence:=0,h:=[],Calls:=[] }:D.F),newP o.Page o.W l.FC,l.G,l.h,l.Calls,())) _:=fun k h1 h2 h3=>hJ _ (by rw[QBM h.asc h1 h2 h3])
   refine Ok.scan2 l.G.length (fun i=>(l.FC,(i:Int),())) (fun i=>!decide ((O l.G i).S<o.Page)) rfl U (fun i hi hq hj k=>?_) (fun i hi hq k hk=>?_) (fun hq k=>?_)
   .refine Ok.j ?_
    dsimp only
    refine Ok.P (Ok.natn (Ok.lt hi (Ok.get hi (Ok.n ?_ (hfound i U (fun j hj'=>by simpa using hj j hj') (fun _=>by simpa using hq))))))
    have:¬(O l.G i).S<o.Page:=by simpa using hq
    exact this
   .have hlt:(O l.G i).S<o.Page:=by simpa using hq
    refine Ok.j ?_
    dsimp only
    refine Ok.P (Ok.natn (Ok.lt hi (Ok.get hi (Ok.p hlt ?_))))
    try dsimp only
    rw[Qa U];exact hk
   .refine Ok.j ?_
    dsimp only
    exact(Ok.N (hfound l.G.length (AP _) (fun j hj'=>by simpa using hq j hj') (fun hh=>absurd hh (Cl _))))
 .rw[iA g2,iA (fun hh=>g2 (by have:=Qt.1 hh;omega))]
  exact Ok.PS (Ok.s rfl)
def QcK(h:(answerV b p a).2=0):(answerV b p a).1=p\/(answerV b p a).1=XI p a:=by
 revert h
 unfold answerV
 grind
def Qtm(h:Qd M n l)(hi:i<l.G.length):(O (runI l i).G i).S=(O l.G i).S:=by
 rw[QdV h hi,iB rfl]
 exact(Qgg h.book QT.step (h.at hi).1).id
def QzE(h:Qd M n l)(hpg:l.G.length<=9)(hk:o.a=4)(ha:YY o.Z=true):Wg 1000 l o.Z l.FC=some (opV l o):=by
 have hcl:=h.callsLe hpg
 refine Ok.eq ?_
 unfold Wg opV
 rw[iA U,iA U,iA U,iB hk]
 refine Ok.oe (Qiz h.plens h.asc U) ?_
 unfold Qde
 by_cases hh:hasV o.Z.Page l.G=true
 .rw[iB hh,iB hh]
  try dsimp only
  have hi:=Uw hh
  have hrun:=Qp7 (id:=o.Z.Page) h.w hpg
  rw[iB hh]at hrun
  refine Ok.f (Ok.oe hrun ?_)
  have h2:=h.run hi.1
  have hkp:=Xv (l:=l) (i:=posV o.Z.Page l.G)
  obtain⟨i,hie⟩:∃i,posV o.Z.Page l.G=i:=⟨_,rfl⟩
  rw[hie]at hi h2 hkp |-
  have hid2:(O (runI l i).G i).S=o.Z.Page:=(Qtm h hi.1).trans hi.2
  have hi2:i<(runI l i).G.length:=U
  have hcl2:=h2.callsLe U
  refine Ok.oe (Qiz h2.plens h2.asc U) ?_
  rw[Qo7 h2.asc hi2 hid2]
  try dsimp only
  obtain⟨a,hae⟩:∃a:D.Z,a=D.Z.mk o.Z.S o.Z.Page o.Z.Q o.Z.a o.Z.Fw l.FC:=⟨_,rfl⟩
  rw[<-hae]
  have hpl2:=h2.plens _ (Qf hi2)
  refine Ok.oe (Qss h2.book hpl2) ?_
  rw[hkp.2.2.1]
  have hz:=QcK (b:=l.b) (p:=O (runI l i).G i) (a:=a)
  have hAl:=hpl2.answerV (a:=a) h.book
  obtain⟨A,e,hA⟩:∃A e,answerV l.b (O (runI l i).G i) a=(A,e):=⟨_,_,rfl⟩
  rw[hA]at hz hAl |-
  try dsimp only at hz hAl |-
  by_cases he:e=0
  .rw[iB he]
   have hq:=hz he
   have hpid:A.S=(O (runI l i).G i).S:=by
    rcases hq with rfl|rfl
    .rfl
    .exact Qjs.1
   have hpst:(O (runI l i).G i).P.length<=A.P.length:=by
    rcases hq with rfl|rfl
    .exact AP _
    .obtain⟨m,hm⟩:=QhB (p:=O (runI l i).G i) (a:=a)
     rw[hm];simp
   refine Ok.N (Ok.oe (QAn (i:=i) h2.asc U U hi2 hpid hAl hpst) (Ok.s rfl))
  .rw[iA he]
   exact Ok.p he (Ok.s rfl)
 .rw[iA hh,iA hh]
  exact Ok.t (Ok.s rfl)
def QBb(h:Ze n c)(hn:n<48)(hx:0<=s/\s<2->Qb3 x):QiY 1000 c s x=some (if 0<=s/\s<2 then(QlT c s x,0)else({ FL:=[],k:=[],o:=[],f:=[] },3)):=by
 have hsl:=h.slen
 refine Ok.eq ?_
 unfold QiY
 refine Ok.j (Ok.oe (Qfq h U) (Ok.NS (Ok.ite (fun g=>Ok.s ?_) (fun g=>Ok.ite (fun g2=>Ok.s ?_) (fun g2=>?_)))))
 .rw[iA U]
 .rw[iA U]
 .rw[iB U]
  try dsimp only
  have hso:=h.sched _ (Qf (l:=c.f) (i:=s.toNat) U)
  have hlen:=hso.len
  refine Ok.at U U (Ok.L (Ok.LS (Ok.oe (v:=QlT c s x) ?_ (Ok.oe (Qfq (Qo1 h (hx U) U) U) (Ok.NS (Ok.s rfl))))))
  refine Ok.eq ?_
  unfold QpN
  refine Ok.L (Ok.nat U (Ok.E (Ok.G (Ok.s ?_))))
  rfl
def apply0W(h:LW M n l)(hpg:l.G.length<=9)(hkd:o.a=2\/o.a=3)(hof:0<=o.Fence/\o.Fence<=1048576):Yk 1000 l o l.FC=some (opV l o):=by
 have hfe:=h.fence
 refine Ok.eq ?_
 unfold Yk
 refine Ok.oe (Qiz h.plens h.asc U) ?_
 have hf2:(Qde l o.Page).2=hasV o.Page l.G:=by
  unfold Qde
  grind
 obtain⟨fp,fo,hfe2⟩:∃fp fo,Qde l o.Page=(fp,fo):=⟨_,_,rfl⟩
 rw[hfe2]at hf2 |-
 try dsimp only at hf2 |-
 subst hf2
 refine Ok.j (Ok.N (Ok.ite (fun k2=>?_) (fun k2=>Ok.P ?_)))
 all_goals have k1:¬o.a=1:=U
 .unfold opV
  rw[iA k1,iB k2,Qc U]
  refine Ok.ite (fun g=>Ok.s ?_) (fun g=>Ok.s ?_)
  .rw[iA U]
  .rw[iB U]
 .have k3:o.a=3:=U
  unfold opV
  rw[iA k1,iA k2,iB k3]
  refine Ok.TG (fun y=>y=((l.FC,hasV o.Page l.G,()),lgA l,o,({ FC:=0,E:={ FL:=[],k:=[],o:=[],f:=[] },b:={ t:=[],j:=[] },G:=[],FE:=0,Fence:=0,h:=[],Calls:=[] }:D.F),fp,l.G,l.h,l.Calls,())/\o.Region=l.FE/\o.Fence=l.Fence) (fun y hy=>?_) (fun zG hJ=>Ok.ite (fun g=>Ok.s ?_) (fun g=>Ok.ite (fun g2=>Ok.s ?_) (fun g2=>hJ _ ⟨rfl,U,U⟩)))
  .obtain⟨rfl,g1,g2⟩:=hy
   try dsimp only[lgA]
   rw[iB ⟨g1,g2⟩]
   refine Ok.ncnd (fun hh=>Ok.s ?_) (fun hh=>?_)
   .simp_all
   .rw[iB hh]
    have hfp:fp=O l.G (posV o.Page l.G):=by
     unfold Qde at hfe2
     simp_all
    subst hfp
    have hrun:=Qp7 (id:=o.Page) h U
    rw[iB hh]at hrun
    refine Ok.oe Qgw ?_
    obtain⟨pg,hpg2⟩:∃pg,O l.G (posV o.Page l.G)=pg:=⟨_,rfl⟩
    rw[hpg2]
    obtain⟨kk,hkk⟩:∃kk:Int,(if pg.p=2 then(-1:Int)else pg.FB)=kk:=⟨_,rfl⟩
    rw[hkk]
    have hw:Y2 pg l.FC=((dueV pg).2 && decide ((dueV pg).1<=l.FC)):=rfl
    refine Ok.TG (fun y=>y=((l.FC,(dueV pg).1,(dueV pg).2,kk,()),lgA l,o,({ FC:=0,E:={ FL:=[],k:=[],o:=[],f:=[] },b:={ t:=[],j:=[] },G:=[],FE:=0,Fence:=0,h:=[],Calls:=[] }:D.F),l.G,l.h,l.Calls,())) (fun y hy=>?_) (fun zG hJ=>Ok.ite (fun g=>hJ _ (by rw[<-hkk,iB g])) (fun g=>hJ _ (by rw[<-hkk,iA g])))
    subst hy
    try dsimp only[lgA]
    refine Ok.j (Ok.J (fun g3=>Ok.ite (fun g4=>Ok.s ?_) (fun g4=>Ok.ite (fun g5=>Ok.s ?_) (fun g5=>Ok.oe hrun (Ok.s ?_)))) (fun g3=>Ok.s ?_))
    .rw[iA (fun hx=>by rw[hw,g3]at hx;have:=BF (show decide ((dueV pg).1<=l.FC)=true by simpa using hx.1);omega)]
    .rw[iA (fun hx=>g5 hx.2.symm)]
    .simp_all
    .simp_all
  .rw[iA U]
  .rw[iA U]
def Qv3(h:Qd M n l)(hn:n<48)(hpg:l.G.length<=8)(ho:OpIn o):Yk 1000 l o l.FC=some (opV l o):=by
 have hfe:=h.fence;have hse:=h.seen.len;have hkd:=ho.kind;have hof:=ho.fence
 by_cases hk23:o.a=2\/o.a=3
 .exact apply0W h.w U hk23 hof
 refine Ok.eq ?_
 unfold Yk
 refine Ok.oe (Qiz h.plens h.asc U) ?_
 have hf2:(Qde l o.Page).2=hasV o.Page l.G:=by
  unfold Qde
  grind
 obtain⟨fp,fo,hfe2⟩:∃fp fo,Qde l o.Page=(fp,fo):=⟨_,_,rfl⟩
 rw[hfe2]at hf2 |-
 try dsimp only at hf2 |-
 subst hf2
 refine Ok.j (Ok.ite (fun k1=>?_) (fun k1=>Ok.ite (fun k2=>absurd (.inl k2) hk23) (fun k2=>Ok.ite (fun k3=>absurd (.inr k3) hk23) (fun k3=>Ok.ite (fun k4=>?_) (fun k4=>Ok.ite (fun k5=>?_) (fun k5=>absurd hkd U))))))
 .exact Ok.oe (QBF h hpg ho k1) (Ok.s rfl)
 .exact Ok.oe (QzE h U k4 (ho.answer k4).1) (Ok.s rfl)
 .unfold opV
  rw[iA k1,iA k2,iA k3,iA k4]
  have hkeep:∀i,(Zw l i).FC=l.FC/\(Zw l i).E=l.E/\(Zw l i).b=l.b/\(Zw l i).FE=l.FE/\(Zw l i).Fence=l.Fence/\(Zw l i).h=l.h/\(Zw l i).G.length=l.G.length:=fun i=>YF
  refine Ok.run l.G.length (fun i=>((l.FC,(i:Int),()),lgA (Zw l i),o,({ FC:=0,E:={ FL:=[],k:=[],o:=[],f:=[] },b:={ t:=[],j:=[] },G:=[],FE:=0,Fence:=0,h:=[],Calls:=[] }:D.F),(Zw l i).G,(Zw l i).h,(Zw l i).Calls,())) rfl U (fun i hi k hk=>?_) (fun k=>?_)
  .try dsimp only[lgA]
   have hki:=hkeep i
   have hi2:i<(Zw l i).G.length:=U
   have hL:=h.runs (k:=i) U
   have hrun:=Qp7 (id:=(O (Zw l i).G i).S) hL.w U
   rw[iB (Qpd hL.asc hi2),QjV hL.asc hi2,hki.1]at hrun
   refine Ok.P (Ok.natn (Ok.lt hi2 (Ok.get hi2 (Ok.oe hrun ?_))))
   try dsimp only
   rw[Qa U]
   exact hk
  .try dsimp only[lgA]
   have hki:=hkeep l.G.length
   refine Ok.N ?_
   have hed:=QBb (c:=l.E) (s:=o.e) h.cfg hn (ho.edit k5)
   refine Ok.oe (v:=if 0<=o.e/\o.e<2 then(QlT l.E o.e o.s,0)else({ FL:=[],k:=[],o:=[],f:=[] },3)) ?_ ?_
   .simp_all
   .by_cases hs:0<=o.e/\o.e<2
    .rw[iB hs,iB hs]
     exact Ok.NS (Ok.s rfl)
    .rw[iA hs,iA hs]
     exact Ok.PS (Ok.s rfl)
def OpIn.valid(ho:OpIn o):QdL 1000 o=some true:=by
 refine Ok.eq ?_
 unfold QdL
 refine Ok.oe rin (Ok.bt (Qt.2 ho.id) (Ok.oe rin (Ok.bt (Qt.2 ho.kind) (Ok.oe rin (Ok.bt (Qt.2 ho.region) (Ok.oe rin (Ok.bt (Qt.2 ho.fence) (Ok.oe rin (Ok.bt (Qt.2 ho.at_) (Ok.oe rin (Ok.bt (Qt.2 ho.page) (Ok.oe rin (Ok.bt (Qt.2 ho.k) ?_)))))))))))))
 exact Ok.ite (fun g=>Ok.s rfl) (fun g=>Ok.oe QoD (Ok.bt (ho.answer U).1 (Ok.s rfl)))
def Qv4(h:Qd M n l)(hn:n<48)(hpg:l.G.length<=8)(ho:OpIn o)(ht:max l.FC o.At<=M - 20000)(hl:l.h.length<256):Qf2 1000 l o=some (ZK l o):=by
 have hcl:=h.callsLe U
 refine Ok.eq ?_
 unfold Qf2 ZK
 refine Ok.j (Ok.oe (QcN h.w U) (Ok.t (Ok.oe ho.valid (Ok.t ?_))))
 try dsimp only
 refine Ok.oe (QtJ h.plens U U U) (Ok.oe (Qec U) (Ok.J (fun g=>Ok.s ?_) (fun g=>?_)))
 .rw[iB g]
 .rw[iA (by rw[g];simp)]
  have h2:=h.see ho ht g hl
  refine Ok.N (Ok.LS (Ok.oe (Qv3 (l:={ l with FC:=max l.FC o.At,h:=l.h++[o.S] }) h2 hn hpg ho) (Ok.s rfl)))
end
end
section
open Go AM
attribute [local irreducible] dueV stepV runV QJ answerV
section
def Ids(m:Int)(l:D.F):Prop:=∀p∈l.G,p.S<=m
def Ids.mono(h:Ids m l)(hk:m<=k):Ids k l:=fun p hp=>Cr (h p hp) hk
def QBp{L:Y D.Page}(ha:AscP L){k:Nat}(h:∀p∈L,1<=p.S/\p.S<=(k:Int)):L.length<=k:=by
 have hlo:∀i,i<L.length->(i:Int)+1<=(O L i).S:=by
  intro i
  induction i with
  |zero=>intro hi;have:=(h _ (Qf hi)).1;omega
  |succ i ih=>
   intro hi
   have:=ih U
   have:=Qd8 ha (show i<i+1 by omega) hi
   omega
 rcases BC k L.length with h1|h1
 .have h2:=hlo (L.length - 1) U
  have h3:=(h _ (Qf (l:=L) (i:=L.length - 1) U)).2
  omega
 .exact h1
def Qd.small3{n:Nat}{M:Int}{l:D.F}{k:Nat}(h:Qd M n l)(hi:Ids (k:Int) l):l.G.length<=k:=
 QBp h.asc fun p hp=>⟨(h.page p hp).1.id.1,hi p hp⟩
def Ids.put(h:Ids m l)(hi:i<l.G.length)(hp:p.S=(O l.G i).S):Ids m (putV l i p):=fun q hq=>by
 rcases Cy hq with hq|rfl
 .exact h q hq
 .rw[hp];exact h _ (Qf hi)
def Ids.run(h:Ids m l)(hl:Qd M n l)(hi:i<l.G.length):Ids m (runI l i):=by
 rw[hl.runEq hi]
 exact h.put hi (Qgg hl.book QT.step (hl.at hi).1).id
def Ids.runs(h:Ids m l)(hl:Qd M n l):∀{k:Nat},k<=l.G.length->Ids m (Zw l k)
 |0,_=>h
 |k+1,hk=>by
  rw[Zw]
  exact(Ids.runs h hl (k:=k) U).run (hl.runs U) (by have:=(YF (l:=l) (k:=k)).2.2.2.2.2.2;omega)
def Ids.op(h:Ids m l)(hl:Qd M n l)(ho:OpIn o)(hp:o.a=1->o.Page<=m):Ids m (opV l o).1:=by
 unfold opV
 split
 .rename_i k1
  split
  .exact h
  .rename_i hh
   split
   .exact h
   .split
    .exact h
    .split
     .rename_i h1 h2 h3
      have hop:=ho.page
      have hi:=hl.open (o:=o) (by simpa using hh) U h3 (by have:=hl.len;omega)
      have hid:Ids m { l with G:=insP l.G (newP o.Page o.W l.FC) }:=fun q hq=>by
       rcases QiF.1 hq with rfl|hq
       .exact hp k1
       .exact h q hq
      exact hid.run hi.1 hi.2.1
     .exact h
 .split
  .split
   .exact h
   .exact h
  .split
   .split
    .split
     .rename_i hh
      generalize (if (O l.G (posV o.Page l.G)).p=2 then(-1:Int)else(O l.G (posV o.Page l.G)).FB)=kk
      split
      .exact h.run hl (Uw hh).1
      .exact h
     .exact h
    .exact h
   .split
    .split
     .rename_i hh
      have hi:=(Uw hh).1
      split
      .rename_i he
       have h2:=hl.run hi
       have hk:=Xv (l:=l) (i:=posV o.Z.Page l.G)
       refine(h.run hl hi).put U ?_
       rcases QcK he with e|e
       .rw[e]
       .rw[e];exact Qjs.1
      .exact h.run hl hi
     .exact h
    .split
     .exact h.runs hl (AP _)
     .exact h.runs hl (AP _)
def Ids.apply(h:Ids m l)(hl:Qd M n l)(ho:OpIn o)(ht:max l.FC o.At<=M - 20000)(hs:l.h.length<256)(hp:o.a=1->o.Page<=m):Ids m (ZK l o).1:=by
 unfold ZK
 split
 .exact h
 .rename_i hse
  exact Ids.op (l:={ l with FC:=max l.FC o.At,h:=l.h++[o.S] }) h (hl.see ho ht (by simpa using hse) hs) ho hp
def Qzv:(opV l o).1.FC=l.FC/\(opV l o).1.h=l.h:=by
 unfold opV
 have h1:=fun i=>Xv (l:=l) (i:=i)
 have h2:=fun k=>YF (l:=l) (k:=k)
 split
 .split
  .exact⟨rfl,rfl⟩
  .split
   .exact⟨rfl,rfl⟩
   .split
    .exact⟨rfl,rfl⟩
    .split
     .exact⟨(Xv (l:={ l with G:=insP l.G (newP o.Page o.W l.FC) })).1,(Xv (l:={ l with G:=insP l.G (newP o.Page o.W l.FC) })).2.2.2.2.2.1⟩
     .exact⟨rfl,rfl⟩
 .split
  .grind
  .split
   .grind
   .split
    .split
     .split
      .exact⟨(h1 _).1,(h1 _).2.2.2.2.2.1⟩
      .simp_all
     .exact⟨rfl,rfl⟩
    .grind
def Qst:(ZK l o).1.h.length<=l.h.length+1/\((ZK l o).1.FC=l.FC\/(ZK l o).1.FC=max l.FC o.At):=by
 unfold ZK
 split
 .simp_all
 .have:=Qzv (l:={ l with FC:=max l.FC o.At,h:=l.h++[o.S] }) (o:=o)
  simp_all
def QvE(h:Qd M n l)(hpg:l.G.length<=9):Ok (Vc 1000 l t) fun w=>w.length<=9/\∀s∈w,∃p∈l.G,s.K=p.S:=by
 unfold Vc
 refine Ok.j ?_
 refine Ok.loop (fun m x=>∃(i:Nat) (w:Y D.R),x=((t,(i:Int),()),l,w,())/\i<=l.G.length/\w.length<=i/\(∀s∈w,∃p∈l.G,s.K=p.S)/\m=l.G.length - i) (m:=l.G.length) U ⟨0,[],rfl,U,Ob,Ob,rfl⟩ ?_
 rintro m x ⟨i,w,rfl,i1,i2,i3,rfl⟩ K hK
 try dsimp only
 refine Ok.j (Ok.ite (fun hi=>?_) (fun hi=>Ok.s ⟨U,i3⟩))
 have hlt:i<l.G.length:=U
 refine Ok.oe (QcN h.w hpg) (Ok.t ?_)
 try dsimp only
 have next:∀w:Y D.R,w.length<=i+1->(∀s∈w,∃p∈l.G,s.K=p.S)->Ok (K ((t,X ((i:Int)+1),()),l,w,())) fun w=>w.length<=9/\∀s∈w,∃p∈l.G,s.K=p.S:=fun w h1 h2=>by
  try dsimp only
  rw[Qa U]
  exact hK _ _ U ⟨i+1,w,rfl,U,h1,h2,rfl⟩
 refine Ok.j (Ok.atn hlt (Ok.oe Qgw (Ok.J (fun g=>Ok.ite (fun g2=>Ok.atn hlt (Ok.LS (next _ (by simp;omega) ?_))) (fun g2=>next w U i3)) (fun g=>next w U i3))))
 exact VU i3 ⟨_,Qf hlt,rfl⟩
def QAm{id t:Int}(hL:L.length<=500)(hd:Qz L d)(h:Qd M n l)(hids:Ids 3 l)(hid:1<=id/\id<=1000)(ht:0<=t/\t<=8589934592):
  Ok (QaQ 1000 d l id t) fun r=>Qz L r.2/\OpIn r.1/\r.1.S=id/\r.1.At=t/\(r.1.a=1->1<=r.1.Page/\r.1.Page<=3)/\(r.1.a=4->r.1.Z.Q<4):=by
 have hpl:=h.book.plen;have hfe:=h.fence;have hse:=h.seen.len;have how:=h.owner
 have hpg:=h.small3 (k:=3) hids
 unfold QaQ
 refine Ok.opt (nx hL hd U U) fun⟨a0,d1⟩ ⟨h1,l1,u1⟩=>?_
 try dsimp only at h1 l1 u1 |-
 refine Ok.opt (nx hL h1 U U) fun⟨a2,d3⟩ ⟨h3,l3,u3⟩=>?_
 try dsimp only at h3 l3 u3 |-
 refine Ok.opt (nx hL h3 U U) fun⟨a4,d5⟩ ⟨h5,l5,u5⟩=>?_
 try dsimp only at h5 l5 u5 |-
 rw[Qc (x:=1+a0) U,Qc (x:=1+a4) U]
 have noEdit:∀{P:Prop},¬(1+a0=5)->1+a0=5->P:=fun h1 h2=>absurd h2 h1
 refine Ok.j (Ok.ite (fun k1=>?_) (fun k1=>Ok.ite (fun k2=>?_) (fun k2=>Ok.ite (fun k3=>?_) (fun k3=>Ok.ite (fun k4=>?_) (fun k4=>Ok.ite (fun k5=>?_) (fun k5=>?_))))))
 .refine Ok.opt (nx hL h5 U U) fun⟨a10,d11⟩ ⟨h11,l11,u11⟩=>?_
  try dsimp only at h11 l11 u11 |-
  rw[Qc (x:=(l.b.j.length:Int)+1) U,Qc (x:=(l.b.j.length:Int)+1 - a10) U]
  refine Ok.opt (nx hL h11 U U) fun⟨a12,d13⟩ ⟨h13,l13,u13⟩=>Ok.s ⟨h13,?_,rfl,rfl,fun _=>by dsimp only;omega,fun e=>absurd (show 1+a0=4 from e) U⟩
  exact⟨by dsimp only;omega,by dsimp only;omega,by dsimp only;omega,by dsimp only;omega,ht,by dsimp only;omega,by dsimp only;omega,fun e=>absurd (show 1+a0=4 from e) U,fun e=>absurd (show 1+a0=5 from e) U⟩
 .refine Ok.opt (Qce hL h5 Ob Ob) fun⟨a14,d15⟩ ⟨h15,m15⟩=>?_
  try dsimp only at h15 m15 |-
  simp only[AY,BG,or_false]at m15
  try dsimp only
  rw[Qc (x:=l.Fence+a14) U]
  refine Ok.s ⟨h15,?_,rfl,rfl,fun e=>absurd (show 1+a0=1 from e) k1,fun e=>absurd (show 1+a0=4 from e) U⟩
  exact⟨by dsimp only;omega,by dsimp only;omega,by dsimp only;omega,by dsimp only;omega,ht,by dsimp only;omega,by dsimp only;omega,fun e=>absurd (show 1+a0=4 from e) U,fun e=>absurd (show 1+a0=5 from e) U⟩
 ·have hop:∀o:D.Op,OpIn o->o.S=id->o.At=t->o.a=3->∀d,Qz L d->Ok (some (o,d)) fun r=>Qz L r.2/\OpIn r.1/\r.1.S=id/\r.1.At=t/\(r.1.a=1->1<=r.1.Page/\r.1.Page<=3)/\(r.1.a=4->r.1.Z.Q<4):=fun o h1 h2 h3 h4 d hd=>Ok.s ⟨hd,h1,h2,h3,fun e=>absurd (show o.a=1 from e) U,fun e=>absurd (show o.a=4 from e) U⟩
  refine Ok.TG (fun y=>∃(d:D.y) (z o:D.Op),y=((t,1+a4,()),d,l,z,o,())/\Qz L d/\OpIn o/\o.S=id/\o.At=t/\o.a=3) (fun y hy=>?_) (fun zG hJ=>?_)
  .obtain⟨d,z,o,rfl,j1,j2,j3,j4,j5⟩:=hy
   try dsimp only
   refine Ok.TG (fun y=>∃(d:D.y) (z o:D.Op),y=((t,1+a4,()),d,l,z,o,())/\Qz L d/\OpIn o/\o.S=id/\o.At=t/\o.a=3) (fun y hy=>?_) (fun zG hJ=>?_)
   .obtain⟨d,z,o,rfl,j1,j2,j3,j4,j5⟩:=hy
    try dsimp only
    refine Ok.TG (fun y=>∃(d:D.y) (z o:D.Op),y=((),l,z,o,d,())/\Qz L d/\OpIn o/\o.S=id/\o.At=t/\o.a=3) (fun y hy=>?_) (fun zG hJ=>?_)
    .obtain⟨d,z,o,rfl,j1,j2,j3,j4,j5⟩:=hy
     try dsimp only
     refine Ok.oe (QwQ h.plens h.asc U) ?_
     unfold Qde
     by_cases hh:hasV o.Page l.G=true
     .rw[iB hh]
      try dsimp only
      have hi:=Uw hh
      obtain⟨g1,_⟩:=h.at hi.1
      have hnx:=(Yb (g1.check h.book)).next
      have hcn:=Yv (g1.polOK h.book)
      refine Ok.t (Ok.ite (fun g=>Ok.s ⟨j1,?_,j3,j4,fun e=>absurd (show o.a=1 from e) U,fun e=>absurd (show o.a=4 from e) U⟩) (fun g=>Ok.s ⟨j1,?_,j3,j4,fun e=>absurd (show o.a=1 from e) U,fun e=>absurd (show o.a=4 from e) U⟩))
      .exact⟨j2.id,j2.kind,j2.region,j2.fence,j2.at_,j2.page,by dsimp only;omega,j2.answer,j2.edit⟩
      .exact⟨j2.id,j2.kind,j2.region,j2.fence,j2.at_,j2.page,by dsimp only;omega,j2.answer,j2.edit⟩
     .rw[iA hh]
      exact Ok.f (hop _ j2 j3 j4 j5 _ j1)
    .refine Ok.opt (QvE h U) fun w ⟨w1,w2⟩=>?_
     refine Ok.ite (fun g=>?_) (fun g=>hJ _ ⟨_,_,_,rfl,j1,⟨j2.id,j2.kind,j2.region,j2.fence,j2.at_,by dsimp only;omega,j2.k,j2.answer,j2.edit⟩,j3,j4,j5⟩)
     refine Ok.opt (nx hL j1 U U) fun⟨a36,d37⟩ ⟨h37,l37,u37⟩=>?_
     try dsimp only at h37 l37 u37 |-
     refine Ok.at l37 u37 (hJ _ ⟨_,_,_,rfl,h37,⟨j2.id,j2.kind,j2.region,j2.fence,j2.at_,?_,j2.k,j2.answer,j2.edit⟩,j3,j4,j5⟩)
     obtain⟨p,hp,e⟩:=w2 _ (Qf (l:=w) (i:=a36.toNat) U)
     have:=(h.page p hp).1.id
     grind
   .refine Ok.opt (nx hL j1 U U) fun⟨a40,d41⟩ ⟨h41,_⟩=>Ok.ite (fun g=>?_) (fun g=>hJ _ ⟨_,_,_,rfl,h41,j2,j3,j4,j5⟩)
    try dsimp only at h41
    refine Ok.opt (nx hL h41 U U) fun⟨a42,d43⟩ ⟨h43,l43,u43⟩=>hJ _ ⟨_,_,_,rfl,h43,⟨j2.id,j2.kind,j2.region,?_,j2.at_,j2.page,j2.k,j2.answer,j2.edit⟩,j3,j4,j5⟩
    grind
  .refine Ok.opt (nx hL h5 U U) fun⟨a45,d46⟩ ⟨h46,_⟩=>Ok.ite (fun g=>?_) (fun g=>?_)
   .try dsimp only at h46
    refine Ok.opt (nx hL h46 U U) fun⟨a47,d48⟩ ⟨h48,l48,u48⟩=>hJ _ ⟨_,_,_,rfl,h48,?_,rfl,rfl,k3⟩
    try dsimp only at l48 u48
    exact⟨by dsimp only;omega,by dsimp only;omega,by dsimp only;omega,by dsimp only;omega,ht,by dsimp only;omega,by dsimp only;omega,fun e=>absurd (show 1+a0=4 from e) U,fun e=>absurd (show 1+a0=5 from e) U⟩
   .refine hJ _ ⟨_,_,_,rfl,h46,?_,rfl,rfl,k3⟩
    exact⟨by dsimp only;omega,by dsimp only;omega,by dsimp only;omega,by dsimp only;omega,ht,by dsimp only;omega,by dsimp only;omega,fun e=>absurd (show 1+a0=4 from e) U,fun e=>absurd (show 1+a0=5 from e) U⟩
 .refine Ok.opt (nx hL h5 U U) fun⟨a49,d50⟩ ⟨h50,l50,u50⟩=>?_
  try dsimp only at h50 l50 u50 |-
  rw[Qc (x:=1+a49) U]
  refine Ok.opt (Qv1 hL h50) fun⟨a,d52⟩ ⟨h52,ha,e1,e2,e3⟩=>Ok.s ⟨h52,?_,rfl,rfl,fun e=>absurd (show 1+a0=1 from e) k1,fun _=>ha.pers.2⟩
  try dsimp only at ha e1 e2 e3
  exact⟨by dsimp only;omega,by dsimp only;omega,by dsimp only;omega,by dsimp only;omega,ht,by dsimp only;omega,by dsimp only;omega,fun _=>⟨ha.valid U U U,fun e=>(ha.arg3 e).2⟩,fun e=>absurd (show 1+a0=5 from e) U⟩
 .refine Ok.opt (nx hL h5 U U) fun⟨a53,d54⟩ ⟨h54,l54,u54⟩=>?_
  try dsimp only at h54 l54 u54 |-
  refine Ok.opt (Qmj hL h54) fun⟨x,d56⟩ ⟨h56,hx⟩=>Ok.s ⟨h56,?_,rfl,rfl,fun e=>absurd (show 1+a0=1 from e) k1,fun e=>absurd (show 1+a0=4 from e) U⟩
  try dsimp only at hx
  exact⟨by dsimp only;omega,by dsimp only;omega,by dsimp only;omega,by dsimp only;omega,ht,by dsimp only;omega,by dsimp only;omega,fun e=>absurd (show 1+a0=4 from e) k4,fun _ _=>hx⟩
 .omega
structure QC1 (k:Nat) (l:D.F):Prop where
 inv:Qd 1000000 (2+k) l
 ids:Ids 3 l
 seen:l.h.length<=k
 now:l.FC<=864000+700*(k:Int)
def Qu2(hc:Ze 2 c)(hb:QU b):Qd 1000000 2 { FC:=0,E:=c,b:=b,G:=[],FE:=-1,Fence:=0,h:=[],Calls:=[] }:=
 ⟨U,by dsimp only;omega,U,hc,hb,Ob,List.Pairwise.nil,Ob,by dsimp only;omega,Ob,⟨Ob,List.nodup_nil,Ob⟩,Ob,Ob⟩
def QBD(hc:Ze n c)(hn:n<=48)(hb:QU b):QmH 1000 c b=some ({ FC:=0,E:=c,b:=b,G:=[],FE:=-1,Fence:=0,h:=[],Calls:=[] },0):=by
 refine Ok.eq ?_
 unfold QmH
 exact Ok.oe (QqE hc hn hb) (Ok.NS (Ok.s rfl))
end
end
section
attribute [local irreducible] dueV stepV runV QJ answerV
section
def seeV(l:D.F)(o:D.Op):D.F:={ l with FC:=max l.FC o.At,h:=l.h++[o.S] }
def Qju(hs:l.h.contains o.S=false):ZK l o=opV (seeV l o) o:=by
 unfold ZK;rw[hs];rfl
def ansP(c:D.E)(b:D.b)(p:D.Page)(a:D.Z)(now:Int):D.Page:=
 if (answerV b (runV c b p now).1 { a with At:=now }).2=0 then(answerV b (runV c b p now).1 { a with At:=now }).1 else(runV c b p now).1
def Qu3(h:Qd M n l)(hk:o.a=4):(opV l o).1.E=l.E/\(opV l o).1.b=l.b/\
  (opV l o).1.G=if hasV o.Z.Page l.G=true then l.G.set (posV o.Z.Page l.G) (ansP l.E l.b (O l.G (posV o.Z.Page l.G)) o.Z l.FC)else l.G:=by
 unfold opV
 rw[iA U,iA U,iA U,iB hk]
 split
 .rename_i g
  obtain⟨g1,g2⟩:=Uw g
  have hpg:=QdV h g1 (j:=posV o.Z.Page l.G)
  rw[iB rfl]at hpg
  have hpages:(runI l (posV o.Z.Page l.G)).G=l.G.set (posV o.Z.Page l.G) (runV l.E l.b (O l.G (posV o.Z.Page l.G)) l.FC).1:=by
   rw[h.runEq g1];rfl
  split
  .rename_i g3
   rw[hpg]at g3
   refine⟨Xv.2.1,Xv.2.2.1,?_⟩
   show List.set _ _ _=_
   rw[hpages,List.set_set,<-hpages,hpg]
   unfold ansP
   rw[iB g3]
  .rename_i g3
   rw[hpg]at g3
   refine⟨Xv.2.1,Xv.2.2.1,?_⟩
   show(runI l _).G=_
   rw[hpages]
   unfold ansP
   rw[iA g3]
 .exact⟨rfl,rfl,rfl⟩
end
end
section
open Go AM
attribute [local irreducible] dueV stepV runV QJ answerV
section
def QBz:∀i,i<2->QbW 1000 (O Qin i)=some true:=forall2 (by kernel_rfl) (by kernel_rfl)
def QBy:∀i,i<3->QbW 1000 (O Qnj i)=some true:=forall3 (by kernel_rfl) (by kernel_rfl) (by kernel_rfl)
def QwK(hb:QU b)(hi:i<b.t.length):ZB 1000 (i:Int) b=some false:=by
 have htl:=hb.tlen
 have hone:∀j,j<b.t.length->VI 1000 (j:Int) b=some (O Qin j):=fun j hj=>by
  refine Ok.eq ?_
  unfold VI
  exact Ok.atn hj (Ok.TF (Ok.s (hb.tnm hj)))
 refine Ok.eq ?_
 unfold ZB
 refine Ok.run2 i (fun k=>((i:Int),(i:Int),(k:Int),())) rfl U (fun k hk K hK=>?_) (fun K=>by dsimp only;exact Ok.N (Ok.TF (Ok.s rfl)))
 try dsimp only
 refine Ok.P (Ok.oe (hone k U) (Ok.oe (hone i hi) (Ok.n (QqD i U k hk) ?_)))
 try dsimp only
 rw[Qa U];exact hK
def QwJ(hb:QU b)(hi:i<b.j.length):ZC 1000 (i:Int) b=some false:=by
 have htl:=hb.plen
 have hone:∀j,j<b.j.length->VJ 1000 (j:Int) b=some (O Qnj j):=fun j hj=>by
  refine Ok.eq ?_
  unfold VJ
  exact Ok.atn hj (Ok.TF (Ok.s (hb.pnm hj)))
 refine Ok.eq ?_
 unfold ZC
 refine Ok.run2 i (fun k=>((i:Int),(i:Int),(k:Int),())) rfl U (fun k hk K hK=>?_) (fun K=>by dsimp only;exact Ok.N (Ok.TF (Ok.s rfl)))
 try dsimp only
 refine Ok.P (Ok.oe (hone k U) (Ok.oe (hone i hi) (Ok.n (QtB i U k hk) ?_)))
 try dsimp only
 rw[Qa U];exact hK
def QBZ(h:Ze n c)(ht:Qqt t):QgJ 1000 c t.r=some 0:=by
 have hpl:=h.plen;have hml:=ht.len
 refine Ok.eq ?_
 unfold QgJ
 refine Ok.N (Ok.run2 (t.r.length - 1) (fun k=>(t.r,((k+1:Nat):Int),())) rfl U (fun k hk K hK=>?_) (fun K=>?_))
 .try dsimp only
  have:=Qjv ht.asc (show k<k+1 by omega) (show k+1<t.r.length by omega)
  refine Ok.P (Ok.A ?_)
  rw[show X (((k+1:Nat):Int) - 1)=(k:Int)by rw[Qc U];omega]
  refine Ok.A (Ok.N ?_)
  try dsimp only
  rw[Qa U];exact hK
 .try dsimp only
  rw[hpl]
  have h1:=ht.mem _ (Qf (l:=t.r) (i:=0) U)
  have h2:=ht.mem _ (Qf (l:=t.r) (i:=t.r.length - 1) U)
  refine Ok.N (Ok.j (Ok.at U U ?_))
  rw[show X (((4:Nat):Int) - 1)=3 from rfl,show X ((t.r.length:Int) - 1)=((t.r.length - 1:Nat):Int)by rw[Qc U];omega]
  refine Ok.oe pIn (Ok.p ⟨h1.1,by have:=h1.2;show O t.r (0:Int).toNat<=3;simp only[Int.toNat_zero];omega⟩ (Ok.A (Ok.oe pIn (Ok.P (Ok.s rfl)))))
def QzP(h:Ze n c)(hb:QU b)(hs:StepOK' b.t.length s):Qep 1000 c b s=some 0:=by
 have hpl:=h.plen;have hsl:=h.slen;have htl:=hb.tlen;have hw:=hs.wait;have htn:=hs.len
 have hsz:W8 1000 c b=some ⟨4,2,(b.t.length:Int)⟩:=by unfold W8;rw[hpl,hsl];rfl
 refine Ok.eq ?_
 unfold Qep
 refine Ok.oe pIn (Ok.np U (Ok.N (Ok.oe hsz ?_)))
 try dsimp only
 refine Ok.run2 s.Fk.length (fun i=>(s.Fk,(s.Fk.length:Int),(i:Int),())) rfl U (fun i hi K hK=>?_) (fun K=>by dsimp only;exact Ok.N (Ok.s rfl))
 try dsimp only
 have hx:=hs.target _ (Qf hi)
 have h1:=hx.lo;have h2:=hx.person;have h3:=hx.sched;have h4:=hx.team
 refine Ok.P (Ok.j (Ok.atn hi (Ok.oe pIn (Ok.p (by have:=hx.kind;omega) ?_))))
 have next:Ok (K ((s.Fk,(s.Fk.length:Int),X ((i:Int)+1),()),(4,2,(b.t.length:Int),()),())) (·=0):=by rw[Qa U];exact hK
 rcases hx.kind with hk|hk|hk
 .have:=h2 hk
  refine Ok.P (Ok.oe pIn (Ok.p ⟨h1,by rw[Qc U];omega⟩ next))
 .have:=h3 hk
  refine Ok.N (Ok.P (Ok.oe pIn (Ok.p ⟨h1,by rw[Qc U];omega⟩ next)))
 .have:=h4 hk
  refine Ok.N (Ok.N (Ok.P (Ok.oe pIn (Ok.p ⟨h1,by rw[Qc U];omega⟩ next))))
def QyN(h:Ze n c)(hn:n<=48)(hb:QU b):QcU 1000 c b=some 0:=by
 have htl:=hb.tlen;have hpl:=hb.plen
 refine Ok.eq ?_
 unfold QcU
 refine Ok.oe (QkT h hn) (Ok.NS (Ok.j (Ok.N (Ok.N ?_))))
 refine Ok.run b.t.length (fun i=>((b.t,(b.t.length:Int),(i:Int),()),c,b,())) rfl U (fun i hi K hK=>?_) (fun K=>?_)
 .try dsimp only
  have ht:=hb.team _ (Qf hi)
  refine Ok.P (Ok.atn hi (Ok.oe (by rw[hb.tnm hi];exact QBz i U) (Ok.nt rfl (Ok.oe (QwK hb hi) (Ok.f (Ok.oe (QBZ h ht) (Ok.NS ?_)))))))
  try dsimp only
  rw[Qa U];exact hK
 .try dsimp only
  refine Ok.N (Ok.run b.j.length (fun i=>(((b.j.length:Int),(i:Int),()),c,b,())) rfl U (fun i hi K hK=>?_) (fun K=>by dsimp only;exact Ok.N (Ok.s rfl)))
  try dsimp only
  have ht:=hb.pol _ (Qf hi)
  have hml:=ht.len;have hrp:=ht.rep
  refine Ok.P (Ok.oe (v:=0) ?_ (Ok.NS ?_))
  .refine Ok.eq ?_
   unfold QfQ
   refine Ok.atn hi (Ok.oe (by rw[hb.pnm hi];exact QBy i U) (Ok.nt rfl (Ok.oe (QwJ hb hi) (Ok.f (Ok.N (Ok.N (Ok.oe pIn (Ok.np U ?_))))))))
   refine Ok.run (O b.j i).Steps.length (fun k=>(((O b.j i).Steps,(((O b.j i).Steps.length:Nat):Int),(k:Int),()),c,b,())) rfl U (fun k hk K2 hK2=>?_) (fun K2=>by dsimp only;exact Ok.N (Ok.s rfl))
   try dsimp only
   refine Ok.P (Ok.atn hk (Ok.oe (QzP h hb (ht.step _ (Qf hk))) (Ok.NS ?_)))
   try dsimp only
   rw[Qa U];exact hK2
  .try dsimp only
   rw[Qa U];exact hK
def oin:We fu x lo hi=some (inV x lo hi):=by
 unfold We inV
 by_cases h1:lo<=x<;>by_cases h2:x<=hi<;>simp[cd,AM.J,h1,h2]
def QzJ(h:QnS L 256):QgE 1000 L=some true:=by
 have hl:=h.len
 refine Ok.eq ?_
 unfold QgE
 refine Ok.run L.length (fun i=>((L,L,((L.length:Nat):Int),(i:Int),()),())) rfl U (fun i hi k hk=>?_) (fun k=>by dsimp only;exact Ok.N (Ok.s (decide_eq_true U)))
 try dsimp only
 have hx:=h.fit _ (Qf hi)
 have hno:(L.take i).contains (O L i)=false:=by
  cases hc:(L.take i).contains (O L i)with
  |false=>rfl
  |true=>
   have:=Qle hi hc
   rw[Az h.nodup]at this;simp at this
 refine Ok.P (Ok.j (Ok.atn hi (Ok.oe oin (Ok.bt (Qt.2 hx) (Ok.natn (Ok.L (Ok.oe (Qd9 (by simp;omega)) (Ok.bf hno ?_))))))))
 try dsimp only
 rw[Qa U];exact hk
structure DelC (p0:Y D.Call) (q:D.Call->AH) (w j:Nat) (a:Y D.Call):Prop where
 len:a.length=p0.length
 wj:w<=j/\j<=p0.length
 done:a.take w=(p0.take j).filter q
 rest:∀k,j<=k->O a k=O p0 k
def QlZ{L:Y D.Call}{q:D.Call->AH}{i:Nat}(hi:i<=L.length)(h:∀j,j<i->q (O L j)=true):(L.take i).filter q=L.take i:=by
 refine EY.2 fun x hx=>?_
 obtain⟨k,hk,rfl⟩:=BX hx
 rw[Ae]at hk
 have:=h k U
 simpa [O,AQ,AU (show k<L.length by omega)]using this
def Qub{L:Y D.Call}{j k:Nat}{x:D.Call}(hj:j<L.length):O (L.set j x) k=if k=j then x else O L k:=by
 by_cases e:k=j
 .subst e;rw[iB rfl,Q3 hj]
 .rw[iA e,YC e]
def QuO(hi:i<p0.length)(h:∀j,j<i->q (O p0 j)=true)(hx:q (O p0 i)=false):DelC p0 q i (i+1) p0:=by
 refine⟨rfl,U,?_,fun k _=>rfl⟩
 rw[<-Qn hi,B6,QlZ U h]
 simp[hx]
def QwH(h:DelC p0 q w j a)(hj:j<p0.length)(hx:q (O a j)=true):DelC p0 q (w+1) (j+1) (a.set w (O a j)):=by
 have h1:=h.wj
 have h2:=h.len
 refine⟨by simp[h.len],U,?_,fun k hk=>?_⟩
 .rw[h.rest j (AP _)]at hx |-
  rw[<-Qn hj,B6,<-h.done,<-Qn (l:=a.set w (O p0 j)) (by simp;omega),Qub U,iB rfl,E0 U]
  simp[hx]
 .rw[Qub U,iA U];exact h.rest k U
def QwI(h:DelC p0 q w j a)(hj:j<p0.length)(hx:q (O a j)=false):DelC p0 q w (j+1) a:=by
 have h1:=h.wj
 refine⟨h.len,U,?_,fun k hk=>h.rest k U⟩
 rw[h.rest j (AP _)]at hx
 rw[<-Qn hj,B6,<-h.done]
 simp[hx]
def Qxs:UG 1000 x p=some (decide (x.Page≠p.S)):=by
 unfold UG
 rw[Vg]
def QBI(hl:L.length<=900):Ok (QW 1000 L p) fun r=>List.drop r.1 (List.take r.2.1 r.2.2)=ownC p.S L:=by
 have hown:∀{x:D.Call},decide (x.Page≠p.S)=!(decide (x.Page=p.S)):=fun{x}=>by by_cases e:x.Page=p.S<;>simp[e]
 unfold QW
 have hidx:Ok (QZ 1000 L p) fun r=>(r = -1/\(∀j,j<L.length->decide ((O L j).Page=p.S)=true))\/∃i:Nat,r=(i:Int)/\i<L.length/\decide ((O L i).Page=p.S)=false/\∀j,j<i->decide ((O L j).Page=p.S)=true:=by
  unfold QZ
  refine Ok.scan2 L.length (fun i=>(((L.length:Nat):Int),(i:Int),())) (fun i=>!decide ((O L i).Page=p.S)) rfl U (fun i hi hq hj k=>?_) (fun i hi hq k hk=>?_) (fun hq k=>?_)
  .refine Ok.P (Ok.natn (Ok.lt hi (Ok.get hi (Ok.oe Qxs ?_))))
   rw[hown]
   exact Ok.bt hq (Ok.TF (Ok.TF (Ok.s (.inr ⟨i,rfl,hi,by simpa using hq,fun j hj'=>by simpa using hj j hj'⟩))))
  .refine Ok.P (Ok.natn (Ok.lt hi (Ok.get hi (Ok.oe Qxs ?_))))
   rw[hown]
   refine Ok.bf hq ?_
   try dsimp only
   rw[Qa U];exact hk
  .exact Ok.N (Ok.TF (Ok.TF (Ok.s (.inl ⟨rfl,fun j hj=>by simpa using hq j hj⟩))))
 refine Ok.opt hidx fun r hr=>?_
 rcases hr with⟨rfl,hall⟩|⟨i,rfl,hi,hx,hj⟩
 .refine Ok.p rfl (Ok.TF (Ok.s ?_))
  try dsimp only
  have:=QlZ (q:=fun z=>decide (z.Page=p.S)) (AP _) hall
  rw[Ad]at this |-
  rw[Cb]
  exact this.symm
 .refine Ok.N ?_
  try dsimp only
  rw[Qa U]
  refine Ok.loop (fun q x=>∃(w j:Nat) (a:Y D.Call),x=(((w:Int),(j:Int),()),p,a,())/\DelC L (fun z=>decide (z.Page=p.S)) w j a/\q=L.length - j) (m:=L.length - (i+1)) U ⟨i,i+1,L,rfl,QuO hi hj hx,rfl⟩ ?_
  rintro q x ⟨w,j,a,rfl,hinv,rfl⟩ K hK
  have h1:=hinv.wj
  have h2:=hinv.len
  try dsimp only
  refine Ok.ite (fun hlt=>?_) (fun hge=>?_)
  .refine Ok.j (Ok.natn (Ok.E (Ok.G (Ok.oe Qxs ?_))))
   rw[hown,EZ]
   refine Ok.J (fun hq=>?_) (fun hq=>?_)
   .refine Ok.natn (Ok.E (Ok.G ?_))
    try dsimp only
    rw[Qa U,Qa U]
    exact hK _ _ U ⟨w+1,j+1,_,rfl,QwH hinv U hq,rfl⟩
   .try dsimp only
    rw[Qa U]
    exact hK _ _ U ⟨w,j+1,a,rfl,QwI hinv U hq,rfl⟩
  .have ej:j=L.length:=U
   have hd:=hinv.done
   rw[ej,Ad]at hd
   refine Ok.natn (Ok.L (Ok.L (Ok.L (Ok.natn (Ok.LS (Ok.TF (Ok.s ?_)))))))
   try dsimp only
   rw[Cb,Ax,CZ (by simp;omega),Ca,C8]
   exact hd
def Qoe[AK α]{A B:Y α}:O (A++B) (A.length+z)=O B z:=by
 simp[O,AQ,BP]
def Qwt(hpl:QA p)(hC:zH.length<=900)(h1:zH.map unf=QN p.S 0 p.P)(h2:zH.Pairwise fun x y=>x.Fence<=y.Fence)(h3:∀c∈zH,0<=c.Fence/\c.Fence<=f):Qek 1000 p zH f=some true:=by
 have hst:=hpl.st
 have hlen:zH.length=(QN p.S 0 p.P).length:=by rw[<-h1,AZ]
 have hnth:∀k,k<zH.length->unf (O zH k)=O (QN p.S 0 p.P) k:=fun k hk=>by
  rw[<-h1]
  simp[O,AQ,AU hk]
 obtain⟨lf,hlf⟩:∃lf:Nat->Int,∀k,lf k=if k=0 then 0 else(O zH (k - 1)).Fence:=⟨fun k=>_,fun k=>rfl⟩
 have hlow:∀k,k<zH.length->lf k<=(O zH k).Fence/\(O zH k).Fence<=f:=fun k hk=>by
  have hf:=h3 _ (Qf hk)
  refine⟨?_,hf.2⟩
  rw[hlf]
  split
  .exact hf.1
  .have:=CO.1 h2 (k - 1) k U hk U
   simpa [O,AQ,AU hk,AU (show k - 1<zH.length by omega)]using this
 refine Ok.eq ?_
 unfold Qek
 refine Ok.run p.P.length (fun j=>((zH,f,(((QN p.S 0 (p.P.take j)).length:Nat):Int),lf (QN p.S 0 (p.P.take j)).length,p.P,(p.P.length:Int),(j:Int),()),p,())) (by rw[hlf];rfl) U (fun j hj k hk=>?_) (fun k=>?_)
 .try dsimp only
  refine Ok.P (Ok.atn hj ?_)
  have hts:p.P.take (j+1)=p.P.take j++[O p.P j]:=(Qn hj).symm
  have hsp:p.P=p.P.take j++(O p.P j::p.P.drop (j+1)):=by rw[<-Qfw hj,B2]
  have hpe:=(hpl.pe _ (Qf hj)).1
  obtain⟨s,hs⟩:∃s,O p.P j=s:=⟨_,rfl⟩
  rw[hs]at hts hsp hpe |-
  obtain⟨base,hbase⟩:∃base,(QN p.S 0 (p.P.take j)).length=base:=⟨_,rfl⟩
  have hall:QN p.S 0 p.P=QN p.S 0 (p.P.take j)++(s.k.map (fun x=>D.Call.mk p.S s.K s.At x 0)++QN p.S 0 (p.P.drop (j+1))):=by
   conv=>lhs;rw[hsp]
   rw[Qdb]
   rfl
  have hbl:base+s.k.length<=zH.length:=by rw[hlen,hall,<-hbase];simp
  have hat:∀z,z<s.k.length->O (QN p.S 0 p.P) (base+z)=D.Call.mk p.S s.K s.At (O s.k z) 0:=fun z hz=>by
   rw[hall,<-hbase,Qoe,QfJ (by simpa using hz)]
   simp[O,AQ,hz]
  try dsimp only at hk
  rw[hts,Qfo,Ac,AZ,hbase]at hk
  rw[hbase]
  refine Ok.run s.k.length (fun z=>((zH,f,((base+z:Nat):Int),lf (base+z),p.P,(p.P.length:Int),(j:Int),s.k,(s.k.length:Int),(z:Int),()),p,s,())) rfl U (fun z hz k2 hk2=>?_) (fun k2=>?_)
  .try dsimp only
   have hlt:base+z<zH.length:=U
   have hlw:=hlow _ hlt
   have hun:=hnth _ hlt
   rw[hat z hz]at hun
   refine Ok.P (Ok.atn hz (Ok.j (Ok.N (Ok.atn hlt (Ok.oe oin (Ok.bt (Qt.2 hlw) (Ok.atn hlt (Ok.atn hlt (Ok.n ?_ ?_)))))))))
   .obtain⟨cc,hcc⟩:∃cc,O zH (base+z)=cc:=⟨_,rfl⟩
    rw[hcc]at hun |-
    obtain⟨c1,c2,c3,c4,c5⟩:=cc
    simp only[unf,D.Call.mk.injEq]at hun
    grind
   .try dsimp only
    refine Ok.atn hlt ?_
    try dsimp only
    rw[Qa U,Qa U]
    grind
  .try dsimp only
   refine Ok.N ?_
   try dsimp only
   rw[Qa U]
   exact hk
 .try dsimp only
  rw[Ad]
  exact Ok.N (Ok.s (Az (by rw[hlen])))
def QqM(h:L.length<=1000):X2 1000 L=some L:=by unfold X2;exact Yh U
def Qpj(h:LW M n l)(hpg:l.G.length<=9):XJ 1000 l=some true:=by
 have htop:=h.top;have hnow:=h.now;have how:=h.owner;have hfe:=h.fence;have hse:=h.seen.len;have hcl:=h.callsLe hpg
 refine Ok.eq ?_
 unfold XJ
 refine Ok.j (Ok.oe oin (Ok.bt (Qt.2 U) (Ok.N (Ok.oe oin (Ok.bt (Qt.2 how) (Ok.oe oin (Ok.bt (Qt.2 U) (Ok.oe (QzJ h.seen) (Ok.t ?_)))))))))
 try dsimp only
 refine Ok.oe (QyN h.cfg h.small h.book) (Ok.p rfl (Ok.oe (v:=true) ?_ (Ok.t (Ok.s rfl))))
 refine Ok.eq ?_
 unfold QhU
 have hsle:∀i,sumC (l.G.take i) (fun p=>(ownC p.S l.Calls).length)<=468*i:=fun i=>by
  have:=Qts (l:=l.G.take i) (f:=fun p=>(ownC p.S l.Calls).length) (m:=468) fun p hp=>by
   show(ownC p.S l.Calls).length<=468
   unfold ownC
   grind
  grind
 refine Ok.run l.G.length (fun i=>((((sumC (l.G.take i) (fun p=>(ownC p.S l.Calls).length):Nat):Int),l.G,(l.G.length:Int),(i:Int),()),l,())) rfl U (fun i hi k hk=>?_) (fun k=>?_)
 .try dsimp only
  have hm:=Qf hi
  obtain⟨g1,g2⟩:=h.page _ hm
  have gt:=h.told _ hm
  have hs1:=hsle i
  refine Ok.P (Ok.atn hi ?_)
  have hasc:0<i->(O l.G (i - 1)).S<(O l.G i).S:=fun h0=>Qd8 h.asc U hi
  try dsimp only at hk
  rw[<-Qn hi,Qsa]at hk
  obtain⟨p,hp⟩:∃p,O l.G i=p:=⟨_,rfl⟩
  rw[hp]at g1 g2 gt hk hasc |-
  have hpl:=g1.plen h.book
  have hol:(ownC p.S l.Calls).length<=468:=by unfold ownC;exact Nat.le_trans (List.length_filter_le _ _) hcl
  refine Ok.TG (fun y=>y=((((sumC (l.G.take i) (fun p=>(ownC p.S l.Calls).length):Nat):Int),l.G,(l.G.length:Int),(i:Int),()),l,p,())) (fun y hy=>?_) (fun zG hJ=>?_)
  .subst hy
   try dsimp only
   refine Ok.oe (QqM U) (Ok.opt (QBI (p:=p) U) fun⟨r0,r1,r2⟩ hr=>?_)
   try dsimp only at hr |-
   rw[hr]
   refine Ok.oe (Qwt hpl U gt.same gt.up gt.fit) (Ok.f ?_)
   try dsimp only
   rw[Qa U,Qc U]
   exact hk
  .have tail:Ok (V (Yp 1000 l.b p) fun a13=>AM.J a13 (AM.J (decide (l.FC<p.FT)) (some false) (zG ((((sumC (l.G.take i) (fun p=>(ownC p.S l.Calls).length):Nat):Int),l.G,(l.G.length:Int),(i:Int),()),l,p,()))) (some false)) (·=true):=
    Ok.oe (QkS h.book hpl) (Ok.bt (g1.check h.book) (Ok.N (hJ _ rfl)))
   by_cases h0:0<i
   .refine Ok.P ?_
    rw[show X ((i:Int) - 1)=((i - 1:Nat):Int)by rw[Qc U];omega]
    have:=hasc h0
    exact Ok.A (Ok.N tail)
   .exact Ok.N tail
 .try dsimp only
  rw[Ad,h.callsN]
  exact Ok.N (Ok.s (Az rfl))
end
end
section
attribute [local irreducible] dueV stepV runV QJ answerV
section
def QpB{id:Int}:∀{L K:Y D.Page},L.map D.Page.S=K.map D.Page.S->posV id L=posV id K
 |[],[],_=>rfl
 |[],_::_,h=>by simp at h
 |_::_,[],h=>by simp at h
 |y::r,z::s,h=>by
  simp only[AR,Cs]at h
  simp only[posV,h.1,QpB h.2]
def QAf{L K:Y D.Page}(hl:L.length=K.length)(h:∀i,i<L.length->(O L i).S=(O K i).S):L.map D.Page.S=K.map D.Page.S:=by
 refine Ec (by simpa using hl) fun i h1 h2=>?_
 simp only[AZ]at h1 h2
 have:=h i h1
 simpa [O,AQ,AU h1,AU h2]using this
def Qy4{id:Int}(hl:L.length=K.length)(h:∀i,i<L.length->(O L i).S=(O K i).S):hasV id L=hasV id K:=by
 have e:=QpB (id:=id) (QAf hl h)
 unfold hasV
 grind
def Quf:O (insP L p) j=if j<posV p.S L then O L j else if j=posV p.S L then p else O L (j - 1):=by
 have hp:=Qdj (id:=p.S) (l:=L)
 have htl:(L.take (posV p.S L)).length=posV p.S L:=by simp;omega
 unfold insP
 split
 .rename_i g
  rw[QfJ U,QbH g]
 .rename_i g
  obtain⟨k,rfl⟩:∃k,j=(L.take (posV p.S L)).length+k:=⟨j - posV p.S L,U⟩
  rw[Qoe,htl]
  cases k with
  |zero=>rw[iB U,Qej]
  |succ k=>
   rw[iA U,QbG,Que]
   congr 1
structure Alike (M:Int) (n:Nat) (l x:D.F):Prop where
 li:Qd M n l
 xi:Qd M n x
 cfg:x.E=l.E
 book:x.b=l.b
 now:x.FC<=l.FC
 len:x.G.length=l.G.length
 page:∀i,i<l.G.length->(O x.G i).S=(O l.G i).S/\(runV l.E l.b (O x.G i) l.FC).1=(runV l.E l.b (O l.G i) l.FC).1
def Alike.has(h:Alike M n l x){id:Int}:hasV id x.G=hasV id l.G/\posV id x.G=posV id l.G:=by
 have e:∀i,i<x.G.length->(O x.G i).S=(O l.G i).S:=fun i hi=>(h.page i (by rw[<-h.len];exact hi)).1
 exact⟨Qy4 h.len e,QpB (QAf h.len e)⟩
def Alike.wide(h:Alike M n l x)(hn:n<48):Alike M (n+1) l x:=⟨h.li.wide hn,h.xi.wide hn,h.cfg,h.book,h.now,h.len,h.page⟩
def Qzu(hk:o.a=5):(opV l o).1.G=(Zw l l.G.length).G/\(opV l o).1.b=l.b/\(opV l o).1.E=(if 0<=o.e/\o.e<2 then QlT l.E o.e o.s else l.E):=by
 unfold opV
 rw[iA U,iA U,iA U,iA U]
 split
 .exact⟨rfl,YF.2.2.1,rfl⟩
 .exact⟨rfl,YF.2.2.1,YF.2.1⟩
def Alike.runL(h:Alike M n l x)(hi:i<l.G.length):Alike M n (runI l i) x:=by
 obtain⟨k1,k2,k3,k4,k5,k6,k7⟩:=Xv (l:=l) (i:=i)
 refine⟨h.li.run hi,h.xi,by rw[k2];exact h.cfg,by rw[k3];exact h.book,by rw[k1];exact h.now,by rw[k7];exact h.len,fun j hj=>?_⟩
 rw[k7]at hj
 rw[k1,k2,k3]
 by_cases e:j=i
 .subst e
  refine⟨by rw[Qtm h.li hi];exact(h.page j hj).1,?_⟩
  rw[QdV h.li hi,iB rfl,Qov (c:=l.E) h.li.book QT.step (Al _) (h.li.at hi).1]
  exact(h.page j hj).2
 .rw[QdV h.li hi,iA e]
  exact h.page j hj
def Alike.runR(h:Alike M n l x)(hi:i<l.G.length)(hnow:x.FC=l.FC):Alike M n l (runI x i):=by
 obtain⟨k1,k2,k3,k4,k5,k6,k7⟩:=Xv (l:=x) (i:=i)
 have hx:i<x.G.length:=by rw[h.len];exact hi
 refine⟨h.li,h.xi.run hx,by rw[k2];exact h.cfg,by rw[k3];exact h.book,by rw[k1];exact h.now,by rw[k7];exact h.len,fun j hj=>?_⟩
 by_cases e:j=i
 .subst e
  refine⟨by rw[Qtm h.xi hx];exact(h.page j hj).1,?_⟩
  have hq:QM QT M l.b (O x.G j):=by
   have:=(h.xi.at hx).1
   rw[h.book]at this;exact this
  rw[QdV h.xi hx,iB rfl,h.cfg,h.book,hnow,Qov (c:=l.E) h.li.book QT.step (Al _) hq]
  exact(h.page j hj).2
 .rw[QdV h.xi hx,iA e]
  exact h.page j hj
def Qk1:(insP L p).length=L.length+1:=by
 have:=Qdj (id:=p.S) (l:=L)
 unfold insP;rw[List.length_append,List.length_cons,List.length_take,List.length_drop];omega
def Alike.open(h:Alike M n l x)(hn:n<48)(ho:OpIn o)(hk:o.a=1)(hnow:x.FC=l.FC):Alike M (n+1) (opV l o).1 (opV x o).1:=by
 have hw:=h.wide hn
 obtain⟨e1,e2⟩:=h.has (id:=o.Page)
 have same:∀e:Int,opV l o=(l,e)->opV x o=(x,e)->Alike M (n+1) (opV l o).1 (opV x o).1:=fun e g1 g2=>by rw[g1,g2];exact hw
 by_cases g1:hasV o.Page l.G=true
 .exact same 4 (by unfold opV;rw[iB hk,iB g1]) (by unfold opV;rw[iB hk,e1,iB g1])
 by_cases g2:l.G.length=64
 .exact same 5 (by unfold opV;rw[iB hk,iA g1,iB g2]) (by unfold opV;rw[iB hk,e1,iA g1,h.len,iB g2])
 by_cases g3:o.Page<1
 .exact same 1 (by unfold opV;rw[iB hk,iA g1,iA g2,iB g3]) (by unfold opV;rw[iB hk,e1,iA g1,h.len,iA g2,iB g3])
 by_cases g4:0<=o.W/\o.W<(l.b.j.length:Int)
 case neg=>exact same 3 (by unfold opV;rw[iB hk,iA g1,iA g2,iA g3,iA g4]) (by unfold opV;rw[iB hk,e1,iA g1,h.len,iA g2,iA g3,h.book,iA g4])
 have f1:opV l o=(runI { l with G:=insP l.G (newP o.Page o.W l.FC) } (posV o.Page l.G),0):=by unfold opV;rw[iB hk,iA g1,iA g2,iA g3,iB g4]
 have f2:opV x o=(runI { x with G:=insP x.G (newP o.Page o.W l.FC) } (posV o.Page l.G),0):=by unfold opV;rw[iB hk,e1,iA g1,h.len,iA g2,iA g3,h.book,iB g4,e2,hnow]
 have hlen:=h.li.len
 obtain⟨i1,i2,i3⟩:=h.li.open (o:=o) (by simpa using g1) ⟨U,ho.page.2⟩ g4 U
 have hx4:0<=o.W/\o.W<(x.b.j.length:Int):=by rw[h.book];exact g4
 obtain⟨j1,j2,j3⟩:=h.xi.open (o:=o) (by rw[e1];simpa using g1) ⟨U,ho.page.2⟩ hx4 (by rw[h.len];omega)
 have eP:newP o.Page o.W x.FC=newP o.Page o.W l.FC:=by rw[hnow]
 rw[eP]at j1
 have hP:(newP o.Page o.W l.FC).S=o.Page:=rfl
 have hA:Alike M n { l with G:=insP l.G (newP o.Page o.W l.FC) } { x with G:=insP x.G (newP o.Page o.W l.FC) }:=by
  refine⟨i1,j1,h.cfg,h.book,h.now,by show(insP _ _).length=(insP _ _).length;rw[Qk1,Qk1,h.len],fun i hi=>?_⟩
  replace hi:i<l.G.length+1:=by have:i<(insP l.G (newP o.Page o.W l.FC)).length:=hi;rw[Qk1]at this;exact this
  show(O (insP x.G _) i).S=(O (insP l.G _) i).S/\(runV l.E l.b (O (insP x.G _) i) l.FC).1=(runV l.E l.b (O (insP l.G _) i) l.FC).1
  have hpos:=Qdj (id:=o.Page) (l:=l.G)
  rw[Quf,Quf,hP,e2]
  by_cases q1:i<posV o.Page l.G
  .rw[iB q1,iB q1];exact h.page i U
  .rw[iA q1,iA q1]
   by_cases q2:i=posV o.Page l.G
   .simp_all
   .rw[iA q2,iA q2];exact h.page (i - 1) U
 have hB:=hA.runR (i:=posV o.Page l.G) i2 hnow
 have hC:=hB.runL (i:=posV o.Page l.G) i2
 rw[f1,f2]
 exact hC.wide hn
end
end
section
open Go AM
attribute [local irreducible] dueV stepV runV QJ answerV
section
def QiL(p:D.Page):Int:=if p.p=2 then -1 else p.FB
def Qvt(h:Qd M n l)(hi:i<l.G.length):(runI l i).G=l.G.set i (runV l.E l.b (O l.G i) l.FC).1/\Y2 (O (runI l i).G i) l.FC=false:=by
 have e:(runI l i).G=l.G.set i (runV l.E l.b (O l.G i) l.FC).1:=by rw[h.runEq hi];rfl
 refine⟨e,?_⟩
 rw[e,Q3 hi]
 exact(QeG h.book QT.step (h.at hi).1).2.2
def Qbi(l:D.F)(now:Int):Y Nat:=(List.range l.G.length).filter fun i=>Y2 (O l.G i) now
def Qsf:j∈Qbi l now↔j<l.G.length/\Y2 (O l.G j) now=true:=by
 unfold Qbi;rw[List.mem_filter,List.mem_range]
structure Driven (M:Int) (n:Nat) (l:D.F) (now:Int) (k:Nat) (x:D.F):Prop where
 inv:Qd M n x
 time:x.FC<=now/\(0<k->x.FC=now)
 len:x.G.length=l.G.length
 cfg:x.E=l.E/\x.b=l.b/\x.FE=l.FE/\x.Fence=l.Fence
 page:∀j,j<l.G.length->O x.G j=if j∈(Qbi l now).take k then(runV l.E l.b (O l.G j) now).1 else O l.G j
def Driven.done(h:Driven M n l now (Qbi l now).length x)(hl:Qd M n l)(hj:j<x.G.length):Y2 (O x.G j) now=false:=by
 rw[h.len]at hj
 rw[h.page j hj,Ad]
 split
 .exact(QeG hl.book QT.step (hl.at hj).1).2.2
 .rename_i g
  cases hw:Y2 (O l.G j) now with
  |false=>rfl
  |true=>exact absurd (Qsf.2 ⟨hj,hw⟩) g
def Qd6(L:Y D.Page)(t:Int):Y D.R:=(L.filter fun p=>Y2 p t).map fun p=>⟨p.S,(dueV p).1,[]⟩
def QoE(hi:i<L.length):Qd6 (L.take (i+1)) t=Qd6 (L.take i) t++(if Y2 (O L i) t=true then[⟨(O L i).S,(dueV (O L i)).1,[]⟩]else[]):=by
 unfold Qd6
 rw[<-Qn hi,B6,Aw]
 congr 1
 cases g:Y2 (O L i) t with
 |true=>simp[g]
 |false=>simp[g]
def Qna:(Qd6 L t).length<=L.length:=by
 unfold Qd6;rw[List.length_map];exact CQ ..
def Qtx(h:LW M n l)(hpg:l.G.length<=9):Vc 1000 l t=some (Qd6 l.G t):=by
 refine Ok.eq ?_
 unfold Vc
 refine Ok.j ?_
 refine Ok.run l.G.length (fun i=>((t,(i:Int),()),l,Qd6 (l.G.take i) t,())) rfl U (fun i hi k hk=>?_) (fun k=>?_)
 .try dsimp only
  have hs:=QoE (t:=t) hi
  have hlen:=Qna (L:=l.G.take i) (t:=t)
  rw[Ae]at hlen
  try dsimp only at hk
  rw[hs]at hk
  refine Ok.j (Ok.P (Ok.oe (QcN h hpg) (Ok.t ?_)))
  refine Ok.j (Ok.atn hi (Ok.oe Qgw (Ok.J (fun g=>Ok.ite (fun g2=>Ok.atn hi (Ok.LS ?_)) (fun g2=>?_)) (fun g=>?_))))
  .try dsimp only
   rw[Qa U]
   rw[iB (by unfold Y2;rw[g,decide_eq_true g2];rfl)]at hk;exact hk
  .try dsimp only
   rw[Qa U]
   rw[iA (by unfold Y2;rw[decide_eq_false g2];simp),Ao]at hk;exact hk
  .try dsimp only
   rw[Qa U]
   rw[iA (by unfold Y2;rw[g];simp),Ao]at hk;exact hk
 .try dsimp only
  refine Ok.j (Ok.N (Ok.s ?_))
  rw[Ad]
def Driven.none(h:Driven M n l now (Qbi l now).length x)(hl:Qd M n l):Qd6 x.G now=[]:=by
 unfold Qd6
 rw[List.map_eq_nil_iff,Cw]
 intro p hp
 obtain⟨j,hj,rfl⟩:=QjM hp
 rw[h.done hl hj];simp
end
end
def quo(n:Nat)(Q:Nat->AH):Prop:=n / 2+1<=(List.range n).countP Q
def Qn3:∀{L:Y α},(∀i∈L,¬(P i=true/\Q i=true))->L.countP P+L.countP Q<=L.length
 |[],_=>by simp
 |y::r,h=>by
  have ih:=Qn3 (P:=P) (Q:=Q) (L:=r) fun i hi=>h i (by simp[hi])
  have hy:=h y Ob
  simp only[List.countP_cons,Ab]
  by_cases p:P y=true<;>by_cases q:Q y=true
  .exact absurd ⟨p,q⟩ hy
  all_goals simp[p,q];omega
def Qk4(hp:quo n P)(hq:quo n Q):∃i,i<n/\P i=true/\Q i=true:=by
 rcases EF (∃i,i<n/\P i=true/\Q i=true)with h|h
 .exact h
 .have:=Qn3 (P:=P) (Q:=Q) (L:=List.range n) fun i hi ⟨g1,g2⟩=>h ⟨i,by simpa using hi,g1,g2⟩
  simp only[List.length_range]at this
  unfold quo at hp hq
  omega
structure Gh where
 clog:Nat->Int->Y D.n
 glog:Int->Y D.n
 lead:Int->I Nat
 vot:Nat->Int->I Nat
 ack:Nat->Int->Nat
section
abbrev trm(L:Y D.n)(k:Nat):Int:=(O L k).T
def Good(g:Gh)(t:Int)(k:Nat):Prop:=1<=k/\k<=(g.glog t).length/\trm (g.glog t) (k - 1)=t
def May(n:Nat)(g:Gh)(T:Nat->Int)(t:Int)(k:Nat):Prop:=∃Q,quo n Q/\∀j,j<n->Q j=true->k<=g.ack j t\/T j<=t
def Chosen(n:Nat)(g:Gh)(t:Int)(k:Nat):Prop:=∃Q,quo n Q/\∀j,j<n->Q j=true->k<=g.ack j t
structure Qba (g:Gh) (u:Int) (L:Y D.n):Prop where
 term:∀k,k<L.length->1<=trm L k/\trm L k<=u
 asc:∀i j,i<=j->j<L.length->trm L i<=trm L j
 mat:∀k,k<L.length->L.take (k+1)=(g.glog (trm L k)).take (k+1)
def Qba.nil:Qba g u []:=⟨fun k h=>by simp at h,fun i j _ h=>by simp at h,fun k h=>by simp at h⟩
def Qba.up(h:Qba g u L)(hu:u<=v):Qba g v L:=⟨fun k hk=>by have:=h.term k hk;omega,h.asc,h.mat⟩
def Qba.take(h:Qba g u L):Qba g u (L.take k):=by
 have e:∀i,i<(L.take k).length->trm (L.take k) i=trm L i/\i<L.length/\i<k:=fun i hi=>by
  rw[Ae]at hi
  exact⟨by show D.n.T (O _ _)=_;rw[QbH U],U,U⟩
 refine⟨fun i hi=>?_,fun i j hij hj=>?_,fun i hi=>?_⟩
 .obtain⟨e1,e2,e3⟩:=e i hi
  rw[e1];exact h.term i e2
 .obtain⟨e1,e2,e3⟩:=e j hj
  obtain⟨f1,_⟩:=e i U
  rw[e1,f1];exact h.asc i j hij e2
 .obtain⟨e1,e2,e3⟩:=e i hi
  rw[e1,<-h.mat i e2,Ca,show min (i+1) k=i+1 by omega]
def Qif{A B:Y α}(h:A.take b=B.take b)(hab:a<=b):A.take a=B.take a:=by
 have:=BD (List.take a) h
 grind
def QhT[AK α]{A B:Y α}(h:A.take b=B.take b)(hab:a<b):O A a=O B a:=by
 rw[<-QbH (l:=A) hab,h,QbH hab]
def VZ{A B:Y α}(h:A.take b=B.take b)(hb:b<=B.length):b<=A.length:=by
 have:=BD List.length h
 grind
def Qba.meet(h:Qba g u L)(h2:Qba g v K)(hk:k<L.length)(hk2:k<K.length)(e:trm L k=trm K k):L.take (k+1)=K.take (k+1):=by
 rw[h.mat k hk,h2.mat k hk2,e]
def VY(L:Y D.n):Int:=if L=[]then 0 else trm L (L.length - 1)
def Qba.last(h:Qba g u L)(hl:0<L.length):L=(g.glog (VY L)).take L.length/\1<=VY L/\VY L<=u/\VY L=trm L (L.length - 1):=by
 have hne:L≠[]:=fun e=>by rw[e]at hl;simp at hl
 have e:VY L=trm L (L.length - 1):=by unfold VY;rw[iA hne]
 have h1:=h.mat (L.length - 1) U
 have h2:=h.term (L.length - 1) U
 grind
structure GhOK (n:Nat) (g:Gh) (T:Nat->Int):Prop where
 glog:∀t,Qba g t (g.glog t)
 none:∀t,g.lead t=none->g.glog t=[]
 clog:∀c t,Qba g (t - 1) (g.clog c t)
 pre:∀t c,g.lead t=some c->(g.clog c t).length<=(g.glog t).length/\(g.glog t).take (g.clog c t).length=g.clog c t
 vot:∀j t c,j<n->g.vot j t=some c->t<=T j
 votC:∀j t c,j<n->g.vot j t=some c->t<=T c
 lead:∀t c,g.lead t=some c->∃Q,quo n Q/\∀j,j<n->Q j=true->g.vot j t=some c
 ackT:∀j t,j<n->0<g.ack j t->t<=T j
 ackL:∀j t,j<n->g.ack j t<=(g.glog t).length
 later:∀t u k c,g.lead u=some c->t<u->Good g t k->May n g T t k->(g.glog u).take k=(g.glog t).take k
 vote:∀j u c t k,j<n->g.vot j u=some c->t<u->Good g t k->k<=g.ack j t->May n g T t k->(g.clog c u).take k=(g.glog t).take k
def GhOK.one(h:GhOK n g T)(ha:g.lead t=some a)(hq:quo n Q)(hb:∀j,j<n->Q j=true->g.vot j t=some b):a=b:=by
 obtain⟨P,h1,h2⟩:=h.lead t a ha
 obtain⟨j,h3,h4,h5⟩:=Qk4 h1 hq
 grind
def Holds(n:Nat)(g:Gh)(T:Nat->Int)(j:Nat)(L:Y D.n):Prop:=∀t k,Good g t k->k<=g.ack j t->May n g T t k->L.take k=(g.glog t).take k
def QsN(h:GhOK n g T)(hj:Qba g u L)(hc:Qba g (u - 1) K)(hf:VY L<VY K\/(VY K=VY L/\L.length<=K.length))(ht:t<u)(hg:Good g t k)(hm:May n g T t k)(hL:L.take k=(g.glog t).take k):K.take k=(g.glog t).take k:=by
 obtain⟨k1,k2,k3⟩:=hg
 have hkl:=VZ hL k2
 obtain⟨l1,l2,l3,l4⟩:=hj.last U
 have ht2:trm L (k - 1)=t:=by show(O L (k - 1)).T=t;rw[QhT hL U];exact k3
 have htl:t<=VY L:=by rw[l4,<-ht2];exact hj.asc _ _ U U
 have hK:0<K.length:=by
  rcases CN K.length with e|e
  .have:VY K=0:=by unfold VY;rw[iB (List.eq_nil_of_length_eq_zero e)]
   omega
  .exact e
 obtain⟨c1,c2,c3,c4⟩:=hc.last hK
 rcases hf with hf|⟨he,hlen⟩
 ·have hne:g.lead (VY K)≠none:=fun e=>by
   have:=h.none _ e
   grind
  obtain⟨b,hb⟩:=Option.ne_none_iff_exists'.1 hne
  have hl:=h.later t (VY K) k b hb U ⟨k1,k2,k3⟩ hm
  have hlen:k<=K.length:=by
   rcases BC K.length k with hlt|hge
   .exfalso
    have e1:O (g.glog (VY K)) (K.length - 1)=O (g.glog t) (K.length - 1):=QhT hl U
    have e2:O K (K.length - 1)=O (g.glog (VY K)) (K.length - 1):=by
     conv=>lhs;rw[c1]
     rw[QbH (by rw[Ae];have:=BD List.length c1;rw[Ae]at this;omega)]
     grind
    have e3:=((h.glog t).term (K.length - 1) U).2
    grind
   .exact hge
  grind
 ·grind
end
open Go AM
section
variable {n:Nat} {g g':Gh} {T T':Nat->Int} {L K:Y D.n} {i j k c:Nat} {t u v:Int}
def Qcw(h:A.take b=B.take b)(hab:a<b):trm A a=trm B a:=by show D.n.T (O A a)=D.n.T (O B a);rw[QhT h hab]
def Com(n:Nat)(g:Gh)(c:Nat)(L:Y D.n):Prop:=c=0\/∃t k,Good g t k/\Chosen n g t k/\c<=k/\c<=L.length/\L.take c=(g.glog t).take c
structure Qsp (n:Nat) (g:Gh) (T:Nat->Int) (j:Nat) (r:D.N):Prop where
 id:r.S=j
 term:r.T=T j
 pos:0<=r.T
 pos1:r.FM=1\/r.FM=2->1<=r.T
 log:Qba g r.T r.l
 holds:Holds n g T j r.l
 curL:g.ack j r.T<=r.l.length
 cur:r.l.take (g.ack j r.T)=(g.glog r.T).take (g.ack j r.T)
 com0:0<=r.i
 com:Com n g r.i.toNat r.l
 votN:r.Fh = -1->g.vot j r.T=none
 vot:∀c:Nat,r.Fh=c->g.vot j r.T=some c
 cand:r.FM=1->r.Fh=j/\g.clog j r.T=r.l/\g.lead r.T≠some j/\∀i,i<n->O r.FV i=true->g.vot i r.T=some j
 ldr:r.FM=2->g.lead r.T=some j/\r.l=g.glog r.T/\(∀i,i<n->O r.FH i<=g.ack i r.T)
structure Qso (n:Nat) (g:Gh) (T:Nat->Int) (m:D.c):Prop where
 from0:0<=m.v/\m.v<n
 to0:0<=m.To/\m.To<n
 term:m.T<=T m.v.toNat
 vote:m.a=1->m.FD=(g.clog m.v.toNat m.T).length/\m.Ff=VY (g.clog m.v.toNat m.T)
 voted:m.a=2->m.OK=true->g.vot m.v.toNat m.T=some m.To.toNat
 app:m.a=3->g.lead m.T=some m.v.toNat/\0<=m.FD/\m.FD.toNat+m.x.length<=(g.glog m.T).length/\m.x=((g.glog m.T).drop m.FD.toNat).take m.x.length/\(0<m.FD->m.Ff=trm (g.glog m.T) (m.FD.toNat - 1))/\0<=m.i/\Com n g m.i.toNat (g.glog m.T)
 acked:m.a=4->m.OK=true->m.FD<=g.ack m.v.toNat m.T
structure Gle (n:Nat) (g:Gh) (T:Nat->Int) (g':Gh) (T':Nat->Int) (i:Nat):Prop where
 glog:∀t,(g'.glog t).take (g.glog t).length=g.glog t
 clog:∀c u,u<=T c->g'.clog c u=g.clog c u
 lead:∀t c,g.lead t=some c->g'.lead t=some c
 own:∀t c,c≠i->g'.lead t=some c->g.lead t=some c/\g'.glog t=g.glog t
 vot:∀j t c,g.vot j t=some c->g'.vot j t=some c
 votO:∀j t,j≠i->g'.vot j t=g.vot j t
 ack:∀j t,g.ack j t<=g'.ack j t
 ackO:∀j t,j≠i->g'.ack j t=g.ack j t
 ackN:∀t,g.ack i t<g'.ack i t->T i<=t
 tm:∀j,T j<=T' j
 tmO:∀j,j≠i->T' j=T j
section
variable (h:Gle n g T g' T' i)
include h
theorem Gle.len(t):(g.glog t).length<=(g'.glog t).length:=VZ (by rw[h.glog,Ad]) (AP _)
theorem Gle.pre(hk:k<=(g.glog t).length):(g'.glog t).take k=(g.glog t).take k:=by
 have:=BD (List.take k) (h.glog t)
 grind
theorem Gle.good(hg:Good g t k):Good g' t k:=by
 obtain⟨a,b,c⟩:=hg
 have hl:=h.len t
 exact⟨a,U,by rw[Qcw (h.pre (AP _)) U];exact c⟩
theorem Gle.back(hg:Good g' t k)(hk:k<=(g.glog t).length):Good g t k:=by
 obtain⟨a,b,c⟩:=hg
 exact⟨a,hk,by rw[<-Qcw (h.pre (AP _)) U];exact c⟩
theorem Gle.chosen(hc:Chosen n g t k):Chosen n g' t k:=by
 obtain⟨Q,a,b⟩:=hc
 exact⟨Q,a,fun j hj hq=>AX (b j hj hq) (h.ack j t)⟩
theorem Gle.may(hm:May n g' T' t k):May n g T t k:=by
 obtain⟨Q,a,b⟩:=hm
 refine⟨Q,a,fun j hj hq=>?_⟩
 by_cases e:j=i
 .subst e
  rcases b j hj hq with b|b
  .rcases BC (g.ack j t) (g'.ack j t)with c|c
   .exact .inr (h.ackN t c)
   .exact .inl U
  .exact .inr (by have:=h.tm j;omega)
 .rcases b j hj hq with b|b
  .exact .inl (by rw[<-h.ackO j t e];exact b)
  .exact .inr (by have:=h.tmO j e;omega)
theorem Gle.logOK(hl:Qba g u L):Qba g' u L:=by
 refine⟨hl.term,hl.asc,fun k hk=>?_⟩
 have:=hl.mat k hk
 have hk2:k+1<=(g.glog (trm L k)).length:=by
  have:=BD List.length this
  grind
 rw[this,h.pre hk2]
theorem Gle.com(hc:Com n g c L):Com n g' c L:=by
 rcases hc with hc|⟨t,k,a,b,d,e,f⟩
 .exact .inl hc
 .exact .inr ⟨t,k,h.good a,h.chosen b,d,e,by rw[f,h.pre];have:=a.2.1;omega⟩
theorem Gle.comPre(hc:Com n g c (g.glog t)):Com n g' c (g'.glog t):=by
 rcases hc with hc|⟨u,k,a,b,d,e,f⟩
 .exact .inl hc
 .exact .inr ⟨u,k,h.good a,h.chosen b,d,AX e (h.len t),by rw[h.pre e,f,h.pre];have:=a.2.1;omega⟩
theorem Gle.holds(hG:GhOK n g T)(hj:j<n)(he:j≠i)(hh:Holds n g T j L):Holds n g' T' j L:=by
 intro t k a b c
 rw[h.ackO j t he]at b
 have hk:k<=(g.glog t).length:=AX b (hG.ackL j t hj)
 rw[h.pre hk]
 exact hh t k (h.back a hk) b (h.may c)
theorem Gle.rep(hG:GhOK n g T)(hj:j<n)(he:j≠i)(hr:Qsp n g T j r):Qsp n g' T' j r:=by
 have hT:=hr.term
 refine⟨hr.id,by rw[h.tmO j he];exact hr.term,hr.pos,hr.pos1,h.logOK hr.log,h.holds hG hj he hr.holds,by rw[h.ackO j _ he];exact hr.curL,?_,hr.com0,h.com hr.com,fun e=>by rw[h.votO j _ he];exact hr.votN e,fun c e=>h.vot _ _ _ (hr.vot c e),fun e=>?_,fun e=>?_⟩
 .rw[h.ackO j _ he,hr.cur,h.pre (hG.ackL j _ hj)]
 .obtain⟨a,b,c,d⟩:=hr.cand e
  exact⟨a,by rw[h.clog j _ U];exact b,fun x=>c (h.own _ _ he x).1,fun i hi hv=>h.vot _ _ _ (d i hi hv)⟩
 .obtain⟨a,b,c⟩:=hr.ldr e
  have a2:=h.lead _ _ a
  exact⟨a2,by rw[(h.own _ _ he a2).2];exact b,fun i hi=>by have:=c i hi;have:=h.ack i r.T;omega⟩
theorem Gle.msg(hm:Qso n g T m):Qso n g' T' m:=by
 have hT:=hm.term
 refine⟨hm.from0,hm.to0,by have:=h.tm m.v.toNat;omega,fun e=>?_,fun e e2=>h.vot _ _ _ (hm.voted e e2),fun e=>?_,fun e e2=>?_⟩
 .rw[h.clog _ _ hT];exact hm.vote e
 .obtain⟨a,b,c,d,f,f2,f3⟩:=hm.app e
  have hl:=h.len m.T
  refine⟨h.lead _ _ a,b,U,?_,fun x=>?_,f2,h.comPre f3⟩
  .conv=>lhs;rw[d]
   have:=BD (List.drop m.FD.toNat) (h.pre (k:=m.FD.toNat+m.x.length) c)
   rw[C9,C9,show m.FD.toNat+m.x.length - m.FD.toNat=m.x.length by omega]at this
   exact this.symm
  .rw[f x,Qcw (h.pre c) U]
 .have:=hm.acked e e2;have:=h.ack m.v.toNat m.T;omega
end
end
section
def GhOK.leadT(h:GhOK n g T)(hl:g.lead t=some c):t<=T c:=by
 obtain⟨Q,a,b⟩:=h.lead t c hl
 obtain⟨j,h1,h2,_⟩:=Qk4 a a
 exact h.votC j t c h1 (b j h1 h2)
def Gle.term(h:∀j,T j<=T' j)(h2:∀j,j≠i->T' j=T j):Gle n g T g T' i:=
 ⟨fun t=>Ad,fun _ _ _=>rfl,fun _ _ e=>e,fun _ _ _ e=>⟨e,rfl⟩,fun _ _ _ e=>e,fun _ _ _=>rfl,fun _ _=>AP _,fun _ _ _=>rfl,fun t e=>U,h,h2⟩
def GhOK.term(hG:GhOK n g T)(h:∀j,T j<=T' j)(h2:∀j,j≠i->T' j=T j):GhOK n g T':=by
 have hg:Gle n g T g T' i:=.term h h2
 refine⟨hG.glog,hG.none,hG.clog,hG.pre,fun j t c a b=>?_,fun j t c a b=>?_,hG.lead,fun j t a b=>?_,hG.ackL,fun t u k c a b d e=>hG.later t u k c a b d (hg.may e),fun j u c t k a b d e f m=>hG.vote j u c t k a b d e f (hg.may m)⟩
 .have:=hG.vot j t c a b;have:=h j;omega
 .have:=hG.votC j t c a b;have:=h c;omega
 .have:=hG.ackT j t a b;have:=h j;omega
def Gh.setV(g:Gh)(j:Nat)(u:Int)(c:Nat):Gh:={ g with vot:=fun a b=>if a=j/\b=u then some c else g.vot a b }
def Gle.setV(hv:g.vot j u=Option.none):Gle n g T (g.setV j u c) T j:=by
 refine⟨fun t=>Ad,fun _ _ _=>rfl,fun _ _ e=>e,fun _ _ _ e=>⟨e,rfl⟩,fun a b d e=>?_,fun a b e=>?_,fun _ _=>AP _,fun _ _ _=>rfl,fun t e=>absurd e (Cl _),fun _=>Al _,fun _ _=>rfl⟩
 .simp only[Gh.setV]
  grind
 .simp only[Gh.setV,e,false_and,if_false]
def GhOK.setV(hG:GhOK n g T)(hv:g.vot j u=Option.none)(hT:u<=T j)(hc:u<=T c)(hk:∀t k,t<u->Good g t k->k<=g.ack j t->May n g T t k->(g.clog c u).take k=(g.glog t).take k):GhOK n (g.setV j u c) T:=by
 have hg:Gle n g T (g.setV j u c) T j:=.setV hv
 have hs:∀a b d,(g.setV j u c).vot a b=some d->(a=j/\b=u/\d=c)\/g.vot a b=some d:=fun a b d e=>by
  simp only[Gh.setV]at e
  grind
 refine⟨fun t=>hg.logOK (hG.glog t),hG.none,fun c t=>hg.logOK (hG.clog c t),hG.pre,fun a b d h e=>?_,fun a b d h e=>?_,fun t d e=>?_,hG.ackT,hG.ackL,fun t u k c a b d e=>hG.later t u k c a b (hg.back d d.2.1) (hg.may e),fun a b d t k h e f f2 f3 m=>?_⟩
 .rcases hs a b d e with⟨x,y,z⟩|x
  .rw[x,y];exact hT
  .exact hG.vot a b d h x
 .rcases hs a b d e with⟨x,y,z⟩|x
  .rw[z,y];exact hc
  .exact hG.votC a b d h x
 .obtain⟨Q,h1,h2⟩:=hG.lead t d e
  exact⟨Q,h1,fun a ha hq=>hg.vot _ _ _ (h2 a ha hq)⟩
 .have f2':Good g t k:=hg.back f2 f2.2.1
  rcases hs a b d e with⟨x,y,z⟩|x
  .subst x;subst y;subst z
   exact hk t k f f2' f3 (hg.may m)
  .exact hG.vote a b d t k h x f f2' f3 (hg.may m)
def Gh.setC(g:Gh)(c:Nat)(u:Int)(L:Y D.n):Gh:={ g with clog:=fun a b=>if a=c/\b=u then L else g.clog a b }
def Gle.setC(hu:T c<u):Gle n g T (g.setC c u L) T c:=by
 refine⟨fun t=>Ad,fun a b e=>?_,fun _ _ e=>e,fun _ _ _ e=>⟨e,rfl⟩,fun _ _ _ e=>e,fun _ _ _=>rfl,fun _ _=>AP _,fun _ _ _=>rfl,fun t e=>absurd e (Cl _),fun _=>Al _,fun _ _=>rfl⟩
 simp only[Gh.setC]
 grind
def GhOK.setC(hG:GhOK n g T)(hu:T c<u)(hL:Qba g (u - 1) L):GhOK n (g.setC c u L) T:=by
 have hg:Gle n g T (g.setC c u L) T c:=.setC hu
 refine⟨fun t=>hg.logOK (hG.glog t),hG.none,fun a b=>?_,fun t a e=>?_,hG.vot,hG.votC,hG.lead,hG.ackT,hG.ackL,fun t u k c a b d e=>hG.later t u k c a b (hg.back d d.2.1) (hg.may e),fun a b d t k h e f f2 f3 m=>?_⟩
 .apply hg.logOK
  simp only[Gh.setC]
  split
  .simp_all
  .exact hG.clog a b
 .rw[hg.clog _ _ (hG.leadT e)];exact hG.pre t a e
 .rw[hg.clog _ _ (hG.votC _ _ _ h e)];exact hG.vote a b d t k h e f (hg.back f2 f2.2.1) f3 (hg.may m)
def Gh.setA(g:Gh)(j:Nat)(t:Int)(k:Nat):Gh:={ g with ack:=fun a b=>if a=j/\b=t then max (g.ack j t) k else g.ack a b }
def Gle.setA(hT:T j<=t):Gle n g T (g.setA j t k) T j:=by
 refine⟨fun t=>Ad,fun _ _ _=>rfl,fun _ _ e=>e,fun _ _ _ e=>⟨e,rfl⟩,fun _ _ _ e=>e,fun _ _ _=>rfl,fun a b=>?_,fun a b e=>?_,fun u e=>?_,fun _=>Al _,fun _ _=>rfl⟩
 .simp only[Gh.setA];split
  .grind
  .omega
 .simp only[Gh.setA,e,false_and,if_false]
 .simp only[Gh.setA]at e;split at e
  .omega
  .omega
def GhOK.setA(hG:GhOK n g T)(hT:T j=t)(hk:k<=(g.glog t).length):GhOK n (g.setA j t k) T:=by
 have hg:Gle n g T (g.setA j t k) T j:=.setA U
 refine⟨fun t=>hg.logOK (hG.glog t),hG.none,fun c t=>hg.logOK (hG.clog c t),hG.pre,hG.vot,hG.votC,hG.lead,fun a b h e=>?_,fun a b h=>?_,fun t u k c a b d e=>hG.later t u k c a b (hg.back d d.2.1) (hg.may e),fun a b d u l h e f f2 f3 m=>?_⟩
 .simp only[Gh.setA]at e;split at e
  .simp_all
  .exact hG.ackT a b h e
 .simp only[Gh.setA];split
  .next h2=>rw[h2.2];have:=hG.ackL j t (by rw[<-h2.1];exact h);omega
  .exact hG.ackL a b h
 .have hv:=hG.vot a b d h e
  refine hG.vote a b d u l h e f (hg.back f2 f2.2.1) ?_ (hg.may m)
  simp only[Gh.setA]at f3;split at f3
  .grind
  .exact f3
def Gh.setL(g:Gh)(c:Nat)(u:Int):Gh:={ g with lead:=fun t=>if t=u then some c else g.lead t,glog:=fun t=>if t=u then g.clog c u else g.glog t,ack:=fun a b=>if a=c/\b=u then(g.clog c u).length else g.ack a b }
def GhOK.ack0(hG:GhOK n g T)(hl:g.lead u=Option.none)(hj:j<n):g.ack j u=0:=by
 have:=hG.ackL j u hj
 rw[hG.none u hl]at this
 simpa using this
def Gle.setL(hG:GhOK n g T)(hl:g.lead u=Option.none)(hc:c<n)(hT:T c=u):Gle n g T (g.setL c u) T c:=by
 have hz:=hG.none u hl
 refine⟨fun t=>?_,fun _ _ _=>rfl,fun t d e=>?_,fun t d e e2=>?_,fun _ _ _ e=>e,fun _ _ _=>rfl,fun a b=>?_,fun a b e=>?_,fun t e=>?_,fun _=>Al _,fun _ _=>rfl⟩
 .simp only[Gh.setL];split
  .simp_all
  .exact Ad
 .simp only[Gh.setL];rw[iA]
  .exact e
  .grind
 .simp only[Gh.setL]at e2 |-;split at e2
  .simp_all
  .simp_all
 .simp only[Gh.setL];split
  .next h=>rw[h.1,h.2,hG.ack0 hl hc];omega
  .omega
 .simp only[Gh.setL,e,false_and,if_false]
 .simp only[Gh.setL]at e;split at e
  .next h=>omega
  .omega
def GhOK.setL(hG:GhOK n g T)(hl:g.lead u=Option.none)(hc:c<n)(hT:T c=u)(hq:quo n Q)(hv:∀j,j<n->Q j=true->g.vot j u=some c):GhOK n (g.setL c u) T:=by
 have hg:Gle n g T (g.setL c u) T c:=.setL hG hl hc hT
 have hz:=hG.none u hl
 have hn:∀t,t≠u->(g.setL c u).glog t=g.glog t:=fun t h=>by simp only[Gh.setL];rw[iA h]
 have hu:(g.setL c u).glog u=g.clog c u:=by simp[Gh.setL]
 have hb:∀k,¬Good (g.setL c u) u k:=fun k ⟨a,b,d⟩=>by
  rw[hu]at b d
  have:=(hG.clog c u).term (k - 1) U
  omega
 have hd:∀{t k},Good (g.setL c u) t k->t≠u/\Good g t k:=fun{t k} h=>by
  have e:t≠u:=fun e=>hb k (e ▸ h)
  refine⟨e,?_⟩
  unfold Good at h |-
  rwa [hn t e]at h
 refine⟨fun t=>?_,fun t e=>?_,fun a b=>hg.logOK (hG.clog a b),fun t d e=>?_,hG.vot,hG.votC,fun t d e=>?_,fun a b h e=>?_,fun a b h=>?_,fun t v k d e f f2 m=>?_,fun a b d t k h e f f2 f3 m=>?_⟩
 .by_cases e:t=u
  .rw[e,hu];exact hg.logOK ((hG.clog c u).up U)
  .rw[hn t e];exact hg.logOK (hG.glog t)
 .have e2:t≠u:=fun h=>by simp[Gh.setL,h]at e
  rw[hn t e2]
  exact hG.none t (by simpa [Gh.setL,e2]using e)
 .by_cases e2:t=u
  .subst e2
   have:d=c:=by simpa [Gh.setL,eq_comm]using e
   subst this
   rw[hu];exact⟨AP _,Ad⟩
  .rw[hn t e2];exact hG.pre t d (by simpa [Gh.setL,e2]using e)
 .by_cases e2:t=u
  .subst e2
   have:d=c:=by simpa [Gh.setL,eq_comm]using e
   subst this
   exact⟨Q,hq,hv⟩
  .exact hG.lead t d (by simpa [Gh.setL,e2]using e)
 .simp only[Gh.setL]at e;split at e
  .simp_all
  .exact hG.ackT a b h e
 .by_cases e2:b=u
  .subst e2
   rw[hu];simp only[Gh.setL];split
   .exact AP _
   .rw[hG.ack0 hl h];omega
  .rw[hn b e2];simp only[Gh.setL,e2,and_false,if_false];exact hG.ackL a b h
 .obtain⟨g1,g2⟩:=hd f2
  have m2:=hg.may m
  rw[hn t g1]
  by_cases e2:v=u
  .subst e2
   have:d=c:=by simpa [Gh.setL,eq_comm]using e
   subst this
   rw[hu]
   obtain⟨P,p1,p2⟩:=m2
   obtain⟨x,x1,x2,x3⟩:=Qk4 hq p1
   have x4:=hv x x1 x2
   have x5:=hG.vot _ _ _ x1 x4
   rcases p2 x x1 x3 with y|y
   .exact hG.vote x v d t k x1 x4 f g2 y (hg.may m)
   .omega
  .rw[hn v e2]
   exact hG.later t v k d (by simpa [Gh.setL,e2]using e) f g2 m2
 .obtain⟨g1,g2⟩:=hd f2
  rw[hn t g1]
  refine hG.vote a b d t k h e f g2 ?_ (hg.may m)
  simpa only[Gh.setL,g1,and_false,if_false]using f3
def Gh.setP(g:Gh)(i:Nat)(t:Int)(e:D.n):Gh:={ g with glog:=fun b=>if b=t then g.glog t++[e]else g.glog b,ack:=fun a b=>if a=i/\b=t then(g.glog t).length+1 else g.ack a b }
def Gle.setP(hG:GhOK n g T)(hl:g.lead t=some i)(hi:i<n)(hT:T i=t):Gle n g T (g.setP i t e) T i:=by
 refine⟨fun b=>?_,fun _ _ _=>rfl,fun _ _ e=>e,fun b d h h2=>⟨h2,?_⟩,fun _ _ _ e=>e,fun _ _ _=>rfl,fun a b=>?_,fun a b e=>?_,fun b h=>?_,fun _=>Al _,fun _ _=>rfl⟩
 .simp only[Gh.setP];split
  .simp_all
  .exact Ad
 .simp only[Gh.setP];rw[iA]
  intro hb;subst hb
  have h2:g.lead b=some d:=h2
  simp_all
 .simp only[Gh.setP];split
  .next h=>have:=hG.ackL i t hi;rw[h.1,h.2];omega
  .omega
 .simp only[Gh.setP,e,false_and,if_false]
 .simp only[Gh.setP]at h;split at h
  .next h=>omega
  .omega
def GhOK.setP(hG:GhOK n g T)(hl:g.lead t=some i)(hi:i<n)(hT:T i=t)(he:e.T=t)(h1:1<=t):GhOK n (g.setP i t e) T:=by
 have hg:Gle n g T (g.setP i t e) T i:=.setP hG hl hi hT
 have hn:∀b,b≠t->(g.setP i t e).glog b=g.glog b:=fun t h=>by simp only[Gh.setP];rw[iA h]
 have hu:(g.setP i t e).glog t=g.glog t++[e]:=by simp[Gh.setP]
 have hA:=hG.glog t
 have tl:∀k,k<(g.glog t).length->trm (g.glog t++[e]) k=trm (g.glog t) k:=fun k hk=>Qcw (b:=(g.glog t).length) (by rw[EB,Ad]) hk
 have tr:trm (g.glog t++[e]) (g.glog t).length=t:=by
  show D.n.T (O _ _)=t
  rw[<-he];congr 1
  simp[O]
 refine⟨fun b=>?_,fun b h=>?_,fun a b=>hg.logOK (hG.clog a b),fun b d h=>?_,hG.vot,hG.votC,hG.lead,fun a b h h2=>?_,fun a b h=>?_,fun b v k d h f f2 m=>?_,fun a b d v k h h2 f f2 f3 m=>?_⟩
 .by_cases hb:b=t
  .subst hb
   rw[hu]
   refine⟨fun k hk=>?_,fun x y hxy hy=>?_,fun k hk=>?_⟩
   .rw[Ac]at hk
    rcases BC k (g.glog b).length with c|c
    .rw[tl k c];exact hA.term k c
    .grind
   .rw[Ac]at hy
    rcases BC y (g.glog b).length with c|c
    .rw[tl y c,tl x U];exact hA.asc x y hxy c
    .rw[show y=(g.glog b).length by simp at hy;omega,tr]
     rcases BC x (g.glog b).length with c2|c2
     .rw[tl x c2];exact(hA.term x c2).2
     .grind
   .rw[Ac]at hk
    rcases BC k (g.glog b).length with c|c
    .rw[tl k c]
     have:=(hg.logOK hA).mat k c
     grind
    .grind
  .rw[hn b hb];exact hg.logOK (hG.glog b)
 .have hb:b≠t:=fun hb=>by
   subst hb
   have h:g.lead b=Option.none:=h
   simp_all
  rw[hn b hb];exact hG.none b h
 .obtain⟨p1,p2⟩:=hG.pre b d h
  have:=hg.len b
  exact⟨AX p1 this,by show List.take (g.clog d b).length _=g.clog d b;rw[hg.pre p1];exact p2⟩
 .simp only[Gh.setP]at h2;split at h2
  .simp_all
  .exact hG.ackT a b h h2
 .by_cases hb:b=t
  .subst hb
   rw[hu,Ac];simp only[Gh.setP];split
   .exact AP _
   .have:=hG.ackL a b h;omega
  .rw[hn b hb];simp only[Gh.setP,hb,and_false,if_false];exact hG.ackL a b h
 .have m2:=hg.may m
  rcases BC (g.glog b).length k with c|c
  .exfalso
   have hb:b=t:=CJ fun x=>by have:=f2.2.1;rw[hn b x]at this;omega
   subst hb
   obtain⟨P,p1,p2⟩:=hG.lead v d h
   obtain⟨R,r1,r2⟩:=m
   obtain⟨x,x1,x2,x3⟩:=Qk4 p1 r1
   have x4:=hG.vot _ _ _ x1 (p2 x x1 x2)
   rcases r2 x x1 x3 with y|y
   .simp only[Gh.setP]at y;split at y
    .grind
    .have:=hG.ackL x b x1;omega
   .omega
  .rw[hg.pre c]
   have:=hG.later b v k d h f (hg.back f2 c) m2
   rw[<-this,hg.pre (VZ this.symm.symm c |> fun z=>z)]
 .have f3':k<=g.ack a v:=by
   simp only[Gh.setP]at f3;split at f3
   .next z=>have:=hG.vot a b d h h2;rw[z.1]at this;omega
   .exact f3
  have c:k<=(g.glog v).length:=AX f3' (hG.ackL a v h)
  rw[hg.pre c]
  exact hG.vote a b d v k h h2 f (hg.back f2 c) f3' (hg.may m)
end
open Go AM
def upd(R:Nat->D.N)(i:Nat)(r:D.N):Nat->D.N:=fun j=>if j=i then r else R j
def tm(R:Nat->D.N):Nat->Int:=fun j=>(R j).T
structure Inv (n:Nat) (P:D.Op->Prop) (g:Gh) (R:Nat->D.N) (W:Y D.c):Prop where
 gh:GhOK n g (tm R)
 rep:∀j,j<n->Qsp n g (tm R) j (R j)
 msg:∀m∈W,Qso n g (tm R) m
 ops:∀t,∀e∈g.glog t,P e.Op
 nod:∀t,((g.glog t).map fun e=>e.Op.S).Nodup
section
def V5:upd R i r i=r:=by simp[upd]
def QvC(h:j≠i):upd R i r j=R j:=by simp[upd,h]
def tm_i:tm (upd R i r) i=r.T:=by simp[upd,tm]
def tm_o(h:j≠i):tm (upd R i r) j=tm R j:=by simp[upd,tm,h]
def Qig(h:r.T=(R i).T):tm (upd R i r)=tm R:=by
 funext j
 by_cases e:j=i
 .subst e;rw[tm_i,h];rfl
 .exact tm_o e
def Inv.next(h:Inv n P g R W)(hg:Gle n g (tm R) g' (tm (upd R i r)) i)(hG:GhOK n g' (tm (upd R i r)))(hr:Qsp n g' (tm (upd R i r)) i r)(ho:(∀t,∀e∈g'.glog t,P e.Op)/\∀t,((g'.glog t).map fun e=>e.Op.S).Nodup:=by exact⟨h.ops,h.nod⟩):Inv n P g' (upd R i r) W:=by
 refine⟨hG,fun j hj=>?_,fun m hm=>hg.msg (h.msg m hm),ho.1,ho.2⟩
 by_cases e:j=i
 .subst e;rw[V5];exact hr
 .rw[QvC e];exact hg.rep h.gh hj e (h.rep j hj)
def Inv.sub(h:Inv n P g R W)(hs:∀m∈zC,m∈W):Inv n P g R zC:=⟨h.gh,h.rep,fun m hm=>h.msg m (hs m hm),h.ops,h.nod⟩
def Inv.add(h:Inv n P g R W)(hm:∀m∈zC,Qso n g (tm R) m):Inv n P g R (W++zC):=⟨h.gh,h.rep,fun m hi=>(Ah.1 hi).elim (h.msg m) (hm m),h.ops,h.nod⟩
def Gle.trans(h:Gle n g T g1 T1 i)(h2:Gle n g1 T1 g2 T2 i):Gle n g T g2 T2 i:=by
 refine⟨fun t=>?_,fun c u hu=>?_,fun t c e=>h2.lead _ _ (h.lead _ _ e),fun t c e f=>?_,fun j t c e=>h2.vot _ _ _ (h.vot _ _ _ e),fun j t e=>(h2.votO j t e).trans (h.votO j t e),fun j t=>AX (h.ack j t) (h2.ack j t),fun j t e=>(h2.ackO j t e).trans (h.ackO j t e),fun t e=>?_,fun j=>Cr (h.tm j) (h2.tm j),fun j e=>(h2.tmO j e).trans (h.tmO j e)⟩
 .rw[h2.pre (h.len t),h.glog]
 .rw[h2.clog c u (by have:=h.tm c;omega),h.clog c u hu]
 .obtain⟨a,b⟩:=h2.own t c e f
  obtain⟨a',b'⟩:=h.own t c e a
  exact⟨a',b.trans b'⟩
 .rcases BC (g.ack i t) (g1.ack i t)with x|x
  .exact h.ackN t x
  .have:=h2.ackN t U;have:=h.tm i;omega
def Qsp.quiet(h:Qsp n g T j r)(h1:r'.S=r.S)(h2:r'.T=r.T)(h3:r'.Fh=r.Fh)(h4:r'.l=r.l)(h5:r'.i=r.i)(h0:r'.FM=0):Qsp n g T j r':=by
 refine⟨by rw[h1];exact h.id,by rw[h2];exact h.term,by rw[h2];exact h.pos,fun e=>by rw[h0]at e;exact absurd e (by decide),by rw[h2,h4];exact h.log,by rw[h4];exact h.holds,by rw[h2,h4];exact h.curL,by rw[h2,h4];exact h.cur,by rw[h5];exact h.com0,by rw[h4,h5];exact h.com,by rw[h3,h2];exact h.votN,by rw[h3,h2];exact h.vot,fun e=>by rw[h0]at e;exact absurd e (by decide),fun e=>by rw[h0]at e;exact absurd e (by decide)⟩
def Inv.quiet(h:Inv n P g R W)(hi:i<n)(h1:r.S=(R i).S)(h2:r.T=(R i).T)(h3:r.Fh=(R i).Fh)(h4:r.l=(R i).l)(h5:r.i=(R i).i)(h0:r.FM=0):Inv n P g (upd R i r) W:=by
 have hT:=Qig h2
 refine h.next ?_ ?_ ?_
 .rw[hT];exact .term (fun _=>Al _) fun _ _=>rfl
 .rw[hT];exact h.gh
 .rw[hT];exact(h.rep i hi).quiet h1 h2 h3 h4 h5 h0
def Inv.follow(h:Inv n P g R W)(hi:i<n)(hu:(R i).T<u)(h1:r.S=(R i).S)(h2:r.T=u)(h3:r.Fh = -1)(h4:r.l=(R i).l)(h5:r.i=(R i).i)(h0:r.FM=0):Inv n P g (upd R i r) W:=by
 have hr:=h.rep i hi
 have hT:∀j,tm R j<=tm (upd R i r) j:=fun j=>by
  by_cases e:j=i
  .subst e;rw[tm_i,h2];show(R j).T<=u;omega
  .rw[tm_o e];exact Al _
 have hg:Gle n g (tm R) g (tm (upd R i r)) i:=.term hT fun j e=>tm_o e
 have ht:=hr.term
 have ha:g.ack i u=0:=E4 fun x=>by have:=h.gh.ackT i u hi x;omega
 have hv:g.vot i u=none:=by
  rcases e:g.vot i u with _|c
  .rfl
  .have:=h.gh.vot i u c hi e;omega
 refine h.next hg (h.gh.term hT fun j e=>tm_o e) ⟨by rw[h1];exact hr.id,by rw[tm_i],by have:=hr.pos;omega,fun e=>by rw[h0]at e;exact absurd e (by decide),by rw[h4,h2];exact hr.log.up U,?_,by rw[h2,ha];exact BM _,by rw[h2,ha];rfl,by rw[h5];exact hr.com0,by rw[h4,h5];exact hr.com,fun _=>by rw[h2];exact hv,fun c e=>by rw[h3]at e;omega,fun e=>by rw[h0]at e;exact absurd e (by decide),fun e=>by rw[h0]at e;exact absurd e (by decide)⟩
 rw[h4]
 exact fun t k a b c=>hr.holds t k a b (hg.may c)
def Inv.grant(h:Inv n P g R W)(hi:i<n)(hu:(R i).T=u)(hv:(R i).Fh = -1)(hr0:(R i).FM=0)(hc:u<=tm R c)(hf:VY (R i).l<VY (g.clog c u)\/(VY (g.clog c u)=VY (R i).l/\(R i).l.length<=(g.clog c u).length))(h1:r={ R i with Fh:=c }):Inv n P (g.setV i u c) (upd R i r) W/\(g.setV i u c).vot i u=some c:=by
 have hr:=h.rep i hi
 have ht:=hr.term
 have hvn:g.vot i u=Option.none:=by rw[<-hu];exact hr.votN hv
 have hT:tm (upd R i r)=tm R:=Qig (by rw[h1])
 have hg:Gle n g (tm R) (g.setV i u c) (tm R) i:=.setV hvn
 have hs:(g.setV i u c).vot i u=some c:=by simp[Gh.setV]
 refine⟨h.next (by rw[hT];exact hg) ?_ ?_,hs⟩
 .rw[hT]
  refine h.gh.setV hvn U hc fun t k a b d m=>?_
  exact QsN h.gh (by rw[<-hu];exact hr.log) (h.gh.clog c u) hf a b m (hr.holds t k b d m)
 .rw[hT,h1]
  refine⟨hr.id,hr.term,hr.pos,hr.pos1,hg.logOK hr.log,fun t k a b d=>hr.holds t k a b (hg.may d),hr.curL,hr.cur,hr.com0,hg.com hr.com,fun e=>?_,fun d e=>?_,fun e=>?_,fun e=>?_⟩
  .simp_all
  .grind
  .simp_all
  .simp_all
def Inv.stand{n:Nat}{P:D.Op->Prop}{g:Gh}{R:Nat->D.N}{W:Y D.c}{r:D.N}{i:Nat}{u:Int}(h:Inv n P g R W)(hi:i<n)(hu:(R i).T+1=u)(hl:∀j,j<n->O r.FV j=true->j=i)(h1:r.S=(R i).S)(h2:r.T=u)(h3:r.Fh=i)(h4:r.l=(R i).l)(h5:r.i=(R i).i)(h0:r.FM=1):Inv n P ((g.setC i u r.l).setV i u i) (upd R i r) W/\((g.setC i u r.l).setV i u i).clog i u=r.l:=by
 have hr:=h.rep i hi
 have ht:=hr.term
 have hT:∀j,tm R j<=tm (upd R i r) j:=fun j=>by
  by_cases e:j=i
  .subst e;rw[tm_i,h2];show(R j).T<=u;omega
  .rw[tm_o e];exact Al _
 have hti:tm R i<u:=U
 have g1:Gle n g (tm R) (g.setC i u r.l) (tm R) i:=.setC hti
 have g2:Gle n (g.setC i u r.l) (tm R) (g.setC i u r.l) (tm (upd R i r)) i:=.term hT fun j e=>tm_o e
 have hG1:GhOK n (g.setC i u r.l) (tm R):=h.gh.setC hti (by rw[h4,show u - 1=(R i).T by omega];exact hr.log)
 have hG2:GhOK n (g.setC i u r.l) (tm (upd R i r)):=hG1.term hT fun j e=>tm_o e
 have hv:(g.setC i u r.l).vot i u=Option.none:=by
  rcases e:(g.setC i u r.l).vot i u with _|c
  .rfl
  .have:=h.gh.vot i u c hi e;omega
 have g3:Gle n (g.setC i u r.l) (tm (upd R i r)) ((g.setC i u r.l).setV i u i) (tm (upd R i r)) i:=.setV hv
 have hcl:(g.setC i u r.l).clog i u=r.l:=by simp[Gh.setC]
 have hti2:u<=tm (upd R i r) i:=by rw[tm_i,h2];exact Al _
 have hg:=(g1.trans g2).trans g3
 have ha:g.ack i u=0:=E4 fun x=>by have:=h.gh.ackT i u hi x;omega
 have hh:∀t k,Good g t k->k<=g.ack i t->May n g (tm R) t k->r.l.take k=(g.glog t).take k:=by rw[h4];exact hr.holds
 have hs:((g.setC i u r.l).setV i u i).vot i u=some i:=by simp[Gh.setV]
 refine⟨h.next hg ?_ ?_,hcl⟩
 .refine hG2.setV hv hti2 hti2 fun t k a b d m=>?_
  rw[hcl]
  exact hh t k b d ((g1.trans g2).may m)
 .refine⟨by rw[h1];exact hr.id,by rw[tm_i],by have:=hr.pos;omega,fun _=>by have:=hr.pos;omega,hg.logOK (by rw[h4,h2];exact hr.log.up U),fun t k a b d=>hh t k a b (hg.may d),by rw[h2];show g.ack i u<=_;rw[ha];exact BM _,?_,by rw[h5];exact hr.com0,hg.com (by rw[h4,h5];exact hr.com),fun e=>?_,fun d e=>?_,fun e=>⟨h3,by rw[h2];exact hcl,fun x=>?_,fun j hj hv=>?_⟩,fun e=>?_⟩
  .rw[h2];show r.l.take (g.ack i u)=(g.glog u).take (g.ack i u);rw[ha];rfl
  .rw[h3]at e;omega
  .grind
  .rw[h2]at x
   have:=h.gh.leadT (c:=i) (t:=u) x
   omega
  .grind
  .omega
def Inv.votes(h:Inv n P g R W)(hi:i<n)(h0:(R i).FM=1)(hv:∀j,j<n->O r.FV j=true->O (R i).FV j=true\/g.vot j (R i).T=some i)(h1:r={ R i with FV:=r.FV }):Inv n P g (upd R i r) W:=by
 have hr:=h.rep i hi
 have hT:tm (upd R i r)=tm R:=Qig (by rw[h1])
 refine h.next (by rw[hT];exact .term (fun _=>Al _) fun _ _=>rfl) (by rw[hT];exact h.gh) ?_
 rw[hT]
 obtain⟨a,b,c,d⟩:=hr.cand h0
 have e3:r.FM=1:=by rw[h1];exact h0
 rw[h1]
 refine⟨hr.id,hr.term,hr.pos,hr.pos1,hr.log,hr.holds,hr.curL,hr.cur,hr.com0,hr.com,hr.votN,hr.vot,fun _=>⟨a,b,c,fun j hj e=>(hv j hj e).elim (d j hj) id⟩,fun e=>?_⟩
 grind
def QxZ(hG:GhOK n g T)(h:Good (g.setL c u) t k):t≠u/\Good g t k:=by
 have e:t≠u:=fun e=>by
  subst e
  obtain⟨a,b,d⟩:=h
  have hu:(g.setL c t).glog t=g.clog c t:=by simp[Gh.setL]
  rw[hu]at b d
  have:=(hG.clog c t).term (k - 1) U
  omega
 refine⟨e,?_⟩
 unfold Good at h |-
 rwa [show(g.setL c u).glog t=g.glog t by simp[Gh.setL,e]]at h
def Inv.leads(h:Inv n P g R W)(hi:i<n)(h0:(R i).FM=1)(hq:quo n fun j=>O (R i).FV j)(hm:∀j,j<n->O r.FH j=if j=i then((R i).l.length:Int)else 0)(h1:r={ R i with FM:=2,FH:=r.FH }):Inv n P (g.setL i (R i).T) (upd R i r) W:=by
 have hr:=h.rep i hi
 have ht:=hr.term
 have hT:tm (upd R i r)=tm R:=Qig (by rw[h1])
 obtain⟨a,b,c,d⟩:=hr.cand h0
 have hl:g.lead (R i).T=Option.none:=by
  rcases e:g.lead (R i).T with _|x
  .rfl
  .have:=h.gh.one e hq d
   grind
 have hg:Gle n g (tm R) (g.setL i (R i).T) (tm R) i:=.setL h.gh hl hi ht.symm
 have hu:(g.setL i (R i).T).glog (R i).T=(R i).l:=by rw[<-b];simp[Gh.setL]
 have ha:(g.setL i (R i).T).ack i (R i).T=(R i).l.length:=by rw[<-b];simp[Gh.setL]
 have hcl:g.clog i (R i).T=[]\/∃t k,g.clog i (R i).T=(g.glog t).take k:=by
  rcases CN (g.clog i (R i).T).length with z|z
  .grind
  .exact .inr ⟨_,_,((h.gh.clog i (R i).T).last z).1⟩
 have ho:(∀t,∀e∈(g.setL i (R i).T).glog t,P e.Op)/\∀t,(((g.setL i (R i).T).glog t).map fun e=>e.Op.S).Nodup:=by
  refine⟨fun t e he=>?_,fun t=>?_⟩
  .by_cases x:t=(R i).T
   .rw[x,hu,<-b]at he
    rcases hcl with y|⟨t,k,y⟩
    .grind
    .rw[y]at he;exact h.ops t e (Bp he)
   .exact h.ops t e (by simpa [Gh.setL,x]using he)
  .by_cases x:t=(R i).T
   .rw[x,hu,<-b]
    rcases hcl with y|⟨t,k,y⟩
    .grind
    .rw[y,Bf];exact(h.nod t).sublist (EA _ _)
   .rw[show(g.setL i (R i).T).glog t=g.glog t by simp[Gh.setL,x]];exact h.nod t
 refine h.next (by rw[hT];exact hg) (by rw[hT];exact h.gh.setL hl hi ht.symm hq d) ?_ ho
 rw[hT,h1]
 refine⟨hr.id,hr.term,hr.pos,fun _=>hr.pos1 (.inl h0),hg.logOK hr.log,fun t k x y z=>?_,EV ha,?_,hr.com0,hg.com hr.com,hr.votN,hr.vot,fun e=>?_,fun e=>⟨by simp[Gh.setL],hu.symm,fun j hj=>?_⟩⟩
 .obtain⟨g1,g2⟩:=QxZ h.gh x
  rw[show(g.setL i (R i).T).glog t=g.glog t by simp[Gh.setL,g1]]
  refine hr.holds t k g2 ?_ (hg.may z)
  simpa only[Gh.setL,g1,and_false,if_false]using y
 .grind
 .grind
 .grind
end
section
def Inv.propose(h:Inv n P g R W)(hi:i<n)(h2:(R i).FM=2)(hP:P e.Op)(hfr:∀x∈(R i).l,x.Op.S≠e.Op.S)(he:e.T=(R i).T)(hL:r.l=(R i).l++[e])(hm:∀j,j<n->O r.FH j<=if j=i then((R i).l.length:Int)+1 else O (R i).FH j)(hc:r.i=(R i).i\/n=1/\r.i=((R i).l.length:Int)+1)(h1:r={ R i with l:=r.l,i:=r.i,FH:=r.FH }):Inv n P (g.setP i (R i).T e) (upd R i r) W:=by
 have hr:=h.rep i hi
 have ht:=hr.term
 have hT:tm (upd R i r)=tm R:=Qig (by rw[h1])
 obtain⟨a,b,d⟩:=hr.ldr h2
 have hp:=hr.pos1 (.inr h2)
 have hg:Gle n g (tm R) (g.setP i (R i).T e) (tm R) i:=.setP h.gh a hi ht.symm
 have hu:(g.setP i (R i).T e).glog (R i).T=r.l:=by rw[hL,b];simp[Gh.setP]
 have hn:∀t,t≠(R i).T->(g.setP i (R i).T e).glog t=g.glog t:=fun t x=>by simp[Gh.setP,x]
 have ha:(g.setP i (R i).T e).ack i (R i).T=r.l.length:=by rw[hL,b];simp[Gh.setP]
 have hG:GhOK n (g.setP i (R i).T e) (tm R):=h.gh.setP a hi ht.symm he hp
 have ll:r.l.length=(R i).l.length+1:=by rw[hL];simp
 have e2:r.FM=2:=by rw[h1];exact h2
 have ho:(∀t,∀x∈(g.setP i (R i).T e).glog t,P x.Op)/\∀t,(((g.setP i (R i).T e).glog t).map fun e=>e.Op.S).Nodup:=by
  refine⟨fun t x hx=>?_,fun t=>?_⟩
  .by_cases y:t=(R i).T
   .rw[y,hu,hL,b]at hx
    rcases Ah.1 hx with z|z
    .exact h.ops _ x z
    .grind
   .rw[hn t y]at hx;exact h.ops t x hx
  .by_cases y:t=(R i).T
   .rw[y,hu,hL,Aw,Eb]
    refine⟨by rw[b];exact h.nod _,Ob,fun x hx z hz e2=>?_⟩
    grind
   .rw[hn t y];exact h.nod t
 refine h.next (by rw[hT];exact hg) (by rw[hT];exact hG) ?_ ho
 rw[hT,h1]
 refine⟨hr.id,hr.term,hr.pos,hr.pos1,?_,fun t k x y z=>?_,EV ha,?_,?_,?_,hr.votN,hr.vot,fun x=>?_,fun x=>⟨a,hu.symm,fun j hj=>?_⟩⟩
 .show Qba _ _ r.l
  rw[<-hu];exact hG.glog _
 .show r.l.take k=_
  by_cases e3:t=(R i).T
  .rw[e3,hu]
  .rw[hn t e3]
   have x2:Good g t k:=by unfold Good at x |-;rwa [hn t e3]at x
   have y2:k<=g.ack i t:=by simpa only[Gh.setP,e3,and_false,if_false]using y
   have:=hr.holds t k x2 y2 (hg.may z)
   have hk:=VZ this x2.2.1
   grind
 .grind
 .show 0<=r.i
  have:=hr.com0
  omega
 .show Com n _ r.i.toNat r.l
  rcases hc with x|⟨x,y⟩
  .rw[x,<-hu]
   exact hg.comPre (by rw[<-b];exact hr.com)
  .refine .inr ⟨(R i).T,r.l.length,⟨U,by rw[hu];exact AP _,?_⟩,⟨fun _=>true,?_,fun j hj _=>?_⟩,by rw[y];omega,by rw[y];omega,by rw[hu]⟩
   .rw[hu,hL]
    show D.n.T (O _ _)=_
    rw[<-he];congr 1;simp[O]
   .subst x;simp[quo]
   .grind
 .grind
 .show O r.FH j<=_
  have:=hm j hj
  split at this
  .grind
  .next e3=>have h3:=d j hj;have:=hg.ack j (R i).T;show _<=(((g.setP i (R i).T e).ack j (R i).T:Nat):Int);omega
def Inv.sends{n:Nat}{P:D.Op->Prop}{g:Gh}{R:Nat->D.N}{W:Y D.c}{m:D.c}{i:Nat}(h:Inv n P g R W)(hi:i<n)(h2:(R i).FM=2)(hj:0<=m.To/\m.To<n)(h1:m.v=i)(h3:m.a=3)(h4:m.T=(R i).T)(h5:0<=m.FD/\m.FD<=(R i).l.length)(h6:m.x=(R i).l.drop m.FD.toNat)(h7:0<m.FD->m.Ff=trm (R i).l (m.FD.toNat - 1))(h8:m.i=(R i).i):Qso n g (tm R) m:=by
 have hr:=h.rep i hi
 obtain⟨a,b,d⟩:=hr.ldr h2
 have ht:=hr.term
 have hl:m.x.length=(R i).l.length - m.FD.toNat:=by rw[h6];simp
 refine⟨⟨U,U⟩,hj,by rw[h1,h4,hr.term];exact Al _,fun e=>U,fun e=>U,fun _=>⟨by rw[h4,h1];exact a,h5.1,by rw[h4,<-b,hl];omega,?_,fun x=>by rw[h4,<-b];exact h7 x,by rw[h8];exact hr.com0,by rw[h4,<-b,h8];exact hr.com⟩,fun e=>U⟩
 grind
def agree(hL:Qba g u L)(hG:Qba g v G)(hE:E=(G.drop p).take E.length)(hp:p+E.length<=G.length)(hpL:p<=L.length)(h0:p=0\/trm L (p - 1)=trm G (p - 1))(hs:s<=E.length)(hm:∀x,x<s->p+x<L.length/\trm L (p+x)=trm E x):L.take (p+s)=G.take (p+s):=by
 rcases CN (p+s)with z|z
 .rw[z];rfl
 .have hE2:∀x,x<E.length->trm E x=trm G (p+x):=fun x hx=>by
   show D.n.T (O _ _)=D.n.T (O _ _)
   congr 1
   conv=>lhs;rw[hE]
   rw[QbH hx]
   simp[O,Ap]
  have e:trm L (p+s - 1)=trm G (p+s - 1)/\p+s - 1<L.length:=by
   rcases CN s with y|y
   .grind
   .obtain⟨a,b⟩:=hm (s - 1) U
    grind
  have:=hL.meet hG e.2 U e.1
  grind
def QCu{L G E:Y D.n}{s p:Nat}(hE:E=(G.drop p).take E.length)(hp:p+E.length<=G.length)(hs:s<=E.length)(ha:L.take (p+s)=G.take (p+s)):L.take (p+s)++E.drop s=G.take (p+E.length):=by
 rw[ha]
 have e:E.drop s=(G.drop (p+s)).take (E.length - s):=by
  conv=>lhs;rw[hE]
  rw[C9,List.drop_drop]
 rw[e]
 conv=>rhs;rw[show p+E.length=(p+s)+(E.length - s)by omega,List.take_add]
end
open Go AM
section
variable {n:Nat} {P:D.Op->Prop} {g g':Gh} {T T':Nat->Int} {R:Nat->D.N} {W zC:Y D.c} {r r':D.N} {m:D.c} {L K G E:Y D.n} {i j k c s p:Nat} {t u v:Int} {e:D.n}
def QxX:(g.setA i t k).ack i t=max (g.ack i t) k:=by simp[Gh.setA]
def QBX(h:¬(j=i/\u=t)):(g.setA i t k).ack j u=g.ack j u:=by simp[Gh.setA,h]
def Inv.accept(h:Inv n P g R W)(hi:i<n)(hm:Qso n g (tm R) m)(hk:m.a=3)(ht:(R i).T=m.T)(h0:(R i).FM≠1/\(R i).FM≠2)(hpL:m.FD.toNat<=(R i).l.length)(hpt:m.FD.toNat=0\/trm (R i).l (m.FD.toNat - 1)=m.Ff)(hs:s<=m.x.length)(hx:∀x,x<s->m.FD.toNat+x<(R i).l.length/\trm (R i).l (m.FD.toNat+x)=trm m.x x)(hL:s=m.x.length/\r.l=(R i).l\/s<m.x.length/\((R i).l.length<=m.FD.toNat+s\/trm (R i).l (m.FD.toNat+s)≠trm m.x s)/\r.l=(R i).l.take (m.FD.toNat+s)++m.x.drop s/\(R i).i.toNat<=m.FD.toNat+s)(hc:r.i=max (R i).i (min m.i ((m.FD.toNat+m.x.length:Nat):Int)))(h1:r={ R i with l:=r.l,i:=r.i }):
  Inv n P (g.setA i m.T (m.FD.toNat+m.x.length)) (upd R i r) W/\m.FD.toNat+m.x.length<=(g.setA i m.T (m.FD.toNat+m.x.length)).ack i m.T:=by
 have hr:=h.rep i hi
 have hT:tm (upd R i r)=tm R:=Qig (by rw[h1])
 obtain⟨a1,a2,a3,a4,a5,a6,a7⟩:=hm.app hk
 have hrt:=hr.term
 have hG:=h.gh.glog m.T
 have hA:(R i).l.take (m.FD.toNat+s)=(g.glog m.T).take (m.FD.toNat+s):=by
  refine agree (u:=(R i).T) hr.log hG a4 a3 hpL ?_ hs hx
  rcases hpt with x|x
  .exact .inl x
  .rcases CN m.FD.toNat with y|y
   .exact .inl y
   .exact .inr (by rw[x];exact a5 U)
 have hlog:r.l.take (m.FD.toNat+m.x.length)=(g.glog m.T).take (m.FD.toNat+m.x.length)/\(r.l=(R i).l\/r.l=(g.glog m.T).take (m.FD.toNat+m.x.length)):=by
  rcases hL with⟨x,y⟩|⟨x,y,z,_⟩
  .rw[y,<-x];exact⟨hA,.inl rfl⟩
  .have:=QCu a4 a3 hs hA
   rw[z,this]
   exact⟨by rw[Ca,C8],.inr rfl⟩
 have hlen:m.FD.toNat+m.x.length<=r.l.length:=VZ hlog.1 a3
 have key:∀k,(R i).l.take k=(g.glog m.T).take k->k<=(g.glog m.T).length->r.l.take k=(g.glog m.T).take k/\k<=r.l.length:=by
  intro k e1 e2
  have e3:=VZ e1 e2
  rcases BC (m.FD.toNat+m.x.length) k with x|x
  .rcases hL with⟨_,y⟩|⟨y,z,_⟩
   .rw[y];exact⟨e1,e3⟩
   .exfalso
    rcases z with z|z
    .omega
    .apply z
     rw[Qcw e1 U]
     show D.n.T (O _ _)=D.n.T (O _ _)
     congr 1
     conv=>rhs;rw[a4]
     rw[QbH y]
     simp[O,Ap]
  .exact⟨Qif hlog.1 x,U⟩
 have hT2:tm R i=m.T:=U
 have hg:Gle n g (tm R) (g.setA i m.T (m.FD.toNat+m.x.length)) (tm R) i:=.setA U
 have hack:=QxX (g:=g) (i:=i) (t:=m.T) (k:=m.FD.toNat+m.x.length)
 have hcur:(R i).l.take (g.ack i m.T)=(g.glog m.T).take (g.ack i m.T):=by rw[<-ht];exact hr.cur
 have kcur:=key _ hcur (h.gh.ackL i m.T hi)
 refine⟨h.next (by rw[hT];exact hg) (by rw[hT];exact h.gh.setA hT2 a3) ?_,by rw[hack];omega⟩
 rw[hT,h1]
 refine⟨hr.id,hr.term,hr.pos,hr.pos1,hg.logOK ?_,fun t k x y z=>?_,?_,?_,?_,hg.com ?_,hr.votN,hr.vot,fun e=>?_,fun e=>?_⟩
 .show Qba g (R i).T r.l
  rcases hlog.2 with x|x
  .rw[x];exact hr.log
  .rw[x,ht];exact hG.take
 .show r.l.take k=(g.glog t).take k
  by_cases e:t=m.T
  .subst e
   rw[hack]at y
   rcases BC (m.FD.toNat+m.x.length) k with q|q
   .exact Qif kcur.1 U
   .exact Qif hlog.1 q
  .rw[QBX (by intro q;exact e q.2)]at y
   have x2:Good g t k:=x
   have hh:=hr.holds t k x2 y (hg.may z)
   have hlt:t<=tm R i:=h.gh.ackT i t hi (by have:=x2.1;omega)
   have hl:=h.gh.later t m.T k _ a1 U x2 (hg.may z)
   rw[<-hl]
   exact(key k (hh.trans hl.symm) (VZ hl x2.2.1)).1
 .show(g.setA i m.T (m.FD.toNat+m.x.length)).ack i (R i).T<=r.l.length
  rw[ht,hack];have:=kcur.2;omega
 .show r.l.take ((g.setA i m.T (m.FD.toNat+m.x.length)).ack i (R i).T)=(g.glog (R i).T).take _
  rw[ht,hack]
  rcases Nat.le_total (g.ack i m.T) (m.FD.toNat+m.x.length)with q|q
  .rw[Nat.max_eq_right q];exact hlog.1
  .rw[Nat.max_eq_left q];exact kcur.1
 .show 0<=r.i
  have:=hr.com0;rw[hc];omega
 .show Com n g r.i.toNat r.l
  have hC:Com n g (R i).i.toNat r.l:=by
   rcases hr.com with x|⟨t,k,x1,x2,x3,x4,x5⟩
   .exact .inl x
   .rcases hL with⟨_,y⟩|⟨_,_,_,y⟩
    .rw[y];exact .inr ⟨t,k,x1,x2,x3,x4,x5⟩
    .have e1:=Qif hA y
     have e2:=key _ e1 (by
      have:(R i).i.toNat<=(g.glog m.T).length:=by
       have:=BD List.length e1
       rw[Ae,Ae]at this
       omega
      exact this)
     exact .inr ⟨t,k,x1,x2,x3,e2.2,by rw[e2.1,<-e1];exact x5⟩
  rcases Int.le_total (min m.i ((m.FD.toNat+m.x.length:Nat):Int)) (R i).i with q|q
  .rw[hc,show max (R i).i (min m.i ((m.FD.toNat+m.x.length:Nat):Int))=(R i).i by omega];exact hC
  .rw[hc,show max (R i).i (min m.i ((m.FD.toNat+m.x.length:Nat):Int))=min m.i ((m.FD.toNat+m.x.length:Nat):Int)by omega]
   rcases a7 with x|⟨t,k,x1,x2,x3,x4,x5⟩
   .exact .inl U
   .have b1:(min m.i ((m.FD.toNat+m.x.length:Nat):Int)).toNat<=m.i.toNat:=U
    have b2:(min m.i ((m.FD.toNat+m.x.length:Nat):Int)).toNat<=m.FD.toNat+m.x.length:=U
    exact .inr ⟨t,k,x1,x2,U,U,by rw[Qif hlog.1 b2];exact Qif x5 b1⟩
 .exact absurd e h0.1
 .exact absurd e h0.2
def Inv.acks(h:Inv n P g R W)(hi:i<n)(h2:(R i).FM=2)(hm:∀j,j<n->O r.FH j<=g.ack j (R i).T)(hc:r.i=(R i).i\/∃k:Nat,r.i=k/\1<=k/\k<=(R i).l.length/\trm (R i).l (k - 1)=(R i).T/\quo n fun j=>decide ((k:Int)<=O r.FH j))(h1:r={ R i with i:=r.i,FH:=r.FH }):Inv n P g (upd R i r) W:=by
 have hr:=h.rep i hi
 have hT:tm (upd R i r)=tm R:=Qig (by rw[h1])
 obtain⟨a,b,d⟩:=hr.ldr h2
 refine h.next (by rw[hT];exact .term (fun _=>Al _) fun _ _=>rfl) (by rw[hT];exact h.gh) ?_
 rw[hT,h1]
 refine⟨hr.id,hr.term,hr.pos,hr.pos1,hr.log,hr.holds,hr.curL,hr.cur,?_,?_,hr.votN,hr.vot,fun e=>?_,fun _=>⟨a,b,hm⟩⟩
 .show 0<=r.i
  have:=hr.com0
  omega
 .show Com n g r.i.toNat (R i).l
  rcases hc with x|⟨k,x,x1,x2,x3,x4⟩
  .rw[x];exact hr.com
  .rw[x]
   refine .inr ⟨(R i).T,k,⟨x1,by rw[<-b];exact x2,by rw[<-b];exact x3⟩,⟨_,x4,fun j hj q=>?_⟩,U,U,by rw[b]⟩
   grind
 .grind
def Inv.fresh(hR:∀j,j<n->(R j).S=j)(h1:∀j,j<n->(R j).T=0/\(R j).Fh = -1/\(R j).FM=0/\(R j).l=[]/\(R j).i=0):Inv n P ⟨fun _ _=>[],fun _=>[],fun _=>none,fun _ _=>none,fun _ _=>0⟩ R []:=by
 refine⟨⟨fun _=>.nil,fun _ _=>rfl,fun _ _=>.nil,fun _ _ e=>(nomatch e),fun _ _ _ _ e=>(nomatch e),fun _ _ _ _ e=>(nomatch e),fun _ _ e=>(nomatch e),fun _ _ _ e=>absurd e (Cl _),fun _ _ _=>BM _,fun _ _ _ _ e=>(nomatch e),fun _ _ _ _ _ _ e=>(nomatch e)⟩,fun j hj=>?_,fun m e=>(nomatch e),fun _ _ e=>(nomatch e),fun _=>List.nodup_nil⟩
 obtain⟨a,b,c,d,f⟩:=h1 j hj
 refine⟨hR j hj,rfl,U,fun e=>U,by rw[d];exact .nil,fun t k x=>?_,BM _,by rw[d],U,.inl (by rw[f];rfl),fun _=>rfl,fun c e=>by rw[b]at e;omega,fun e=>U,fun e=>U⟩
 simp_all
end
def folV(r:D.N)(t:Int):D.N:=if r.T<t then{ r with T:=t,FM:=0,Fh:=-1,FV:=[],FH:=[] }else r
def Qrb(r:D.N)(m:D.c):Prop:=VY r.l<m.Ff\/(m.Ff=VY r.l/\(r.l.length:Int)<=m.FD)
instance (r:D.N) (m:D.c):Decidable (Qrb r m):=by unfold Qrb;infer_instance
def yesV(o:D.N)(m:D.c):AH:=decide (o.T=m.T/\(o.Fh = -1\/o.Fh=m.v)/\o.FM=0/\Qrb o m)
def QbD(r:D.N)(m:D.c):D.N×D.c:=(if yesV (folV r m.T) m then{ folV r m.T with Fh:=m.v }else folV r m.T,⟨2,r.S,m.v,(folV r m.T).T,0,0,0,[],yesV (folV r m.T) m⟩)
section
def Qql:upd R i (R i)=R:=by
 funext j;by_cases e:j=i
 .subst e;exact V5
 .exact QvC e
def Qm6:upd (upd R i a) i b=upd R i b:=by
 funext j;by_cases e:j=i
 .subst e;rw[V5,V5]
 .rw[QvC e,QvC e,QvC e]
def Inv.fol(h:Inv n P g R W)(hi:i<n):Inv n P g (upd R i (folV (R i) t)) W:=by
 unfold folV
 split
 .next x=>exact h.follow hi x rfl rfl rfl rfl rfl rfl
 .rw[Qql];exact h
def QBi:(folV r t).S=r.S:=by unfold folV;split<;>rfl
def QkX:(folV r t).l=r.l:=by unfold folV;split<;>rfl
def Qpa:(folV r t).i=r.i:=by unfold folV;split<;>rfl
def Quv(h:0<=a):(a.toNat:Int)=a:=U
def Inv.hear(h:Inv n P g R W)(hi:i<n)(hm:m∈W)(hk:m.a=1)(hto:m.To=i)(hne:m.v≠i):∃g',Inv n P g' (upd R i (QbD (R i) m).1) (W++[(QbD (R i) m).2]):=by
 have hid:=(h.rep i hi).id
 have h1:=h.fol (t:=m.T) hi
 have m1:=h1.msg m hm
 obtain⟨o,ho⟩:∃o,o=folV (R i) m.T:=⟨_,rfl⟩
 have hoid:o.S=i:=by rw[ho,QBi,hid]
 unfold QbD
 simp only[<-ho]
 rw[<-ho]at h1 m1
 have hf:=Quv m1.from0.1
 have reply:∀{g':Gh} {r':D.N},Inv n P g' (upd R i r') W->r'.T=o.T->(yesV o m=true->g'.vot i o.T=some m.v.toNat)->Qso n g' (tm (upd R i r')) ⟨2,(R i).S,m.v,o.T,0,0,0,[],yesV o m⟩:=by
  intro g' r' hI e1 e2
  refine⟨⟨?_,?_⟩,m1.from0,?_,fun e=>?_,fun _ e=>?_,fun e=>?_,fun e=>?_⟩
  .show 0<=(R i).S;omega
  .show(R i).S<n;omega
  .show o.T<=tm _ (R i).S.toNat
   rw[hid,Be,tm_i,e1];exact Al _
  .have e:(2:Int)=1:=e;omega
  .show g'.vot (R i).S.toNat o.T=_
   rw[hid,Be];exact e2 e
  .have e:(2:Int)=3:=e;omega
  .have e:(2:Int)=4:=e;omega
 by_cases hy:yesV o m=true
 .rw[iB hy]
  obtain⟨y1,y2,y3,y4⟩:=BF hy
  have hr:=h1.rep i hi
  rw[V5]at hr
  rcases y2 with y2|y2
  .obtain⟨v1,v2⟩:=m1.vote hk
   obtain⟨k1,k2⟩:=h1.grant (u:=m.T) (c:=m.v.toNat) (r:={ o with Fh:=m.v }) hi (by rw[V5];exact y1) (by rw[V5];exact y2) (by rw[V5];exact y3) m1.term (by
    rw[V5,<-v2]
    rcases y4 with z|⟨z,z2⟩
    .exact .inl z
    .exact .inr ⟨z,U⟩) (by rw[V5,hf])
   rw[Qm6]at k1
   exact⟨_,k1.add fun x hx=>by rw[Af.1 hx];exact reply k1 rfl fun _=>by rw[y1];exact k2⟩
  .have e:({ o with Fh:=m.v }:D.N)=o:=by rw[<-y2]
   rw[e]
   exact⟨g,h1.add fun x hx=>by rw[Af.1 hx];exact reply h1 rfl fun _=>hr.vot _ (by rw[y2,hf])⟩
 .rw[iA hy]
  exact⟨g,h1.add fun x hx=>by rw[Af.1 hx];exact reply h1 rfl fun e=>absurd e hy⟩
def QhN(n:Nat)(r:D.N):D.N:={ r with FM:=2,FH:=(List.replicate n 0).set r.S.toNat r.l.length }
def Qad(n:Nat)(r:D.N)(m:D.c):D.N:=
 if r.T<m.T then folV r m.T
 else if r.FM≠1\/m.T≠r.T\/m.OK=false then r
 else if n / 2+1<=(List.range n).countP (fun j=>O (r.FV.set m.v.toNat true) j)then QhN n { r with FV:=r.FV.set m.v.toNat true }
 else{ r with FV:=r.FV.set m.v.toNat true }
def Inv.lead(h:Inv n P g R W)(hi:i<n)(h0:(R i).FM=1)(hq:quo n fun j=>O (R i).FV j):∃g',Inv n P g' (upd R i (QhN n (R i))) W:=by
 have hid:=(h.rep i hi).id
 refine⟨_,h.leads hi h0 hq (r:=QhN n (R i)) (fun j hj=>?_) rfl⟩
 simp only[QhN,hid,Be,O]
 grind
def Inv.voted(h:Inv n P g R W)(hi:i<n)(hm:m∈W)(hk:m.a=2)(hto:m.To=i):∃g',Inv n P g' (upd R i (Qad n (R i) m)) W:=by
 unfold Qad
 split
 .exact⟨g,h.fol hi⟩
 split
 .exact⟨g,by rw[Qql];exact h⟩
 .next x y=>
  have y1:(R i).FM=1:=CJ fun z=>y (.inl z)
  have y2:m.T=(R i).T:=CJ fun z=>y (.inr (.inl z))
  have y3:m.OK=true:=by cases z:m.OK with|true=>rfl|false=>exact absurd (.inr (.inr z)) y
  have hv:=(h.msg m hm).voted hk y3
  rw[hto,Be,y2]at hv
  have h1:Inv n P g (upd R i { R i with FV:=(R i).FV.set m.v.toNat true }) W:=by
   refine h.votes hi y1 (fun j hj e=>?_) rfl
   by_cases e2:j=m.v.toNat
   .simp_all
   .refine .inl ?_
    rw[<-e]
    simp[O,CB,Aj e2]
  split
  .next z=>
   have:=h1.lead hi (by rw[V5];exact y1) (by rw[V5];exact z)
   rwa [V5,Qm6]at this
  .exact⟨g,h1⟩
def Vh:Y D.n->Y D.n->Nat
 |x::l,y::e=>if x.T=y.T then Vh l e+1 else 0
 |_,_=>0
def QeJ:∀{L E:Y D.n},Vh L E<=E.length/\Vh L E<=L.length
 |[],E=>by simp[Vh]
 |_::_,[]=>by simp[Vh]
 |x::l,y::e=>by
  have:=QeJ (L:=l) (E:=e)
  simp only[Vh];split<;>simp<;>omega
def QmW:∀{L E:Y D.n} {x:Nat},x<Vh L E->trm L x=trm E x
 |[],E,x,h=>by simp[Vh]at h
 |_::_,[],x,h=>by simp[Vh]at h
 |a::l,b::e,x,h=>by
  simp only[Vh]at h
  split at h
  .next q=>
   cases x with
   |zero=>exact q
   |succ x=>exact QmW (L:=l) (E:=e) (x:=x) U
  .omega
def QmV:∀{L E:Y D.n},Vh L E<E.length->L.length<=Vh L E\/trm L (Vh L E)≠trm E (Vh L E)
 |[],E,h=>.inl Ob
 |_::_,[],h=>by simp[Vh]at h
 |a::l,b::e,h=>by
  by_cases q:a.T=b.T
  .have e1:Vh (a::l) (b::e)=Vh l e+1:=by simp[Vh,q]
   rw[e1]at h |-
   rcases QmV (L:=l) (E:=e) (by simp at h;omega)with x|x
   .exact .inl (by simp;omega)
   .exact .inr x
  .have e1:Vh (a::l) (b::e)=0:=by simp[Vh,q]
   rw[e1];exact .inr q
def Qqk:trm (L.drop p) x=trm L (p+x):=by
 show D.n.T (O _ _)=D.n.T (O _ _)
 congr 1;simp[O,Ap]
def QcE(L:Y D.n)(p:Nat)(E:Y D.n):Y D.n×Nat:=if Vh (L.drop p) E=E.length then(L,L.length)else(L.take (p+Vh (L.drop p) E)++E.drop (Vh (L.drop p) E),p+Vh (L.drop p) E)
def hrdV(r:D.N)(m:D.c):D.N:=if (folV r m.T).FM=1/\(folV r m.T).T=m.T then{ folV r m.T with FM:=0,FV:=[] }else folV r m.T
def Inv.step{n:Nat}{P:D.Op->Prop}{g:Gh}{R:Nat->D.N}{W:Y D.c}{m:D.c}{i:Nat}(h:Inv n P g R W)(hi:i<n):Inv n P g (upd R i (hrdV (R i) m)) W:=by
 have h1:=h.fol (t:=m.T) hi
 unfold hrdV
 split
 .have:=h1.quiet (r:={ folV (R i) m.T with FM:=0,FV:=[] }) hi (by rw[V5]) (by rw[V5]) (by rw[V5]) (by rw[V5]) (by rw[V5]) rfl
  rwa [Qm6]at this
 .exact h1
def Inv.refuse(h:Inv n P g R W)(hi:i<n)(hm:m∈W)(hto:m.To=i):Inv n P g (upd R i (hrdV (R i) m)) (W++[⟨4,(R i).S,m.v,(hrdV (R i) m).T,0,0,0,[],false⟩]):=by
 have hid:=(h.rep i hi).id
 refine(h.step hi).add fun x hx=>?_
 rw[Af.1 hx]
 refine⟨⟨?_,?_⟩,(h.msg m hm).from0,?_,fun e=>?_,fun e=>?_,fun e=>?_,fun _ e=>nomatch e⟩
 .simp_all
 .simp_all
 .show(hrdV (R i) m).T<=tm _ (R i).S.toNat
  rw[hid,Be,tm_i];exact Al _
 .simp_all
 .simp_all
 .simp_all
def Inv.take(h:Inv n P g R W)(hi:i<n)(hm:m∈W)(hk:m.a=3)(hto:m.To=i)(h0:(hrdV (R i) m).FM≠2)(ht:m.T=(hrdV (R i) m).T)(hp:m.FD<=(hrdV (R i) m).l.length)(hpt:m.FD=0\/trm (hrdV (R i) m).l (m.FD.toNat - 1)=m.Ff)(hkeep:(hrdV (R i) m).i<=(QcE (hrdV (R i) m).l m.FD.toNat m.x).2)(h1:r={ hrdV (R i) m with l:=(QcE (hrdV (R i) m).l m.FD.toNat m.x).1,i:=max (hrdV (R i) m).i (min m.i (m.FD+m.x.length)) }):
  ∃g',Inv n P g' (upd R i r) (W++[⟨4,(R i).S,m.v,(hrdV (R i) m).T,m.FD+m.x.length,0,0,[],true⟩]):=by
 have hid:=(h.rep i hi).id
 have hI:=h.step (m:=m) hi
 have hm1:=hI.msg m hm
 obtain⟨a1,a2,a3,a4,a5,a6,a7⟩:=hm1.app hk
 obtain⟨o,ho⟩:∃o,o=hrdV (R i) m:=⟨_,rfl⟩
 have hr:=hI.rep i hi
 rw[V5]at hr
 rw[<-ho]at hI hm1 h0 ht hp hpt hkeep h1 hr |-
 have hr1:o.FM≠1:=by
  rw[ho]
  rw[ho]at ht
  unfold hrdV at ht |-
  split
  .show(0:Int)≠1;decide
  .next x=>intro y;rw[iA x]at ht;exact x ⟨y,ht.symm⟩
 have sl:=QeJ (L:=o.l.drop m.FD.toNat) (E:=m.x)
 have hpn:m.FD.toNat<=o.l.length:=U
 have hcc:min m.i (m.FD+m.x.length)=min m.i ((m.FD.toNat+m.x.length:Nat):Int):=by rw[Int.natCast_add,Quv a2]
 have dl:(o.l.drop m.FD.toNat).length=o.l.length - m.FD.toNat:=Ob
 have:=hI.accept (r:=r) (s:=Vh (o.l.drop m.FD.toNat) m.x) hi hm1 hk (by rw[V5];exact ht.symm) (by rw[V5];exact⟨hr1,h0⟩) (by rw[V5];exact hpn) (by
   rw[V5]
   exact hpt.elim (fun x=>.inl U) fun x=>.inr x) sl.1 (fun x hx=>by
   rw[V5]
   exact⟨U,by rw[<-Qqk];exact QmW hx⟩) (by
   rw[V5,h1]
   unfold QcE at hkeep |-
   split
   .next x=>exact .inl ⟨x,rfl⟩
   .next x=>
    rw[iA x]at hkeep
    refine .inr ⟨U,?_,rfl,?_⟩
    .rcases QmV (L:=o.l.drop m.FD.toNat) (E:=m.x) U with y|y
     .exact .inl U
     .exact .inr (by rw[<-Qqk];exact y)
    .have hkeep:o.i<=((m.FD.toNat+Vh (o.l.drop m.FD.toNat) m.x:Nat):Int):=hkeep
     omega) (by rw[V5,h1,hcc]) (by rw[V5,h1])
 rw[Qm6]at this
 obtain⟨g2,g3⟩:=this
 refine⟨_,g2.add fun x hx=>?_⟩
 rw[Af.1 hx]
 have rt:r.T=o.T:=by rw[h1]
 refine⟨⟨?_,?_⟩,(h.msg m hm).from0,?_,fun e=>?_,fun e=>?_,fun e=>?_,fun _ _=>?_⟩
 .show 0<=(R i).S;omega
 .show(R i).S<n;omega
 .show o.T<=tm _ (R i).S.toNat
  rw[hid,Be,tm_i,rt];exact Al _
 .have e:(4:Int)=1:=e;omega
 .have e:(4:Int)=2:=e;omega
 .have e:(4:Int)=3:=e;omega
 .show m.FD+m.x.length<=(((g.setA i m.T (m.FD.toNat+m.x.length)).ack (R i).S.toNat o.T:Nat):Int)
  rw[hid,Be,<-ht];omega
end
open Go AM
def topV(P:Nat->AH)(lo:Nat):Nat->Nat
 |0=>lo
 |k+1=>if lo<k+1 then(if P (k+1)then k+1 else topV P lo k)else lo
def Qm4:∀{k:Nat},topV P lo k=lo\/(lo<topV P lo k/\topV P lo k<=k/\P (topV P lo k)=true)
 |0=>.inl rfl
 |k+1=>by
  unfold topV
  split
  .split
   .next a b=>exact .inr ⟨a,AP _,b⟩
   .rcases Qm4 (P:=P) (lo:=lo) (k:=k)with x|⟨x,y,z⟩
    .exact .inl x
    .exact .inr ⟨x,U,z⟩
  .exact .inl rfl
def Qcd(r:D.N)(m:D.c):Y Int:=r.FH.set m.v.toNat (max (O r.FH m.v.toNat) m.FD)
def Qj4(n:Nat)(r:D.N)(M:Y Int)(k:Nat):AH:=decide (n / 2+1<=(List.range n).countP fun j=>decide ((k:Int)<=O M j)) && decide (trm r.l (k - 1)=r.T)
def QaJ(n:Nat)(r:D.N)(m:D.c):D.N:=
 if r.T<m.T then folV r m.T
 else if r.FM≠2\/m.T≠r.T\/m.OK=false\/m.FD<0\/(r.l.length:Int)<m.FD then r
 else{ r with FH:=Qcd r m,i:=(topV (Qj4 n r (Qcd r m)) r.i.toNat r.l.length:Nat) }
def VO(n:Nat)(r:D.N):D.N:={ r with T:=r.T+1,FM:=1,Fh:=r.S,FH:=[],FV:=(List.replicate n false).set r.S.toNat true }
def prpV(n:Nat)(r:D.N)(o:D.Op):D.N:={ r with l:=r.l++[⟨r.T,o⟩],FH:=r.FH.set r.S.toNat (r.l.length+1),i:=if n / 2+1=1 then r.l.length+1 else r.i }
def Qwm(r:D.N):D.N:={ r with FM:=0,FV:=[],FH:=[] }
section
def Qpr[AK α]{l:Y α}{x:α}(h:j≠i):O (l.set i x) j=O l j:=by simp[O,CB,Aj h]
def QsZ[AK α]{l:Y α}{x:α}(h:i<l.length):O (l.set i x) i=x:=by simp[O,h]
def Inv.acked(h:Inv n P g R W)(hi:i<n)(hm:m∈W)(hk:m.a=4)(hto:m.To=i)(hml:(R i).FM=2->(R i).FH.length=n):∃g',Inv n P g' (upd R i (QaJ n (R i) m)) W:=by
 unfold QaJ
 split
 .exact⟨g,h.fol hi⟩
 split
 .exact⟨g,by rw[Qql];exact h⟩
 .next x y=>
  have y1:(R i).FM=2:=CJ fun z=>y (.inl z)
  have y2:m.T=(R i).T:=CJ fun z=>y (.inr (.inl z))
  have y3:m.OK=true:=by cases z:m.OK with|true=>rfl|false=>exact absurd (.inr (.inr (.inl z))) y
  have hv:=(h.msg m hm).acked hk y3
  have hf:=(h.msg m hm).from0
  rw[y2]at hv
  have hr:=h.rep i hi
  obtain⟨a,b,d⟩:=hr.ldr y1
  have hc0:=hr.com0
  refine⟨g,h.acks hi y1 (fun j hj=>?_) ?_ rfl⟩
  .show O (Qcd (R i) m) j<=_
   unfold Qcd
   by_cases e:j=m.v.toNat
   .subst e
    rw[QsZ (by rw[hml y1];exact hj)]
    grind
   .rw[Qpr e];exact d j hj
  .rcases Qm4 (P:=Qj4 n (R i) (Qcd (R i) m)) (lo:=(R i).i.toNat) (k:=(R i).l.length)with z|⟨z1,z2,z3⟩
   .refine .inl ?_
    grind
   .refine .inr ⟨_,rfl,U,z2,?_,?_⟩
    .simp only[Qj4,bae,BK]at z3;exact z3.2
    .simp only[Qj4,bae,BK]at z3;exact z3.1
def Inv.back(h:Inv n P g R W)(hi:i<n):Inv n P g (upd R i (Qwm (R i))) W:=h.quiet hi rfl rfl rfl rfl rfl rfl
def Inv.prop(h:Inv n P g R W)(hi:i<n)(h2:(R i).FM=2)(hml:(R i).FH.length=n)(hP:P o)(hfr:∀x∈(R i).l,x.Op.S≠o.S):∃g',Inv n P g' (upd R i (prpV n (R i) o)) W:=by
 have hid:=(h.rep i hi).id
 refine⟨_,h.propose hi h2 (e:=⟨(R i).T,o⟩) hP hfr rfl rfl (fun j hj=>?_) ?_ rfl⟩
 .show O ((R i).FH.set _ _) j<=_
  rw[hid,Be]
  by_cases e:j=i
  .subst e;rw[QsZ U,iB rfl];exact Al _
  .rw[Qpr e,iA e];exact Al _
 .show(if n / 2+1=1 then _ else _)=_\/_
  split
  .next x=>exact .inr ⟨U,by simp[prpV,x]⟩
  .omega
def Qzh:VY L=if L.length=0 then 0 else trm L (L.length - 1):=by
 unfold VY
 simp_all
def Inv.stands{n:Nat}{P:D.Op->Prop}{g:Gh}{R:Nat->D.N}{W zC:Y D.c}{i:Nat}(h:Inv n P g R W)(hi:i<n)(hV:∀m∈zC,m.a=1/\m.v=i/\0<=m.To/\m.To<n/\m.T=(R i).T+1/\m.FD=(R i).l.length/\m.Ff=VY (R i).l):∃g',Inv n P g' (upd R i (if n / 2+1=1 then QhN n (VO n (R i))else VO n (R i))) (W++zC):=by
 have hid:=(h.rep i hi).id
 have hvs:∀j,j<n->O (VO n (R i)).FV j=true->j=i:=fun j hj hv=>by
  simp only[VO,hid,Be]at hv
  exact CJ fun e=>by
   rw[Qpr e]at hv
   simp[O,Eu,hj]at hv
 obtain⟨a,b⟩:=h.stand (r:=VO n (R i)) (u:=(R i).T+1) hi rfl hvs rfl rfl (by show(R i).S=i;exact hid) rfl rfl rfl
 have c:=a.add (zC:=zC) fun m hm=>by
  obtain⟨x1,x2,x3,x4,x5,x6,x7⟩:=hV m hm
  refine⟨⟨U,U⟩,⟨x3,x4⟩,?_,fun _=>?_,fun e=>U,fun e=>U,fun e=>U⟩
  .rw[x2,Be,tm_i,x5];exact Al _
  .rw[x2,Be,x5,b];exact⟨x6,x7⟩
 split
 .next e=>
  have:=c.lead hi (by rw[V5];rfl) (by
   rw[V5]
   have:n=1:=U
   subst this
   have:i=0:=U
   subst this
   simp[quo,VO,hid,O])
  rwa [V5,Qm6]at this
 .exact⟨_,c⟩
end
def InvC(n:Nat)(P:D.Op->Prop)(Rs:Y D.N)(W:Y D.c):Prop:=Rs.length=n/\∃g,Inv n P g (O Rs) W
section
def QB7(h:i<Rs.length):upd (O Rs) i r=O (Rs.set i r):=by
 funext j
 by_cases e:j=i
 .subst e;rw[V5,QsZ h]
 .rw[QvC e,Qpr e]
def InvC.of(h:InvC n P Rs W)(hi:i<n)(hR:R'=Rs.set i r)(hn:∀g,Inv n P g (O Rs) W->∃g',Inv n P g' (upd (O Rs) i r) zC):InvC n P R' zC:=by
 obtain⟨a,g,b⟩:=h
 obtain⟨g',c⟩:=hn g b
 exact⟨by rw[hR,CL];exact a,g',by rw[hR,<-QB7 U];exact c⟩
def InvC.sub(h:InvC n P Rs W)(hs:∀m∈zC,m∈W):InvC n P Rs zC:=⟨h.1,h.2.elim fun g x=>⟨g,x.sub hs⟩⟩
def InvC.mono(h:InvC n P Rs W)(hp:∀o,P o->P' o):InvC n P' Rs W:=⟨h.1,h.2.elim fun g x=>⟨g,x.gh,x.rep,x.msg,fun t e he=>hp _ (x.ops t e he),x.nod⟩⟩
def InvC.log(h:InvC n P Rs W)(hi:i<n):(∀e∈(O Rs i).l,P e.Op)/\((O Rs i).l.map fun e=>e.Op.S).Nodup:=by
 obtain⟨_,g,b⟩:=h
 rcases CN (O Rs i).l.length with z|z
 .simp_all
 .have:=((b.rep i hi).log.last z).1
  refine⟨fun e he=>?_,?_⟩
  .rw[this]at he;exact b.ops _ e (Bp he)
  .rw[this,Bf];exact(b.nod _).sublist (EA _ _)
def InvC.id(h:InvC n P Rs W)(hi:i<n):(O Rs i).S=i:=by
 obtain⟨_,g,b⟩:=h
 exact(b.rep i hi).id
def InvC.hear(h:InvC n P Rs W)(hi:i<n)(hm:m∈W)(hk:m.a=1)(hto:m.To=i)(hne:m.v≠i):InvC n P (Rs.set i (QbD (O Rs i) m).1) (W++[(QbD (O Rs i) m).2]):=
 h.of hi rfl fun g x=>x.hear hi hm hk hto hne
def InvC.voted(h:InvC n P Rs W)(hi:i<n)(hm:m∈W)(hk:m.a=2)(hto:m.To=i):InvC n P (Rs.set i (Qad n (O Rs i) m)) W:=
 h.of hi rfl fun g x=>x.voted hi hm hk hto
def InvC.refuse(h:InvC n P Rs W)(hi:i<n)(hm:m∈W)(hto:m.To=i):InvC n P (Rs.set i (hrdV (O Rs i) m)) (W++[⟨4,(O Rs i).S,m.v,(hrdV (O Rs i) m).T,0,0,0,[],false⟩]):=
 h.of hi rfl fun g x=>⟨g,x.refuse hi hm hto⟩
def InvC.take(h:InvC n P Rs W)(hi:i<n)(hm:m∈W)(hk:m.a=3)(hto:m.To=i)(h0:(hrdV (O Rs i) m).FM≠2)(ht:m.T=(hrdV (O Rs i) m).T)(hp:m.FD<=(hrdV (O Rs i) m).l.length)(hpt:m.FD=0\/trm (hrdV (O Rs i) m).l (m.FD.toNat - 1)=m.Ff)(hkeep:(hrdV (O Rs i) m).i<=(QcE (hrdV (O Rs i) m).l m.FD.toNat m.x).2):
  InvC n P (Rs.set i { hrdV (O Rs i) m with l:=(QcE (hrdV (O Rs i) m).l m.FD.toNat m.x).1,i:=max (hrdV (O Rs i) m).i (min m.i (m.FD+m.x.length)) }) (W++[⟨4,(O Rs i).S,m.v,(hrdV (O Rs i) m).T,m.FD+m.x.length,0,0,[],true⟩]):=
 h.of hi rfl fun g x=>x.take hi hm hk hto h0 ht hp hpt hkeep rfl
def InvC.acked(h:InvC n P Rs W)(hi:i<n)(hm:m∈W)(hk:m.a=4)(hto:m.To=i)(hml:(O Rs i).FM=2->(O Rs i).FH.length=n):InvC n P (Rs.set i (QaJ n (O Rs i) m)) W:=
 h.of hi rfl fun g x=>x.acked hi hm hk hto hml
def InvC.back(h:InvC n P Rs W)(hi:i<n):InvC n P (Rs.set i (Qwm (O Rs i))) W:=h.of hi rfl fun g x=>⟨g,x.back hi⟩
def InvC.prop(h:InvC n P Rs W)(hi:i<n)(h2:(O Rs i).FM=2)(hml:(O Rs i).FH.length=n)(hP:P o)(hfr:∀x∈(O Rs i).l,x.Op.S≠o.S):InvC n P (Rs.set i (prpV n (O Rs i) o)) W:=h.of hi rfl fun g x=>x.prop hi h2 hml hP hfr
def InvC.stands{n:Nat}{P:D.Op->Prop}{Rs:Y D.N}{W zC:Y D.c}{i:Nat}(h:InvC n P Rs W)(hi:i<n)(hV:∀m∈zC,m.a=1/\m.v=i/\0<=m.To/\m.To<n/\m.T=(O Rs i).T+1/\m.FD=(O Rs i).l.length/\m.Ff=VY (O Rs i).l):InvC n P (Rs.set i (if n / 2+1=1 then QhN n (VO n (O Rs i))else VO n (O Rs i))) (W++zC):=
 h.of hi rfl fun g x=>x.stands hi hV
def appV(r:D.N)(j:Nat):D.c:=⟨3,r.S,j,r.T,O r.FH j,if 0<O r.FH j then trm r.l ((O r.FH j).toNat - 1)else 0,r.i,r.l.drop (O r.FH j).toNat,false⟩
def InvC.beat(h:InvC n P Rs W)(hi:i<n)(h2:(O Rs i).FM=2)(hM:∀j,j<n->0<=O (O Rs i).FH j/\O (O Rs i).FH j<=(O Rs i).l.length)(hV:∀m∈zC,∃j,j<n/\m=appV (O Rs i) j):InvC n P Rs (W++zC):=by
 obtain⟨a,g,b⟩:=h
 refine⟨a,g,b.add fun m hm=>?_⟩
 obtain⟨j,hj,rfl⟩:=hV m hm
 exact b.sends hi h2 ⟨by show(0:Int)<=j;omega,by show(j:Int)<n;omega⟩ (b.rep i hi).id rfl rfl (hM j hj) rfl (fun x=>iB x) rfl
def comV(r:D.N):Y D.Op:=(r.l.take r.i.toNat).map fun e=>e.Op
end
open Go AM
def Grows(r r':D.N):Prop:=r.i<=r'.i/\r'.l.take r.i.toNat=r.l.take r.i.toNat
section
def Grows.same(h:r'.i=r.i)(h2:r'.l=r.l):Grows r r':=⟨U,by rw[h2]⟩
def Grows.trans(h:Grows r r')(h2:Grows r' r''):Grows r r'':=
 ⟨Cr h.1 h2.1,(Qif h2.2 (by have:=h.1;omega)).trans h.2⟩
def InvC.com_le(h:InvC n P Rs W)(hi:i<n):0<=(O Rs i).i/\(O Rs i).i<=(O Rs i).l.length:=by
 obtain⟨a,g,b⟩:=h
 have hr:=b.rep i hi
 have:=hr.com0
 rcases hr.com with x|⟨_,_,_,_,_,x,_⟩<;>omega
def Grows.fol:Grows r (folV r t):=.same Qpa QkX
def Qk0:(hrdV r m).i=r.i/\(hrdV r m).l=r.l:=by
 unfold hrdV;split<;>exact⟨Qpa,QkX⟩
def Grows.hrd:Grows r (hrdV r m):=.same Qk0.1 Qk0.2
def Grows.hear:Grows r (QbD r m).1:=by
 unfold QbD;simp only;split<;>exact .same Qpa QkX
def Grows.voted:Grows r (Qad n r m):=by
 unfold Qad;split
 .exact .fol
 split
 .exact .same rfl rfl
 split<;>exact .same rfl rfl
def Grows.back:Grows r (Qwm r):=.same rfl rfl
def Grows.stands:Grows r (if n / 2+1=1 then QhN n (VO n r)else VO n r):=by split<;>exact .same rfl rfl
def Grows.prop(h:0<=r.i/\r.i<=r.l.length):Grows r (prpV n r o):=by
 refine⟨?_,?_⟩
 .simp only[prpV];split<;>omega
 .show(r.l++[_]).take _=_
  grind
def Grows.take(h:0<=r.i/\r.i<=r.l.length)(hk:(hrdV r m).i<=(QcE (hrdV r m).l m.FD.toNat m.x).2):Grows r { hrdV r m with l:=(QcE (hrdV r m).l m.FD.toNat m.x).1,i:=max (hrdV r m).i (min m.i (m.FD+m.x.length)) }:=by
 obtain⟨a,b⟩:=Qk0 (r:=r) (m:=m)
 rw[a,b]at hk
 refine⟨by show _<=max _ _;rw[a];omega,?_⟩
 show(QcE (hrdV r m).l _ _).1.take _=_
 rw[b]
 unfold QcE at hk |-
 grind
def Grows.acked(h:0<=r.i):Grows r (QaJ n r m):=by
 unfold QaJ;split
 .exact .fol
 split
 .exact .same rfl rfl
 .refine⟨?_,rfl⟩
  show r.i<=((topV _ _ _:Nat):Int)
  rcases Qm4 (P:=Qj4 n r (Qcd r m)) (lo:=r.i.toNat) (k:=r.l.length)with z|⟨z,_⟩<;>omega
end
def Up(b c:AH)(r:D.N)(m:D.c):D.N×I D.c:=
 if b=false\/m.FD<0\/m.Ff<0\/m.i<0 then(r,none)
 else if m.T=(hrdV r m).T/\(hrdV r m).FM≠2/\m.FD<=(hrdV r m).l.length/\(m.FD=0\/trm (hrdV r m).l (m.FD.toNat - 1)=m.Ff)then
  if c=false\/((QcE (hrdV r m).l m.FD.toNat m.x).2:Int)<(hrdV r m).i then(r,none)
  else({ hrdV r m with l:=(QcE (hrdV r m).l m.FD.toNat m.x).1,i:=max (hrdV r m).i (min m.i (m.FD+m.x.length)) },some ⟨4,r.S,m.v,(hrdV r m).T,m.FD+m.x.length,0,0,[],true⟩)
 else(hrdV r m,some ⟨4,r.S,m.v,(hrdV r m).T,0,0,0,[],false⟩)
def YQ(n:Nat)(b c:AH)(r:D.N)(m:D.c):D.N×I D.c:=
 if m.a=1 then(if b=false then(r,none)else((QbD r m).1,some (QbD r m).2))
 else if m.a=2 then(if b=false then r else Qad n r m,none)
 else if m.a=3 then Up b c r m
 else if m.a=4 then(if b=false then r else QaJ n r m,none)
 else(r,none)
section
def QzL{Rs:Y D.N}{i:Nat}(h:i<Rs.length):Rs.set i (O Rs i)=Rs:=by
 apply Ch
 intro j
 by_cases e:j=i
 .subst e;simp[O,h]
 .grind
def InvC.stay(h:InvC n P Rs W)(hi:i<n)(hs:∀m∈zC,m∈W):InvC n P (Rs.set i (O Rs i)) (zC++[]):=by
 rw[QzL (by rw[h.1];exact hi),Ao];exact h.sub hs
def QsX{W zC A:Y D.c}(hs:∀m∈zC,m∈W):∀m∈zC++A,m∈W++A:=fun m hm=>(Ah.1 hm).elim (fun x=>Ah.2 (.inl (hs m x))) fun x=>Ah.2 (.inr x)
def InvC.handle(h:InvC n P Rs W)(hi:i<n)(hm:m∈W)(hto:m.To=i)(hne:m.v≠i)(hs:∀m∈zC,m∈W)(hml:(O Rs i).FM=2->(O Rs i).FH.length=n):InvC n P (Rs.set i (YQ n b c (O Rs i) m).1) (zC++(YQ n b c (O Rs i) m).2.toList)/\Grows (O Rs i) (YQ n b c (O Rs i) m).1:=by
 have hc:=h.com_le hi
 unfold YQ
 split
 .next hk=>
  split
  .exact⟨h.stay hi hs,.same rfl rfl⟩
  .exact⟨(h.hear hi hm hk hto hne).sub (QsX hs),.hear⟩
 split
 .next hk=>
  simp only[E5]
  split
  .exact⟨h.stay hi hs,.same rfl rfl⟩
  .exact⟨by rw[Ao];exact(h.voted hi hm hk hto).sub hs,.voted⟩
 split
 .next hk=>
  unfold Up
  split
  .exact⟨h.stay hi hs,.same rfl rfl⟩
  split
  .next x=>
   obtain⟨x1,x2,x3,x4⟩:=x
   split
   .exact⟨h.stay hi hs,.same rfl rfl⟩
   .next y=>
    have y:(hrdV (O Rs i) m).i<=(QcE (hrdV (O Rs i) m).l m.FD.toNat m.x).2:=Int.not_lt.1 fun z=>y (.inr z)
    exact⟨(h.take hi hm hk hto x2 x1 x3 x4 y).sub (QsX hs),.take hc y⟩
  .exact⟨(h.refuse hi hm hto).sub (QsX hs),.hrd⟩
 split
 .next hk=>
  simp only[E5]
  split
  .exact⟨h.stay hi hs,.same rfl rfl⟩
  .exact⟨by rw[Ao];exact(h.acked hi hm hk hto hml).sub hs,.acked hc.1⟩
 .exact⟨h.stay hi hs,.same rfl rfl⟩
end
open Go AM
def Qmd:∀{zI:Nat} {l:Y Int},l.Nodup->(∀x∈l,1<=x/\x<=zI)->l.length<=zI
 |0,l,_,hb=>by
  cases l with
  |nil=>simp
  |cons a r=>have:=hb a Ob;omega
 |zI+1,l,h,hb=>by
  by_cases hm:((zI+1:Nat):Int)∈l
  .have h2:(l.erase ((zI+1:Nat):Int)).length<=zI:=Qmd (h.erase _) fun x hx=>by
    have h3:=(h.mem_erase_iff).1 hx
    have:=hb x h3.2
    have h4:x≠((zI+1:Nat):Int):=h3.1
    omega
   rw[E6 hm]at h2
   omega
  .have:=Qmd (zI:=zI) h fun x hx=>by
    have:=hb x hx
    have h4:x≠((zI+1:Nat):Int):=fun e=>hm (e ▸ hx)
    omega
   omega
def Qme:∀{E l:Y Int},l.Nodup->(∀x∈l,x∈E)->l.length<=E.length
 |[],l,_,h=>by
  cases l with
  |nil=>simp
  |cons a r=>exact absurd (h a Ob) Ob
 |a::E,l,h,hb=>by
  by_cases hm:a∈l
  .have h2:(l.erase a).length<=E.length:=Qme (h.erase _) fun x hx=>by
    have h3:=(h.mem_erase_iff).1 hx
    exact(AY.1 (hb x h3.2)).resolve_left h3.1
   rw[E6 hm]at h2
   simp;omega
  .have:=Qme (E:=E) h fun x hx=>(AY.1 (hb x hx)).resolve_left fun e=>hm (e ▸ hx)
   simp;omega
def InvC.short{n:Nat}{P:D.Op->Prop}{Rs:Y D.N}{W:Y D.c}{i zI:Nat}(h:InvC n P Rs W)(hi:i<n)(hP:∀o,P o->1<=o.S/\o.S<=zI):(O Rs i).l.length<=zI:=by
 have:=Qmd (h.log hi).2 (zI:=zI) fun x hx=>by
  obtain⟨e,he,rfl⟩:=BT.1 hx
  exact hP _ ((h.log hi).1 e he)
 simpa using this
def WT(W:Y D.c):Nat:=(W.map fun m=>if m.a=1\/m.a=3 then 2 else 1).sum
def QlM:WT (zC++W)=WT zC+WT W:=by simp[WT]
def QyU:WT W<=2*W.length:=by
 induction W with
 |nil=>simp[WT]
 |cons m W ih=>simp only[WT,AR,Cc,Ab]at ih |-;split<;>omega
def QqR:WT (W++(YQ n b c r m).2.toList)<WT (m::W):=by
 have e:WT (m::W)=(if m.a=1\/m.a=3 then 2 else 1)+WT W:=by simp[WT]
 have e2:WT (YQ n b c r m).2.toList<(if m.a=1\/m.a=3 then 2 else 1):=by
  unfold YQ
  by_cases h1:m.a=1
  .rw[iB h1,iB (Or.inl h1)];split<;>simp[WT,QbD]
  rw[iA h1]
  by_cases h2:m.a=2
  .rw[iB h2];simp[WT];split<;>omega
  rw[iA h2]
  by_cases h3:m.a=3
  .rw[iB h3,iB (Or.inr h3)];unfold Up
   split
   .simp[WT]
   split
   .split<;>simp[WT]
   .simp[WT]
  rw[iA h3]
  split
  .simp[WT];split<;>omega
  .simp[WT];split<;>omega
 rw[QlM,e];omega
end Go.Proofs.YtlllfgmajglnhaaGreat
