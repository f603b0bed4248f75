/-
  Who is on call in a crew: what the reference computes.
-/
import Derived.Test.YtlllfgmajglnhaaGreatQRowKeeD
import Derived.Test.YtlllfgmajglnhaaGreatQRowKeeC
set_option maxRecDepth 100000
set_option linter.defProp false
set_option linter.constructorNameAsVariable false
set_option linter.unusedVariables false
set_option linter.unusedSimpArgs false
set_option autoImplicit true
set_option relaxedAutoImplicit true
namespace Go.Proofs.YtlllfgmajglnhaaGreat
open Go AM
section
def Qio(off:Int):D.q:=⟨bZ,off,[]⟩
def r4In:Qcq fu n lo hi=some (decide (lo<=n/\n<=hi)):=cnd2
def QxQ(ho:Qff off):Va 1000 (Qio off)=some ([],0):=by
 rcases ho with rfl|rfl|rfl<;>kernel_rfl
def QB1:QgT 1000 (Qio off) [] t=some off:=by
 refine Ok.eq ?_
 unfold QgT
 refine Ok.j (Ok.run 0 (fun _=>(([],(t,(off,(0,())))),())) rfl U (fun i hi=>absurd hi U) (fun k=>?_))
 exact Ok.j (Ok.NS (Ok.s rfl))
def QAC(ho:Qff off)(ht:0<=t/\t<=8589934592):Qas 1000 (Qio off) t=some (⟨(t+off) / 86400,(t+off) % 86400⟩,0):=by
 have:=ho.le
 have h1:Qc3 1000 (Qio off) t=some (off,0):=by
  refine Ok.eq ?_
  unfold Qc3
  exact Ok.oe (QxQ ho) (Ok.n (by decide) (Ok.oe r4In (Ok.np U (Ok.oe QB1 (Ok.s rfl)))))
 refine Ok.eq ?_
 unfold Qas
 refine Ok.oe h1 (Ok.n (by decide) ?_)
 unfold QmE
 rw[Qc (x:=t+off) U,Qc (x:=t+off+864000) U,Bz U,Bt U,Qc (x:=(t+off+864000) / 86400) U,Qc U,Qxv U,Qxv U,ZZ]
 exact Ok.s (by rw[BK,D.Fg.mk.injEq];omega)
def QAB(ho:Qff off)(hd:1<=d/\d<=1000000)(hs:0<=s/\s<=86399):
  Ok (QdO 1000 (Qio off) ⟨d,s⟩) fun r=>decide (r.2=0)=decide (d*86400+s - off<=8589934592)/\(r.2=0->r.1=d*86400+s - off):=by
 have:=ho.le
 unfold QdO
 refine Ok.oe (QxQ ho) (Ok.n (by decide) (Ok.oe r4In (Ok.np (by dsimp only;omega) (Ok.n (by dsimp only;omega) ?_))))
 have hsm:Qi1 1000 d=some (decide (-2<=d/\d<=99422)):=by unfold Qi1;rw[r4In,ZZ]
 refine Ok.oe hsm ?_
 by_cases hd2:d<=99422
 .refine Ok.np U ?_
  refine Ok.loop (fun m x=>x=(([],(-1,())),(Qio off,(⟨d,s⟩,())))/\m=1\/x=(([],(0,())),(Qio off,(⟨d,s⟩,())))/\m=0/\¬d*86400+s - off<=8589934592) (m:=1) U (.inl ⟨rfl,rfl⟩) ?_
  rintro m x (⟨rfl,rfl⟩|⟨rfl,rfl,hno⟩) K hK
  .dsimp only
   refine Ok.PS (Ok.j (Ok.n (by decide) ?_))
   dsimp only
   refine Ok.j (Ok.n (by rw[Qc U];simp) ?_)
   have ew:max 0 (X (X (X (d*86400)+s) - off))=d*86400+s - off:=by
    rw[Qc (x:=d*86400) U,Qc (x:=d*86400+s) U,Qc (x:=d*86400+s - off) U];omega
   by_cases h:d*86400+s - off<=8589934592
   .exact Ok.p (show max 0 (X (X (X (d*86400)+s) - off))<8589934593 by rw[ew];omega) (Ok.s ⟨by simp[h],fun _=>ew⟩)
   .exact Ok.n (show ¬max 0 (X (X (X (d*86400)+s) - off))<8589934593 by rw[ew];omega) (hK 0 _ U (.inr ⟨rfl,rfl,h⟩))
  .dsimp only
   exact Ok.NS (Ok.s ⟨by simp;omega,fun h=>by simp at h⟩)
 .refine Ok.nn U (Ok.s ⟨by simp;omega,fun h=>by simp at h⟩)
def QDt(hl:Y2 l)(ho:Qff off)(hk:0<=k/\k<=200000)(hu:l.Unit=1):
  Ok (Qc5 1000 (Qio off) l k) fun r=>r.2=decide (Xb off l k<=8589934592)/\(r.2=true->r.1=Xb off l k):=by
 have:=ho.le
 have h1:=hl.day;have h2:=hl.second;have h4:=hl.every
 unfold Qc5
 refine Ok.N (Ok.j (Ok.N ?_))
 dsimp only
 have hE:l.FK=1\/l.FK=2\/l.FK=3:=U
 have hh:Xb off l k=(l.R.Fj+k*l.FK)*86400+l.R.FY - off:=(Qua (Qm4 hu)).symm
 have hb:0<=k*l.FK/\k*l.FK<=600000:=by rcases hE with e|e|e<;>rw[e]<;>omega
 rw[Qc (x:=k*l.FK) U,Qc (x:=l.R.Fj+k*l.FK) U]
 refine Ok.opt (QAB (d:=l.R.Fj+k*l.FK) (s:=l.R.FY) ho U U) fun⟨v,b⟩ ⟨g1,g2⟩=>?_
 rw[<-hh]at g1 g2
 refine Ok.s ⟨g1,fun h=>g2 (BE h)⟩
def QCY(hl:Y2 l)(ho:Qff off)(ht:0<=t/\t<=8589934592):Qi4 1000 (Qio off) l t=some (Yb off l t):=by
 have hoo:=ho.le
 have h1:=hl.day;have h2:=hl.second;have h4:=hl.every
 have hf:=QiG (off:=off) hl ho
 have h0:Xb off l 0=YH off l:=by unfold Xb;omega
 have hfd:YH off l=l.R.Fj*86400+l.R.FY - off:=rfl
 have e3:=Qsg (t:=t) hl ho U
 refine Ok.eq ?_
 unfold Qi4
 rcases hl.unit with hu|hu
 .refine Ok.p hu (Ok.j ?_)
  refine Ok.opt (QAB (d:=l.R.Fj) (s:=l.R.FY) ho U U) fun⟨v,b⟩ ⟨g1,g2⟩=>?_
  dsimp only at g1 g2 |-
  have hb:b=0:=by
   grind
  rw[g2 hb,<-hfd]
  refine Ok.p hb (Ok.ite (fun hle=>?_) (fun hgt=>Ok.s ?_))
  .have e1:X (3600*l.FK)=3600*l.FK:=Qc U
   rw[e1]
   refine Ok.Z ?_
   rw[Qc (x:=t - YH off l) U,Bz U]
   have e2:(t - YH off l) / (3600*l.FK)=Yb off l t:=by unfold Yb;rw[iA U,Qka hu]
   rw[e2,Qc U]
   exact Ok.s rfl
  .exact(Qql (by rw[h0];omega)).symm
 .refine Ok.N (Ok.oe (QAC ho ht) (Ok.j (Ok.N ?_)))
  dsimp only
  obtain⟨dy,hD⟩:∃dy,(t+off) / 86400=dy:=⟨_,rfl⟩
  rw[hD]
  have hDb : -1<=dy/\dy<=99422:=U
  refine Ok.j (Ok.Z ?_)
  rw[Qc (x:=dy+2) U,Qc (x:=dy+2 - l.R.Fj) U,Bz U]
  obtain⟨k0,hk0⟩:∃k0,max (dy+2 - l.R.Fj) 0 / l.FK=k0:=⟨_,rfl⟩
  rw[hk0]
  have hE:l.FK=1\/l.FK=2\/l.FK=3:=U
  have hlin:∀k,Xb off l k=YH off l+86400*l.FK*k:=fun k=>(Qub hl).2 hu
  have hk:0<=k0/\k0<=99424/\(∀k,0<=k->k<=k0 - 3->Xb off l k<=t)/\t<Xb off l (k0+1):=by
   grind
  obtain⟨k1,k2,k3,k4⟩:=hk
  rw[Qc (x:=k0) U]
  refine Ok.loop (fun m x=>∃k,x=((t,k,()),Qio off,l,())/\-1<=k/\k<=k0/\(k = -1\/k0 - 3<=k)/\t<Xb off l (k+1)/\m=(k - (k0 - 4)).toNat) (m:=4) U ⟨k0,rfl,U,U,U,k4,U⟩ ?_
  rintro m x ⟨k,rfl,a1,a2,a3,a4,rfl⟩ K hK
  dsimp only
  refine Ok.ite (fun hpos=>?_) (fun hz=>?_)
  .refine Ok.j (Ok.opt (QDt (k:=k) hl ho U hu) fun⟨v,b⟩ ⟨g1,g2⟩=>?_)
   dsimp only at g1 g2 |-
   have down:¬Xb off l k<=t->Ok (K ((t,X (k - 1),()),Qio off,l,())) (·=Yb off l t):=fun hgt=>by
    rw[Qc (x:=k - 1) U]
    have hne:¬k<=k0 - 3:=fun h=>hgt (k3 k hpos h)
    exact hK _ _ U ⟨k - 1,rfl,U,U,U,by rw[show k - 1+1=k by omega];omega,rfl⟩
   by_cases hm:Xb off l k<=8589934592
   .have hb:b=true:=by rw[g1];simp[hm]
    subst hb
    rw[g2 rfl]
    refine Ok.t (Ok.ite (fun hle=>?_) (fun hgt=>down hgt))
    exact Ok.s (Qqk hl hpos hle a4).symm
   .have hb:b=false:=by rw[g1];simp[hm]
    subst hb
    exact Ok.f (down U)
  .obtain rfl:k = -1:=U
   exact Ok.s (Qql (by simpa using a4)).symm
def QzM(hl:Y2 l)(ho:Qff off):Qi3 1000 (Qio off) l=some 0:=by
 have h1:=hl.day;have h2:=hl.second;have h3:=hl.unit;have h4:=hl.every;have h5:=hl.len
 have hz:QdN 1000 (Qio off)=some 0:=by unfold QdN;rw[QxQ ho,ZZ]
 refine Ok.eq ?_
 unfold Qi3
 (repeat(first|with_reducible refine Ok.j ?_|with_reducible refine Ok.oe (hz) ?_|(with_reducible refine Ok.n ?hh ?_;case hh=>(first|omega|decide|assumption|(dsimp only;omega)|(simp;done)))))
 exact Ok.s rfl
def QDu(h:Ze n c)(hl:Y2 l)(ht:0<=t/\t<=8589934592):Qld 1000 c l t=some (if Yb (Xc c) l t<0 then(0,false)else(Yb (Xc c) l t,true)):=by
 have hS:Qf8 1000 (Qio (Xc c)) l t=some (Yb (Xc c) l t,0):=by
  refine Ok.eq ?_
  unfold Qf8
  refine Ok.oe (QzM hl h.offs) (Ok.n (by decide) (Ok.j (Ok.N (Ok.N ?_))))
  exact Ok.oe (QCY hl h.offs ht) (Ok.s rfl)
 refine Ok.eq ?_
 unfold Qld
 rw[h.zones.1,hl.zone]
 refine Ok.atn (i:=0) Ob (Ok.oe (hS:Qf8 1000 (O [(⟨bZ,Xc c,[]⟩:D.q)] 0) l t=_) ?_)
 refine Ok.j (Ok.n (by decide) ?_)
 by_cases hs:Yb (Xc c) l t<0
 .exact Ok.p hs (Ok.s (by rw[iB hs]))
 .refine Ok.n hs ?_
  rw[hl.win]
  refine Ok.NS ?_
  dsimp only
  exact Ok.p hl.cal.2 (Ok.s (by rw[iA hs]))
def qRaw(h:Ze n c)(hl:Y2 l)(ht:0<=t/\t<=8589934592):QmI 1000 c l t=some (Qek (Xc c) l t):=by
 have hlen:=hl.len
 refine Ok.eq ?_
 unfold QmI
 refine Ok.oe (QDu h hl ht) ?_
 by_cases hs:Yb (Xc c) l t<0
 .rw[iB hs]
  refine Ok.nf rfl (Ok.s ?_)
  unfold Qek
  rw[iB hs]
 .rw[iA hs]
  refine Ok.nt rfl (Ok.Z ?_)
  rw[QAq hl hs]
  exact Ok.s rfl
def QDr(hs:s.FU.length<900):Qle 1000 s p t=some (Qlv s.FU p t):=by
 refine Ok.eq ?_
 unfold Qle
 refine Ok.scan s.FU.length (fun i=>((p,t,(i:Int),()),s,())) (fun i=>QsG p t (O s.FU i)) rfl U (fun i hi hq _ k=>?_) (fun i hi hq k hk=>?_) (fun hq k=>?_)
 .refine Ok.P (Ok.j (Ok.atn hi ?_))
  have hq':=hq
  simp only[QsG,bae,BL]at hq'
  exact Ok.p hq'.1.1.1 (Ok.p hq'.1.1.2 (Ok.p hq'.1.2 (Ok.p hq'.2 (Ok.s (by unfold Qlv;rw[QjC hi hq])))))
 .refine Ok.P (Ok.j (Ok.atn hi ?_))
  dsimp only
  rw[Qa U]
  have hq':¬((O s.FU i).Z=0/\(O s.FU i).A=p/\(O s.FU i).v<=t/\t<(O s.FU i).To):=fun⟨a,b,c,d⟩=>by
   simp[QsG,a,b,c,d]at hq
  refine Ok.ite (fun g1=>Ok.ite (fun g2=>Ok.ite (fun g3=>Ok.ite (fun g4=>absurd ⟨g1,g2,g3,g4⟩ hq') (fun _=>hk)) (fun _=>hk)) (fun _=>hk)) (fun _=>hk)
 .refine Ok.N (Ok.s ?_)
  unfold Qlv
  rw[QnY hq]
def QDs(hs:es.length<900):Qlf 1000 es p t=some (QiJ es p t):=by
 refine Ok.eq ?_
 unfold Qlf
 refine Ok.run es.length (fun i=>((es,QiJ (es.take i) p t,t,(i:Int),()),())) (by simp[QiJ]) U (fun i hi k hk=>?_) (fun k=>?_)
 .refine Ok.P (Ok.j (Ok.atn hi ?_))
  dsimp only
  rw[Qa U]
  rw[Qod hi]at hk
  have hfold:∀v,v=Qrh t (QiJ (es.take i) p t) (O es i)->Ok (k ((es,v,t,((i+1:Nat):Int),()),())) (·=QiJ es p t):=fun v e=>by rw[e];exact hk
  refine Ok.ite (fun h1=>hfold _ ?_) fun h1=>Ok.ite (fun h2=>hfold _ ?_) fun h2=>Ok.ite (fun h3=>hfold _ ?_) fun h3=>Ok.ite (fun h4=>Ok.ite (fun h5=>hfold _ ?_) fun h5=>Ok.p h4 (Ok.ite (fun h6=>hfold _ ?_) fun h6=>hfold _ ?_)) fun h4=>Ok.n h4 (hfold _ ?_)
  all_goals unfold Qrh
  .rw[iB U]
  .rw[iB U]
  .omega
  .omega
  .omega
  .omega
  .omega
 .refine Ok.N (Ok.s ?_)
  rw[Ad]
def qTop(h:Ze n c)(hn:n<=48)(hi:0<=i/\i<2)(ht:0<=t/\t<=8589934592):Ok (QpS 1000 c i t) fun r=>r.2=layP (Xc c) (O c.f i.toNat) t:=by
 have hsl:=h.slen
 have hs:=h.sch (i:=i.toNat) U
 obtain⟨l,hl1,hl2⟩:=hs.layers
 have hlen:=hs.len
 unfold QpS layP
 refine Ok.at U U ?_
 rw[hl1,show O [l] 0=l from rfl,show X (((List.length [l]:Nat):Int) - 1)=0 from by rw[Qc Ob];simp]
 obtain⟨s,hsd⟩:∃s,O c.f i.toNat=s:=⟨_,rfl⟩
 rw[hsd]at hl1 hlen |-
 refine Ok.loop (fun m x=>x=((t,0,()),c,s,())/\m=1\/x=((t,-1,()),c,s,())/\m=0/\¬(0<=Qek (Xc c) l t/\Qlv s.FU (Qek (Xc c) l t) t=false)) (m:=1) U (.inl ⟨rfl,rfl⟩) ?_
 rintro m x (⟨rfl,rfl⟩|⟨rfl,rfl,hno⟩) K hK
 .dsimp only
  rw[hl1]
  refine Ok.P (Ok.j (Ok.atn (i:=0) Ob (Ok.oe (qRaw h hl2 ht:QmI 1000 c (O [l] 0) t=_) ?_)))
  have hnx:¬(0<=Qek (Xc c) l t/\Qlv s.FU (Qek (Xc c) l t) t=false)->Ok (K ((t,X (0 - 1),()),c,s,())) fun r=>r.2=if 0<=Qek (Xc c) l t/\Qlv s.FU (Qek (Xc c) l t) t=false then Qek (Xc c) l t else -1:=fun hno=>hK 0 _ U (.inr ⟨rfl,rfl,hno⟩)
  refine Ok.ite (fun h1=>Ok.oe (QDr U) (Ok.J (fun h2=>hnx (fun h=>by have:=h.2.symm.trans h2;simp at this)) (fun h2=>Ok.s (by rw[iB ⟨h1,h2⟩];rfl)))) (fun h1=>hnx (fun h=>h1 h.1))
 .dsimp only
  exact Ok.N (Ok.s (by rw[iA hno]))
def QCp(h:Ze n c)(hn:n<=48):QmJ 1000 c i t=some (whoV c i t):=by
 have hsl:=h.slen
 have key:Ok (QpT 1000 c i t) (·=whoV c i t):=by
  unfold QpT QxT whoV
  by_cases hc:0<=i/\i<2/\0<=t/\t<=8589934592
  ·(try unfold cd);rw[iB hc,QfC hc.1,QfC U,QfC hc.2.2.1,QfC hc.2.2.2,Qfz h hn,ZZ,QfC rfl,ZZ]
   refine Ok.nt rfl ?_
   unfold Qtk
   have hs:=h.sch (i:=i.toNat) U
   have hlen:=hs.len
   refine Ok.opt (P:=(·=whoS (Xc c) (O c.f i.toNat) t)) ?_ fun r hr=>Ok.s hr
   refine Ok.opt (qTop h hn ⟨hc.1,hc.2.1⟩ hc.2.2) fun⟨a,p⟩ hp=>?_
   dsimp only at hp |-
   refine Ok.at U U (Ok.oe (QDs U) (Ok.s ?_))
   unfold whoS
   rw[hp]
  .rw[iA hc]
   have hf:AM.J (decide (0<=i)) (AM.J (decide (i<(c.f.length:Int))) (AM.J (decide (0<=t)) (AM.J (decide (t<=8589934592)) (V (UL 1000 c) fun a0=>AM.J (decide (a0=0)) (some true) (some false)) (some false)) (some false)) (some false)) (some false)=some false:=by
    rw[hsl]
    by_cases h1:0<=i
    ·(try unfold cd);rw[QfC h1]
     by_cases h2:i<((2:Nat):Int)
     ·(try unfold cd);rw[QfC h2]
      by_cases h3:0<=t
      ·(try unfold cd);rw[QfC h3,QkE U]
      ·(try unfold cd);rw[QkE h3]
     ·(try unfold cd);rw[QkE h2]
    ·(try unfold cd);rw[QkE h1]
   (try unfold cd);rw[hf,ZZ]
   exact Ok.nf rfl (Ok.s rfl)
 unfold QmJ
 rw[Ok.eq key,ZZ]
end
def QDy(hd : -10<=d/\d<=100000):Qbz 1000 d=some ((d+3) % 7)/\QeA 1000 d=some ((d+3) % 7):=by
 have key:AM.nzc 7 (AM.nzc 7 (some (Int.tmod (X ((Int.tmod d 7)+10)) 7)))=some ((d+3) % 7):=by
  have h1:=Qm8 (a:=d) (n:=7) U
  rw[Qc U,Qxv U,Qxv U,Bt U]
  by_cases h0:0<=d
  .rw[Bt h0];congr 1;omega
  .have e1:Int.tmod d 7 = -((-d) % 7):=by
    rw[show d = -(-d)by omega,EY,Bt U,EZ]
   rw[e1];congr 1;omega
 exact⟨key,key⟩
def Qsd(ho:Qff off)(ht:0<=t/\t<=8589934592):Wp 1000 ⟨(t+off) / 86400,(t+off) % 86400⟩=some (QbW off t)/\QgV 1000 ⟨(t+off) / 86400,(t+off) % 86400⟩=some (QbW off t):=by
 have:=ho.le
 have hw:=QDy (d:=(t+off) / 86400) U
 unfold Wp QgV QbW
 dsimp only
 rw[hw.1,hw.2,ZZ,Qc (x:=((t+off) / 86400+3) % 7*86400) U,Qc U]
 exact⟨rfl,rfl⟩
def QCL(hw:ws.length<900):Qe2 1000 ws s=some (Qf2 ws s):=by
 refine Ok.eq ?_
 unfold Qe2
 refine Ok.scan ws.length (fun i=>((s,ws,(ws.length:Int),(i:Int),()),())) (fun i=>decide ((O ws i).v<=s) && decide (s<(O ws i).To)) rfl U (fun i hi hq _ k=>?_) (fun i hi hq k hk=>?_) (fun hq k=>?_)
 .have hq':=hq
  simp only[bae,BL]at hq'
  exact Ok.P (Ok.j (Ok.atn hi (Ok.p hq'.1 (Ok.p hq'.2 (Ok.s (by unfold Qf2;rw[QjC hi hq]))))))
 .refine Ok.P (Ok.j (Ok.atn hi ?_))
  dsimp only
  rw[Qa U]
  refine Ok.ite (fun h1=>Ok.ite (fun h2=>by simp[h1,h2]at hq) (fun _=>hk)) (fun _=>hk)
 .exact Ok.N (Ok.s (by unfold Qf2;rw[QnY hq]))
def Qyx(hw:ws.length<900):QgU 1000 ws s=some (Qf2 ws s):=by
 refine Ok.eq ?_
 unfold QgU
 refine Ok.scan ws.length (fun i=>((ws,s,(i:Int),()),())) (fun i=>decide ((O ws i).v<=s) && decide (s<(O ws i).To)) rfl U (fun i hi hq _ k=>?_) (fun i hi hq k hk=>?_) (fun hq k=>?_)
 .have hq':=hq
  simp only[bae,BL]at hq'
  exact Ok.P (Ok.j (Ok.atn hi (Ok.p hq'.1 (Ok.atn hi (Ok.p hq'.2 (Ok.s (by unfold Qf2;rw[QjC hi hq])))))))
 .refine Ok.P (Ok.j (Ok.atn hi ?_))
  dsimp only
  rw[Qa U]
  refine Ok.ite (fun h1=>Ok.atn hi (Ok.ite (fun h2=>by simp[h1,h2]at hq) (fun _=>hk))) (fun _=>hk)
 .exact Ok.N (Ok.s (by unfold Qf2;rw[QnY hq]))
def QuA:QjI 1000 t t=some (decide (0<=t/\t<=8589934592))/\QmF 1000 t t=some (decide (0<=t/\t<=8589934592)):=by
 have key:AM.J (decide (0<=t)) (AM.J (decide (t<=8589934592)) (AM.J (decide (t<=t)) (AM.J (decide (t<=8589934592)) (AM.J (decide ((X (t - t))<=34560000)) (some true) (some false)) (some false)) (some false)) (some false)) (some false)=some (decide (0<=t/\t<=8589934592)):=by
  rw[Qc (x:=t - t) U]
  by_cases h1:0<=t
  .by_cases h2:t<=8589934592
   ·(try unfold cd);rw[QfC h1,QfC h2,QfC U,QfC h2,QfC U];simp[h1,h2]
   ·(try unfold cd);rw[QfC h1,QkE h2];simp[h2]
  ·(try unfold cd);rw[QkE h1];simp[h1]
 exact⟨key,key⟩
def QaD.qlen(h:QaD x):x.Fi.length<=1:=by
 rcases h.quiet with h|⟨a,b,h,_⟩<;>rw[h]<;>simp
def QzN(h:Ze n c)(hn:n<=48):VS 1000 c p t ur=some (Vw c p t ur):=by
 have hpl:=h.plen
 refine Ok.eq ?_
 unfold VS
 have hopen:Ok (Qeq 1000 c p t t) fun r=>(r.2=0↔0<=p/\p<4/\0<=t/\t<=8589934592)/\(r.2=0->r.1=⟨c,[tabV (Xc c)]⟩):=by
  unfold Qeq
  refine Ok.oe (tOf h hn) (Ok.j (Ok.nt rfl ?_))
  refine Ok.ite (fun h1=>Ok.s ⟨by simp;omega,fun h=>by simp at h⟩) fun h1=>Ok.ite (fun h2=>Ok.s ⟨by simp;omega,fun h=>by simp at h⟩) fun h2=>?_
  refine Ok.oe QuA.1 (Ok.ncnd (fun h3=>Ok.s ⟨?_,fun h=>by simp at h⟩) fun h3=>Ok.s ⟨?_,fun _=>rfl⟩)
  .have h3:=BG h3
   simp;omega
  .have h3:=BE h3
   simp;omega
 refine Ok.opt hopen fun⟨v,e⟩ ⟨g1,g2⟩=>?_
 dsimp only at g1 g2 |-
 by_cases he:e=0
 .have hr:=g1.1 he
  rw[g2 he]
  refine Ok.n (by simp[he]) (Ok.at hr.1 U ?_)
  obtain⟨x,hx⟩:∃x,O c.k p.toNat=x:=⟨_,rfl⟩
  have hper:=h.per (i:=p.toNat) U
  rw[hx]at hper |-
  have hq:=hper.qlen
  have htab:Ok (XS 1000 ⟨c,[tabV (Xc c)]⟩ x.q) (·=tabV (Xc c)):=by
   unfold XS
   rw[hper.zone]
   exact Ok.atn (i:=0) Ob (Ok.s rfl)
  have hlast:Ok (V (XS 1000 ⟨c,[tabV (Xc c)]⟩ x.q) fun a3=>V (ZR 1000 a3 t) fun a4=>V (Wp 1000 a4) fun a5=>V (Qe2 1000 x.Fi a5) fun a6=>AM.J a6 (some false) (some true)) (·=!Qf2 x.Fi (QbW (Xc c) t)):=by
   refine Ok.opt htab fun tb htb=>?_
   subst htb
   refine Ok.oe (QAJ h.offs hr.2.2) (Ok.oe (Qsd h.offs hr.2.2).1 (Ok.oe (QCL U) (Ok.J (fun h1=>Ok.s (by rw[h1];rfl)) (fun h1=>Ok.s (by rw[h1];rfl)))))
  have hv:Vw c p t ur=(ur && x.Fy || !Qf2 x.Fi (QbW (Xc c) t)):=by unfold Vw;rw[hx];simp[hr.1,hr.2.1,hr.2.2.1,hr.2.2.2]
  rw[hv]
  refine Ok.J (fun h1=>Ok.J (fun h2=>Ok.s (by simp[h1,h2])) (fun h2=>hlast.mono fun r hr=>by rw[hr,h1,h2];simp)) (fun h1=>hlast.mono fun r hr=>by rw[hr,h1];simp)
 .refine Ok.p he (Ok.s ?_)
  have hr:¬(0<=p/\p<4/\0<=t/\t<=8589934592):=fun h=>he (g1.2 h)
  unfold Vw
  rw[Au hr];rfl
def QxW(h:Ze n c)(hn:n<=48):QbP 1000 c p t ur=some (Vw c p t ur):=by
 have hpl:=h.plen
 refine Ok.eq ?_
 unfold QbP
 have hopen:Ok (Qi6 1000 c p t t) fun r=>r=0↔0<=p/\p<4/\0<=t/\t<=8589934592:=by
  unfold Qi6
  refine Ok.j (Ok.oe (Qfz h hn) (Ok.n (by decide) ?_))
  refine Ok.ite (fun h1=>Ok.s U) fun h1=>Ok.ite (fun h2=>Ok.s U) fun h2=>?_
  refine Ok.oe QuA.2 (Ok.ncnd (fun h3=>Ok.s ?_) fun h3=>Ok.s ?_)
  .have h3:=BG h3
   omega
  .have h3:=BE h3
   omega
 refine Ok.opt hopen fun e g1=>?_
 by_cases he:e=0
 .have hr:=g1.1 he
  refine Ok.n (by simp[he]) (Ok.at hr.1 U ?_)
  obtain⟨x,hx⟩:∃x,O c.k p.toNat=x:=⟨_,rfl⟩
  have hper:=h.per (i:=p.toNat) U
  rw[hx]at hper |-
  have hq:=hper.qlen
  have hv:Vw c p t ur=(ur && x.Fy || !Qf2 x.Fi (QbW (Xc c) t)):=by unfold Vw;rw[hx];simp[hr.1,hr.2.1,hr.2.2.1,hr.2.2.2]
  rw[hv,hper.zone,h.zones.1]
  refine Ok.atn (i:=0) Ob ?_
  have hin:Qop 1000 (Qio (Xc c)) x.Fi t=some (Qf2 x.Fi (QbW (Xc c) t)):=by
   refine Ok.eq ?_
   unfold Qop Qj2
   refine Ok.oe (v:=(QbW (Xc c) t,0)) ?_ (Ok.p rfl (Ok.oe (QuJ hper) (Ok.p rfl (Ok.oe (Qyx U) (Ok.J (fun h1=>Ok.s (by rw[h1])) (fun h1=>Ok.s (by rw[h1])))))))
   refine Ok.eq (Ok.oe (QAC h.offs hr.2.2) (Ok.n (by decide) (Ok.oe (Qsd h.offs hr.2.2).2 (Ok.s rfl))))
  refine Ok.oe (hin:Qop 1000 (O [(⟨bZ,Xc c,[]⟩:D.q)] 0) x.Fi t=_) ?_
  refine Ok.J (fun h1=>Ok.J (fun h2=>Ok.J (fun h3=>Ok.s (by simp[h2,h3])) (fun h3=>Ok.s (by simp[h1,h3]))) (fun h2=>Ok.s (by simp[h1,h2]))) (fun h1=>Ok.s (by simp[h1]))
 .refine Ok.p he (Ok.s ?_)
  have hr:¬(0<=p/\p<4/\0<=t/\t<=8589934592):=fun h=>he (g1.2 h)
  unfold Vw
  rw[Au hr];rfl
open Go AM
def U1{l:Y Int}(h:i<l.length):l.take (i+1)=l.take i++[O l i]:=(Qn h).symm
structure Qlo (p0:Y Int) (q:Int->AH) (w j:Nat) (a:Y Int):Prop where
 len:a.length=p0.length
 wj:w<=j/\j<=p0.length
 done:a.take w=(p0.take j).filter q
 rest:∀k,j<=k->O a k=O p0 k
def QjP{l:Y Int}{q:Int->AH}{i:Nat}(hi:i<=l.length)(h:∀j,j<i->q (O l j)=true):(l.take i).filter q=l.take i:=by
 refine Ea.2 fun x hx=>?_
 obtain⟨k,hk,rfl⟩:=Bb hx
 rw[Af]at hk
 have:=h k U
 simpa [O,AQ,AU (show k<l.length by omega)]using this
def Qq1(hi:i<p0.length)(h:∀j,j<i->q (O p0 j)=true)(hx:q (O p0 i)=false):Qlo p0 q i (i+1) p0:=by
 refine⟨rfl,U,?_,fun k _=>rfl⟩
 rw[U1 hi,B4,QjP U h]
 simp[hx]
def QtY(h:Qlo p0 q w j a)(hj:j<p0.length)(hx:q (O a j)=true):Qlo p0 q (w+1) (j+1) (a.set w (O a j)):=by
 have h1:=h.wj
 have h2:=h.len
 refine⟨by simp[h.len],U,?_,fun k hk=>?_⟩
 .rw[h.rest j (AN _)]at hx |-
  rw[U1 hj,B4,<-h.done,U1 (by simp;omega),Qmn U,iB rfl,E0 U]
  simp[hx]
 .rw[Qmn U,iA U];exact h.rest k U
def QtZ(h:Qlo p0 q w j a)(hj:j<p0.length)(hx:q (O a j)=false):Qlo p0 q w (j+1) a:=by
 have h1:=h.wj
 refine⟨h.len,U,?_,fun k hk=>h.rest k U⟩
 rw[h.rest j (AN _)]at hx
 rw[U1 hj,B4,<-h.done]
 simp[hx]
def InTo(l:Y Int)(m:Nat)(z:Int):Prop:=∃k,k<m/\O l k=z
def Quf(hm:m<=l.length):InTo l m z↔z∈l.take m:=by
 constructor
 .rintro⟨k,hk,rfl⟩
  have:O (l.take m) k=O l k:=by
   simp only[O,AQ,Aq]
   rw[iB hk]
  rw[<-this]
  exact Qf (by simp;omega)
 .intro h
  obtain⟨k,hk,rfl⟩:=Bb h
  rw[Af]at hk
  exact⟨k,U,by simp[O,AQ,AU (show k<l.length by omega)]⟩
def Qyk(h1:1<=j)(hj:j<l.length)(hm:j<m):InTo (QkU l j) m z↔InTo l m z:=by
 unfold InTo
 constructor
 .rintro⟨k,hk,e⟩
  rw[QgL h1 hj]at e
  split at e
  .exact⟨j,hm,e⟩
  .split at e
   .exact⟨j - 1,U,e⟩
   .exact⟨k,hk,e⟩
 .rintro⟨k,hk,e⟩
  by_cases g1:k=j
  .subst g1;exact⟨k - 1,U,by rw[QgL h1 hj,iB rfl];exact e⟩
  .by_cases g2:k=j - 1
   .subst g2;exact⟨j,hm,by rw[QgL h1 hj,iA U,iB rfl];exact e⟩
   .exact⟨k,hk,by rw[QgL h1 hj,iA g2,iA g1];exact e⟩
def QvU(l:Y Int)(n:Nat):Prop:=∀k,1<=k->k<n->O l (k - 1)<O l k
def Qn1(hn:n<=l.length)(h:QvU l n):Asc (l.take n):=by
 have hnth:∀k,k<n->O (l.take n) k=O l k:=fun k hk=>by
  simp only[O,AQ,Aq]
  rw[iB hk]
 have hlt:∀b,b<n->∀a,a<b->O l a<O l b:=by
  intro b
  induction b with
  |zero=>intro _ a ha;omega
  |succ b ih=>
   intro hb a ha
   have h1:=h (b+1) U hb
   rw[Cj]at h1
   by_cases e:a=b
   .subst e;exact h1
   .have:=ih U a U;omega
 have hl:(l.take n).length=n:=by simp;omega
 refine QAl (fun a b hab hb=>?_) (fun k h1 h2=>?_)
 .rw[hl]at hb;rw[hnth a U,hnth b hb];have:=hlt b hb a hab;omega
 .rw[hl]at h2;rw[hnth _ U,hnth k h2];have:=h k h1 h2;omega
structure QnT (p0:Y Int) (m o i k:Nat) (a:Y Int):Prop where
 len:a.length=p0.length
 ik:1<=i/\i<o+k/\o+k<=m/\1<=k
 rest:∀j,o+k<=j+1->O a j=O p0 j
 asc:QvU a i
 last:O a (i - 1)=O p0 (o+k - 1)
 mem:∀z,InTo a i z↔InTo p0 (o+k) z
def QwI(ho:1<=o)(hm:o<m)(ha:QvU p0 o)(he:O p0 o=O p0 (o - 1)):QnT p0 m o o 1 p0:=by
 refine⟨rfl,U,fun _ _=>rfl,ha,by rw[Cj];exact he.symm,fun z=>⟨?_,?_⟩⟩
 .rintro⟨k,hk,e⟩;exact⟨k,U,e⟩
 .rintro⟨k,hk,e⟩
  by_cases h:k=o
  .subst h;exact⟨k - 1,U,by rw[<-he];exact e⟩
  .exact⟨k,U,e⟩
def QBk(h:QnT p0 m o i k a)(hk:o+k<m)(hml:m<=p0.length)(hs:Xm p0 m)(hne:O a (o+k)≠O a (o+k - 1)):QnT p0 m o (i+1) (k+1) (a.set i (O a (o+k))):=by
 have h1:=h.ik
 have h2:=h.len
 have e1:=h.rest (o+k) U
 have e2:=h.rest (o+k - 1) U
 have hlt:O p0 (o+k - 1)<O p0 (o+k):=by
  have:=hs (o+k - 1) (o+k) U hk
  rw[e1,e2]at hne;omega
 have hset:∀j,O (a.set i (O a (o+k))) j=if j=i then O p0 (o+k)else O a j:=fun j=>by rw[Qmn U,e1]
 refine⟨by simp[h.len],U,fun j hj=>?_,fun j hj1 hj2=>?_,?_,fun z=>⟨?_,?_⟩⟩
 .rw[hset,iA U];exact h.rest j U
 .rw[hset,hset,iA (show j - 1≠i by omega)]
  by_cases e:j=i
  .rw[iB e,e,h.last];exact hlt
  .rw[iA e];exact h.asc j hj1 U
 .rw[hset,Cj,iB rfl,show o+(k+1) - 1=o+k by omega]
 .rintro⟨j,hj,e⟩
  rw[hset]at e
  split at e
  .exact⟨o+k,U,e⟩
  .obtain⟨j',hj',e'⟩:=(h.mem z).1 ⟨j,U,e⟩
   exact⟨j',U,e'⟩
 .rintro⟨j,hj,e⟩
  by_cases g:j=o+k
  .exact⟨i,U,by rw[hset,iB rfl,<-g];exact e⟩
  .obtain⟨j',hj',e'⟩:=(h.mem z).2 ⟨j,U,e⟩
   exact⟨j',U,by rw[hset,iA U];exact e'⟩
def QBl(h:QnT p0 m o i k a)(hk:o+k<m)(he:O a (o+k)=O a (o+k - 1)):QnT p0 m o i (k+1) a:=by
 have h1:=h.ik
 have e1:=h.rest (o+k) U
 have e2:=h.rest (o+k - 1) U
 have e3:O p0 (o+k)=O p0 (o+k - 1):=by rw[<-e1,<-e2];exact he
 refine⟨h.len,U,fun j hj=>h.rest j U,h.asc,by rw[h.last,show o+(k+1) - 1=o+k by omega];exact e3.symm,fun z=>⟨fun hz=>?_,?_⟩⟩
 .obtain⟨j',hj',e'⟩:=(h.mem z).1 hz
  exact⟨j',U,e'⟩
 .rintro⟨j,hj,e⟩
  by_cases g:j=o+k
  .exact(h.mem z).2 ⟨o+k - 1,U,by rw[<-e3,<-g];exact e⟩
  .exact(h.mem z).2 ⟨j,U,e⟩
def Qxn:Uc 1000 x y=some (decide (x<y)):=by
 unfold Uc QbA
 by_cases h:x<y<;>simp[V,cd,AM.J,h]
def Qzp(hm:m<=l0.length)(hs:m<=900):
  Ok (Zi 1000 0 m l0 0 (m:Int)) fun r=>r.length=l0.length/\Xm r m/\∀z,InTo r m z↔InTo l0 m z:=by
 unfold Zi
 refine Ok.loop (fun q x=>∃(i:Nat) (a:_),x=((0,m,0,(m:Int),(i:Int),()),a,())/\1<=i/\a.length=l0.length/\Xm a (min i m)/\(∀z,InTo a m z↔InTo l0 m z)/\q=m+1 - i) (m:=m) U
  ⟨1,l0,by rw[Qc U];rfl,U,rfl,fun a b h1 h2=>U,fun z=>Iff.rfl,U⟩ ?_
 rintro q x ⟨i,a,rfl,h1,h2,h3,h4,rfl⟩ K hK
 dsimp only
 refine Ok.ite (fun hi=>?_) (fun hi=>Ok.s ⟨h2,by rw[show min i m=m by omega]at h3;exact h3,h4⟩)
 have hlt:i<m:=U
 rw[show min i m=i by omega]at h3
 refine Ok.j ?_
 refine Ok.loop (fun q x=>∃j a',x=((0,m,0,(m:Int),(i:Int),((j:Nat):Int),()),a',())/\j<=i/\a'.length=l0.length/\QnS a' (i+1) j/\(∀z,InTo a' m z↔InTo l0 m z)/\q=j) (m:=i) U
  ⟨i,a,rfl,U,h2,Qki h3,h4,rfl⟩ ?_
 rintro q x ⟨j,a',rfl,g1,g2,g3,g4,hqj⟩ K2 hK2
 dsimp only
 have fin:(j=0\/O a' (j - 1)<=O a' j)->Ok (K ((0,m,0,(m:Int),X ((i:Int)+1),()),a',())) fun r=>r.length=l0.length/\Xm r m/\∀z,InTo r m z↔InTo l0 m z:=fun he=>by
  rw[Qa U]
  exact hK (m+1 - (i+1)) _ U ⟨i+1,a',rfl,U,g2,by rw[show min (i+1) m=i+1 by omega];exact Qn3 g3 he,g4,rfl⟩
 refine Ok.j (Ok.ite (fun hj=>?_) (fun hj=>fin (.inl U)))
 have hw:X ((j:Int) - 1)=((j - 1:Nat):Int):=by rw[Qc U];omega
 rw[hw]
 refine Ok.natn (Ok.E ?_)
 rw[Aj]
 refine Ok.G (Ok.natn (Ok.E ?_))
 rw[Aj]
 refine Ok.G (Ok.oe Qxn (Ok.ite (fun hless=>?_) (fun hless=>fin (.inr U))))
 dsimp only
 rw[hw]
 refine Ok.natn (Ok.E ?_)
 rw[Aj]
 refine Ok.G (Ok.natn (Ok.E ?_))
 refine Ok.G (Ok.natn (Ok.E ?_))
 refine Ok.G (Ok.natn (Ok.E ?_))
 refine Ok.get (by simp;omega) ?_
 have hsw:(a'.set (0+j) (O a' (j - 1))).set (0+(j - 1)) (O a' (0+j))=QkU a' j:=by simp only[Aj];rfl
 rw[hsw]
 exact hK2 (j - 1) _ U ⟨j - 1,QkU a' j,rfl,U,by rw[Qz5];exact g2,QlC g3 U U U hless,fun z=>(Qyk U U U).trans (g4 z),rfl⟩
def Qwz:∀m:Nat,m<13->(QbI 1000 (IntKind.wrap .u64 (m:Int))).isSome=true:=by decide
def QCf(hm:m<=l0.length)(hs:m<=12):
  Ok (WP 1000 0 m l0) fun r=>r.length=l0.length/\Xm r m/\∀z,InTo r m z↔InTo l0 m z:=by
 unfold WP
 rw[Bj]
 obtain⟨bv,hb⟩:=Cn.1 (Qwz m U)
 refine Ok.oe hb (Ok.opt (P:=fun r=>r.length=l0.length/\Xm r m/\∀z,InTo r m z↔InTo l0 m z) ?_ fun r hr=>Ok.ck hr.1 (Ok.s hr))
 unfold YV
 refine Ok.loop (fun q x=>x=((0,m,0,(m:Int),bv,true,true,()),l0,())) (m:=0) U rfl ?_
 rintro q x rfl K hK
 dsimp only
 refine Ok.p (by rw[Qc U];omega) (Ok.opt (Qzp hm U) fun r hr=>Ok.ck hr.1 (Ok.s hr))
def QuX(hm:m<=l0.length)(hs:m<=900)(hl:l0.length<=34359738368)(hso:Xm l0 m):
  Ok (Xy 1000 0 m l0) fun r=>r.1=0/\r.2.1<=m/\r.2.2.length=l0.length/\Asc (r.2.2.take r.2.1)/\∀z,z∈r.2.2.take r.2.1↔InTo l0 m z:=by
 have done:∀(a:Y Int) (i:Nat),a.length=l0.length->i<=m->QvU a i->(∀z,InTo a i z↔InTo l0 m z)->Asc (a.take i)/\∀z,z∈a.take i↔InTo l0 m z:=fun a i h1 h2 h3 h4=>
  ⟨Qn1 U h3,fun z=>by rw[<-Quf U];exact h4 z⟩
 unfold Xy
 rw[Bj]
 refine Ok.ite (fun h=>Ok.s ⟨rfl,AN _,rfl,done l0 m rfl (AN _) (fun k h1 h2=>U) fun z=>Iff.rfl⟩) fun h=>?_
 refine Ok.loop (fun q x=>∃i:Nat,x=((0,m,(i:Int),()),l0,())/\1<=i/\i<=m/\QvU l0 i/\q=m - i) (m:=m - 1) U ⟨1,rfl,U,U,fun k h1 h2=>U,rfl⟩ ?_
 rintro q x ⟨i,rfl,h1,h2,h3,rfl⟩ K hK
 dsimp only
 rw[Bj]
 refine Ok.ite (fun hi=>?_) (fun hi=>?_)
 .have hw:X ((i:Int) - 1)=((i - 1:Nat):Int):=by rw[Qc U];omega
  rw[hw]
  refine Ok.natn (Ok.E ?_)
  rw[Aj]
  refine Ok.G (Ok.natn (Ok.E ?_))
  rw[Aj]
  refine Ok.G (Ok.ite (fun he=>?_) (fun hne=>?_))
  .refine Ok.natn (Ok.E ?_)
   rw[Aj,Aj]
   refine Ok.loop (fun q x=>∃(w k:Nat) (a:Y Int),x=((0,m,(w:Int),i,m,(k:Int),()),a,())/\QnT l0 m i w k a/\q=m - i - k) (m:=m - i - 1) U ⟨i,1,l0,rfl,QwI h1 U h3 he,rfl⟩ ?_
   rintro q x ⟨w,k,a,rfl,hinv,rfl⟩ K2 hK2
   have hik:=hinv.ik
   have hal:=hinv.len
   dsimp only
   refine Ok.ite (fun hk=>?_) (fun hk=>?_)
   .have hw2:X ((k:Int) - 1)=((k - 1:Nat):Int):=by rw[Qc U];omega
    rw[hw2]
    refine Ok.j (Ok.natn (Ok.E (Ok.G (Ok.natn (Ok.E (Ok.G ?_))))))
    refine Ok.ite (fun hd=>?_) (fun hd=>?_)
    .refine Ok.natn (Ok.E (Ok.G (Ok.natn (Ok.E ?_))))
     rw[Aj]
     refine Ok.G ?_
     dsimp only
     rw[Qa U,Qa U]
     exact hK2 (m - i - (k+1)) _ U ⟨w+1,k+1,_,rfl,QBk hinv U hm hso (by rw[show i+k - 1=i+(k - 1)by omega];exact hd),rfl⟩
    .dsimp only
     rw[Qa U]
     exact hK2 (m - i - (k+1)) _ U ⟨w,k+1,a,rfl,QBl hinv U (by rw[show i+k - 1=i+(k - 1)by omega];exact Ag.1 hd),rfl⟩
   .have ek:i+k=m:=U
    refine Ok.natn (Ok.E (Ok.L (Ok.L (Ok.natn (Ok.L (Ok.s ?_))))))
    simp only[Aj,Bj,Bv]
    have hd:=done a w hal U hinv.asc (by rw[<-ek];exact hinv.mem)
    have ht:(List.take w a++List.replicate (m - w) 0++List.drop m a).take w=a.take w:=by
     grind
    refine⟨trivial,U,by simp;omega,?_,?_⟩
    .rw[ht];exact hd.1
    .rw[ht];exact hd.2
  .rw[Qa U]
   have hlt:O l0 (i - 1)<O l0 i:=by
    have:=hso (i - 1) i U U;omega
   refine hK (m - (i+1)) _ U ⟨i+1,rfl,U,U,fun k a1 a2=>?_,rfl⟩
   by_cases e:k=i
   .subst e;exact hlt
   .exact h3 k a1 U
 .obtain rfl:i=m:=U
  exact Ok.s ⟨rfl,AN _,rfl,done l0 i rfl (AN _) h3 fun z=>Iff.rfl⟩
def inC(x:Int):AH:=decide (0<=x/\x<=3)
def pIn:Yy fu n lo hi=some (decide (lo<=n/\n<=hi)):=cnd2
def people1(h:Ze n c):W7 1000 x c=some (!inC x):=by
 unfold W7
 rw[h.plen,show X (((4:Nat):Int) - 1)=3 from rfl,pIn,ZZ,Vh]
 rfl
def QBo(h:Ze n c)(hl:l0.length<=900):
  Ok (QV 1000 l0 c) fun r=>r.1=0/\r.2.1<=l0.length/\r.2.2.length=l0.length/\r.2.2.take r.2.1=l0.filter inC:=by
 unfold QV
 have hidx:Ok (QY 1000 l0 c) fun r=>r = -1/\(∀j,j<l0.length->inC (O l0 j)=true)\/∃i:Nat,r=(i:Int)/\i<l0.length/\inC (O l0 i)=false/\∀j,j<i->inC (O l0 j)=true:=by
  unfold QY
  refine Ok.scan l0.length (fun i=>(((l0.length:Int),(i:Int),()),c,l0,())) (fun i=>!inC (O l0 i)) rfl U (fun i hi hq hj k=>?_) (fun i hi hq k hk=>?_) (fun hq k=>?_)
  .refine Ok.P (Ok.natn (Ok.lt hi (Ok.get hi (Ok.oe (people1 h) (Ok.bt hq (Ok.TF (Ok.TF (Ok.s (.inr ⟨i,rfl,hi,by simpa using hq,fun j hj'=>by simpa using hj j hj'⟩)))))))))
  .refine Ok.P (Ok.natn (Ok.lt hi (Ok.get hi (Ok.oe (people1 h) (Ok.bf hq ?_)))))
   rw[Qa U];exact hk
  .exact Ok.N (Ok.TF (Ok.TF (Ok.s (.inl ⟨rfl,fun j hj=>by simpa using hq j hj⟩))))
 refine Ok.opt hidx fun r hr=>?_
 rcases hr with⟨rfl,hall⟩|⟨i,rfl,hi,hx,hj⟩
 .refine Ok.p rfl (Ok.TF (Ok.s ⟨rfl,AN _,rfl,?_⟩))
  have:=QjP (q:=inC) (AN _) hall
  grind
 .refine Ok.N ?_
  rw[Qa U]
  refine Ok.loop (fun q x=>∃(w j:Nat) (a:Y Int),x=(((w:Int),(j:Int),()),c,a,())/\Qlo l0 inC w j a/\q=l0.length - j) (m:=l0.length - (i+1)) U ⟨i,i+1,l0,rfl,Qq1 hi hj hx,rfl⟩ ?_
  rintro q x ⟨w,j,a,rfl,hinv,rfl⟩ K hK
  have h1:=hinv.wj
  have h2:=hinv.len
  dsimp only
  refine Ok.ite (fun hlt=>?_) (fun hge=>?_)
  .refine Ok.j (Ok.natn (Ok.E (Ok.G (Ok.oe (people1 h) ?_))))
   rw[Eb]
   refine Ok.J (fun hq=>?_) (fun hq=>?_)
   .refine Ok.natn (Ok.E (Ok.G ?_))
    dsimp only
    rw[Qa U,Qa U]
    exact hK _ _ U ⟨w+1,j+1,_,rfl,QtY hinv U hq,rfl⟩
   .dsimp only
    rw[Qa U]
    exact hK _ _ U ⟨w,j+1,a,rfl,QtZ hinv U hq,rfl⟩
  .have ej:j=l0.length:=U
   have hd:=hinv.done
   rw[ej,Ad]at hd
   refine Ok.natn (Ok.L (Ok.L (Ok.L (Ok.natn (Ok.LS (Ok.TF (Ok.s ?_)))))))
   grind
def QcT(c:D.E)(b:D.a)(x:D.FP)(t:Int):Y Int:=if x.Z=0 then[x.Fa]else if x.Z=1 then[whoV c x.Fa t]else(O b.t x.Fa.toNat).r
def Qzy(h:Ze n c)(hn:n<=48)(hb:QQ b)(hx:Uq b.t.length x):Qc2 1000 c b x t=some (QcT c b x t):=by
 have hpl:=h.plen;have hsl:=h.slen;have htl:=hb.tlen
 have h1:=hx.lo;have h2:=hx.person;have h3:=hx.sched;have h4:=hx.team
 have hsz:W9 1000 c b=some ⟨4,2,(b.t.length:Int)⟩:=by unfold W9;rw[hpl,hsl];rfl
 refine Ok.eq ?_
 unfold Qc2 QcT
 refine Ok.j (Ok.oe pIn (Ok.p (by have:=hx.kind;omega) (Ok.oe hsz ?_)))
 dsimp only
 rcases hx.kind with hk|hk|hk
 .have:=h2 hk
  refine Ok.P (Ok.oe pIn (Ok.p (by rw[Qc U];omega) (Ok.N (Ok.N (Ok.s ?_)))))
  rw[iB hk]
 .have:=h3 hk
  refine Ok.N (Ok.P (Ok.oe pIn (Ok.p (by rw[Qc U];omega) (Ok.p hk (Ok.oe (QDd h hn) (Ok.s ?_))))))
  simp_all
 .have:=h4 hk
  refine Ok.N (Ok.N (Ok.P (Ok.oe pIn (Ok.p (by rw[Qc U];omega) (Ok.N (Ok.p hk (Ok.at h1 U (Ok.s ?_))))))))
  simp_all
def QjT(hb:QQ b)(hx:Uq b.t.length x):(QcT c b x t).length<=2:=by
 unfold QcT
 split
 .simp
 .split
  .simp
  .have h4:=hx.team (by have:=hx.kind;omega)
   have h1:=hx.lo
   exact(hb.team _ (Qf U)).len.2
def Qoh(h:Ze n c)(hx:Uq b.t.length x)(hz:0<=z/\z<=3):z∈QcT c b x t↔z∈QdH c b x t:=by
 unfold QcT QdH
 have h1:=hx.lo;have h4:=hx.team
 rcases hx.kind with hk|hk|hk
 .simp_all
 .grind
 .simp_all
def QxC(h:Ze n c)(hn:n<=48)(hb:QQ b)(hl:∀x∈l,Uq b.t.length x)(hlen:l.length<=6):
  Ok (QbL 1000 c b l t) fun r=>r.1=0/\r.2.1<=r.2.2.length/\r.2.2.length<=12/\r.2.2.take r.2.1=VA c b l t:=by
 unfold QbL
 refine Ok.run l.length (fun i=>((t,l,(l.length:Int),(i:Int),()),c,b,(l.take i).flatMap (fun x=>QcT c b x t),())) Ob U (fun i hi k hk=>?_) (fun k=>?_)
 .dsimp only
  have hx:=hl _ (Qf hi)
  have hle:((l.take i).flatMap (fun x=>QcT c b x t)).length<=2*i:=by
   rw[E1]
   have:∀(m:Y D.FP),(∀x∈m,Uq b.t.length x)->(m.map (fun x=>(QcT c b x t).length)).sum<=2*m.length:=by
    intro m hm
    induction m with
    |nil=>simp
    |cons y m ih=>
     have h1:=QjT (c:=c) (t:=t) hb (hm y (BA ..))
     grind
   grind
  have hm2:=QjT (c:=c) (t:=t) hb hx
  refine Ok.P (Ok.atn hi (Ok.oe (Qzy h hn hb hx) (Ok.L ?_)))
  rw[Qa U]
  have e:(l.take i).flatMap (fun x=>QcT c b x t)++QcT c b (O l i) t=(l.take (i+1)).flatMap (fun x=>QcT c b x t):=by
   rw[<-Qn hi,List.flatMap_append];simp
  rw[e];exact hk
 .dsimp only
  rw[Ad]
  obtain⟨L0,hL0⟩:∃L0,l.flatMap (fun x=>QcT c b x t)=L0:=⟨_,rfl⟩
  have hle:L0.length<=12:=by
   rw[<-hL0,E1]
   have:∀(m:Y D.FP),(∀x∈m,Uq b.t.length x)->(m.map (fun x=>(QcT c b x t).length)).sum<=2*m.length:=by
    intro m hm
    induction m with
    |nil=>simp
    |cons y m ih=>
     have h1:=QjT (c:=c) (t:=t) hb (hm y (BA ..))
     grind
   grind
  rw[hL0]
  refine Ok.N (Ok.opt (QBo h U) fun⟨a0,a1,a2⟩ ⟨g1,g2,g3,g4⟩=>?_)
  dsimp only at g1 g2 g3 g4 |-
  subst g1
  refine Ok.opt (QCf U U) fun r ⟨s1,s2,s3⟩=>Ok.ck s1 ?_
  refine Ok.opt (QuX U U U s2) fun⟨b0,b1,b2⟩ ⟨k1,k2,k3,k4,k5⟩=>Ok.s ?_
  dsimp only at k1 k2 k3 k4 k5 |-
  refine⟨k1,U,U,Qon k4 fun z=>?_⟩
  rw[k5,s3,Quf U,g4,Bk,<-hL0,List.mem_flatMap]
  unfold Means inC
  rw[BL]
  constructor
  .rintro⟨⟨x,hx1,hx2⟩,hz⟩
   exact⟨hz.1,U,x,hx1,(Qoh h (hl x hx1) hz).1 hx2⟩
  .rintro⟨hz1,hz2,x,hx1,hx2⟩
   exact⟨⟨x,hx1,(Qoh h (hl x hx1) ⟨hz1,U⟩).2 hx2⟩,hz1,U⟩
open Go AM
def Qnj:∀i,(Qaa l x i).1.length<=2*i
 |0=>by simp[Qaa]
 |i+1=>by
  have:=Qnj (l:=l) (x:=x) i
  simp only[Qaa,Ac]
  have h1:(if (Qaa l x i).2=false/\x<=O l i then[x]else[]).length<=1:=by split<;>simp
  have h2:(if O l i≠x then[O l i]else[]).length<=1:=by split<;>simp
  omega
def QAj(hl:l.length<=400):VW 1000 l x=some (Qst l x):=by
 refine Ok.eq ?_
 unfold VW
 refine Ok.run l.length (fun i=>((l,x,(Qaa l x i).2,(i:Int),()),(Qaa l x i).1,())) rfl U (fun i hi k hk=>?_) (fun k=>?_)
 .dsimp only
  have hlen:=Qnj (l:=l) (x:=x) i
  rw[Qaa]at hk
  refine Ok.P (Ok.j (Ok.j ?_))
  have fin:∀(d:AH) (o:Y Int),o.length<=2000->d=((Qaa l x i).2 || decide (x<=O l i))->o=(Qaa l x i).1++(if (Qaa l x i).2=false/\x<=O l i then[x]else[])->
    Ok (TN l (i:Int) fun a17=>AM.J (decide (a17≠x)) (TN l (i:Int) fun a18=>AM.TO (o.length+[a18].length) 34359738368 (k ((l,x,d,X ((i:Int)+1),()),o++[a18],()))) (k ((l,x,d,X ((i:Int)+1),()),o,()))) (·=Qst l x):=fun d o ho hd he=>by
   rw[Qa U]
   rw[hd,he]
   refine Ok.atn hi (Ok.ite (fun h=>Ok.atn hi (Ok.TO (by rw[<-he];simp;omega) ?_)) (fun h=>?_))
   .simp_all
   .simp_all
  refine Ok.J (fun hd=>?_) (fun hd=>Ok.atn hi (Ok.ite (fun hx=>Ok.LS ?_) (fun hx=>?_)))
  .grind
  .grind
  .grind
 .dsimp only
  have hlen:=Qnj (l:=l) (x:=x) l.length
  refine Ok.N (Ok.j (Ok.ncnd (fun hd=>Ok.LS (Ok.s ?_)) (fun hd=>Ok.s ?_)))
  .unfold Qst;rw[iA (by rw[hd];simp)]
  .unfold Qst;rw[iB hd]
def q25In:QI fu n lo hi=some (decide (lo<=n/\n<=hi)):=cnd2
def Qvb(hi:i<l.length):Means c b (l.take (i+1)) t z↔Means c b (l.take i) t z\/(0<=z/\z<4/\z∈QdH c b (O l i) t):=by
 unfold Means
 rw[<-Qn hi]
 grind
def QtN(h:Asc o)(hm:∀z∈o,0<=z/\z<4):o.length<=4:=by
 have e:o=([0,1,2,3]:Y Int).filter fun z=>o.contains z:=Qfv h (CP _ asc4) fun z=>by
  grind
 grind
def Qvi(h:Ze n c)(hn:n<=48)(hb:QQ b)(hl:∀x∈l,Uq b.t.length x)(hlen:l.length<=400):QdS 1000 c b l t=some (VA c b l t):=by
 have hpl:=h.plen;have hsl:=h.slen;have htl:=hb.tlen
 refine Ok.eq ?_
 unfold QdS
 refine Ok.run l.length (fun i=>((l,t,VA c b (l.take i) t,(i:Int),()),c,b,())) (by rw[BW];rfl) U (fun i hi k hk=>?_) (fun k=>?_)
 .dsimp only
  have hx:=hl _ (Qf hi)
  obtain⟨x,hxx⟩:∃x,O l i=x:=⟨_,rfl⟩
  have hpe:=Qh4 (c:=c) (b:=b) (l:=l.take i) (t:=t)
  have hple:=Qh5 (c:=c) (b:=b) (l:=l.take i) (t:=t)
  have fin:∀o:Y Int,Asc o->(∀z,z∈o↔Means c b (l.take i) t z\/(0<=z/\z<4/\z∈QdH c b x t))->Ok (k ((l,t,o,X ((i:Int)+1),()),c,b,())) (·=VA c b l t):=fun o ho hm=>by
   rw[Qa U,Qon ho (fun z=>by rw[hm,Qvb hi,hxx])]
   exact hk
  have one:∀v,0<=v/\v<4->(∀z,0<=z/\z<4->(z∈QdH c b x t↔z=v))->Ok (k ((l,t,Qst (VA c b (l.take i) t) v,X ((i:Int)+1),()),c,b,())) (·=VA c b l t):=fun v hv hm=>
   fin _ (Qhc hpe).1 fun z=>by
    rw[(Qhc hpe).2,Qcm]
    constructor
    .rintro(hz|rfl)
     .exact .inl hz
     .exact .inr ⟨hv.1,hv.2,(hm _ hv).2 rfl⟩
    .rintro(hz|⟨h1,h2,hz⟩)
     .exact .inl hz
     .exact .inr ((hm z ⟨h1,h2⟩).1 hz)
  have none_:(∀z,0<=z/\z<4->¬z∈QdH c b x t)->Ok (k ((l,t,VA c b (l.take i) t,X ((i:Int)+1),()),c,b,())) (·=VA c b l t):=fun hm=>
   fin _ hpe fun z=>by
    rw[Qcm]
    exact⟨.inl,fun h=>h.elim id fun⟨h1,h2,hz⟩=>absurd hz (hm z ⟨h1,h2⟩)⟩
  rw[hxx]at hx
  rw[hpl,hsl]
  have h1:=hx.lo;have h2:=hx.person;have h3:=hx.sched;have h4:=hx.team
  refine Ok.P (Ok.j (Ok.atn hi ?_))
  rw[hxx]
  rcases hx.kind with hkd|hkd|hkd
  .have:=h2 hkd
   refine Ok.p hkd (Ok.oe q25In (Ok.p (by rw[Qc U];omega) (Ok.oe (QAj U) ?_)))
   exact one _ ⟨h1,U⟩ fun z hz=>by unfold QdH;rw[iB hkd];simp
  .have:=h3 hkd
   refine Ok.N (Ok.p hkd (Ok.oe q25In (Ok.p (by rw[Qc U];omega) (Ok.oe (QCp h hn) ?_))))
   have hw:=QCq h (i:=x.Fa) (t:=t)
   refine Ok.ite (fun hge=>Ok.oe (QAj U) ?_) (fun hlt=>?_)
   .exact one _ ⟨hge,hw.2⟩ fun z hz=>by unfold QdH;rw[iA U,iB hkd,iA U];simp
   .exact none_ fun z hz=>by unfold QdH;rw[iA U,iB hkd,iB U];simp
  .have:=h4 hkd
   refine Ok.N (Ok.N (Ok.p hkd (Ok.oe q25In (Ok.p (by rw[Qc U];omega) ?_))))
   obtain⟨tm,htm⟩:∃tm,O b.t x.Fa.toNat=tm:=⟨_,rfl⟩
   have hteam:=hb.team _ (Qf (l:=b.t) (i:=x.Fa.toNat) U)
   rw[htm]at hteam
   have hmv:QdH c b x t=tm.r:=by unfold QdH;rw[iA U,iA U,iB ⟨hkd,h1,h4 hkd⟩,htm]
   have hml:=hteam.len
   refine Ok.loop (fun q y=>∃(j:Nat) (o:Y Int),y=((l,t,o,(i:Int),(j:Int),()),c,b,x,())/\j<=tm.r.length/\Asc o/\(∀z,z∈o↔Means c b (l.take i) t z\/(0<=z/\z<4/\z∈tm.r.take j))/\q=tm.r.length - j) (m:=tm.r.length) U
    ⟨0,_,rfl,U,hpe,fun z=>by rw[Qcm];simp,U⟩ ?_
   rintro q y ⟨j,o,rfl,a1,a2,a4,rfl⟩ K hK
   have a3:=QtN a2 (fun z hz=>by
    rcases(a4 z).1 hz with g|g
    .exact⟨g.1,g.2.1⟩
    .exact⟨g.1,g.2.1⟩)
   dsimp only
   refine Ok.at h1 U ?_
   rw[htm]
   refine Ok.ite (fun hj=>?_) (fun hj=>?_)
   .have hmem:=hteam.mem _ (Qf (l:=tm.r) (i:=j) U)
    refine Ok.j (Ok.at h1 U ?_)
    rw[htm]
    refine Ok.A ?_
    rw[hpl]
    refine Ok.oe q25In (Ok.p (by rw[Qc U];omega) (Ok.at h1 U ?_))
    rw[htm]
    refine Ok.A (Ok.oe (QAj U) ?_)
    dsimp only
    rw[Qa U]
    refine hK _ _ U ⟨j+1,_,rfl,U,(Qhc a2).1,fun z=>?_,rfl⟩
    rw[(Qhc a2).2,a4,UB U]
    constructor
    .rintro((hz|⟨z1,z2,z3⟩)|rfl)
     .exact .inl hz
     .exact .inr ⟨z1,z2,.inl z3⟩
     .exact .inr ⟨hmem.1,hmem.2,.inr rfl⟩
    .rintro(hz|⟨z1,z2,z3|z3⟩)
     .exact .inl (.inl hz)
     .exact .inl (.inr ⟨z1,z2,z3⟩)
     .exact .inr z3
   .have ej:j=tm.r.length:=U
    rw[ej,Ad]at a4
    exact fin o a2 fun z=>by rw[a4,hmv]
 .dsimp only
  refine Ok.N (Ok.s ?_)
  rw[Ad]
def QB9(hx:x.length<=900):Qi8 1000 x y=some (decide (x=y)):=by
 refine Ok.eq ?_
 unfold Qi8
 refine Ok.ite (fun h=>Ok.s ?_) (fun h=>?_)
 .grind
 .have hl:x.length=y.length:=U
  refine Ok.scan x.length (fun i=>((x,y,(i:Int),()),())) (fun i=>decide (O x i≠O y i)) rfl U (fun i hi hq _ k=>?_) (fun i hi hq k hk=>?_) (fun hq k=>?_)
  .have hq:=BE hq
   refine Ok.P (Ok.atn hi (Ok.A (Ok.p hq (Ok.s ?_))))
   grind
  .have hq:=BG hq
   refine Ok.P (Ok.atn hi (Ok.A (Ok.n hq ?_)))
   rw[Qa U];exact hk
  .refine Ok.N (Ok.s ?_)
   rw[Ax]
   refine EB hl fun i h1 h2=>?_
   have:=BG (hq i h1)
   simpa [O,AQ,AU h1,AU h2]using this
def QcR(hl:l.length<=900):Qdr 1000 l x=some (l.contains x):=by
 refine Ok.eq ?_
 unfold Qdr
 refine Ok.scan l.length (fun i=>((l,x,(i:Int),()),())) (fun i=>decide (O l i=x)) rfl U (fun i hi hq _ k=>?_) (fun i hi hq k hk=>?_) (fun hq k=>?_)
 .have hq:=BE hq
  refine Ok.P (Ok.atn hi (Ok.p hq (Ok.s ?_)))
  exact(Bg.2 (hq ▸ Qf hi)).symm
 .have hq:=BG hq
  refine Ok.P (Ok.atn hi (Ok.n hq ?_))
  rw[Qa U];exact hk
 .refine Ok.N (Ok.s ?_)
  symm
  rw[C4]
  intro h
  obtain⟨i,hi,e⟩:=Bb (Bg.1 h)
  refine BG (hq i hi) ?_
  simpa [O,AQ,AU hi]using e
def QfF[AK α]{l:Y α}(h:i<l.length):l.drop i=O l i::l.drop (i+1):=by
 rw[EJ h]
 simp[O,AQ,AU h]
def ein:Q7 fu x lo hi=some (inV x lo hi):=by
 unfold Q7 inV
 by_cases h1:lo<=x<;>by_cases h2:x<=hi<;>simp[cd,AM.J,h1,h2]
def aiN:Us fu x lo hi=some (inV x lo hi):=by
 unfold Us inV
 by_cases h1:lo<=x<;>by_cases h2:x<=hi<;>simp[cd,AM.J,h1,h2]
def Qkm{l:Y Int}{i:Nat}{x:Int}(hi:i<l.length)(h:decide (x=O l i)=true):l.contains x=true:=by
 rw[BE h];exact Bg.2 (Qf hi)
def QlP{l:Y Int}{x:Int}(h:∀j,j<l.length->decide (x=O l j)=false):l.contains x=false:=by
 cases hb:l.contains x with
 |false=>rfl
 |true=>
  obtain⟨j,hj,e⟩:=Bb (Bg.1 hb)
  have:=BG (h j hj)
  exact absurd (by simp[O,AQ,AU hj,e]) this
def Qej(hl:l.length<900):Yq 1000 l x=some (l.contains x):=by
 refine Ok.eq ?_
 unfold Yq Qbk
 refine Ok.opt (P:=fun r=>decide (0<=r)=l.contains x) ?_ fun r hr=>Ok.s hr
 refine Ok.scan l.length (fun i=>((l,x,(l.length:Int),(i:Int),()),())) (fun i=>decide (x=O l i)) rfl U (fun i hi hq _ k=>?_) (fun i hi hq k hk=>?_) (fun hq k=>?_)
 .refine Ok.P (Ok.atn hi (Ok.bt hq (Ok.s ?_)))
  rw[Qkm hi hq];simp
 .refine Ok.P (Ok.atn hi (Ok.bf hq ?_))
  rw[Qa U];exact hk
 .refine Ok.N (Ok.s ?_)
  rw[QlP hq];rfl
def QaP(hl:l.length<900):Zw 1000 l x=some (l.contains x):=by
 refine Ok.eq ?_
 unfold Zw U0
 refine Ok.opt (P:=fun r=>decide (0<=r)=l.contains x) ?_ fun r hr=>Ok.TF (Ok.s hr)
 refine Ok.scan l.length (fun i=>((x,(l.length:Int),(i:Int),()),l,())) (fun i=>decide (x=O l i)) rfl U (fun i hi hq _ k=>?_) (fun i hi hq k hk=>?_) (fun hq k=>?_)
 .refine Ok.P (Ok.natn (Ok.lt hi (Ok.get hi (Ok.bt hq (Ok.TF (Ok.s ?_))))))
  rw[Qkm hi hq];simp
 .refine Ok.P (Ok.natn (Ok.lt hi (Ok.get hi (Ok.bf hq ?_))))
  rw[Qa U];exact hk
 .refine Ok.N (Ok.TF (Ok.s ?_))
  rw[QlP hq];rfl
def badS(l:Y Int)(i:Nat):AH:=!(decide (0<=O l i) && decide (O l i<=31) && (decide (i=0) || decide (O l (i - 1)<O l i)))
def QuD(hi:i<l.length)(h:badS l i=true):setV l=false:=by
 cases hb:setV l with
 |false=>rfl
 |true=>
  have hs:=Qax.1 hb
  have h1:=hs.2 _ (Qf hi)
  have h2:0<i->O l (i - 1)<O l i:=fun h0=>QjD hs.1 U hi
  unfold badS at h
  grind
def Qsf(h:∀j,j<l.length->badS l j=false):setV l=true:=by
 have hk:∀j,j<l.length->0<=O l j/\O l j<=31/\(j=0\/O l (j - 1)<O l j):=fun j hj=>by
  have:=h j hj
  unfold badS at this
  grind
 refine Qax.2 ⟨?_,fun x hx=>?_⟩
 .have:=Qn1 (l:=l) (n:=l.length) (AN _) fun k h1 h2=>by have:=(hk k h2).2.2;omega
  simp_all
 .obtain⟨j,hj,e⟩:=Bb hx
  have:=hk j hj
  rw[show O l j=x by simp[O,AQ,AU hj,e]]at this
  omega
def QAG(hl:l.length<900):QaR 1000 l=some (setV l):=by
 refine Ok.eq ?_
 unfold QaR
 refine Ok.scan l.length (fun i=>((l,l,(l.length:Int),(i:Int),()),())) (badS l) rfl U (fun i hi hq _ k=>?_) (fun i hi hq k hk=>?_) (fun hq k=>?_)
 .refine Ok.P (Ok.j (Ok.atn hi (Ok.oe ein ?_)))
  rw[QuD hi hq]
  refine Ok.J (fun h1=>?_) (fun h1=>Ok.s rfl)
  by_cases h0:0<i
  .refine Ok.P ?_
   rw[show X ((i:Int) - 1)=((i - 1:Nat):Int)by rw[Qc U];omega]
   refine Ok.A (Ok.p ?_ (Ok.s rfl))
   unfold badS at hq
   unfold inV at h1
   simp_all
  .unfold badS at hq
   unfold inV at h1
   simp_all
 .refine Ok.P (Ok.j (Ok.atn hi (Ok.oe ein ?_)))
  unfold badS at hq
  simp only[Co,bae,B0,BL]at hq
  refine Ok.bt (by unfold inV;simp[hq.1.1,hq.1.2]) ?_
  dsimp only
  rw[Qa U]
  by_cases h0:0<i
  .refine Ok.P ?_
   rw[show X ((i:Int) - 1)=((i - 1:Nat):Int)by rw[Qc U];omega]
   exact Ok.A (Ok.N hk)
  .exact Ok.N hk
 .exact Ok.N (Ok.s (Qsf hq).symm)
def Qlj{l:Y Int}(hi:i<l.length)(h:(l.take i).contains (O l i)=true):decide l.Nodup=false:=by
 refine Au fun hn=>?_
 have hm:=Bg.1 h
 have e:l=l.take i++(O l i::l.drop (i+1)):=by rw[<-QfF hi,Bp]
 grind
def Qse{l:Y Int}(h:∀j,j<l.length->(l.take j).contains (O l j)=false):l.Nodup:=by
 have:∀i,i<=l.length->(l.take i).Nodup:=by
  intro i
  induction i with
  |zero=>intro _;simp
  |succ i ih=>
   intro hi
   rw[U1 U]
   grind
 have:=this l.length (AN _)
 simp_all
def QCa(hl:l.length<900):QbD 1000 l=some (QnM l):=by
 refine Ok.eq ?_
 unfold QbD QnM
 refine Ok.scan l.length (fun i=>((l,l,(l.length:Int),(i:Int),()),())) (fun i=>(l.take i).contains (O l i)) rfl U (fun i hi hq _ k=>?_) (fun i hi hq k hk=>?_) (fun hq k=>?_)
 .refine Ok.P (Ok.atn hi (Ok.natn (Ok.L (Ok.oe (Qej (by simp;omega)) (Ok.bt hq (Ok.s ?_))))))
  rw[Qlj hi hq];rfl
 .refine Ok.P (Ok.atn hi (Ok.natn (Ok.L (Ok.oe (Qej (by simp;omega)) (Ok.bf hq ?_)))))
  rw[Qa U];exact hk
 .refine Ok.N (Ok.s ?_)
  rw[Ax (Qse hq),B8]
  grind
structure QA (p:D.Page):Prop where
 st:p.P.length<=300
 pe:∀s∈p.P,s.k.length<=40/\-1000000<=s.K/\s.K<=1000000
 de:p.i.length<=40
 se:p.g.length<=100
 nx : -1000000<=p.E9/\p.E9<=1000000
def QvG(h:QA p):VR 1000 p=some (Qil p):=by
 have hst:=h.st
 have hnx:=h.nx
 refine Ok.eq ?_
 unfold VR Qil
 refine Ok.loop (fun m x=>∃(i:Nat) (k t:Int),x=((t,k,p.P,(p.P.length:Int),(i:Int),()),p,())/\i<=p.P.length/\-1<=k/\k<=1000000/\WH p.E9 k t (p.P.drop i)=WH p.E9 (-1) p.R p.P/\m=p.P.length - i) (m:=p.P.length) U
  ⟨0,-1,p.R,rfl,U,U,U,rfl,rfl⟩ ?_
 rintro m x ⟨i,k,t,rfl,h1,h2,h2',h3,rfl⟩ K hK
 dsimp only
 refine Ok.ite (fun hi=>?_) (fun hi=>?_)
 .have hlt:i<p.P.length:=U
  have hs:=h.pe _ (Qf hlt)
  refine Ok.atn hlt (Ok.j ?_)
  obtain⟨s,hse⟩:∃s,O p.P i=s:=⟨_,rfl⟩
  rw[QfF hlt,WH,hse]at h3
  rw[hse]at hs |-
  rw[<-h3]
  have next:(decide (t<=s.At) && (decide (s.K = -1) || decide (0<=s.K) && decide (k<s.K) && decide (s.K<p.E9)) && setV s.k)=true->
    Ok (K ((s.At,max k s.K,p.P,(p.P.length:Int),X ((i:Int)+1),()),p,())) (·=(decide (t<=s.At) && (decide (s.K = -1) || decide (0<=s.K) && decide (k<s.K) && decide (s.K<p.E9)) && setV s.k && WH p.E9 (max k s.K) s.At (p.P.drop (i+1)) && decide (p.P.length<=200))):=fun e=>by
   rw[Qa U,h3]
   rw[e,B8]at h3
   exact hK _ _ U ⟨i+1,max k s.K,s.At,rfl,U,U,U,h3,rfl⟩
  refine Ok.ite (fun g1=>Ok.s (by rw[Au (show ¬t<=s.At by omega)];simp)) fun g1=>?_
  refine Ok.oe (QAG U) (Ok.J (fun g2=>?_) (fun g2=>Ok.s (by rw[g2];simp)))
  refine Ok.ite (fun g3=>?_) (fun g3=>?_)
  .rw[Qc (x:=k+1) U,Qc (x:=p.E9 - 1) U]
   refine Ok.oe ein (Ok.J (fun g4=>?_) (fun g4=>?_))
   .unfold inV at g4
    grind
   .refine Ok.s ?_
    have:(decide (s.K = -1) || decide (0<=s.K) && decide (k<s.K) && decide (s.K<p.E9))=false:=by
     unfold inV at g4
     grind
    rw[this];simp
  .grind
 .have e:i=p.P.length:=U
  refine Ok.s ?_
  subst e
  rw[List.drop_length,WH]at h3
  grind
def Qz8:QaE 1000 p=some (inV p.FQ p.R farV && inV p.FM 0 farV && inV p.FN 0 farV && inV p.z 0 4 && inV p.FL 0 4):=by
 refine Ok.eq ?_
 unfold QaE
 refine Ok.oe ein (Ok.J (fun h1=>Ok.oe ein (Ok.J (fun h2=>Ok.oe ein (Ok.J (fun h3=>Ok.oe ein (Ok.J (fun h4=>Ok.oe ein (Ok.J (fun h5=>Ok.s ?_) (fun h5=>Ok.s ?_))) (fun h4=>Ok.s ?_))) (fun h3=>Ok.s ?_))) (fun h2=>Ok.s ?_))) (fun h1=>Ok.s ?_))
 all_goals simp_all [farV]
def Qo4(h:Qdy n q):W6 1000 q=some (YG q):=by
 have h1:=h.rep
 have h2:=h.len
 refine Ok.eq ?_
 unfold W6
 refine Ok.j (Ok.oe pIn (Ok.P (Ok.N (Ok.s ?_))))
 rw[(Yw h).1,Qc (x:=q.Fk+1) U,Qc]
 have h3:q.Fk=0\/q.Fk=1\/q.Fk=2:=U
 grind
def QoM(h:Qdy n q):Qsr q=true:=by
 unfold Qsr
 rw[AW]
 intro s hs
 have:=(h.step s hs).wait
 simp;omega
def Qyv(h:Qdy n q):Qo 1000 q.Steps=some false:=by
 have h2:=h.len
 refine Ok.eq ?_
 unfold Qo Q4
 refine Ok.opt (P:=fun r=>r = -1) ?_ fun r hr=>Ok.s (by rw[hr];rfl)
 refine Ok.run q.Steps.length (fun i=>((q.Steps,(q.Steps.length:Int),(i:Int),()),())) rfl U (fun i hi k hk=>?_) (fun k=>?_)
 .have hw:=(h.step _ (Qf hi)).wait
  refine Ok.P (Ok.atn hi (Ok.oe (v:=false) ?_ (Ok.f ?_)))
  .unfold Qbg
   rw[ein,ZZ]
   unfold inV;simp;omega
  .rw[Qa U];exact hk
 .exact Ok.N (Ok.s rfl)
def QkY(hb:QQ b)(h:QA p):Yr 1000 b p=some (QE b p):=by
 have hpl:=hb.plen
 refine Ok.eq ?_
 unfold Yr
 refine Ok.j (Ok.oe ein (Ok.J (fun h1=>?_) (fun h1=>Ok.s (by simp[QE,h1]))))
 rw[Qc (x:=(b.j.length:Int) - 1) U]
 refine Ok.oe ein (Ok.J (fun h2=>?_) (fun h2=>Ok.s (by simp[QE,h2])))
 refine Ok.oe ein (Ok.J (fun h3=>?_) (fun h3=>Ok.s (by simp[QE,h3])))
 have h2':=h2
 unfold inV at h2'
 simp only[bae,BL]at h2'
 refine Ok.at h2'.1 U (Ok.j ?_)
 have hq:Qdy b.t.length (Xd b p):=hb.pol _ (Qf U)
 have hw:=QoM hq
 show Ok (V (Qo 1000 (Xd b p).Steps) _) _
 refine Ok.oe (Qyv hq) (Ok.f (Ok.oe (Qo4 hq) (Ok.oe ein ?_)))
 refine Ok.J (fun h4=>?_) (fun h4=>Ok.s (by have h4:inV p.E9 0 (YG (Xd b p))=false:=h4;simp[QE,h4]))
 have h4:inV p.E9 0 (YG (Xd b p))=true:=h4
 refine Ok.oe ein (Ok.J (fun h5=>?_) (fun h5=>Ok.s (by simp[QE,h5])))
 refine Ok.oe ein (Ok.J (fun h6=>?_) (fun h6=>Ok.s (by simp[QE,h6])))
 refine Ok.oe Qz8 (Ok.J (fun h7=>?_) (fun h7=>Ok.s ?_))
 .refine Ok.oe (QvG h) (Ok.J (fun h8=>?_) (fun h8=>Ok.s (by simp[QE,h8])))
  have hde:=h.de;have hse:=h.se
  refine Ok.oe (QAG U) (Ok.J (fun h9=>?_) (fun h9=>Ok.s (by simp[QE,h9])))
  refine Ok.oe (QCa U) ?_
  simp only[bae]at h7
  exact Ok.J (fun h10=>Ok.s (by simp[QE,h1,h2,h3,hw,h4,h5,h6,h7,h8,h9,h10])) (fun h10=>Ok.s (by simp[QE,h10]))
 .symm
  unfold QE
  simp_all
def QuH:QaN 1000 a=some (YX a):=by
 refine Ok.eq ?_
 unfold QaN
 refine Ok.j ?_
 refine Ok.ite (fun k3=>?_) (fun k3=>?_)
 .refine Ok.oe aiN (Ok.J (fun h1=>Ok.oe aiN (Ok.J (fun h2=>Ok.oe aiN (Ok.J (fun h3=>Ok.oe aiN (Ok.J (fun h4=>Ok.oe aiN (Ok.J (fun h5=>Ok.oe aiN (Ok.J (fun h6=>Ok.s ?_) (fun h6=>Ok.s ?_))) (fun h5=>Ok.s ?_))) (fun h4=>Ok.s ?_))) (fun h3=>Ok.s ?_))) (fun h2=>Ok.s ?_))) (fun h1=>Ok.s ?_))
  all_goals (unfold YX;rw[iB k3];simp_all)
 .refine Ok.ite (fun k4=>?_) (fun k4=>?_)
  .refine Ok.oe aiN (Ok.J (fun h1=>Ok.oe aiN (Ok.J (fun h2=>Ok.oe aiN (Ok.J (fun h3=>Ok.oe aiN (Ok.J (fun h4=>Ok.oe aiN (Ok.J (fun h5=>Ok.oe aiN (Ok.J (fun h6=>Ok.s ?_) (fun h6=>Ok.s ?_))) (fun h5=>Ok.s ?_))) (fun h4=>Ok.s ?_))) (fun h3=>Ok.s ?_))) (fun h2=>Ok.s ?_))) (fun h1=>Ok.s ?_))
   all_goals (unfold YX;rw[iA k3,iB k4];simp_all)
  .have e0:inV a.Ft 0 0=decide (a.Ft=0):=by unfold inV;by_cases h:a.Ft=0<;>simp[h];omega
   refine Ok.oe aiN (Ok.J (fun h1=>Ok.oe aiN (Ok.J (fun h2=>Ok.oe aiN (Ok.J (fun h3=>Ok.oe aiN (Ok.J (fun h4=>Ok.oe aiN (Ok.J (fun h5=>Ok.oe aiN (Ok.J (fun h6=>Ok.s ?_) (fun h6=>Ok.s ?_))) (fun h5=>Ok.s ?_))) (fun h4=>Ok.s ?_))) (fun h3=>Ok.s ?_))) (fun h2=>Ok.s ?_))) (fun h1=>Ok.s ?_))
   all_goals (unfold YX;rw[iA k3,iA k4,<-e0];simp_all)
open Go AM
section
def QuB{R:D.Page->Prop}(hb:QQ b)(hQ:Qjz Q M c b)(hs:∀q,QL Q M b q->Y1 q now=true->R q->R (stepQ c b q)):∀(n:Nat) {p:D.Page},QL Q M b p->R p->R (runN c b now n p).1
 |0,p,h,hr=>hr
 |n+1,p,h,hr=>by
  rw[runN]
  split
  .rename_i hw
   have hd:=Qbc hw
   rw[h.stepVis hb hd.1,iA Ob]
   exact QuB hb hQ hs n (h.stepQ_inv hb hd.1 (hQ p h)) (hs p h hw hr)
  .exact hr
def Qjr{R:D.Page->Prop}(hb:QQ b)(hQ:Qjz Q M c b)(hs:∀q,QL Q M b q->Y1 q now=true->R q->R (stepQ c b q))(h:QL Q M b p)(hr:R p):R (runV c b p now).1:=by
 rw[Qj7 (h.check hb)]
 exact QuB hb hQ hs 100 h hr
structure Kept (p q:D.Page):Prop where
 id:q.S=p.S
 pol:q.W=p.W
 start:q.R=p.R
 by_:q.By=p.By
 until_:q.FN=p.FN
 snoozes:q.z=p.z
 hands:q.FL=p.FL
 seen:q.g=p.g
def Kept.refl(p):Kept p p:=⟨rfl,rfl,rfl,rfl,rfl,rfl,rfl,rfl⟩
def Kept.step{b:D.a}{p q:D.Page}{c:D.E}(h:Kept p q):Kept p (stepQ c b q):=by
 obtain⟨h1,h2,h3,h4,h5,h6,h7,h8⟩:=h
 unfold stepQ
 split
 .exact⟨h1,h2,h3,h4,h5,h6,h7,h8⟩
 .split<;>exact⟨h1,h2,h3,h4,h5,h6,h7,h8⟩
def Qa6(hb:QQ b)(hQ:Qjz Q M c b)(h:QL Q M b p):Kept p (runV c b p now).1:=
 Qjr hb hQ (fun q _ _ hr=>hr.step) h (Kept.refl p)
def Qyj(hw:Y1 q now=true)(h:q.FQ<=now):(stepQ c b q).FQ<=now:=by
 have hd:=Qbc hw
 have hs:=QfG hd.1
 have h2:=hd.2
 unfold dueV at h2
 unfold stepQ
 grind
def Qx5(hb:QQ b)(hQ:Qjz Q M c b)(h:QL Q M b p)(hl:p.FQ<=now):(runV c b p now).1.FQ<=now:=
 Qjr (R:=fun q=>q.FQ<=now) hb hQ (fun q _ hw hr=>Qyj hw hr) h hl
def Qz2:q.P.length<=(stepQ c b q).P.length:=by
 unfold stepQ
 grind
def QzR(hb:QQ b)(hQ:Qjz Q M c b)(h:QL Q M b p):p.P.length<=(runV c b p now).1.P.length:=
 Qjr (R:=fun q=>p.P.length<=q.P.length) hb hQ (fun q _ _ hr=>AX hr Qz2) h (AN _)
def QlT(h:p.p=0):dueV p=(p.FM,true):=by unfold dueV;rw[iB h]
def Qq2(h:p.p=2):dueV p=(p.FN,true):=by unfold dueV;rw[iA U,iB h]
def Qr3(h:Wh p a=0):p.FQ<=a.At/\Y1 p a.At=false/\p.p≠4/\(p.p=3->a.Z=5)/\(p.p=1->a.Z≠2)/\p.g.length≠64:=by
 revert h
 unfold Wh
 grind
def QdA:(XG p a).S=p.S/\(XG p a).W=p.W/\(XG p a).R=p.R/\(XG p a).E9=p.E9:=by
 unfold XG;repeat' split
 all_goals simp_all
def QqC(h:p.FQ<=a.At):(XG p a).FQ<=a.At:=by
 unfold XG;repeat' split
 all_goals simp_all
def Qlr:(a.Z=4->(XG p a).P=p.P++[⟨-1,a.At,[a.Ft]⟩])/\(a.Z≠4->(XG p a).P=p.P):=by
 unfold XG
 grind
end
def kN(l:Y D.R)(i:Nat):Int:=(((l.take i).filter fun s=>decide (0<=s.K)).length:Int)
def tN(st:Int)(l:Y D.R)(i:Nat):Int:=if i=0 then st else(O l (i - 1)).At
def QfT[AK α]{l m:Y α}(h:i<l.length):O (l++m) i=O l i:=by
 simp[O,AQ,BN h]
def QiU[AK α]{l:Y α}{x:α}:O (l++[x]) l.length=x:=by
 simp[O,AQ]
def Quh(h:i<=l.length):kN (l++m) i=kN l i:=by
 unfold kN;rw[List.take_append_of_le_length h]
def Qxf:kN (l++[x]) (l.length+1)=kN l l.length+(if 0<=x.K then 1 else 0):=by
 unfold kN
 grind
def QuF(h:i<=l.length):tN st (l++m) i=tN st l i:=by
 unfold tN
 split
 .rfl
 .rw[QfT U]
def Qym:tN st l (i+1)=(O l i).At:=by unfold tN;rw[iA U];rfl
def Goes.scan(g:Goes Q st l k t h):kN l l.length=k/\tN st l l.length=t/\
  ∀i,i<l.length->tN st l i<=(O l i).At/\setV (O l i).k=true/\((O l i).K = -1/\0<i\/(O l i).K=kN l i/\0<=(O l i).K/\Q (O l i))/\(i=0->(O l i).At=st):=by
 induction g with
 |nil=>exact⟨rfl,rfl,fun i hi=>by simp at hi⟩
 |@step l k t h a P g h1 h2 h3 h4 ih=>
  obtain⟨i1,i2,i3⟩:=ih
  have hp:=g.pos
  refine⟨by rw[Ac,B6,Qxf,i1,iB (by dsimp only;omega)],by rw[Ac,B6,Qym,QiU],fun i hi=>?_⟩
  by_cases e:i=l.length
  .subst e
   rw[QiU,QuF (AN _),Quh (AN _),i1,i2]
   simp_all
  .have hi':i<l.length:=by rw[Ac,B6]at hi;omega
   rw[QfT hi',QuF U,Quh U]
   exact i3 i hi'
 |@hand l k t h a x g h1 h2 h3 h4 ih=>
  obtain⟨i1,i2,i3⟩:=ih
  have hne:l.length≠0:=fun e=>h2 (List.length_eq_zero_iff.1 e)
  refine⟨by rw[Ac,B6,Qxf,i1,iA Ob];simp,by rw[Ac,B6,Qym,QiU],fun i hi=>?_⟩
  by_cases e:i=l.length
  .subst e
   rw[QiU,QuF (AN _),Quh (AN _),i2]
   exact⟨h1,QuE h3 h4,.inl ⟨rfl,U⟩,fun e=>absurd e hne⟩
  .have hi':i<l.length:=by rw[Ac,B6]at hi;omega
   rw[QfT hi',QuF U,Quh U]
   exact i3 i hi'
section
variable {R zF zB:Type} {Q:R->Prop}
def AM.Ok.run2{B:(zF×zB->I R)->zF×zB->I R}(n:Nat)(st:Nat->zF){r:zB}{fu:Nat}{x:zF}(hx:x=st 0)(hf:n<fu)(hs:∀i,i<n->∀k,(Ok (k (st (i+1),r)) Q->Ok (B k (st i,r)) Q))(h:∀k,Ok (B k (st n,r)) Q):Ok (Qe B fu (x,r)) Q:=
 Ok.run n (fun i=>(st i,r)) (by rw[hx]) hf hs h
def AM.Ok.scan2{B:(zF×zB->I R)->zF×zB->I R}(n:Nat)(st:Nat->zF){r:zB}(q:Nat->AH){fu:Nat}{x:zF}(hx:x=st 0)(hf:n<fu)(hy:∀i,i<n->q i=true->(∀j,j<i->q j=false)->∀k,Ok (B k (st i,r)) Q)(hn:∀i,i<n->q i=false->∀k,(Ok (k (st (i+1),r)) Q->Ok (B k (st i,r)) Q))(he:(∀j,j<n->q j=false)->∀k,Ok (B k (st n,r)) Q):Ok (Qe B fu (x,r)) Q:=
 Ok.scan n (fun i=>(st i,r)) q (by rw[hx]) hf hy hn he
end
def Qqj[AK α]{l:Y α}(h:i<l.length):l.set i (O l i)=l:=by
 have e:O l i=l[i]:=by simp[O,AQ,AU h]
 rw[e];exact List.set_getElem_self h
def asc32:Asc ((List.range 32).map fun(i:Nat)=>(i:Int)):=by unfold Asc;decide
structure CkF (b:D.a) (p:D.Page):Prop where
 id:1<=p.S/\p.S<=999999
 pol:0<=p.W/\p.W<(b.j.length:Int)
 start:0<=p.R/\p.R<=8589934592
 next:0<=p.E9/\p.E9<=YG (Xd b p)
 state:0<=p.p/\p.p<=4
 by_ : -1<=p.By/\p.By<=31
 last:p.R<=p.FQ/\p.FQ<=farV
 due:0<=p.FM/\p.FM<=farV
 until_:0<=p.FN/\p.FN<=farV
 snoozes:0<=p.z/\p.z<=4
 hands:0<=p.FL/\p.FL<=4
 starts:p.P.length<=200
 declined:setV p.i=true
 seen:p.g.Nodup/\p.g.length<=64
section
variable {n:Nat} {c:D.E} {b:D.a} {p q:D.Page} {now:Int}
def Yd(h:QE b p=true):CkF b p:=by
 unfold QE Qil QnM at h
 simp only[bae,Qt,BL]at h
 obtain⟨⟨⟨⟨⟨⟨⟨⟨⟨⟨⟨⟨⟨⟨h1,h2⟩,h3⟩,h4⟩,h5⟩,h6⟩,h7⟩,h8⟩,h9⟩,h10⟩,h11⟩,h12⟩,h13⟩,h14⟩,h15⟩:=h
 exact⟨h1,U,h3,h5,h6,h7,h8,h9,h10,h11,h12,h13.2,h14,h15⟩
def CkF.polOK(h:CkF b p)(hb:QQ b):Qdy b.t.length (Xd b p):=hb.pol _ (Qf (by have:=h.pol;omega))
def QA.stepQ(h:QA p)(hc:CkF b p)(hb:QQ b):QA (stepQ c b p):=by
 have h1:=hc.starts;have h2:=hc.next
 have h3:=Yw (hc.polOK hb)
 unfold Go.Proofs.YtlllfgmajglnhaaGreat.stepQ
 split
 .exact⟨h.st,h.pe,h.de,h.se,h.nx⟩
 .split
  .exact⟨h.st,h.pe,h.de,h.se,h.nx⟩
  .refine⟨by dsimp only;simp;omega,?_,by dsimp only;simp,h.se,by dsimp only;omega⟩
   refine VV h.pe ⟨?_,by dsimp only;omega,by dsimp only;omega⟩
   have:=QqN (c:=c) (b:=b) (s:=ZA b p) (t:=p.FM)
   dsimp only;omega
def QA.page0:QA page0:=⟨by simp[Go.Proofs.YtlllfgmajglnhaaGreat.page0],by simp[Go.Proofs.YtlllfgmajglnhaaGreat.page0],by simp[Go.Proofs.YtlllfgmajglnhaaGreat.page0],by simp[Go.Proofs.YtlllfgmajglnhaaGreat.page0],by simp[Go.Proofs.YtlllfgmajglnhaaGreat.page0]⟩
def QA.stepV(h:QA p)(hb:QQ b):QA (stepV c b p).1:=by
 unfold Go.Proofs.YtlllfgmajglnhaaGreat.stepV
 split
 .exact .page0
 .rename_i hc
  split
  .exact .page0
  .split
   .exact .page0
   .exact h.stepQ (Yd (by simpa using hc)) hb
def QA.runN(hb:QQ b):∀(k:Nat) {p:D.Page},QA p->QA (runN c b now k p).1
 |0,p,h=>h
 |k+1,p,h=>by
  rw[Go.Proofs.YtlllfgmajglnhaaGreat.runN]
  split
  .split
   .exact .page0
   .exact QA.runN hb k (h.stepV hb)
  .exact h
def QA.runV(h:QA p)(hb:QQ b):QA (runV c b p now).1:=by
 unfold Go.Proofs.YtlllfgmajglnhaaGreat.runV
 split
 .exact .page0
 .exact QA.runN hb 100 h
def QA.answerV{a:D.b}(h:QA p)(hb:QQ b):QA (answerV b p a).1:=by
 unfold Go.Proofs.YtlllfgmajglnhaaGreat.answerV
 split
 .exact .page0
 .rename_i hc
  have hf:CkF b p:=Yd (by cases hk:QE b p<;>simp_all)
  have hx:=hf.starts;have hs:=hf.seen
  split
  .exact .page0
  .split
   .exact h
   .split
    .exact .page0
    .have hd:(U5 p a).length<=40:=by
      unfold U5
      split
      .have hde:=Qax.1 hf.declined
       have h32:(QiZ p.i a.Q).length<=p.i.length+1:=by
        unfold QiZ
        rw[Ac,Ab]
        have hsum:∀l:Y Int,(l.filter (fun z=>decide (z<a.Q))).length+(l.filter (fun z=>decide (a.Q<z))).length<=l.length:=by
         intro l
         induction l with
         |nil=>simp
         |cons y l ih=>
          rw[List.filter_cons,List.filter_cons,Ab]
          by_cases g1:y<a.Q
          .rw[iB (by simpa using g1),iA (by simp;omega),Ab];omega
          .by_cases g2:a.Q<y
           .rw[iA (by simpa using g1),iB (by simpa using g2),Ab];omega
           .rw[iA (by simpa using g1),iA (by simpa using g2)];omega
        have:=hsum p.i
        omega
       have hlen:p.i.length<=32:=by
        have e:p.i=((List.range 32).map fun(i:Nat)=>(i:Int)).filter fun z=>p.i.contains z:=Qfv hde.1 (CP _ asc32) fun z=>by
         simp only[Bk,Bg,BX,Cg]
         exact⟨fun hz=>⟨⟨z.toNat,by have:=hde.2 z hz;omega,by have:=hde.2 z hz;omega⟩,hz⟩,fun hz=>hz.2⟩
        rw[e]
        exact AX (CQ _ _) Ob
       omega
      .exact h.de
     have hse:(p.g++[a.S]).length<=100:=by simp;omega
     unfold XG
     split
     .split
      .exact⟨h.st,h.pe,h.de,hse,h.nx⟩
      .exact⟨h.st,h.pe,h.de,hse,h.nx⟩
     .split
      .exact⟨h.st,h.pe,hd,hse,h.nx⟩
      .split
       .exact⟨h.st,h.pe,h.de,hse,h.nx⟩
       .split
        .exact⟨by dsimp only;simp;omega,VV h.pe ⟨Ob,by dsimp only;omega,by dsimp only;omega⟩,by dsimp only;simp,hse,h.nx⟩
        .exact⟨h.st,h.pe,h.de,hse,h.nx⟩
def QL.plen(h:QL Q M b p)(hb:QQ b):QA p:=by
 obtain⟨h1,h2,h3⟩:=h.len hb
 have hf:=Yd (h.check hb)
 have hc:=Yw (h.polOK hb)
 have hlen:∀{l:Y Int},setV l=true->l.length<=40:=by
  intro l hl
  have hde:=Qax.1 hl
  have e:l=((List.range 32).map fun(i:Nat)=>(i:Int)).filter fun z=>l.contains z:=Qfv hde.1 (CP _ asc32) fun z=>by
   simp only[Bk,Bg,BX,Cg]
   exact⟨fun hz=>⟨⟨z.toNat,by have:=hde.2 z hz;omega,by have:=hde.2 z hz;omega⟩,hz⟩,fun hz=>hz.2⟩
  rw[e]
  exact AX (CQ _ _) Ob
 refine⟨U,fun s hs=>?_,hlen h.declined,by have:=hf.seen;omega,by have:=hf.next;omega⟩
 obtain⟨t,g1,_⟩:=h.goes
 obtain⟨k1,k2,k3⟩:=g1.scan
 obtain⟨i,hi,rfl⟩:=Bb hs
 have:=k3 i hi
 have hkk:kN p.P i<=300:=by
  unfold kN
  have:=CQ (fun s:D.R=>decide (0<=s.K)) (p.P.take i)
  have:=E2 i p.P
  omega
 rw[show O p.P i=p.P[i]by simp[O,AQ,AU hi]]at this
 exact⟨hlen this.2.1,U,U⟩
end
section
open Go AM
attribute [local irreducible] dueV stepV runV QE
section
def Qn9:WW 1000 p=some (dueV p):=by
 unfold WW dueV
 by_cases h0:p.p=0
 .simp[cd,AM.J,h0]
 .by_cases h2:p.p=2<;>simp[cd,AM.J,h0,h2]
def QAh:QaF 1000 p t=some (Y1 p t):=by
 unfold QaF Y1
 rw[Qn9,ZZ]
 obtain⟨a,d⟩:=dueV p
 cases d<;>by_cases h:a<=t<;>simp[cd,AM.J,h]
def QqV(h:l.length<=1000):Xw 1000 l=some l:=by unfold Xw;exact Yi U
def QfB(h:l.length<=1000):Qu 1000 l=some l:=by unfold Qu;exact Yi U
def QwH(h:l.length<=1000):WO 1000 l=some l:=by unfold WO;exact Yi U
def QlQ(h:QA p):XU 1000 p=some p:=by
 have h1:=h.st;have h2:=h.de;have h3:=h.se
 refine Ok.eq ?_
 unfold XU
 refine Ok.oe (QqV U) ?_
 refine Ok.run2 p.P.length (fun i=>((p.P.length:Int),(i:Int),())) rfl U (fun i hi k hk=>?_) (fun k=>?_)
 .dsimp only
  have hp:=(h.pe _ (Qf hi)).1
  refine Ok.P (Ok.natn (Ok.lt hi (Ok.get hi (Ok.oe (QwH U) (Ok.natn (Ok.lt hi (Ok.get hi ?_)))))))
  rw[Qa U,show(D.R.mk (O p.P i).K (O p.P i).At (O p.P i).k)=O p.P i from rfl,Qqj hi]
  exact hk
 .dsimp only
  exact Ok.N (Ok.oe (QfB U) (Ok.oe (QfB U) (Ok.s rfl)))
def Qvg(q:D.W)(i:Int):Int×Int×AH:=if 0<=i/\i<YG q then(i % (q.Steps.length:Int),i / (q.Steps.length:Int),true)else(0,0,false)
def QBY(h:Qdy m q):Qco 1000 q i=some (Qvg q i):=by
 have h2:=h.len
 have hc:=Yw h
 refine Ok.eq ?_
 unfold Qco Qvg
 refine Ok.oe (Qo4 h) ?_
 rw[Qc (x:=YG q - 1) U]
 refine Ok.oe pIn ?_
 by_cases hi:0<=i/\i<YG q
 .have g1:=Int.ediv_le_self (a:=i) (q.Steps.length:Int) hi.1
  have g2:0<=i / (q.Steps.length:Int):=ER hi.1 U
  refine Ok.np U (Ok.Z (Ok.Z (Ok.s ?_)))
  rw[iB hi,Bt hi.1,Bz hi.1,Qc U]
 .refine Ok.nn U (Ok.s ?_)
  rw[iA hi]
def QAv{q:D.W}(h:1<=q.Steps.length):0<=i % (q.Steps.length:Int)/\i % (q.Steps.length:Int)<(q.Steps.length:Int):=
 ⟨Cq _ U,Cr _ U⟩
abbrev pgA(p:D.Page):Int×Int×Int×Int×Int×Int×Int×Int×Int×Int×Int×Unit:=(p.S,p.W,p.R,p.E9,p.FM,p.p,p.By,p.FN,p.FQ,p.z,p.FL,())
def Qlz(h:Ze n c)(hn:n<=48):ZF 1000 x c p s=some (!Vw c x p.FM s.Fs,p):=by
 unfold ZF
 rw[QzN h hn,ZZ,Vh,Vh]
def QBF(h:Ze n c)(hn:n<=48)(hm:m<=l0.length)(hl:m<=900):
  Ok (Qw 1000 0 m l0 c p s) fun r=>r.2=p/\(r.1 = -1/\(∀j,j<m->Vw c (O l0 j) p.FM s.Fs=true)\/∃i:Nat,r.1=(i:Int)/\i<m/\Vw c (O l0 i) p.FM s.Fs=false/\∀j,j<i->Vw c (O l0 j) p.FM s.Fs=true):=by
 unfold Qw
 rw[Bj]
 refine Ok.scan2 m (fun i=>(0,m,(m:Int),(i:Int),())) (fun i=>!Vw c (O l0 i) p.FM s.Fs) rfl U (fun i hi hq hj k=>?_) (fun i hi hq k hk=>?_) (fun hq k=>?_)
 .dsimp only
  rw[Bj]
  refine Ok.P (Ok.natn (Ok.E ?_))
  rw[Aj]
  refine Ok.G (Ok.oe (Qlz (p:=p) h hn) ?_)
  exact Ok.bt hq (Ok.TF (Ok.TF (Ok.TF (Ok.s ⟨rfl,.inr ⟨i,rfl,hi,by simpa using hq,fun j hj'=>by simpa using hj j hj'⟩⟩))))
 .dsimp only
  rw[Bj]
  refine Ok.P (Ok.natn (Ok.E ?_))
  rw[Aj]
  refine Ok.G (Ok.oe (Qlz (p:=p) h hn) (Ok.bf hq ?_))
  rw[Qa U]
  exact hk
 .exact Ok.N (Ok.TF (Ok.TF (Ok.TF (Ok.s ⟨rfl,.inl ⟨rfl,fun j hj=>by simpa using hq j hj⟩⟩))))
def QBn(h:Ze n c)(hn:n<=48)(hm:m<=l0.length)(hl:l0.length<=900):
  Ok (Qv 1000 0 m l0 c p s) fun r=>r.2.2.1=p/\List.drop r.1 (List.take r.2.1 r.2.2.2)=(l0.take m).filter fun z=>Vw c z p.FM s.Fs:=by
 unfold Qv
 refine Ok.opt (QBF h hn hm U) fun⟨r,p'⟩ ⟨hp',hr⟩=>?_
 dsimp only at hp' hr |-
 subst hp'
 rcases hr with⟨rfl,hall⟩|⟨i,rfl,hi,hx,hj⟩
 .refine Ok.p rfl (Ok.TF (Ok.TF (Ok.s ⟨rfl,?_⟩)))
  dsimp only
  rw[Cc,QjP (q:=fun z=>Vw c z p'.FM s.Fs) hm hall]
 .refine Ok.N ?_
  rw[Qa U]
  refine Ok.loop (fun q x=>∃(w j:Nat) (a:Y Int),x=((0,m,(w:Int),(j:Int),()),c,pgA p',s,a,p'.P,p'.i,p'.g,())/\Qlo (l0) (fun z=>Vw c z p'.FM s.Fs) w j a/\(w<j/\j<=m)/\q=m - j) (m:=m - (i+1)) U ⟨i,i+1,l0,rfl,Qq1 U hj hx,U,rfl⟩ ?_
  rintro q x ⟨w,j,a,rfl,hinv,hjm,rfl⟩ K hK
  have h1:=hinv.wj
  have h2:=hinv.len
  dsimp only
  rw[Bj]
  refine Ok.ite (fun hlt=>?_) (fun hge=>?_)
  .refine Ok.j (Ok.natn (Ok.E ?_))
   rw[Aj]
   refine Ok.G (Ok.oe (Qlz (p:=p') h hn) ?_)
   dsimp only
   rw[Eb]
   refine Ok.J (fun hq=>?_) (fun hq=>?_)
   .refine Ok.natn (Ok.E ?_)
    rw[Aj]
    refine Ok.G ?_
    rw[Qa U,Qa U]
    exact hK _ _ U ⟨w+1,j+1,_,rfl,QtY hinv U hq,U,rfl⟩
   .rw[Qa U]
    exact hK _ _ U ⟨w,j+1,a,rfl,QtZ hinv U hq,U,rfl⟩
  .have ej:j=m:=U
   have hd:=hinv.done
   rw[ej]at hd
   refine Ok.natn (Ok.E (Ok.L (Ok.L (Ok.natn (Ok.L (Ok.TF (Ok.TF (Ok.s ⟨rfl,?_⟩))))))))
   grind
def QyX(h:Ze n c)(hn:n<=48)(hb:QQ b)(hf:CkF b p)(hnx:p.E9<YG (Xd b p))(hs:p.P.length<=300):
  Ok (Ys 1000 c b p) fun r=>r.1={ p with P:=p.P++[⟨p.E9,p.FM,QcE c b (ZA b p) p.FM⟩],i:=[],E9:=p.E9+1,FM:=if QcE c b (ZA b p) p.FM=[]then p.FM else p.FM+(ZA b p).Fw }:=by
 have hp:=hf.pol;have h0:=hf.next;have hd:=hf.due
 have hq:Qdy b.t.length (Xd b p):=hf.polOK hb
 have hpl:=hb.plen;have hql:=hq.len
 have hc:=Yw hq
 unfold farV at hd
 unfold Ys
 refine Ok.at hp.1 hp.2 ?_
 show Ok (V (Qco 1000 (Xd b p) p.E9) _) _
 refine Ok.oe (QBY hq) ?_
 unfold Qvg
 rw[iB ⟨h0.1,hnx⟩]
 dsimp only
 have hm:=QAv (q:=Xd b p) (i:=p.E9) hql.1
 refine Ok.at hm.1 hm.2 ?_
 have hst:=hq.step _ (QtE hq h0.1)
 have hw:0<=(ZA b p).Fw/\(ZA b p).Fw<=900:=hst.wait
 have hlen:(ZA b p).Fh.length<=2:=hst.len
 rw[show O (O b.j p.W.toNat).Steps (p.E9 % ((Xd b p).Steps.length:Int)).toNat=ZA b p from rfl]
 refine Ok.opt (QxC h hn hb hst.target U) fun⟨v0,v1,v2⟩ ⟨g1,g2,g3,g4⟩=>?_
 dsimp only at g1 g2 g3 g4 |-
 subst g1
 refine Ok.opt (QBn (s:=ZA b p) h hn g2 U) fun⟨w0,w1,w2,w3⟩ ⟨e1,e2⟩=>?_
 dsimp only at e1 e2 |-
 subst e1
 rw[e2,g4]
 show Ok (AM.TO (w2.P.length+_) _ _) _
 have hcall:(List.filter (fun z=>Vw c z w2.FM (ZA b w2).Fs) (VA c b (ZA b w2).Fh w2.FM))=QcE c b (ZA b w2) w2.FM:=rfl
 rw[hcall]
 refine Ok.LS (Ok.j (Ok.ite (fun hpos=>Ok.s ?_) (fun hpos=>Ok.s ?_)))
 .have hne:QcE c b (ZA b w2) w2.FM≠[]:=fun e=>by rw[e]at hpos;simp at hpos
  show _=_
  rw[iA hne,Qc U,Qc U]
 .have he:QcE c b (ZA b w2) w2.FM=[]:=E3.2 U
  show _=_
  rw[iB he,Qc U]
def QCg(h:Ze n c)(hn:n<=48)(hb:QQ b)(hp:QA p):QbB 1000 c b p=some (stepV c b p):=by
 refine Ok.eq ?_
 unfold QbB
 have hst:=hp.st
 refine Ok.oe Qn9 (Ok.oe (QkY hb hp) (Ok.ncnd (fun hc=>Ok.s ?_) (fun hc=>?_)))
 .unfold stepV;rw[iB hc];rfl
 have hf:=Yd hc
 refine Ok.ncnd (fun hd=>Ok.s ?_) (fun hd=>?_)
 .unfold stepV;rw[iA (by rw[hc];simp),iB hd];rfl
 refine Ok.ite (fun hl=>Ok.s ?_) (fun hl=>?_)
 .unfold stepV;rw[iA (by rw[hc];simp),iA (by rw[hd];simp),iB U];rfl
 have hV:stepV c b p=(stepQ c b p,0):=by unfold stepV;rw[iA (by rw[hc];simp),iA (by rw[hd];simp),iA U]
 rw[hV]
 have hs:=QfG hd
 have hpol:=hf.pol;have hnx:=hf.next;have hl2:=hf.last;have hdu:=hf.due
 refine Ok.oe (QlQ hp) (Ok.j (Ok.ite (fun h2=>Ok.s ?_) (fun h2=>?_)))
 .unfold stepQ
  rw[iB h2,Qq2 h2,Ec]
 .have h0:p.p=0:=U
  refine Ok.at hpol.1 hpol.2 ?_
  show Ok (V (W6 1000 (Xd b p)) _) _
  refine Ok.oe (Qo4 (hf.polOK hb)) (Ok.ite (fun he=>Ok.s ?_) (fun he=>?_))
  .unfold stepQ
   rw[iA h2,iB U,QlT h0,Ec]
  .have hf':CkF b { p with FQ:=max p.FQ p.FM }:=⟨hf.id,hf.pol,hf.start,hf.next,hf.state,hf.by_,by dsimp only;omega,hf.due,hf.until_,hf.snoozes,hf.hands,hf.starts,hf.declined,hf.seen⟩
   have hb':=QyX (p:={ p with FQ:=max p.FQ p.FM }) h hn hb hf' (by show p.E9<YG (Xd b p);omega) hst
   have hQ:stepQ c b p={ p with FQ:=max p.FM p.FQ,P:=p.P++[⟨p.E9,p.FM,QcE c b (ZA b p) p.FM⟩],i:=[],E9:=p.E9+1,FM:=if QcE c b (ZA b p) p.FM=[]then p.FM else p.FM+(ZA b p).Fw }:=by
    unfold stepQ;rw[iA h2,iA (show ¬YG (Xd b p)<=p.E9 by omega)]
   rw[QlT h0,hQ,Ec p.FM p.FQ]
   refine Ok.opt hb' fun⟨r,z⟩ hr=>Ok.s ?_
   dsimp only at hr |-
   subst hr
   rfl
def QC1(h:Ze n c)(hn:n<=48)(hb:QQ b)(hp:QA p):QcQ 1000 c b p now=some (runV c b p now):=by
 refine Ok.eq ?_
 unfold QcQ
 refine Ok.oe (QkY hb hp) (Ok.ncnd (fun hc=>Ok.s ?_) (fun hc=>?_))
 .unfold runV;rw[iB hc];rfl
 rw[Qj7 hc]
 have hf:=Yd hc
 have hcn:=Yw (hf.polOK hb)
 have hnx:=hf.next
 have hle:QaS b p<=11:=by
  unfold QaS
  grind
 refine Ok.oe (QlQ hp) ?_
 refine Ok.loop (fun m x=>∃(q:D.Page) (k:Nat),x=((now,()),c,b,q,page0,())/\QA q/\QaS b q+1<=k/\runN c b now k q=runN c b now 100 p/\m=QaS b q) (m:=QaS b p) U ⟨p,100,rfl,hp,U,rfl,rfl⟩ ?_
 rintro m x ⟨q,k,rfl,hq,hk,he,rfl⟩ K hK
 dsimp only
 obtain⟨k,rfl⟩:∃k',k=k'+1:=⟨k - 1,U⟩
 rw[runN]at he
 refine Ok.oe QAh (Ok.J (fun hw=>?_) (fun hw=>Ok.s ?_))
 .rw[iB hw]at he
  refine Ok.oe (QCg h hn hb hq) (Ok.ite (fun h1=>Ok.s ?_) (fun h1=>?_))
  .rw[iB h1]at he;exact he
  .rw[iA h1]at he
   have hd:=Qbc hw
   have hst:stepV c b q=(stepQ c b q,0):=by
    revert h1
    unfold stepV
    grind
   have hl:=Qd8 (c:=c) (b:=b) hd.1
   rw[hst]at he |-
   refine hK (QaS b (stepQ c b q)) _ hl ⟨stepQ c b q,k,rfl,?_,U,he,rfl⟩
   have:=hq.stepV (c:=c) hb
   grind
 .grind
end
end
section
attribute [local irreducible] dueV stepV runV QE
section
def rin:QI fu x lo hi=some (inV x lo hi):=by
 unfold QI inV
 by_cases h1:lo<=x<;>by_cases h2:x<=hi<;>simp[cd,AM.J,h1,h2]
def QAm:badS l i=true↔¬(0<=O l i/\O l i<=31/\(i=0\/O l (i - 1)<O l i)):=by
 unfold badS
 grind
def QCB:badS l i=false↔(0<=O l i/\O l i<=31/\(i=0\/O l (i - 1)<O l i)):=by
 rw[<-Bool.not_eq_true,QAm,Ag]
def Qqi(hl:l.length<900):QeB 1000 l 32=some (setV l):=by
 refine Ok.eq ?_
 unfold QeB
 refine Ok.scan l.length (fun i=>((l,32,(i:Int),()),())) (badS l) rfl U (fun i hi hq _ k=>?_) (fun i hi hq k hk=>?_) (fun hq k=>?_)
 .have hb:=QAm.1 hq
  dsimp only
  rw[QuD hi hq]
  refine Ok.P (Ok.j (Ok.atn hi (Ok.ite (fun h1=>Ok.s rfl) (fun h1=>Ok.atn hi (Ok.ite (fun h2=>Ok.s rfl) (fun h2=>?_))))))
  have h0:0<i:=U
  refine Ok.P ?_
  rw[show X ((i:Int) - 1)=((i - 1:Nat):Int)by rw[Qc U];omega]
  exact Ok.A (Ok.atn hi (Ok.P (Ok.s rfl)))
 .have hb:=QCB.1 hq
  dsimp only
  refine Ok.P (Ok.j (Ok.atn hi (Ok.N (Ok.atn hi (Ok.N ?_)))))
  dsimp only
  rw[Qa U]
  by_cases h0:0<i
  .refine Ok.P ?_
   rw[show X ((i:Int) - 1)=((i - 1:Nat):Int)by rw[Qc U];omega]
   exact Ok.A (Ok.atn hi (Ok.N hk))
  .exact Ok.N hk
 .exact Ok.N (Ok.s (Qsf hq).symm)
def QtC(h:QA p):Qg1 1000 p=some (Qil p):=by
 have hst:=h.st
 have hnx:=h.nx
 refine Ok.eq ?_
 unfold Qg1 Qil
 refine Ok.loop (fun m x=>∃(i:Nat) (k t:Int),x=((k,t,(i:Int),()),p,())/\i<=p.P.length/\-1<=k/\k<=1000000/\WH p.E9 k t (p.P.drop i)=WH p.E9 (-1) p.R p.P/\m=p.P.length - i) (m:=p.P.length) U
  ⟨0,-1,p.R,rfl,U,U,U,rfl,rfl⟩ ?_
 rintro m x ⟨i,k,t,rfl,h1,h2,h2',h3,rfl⟩ K hK
 dsimp only
 refine Ok.ite (fun hi=>?_) (fun hi=>?_)
 .have hlt:i<p.P.length:=U
  have hs:=h.pe _ (Qf hlt)
  refine Ok.j (Ok.atn hlt ?_)
  obtain⟨s,hse⟩:∃s,O p.P i=s:=⟨_,rfl⟩
  rw[QfF hlt,WH,hse]at h3
  rw[hse]at hs |-
  refine Ok.TG (fun y=>y=((k,(i:Int),()),p,s,())/\t<=s.At/\(s.K = -1\/0<=s.K/\k<s.K/\s.K<p.E9)/\setV s.k=true) (fun y hy=>?_) (fun zG hJ=>?_)
  .obtain⟨rfl,c1,c2,c3⟩:=hy
   have hC:(decide (t<=s.At) && (decide (s.K = -1) || decide (0<=s.K) && decide (k<s.K) && decide (s.K<p.E9)) && setV s.k)=true:=by
    rw[c3];simp;omega
   rw[hC,B8]at h3
   dsimp only
   rw[Qa U]
   refine Ok.ite (fun g=>?_) (fun g=>?_)
   .rw[show max k s.K=s.K by omega]at h3
    exact hK _ _ U ⟨i+1,s.K,s.At,rfl,U,U,U,h3,rfl⟩
   .rw[show max k s.K=k by omega]at h3
    exact hK _ _ U ⟨i+1,k,s.At,rfl,U,U,U,h3,rfl⟩
  .refine Ok.ite (fun g1=>Ok.s ?_) (fun g1=>Ok.ite (fun g2=>Ok.s ?_) (fun g2=>Ok.ite (fun g3=>Ok.ite (fun g4=>Ok.s ?_) (fun g4=>Ok.ite (fun g5=>Ok.s ?_) (fun g5=>Ok.oe (Qqi U) (Ok.J (fun g6=>hJ _ ⟨rfl,U,U,g6⟩) (fun g6=>Ok.s ?_))))) (fun g3=>Ok.oe (Qqi U) (Ok.J (fun g6=>hJ _ ⟨rfl,U,U,g6⟩) (fun g6=>Ok.s ?_)))))
   .grind
   .grind
   .grind
   .grind
   .rw[<-h3,g6];simp
   .rw[<-h3,g6];simp
 .have e:i=p.P.length:=U
  refine Ok.s ?_
  subst e
  rw[List.drop_length,WH]at h3
  grind
def Qn7(h:Qdy m q):QdQ 1000 q=some (YG q):=by
 have h1:=h.rep
 have h2:=h.len
 refine Ok.eq ?_
 unfold QdQ
 refine Ok.j (Ok.oe rin (Ok.bt (Qt.2 U) (Ok.N (Ok.s ?_))))
 rw[(Yw h).1,Qc (x:=q.Fk+1) U,Qc]
 have h3:q.Fk=0\/q.Fk=1\/q.Fk=2:=U
 grind
def QvP(h:Qdy m q):Qga 1000 q=some true:=by
 have h2:=h.len
 refine Ok.eq ?_
 unfold Qga
 refine Ok.run2 q.Steps.length (fun i=>((i:Int),())) rfl U (fun i hi k hk=>?_) (fun k=>Ok.N (Ok.s rfl))
 dsimp only
 have hw:=(h.step _ (Qf hi)).wait
 refine Ok.P (Ok.atn hi (Ok.oe rin (Ok.nt (Qt.2 U) ?_)))
 rw[Qa U]
 exact hk
def QxB(h:Qdy m q):Qi7 1000 q i=some (Qvg q i):=by
 have h2:=h.len
 have hc:=Yw h
 refine Ok.eq ?_
 unfold Qi7 Qvg
 refine Ok.j (Ok.ite (fun g1=>Ok.s ?_) (fun g1=>Ok.oe (Qn7 h) (Ok.ite (fun g2=>Ok.s ?_) (fun g2=>Ok.Z (Ok.Z (Ok.s ?_))))))
 .rw[iA U]
 .rw[iA U]
 .have g3:=Int.ediv_le_self (a:=i) (q.Steps.length:Int) U
  have g4:0<=i / (q.Steps.length:Int):=ER U U
  rw[iB U,Bt U,Bz U,Qc U]
def newV(b:D.a)(id pol start:Int):D.Page×Int:=
 if inV id 1 999999=true/\inV start 0 8589934592=true then(if inV pol 0 ((b.j.length:Int) - 1)=true then(newP id pol start,0)else(page0,3))else(page0,1)
def Qpt{id pol start:Int}(hb:QQ b):QmL 1000 b id pol start=some (newV b id pol start):=by
 have hp:=hb.plen
 refine Ok.eq ?_
 unfold QmL newV
 refine Ok.j (Ok.oe rin (Ok.J (fun h1=>Ok.oe rin (Ok.J (fun h2=>?_) (fun h2=>Ok.s ?_))) (fun h1=>Ok.s ?_)))
 .dsimp only
  rw[iB ⟨h1,h2⟩,Qc U]
  refine Ok.oe rin (Ok.ncnd (fun h3=>Ok.s ?_) (fun h3=>Ok.s ?_))
  .rw[iA (by rw[h3];simp)];rfl
  .rw[iB h3];rfl
 .rw[iA (by rw[h2];simp)];rfl
 .rw[iA (by rw[h1];simp)];rfl
def QBQ{id pol start:Int}(hb:QQ b):QfJ 1000 b id pol start=some (newV b id pol start):=Qpt hb
def QgC(hb:QQ b)(h:QA p):UN 1000 b p=some (QE b p):=by
 have hde:=h.de;have hse:=h.se
 have hpl:=hb.plen
 refine Ok.eq ?_
 unfold UN
 refine Ok.j (Ok.oe (Qpt hb) ?_)
 unfold newV
 by_cases h1:inV p.S 1 999999=true/\inV p.R 0 8589934592=true
 .rw[iB h1]
  by_cases h2:inV p.W 0 ((b.j.length:Int) - 1)=true
  .rw[iB h2]
   have h2':=Qt.1 h2
   have hq:Qdy b.t.length (Xd b p):=hb.pol _ (Qf U)
   have hw:=QoM hq
   refine Ok.NS (Ok.at h2'.1 U ?_)
   show Ok (V (Qga 1000 (Xd b p)) _) _
   refine Ok.oe (QvP hq) (Ok.t (Ok.at h2'.1 U ?_))
   show Ok (V (QdQ 1000 (Xd b p)) _) _
   refine Ok.oe (Qn7 hq) (Ok.oe rin (Ok.J (fun h4=>?_) (fun h4=>Ok.s (by simp[QE,h4]))))
   refine Ok.j (Ok.oe rin (Ok.J (fun h5=>?_) (fun h5=>Ok.s (by simp[QE,h5]))))
   refine Ok.oe rin (Ok.J (fun h6=>?_) (fun h6=>Ok.s (by simp[QE,h6])))
   refine Ok.oe rin (Ok.J (fun h7=>?_) (fun h7=>Ok.s (by have h7:inV p.FQ p.R farV=false:=h7;simp[QE,h7])))
   refine Ok.oe rin (Ok.J (fun h8=>?_) (fun h8=>Ok.s (by have h8:inV p.FM 0 farV=false:=h8;simp[QE,h8])))
   refine Ok.oe rin (Ok.J (fun h9=>?_) (fun h9=>Ok.s (by have h9:inV p.FN 0 farV=false:=h9;simp[QE,h9])))
   refine Ok.j (Ok.oe rin (Ok.J (fun h10=>?_) (fun h10=>Ok.s (by simp[QE,h10]))))
   refine Ok.oe rin (Ok.J (fun h11=>?_) (fun h11=>Ok.s (by simp[QE,h11])))
   refine Ok.oe (QtC h) (Ok.J (fun h12=>?_) (fun h12=>Ok.s (by simp[QE,h12])))
   refine Ok.oe (Qqi U) (Ok.J (fun h13=>?_) (fun h13=>Ok.s (by simp[QE,h13])))
   refine Ok.ite (fun h14=>Ok.s (by simp[QE,QnM,Au (show ¬p.g.length<=64 by omega)])) (fun h14=>?_)
   have h7':inV p.FQ p.R farV=true:=h7
   have h8':inV p.FM 0 farV=true:=h8
   have h9':inV p.FN 0 farV=true:=h9
   have hcv:QE b p=QnM p.g:=by simp[QE,h1.1,h1.2,h2,hw,h4,h5,h6,h7',h8',h9',h10,h11,h12,h13]
   rw[hcv]
   unfold QnM
   rw[Ax (show p.g.length<=64 by omega),ES]
   refine Ok.scan2 p.g.length (fun i=>((i:Int),())) (fun i=>(p.g.take i).contains (O p.g i)) rfl U (fun i hi hq _ k=>?_) (fun i hi hq k hk=>?_) (fun hq k=>?_)
   .refine Ok.P (Ok.natn (Ok.L (Ok.atn hi (Ok.oe (QcR (by simp;omega)) (Ok.bt hq (Ok.s ?_))))))
    rw[Qlj hi hq]
   .refine Ok.P (Ok.natn (Ok.L (Ok.atn hi (Ok.oe (QcR (by simp;omega)) (Ok.bf hq ?_)))))
    rw[Qa U];exact hk
   .exact Ok.N (Ok.s (Ax (Qse hq)).symm)
  .rw[iA h2]
   exact Ok.PS (Ok.s (by simp[QE,h2]))
 .rw[iA h1]
  refine Ok.PS (Ok.s ?_)
  have:QE b p=false:=by
   rw[C4]
   intro hc
   have hf:=Yd hc
   exact h1 ⟨Qt.2 hf.id,Qt.2 hf.start⟩
  rw[this]
def QgF:Qia 1000 p=some (dueV p):=Qn9
def QsN(h:QA p):Qg0 1000 p=some (X9 p):=by
 have h1:=h.st
 refine Ok.eq ?_
 unfold Qg0 X9
 refine Ok.ite (fun h0=>Ok.s ?_) (fun h0=>?_)
 .simp_all
 .have hne:p.P≠[]:=fun e=>h0 (by rw[e];rfl)
  have hpos:=CB.2 hne
  rw[show X ((p.P.length:Int) - 1)=((p.P.length - 1:Nat):Int)by rw[Qc U];omega]
  have hp:=(h.pe _ (Qf (l:=p.P) (i:=p.P.length - 1) U)).1
  refine Ok.A (Ok.L (Ok.s ?_))
  rw[iA hne]
def QdC(h:QA p):QbQ 1000 p=some p:=by
 have h1:=h.st;have h2:=h.de;have h3:=h.se
 refine Ok.eq ?_
 unfold QbQ
 refine Ok.run p.P.length (fun i=>(((i:Int),()),p,page0,p.P.take i,())) rfl U (fun i hi k hk=>?_) (fun k=>?_)
 .dsimp only
  have hp:=(h.pe _ (Qf hi)).1
  refine Ok.P (Ok.atn hi (Ok.L (Ok.LS ?_)))
  rw[Qa U,Qn hi]
  exact hk
 .dsimp only
  rw[Ad]
  exact Ok.N (Ok.L (Ok.L (Ok.s rfl)))
def QsV{l:Y Int}{f:Int->AH}{i:Nat}(hi:i<l.length):(l.take (i+1)).filter f=(l.take i).filter f++(if f (O l i)=true then[O l i]else[]):=by
 rw[<-Qn hi,B4]
 grind
def Qyi(h:Ze n c)(hn:n<=48)(hb:QQ b)(hp:QA p):Qlh 1000 c b p=some (stepV c b p):=by
 refine Ok.eq ?_
 unfold Qlh
 have hst:=hp.st
 refine Ok.oe (QgC hb hp) (Ok.ncnd (fun hc=>Ok.s ?_) (fun hc=>?_))
 .unfold stepV;rw[iB hc];rfl
 have hf:=Yd hc
 refine Ok.oe QgF (Ok.ncnd (fun hd=>Ok.s ?_) (fun hd=>?_))
 .unfold stepV;rw[iA (by rw[hc];simp),iB hd];rfl
 have hst2:=hf.starts
 refine Ok.ite (fun hl=>Ok.s ?_) (fun hl=>?_)
 .unfold stepV;rw[iA (by rw[hc];simp),iA (by rw[hd];simp),iB U];rfl
 have hV:stepV c b p=(stepQ c b p,0):=by unfold stepV;rw[iA (by rw[hc];simp),iA (by rw[hd];simp),iA U]
 rw[hV]
 have hs:=QfG hd
 have hpol:=hf.pol;have hnx:=hf.next;have hl2:=hf.last;have hdu:=hf.due
 refine Ok.oe (QdC hp) (Ok.ite (fun h2=>Ok.s ?_) (fun h2=>?_))
 .unfold stepQ
  rw[iB h2,Qq2 h2]
 .have h0:p.p=0:=U
  have hq:=hf.polOK hb
  have hcn:=Yw hq
  have hql:=hq.len
  refine Ok.at hpol.1 hpol.2 ?_
  show Ok (V (Qi7 1000 (Xd b p) p.E9) _) _
  refine Ok.oe (QxB hq) ?_
  unfold Qvg
  rw[QlT h0]
  by_cases he:p.E9<YG (Xd b p)
  .rw[iB ⟨hnx.1,he⟩]
   dsimp only
   have hm:=QAv (q:=Xd b p) (i:=p.E9) hql.1
   refine Ok.f (Ok.at hm.1 hm.2 ?_)
   have hstp:=hq.step _ (QtE hq hnx.1)
   have hw:0<=(ZA b p).Fw/\(ZA b p).Fw<=900:=hstp.wait
   have hlen:(ZA b p).Fh.length<=2:=hstp.len
   show Ok (V (QdS 1000 c b (ZA b p).Fh p.FM) _) _
   refine Ok.oe (Qvi h hn hb hstp.target U) ?_
   have hpl:=Qh5 (c:=c) (b:=b) (l:=(ZA b p).Fh) (t:=p.FM)
   obtain⟨l,hl3⟩:∃l,VA c b (ZA b p).Fh p.FM=l:=⟨_,rfl⟩
   rw[hl3]at hpl |-
   have hcall:QcE c b (ZA b p) p.FM=l.filter fun z=>Vw c z p.FM (ZA b p).Fs:=by unfold QcE;rw[hl3]
   refine Ok.run l.length (fun i=>((p.FM,p.E9 % ((Xd b p).Steps.length:Int),l,(i:Int),()),c,p,page0,(p.S,p.W,p.R,p.E9,p.FM,p.p,p.By,p.FN,max p.FM p.FQ,p.z,p.FL,()),Xd b p,(p.E9,p.FM,()),p.P,p.i,p.g,(l.take i).filter (fun z=>Vw c z p.FM (ZA b p).Fs),())) rfl U (fun i hi k hk=>?_) (fun k=>?_)
   .dsimp only
    have hfl:=CQ (fun z=>Vw c z p.FM (ZA b p).Fs) (l.take i)
    have htl:=E2 i l
    refine Ok.P (Ok.j (Ok.atn hi (Ok.at hm.1 hm.2 (Ok.oe (QxW h hn) ?_))))
    show Ok (AM.J (Vw c (O l i) p.FM (ZA b p).Fs) _ _) _
    rw[QsV hi]at hk
    refine Ok.J (fun g=>Ok.atn hi (Ok.LS ?_)) (fun g=>?_)
    .dsimp only
     rw[iB g]at hk
     rw[Qa U]
     exact hk
    .dsimp only
     rw[iA (by rw[g];simp),Ao]at hk
     rw[Qa U]
     exact hk
   .dsimp only
    rw[Ad,<-hcall]
    unfold stepQ
    rw[iA h2,iA U]
    refine Ok.N (Ok.LS (Ok.j (Ok.ite (fun g=>Ok.at hm.1 hm.2 (Ok.s ?_)) (fun g=>Ok.s ?_))))
    .have hne:QcE c b (ZA b p) p.FM≠[]:=fun e=>by rw[e]at g;simp at g
     unfold farV at hdu
     show _=_
     rw[iA hne,Qc U]
     have:X (p.FM+(ZA b p).Fw)=p.FM+(ZA b p).Fw:=Qc U
     unfold ZA at this
     rw[this]
     rfl
    .have he':QcE c b (ZA b p) p.FM=[]:=E3.2 U
     show _=_
     rw[iB he',Qc U]
  .rw[iA U]
   dsimp only
   refine Ok.t (Ok.s ?_)
   unfold stepQ
   simp_all
def QzQ(h:Ze n c)(hn:n<=48)(hb:QQ b)(hp:QA p):Qp0 1000 c b p now=some (runV c b p now):=by
 refine Ok.eq ?_
 unfold Qp0
 refine Ok.oe (QgC hb hp) (Ok.ncnd (fun hc=>Ok.s ?_) (fun hc=>?_))
 .unfold runV;rw[iB hc];rfl
 rw[Qj7 hc]
 have hf:=Yd hc
 have hcn:=Yw (hf.polOK hb)
 have hnx:=hf.next
 have hle:QaS b p<=11:=by
  unfold QaS
  grind
 refine Ok.oe (QdC hp) ?_
 refine Ok.loop (fun m x=>∃(q:D.Page) (k:Nat),x=((now,()),c,b,q,page0,())/\QA q/\QaS b q+1<=k/\runN c b now k q=runN c b now 100 p/\m=QaS b q) (m:=QaS b p) U ⟨p,100,rfl,hp,U,rfl,rfl⟩ ?_
 rintro m x ⟨q,k,rfl,hq,hk,he,rfl⟩ K hK
 dsimp only
 obtain⟨k,rfl⟩:∃k',k=k'+1:=⟨k - 1,U⟩
 rw[runN]at he
 refine Ok.oe QgF ?_
 have hwv:Y1 q now=((dueV q).2 && decide ((dueV q).1<=now)):=rfl
 refine Ok.TG (fun y=>y=((now,()),c,b,q,page0,())/\Y1 q now=true) (fun y hy=>?_) (fun zG hJ=>?_)
 .obtain⟨rfl,hw⟩:=hy
  dsimp only
  rw[iB hw]at he
  refine Ok.oe (Qyi h hn hb hq) (Ok.ite (fun h1=>Ok.s ?_) (fun h1=>?_))
  .rw[iB h1]at he;exact he
  .rw[iA h1]at he
   have hd:=Qbc hw
   have hst:stepV c b q=(stepQ c b q,0):=by
    revert h1
    unfold stepV
    grind
   have hl:=Qd8 (c:=c) (b:=b) hd.1
   rw[hst]at he |-
   refine hK (QaS b (stepQ c b q)) _ hl ⟨stepQ c b q,k,rfl,?_,U,he,rfl⟩
   have:=hq.stepV (c:=c) hb
   grind
 .refine Ok.J (fun h1=>Ok.ite (fun h2=>Ok.s ?_) (fun h2=>hJ _ ⟨rfl,by rw[hwv,h1];simp;omega⟩)) (fun h1=>Ok.s ?_)
  .grind
  .grind
end
end
open Go AM
section
def QBp:YO 1000 p=some (dueV p):=by
 unfold YO
 simp only[Vh]
 exact Qn9
def Qyu:Yt 1000 p t=some (Y1 p t):=by
 unfold Yt Y1
 simp only[Vh]
 rw[QBp,ZZ]
 obtain⟨a,d⟩:=dueV p
 cases d<;>by_cases h:a<=t<;>simp[cd,AM.J,h]
def QuU(h:QA p):Yj 1000 p=some (X9 p):=by
 have h1:=h.st
 refine Ok.eq ?_
 unfold Yj X9
 refine Ok.ite (fun h0=>Ok.TF (Ok.TF (Ok.TF (Ok.s ?_)))) (fun h0=>?_)
 .simp_all
 .have hne:p.P≠[]:=fun e=>h0 (by rw[e];rfl)
  have hpos:=CB.2 hne
  rw[show X ((p.P.length:Int) - 1)=((p.P.length - 1:Nat):Int)by rw[Qc U];omega]
  have hp:=(h.pe _ (Qf (l:=p.P) (i:=p.P.length - 1) U)).1
  refine Ok.natn (Ok.E (Ok.G (Ok.oe (QfB U) (Ok.TF (Ok.TF (Ok.TF (Ok.s ?_)))))))
  rw[iA hne]
def Qn4(h:QA p):(X9 p).length<=40:=by
 unfold X9
 split
 .simp
 .rename_i hne
  have hpos:=CB.2 hne
  exact(h.pe _ (Qf U)).1
def Qvx:Z2 1000 p a=some (Wh p a):=by
 refine Ok.eq ?_
 unfold Z2
 refine Ok.TG (fun y=>y.1.1=decide ((a.Z=3/\p.z=4)\/(a.Z=4/\(p.FL=4\/p.P.length=200)))/\y.2=(pgA p,a,p.P,p.i,p.g,())) (fun y hy=>?_) (fun zG hJ=>?_)
 .obtain⟨⟨full,⟨⟩⟩,r⟩:=y
  obtain⟨h1,h2⟩:=hy
  dsimp only at h1 h2
  subst h2
  dsimp only[pgA]
  refine Ok.j (Ok.ite (fun g1=>Ok.TF (Ok.TF (Ok.TF (Ok.s ?_)))) (fun g1=>?_))
  .unfold Wh;rw[iB (.inl g1)]
  refine Ok.oe (Qyu (p:=p)) (Ok.J (fun g2=>Ok.TF (Ok.TF (Ok.TF (Ok.s ?_)))) (fun g2=>?_))
  .unfold Wh;rw[iB (.inr g2)]
  unfold Wh
  rw[iA (by rw[g2];simp;omega)]
  refine Ok.TG (fun y=>y.1.1=full/\y.1.2.1=decide (p.p=4\/(p.p=3/\a.Z≠5)\/(p.p=1/\a.Z=2))/\y.2=(pgA p,p.P,p.i,p.g,())) (fun y hy=>?_) (fun zG hJ=>?_)
  .obtain⟨⟨f2,s2,⟨⟩⟩,r⟩:=y
   obtain⟨k1,k2,k3⟩:=hy
   dsimp only at k1 k2 k3
   subst k3;subst k1
   dsimp only[pgA]
   refine Ok.J (fun g3=>Ok.TF (Ok.TF (Ok.TF (Ok.s ?_)))) (fun g3=>?_)
   .simp_all
   .rw[k2]at g3;rw[iA (BG g3)]
    refine Ok.ite (fun g4=>Ok.TF (Ok.TF (Ok.TF (Ok.s ?_)))) (fun g4=>?_)
    .omega
    .refine Ok.J (fun g5=>Ok.TF (Ok.TF (Ok.TF (Ok.s ?_)))) (fun g5=>Ok.TF (Ok.TF (Ok.TF (Ok.s ?_))))
     .simp_all
     .grind
  .refine Ok.ite (fun g3=>hJ _ ⟨rfl,?_,rfl⟩) (fun g3=>Ok.ite (fun g4=>Ok.ite (fun g5=>hJ _ ⟨rfl,?_,rfl⟩) (fun g5=>Ok.ite (fun g6=>Ok.ite (fun g7=>hJ _ ⟨rfl,?_,rfl⟩) (fun g7=>hJ _ ⟨rfl,?_,rfl⟩)) (fun g6=>hJ _ ⟨rfl,?_,rfl⟩))) (fun g4=>Ok.ite (fun g6=>Ok.ite (fun g7=>hJ _ ⟨rfl,?_,rfl⟩) (fun g7=>hJ _ ⟨rfl,?_,rfl⟩)) (fun g6=>hJ _ ⟨rfl,?_,rfl⟩)))
   all_goals grind
 .refine Ok.ite (fun g1=>Ok.ite (fun g2=>hJ _ ⟨?_,rfl⟩) (fun g2=>Ok.ite (fun g3=>Ok.ite (fun g4=>hJ _ ⟨?_,rfl⟩) (fun g4=>Ok.ite (fun g5=>hJ _ ⟨?_,rfl⟩) (fun g5=>hJ _ ⟨?_,rfl⟩))) (fun g3=>hJ _ ⟨?_,rfl⟩)))
   (fun g1=>Ok.ite (fun g3=>Ok.ite (fun g4=>hJ _ ⟨?_,rfl⟩) (fun g4=>Ok.ite (fun g5=>hJ _ ⟨?_,rfl⟩) (fun g5=>hJ _ ⟨?_,rfl⟩))) (fun g3=>hJ _ ⟨?_,rfl⟩))
  all_goals grind
def Qyl(h1:1<=j)(hj:j<l.length):(QkU l j).Perm l:=by
 unfold QkU
 have e1:O l j=l[j]:=by simp[O,AQ,AU hj]
 have e2:O l (j - 1)=l[j - 1]:=by simp[O,AQ,AU (show j - 1<l.length by omega)]
 grind
def Qxc(hs:l0.length<=900):
  Ok (Zn 1000 l0 0 (l0.length:Int)) fun r=>r.Perm l0/\Xm r l0.length:=by
 obtain⟨m,hm⟩:∃m,l0.length=m:=⟨_,rfl⟩
 rw[hm]
 rw[hm]at hs
 unfold Zn
 refine Ok.loop (fun q x=>∃(i:Nat) (a:_),x=((0,(m:Int),(i:Int),()),a,())/\1<=i/\a.Perm l0/\Xm a (min i m)/\q=m+1 - i) (m:=m) U
  ⟨1,l0,by rw[Qc U];rfl,U,.refl _,fun a b h1 h2=>U,U⟩ ?_
 rintro q x ⟨i,a,rfl,h1,h2,h3,rfl⟩ K hK
 have hal:=h2.length_eq
 dsimp only
 refine Ok.ite (fun hi=>?_) (fun hi=>Ok.s ⟨h2,by rw[show min i m=m by omega]at h3;exact h3⟩)
 have hlt:i<m:=U
 rw[show min i m=i by omega]at h3
 refine Ok.j ?_
 refine Ok.loop (fun q x=>∃j a',x=((0,(m:Int),(i:Int),((j:Nat):Int),()),a',())/\j<=i/\a'.Perm l0/\QnS a' (i+1) j/\q=j) (m:=i) U
  ⟨i,a,rfl,U,h2,Qki h3,rfl⟩ ?_
 rintro q x ⟨j,a',rfl,g1,g2,g3,hqj⟩ K2 hK2
 have hal':=g2.length_eq
 dsimp only
 have fin:(j=0\/O a' (j - 1)<=O a' j)->Ok (K ((0,(m:Int),X ((i:Int)+1),()),a',())) fun r=>r.Perm l0/\Xm r m:=fun he=>by
  rw[Qa U]
  exact hK (m+1 - (i+1)) _ U ⟨i+1,a',rfl,U,g2,by rw[show min (i+1) m=i+1 by omega];exact Qn3 g3 he,rfl⟩
 refine Ok.j (Ok.ite (fun hj=>?_) (fun hj=>fin (.inl U)))
 have hw:X ((j:Int) - 1)=((j - 1:Nat):Int):=by rw[Qc U];omega
 rw[hw]
 refine Ok.natn (Ok.E (Ok.G (Ok.natn (Ok.E (Ok.G (Ok.oe Qxn (Ok.ite (fun hless=>?_) (fun hless=>fin (.inr U)))))))))
 dsimp only
 rw[hw]
 refine Ok.natn (Ok.E (Ok.G (Ok.natn (Ok.E (Ok.G (Ok.natn (Ok.E (Ok.G (Ok.natn (Ok.lt (by simp;omega) (Ok.get (by simp;omega) ?_)))))))))))
 have hsw:(a'.set j (O a' (j - 1))).set (j - 1) (O a' j)=QkU a' j:=rfl
 rw[hsw]
 exact hK2 (j - 1) _ U ⟨j - 1,QkU a' j,rfl,U,(Qyl U U).trans g2,QlC g3 U U U hless,rfl⟩
def QzZ(hs:l0.length<=12):
  Ok (Vt 1000 l0) fun r=>r.Perm l0/\Xm r l0.length:=by
 unfold Vt
 obtain⟨bv,hb⟩:=Cn.1 (Qwz l0.length U)
 refine Ok.oe hb (Ok.opt (P:=fun r=>r.Perm l0/\Xm r l0.length) ?_ fun r hr=>Ok.ck hr.1.length_eq (Ok.s hr))
 unfold Y8
 refine Ok.loop (fun q x=>x=((0,(l0.length:Int),bv,true,true,()),l0,())) (m:=0) U rfl ?_
 rintro q x rfl K hK
 dsimp only
 refine Ok.p (by rw[Qc U];omega) (Ok.opt (Qxc U) fun r hr=>Ok.ck hr.1.length_eq (Ok.s hr))
def QuM(h:Xm l l.length)(hd:l.Nodup):Asc l:=by
 refine QAl h fun k h1 h2 e=>?_
 have e1:O l (k - 1)=l[k - 1]:=by simp[O,AQ,AU (show k - 1<l.length by omega)]
 have e2:O l k=l[k]:=by simp[O,AQ,AU h2]
 rw[e1,e2]at e
 have:=(List.nodup_iff_pairwise_ne.1 hd)
 exact(Ca.1 this (k - 1) k U h2 U) e
def Qwg(h:Asc l):l.Nodup:=List.Pairwise.imp (fun h=>U) h
def Qye(hl:Asc l)(hx:l.contains x=false)(hp:r.Perm (l++[x]))(hs:Xm r r.length):r=QiZ l x:=by
 have hnd:(l++[x]).Nodup:=Ed.2 ⟨Qwg hl,Ob,fun y hy z hz e=>by
  rw[Ae.1 hz]at e
  subst e
  rw[Bg.2 hy]at hx;simp at hx⟩
 refine Qfv (QuM hs (hp.nodup_iff.2 hnd)) (QcZ hl).1 fun z=>?_
 rw[hp.mem_iff,(QcZ hl).2];simp
def QtX(h:p.i.length<=40):ZN 1000 x p=some (!p.i.contains x,p):=by
 unfold ZN
 rw[QaP U,ZZ]
def QqY(hl:l.length<=900)(h:p.i.length<=40):Qs 1000 l p=some (l.any fun z=>!p.i.contains z,p):=by
 refine Ok.eq ?_
 unfold Qs QS
 refine Ok.opt (P:=fun(r:Int×D.Page)=>decide (0<=r.1)=(l.any fun z=>!p.i.contains z)/\r.2=p) ?_ fun⟨r,p'⟩ ⟨e1,e2⟩=>Ok.s (by dsimp only at e1 e2;rw[e1,e2])
 refine Ok.scan2 l.length (fun i=>(l,(l.length:Int),(i:Int),())) (fun i=>!p.i.contains (O l i)) rfl U (fun i hi hq _ k=>?_) (fun i hi hq k hk=>?_) (fun hq k=>?_)
 .refine Ok.P (Ok.atn hi (Ok.oe (QtX (p:=p) h) (Ok.bt hq (Ok.s ⟨?_,rfl⟩))))
  rw[QjC hi hq];simp
 .refine Ok.P (Ok.atn hi (Ok.oe (QtX (p:=p) h) (Ok.bf hq ?_)))
  rw[Qa U];exact hk
 .refine Ok.N (Ok.s ⟨?_,rfl⟩)
  rw[QnY hq];rfl
def QwR(hs:setV p.i=true)(hd:p.i.length<=11):(U5 p a).length<=40:=by
 unfold U5
 split
 .have hde:=Qax.1 hs
  unfold QiZ
  grind
 .omega
def QsR(h:QA p)(hd:p.i.length<=11)(hs:setV p.i=true):
  ZW 1000 p a=some { p with i:=U5 p a,FM:=if Qah p a=true/\p.p=0 then a.At else p.FM }:=by
 have hcl:=Qn4 h
 refine Ok.eq ?_
 unfold ZW
 refine Ok.oe (QuU h) ?_
 refine Ok.TG (fun y=>y=((X9 p,()),pgA p,a,page0,p.P,U5 p a,p.g,())) (fun y hy=>?_) (fun zG hJ=>?_)
 .subst hy
  dsimp only[pgA]
  have hdl:=QwR (a:=a) hs hd
  refine Ok.j (Ok.ite (fun g1=>Ok.ite (fun g2=>?_) (fun g2=>Ok.s ?_)) (fun g1=>Ok.s ?_))
  .refine Ok.oe (QqY (p:={ p with i:=U5 p a }) U hdl) (Ok.J (fun g3=>Ok.s ?_) (fun g3=>Ok.s ?_))
   .have:Qah p a=false:=by
     unfold Qah
     simp_all
    simp_all
   .have:Qah p a=true:=by
     unfold Qah
     grind
    simp_all
  .have:Qah p a=false:=by
    unfold Qah
    simp_all
   simp_all
  .simp_all
 .refine Ok.oe (Qej U) (Ok.J (fun g1=>?_) (fun g1=>?_))
  .refine Ok.oe (QaP U) (Ok.J (fun g2=>?_) (fun g2=>?_))
   .refine hJ _ ?_
    have:U5 p a=p.i:=by
     unfold U5
     rw[iB g1];exact QxG (Qax.1 hs).1 (Bg.1 g2)
    rw[this];rfl
   .refine Ok.LS (Ok.opt (QzZ (by simp;omega)) fun r ⟨hr1,hr2⟩=>Ok.ck hr1.length_eq (hJ _ ?_))
    have:r=U5 p a:=by
     unfold U5
     rw[iB g1]
     exact Qye (Qax.1 hs).1 g2 hr1 (by rw[hr1.length_eq];exact hr2)
    rw[this];rfl
  .refine hJ _ ?_
   have:U5 p a=p.i:=by unfold U5;rw[iA (by rw[g1];simp)]
   rw[this];rfl
def Qwa(hb:QQ b)(h:QA p)(hd:p.i.length<=11):Uv 1000 c b p a=some (answerV b p a):=by
 have hse:=h.se;have hst:=h.st
 refine Ok.eq ?_
 unfold Uv
 refine Ok.TG (fun y=>y=((),p,a,page0,())/\QE b p=true/\YX a=true) (fun y hy=>?_) (fun zG hJ=>?_)
 .obtain⟨rfl,hc,hv⟩:=hy
  dsimp only
  unfold answerV
  rw[iA (by rw[hc,hv];simp)]
  have hf:=Yd hc
  have hv':=hv
  unfold YX at hv'
  simp only[bae,Qt]at hv'
  obtain⟨⟨⟨⟨⟨v1,v2⟩,v3⟩,v4⟩,v5⟩,v6⟩:=hv'
  have hsn:=hf.snoozes;have hha:=hf.hands
  refine Ok.ite (fun g1=>Ok.s ?_) (fun g1=>?_)
  .rw[iB g1];rfl
  rw[iA g1]
  refine Ok.oe (QlQ h) (Ok.oe (QaP U) (Ok.J (fun g2=>Ok.s ?_) (fun g2=>?_)))
  .rw[iB g2]
  rw[iA (by rw[g2];simp)]
  refine Ok.oe Qvx (Ok.ite (fun g3=>Ok.s ?_) (fun g3=>?_))
  .rw[iB g3];rfl
  rw[iA g3]
  refine Ok.LS ?_
  refine Ok.TG (fun y=>y=((),pgA p,a,page0,p.P,p.i,p.g++[a.S],())/\¬(a.Z=1/\p.p=1)) (fun y hy=>?_) (fun zG hJ=>?_)
  .obtain⟨rfl,hn⟩:=hy
   dsimp only[pgA]
   unfold XG
   refine Ok.j (Ok.ite (fun k1=>Ok.s ?_) (fun k1=>Ok.ite (fun k2=>?_) (fun k2=>Ok.ite (fun k3=>Ok.s ?_) (fun k3=>Ok.ite (fun k4=>Ok.LS (Ok.s ?_)) (fun k4=>Ok.ite (fun k5=>Ok.s ?_) (fun k5=>absurd v5 U))))))
   .simp_all
   .rw[iA k1,iB k2]
    have hp':QA { p with FQ:=a.At,g:=p.g++[a.S] }:=⟨h.st,h.pe,h.de,by have:=hf.seen;dsimp only;simp;omega,h.nx⟩
    exact Ok.oe (QsR (p:={ p with FQ:=a.At,g:=p.g++[a.S] }) hp' hd hf.declined) (Ok.s rfl)
   .rw[iA k1,iA k2,iB k3]
    rw[iB k3]at v6
    have v6:=Qt.1 v6
    rw[Qc U,Qc U]
   .rw[iA k1,iA k2,iA k3,iB k4,Qc U,Qc U]
   .simp_all
  .refine Ok.ite (fun k1=>Ok.ite (fun k2=>Ok.s ?_) (fun k2=>hJ _ ⟨rfl,U⟩)) (fun k1=>hJ _ ⟨rfl,U⟩)
   unfold XG
   simp_all
 .refine Ok.oe (QkY hb h) (Ok.J (fun g1=>Ok.oe QuH (Ok.J (fun g2=>hJ _ ⟨rfl,g1,g2⟩) (fun g2=>Ok.s ?_))) (fun g1=>Ok.s ?_))
  .unfold answerV;rw[iB (.inr g2)];rfl
  .unfold answerV;rw[iB (.inl g1)];rfl
end
section
def QoK:Qgb 1000 a=some (YX a):=by
 refine Ok.eq ?_
 unfold Qgb
 refine Ok.j (Ok.oe rin (Ok.J (fun h1=>Ok.oe rin (Ok.J (fun h2=>Ok.oe rin (Ok.J (fun h3=>Ok.oe rin (Ok.J (fun h4=>?_) (fun h4=>Ok.s ?_))) (fun h3=>Ok.s ?_))) (fun h2=>Ok.s ?_))) (fun h1=>Ok.s ?_)))
 .dsimp only
  refine Ok.TG (fun y=>y.1.1=a.Z/\y.1.2.1=decide (a.Z=1\/a.Z=2\/a.Z=5)/\y.2=(a,())) (fun y hy=>?_) (fun zG hJ=>?_)
  .obtain⟨⟨k,z,⟨⟩⟩,r⟩:=y
   obtain⟨e1,e2,e3⟩:=hy
   dsimp only at e1 e2 e3
   subst e3;subst e1
   dsimp only
   refine Ok.J (fun g=>Ok.s ?_) (fun g=>Ok.ite (fun k3=>Ok.oe rin (Ok.s ?_)) (fun k3=>Ok.ite (fun k4=>Ok.oe rin (Ok.s ?_)) (fun k4=>Ok.s ?_)))
   .rw[e2]at g
    have g:=BE g
    have hk:inV a.Z 1 5=true:=Qt.2 U
    unfold YX
    grind
   .have hk:inV a.Z 1 5=true:=Qt.2 U
    unfold YX
    simp_all
   .have hk:inV a.Z 1 5=true:=Qt.2 U
    unfold YX
    simp_all
   .rw[e2]at g
    have g:=BG g
    have hk:inV a.Z 1 5=false:=C4.2 fun h=>by have:=Qt.1 h;omega
    unfold YX
    rw[hk];simp
  .refine Ok.ite (fun g1=>hJ _ ⟨rfl,?_,rfl⟩) (fun g1=>Ok.ite (fun g2=>hJ _ ⟨rfl,?_,rfl⟩) (fun g2=>hJ _ ⟨rfl,?_,rfl⟩))
   all_goals simp_all
 .unfold YX;rw[h4];simp
 .unfold YX;rw[h3];simp
 .unfold YX;rw[h2];simp
 .unfold YX;rw[h1];simp
def Qr2(hf:CkF b p):QeD 1000 p a=some (Wh p a):=by
 have hs1:=hf.seen;have hs2:=hf.snoozes;have hs3:=hf.hands;have hs4:=hf.starts
 refine Ok.eq ?_
 unfold QeD
 refine Ok.oe QgF ?_
 rcases hdv:dueV p with⟨da,dd⟩
 dsimp only
 refine Ok.j (Ok.ite (fun g1=>Ok.s ?_) (fun g1=>Ok.J (fun g2=>Ok.ite (fun g3=>Ok.s ?_) (fun g3=>?_)) (fun g2=>?_)))
 .unfold Wh;rw[iB (.inl g1)]
 .unfold Wh;rw[iB (.inr (by unfold Y1;rw[hdv,g2];simp;omega))]
 all_goals
  have hw:Y1 p a.At=false:=by
   unfold Y1
   simp_all
  unfold Wh
  rw[iA (by rw[hw];simp;omega)]
  refine Ok.TG (fun y=>y.1.1=decide (p.p=4\/(p.p=3/\a.Z≠5)\/(p.p=1/\a.Z=2))/\y.2=(p,a,())) (fun y hy=>?_) (fun zG hJ=>?_)
  .obtain⟨⟨s2,⟨⟩⟩,r⟩:=y
   obtain⟨k2,k3⟩:=hy
   dsimp only at k2 k3
   subst k3
   dsimp only
   refine Ok.J (fun g3=>Ok.s ?_) (fun g3=>?_)
   .simp_all
   .rw[k2]at g3;rw[iA (BG g3)]
    refine Ok.TG (fun y=>y.1.1=decide (p.g.length=64\/(a.Z=3/\p.z=4)\/(a.Z=4/\(p.FL=4\/p.P.length=200)))) (fun y hy=>?_) (fun zG hJ=>?_)
    .obtain⟨⟨s3,⟨⟩⟩,⟨⟩⟩:=y
     dsimp only at hy |-
     refine Ok.J (fun g4=>Ok.s ?_) (fun g4=>Ok.s ?_)
     .simp_all
     .simp_all
    .refine Ok.ite (fun g4=>hJ _ ?_) (fun g4=>Ok.ite (fun g5=>Ok.ite (fun g6=>hJ _ ?_) (fun g6=>Ok.ite (fun g7=>Ok.ite (fun g8=>hJ _ ?_) (fun g8=>Ok.ite (fun g9=>hJ _ ?_) (fun g9=>hJ _ ?_))) (fun g7=>hJ _ ?_))) (fun g5=>Ok.ite (fun g7=>Ok.ite (fun g8=>hJ _ ?_) (fun g8=>Ok.ite (fun g9=>hJ _ ?_) (fun g9=>hJ _ ?_))) (fun g7=>hJ _ ?_)))
     all_goals grind
  .refine Ok.ite (fun g3=>hJ _ ⟨?_,rfl⟩) (fun g3=>Ok.ite (fun g4=>Ok.ite (fun g5=>hJ _ ⟨?_,rfl⟩) (fun g5=>Ok.ite (fun g6=>Ok.ite (fun g7=>hJ _ ⟨?_,rfl⟩) (fun g7=>hJ _ ⟨?_,rfl⟩)) (fun g6=>hJ _ ⟨?_,rfl⟩))) (fun g4=>Ok.ite (fun g6=>Ok.ite (fun g7=>hJ _ ⟨?_,rfl⟩) (fun g7=>hJ _ ⟨?_,rfl⟩)) (fun g6=>hJ _ ⟨?_,rfl⟩)))
   all_goals grind
def QtL(hl:l.length<=400)(h:Asc l):VW 1000 l x=some (QiZ l x):=by
 rw[QAj hl]
 congr 1
 exact Qfv (Qhc h).1 (QcZ h).1 fun z=>by rw[(Qhc h).2,(QcZ h).2]
def QsD(hb:QQ b)(h:QA p):QgZ 1000 c b p a=some (answerV b p a):=by
 have hse:=h.se;have hst:=h.st;have hde:=h.de
 refine Ok.eq ?_
 unfold QgZ
 refine Ok.TG (fun y=>y=((),p,a,page0,())/\QE b p=true/\YX a=true) (fun y hy=>?_) (fun zG hJ=>?_)
 .obtain⟨rfl,hc,hv⟩:=hy
  dsimp only
  unfold answerV
  rw[iA (by rw[hc,hv];simp)]
  have hf:=Yd hc
  have hv':=hv
  unfold YX at hv'
  simp only[bae,Qt]at hv'
  obtain⟨⟨⟨⟨⟨v1,v2⟩,v3⟩,v4⟩,v5⟩,v6⟩:=hv'
  have hsn:=hf.snoozes;have hha:=hf.hands
  refine Ok.ite (fun g1=>Ok.s ?_) (fun g1=>?_)
  .rw[iB g1];rfl
  rw[iA g1]
  refine Ok.oe (QdC h) (Ok.oe (QcR U) (Ok.J (fun g2=>Ok.s ?_) (fun g2=>?_)))
  .rw[iB g2]
  rw[iA (by rw[g2];simp)]
  refine Ok.oe (Qr2 hf) (Ok.ite (fun g3=>Ok.s ?_) (fun g3=>?_))
  .rw[iB g3];rfl
  rw[iA g3]
  refine Ok.LS (Ok.j ?_)
  unfold XG
  refine Ok.ite (fun k1=>Ok.ite (fun k2=>Ok.s ?_) (fun k2=>Ok.s ?_)) (fun k1=>Ok.ite (fun k2=>?_) (fun k2=>Ok.ite (fun k3=>Ok.s ?_) (fun k3=>Ok.ite (fun k4=>Ok.LS (Ok.s ?_)) (fun k4=>Ok.ite (fun k5=>Ok.s ?_) (fun k5=>absurd v5 U)))))
  .simp_all
  .simp_all
  .rw[iA k1,iB k2]
   have hcl:=Qn4 h
   refine Ok.oe (QsN h) ?_
   refine Ok.TG (fun y=>y=((X9 p,()),p,a,page0,(p.S,p.W,p.R,p.E9,p.FM,p.p,p.By,p.FN,a.At,p.z,p.FL,U5 p a,()),p.P,p.g++[a.S],())) (fun y hy=>?_) (fun zG hJ=>?_)
   .subst hy
    dsimp only
    have hdl:(U5 p a).length<=900:=by
     unfold U5 QiZ
     grind
    obtain⟨aD,haD⟩:∃aD:Nat->AH,∀i,aD i=(decide ((0:Int)<(((X9 p).length:Nat):Int)) && ((X9 p).take i).all fun z=>(U5 p a).contains z):=⟨fun i=>_,fun i=>rfl⟩
    have hall:∀i,i<(X9 p).length->aD (i+1)=(aD i && (U5 p a).contains (O (X9 p) i)):=fun i hi=>by
     rw[haD,haD,<-Qn hi,List.all_append,Bool.and_assoc]
     simp
    have hlast:Qah p a=aD (X9 p).length:=by
     rw[haD,Ad]
     unfold Qah
     congr 1
     refine decide_eq_decide.2 ⟨fun hne=>by have:=CB.2 hne;omega,fun hpos e=>by rw[e]at hpos;simp at hpos⟩
    refine Ok.run2 (X9 p).length (fun i=>(X9 p,aD i,(i:Int),())) (by rw[haD];simp) U (fun i hi k hk=>?_) (fun k=>?_)
    .dsimp only at hk |-
     rw[hall i hi]at hk
     refine Ok.P (Ok.j (Ok.J (fun g=>Ok.atn hi (Ok.oe (QcR hdl) (Ok.J (fun g'=>?_) (fun g'=>?_)))) (fun g=>?_)))
     .dsimp only
      rw[Qa U]
      simp_all
     .dsimp only
      rw[Qa U]
      simp_all
     .dsimp only
      rw[Qa U]
      rw[g]at hk;exact hk
    .dsimp only
     rw[hlast]
     refine Ok.N (Ok.J (fun g=>Ok.ite (fun g0=>Ok.s ?_) (fun g0=>Ok.s ?_)) (fun g=>Ok.s ?_))
     .rw[iB ⟨g,g0⟩]
     .simp_all
     .grind
   .refine Ok.oe (QcR U) (Ok.J (fun g4=>?_) (fun g4=>?_))
    .have hd:=(Qax.1 hf.declined).1
     refine Ok.oe (QtL U hd) (hJ _ ?_)
     have:U5 p a=QiZ p.i a.Q:=by unfold U5;rw[iB g4]
     rw[this]
    .refine hJ _ ?_
     have:U5 p a=p.i:=by unfold U5;rw[iA (by rw[g4];simp)]
     rw[this]
  .rw[iA k1,iA k2,iB k3]
   rw[iB k3]at v6
   have v6:=Qt.1 v6
   rw[Qc U,Qc U]
  .rw[iA k1,iA k2,iA k3,iB k4,Qc U,Qc U]
  .simp_all
 .refine Ok.oe (QgC hb h) (Ok.J (fun g1=>Ok.oe QoK (Ok.J (fun g2=>hJ _ ⟨rfl,g1,g2⟩) (fun g2=>Ok.s ?_))) (fun g1=>Ok.s ?_))
  .unfold answerV;rw[iB (.inr g2)];rfl
  .unfold answerV;rw[iB (.inl g1)];rfl
end
open Go AM
section
structure PgX (k:Int) (p:D.Page):Prop where
 decl:∀x∈p.i,x<4
 seen:∀x∈p.g,1<=x/\x<=k
def PgX.mono(h:PgX k p)(hk:k<=k'):PgX k' p:=⟨h.decl,fun x hx=>⟨(h.seen x hx).1,CR (h.seen x hx).2 hk⟩⟩
def PgX.step{c:D.E}{b:D.a}{p:D.Page}{k:Int}(h:PgX k p):PgX k (stepQ c b p):=by
 unfold stepQ
 split
 .exact⟨h.decl,h.seen⟩
 .split
  .exact⟨h.decl,h.seen⟩
  .exact⟨Ob,h.seen⟩
def PgX.run(h:PgX k p)(hb:QQ b)(hQ:Qjz Q M c b)(hi:QL Q M b p):PgX k (runV c b p now).1:=
 Qjr hb hQ (fun q _ _ hr=>hr.step) hi h
def QxF(h:z∈QiZ l x):z∈l\/z=x:=by
 unfold QiZ at h
 rcases Ah.1 h with h|h
 .exact .inl (Bk.1 h).1
 .rcases AY.1 h with h|h
  .exact .inr h
  .exact .inl (Bk.1 h).1
def PgX.answer(h:PgX k p)(ha:a.Q<4)(hi:1<=a.S/\a.S<=k):PgX k (XG p a):=by
 have hs:∀x∈p.g++[a.S],1<=x/\x<=k:=VV h.seen hi
 have hd:∀x∈U5 p a,x<4:=by
  unfold U5
  split
  .intro x hx
   rcases QxF hx with hx|rfl
   .exact h.decl x hx
   .exact ha
  .exact h.decl
 unfold XG
 split
 .split
  .exact⟨h.decl,hs⟩
  .exact⟨h.decl,hs⟩
 .split
  .exact⟨hd,hs⟩
  .split
   .exact⟨h.decl,hs⟩
   .split
    .exact⟨Ob,hs⟩
    .exact⟨h.decl,hs⟩
def PgX.dlen(h:PgX k p)(hi:setV p.i=true):p.i.length<=4:=by
 have hs:=Qax.1 hi
 exact QtN hs.1 fun z hz=>⟨(hs.2 z hz).1,h.decl z hz⟩
def PgX.new{id pol start:Int}:PgX k (newP id pol start):=⟨by simp[newP],by simp[newP]⟩
end
def Qzv{t:Y Int}:QjS 1000 t=some (decide ((t.length:Int)<=500)):=rfl
def QB6{t:Y Int}:QfQ 1000 t=some ⟨t,0⟩:=rfl
def dice0{t:Y Int}:Qz t ⟨t,0⟩:=⟨rfl,Ai _,by dsimp only;omega⟩
def Qxo{t:Y Int}(h:decide ((t.length:Int)<=500)=true):t.length<=500:=by have:=BE h;omega
section
open Go AM
attribute [local irreducible] dueV stepV runV QE answerV
section
structure QAO (a:D.b):Prop where
 pers : -1<=a.Q/\a.Q<4
 kind:1<=a.Z/\a.Z<=5
 arg3:a.Z=3->1<=a.Ft/\a.Ft<=5000
 arg4:a.Z=4->0<=a.Ft/\a.Ft<4
 arg0:a.Z≠3->a.Z≠4->a.Ft=0
def QAO.valid(h:QAO a)(h1:1<=a.S/\a.S<=999999)(h2:1<=a.Page/\a.Page<=999999)(h3:0<=a.At/\a.At<=8589934592):YX a=true:=by
 have hp:=h.pers;have hk:=h.kind
 unfold YX
 rw[Qt.2 h1,Qt.2 h2,Qt.2 (show -1<=a.Q/\a.Q<=31 by omega),Qt.2 h3,Qt.2 hk]
 simp only[B8]
 split
 .rename_i k3;have:=h.arg3 k3;exact Qt.2 U
 .split
  .rename_i k4;have:=h.arg4 k4;exact Qt.2 U
  .rename_i k3 k4;exact Ax (h.arg0 k3 k4)
def Qwb{id page at_:Int}(hL:L.length<=500)(hd:Qz L d):Ok (VT 1000 d id page at_) fun r=>Qz L r.2/\QAO r.1/\r.1.S=id/\r.1.Page=page/\r.1.At=at_:=by
 unfold VT
 refine Ok.opt (nx hL hd U U) fun⟨a0,d1⟩ ⟨h1,l1,u1⟩=>?_
 dsimp only at h1 l1 u1 |-
 refine Ok.opt (nx hL h1 U U) fun⟨a2,d3⟩ ⟨h3,l3,u3⟩=>?_
 dsimp only at h3 l3 u3 |-
 rw[Qc (x:=1+a2) U,Qc (x:=a0 - 1) U]
 refine Ok.j (Ok.ite (fun g=>?_) (fun g=>Ok.ite (fun g'=>?_) (fun g'=>?_)))
 .refine Ok.opt (Qci hL h3 Ob Ob) fun⟨a8,d9⟩ ⟨h9,m9⟩=>Ok.s ⟨h9,⟨by dsimp only;omega,by dsimp only;omega,fun _=>?_,fun e=>?_,fun e=>absurd g e⟩,rfl,rfl,rfl⟩
  .dsimp only at m9 |-
   simp only[AY,BH,or_false]at m9
   omega
  .dsimp only at e;omega
 .refine Ok.opt (nx hL h3 U U) fun⟨a10,d11⟩ ⟨h11,l11,u11⟩=>Ok.s ⟨h11,⟨by dsimp only;omega,by dsimp only;omega,fun e=>?_,fun _=>⟨l11,u11⟩,fun _ e=>absurd g' e⟩,rfl,rfl,rfl⟩
  dsimp only at e;omega
 .exact Ok.s ⟨h3,⟨by dsimp only;omega,by dsimp only;omega,fun e=>absurd e g,fun e=>absurd e g',fun _ _=>rfl⟩,rfl,rfl,rfl⟩
def Qx6(hb:QQ b)(hQ:Qjz Q M c b)(h:QL Q M b p)(now):∃q,runV c b p now=(q,0)/\QL Q M b q/\Y1 q now=false/\Kept p q:=by
 have h1:=QeP (now:=now) hb hQ h
 have h2:=Qa6 (now:=now) hb hQ h
 rcases hr:runV c b p now with⟨q,e⟩
 rw[hr]at h1 h2
 obtain⟨a1,a2,a3⟩:=h1
 dsimp only at a1 a2 a3 h2
 subst a2
 exact⟨q,rfl,a1,a3,h2⟩
end
end
def QN(id f:Int)(l:Y D.R):Y D.Call:=l.flatMap fun s=>s.k.map fun x=>D.Call.mk id s.K s.At x f
def Qdh{id f:Int}:QN id f (a++b)=QN id f a++QN id f b:=by unfold QN;rw[List.flatMap_append]
def unf(c:D.Call):D.Call:={ c with Fence:=0 }
def QsP{id f:Int}:(QN id f l).map unf=QN id 0 l:=by
 unfold QN
 rw[List.map_flatMap]
 congr 1
 funext s
 rw[CZ];rfl
def ownC(id:Int)(l:Y D.Call):Y D.Call:=l.filter fun c=>decide (c.Page=id)
def Qap{id:Int}:ownC id (a++b)=ownC id a++ownC id b:=B4 ..
def WU{id f:Int}:∀c∈QN id f l,c.Page=id/\c.Fence=f:=by
 intro c hc
 unfold QN at hc
 grind
def Qmr{id f:Int}:ownC id (QN id f l)=QN id f l:=by
 unfold ownC
 exact Ea.2 fun c hc=>by simpa using(WU c hc).1
def Qvf{id i f:Int}(h:i≠id):ownC i (QN id f l)=[]:=by
 unfold ownC
 exact Cw.2 fun c hc=>by have:=(WU c hc).1;simp;omega
structure Told (fence:Int) (p:D.Page) (l:Y D.Call):Prop where
 same:(ownC p.S l).map unf=QN p.S 0 p.P
 up:(ownC p.S l).Pairwise fun x y=>x.Fence<=y.Fence
 fit:∀c∈ownC p.S l,0<=c.Fence/\c.Fence<=fence
def Told.mono(h:Told f p l)(hg:f<=g):Told g p l:=⟨h.same,h.up,fun c hc=>by have:=h.fit c hc;omega⟩
def Told.more(h:Told f p l)(hf:0<=f)(hid:q.S=p.S)(hs:q.P=p.P++m):Told f q (l++QN p.S f m):=by
 refine⟨?_,?_,?_⟩
 .rw[hid,Qap,Qmr,Ay,h.same,QsP,hs,Qdh]
 .rw[hid,Qap,Qmr]
  refine CH.2 ⟨h.up,?_,fun x hx y hy=>?_⟩
  .refine List.pairwise_iff_forall_sublist.2 fun{x y} hxy=>?_
   have h1:=(WU x (hxy.subset Ob)).2
   have h2:=(WU y (hxy.subset Ob)).2
   omega
  .have h1:=(h.fit x hx).2
   have h2:=(WU y hy).2
   omega
 .rw[hid,Qap,Qmr]
  intro c hc
  rcases Ah.1 hc with hc|hc
  .exact h.fit c hc
  .have:=(WU c hc).2;omega
def Told.other{f id:Int}(h:Told f p l)(hid:p.S≠id):Told f p (l++QN id f m):=by
 have e:ownC p.S (l++QN id f m)=ownC p.S l:=by rw[Qap,Qvf hid,Ao]
 exact⟨by rw[e];exact h.same,by rw[e];exact h.up,by rw[e];exact h.fit⟩
def AscP(l:Y D.Page):Prop:=l.Pairwise fun p q=>p.S<q.S
def posV(id:Int):Y D.Page->Nat
 |[]=>0
 |p::r=>if p.S<id then posV id r+1 else 0
def Qcp{id:Int}:∀{l:Y D.Page},posV id l<=l.length
 |[]=>AN _
 |p::r=>by
  rw[posV]
  split
  .have:=Qcp (id:=id) (l:=r);rw[Ab];omega
  .exact BM _
def hasV(id:Int)(l:Y D.Page):AH:=decide (posV id l<l.length/\(O l (posV id l)).S=id)
def QbJ[AK α]{x:α}{l:Y α}:O (x::l) (i+1)=O l i:=by simp[O]
def Qes[AK α]{x:α}{l:Y α}:O (x::l) 0=x:=by simp[O]
def QmA{id:Int}:∀{l:Y D.Page} {i:Nat},i<posV id l->(O l i).S<id
 |[],i,h=>by simp[posV]at h
 |p::r,i,h=>by
  rw[posV]at h
  split at h
  .rename_i hp
   cases i with
   |zero=>rw[Qes];exact hp
   |succ i=>rw[QbJ];exact QmA U
  .omega
def Qmz{id:Int}:∀{l:Y D.Page},AscP l->∀{i:Nat},posV id l<=i->i<l.length->id<=(O l i).S
 |[],_,i,_,h=>by simp at h
 |p::r,ha,i,h1,h2=>by
  have ha':=CF.1 ha
  rw[posV]at h1
  split at h1
  .cases i with
   |zero=>omega
   |succ i=>rw[QbJ];exact Qmz ha'.2 U (by simpa using h2)
  .cases i with
   |zero=>rw[Qes];omega
   |succ i=>
    rw[QbJ]
    have:=ha'.1 (O r i) (Qf (by simpa using h2))
    omega
def Qei(h:AscP l)(hij:i<j)(hj:j<l.length):(O l i).S<(O l j).S:=by
 have:=Ca.1 h i j U hj hij
 simpa [O,AQ,AU hj,AU (show i<l.length by omega)]using this
def Qj0(h:AscP l)(hi:i<l.length):posV (O l i).S l=i:=by
 rcases Cu (posV (O l i).S l) i with g|g|g
 .have:=Qmz h (AN (posV (O l i).S l)) U
  have:=Qei h g hi
  omega
 .exact g
 .have:=QmA g;omega
def Qpj(h:AscP l)(hi:i<l.length):hasV (O l i).S l=true:=by
 unfold hasV;rw[Qj0 h hi];simp[hi]
def Qw8{id:Int}(ha:AscP l)(h:hasV id l=false):∀p∈l,p.S≠id:=by
 intro p hp e
 obtain⟨i,hi,rfl⟩:=Bb hp
 have e1:O l i=l[i]:=by simp[O,AQ,AU hi]
 have:=Qpj ha hi
 simp_all
def insP(l:Y D.Page)(p:D.Page):Y D.Page:=l.take (posV p.S l)++p::l.drop (posV p.S l)
def QxL{id:Int}:∀{l:Y D.Page},∀p∈l.take (posV id l),p.S<id
 |[],p,h=>by simp at h
 |q::r,p,h=>by
  rw[posV]at h
  split at h
  .rename_i hq
   rw[CS]at h
   rcases AY.1 h with rfl|h
   .exact hq
   .exact QxL p h
  .simp at h
def Qtd{id:Int}:∀{l:Y D.Page},AscP l->∀p∈l.drop (posV id l),id<=p.S
 |[],_,p,h=>by simp at h
 |q::r,ha,p,h=>by
  have ha':=CF.1 ha
  rw[posV]at h
  split at h
  .rw[Ck]at h;exact Qtd ha'.2 p h
  .rename_i hq
   rw[Cc]at h
   rcases AY.1 h with rfl|h
   .omega
   .have:=ha'.1 p h;omega
def Qzj(h:AscP l)(hn:hasV p.S l=false):AscP (insP l p):=by
 have hne:=Qw8 h hn
 refine CH.2 ⟨h.sublist (EC ..),CF.2 ⟨fun q hq=>?_,h.sublist (List.drop_sublist ..)⟩,fun q hq r hr=>?_⟩
 .have:=Qtd h q hq
  grind
 .have h1:=QxL q hq
  rcases AY.1 hr with rfl|hr
  .exact h1
  .have:=Qtd h r hr;omega
def QiM:q∈insP l p↔q=p\/q∈l:=by
 unfold insP
 rw[Ah,AY]
 constructor
 .grind
 .rintro(h|h)
  .exact .inr (.inl h)
  .have h2:=h
   rw[<-Bp (posV p.S l) l]at h2
   grind
def QzW(h:AscP l)(hi:i<l.length)(hp:p.S=(O l i).S):AscP (l.set i p):=by
 have e:∀j,j<l.length->(O (l.set i p) j).S=(O l j).S:=fun j hj=>by
  by_cases hij:j=i
  .subst hij;simp[O,AQ,hi]at hp |-;exact hp
  .simp[O,AQ,CA,Ak hij]
 refine Ca.2 fun j k hj hk hjk=>?_
 have hj':j<l.length:=by simpa using hj
 have hk':k<l.length:=by simpa using hk
 have h1:=e j hj';have h2:=e k hk'
 have h3:=Qei h hjk hk'
 have g1:O (l.set i p) j=(l.set i p)[j]:=by simp only[O,AQ,AU hj,Bu]
 have g2:O (l.set i p) k=(l.set i p)[k]:=by simp only[O,AQ,AU hk,Bu]
 simp_all
structure QnW (l:Y Int) (n:Nat):Prop where
 len:l.length<=n
 nodup:l.Nodup
 fit:∀x∈l,1<=x/\x<=1099511627776
def QnW.snoc(h:QnW l n)(h1:1<=x/\x<=1099511627776)(h2:l.contains x=false):QnW (l++[x]) (n+1):=by
 refine⟨by have:=h.len;simp;omega,Ed.2 ⟨h.nodup,Ob,fun y hy z hz e=>?_⟩,fun y hy=>?_⟩
 .simp_all
 .rcases Ah.1 hy with hy|hy
  .exact h.fit y hy
  .simp_all
def QT:Int->D.R->Prop:=fun _ s=>s.k.length<=4
def QT.step{M:Int}{c:D.E}{b:D.a}:Qjz QT M c b:=fun _ _ _ _=>QqN
def Goes.short(hq:∀s,Q s->s.k.length<=4)(g:Goes Q st l k t h):∀s∈l,s.k.length<=4:=by
 induction g with
 |nil=>intro s hs;simp at hs
 |step g h1 h2 h3 h4 ih=>
  grind
 |hand g h1 h2 h3 h4 ih=>
  grind
structure Qd (M:Int) (n:Nat) (l:D.G):Prop where
 top:M<=8000000000
 now:0<=l.E8/\l.E8<=M - 20000
 small:n<=48
 cfg:Ze n l.E
 book:QQ l.a
 page:∀p∈l.F,QL QT M l.a p/\p.FQ<=l.E8
 asc:AscP l.F
 len:l.F.length<=64
 owner : -1<=l.FB/\l.FB<=4
 fence:0<=l.Fence/\l.Fence<=(l.g.length:Int)
 seen:QnW l.g 256
 told:∀p∈l.F,Told l.Fence p l.Calls
 all:∀c∈l.Calls,∃p∈l.F,p.S=c.Page
structure LW (M:Int) (n:Nat) (l:D.G):Prop where
 top:M<=8000000000
 now:0<=l.E8/\l.E8<=8589934592
 small:n<=48
 cfg:Ze n l.E
 book:QQ l.a
 page:∀p∈l.F,QL QT M l.a p/\p.FQ<=l.E8
 asc:AscP l.F
 len:l.F.length<=64
 owner : -1<=l.FB/\l.FB<=4
 fence:0<=l.Fence/\l.Fence<=1048576
 seen:QnW l.g 256
 told:∀p∈l.F,Told l.Fence p l.Calls
 all:∀c∈l.Calls,∃p∈l.F,p.S=c.Page
def Qd.w(h:Qd M n l):LW M n l:=by
 have h1:=h.top;have h2:=h.now;have h3:=h.fence;have h4:=h.seen.len
 exact⟨h1,U,h.small,h.cfg,h.book,h.page,h.asc,h.len,h.owner,U,h.seen,h.told,h.all⟩
def putV(l:D.G)(i:Nat)(p:D.Page):D.G:=
 { l with F:=l.F.set i p,Calls:=l.Calls++QN p.S l.Fence (p.P.drop (O l.F i).P.length) }
def runI(l:D.G)(i:Nat):D.G:=if (runV l.E l.a (O l.F i) l.E8).2≠0 then l else putV l i (runV l.E l.a (O l.F i) l.E8).1
def Zu(l:D.G):Nat->D.G
 |0=>l
 |k+1=>runI (Zu l k) k
def QlY(c:D.E)(i:Int)(x:D.s):D.E:=
 { c with f:=c.f.set i.toNat { O c.f i.toNat with FU:=(O c.f i.toNat).FU++[x] } }
def opV(l:D.G)(o:D.Op):D.G×Int:=
  if o.Z=1 then
    (if hasV o.Page l.F=true then(l,4)else if l.F.length=64 then(l,5)else if o.Page<1 then(l,1)
     else if 0<=o.W/\o.W<(l.a.j.length:Int)then(runI { l with F:=insP l.F (newP o.Page o.W l.E8) } (posV o.Page l.F),0)else(l,3))
  else if o.Z=2 then(if o.Fence=l.Fence+1 then({ l with FB:=o.Region,Fence:=o.Fence },0)else(l,23))
  else if o.Z=3 then
    (if o.Region=l.FB/\o.Fence=l.Fence then
      (if hasV o.Page l.F=true then
        (if Y1 (O l.F (posV o.Page l.F)) l.E8=true/\o.K=(if (O l.F (posV o.Page l.F)).p=2 then -1 else(O l.F (posV o.Page l.F)).E9)then(runI l (posV o.Page l.F),0)else(l,9))
       else(l,3))
     else(l,23))
  else if o.Z=4 then
    (if hasV o.b.Page l.F=true then
      (if (answerV l.a (O (runI l (posV o.b.Page l.F)).F (posV o.b.Page l.F)) { o.b with At:=l.E8 }).2=0 then
         (putV (runI l (posV o.b.Page l.F)) (posV o.b.Page l.F) (answerV l.a (O (runI l (posV o.b.Page l.F)).F (posV o.b.Page l.F)) { o.b with At:=l.E8 }).1,0)
       else(runI l (posV o.b.Page l.F),(answerV l.a (O (runI l (posV o.b.Page l.F)).F (posV o.b.Page l.F)) { o.b with At:=l.E8 }).2))
     else(l,3))
  else if 0<=o.e/\o.e<2 then({ Zu l l.F.length with E:=QlY l.E o.e o.s },0)else(Zu l l.F.length,3)
def Zk(l:D.G)(o:D.Op):D.G×Int:=
 if l.g.contains o.S=true then(l,0)else opV { l with E8:=max l.E8 o.At,g:=l.g++[o.S] } o
section
variable {M:Int} {n:Nat} {l:D.G} {i:Nat} {p q:D.Page} {b:D.a} {c:D.E} {now:Int}
def Ext(p q:D.Page):Prop:=∃m,q.P=p.P++m
def Ext.refl(p):Ext p p:=⟨[],Ob⟩
def Ext.step(h:Ext p q):Ext p (stepQ c b q):=by
 obtain⟨m,hm⟩:=h
 unfold stepQ
 split
 .exact⟨m,hm⟩
 .split
  .exact⟨m,hm⟩
  .exact⟨m++[_],by dsimp only;rw[hm,List.append_assoc]⟩
def Qqg(hb:QQ b)(h:QL QT M b p):Ext p (runV c b p now).1:=
 Qjr hb QT.step (fun q _ _ hr=>hr.step) h (Ext.refl p)
def Qeh:Ext p (XG p a):=by
 by_cases h:a.Z=4
 .exact⟨_,Qlr.1 h⟩
 .exact⟨[],by rw[Qlr.2 h];simp⟩
def Qvl(hx:Ext (O l.F i) p):∃m,p.P=(O l.F i).P++m/\(putV l i p).Calls=l.Calls++QN p.S l.Fence m:=by
 obtain⟨m,hm⟩:=hx
 refine⟨m,hm,?_⟩
 unfold putV
 simp_all
def Q0[AK α]{l:Y α}{x:α}(h:i<l.length):O (l.set i x) i=x:=by
 simp[O,AQ,h]
def Yl[AK α]{l:Y α}{x:α}(h:j≠i):O (l.set i x) j=O l j:=by
 simp[O,AQ,CA,Ak h]
def QfS[AK α]{l:Y α}{x:α}(h:x∈l):∃i,i<l.length/\O l i=x:=by
 obtain⟨i,hi,e⟩:=Bb h
 exact⟨i,hi,by simp[O,AQ,AU hi,e]⟩
def Qd.put(h:Qd M n l)(hi:i<l.F.length)(hp:QL QT M l.a p)(hl:p.FQ<=l.E8)(hid:p.S=(O l.F i).S)(hx:Ext (O l.F i) p):Qd M n (putV l i p):=by
 obtain⟨m,hm,hc⟩:=Qvl hx
 have hf:=h.fence
 have hpage:∀q∈(l.F.set i p),q=p\/(q∈l.F/\q.S≠p.S):=by
  intro q hq
  obtain⟨j,hj,rfl⟩:=QfS hq
  rw[CM]at hj
  by_cases e:j=i
  .subst e;rw[Q0 hj];exact .inl rfl
  .rw[Yl e]
   refine .inr ⟨Qf hj,fun e2=>?_⟩
   rw[hid]at e2
   have h1:=Qj0 h.asc hj
   have h2:=Qj0 h.asc hi
   rw[e2]at h1;omega
 refine⟨h.top,h.now,h.small,h.cfg,h.book,fun q hq=>?_,QzW h.asc hi hid,by show(l.F.set i p).length<=64;rw[CM];exact h.len,h.owner,h.fence,h.seen,fun q hq=>?_,fun x hx=>?_⟩
 .rcases hpage q hq with rfl|⟨hq,_⟩
  .exact⟨hp,hl⟩
  .exact h.page q hq
 .rw[hc]
  show Told l.Fence q _
  rcases hpage q hq with rfl|⟨hq,hne⟩
  .exact hid ▸ (h.told _ (Qf hi)).more hf.1 hid hm
  .exact(h.told q hq).other hne
 .rw[hc]at hx
  show ∃q∈l.F.set i p,q.S=x.Page
  rcases Ah.1 hx with hx|hx
  .obtain⟨q,hq,e⟩:=h.all x hx
   obtain⟨j,hj,rfl⟩:=QfS hq
   by_cases e2:j=i
   .subst e2;exact⟨p,by have:=Qf (l:=l.F.set j p) (i:=j) (by simpa using hj);rwa [Q0 hj]at this,by rw[hid,e]⟩
   .exact⟨_,by have:=Qf (l:=l.F.set i p) (i:=j) (by simpa using hj);rwa [Yl e2]at this,e⟩
  .exact⟨p,by have:=Qf (l:=l.F.set i p) (i:=i) (by simpa using hi);rwa [Q0 hi]at this,(WU x hx).1.symm⟩
def Qd.at(h:Qd M n l)(hi:i<l.F.length):QL QT M l.a (O l.F i)/\(O l.F i).FQ<=l.E8:=h.page _ (Qf hi)
def LW.at(h:LW M n l)(hi:i<l.F.length):QL QT M l.a (O l.F i)/\(O l.F i).FQ<=l.E8:=h.page _ (Qf hi)
def LW.runEq(h:LW M n l)(hi:i<l.F.length):runI l i=putV l i (runV l.E l.a (O l.F i) l.E8).1:=by
 unfold runI
 rw[(QeP h.book QT.step (h.at hi).1).2.1,iA Ob]
def Qd.runEq(h:Qd M n l)(hi:i<l.F.length):runI l i=putV l i (runV l.E l.a (O l.F i) l.E8).1:=h.w.runEq hi
def Qd.run(h:Qd M n l)(hi:i<l.F.length):Qd M n (runI l i):=by
 rw[h.runEq hi]
 have hp:=h.at hi
 exact h.put hi (QeP h.book QT.step hp.1).1 (Qx5 h.book QT.step hp.1 hp.2) (Qa6 h.book QT.step hp.1).id (Qqg h.book hp.1)
def YK:(runI l i).E8=l.E8/\(runI l i).E=l.E/\(runI l i).a=l.a/\(runI l i).FB=l.FB/\(runI l i).Fence=l.Fence/\(runI l i).g=l.g/\(runI l i).F.length=l.F.length:=by
 unfold runI putV
 grind
def Qd4(h:Qd M n l)(hi:i<l.F.length):O (runI l i).F j=if j=i then(runV l.E l.a (O l.F i) l.E8).1 else O l.F j:=by
 rw[h.runEq hi]
 unfold putV
 dsimp only
 split
 .rename_i e;subst e;rw[Q0 hi]
 .rename_i e;rw[Yl e]
def Ya:∀{k:Nat},(Zu l k).E8=l.E8/\(Zu l k).E=l.E/\(Zu l k).a=l.a/\(Zu l k).FB=l.FB/\(Zu l k).Fence=l.Fence/\(Zu l k).g=l.g/\(Zu l k).F.length=l.F.length
 |0=>⟨rfl,rfl,rfl,rfl,rfl,rfl,rfl⟩
 |k+1=>by
  have h1:=YK (l:=Zu l k) (i:=k)
  have h2:=Ya (k:=k)
  rw[Zu]
  exact⟨h1.1.trans h2.1,h1.2.1.trans h2.2.1,h1.2.2.1.trans h2.2.2.1,h1.2.2.2.1.trans h2.2.2.2.1,h1.2.2.2.2.1.trans h2.2.2.2.2.1,h1.2.2.2.2.2.1.trans h2.2.2.2.2.2.1,h1.2.2.2.2.2.2.trans h2.2.2.2.2.2.2⟩
def Qd.runs(h:Qd M n l):∀{k:Nat},k<=l.F.length->Qd M n (Zu l k)
 |0,_=>h
 |k+1,hk=>by
  have h2:=Ya (l:=l) (k:=k)
  exact(h.runs (k:=k) U).run U
def Qo8(h:Ze n c)(hx:Qb6 x)(hs:0<=s/\s<2):Ze (n+1) (QlY c s x):=by
 have hsl:=h.slen
 have hi:s.toNat<c.f.length:=U
 have hso:=h.sched _ (Qf hi)
 refine⟨h.zone,h.pname,h.person,h.cal,?_,fun y hy=>?_⟩
 .rw[<-h.sname]
  unfold QlY
  dsimp only
  refine EB Ob fun j h1 h2=>?_
  simp only[List.getElem_map,List.getElem_set]
  split
  .rename_i e;subst e
   simp[O,AQ,AU hi]
  .rfl
 .obtain⟨j,hj,rfl⟩:=QfS hy
  have hj:j<(c.f.set s.toNat _).length:=hj
  rw[CM]at hj
  show Qfr (n+1) (O (c.f.set s.toNat _) j)
  by_cases e:j=s.toNat
  .subst e
   rw[Q0 hi]
   exact⟨hso.layers,by have:=hso.len;simp;omega,fun z hz=>by
    rcases Ah.1 hz with hz|hz
    .exact hso.edit z hz
    .rw[Ae.1 hz];exact hx⟩
  .rw[Yl e]
   have:=h.sched _ (Qf hj)
   exact⟨this.layers,by have:=this.len;omega,this.edit⟩
structure OpIn (o:D.Op):Prop where
 id:1<=o.S/\o.S<=1099511627776
 kind:1<=o.Z/\o.Z<=5
 region:0<=o.Region/\o.Region<=4
 fence:0<=o.Fence/\o.Fence<=1048576
 at_:0<=o.At/\o.At<=8589934592
 page:0<=o.Page/\o.Page<=999999
 k : -1<=o.K/\o.K<=1000
 answer:o.Z=4->YX o.b=true/\(o.b.Z=3->o.b.Ft<=5000)
 edit:o.Z=5->0<=o.e/\o.e<2->Qb6 o.s
def Qyr(h:YX a=true)(ht:0<=t/\t<=8589934592):YX { a with At:=t }=true:=by
 unfold YX at h |-
 simp only[bae,Qt]at h |-
 simp_all
def Qd.see(h:Qd M n l)(ho:OpIn o)(hn:max l.E8 o.At<=M - 20000)(hs:l.g.contains o.S=false)(hl:l.g.length<256):Qd M n { l with E8:=max l.E8 o.At,g:=l.g++[o.S] }:=by
 have hnow:=h.now;have hf:=h.fence
 refine⟨h.top,⟨by dsimp only;omega,hn⟩,h.small,h.cfg,h.book,fun p hp=>⟨(h.page p hp).1,by have:=(h.page p hp).2;dsimp only;omega⟩,h.asc,h.len,h.owner,⟨hf.1,by dsimp only;rw[List.length_append];simp;omega⟩,?_,h.told,h.all⟩
 have:=h.seen.snoc ho.id hs
 exact⟨by dsimp only;simp;omega,this.nodup,this.fit⟩
def Qd.open{o:D.Op}(h:Qd M n l)(hp:hasV o.Page l.F=false)(h1:1<=o.Page/\o.Page<=999999)(h2:0<=o.W/\o.W<(l.a.j.length:Int))(hl:l.F.length<64):
  Qd M n { l with F:=insP l.F (newP o.Page o.W l.E8) }/\posV o.Page l.F<(insP l.F (newP o.Page o.W l.E8)).length/\O (insP l.F (newP o.Page o.W l.E8)) (posV o.Page l.F)=newP o.Page o.W l.E8:=by
 have hnow:=h.now
 have hnew:QL QT M l.a (newP o.Page o.W l.E8):=Qxt h.top h.book h1 h2 hnow
 have hlen:(insP l.F (newP o.Page o.W l.E8)).length=l.F.length+1:=by
  unfold insP;rw[List.length_append,List.length_cons,List.length_take,List.length_drop]
  omega
 have hpos:=Qcp (id:=o.Page) (l:=l.F)
 refine⟨⟨h.top,h.now,h.small,h.cfg,h.book,fun q hq=>?_,Qzj h.asc hp,by dsimp only;omega,h.owner,h.fence,h.seen,fun q hq=>?_,fun x hx=>?_⟩,U,?_⟩
 .rcases QiM.1 hq with rfl|hq
  .exact⟨hnew,Ai _⟩
  .exact h.page q hq
 .rcases QiM.1 hq with rfl|hq
  .have e:ownC o.Page l.Calls=[]:=Cw.2 fun x hx=>by
    obtain⟨q,hq,e⟩:=h.all x hx
    have:=Qw8 h.asc hp q hq
    simp;omega
   exact⟨by show(ownC o.Page l.Calls).map unf=_;rw[e];rfl,by show(ownC o.Page l.Calls).Pairwise _;rw[e];exact List.Pairwise.nil,by show ∀x∈ownC o.Page l.Calls,_;rw[e];simp⟩
  .exact h.told q hq
 .obtain⟨q,hq,e⟩:=h.all x hx
  exact⟨q,QiM.2 (.inr hq),e⟩
 .unfold insP
  show O (l.F.take (posV o.Page l.F)++_::_) (posV o.Page l.F)=_
  simp[O,AQ,B9,CC hpos]
def Qd.own(h:Qd M n l)(ho:OpIn o)(hf:o.Fence=l.Fence+1)(hs:l.Fence<(l.g.length:Int)):Qd M n { l with FB:=o.Region,Fence:=o.Fence }:=by
 have hr:=ho.region;have h0:=h.fence
 exact⟨h.top,h.now,h.small,h.cfg,h.book,h.page,h.asc,h.len,⟨by dsimp only;omega,by dsimp only;omega⟩,⟨by dsimp only;omega,by dsimp only;omega⟩,h.seen,fun p hp=>(h.told p hp).mono (by dsimp only;omega),h.all⟩
def Qd.edit{o:D.Op}(h:Qd M n l)(hn:n<48)(hx:Qb6 o.s)(hs:0<=o.e/\o.e<2):Qd M (n+1) { l with E:=QlY l.E o.e o.s }:=
 ⟨h.top,h.now,U,Qo8 h.cfg hx hs,h.book,h.page,h.asc,h.len,h.owner,h.fence,h.seen,h.told,h.all⟩
def Qd.wide(h:Qd M n l)(hn:n<48):Qd M (n+1) l:=
 ⟨h.top,h.now,U,h.cfg.mono U,h.book,h.page,h.asc,h.len,h.owner,h.fence,h.seen,h.told,h.all⟩
def WB{id:Int}(h:hasV id l.F=true):posV id l.F<l.F.length/\(O l.F (posV id l.F)).S=id:=by
 unfold hasV at h;exact of_decide_eq_true h
def Qd.answer(h:Qd M n l)(hi:i<l.F.length)(ha:a.At=l.E8)(hv:YX a=true)(hs:a.Z=3->a.Ft<=5000)(hr:(answerV l.a (O l.F i) a).2=0):Qd M n (putV l i (answerV l.a (O l.F i) a).1):=by
 have hp:=h.at hi
 have hc:=hp.1.check h.book
 have hnow:=h.now
 revert hr
 unfold answerV
 rw[hc,hv,iA Ob]
 split
 .intro e;simp at e
 .split
  .intro _;exact h.put hi hp.1 hp.2 rfl (Ext.refl _)
  .rename_i hs2
   split
   .omega
   .rename_i hre
    intro _
    have hre:Wh (O l.F i) a=0:=by simpa using hre
    have h0:=Qr3 hre
    exact h.put hi (hp.1.answerQ_inv h.book hv U hs (by simpa using hs2) hre) (by rw[<-ha];exact QqC h0.1) QdA.1 Qeh
def Qd.op0(hw:Qd M n l)(ho:OpIn o)(hk5:o.Z≠5)(hs:l.Fence<(l.g.length:Int)):Qd M n (opV l o).1:=by
 have hk:=ho.kind
 unfold opV
 split
 .split
  .exact hw
  .rename_i hp
   split
   .exact hw
   .split
    .exact hw
    .split
     .rename_i h1 h2 h3
      have h4:=ho.page;have h5:=hw.len
      have:=hw.open (o:=o) (by simpa using hp) U h3 U
      exact this.1.run this.2.1
     .exact hw
 .split
  .split
   .rename_i hf
    exact hw.own ho hf hs
   .exact hw
  .split
   .split
    .split
     .rename_i hp
      generalize (if (O l.F (posV o.Page l.F)).p=2 then(-1:Int)else(O l.F (posV o.Page l.F)).E9)=kk
      split
      .exact hw.run (WB hp).1
      .exact hw
     .exact hw
    .exact hw
   .split
    .rename_i k4
     split
     .rename_i hp
      have hi:=(WB hp).1
      have hr:=hw.run hi
      have hkp:=YK (l:=l) (i:=posV o.b.Page l.F)
      have ha:=ho.answer k4
      have hnow:=hw.now;have htop:=hw.top
      split
      .rename_i he
       have:=hr.answer (i:=posV o.b.Page l.F) (a:={ o.b with At:=l.E8 }) U hkp.1.symm (Qyr ha.1 U) ha.2 (by rw[hkp.2.2.1];exact he)
       simp_all
      .exact hr
     .exact hw
    .omega
def Qd.op(h:Qd M n l)(hn:n<48)(ho:OpIn o)(hs:l.Fence<(l.g.length:Int)):Qd M (n+1) (opV l o).1:=by
 have hw:=h.wide hn
 by_cases k5:o.Z=5
 .unfold opV
  rw[iA U,iA U,iA U,iA U]
  split
  .rename_i hsch
   have h3:=h.runs (AN _)
   have h4:=Ya (l:=l) (k:=l.F.length)
   have:=h3.edit hn (ho.edit k5 hsch) hsch
   simp_all
  .exact hw.runs (AN _)
 .exact hw.op0 ho k5 hs
def Qd.apply(h:Qd M n l)(hn:n<48)(ho:OpIn o)(ht:max l.E8 o.At<=M - 20000)(hl:l.g.length<256):Qd M (n+1) (Zk l o).1:=by
 unfold Zk
 split
 .exact h.wide hn
 .rename_i hs
  exact(h.see ho ht (by simpa using hs) hl).op hn ho (by dsimp only;have:=h.fence;rw[List.length_append];simp;omega)
def Qd.apply0(h:Qd M n l)(ho:OpIn o)(hk5:o.Z≠5)(ht:max l.E8 o.At<=M - 20000)(hl:l.g.length<256):Qd M n (Zk l o).1:=by
 unfold Zk
 split
 .exact h
 .rename_i hs
  exact(h.see ho ht (by simpa using hs) hl).op0 ho hk5 (by dsimp only;have:=h.fence;rw[List.length_append];simp;omega)
end
section
open Go AM
attribute [local irreducible] dueV stepV runV QE answerV
section
def Qcb{id f:Int}:∀{l:Y D.R},(∀s∈l,s.k.length<=m)->(QN id f l).length<=m*l.length
 |[],_=>by simp[QN]
 |s::l,h=>by
  have:=Qcb (id:=id) (f:=f) (l:=l) fun x hx=>h x (BB _ hx)
  have h1:=h s (BA ..)
  unfold QN at this |-
  rw[EQ,Ac,AZ,Ab,Nat.mul_succ];omega
def Qfx{id f:Int}:QN id f (l++[s])=QN id f l++s.k.map fun x=>D.Call.mk id s.K s.At x f:=by
 rw[Qdh];unfold QN;simp
def Qup[AK α]{l:Y α}:O (l.drop k) j=O l (k+j):=by
 simp[O,AQ,Ap]
def QoZ(h:QA p)(hk:k<=p.P.length):QdV 1000 p (k:Int) f=some (QN p.S f (p.P.drop k)):=by
 have hst:=h.st
 refine Ok.eq ?_
 unfold QdV
 refine Ok.run (p.P.length - k) (fun j=>((f,((k+j:Nat):Int),()),p,QN p.S f ((p.P.drop k).take j),())) rfl U (fun j hj kk hkk=>?_) (fun kk=>?_)
 .try dsimp only
  have hlt:k+j<p.P.length:=U
  refine Ok.P (Ok.atn hlt ?_)
  have hpe:=(h.pe _ (Qf hlt)).1
  have hdl:j<(p.P.drop k).length:=by simp;omega
  have hts:(p.P.drop k).take (j+1)=(p.P.drop k).take j++[O p.P (k+j)]:=by rw[<-Qn hdl,Qup]
  have hol:(QN p.S f ((p.P.drop k).take j)).length<=40*((p.P.drop k).take j).length:=Qcb (m:=40) fun s hs=>(h.pe s (Br (Bq hs))).1
  rw[Af]at hol
  obtain⟨s,hs⟩:∃s,O p.P (k+j)=s:=⟨_,rfl⟩
  rw[hs]at hpe hts |-
  refine Ok.run s.k.length (fun z=>((f,((k+j:Nat):Int),(z:Int),()),p,s,QN p.S f ((p.P.drop k).take j)++(s.k.take z).map (fun x=>D.Call.mk p.S s.K s.At x f),())) (by rw[BW,Al,Ao];rfl) U (fun z hz k2 hk2=>?_) (fun k2=>?_)
  .try dsimp only
   refine Ok.P (Ok.atn hz (Ok.TO ?_ ?_))
   .grind
   .try dsimp only
    rw[Qa U]
    try dsimp only at hk2
    rw[<-Qn hz,Ay,<-Aw]at hk2
    exact hk2
  .try dsimp only
   refine Ok.N ?_
   try dsimp only
   rw[Qa U,Ad]
   try dsimp only at hkk
   rw[hts,Qfx]at hkk
   exact hkk
 .try dsimp only
  refine Ok.N (Ok.s ?_)
  rw[Bl Ob]
def QnB{id:Int}(hi:i<cs.length):ownC id (cs.take (i+1))=ownC id (cs.take i)++(if (O cs i).Page=id then[O cs i]else[]):=by
 rw[<-Qn hi,Qap]
 congr 1
 unfold ownC
 grind
def QCk(h:QA p)(hl:l.Calls.length<=900)(ht:Told l.Fence p l.Calls):Qg3 1000 l p=some true:=by
 have hW:=ht.same
 obtain⟨W,hWe⟩:∃W,QN p.S 0 p.P=W:=⟨_,rfl⟩
 rw[hWe]at hW
 have hWl:W.length=(ownC p.S l.Calls).length:=by rw[<-hW,AZ]
 have hol:∀i,(ownC p.S (l.Calls.take i)).length<=900:=fun i=>by
  unfold ownC
  grind
 refine Ok.eq ?_
 unfold Qg3
 have hc:=QoZ (k:=0) (f:=0) h (BM _)
 rw[Cc,hWe]at hc
 refine Ok.oe hc ?_
 refine Ok.loop (fun m x=>∃(i:Nat) (fe:Int),x=((W,((ownC p.S (l.Calls.take i)).length:Int),fe,(i:Int),()),l,p,())/\i<=l.Calls.length/\(fe=0\/∃c∈ownC p.S (l.Calls.take i),c.Fence=fe)/\m=l.Calls.length - i) (m:=l.Calls.length) U
  ⟨0,0,by rw[BW];rfl,U,.inl rfl,rfl⟩ ?_
 rintro m x ⟨i,fe,rfl,i1,i2,rfl⟩ K hK
 try dsimp only
 have hoi:=hol i
 refine Ok.ite (fun hi=>?_) (fun hi=>?_)
 .have hlt:i<l.Calls.length:=U
  refine Ok.j (Ok.atn hlt ?_)
  have hsu:=QnB (id:=p.S) hlt
  have hsp:l.Calls=l.Calls.take i++O l.Calls i::l.Calls.drop (i+1):=by rw[<-QfF hlt,Bp]
  obtain⟨c,hce⟩:∃c,O l.Calls i=c:=⟨_,rfl⟩
  rw[hce]at hsu hsp |-
  refine Ok.ite (fun g=>?_) (fun g=>?_)
  .rw[iA g,Ao]at hsu
   try dsimp only
   rw[Qa U]
   refine hK _ _ U ⟨i+1,fe,by rw[hsu],U,by rw[hsu];exact i2,rfl⟩
  .have g:c.Page=p.S:=U
   rw[iB g]at hsu
   have hown:ownC p.S l.Calls=ownC p.S (l.Calls.take i)++c::ownC p.S (l.Calls.drop (i+1)):=by
    rw[hsp,Qap]
    congr 1
    .rw[<-hsp]
    .unfold ownC
     grind
   have hcm:c∈ownC p.S l.Calls:=by rw[hown];simp
   have hfit:=ht.fit c hcm
   have hle:fe<=c.Fence:=by
    rcases i2 with rfl|⟨c',hc',rfl⟩
    .exact hfit.1
    .have:=ht.up
     grind
   have hn:(ownC p.S (l.Calls.take i)).length<W.length:=by rw[hWl,hown];simp
   have hnth:O W (ownC p.S (l.Calls.take i)).length=unf c:=by
    have e:W=(ownC p.S (l.Calls.take i)).map unf++(unf c::(ownC p.S (l.Calls.drop (i+1))).map unf):=by rw[<-hW,hown,Ay,AR]
    rw[e]
    simp[O,AQ]
   refine Ok.TG (fun y=>y=((W,((ownC p.S (l.Calls.take i)).length:Int),(i:Int),()),l,p,c,())) (fun y hy=>?_) (fun zG hJ=>Ok.N (Ok.N (Ok.N (hJ _ rfl))))
   subst hy
   try dsimp only
   refine Ok.atn hn ?_
   rw[hnth]
   refine Ok.n (fun h=>h rfl) ?_
   try dsimp only
   rw[Qa U,Qa U]
   refine hK _ _ U ⟨i+1,c.Fence,by rw[hsu];simp,U,.inr ⟨c,by rw[hsu];simp,rfl⟩,rfl⟩
 .have e:i=l.Calls.length:=U
  subst e
  refine Ok.s (Ax ?_)
  simp_all
def sumC(l:Y D.Page)(f:D.Page->Nat):Nat:=(l.map f).sum
def Qz3(e:∀p∈l,f p=g p+h p):sumC l f=sumC l g+sumC l h:=by
 induction l with
 |nil=>rfl
 |cons p l ih=>
  have:=ih fun q hq=>e q (BB _ hq)
  have h1:=e p (BA ..)
  simp only[sumC,AR,Cd]at this |-
  omega
def Qz4(ha:AscP l)(hx:∃p∈l,p.S=x):sumC l (fun p=>if x=p.S then 1 else 0)=1:=by
 induction l with
 |nil=>obtain⟨p,hp,_⟩:=hx;simp at hp
 |cons q l ih=>
  have ha':=CF.1 ha
  have hz:∀(l:Y D.Page),(∀p∈l,x≠p.S)->sumC l (fun p=>if x=p.S then 1 else 0)=0:=by
   intro l
   induction l with
   |nil=>intro _;rfl
   |cons p l ih=>
    intro h
    simp only[sumC,AR,Cd]
    rw[iA (h p (BA ..))]
    have:=ih fun q hq=>h q (BB _ hq)
    unfold sumC at this;omega
  simp only[sumC,AR,Cd]
  by_cases e:x=q.S
  .rw[iB e]
   have:=hz l fun p hp e'=>by have:=ha'.1 p hp;omega
   unfold sumC at this;omega
  .rw[iA e]
   have:=ih ha'.2 (by
    obtain⟨p,hp,h2⟩:=hx
    rcases AY.1 hp with rfl|hp
    .exact absurd h2.symm e
    .exact⟨p,hp,h2⟩)
   unfold sumC at this;omega
def QoI(ha:AscP l):∀{cs:Y D.Call},(∀c∈cs,∃p∈l,p.S=c.Page)->sumC l (fun p=>(ownC p.S cs).length)=cs.length
 |[],_=>by
  have:∀l:Y D.Page,sumC l (fun p=>(ownC p.S []).length)=0:=by
   intro l
   induction l with
   |nil=>rfl
   |cons p l ih=>simp only[sumC,AR,Cd]at ih |-;simpa [ownC]using ih
  rw[this];rfl
 |c::cs,h=>by
  have h1:=QoI ha (cs:=cs) fun x hx=>h x (BB _ hx)
  have h2:=Qz4 ha (h c (BA ..))
  rw[Qz3 (g:=fun p=>(ownC p.S cs).length) (h:=fun p=>if c.Page=p.S then 1 else 0) (fun p hp=>?_),h1,h2,Ab]
  unfold ownC
  grind
def QtF(h:∀p∈l,f p<=m):sumC l f<=m*l.length:=by
 induction l with
 |nil=>simp[sumC]
 |cons p l ih=>
  have h1:=h p (BA ..)
  have h2:=ih fun q hq=>h q (BB _ hq)
  simp only[sumC,AR,Cd,Ab]at h2 |-
  grind
end
end
section
def QbK[AK α]{l:Y α}(h:i<k):O (l.take k) i=O l i:=by
 simp[O,AQ,Aq,h]
def QQ.tnm(h:QQ b)(hi:i<b.t.length):(O b.t i).Name=O Qit i:=by
 rw[Qk8 h.tname hi,QbK hi]
def QQ.pnm(h:QQ b)(hi:i<b.j.length):(O b.j i).Name=O Qno i:=by
 rw[Qk8 h.pname hi,QbK hi]
def forall3{P:Nat->Prop}(h0:P 0)(h1:P 1)(h2:P 2):∀i,i<3->P i:=fun i hi=>by
 rcases(show i=0\/i=1\/i=2 by omega)with rfl|rfl|rfl
 .exact h0
 .exact h1
 .exact h2
def QBK:∀i,i<2->QgW 1000 (O Qit i)=some true:=forall2 (by kernel_rfl) (by kernel_rfl)
def QBJ:∀i,i<3->QgW 1000 (O Qno i)=some true:=forall3 (by kernel_rfl) (by kernel_rfl) (by kernel_rfl)
def QqL:∀i,i<2->∀j,j<i->O Qit j≠O Qit i:=by decide
def QtO:∀i,i<3->∀j,j<i->O Qno j≠O Qno i:=by decide
def QCc(ha:Asc l)(hm:∀x∈l,0<=x/\x<m)(hl:l.length<900):QeB 1000 l m=some true:=by
 refine Ok.eq ?_
 unfold QeB
 refine Ok.run l.length (fun i=>((l,m,(i:Int),()),())) rfl U (fun i hi k hk=>?_) (fun k=>by dsimp only;exact Ok.N (Ok.s rfl))
 have hx:=hm _ (Qf hi)
 dsimp only
 refine Ok.P (Ok.j (Ok.atn hi (Ok.N (Ok.atn hi (Ok.N ?_)))))
 dsimp only
 rw[Qa U]
 by_cases h0:0<i
 .refine Ok.P ?_
  rw[show X ((i:Int) - 1)=((i - 1:Nat):Int)by rw[Qc U];omega]
  have:=QjD ha (show i - 1<i by omega) hi
  exact Ok.A (Ok.atn hi (Ok.N hk))
 .exact Ok.N hk
def Qyo(h:Ze n c)(hb:QQ b)(hi:i<b.t.length):Qlg 1000 c b (i:Int)=some 0:=by
 have htl:=hb.tlen
 have ht:=hb.team _ (Qf hi)
 have hnm:=hb.tnm hi
 have hpl:=h.plen
 refine Ok.eq ?_
 unfold Qlg
 refine Ok.atn hi (Ok.oe (by rw[hnm];exact QBK i U) (Ok.nt rfl ?_))
 obtain⟨x,hx⟩:∃x,O b.t i=x:=⟨_,rfl⟩
 rw[hx]at ht hnm |-
 refine Ok.run2 i (fun k=>((i:Int),(k:Int),())) rfl U (fun k hk K hK=>?_) (fun K=>?_)
 .dsimp only
  refine Ok.P (Ok.A (Ok.n ?_ ?_))
  .rw[hb.tnm U,hnm];exact QqL i U k hk
  .rw[Qa U];exact hK
 .dsimp only
  have hml:=ht.len
  refine Ok.N (Ok.N ?_)
  refine Ok.run2 (x.r.length - 1) (fun k=>(((k+1:Nat):Int),())) rfl U (fun k hk K hK=>?_) (fun K=>?_)
  .dsimp only
   rw[show X (((k+1:Nat):Int) - 1)=(k:Int)by rw[Qc U];omega]
   have:=QjD ht.asc (show k<k+1 by omega) (show k+1<x.r.length by omega)
   refine Ok.P (Ok.A (Ok.A (Ok.N ?_)))
   rw[Qa U];exact hK
  .dsimp only
   refine Ok.N (Ok.oe (QCc ht.asc (fun z hz=>?_) U) (Ok.nt rfl (Ok.s rfl)))
   have:=ht.mem z hz;omega
def Qsl(h:Ze n c)(hb:QQ b)(hl:l.length<=2)(ht:∀x∈l,Uq b.t.length x):QeC 1000 c b l=some 0:=by
 have hpl:=h.plen;have hsl:=h.slen
 refine Ok.eq ?_
 unfold QeC
 refine Ok.N (Ok.run l.length (fun i=>((l,(i:Int),()),c,b,())) rfl U (fun i hi k hk=>?_) (fun k=>by dsimp only;exact Ok.N (Ok.s rfl)))
 dsimp only
 have hx:=ht _ (Qf hi)
 have h1:=hx.lo;have h2:=hx.person;have h3:=hx.sched;have h4:=hx.team
 refine Ok.P (Ok.j ?_)
 refine Ok.TG (fun y=>∃m:Int,y=((l,(i:Int),m,()),c,b,())/\(O l i).Fa<m) (fun y hy=>?_) (fun zG hJ=>?_)
 .obtain⟨m,rfl,hm⟩:=hy
  dsimp only
  rw[Qa U]
  exact Ok.atn hi (Ok.N (Ok.atn hi (Ok.N hk)))
 .refine Ok.atn hi ?_
  rcases hx.kind with hk|hk|hk
  .have:=h2 hk
   exact Ok.p hk (hJ _ ⟨_,rfl,U⟩)
  .have:=h3 hk
   exact Ok.N (Ok.p hk (hJ _ ⟨_,rfl,U⟩))
  .have:=h4 hk
   exact Ok.N (Ok.N (Ok.p hk (hJ _ ⟨_,rfl,U⟩)))
def Qtc(h:Ze n c)(hb:QQ b)(hi:i<b.j.length):QgY 1000 c b (i:Int)=some 0:=by
 have htl:=hb.plen
 have ht:=hb.pol _ (Qf hi)
 have hnm:=hb.pnm hi
 refine Ok.eq ?_
 unfold QgY
 refine Ok.atn hi (Ok.oe (by rw[hnm];exact QBJ i U) (Ok.nt rfl ?_))
 obtain⟨x,hx⟩:∃x,O b.j i=x:=⟨_,rfl⟩
 rw[hx]at ht hnm |-
 refine Ok.run2 i (fun k=>((i:Int),(k:Int),())) rfl U (fun k hk K hK=>?_) (fun K=>?_)
 .dsimp only
  refine Ok.P (Ok.A (Ok.n ?_ ?_))
  .rw[hb.pnm U,hnm];exact QtO i U k hk
  .rw[Qa U];exact hK
 .dsimp only
  have hml:=ht.len;have hrp:=ht.rep
  refine Ok.N (Ok.N (Ok.N (Ok.oe rin (Ok.nt (Qt.2 U) ?_))))
  refine Ok.run2 x.Steps.length (fun k=>((k:Int),())) rfl U (fun k hk K hK=>?_) (fun K=>by dsimp only;exact Ok.N (Ok.s rfl))
  dsimp only
  have hs:=ht.step _ (Qf hk)
  have hw:=hs.wait
  refine Ok.P (Ok.atn hk (Ok.oe rin (Ok.nt (Qt.2 U) (Ok.atn hk (Ok.oe (Qsl h hb hs.len hs.target) (Ok.NS ?_))))))
  rw[Qa U];exact hK
def QqM(h:Ze n c)(hn:n<=48)(hb:QQ b):Qf9 1000 c b=some 0:=by
 have htl:=hb.tlen;have hpl:=hb.plen
 refine Ok.eq ?_
 unfold Qf9
 refine Ok.oe (Qfz h hn) (Ok.NS (Ok.opt (P:=(·=0)) ?_ fun r hr=>Ok.s hr))
 unfold QpW
 refine Ok.j (Ok.N (Ok.N ?_))
 refine Ok.run b.t.length (fun i=>(((i:Int),()),c,b,())) rfl U (fun i hi k hk=>?_) (fun k=>?_)
 .dsimp only
  refine Ok.P (Ok.oe (Qyo h hb hi) (Ok.NS ?_))
  rw[Qa U];exact hk
 .dsimp only
  refine Ok.N (Ok.run b.j.length (fun i=>(((i:Int),()),c,b,())) rfl U (fun i hi k hk=>?_) (fun k=>by dsimp only;exact Ok.N (Ok.s rfl)))
  dsimp only
  refine Ok.P (Ok.oe (Qtc h hb hi) (Ok.NS ?_))
  rw[Qa U];exact hk
end
section
open Go AM
attribute [local irreducible] dueV stepV runV QE answerV
section
def LW.callsN(h:LW M n l):sumC l.F (fun p=>(ownC p.S l.Calls).length)=l.Calls.length:=QoI h.asc h.all
def LW.ownN(h:LW M n l)(hp:p∈l.F):(ownC p.S l.Calls).length=(QN p.S 0 p.P).length:=by
 have:=(h.told p hp).same
 grind
def LW.callsLe(h:LW M n l)(hpg:l.F.length<=9):l.Calls.length<=468:=by
 rw[<-h.callsN]
 have:=QtF (l:=l.F) (f:=fun p=>(ownC p.S l.Calls).length) (m:=52) fun p hp=>by
  obtain⟨g1,g2⟩:=h.page p hp
  obtain⟨t,g3,_⟩:=g1.goes
  have h1:=Qcb (id:=p.S) (f:=0) (m:=4) (Goes.short (fun s hs=>hs) g3)
  have h2:=(g1.len h.book).1
  show(ownC p.S l.Calls).length<=52
  rw[h.ownN hp];omega
 omega
def Qd.callsLe(h:Qd M n l)(hpg:l.F.length<=9):l.Calls.length<=468:=h.w.callsLe hpg
def Qsk:sumC (l++[p]) f=sumC l f+f p:=by simp[sumC]
def QcS(h:LW M n l)(hpg:l.F.length<=9):Vb 1000 l=some true:=by
 have htop:=h.top;have hnow:=h.now;have how:=h.owner;have hfe:=h.fence;have hse:=h.seen.len;have hcl:=h.callsLe hpg
 refine Ok.eq ?_
 unfold Vb
 refine Ok.j (Ok.oe (QqM h.cfg h.small h.book) (Ok.NS (Ok.oe rin (Ok.bt (Qt.2 U) (Ok.N (Ok.oe rin (Ok.bt (Qt.2 how) (Ok.oe rin (Ok.bt (Qt.2 U) (Ok.N ?_))))))))))
 have hsle:∀i,sumC (l.F.take i) (fun p=>(ownC p.S l.Calls).length)<=468*i:=fun i=>by
  have:=QtF (l:=l.F.take i) (f:=fun p=>(ownC p.S l.Calls).length) (m:=468) fun p hp=>by
   show(ownC p.S l.Calls).length<=468
   unfold ownC
   grind
  grind
 refine Ok.run l.F.length (fun i=>((((sumC (l.F.take i) (fun p=>(ownC p.S l.Calls).length):Nat):Int),(i:Int),()),l,())) rfl U (fun i hi k hk=>?_) (fun k=>?_)
 .try dsimp only
  have hm:=Qf hi
  obtain⟨g1,g2⟩:=h.page _ hm
  have gt:=h.told _ hm
  have hown:=h.ownN hm
  have hs1:=hsle i
  have hs2:=hsle (i+1)
  refine Ok.P (Ok.atn hi ?_)
  have hasc:0<i->(O l.F (i - 1)).S<(O l.F i).S:=fun h0=>Qei h.asc U hi
  try dsimp only at hk
  rw[<-Qn hi,Qsk]at hk
  obtain⟨p,hp⟩:∃p,O l.F i=p:=⟨_,rfl⟩
  rw[hp]at g1 g2 gt hown hk hasc |-
  have hpl:=g1.plen h.book
  refine Ok.TG (fun y=>y=((((sumC (l.F.take i) (fun p=>(ownC p.S l.Calls).length):Nat):Int),(i:Int),()),l,p,())) (fun y hy=>?_) (fun zG hJ=>?_)
  .subst hy
   try dsimp only
   have hc:=QoZ (k:=0) (f:=0) hpl (BM _)
   rw[Cc]at hc
   refine Ok.oe hc ?_
   try dsimp only
   rw[Qa U,<-hown,Qc (by have:(ownC p.S l.Calls).length<=468:=(by unfold ownC;exact Nat.le_trans (List.length_filter_le _ _) hcl);omega)]
   exact hk
  .have tail:Ok (V (UN 1000 l.a p) fun a13=>AM.J a13 (AM.J (decide (l.E8<p.FQ)) (some false) (V (Qg3 1000 l p) fun a14=>AM.J a14 (zG ((((sumC (l.F.take i) (fun p=>(ownC p.S l.Calls).length):Nat):Int),(i:Int),()),l,p,())) (some false))) (some false)) (·=true):=
    Ok.oe (QgC h.book hpl) (Ok.bt (g1.check h.book) (Ok.N (Ok.oe (QCk hpl U gt) (Ok.t (hJ _ rfl)))))
   by_cases h0:0<i
   .refine Ok.P ?_
    rw[show X ((i:Int) - 1)=((i - 1:Nat):Int)by rw[Qc U];omega]
    have:=hasc h0
    exact Ok.A (Ok.N tail)
   .exact Ok.N tail
 .try dsimp only
  refine Ok.N ?_
  rw[Ad,h.callsN]
  refine Ok.run l.g.length (fun i=>(((l.Calls.length:Int),(i:Int),()),l,())) rfl U (fun i hi k hk=>?_) (fun k=>by dsimp only;exact Ok.N (Ok.s (decide_eq_true rfl)))
  try dsimp only
  have hx:=h.seen.fit _ (Qf hi)
  have hno:(l.g.take i).contains (O l.g i)=false:=by
   cases hc:(l.g.take i).contains (O l.g i)with
   |false=>rfl
   |true=>
    have:=Qlj hi hc
    rw[Ax h.seen.nodup]at this;simp at this
  refine Ok.P (Ok.j (Ok.atn hi (Ok.oe rin (Ok.bt (Qt.2 hx) (Ok.natn (Ok.L (Ok.atn hi (Ok.oe (QcR (by simp;omega)) (Ok.bf hno ?_)))))))))
  try dsimp only
  rw[Qa U];exact hk
abbrev lgA(l:D.G):Int×Y D.q×Y D.Q×Y D.m×Y D.e×Y D.FZ×Y D.W×Int×Int×Unit:=(l.E8,l.E.FI,l.E.k,l.E.o,l.E.f,l.a.t,l.a.j,l.FB,l.Fence,())
def Qdk(l:D.G)(id:Int):D.Page×AH:=if hasV id l.F=true then(O l.F (posV id l.F),true)else(page0,false)
def Ql6{id:Int}(ha:AscP l.F)(hi:i<l.F.length)(h:(O l.F i).S=id):Qdk l id=(O l.F i,true):=by
 subst h
 unfold Qdk
 rw[iB (Qpj ha hi),Qj0 ha hi]
def Qw1{id:Int}(h:∀i,i<l.F.length->(O l.F i).S≠id):Qdk l id=(page0,false):=by
 unfold Qdk
 rw[iA]
 intro hh
 have:=WB hh
 exact h _ this.1 this.2
def QsW{id:Int}(hp:∀p∈l.F,QA p)(ha:AscP l.F)(hl:l.F.length<=64):QeE 1000 l id=some (Qdk l id):=by
 refine Ok.eq ?_
 unfold QeE
 refine Ok.scan2 l.F.length (fun i=>(id,(i:Int),())) (fun i=>decide ((O l.F i).S=id)) rfl U (fun i hi hq _ k=>?_) (fun i hi hq k hk=>?_) (fun hq k=>?_)
 .have hq:=BE hq
  refine Ok.P (Ok.atn hi (Ok.p hq (Ok.atn hi (Ok.oe (QdC (hp _ (Qf hi))) (Ok.s ?_)))))
  rw[Ql6 ha hi hq]
 .have hq:=BG hq
  refine Ok.P (Ok.atn hi (Ok.n hq ?_))
  try dsimp only
  rw[Qa U];exact hk
 .refine Ok.N (Ok.s ?_)
  rw[Qw1 fun i hi=>BG (hq i hi)];rfl
def QiF{id:Int}(hp:∀p∈l.F,QA p)(ha:AscP l.F)(hl:l.F.length<=64):Z7 1000 l id=some (Qdk l id):=by
 refine Ok.eq ?_
 unfold Z7
 refine Ok.scan2 l.F.length (fun i=>(id,(i:Int),())) (fun i=>decide ((O l.F i).S=id)) rfl U (fun i hi hq _ k=>?_) (fun i hi hq k hk=>?_) (fun hq k=>?_)
 .have hq:=BE hq
  refine Ok.P (Ok.natn (Ok.lt hi (Ok.get hi (Ok.p hq (Ok.natn (Ok.lt hi (Ok.get hi (Ok.oe (QdC (hp _ (Qf hi))) (Ok.TF (Ok.TF (Ok.TF (Ok.s ?_))))))))))))
  rw[Ql6 ha hi hq]
 .have hq:=BG hq
  refine Ok.P (Ok.natn (Ok.lt hi (Ok.get hi (Ok.n hq ?_))))
  try dsimp only
  rw[Qa U];exact hk
 .refine Ok.N (Ok.TF (Ok.TF (Ok.TF (Ok.s ?_))))
  rw[Qw1 fun i hi=>BG (hq i hi)];rfl
def LW.plens(h:LW M n l):∀p∈l.F,QA p:=fun p hp=>(h.page p hp).1.plen h.book
def Qd.plens(h:Qd M n l):∀p∈l.F,QA p:=h.w.plens
def QAA(ha:AscP l.F)(hl:l.F.length<=64)(hcl:l.Calls.length<=100000)(hi:i<l.F.length)(hid:p.S=(O l.F i).S)(hpl:QA p)(hle:(O l.F i).P.length<=p.P.length):
  XW 1000 l p=some (putV l i p):=by
 refine Ok.eq ?_
 unfold XW
 refine Ok.run l.F.length (fun j=>(((j:Int),()),lgA l,p,({ E8:=0,E:={ FI:=[],k:=[],o:=[],f:=[] },a:={ t:=[],j:=[] },F:=[],FB:=0,Fence:=0,g:=[],Calls:=[] }:D.G),(if j<=i then l.F else l.F.set i p),l.g,(if j<=i then l.Calls else l.Calls++QN p.S l.Fence (p.P.drop (O l.F i).P.length)),())) (by rw[iB (BM _),iB (BM _)];rfl) U (fun j hj k hk=>?_) (fun k=>?_)
 .try dsimp only[lgA]at hk |-
  have hlen:(if j<=i then l.F else l.F.set i p).length=l.F.length:=by split<;>simp
  have hj':j<(if j<=i then l.F else l.F.set i p).length:=U
  have hnth:j≠i->O (if j<=i then l.F else l.F.set i p) j=O l.F j:=fun hne=>by
   split
   .rfl
   .exact Yl hne
  refine Ok.P (Ok.j (Ok.natn (Ok.lt hj' (Ok.get hj' ?_))))
  by_cases e:j=i
  .subst e
   rw[iB (AN _),iB (AN _)]
   rw[iA U,iA U]at hk
   have hc:=QoZ (k:=(O l.F j).P.length) (f:=l.Fence) hpl hle
   have hcb:(QN p.S l.Fence (p.P.drop (O l.F j).P.length)).length<=40*(p.P.drop (O l.F j).P.length).length:=Qcb fun s hs=>(hpl.pe s (Br hs)).1
   have hst:=hpl.st
   rw[Bn]at hcb
   refine Ok.p hid.symm (Ok.natn (Ok.lt hi (Ok.get hi (Ok.oe hc (Ok.L (Ok.natn (Ok.lt hi (Ok.get hi ?_))))))))
   try dsimp only
   rw[Qa U]
   exact hk
  .rw[hnth e]
   have hne:(O l.F j).S≠p.S:=by
    rw[hid]
    rcases Cx e with h|h
    .have:=Qei ha h hi;omega
    .have:=Qei ha h hj;omega
   refine Ok.n hne ?_
   try dsimp only
   rw[Qa U]
   grind
 .try dsimp only[lgA]
  rw[iA U,iA U]
  refine Ok.NS (Ok.s ?_)
  rfl
def Qqe{id:Int}(h:LW M n l)(hpg:l.F.length<=9):Yn 1000 l id l.E8=some (if hasV id l.F=true then runI l (posV id l.F)else l):=by
 have hcl:=h.callsLe hpg
 refine Ok.eq ?_
 unfold Yn
 refine Ok.oe (QiF h.plens h.asc U) ?_
 unfold Qdk
 by_cases hh:hasV id l.F=true
 .rw[iB hh,iB hh]
  try dsimp only
  have hi:=WB hh
  obtain⟨g1,g2⟩:=h.at hi.1
  obtain⟨q,r1,r2,r3,r4⟩:=Qx6 (c:=l.E) h.book QT.step g1 l.E8
  have hx:=Qqg (c:=l.E) (now:=l.E8) h.book g1
  rw[r1]at hx
  refine Ok.f (Ok.oe (QzQ h.cfg h.small h.book (g1.plen h.book)) ?_)
  rw[r1]
  try dsimp only
  refine Ok.NS (Ok.oe (QAA (i:=posV id l.F) h.asc U U hi.1 r4.id (r2.plen h.book) ?_) (Ok.s ?_))
  .obtain⟨m,hm⟩:=hx
   simp_all
  .unfold runI
   simp_all
 .rw[iA hh,iA hh]
  exact Ok.t (Ok.s rfl)
end
end
section
attribute [local irreducible] dueV stepV runV QE answerV
section
def QtW(hp:∀p∈l.F,QA p)(h1:l.F.length<=64)(h2:l.g.length<=1000)(h3:l.Calls.length<=100000):QbR 1000 l=some l:=by
 refine Ok.eq ?_
 unfold QbR
 refine Ok.run l.F.length (fun i=>(((i:Int),()),l,({ E8:=0,E:={ FI:=[],k:=[],o:=[],f:=[] },a:={ t:=[],j:=[] },F:=[],FB:=0,Fence:=0,g:=[],Calls:=[] }:D.G),l.F.take i,())) rfl U (fun i hi k hk=>?_) (fun k=>?_)
 .try dsimp only
  refine Ok.P (Ok.atn hi (Ok.oe (QdC (hp _ (Qf hi))) (Ok.LS ?_)))
  try dsimp only
  rw[Qa U,Qn hi]
  exact hk
 .try dsimp only
  rw[Ad]
  exact Ok.N (Ok.L (Ok.L (Ok.s rfl)))
def Qz6{α:Type}[AK α]{L:Y α}{k:Nat}{x:α}(h:k<L.length):(L.take (k+1)).set k x=L.take k++[x]:=by
 rw[<-Qn h,E4 _ _ (by rw[Af];omega)]
 simp[CC (EO h)]
def Qzm{P:D.Page}{L:Y D.Page}{k:Nat}(hk:k<=L.length):
  (List.take (k+1) (L++[P])++List.take ((L++[P]).length - (k+1)) (List.drop k (L++[P]))).set k P=L.take k++P::L.drop k:=by
 have hl:(L++[P]).length=L.length+1:=Ob
 rw[List.set_append_left _ _ (by rw[Af,hl];omega),Qz6 (by rw[hl];omega),Cb hk,List.drop_append_of_le_length hk,hl,show L.length+1 - (k+1)=(L.drop k).length by simp,ED,Aw]
 rfl
def QBZ{id:Int}(ha:AscP L)(hk:k<=L.length)(h1:∀j,j<k->(O L j).S<id)(h2:k<L.length->id<=(O L k).S):posV id L=k:=by
 rcases Cu (posV id L) k with h|h|h
 .have:=Qmz ha (id:=id) (AN _) (show posV id L<L.length by omega)
  have:=h1 _ h;omega
 .exact h
 .have:=QmA (l:=L) h
  have:=h2 (by have:=Qcp (id:=id) (l:=L);omega);omega
def QBS(h:Qd M n l)(hpg:l.F.length<=8)(ho:OpIn o)(hk:o.Z=1):WL 1000 l o l.E8 (hasV o.Page l.F)=some (opV l o):=by
 have hnow:=h.now;have htop:=h.top;have hpl:=h.book.plen;have hop:=ho.page
 have hsl:=h.seen.len;have hcl:=h.callsLe U
 refine Ok.eq ?_
 unfold WL opV
 rw[iB hk]
 refine Ok.J (fun g=>Ok.s ?_) (fun g=>?_)
 .rw[iB g]
 rw[iA (by rw[g];simp)]
 refine Ok.N ?_
 rw[iA U]
 refine Ok.oe (Qpt h.book) ?_
 unfold newV
 by_cases g1:o.Page<1
 .rw[iB g1,iA (fun hh=>by have:=Qt.1 hh.1;omega)]
  exact Ok.PS (Ok.s rfl)
 rw[iA g1,iB ⟨Qt.2 U,Qt.2 U⟩]
 by_cases g2:0<=o.W/\o.W<(l.a.j.length:Int)
 .rw[iB g2,iB (Qt.2 U)]
  try dsimp only
  refine Ok.NS ?_
  obtain⟨hi1,hi2,hi3⟩:=h.open (o:=o) g U g2 U
  have hple:=Qcp (id:=o.Page) (l:=l.F)
  refine Ok.TG (fun y=>y=((l.E8,((posV o.Page l.F:Nat):Int),()),lgA l,({ E8:=0,E:={ FI:=[],k:=[],o:=[],f:=[] },a:={ t:=[],j:=[] },F:=[],FB:=0,Fence:=0,g:=[],Calls:=[] }:D.G),newP o.Page o.W l.E8,l.F,l.g,l.Calls,())) (fun y hy=>?_) (fun zG hJ=>?_)
  .subst hy
   try dsimp only[lgA]
   obtain⟨P,hP⟩:∃P,newP o.Page o.W l.E8=P:=⟨_,rfl⟩
   have hPid:P.S=o.Page:=by subst hP;rfl
   rw[hP]at hi1 hi2 hi3 |-
   have hins:insP l.F P=l.F.take (posV o.Page l.F)++P::l.F.drop (posV o.Page l.F):=by unfold insP;rw[hPid]
   have hle1:(l.F++[P]).length=l.F.length+1:=Ob
   try dsimp only
   rw[Qa U]
   refine Ok.LS (Ok.natn (Ok.L (Ok.natn (Ok.L (Ok.ck rfl (Ok.ck rfl (Ok.L (Ok.L (Ok.natn (Ok.lt ?_ (Ok.get ?_ ?_)))))))))))
   .grind
   .grind
   rw[Qzm hple,<-hins]
   have hrun:=Qqe (id:=P.S) hi1.w (by show(insP l.F P).length<=9;rw[hins];simp;omega)
   have hpos:posV P.S (insP l.F P)=posV o.Page l.F:=by
    have:=Qj0 hi1.asc hi2
    simp_all
   have hhas:hasV P.S (insP l.F P)=true:=by
    have:=Qpj hi1.asc hi2
    simp_all
   rw[iB hhas,hpos]at hrun
   exact Ok.oe hrun (Ok.s rfl)
  .have hfound:∀k:Nat,k<=l.F.length->(∀j,j<k->(O l.F j).S<o.Page)->(k<l.F.length->o.Page<=(O l.F k).S)->Ok (zG ((l.E8,(k:Int),()),lgA l,({ E8:=0,E:={ FI:=[],k:=[],o:=[],f:=[] },a:={ t:=[],j:=[] },F:=[],FB:=0,Fence:=0,g:=[],Calls:=[] }:D.G),newP o.Page o.W l.E8,l.F,l.g,l.Calls,())) _:=fun k h1 h2 h3=>hJ _ (by rw[QBZ h.asc h1 h2 h3])
   refine Ok.scan2 l.F.length (fun i=>(l.E8,(i:Int),())) (fun i=>!decide ((O l.F i).S<o.Page)) rfl U (fun i hi hq hj k=>?_) (fun i hi hq k hk=>?_) (fun hq k=>?_)
   .refine Ok.j ?_
    dsimp only
    refine Ok.P (Ok.natn (Ok.lt hi (Ok.get hi (Ok.n ?_ (hfound i U (fun j hj'=>by simpa using hj j hj') (fun _=>by simpa using hq))))))
    have:¬(O l.F i).S<o.Page:=by simpa using hq
    exact this
   .have hlt:(O l.F i).S<o.Page:=by simpa using hq
    refine Ok.j ?_
    dsimp only
    refine Ok.P (Ok.natn (Ok.lt hi (Ok.get hi (Ok.p hlt ?_))))
    try dsimp only
    rw[Qa U];exact hk
   .refine Ok.j ?_
    dsimp only
    exact(Ok.N (hfound l.F.length (AN _) (fun j hj'=>by simpa using hq j hj') (fun hh=>absurd hh (Cm _))))
 .rw[iA g2,iA (fun hh=>g2 (by have:=Qt.1 hh;omega))]
  exact Ok.PS (Ok.s rfl)
def QaM(h:(answerV b p a).2=0):(answerV b p a).1=p\/(answerV b p a).1=XG p a:=by
 revert h
 unfold answerV
 grind
def Qty(h:Qd M n l)(hi:i<l.F.length):(O (runI l i).F i).S=(O l.F i).S:=by
 rw[Qd4 h hi,iB rfl]
 exact(Qa6 h.book QT.step (h.at hi).1).id
def QzP(h:Qd M n l)(hpg:l.F.length<=9)(hk:o.Z=4)(ha:YX o.b=true):We 1000 l o.b l.E8=some (opV l o):=by
 have hcl:=h.callsLe hpg
 refine Ok.eq ?_
 unfold We opV
 rw[iA U,iA U,iA U,iB hk]
 refine Ok.oe (QiF h.plens h.asc U) ?_
 unfold Qdk
 by_cases hh:hasV o.b.Page l.F=true
 .rw[iB hh,iB hh]
  try dsimp only
  have hi:=WB hh
  have hrun:=Qqe (id:=o.b.Page) h.w hpg
  rw[iB hh]at hrun
  refine Ok.f (Ok.oe hrun ?_)
  have h2:=h.run hi.1
  have hkp:=YK (l:=l) (i:=posV o.b.Page l.F)
  obtain⟨i,hie⟩:∃i,posV o.b.Page l.F=i:=⟨_,rfl⟩
  rw[hie]at hi h2 hkp |-
  have hid2:(O (runI l i).F i).S=o.b.Page:=(Qty h hi.1).trans hi.2
  have hi2:i<(runI l i).F.length:=U
  have hcl2:=h2.callsLe U
  refine Ok.oe (QiF h2.plens h2.asc U) ?_
  rw[Ql6 h2.asc hi2 hid2]
  try dsimp only
  obtain⟨a,hae⟩:∃a:D.b,a=D.b.mk o.b.S o.b.Page o.b.Q o.b.Z o.b.Ft l.E8:=⟨_,rfl⟩
  rw[<-hae]
  have hpl2:=h2.plens _ (Qf hi2)
  refine Ok.oe (QsD h2.book hpl2) ?_
  rw[hkp.2.2.1]
  have hz:=QaM (b:=l.a) (p:=O (runI l i).F i) (a:=a)
  have hAl:=hpl2.answerV (a:=a) h.book
  obtain⟨A,e,hA⟩:∃A e,answerV l.a (O (runI l i).F i) a=(A,e):=⟨_,_,rfl⟩
  rw[hA]at hz hAl |-
  try dsimp only at hz hAl |-
  by_cases he:e=0
  .rw[iB he]
   have hq:=hz he
   have hpid:A.S=(O (runI l i).F i).S:=by
    rcases hq with rfl|rfl
    .rfl
    .exact QdA.1
   have hpst:(O (runI l i).F i).P.length<=A.P.length:=by
    rcases hq with rfl|rfl
    .exact AN _
    .obtain⟨m,hm⟩:=Qeh (p:=O (runI l i).F i) (a:=a)
     rw[hm];simp
   refine Ok.N (Ok.oe (QAA (i:=i) h2.asc U U hi2 hpid hAl hpst) (Ok.s rfl))
  .rw[iA he]
   exact Ok.p he (Ok.s rfl)
 .rw[iA hh,iA hh]
  exact Ok.t (Ok.s rfl)
def QBq(h:Ze n c)(hn:n<48)(hx:0<=s/\s<2->Qb6 x):Qi5 1000 c s x=some (if 0<=s/\s<2 then(QlY c s x,0)else({ FI:=[],k:=[],o:=[],f:=[] },3)):=by
 have hsl:=h.slen
 refine Ok.eq ?_
 unfold Qi5
 refine Ok.j (Ok.oe (Qfz h U) (Ok.NS (Ok.ite (fun g=>Ok.s ?_) (fun g=>Ok.ite (fun g2=>Ok.s ?_) (fun g2=>?_)))))
 .rw[iA U]
 .rw[iA U]
 .rw[iB U]
  try dsimp only
  have hso:=h.sched _ (Qf (l:=c.f) (i:=s.toNat) U)
  have hlen:=hso.len
  refine Ok.at U U (Ok.L (Ok.LS (Ok.oe (v:=QlY c s x) ?_ (Ok.oe (Qfz (Qo8 h (hx U) U) U) (Ok.NS (Ok.s rfl))))))
  refine Ok.eq ?_
  unfold QpU
  refine Ok.L (Ok.nat U (Ok.E (Ok.G (Ok.s ?_))))
  rfl
def apply0W(h:LW M n l)(hpg:l.F.length<=9)(hkd:o.Z=2\/o.Z=3)(hof:0<=o.Fence/\o.Fence<=1048576):Ym 1000 l o l.E8=some (opV l o):=by
 have hfe:=h.fence
 refine Ok.eq ?_
 unfold Ym
 refine Ok.oe (QiF h.plens h.asc U) ?_
 have hf2:(Qdk l o.Page).2=hasV o.Page l.F:=by
  unfold Qdk
  grind
 obtain⟨fp,fo,hfe2⟩:∃fp fo,Qdk l o.Page=(fp,fo):=⟨_,_,rfl⟩
 rw[hfe2]at hf2 |-
 try dsimp only at hf2 |-
 subst hf2
 refine Ok.j (Ok.N (Ok.ite (fun k2=>?_) (fun k2=>Ok.P ?_)))
 all_goals have k1:¬o.Z=1:=U
 .unfold opV
  rw[iA k1,iB k2,Qc U]
  refine Ok.ite (fun g=>Ok.s ?_) (fun g=>Ok.s ?_)
  .rw[iA U]
  .rw[iB U]
 .have k3:o.Z=3:=U
  unfold opV
  rw[iA k1,iA k2,iB k3]
  refine Ok.TG (fun y=>y=((l.E8,hasV o.Page l.F,()),lgA l,o,({ E8:=0,E:={ FI:=[],k:=[],o:=[],f:=[] },a:={ t:=[],j:=[] },F:=[],FB:=0,Fence:=0,g:=[],Calls:=[] }:D.G),fp,l.F,l.g,l.Calls,())/\o.Region=l.FB/\o.Fence=l.Fence) (fun y hy=>?_) (fun zG hJ=>Ok.ite (fun g=>Ok.s ?_) (fun g=>Ok.ite (fun g2=>Ok.s ?_) (fun g2=>hJ _ ⟨rfl,U,U⟩)))
  .obtain⟨rfl,g1,g2⟩:=hy
   try dsimp only[lgA]
   rw[iB ⟨g1,g2⟩]
   refine Ok.ncnd (fun hh=>Ok.s ?_) (fun hh=>?_)
   .simp_all
   .rw[iB hh]
    have hfp:fp=O l.F (posV o.Page l.F):=by
     unfold Qdk at hfe2
     simp_all
    subst hfp
    have hrun:=Qqe (id:=o.Page) h U
    rw[iB hh]at hrun
    refine Ok.oe QgF ?_
    obtain⟨pg,hpg2⟩:∃pg,O l.F (posV o.Page l.F)=pg:=⟨_,rfl⟩
    rw[hpg2]
    obtain⟨kk,hkk⟩:∃kk:Int,(if pg.p=2 then(-1:Int)else pg.E9)=kk:=⟨_,rfl⟩
    rw[hkk]
    have hw:Y1 pg l.E8=((dueV pg).2 && decide ((dueV pg).1<=l.E8)):=rfl
    refine Ok.TG (fun y=>y=((l.E8,(dueV pg).1,(dueV pg).2,kk,()),lgA l,o,({ E8:=0,E:={ FI:=[],k:=[],o:=[],f:=[] },a:={ t:=[],j:=[] },F:=[],FB:=0,Fence:=0,g:=[],Calls:=[] }:D.G),l.F,l.g,l.Calls,())) (fun y hy=>?_) (fun zG hJ=>Ok.ite (fun g=>hJ _ (by rw[<-hkk,iB g])) (fun g=>hJ _ (by rw[<-hkk,iA g])))
    subst hy
    try dsimp only[lgA]
    refine Ok.j (Ok.J (fun g3=>Ok.ite (fun g4=>Ok.s ?_) (fun g4=>Ok.ite (fun g5=>Ok.s ?_) (fun g5=>Ok.oe hrun (Ok.s ?_)))) (fun g3=>Ok.s ?_))
    .rw[iA (fun hx=>by rw[hw,g3]at hx;have:=BE (show decide ((dueV pg).1<=l.E8)=true by simpa using hx.1);omega)]
    .rw[iA (fun hx=>g5 hx.2.symm)]
    .simp_all
    .simp_all
  .rw[iA U]
  .rw[iA U]
def Qwd(h:Qd M n l)(hn:n<48)(hpg:l.F.length<=8)(ho:OpIn o):Ym 1000 l o l.E8=some (opV l o):=by
 have hfe:=h.fence;have hse:=h.seen.len;have hkd:=ho.kind;have hof:=ho.fence
 by_cases hk23:o.Z=2\/o.Z=3
 .exact apply0W h.w U hk23 hof
 refine Ok.eq ?_
 unfold Ym
 refine Ok.oe (QiF h.plens h.asc U) ?_
 have hf2:(Qdk l o.Page).2=hasV o.Page l.F:=by
  unfold Qdk
  grind
 obtain⟨fp,fo,hfe2⟩:∃fp fo,Qdk l o.Page=(fp,fo):=⟨_,_,rfl⟩
 rw[hfe2]at hf2 |-
 try dsimp only at hf2 |-
 subst hf2
 refine Ok.j (Ok.ite (fun k1=>?_) (fun k1=>Ok.ite (fun k2=>absurd (.inl k2) hk23) (fun k2=>Ok.ite (fun k3=>absurd (.inr k3) hk23) (fun k3=>Ok.ite (fun k4=>?_) (fun k4=>Ok.ite (fun k5=>?_) (fun k5=>absurd hkd U))))))
 .exact Ok.oe (QBS h hpg ho k1) (Ok.s rfl)
 .exact Ok.oe (QzP h U k4 (ho.answer k4).1) (Ok.s rfl)
 .unfold opV
  rw[iA k1,iA k2,iA k3,iA k4]
  have hkeep:∀i,(Zu l i).E8=l.E8/\(Zu l i).E=l.E/\(Zu l i).a=l.a/\(Zu l i).FB=l.FB/\(Zu l i).Fence=l.Fence/\(Zu l i).g=l.g/\(Zu l i).F.length=l.F.length:=fun i=>Ya
  refine Ok.run l.F.length (fun i=>((l.E8,(i:Int),()),lgA (Zu l i),o,({ E8:=0,E:={ FI:=[],k:=[],o:=[],f:=[] },a:={ t:=[],j:=[] },F:=[],FB:=0,Fence:=0,g:=[],Calls:=[] }:D.G),(Zu l i).F,(Zu l i).g,(Zu l i).Calls,())) rfl U (fun i hi k hk=>?_) (fun k=>?_)
  .try dsimp only[lgA]
   have hki:=hkeep i
   have hi2:i<(Zu l i).F.length:=U
   have hL:=h.runs (k:=i) U
   have hrun:=Qqe (id:=(O (Zu l i).F i).S) hL.w U
   rw[iB (Qpj hL.asc hi2),Qj0 hL.asc hi2,hki.1]at hrun
   refine Ok.P (Ok.natn (Ok.lt hi2 (Ok.get hi2 (Ok.oe hrun ?_))))
   try dsimp only
   rw[Qa U]
   exact hk
  .try dsimp only[lgA]
   have hki:=hkeep l.F.length
   refine Ok.N ?_
   have hed:=QBq (c:=l.E) (s:=o.e) h.cfg hn (ho.edit k5)
   refine Ok.oe (v:=if 0<=o.e/\o.e<2 then(QlY l.E o.e o.s,0)else({ FI:=[],k:=[],o:=[],f:=[] },3)) ?_ ?_
   .simp_all
   .by_cases hs:0<=o.e/\o.e<2
    .rw[iB hs,iB hs]
     exact Ok.NS (Ok.s rfl)
    .rw[iA hs,iA hs]
     exact Ok.PS (Ok.s rfl)
def OpIn.valid(ho:OpIn o):QdU 1000 o=some true:=by
 refine Ok.eq ?_
 unfold QdU
 refine Ok.oe rin (Ok.bt (Qt.2 ho.id) (Ok.oe rin (Ok.bt (Qt.2 ho.kind) (Ok.oe rin (Ok.bt (Qt.2 ho.region) (Ok.oe rin (Ok.bt (Qt.2 ho.fence) (Ok.oe rin (Ok.bt (Qt.2 ho.at_) (Ok.oe rin (Ok.bt (Qt.2 ho.page) (Ok.oe rin (Ok.bt (Qt.2 ho.k) ?_)))))))))))))
 exact Ok.ite (fun g=>Ok.s rfl) (fun g=>Ok.oe QoK (Ok.bt (ho.answer U).1 (Ok.s rfl)))
def Qwe(h:Qd M n l)(hn:n<48)(hpg:l.F.length<=8)(ho:OpIn o)(ht:max l.E8 o.At<=M - 20000)(hl:l.g.length<256):Qgc 1000 l o=some (Zk l o):=by
 have hcl:=h.callsLe U
 refine Ok.eq ?_
 unfold Qgc Zk
 refine Ok.j (Ok.oe (QcS h.w U) (Ok.t (Ok.oe ho.valid (Ok.t ?_))))
 try dsimp only
 refine Ok.oe (QtW h.plens U U U) (Ok.oe (QcR U) (Ok.J (fun g=>Ok.s ?_) (fun g=>?_)))
 .rw[iB g]
 .rw[iA (by rw[g];simp)]
  have h2:=h.see ho ht g hl
  refine Ok.N (Ok.LS (Ok.oe (Qwd (l:={ l with E8:=max l.E8 o.At,g:=l.g++[o.S] }) h2 hn hpg ho) (Ok.s rfl)))
end
end
section
open Go AM
attribute [local irreducible] dueV stepV runV QE answerV
section
def Ids(m:Int)(l:D.G):Prop:=∀p∈l.F,p.S<=m
def Ids.mono(h:Ids m l)(hk:m<=k):Ids k l:=fun p hp=>CR (h p hp) hk
def QBE{L:Y D.Page}(ha:AscP L){k:Nat}(h:∀p∈L,1<=p.S/\p.S<=(k:Int)):L.length<=k:=by
 have hlo:∀i,i<L.length->(i:Int)+1<=(O L i).S:=by
  intro i
  induction i with
  |zero=>intro hi;have:=(h _ (Qf hi)).1;omega
  |succ i ih=>
   intro hi
   have:=ih U
   have:=Qei ha (show i<i+1 by omega) hi
   omega
 rcases BC k L.length with h1|h1
 .have h2:=hlo (L.length - 1) U
  have h3:=(h _ (Qf (l:=L) (i:=L.length - 1) U)).2
  omega
 .exact h1
def Qd.small3{n:Nat}{M:Int}{l:D.G}{k:Nat}(h:Qd M n l)(hi:Ids (k:Int) l):l.F.length<=k:=
 QBE h.asc fun p hp=>⟨(h.page p hp).1.id.1,hi p hp⟩
def Ids.put(h:Ids m l)(hi:i<l.F.length)(hp:p.S=(O l.F i).S):Ids m (putV l i p):=fun q hq=>by
 rcases Cy hq with hq|rfl
 .exact h q hq
 .rw[hp];exact h _ (Qf hi)
def Ids.run(h:Ids m l)(hl:Qd M n l)(hi:i<l.F.length):Ids m (runI l i):=by
 rw[hl.runEq hi]
 exact h.put hi (Qa6 hl.book QT.step (hl.at hi).1).id
def Ids.runs(h:Ids m l)(hl:Qd M n l):∀{k:Nat},k<=l.F.length->Ids m (Zu l k)
 |0,_=>h
 |k+1,hk=>by
  rw[Zu]
  exact(Ids.runs h hl (k:=k) U).run (hl.runs U) (by have:=(Ya (l:=l) (k:=k)).2.2.2.2.2.2;omega)
def Ids.op(h:Ids m l)(hl:Qd M n l)(ho:OpIn o)(hp:o.Z=1->o.Page<=m):Ids m (opV l o).1:=by
 unfold opV
 split
 .rename_i k1
  split
  .exact h
  .rename_i hh
   split
   .exact h
   .split
    .exact h
    .split
     .rename_i h1 h2 h3
      have hop:=ho.page
      have hi:=hl.open (o:=o) (by simpa using hh) U h3 (by have:=hl.len;omega)
      have hid:Ids m { l with F:=insP l.F (newP o.Page o.W l.E8) }:=fun q hq=>by
       rcases QiM.1 hq with rfl|hq
       .exact hp k1
       .exact h q hq
      exact hid.run hi.1 hi.2.1
     .exact h
 .split
  .split
   .exact h
   .exact h
  .split
   .split
    .split
     .rename_i hh
      generalize (if (O l.F (posV o.Page l.F)).p=2 then(-1:Int)else(O l.F (posV o.Page l.F)).E9)=kk
      split
      .exact h.run hl (WB hh).1
      .exact h
     .exact h
    .exact h
   .split
    .split
     .rename_i hh
      have hi:=(WB hh).1
      split
      .rename_i he
       have h2:=hl.run hi
       have hk:=YK (l:=l) (i:=posV o.b.Page l.F)
       refine(h.run hl hi).put U ?_
       rcases QaM he with e|e
       .rw[e]
       .rw[e];exact QdA.1
      .exact h.run hl hi
     .exact h
    .split
     .exact h.runs hl (AN _)
     .exact h.runs hl (AN _)
def Ids.apply(h:Ids m l)(hl:Qd M n l)(ho:OpIn o)(ht:max l.E8 o.At<=M - 20000)(hs:l.g.length<256)(hp:o.Z=1->o.Page<=m):Ids m (Zk l o).1:=by
 unfold Zk
 split
 .exact h
 .rename_i hse
  exact Ids.op (l:={ l with E8:=max l.E8 o.At,g:=l.g++[o.S] }) h (hl.see ho ht (by simpa using hse) hs) ho hp
def Qk9:(opV l o).1.E8=l.E8/\(opV l o).1.g=l.g:=by
 unfold opV
 have h1:=fun i=>YK (l:=l) (i:=i)
 have h2:=fun k=>Ya (l:=l) (k:=k)
 split
 .split
  .exact⟨rfl,rfl⟩
  .split
   .exact⟨rfl,rfl⟩
   .split
    .exact⟨rfl,rfl⟩
    .split
     .exact⟨(YK (l:={ l with F:=insP l.F (newP o.Page o.W l.E8) })).1,(YK (l:={ l with F:=insP l.F (newP o.Page o.W l.E8) })).2.2.2.2.2.1⟩
     .exact⟨rfl,rfl⟩
 .split
  .grind
  .split
   .grind
   .split
    .split
     .split
      .exact⟨(h1 _).1,(h1 _).2.2.2.2.2.1⟩
      .simp_all
     .exact⟨rfl,rfl⟩
    .grind
def QsE:(Zk l o).1.g.length<=l.g.length+1/\((Zk l o).1.E8=l.E8\/(Zk l o).1.E8=max l.E8 o.At):=by
 unfold Zk
 split
 .simp_all
 .have:=Qk9 (l:={ l with E8:=max l.E8 o.At,g:=l.g++[o.S] }) (o:=o)
  simp_all
def QvO(h:Qd M n l)(hpg:l.F.length<=9):Ok (Vd 1000 l t) fun w=>w.length<=9/\∀s∈w,∃p∈l.F,s.K=p.S:=by
 unfold Vd
 refine Ok.j ?_
 refine Ok.loop (fun m x=>∃(i:Nat) (w:Y D.R),x=((t,(i:Int),()),l,w,())/\i<=l.F.length/\w.length<=i/\(∀s∈w,∃p∈l.F,s.K=p.S)/\m=l.F.length - i) (m:=l.F.length) U ⟨0,[],rfl,U,Ob,Ob,rfl⟩ ?_
 rintro m x ⟨i,w,rfl,i1,i2,i3,rfl⟩ K hK
 try dsimp only
 refine Ok.j (Ok.ite (fun hi=>?_) (fun hi=>Ok.s ⟨U,i3⟩))
 have hlt:i<l.F.length:=U
 refine Ok.oe (QcS h.w hpg) (Ok.t ?_)
 try dsimp only
 have next:∀w:Y D.R,w.length<=i+1->(∀s∈w,∃p∈l.F,s.K=p.S)->Ok (K ((t,X ((i:Int)+1),()),l,w,())) fun w=>w.length<=9/\∀s∈w,∃p∈l.F,s.K=p.S:=fun w h1 h2=>by
  try dsimp only
  rw[Qa U]
  exact hK _ _ U ⟨i+1,w,rfl,U,h1,h2,rfl⟩
 refine Ok.j (Ok.atn hlt (Ok.oe QgF (Ok.J (fun g=>Ok.ite (fun g2=>Ok.atn hlt (Ok.LS (next _ (by simp;omega) ?_))) (fun g2=>next w U i3)) (fun g=>next w U i3))))
 exact VV i3 ⟨_,Qf hlt,rfl⟩
def QAz{id t:Int}(hL:L.length<=500)(hd:Qz L d)(h:Qd M n l)(hids:Ids 3 l)(hid:1<=id/\id<=1000)(ht:0<=t/\t<=8589934592):
  Ok (QaT 1000 d l id t) fun r=>Qz L r.2/\OpIn r.1/\r.1.S=id/\r.1.At=t/\(r.1.Z=1->1<=r.1.Page/\r.1.Page<=3)/\(r.1.Z=4->r.1.b.Q<4):=by
 have hpl:=h.book.plen;have hfe:=h.fence;have hse:=h.seen.len;have how:=h.owner
 have hpg:=h.small3 (k:=3) hids
 unfold QaT
 refine Ok.opt (nx hL hd U U) fun⟨a0,d1⟩ ⟨h1,l1,u1⟩=>?_
 try dsimp only at h1 l1 u1 |-
 refine Ok.opt (nx hL h1 U U) fun⟨a2,d3⟩ ⟨h3,l3,u3⟩=>?_
 try dsimp only at h3 l3 u3 |-
 refine Ok.opt (nx hL h3 U U) fun⟨a4,d5⟩ ⟨h5,l5,u5⟩=>?_
 try dsimp only at h5 l5 u5 |-
 rw[Qc (x:=1+a0) U,Qc (x:=1+a4) U]
 have noEdit:∀{P:Prop},¬(1+a0=5)->1+a0=5->P:=fun h1 h2=>absurd h2 h1
 refine Ok.j (Ok.ite (fun k1=>?_) (fun k1=>Ok.ite (fun k2=>?_) (fun k2=>Ok.ite (fun k3=>?_) (fun k3=>Ok.ite (fun k4=>?_) (fun k4=>Ok.ite (fun k5=>?_) (fun k5=>?_))))))
 .refine Ok.opt (nx hL h5 U U) fun⟨a10,d11⟩ ⟨h11,l11,u11⟩=>?_
  try dsimp only at h11 l11 u11 |-
  rw[Qc (x:=(l.a.j.length:Int)+1) U,Qc (x:=(l.a.j.length:Int)+1 - a10) U]
  refine Ok.opt (nx hL h11 U U) fun⟨a12,d13⟩ ⟨h13,l13,u13⟩=>Ok.s ⟨h13,?_,rfl,rfl,fun _=>by dsimp only;omega,fun e=>absurd (show 1+a0=4 from e) U⟩
  exact⟨by dsimp only;omega,by dsimp only;omega,by dsimp only;omega,by dsimp only;omega,ht,by dsimp only;omega,by dsimp only;omega,fun e=>absurd (show 1+a0=4 from e) U,fun e=>absurd (show 1+a0=5 from e) U⟩
 .refine Ok.opt (Qci hL h5 Ob Ob) fun⟨a14,d15⟩ ⟨h15,m15⟩=>?_
  try dsimp only at h15 m15 |-
  simp only[AY,BH,or_false]at m15
  try dsimp only
  rw[Qc (x:=l.Fence+a14) U]
  refine Ok.s ⟨h15,?_,rfl,rfl,fun e=>absurd (show 1+a0=1 from e) k1,fun e=>absurd (show 1+a0=4 from e) U⟩
  exact⟨by dsimp only;omega,by dsimp only;omega,by dsimp only;omega,by dsimp only;omega,ht,by dsimp only;omega,by dsimp only;omega,fun e=>absurd (show 1+a0=4 from e) U,fun e=>absurd (show 1+a0=5 from e) U⟩
 ·have hop:∀o:D.Op,OpIn o->o.S=id->o.At=t->o.Z=3->∀d,Qz L d->Ok (some (o,d)) fun r=>Qz L r.2/\OpIn r.1/\r.1.S=id/\r.1.At=t/\(r.1.Z=1->1<=r.1.Page/\r.1.Page<=3)/\(r.1.Z=4->r.1.b.Q<4):=fun o h1 h2 h3 h4 d hd=>Ok.s ⟨hd,h1,h2,h3,fun e=>absurd (show o.Z=1 from e) U,fun e=>absurd (show o.Z=4 from e) U⟩
  refine Ok.TG (fun y=>∃(d:D.y) (z o:D.Op),y=((t,1+a4,()),d,l,z,o,())/\Qz L d/\OpIn o/\o.S=id/\o.At=t/\o.Z=3) (fun y hy=>?_) (fun zG hJ=>?_)
  .obtain⟨d,z,o,rfl,j1,j2,j3,j4,j5⟩:=hy
   try dsimp only
   refine Ok.TG (fun y=>∃(d:D.y) (z o:D.Op),y=((t,1+a4,()),d,l,z,o,())/\Qz L d/\OpIn o/\o.S=id/\o.At=t/\o.Z=3) (fun y hy=>?_) (fun zG hJ=>?_)
   .obtain⟨d,z,o,rfl,j1,j2,j3,j4,j5⟩:=hy
    try dsimp only
    refine Ok.TG (fun y=>∃(d:D.y) (z o:D.Op),y=((),l,z,o,d,())/\Qz L d/\OpIn o/\o.S=id/\o.At=t/\o.Z=3) (fun y hy=>?_) (fun zG hJ=>?_)
    .obtain⟨d,z,o,rfl,j1,j2,j3,j4,j5⟩:=hy
     try dsimp only
     refine Ok.oe (QsW h.plens h.asc U) ?_
     unfold Qdk
     by_cases hh:hasV o.Page l.F=true
     .rw[iB hh]
      try dsimp only
      have hi:=WB hh
      obtain⟨g1,_⟩:=h.at hi.1
      have hnx:=(Yd (g1.check h.book)).next
      have hcn:=Yw (g1.polOK h.book)
      refine Ok.t (Ok.ite (fun g=>Ok.s ⟨j1,?_,j3,j4,fun e=>absurd (show o.Z=1 from e) U,fun e=>absurd (show o.Z=4 from e) U⟩) (fun g=>Ok.s ⟨j1,?_,j3,j4,fun e=>absurd (show o.Z=1 from e) U,fun e=>absurd (show o.Z=4 from e) U⟩))
      .exact⟨j2.id,j2.kind,j2.region,j2.fence,j2.at_,j2.page,by dsimp only;omega,j2.answer,j2.edit⟩
      .exact⟨j2.id,j2.kind,j2.region,j2.fence,j2.at_,j2.page,by dsimp only;omega,j2.answer,j2.edit⟩
     .rw[iA hh]
      exact Ok.f (hop _ j2 j3 j4 j5 _ j1)
    .refine Ok.opt (QvO h U) fun w ⟨w1,w2⟩=>?_
     refine Ok.ite (fun g=>?_) (fun g=>hJ _ ⟨_,_,_,rfl,j1,⟨j2.id,j2.kind,j2.region,j2.fence,j2.at_,by dsimp only;omega,j2.k,j2.answer,j2.edit⟩,j3,j4,j5⟩)
     refine Ok.opt (nx hL j1 U U) fun⟨a36,d37⟩ ⟨h37,l37,u37⟩=>?_
     try dsimp only at h37 l37 u37 |-
     refine Ok.at l37 u37 (hJ _ ⟨_,_,_,rfl,h37,⟨j2.id,j2.kind,j2.region,j2.fence,j2.at_,?_,j2.k,j2.answer,j2.edit⟩,j3,j4,j5⟩)
     obtain⟨p,hp,e⟩:=w2 _ (Qf (l:=w) (i:=a36.toNat) U)
     have:=(h.page p hp).1.id
     grind
   .refine Ok.opt (nx hL j1 U U) fun⟨a40,d41⟩ ⟨h41,_⟩=>Ok.ite (fun g=>?_) (fun g=>hJ _ ⟨_,_,_,rfl,h41,j2,j3,j4,j5⟩)
    try dsimp only at h41
    refine Ok.opt (nx hL h41 U U) fun⟨a42,d43⟩ ⟨h43,l43,u43⟩=>hJ _ ⟨_,_,_,rfl,h43,⟨j2.id,j2.kind,j2.region,?_,j2.at_,j2.page,j2.k,j2.answer,j2.edit⟩,j3,j4,j5⟩
    grind
  .refine Ok.opt (nx hL h5 U U) fun⟨a45,d46⟩ ⟨h46,_⟩=>Ok.ite (fun g=>?_) (fun g=>?_)
   .try dsimp only at h46
    refine Ok.opt (nx hL h46 U U) fun⟨a47,d48⟩ ⟨h48,l48,u48⟩=>hJ _ ⟨_,_,_,rfl,h48,?_,rfl,rfl,k3⟩
    try dsimp only at l48 u48
    exact⟨by dsimp only;omega,by dsimp only;omega,by dsimp only;omega,by dsimp only;omega,ht,by dsimp only;omega,by dsimp only;omega,fun e=>absurd (show 1+a0=4 from e) U,fun e=>absurd (show 1+a0=5 from e) U⟩
   .refine hJ _ ⟨_,_,_,rfl,h46,?_,rfl,rfl,k3⟩
    exact⟨by dsimp only;omega,by dsimp only;omega,by dsimp only;omega,by dsimp only;omega,ht,by dsimp only;omega,by dsimp only;omega,fun e=>absurd (show 1+a0=4 from e) U,fun e=>absurd (show 1+a0=5 from e) U⟩
 .refine Ok.opt (nx hL h5 U U) fun⟨a49,d50⟩ ⟨h50,l50,u50⟩=>?_
  try dsimp only at h50 l50 u50 |-
  rw[Qc (x:=1+a49) U]
  refine Ok.opt (Qwb hL h50) fun⟨a,d52⟩ ⟨h52,ha,e1,e2,e3⟩=>Ok.s ⟨h52,?_,rfl,rfl,fun e=>absurd (show 1+a0=1 from e) k1,fun _=>ha.pers.2⟩
  try dsimp only at ha e1 e2 e3
  exact⟨by dsimp only;omega,by dsimp only;omega,by dsimp only;omega,by dsimp only;omega,ht,by dsimp only;omega,by dsimp only;omega,fun _=>⟨ha.valid U U U,fun e=>(ha.arg3 e).2⟩,fun e=>absurd (show 1+a0=5 from e) U⟩
 .refine Ok.opt (nx hL h5 U U) fun⟨a53,d54⟩ ⟨h54,l54,u54⟩=>?_
  try dsimp only at h54 l54 u54 |-
  refine Ok.opt (Qmq hL h54) fun⟨x,d56⟩ ⟨h56,hx⟩=>Ok.s ⟨h56,?_,rfl,rfl,fun e=>absurd (show 1+a0=1 from e) k1,fun e=>absurd (show 1+a0=4 from e) U⟩
  try dsimp only at hx
  exact⟨by dsimp only;omega,by dsimp only;omega,by dsimp only;omega,by dsimp only;omega,ht,by dsimp only;omega,by dsimp only;omega,fun e=>absurd (show 1+a0=4 from e) k4,fun _ _=>hx⟩
 .omega
structure QDh (k:Nat) (l:D.G):Prop where
 inv:Qd 1000000 (2+k) l
 ids:Ids 3 l
 seen:l.g.length<=k
 now:l.E8<=864000+700*(k:Int)
def Qve(hc:Ze 2 c)(hb:QQ b):Qd 1000000 2 { E8:=0,E:=c,a:=b,F:=[],FB:=-1,Fence:=0,g:=[],Calls:=[] }:=
 ⟨U,by dsimp only;omega,U,hc,hb,Ob,List.Pairwise.nil,Ob,by dsimp only;omega,Ob,⟨Ob,List.nodup_nil,Ob⟩,Ob,Ob⟩
def QBR(hc:Ze n c)(hn:n<=48)(hb:QQ b):QmM 1000 c b=some ({ E8:=0,E:=c,a:=b,F:=[],FB:=-1,Fence:=0,g:=[],Calls:=[] },0):=by
 refine Ok.eq ?_
 unfold QmM
 exact Ok.oe (QqM hc hn hb) (Ok.NS (Ok.s rfl))
end
end
section
attribute [local irreducible] dueV stepV runV QE answerV
section
def seeV(l:D.G)(o:D.Op):D.G:={ l with E8:=max l.E8 o.At,g:=l.g++[o.S] }
def Qai(hs:l.g.contains o.S=false):Zk l o=opV (seeV l o) o:=by
 unfold Zk;rw[hs];rfl
def QuL(hs:l.g.contains o.S=false):(Zk l o).1.E8=max l.E8 o.At:=by
 rw[Qai hs,(Qk9).1];rfl
def Qxw:l.Fence<=(opV l o).1.Fence:=by
 have hr:∀(l:D.G) (i:Nat),l.Fence<=(runI l i).Fence:=fun l i=>by rw[YK.2.2.2.2.1];exact Ai _
 have hra:∀(l:D.G) (i:Nat),l.Fence<=(Zu l i).Fence:=fun l i=>by rw[Ya.2.2.2.2.1];exact Ai _
 unfold opV
 repeat' split
 all_goals first
  |exact Ai _
  |exact hr _ _
  |exact hra _ _
  |(rename_i g;show l.Fence<=o.Fence;omega)
  |(show l.Fence<=(runI _ _).Fence;exact hr _ _)
def QqF:l.Fence<=(Zk l o).1.Fence:=by
 unfold Zk
 split
 .exact Ai _
 .exact Qxw (l:=seeV l o)
def ansP(c:D.E)(b:D.a)(p:D.Page)(a:D.b)(now:Int):D.Page:=
 if (answerV b (runV c b p now).1 { a with At:=now }).2=0 then(answerV b (runV c b p now).1 { a with At:=now }).1 else(runV c b p now).1
def Qok(h:Qd M n l)(hk:o.Z=4):(opV l o).1.E=l.E/\(opV l o).1.a=l.a/\
  (opV l o).1.F=if hasV o.b.Page l.F=true then l.F.set (posV o.b.Page l.F) (ansP l.E l.a (O l.F (posV o.b.Page l.F)) o.b l.E8)else l.F:=by
 unfold opV
 rw[iA U,iA U,iA U,iB hk]
 split
 .rename_i g
  obtain⟨g1,g2⟩:=WB g
  have hpg:=Qd4 h g1 (j:=posV o.b.Page l.F)
  rw[iB rfl]at hpg
  have hpages:(runI l (posV o.b.Page l.F)).F=l.F.set (posV o.b.Page l.F) (runV l.E l.a (O l.F (posV o.b.Page l.F)) l.E8).1:=by
   rw[h.runEq g1];rfl
  split
  .rename_i g3
   rw[hpg]at g3
   refine⟨YK.2.1,YK.2.2.1,?_⟩
   show List.set _ _ _=_
   rw[hpages,List.set_set,<-hpages,hpg]
   unfold ansP
   rw[iB g3]
  .rename_i g3
   rw[hpg]at g3
   refine⟨YK.2.1,YK.2.2.1,?_⟩
   show(runI l _).F=_
   rw[hpages]
   unfold ansP
   rw[iA g3]
 .exact⟨rfl,rfl,rfl⟩
end
end
section
open Go AM
attribute [local irreducible] dueV stepV runV QE answerV
section
def QBN:∀i,i<2->QbZ 1000 (O Qit i)=some true:=forall2 (by kernel_rfl) (by kernel_rfl)
def QBM:∀i,i<3->QbZ 1000 (O Qno i)=some true:=forall3 (by kernel_rfl) (by kernel_rfl) (by kernel_rfl)
def QwV(hb:QQ b)(hi:i<b.t.length):ZD 1000 (i:Int) b=some false:=by
 have htl:=hb.tlen
 have hone:∀j,j<b.t.length->VK 1000 (j:Int) b=some (O Qit j):=fun j hj=>by
  refine Ok.eq ?_
  unfold VK
  exact Ok.atn hj (Ok.TF (Ok.s (hb.tnm hj)))
 refine Ok.eq ?_
 unfold ZD
 refine Ok.run2 i (fun k=>((i:Int),(i:Int),(k:Int),())) rfl U (fun k hk K hK=>?_) (fun K=>by dsimp only;exact Ok.N (Ok.TF (Ok.s rfl)))
 try dsimp only
 refine Ok.P (Ok.oe (hone k U) (Ok.oe (hone i hi) (Ok.n (QqL i U k hk) ?_)))
 try dsimp only
 rw[Qa U];exact hK
def QwU(hb:QQ b)(hi:i<b.j.length):ZE 1000 (i:Int) b=some false:=by
 have htl:=hb.plen
 have hone:∀j,j<b.j.length->VL 1000 (j:Int) b=some (O Qno j):=fun j hj=>by
  refine Ok.eq ?_
  unfold VL
  exact Ok.atn hj (Ok.TF (Ok.s (hb.pnm hj)))
 refine Ok.eq ?_
 unfold ZE
 refine Ok.run2 i (fun k=>((i:Int),(i:Int),(k:Int),())) rfl U (fun k hk K hK=>?_) (fun K=>by dsimp only;exact Ok.N (Ok.TF (Ok.s rfl)))
 try dsimp only
 refine Ok.P (Ok.oe (hone k U) (Ok.oe (hone i hi) (Ok.n (QtO i U k hk) ?_)))
 try dsimp only
 rw[Qa U];exact hK
def QCd(h:Ze n c)(ht:QqA t):QgS 1000 c t.r=some 0:=by
 have hpl:=h.plen;have hml:=ht.len
 refine Ok.eq ?_
 unfold QgS
 refine Ok.N (Ok.run2 (t.r.length - 1) (fun k=>(t.r,((k+1:Nat):Int),())) rfl U (fun k hk K hK=>?_) (fun K=>?_))
 .try dsimp only
  have:=QjD ht.asc (show k<k+1 by omega) (show k+1<t.r.length by omega)
  refine Ok.P (Ok.A ?_)
  rw[show X (((k+1:Nat):Int) - 1)=(k:Int)by rw[Qc U];omega]
  refine Ok.A (Ok.N ?_)
  try dsimp only
  rw[Qa U];exact hK
 .try dsimp only
  rw[hpl]
  have h1:=ht.mem _ (Qf (l:=t.r) (i:=0) U)
  have h2:=ht.mem _ (Qf (l:=t.r) (i:=t.r.length - 1) U)
  refine Ok.N (Ok.j (Ok.at U U ?_))
  rw[show X (((4:Nat):Int) - 1)=3 from rfl,show X ((t.r.length:Int) - 1)=((t.r.length - 1:Nat):Int)by rw[Qc U];omega]
  refine Ok.oe pIn (Ok.p ⟨h1.1,by have:=h1.2;show O t.r (0:Int).toNat<=3;simp only[Int.toNat_zero];omega⟩ (Ok.A (Ok.oe pIn (Ok.P (Ok.s rfl)))))
def Qz1(h:Ze n c)(hb:QQ b)(hs:StepOK' b.t.length s):Qey 1000 c b s=some 0:=by
 have hpl:=h.plen;have hsl:=h.slen;have htl:=hb.tlen;have hw:=hs.wait;have htn:=hs.len
 have hsz:W9 1000 c b=some ⟨4,2,(b.t.length:Int)⟩:=by unfold W9;rw[hpl,hsl];rfl
 refine Ok.eq ?_
 unfold Qey
 refine Ok.oe pIn (Ok.np U (Ok.N (Ok.oe hsz ?_)))
 try dsimp only
 refine Ok.run2 s.Fh.length (fun i=>(s.Fh,(s.Fh.length:Int),(i:Int),())) rfl U (fun i hi K hK=>?_) (fun K=>by dsimp only;exact Ok.N (Ok.s rfl))
 try dsimp only
 have hx:=hs.target _ (Qf hi)
 have h1:=hx.lo;have h2:=hx.person;have h3:=hx.sched;have h4:=hx.team
 refine Ok.P (Ok.j (Ok.atn hi (Ok.oe pIn (Ok.p (by have:=hx.kind;omega) ?_))))
 have next:Ok (K ((s.Fh,(s.Fh.length:Int),X ((i:Int)+1),()),(4,2,(b.t.length:Int),()),())) (·=0):=by rw[Qa U];exact hK
 rcases hx.kind with hk|hk|hk
 .have:=h2 hk
  refine Ok.P (Ok.oe pIn (Ok.p ⟨h1,by rw[Qc U];omega⟩ next))
 .have:=h3 hk
  refine Ok.N (Ok.P (Ok.oe pIn (Ok.p ⟨h1,by rw[Qc U];omega⟩ next)))
 .have:=h4 hk
  refine Ok.N (Ok.N (Ok.P (Ok.oe pIn (Ok.p ⟨h1,by rw[Qc U];omega⟩ next))))
def QyY(h:Ze n c)(hn:n<=48)(hb:QQ b):Qc0 1000 c b=some 0:=by
 have htl:=hb.tlen;have hpl:=hb.plen
 refine Ok.eq ?_
 unfold Qc0
 refine Ok.oe (QkZ h hn) (Ok.NS (Ok.j (Ok.N (Ok.N ?_))))
 refine Ok.run b.t.length (fun i=>((b.t,(b.t.length:Int),(i:Int),()),c,b,())) rfl U (fun i hi K hK=>?_) (fun K=>?_)
 .try dsimp only
  have ht:=hb.team _ (Qf hi)
  refine Ok.P (Ok.atn hi (Ok.oe (by rw[hb.tnm hi];exact QBN i U) (Ok.nt rfl (Ok.oe (QwV hb hi) (Ok.f (Ok.oe (QCd h ht) (Ok.NS ?_)))))))
  try dsimp only
  rw[Qa U];exact hK
 .try dsimp only
  refine Ok.N (Ok.run b.j.length (fun i=>(((b.j.length:Int),(i:Int),()),c,b,())) rfl U (fun i hi K hK=>?_) (fun K=>by dsimp only;exact Ok.N (Ok.s rfl)))
  try dsimp only
  have ht:=hb.pol _ (Qf hi)
  have hml:=ht.len;have hrp:=ht.rep
  refine Ok.P (Ok.oe (v:=0) ?_ (Ok.NS ?_))
  .refine Ok.eq ?_
   unfold Qf0
   refine Ok.atn hi (Ok.oe (by rw[hb.pnm hi];exact QBM i U) (Ok.nt rfl (Ok.oe (QwU hb hi) (Ok.f (Ok.N (Ok.N (Ok.oe pIn (Ok.np U ?_))))))))
   refine Ok.run (O b.j i).Steps.length (fun k=>(((O b.j i).Steps,(((O b.j i).Steps.length:Nat):Int),(k:Int),()),c,b,())) rfl U (fun k hk K2 hK2=>?_) (fun K2=>by dsimp only;exact Ok.N (Ok.s rfl))
   try dsimp only
   refine Ok.P (Ok.atn hk (Ok.oe (Qz1 h hb (ht.step _ (Qf hk))) (Ok.NS ?_)))
   try dsimp only
   rw[Qa U];exact hK2
  .try dsimp only
   rw[Qa U];exact hK
def oin:Wc fu x lo hi=some (inV x lo hi):=by
 unfold Wc inV
 by_cases h1:lo<=x<;>by_cases h2:x<=hi<;>simp[cd,AM.J,h1,h2]
def QzV(h:QnW L 256):QgN 1000 L=some true:=by
 have hl:=h.len
 refine Ok.eq ?_
 unfold QgN
 refine Ok.run L.length (fun i=>((L,L,((L.length:Nat):Int),(i:Int),()),())) rfl U (fun i hi k hk=>?_) (fun k=>by dsimp only;exact Ok.N (Ok.s (decide_eq_true U)))
 try dsimp only
 have hx:=h.fit _ (Qf hi)
 have hno:(L.take i).contains (O L i)=false:=by
  cases hc:(L.take i).contains (O L i)with
  |false=>rfl
  |true=>
   have:=Qlj hi hc
   rw[Ax h.nodup]at this;simp at this
 refine Ok.P (Ok.j (Ok.atn hi (Ok.oe oin (Ok.bt (Qt.2 hx) (Ok.natn (Ok.L (Ok.oe (Qej (by simp;omega)) (Ok.bf hno ?_))))))))
 try dsimp only
 rw[Qa U];exact hk
structure DelC (p0:Y D.Call) (q:D.Call->AH) (w j:Nat) (a:Y D.Call):Prop where
 len:a.length=p0.length
 wj:w<=j/\j<=p0.length
 done:a.take w=(p0.take j).filter q
 rest:∀k,j<=k->O a k=O p0 k
def Ql4{L:Y D.Call}{q:D.Call->AH}{i:Nat}(hi:i<=L.length)(h:∀j,j<i->q (O L j)=true):(L.take i).filter q=L.take i:=by
 refine Ea.2 fun x hx=>?_
 obtain⟨k,hk,rfl⟩:=Bb hx
 rw[Af]at hk
 have:=h k U
 simpa [O,AQ,AU (show k<L.length by omega)]using this
def Quo{L:Y D.Call}{j k:Nat}{x:D.Call}(hj:j<L.length):O (L.set j x) k=if k=j then x else O L k:=by
 by_cases e:k=j
 .subst e;rw[iB rfl,Q0 hj]
 .rw[iA e,Yl e]
def Qu0(hi:i<p0.length)(h:∀j,j<i->q (O p0 j)=true)(hx:q (O p0 i)=false):DelC p0 q i (i+1) p0:=by
 refine⟨rfl,U,?_,fun k _=>rfl⟩
 rw[<-Qn hi,B4,Ql4 U h]
 simp[hx]
def QwS(h:DelC p0 q w j a)(hj:j<p0.length)(hx:q (O a j)=true):DelC p0 q (w+1) (j+1) (a.set w (O a j)):=by
 have h1:=h.wj
 have h2:=h.len
 refine⟨by simp[h.len],U,?_,fun k hk=>?_⟩
 .rw[h.rest j (AN _)]at hx |-
  rw[<-Qn hj,B4,<-h.done,<-Qn (l:=a.set w (O p0 j)) (by simp;omega),Quo U,iB rfl,E0 U]
  simp[hx]
 .rw[Quo U,iA U];exact h.rest k U
def QwT(h:DelC p0 q w j a)(hj:j<p0.length)(hx:q (O a j)=false):DelC p0 q w (j+1) a:=by
 have h1:=h.wj
 refine⟨h.len,U,?_,fun k hk=>h.rest k U⟩
 rw[h.rest j (AN _)]at hx
 rw[<-Qn hj,B4,<-h.done]
 simp[hx]
def QxD:UH 1000 x p=some (decide (x.Page≠p.S)):=by
 unfold UH
 rw[Vh]
def QBV(hl:L.length<=900):Ok (QX 1000 L p) fun r=>List.drop r.1 (List.take r.2.1 r.2.2)=ownC p.S L:=by
 have hown:∀{x:D.Call},decide (x.Page≠p.S)=!(decide (x.Page=p.S)):=fun{x}=>by by_cases e:x.Page=p.S<;>simp[e]
 unfold QX
 have hidx:Ok (Q1 1000 L p) fun r=>(r = -1/\(∀j,j<L.length->decide ((O L j).Page=p.S)=true))\/∃i:Nat,r=(i:Int)/\i<L.length/\decide ((O L i).Page=p.S)=false/\∀j,j<i->decide ((O L j).Page=p.S)=true:=by
  unfold Q1
  refine Ok.scan2 L.length (fun i=>(((L.length:Nat):Int),(i:Int),())) (fun i=>!decide ((O L i).Page=p.S)) rfl U (fun i hi hq hj k=>?_) (fun i hi hq k hk=>?_) (fun hq k=>?_)
  .refine Ok.P (Ok.natn (Ok.lt hi (Ok.get hi (Ok.oe QxD ?_))))
   rw[hown]
   exact Ok.bt hq (Ok.TF (Ok.TF (Ok.s (.inr ⟨i,rfl,hi,by simpa using hq,fun j hj'=>by simpa using hj j hj'⟩))))
  .refine Ok.P (Ok.natn (Ok.lt hi (Ok.get hi (Ok.oe QxD ?_))))
   rw[hown]
   refine Ok.bf hq ?_
   try dsimp only
   rw[Qa U];exact hk
  .exact Ok.N (Ok.TF (Ok.TF (Ok.s (.inl ⟨rfl,fun j hj=>by simpa using hq j hj⟩))))
 refine Ok.opt hidx fun r hr=>?_
 rcases hr with⟨rfl,hall⟩|⟨i,rfl,hi,hx,hj⟩
 .refine Ok.p rfl (Ok.TF (Ok.s ?_))
  try dsimp only
  have:=Ql4 (q:=fun z=>decide (z.Page=p.S)) (AN _) hall
  rw[Ad]at this |-
  rw[Cc]
  exact this.symm
 .refine Ok.N ?_
  try dsimp only
  rw[Qa U]
  refine Ok.loop (fun q x=>∃(w j:Nat) (a:Y D.Call),x=(((w:Int),(j:Int),()),p,a,())/\DelC L (fun z=>decide (z.Page=p.S)) w j a/\q=L.length - j) (m:=L.length - (i+1)) U ⟨i,i+1,L,rfl,Qu0 hi hj hx,rfl⟩ ?_
  rintro q x ⟨w,j,a,rfl,hinv,rfl⟩ K hK
  have h1:=hinv.wj
  have h2:=hinv.len
  try dsimp only
  refine Ok.ite (fun hlt=>?_) (fun hge=>?_)
  .refine Ok.j (Ok.natn (Ok.E (Ok.G (Ok.oe QxD ?_))))
   rw[hown,Eb]
   refine Ok.J (fun hq=>?_) (fun hq=>?_)
   .refine Ok.natn (Ok.E (Ok.G ?_))
    try dsimp only
    rw[Qa U,Qa U]
    exact hK _ _ U ⟨w+1,j+1,_,rfl,QwS hinv U hq,rfl⟩
   .try dsimp only
    rw[Qa U]
    exact hK _ _ U ⟨w,j+1,a,rfl,QwT hinv U hq,rfl⟩
  .have ej:j=L.length:=U
   have hd:=hinv.done
   rw[ej,Ad]at hd
   refine Ok.natn (Ok.L (Ok.L (Ok.L (Ok.natn (Ok.LS (Ok.TF (Ok.s ?_)))))))
   try dsimp only
   rw[Cc,Aw,Cb (by simp;omega),CJ,C9]
   exact hd
def Qoj[AK α]{A B:Y α}:O (A++B) (A.length+z)=O B z:=by
 simp[O,AQ,BP]
def QwE(hpl:QA p)(hC:zH.length<=900)(h1:zH.map unf=QN p.S 0 p.P)(h2:zH.Pairwise fun x y=>x.Fence<=y.Fence)(h3:∀c∈zH,0<=c.Fence/\c.Fence<=f):Qet 1000 p zH f=some true:=by
 have hst:=hpl.st
 have hlen:zH.length=(QN p.S 0 p.P).length:=by rw[<-h1,AZ]
 have hnth:∀k,k<zH.length->unf (O zH k)=O (QN p.S 0 p.P) k:=fun k hk=>by
  rw[<-h1]
  simp[O,AQ,AU hk]
 obtain⟨lf,hlf⟩:∃lf:Nat->Int,∀k,lf k=if k=0 then 0 else(O zH (k - 1)).Fence:=⟨fun k=>_,fun k=>rfl⟩
 have hlow:∀k,k<zH.length->lf k<=(O zH k).Fence/\(O zH k).Fence<=f:=fun k hk=>by
  have hf:=h3 _ (Qf hk)
  refine⟨?_,hf.2⟩
  rw[hlf]
  split
  .exact hf.1
  .have:=Ca.1 h2 (k - 1) k U hk U
   simpa [O,AQ,AU hk,AU (show k - 1<zH.length by omega)]using this
 refine Ok.eq ?_
 unfold Qet
 refine Ok.run p.P.length (fun j=>((zH,f,(((QN p.S 0 (p.P.take j)).length:Nat):Int),lf (QN p.S 0 (p.P.take j)).length,p.P,(p.P.length:Int),(j:Int),()),p,())) (by rw[hlf];rfl) U (fun j hj k hk=>?_) (fun k=>?_)
 .try dsimp only
  refine Ok.P (Ok.atn hj ?_)
  have hts:p.P.take (j+1)=p.P.take j++[O p.P j]:=(Qn hj).symm
  have hsp:p.P=p.P.take j++(O p.P j::p.P.drop (j+1)):=by rw[<-QfF hj,Bp]
  have hpe:=(hpl.pe _ (Qf hj)).1
  obtain⟨s,hs⟩:∃s,O p.P j=s:=⟨_,rfl⟩
  rw[hs]at hts hsp hpe |-
  obtain⟨base,hbase⟩:∃base,(QN p.S 0 (p.P.take j)).length=base:=⟨_,rfl⟩
  have hall:QN p.S 0 p.P=QN p.S 0 (p.P.take j)++(s.k.map (fun x=>D.Call.mk p.S s.K s.At x 0)++QN p.S 0 (p.P.drop (j+1))):=by
   conv=>lhs;rw[hsp]
   rw[Qdh]
   rfl
  have hbl:base+s.k.length<=zH.length:=by rw[hlen,hall,<-hbase];simp
  have hat:∀z,z<s.k.length->O (QN p.S 0 p.P) (base+z)=D.Call.mk p.S s.K s.At (O s.k z) 0:=fun z hz=>by
   rw[hall,<-hbase,Qoj,QfT (by simpa using hz)]
   simp[O,AQ,hz]
  try dsimp only at hk
  rw[hts,Qfx,Ac,AZ,hbase]at hk
  rw[hbase]
  refine Ok.run s.k.length (fun z=>((zH,f,((base+z:Nat):Int),lf (base+z),p.P,(p.P.length:Int),(j:Int),s.k,(s.k.length:Int),(z:Int),()),p,s,())) rfl U (fun z hz k2 hk2=>?_) (fun k2=>?_)
  .try dsimp only
   have hlt:base+z<zH.length:=U
   have hlw:=hlow _ hlt
   have hun:=hnth _ hlt
   rw[hat z hz]at hun
   refine Ok.P (Ok.atn hz (Ok.j (Ok.N (Ok.atn hlt (Ok.oe oin (Ok.bt (Qt.2 hlw) (Ok.atn hlt (Ok.atn hlt (Ok.n ?_ ?_)))))))))
   .obtain⟨cc,hcc⟩:∃cc,O zH (base+z)=cc:=⟨_,rfl⟩
    rw[hcc]at hun |-
    obtain⟨c1,c2,c3,c4,c5⟩:=cc
    simp only[unf,D.Call.mk.injEq]at hun
    grind
   .try dsimp only
    refine Ok.atn hlt ?_
    try dsimp only
    rw[Qa U,Qa U]
    grind
  .try dsimp only
   refine Ok.N ?_
   try dsimp only
   rw[Qa U]
   exact hk
 .try dsimp only
  rw[Ad]
  exact Ok.N (Ok.s (Ax (by rw[hlen])))
def QqU(h:L.length<=1000):X0 1000 L=some L:=by unfold X0;exact Yi U
def Qpp(h:LW M n l)(hpg:l.F.length<=9):XH 1000 l=some true:=by
 have htop:=h.top;have hnow:=h.now;have how:=h.owner;have hfe:=h.fence;have hse:=h.seen.len;have hcl:=h.callsLe hpg
 refine Ok.eq ?_
 unfold XH
 refine Ok.j (Ok.oe oin (Ok.bt (Qt.2 U) (Ok.N (Ok.oe oin (Ok.bt (Qt.2 how) (Ok.oe oin (Ok.bt (Qt.2 U) (Ok.oe (QzV h.seen) (Ok.t ?_)))))))))
 try dsimp only
 refine Ok.oe (QyY h.cfg h.small h.book) (Ok.p rfl (Ok.oe (v:=true) ?_ (Ok.t (Ok.s rfl))))
 refine Ok.eq ?_
 unfold Qh0
 have hsle:∀i,sumC (l.F.take i) (fun p=>(ownC p.S l.Calls).length)<=468*i:=fun i=>by
  have:=QtF (l:=l.F.take i) (f:=fun p=>(ownC p.S l.Calls).length) (m:=468) fun p hp=>by
   show(ownC p.S l.Calls).length<=468
   unfold ownC
   grind
  grind
 refine Ok.run l.F.length (fun i=>((((sumC (l.F.take i) (fun p=>(ownC p.S l.Calls).length):Nat):Int),l.F,(l.F.length:Int),(i:Int),()),l,())) rfl U (fun i hi k hk=>?_) (fun k=>?_)
 .try dsimp only
  have hm:=Qf hi
  obtain⟨g1,g2⟩:=h.page _ hm
  have gt:=h.told _ hm
  have hs1:=hsle i
  refine Ok.P (Ok.atn hi ?_)
  have hasc:0<i->(O l.F (i - 1)).S<(O l.F i).S:=fun h0=>Qei h.asc U hi
  try dsimp only at hk
  rw[<-Qn hi,Qsk]at hk
  obtain⟨p,hp⟩:∃p,O l.F i=p:=⟨_,rfl⟩
  rw[hp]at g1 g2 gt hk hasc |-
  have hpl:=g1.plen h.book
  have hol:(ownC p.S l.Calls).length<=468:=by unfold ownC;exact Nat.le_trans (List.length_filter_le _ _) hcl
  refine Ok.TG (fun y=>y=((((sumC (l.F.take i) (fun p=>(ownC p.S l.Calls).length):Nat):Int),l.F,(l.F.length:Int),(i:Int),()),l,p,())) (fun y hy=>?_) (fun zG hJ=>?_)
  .subst hy
   try dsimp only
   refine Ok.oe (QqU U) (Ok.opt (QBV (p:=p) U) fun⟨r0,r1,r2⟩ hr=>?_)
   try dsimp only at hr |-
   rw[hr]
   refine Ok.oe (QwE hpl U gt.same gt.up gt.fit) (Ok.f ?_)
   try dsimp only
   rw[Qa U,Qc U]
   exact hk
  .have tail:Ok (V (Yr 1000 l.a p) fun a13=>AM.J a13 (AM.J (decide (l.E8<p.FQ)) (some false) (zG ((((sumC (l.F.take i) (fun p=>(ownC p.S l.Calls).length):Nat):Int),l.F,(l.F.length:Int),(i:Int),()),l,p,()))) (some false)) (·=true):=
    Ok.oe (QkY h.book hpl) (Ok.bt (g1.check h.book) (Ok.N (hJ _ rfl)))
   by_cases h0:0<i
   .refine Ok.P ?_
    rw[show X ((i:Int) - 1)=((i - 1:Nat):Int)by rw[Qc U];omega]
    have:=hasc h0
    exact Ok.A (Ok.N tail)
   .exact Ok.N tail
 .try dsimp only
  rw[Ad,h.callsN]
  exact Ok.N (Ok.s (Ax rfl))
end
end
section
attribute [local irreducible] dueV stepV runV QE answerV
section
def QpI{id:Int}:∀{L K:Y D.Page},L.map D.Page.S=K.map D.Page.S->posV id L=posV id K
 |[],[],_=>rfl
 |[],_::_,h=>by simp at h
 |_::_,[],h=>by simp at h
 |y::r,z::s,h=>by
  simp only[AR,Cs]at h
  simp only[posV,h.1,QpI h.2]
def QAs{L K:Y D.Page}(hl:L.length=K.length)(h:∀i,i<L.length->(O L i).S=(O K i).S):L.map D.Page.S=K.map D.Page.S:=by
 refine EB (by simpa using hl) fun i h1 h2=>?_
 simp only[AZ]at h1 h2
 have:=h i h1
 simpa [O,AQ,AU h1,AU h2]using this
def Qzf{id:Int}(hl:L.length=K.length)(h:∀i,i<L.length->(O L i).S=(O K i).S):hasV id L=hasV id K:=by
 have e:=QpI (id:=id) (QAs hl h)
 unfold hasV
 grind
def Quq:O (insP L p) j=if j<posV p.S L then O L j else if j=posV p.S L then p else O L (j - 1):=by
 have hp:=Qcp (id:=p.S) (l:=L)
 have htl:(L.take (posV p.S L)).length=posV p.S L:=by simp;omega
 unfold insP
 split
 .rename_i g
  rw[QfT U,QbK g]
 .rename_i g
  obtain⟨k,rfl⟩:∃k,j=(L.take (posV p.S L)).length+k:=⟨j - posV p.S L,U⟩
  rw[Qoj,htl]
  cases k with
  |zero=>rw[iB U,Qes]
  |succ k=>
   rw[iA U,QbJ,Qup]
   congr 1
structure Alike (M:Int) (n:Nat) (l x:D.G):Prop where
 li:Qd M n l
 xi:Qd M n x
 cfg:x.E=l.E
 book:x.a=l.a
 now:x.E8<=l.E8
 len:x.F.length=l.F.length
 page:∀i,i<l.F.length->(O x.F i).S=(O l.F i).S/\(runV l.E l.a (O x.F i) l.E8).1=(runV l.E l.a (O l.F i) l.E8).1
def Alike.has(h:Alike M n l x){id:Int}:hasV id x.F=hasV id l.F/\posV id x.F=posV id l.F:=by
 have e:∀i,i<x.F.length->(O x.F i).S=(O l.F i).S:=fun i hi=>(h.page i (by rw[<-h.len];exact hi)).1
 exact⟨Qzf h.len e,QpI (QAs h.len e)⟩
def Alike.wide(h:Alike M n l x)(hn:n<48):Alike M (n+1) l x:=⟨h.li.wide hn,h.xi.wide hn,h.cfg,h.book,h.now,h.len,h.page⟩
def Qus(hk:o.Z=5):(opV l o).1.F=(Zu l l.F.length).F/\(opV l o).1.a=l.a/\(opV l o).1.E=(if 0<=o.e/\o.e<2 then QlY l.E o.e o.s else l.E):=by
 unfold opV
 rw[iA U,iA U,iA U,iA U]
 split
 .exact⟨rfl,Ya.2.2.1,rfl⟩
 .exact⟨rfl,Ya.2.2.1,Ya.2.1⟩
def Alike.runL(h:Alike M n l x)(hi:i<l.F.length):Alike M n (runI l i) x:=by
 obtain⟨k1,k2,k3,k4,k5,k6,k7⟩:=YK (l:=l) (i:=i)
 refine⟨h.li.run hi,h.xi,by rw[k2];exact h.cfg,by rw[k3];exact h.book,by rw[k1];exact h.now,by rw[k7];exact h.len,fun j hj=>?_⟩
 rw[k7]at hj
 rw[k1,k2,k3]
 by_cases e:j=i
 .subst e
  refine⟨by rw[Qty h.li hi];exact(h.page j hj).1,?_⟩
  rw[Qd4 h.li hi,iB rfl,QoC (c:=l.E) h.li.book QT.step (Ai _) (h.li.at hi).1]
  exact(h.page j hj).2
 .rw[Qd4 h.li hi,iA e]
  exact h.page j hj
def Alike.runR(h:Alike M n l x)(hi:i<l.F.length)(hnow:x.E8=l.E8):Alike M n l (runI x i):=by
 obtain⟨k1,k2,k3,k4,k5,k6,k7⟩:=YK (l:=x) (i:=i)
 have hx:i<x.F.length:=by rw[h.len];exact hi
 refine⟨h.li,h.xi.run hx,by rw[k2];exact h.cfg,by rw[k3];exact h.book,by rw[k1];exact h.now,by rw[k7];exact h.len,fun j hj=>?_⟩
 by_cases e:j=i
 .subst e
  refine⟨by rw[Qty h.xi hx];exact(h.page j hj).1,?_⟩
  have hq:QL QT M l.a (O x.F j):=by
   have:=(h.xi.at hx).1
   rw[h.book]at this;exact this
  rw[Qd4 h.xi hx,iB rfl,h.cfg,h.book,hnow,QoC (c:=l.E) h.li.book QT.step (Ai _) hq]
  exact(h.page j hj).2
 .rw[Qd4 h.xi hx,iA e]
  exact h.page j hj
def QiL:(insP L p).length=L.length+1:=by
 have:=Qcp (id:=p.S) (l:=L)
 unfold insP;rw[List.length_append,List.length_cons,List.length_take,List.length_drop];omega
def Alike.open(h:Alike M n l x)(hn:n<48)(ho:OpIn o)(hk:o.Z=1)(hnow:x.E8=l.E8):Alike M (n+1) (opV l o).1 (opV x o).1:=by
 have hw:=h.wide hn
 obtain⟨e1,e2⟩:=h.has (id:=o.Page)
 have same:∀e:Int,opV l o=(l,e)->opV x o=(x,e)->Alike M (n+1) (opV l o).1 (opV x o).1:=fun e g1 g2=>by rw[g1,g2];exact hw
 by_cases g1:hasV o.Page l.F=true
 .exact same 4 (by unfold opV;rw[iB hk,iB g1]) (by unfold opV;rw[iB hk,e1,iB g1])
 by_cases g2:l.F.length=64
 .exact same 5 (by unfold opV;rw[iB hk,iA g1,iB g2]) (by unfold opV;rw[iB hk,e1,iA g1,h.len,iB g2])
 by_cases g3:o.Page<1
 .exact same 1 (by unfold opV;rw[iB hk,iA g1,iA g2,iB g3]) (by unfold opV;rw[iB hk,e1,iA g1,h.len,iA g2,iB g3])
 by_cases g4:0<=o.W/\o.W<(l.a.j.length:Int)
 case neg=>exact same 3 (by unfold opV;rw[iB hk,iA g1,iA g2,iA g3,iA g4]) (by unfold opV;rw[iB hk,e1,iA g1,h.len,iA g2,iA g3,h.book,iA g4])
 have f1:opV l o=(runI { l with F:=insP l.F (newP o.Page o.W l.E8) } (posV o.Page l.F),0):=by unfold opV;rw[iB hk,iA g1,iA g2,iA g3,iB g4]
 have f2:opV x o=(runI { x with F:=insP x.F (newP o.Page o.W l.E8) } (posV o.Page l.F),0):=by unfold opV;rw[iB hk,e1,iA g1,h.len,iA g2,iA g3,h.book,iB g4,e2,hnow]
 have hlen:=h.li.len
 obtain⟨i1,i2,i3⟩:=h.li.open (o:=o) (by simpa using g1) ⟨U,ho.page.2⟩ g4 U
 have hx4:0<=o.W/\o.W<(x.a.j.length:Int):=by rw[h.book];exact g4
 obtain⟨j1,j2,j3⟩:=h.xi.open (o:=o) (by rw[e1];simpa using g1) ⟨U,ho.page.2⟩ hx4 (by rw[h.len];omega)
 have eP:newP o.Page o.W x.E8=newP o.Page o.W l.E8:=by rw[hnow]
 rw[eP]at j1
 have hP:(newP o.Page o.W l.E8).S=o.Page:=rfl
 have hA:Alike M n { l with F:=insP l.F (newP o.Page o.W l.E8) } { x with F:=insP x.F (newP o.Page o.W l.E8) }:=by
  refine⟨i1,j1,h.cfg,h.book,h.now,by show(insP _ _).length=(insP _ _).length;rw[QiL,QiL,h.len],fun i hi=>?_⟩
  replace hi:i<l.F.length+1:=by have:i<(insP l.F (newP o.Page o.W l.E8)).length:=hi;rw[QiL]at this;exact this
  show(O (insP x.F _) i).S=(O (insP l.F _) i).S/\(runV l.E l.a (O (insP x.F _) i) l.E8).1=(runV l.E l.a (O (insP l.F _) i) l.E8).1
  have hpos:=Qcp (id:=o.Page) (l:=l.F)
  rw[Quq,Quq,hP,e2]
  by_cases q1:i<posV o.Page l.F
  .rw[iB q1,iB q1];exact h.page i U
  .rw[iA q1,iA q1]
   by_cases q2:i=posV o.Page l.F
   .simp_all
   .rw[iA q2,iA q2];exact h.page (i - 1) U
 have hB:=hA.runR (i:=posV o.Page l.F) i2 hnow
 have hC:=hB.runL (i:=posV o.Page l.F) i2
 rw[f1,f2]
 exact hC.wide hn
end
end
section
open Go AM
attribute [local irreducible] dueV stepV runV QE answerV
section
def QiS(p:D.Page):Int:=if p.p=2 then -1 else p.E9
def QoA(h:Qd M n l)(hi:i<l.F.length):(runI l i).F=l.F.set i (runV l.E l.a (O l.F i) l.E8).1/\Y1 (O (runI l i).F i) l.E8=false:=by
 have e:(runI l i).F=l.F.set i (runV l.E l.a (O l.F i) l.E8).1:=by rw[h.runEq hi];rfl
 refine⟨e,?_⟩
 rw[e,Q0 hi]
 exact(QeP h.book QT.step (h.at hi).1).2.2
def Qbm(l:D.G)(now:Int):Y Nat:=(List.range l.F.length).filter fun i=>Y1 (O l.F i) now
def Qsp:j∈Qbm l now↔j<l.F.length/\Y1 (O l.F j) now=true:=by
 unfold Qbm;rw[List.mem_filter,List.mem_range]
structure Driven (M:Int) (n:Nat) (l:D.G) (now:Int) (k:Nat) (x:D.G):Prop where
 inv:Qd M n x
 time:x.E8<=now/\(0<k->x.E8=now)
 len:x.F.length=l.F.length
 cfg:x.E=l.E/\x.a=l.a/\x.FB=l.FB/\x.Fence=l.Fence
 page:∀j,j<l.F.length->O x.F j=if j∈(Qbm l now).take k then(runV l.E l.a (O l.F j) now).1 else O l.F j
def Driven.done(h:Driven M n l now (Qbm l now).length x)(hl:Qd M n l)(hj:j<x.F.length):Y1 (O x.F j) now=false:=by
 rw[h.len]at hj
 rw[h.page j hj,Ad]
 split
 .exact(QeP hl.book QT.step (hl.at hj).1).2.2
 .rename_i g
  cases hw:Y1 (O l.F j) now with
  |false=>rfl
  |true=>exact absurd (Qsp.2 ⟨hj,hw⟩) g
def Qzk(h:q.S=p.S):(insP L p).set (posV p.S L) q=insP L q:=by
 have hle:=Qcp (id:=p.S) (l:=L)
 unfold insP
 rw[h,E4 _ _ (by simp;omega)]
 rw[show posV p.S L - (L.take (posV p.S L)).length=0 by simp;omega,EK]
def QCX(c:D.E)(b:D.a)(o:D.Op)(now:Int):D.Page:=(runV c b (newP o.Page o.W now) now).1
def QzG(h:Qd M n l)(ho:OpIn o)(hk:o.Z=1)(h1:1<=o.Page)(hl:l.F.length<64):(opV l o).1.E=l.E/\(opV l o).1.a=l.a/\
  (opV l o).1.F=if hasV o.Page l.F=false/\(0<=o.W/\o.W<(l.a.j.length:Int))then insP l.F (QCX l.E l.a o l.E8)else l.F:=by
 have h2:=ho.page
 by_cases g1:hasV o.Page l.F=true
 .have e:opV l o=(l,4):=by unfold opV;rw[iB hk,iB g1]
  rw[e,iA (by rw[g1];simp)];exact⟨rfl,rfl,rfl⟩
 .have g1':hasV o.Page l.F=false:=by simpa using g1
  by_cases g4:0<=o.W/\o.W<(l.a.j.length:Int)
  .have e:opV l o=(runI { l with F:=insP l.F (newP o.Page o.W l.E8) } (posV o.Page l.F),0):=by
    unfold opV;rw[iB hk,iA g1,iA U,iA U,iB g4]
   obtain⟨i1,i2,i3⟩:=h.open (o:=o) g1' ⟨h1,h2.2⟩ g4 hl
   obtain⟨k1,k2,k3,_⟩:=YK (l:={ l with F:=insP l.F (newP o.Page o.W l.E8) }) (i:=posV o.Page l.F)
   have hp:=(QoA i1 (i:=posV o.Page l.F) i2).1
   rw[e,iB ⟨g1',g4⟩]
   refine⟨k2,k3,?_⟩
   rw[hp]
   show(insP l.F (newP o.Page o.W l.E8)).set (posV o.Page l.F) (runV l.E l.a (O (insP l.F (newP o.Page o.W l.E8)) (posV o.Page l.F)) l.E8).1=_
   rw[i3]
   have hid:(QCX l.E l.a o l.E8).S=(newP o.Page o.W l.E8).S:=(Qa6 h.book QT.step (Qxt h.top h.book ⟨h1,h2.2⟩ g4 h.now)).id
   exact Qzk hid
  .have e:opV l o=(l,3):=by unfold opV;rw[iB hk,iA g1,iA U,iA U,iA g4]
   rw[e,iA (fun hh=>g4 hh.2)];exact⟨rfl,rfl,rfl⟩
def Qef(L:Y D.Page)(t:Int):Y D.R:=(L.filter fun p=>Y1 p t).map fun p=>⟨p.S,(dueV p).1,[]⟩
def QoL(hi:i<L.length):Qef (L.take (i+1)) t=Qef (L.take i) t++(if Y1 (O L i) t=true then[⟨(O L i).S,(dueV (O L i)).1,[]⟩]else[]):=by
 unfold Qef
 rw[<-Qn hi,B4,Ay]
 congr 1
 cases g:Y1 (O L i) t with
 |true=>simp[g]
 |false=>simp[g]
def Qnf:(Qef L t).length<=L.length:=by
 unfold Qef;rw[List.length_map];exact CQ ..
def QtK(h:LW M n l)(hpg:l.F.length<=9):Vd 1000 l t=some (Qef l.F t):=by
 refine Ok.eq ?_
 unfold Vd
 refine Ok.j ?_
 refine Ok.run l.F.length (fun i=>((t,(i:Int),()),l,Qef (l.F.take i) t,())) rfl U (fun i hi k hk=>?_) (fun k=>?_)
 .try dsimp only
  have hs:=QoL (t:=t) hi
  have hlen:=Qnf (L:=l.F.take i) (t:=t)
  rw[Af]at hlen
  try dsimp only at hk
  rw[hs]at hk
  refine Ok.j (Ok.P (Ok.oe (QcS h hpg) (Ok.t ?_)))
  refine Ok.j (Ok.atn hi (Ok.oe QgF (Ok.J (fun g=>Ok.ite (fun g2=>Ok.atn hi (Ok.LS ?_)) (fun g2=>?_)) (fun g=>?_))))
  .try dsimp only
   rw[Qa U]
   rw[iB (by unfold Y1;rw[g,decide_eq_true g2];rfl)]at hk;exact hk
  .try dsimp only
   rw[Qa U]
   rw[iA (by unfold Y1;rw[decide_eq_false g2];simp),Ao]at hk;exact hk
  .try dsimp only
   rw[Qa U]
   rw[iA (by unfold Y1;rw[g];simp),Ao]at hk;exact hk
 .try dsimp only
  refine Ok.j (Ok.N (Ok.s ?_))
  rw[Ad]
def Driven.none(h:Driven M n l now (Qbm l now).length x)(hl:Qd M n l):Qef x.F now=[]:=by
 unfold Qef
 rw[List.map_eq_nil_iff,Cw]
 intro p hp
 obtain⟨j,hj,rfl⟩:=QfS hp
 rw[h.done hl hj];simp
end
end
def quo(n:Nat)(Q:Nat->AH):Prop:=n / 2+1<=(List.range n).countP Q
def Qn8:∀{L:Y α},(∀i∈L,¬(P i=true/\Q i=true))->L.countP P+L.countP Q<=L.length
 |[],_=>by simp
 |y::r,h=>by
  have ih:=Qn8 (P:=P) (Q:=Q) (L:=r) fun i hi=>h i (by simp[hi])
  have hy:=h y Ob
  simp only[List.countP_cons,Ab]
  by_cases p:P y=true<;>by_cases q:Q y=true
  .exact absurd ⟨p,q⟩ hy
  all_goals simp[p,q];omega
def Qla(hp:quo n P)(hq:quo n Q):∃i,i<n/\P i=true/\Q i=true:=by
 rcases EH (∃i,i<n/\P i=true/\Q i=true)with h|h
 .exact h
 .have:=Qn8 (P:=P) (Q:=Q) (L:=List.range n) fun i hi ⟨g1,g2⟩=>h ⟨i,by simpa using hi,g1,g2⟩
  simp only[List.length_range]at this
  unfold quo at hp hq
  omega
structure Gh where
 clog:Nat->Int->Y D.n
 glog:Int->Y D.n
 lead:Int->I Nat
 vot:Nat->Int->I Nat
 ack:Nat->Int->Nat
section
abbrev trm(L:Y D.n)(k:Nat):Int:=(O L k).T
def Good(g:Gh)(t:Int)(k:Nat):Prop:=1<=k/\k<=(g.glog t).length/\trm (g.glog t) (k - 1)=t
def May(n:Nat)(g:Gh)(T:Nat->Int)(t:Int)(k:Nat):Prop:=∃Q,quo n Q/\∀j,j<n->Q j=true->k<=g.ack j t\/T j<=t
def Chosen(n:Nat)(g:Gh)(t:Int)(k:Nat):Prop:=∃Q,quo n Q/\∀j,j<n->Q j=true->k<=g.ack j t
def Chosen.may(h:Chosen n g t k):May n g T t k:=by
 obtain⟨Q,h1,h2⟩:=h
 exact⟨Q,h1,fun j hj hq=>.inl (h2 j hj hq)⟩
structure Qbd (g:Gh) (u:Int) (L:Y D.n):Prop where
 term:∀k,k<L.length->1<=trm L k/\trm L k<=u
 asc:∀i j,i<=j->j<L.length->trm L i<=trm L j
 mat:∀k,k<L.length->L.take (k+1)=(g.glog (trm L k)).take (k+1)
def Qbd.nil:Qbd g u []:=⟨fun k h=>by simp at h,fun i j _ h=>by simp at h,fun k h=>by simp at h⟩
def Qbd.up(h:Qbd g u L)(hu:u<=v):Qbd g v L:=⟨fun k hk=>by have:=h.term k hk;omega,h.asc,h.mat⟩
def Qbd.take(h:Qbd g u L):Qbd g u (L.take k):=by
 have e:∀i,i<(L.take k).length->trm (L.take k) i=trm L i/\i<L.length/\i<k:=fun i hi=>by
  rw[Af]at hi
  exact⟨by show D.n.T (O _ _)=_;rw[QbK U],U,U⟩
 refine⟨fun i hi=>?_,fun i j hij hj=>?_,fun i hi=>?_⟩
 .obtain⟨e1,e2,e3⟩:=e i hi
  rw[e1];exact h.term i e2
 .obtain⟨e1,e2,e3⟩:=e j hj
  obtain⟨f1,_⟩:=e i U
  rw[e1,f1];exact h.asc i j hij e2
 .obtain⟨e1,e2,e3⟩:=e i hi
  rw[e1,<-h.mat i e2,CJ,show min (i+1) k=i+1 by omega]
def Qdu{A B:Y α}(h:A.take b=B.take b)(hab:a<=b):A.take a=B.take a:=by
 have:=BD (List.take a) h
 grind
def QhZ[AK α]{A B:Y α}(h:A.take b=B.take b)(hab:a<b):O A a=O B a:=by
 rw[<-QbK (l:=A) hab,h,QbK hab]
def V0{A B:Y α}(h:A.take b=B.take b)(hb:b<=B.length):b<=A.length:=by
 have:=BD List.length h
 grind
def Qbd.meet(h:Qbd g u L)(h2:Qbd g v K)(hk:k<L.length)(hk2:k<K.length)(e:trm L k=trm K k):L.take (k+1)=K.take (k+1):=by
 rw[h.mat k hk,h2.mat k hk2,e]
def VZ(L:Y D.n):Int:=if L=[]then 0 else trm L (L.length - 1)
def Qbd.last(h:Qbd g u L)(hl:0<L.length):L=(g.glog (VZ L)).take L.length/\1<=VZ L/\VZ L<=u/\VZ L=trm L (L.length - 1):=by
 have hne:L≠[]:=fun e=>by rw[e]at hl;simp at hl
 have e:VZ L=trm L (L.length - 1):=by unfold VZ;rw[iA hne]
 have h1:=h.mat (L.length - 1) U
 have h2:=h.term (L.length - 1) U
 grind
structure GhOK (n:Nat) (g:Gh) (T:Nat->Int):Prop where
 glog:∀t,Qbd g t (g.glog t)
 none:∀t,g.lead t=none->g.glog t=[]
 clog:∀c t,Qbd g (t - 1) (g.clog c t)
 pre:∀t c,g.lead t=some c->(g.clog c t).length<=(g.glog t).length/\(g.glog t).take (g.clog c t).length=g.clog c t
 vot:∀j t c,j<n->g.vot j t=some c->t<=T j
 votC:∀j t c,j<n->g.vot j t=some c->t<=T c
 lead:∀t c,g.lead t=some c->∃Q,quo n Q/\∀j,j<n->Q j=true->g.vot j t=some c
 ackT:∀j t,j<n->0<g.ack j t->t<=T j
 ackL:∀j t,j<n->g.ack j t<=(g.glog t).length
 later:∀t u k c,g.lead u=some c->t<u->Good g t k->May n g T t k->(g.glog u).take k=(g.glog t).take k
 vote:∀j u c t k,j<n->g.vot j u=some c->t<u->Good g t k->k<=g.ack j t->May n g T t k->(g.clog c u).take k=(g.glog t).take k
def GhOK.one(h:GhOK n g T)(ha:g.lead t=some a)(hq:quo n Q)(hb:∀j,j<n->Q j=true->g.vot j t=some b):a=b:=by
 obtain⟨P,h1,h2⟩:=h.lead t a ha
 obtain⟨j,h3,h4,h5⟩:=Qla h1 hq
 grind
def Holds(n:Nat)(g:Gh)(T:Nat->Int)(j:Nat)(L:Y D.n):Prop:=∀t k,Good g t k->k<=g.ack j t->May n g T t k->L.take k=(g.glog t).take k
def QsY(h:GhOK n g T)(hj:Qbd g u L)(hc:Qbd g (u - 1) K)(hf:VZ L<VZ K\/(VZ K=VZ L/\L.length<=K.length))(ht:t<u)(hg:Good g t k)(hm:May n g T t k)(hL:L.take k=(g.glog t).take k):K.take k=(g.glog t).take k:=by
 obtain⟨k1,k2,k3⟩:=hg
 have hkl:=V0 hL k2
 obtain⟨l1,l2,l3,l4⟩:=hj.last U
 have ht2:trm L (k - 1)=t:=by show(O L (k - 1)).T=t;rw[QhZ hL U];exact k3
 have htl:t<=VZ L:=by rw[l4,<-ht2];exact hj.asc _ _ U U
 have hK:0<K.length:=by
  rcases CO K.length with e|e
  .have:VZ K=0:=by unfold VZ;rw[iB (List.eq_nil_of_length_eq_zero e)]
   omega
  .exact e
 obtain⟨c1,c2,c3,c4⟩:=hc.last hK
 rcases hf with hf|⟨he,hlen⟩
 ·have hne:g.lead (VZ K)≠none:=fun e=>by
   have:=h.none _ e
   grind
  obtain⟨b,hb⟩:=Option.ne_none_iff_exists'.1 hne
  have hl:=h.later t (VZ K) k b hb U ⟨k1,k2,k3⟩ hm
  have hlen:k<=K.length:=by
   rcases BC K.length k with hlt|hge
   .exfalso
    have e1:O (g.glog (VZ K)) (K.length - 1)=O (g.glog t) (K.length - 1):=QhZ hl U
    have e2:O K (K.length - 1)=O (g.glog (VZ K)) (K.length - 1):=by
     conv=>lhs;rw[c1]
     rw[QbK (by rw[Af];have:=BD List.length c1;rw[Af]at this;omega)]
     grind
    have e3:=((h.glog t).term (K.length - 1) U).2
    grind
   .exact hge
  grind
 ·grind
end
open Go AM
section
variable {n:Nat} {g g':Gh} {T T':Nat->Int} {L K:Y D.n} {i j k c:Nat} {t u v:Int}
def QcB(h:A.take b=B.take b)(hab:a<b):trm A a=trm B a:=by show D.n.T (O A a)=D.n.T (O B a);rw[QhZ h hab]
def Com(n:Nat)(g:Gh)(c:Nat)(L:Y D.n):Prop:=c=0\/∃t k,Good g t k/\Chosen n g t k/\c<=k/\c<=L.length/\L.take c=(g.glog t).take c
structure Qsz (n:Nat) (g:Gh) (T:Nat->Int) (j:Nat) (r:D.N):Prop where
 id:r.S=j
 term:r.T=T j
 pos:0<=r.T
 pos1:r.FJ=1\/r.FJ=2->1<=r.T
 log:Qbd g r.T r.l
 holds:Holds n g T j r.l
 curL:g.ack j r.T<=r.l.length
 cur:r.l.take (g.ack j r.T)=(g.glog r.T).take (g.ack j r.T)
 com0:0<=r.h
 com:Com n g r.h.toNat r.l
 votN:r.Fe = -1->g.vot j r.T=none
 vot:∀c:Nat,r.Fe=c->g.vot j r.T=some c
 cand:r.FJ=1->r.Fe=j/\g.clog j r.T=r.l/\g.lead r.T≠some j/\∀i,i<n->O r.FS i=true->g.vot i r.T=some j
 ldr:r.FJ=2->g.lead r.T=some j/\r.l=g.glog r.T/\(∀i,i<n->O r.FE i<=g.ack i r.T)
structure Qsy (n:Nat) (g:Gh) (T:Nat->Int) (m:D.d):Prop where
 from0:0<=m.v/\m.v<n
 to0:0<=m.To/\m.To<n
 term:m.T<=T m.v.toNat
 vote:m.Z=1->m.FA=(g.clog m.v.toNat m.T).length/\m.Fc=VZ (g.clog m.v.toNat m.T)
 voted:m.Z=2->m.OK=true->g.vot m.v.toNat m.T=some m.To.toNat
 app:m.Z=3->g.lead m.T=some m.v.toNat/\0<=m.FA/\m.FA.toNat+m.x.length<=(g.glog m.T).length/\m.x=((g.glog m.T).drop m.FA.toNat).take m.x.length/\(0<m.FA->m.Fc=trm (g.glog m.T) (m.FA.toNat - 1))/\0<=m.h/\Com n g m.h.toNat (g.glog m.T)
 acked:m.Z=4->m.OK=true->m.FA<=g.ack m.v.toNat m.T
structure Gle (n:Nat) (g:Gh) (T:Nat->Int) (g':Gh) (T':Nat->Int) (i:Nat):Prop where
 glog:∀t,(g'.glog t).take (g.glog t).length=g.glog t
 clog:∀c u,u<=T c->g'.clog c u=g.clog c u
 lead:∀t c,g.lead t=some c->g'.lead t=some c
 own:∀t c,c≠i->g'.lead t=some c->g.lead t=some c/\g'.glog t=g.glog t
 vot:∀j t c,g.vot j t=some c->g'.vot j t=some c
 votO:∀j t,j≠i->g'.vot j t=g.vot j t
 ack:∀j t,g.ack j t<=g'.ack j t
 ackO:∀j t,j≠i->g'.ack j t=g.ack j t
 ackN:∀t,g.ack i t<g'.ack i t->T i<=t
 tm:∀j,T j<=T' j
 tmO:∀j,j≠i->T' j=T j
section
variable (h:Gle n g T g' T' i)
include h
theorem Gle.len(t):(g.glog t).length<=(g'.glog t).length:=V0 (by rw[h.glog,Ad]) (AN _)
theorem Gle.pre(hk:k<=(g.glog t).length):(g'.glog t).take k=(g.glog t).take k:=by
 have:=BD (List.take k) (h.glog t)
 grind
theorem Gle.good(hg:Good g t k):Good g' t k:=by
 obtain⟨a,b,c⟩:=hg
 have hl:=h.len t
 exact⟨a,U,by rw[QcB (h.pre (AN _)) U];exact c⟩
theorem Gle.back(hg:Good g' t k)(hk:k<=(g.glog t).length):Good g t k:=by
 obtain⟨a,b,c⟩:=hg
 exact⟨a,hk,by rw[<-QcB (h.pre (AN _)) U];exact c⟩
theorem Gle.chosen(hc:Chosen n g t k):Chosen n g' t k:=by
 obtain⟨Q,a,b⟩:=hc
 exact⟨Q,a,fun j hj hq=>AX (b j hj hq) (h.ack j t)⟩
theorem Gle.may(hm:May n g' T' t k):May n g T t k:=by
 obtain⟨Q,a,b⟩:=hm
 refine⟨Q,a,fun j hj hq=>?_⟩
 by_cases e:j=i
 .subst e
  rcases b j hj hq with b|b
  .rcases BC (g.ack j t) (g'.ack j t)with c|c
   .exact .inr (h.ackN t c)
   .exact .inl U
  .exact .inr (by have:=h.tm j;omega)
 .rcases b j hj hq with b|b
  .exact .inl (by rw[<-h.ackO j t e];exact b)
  .exact .inr (by have:=h.tmO j e;omega)
theorem Gle.logOK(hl:Qbd g u L):Qbd g' u L:=by
 refine⟨hl.term,hl.asc,fun k hk=>?_⟩
 have:=hl.mat k hk
 have hk2:k+1<=(g.glog (trm L k)).length:=by
  have:=BD List.length this
  grind
 rw[this,h.pre hk2]
theorem Gle.com(hc:Com n g c L):Com n g' c L:=by
 rcases hc with hc|⟨t,k,a,b,d,e,f⟩
 .exact .inl hc
 .exact .inr ⟨t,k,h.good a,h.chosen b,d,e,by rw[f,h.pre];have:=a.2.1;omega⟩
theorem Gle.comPre(hc:Com n g c (g.glog t)):Com n g' c (g'.glog t):=by
 rcases hc with hc|⟨u,k,a,b,d,e,f⟩
 .exact .inl hc
 .exact .inr ⟨u,k,h.good a,h.chosen b,d,AX e (h.len t),by rw[h.pre e,f,h.pre];have:=a.2.1;omega⟩
theorem Gle.holds(hG:GhOK n g T)(hj:j<n)(he:j≠i)(hh:Holds n g T j L):Holds n g' T' j L:=by
 intro t k a b c
 rw[h.ackO j t he]at b
 have hk:k<=(g.glog t).length:=AX b (hG.ackL j t hj)
 rw[h.pre hk]
 exact hh t k (h.back a hk) b (h.may c)
theorem Gle.rep(hG:GhOK n g T)(hj:j<n)(he:j≠i)(hr:Qsz n g T j r):Qsz n g' T' j r:=by
 have hT:=hr.term
 refine⟨hr.id,by rw[h.tmO j he];exact hr.term,hr.pos,hr.pos1,h.logOK hr.log,h.holds hG hj he hr.holds,by rw[h.ackO j _ he];exact hr.curL,?_,hr.com0,h.com hr.com,fun e=>by rw[h.votO j _ he];exact hr.votN e,fun c e=>h.vot _ _ _ (hr.vot c e),fun e=>?_,fun e=>?_⟩
 .rw[h.ackO j _ he,hr.cur,h.pre (hG.ackL j _ hj)]
 .obtain⟨a,b,c,d⟩:=hr.cand e
  exact⟨a,by rw[h.clog j _ U];exact b,fun x=>c (h.own _ _ he x).1,fun i hi hv=>h.vot _ _ _ (d i hi hv)⟩
 .obtain⟨a,b,c⟩:=hr.ldr e
  have a2:=h.lead _ _ a
  exact⟨a2,by rw[(h.own _ _ he a2).2];exact b,fun i hi=>by have:=c i hi;have:=h.ack i r.T;omega⟩
theorem Gle.msg(hm:Qsy n g T m):Qsy n g' T' m:=by
 have hT:=hm.term
 refine⟨hm.from0,hm.to0,by have:=h.tm m.v.toNat;omega,fun e=>?_,fun e e2=>h.vot _ _ _ (hm.voted e e2),fun e=>?_,fun e e2=>?_⟩
 .rw[h.clog _ _ hT];exact hm.vote e
 .obtain⟨a,b,c,d,f,f2,f3⟩:=hm.app e
  have hl:=h.len m.T
  refine⟨h.lead _ _ a,b,U,?_,fun x=>?_,f2,h.comPre f3⟩
  .conv=>lhs;rw[d]
   have:=BD (List.drop m.FA.toNat) (h.pre (k:=m.FA.toNat+m.x.length) c)
   rw[EA,EA,show m.FA.toNat+m.x.length - m.FA.toNat=m.x.length by omega]at this
   exact this.symm
  .rw[f x,QcB (h.pre c) U]
 .have:=hm.acked e e2;have:=h.ack m.v.toNat m.T;omega
end
end
section
def GhOK.leadT(h:GhOK n g T)(hl:g.lead t=some c):t<=T c:=by
 obtain⟨Q,a,b⟩:=h.lead t c hl
 obtain⟨j,h1,h2,_⟩:=Qla a a
 exact h.votC j t c h1 (b j h1 h2)
def Gle.term(h:∀j,T j<=T' j)(h2:∀j,j≠i->T' j=T j):Gle n g T g T' i:=
 ⟨fun t=>Ad,fun _ _ _=>rfl,fun _ _ e=>e,fun _ _ _ e=>⟨e,rfl⟩,fun _ _ _ e=>e,fun _ _ _=>rfl,fun _ _=>AN _,fun _ _ _=>rfl,fun t e=>U,h,h2⟩
def GhOK.term(hG:GhOK n g T)(h:∀j,T j<=T' j)(h2:∀j,j≠i->T' j=T j):GhOK n g T':=by
 have hg:Gle n g T g T' i:=.term h h2
 refine⟨hG.glog,hG.none,hG.clog,hG.pre,fun j t c a b=>?_,fun j t c a b=>?_,hG.lead,fun j t a b=>?_,hG.ackL,fun t u k c a b d e=>hG.later t u k c a b d (hg.may e),fun j u c t k a b d e f m=>hG.vote j u c t k a b d e f (hg.may m)⟩
 .have:=hG.vot j t c a b;have:=h j;omega
 .have:=hG.votC j t c a b;have:=h c;omega
 .have:=hG.ackT j t a b;have:=h j;omega
def Gh.setV(g:Gh)(j:Nat)(u:Int)(c:Nat):Gh:={ g with vot:=fun a b=>if a=j/\b=u then some c else g.vot a b }
def Gle.setV(hv:g.vot j u=Option.none):Gle n g T (g.setV j u c) T j:=by
 refine⟨fun t=>Ad,fun _ _ _=>rfl,fun _ _ e=>e,fun _ _ _ e=>⟨e,rfl⟩,fun a b d e=>?_,fun a b e=>?_,fun _ _=>AN _,fun _ _ _=>rfl,fun t e=>absurd e (Cm _),fun _=>Ai _,fun _ _=>rfl⟩
 .simp only[Gh.setV]
  grind
 .simp only[Gh.setV,e,false_and,if_false]
def GhOK.setV(hG:GhOK n g T)(hv:g.vot j u=Option.none)(hT:u<=T j)(hc:u<=T c)(hk:∀t k,t<u->Good g t k->k<=g.ack j t->May n g T t k->(g.clog c u).take k=(g.glog t).take k):GhOK n (g.setV j u c) T:=by
 have hg:Gle n g T (g.setV j u c) T j:=.setV hv
 have hs:∀a b d,(g.setV j u c).vot a b=some d->(a=j/\b=u/\d=c)\/g.vot a b=some d:=fun a b d e=>by
  simp only[Gh.setV]at e
  grind
 refine⟨fun t=>hg.logOK (hG.glog t),hG.none,fun c t=>hg.logOK (hG.clog c t),hG.pre,fun a b d h e=>?_,fun a b d h e=>?_,fun t d e=>?_,hG.ackT,hG.ackL,fun t u k c a b d e=>hG.later t u k c a b (hg.back d d.2.1) (hg.may e),fun a b d t k h e f f2 f3 m=>?_⟩
 .rcases hs a b d e with⟨x,y,z⟩|x
  .rw[x,y];exact hT
  .exact hG.vot a b d h x
 .rcases hs a b d e with⟨x,y,z⟩|x
  .rw[z,y];exact hc
  .exact hG.votC a b d h x
 .obtain⟨Q,h1,h2⟩:=hG.lead t d e
  exact⟨Q,h1,fun a ha hq=>hg.vot _ _ _ (h2 a ha hq)⟩
 .have f2':Good g t k:=hg.back f2 f2.2.1
  rcases hs a b d e with⟨x,y,z⟩|x
  .subst x;subst y;subst z
   exact hk t k f f2' f3 (hg.may m)
  .exact hG.vote a b d t k h x f f2' f3 (hg.may m)
def Gh.setC(g:Gh)(c:Nat)(u:Int)(L:Y D.n):Gh:={ g with clog:=fun a b=>if a=c/\b=u then L else g.clog a b }
def Gle.setC(hu:T c<u):Gle n g T (g.setC c u L) T c:=by
 refine⟨fun t=>Ad,fun a b e=>?_,fun _ _ e=>e,fun _ _ _ e=>⟨e,rfl⟩,fun _ _ _ e=>e,fun _ _ _=>rfl,fun _ _=>AN _,fun _ _ _=>rfl,fun t e=>absurd e (Cm _),fun _=>Ai _,fun _ _=>rfl⟩
 simp only[Gh.setC]
 grind
def GhOK.setC(hG:GhOK n g T)(hu:T c<u)(hL:Qbd g (u - 1) L):GhOK n (g.setC c u L) T:=by
 have hg:Gle n g T (g.setC c u L) T c:=.setC hu
 refine⟨fun t=>hg.logOK (hG.glog t),hG.none,fun a b=>?_,fun t a e=>?_,hG.vot,hG.votC,hG.lead,hG.ackT,hG.ackL,fun t u k c a b d e=>hG.later t u k c a b (hg.back d d.2.1) (hg.may e),fun a b d t k h e f f2 f3 m=>?_⟩
 .apply hg.logOK
  simp only[Gh.setC]
  split
  .simp_all
  .exact hG.clog a b
 .rw[hg.clog _ _ (hG.leadT e)];exact hG.pre t a e
 .rw[hg.clog _ _ (hG.votC _ _ _ h e)];exact hG.vote a b d t k h e f (hg.back f2 f2.2.1) f3 (hg.may m)
def Gh.setA(g:Gh)(j:Nat)(t:Int)(k:Nat):Gh:={ g with ack:=fun a b=>if a=j/\b=t then max (g.ack j t) k else g.ack a b }
def Gle.setA(hT:T j<=t):Gle n g T (g.setA j t k) T j:=by
 refine⟨fun t=>Ad,fun _ _ _=>rfl,fun _ _ e=>e,fun _ _ _ e=>⟨e,rfl⟩,fun _ _ _ e=>e,fun _ _ _=>rfl,fun a b=>?_,fun a b e=>?_,fun u e=>?_,fun _=>Ai _,fun _ _=>rfl⟩
 .simp only[Gh.setA];split
  .grind
  .omega
 .simp only[Gh.setA,e,false_and,if_false]
 .simp only[Gh.setA]at e;split at e
  .omega
  .omega
def GhOK.setA(hG:GhOK n g T)(hT:T j=t)(hk:k<=(g.glog t).length):GhOK n (g.setA j t k) T:=by
 have hg:Gle n g T (g.setA j t k) T j:=.setA U
 refine⟨fun t=>hg.logOK (hG.glog t),hG.none,fun c t=>hg.logOK (hG.clog c t),hG.pre,hG.vot,hG.votC,hG.lead,fun a b h e=>?_,fun a b h=>?_,fun t u k c a b d e=>hG.later t u k c a b (hg.back d d.2.1) (hg.may e),fun a b d u l h e f f2 f3 m=>?_⟩
 .simp only[Gh.setA]at e;split at e
  .simp_all
  .exact hG.ackT a b h e
 .simp only[Gh.setA];split
  .next h2=>rw[h2.2];have:=hG.ackL j t (by rw[<-h2.1];exact h);omega
  .exact hG.ackL a b h
 .have hv:=hG.vot a b d h e
  refine hG.vote a b d u l h e f (hg.back f2 f2.2.1) ?_ (hg.may m)
  simp only[Gh.setA]at f3;split at f3
  .grind
  .exact f3
def Gh.setL(g:Gh)(c:Nat)(u:Int):Gh:={ g with lead:=fun t=>if t=u then some c else g.lead t,glog:=fun t=>if t=u then g.clog c u else g.glog t,ack:=fun a b=>if a=c/\b=u then(g.clog c u).length else g.ack a b }
def GhOK.ack0(hG:GhOK n g T)(hl:g.lead u=Option.none)(hj:j<n):g.ack j u=0:=by
 have:=hG.ackL j u hj
 rw[hG.none u hl]at this
 simpa using this
def Gle.setL(hG:GhOK n g T)(hl:g.lead u=Option.none)(hc:c<n)(hT:T c=u):Gle n g T (g.setL c u) T c:=by
 have hz:=hG.none u hl
 refine⟨fun t=>?_,fun _ _ _=>rfl,fun t d e=>?_,fun t d e e2=>?_,fun _ _ _ e=>e,fun _ _ _=>rfl,fun a b=>?_,fun a b e=>?_,fun t e=>?_,fun _=>Ai _,fun _ _=>rfl⟩
 .simp only[Gh.setL];split
  .simp_all
  .exact Ad
 .simp only[Gh.setL];rw[iA]
  .exact e
  .grind
 .simp only[Gh.setL]at e2 |-;split at e2
  .simp_all
  .simp_all
 .simp only[Gh.setL];split
  .next h=>rw[h.1,h.2,hG.ack0 hl hc];omega
  .omega
 .simp only[Gh.setL,e,false_and,if_false]
 .simp only[Gh.setL]at e;split at e
  .next h=>omega
  .omega
def GhOK.setL(hG:GhOK n g T)(hl:g.lead u=Option.none)(hc:c<n)(hT:T c=u)(hq:quo n Q)(hv:∀j,j<n->Q j=true->g.vot j u=some c):GhOK n (g.setL c u) T:=by
 have hg:Gle n g T (g.setL c u) T c:=.setL hG hl hc hT
 have hz:=hG.none u hl
 have hn:∀t,t≠u->(g.setL c u).glog t=g.glog t:=fun t h=>by simp only[Gh.setL];rw[iA h]
 have hu:(g.setL c u).glog u=g.clog c u:=by simp[Gh.setL]
 have hb:∀k,¬Good (g.setL c u) u k:=fun k ⟨a,b,d⟩=>by
  rw[hu]at b d
  have:=(hG.clog c u).term (k - 1) U
  omega
 have hd:∀{t k},Good (g.setL c u) t k->t≠u/\Good g t k:=fun{t k} h=>by
  have e:t≠u:=fun e=>hb k (e ▸ h)
  refine⟨e,?_⟩
  unfold Good at h |-
  rwa [hn t e]at h
 refine⟨fun t=>?_,fun t e=>?_,fun a b=>hg.logOK (hG.clog a b),fun t d e=>?_,hG.vot,hG.votC,fun t d e=>?_,fun a b h e=>?_,fun a b h=>?_,fun t v k d e f f2 m=>?_,fun a b d t k h e f f2 f3 m=>?_⟩
 .by_cases e:t=u
  .rw[e,hu];exact hg.logOK ((hG.clog c u).up U)
  .rw[hn t e];exact hg.logOK (hG.glog t)
 .have e2:t≠u:=fun h=>by simp[Gh.setL,h]at e
  rw[hn t e2]
  exact hG.none t (by simpa [Gh.setL,e2]using e)
 .by_cases e2:t=u
  .subst e2
   have:d=c:=by simpa [Gh.setL,eq_comm]using e
   subst this
   rw[hu];exact⟨AN _,Ad⟩
  .rw[hn t e2];exact hG.pre t d (by simpa [Gh.setL,e2]using e)
 .by_cases e2:t=u
  .subst e2
   have:d=c:=by simpa [Gh.setL,eq_comm]using e
   subst this
   exact⟨Q,hq,hv⟩
  .exact hG.lead t d (by simpa [Gh.setL,e2]using e)
 .simp only[Gh.setL]at e;split at e
  .simp_all
  .exact hG.ackT a b h e
 .by_cases e2:b=u
  .subst e2
   rw[hu];simp only[Gh.setL];split
   .exact AN _
   .rw[hG.ack0 hl h];omega
  .rw[hn b e2];simp only[Gh.setL,e2,and_false,if_false];exact hG.ackL a b h
 .obtain⟨g1,g2⟩:=hd f2
  have m2:=hg.may m
  rw[hn t g1]
  by_cases e2:v=u
  .subst e2
   have:d=c:=by simpa [Gh.setL,eq_comm]using e
   subst this
   rw[hu]
   obtain⟨P,p1,p2⟩:=m2
   obtain⟨x,x1,x2,x3⟩:=Qla hq p1
   have x4:=hv x x1 x2
   have x5:=hG.vot _ _ _ x1 x4
   rcases p2 x x1 x3 with y|y
   .exact hG.vote x v d t k x1 x4 f g2 y (hg.may m)
   .omega
  .rw[hn v e2]
   exact hG.later t v k d (by simpa [Gh.setL,e2]using e) f g2 m2
 .obtain⟨g1,g2⟩:=hd f2
  rw[hn t g1]
  refine hG.vote a b d t k h e f g2 ?_ (hg.may m)
  simpa only[Gh.setL,g1,and_false,if_false]using f3
def Gh.setP(g:Gh)(i:Nat)(t:Int)(e:D.n):Gh:={ g with glog:=fun b=>if b=t then g.glog t++[e]else g.glog b,ack:=fun a b=>if a=i/\b=t then(g.glog t).length+1 else g.ack a b }
def Gle.setP(hG:GhOK n g T)(hl:g.lead t=some i)(hi:i<n)(hT:T i=t):Gle n g T (g.setP i t e) T i:=by
 refine⟨fun b=>?_,fun _ _ _=>rfl,fun _ _ e=>e,fun b d h h2=>⟨h2,?_⟩,fun _ _ _ e=>e,fun _ _ _=>rfl,fun a b=>?_,fun a b e=>?_,fun b h=>?_,fun _=>Ai _,fun _ _=>rfl⟩
 .simp only[Gh.setP];split
  .simp_all
  .exact Ad
 .simp only[Gh.setP];rw[iA]
  intro hb;subst hb
  have h2:g.lead b=some d:=h2
  simp_all
 .simp only[Gh.setP];split
  .next h=>have:=hG.ackL i t hi;rw[h.1,h.2];omega
  .omega
 .simp only[Gh.setP,e,false_and,if_false]
 .simp only[Gh.setP]at h;split at h
  .next h=>omega
  .omega
def GhOK.setP(hG:GhOK n g T)(hl:g.lead t=some i)(hi:i<n)(hT:T i=t)(he:e.T=t)(h1:1<=t):GhOK n (g.setP i t e) T:=by
 have hg:Gle n g T (g.setP i t e) T i:=.setP hG hl hi hT
 have hn:∀b,b≠t->(g.setP i t e).glog b=g.glog b:=fun t h=>by simp only[Gh.setP];rw[iA h]
 have hu:(g.setP i t e).glog t=g.glog t++[e]:=by simp[Gh.setP]
 have hA:=hG.glog t
 have tl:∀k,k<(g.glog t).length->trm (g.glog t++[e]) k=trm (g.glog t) k:=fun k hk=>QcB (b:=(g.glog t).length) (by rw[ED,Ad]) hk
 have tr:trm (g.glog t++[e]) (g.glog t).length=t:=by
  show D.n.T (O _ _)=t
  rw[<-he];congr 1
  simp[O]
 refine⟨fun b=>?_,fun b h=>?_,fun a b=>hg.logOK (hG.clog a b),fun b d h=>?_,hG.vot,hG.votC,hG.lead,fun a b h h2=>?_,fun a b h=>?_,fun b v k d h f f2 m=>?_,fun a b d v k h h2 f f2 f3 m=>?_⟩
 .by_cases hb:b=t
  .subst hb
   rw[hu]
   refine⟨fun k hk=>?_,fun x y hxy hy=>?_,fun k hk=>?_⟩
   .rw[Ac]at hk
    rcases BC k (g.glog b).length with c|c
    .rw[tl k c];exact hA.term k c
    .grind
   .rw[Ac]at hy
    rcases BC y (g.glog b).length with c|c
    .rw[tl y c,tl x U];exact hA.asc x y hxy c
    .rw[show y=(g.glog b).length by simp at hy;omega,tr]
     rcases BC x (g.glog b).length with c2|c2
     .rw[tl x c2];exact(hA.term x c2).2
     .grind
   .rw[Ac]at hk
    rcases BC k (g.glog b).length with c|c
    .rw[tl k c]
     have:=(hg.logOK hA).mat k c
     grind
    .grind
  .rw[hn b hb];exact hg.logOK (hG.glog b)
 .have hb:b≠t:=fun hb=>by
   subst hb
   have h:g.lead b=Option.none:=h
   simp_all
  rw[hn b hb];exact hG.none b h
 .obtain⟨p1,p2⟩:=hG.pre b d h
  have:=hg.len b
  exact⟨AX p1 this,by show List.take (g.clog d b).length _=g.clog d b;rw[hg.pre p1];exact p2⟩
 .simp only[Gh.setP]at h2;split at h2
  .simp_all
  .exact hG.ackT a b h h2
 .by_cases hb:b=t
  .subst hb
   rw[hu,Ac];simp only[Gh.setP];split
   .exact AN _
   .have:=hG.ackL a b h;omega
  .rw[hn b hb];simp only[Gh.setP,hb,and_false,if_false];exact hG.ackL a b h
 .have m2:=hg.may m
  rcases BC (g.glog b).length k with c|c
  .exfalso
   have hb:b=t:=CK fun x=>by have:=f2.2.1;rw[hn b x]at this;omega
   subst hb
   obtain⟨P,p1,p2⟩:=hG.lead v d h
   obtain⟨R,r1,r2⟩:=m
   obtain⟨x,x1,x2,x3⟩:=Qla p1 r1
   have x4:=hG.vot _ _ _ x1 (p2 x x1 x2)
   rcases r2 x x1 x3 with y|y
   .simp only[Gh.setP]at y;split at y
    .grind
    .have:=hG.ackL x b x1;omega
   .omega
  .rw[hg.pre c]
   have:=hG.later b v k d h f (hg.back f2 c) m2
   rw[<-this,hg.pre (V0 this.symm.symm c |> fun z=>z)]
 .have f3':k<=g.ack a v:=by
   simp only[Gh.setP]at f3;split at f3
   .next z=>have:=hG.vot a b d h h2;rw[z.1]at this;omega
   .exact f3
  have c:k<=(g.glog v).length:=AX f3' (hG.ackL a v h)
  rw[hg.pre c]
  exact hG.vote a b d v k h h2 f (hg.back f2 c) f3' (hg.may m)
end
open Go AM
def upd(R:Nat->D.N)(i:Nat)(r:D.N):Nat->D.N:=fun j=>if j=i then r else R j
def tm(R:Nat->D.N):Nat->Int:=fun j=>(R j).T
structure Inv (n:Nat) (P:D.Op->Prop) (g:Gh) (R:Nat->D.N) (W:Y D.d):Prop where
 gh:GhOK n g (tm R)
 rep:∀j,j<n->Qsz n g (tm R) j (R j)
 msg:∀m∈W,Qsy n g (tm R) m
 ops:∀t,∀e∈g.glog t,P e.Op
 nod:∀t,((g.glog t).map fun e=>e.Op.S).Nodup
section
def V6:upd R i r i=r:=by simp[upd]
def QvM(h:j≠i):upd R i r j=R j:=by simp[upd,h]
def tm_i:tm (upd R i r) i=r.T:=by simp[upd,tm]
def tm_o(h:j≠i):tm (upd R i r) j=tm R j:=by simp[upd,tm,h]
def Qim(h:r.T=(R i).T):tm (upd R i r)=tm R:=by
 funext j
 by_cases e:j=i
 .subst e;rw[tm_i,h];rfl
 .exact tm_o e
def Inv.next(h:Inv n P g R W)(hg:Gle n g (tm R) g' (tm (upd R i r)) i)(hG:GhOK n g' (tm (upd R i r)))(hr:Qsz n g' (tm (upd R i r)) i r)(ho:(∀t,∀e∈g'.glog t,P e.Op)/\∀t,((g'.glog t).map fun e=>e.Op.S).Nodup:=by exact⟨h.ops,h.nod⟩):Inv n P g' (upd R i r) W:=by
 refine⟨hG,fun j hj=>?_,fun m hm=>hg.msg (h.msg m hm),ho.1,ho.2⟩
 by_cases e:j=i
 .subst e;rw[V6];exact hr
 .rw[QvM e];exact hg.rep h.gh hj e (h.rep j hj)
def Inv.sub(h:Inv n P g R W)(hs:∀m∈zC,m∈W):Inv n P g R zC:=⟨h.gh,h.rep,fun m hm=>h.msg m (hs m hm),h.ops,h.nod⟩
def Inv.add(h:Inv n P g R W)(hm:∀m∈zC,Qsy n g (tm R) m):Inv n P g R (W++zC):=⟨h.gh,h.rep,fun m hi=>(Ah.1 hi).elim (h.msg m) (hm m),h.ops,h.nod⟩
def Gle.trans(h:Gle n g T g1 T1 i)(h2:Gle n g1 T1 g2 T2 i):Gle n g T g2 T2 i:=by
 refine⟨fun t=>?_,fun c u hu=>?_,fun t c e=>h2.lead _ _ (h.lead _ _ e),fun t c e f=>?_,fun j t c e=>h2.vot _ _ _ (h.vot _ _ _ e),fun j t e=>(h2.votO j t e).trans (h.votO j t e),fun j t=>AX (h.ack j t) (h2.ack j t),fun j t e=>(h2.ackO j t e).trans (h.ackO j t e),fun t e=>?_,fun j=>CR (h.tm j) (h2.tm j),fun j e=>(h2.tmO j e).trans (h.tmO j e)⟩
 .rw[h2.pre (h.len t),h.glog]
 .rw[h2.clog c u (by have:=h.tm c;omega),h.clog c u hu]
 .obtain⟨a,b⟩:=h2.own t c e f
  obtain⟨a',b'⟩:=h.own t c e a
  exact⟨a',b.trans b'⟩
 .rcases BC (g.ack i t) (g1.ack i t)with x|x
  .exact h.ackN t x
  .have:=h2.ackN t U;have:=h.tm i;omega
def Qsz.quiet(h:Qsz n g T j r)(h1:r'.S=r.S)(h2:r'.T=r.T)(h3:r'.Fe=r.Fe)(h4:r'.l=r.l)(h5:r'.h=r.h)(h0:r'.FJ=0):Qsz n g T j r':=by
 refine⟨by rw[h1];exact h.id,by rw[h2];exact h.term,by rw[h2];exact h.pos,fun e=>by rw[h0]at e;exact absurd e (by decide),by rw[h2,h4];exact h.log,by rw[h4];exact h.holds,by rw[h2,h4];exact h.curL,by rw[h2,h4];exact h.cur,by rw[h5];exact h.com0,by rw[h4,h5];exact h.com,by rw[h3,h2];exact h.votN,by rw[h3,h2];exact h.vot,fun e=>by rw[h0]at e;exact absurd e (by decide),fun e=>by rw[h0]at e;exact absurd e (by decide)⟩
def Inv.quiet(h:Inv n P g R W)(hi:i<n)(h1:r.S=(R i).S)(h2:r.T=(R i).T)(h3:r.Fe=(R i).Fe)(h4:r.l=(R i).l)(h5:r.h=(R i).h)(h0:r.FJ=0):Inv n P g (upd R i r) W:=by
 have hT:=Qim h2
 refine h.next ?_ ?_ ?_
 .rw[hT];exact .term (fun _=>Ai _) fun _ _=>rfl
 .rw[hT];exact h.gh
 .rw[hT];exact(h.rep i hi).quiet h1 h2 h3 h4 h5 h0
def Inv.follow(h:Inv n P g R W)(hi:i<n)(hu:(R i).T<u)(h1:r.S=(R i).S)(h2:r.T=u)(h3:r.Fe = -1)(h4:r.l=(R i).l)(h5:r.h=(R i).h)(h0:r.FJ=0):Inv n P g (upd R i r) W:=by
 have hr:=h.rep i hi
 have hT:∀j,tm R j<=tm (upd R i r) j:=fun j=>by
  by_cases e:j=i
  .subst e;rw[tm_i,h2];show(R j).T<=u;omega
  .rw[tm_o e];exact Ai _
 have hg:Gle n g (tm R) g (tm (upd R i r)) i:=.term hT fun j e=>tm_o e
 have ht:=hr.term
 have ha:g.ack i u=0:=E5 fun x=>by have:=h.gh.ackT i u hi x;omega
 have hv:g.vot i u=none:=by
  rcases e:g.vot i u with _|c
  .rfl
  .have:=h.gh.vot i u c hi e;omega
 refine h.next hg (h.gh.term hT fun j e=>tm_o e) ⟨by rw[h1];exact hr.id,by rw[tm_i],by have:=hr.pos;omega,fun e=>by rw[h0]at e;exact absurd e (by decide),by rw[h4,h2];exact hr.log.up U,?_,by rw[h2,ha];exact BM _,by rw[h2,ha];rfl,by rw[h5];exact hr.com0,by rw[h4,h5];exact hr.com,fun _=>by rw[h2];exact hv,fun c e=>by rw[h3]at e;omega,fun e=>by rw[h0]at e;exact absurd e (by decide),fun e=>by rw[h0]at e;exact absurd e (by decide)⟩
 rw[h4]
 exact fun t k a b c=>hr.holds t k a b (hg.may c)
def Inv.grant(h:Inv n P g R W)(hi:i<n)(hu:(R i).T=u)(hv:(R i).Fe = -1)(hr0:(R i).FJ=0)(hc:u<=tm R c)(hf:VZ (R i).l<VZ (g.clog c u)\/(VZ (g.clog c u)=VZ (R i).l/\(R i).l.length<=(g.clog c u).length))(h1:r={ R i with Fe:=c }):Inv n P (g.setV i u c) (upd R i r) W/\(g.setV i u c).vot i u=some c:=by
 have hr:=h.rep i hi
 have ht:=hr.term
 have hvn:g.vot i u=Option.none:=by rw[<-hu];exact hr.votN hv
 have hT:tm (upd R i r)=tm R:=Qim (by rw[h1])
 have hg:Gle n g (tm R) (g.setV i u c) (tm R) i:=.setV hvn
 have hs:(g.setV i u c).vot i u=some c:=by simp[Gh.setV]
 refine⟨h.next (by rw[hT];exact hg) ?_ ?_,hs⟩
 .rw[hT]
  refine h.gh.setV hvn U hc fun t k a b d m=>?_
  exact QsY h.gh (by rw[<-hu];exact hr.log) (h.gh.clog c u) hf a b m (hr.holds t k b d m)
 .rw[hT,h1]
  refine⟨hr.id,hr.term,hr.pos,hr.pos1,hg.logOK hr.log,fun t k a b d=>hr.holds t k a b (hg.may d),hr.curL,hr.cur,hr.com0,hg.com hr.com,fun e=>?_,fun d e=>?_,fun e=>?_,fun e=>?_⟩
  .simp_all
  .grind
  .simp_all
  .simp_all
def Inv.stand{n:Nat}{P:D.Op->Prop}{g:Gh}{R:Nat->D.N}{W:Y D.d}{r:D.N}{i:Nat}{u:Int}(h:Inv n P g R W)(hi:i<n)(hu:(R i).T+1=u)(hl:∀j,j<n->O r.FS j=true->j=i)(h1:r.S=(R i).S)(h2:r.T=u)(h3:r.Fe=i)(h4:r.l=(R i).l)(h5:r.h=(R i).h)(h0:r.FJ=1):Inv n P ((g.setC i u r.l).setV i u i) (upd R i r) W/\((g.setC i u r.l).setV i u i).clog i u=r.l:=by
 have hr:=h.rep i hi
 have ht:=hr.term
 have hT:∀j,tm R j<=tm (upd R i r) j:=fun j=>by
  by_cases e:j=i
  .subst e;rw[tm_i,h2];show(R j).T<=u;omega
  .rw[tm_o e];exact Ai _
 have hti:tm R i<u:=U
 have g1:Gle n g (tm R) (g.setC i u r.l) (tm R) i:=.setC hti
 have g2:Gle n (g.setC i u r.l) (tm R) (g.setC i u r.l) (tm (upd R i r)) i:=.term hT fun j e=>tm_o e
 have hG1:GhOK n (g.setC i u r.l) (tm R):=h.gh.setC hti (by rw[h4,show u - 1=(R i).T by omega];exact hr.log)
 have hG2:GhOK n (g.setC i u r.l) (tm (upd R i r)):=hG1.term hT fun j e=>tm_o e
 have hv:(g.setC i u r.l).vot i u=Option.none:=by
  rcases e:(g.setC i u r.l).vot i u with _|c
  .rfl
  .have:=h.gh.vot i u c hi e;omega
 have g3:Gle n (g.setC i u r.l) (tm (upd R i r)) ((g.setC i u r.l).setV i u i) (tm (upd R i r)) i:=.setV hv
 have hcl:(g.setC i u r.l).clog i u=r.l:=by simp[Gh.setC]
 have hti2:u<=tm (upd R i r) i:=by rw[tm_i,h2];exact Ai _
 have hg:=(g1.trans g2).trans g3
 have ha:g.ack i u=0:=E5 fun x=>by have:=h.gh.ackT i u hi x;omega
 have hh:∀t k,Good g t k->k<=g.ack i t->May n g (tm R) t k->r.l.take k=(g.glog t).take k:=by rw[h4];exact hr.holds
 have hs:((g.setC i u r.l).setV i u i).vot i u=some i:=by simp[Gh.setV]
 refine⟨h.next hg ?_ ?_,hcl⟩
 .refine hG2.setV hv hti2 hti2 fun t k a b d m=>?_
  rw[hcl]
  exact hh t k b d ((g1.trans g2).may m)
 .refine⟨by rw[h1];exact hr.id,by rw[tm_i],by have:=hr.pos;omega,fun _=>by have:=hr.pos;omega,hg.logOK (by rw[h4,h2];exact hr.log.up U),fun t k a b d=>hh t k a b (hg.may d),by rw[h2];show g.ack i u<=_;rw[ha];exact BM _,?_,by rw[h5];exact hr.com0,hg.com (by rw[h4,h5];exact hr.com),fun e=>?_,fun d e=>?_,fun e=>⟨h3,by rw[h2];exact hcl,fun x=>?_,fun j hj hv=>?_⟩,fun e=>?_⟩
  .rw[h2];show r.l.take (g.ack i u)=(g.glog u).take (g.ack i u);rw[ha];rfl
  .rw[h3]at e;omega
  .grind
  .rw[h2]at x
   have:=h.gh.leadT (c:=i) (t:=u) x
   omega
  .grind
  .omega
def Inv.votes(h:Inv n P g R W)(hi:i<n)(h0:(R i).FJ=1)(hv:∀j,j<n->O r.FS j=true->O (R i).FS j=true\/g.vot j (R i).T=some i)(h1:r={ R i with FS:=r.FS }):Inv n P g (upd R i r) W:=by
 have hr:=h.rep i hi
 have hT:tm (upd R i r)=tm R:=Qim (by rw[h1])
 refine h.next (by rw[hT];exact .term (fun _=>Ai _) fun _ _=>rfl) (by rw[hT];exact h.gh) ?_
 rw[hT]
 obtain⟨a,b,c,d⟩:=hr.cand h0
 have e3:r.FJ=1:=by rw[h1];exact h0
 rw[h1]
 refine⟨hr.id,hr.term,hr.pos,hr.pos1,hr.log,hr.holds,hr.curL,hr.cur,hr.com0,hr.com,hr.votN,hr.vot,fun _=>⟨a,b,c,fun j hj e=>(hv j hj e).elim (d j hj) id⟩,fun e=>?_⟩
 grind
def Qya(hG:GhOK n g T)(h:Good (g.setL c u) t k):t≠u/\Good g t k:=by
 have e:t≠u:=fun e=>by
  subst e
  obtain⟨a,b,d⟩:=h
  have hu:(g.setL c t).glog t=g.clog c t:=by simp[Gh.setL]
  rw[hu]at b d
  have:=(hG.clog c t).term (k - 1) U
  omega
 refine⟨e,?_⟩
 unfold Good at h |-
 rwa [show(g.setL c u).glog t=g.glog t by simp[Gh.setL,e]]at h
def Inv.leads(h:Inv n P g R W)(hi:i<n)(h0:(R i).FJ=1)(hq:quo n fun j=>O (R i).FS j)(hm:∀j,j<n->O r.FE j=if j=i then((R i).l.length:Int)else 0)(h1:r={ R i with FJ:=2,FE:=r.FE }):Inv n P (g.setL i (R i).T) (upd R i r) W:=by
 have hr:=h.rep i hi
 have ht:=hr.term
 have hT:tm (upd R i r)=tm R:=Qim (by rw[h1])
 obtain⟨a,b,c,d⟩:=hr.cand h0
 have hl:g.lead (R i).T=Option.none:=by
  rcases e:g.lead (R i).T with _|x
  .rfl
  .have:=h.gh.one e hq d
   grind
 have hg:Gle n g (tm R) (g.setL i (R i).T) (tm R) i:=.setL h.gh hl hi ht.symm
 have hu:(g.setL i (R i).T).glog (R i).T=(R i).l:=by rw[<-b];simp[Gh.setL]
 have ha:(g.setL i (R i).T).ack i (R i).T=(R i).l.length:=by rw[<-b];simp[Gh.setL]
 have hcl:g.clog i (R i).T=[]\/∃t k,g.clog i (R i).T=(g.glog t).take k:=by
  rcases CO (g.clog i (R i).T).length with z|z
  .grind
  .exact .inr ⟨_,_,((h.gh.clog i (R i).T).last z).1⟩
 have ho:(∀t,∀e∈(g.setL i (R i).T).glog t,P e.Op)/\∀t,(((g.setL i (R i).T).glog t).map fun e=>e.Op.S).Nodup:=by
  refine⟨fun t e he=>?_,fun t=>?_⟩
  .by_cases x:t=(R i).T
   .rw[x,hu,<-b]at he
    rcases hcl with y|⟨t,k,y⟩
    .grind
    .rw[y]at he;exact h.ops t e (Bq he)
   .exact h.ops t e (by simpa [Gh.setL,x]using he)
  .by_cases x:t=(R i).T
   .rw[x,hu,<-b]
    rcases hcl with y|⟨t,k,y⟩
    .grind
    .rw[y,BR];exact(h.nod t).sublist (EC _ _)
   .rw[show(g.setL i (R i).T).glog t=g.glog t by simp[Gh.setL,x]];exact h.nod t
 refine h.next (by rw[hT];exact hg) (by rw[hT];exact h.gh.setL hl hi ht.symm hq d) ?_ ho
 rw[hT,h1]
 refine⟨hr.id,hr.term,hr.pos,fun _=>hr.pos1 (.inl h0),hg.logOK hr.log,fun t k x y z=>?_,EX ha,?_,hr.com0,hg.com hr.com,hr.votN,hr.vot,fun e=>?_,fun e=>⟨by simp[Gh.setL],hu.symm,fun j hj=>?_⟩⟩
 .obtain⟨g1,g2⟩:=Qya h.gh x
  rw[show(g.setL i (R i).T).glog t=g.glog t by simp[Gh.setL,g1]]
  refine hr.holds t k g2 ?_ (hg.may z)
  simpa only[Gh.setL,g1,and_false,if_false]using y
 .grind
 .grind
 .grind
end
section
def Inv.propose(h:Inv n P g R W)(hi:i<n)(h2:(R i).FJ=2)(hP:P e.Op)(hfr:∀x∈(R i).l,x.Op.S≠e.Op.S)(he:e.T=(R i).T)(hL:r.l=(R i).l++[e])(hm:∀j,j<n->O r.FE j<=if j=i then((R i).l.length:Int)+1 else O (R i).FE j)(hc:r.h=(R i).h\/n=1/\r.h=((R i).l.length:Int)+1)(h1:r={ R i with l:=r.l,h:=r.h,FE:=r.FE }):Inv n P (g.setP i (R i).T e) (upd R i r) W:=by
 have hr:=h.rep i hi
 have ht:=hr.term
 have hT:tm (upd R i r)=tm R:=Qim (by rw[h1])
 obtain⟨a,b,d⟩:=hr.ldr h2
 have hp:=hr.pos1 (.inr h2)
 have hg:Gle n g (tm R) (g.setP i (R i).T e) (tm R) i:=.setP h.gh a hi ht.symm
 have hu:(g.setP i (R i).T e).glog (R i).T=r.l:=by rw[hL,b];simp[Gh.setP]
 have hn:∀t,t≠(R i).T->(g.setP i (R i).T e).glog t=g.glog t:=fun t x=>by simp[Gh.setP,x]
 have ha:(g.setP i (R i).T e).ack i (R i).T=r.l.length:=by rw[hL,b];simp[Gh.setP]
 have hG:GhOK n (g.setP i (R i).T e) (tm R):=h.gh.setP a hi ht.symm he hp
 have ll:r.l.length=(R i).l.length+1:=by rw[hL];simp
 have e2:r.FJ=2:=by rw[h1];exact h2
 have ho:(∀t,∀x∈(g.setP i (R i).T e).glog t,P x.Op)/\∀t,(((g.setP i (R i).T e).glog t).map fun e=>e.Op.S).Nodup:=by
  refine⟨fun t x hx=>?_,fun t=>?_⟩
  .by_cases y:t=(R i).T
   .rw[y,hu,hL,b]at hx
    rcases Ah.1 hx with z|z
    .exact h.ops _ x z
    .grind
   .rw[hn t y]at hx;exact h.ops t x hx
  .by_cases y:t=(R i).T
   .rw[y,hu,hL,Ay,Ed]
    refine⟨by rw[b];exact h.nod _,Ob,fun x hx z hz e2=>?_⟩
    grind
   .rw[hn t y];exact h.nod t
 refine h.next (by rw[hT];exact hg) (by rw[hT];exact hG) ?_ ho
 rw[hT,h1]
 refine⟨hr.id,hr.term,hr.pos,hr.pos1,?_,fun t k x y z=>?_,EX ha,?_,?_,?_,hr.votN,hr.vot,fun x=>?_,fun x=>⟨a,hu.symm,fun j hj=>?_⟩⟩
 .show Qbd _ _ r.l
  rw[<-hu];exact hG.glog _
 .show r.l.take k=_
  by_cases e3:t=(R i).T
  .rw[e3,hu]
  .rw[hn t e3]
   have x2:Good g t k:=by unfold Good at x |-;rwa [hn t e3]at x
   have y2:k<=g.ack i t:=by simpa only[Gh.setP,e3,and_false,if_false]using y
   have:=hr.holds t k x2 y2 (hg.may z)
   have hk:=V0 this x2.2.1
   grind
 .grind
 .show 0<=r.h
  have:=hr.com0
  omega
 .show Com n _ r.h.toNat r.l
  rcases hc with x|⟨x,y⟩
  .rw[x,<-hu]
   exact hg.comPre (by rw[<-b];exact hr.com)
  .refine .inr ⟨(R i).T,r.l.length,⟨U,by rw[hu];exact AN _,?_⟩,⟨fun _=>true,?_,fun j hj _=>?_⟩,by rw[y];omega,by rw[y];omega,by rw[hu]⟩
   .rw[hu,hL]
    show D.n.T (O _ _)=_
    rw[<-he];congr 1;simp[O]
   .subst x;simp[quo]
   .grind
 .grind
 .show O r.FE j<=_
  have:=hm j hj
  split at this
  .grind
  .next e3=>have h3:=d j hj;have:=hg.ack j (R i).T;show _<=(((g.setP i (R i).T e).ack j (R i).T:Nat):Int);omega
def Inv.sends{n:Nat}{P:D.Op->Prop}{g:Gh}{R:Nat->D.N}{W:Y D.d}{m:D.d}{i:Nat}(h:Inv n P g R W)(hi:i<n)(h2:(R i).FJ=2)(hj:0<=m.To/\m.To<n)(h1:m.v=i)(h3:m.Z=3)(h4:m.T=(R i).T)(h5:0<=m.FA/\m.FA<=(R i).l.length)(h6:m.x=(R i).l.drop m.FA.toNat)(h7:0<m.FA->m.Fc=trm (R i).l (m.FA.toNat - 1))(h8:m.h=(R i).h):Qsy n g (tm R) m:=by
 have hr:=h.rep i hi
 obtain⟨a,b,d⟩:=hr.ldr h2
 have ht:=hr.term
 have hl:m.x.length=(R i).l.length - m.FA.toNat:=by rw[h6];simp
 refine⟨⟨U,U⟩,hj,by rw[h1,h4,hr.term];exact Ai _,fun e=>U,fun e=>U,fun _=>⟨by rw[h4,h1];exact a,h5.1,by rw[h4,<-b,hl];omega,?_,fun x=>by rw[h4,<-b];exact h7 x,by rw[h8];exact hr.com0,by rw[h4,<-b,h8];exact hr.com⟩,fun e=>U⟩
 grind
def agree(hL:Qbd g u L)(hG:Qbd g v G)(hE:E=(G.drop p).take E.length)(hp:p+E.length<=G.length)(hpL:p<=L.length)(h0:p=0\/trm L (p - 1)=trm G (p - 1))(hs:s<=E.length)(hm:∀x,x<s->p+x<L.length/\trm L (p+x)=trm E x):L.take (p+s)=G.take (p+s):=by
 rcases CO (p+s)with z|z
 .rw[z];rfl
 .have hE2:∀x,x<E.length->trm E x=trm G (p+x):=fun x hx=>by
   show D.n.T (O _ _)=D.n.T (O _ _)
   congr 1
   conv=>lhs;rw[hE]
   rw[QbK hx]
   simp[O,Ap]
  have e:trm L (p+s - 1)=trm G (p+s - 1)/\p+s - 1<L.length:=by
   rcases CO s with y|y
   .grind
   .obtain⟨a,b⟩:=hm (s - 1) U
    grind
  have:=hL.meet hG e.2 U e.1
  grind
def QCI{L G E:Y D.n}{s p:Nat}(hE:E=(G.drop p).take E.length)(hp:p+E.length<=G.length)(hs:s<=E.length)(ha:L.take (p+s)=G.take (p+s)):L.take (p+s)++E.drop s=G.take (p+E.length):=by
 rw[ha]
 have e:E.drop s=(G.drop (p+s)).take (E.length - s):=by
  conv=>lhs;rw[hE]
  rw[EA,List.drop_drop]
 rw[e]
 conv=>rhs;rw[show p+E.length=(p+s)+(E.length - s)by omega,List.take_add]
end
open Go AM
section
variable {n:Nat} {P:D.Op->Prop} {g g':Gh} {T T':Nat->Int} {R:Nat->D.N} {W zC:Y D.d} {r r':D.N} {m:D.d} {L K G E:Y D.n} {i j k c s p:Nat} {t u v:Int} {e:D.n}
def Qx8:(g.setA i t k).ack i t=max (g.ack i t) k:=by simp[Gh.setA]
def QCb(h:¬(j=i/\u=t)):(g.setA i t k).ack j u=g.ack j u:=by simp[Gh.setA,h]
def Inv.accept(h:Inv n P g R W)(hi:i<n)(hm:Qsy n g (tm R) m)(hk:m.Z=3)(ht:(R i).T=m.T)(h0:(R i).FJ≠1/\(R i).FJ≠2)(hpL:m.FA.toNat<=(R i).l.length)(hpt:m.FA.toNat=0\/trm (R i).l (m.FA.toNat - 1)=m.Fc)(hs:s<=m.x.length)(hx:∀x,x<s->m.FA.toNat+x<(R i).l.length/\trm (R i).l (m.FA.toNat+x)=trm m.x x)(hL:s=m.x.length/\r.l=(R i).l\/s<m.x.length/\((R i).l.length<=m.FA.toNat+s\/trm (R i).l (m.FA.toNat+s)≠trm m.x s)/\r.l=(R i).l.take (m.FA.toNat+s)++m.x.drop s/\(R i).h.toNat<=m.FA.toNat+s)(hc:r.h=max (R i).h (min m.h ((m.FA.toNat+m.x.length:Nat):Int)))(h1:r={ R i with l:=r.l,h:=r.h }):
  Inv n P (g.setA i m.T (m.FA.toNat+m.x.length)) (upd R i r) W/\m.FA.toNat+m.x.length<=(g.setA i m.T (m.FA.toNat+m.x.length)).ack i m.T:=by
 have hr:=h.rep i hi
 have hT:tm (upd R i r)=tm R:=Qim (by rw[h1])
 obtain⟨a1,a2,a3,a4,a5,a6,a7⟩:=hm.app hk
 have hrt:=hr.term
 have hG:=h.gh.glog m.T
 have hA:(R i).l.take (m.FA.toNat+s)=(g.glog m.T).take (m.FA.toNat+s):=by
  refine agree (u:=(R i).T) hr.log hG a4 a3 hpL ?_ hs hx
  rcases hpt with x|x
  .exact .inl x
  .rcases CO m.FA.toNat with y|y
   .exact .inl y
   .exact .inr (by rw[x];exact a5 U)
 have hlog:r.l.take (m.FA.toNat+m.x.length)=(g.glog m.T).take (m.FA.toNat+m.x.length)/\(r.l=(R i).l\/r.l=(g.glog m.T).take (m.FA.toNat+m.x.length)):=by
  rcases hL with⟨x,y⟩|⟨x,y,z,_⟩
  .rw[y,<-x];exact⟨hA,.inl rfl⟩
  .have:=QCI a4 a3 hs hA
   rw[z,this]
   exact⟨by rw[CJ,C9],.inr rfl⟩
 have hlen:m.FA.toNat+m.x.length<=r.l.length:=V0 hlog.1 a3
 have key:∀k,(R i).l.take k=(g.glog m.T).take k->k<=(g.glog m.T).length->r.l.take k=(g.glog m.T).take k/\k<=r.l.length:=by
  intro k e1 e2
  have e3:=V0 e1 e2
  rcases BC (m.FA.toNat+m.x.length) k with x|x
  .rcases hL with⟨_,y⟩|⟨y,z,_⟩
   .rw[y];exact⟨e1,e3⟩
   .exfalso
    rcases z with z|z
    .omega
    .apply z
     rw[QcB e1 U]
     show D.n.T (O _ _)=D.n.T (O _ _)
     congr 1
     conv=>rhs;rw[a4]
     rw[QbK y]
     simp[O,Ap]
  .exact⟨Qdu hlog.1 x,U⟩
 have hT2:tm R i=m.T:=U
 have hg:Gle n g (tm R) (g.setA i m.T (m.FA.toNat+m.x.length)) (tm R) i:=.setA U
 have hack:=Qx8 (g:=g) (i:=i) (t:=m.T) (k:=m.FA.toNat+m.x.length)
 have hcur:(R i).l.take (g.ack i m.T)=(g.glog m.T).take (g.ack i m.T):=by rw[<-ht];exact hr.cur
 have kcur:=key _ hcur (h.gh.ackL i m.T hi)
 refine⟨h.next (by rw[hT];exact hg) (by rw[hT];exact h.gh.setA hT2 a3) ?_,by rw[hack];omega⟩
 rw[hT,h1]
 refine⟨hr.id,hr.term,hr.pos,hr.pos1,hg.logOK ?_,fun t k x y z=>?_,?_,?_,?_,hg.com ?_,hr.votN,hr.vot,fun e=>?_,fun e=>?_⟩
 .show Qbd g (R i).T r.l
  rcases hlog.2 with x|x
  .rw[x];exact hr.log
  .rw[x,ht];exact hG.take
 .show r.l.take k=(g.glog t).take k
  by_cases e:t=m.T
  .subst e
   rw[hack]at y
   rcases BC (m.FA.toNat+m.x.length) k with q|q
   .exact Qdu kcur.1 U
   .exact Qdu hlog.1 q
  .rw[QCb (by intro q;exact e q.2)]at y
   have x2:Good g t k:=x
   have hh:=hr.holds t k x2 y (hg.may z)
   have hlt:t<=tm R i:=h.gh.ackT i t hi (by have:=x2.1;omega)
   have hl:=h.gh.later t m.T k _ a1 U x2 (hg.may z)
   rw[<-hl]
   exact(key k (hh.trans hl.symm) (V0 hl x2.2.1)).1
 .show(g.setA i m.T (m.FA.toNat+m.x.length)).ack i (R i).T<=r.l.length
  rw[ht,hack];have:=kcur.2;omega
 .show r.l.take ((g.setA i m.T (m.FA.toNat+m.x.length)).ack i (R i).T)=(g.glog (R i).T).take _
  rw[ht,hack]
  rcases Nat.le_total (g.ack i m.T) (m.FA.toNat+m.x.length)with q|q
  .rw[Nat.max_eq_right q];exact hlog.1
  .rw[Nat.max_eq_left q];exact kcur.1
 .show 0<=r.h
  have:=hr.com0;rw[hc];omega
 .show Com n g r.h.toNat r.l
  have hC:Com n g (R i).h.toNat r.l:=by
   rcases hr.com with x|⟨t,k,x1,x2,x3,x4,x5⟩
   .exact .inl x
   .rcases hL with⟨_,y⟩|⟨_,_,_,y⟩
    .rw[y];exact .inr ⟨t,k,x1,x2,x3,x4,x5⟩
    .have e1:=Qdu hA y
     have e2:=key _ e1 (by
      have:(R i).h.toNat<=(g.glog m.T).length:=by
       have:=BD List.length e1
       rw[Af,Af]at this
       omega
      exact this)
     exact .inr ⟨t,k,x1,x2,x3,e2.2,by rw[e2.1,<-e1];exact x5⟩
  rcases Int.le_total (min m.h ((m.FA.toNat+m.x.length:Nat):Int)) (R i).h with q|q
  .rw[hc,show max (R i).h (min m.h ((m.FA.toNat+m.x.length:Nat):Int))=(R i).h by omega];exact hC
  .rw[hc,show max (R i).h (min m.h ((m.FA.toNat+m.x.length:Nat):Int))=min m.h ((m.FA.toNat+m.x.length:Nat):Int)by omega]
   rcases a7 with x|⟨t,k,x1,x2,x3,x4,x5⟩
   .exact .inl U
   .have b1:(min m.h ((m.FA.toNat+m.x.length:Nat):Int)).toNat<=m.h.toNat:=U
    have b2:(min m.h ((m.FA.toNat+m.x.length:Nat):Int)).toNat<=m.FA.toNat+m.x.length:=U
    exact .inr ⟨t,k,x1,x2,U,U,by rw[Qdu hlog.1 b2];exact Qdu x5 b1⟩
 .exact absurd e h0.1
 .exact absurd e h0.2
def Inv.acks(h:Inv n P g R W)(hi:i<n)(h2:(R i).FJ=2)(hm:∀j,j<n->O r.FE j<=g.ack j (R i).T)(hc:r.h=(R i).h\/∃k:Nat,r.h=k/\1<=k/\k<=(R i).l.length/\trm (R i).l (k - 1)=(R i).T/\quo n fun j=>decide ((k:Int)<=O r.FE j))(h1:r={ R i with h:=r.h,FE:=r.FE }):Inv n P g (upd R i r) W:=by
 have hr:=h.rep i hi
 have hT:tm (upd R i r)=tm R:=Qim (by rw[h1])
 obtain⟨a,b,d⟩:=hr.ldr h2
 refine h.next (by rw[hT];exact .term (fun _=>Ai _) fun _ _=>rfl) (by rw[hT];exact h.gh) ?_
 rw[hT,h1]
 refine⟨hr.id,hr.term,hr.pos,hr.pos1,hr.log,hr.holds,hr.curL,hr.cur,?_,?_,hr.votN,hr.vot,fun e=>?_,fun _=>⟨a,b,hm⟩⟩
 .show 0<=r.h
  have:=hr.com0
  omega
 .show Com n g r.h.toNat (R i).l
  rcases hc with x|⟨k,x,x1,x2,x3,x4⟩
  .rw[x];exact hr.com
  .rw[x]
   refine .inr ⟨(R i).T,k,⟨x1,by rw[<-b];exact x2,by rw[<-b];exact x3⟩,⟨_,x4,fun j hj q=>?_⟩,U,U,by rw[b]⟩
   grind
 .grind
def GhOK.settled(h:GhOK n g T)(h1:Com n g c L)(h2:Com n g k K)(hck:c<=k):L.take c=K.take c:=by
 rcases h1 with h1|⟨t,a,a1,a2,a3,a4,a5⟩
 .rw[h1];rfl
 rcases h2 with h2|⟨u,b,b1,b2,b3,b4,b5⟩
 .simp_all
 have hlead:∀{t k},Good g t k->∃c,g.lead t=some c:=fun{t k} ⟨x,y,_⟩=>by
  rcases e:g.lead t with _|c
  .rw[h.none t e]at y;simp at y;omega
  .exact⟨c,rfl⟩
 have hm:∀{t u a b},t<u->Good g t a->Chosen n g t a->Good g u b->(g.glog u).take a=(g.glog t).take a:=fun{t u a b} x y z w=>by
  obtain⟨d,hd⟩:=hlead w
  exact h.later t u a d hd x y z.may
 rw[a5,Qdu b5 hck]
 rcases Int.lt_trichotomy t u with x|x|x
 .exact(Qdu (hm x a1 a2 b1) a3).symm
 .rw[x]
 .exact Qdu (hm x b1 b2 a1) U
def Inv.fresh(hR:∀j,j<n->(R j).S=j)(h1:∀j,j<n->(R j).T=0/\(R j).Fe = -1/\(R j).FJ=0/\(R j).l=[]/\(R j).h=0):Inv n P ⟨fun _ _=>[],fun _=>[],fun _=>none,fun _ _=>none,fun _ _=>0⟩ R []:=by
 refine⟨⟨fun _=>.nil,fun _ _=>rfl,fun _ _=>.nil,fun _ _ e=>(nomatch e),fun _ _ _ _ e=>(nomatch e),fun _ _ _ _ e=>(nomatch e),fun _ _ e=>(nomatch e),fun _ _ _ e=>absurd e (Cm _),fun _ _ _=>BM _,fun _ _ _ _ e=>(nomatch e),fun _ _ _ _ _ _ e=>(nomatch e)⟩,fun j hj=>?_,fun m e=>(nomatch e),fun _ _ e=>(nomatch e),fun _=>List.nodup_nil⟩
 obtain⟨a,b,c,d,f⟩:=h1 j hj
 refine⟨hR j hj,rfl,U,fun e=>U,by rw[d];exact .nil,fun t k x=>?_,BM _,by rw[d],U,.inl (by rw[f];rfl),fun _=>rfl,fun c e=>by rw[b]at e;omega,fun e=>U,fun e=>U⟩
 simp_all
end
def folV(r:D.N)(t:Int):D.N:=if r.T<t then{ r with T:=t,FJ:=0,Fe:=-1,FS:=[],FE:=[] }else r
def Qrj(r:D.N)(m:D.d):Prop:=VZ r.l<m.Fc\/(m.Fc=VZ r.l/\(r.l.length:Int)<=m.FA)
instance (r:D.N) (m:D.d):Decidable (Qrj r m):=by unfold Qrj;infer_instance
def yesV(o:D.N)(m:D.d):AH:=decide (o.T=m.T/\(o.Fe = -1\/o.Fe=m.v)/\o.FJ=0/\Qrj o m)
def QbG(r:D.N)(m:D.d):D.N×D.d:=(if yesV (folV r m.T) m then{ folV r m.T with Fe:=m.v }else folV r m.T,⟨2,r.S,m.v,(folV r m.T).T,0,0,0,[],yesV (folV r m.T) m⟩)
section
def Qqs:upd R i (R i)=R:=by
 funext j;by_cases e:j=i
 .subst e;exact V6
 .exact QvM e
def Qnb:upd (upd R i a) i b=upd R i b:=by
 funext j;by_cases e:j=i
 .subst e;rw[V6,V6]
 .rw[QvM e,QvM e,QvM e]
def Inv.fol(h:Inv n P g R W)(hi:i<n):Inv n P g (upd R i (folV (R i) t)) W:=by
 unfold folV
 split
 .next x=>exact h.follow hi x rfl rfl rfl rfl rfl rfl
 .rw[Qqs];exact h
def QBx:(folV r t).S=r.S:=by unfold folV;split<;>rfl
def Qk3:(folV r t).l=r.l:=by unfold folV;split<;>rfl
def Qpg:(folV r t).h=r.h:=by unfold folV;split<;>rfl
def QuG(h:0<=a):(a.toNat:Int)=a:=U
def Inv.hear(h:Inv n P g R W)(hi:i<n)(hm:m∈W)(hk:m.Z=1)(hto:m.To=i)(hne:m.v≠i):∃g',Inv n P g' (upd R i (QbG (R i) m).1) (W++[(QbG (R i) m).2]):=by
 have hid:=(h.rep i hi).id
 have h1:=h.fol (t:=m.T) hi
 have m1:=h1.msg m hm
 obtain⟨o,ho⟩:∃o,o=folV (R i) m.T:=⟨_,rfl⟩
 have hoid:o.S=i:=by rw[ho,QBx,hid]
 unfold QbG
 simp only[<-ho]
 rw[<-ho]at h1 m1
 have hf:=QuG m1.from0.1
 have reply:∀{g':Gh} {r':D.N},Inv n P g' (upd R i r') W->r'.T=o.T->(yesV o m=true->g'.vot i o.T=some m.v.toNat)->Qsy n g' (tm (upd R i r')) ⟨2,(R i).S,m.v,o.T,0,0,0,[],yesV o m⟩:=by
  intro g' r' hI e1 e2
  refine⟨⟨?_,?_⟩,m1.from0,?_,fun e=>?_,fun _ e=>?_,fun e=>?_,fun e=>?_⟩
  .show 0<=(R i).S;omega
  .show(R i).S<n;omega
  .show o.T<=tm _ (R i).S.toNat
   rw[hid,Bf,tm_i,e1];exact Ai _
  .have e:(2:Int)=1:=e;omega
  .show g'.vot (R i).S.toNat o.T=_
   rw[hid,Bf];exact e2 e
  .have e:(2:Int)=3:=e;omega
  .have e:(2:Int)=4:=e;omega
 by_cases hy:yesV o m=true
 .rw[iB hy]
  obtain⟨y1,y2,y3,y4⟩:=BE hy
  have hr:=h1.rep i hi
  rw[V6]at hr
  rcases y2 with y2|y2
  .obtain⟨v1,v2⟩:=m1.vote hk
   obtain⟨k1,k2⟩:=h1.grant (u:=m.T) (c:=m.v.toNat) (r:={ o with Fe:=m.v }) hi (by rw[V6];exact y1) (by rw[V6];exact y2) (by rw[V6];exact y3) m1.term (by
    rw[V6,<-v2]
    rcases y4 with z|⟨z,z2⟩
    .exact .inl z
    .exact .inr ⟨z,U⟩) (by rw[V6,hf])
   rw[Qnb]at k1
   exact⟨_,k1.add fun x hx=>by rw[Ae.1 hx];exact reply k1 rfl fun _=>by rw[y1];exact k2⟩
  .have e:({ o with Fe:=m.v }:D.N)=o:=by rw[<-y2]
   rw[e]
   exact⟨g,h1.add fun x hx=>by rw[Ae.1 hx];exact reply h1 rfl fun _=>hr.vot _ (by rw[y2,hf])⟩
 .rw[iA hy]
  exact⟨g,h1.add fun x hx=>by rw[Ae.1 hx];exact reply h1 rfl fun e=>absurd e hy⟩
def QhT(n:Nat)(r:D.N):D.N:={ r with FJ:=2,FE:=(List.replicate n 0).set r.S.toNat r.l.length }
def Qae(n:Nat)(r:D.N)(m:D.d):D.N:=
 if r.T<m.T then folV r m.T
 else if r.FJ≠1\/m.T≠r.T\/m.OK=false then r
 else if n / 2+1<=(List.range n).countP (fun j=>O (r.FS.set m.v.toNat true) j)then QhT n { r with FS:=r.FS.set m.v.toNat true }
 else{ r with FS:=r.FS.set m.v.toNat true }
def Inv.lead(h:Inv n P g R W)(hi:i<n)(h0:(R i).FJ=1)(hq:quo n fun j=>O (R i).FS j):∃g',Inv n P g' (upd R i (QhT n (R i))) W:=by
 have hid:=(h.rep i hi).id
 refine⟨_,h.leads hi h0 hq (r:=QhT n (R i)) (fun j hj=>?_) rfl⟩
 simp only[QhT,hid,Bf,O]
 grind
def Inv.voted(h:Inv n P g R W)(hi:i<n)(hm:m∈W)(hk:m.Z=2)(hto:m.To=i):∃g',Inv n P g' (upd R i (Qae n (R i) m)) W:=by
 unfold Qae
 split
 .exact⟨g,h.fol hi⟩
 split
 .exact⟨g,by rw[Qqs];exact h⟩
 .next x y=>
  have y1:(R i).FJ=1:=CK fun z=>y (.inl z)
  have y2:m.T=(R i).T:=CK fun z=>y (.inr (.inl z))
  have y3:m.OK=true:=by cases z:m.OK with|true=>rfl|false=>exact absurd (.inr (.inr z)) y
  have hv:=(h.msg m hm).voted hk y3
  rw[hto,Bf,y2]at hv
  have h1:Inv n P g (upd R i { R i with FS:=(R i).FS.set m.v.toNat true }) W:=by
   refine h.votes hi y1 (fun j hj e=>?_) rfl
   by_cases e2:j=m.v.toNat
   .simp_all
   .refine .inl ?_
    rw[<-e]
    simp[O,CA,Ak e2]
  split
  .next z=>
   have:=h1.lead hi (by rw[V6];exact y1) (by rw[V6];exact z)
   rwa [V6,Qnb]at this
  .exact⟨g,h1⟩
def Vi:Y D.n->Y D.n->Nat
 |x::l,y::e=>if x.T=y.T then Vi l e+1 else 0
 |_,_=>0
def QeS:∀{L E:Y D.n},Vi L E<=E.length/\Vi L E<=L.length
 |[],E=>by simp[Vi]
 |_::_,[]=>by simp[Vi]
 |x::l,y::e=>by
  have:=QeS (L:=l) (E:=e)
  simp only[Vi];split<;>simp<;>omega
def Qm1:∀{L E:Y D.n} {x:Nat},x<Vi L E->trm L x=trm E x
 |[],E,x,h=>by simp[Vi]at h
 |_::_,[],x,h=>by simp[Vi]at h
 |a::l,b::e,x,h=>by
  simp only[Vi]at h
  split at h
  .next q=>
   cases x with
   |zero=>exact q
   |succ x=>exact Qm1 (L:=l) (E:=e) (x:=x) U
  .omega
def Qm0:∀{L E:Y D.n},Vi L E<E.length->L.length<=Vi L E\/trm L (Vi L E)≠trm E (Vi L E)
 |[],E,h=>.inl Ob
 |_::_,[],h=>by simp[Vi]at h
 |a::l,b::e,h=>by
  by_cases q:a.T=b.T
  .have e1:Vi (a::l) (b::e)=Vi l e+1:=by simp[Vi,q]
   rw[e1]at h |-
   rcases Qm0 (L:=l) (E:=e) (by simp at h;omega)with x|x
   .exact .inl (by simp;omega)
   .exact .inr x
  .have e1:Vi (a::l) (b::e)=0:=by simp[Vi,q]
   rw[e1];exact .inr q
def Qqr:trm (L.drop p) x=trm L (p+x):=by
 show D.n.T (O _ _)=D.n.T (O _ _)
 congr 1;simp[O,Ap]
def QcJ(L:Y D.n)(p:Nat)(E:Y D.n):Y D.n×Nat:=if Vi (L.drop p) E=E.length then(L,L.length)else(L.take (p+Vi (L.drop p) E)++E.drop (Vi (L.drop p) E),p+Vi (L.drop p) E)
def hrdV(r:D.N)(m:D.d):D.N:=if (folV r m.T).FJ=1/\(folV r m.T).T=m.T then{ folV r m.T with FJ:=0,FS:=[] }else folV r m.T
def Inv.step{n:Nat}{P:D.Op->Prop}{g:Gh}{R:Nat->D.N}{W:Y D.d}{m:D.d}{i:Nat}(h:Inv n P g R W)(hi:i<n):Inv n P g (upd R i (hrdV (R i) m)) W:=by
 have h1:=h.fol (t:=m.T) hi
 unfold hrdV
 split
 .have:=h1.quiet (r:={ folV (R i) m.T with FJ:=0,FS:=[] }) hi (by rw[V6]) (by rw[V6]) (by rw[V6]) (by rw[V6]) (by rw[V6]) rfl
  rwa [Qnb]at this
 .exact h1
def Inv.refuse(h:Inv n P g R W)(hi:i<n)(hm:m∈W)(hto:m.To=i):Inv n P g (upd R i (hrdV (R i) m)) (W++[⟨4,(R i).S,m.v,(hrdV (R i) m).T,0,0,0,[],false⟩]):=by
 have hid:=(h.rep i hi).id
 refine(h.step hi).add fun x hx=>?_
 rw[Ae.1 hx]
 refine⟨⟨?_,?_⟩,(h.msg m hm).from0,?_,fun e=>?_,fun e=>?_,fun e=>?_,fun _ e=>nomatch e⟩
 .simp_all
 .simp_all
 .show(hrdV (R i) m).T<=tm _ (R i).S.toNat
  rw[hid,Bf,tm_i];exact Ai _
 .simp_all
 .simp_all
 .simp_all
def Inv.take(h:Inv n P g R W)(hi:i<n)(hm:m∈W)(hk:m.Z=3)(hto:m.To=i)(h0:(hrdV (R i) m).FJ≠2)(ht:m.T=(hrdV (R i) m).T)(hp:m.FA<=(hrdV (R i) m).l.length)(hpt:m.FA=0\/trm (hrdV (R i) m).l (m.FA.toNat - 1)=m.Fc)(hkeep:(hrdV (R i) m).h<=(QcJ (hrdV (R i) m).l m.FA.toNat m.x).2)(h1:r={ hrdV (R i) m with l:=(QcJ (hrdV (R i) m).l m.FA.toNat m.x).1,h:=max (hrdV (R i) m).h (min m.h (m.FA+m.x.length)) }):
  ∃g',Inv n P g' (upd R i r) (W++[⟨4,(R i).S,m.v,(hrdV (R i) m).T,m.FA+m.x.length,0,0,[],true⟩]):=by
 have hid:=(h.rep i hi).id
 have hI:=h.step (m:=m) hi
 have hm1:=hI.msg m hm
 obtain⟨a1,a2,a3,a4,a5,a6,a7⟩:=hm1.app hk
 obtain⟨o,ho⟩:∃o,o=hrdV (R i) m:=⟨_,rfl⟩
 have hr:=hI.rep i hi
 rw[V6]at hr
 rw[<-ho]at hI hm1 h0 ht hp hpt hkeep h1 hr |-
 have hr1:o.FJ≠1:=by
  rw[ho]
  rw[ho]at ht
  unfold hrdV at ht |-
  split
  .show(0:Int)≠1;decide
  .next x=>intro y;rw[iA x]at ht;exact x ⟨y,ht.symm⟩
 have sl:=QeS (L:=o.l.drop m.FA.toNat) (E:=m.x)
 have hpn:m.FA.toNat<=o.l.length:=U
 have hcc:min m.h (m.FA+m.x.length)=min m.h ((m.FA.toNat+m.x.length:Nat):Int):=by rw[Int.natCast_add,QuG a2]
 have dl:(o.l.drop m.FA.toNat).length=o.l.length - m.FA.toNat:=Ob
 have:=hI.accept (r:=r) (s:=Vi (o.l.drop m.FA.toNat) m.x) hi hm1 hk (by rw[V6];exact ht.symm) (by rw[V6];exact⟨hr1,h0⟩) (by rw[V6];exact hpn) (by
   rw[V6]
   exact hpt.elim (fun x=>.inl U) fun x=>.inr x) sl.1 (fun x hx=>by
   rw[V6]
   exact⟨U,by rw[<-Qqr];exact Qm1 hx⟩) (by
   rw[V6,h1]
   unfold QcJ at hkeep |-
   split
   .next x=>exact .inl ⟨x,rfl⟩
   .next x=>
    rw[iA x]at hkeep
    refine .inr ⟨U,?_,rfl,?_⟩
    .rcases Qm0 (L:=o.l.drop m.FA.toNat) (E:=m.x) U with y|y
     .exact .inl U
     .exact .inr (by rw[<-Qqr];exact y)
    .have hkeep:o.h<=((m.FA.toNat+Vi (o.l.drop m.FA.toNat) m.x:Nat):Int):=hkeep
     omega) (by rw[V6,h1,hcc]) (by rw[V6,h1])
 rw[Qnb]at this
 obtain⟨g2,g3⟩:=this
 refine⟨_,g2.add fun x hx=>?_⟩
 rw[Ae.1 hx]
 have rt:r.T=o.T:=by rw[h1]
 refine⟨⟨?_,?_⟩,(h.msg m hm).from0,?_,fun e=>?_,fun e=>?_,fun e=>?_,fun _ _=>?_⟩
 .show 0<=(R i).S;omega
 .show(R i).S<n;omega
 .show o.T<=tm _ (R i).S.toNat
  rw[hid,Bf,tm_i,rt];exact Ai _
 .have e:(4:Int)=1:=e;omega
 .have e:(4:Int)=2:=e;omega
 .have e:(4:Int)=3:=e;omega
 .show m.FA+m.x.length<=(((g.setA i m.T (m.FA.toNat+m.x.length)).ack (R i).S.toNat o.T:Nat):Int)
  rw[hid,Bf,<-ht];omega
end
open Go AM
def topV(P:Nat->AH)(lo:Nat):Nat->Nat
 |0=>lo
 |k+1=>if lo<k+1 then(if P (k+1)then k+1 else topV P lo k)else lo
def Qm9:∀{k:Nat},topV P lo k=lo\/(lo<topV P lo k/\topV P lo k<=k/\P (topV P lo k)=true)
 |0=>.inl rfl
 |k+1=>by
  unfold topV
  split
  .split
   .next a b=>exact .inr ⟨a,AN _,b⟩
   .rcases Qm9 (P:=P) (lo:=lo) (k:=k)with x|⟨x,y,z⟩
    .exact .inl x
    .exact .inr ⟨x,U,z⟩
  .exact .inl rfl
def Qch(r:D.N)(m:D.d):Y Int:=r.FE.set m.v.toNat (max (O r.FE m.v.toNat) m.FA)
def Qj9(n:Nat)(r:D.N)(M:Y Int)(k:Nat):AH:=decide (n / 2+1<=(List.range n).countP fun j=>decide ((k:Int)<=O M j)) && decide (trm r.l (k - 1)=r.T)
def QaL(n:Nat)(r:D.N)(m:D.d):D.N:=
 if r.T<m.T then folV r m.T
 else if r.FJ≠2\/m.T≠r.T\/m.OK=false\/m.FA<0\/(r.l.length:Int)<m.FA then r
 else{ r with FE:=Qch r m,h:=(topV (Qj9 n r (Qch r m)) r.h.toNat r.l.length:Nat) }
def VQ(n:Nat)(r:D.N):D.N:={ r with T:=r.T+1,FJ:=1,Fe:=r.S,FE:=[],FS:=(List.replicate n false).set r.S.toNat true }
def prpV(n:Nat)(r:D.N)(o:D.Op):D.N:={ r with l:=r.l++[⟨r.T,o⟩],FE:=r.FE.set r.S.toNat (r.l.length+1),h:=if n / 2+1=1 then r.l.length+1 else r.h }
def Qww(r:D.N):D.N:={ r with FJ:=0,FS:=[],FE:=[] }
section
def Qpx[AK α]{l:Y α}{x:α}(h:j≠i):O (l.set i x) j=O l j:=by simp[O,CA,Ak h]
def Qta[AK α]{l:Y α}{x:α}(h:i<l.length):O (l.set i x) i=x:=by simp[O,h]
def Inv.acked(h:Inv n P g R W)(hi:i<n)(hm:m∈W)(hk:m.Z=4)(hto:m.To=i)(hml:(R i).FJ=2->(R i).FE.length=n):∃g',Inv n P g' (upd R i (QaL n (R i) m)) W:=by
 unfold QaL
 split
 .exact⟨g,h.fol hi⟩
 split
 .exact⟨g,by rw[Qqs];exact h⟩
 .next x y=>
  have y1:(R i).FJ=2:=CK fun z=>y (.inl z)
  have y2:m.T=(R i).T:=CK fun z=>y (.inr (.inl z))
  have y3:m.OK=true:=by cases z:m.OK with|true=>rfl|false=>exact absurd (.inr (.inr (.inl z))) y
  have hv:=(h.msg m hm).acked hk y3
  have hf:=(h.msg m hm).from0
  rw[y2]at hv
  have hr:=h.rep i hi
  obtain⟨a,b,d⟩:=hr.ldr y1
  have hc0:=hr.com0
  refine⟨g,h.acks hi y1 (fun j hj=>?_) ?_ rfl⟩
  .show O (Qch (R i) m) j<=_
   unfold Qch
   by_cases e:j=m.v.toNat
   .subst e
    rw[Qta (by rw[hml y1];exact hj)]
    grind
   .rw[Qpx e];exact d j hj
  .rcases Qm9 (P:=Qj9 n (R i) (Qch (R i) m)) (lo:=(R i).h.toNat) (k:=(R i).l.length)with z|⟨z1,z2,z3⟩
   .refine .inl ?_
    grind
   .refine .inr ⟨_,rfl,U,z2,?_,?_⟩
    .simp only[Qj9,bae,BL]at z3;exact z3.2
    .simp only[Qj9,bae,BL]at z3;exact z3.1
def Inv.back(h:Inv n P g R W)(hi:i<n):Inv n P g (upd R i (Qww (R i))) W:=h.quiet hi rfl rfl rfl rfl rfl rfl
def Inv.prop(h:Inv n P g R W)(hi:i<n)(h2:(R i).FJ=2)(hml:(R i).FE.length=n)(hP:P o)(hfr:∀x∈(R i).l,x.Op.S≠o.S):∃g',Inv n P g' (upd R i (prpV n (R i) o)) W:=by
 have hid:=(h.rep i hi).id
 refine⟨_,h.propose hi h2 (e:=⟨(R i).T,o⟩) hP hfr rfl rfl (fun j hj=>?_) ?_ rfl⟩
 .show O ((R i).FE.set _ _) j<=_
  rw[hid,Bf]
  by_cases e:j=i
  .subst e;rw[Qta U,iB rfl];exact Ai _
  .rw[Qpx e,iA e];exact Ai _
 .show(if n / 2+1=1 then _ else _)=_\/_
  split
  .next x=>exact .inr ⟨U,by simp[prpV,x]⟩
  .omega
def Qzt:VZ L=if L.length=0 then 0 else trm L (L.length - 1):=by
 unfold VZ
 simp_all
def Inv.stands{n:Nat}{P:D.Op->Prop}{g:Gh}{R:Nat->D.N}{W zC:Y D.d}{i:Nat}(h:Inv n P g R W)(hi:i<n)(hV:∀m∈zC,m.Z=1/\m.v=i/\0<=m.To/\m.To<n/\m.T=(R i).T+1/\m.FA=(R i).l.length/\m.Fc=VZ (R i).l):∃g',Inv n P g' (upd R i (if n / 2+1=1 then QhT n (VQ n (R i))else VQ n (R i))) (W++zC):=by
 have hid:=(h.rep i hi).id
 have hvs:∀j,j<n->O (VQ n (R i)).FS j=true->j=i:=fun j hj hv=>by
  simp only[VQ,hid,Bf]at hv
  exact CK fun e=>by
   rw[Qpx e]at hv
   simp[O,Eu,hj]at hv
 obtain⟨a,b⟩:=h.stand (r:=VQ n (R i)) (u:=(R i).T+1) hi rfl hvs rfl rfl (by show(R i).S=i;exact hid) rfl rfl rfl
 have c:=a.add (zC:=zC) fun m hm=>by
  obtain⟨x1,x2,x3,x4,x5,x6,x7⟩:=hV m hm
  refine⟨⟨U,U⟩,⟨x3,x4⟩,?_,fun _=>?_,fun e=>U,fun e=>U,fun e=>U⟩
  .rw[x2,Bf,tm_i,x5];exact Ai _
  .rw[x2,Bf,x5,b];exact⟨x6,x7⟩
 split
 .next e=>
  have:=c.lead hi (by rw[V6];rfl) (by
   rw[V6]
   have:n=1:=U
   subst this
   have:i=0:=U
   subst this
   simp[quo,VQ,hid,O])
  rwa [V6,Qnb]at this
 .exact⟨_,c⟩
end
def InvC(n:Nat)(P:D.Op->Prop)(Rs:Y D.N)(W:Y D.d):Prop:=Rs.length=n/\∃g,Inv n P g (O Rs) W
section
def QCl(h:i<Rs.length):upd (O Rs) i r=O (Rs.set i r):=by
 funext j
 by_cases e:j=i
 .subst e;rw[V6,Qta h]
 .rw[QvM e,Qpx e]
def InvC.of(h:InvC n P Rs W)(hi:i<n)(hR:R'=Rs.set i r)(hn:∀g,Inv n P g (O Rs) W->∃g',Inv n P g' (upd (O Rs) i r) zC):InvC n P R' zC:=by
 obtain⟨a,g,b⟩:=h
 obtain⟨g',c⟩:=hn g b
 exact⟨by rw[hR,CM];exact a,g',by rw[hR,<-QCl U];exact c⟩
def InvC.sub(h:InvC n P Rs W)(hs:∀m∈zC,m∈W):InvC n P Rs zC:=⟨h.1,h.2.elim fun g x=>⟨g,x.sub hs⟩⟩
def InvC.mono(h:InvC n P Rs W)(hp:∀o,P o->P' o):InvC n P' Rs W:=⟨h.1,h.2.elim fun g x=>⟨g,x.gh,x.rep,x.msg,fun t e he=>hp _ (x.ops t e he),x.nod⟩⟩
def InvC.log(h:InvC n P Rs W)(hi:i<n):(∀e∈(O Rs i).l,P e.Op)/\((O Rs i).l.map fun e=>e.Op.S).Nodup:=by
 obtain⟨_,g,b⟩:=h
 rcases CO (O Rs i).l.length with z|z
 .simp_all
 .have:=((b.rep i hi).log.last z).1
  refine⟨fun e he=>?_,?_⟩
  .rw[this]at he;exact b.ops _ e (Bq he)
  .rw[this,BR];exact(b.nod _).sublist (EC _ _)
def InvC.id(h:InvC n P Rs W)(hi:i<n):(O Rs i).S=i:=by
 obtain⟨_,g,b⟩:=h
 exact(b.rep i hi).id
def InvC.hear(h:InvC n P Rs W)(hi:i<n)(hm:m∈W)(hk:m.Z=1)(hto:m.To=i)(hne:m.v≠i):InvC n P (Rs.set i (QbG (O Rs i) m).1) (W++[(QbG (O Rs i) m).2]):=
 h.of hi rfl fun g x=>x.hear hi hm hk hto hne
def InvC.voted(h:InvC n P Rs W)(hi:i<n)(hm:m∈W)(hk:m.Z=2)(hto:m.To=i):InvC n P (Rs.set i (Qae n (O Rs i) m)) W:=
 h.of hi rfl fun g x=>x.voted hi hm hk hto
def InvC.refuse(h:InvC n P Rs W)(hi:i<n)(hm:m∈W)(hto:m.To=i):InvC n P (Rs.set i (hrdV (O Rs i) m)) (W++[⟨4,(O Rs i).S,m.v,(hrdV (O Rs i) m).T,0,0,0,[],false⟩]):=
 h.of hi rfl fun g x=>⟨g,x.refuse hi hm hto⟩
def InvC.take(h:InvC n P Rs W)(hi:i<n)(hm:m∈W)(hk:m.Z=3)(hto:m.To=i)(h0:(hrdV (O Rs i) m).FJ≠2)(ht:m.T=(hrdV (O Rs i) m).T)(hp:m.FA<=(hrdV (O Rs i) m).l.length)(hpt:m.FA=0\/trm (hrdV (O Rs i) m).l (m.FA.toNat - 1)=m.Fc)(hkeep:(hrdV (O Rs i) m).h<=(QcJ (hrdV (O Rs i) m).l m.FA.toNat m.x).2):
  InvC n P (Rs.set i { hrdV (O Rs i) m with l:=(QcJ (hrdV (O Rs i) m).l m.FA.toNat m.x).1,h:=max (hrdV (O Rs i) m).h (min m.h (m.FA+m.x.length)) }) (W++[⟨4,(O Rs i).S,m.v,(hrdV (O Rs i) m).T,m.FA+m.x.length,0,0,[],true⟩]):=
 h.of hi rfl fun g x=>x.take hi hm hk hto h0 ht hp hpt hkeep rfl
def InvC.acked(h:InvC n P Rs W)(hi:i<n)(hm:m∈W)(hk:m.Z=4)(hto:m.To=i)(hml:(O Rs i).FJ=2->(O Rs i).FE.length=n):InvC n P (Rs.set i (QaL n (O Rs i) m)) W:=
 h.of hi rfl fun g x=>x.acked hi hm hk hto hml
def InvC.back(h:InvC n P Rs W)(hi:i<n):InvC n P (Rs.set i (Qww (O Rs i))) W:=h.of hi rfl fun g x=>⟨g,x.back hi⟩
def InvC.prop(h:InvC n P Rs W)(hi:i<n)(h2:(O Rs i).FJ=2)(hml:(O Rs i).FE.length=n)(hP:P o)(hfr:∀x∈(O Rs i).l,x.Op.S≠o.S):InvC n P (Rs.set i (prpV n (O Rs i) o)) W:=h.of hi rfl fun g x=>x.prop hi h2 hml hP hfr
def InvC.stands{n:Nat}{P:D.Op->Prop}{Rs:Y D.N}{W zC:Y D.d}{i:Nat}(h:InvC n P Rs W)(hi:i<n)(hV:∀m∈zC,m.Z=1/\m.v=i/\0<=m.To/\m.To<n/\m.T=(O Rs i).T+1/\m.FA=(O Rs i).l.length/\m.Fc=VZ (O Rs i).l):InvC n P (Rs.set i (if n / 2+1=1 then QhT n (VQ n (O Rs i))else VQ n (O Rs i))) (W++zC):=
 h.of hi rfl fun g x=>x.stands hi hV
def appV(r:D.N)(j:Nat):D.d:=⟨3,r.S,j,r.T,O r.FE j,if 0<O r.FE j then trm r.l ((O r.FE j).toNat - 1)else 0,r.h,r.l.drop (O r.FE j).toNat,false⟩
def InvC.beat(h:InvC n P Rs W)(hi:i<n)(h2:(O Rs i).FJ=2)(hM:∀j,j<n->0<=O (O Rs i).FE j/\O (O Rs i).FE j<=(O Rs i).l.length)(hV:∀m∈zC,∃j,j<n/\m=appV (O Rs i) j):InvC n P Rs (W++zC):=by
 obtain⟨a,g,b⟩:=h
 refine⟨a,g,b.add fun m hm=>?_⟩
 obtain⟨j,hj,rfl⟩:=hV m hm
 exact b.sends hi h2 ⟨by show(0:Int)<=j;omega,by show(j:Int)<n;omega⟩ (b.rep i hi).id rfl rfl (hM j hj) rfl (fun x=>iB x) rfl
def comV(r:D.N):Y D.Op:=(r.l.take r.h.toNat).map fun e=>e.Op
def InvC.settled(h:InvC n P Rs W)(hi:i<n)(hj:j<n)(hc:(O Rs i).h<=(O Rs j).h):(comV (O Rs i))=(comV (O Rs j)).take (O Rs i).h.toNat:=by
 obtain⟨a,g,b⟩:=h
 have hr:=b.rep i hi
 have:=b.gh.settled hr.com (b.rep j hj).com U
 unfold comV
 rw[<-BR,CJ,this,show min (O Rs i).h.toNat (O Rs j).h.toNat=(O Rs i).h.toNat by omega]
end
open Go AM
def Grows(r r':D.N):Prop:=r.h<=r'.h/\r'.l.take r.h.toNat=r.l.take r.h.toNat
section
def Grows.same(h:r'.h=r.h)(h2:r'.l=r.l):Grows r r':=⟨U,by rw[h2]⟩
def Grows.trans(h:Grows r r')(h2:Grows r' r''):Grows r r'':=
 ⟨CR h.1 h2.1,(Qdu h2.2 (by have:=h.1;omega)).trans h.2⟩
def Grows.com(h:Grows r r'):(comV r).length<=(comV r').length/\(comV r').take (comV r).length=comV r:=by
 have e:comV r=(comV r').take r.h.toNat:=by
  unfold comV
  rw[<-BR,CJ,show min r.h.toNat r'.h.toNat=r.h.toNat by have:=h.1;omega,h.2]
 grind
def InvC.com_le(h:InvC n P Rs W)(hi:i<n):0<=(O Rs i).h/\(O Rs i).h<=(O Rs i).l.length:=by
 obtain⟨a,g,b⟩:=h
 have hr:=b.rep i hi
 have:=hr.com0
 rcases hr.com with x|⟨_,_,_,_,_,x,_⟩<;>omega
def Grows.fol:Grows r (folV r t):=.same Qpg Qk3
def Qk6:(hrdV r m).h=r.h/\(hrdV r m).l=r.l:=by
 unfold hrdV;split<;>exact⟨Qpg,Qk3⟩
def Grows.hrd:Grows r (hrdV r m):=.same Qk6.1 Qk6.2
def Grows.hear:Grows r (QbG r m).1:=by
 unfold QbG;simp only;split<;>exact .same Qpg Qk3
def Grows.voted:Grows r (Qae n r m):=by
 unfold Qae;split
 .exact .fol
 split
 .exact .same rfl rfl
 split<;>exact .same rfl rfl
def Grows.back:Grows r (Qww r):=.same rfl rfl
def Grows.stands:Grows r (if n / 2+1=1 then QhT n (VQ n r)else VQ n r):=by split<;>exact .same rfl rfl
def Grows.prop(h:0<=r.h/\r.h<=r.l.length):Grows r (prpV n r o):=by
 refine⟨?_,?_⟩
 .simp only[prpV];split<;>omega
 .show(r.l++[_]).take _=_
  grind
def Grows.take(h:0<=r.h/\r.h<=r.l.length)(hk:(hrdV r m).h<=(QcJ (hrdV r m).l m.FA.toNat m.x).2):Grows r { hrdV r m with l:=(QcJ (hrdV r m).l m.FA.toNat m.x).1,h:=max (hrdV r m).h (min m.h (m.FA+m.x.length)) }:=by
 obtain⟨a,b⟩:=Qk6 (r:=r) (m:=m)
 rw[a,b]at hk
 refine⟨by show _<=max _ _;rw[a];omega,?_⟩
 show(QcJ (hrdV r m).l _ _).1.take _=_
 rw[b]
 unfold QcJ at hk |-
 grind
def Grows.acked(h:0<=r.h):Grows r (QaL n r m):=by
 unfold QaL;split
 .exact .fol
 split
 .exact .same rfl rfl
 .refine⟨?_,rfl⟩
  show r.h<=((topV _ _ _:Nat):Int)
  rcases Qm9 (P:=Qj9 n r (Qch r m)) (lo:=r.h.toNat) (k:=r.l.length)with z|⟨z,_⟩<;>omega
end
def Ur(b c:AH)(r:D.N)(m:D.d):D.N×I D.d:=
 if b=false\/m.FA<0\/m.Fc<0\/m.h<0 then(r,none)
 else if m.T=(hrdV r m).T/\(hrdV r m).FJ≠2/\m.FA<=(hrdV r m).l.length/\(m.FA=0\/trm (hrdV r m).l (m.FA.toNat - 1)=m.Fc)then
  if c=false\/((QcJ (hrdV r m).l m.FA.toNat m.x).2:Int)<(hrdV r m).h then(r,none)
  else({ hrdV r m with l:=(QcJ (hrdV r m).l m.FA.toNat m.x).1,h:=max (hrdV r m).h (min m.h (m.FA+m.x.length)) },some ⟨4,r.S,m.v,(hrdV r m).T,m.FA+m.x.length,0,0,[],true⟩)
 else(hrdV r m,some ⟨4,r.S,m.v,(hrdV r m).T,0,0,0,[],false⟩)
def YP(n:Nat)(b c:AH)(r:D.N)(m:D.d):D.N×I D.d:=
 if m.Z=1 then(if b=false then(r,none)else((QbG r m).1,some (QbG r m).2))
 else if m.Z=2 then(if b=false then r else Qae n r m,none)
 else if m.Z=3 then Ur b c r m
 else if m.Z=4 then(if b=false then r else QaL n r m,none)
 else(r,none)
section
def QzX{Rs:Y D.N}{i:Nat}(h:i<Rs.length):Rs.set i (O Rs i)=Rs:=by
 apply Ci
 intro j
 by_cases e:j=i
 .subst e;simp[O,h]
 .grind
def InvC.stay(h:InvC n P Rs W)(hi:i<n)(hs:∀m∈zC,m∈W):InvC n P (Rs.set i (O Rs i)) (zC++[]):=by
 rw[QzX (by rw[h.1];exact hi),Ao];exact h.sub hs
def Qs8{W zC A:Y D.d}(hs:∀m∈zC,m∈W):∀m∈zC++A,m∈W++A:=fun m hm=>(Ah.1 hm).elim (fun x=>Ah.2 (.inl (hs m x))) fun x=>Ah.2 (.inr x)
def InvC.handle(h:InvC n P Rs W)(hi:i<n)(hm:m∈W)(hto:m.To=i)(hne:m.v≠i)(hs:∀m∈zC,m∈W)(hml:(O Rs i).FJ=2->(O Rs i).FE.length=n):InvC n P (Rs.set i (YP n b c (O Rs i) m).1) (zC++(YP n b c (O Rs i) m).2.toList)/\Grows (O Rs i) (YP n b c (O Rs i) m).1:=by
 have hc:=h.com_le hi
 unfold YP
 split
 .next hk=>
  split
  .exact⟨h.stay hi hs,.same rfl rfl⟩
  .exact⟨(h.hear hi hm hk hto hne).sub (Qs8 hs),.hear⟩
 split
 .next hk=>
  simp only[E6]
  split
  .exact⟨h.stay hi hs,.same rfl rfl⟩
  .exact⟨by rw[Ao];exact(h.voted hi hm hk hto).sub hs,.voted⟩
 split
 .next hk=>
  unfold Ur
  split
  .exact⟨h.stay hi hs,.same rfl rfl⟩
  split
  .next x=>
   obtain⟨x1,x2,x3,x4⟩:=x
   split
   .exact⟨h.stay hi hs,.same rfl rfl⟩
   .next y=>
    have y:(hrdV (O Rs i) m).h<=(QcJ (hrdV (O Rs i) m).l m.FA.toNat m.x).2:=Int.not_lt.1 fun z=>y (.inr z)
    exact⟨(h.take hi hm hk hto x2 x1 x3 x4 y).sub (Qs8 hs),.take hc y⟩
  .exact⟨(h.refuse hi hm hto).sub (Qs8 hs),.hrd⟩
 split
 .next hk=>
  simp only[E6]
  split
  .exact⟨h.stay hi hs,.same rfl rfl⟩
  .exact⟨by rw[Ao];exact(h.acked hi hm hk hto hml).sub hs,.acked hc.1⟩
 .exact⟨h.stay hi hs,.same rfl rfl⟩
end
open Go AM
def Qmk:∀{zI:Nat} {l:Y Int},l.Nodup->(∀x∈l,1<=x/\x<=zI)->l.length<=zI
 |0,l,_,hb=>by
  cases l with
  |nil=>simp
  |cons a r=>have:=hb a Ob;omega
 |zI+1,l,h,hb=>by
  by_cases hm:((zI+1:Nat):Int)∈l
  .have h2:(l.erase ((zI+1:Nat):Int)).length<=zI:=Qmk (h.erase _) fun x hx=>by
    have h3:=(h.mem_erase_iff).1 hx
    have:=hb x h3.2
    have h4:x≠((zI+1:Nat):Int):=h3.1
    omega
   rw[E7 hm]at h2
   omega
  .have:=Qmk (zI:=zI) h fun x hx=>by
    have:=hb x hx
    have h4:x≠((zI+1:Nat):Int):=fun e=>hm (e ▸ hx)
    omega
   omega
def Qml:∀{E l:Y Int},l.Nodup->(∀x∈l,x∈E)->l.length<=E.length
 |[],l,_,h=>by
  cases l with
  |nil=>simp
  |cons a r=>exact absurd (h a Ob) Ob
 |a::E,l,h,hb=>by
  by_cases hm:a∈l
  .have h2:(l.erase a).length<=E.length:=Qml (h.erase _) fun x hx=>by
    have h3:=(h.mem_erase_iff).1 hx
    exact(AY.1 (hb x h3.2)).resolve_left h3.1
   rw[E7 hm]at h2
   simp;omega
  .have:=Qml (E:=E) h fun x hx=>(AY.1 (hb x hx)).resolve_left fun e=>hm (e ▸ hx)
   simp;omega
def InvC.short{n:Nat}{P:D.Op->Prop}{Rs:Y D.N}{W:Y D.d}{i zI:Nat}(h:InvC n P Rs W)(hi:i<n)(hP:∀o,P o->1<=o.S/\o.S<=zI):(O Rs i).l.length<=zI:=by
 have:=Qmk (h.log hi).2 (zI:=zI) fun x hx=>by
  obtain⟨e,he,rfl⟩:=BX.1 hx
  exact hP _ ((h.log hi).1 e he)
 simpa using this
def WQ(W:Y D.d):Nat:=(W.map fun m=>if m.Z=1\/m.Z=3 then 2 else 1).sum
def QlR:WQ (zC++W)=WQ zC+WQ W:=by simp[WQ]
def Qy5:WQ W<=2*W.length:=by
 induction W with
 |nil=>simp[WQ]
 |cons m W ih=>simp only[WQ,AR,Cd,Ab]at ih |-;split<;>omega
def QqZ:WQ (W++(YP n b c r m).2.toList)<WQ (m::W):=by
 have e:WQ (m::W)=(if m.Z=1\/m.Z=3 then 2 else 1)+WQ W:=by simp[WQ]
 have e2:WQ (YP n b c r m).2.toList<(if m.Z=1\/m.Z=3 then 2 else 1):=by
  unfold YP
  by_cases h1:m.Z=1
  .rw[iB h1,iB (Or.inl h1)];split<;>simp[WQ,QbG]
  rw[iA h1]
  by_cases h2:m.Z=2
  .rw[iB h2];simp[WQ];split<;>omega
  rw[iA h2]
  by_cases h3:m.Z=3
  .rw[iB h3,iB (Or.inr h3)];unfold Ur
   split
   .simp[WQ]
   split
   .split<;>simp[WQ]
   .simp[WQ]
  rw[iA h3]
  split
  .simp[WQ];split<;>omega
  .simp[WQ];split<;>omega
 rw[QlR,e];omega
end Go.Proofs.YtlllfgmajglnhaaGreat
