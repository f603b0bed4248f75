/-
  What is settled stays settled: every act keeps the beginning of a replica's log up to Commit.
-/
import Derived.Test.YtlllfgmajglnhaaGreatQRowVieE
import Derived.Test.YtlllfgmajglnhaaGreatQRowVieD
set_option maxRecDepth 100000
set_option linter.defProp false
set_option linter.constructorNameAsVariable false
set_option linter.unusedVariables false
set_option linter.unusedSimpArgs false
set_option autoImplicit true
set_option relaxedAutoImplicit true
namespace Go.Proofs.YtlllfgmajglnhaaGreat
open Go AM
section
def Grows(r r':D.N):Prop:=r.h<=r'.h/\r'.l.take r.h.toNat=r.l.take r.h.toNat
section
def Grows.same(h:r'.h=r.h)(h2:r'.l=r.l):Grows r r':=⟨U,by rw[h2]⟩
def Grows.trans(h:Grows r r')(h2:Grows r' r''):Grows r r'':=
 ⟨Cr h.1 h2.1,(Qdx h2.2 (by have:=h.1;omega)).trans h.2⟩
def InvC.com_le(h:InvC n P Rs W)(hi:i<n):0<=(O Rs i).h/\(O Rs i).h<=(O Rs i).l.length:=by
 obtain⟨a,g,b⟩:=h
 have hr:=b.rep i hi
 have:=hr.com0
 rcases hr.com with x|⟨_,_,_,_,_,x,_⟩<;>omega
def Grows.fol:Grows r (folV r t):=.same Qpy Qli
def Qll:(hrdV r m).h=r.h/\(hrdV r m).l=r.l:=by
 unfold hrdV;split<;>exact⟨Qpy,Qli⟩
def Grows.hrd:Grows r (hrdV r m):=.same Qll.1 Qll.2
def Grows.hear:Grows r (QbJ r m).1:=by
 unfold QbJ;simp only;split<;>exact .same Qpy Qli
def Grows.voted:Grows r (Qag n r m):=by
 unfold Qag;split
 .exact .fol
 split
 .exact .same rfl rfl
 split<;>exact .same rfl rfl
def Grows.back:Grows r (QwP r):=.same rfl rfl
def Grows.stands:Grows r (if n / 2+1=1 then Qh1 n (VO n r)else VO n r):=by split<;>exact .same rfl rfl
def Grows.prop(h:0<=r.h/\r.h<=r.l.length):Grows r (prpV n r o):=by
 refine⟨?_,?_⟩
 .simp only[prpV];split<;>omega
 .show(r.l++[_]).take _=_
  grind
def Grows.take(h:0<=r.h/\r.h<=r.l.length)(hk:(hrdV r m).h<=(QcM (hrdV r m).l m.E9.toNat m.x).2):Grows r { hrdV r m with l:=(QcM (hrdV r m).l m.E9.toNat m.x).1,h:=max (hrdV r m).h (min m.h (m.E9+m.x.length)) }:=by
 obtain⟨a,b⟩:=Qll (r:=r) (m:=m)
 rw[a,b]at hk
 refine⟨by show _<=max _ _;rw[a];omega,?_⟩
 show(QcM (hrdV r m).l _ _).1.take _=_
 rw[b]
 unfold QcM at hk |-
 grind
def Grows.acked(h:0<=r.h):Grows r (QaQ n r m):=by
 unfold QaQ;split
 .exact .fol
 split
 .exact .same rfl rfl
 .refine⟨?_,rfl⟩
  show r.h<=((topV _ _ _:Nat):Int)
  rcases Qnq (P:=Qkn n r (Qck r m)) (lo:=r.h.toNat) (k:=r.l.length)with z|⟨z,_⟩<;>omega
end
end
def Uq(b c:AH)(r:D.N)(m:D.e):D.N×I D.e:=
 if b=false\/m.E9<0\/m.Fc<0\/m.h<0 then(r,none)
 else if m.T=(hrdV r m).T/\(hrdV r m).FJ≠2/\m.E9<=(hrdV r m).l.length/\(m.E9=0\/trm (hrdV r m).l (m.E9.toNat - 1)=m.Fc)then
  if c=false\/((QcM (hrdV r m).l m.E9.toNat m.x).2:Int)<(hrdV r m).h then(r,none)
  else({ hrdV r m with l:=(QcM (hrdV r m).l m.E9.toNat m.x).1,h:=max (hrdV r m).h (min m.h (m.E9+m.x.length)) },some ⟨4,r.S,m.v,(hrdV r m).T,m.E9+m.x.length,0,0,[],true⟩)
 else(hrdV r m,some ⟨4,r.S,m.v,(hrdV r m).T,0,0,0,[],false⟩)
def YO(n:Nat)(b c:AH)(r:D.N)(m:D.e):D.N×I D.e:=
 if m.b=1 then(if b=false then(r,none)else((QbJ r m).1,some (QbJ r m).2))
 else if m.b=2 then(if b=false then r else Qag n r m,none)
 else if m.b=3 then Uq b c r m
 else if m.b=4 then(if b=false then r else QaQ n r m,none)
 else(r,none)
section
def QAe{Rs:Y D.N}{i:Nat}(h:i<Rs.length):Rs.set i (O Rs i)=Rs:=by
 apply Ch
 intro j
 by_cases e:j=i
 .subst e;simp[O,h]
 .grind
def InvC.stay(h:InvC n P Rs W)(hi:i<n)(hs:∀m∈zC,m∈W):InvC n P (Rs.set i (O Rs i)) (zC++[]):=by
 rw[QAe (by rw[h.1];exact hi),Ao];exact h.sub hs
def Qtp{W zC A:Y D.e}(hs:∀m∈zC,m∈W):∀m∈zC++A,m∈W++A:=fun m hm=>(Ah.1 hm).elim (fun x=>Ah.2 (.inl (hs m x))) fun x=>Ah.2 (.inr x)
def InvC.handle(h:InvC n P Rs W)(hi:i<n)(hm:m∈W)(hto:m.To=i)(hne:m.v≠i)(hs:∀m∈zC,m∈W)(hml:(O Rs i).FJ=2->(O Rs i).FE.length=n):InvC n P (Rs.set i (YO n b c (O Rs i) m).1) (zC++(YO n b c (O Rs i) m).2.toList)/\Grows (O Rs i) (YO n b c (O Rs i) m).1:=by
 have hc:=h.com_le hi
 unfold YO
 split
 .next hk=>
  split
  .exact⟨h.stay hi hs,.same rfl rfl⟩
  .exact⟨(h.hear hi hm hk hto hne).sub (Qtp hs),.hear⟩
 split
 .next hk=>
  simp only[E5]
  split
  .exact⟨h.stay hi hs,.same rfl rfl⟩
  .exact⟨by rw[Ao];exact(h.voted hi hm hk hto).sub hs,.voted⟩
 split
 .next hk=>
  unfold Uq
  split
  .exact⟨h.stay hi hs,.same rfl rfl⟩
  split
  .next x=>
   obtain⟨x1,x2,x3,x4⟩:=x
   split
   .exact⟨h.stay hi hs,.same rfl rfl⟩
   .next y=>
    have y:(hrdV (O Rs i) m).h<=(QcM (hrdV (O Rs i) m).l m.E9.toNat m.x).2:=Int.not_lt.1 fun z=>y (.inr z)
    exact⟨(h.take hi hm hk hto x2 x1 x3 x4 y).sub (Qtp hs),.take hc y⟩
  .exact⟨(h.refuse hi hm hto).sub (Qtp hs),.hrd⟩
 split
 .next hk=>
  simp only[E5]
  split
  .exact⟨h.stay hi hs,.same rfl rfl⟩
  .exact⟨by rw[Ao];exact(h.acked hi hm hk hto hml).sub hs,.acked hc.1⟩
 .exact⟨h.stay hi hs,.same rfl rfl⟩
end
open Go AM
def Qmz:∀{zI:Nat} {l:Y Int},l.Nodup->(∀x∈l,1<=x/\x<=zI)->l.length<=zI
 |0,l,_,hb=>by
  cases l with
  |nil=>simp
  |cons a r=>have:=hb a Ob;omega
 |zI+1,l,h,hb=>by
  by_cases hm:((zI+1:Nat):Int)∈l
  .have h2:(l.erase ((zI+1:Nat):Int)).length<=zI:=Qmz (h.erase _) fun x hx=>by
    have h3:=(h.mem_erase_iff).1 hx
    have:=hb x h3.2
    have h4:x≠((zI+1:Nat):Int):=h3.1
    omega
   rw[E6 hm]at h2
   omega
  .have:=Qmz (zI:=zI) h fun x hx=>by
    have:=hb x hx
    have h4:x≠((zI+1:Nat):Int):=fun e=>hm (e ▸ hx)
    omega
   omega
def QmA:∀{E l:Y Int},l.Nodup->(∀x∈l,x∈E)->l.length<=E.length
 |[],l,_,h=>by
  cases l with
  |nil=>simp
  |cons a r=>exact absurd (h a Ob) Ob
 |a::E,l,h,hb=>by
  by_cases hm:a∈l
  .have h2:(l.erase a).length<=E.length:=QmA (h.erase _) fun x hx=>by
    have h3:=(h.mem_erase_iff).1 hx
    exact(AY.1 (hb x h3.2)).resolve_left h3.1
   rw[E6 hm]at h2
   simp;omega
  .have:=QmA (E:=E) h fun x hx=>(AY.1 (hb x hx)).resolve_left fun e=>hm (e ▸ hx)
   simp;omega
def InvC.short{n:Nat}{P:D.Op->Prop}{Rs:Y D.N}{W:Y D.e}{i zI:Nat}(h:InvC n P Rs W)(hi:i<n)(hP:∀o,P o->1<=o.S/\o.S<=zI):(O Rs i).l.length<=zI:=by
 have:=Qmz (h.log hi).2 (zI:=zI) fun x hx=>by
  obtain⟨e,he,rfl⟩:=BT.1 hx
  exact hP _ ((h.log hi).1 e he)
 simpa using this
def WP(W:Y D.e):Nat:=(W.map fun m=>if m.b=1\/m.b=3 then 2 else 1).sum
def Ql7:WP (zC++W)=WP zC+WP W:=by simp[WP]
def Qzn:WP W<=2*W.length:=by
 induction W with
 |nil=>simp[WP]
 |cons m W ih=>simp only[WP,AR,Cc,Ab]at ih |-;split<;>omega
def Qri:WP (W++(YO n b c r m).2.toList)<WP (m::W):=by
 have e:WP (m::W)=(if m.b=1\/m.b=3 then 2 else 1)+WP W:=by simp[WP]
 have e2:WP (YO n b c r m).2.toList<(if m.b=1\/m.b=3 then 2 else 1):=by
  unfold YO
  by_cases h1:m.b=1
  .rw[iB h1,iB (Or.inl h1)];split<;>simp[WP,QbJ]
  rw[iA h1]
  by_cases h2:m.b=2
  .rw[iB h2];simp[WP];split<;>omega
  rw[iA h2]
  by_cases h3:m.b=3
  .rw[iB h3,iB (Or.inr h3)];unfold Uq
   split
   .simp[WP]
   split
   .split<;>simp[WP]
   .simp[WP]
  rw[iA h3]
  split
  .simp[WP];split<;>omega
  .simp[WP];split<;>omega
 rw[Ql7,e];omega
section
variable {n fu:Nat} {r:D.N} {m:D.e} {o:D.Op} {L E:Y D.o} {t k x:Int}
def quoV(x:Int):Int:=if inV x 1 5=true then x / 2+1 else 0
def Qie:XX fu x=some (quoV x):=by
 refine Ok.eq ?_
 unfold XX quoV
 refine Ok.oe rin (Ok.ncnd (fun g=>Ok.s ?_) (fun g=>?_))
 .rw[g];rfl
 .have h:=Qt.1 g
  rw[iB g]
  have e:Int.tdiv x 2=x / 2:=Bz U
  rw[e,Qc (x:=x / 2) U,Qc (x:=x / 2+1) U]
  exact Ok.Z (Ok.s rfl)
def QoE(h:1<=n/\n<=5):quoV n=((n / 2+1:Nat):Int):=by
 unfold quoV
 rw[iB (Qt.2 U)];omega
def QDd(h:quoV n≠0):1<=n/\n<=5:=by
 unfold quoV at h
 split at h
 .next g=>have:=Qt.1 g;omega
 .exact absurd rfl h
def Qxn(hl:L.length<=900):Ok (Wg 1000 L t) fun b=>b=true->L.length<=256:=by
 unfold Wg
 refine Ok.loop (fun m x=>∃(i:Nat) (z:Int),x=((L,t,z,(i:Int),()),())/\i<=L.length/\m=L.length - i) (m:=L.length) U ⟨0,1,rfl,U,rfl⟩ ?_
 rintro m x ⟨i,z,rfl,h1,rfl⟩ K hK
 dsimp only
 refine Ok.ite (fun g=>Ok.j ?_) (fun g=>Ok.s fun h=>by have:=BE h;omega)
 have hi:i<L.length:=U
 refine Ok.atn hi (Ok.ite (fun _=>Ok.s Ob) fun _=>Ok.atn hi (Ok.ite (fun _=>Ok.s Ob) fun _=>?_))
 dsimp only
 refine Ok.atn hi ?_
 rw[Qa U]
 exact hK _ _ U ⟨i+1,_,rfl,U,rfl⟩
structure CkR (n:Nat) (r:D.N):Prop where
 sz:1<=n/\n<=5
 id:0<=r.S/\r.S<n
 term:0<=r.T/\r.T<=1048576
 log:r.l.length<=256
 com:0<=r.h/\r.h<=r.l.length
 vote:r.FR.length<=5
 cand:r.FJ=1->r.FR.length=n
 mat:r.FE.length<=5
 ldr:r.FJ=2->r.FE.length=n/\∀j,j<n->0<=O r.FE j/\O r.FE j<=r.l.length
def QwY(hl:r.l.length<=900):Ok (YJ 1000 n r) fun b=>b=true->CkR n r:=by
 unfold YJ
 have no:∀{Q:Prop},false=true->Q:=fun h=>by simp at h
 refine Ok.j (Ok.oe Qie (Ok.ite (fun g=>Ok.s no) fun g=>?_))
 have hn:=QDd g
 rw[Qc (x:=(n:Int) - 1) U]
 refine Ok.oe rin (Ok.J (fun g1=>?_) fun _=>Ok.s no)
 refine Ok.oe rin (Ok.J (fun g2=>?_) fun _=>Ok.s no)
 refine Ok.oe rin (Ok.J (fun g3=>?_) fun _=>Ok.s no)
 refine Ok.opt (Qxn hl) fun b hb=>Ok.J (fun g4=>?_) fun _=>Ok.s no
 refine Ok.oe rin (Ok.J (fun g5=>?_) fun _=>Ok.s no)
 have h1:=Qt.1 g1;have h2:=Qt.1 g2;have h5:=Qt.1 g5;have h4:=hb g4
 dsimp only
 refine Ok.ite (fun r0=>Ok.ite (fun v0=>Ok.ite (fun m0=>Ok.s fun _=>?_) fun _=>Ok.s no) fun _=>Ok.s no) fun r0=>Ok.ite (fun r1=>Ok.ite (fun v1=>Ok.at U U (Ok.J (fun _=>Ok.ite (fun m1=>Ok.s fun _=>?_) fun _=>Ok.s no) fun _=>Ok.s no)) fun _=>Ok.s no) fun r1=>Ok.ite (fun r2=>?_) fun _=>Ok.s no
 .exact⟨hn,U,U,h4,U,U,fun e=>U,U,fun e=>U⟩
 .exact⟨hn,U,U,h4,U,U,fun e=>U,U,fun e=>U⟩
 .refine Ok.j (Ok.ite (fun _=>Ok.s no) fun v2=>Ok.at U U (Ok.J (fun _=>Ok.ite (fun _=>Ok.s no) fun m2=>Ok.at U U (Ok.ite (fun _=>Ok.s no) fun _=>?_)) fun _=>Ok.s no))
  dsimp only
  refine Ok.loop (fun m x=>∃i:Nat,x=(((n:Int),(i:Int),()),r,())/\i<=n/\(∀j,j<i->0<=O r.FE j/\O r.FE j<=r.l.length)/\m=n - i) (m:=n) U ⟨0,rfl,U,fun j hj=>U,rfl⟩ ?_
  rintro m x ⟨i,rfl,i1,i2,rfl⟩ K hK
  dsimp only
  refine Ok.ite (fun g=>Ok.A (Ok.oe rin (Ok.ncnd (fun _=>Ok.s no) fun g6=>?_))) fun g=>Ok.s fun _=>?_
  .rw[Qa U]
   have h6:=Qt.1 g6
   exact hK _ _ U ⟨i+1,rfl,U,fun j hj=>by
    by_cases e:j=i
    .subst e;exact h6
    .exact i2 j U,rfl⟩
  .exact⟨hn,U,U,h4,U,U,fun e=>U,U,fun _=>⟨U,fun j hj=>i2 j U⟩⟩
def CkR.copy(h:CkR n r):Wf fu r=some r:=by
 have h1:=h.log;have h2:=h.vote;have h3:=h.mat
 exact Ok.eq (Ok.L (Ok.L (Ok.L (Ok.s rfl))))
def CkR.copyP(h:CkR n r):QdY fu r=some r:=h.copy (fu:=fu)
def Qum:Qax fu r t=some (folV r t):=by
 refine Ok.eq ?_
 unfold Qax folV
 refine Ok.j (Ok.ite (fun g=>Ok.s ?_) fun g=>Ok.s ?_)
 .rw[iB g]
 .rw[iA g]
def QxH(hn:n<=5)(hid:0<=r.S/\r.S<n):Qjm fu n r=some (Qh1 n r):=by
 refine Ok.eq ?_
 unfold Qjm
 exact Ok.natn (Ok.L (Ok.nat hid.1 (Ok.lt (by simp;omega) (Ok.get (by simp;omega) (Ok.s rfl)))))
def QpD(hl:r.l.length<=900):QeI fu r=some (VX r.l):=by
 refine Ok.eq ?_
 unfold QeI
 rw[QzK]
 refine Ok.ite (fun g=>Ok.s (by rw[iB U])) fun g=>?_
 rw[Qc U]
 refine Ok.at U U (Ok.s ?_)
 simp_all
def Qzw(hl:r.l.length<=900):QdZ fu r m.E9 m.Fc=some (decide (QrC r m)):=by
 refine Ok.eq ?_
 unfold QdZ
 refine Ok.oe (QpD hl) (Ok.ite (fun g=>Ok.s ?_) fun g=>Ok.oe (QpD hl) (Ok.ite (fun g2=>Ok.ite (fun g3=>Ok.s ?_) fun g3=>Ok.s ?_) fun g2=>Ok.s ?_))
 all_goals simp[*,QrC]
structure CkM (n:Nat) (r:D.N) (m:D.e) (k:Int):Prop where
 rep:CkR n r
 kind:m.b=k
 to:m.To=r.S
 from0:0<=m.v/\m.v<n
 ne:m.v≠r.S
 term:1<=m.T/\m.T<=1048576
def AM.Ok.self{α:Type}{o:I α}{Q:α->Prop}(h:Ok o Q):Ok o fun x=>Q x/\o=some x:=by obtain⟨v,e,q⟩:=h;exact⟨v,e,q,e⟩
def QAp(hl:r.l.length<=900):Ok (Qbt 1000 n r m k) fun b=>b=true->CkM n r m k:=by
 unfold Qbt
 have no:∀{Q:Prop},false=true->Q:=fun h=>by simp at h
 refine Ok.opt (QwY hl) fun b hb=>Ok.J (fun g=>?_) fun _=>Ok.s no
 have hc:=hb g
 have hn:=hc.sz
 rw[Qc (x:=(n:Int) - 1) U]
 refine Ok.ite (fun g1=>Ok.ite (fun g2=>Ok.oe rin (Ok.J (fun g3=>Ok.ite (fun g4=>Ok.oe rin (Ok.J (fun g5=>Ok.s fun _=>?_) fun _=>Ok.s no)) fun _=>Ok.s no) fun _=>Ok.s no)) fun _=>Ok.s no) fun _=>Ok.s no
 have h3:=Qt.1 g3
 exact⟨hc,g1,g2,U,g4,Qt.1 g5⟩
def outM(x:D.N×D.e×AH):D.N×I D.e:=(x.1,if x.2.2=true then some x.2.1 else none)
def QBQ(hc:CkR n r):Ok (Qlz 1000 n r m) fun x=>∃b,(b=true->CkM n r m 1)/\(outM x=if b=false then(r,none)else((QbJ r m).1,some (QbJ r m).2))/\Qbt 1000 n r m 1=some b:=by
 have hl:r.l.length<=900:=by have:=hc.log;omega
 unfold Qlz
 refine Ok.opt (QAp hl).self fun b ⟨hb,hto⟩=>Ok.ncnd (fun g=>Ok.oe hc.copy (Ok.s ⟨false,Ob,rfl,by rw[hto,g]⟩)) fun g=>Ok.oe hc.copyP (Ok.oe Qum ?_)
 have hf:(folV r m.T).l.length<=900:=by rw[Qli];exact hl
 refine Ok.TG (fun y=>∃w w',y=((yesV (folV r m.T) m,()),r,m,w,w',folV r m.T,())) (fun y hy=>?_) fun zG hJ=>?_
 .obtain⟨w,w',rfl⟩:=hy
  dsimp only
  refine Ok.TG (fun y=>∃w w',y=((yesV (folV r m.T) m,()),r,m,w,w',(QbJ r m).1,())) (fun y hy=>?_) fun zG hJ=>?_
  .obtain⟨w,w',rfl⟩:=hy
   refine Ok.s ⟨true,fun _=>hb g,?_,by rw[hto,g]⟩
   have:(QbJ r m).1.T=(folV r m.T).T:=by unfold QbJ;simp only;split<;>rfl
   simp only[outM,this];rfl
  .refine Ok.J (fun g=>hJ _ ⟨w,w',?_⟩) fun g=>hJ _ ⟨w,w',?_⟩
   .simp[QbJ,g]
   .simp[QbJ,g]
 .have yes:∀{c:AH} {w:D.N} {w':D.e},yesV (folV r m.T) m=c->Ok (zG ((c,()),r,m,w,w',folV r m.T,())) fun x=>∃b,(b=true->CkM n r m 1)/\(outM x=if b=false then(r,none)else((QbJ r m).1,some (QbJ r m).2))/\Qbt 1000 n r m 1=some b:=fun h=>hJ _ ⟨_,_,by rw[h]⟩
  have fr:∀{w:D.N} {w':D.e},(folV r m.T).T=m.T->((folV r m.T).Fe = -1\/(folV r m.T).Fe=m.v)->(folV r m.T).FJ=0->Ok (V (QdZ 1000 (folV r m.T) m.E9 m.Fc) fun c=>J c (zG ((true,()),r,m,w,w',folV r m.T,())) (zG ((false,()),r,m,w,w',folV r m.T,()))) fun x=>∃b,(b=true->CkM n r m 1)/\(outM x=if b=false then(r,none)else((QbJ r m).1,some (QbJ r m).2))/\Qbt 1000 n r m 1=some b:=fun h1 h2 h3=>Ok.oe (Qzw hf) (Ok.J (fun g=>yes (Au ⟨h1,h2,h3,BE g⟩)) fun g=>yes (Av fun h=>BG g h.2.2.2))
  refine Ok.ite (fun g1=>Ok.ite (fun g2=>Ok.ite (fun g4=>fr g1 (.inl g2) g4) fun g4=>yes (Av fun h=>g4 h.2.2.1)) fun g2=>Ok.ite (fun g3=>Ok.ite (fun g4=>fr g1 (.inr g3) g4) fun g4=>yes (Av fun h=>g4 h.2.2.1)) fun g3=>yes (Av fun h=>h.2.1.elim g2 g3)) fun g1=>yes (Av fun h=>g1 h.1)
def Vj{P:Nat->AH}{i:Nat}:(List.range (i+1)).countP P=(List.range i).countP P+(if P i=true then 1 else 0):=by
 rw[List.range_succ,List.countP_append];simp[List.countP_cons]
def QfG{P:Nat->AH}{i:Nat}:(List.range i).countP P<=i:=by
 have:=List.countP_le_length (p:=P) (l:=List.range i);simpa using this
def QAw(hc:CkR n r):Ok (Qjl 1000 n r m) fun x=>∃b,(b=true->CkM n r m 2)/\(x=if b=false then r else Qag n r m)/\Qbt 1000 n r m 2=some b:=by
 have hl:r.l.length<=900:=by have:=hc.log;omega
 have hn:=hc.sz
 unfold Qjl
 refine Ok.oe hc.copy (Ok.opt (QAp hl).self fun b ⟨hb,hto⟩=>Ok.ncnd (fun g=>Ok.s ⟨false,Ob,rfl,by rw[hto,g]⟩) fun g=>?_)
 have hm:=hb g
 have fin:∀y,y=Qag n r m->∃b,(b=true->CkM n r m 2)/\(y=if b=false then r else Qag n r m)/\Qbt 1000 n r m 2=some b:=fun y h=>⟨true,fun _=>hm,by rw[h];rfl,by rw[hto,g]⟩
 refine Ok.ite (fun g1=>Ok.oe Qum (Ok.s (fin _ (by unfold Qag;rw[iB g1])))) fun g1=>Ok.j (Ok.ite (fun g2=>Ok.s (fin _ (by unfold Qag;rw[iA g1,iB (.inl g2)]))) fun g2=>Ok.ite (fun g3=>Ok.s (fin _ (by unfold Qag;rw[iA g1,iB (.inr (.inl g3))]))) fun g3=>Ok.J (fun g4=>?_) fun g4=>Ok.s (fin _ (by unfold Qag;rw[iA g1,iB (.inr (.inr g4))])))
 have e2:r.FJ=1:=Ag.1 g2
 have e3:m.T=r.T:=Ag.1 g3
 have hv:=hc.cand e2
 have hfm:=hm.from0
 dsimp only
 refine Ok.nat hfm.1 (Ok.E (Ok.G ?_))
 obtain⟨zC,hV⟩:∃zC,zC=r.FR.set m.v.toNat true:=⟨_,rfl⟩
 have hVl:zC.length=n:=by rw[hV,CL];exact hv
 rw[<-hV]
 have hres:Qag n r m=if n / 2+1<=(List.range n).countP (fun j=>O zC j)then Qh1 n { r with FR:=zC }else{ r with FR:=zC }:=by
  unfold Qag
  rw[iA g1,iA (by simp[e2,e3,g4]),<-hV]
 refine Ok.run n (fun i=>(((n:Int),(((List.range i).countP fun j=>O zC j:Nat):Int),(i:Int),()),D.N.mk 0 0 0 0 [] 0 [] [],(r.S,r.T,r.Fe,r.FJ,r.h,()),r.l,zC,r.FE,())) rfl U (fun i hi K hK=>?_) (fun K=>?_)
 .have hcl:=QfG (P:=fun j=>O zC j) (i:=i)
  dsimp only
  refine Ok.P (Ok.j (Ok.natn (Ok.E (Ok.G (Ok.J (fun g5=>?_) fun g5=>?_)))))
  .dsimp only at hK |-
   rw[Vj,iB g5]at hK
   rw[Qa U,Qa U]
   exact hK
  .dsimp only at hK |-
   rw[Vj,iA (by simp[g5])]at hK
   rw[Qa U]
   exact hK
 .dsimp only
  refine Ok.N (Ok.j (Ok.oe Qie ?_))
  rw[QoE hn]
  refine Ok.ite (fun g5=>Ok.oe (QxH (r:=D.N.mk r.S r.T r.Fe r.FJ r.l r.h zC r.FE) hn.2 hc.id) (Ok.s (fin _ ?_))) fun g5=>Ok.s (fin _ ?_)
  .rw[hres,iB U]
  .rw[hres,iA U]
def QAh(hl:r.l.length<=900):Ok (Qjj 1000 n r) fun x=>(x.2.2=0->CkR n r/\r.T<1048576/\x.1=(if n / 2+1=1 then Qh1 n (VO n r)else VO n r)/\x.2.1.length<=5/\(∀m∈x.2.1,m.b=1/\m.v=r.S/\0<=m.To/\m.To<n/\m.T=r.T+1/\m.E9=r.l.length/\m.Fc=VX r.l/\m.x=[]/\m.To≠r.S)/\∀j:Nat,j<n->(j:Int)≠r.S->∃m∈x.2.1,m.To=j)/\(YJ 1000 n r=some true->r.T<1048576->x.2.2=0):=by
 unfold Qjj
 refine Ok.opt (QwY hl).self fun b ⟨hb,hbe⟩=>Ok.ncnd (fun g=>Ok.s ⟨fun e=>by simp at e,fun e=>by rw[hbe,g]at e;simp at e⟩) fun g=>Ok.ite (fun g1=>Ok.s ⟨fun e=>by simp at e,fun _ e=>U⟩) fun g1=>?_
 have hc:=hb g
 have hn:=hc.sz;have hid:=hc.id;have ht:=hc.term
 refine Ok.oe hc.copy (Ok.natn (Ok.L (Ok.nat hid.1 (Ok.lt (by simp;omega) (Ok.get (by simp;omega) ?_)))))
 rw[Qc (x:=r.T+1) U]
 refine Ok.TG (fun y=>∃R z,y=(((n:Int),()),r,z,R,())/\R.T=r.T+1/\R=(if n / 2+1=1 then Qh1 n (VO n r)else VO n r)) (fun y hy=>?_) fun zG hJ=>Ok.oe Qie (by
  rw[QoE hn]
  exact Ok.ite (fun g2=>Ok.oe (QxH (r:=VO n r) hn.2 hid) (hJ _ ⟨_,_,rfl,rfl,by rw[iB U]⟩)) fun g2=>hJ _ ⟨_,_,rfl,rfl,by rw[iA U];rfl⟩)
 obtain⟨R,z,rfl,hR,hR2⟩:=hy
 dsimp only
 refine Ok.loop (fun m x=>∃(i:Nat) (zC:Y D.e),x=(((n:Int),(i:Int),()),r,z,R,zC,())/\i<=n/\zC.length<=i/\((∀m∈zC,m.b=1/\m.v=r.S/\0<=m.To/\m.To<n/\m.T=r.T+1/\m.E9=r.l.length/\m.Fc=VX r.l/\m.x=[]/\m.To≠r.S)/\∀j:Nat,j<i->(j:Int)≠r.S->∃m∈zC,m.To=j)/\m=n - i) (m:=n) U ⟨0,[],rfl,U,Ob,⟨Ob,fun j hj=>absurd hj U⟩,rfl⟩ ?_
 rintro m x ⟨i,zC,rfl,i1,i2,⟨i3,i4⟩,rfl⟩ K hK
 dsimp only
 refine Ok.ite (fun g=>Ok.j (Ok.ite (fun g2=>Ok.oe (QpD hl) (Ok.LS ?_)) fun g2=>?_)) fun g=>Ok.s ⟨fun _=>⟨hc,U,hR2,by dsimp only;omega,i3,fun j hj=>i4 j U⟩,fun _ _=>rfl⟩
 .dsimp only
  rw[Qa U]
  refine hK _ _ U ⟨i+1,_,rfl,U,by simp;omega,⟨fun m hm=>?_,fun j hj hne=>?_⟩,rfl⟩
  .rcases Ah.1 hm with hm|hm
   .exact i3 m hm
   .rw[Ae.1 hm];exact⟨rfl,rfl,by dsimp only;omega,by dsimp only;omega,hR,rfl,rfl,rfl,g2⟩
  .by_cases e:j=i
   .subst e;exact⟨_,Ah.2 (.inr (Ae.2 rfl)),rfl⟩
   .obtain⟨m,m1,m2⟩:=i4 j U hne
    exact⟨m,Ah.2 (.inl m1),m2⟩
 .dsimp only
  rw[Qa U]
  exact hK _ _ U ⟨i+1,_,rfl,U,U,⟨i3,fun j hj hne=>i4 j U hne⟩,rfl⟩
end
open Go AM
section
def QvU(h:i<=Vf L E)(h1:i<L.length)(h2:i<E.length)(h3:trm L i=trm E i):i+1<=Vf L E:=by
 rcases BC i (Vf L E)with g|g
 .exact g
 .have e:Vf L E=i:=U
  rcases Qnh (L:=L) (E:=E) U with y|y
  .omega
  .simp_all
def QvV(h:i<=Vf L E)(h2:i<E.length)(h3:L.length<=i\/trm L i≠trm E i):Vf L E=i:=by
 have h4:=(QeV (L:=L) (E:=E)).2
 rcases BC i (Vf L E)with g|g
 .rcases h3 with y|y
  .omega
  .exact absurd (Qni g) y
 .omega
def Qxz{L E:Y D.o}{p:Nat}(hl:L.length<=900)(he:E.length<=900)(hp:p<=L.length):Qg8 1000 L (p:Int) E=some ((QcM L p E).1,((QcM L p E).2:Int)):=by
 have hdl:(L.drop p).length=L.length - p:=Ob
 have stop:∀{i:Nat},i<E.length->i<=Vf (L.drop p) E->((L.drop p).length<=i\/trm (L.drop p) i≠trm E i)->QcM L p E=(L.take (p+i)++E.drop i,p+i)/\p+i<=L.length:=fun{i} h1 h2 h3=>by
  have e:=QvV h2 h1 h3
  have h4:=(QeV (L:=L.drop p) (E:=E)).2
  unfold QcM
  grind
 refine Ok.eq ?_
 unfold Qg8
 refine Ok.loop (fun m x=>∃i:Nat,x=((L,(p:Int),E,(i:Int),()),())/\i<=E.length/\i<=Vf (L.drop p) E/\m=E.length - i) (m:=E.length) U ⟨0,rfl,U,U,rfl⟩ ?_
 rintro m x ⟨i,rfl,i1,i2,rfl⟩ K hK
 dsimp only
 have hs:=(QeV (L:=L.drop p) (E:=E)).2
 refine Ok.ite (fun g=>?_) (fun g=>?_)
 .rw[Qc (x:=(p:Int)+i) U]
  refine Ok.j (Ok.ite (fun g2=>?_) fun g2=>?_)
  .obtain⟨e,e2⟩:=stop (i:=i) U i2 (.inl U)
   have e3:min ((p:Int)+i) (L.length:Int)=((p+i:Nat):Int):=U
   rw[e3,e]
   exact Ok.natn (Ok.TO e2 (Ok.LS (Ok.natn (Ok.L (Ok.LS (Ok.s rfl))))))
  .refine Ok.at U U (Ok.A ?_)
   have et:(O L ((p:Int)+i).toNat).T=trm (L.drop p) i:=by
    rw[QqK];show(O L _).T=(O L _).T;congr 2<;>omega
   rw[et]
   refine Ok.ite (fun g3=>?_) fun g3=>?_
   .obtain⟨e,e2⟩:=stop (i:=i) U i2 (.inr g3)
    have e3:min ((p:Int)+i) (L.length:Int)=((p+i:Nat):Int):=U
    rw[e3,e]
    exact Ok.natn (Ok.TO e2 (Ok.LS (Ok.natn (Ok.L (Ok.LS (Ok.s rfl))))))
   .dsimp only
    rw[Qa U]
    exact hK _ _ U ⟨i+1,rfl,U,QvU i2 U U (Ag.1 g3),rfl⟩
 .have e:QcM L p E=(L,L.length):=by
   have:=(QeV (L:=L.drop p) (E:=E)).1
   unfold QcM;rw[iB U]
  rw[e]
  exact Ok.L (Ok.s rfl)
def Qwr(hc:CkR n r)(he:m.x.length<=600):Ok (Qg7 1000 n r m) fun x=>∃b c,(b=true->CkM n r m 3)/\outM x=Uq b c r m/\Qbt 1000 n r m 3=some b/\(c=false->Wg 1000 (QcM (hrdV r m).l m.E9.toNat m.x).1 m.T=some false):=by
 have hl:r.l.length<=256:=hc.log
 unfold Qg7
 refine Ok.j (Ok.opt (QAp U).self fun b ⟨hb,hto⟩=>?_)
 have none:∀{z:D.e},(b=false\/m.E9<0\/m.Fc<0\/m.h<0)->Ok (V (Wf 1000 r) fun a=>some (a,z,false)) fun x=>∃b c,(b=true->CkM n r m 3)/\outM x=Uq b c r m/\Qbt 1000 n r m 3=some b/\(c=false->Wg 1000 (QcM (hrdV r m).l m.E9.toNat m.x).1 m.T=some false):=fun{z} hn=>Ok.oe hc.copy (Ok.s ⟨b,true,hb,by unfold Uq;rw[iB hn];rfl,hto,Ob⟩)
 refine Ok.J (fun g=>?_) fun g=>none (.inl g)
 have hm:=hb g
 rw[g]at hto
 refine Ok.ite (fun z=>none (.inr (.inl z))) fun p1=>Ok.ite (fun z=>none (.inr (.inr (.inl z)))) fun p2=>Ok.ite (fun z=>none (.inr (.inr (.inr z)))) fun p3=>?_
 dsimp only
 have hn0:¬(true=false\/m.E9<0\/m.Fc<0\/m.h<0):=by simp;omega
 refine Ok.oe hc.copyP (Ok.oe Qum (Ok.TG (fun y=>∃w w',y=((),r,m,w,w',hrdV r m,())) (fun y hy=>?_) fun zG hJ=>?_))
 .obtain⟨w,w',rfl⟩:=hy
  dsimp only
  obtain⟨z,hz⟩:∃z,z=hrdV r m:=⟨_,rfl⟩
  have hzl:z.l.length=r.l.length:=by rw[hz,Qll.2]
  rw[<-hz]
  clear hb none
  refine Ok.TG (fun y=>∃b w w',y=((b,()),r,m,w,w',z,())/\(b=true↔(m.T=z.T/\z.FJ≠2/\m.E9<=z.l.length/\(m.E9=0\/trm z.l (m.E9.toNat - 1)=m.Fc)))) (fun y hy=>?_) fun zG hJ=>?_
  .obtain⟨b,w,w',rfl,hb⟩:=hy
   dsimp only
   refine Ok.ncnd (fun g=>Ok.s ⟨true,true,fun _=>hm,?_,hto,Ob⟩) fun g=>?_
   .unfold Uq
    rw[iA hn0,<-hz,iA (fun h=>by rw[hb.2 h]at g;simp at g)];rfl
   .have hon:=hb.1 g
    have hj:=Qxz (p:=m.E9.toNat) (L:=z.l) (E:=m.x) U U U
    rw[show(m.E9.toNat:Int)=m.E9 by omega]at hj
    have hjl:(QcM z.l m.E9.toNat m.x).1.length<=900:=by
     unfold QcM;split
     .dsimp only;omega
     .have:=(QeV (L:=z.l.drop m.E9.toNat) (E:=m.x)).1
      simp;omega
    refine Ok.oe hj (Ok.j (Ok.opt (Qxn hjl).self fun c ⟨_,hft⟩=>Ok.J (fun g2=>Ok.ite (fun g3=>Ok.oe hc.copy (Ok.s ⟨true,true,fun _=>hm,?_,hto,Ob⟩)) fun g3=>Ok.s ⟨true,true,fun _=>hm,?_,hto,Ob⟩) fun g2=>Ok.oe hc.copy (Ok.s ⟨true,false,fun _=>hm,?_,hto,fun _=>by rw[hft,g2]⟩)))
    .unfold Uq
     rw[iA hn0,<-hz,iB hon,iB (.inr g3)];rfl
    .unfold Uq
     simp only[outM,if_true]
     rw[iA hn0,<-hz,iB hon,iA (by simp;omega),Qc U]
    .unfold Uq
     rw[iA hn0,<-hz,iB hon,iB (.inl rfl)];rfl
  .refine Ok.ite (fun g1=>Ok.ite (fun g2=>Ok.ite (fun g3=>Ok.ite (fun g4=>hJ _ ⟨_,_,_,rfl,by simp[g1,g2,g3,g4]⟩) fun g4=>?_) fun g3=>hJ _ ⟨_,_,_,rfl,by simp[g3]⟩) fun g2=>hJ _ ⟨_,_,_,rfl,by simp[g2]⟩) fun g1=>hJ _ ⟨_,_,_,rfl,by simp[g1]⟩
   rw[Qc U]
   refine Ok.at U U ?_
   have et:(O z.l (m.E9 - 1).toNat).T=trm z.l (m.E9.toNat - 1):=by
    show(O z.l _).T=(O z.l _).T
    congr 2;omega
   rw[et]
   exact Ok.ite (fun g5=>hJ _ ⟨_,_,_,rfl,by simp[g1,g2,g3,g5]⟩) fun g5=>hJ _ ⟨_,_,_,rfl,by simp[g4,g5]⟩
 .exact Ok.ite (fun a=>Ok.ite (fun b=>hJ _ ⟨_,_,by simp[hrdV,a,b];exact⟨rfl,rfl⟩⟩) fun b=>hJ _ ⟨_,_,by simp[hrdV,a,b];exact⟨rfl,rfl⟩⟩) fun a=>hJ _ ⟨_,_,by simp[hrdV,a];exact⟨rfl,rfl⟩⟩
def QyJ(h:lo<k)(hp:P k=false):topV P lo k=topV P lo (k - 1):=by
 obtain⟨k,rfl⟩:∃j,k=j+1:=⟨k - 1,U⟩
 conv=>lhs;unfold topV
 rw[iB h,hp];rfl
def QAr(h:lo<k)(hp:P k=true):topV P lo k=k:=by
 obtain⟨k,rfl⟩:∃j,k=j+1:=⟨k - 1,U⟩
 unfold topV
 rw[iB h,hp];rfl
def QAq(h:k<=lo):topV P lo k=lo:=by
 cases k with
 |zero=>rfl
 |succ k=>unfold topV;rw[iA U]
def Qy2(hc:CkR n r):Ok (Qda 1000 n r m) fun x=>∃b,(b=true->CkM n r m 4)/\(x=if b=false then r else QaQ n r m)/\Qbt 1000 n r m 4=some b:=by
 have hl:r.l.length<=256:=hc.log
 have hn:=hc.sz;have hcom:=hc.com
 unfold Qda
 refine Ok.oe hc.copy (Ok.opt (QAp U).self fun b ⟨hb,hto⟩=>Ok.ncnd (fun g=>Ok.s ⟨false,Ob,rfl,by rw[hto,g]⟩) fun g=>?_)
 have hm:=hb g
 have fin:∀y,y=QaQ n r m->∃b,(b=true->CkM n r m 4)/\(y=if b=false then r else QaQ n r m)/\Qbt 1000 n r m 4=some b:=fun y h=>⟨true,fun _=>hm,by rw[h];rfl,by rw[hto,g]⟩
 have nop:∀{h:r.FJ≠2\/m.T≠r.T\/m.OK=false\/m.E9<0\/(r.l.length:Int)<m.E9},¬r.T<m.T->r=QaQ n r m:=fun{h} g=>by unfold QaQ;rw[iA g,iB h]
 refine Ok.ite (fun g1=>Ok.oe Qum (Ok.s (fin _ (by unfold QaQ;rw[iB g1])))) fun g1=>Ok.j (Ok.ite (fun g2=>Ok.s (fin _ (nop (h:=.inl g2) g1))) fun g2=>Ok.ite (fun g3=>Ok.s (fin _ (nop (h:=.inr (.inl g3)) g1))) fun g3=>Ok.J (fun g4=>Ok.oe rin (Ok.J (fun g5=>?_) fun g5=>Ok.s (fin _ (nop (h:=?_) g1)))) fun g4=>Ok.s (fin _ (nop (h:=.inr (.inr (.inl g4))) g1)))
 rotate_left
 .refine .inr (.inr (.inr ?_))
  rcases Int.lt_or_le m.E9 0 with z|z
  .exact .inl z
  .rcases Int.lt_or_le (r.l.length:Int) m.E9 with y|y
   .exact .inr y
   .rw[Qt.2 ⟨z,y⟩]at g5;simp at g5
 have h5:=Qt.1 g5
 obtain⟨hml,_⟩:=hc.ldr (Ag.1 g2)
 have hfm:=hm.from0
 dsimp only
 refine Ok.nat hfm.1 (Ok.E (Ok.G (Ok.nat hfm.1 (Ok.E (Ok.G ?_)))))
 have eM:r.FE.set m.v.toNat (max (O r.FE m.v.toNat) m.E9)=Qck r m:=rfl
 rw[eM]
 obtain⟨M,hM⟩:∃M,M=Qck r m:=⟨_,rfl⟩
 have hMl:M.length=n:=by rw[hM];unfold Qck;rw[List.length_set];exact hml
 rw[<-hM]
 have hres:∀c:Int,c=(topV (Qkn n r M) r.h.toNat r.l.length:Nat)->D.N.mk r.S r.T r.Fe r.FJ r.l c r.FR M=QaQ n r m:=fun c h=>by
  unfold QaQ
  rw[iA g1,iA (by simp[Ag.1 g2,Ag.1 g3,g4];omega),<-hM,h]
 refine Ok.TG (fun y=>∃w c,y=((),w,(r.S,r.T,r.Fe,r.FJ,c,()),r.l,r.FR,M,())/\c=((topV (Qkn n r M) r.h.toNat r.l.length:Nat):Int)) (fun y hy=>?_) fun zG hJ=>?_
 .obtain⟨w,c,rfl,h⟩:=hy
  exact Ok.s (fin _ (hres c h))
 .refine Ok.loop (fun q x=>∃i:Nat,x=(((n:Int),(i:Int),()),D.N.mk 0 0 0 0 [] 0 [] [],(r.S,r.T,r.Fe,r.FJ,r.h,()),r.l,r.FR,M,())/\i<=r.l.length/\topV (Qkn n r M) r.h.toNat r.l.length=topV (Qkn n r M) r.h.toNat i/\q=i) (m:=r.l.length) U ⟨r.l.length,rfl,U,rfl,rfl⟩ ?_
  rintro q x ⟨i,rfl,i1,i2,hq⟩ K hK
  dsimp only
  refine Ok.ite (fun g6=>?_) fun g6=>hJ _ ⟨_,_,rfl,by rw[i2,QAq U];omega⟩
  refine Ok.TG (fun y=>y=(((n:Int),(i:Int),()),D.N.mk 0 0 0 0 [] 0 [] [],(r.S,r.T,r.Fe,r.FJ,r.h,()),r.l,r.FR,M,())/\Qkn n r M i=false) (fun y hy=>?_) fun J2 hJ2=>?_
  .obtain⟨rfl,hs⟩:=hy
   dsimp only
   rw[Qc U]
   exact hK (i - 1) _ U ⟨i - 1,by rw[show((i - 1:Nat):Int)=(i:Int) - 1 by omega],U,by rw[i2,QyJ U hs],rfl⟩
  .refine Ok.run n (fun j=>(((n:Int),(i:Int),(((List.range j).countP fun k=>decide ((i:Int)<=O M k):Nat):Int),(j:Int),()),D.N.mk 0 0 0 0 [] 0 [] [],(r.S,r.T,r.Fe,r.FJ,r.h,()),r.l,r.FR,M,())) rfl U (fun j hj K2 hK2=>?_) (fun K2=>?_)
   .have hcl:=QfG (P:=fun k=>decide ((i:Int)<=O M k)) (i:=j)
    dsimp only
    refine Ok.P (Ok.j (Ok.natn (Ok.E (Ok.G (Ok.ite (fun g7=>?_) fun g7=>?_)))))
    .dsimp only at hK2 |-
     rw[Vj,iB (Au g7)]at hK2
     rw[Qa U,Qa U]
     exact hK2
    .dsimp only at hK2 |-
     rw[Vj,iA (by simpa using g7)]at hK2
     rw[Qa U]
     exact hK2
   .dsimp only
    refine Ok.N (Ok.oe Qie ?_)
    rw[QoE hn]
    refine Ok.ite (fun g7=>?_) fun g7=>hJ2 _ ⟨rfl,?_⟩
    .rw[Qc U]
     refine Ok.nat U (Ok.E (Ok.G ?_))
     have et:(O r.l ((i:Int) - 1).toNat).T=trm r.l (i - 1):=by
      show(O r.l _).T=(O r.l _).T
      congr 2;omega
     rw[et]
     refine Ok.ite (fun g8=>hJ _ ⟨_,_,rfl,?_⟩) fun g8=>hJ2 _ ⟨rfl,?_⟩
     .rw[i2,QAr U (by unfold Qkn;simp[g8];omega)]
     .unfold Qkn;simp[g8]
    .unfold Qkn;simp;omega
def QCf{n:Nat}{r:D.N}{o:D.Op}(hl:r.l.length<=900):Ok (QeK 1000 n r o) fun x=>x.2=0->CkR n r/\x.1=prpV n r o/\r.FJ=2/\∀e∈r.l,e.Op.S≠o.S:=by
 unfold QeK
 refine Ok.opt (QwY hl) fun b hb=>Ok.ncnd (fun _=>Ok.s fun e=>by simp at e) fun g=>Ok.ite (fun _=>Ok.s fun e=>by simp at e) fun g1=>?_
 have hc:=hb g
 have hn:=hc.sz;have hid:=hc.id;have h256:=hc.log
 obtain⟨hml,_⟩:=hc.ldr (Ag.1 g1)
 refine Ok.loop (fun m x=>∃(i:Nat) (z:D.N),x=(((n:Int),(i:Int),()),r,o,z,())/\i<=r.l.length/\(∀e∈r.l.take i,e.Op.S≠o.S)/\m=r.l.length - i) (m:=r.l.length) U ⟨0,_,rfl,U,Ob,rfl⟩ ?_
 rintro m x ⟨i,z,rfl,i1,i2,rfl⟩ K hK
 dsimp only
 refine Ok.ite (fun g2=>Ok.A (Ok.ite (fun _=>Ok.s fun e=>by simp at e) fun g3=>?_)) fun g2=>Ok.ite (fun _=>Ok.s fun e=>by simp at e) fun g4=>?_
 .rw[Qa U]
  refine hK _ _ U ⟨i+1,z,rfl,U,fun e he=>?_,rfl⟩
  rw[<-Qq (show i<r.l.length by omega)]at he
  grind
 .rw[Bl U]at i2
  have el:(r.l++[D.o.mk r.T o]).length=r.l.length+1:=Ob
  refine Ok.oe hc.copy (Ok.LS (Ok.nat hid.1 (Ok.E (Ok.G (Ok.j (Ok.oe Qie ?_))))))
  rw[QoE hn]
  refine Ok.ite (fun g5=>Ok.s fun _=>⟨hc,?_,Ag.1 g1,i2⟩) fun g5=>Ok.s fun _=>⟨hc,?_,Ag.1 g1,i2⟩
  .unfold prpV;rw[iB U,el];rfl
  .unfold prpV;rw[iA U,el];rfl
def Qzf{n:Nat}{r:D.N}(hl:r.l.length<=900):Ok (QeJ 1000 n r) fun zC=>zC.length<=n/\(∀m∈zC,CkR n r/\r.FJ=2/\∃j:Nat,j<n/\m=appV r j/\(j:Int)≠r.S)/\(YJ 1000 n r=some true->r.FJ=2->∀j:Nat,j<n->(j:Int)≠r.S->appV r j∈zC):=by
 unfold QeJ
 refine Ok.j (Ok.opt (QwY hl).self fun b ⟨hb,hbe⟩=>Ok.J (fun g=>Ok.ite (fun z=>Ok.s ⟨Ob,Ob,fun _ e=>absurd e z⟩) fun g1=>?_) fun g=>Ok.s ⟨Ob,Ob,fun e=>by rw[hbe,g]at e;simp at e⟩)
 have hc:=hb g
 have hn:=hc.sz;have hid:=hc.id;have h256:=hc.log
 obtain⟨hml,hmm⟩:=hc.ldr (Ag.1 g1)
 refine Ok.loop (fun m x=>∃(i:Nat) (zC:Y D.e),x=(((n:Int),(i:Int),()),r,zC,())/\i<=n/\zC.length<=i/\((∀m∈zC,∃j:Nat,j<n/\m=appV r j/\(j:Int)≠r.S)/\∀j:Nat,j<i->(j:Int)≠r.S->appV r j∈zC)/\m=n - i) (m:=n) U ⟨0,[],rfl,U,Ob,⟨Ob,fun j hj=>absurd hj U⟩,rfl⟩ ?_
 rintro m x ⟨i,zC,rfl,i1,i2,⟨i3,i4⟩,rfl⟩ K hK
 dsimp only
 refine Ok.ite (fun g2=>Ok.TG (fun y=>∃zC:Y D.e,y=(((n:Int),(i:Int),()),r,zC,())/\zC.length<=i+1/\(∀m∈zC,∃j:Nat,j<n/\m=appV r j/\(j:Int)≠r.S)/\∀j:Nat,j<i+1->(j:Int)≠r.S->appV r j∈zC) (fun y hy=>?_) fun zG hJ=>?_) fun g2=>Ok.s ⟨U,fun m hm=>⟨hc,Ag.1 g1,i3 m hm⟩,fun _ _ j hj=>i4 j U⟩
 .obtain⟨V',rfl,j1,j2⟩:=hy
  dsimp only
  rw[Qa U]
  exact hK _ _ U ⟨i+1,V',rfl,U,j1,j2,rfl⟩
 .have h3:=hmm i U
  have more:(i:Int)≠r.S->∀x:D.e,x=appV r i->(∀m∈zC++[x],∃j:Nat,j<n/\m=appV r j/\(j:Int)≠r.S)/\∀j:Nat,j<i+1->(j:Int)≠r.S->appV r j∈zC++[x]:=fun g3 x hx=>⟨fun m hm=>(Ah.1 hm).elim (i3 m) fun hm=>⟨i,U,by rw[Ae.1 hm,hx],g3⟩,fun j hj hne=>by
   by_cases e:j=i
   .subst e;rw[hx];exact Ah.2 (.inr (Ae.2 rfl))
   .exact Ah.2 (.inl (i4 j U hne))⟩
  refine Ok.ite (fun z=>hJ _ ⟨zC,rfl,U,i3,fun j hj hne=>i4 j U hne⟩) fun g3=>Ok.A (Ok.nat h3.1 (Ok.L (Ok.LS (Ok.j (Ok.ite (fun g4=>?_) fun g4=>?_)))))
  .rw[Qc U]
   refine Ok.at U U (Ok.LS (hJ _ ⟨_,rfl,by simp;omega,more g3 _ ?_⟩))
   unfold appV
   rw[iB g4]
   show D.e.mk _ _ _ _ _ (O r.l _).T _ _ _=D.e.mk _ _ _ _ _ (O r.l _).T _ _ _
   rw[show(O r.FE i - 1).toNat=(O r.FE i).toNat - 1 by omega]
  .refine Ok.LS (hJ _ ⟨_,rfl,by simp;omega,more g3 _ ?_⟩)
   unfold appV
   rw[iA g4]
def QBs{n:Nat}{r:D.N}(hk:YJ 1000 n r=some true)(hc:CkR n r):QeL 1000 n r=some (QwP r,0):=by
 refine Ok.eq ?_
 unfold QeL
 exact Ok.oe hk (Ok.nt rfl (Ok.oe hc.copy (Ok.s rfl)))
def Qw3(h:0<=r.h/\r.h<=r.l.length)(hl:r.l.length<=900):Vm 1000 r=some (comV r):=by
 refine Ok.eq ?_
 unfold Vm
 refine Ok.j (Ok.run r.h.toNat (fun i=>(((i:Int),()),r,(r.l.take i).map (fun e=>e.Op),())) rfl U (fun i hi K hK=>?_) fun K=>?_)
 .dsimp only
  refine Ok.j (Ok.P (Ok.p (by show(i:Int)<(r.l.length:Int);omega) (Ok.atn (show i<r.l.length by omega) (Ok.LS ?_))))
  dsimp only at hK |-
  rw[<-Qq (show i<r.l.length by omega),Ax]at hK
  rw[Qa U]
  exact hK
 .dsimp only
  exact Ok.j (Ok.N (Ok.s rfl))
end
section
attribute [local irreducible] dueV stepV runV QG answerV
section
variable {n:Nat} {c:D.E} {b:D.a} {p q:D.Page} {now M:Int} {l x:D.F} {i:Nat} {o:D.Op} {L:Y Int} {d:D.y} {ops:Y D.Op}
def DecL(l:D.F):Prop:=∀p∈l.G,PgX 1000000 p
def QsG(h:YW a=true):(1<=a.S/\a.S<=1000000)/\0<=a.Page/\a.Page<=999999:=by
 unfold YW at h
 simp only[bae,Qt]at h
 omega
def DecL.set(h:DecL l)(hp:PgX 1000000 p){L:Y D.Page}(e:L=l.G.set i p):∀q∈L,PgX 1000000 q:=fun q hq=>by
 rw[e]at hq
 rcases Cy hq with g|rfl
 .exact h q g
 .exact hp
def DecL.run(h:DecL l)(hl:Qd M n l)(hi:i<l.G.length):DecL (runI l i):=
 h.set ((h _ (Qf hi)).run hl.book QT.step (hl.at hi).1) (QvT hl hi).1
def DecL.runs(h:DecL l)(hl:Qd M n l):∀{k:Nat},k<=l.G.length->DecL (ZD l k)
 |0,_=>h
 |k+1,hk=>(h.runs hl U).run (hl.runs U) (by rw[(YD (l:=l) (k:=k)).2.2.2.2.2.2];exact hk)
def Qy3(hb:QP b)(h:QM QT M b p)(hd:PgX 1000000 p)(hv:YW a=true)(ha:a.Q<4):PgX 1000000 (ansP c b p a now):=by
 have hr:PgX 1000000 (runV c b p now).1:=hd.run hb QT.step h
 unfold ansP
 split
 .rename_i g
  rcases QcS g with e|e
  .rw[e];exact hr
  .rw[e];exact hr.answer ha (QsG hv).1
 .exact hr
def DecL.op(h:DecL l)(hl:Qd M n l)(ho:OpIn o)(hlt:l.G.length<64)(ha:o.b=4->o.Z.Q<4):DecL (opV l o).1:=by
 have hk5:=ho.kind
 by_cases k1:o.b=1
 .unfold opV
  rw[iB k1]
  split
  .exact h
  .rename_i g
   split
   .exact h
   .split
    .exact h
    .split
     .rename_i g1 g2 g3
      obtain⟨i1,i2,i3⟩:=hl.open (o:=o) (by simpa using g) ⟨U,ho.page.2⟩ g3 hlt
      refine DecL.run (fun q hq=>?_) i1 i2
      rcases QiS.1 hq with rfl|hq
      .exact PgX.new
      .exact h q hq
     .exact h
 by_cases k2:o.b=2
 .unfold opV
  rw[iA k1,iB k2]
  split<;>exact h
 by_cases k3:o.b=3
 .unfold opV
  rw[iA k1,iA k2,iB k3]
  split
  .split
   .rename_i g
    generalize (if (O l.G (posV o.Page l.G)).q=2 then(-1:Int)else(O l.G (posV o.Page l.G)).E7)=kk
    split
    .exact h.run hl (Ux g).1
    .exact h
   .exact h
  .exact h
 by_cases k4:o.b=4
 .obtain⟨_,_,e⟩:=Qvu hl k4
  show ∀q∈(opV l o).1.G,_
  rw[e]
  split
  .rename_i g
   have hi:=(Ux g).1
   exact h.set (Qy3 hl.book (hl.at hi).1 (h _ (Qf hi)) (ho.answer k4).1 (ha k4)) rfl
  .exact h
 .obtain⟨e,_⟩:=QzX (l:=l) (o:=o) U
  show ∀q∈(opV l o).1.G,_
  rw[e]
  exact h.runs hl (AP _)
def DecL.apply(h:DecL l)(hl:Qd M n l)(ho:OpIn o)(ht:max l.E8 o.At<=M - 20000)(hs:l.i.length<256)(hlt:l.G.length<64)(ha:o.b=4->o.Z.Q<4):DecL (ZS l o).1:=by
 cases g:l.i.contains o.S with
 |true=>unfold ZS;rw[iB g];exact h
 |false=>rw[QjM g];exact DecL.op (l:=seeV l o) h (hl.see ho ht g hs) ho hlt ha
def QfP(c:D.E)(b:D.a):D.F:={ E8:=0,E:=c,a:=b,G:=[],FB:=-1,Fence:=0,i:=[],Calls:=[] }
def opsV(l:D.F):Y D.Op->D.F
 |[]=>l
 |o::r=>opsV (ZS l o).1 r
def QpX:∀{a:Y D.Op} {l:D.F} {r:Y D.Op},opsV l (a++r)=opsV (opsV l a) r
 |[],_,_=>rfl
 |o::a,l,r=>by simp only[Ar,opsV,QpX]
def QxQ:opsV l (ops++[o])=(ZS (opsV l ops) o).1:=by rw[QpX];rfl
def Qi3(h:i<ops.length):opsV l (ops.take (i+1))=(ZS (opsV l (ops.take i)) (O ops i)).1:=by rw[<-Qq h,QxQ]
structure Behind (ops:Y D.Op) (k:Nat) (l:D.F):Prop where
 made:QDy k l
 dec:DecL l
 seen:∀x∈l.i,x<=(k:Int)
 last:l.E8<=0\/∃j,j<k/\l.E8<=(O ops j).At
def Behind.first(hc:Zc 2 c)(hb:QP b):Behind ops 0 (QfP c b):=
 ⟨⟨Qvt hc hb,fun p hp=>by simp[QfP]at hp,AP _,by simp[QfP]⟩,fun p hp=>by simp[QfP]at hp,fun x hx=>by simp[QfP]at hx,.inl (by simp[QfP])⟩
def Behind.fresh(h:Behind ops k l)(hi:o.S=(k:Int)+1):l.i.contains o.S=false:=by
 cases hc:l.i.contains o.S with
 |false=>rfl
 |true=>
  have:=h.seen _ (Bg.1 hc)
  omega
attribute [local irreducible] opsV ZS opV
end
end
section
open Go AM
attribute [local irreducible] dueV stepV runV QG answerV
section
def QbD(l:D.F):Y D.Op->Y Int
 |[]=>[]
 |o::r=>(ZS l o).2::QbD (ZS l o).1 r
def Qrv:∀{a:Y D.Op} {l:D.F} {r:Y D.Op},QbD l (a++r)=QbD l a++QbD (opsV l a) r
 |[],_,_=>rfl
 |o::a,l,r=>by simp only[Ar,QbD,opsV,Qrv]
def QjV(h:i<ops.length):QbD l (ops.take (i+1))=QbD l (ops.take i)++[(ZS (opsV l (ops.take i)) (O ops i)).2]:=by rw[<-Qq h,Qrv];rfl
def QiI:∀{ops:Y D.Op} {l:D.F},(QbD l ops).length=ops.length
 |[],_=>rfl
 |o::r,l=>by simp only[QbD,Ab,QiI]
structure Led (l:D.F):Prop where
 ok:∃M n,LW M n l/\n<=48
 pg:l.G.length<=9
structure OkAt (l:D.F) (o:D.Op):Prop where
 ok:∃M n,Qd M n l/\n<48/\max l.E8 o.At<=M - 20000
 pg:l.G.length<=8
 dec:DecL l
 op:OpIn o
 len:l.i.length<256
def OkAt.led(h:OkAt l o):Led l:=by
 obtain⟨M,n,h1,h2,_⟩:=h.ok
 exact⟨⟨M,n,h1.w,U⟩,by have:=h.pg;omega⟩
def OkAt.TN(h:OkAt l o):Qgd 1000 l o=some (ZS l o):=by
 obtain⟨M,n,h1,h2,h3⟩:=h.ok
 exact Qwx h1 h2 h.pg h.op h3 h.len
def Led.check(h:Led l):W8 1000 l=some true:=by
 obtain⟨M,n,h1,h2⟩:=h.ok
 exact QcV h1 h.pg
def Led.checkE(h:Led l):XH 1000 l=some true:=by
 obtain⟨M,n,h1,h2⟩:=h.ok
 exact QpH h1 h.pg
def Led.copy(h:Led l):QbU 1000 l=some l:=by
 obtain⟨M,n,h1,h2⟩:=h.ok
 have:=h1.callsLe h.pg;have:=h1.seen.len;have:=h.pg
 exact Qud h1.plens U U U
structure Runs (l:D.F) (ops:Y D.Op):Prop where
 at_:∀j,j<ops.length->OkAt (opsV l (ops.take j)) (O ops j)
 fin:∀j,j<=ops.length->Led (opsV l (ops.take j))
 len:ops.length<=200
structure Loose (k:Nat) (l:D.F):Prop where
 inv:Qd 1000000 (2+k) l
 ids:Ids 3 l
 seen:l.i.length<=k
 dec:DecL l
def Qah(o:D.Op):Prop:=OpIn o/\(o.b=1->o.Page<=3)/\o.At<=980000/\(o.b=4->o.Z.Q<4)
def Behind.loose(h:Behind ops k l):Loose k l:=⟨h.made.inv,h.made.ids,h.made.seen,h.dec⟩
def Loose.led(h:Loose k l)(hk:k<=46):Led l:=⟨⟨1000000,2+k,h.inv.w,U⟩,by have:=h.inv.small3 (k:=3) h.ids;omega⟩
def cntE(ops:Y D.Op):Nat:=ops.countP fun o=>decide (o.b=5)
structure Qbq (e k:Nat) (l:D.F):Prop where
 inv:Qd 1000000 (2+e) l
 ids:Ids 3 l
 seen:l.i.length<=k
 dec:DecL l
def Loose.e(h:Loose k l):Qbq k k l:=⟨h.inv,h.ids,h.seen,h.dec⟩
def Qbq.okAt(h:Qbq e k l)(he:e<=45)(hk:k<=200)(ho:Qah o):OkAt l o:=by
 have hn:=h.inv.now;have hs:=h.seen;have h2:=ho.2.2.1
 have hp3:=h.inv.small3 (k:=3) h.ids
 exact⟨⟨1000000,2+e,h.inv,U,U⟩,U,h.dec,ho.1,U⟩
def Qbq.led(h:Qbq e k l)(he:e<=46):Led l:=⟨⟨1000000,2+e,h.inv.w,U⟩,by have:=h.inv.small3 (k:=3) h.ids;omega⟩
def Qbq.next(h:Qbq e k l)(he:e<=45)(hk:k<=200)(ho:Qah o):Qbq (e+cntE [o]) (k+1) (ZS l o).1:=by
 have hn:=h.inv.now;have hs:=h.seen;have h2:=ho.2.2.1
 have hp3:=h.inv.small3 (k:=3) h.ids
 refine⟨?_,h.ids.apply h.inv ho.1 U U ho.2.1,by have:=(QsW (l:=l) (o:=o)).1;omega,h.dec.apply h.inv ho.1 U U U ho.2.2.2⟩
 by_cases k5:o.b=5
 .rw[show cntE [o]=1 by simp[cntE,k5]]
  exact h.inv.apply U ho.1 U U
 .rw[show cntE [o]=0 by simp[cntE,k5]]
  exact h.inv.apply0 ho.1 k5 U U
def Qub:cntE (a++b)=cntE a+cntE b:=by simp[cntE]
def QiC:cntE (ops.take j)<=cntE ops:=(EB j ops).countP_le
def Qbq.fold(h:Qbq e k l)(ho:∀o∈ops,Qah o)(he:e+cntE ops<=45)(hk:k+ops.length<=200):∀{j:Nat},j<=ops.length->Qbq (e+cntE (ops.take j)) (k+j) (opsV l (ops.take j))
 |0,_=>by rw[Bd];exact h
 |j+1,hj=>by
  have hc:=QiC (ops:=ops) (j:=j)
  rw[Qi3 U,<-Qq (show j<ops.length by omega),Qub,<-B5]
  exact(Qbq.fold h ho he hk U).next U U (ho _ (Qf U))
def Qbq.runs(h:Qbq e k l)(ho:∀o∈ops,Qah o)(he:e+cntE ops<=45)(hk:k+ops.length<=200):Runs l ops:=
 ⟨fun j hj=>(h.fold ho he hk U).okAt (by have:=QiC (ops:=ops) (j:=j);omega) U (ho _ (Qf hj)),fun j hj=>(h.fold ho he hk hj).led (by have:=QiC (ops:=ops) (j:=j);omega),U⟩
def Qte(hc:Zc 2 c)(hb:QP b):Loose 0 (QfP c b):=(Behind.first (ops:=[]) hc hb).loose
end
end
section
attribute [local irreducible] dueV stepV runV QG answerV opV ZS opsV QbD
section
variable {n:Nat} {M:Int} {l x:D.F} {o:D.Op} {i k:Nat} {t r id now:Int} {L:Y Int}
def ans0:D.Z:=D.Z.mk 0 0 0 0 0 0
def edit0:D.r:=D.r.mk 0 0 0 0 0
def op0:D.Op:=D.Op.mk 0 0 0 0 0 0 0 0 0 ans0 edit0
def ownO(l:D.F)(r id now:Int):D.Op:=D.Op.mk id 2 r (l.Fence+1) now 0 0 0 0 ans0 edit0
def QhO(r id now:Int):Prop:=(0<=r/\r<=4)/\(1<=id/\id<=1099511627776)/\0<=now/\now<=8589934592
def QCb(h:Qd M n l)(hc:QhO r id now):OpIn (ownO l r id now):=by
 have hf:=h.fence;have hs:=h.seen.len
 obtain⟨h1,h2,h3⟩:=hc
 exact⟨h2,by simp only[ownO];omega,h1,by simp only[ownO];omega,h3,by simp only[ownO];omega,by simp only[ownO];omega,fun e=>absurd (show(2:Int)=4 from e) U,fun e=>absurd (show(2:Int)=5 from e) U⟩
def QuL(h:Qd M n l)(hc:QhO r id now)(hn:now<=980000):Qah (ownO l r id now):=
 ⟨QCb h hc,fun e=>absurd (show(2:Int)=1 from e) U,hn,fun e=>absurd (show(2:Int)=4 from e) U⟩
def QpJ{α:Type}[AK α]{l:Y α}:(List.range l.length).map (O l)=l:=by
 refine EA Ob fun i h1 h2=>?_
 simp only[List.getElem_map,List.getElem_range,O,AQ,AU h2,Bt]
def QyM:Qeh l.G t=(Qbo l t).map fun i=>D.R.mk (O l.G i).S (dueV (O l.G i)).1 []:=by
 unfold Qeh Qbo
 conv=>lhs;rw[<-QpJ (l:=l.G)]
 rw[List.filter_map,CY]
 rfl
def Qnv:(Qbo l t).length=(Qeh l.G t).length:=by rw[QyM,AZ]
def QjE:(Qbo l t).length<=l.G.length:=by rw[Qnv];exact Qnw
def QpO{α β:Type}[AK α][AK β]{l:Y α}{f:α->β}(h:i<l.length):O (l.map f) i=f (O l i):=by
 simp[O,AQ,AU h]
def QmB{n:Nat}(h:i<n):O (List.range n) i=i:=by
 simp[O,AQ,h]
def Qa3(l:D.F)(now:Int)(k:Nat):D.Page:=O l.G (O (Qbo l now) k)
def QmI(h:k<(Qbo l now).length):O (Qbo l now) k<l.G.length/\Y0 (Qa3 l now k) now=true:=QsI.1 (Qf h)
def QsJ(h:k<(Qbo l now).length):O (Qeh l.G now) k=D.R.mk (Qa3 l now k).S (dueV (Qa3 l now k)).1 []:=by
 rw[QyM,QpO h];rfl
def Qaf(l:D.F)(id now:Int)(k:Nat):D.Op:=D.Op.mk (id+k) 3 l.FB l.Fence now (Qa3 l now k).S (QiY (Qa3 l now k)) 0 0 ans0 edit0
def QcD(l:D.F)(id now:Int):Y D.Op:=(List.range (Qbo l now).length).map (Qaf l id now)
def Wo:(QcD l id now).length=(Qbo l now).length:=by simp[QcD]
def Qir(h:k<(Qbo l now).length):O (QcD l id now) k=Qaf l id now k:=by
 unfold QcD;rw[QpO (by simpa using h),QmB h]
def QkP(h:k<(Qbo l now).length):(QcD l id now).take (k+1)=(QcD l id now).take k++[Qaf l id now k]:=by
 rw[<-Qir h,Qq (by rw[Wo];exact h)]
def Qyz(h:Qd M n l)(hk:k<(Qbo l now).length)(hid:1<=id/\id+k<=1099511627776)(ho:0<=l.FB)(hn:0<=now/\now<=8589934592):OpIn (Qaf l id now k):=by
 have hf:=h.fence;have hs:=h.seen.len;have how:=h.owner
 obtain⟨h1,h2⟩:=QmI hk
 obtain⟨g1,_⟩:=h.at h1
 have hnx:=(Ya (g1.check h.book)).next
 have hcn:=Yt (g1.polOK h.book)
 have hpid:=g1.id
 have hK : -1<=QiY (Qa3 l now k)/\QiY (Qa3 l now k)<=1000:=by
  show -1<=QiY (O l.G (O (Qbo l now) k))/\QiY (O l.G (O (Qbo l now) k))<=1000
  unfold QiY
  split<;>omega
 exact⟨by simp only[Qaf];omega,by simp only[Qaf];omega,by simp only[Qaf];omega,by simp only[Qaf];omega,hn,by simp only[Qaf,Qa3];omega,hK,fun e=>absurd (show(3:Int)=4 from e) U,fun e=>absurd (show(3:Int)=5 from e) U⟩
def QoX(h:Qd M n l)(hk:k<(Qbo l now).length)(hid:1<=id/\id+k<=1099511627776)(ho:0<=l.FB)(hn:0<=now/\now<=980000):Qah (Qaf l id now k):=
 ⟨Qyz h hk hid ho U,fun e=>absurd (show(3:Int)=1 from e) U,hn.2,fun e=>absurd (show(3:Int)=4 from e) U⟩
end
end
section
open Go AM
attribute [local irreducible] dueV stepV runV QG answerV opV ZS opsV QbD
section
variable {n:Nat} {M:Int} {l x:D.F} {o:D.Op} {i k:Nat} {t r id now f:Int}
def QfC(r id now:Int):AH:=inV r 0 4 && (inV id 1 1099511627776 && inV now 0 8589934592)
def Ql2:QfC r id now=true↔QhO r id now:=by
 unfold QfC QhO
 simp only[bae,Qt]
structure OwnR (l:D.F):Prop where
 chkR:W8 1000 l=some true
 fence:0<=l.Fence/\l.Fence<=1048576
 waitR:∀t,Va 1000 l t=some (Qeh l.G t)
 findR:∀p∈l.G,Qg5 1000 l p.S=some (Qdn l p.S)
 asc:AscP l.G
 pg:l.G.length<=9
def Led.ownR(h:Led l):OwnR l:=by
 obtain⟨M,n,h1,h2⟩:=h.ok
 have hf:=h1.fence;have hpg:=h.pg
 exact⟨h.check,U,fun t=>Qt1 h1 hpg,fun p hp=>Qxl h1.plens h1.asc U,h1.asc,hpg⟩
def Ql3(l:D.F)(r id now:Int):D.Op×Int:=if QfC r id now=true then(if l.Fence=1048576 then(op0,5)else(ownO l r id now,0))else(op0,1)
def Qrb(h:OwnR l):Qcz 1000 l r id now=some (Ql3 l r id now):=by
 have hf:=h.fence
 refine Ok.eq ?_
 unfold Qcz Ql3 QfC
 refine Ok.j (Ok.oe h.chkR (Ok.nt rfl (Ok.oe rin (Ok.J (fun g1=>Ok.oe rin (Ok.J (fun g2=>Ok.oe rin (Ok.J (fun g3=>?_) (fun g3=>Ok.s ?_))) (fun g2=>Ok.s ?_))) (fun g1=>Ok.s ?_)))))
 .rw[iB (by simp[g1,g2,g3])]
  refine Ok.ite (fun g4=>Ok.s ?_) (fun g4=>Ok.s ?_)
  .rw[iB g4];rfl
  .rw[iA g4,Qc (x:=l.Fence+1) U];rfl
 all_goals (rw[iA (by simp[*])];rfl)
def Qrc(h:QhO r id now)(hf:l.Fence<=1000):Ql3 l r id now=(ownO l r id now,0):=by
 unfold Ql3
 rw[iB (Ql2.2 h),iA U]
def QrV(l:D.F)(r id now:Int):Y D.Op:=if QfC r id now=true/\r=l.FB/\id+(l.G.length:Int)<=1099511627776 then QcD l id now else[]
def Qry(h:OwnR l)(hk:k<(Qbo l now).length):Qdn l (Qa3 l now k).S=(Qa3 l now k,true):=Qpv h.asc (QmI hk).1 rfl
def QoB(hk:k<(Qbo l now).length):Qa3 l now k∈l.G:=Qf (QmI hk).1
def Qv1(h:OwnR l):Qb7 1000 l r id now=some (QrV l r id now):=by
 have hpg:=h.pg
 have hwl:=Qnv (l:=l) (t:=now);have hwe:=QjE (l:=l) (t:=now)
 refine Ok.eq ?_
 unfold Qb7 QrV
 refine Ok.j (Ok.oe (Qrb h) ?_)
 unfold Ql3
 by_cases g:QfC r id now=true
 .obtain⟨c1,c2,c3⟩:=Ql2.1 g
  have he:∃a e,(if QfC r id now=true then(if l.Fence=1048576 then(op0,(5:Int))else(ownO l r id now,0))else(op0,1))=(a,e)/\e≠8/\e≠1:=by
   rw[iB g];split
   .exact⟨_,_,rfl,U,U⟩
   .exact⟨_,_,rfl,U,U⟩
  obtain⟨a,e,he,e8,e1⟩:=he
  rw[he]
  refine Ok.n e8 (Ok.n e1 (Ok.ite (fun g2=>Ok.s (by rw[iA (fun h=>g2 h.2.1)])) (fun g2=>?_)))
  have g2:r=l.FB:=Ag.1 g2
  rw[Qc (x:=id+(l.G.length:Int)) U]
  refine Ok.ite (fun g3=>Ok.s (by rw[iA (fun h=>U)])) (fun g3=>?_)
  rw[iB ⟨g,g2,U⟩]
  try dsimp only
  refine Ok.oe (h.waitR now) ?_
  refine Ok.run (Qbo l now).length (fun k=>((r,id,now,Qeh l.G now,(k:Int),()),l,(QcD l id now).take k,())) rfl U (fun k hk K hK=>?_) (fun K=>?_)
  .try dsimp only
   have hl:((QcD l id now).take k).length<=9:=by rw[Af,Wo];omega
   try dsimp only at hK
   rw[QkP hk]at hK
   refine Ok.P (Ok.A ?_)
   rw[QsJ hk]
   refine Ok.oe (h.findR _ (QoB hk)) ?_
   rw[Qry h hk]
   refine Ok.j ?_
   have hw:X (id+(k:Int))=id+k:=Qc U
   refine Ok.ite (fun g4=>Ok.LS ?_) (fun g4=>Ok.LS ?_)
   .try dsimp only at g4 |-
    rw[hw,Qa U]
    have e:Qaf l id now k=D.Op.mk (id+k) 3 r l.Fence now (Qa3 l now k).S (-1) 0 0 (D.Z.mk 0 0 0 0 0 0) (D.r.mk 0 0 0 0 0):=by unfold Qaf QiY;rw[iB g4,g2];rfl
    rw[<-e];exact hK
   .try dsimp only at g4 |-
    rw[hw,Qa U]
    have e:Qaf l id now k=D.Op.mk (id+k) 3 r l.Fence now (Qa3 l now k).S (Qa3 l now k).E7 0 0 (D.Z.mk 0 0 0 0 0 0) (D.r.mk 0 0 0 0 0):=by unfold Qaf QiY;rw[iA g4,g2];rfl
    rw[<-e];exact hK
  .try dsimp only
   exact Ok.N (Ok.s (Bl (by rw[Wo];omega)))
 .rw[iA g];exact Ok.NS (Ok.p rfl (Ok.s (by rw[iA (fun h=>g h.1)])))
end
end
section
attribute [local irreducible] dueV stepV runV QG answerV
section
def mapE[AK T]{f:Nat->T->I T}{l:Y T}(hf:∀x∈l,f 1000 x=some x)(hl:l.length<=900):
  Qe (zF:=((Int×(Int×Unit))×(Y T×Unit))) (fun L1 ((a2,(a3,_)),(a4,_))=>(AM.J (decide (a3<a2)) (TK a3 fun a5=>(TP a5 (List.length a4) (V (GetElem?.getElem? a4 a5) fun a6=>(V (f 1000 a6) fun a7=>(TK a3 fun a8=>(TP a8 (List.length a4) (V (GetElem?.getElem? a4 a8) fun a9=>(L1 ((a2,((X (a3+1)),())),((List.set a4 a8 a7),())))))))))) (some a4))) 1000 (((((List.length l):Nat):Int),(0,())),(l,()))=some l:=by
 refine Ok.eq ?_
 refine Ok.run l.length (fun i=>(((((List.length l):Nat):Int),(i:Int),()),l,())) rfl U (fun i hi k hk=>?_) (fun k=>?_)
 .try dsimp only
  refine Ok.P (Ok.natn (Ok.lt hi (Ok.get hi (Ok.oe (hf _ (Qf hi)) (Ok.natn (Ok.lt hi (Ok.get hi ?_)))))))
  rw[Qa U,QqC hi];exact hk
 .try dsimp only
  exact Ok.N (Ok.s rfl)
def cl_w(h:l.length<=900):Ym 1000 l=some l:=by unfold Ym;exact Yg U
def cl_i(h:l.length<=900):Qu 1000 l=some l:=by unfold Qu;exact Yg U
def Qto(h:∀z∈l,z.Fo=[])(hl:l.length<=900):ZI 1000 l=some l:=by
 unfold ZI
 refine(Vt (show X2 1000 l=some l by unfold X2;exact Yg U)).trans (mapE (f:=QgS) (fun z hz=>?_) hl)
 unfold QgS
 exact Vt (show Xx 1000 z.Fo=some z.Fo by rw[h z hz];rfl)
def QpK(h:∀z∈l,z.Fg.length<=900)(hl:l.length<=900):Zg 1000 l=some l:=by
 unfold Zg
 refine(Vt (show Y5 1000 l=some l by unfold Y5;exact Yg U)).trans (mapE (f:=QcY) (fun z hz=>?_) hl)
 unfold QcY
 exact Vt (cl_w (h z hz))
def QrL(h:∀z∈l,Y1 z)(hl:l.length<=900):Zp 1000 l=some l:=by
 unfold Zp
 refine(Vt (show Xv 1000 l=some l by unfold Xv;exact Yg U)).trans (mapE (f:=Qey) (fun z hz=>?_) hl)
 have hz':=h z hz
 unfold Qey
 exact(Vt (cl_i (by have:=hz'.len;omega))).trans (Vt (cl_w (by rw[hz'.win];simp)))
def QrM(h:∀z∈l,Qej n z)(hn:n<=48)(hl:l.length<=900):Q1 1000 l=some l:=by
 unfold Q1
 refine(Vt (show Yw 1000 l=some l by unfold Yw;exact Yg U)).trans (mapE (f:=QaK) (fun z hz=>?_) hl)
 obtain⟨⟨y,hy,hy2⟩,h2,_⟩:=h z hz
 unfold QaK
 refine(Vt (QrL (l:=z.Fi) (fun w hw=>?_) (by rw[hy];simp))).trans (Vt (show X1 1000 z.FS=some z.FS by unfold X1;exact Yg U))
 simp_all
def Qtn(h:∀z∈l,QqT z)(hl:l.length<=900):ZH 1000 l=some l:=by
 unfold ZH
 refine(Vt (show Vq 1000 l=some l by unfold Vq;exact Yg U)).trans (mapE (f:=QgR) (fun z hz=>?_) hl)
 unfold QgR
 exact Vt (cl_i (by have:=(h z hz).len;omega))
def Qtm(h:∀z∈l,StepOK' m z)(hl:l.length<=900):Q9 1000 l=some l:=by
 unfold Q9
 refine(Vt (show YR 1000 l=some l by unfold YR;exact Yg U)).trans (mapE (f:=QgQ) (fun z hz=>?_) hl)
 unfold QgQ
 exact Vt (show Wk 1000 z.Fb=some z.Fb by unfold Wk;exact Yg (by have:=(h z hz).len;omega))
def Qvp(h:∀z∈l,QdB m z)(hl:l.length<=900):Zy 1000 l=some l:=by
 unfold Zy
 refine(Vt (show Wj 1000 l=some l by unfold Wj;exact Yg U)).trans (mapE (f:=Qi2) (fun z hz=>?_) hl)
 unfold Qi2
 exact Vt (Qtm (h z hz).step (by have:=(h z hz).len;omega))
def QuM(h:Qz p):Qb4 1000 p=some p:=by
 have h1:=h.st;have h2:=h.de;have h3:=h.se
 unfold Qb4
 refine(Vt (x:=p.P) ?_).trans ((Vt (cl_i U)).trans (Vt (cl_i U)))
 unfold Z2
 refine(Vt (Qre U)).trans (mapE (f:=QcX) (fun z hz=>?_) U)
 unfold QcX
 exact Vt (cl_i (by have:=(h.pe z hz).1;omega))
def Qtl(h:∀z∈l,Qz z)(hl:l.length<=900):ZG 1000 l=some l:=by
 unfold ZG
 exact(Vt (show Vp 1000 l=some l by unfold Vp;exact Yg U)).trans (mapE (f:=Qb4) (fun z hz=>QuM (h z hz)) hl)
def Led.copyE(h:Led l):Qa0 1000 l=some l:=by
 obtain⟨M,n,h1,h2⟩:=h.ok
 have hcl:=h1.callsLe h.pg;have hse:=h1.seen.len;have hpg:=h.pg;have hb:=h1.book;have hc:=h1.cfg
 have htl:=hb.tlen;have hpl:=hb.plen
 obtain⟨hz,_⟩:=hc.zones
 unfold Qa0
 rw[Qto (by rw[hz];intro z hm;rw[Ae.1 hm]) (by rw[hz];simp),ZX,QpK (fun z hm=>by rcases(hc.person z hm).quiet with e|⟨_,_,e,_⟩<;>rw[e]<;>simp) (by rw[hc.plen];omega),ZX,hc.cal]
 rw[show Zx 1000 []=some []by kernel_rfl,ZX,QrM hc.sched h2 (by rw[hc.slen];omega),ZX,Qtn hb.team U,ZX,Qvp hb.pol U,ZX,Qtl h1.plens U,ZX,cl_i U,ZX,Qrd U,ZX]
 obtain⟨l1,⟨c1,c2,c3,c4⟩,l3,l4,l5,l6,l7,l8⟩:=l
 have hcal:=hc.cal
 dsimp only at hcal |-
 subst hcal
 rfl
def Qxq{i j:Nat}(h:i+j<1000000):X (Int.fdiv (IntKind.wrap .u64 (X ((i:Int)+(j:Int)))) (HPow.hPow 2 (min 1 (Go.IntKind.bits Go.IntKind.u64))))=(((i+j) / 2:Nat):Int):=by
 rw[Qc (x:=(i:Int)+(j:Int)) U]
 have e:IntKind.u64.wrap ((i:Int)+(j:Int))=(i:Int)+(j:Int):=by
  simp only[IntKind.wrap,IntKind.bits,IntKind.signed]
  simp
  omega
 rw[e,show((HPow.hPow 2 (min 1 (Go.IntKind.bits Go.IntKind.u64)):Nat):Int)=2 from rfl,Int.fdiv_eq_ediv_of_nonneg _ U,Qc U]
 omega
def Qua{id:Int}(h1:0<=p.S/\p.S<=999999)(h2 : -1<=id/\id<=1000000):WW 1000 p id=some (p.S - id):=by
 unfold WW
 rw[Qc U]
def QCV{id:Int}(ha:AscP L)(hl:L.length<=64)(hp:∀p∈L,0<=p.S/\p.S<=999999)(hid : -1<=id/\id<=1000000):
  QJ 1000 L id=some ((posV id L:Int),hasV id L):=by
 have hple:=Qds (id:=id) (l:=L)
 refine Ok.eq ?_
 unfold QJ
 refine Ok.loop (fun m x=>∃(i j:Nat),x=((id,((L.length:Nat):Int),(i:Int),(j:Int),()),L,())/\i<=posV id L/\posV id L<=j/\j<=L.length/\m=j - i) (m:=L.length) U ⟨0,L.length,rfl,U,U,U,U⟩ ?_
 rintro m x ⟨i,j,rfl,h1,h2,h3,rfl⟩ K hK
 try dsimp only
 refine Ok.ite (fun hij=>?_) (fun hij=>?_)
 .refine Ok.nat U ?_
  rw[show(1:Int).toNat=1 from rfl,Qxq U]
  have hh:(i+j) / 2<L.length:=U
  refine Ok.natn (Ok.lt hh (Ok.get hh (Ok.oe (Qua (hp _ (Qf hh)) hid) (Ok.ite (fun g=>?_) (fun g=>?_)))))
  .try dsimp only
   rw[Qa U]
   refine hK _ _ U ⟨(i+j) / 2+1,j,rfl,?_,h2,h3,rfl⟩
   rcases BC ((i+j) / 2) (posV id L)with g2|g2
   .omega
   .have:=QmO ha g2 hh
    omega
  .refine hK _ _ U ⟨i,(i+j) / 2,rfl,h1,?_,U,rfl⟩
   rcases BC ((i+j) / 2) (posV id L)with g2|g2
   .have:=QmP g2
    omega
   .exact g2
 .have e:i=posV id L:=U
  subst e
  unfold hasV
  refine Ok.ite (fun g=>?_) (fun g=>?_)
  .have hh:posV id L<L.length:=U
   refine Ok.natn (Ok.lt hh (Ok.get hh (Ok.oe (Qua (hp _ (Qf hh)) hid) (Ok.ite (fun g=>Ok.TF (Ok.s ?_)) (fun g=>Ok.TF (Ok.s ?_))))))
   .grind
   .rw[Av (fun h=>g U)]
  .exact Ok.TF (Ok.s (by rw[Av (fun h=>g U)]))
def QDz{id:Int}(ha:AscP L)(hl:L.length<=64)(hp:∀p∈L,0<=p.S/\p.S<=999999)(hid : -1<=id/\id<=1000000):
  QO 1000 L id=some ((posV id L:Int),hasV id L):=by
 have hple:=Qds (id:=id) (l:=L)
 refine Ok.eq ?_
 unfold QO
 refine Ok.loop (fun m x=>∃(i j:Nat),x=((L,id,((L.length:Nat):Int),(i:Int),(j:Int),()),())/\i<=posV id L/\posV id L<=j/\j<=L.length/\m=j - i) (m:=L.length) U ⟨0,L.length,rfl,U,U,U,U⟩ ?_
 rintro m x ⟨i,j,rfl,h1,h2,h3,rfl⟩ K hK
 try dsimp only
 refine Ok.ite (fun hij=>?_) (fun hij=>?_)
 .refine Ok.nat U ?_
  rw[show(1:Int).toNat=1 from rfl,Qxq U]
  have hh:(i+j) / 2<L.length:=U
  refine Ok.atn hh (Ok.oe (Qua (hp _ (Qf hh)) hid) (Ok.ite (fun g=>?_) (fun g=>?_)))
  .try dsimp only
   rw[Qa U]
   refine hK _ _ U ⟨(i+j) / 2+1,j,rfl,?_,h2,h3,rfl⟩
   rcases BC ((i+j) / 2) (posV id L)with g2|g2
   .omega
   .have:=QmO ha g2 hh
    omega
  .refine hK _ _ U ⟨i,(i+j) / 2,rfl,h1,?_,U,rfl⟩
   rcases BC ((i+j) / 2) (posV id L)with g2|g2
   .have:=QmP g2
    omega
   .exact g2
 .have e:i=posV id L:=U
  subst e
  unfold hasV
  refine Ok.ite (fun g=>?_) (fun g=>?_)
  .have hh:posV id L<L.length:=U
   refine Ok.atn hh (Ok.oe (Qua (hp _ (Qf hh)) hid) (Ok.ite (fun g=>Ok.s ?_) (fun g=>Ok.s ?_)))
   .grind
   .rw[Av (fun h=>g U)]
  .exact Ok.s (by rw[Av (fun h=>g U)])
def LW.idsIn(h:LW M n l):∀p∈l.G,0<=p.S/\p.S<=999999:=fun p hp=>by
 have:=(h.page p hp).1.id;omega
def Qml{id:Int}(h:LW M n l)(hid : -1<=id/\id<=1000000):Z9 1000 l id=some ((posV id l.G:Int),hasV id l.G):=by
 unfold Z9
 rw[QCV h.asc h.len h.idsIn hid,ZX]
 dsimp only
 rw[Ve,Ve,Ve]
def QyW{id:Int}(h:LW M n l)(hid : -1<=id/\id<=1000000):QdL 1000 l id=some (Qdn l id):=by
 refine Ok.eq ?_
 unfold QdL Qj7 Qdn
 rw[QDz h.asc h.len h.idsIn hid]
 by_cases g:hasV id l.G=true
 .rw[iB g]
  have:=(Ux g).1
  exact Ok.os (Ok.nt g (Ok.atn this (Ok.oe (QuM (h.plens _ (Qf this))) (Ok.s rfl))))
 .rw[iA g]
  exact Ok.os (Ok.nf (by simpa using g) (Ok.s rfl))
def QzU:QgO 1000 p=some (QiY p):=by
 unfold QgO QiY
 (try unfold cd);rw[QAE];split<;>rfl
def Qzj{l:D.F}{i:Nat}(hi:i<l.G.length)(hp:Qz (O l.G i))(hk:k<=(O l.G i).P.length)(hcl:l.Calls.length<=20000):
  Q7 1000 ⟨l⟩ (i:Int) (k:Int)=some ⟨{ l with Calls:=l.Calls++QN (O l.G i).S l.Fence ((O l.G i).P.drop k) }⟩:=by
 obtain⟨P,hP⟩:∃P,O l.G i=P:=⟨_,rfl⟩
 have hst:=hp.st
 refine Ok.eq ?_
 unfold Q7
 refine Ok.natn (Ok.lt hi (Ok.get hi (Ok.natn (Ok.TO hk ?_))))
 rw[hP]at hp hk hst |-
 refine Ok.run (P.P.length - k) (fun j=>(((P.P.drop k),(((P.P.drop k).length:Nat):Int),(j:Int),()),(l.E8,l.E.FF,l.E.k,l.E.n,l.E.f,l.a.t,l.a.j,l.FB,l.Fence,()),P,l.G,l.i,l.Calls++QN P.S l.Fence ((P.P.drop k).take j),())) (by rw[Bd];simp[QN]) U (fun j hj kk hkk=>?_) (fun kk=>?_)
 .try dsimp only
  have hdl:j<(P.P.drop k).length:=by simp;omega
  refine Ok.P (Ok.atn hdl ?_)
  have hpe:=(hp.pe _ (Bq (Qf hdl))).1
  have hts:(P.P.drop k).take (j+1)=(P.P.drop k).take j++[O (P.P.drop k) j]:=(Qq hdl).symm
  have hol:(QN P.S l.Fence ((P.P.drop k).take j)).length<=40*((P.P.drop k).take j).length:=Qce (m:=40) fun s hs=>(hp.pe s (Bq (Bp hs))).1
  rw[Af,Bn]at hol
  obtain⟨s,hs⟩:∃s,O (P.P.drop k) j=s:=⟨_,rfl⟩
  rw[hs]at hpe hts |-
  refine Ok.run s.k.length (fun z=>(((P.P.drop k),(((P.P.drop k).length:Nat):Int),(j:Int),s.k,(s.k.length:Int),(z:Int),()),(l.E8,l.E.FF,l.E.k,l.E.n,l.E.f,l.a.t,l.a.j,l.FB,l.Fence,()),P,s,l.G,l.i,(l.Calls++QN P.S l.Fence ((P.P.drop k).take j))++(s.k.take z).map (fun x=>D.Call.mk P.S s.K s.At x l.Fence),())) (by rw[Bd,Ak,Ao];rfl) U (fun z hz k2 hk2=>?_) (fun k2=>?_)
  .try dsimp only
   refine Ok.P (Ok.atn hz (Ok.TO ?_ ?_))
   .grind
   .try dsimp only
    rw[Qa U]
    try dsimp only at hk2
    rw[<-Qq hz,Ax,<-Ay]at hk2
    exact hk2
  .try dsimp only
   refine Ok.N ?_
   try dsimp only
   rw[Qa U,Ad]
   try dsimp only at hkk
   rw[hts,Qfz,<-Ay]at hkk
   exact hkk
 .try dsimp only
  refine Ok.NS (Ok.s ?_)
  rw[Bl Ob]
def Qx6(hi:i<l.G.length)(hA:Qz A)(hx:Ext (O l.G i) A)(hcl:l.Calls.length<=20000):
  Q7 1000 ⟨⟨l.E8,l.E,l.a,l.G.set i A,l.FB,l.Fence,l.i,l.Calls⟩⟩ (i:Int) (((O l.G i).P.length:Nat):Int)=some ⟨putV l i A⟩:=by
 obtain⟨m,hm⟩:=hx
 have hset:O (l.G.set i A) i=A:=Q3 hi
 have hc:=Qzj (l:={ l with G:=l.G.set i A }) (i:=i) (k:=(O l.G i).P.length) (by show i<(l.G.set i A).length;rw[CL];exact hi) (by show Qz (O (l.G.set i A) i);rw[hset];exact hA)
  (by show _<=(O (l.G.set i A) i).P.length;rw[hset,hm];simp) hcl
 refine hc.trans ?_
 show some (D.worker.mk { l with G:=l.G.set i A,Calls:=l.Calls++QN (O (l.G.set i A) i).S l.Fence ((O (l.G.set i A) i).P.drop (O l.G i).P.length) })=_
 rw[hset];rfl
def Qqv(h:LW M n l)(hpg:l.G.length<=9)(hi:i<l.G.length):QH 1000 ⟨l⟩ (i:Int)=some ⟨runI l i⟩:=by
 have hcl:=h.callsLe hpg
 have hat:=h.at hi
 have hpl:=hat.1.plen h.book
 refine Ok.eq ?_
 unfold QH
 refine Ok.natn (Ok.lt hi (Ok.get hi (Ok.oe (QDf h.cfg h.small h.book hpl) ?_)))
 have hext:=Qqy (c:=l.E) (now:=l.E8) h.book hat.1
 have hR:=hpl.runV (c:=l.E) (now:=l.E8) h.book
 have hid:=(Qgr (c:=l.E) (now:=l.E8) h.book QT.step hat.1).id
 have herr:=(QeS (c:=l.E) (now:=l.E8) h.book QT.step hat.1).2.1
 rw[h.runEq hi]
 obtain⟨R,e,hRe⟩:∃R e,runV l.E l.a (O l.G i) l.E8=(R,e):=⟨_,_,rfl⟩
 rw[hRe]at hext hR hid herr |-
 try dsimp only at hext hR hid herr |-
 subst herr
 refine Ok.NS (Ok.natn (Ok.lt hi (Ok.get hi (Ok.natn (Ok.lt hi (Ok.get hi ?_))))))
 exact Ok.oe (Qx6 hi hR hext U) (Ok.s rfl)
def QAb(h:Qd M n l)(hpg:l.G.length<=9):∀{k:Nat},k<l.G.length->QH 1000 ⟨ZD l k⟩ (k:Int)=some ⟨ZD l (k+1)⟩:=fun{k} hk=>by
 have hr:=h.runs (k:=k) U
 have hl:=(YD (l:=l) (k:=k)).2.2.2.2.2.2
 exact Qqv hr.w (by rw[hl];exact hpg) (by rw[hl];exact hk)
def QB9(hf:0<=l.Fence/\l.Fence<=1048576)(hk:o.b=2):Yi 1000 ⟨l⟩ o=some ((opV l o).2,⟨(opV l o).1⟩):=by
 refine Ok.eq ?_
 unfold Yi opV
 rw[iA U,iB hk,Qc (by dsimp only;omega)]
 refine Ok.ite (fun g=>Ok.s ?_) (fun g=>Ok.s ?_)
 .simp_all
 .simp_all
def Qyy(h:LW M n l)(hpg:l.G.length<=9)(ho:OpIn o)(hk:o.b=3):ZW 1000 ⟨l⟩ o=some ((opV l o).2,⟨(opV l o).1⟩):=by
 have hop:=ho.page
 refine Ok.eq ?_
 unfold ZW opV
 rw[iA U,iA U,iB hk]
 refine Ok.TG (fun y=>y=((),(l.E8,l.E.FF,l.E.k,l.E.n,l.E.f,l.a.t,l.a.j,l.FB,l.Fence,()),o,l.G,l.i,l.Calls,())/\o.Region=l.FB/\o.Fence=l.Fence) (fun y hy=>?_) (fun zG hJ=>Ok.ite (fun g=>Ok.s ?_) (fun g=>Ok.ite (fun g2=>Ok.s ?_) (fun g2=>hJ _ ⟨rfl,by simpa using g,by simpa using g2⟩)))
 .obtain⟨rfl,g1,g2⟩:=hy
  try dsimp only
  rw[iB ⟨g1,g2⟩]
  refine Ok.oe (Qml (l:=l) h U) (Ok.ncnd (fun hh=>Ok.s ?_) (fun hh=>?_))
  .simp_all
  .rw[iB hh]
   have hi:=(Ux hh).1
   refine Ok.natn (Ok.lt hi (Ok.get hi ?_))
   have hrun:=Qqv h hpg hi
   obtain⟨pg,hpg2⟩:∃pg,O l.G (posV o.Page l.G)=pg:=⟨_,rfl⟩
   rw[hpg2]
   have hw:Y0 pg l.E8=((dueV pg).2 && decide ((dueV pg).1<=l.E8)):=rfl
   have hkk:(if pg.q=2 then(-1:Int)else pg.E7)=QiY pg:=rfl
   rw[hkk]
   refine Ok.TG (fun y=>y=((((posV o.Page l.G:Nat):Int),()),(l.E8,l.E.FF,l.E.k,l.E.n,l.E.f,l.a.t,l.a.j,l.FB,l.Fence,()),l.G,l.i,l.Calls,())/\Y0 pg l.E8=true/\o.K=QiY pg) (fun y hy=>?_) (fun zG hJ=>?_)
   .obtain⟨rfl,g3,g4⟩:=hy
    try dsimp only
    rw[iB ⟨g3,g4⟩]
    exact Ok.oe hrun (Ok.s rfl)
   .refine Ok.oe Qoq (Ok.J (fun g3=>Ok.ite (fun g4=>Ok.s ?_) (fun g4=>Ok.oe QzU (Ok.ite (fun g5=>Ok.s ?_) (fun g5=>hJ _ ⟨rfl,?_,?_⟩)))) (fun g3=>Ok.s ?_))
    .rw[iA (fun hx=>by rw[hw,g3]at hx;have:=BE (show decide ((dueV pg).1<=l.E8)=true by simpa using hx.1);omega)]
    .rw[iA (fun hx=>g5 hx.2.symm)]
    .simp_all
    .omega
    .simp_all
 .simp_all
 .simp_all
def Qym(h:Qd M n l)(hpg:l.G.length<=9)(hd:DecL l)(hk:o.b=4)(ha:YW o.Z=true):ZM 1000 ⟨l⟩ o=some ((opV l o).2,⟨(opV l o).1⟩):=by
 have hcl:=h.callsLe hpg
 have hap:=(QsG ha).2
 refine Ok.eq ?_
 unfold ZM opV
 rw[iA U,iA U,iA U,iB hk]
 refine Ok.oe (Qml (l:=l) h.w U) (Ok.ncnd (fun hh=>Ok.s ?_) (fun hh=>?_))
 .simp_all
 .rw[iB hh]
  have hi:=Ux hh
  refine Ok.oe (Qqv h.w hpg hi.1) ?_
  have h2:=h.run hi.1
  have hkp:=Xt (l:=l) (i:=posV o.Z.Page l.G)
  obtain⟨i,hie⟩:∃i,posV o.Z.Page l.G=i:=⟨_,rfl⟩
  rw[hie]at hi h2 hkp |-
  have hi2:i<(runI l i).G.length:=U
  have hcl2:=h2.callsLe U
  refine Ok.natn (Ok.lt hi2 (Ok.get hi2 ?_))
  have hpl2:=h2.plens _ (Qf hi2)
  have hde:(O (runI l i).G i).g.length<=11:=by
   have:=((hd.run h hi.1) _ (Qf (hie ▸ hi2))).dlen (h2.at hi2).1.declined
   omega
  obtain⟨a,hae⟩:∃a:D.Z,a=D.Z.mk o.Z.S o.Z.Page o.Z.Q o.Z.b o.Z.Fs (runI l i).E8:=⟨_,rfl⟩
  have hae2:D.Z.mk o.Z.S o.Z.Page o.Z.Q o.Z.b o.Z.Fs l.E8=a:=by rw[hae,hkp.1]
  rw[<-hae]
  refine Ok.oe (Qwt h2.book hpl2 hde) ?_
  have hz:=QcS (b:=(runI l i).a) (p:=O (runI l i).G i) (a:=a)
  have hAl:=hpl2.answerV (a:=a) h2.book
  show Ok _ (·=((if (answerV l.a (O (runI l i).G i) (D.Z.mk o.Z.S o.Z.Page o.Z.Q o.Z.b o.Z.Fs l.E8)).2=0 then(putV (runI l i) i (answerV l.a (O (runI l i).G i) (D.Z.mk o.Z.S o.Z.Page o.Z.Q o.Z.b o.Z.Fs l.E8)).1,(0:Int))else(runI l i,(answerV l.a (O (runI l i).G i) (D.Z.mk o.Z.S o.Z.Page o.Z.Q o.Z.b o.Z.Fs l.E8)).2)).2,(D.worker.mk (if (answerV l.a (O (runI l i).G i) (D.Z.mk o.Z.S o.Z.Page o.Z.Q o.Z.b o.Z.Fs l.E8)).2=0 then(putV (runI l i) i (answerV l.a (O (runI l i).G i) (D.Z.mk o.Z.S o.Z.Page o.Z.Q o.Z.b o.Z.Fs l.E8)).1,(0:Int))else(runI l i,(answerV l.a (O (runI l i).G i) (D.Z.mk o.Z.S o.Z.Page o.Z.Q o.Z.b o.Z.Fs l.E8)).2)).1)))
  rw[hae2,<-hkp.2.2.1]
  obtain⟨A,e,hA⟩:∃A e,answerV (runI l i).a (O (runI l i).G i) a=(A,e):=⟨_,_,rfl⟩
  rw[hA]at hz hAl |-
  try dsimp only at hz hAl |-
  by_cases he:e=0
  .rw[iB he]
   have hq:=hz he
   have hext:Ext (O (runI l i).G i) A:=by
    rcases hq with rfl|rfl
    .exact Ext.refl _
    .exact QhQ
   refine Ok.n (fun g=>g he) (Ok.natn (Ok.lt hi2 (Ok.get hi2 (Ok.natn (Ok.lt hi2 (Ok.get hi2 ?_))))))
   exact Ok.oe (Qx6 hi2 hAl hext U) (Ok.s rfl)
  .rw[iA he]
   exact Ok.p he (Ok.s rfl)
end
end
section
open Go AM
attribute [local irreducible] dueV stepV runV QG answerV
section
def OpIn.validE(ho:OpIn o):Qan 1000 o=some true:=by
 refine Ok.eq ?_
 unfold Qan
 refine Ok.oe oin (Ok.bt (Qt.2 ho.id) (Ok.oe oin (Ok.bt (Qt.2 ho.kind) (Ok.oe oin (Ok.bt (Qt.2 ho.region) (Ok.oe oin (Ok.bt (Qt.2 ho.fence) (Ok.oe oin (Ok.bt (Qt.2 ho.at_) (Ok.oe oin (Ok.bt (Qt.2 ho.page) (Ok.oe oin (Ok.bt (Qt.2 ho.k) ?_)))))))))))))
 exact Ok.ite (fun g=>Ok.s rfl) (fun g=>Ok.oe QuX (Ok.bt (ho.answer U).1 (Ok.s rfl)))
end
end
section
attribute [local irreducible] dueV stepV runV QG answerV
section
def QoO(h:Runs l ops):QdV 1000 l ops=some (opsV l ops,QbD l ops):=by
 have hlen:=h.len
 refine Ok.eq ?_
 unfold QdV
 have h0:=h.fin 0 (BM _)
 rw[Bd]at h0
 refine Ok.oe h0.copy ?_
 refine Ok.run ops.length (fun j=>((ops,(j:Int),()),opsV l (ops.take j),({ E8:=0,E:={ FF:=[],k:=[],n:=[],f:=[] },a:={ t:=[],j:=[] },G:=[],FB:=0,Fence:=0,i:=[],Calls:=[] }:D.F),QbD l (ops.take j),())) rfl U (fun j hj k hk=>?_) (fun k=>?_)
 .try dsimp only
  have ha:=h.at_ j hj
  have hf:=h.fin (j+1) U
  have hel:=QiI (ops:=ops.take j) (l:=l)
  rw[Af]at hel
  try dsimp only at hk
  rw[QjV hj]at hk
  rw[Qi3 hj]at hk hf
  refine Ok.P (Ok.atn hj (Ok.oe ha.TN ?_))
  obtain⟨l',e,hle⟩:∃l' e,ZS (opsV l (ops.take j)) (O ops j)=(l',e):=⟨_,_,rfl⟩
  rw[hle]at hf hk |-
  try dsimp only at hf hk |-
  refine Ok.j (Ok.oe hf.check (Ok.t ?_))
  try dsimp only
  refine Ok.LS ?_
  try dsimp only
  rw[Qa U]
  exact hk
 .try dsimp only
  rw[Ad]
  exact Ok.N (Ok.s rfl)
end
end
section
open Go AM
attribute [local irreducible] dueV stepV runV QG answerV
section
def QC2(hl:L.length<=64):QB 1000 L (posV P.S L:Int) [P]=some (insP L P):=by
 have hp:=Qds (id:=P.S) (l:=L)
 refine Ok.eq ?_
 unfold QB insP
 by_cases g:posV P.S L=L.length
 .rw[iB U]
  unfold XR
  refine Ok.natn (Ok.TO hp (Ok.NS (Ok.P (Ok.LS (Ok.s ?_)))))
  simp_all
 .rw[iA U]
  exact Ok.natn (Ok.E (Ok.L (Ok.s rfl)))
def QzZ(h:Qd M n l)(hpg:l.G.length<=8)(ho:OpIn o)(hk:o.b=1):Z4 1000 ⟨l⟩ o=some ((opV l o).2,⟨(opV l o).1⟩):=by
 have hnow:=h.now;have htop:=h.top;have hpl:=h.book.plen;have hop:=ho.page
 refine Ok.eq ?_
 unfold Z4 opV
 rw[iB hk]
 refine Ok.oe (Qml (l:=l) h.w U) (Ok.J (fun g=>Ok.s ?_) (fun g=>?_))
 .rw[iB g]
 replace g:hasV o.Page l.G=false:=g
 rw[iA (by rw[g];simp)]
 refine Ok.n (by dsimp only;omega) ?_
 rw[iA U]
 refine Ok.oe (QB4 h.book) ?_
 unfold newV
 by_cases g1:o.Page<1
 .rw[iB g1,iA (fun hh=>by have:=Qt.1 hh.1;omega)]
  exact Ok.PS (Ok.s rfl)
 rw[iA g1,iB ⟨Qt.2 U,Qt.2 (by dsimp only;omega)⟩]
 by_cases g2:0<=o.W/\o.W<(l.a.j.length:Int)
 .rw[iB g2,iB (Qt.2 (by dsimp only;omega))]
  try dsimp only
  refine Ok.NS ?_
  obtain⟨hi1,hi2,hi3⟩:=h.open (o:=o) g U g2 U
  have hP:(newP o.Page o.W l.E8).S=o.Page:=rfl
  have hins:=QC2 (P:=newP o.Page o.W l.E8) (L:=l.G) h.len
  rw[hP]at hins
  refine Ok.oe hins ?_
  exact Ok.oe (Qqv hi1.w (by show(insP l.G _).length<=9;rw[Qlm];omega) hi2) (Ok.s rfl)
 .rw[iA g2,iA (fun hh=>g2 (by have:=Qt.1 hh;dsimp only at this;omega))]
  exact Ok.PS (Ok.s rfl)
def OkAt.applyN(h:OkAt l o)(hne:o.b≠5):Qao 1000 l o=some ((ZS l o).1,(ZS l o).2,true):=by
 obtain⟨M,n,h1,h2,h3⟩:=h.ok
 have hpg:=h.pg;have hsl:=h.len;have ho:=h.op;have hfe:=h1.fence
 refine Ok.eq ?_
 unfold Qao
 refine Ok.j (Ok.oe h.led.checkE (Ok.t (Ok.oe ho.validE (Ok.t ?_))))
 try dsimp only
 refine Ok.oe h.led.copyE (Ok.oe (QaT U) (Ok.J (fun g=>Ok.s ?_) (fun g=>?_)))
 .unfold ZS;rw[iB g]
 rw[QjM g]
 have hsee:=h1.see ho h3 g hsl
 have hsp:(seeV l o).G.length<=8:=hpg
 have hsf:0<=(seeV l o).Fence/\(seeV l o).Fence<=1048576:=by show 0<=l.Fence/\l.Fence<=1048576;omega
 have hsd:DecL (seeV l o):=h.dec
 have hkd:=ho.kind
 have key:∀r:Int×D.worker,r=((opV (seeV l o) o).2,⟨(opV (seeV l o) o).1⟩)->Ok (some (D.F.mk r.2.F.E8 (D.E.mk r.2.F.E.FF r.2.F.E.k r.2.F.E.n r.2.F.E.f) (D.a.mk r.2.F.a.t r.2.F.a.j) r.2.F.G r.2.F.FB r.2.F.Fence r.2.F.i r.2.F.Calls,r.1,true)) (·=((opV (seeV l o) o).1,(opV (seeV l o) o).2,true)):=fun r e=>by
  subst e
  obtain⟨L,e,hLe⟩:∃L e,opV (seeV l o) o=(L,e):=⟨_,_,rfl⟩
  rw[hLe]
  exact Ok.s rfl
 refine Ok.N (Ok.LS (Ok.j ?_))
 refine Ok.ite (fun k1=>?_) (fun k1=>Ok.ite (fun k2=>?_) (fun k2=>Ok.ite (fun k3=>?_) (fun k3=>Ok.ite (fun k4=>?_) (fun k4=>?_))))
 .exact Ok.oe (QzZ (l:=seeV l o) hsee hsp ho k1) (key _ rfl)
 .exact Ok.oe (QB9 (l:=seeV l o) hsf k2) (key _ rfl)
 .exact Ok.oe (Qyy (l:=seeV l o) hsee.w U ho k3) (key _ rfl)
 .exact Ok.oe (Qym (l:=seeV l o) hsee U hsd k4 (ho.answer k4).1) (key _ rfl)
 .omega
def Led.waiting(h:Led l):UD 1000 l t=some (Qeh l.G t):=by
 have hpg:=h.pg
 refine Ok.eq ?_
 unfold UD
 refine Ok.oe h.checkE (Ok.nt rfl ?_)
 refine Ok.run l.G.length (fun i=>((t,l.G,(l.G.length:Int),(i:Int),()),Qeh (l.G.take i) t,())) rfl U (fun i hi k hk=>?_) (fun k=>?_)
 .try dsimp only
  have hs:=Qo1 (t:=t) hi
  have hlen:=Qnw (L:=l.G.take i) (t:=t)
  rw[Af]at hlen
  try dsimp only at hk
  rw[hs]at hk
  refine Ok.P (Ok.j (Ok.atn hi (Ok.oe Qoq (Ok.J (fun g=>Ok.ite (fun g2=>Ok.LS ?_) (fun g2=>?_)) (fun g=>?_)))))
  .try dsimp only
   rw[Qa U]
   rw[iB (by unfold Y0;rw[g,decide_eq_true g2];rfl)]at hk;exact hk
  .try dsimp only
   rw[Qa U]
   rw[iA (by unfold Y0;rw[decide_eq_false g2];simp),Ao]at hk;exact hk
  .try dsimp only
   rw[Qa U]
   rw[iA (by unfold Y0;rw[g];simp),Ao]at hk;exact hk
 .try dsimp only
  refine Ok.N (Ok.s ?_)
  rw[Ad]
def QvP(h:Runs l ops)(hne:∀o∈ops,o.b≠5):YV 1000 l ops=some (opsV l ops,QbD l ops):=by
 have hlen:=h.len
 refine Ok.eq ?_
 unfold YV
 have h0:=h.fin 0 (BM _)
 rw[Bd]at h0
 refine Ok.oe (Led.copyE (l:=l) h0) ?_
 refine Ok.run ops.length (fun j=>((ops,(ops.length:Int),(j:Int),()),opsV l (ops.take j),({ E8:=0,E:={ FF:=[],k:=[],n:=[],f:=[] },a:={ t:=[],j:=[] },G:=[],FB:=0,Fence:=0,i:=[],Calls:=[] }:D.F),QbD l (ops.take j),())) rfl U (fun j hj k hk=>?_) (fun k=>?_)
 .try dsimp only
  have ha:=h.at_ j hj
  have hel:=QiI (ops:=ops.take j) (l:=l)
  rw[Af]at hel
  try dsimp only at hk
  rw[QjV hj]at hk
  rw[Qi3 hj]at hk
  refine Ok.P (Ok.atn hj (Ok.oe (ha.applyN (hne _ (Qf hj))) ?_))
  refine Ok.LS ?_
  try dsimp only
  rw[Qa U]
  exact hk
 .try dsimp only
  rw[Ad]
  exact Ok.N (Ok.s rfl)
end
end
section
attribute [local irreducible] dueV stepV runV QG answerV opV ZS opsV QbD
section
variable {n:Nat} {M:Int} {l x:D.F} {o:D.Op} {i k:Nat} {t r id now f:Int}
def owin{fu:Nat}{x lo hi:Int}:QgT fu x lo hi=some (inV x lo hi):=by
 unfold QgT inV
 by_cases h1:lo<=x<;>by_cases h2:x<=hi<;>simp[cd,AM.J,h1,h2]
structure OwnE (l:D.F):Prop where
 r:OwnR l
 chkE:XH 1000 l=some true
 waitE:∀t,UD 1000 l t=some (Qeh l.G t)
 findE:∀p∈l.G,QdL 1000 l p.S=some (Qdn l p.S)
def Led.ownE(h:Led l):OwnE l:=by
 obtain⟨M,n,h1,h2⟩:=h.ok
 exact⟨h.ownR,h.checkE,fun t=>h.waiting,fun p hp=>QyW h1 (by have:=(h1.page p hp).1.id;omega)⟩
def QuK(h:OwnE l):Qcm 1000 l r id now=some (if QfC r id now=true then 0 else 1):=by
 refine Ok.eq ?_
 unfold Qcm QfC
 refine Ok.oe h.chkE (Ok.nt rfl (Ok.j (Ok.oe owin (Ok.J (fun g1=>Ok.oe owin (Ok.J (fun g2=>Ok.oe owin (Ok.J (fun g3=>Ok.s ?_) (fun g3=>Ok.s ?_))) (fun g2=>Ok.s ?_))) (fun g1=>Ok.s ?_)))))
 all_goals simp[*]
def QwZ(h:OwnE l):Qar 1000 l r id now=some (Ql3 l r id now):=by
 have hf:=h.r.fence
 refine Ok.eq ?_
 unfold Qar Ql3
 refine Ok.oe (QuK h) ?_
 by_cases g:QfC r id now=true
 .rw[iB g,iB g]
  refine Ok.NS (Ok.ite (fun g2=>Ok.s ?_) (fun g2=>Ok.s ?_))
  .rw[iB g2];rfl
  .rw[iA g2,Qc (x:=l.Fence+1) U];rfl
 .rw[iA g,iA g];exact Ok.PS (Ok.s rfl)
def Qv0(h:OwnE l):QcZ 1000 l r id now=some (QrV l r id now):=by
 have hpg:=h.r.pg
 have hwl:=Qnv (l:=l) (t:=now);have hwe:=QjE (l:=l) (t:=now)
 refine Ok.eq ?_
 unfold QcZ QrV
 refine Ok.j (Ok.oe (QuK h) ?_)
 by_cases g:QfC r id now=true
 .obtain⟨c1,c2,c3⟩:=Ql2.1 g
  rw[iB g]
  refine Ok.NS (Ok.ite (fun g2=>Ok.s (by rw[iA (fun h=>g2 h.2.1)])) (fun g2=>?_))
  have g2:r=l.FB:=Ag.1 g2
  rw[Qc (x:=id+(l.G.length:Int)) U]
  refine Ok.ite (fun g3=>Ok.s (by rw[iA (fun h=>U)])) (fun g3=>?_)
  rw[iB ⟨g,g2,U⟩]
  try dsimp only
  refine Ok.oe (h.waitE now) ?_
  refine Ok.run (Qbo l now).length (fun k=>((r,id,now,Qeh l.G now,(((Qeh l.G now).length:Nat):Int),(k:Int),()),l,(QcD l id now).take k,())) rfl U (fun k hk K hK=>?_) (fun K=>?_)
  .try dsimp only
   have hl:((QcD l id now).take k).length<=9:=by rw[Af,Wo];omega
   try dsimp only at hK
   rw[QkP hk]at hK
   refine Ok.P (Ok.A ?_)
   rw[QsJ hk]
   refine Ok.oe (h.findE _ (QoB hk)) ?_
   rw[Qry h.r hk]
   refine Ok.j ?_
   have hw:X (id+(k:Int))=id+k:=Qc U
   refine Ok.ite (fun g4=>Ok.LS ?_) (fun g4=>Ok.LS ?_)
   .try dsimp only at g4 |-
    rw[hw,Qa U]
    have e:Qaf l id now k=D.Op.mk (id+k) 3 r l.Fence now (Qa3 l now k).S (-1) 0 0 (D.Z.mk 0 0 0 0 0 0) (D.r.mk 0 0 0 0 0):=by unfold Qaf QiY;rw[iB g4,g2];rfl
    rw[<-e];exact hK
   .try dsimp only at g4 |-
    rw[hw,Qa U]
    have e:Qaf l id now k=D.Op.mk (id+k) 3 r l.Fence now (Qa3 l now k).S (Qa3 l now k).E7 0 0 (D.Z.mk 0 0 0 0 0 0) (D.r.mk 0 0 0 0 0):=by unfold Qaf QiY;rw[iA g4,g2];rfl
    rw[<-e];exact hK
  .try dsimp only
   exact Ok.N (Ok.s (Bl (by rw[Wo];omega)))
 .rw[iA g];exact Ok.PS (Ok.s (by rw[iA (fun h=>g h.1)]))
end
end
section
open Go AM
def QvO(h:Led l):YV 1000 l []=some (l,[]):=
 QvP (l:=l) (ops:=[]) ⟨fun j hj=>absurd hj Ob,fun j _=>by rw[List.take_nil];exact h,Ob⟩ Ob
attribute [local irreducible] dueV stepV runV QG answerV opV ZS opsV QbD
section
def vin:QaD fu x lo hi=some (inV x lo hi):=by
 unfold QaD inV
 by_cases h1:lo<=x<;>by_cases h2:x<=hi<;>simp[cd,AM.J,h1,h2]
def gin:US fu x lo hi=some (inV x lo hi):=vin (fu:=fu)
def pin:QdN fu x lo hi=some (inV x lo hi):=vin (fu:=fu)
def inn(h1:lo<=x)(h2:x<=hi):inV x lo hi=true:=Qt.2 ⟨h1,h2⟩
structure Shp (n:Nat) (r:D.N):Prop where
 term:r.T<=1048576
 voted : -1<=r.Fe/\r.Fe<n
 role:(r.FJ=0/\r.FR=[]/\r.FE=[])\/(r.FJ=1/\r.FR.length=n/\O r.FR r.S.toNat=true/\r.FE=[])\/
  (r.FJ=2/\r.FR.length=n/\O r.FR r.S.toNat=true/\r.FE.length=n/\O r.FE r.S.toNat=r.l.length/\∀j,j<n->0<=O r.FE j/\O r.FE j<=r.l.length)
def QtZ(hn:1<=n/\n<=5)(h:Shp n r)(hid:0<=r.S/\r.S<n)(hl:r.l.length<=256)(hc:0<=r.h/\r.h<=r.l.length)(ht:0<=r.T)(hf:∀k,k<r.l.length->(if k=0 then 1 else(O r.l (k - 1)).T)<=(O r.l k).T/\(O r.l k).T<=r.T):Ul 1000 n r=some true:=by
 have hterm:=h.term;have hv:=h.voted
 have logged:Qe4 1000 r=some true:=by
  refine Ok.eq ?_
  unfold Qe4
  refine Ok.run r.l.length (fun i=>(((if i=0 then 1 else(O r.l (i - 1)).T),r.l,(r.l.length:Int),(i:Int),()),r,())) rfl U (fun i hi K hK=>?_) fun K=>?_
  .obtain⟨f1,f2⟩:=hf i hi
   dsimp only at hK |-
   refine Ok.P (Ok.atn hi (Ok.oe vin (Ok.nt (inn (by show _<=(O r.l i).T;omega) (by show(O r.l i).T<=_;omega)) ?_)))
   rw[Qa U]
   simp_all
  .exact Ok.n (by show ¬(r.l.length:Int)<(r.l.length:Int);omega) (Ok.P (Ok.oe vin (Ok.bt (inn U U) (Ok.s rfl))))
 refine Ok.eq ?_
 unfold Ul
 refine Ok.j (Ok.oe vin (Ok.bt (inn U U) ?_))
 rw[Qc (x:=(n:Int) - 1) U]
 refine Ok.oe vin (Ok.bt (inn U U) (Ok.oe vin (Ok.bt (inn U U) (Ok.oe vin (Ok.bt (inn U U) (Ok.oe logged (Ok.t ?_)))))))
 dsimp only
 have vs:r.FR.length=n->O r.FR r.S.toNat=true->Qeg 1000 n r=some true:=fun e1 e2=>by
  refine Ok.eq ?_
  unfold Qeg
  exact Ok.P (Ok.at U U (Ok.bt e2 (Ok.s rfl)))
 rcases h.role with e|e|e
 .exact Ok.p e.1 (Ok.p (by rw[e.2.1];rfl) (Ok.p (by rw[e.2.2];rfl) (Ok.s rfl)))
 .exact Ok.N (Ok.p e.1 (Ok.oe (vs e.2.1 e.2.2.1) (Ok.t (Ok.p (by rw[e.2.2.2];rfl) (Ok.s rfl)))))
 .obtain⟨e1,e2,e3,e4,e5,e6⟩:=e
  refine Ok.N (Ok.N (Ok.p e1 (Ok.oe (vs e2 e3) (Ok.t (Ok.oe (v:=true) ?_ (Ok.t (Ok.s rfl)))))))
  refine Ok.eq ?_
  unfold QgA
  refine Ok.P (Ok.at U U (Ok.P (Ok.oe (v:=false) ?_ (Ok.f (Ok.s rfl)))))
  refine Ok.eq ?_
  unfold Zm
  refine Ok.oe (v:=-1) ?_ (Ok.TF (Ok.s Ob))
  refine Ok.eq ?_
  unfold ZF
  refine Ok.run n (fun i=>((r.FE,(r.FE.length:Int),(i:Int),()),r,())) rfl U (fun i hi K hK=>?_) fun K=>Ok.n (by show ¬(n:Int)<(r.FE.length:Int);omega) (Ok.TF (Ok.s rfl))
  have:=e6 i hi
  dsimp only at hK |-
  refine Ok.P (Ok.A (Ok.oe (v:=false) ?_ (Ok.f ?_)))
  .refine Ok.eq ?_
   unfold Qdy
   exact Ok.oe vin (Ok.TF (Ok.s (by rw[inn this.1 this.2];rfl)))
  .rw[Qa U]
   exact hK
structure CX (n:Nat) (P:D.Op->Prop) (c:D.H):Prop where
 sz:1<=n/\n<=5
 len:c.M.length=n
 dn:c.FV.length=n
 ck:Vc 1000 c=some true
 cp:Vn 1000 c=some c
 rep:∀i,i<n->(O c.M i).S=i/\Ul 1000 n (O c.M i)=some true/\V5 1000 (O c.M i)=some (O c.M i)/\(O c.M i).l.length<=256/\((O c.M i).FJ=2->(O c.M i).FE.length=n)
 ops:∀i,i<n->∀e∈(O c.M i).l,P e.Op
def QCh{n:Nat}(hn:1<=n/\n<=5):Qe3 1000 n=some ((n / 2+1:Nat):Int):=by
 refine Ok.eq ?_
 unfold Qe3
 have e:Int.tdiv (n:Int) 2=((n / 2:Nat):Int):=by rw[Bz U];omega
 rw[e,Qc (x:=((n / 2:Nat):Int)) U,Qc (x:=((n / 2:Nat):Int)+1) U]
 exact Ok.oe vin (Ok.nt (inn U U) (Ok.Z (Ok.s U)))
def Qz1(hl:Led p.FX)(hser:1<=p.FQ/\p.FQ<=1000)(h:CX n P p.H)(hP:∀o,P o->OpIn o/\o.S<p.FQ):Xo 1000 p=some true:=by
 have hlen:=h.len;have hn:=h.sz
 refine Ok.eq ?_
 unfold Xo
 refine Ok.j (Ok.oe hl.checkE (Ok.t (Ok.oe h.ck (Ok.t (Ok.oe pin (Ok.bt (inn U U) ?_))))))
 dsimp only
 rw[hlen]
 refine Ok.run n (fun i=>((p.H.M,(n:Int),(i:Int),()),p,())) rfl U (fun i hi K hK=>?_) fun K=>Ok.n (by show ¬(n:Int)<(n:Int);omega) (Ok.s rfl)
 dsimp only at hK |-
 refine Ok.P (Ok.A ?_)
 have hsh:=(h.rep i hi).2.2.2.1
 have hlog:=h.ops i hi
 obtain⟨zH,hC⟩:∃zH,zH=(O p.H.M i).l:=⟨_,rfl⟩
 rw[<-hC]at hsh hlog |-
 refine Ok.run zH.length (fun k=>((p.H.M,(n:Int),(i:Int),zH,(zH.length:Int),(k:Int),()),p,())) rfl U (fun k hk K2 hK2=>?_) fun K2=>Ok.n (by show ¬(zH.length:Int)<(zH.length:Int);omega) ?_
 .dsimp only at hK2 |-
  have hq:=hP _ (hlog _ (Qf hk))
  refine Ok.P (Ok.j (Ok.atn hk (Ok.oe hq.1.validE (Ok.t (Ok.n (by have:=hq.2;omega) ?_)))))
  dsimp only
  rw[Qa U]
  exact hK2
 .dsimp only
  rw[Qa U]
  exact hK
def Qve(h:CX n P c):QbY 1000 c=some c:=by
 refine Ok.eq ?_
 unfold QbY
 exact Ok.oe h.cp (Ok.s rfl)
def Qnk(h:CX n P p.H)(hl:Led p.FX):Qco 1000 p k=some (D.site.mk p k 0):=by
 refine Ok.eq ?_
 unfold Qco
 exact Ok.oe (QvO hl) (Ok.oe (Qve h) (Ok.s rfl))
structure Lead (n i:Nat) (p:D.d):Prop where
 n1:n≠1
 lt:i<n
 up:O p.H.FV i=false
 role:(O p.H.M i).FJ=2
 fresh:∀e∈(O p.H.M i).l,e.Op.S≠p.FQ
 room:(O p.H.M i).l.length<256
structure PX (n:Nat) (p:D.d):Prop where
 base:Led p.FX
 ser:1<=p.FQ/\p.FQ<=1000
 cx:CX n (fun o=>OpIn o/\o.S<p.FQ) p.H
def PX.ck(h:PX n p):Xo 1000 p=some true:=Qz1 h.base h.ser h.cx fun _=>id
end
end
section
def Shp.fol(h:Shp n r)(ht:t<=1048576):Shp n (folV r t):=by
 unfold folV
 split
 .exact⟨ht,by dsimp only;omega,.inl ⟨rfl,rfl,rfl⟩⟩
 .exact h
def Shp.hear(h:Shp n r)(hm:CkM n r m k):Shp n (QbJ r m).1:=by
 have hf:=h.fol hm.term.2
 unfold QbJ
 dsimp only
 split
 .exact⟨hf.term,by have:=hm.from0;dsimp only;omega,hf.role⟩
 .exact hf
def Shp.lead(h:Shp n r)(hn:0<=r.S/\r.S<n)(h1:r.FJ=1):Shp n (Qh1 n r):=by
 rcases h.role with e|e|e
 .omega
 .refine⟨h.term,h.voted,.inr (.inr ⟨rfl,e.2.1,e.2.2.1,by simp[Qh1],?_,fun j hj=>?_⟩)⟩
  .show O ((List.replicate n (0:Int)).set r.S.toNat _) r.S.toNat=_
   rw[Q3 (by simp;omega)];rfl
  .show 0<=O ((List.replicate n (0:Int)).set r.S.toNat _) j/\O ((List.replicate n (0:Int)).set r.S.toNat _) j<=(r.l.length:Int)
   by_cases q:j=r.S.toNat
   .rw[q,Q3 (by simp;omega)];omega
   .rw[YA q];simp[O,hj]
 .omega
def Shp.votes(h:Shp n r)(h1:r.FJ=1)(hm:CkM n r m k):Shp n { r with FR:=r.FR.set m.v.toNat true }:=by
 rcases h.role with e|e|e
 .omega
 .refine⟨h.term,h.voted,.inr (.inl ⟨h1,by simp[e.2.1],?_,e.2.2.2⟩)⟩
  have:=hm.from0;have:=hm.ne;have:=hm.rep.id
  show O (r.FR.set m.v.toNat true) r.S.toNat=true
  rw[YA U];exact e.2.2.1
 .omega
def Shp.cast(h:Shp n r)(hm:CkM n r m k):Shp n (Qag n r m):=by
 unfold Qag
 split
 .exact h.fol hm.term.2
 split
 .exact h
 .next y=>
  have h1:r.FJ=1:=CJ fun z=>y (.inl z)
  have h2:=h.votes h1 hm
  split
  .exact h2.lead hm.rep.id h1
  .exact h2
def Shp.hrd(h:Shp n r)(ht:m.T<=1048576):Shp n (hrdV r m):=by
 have hf:=h.fol ht
 unfold hrdV
 split
 .next x=>
  refine⟨hf.term,hf.voted,.inl ⟨rfl,rfl,?_⟩⟩
  rcases hf.role with e|e|e
  .exact e.2.2
  .exact e.2.2.2
  .omega
 .exact hf
def Shp.accept(h:Shp n r)(hm:b=true->CkM n r m 3):Shp n (Uq b c r m).1:=by
 unfold Uq
 split
 .exact h
 .next x=>
  have hb:b=true:=by cases b<;>simp at x |-
  have hf:=h.hrd (hm hb).term.2
  split
  .next y=>
   split
   .exact h
   .refine⟨hf.term,hf.voted,?_⟩
    rcases hf.role with e|e|e
    .exact .inl e
    .simp_all
    .exact absurd e.1 y.2.1
  .exact hf
def Shp.acked(h:Shp n r)(hm:CkM n r m k):Shp n (QaQ n r m):=by
 unfold QaQ
 split
 .exact h.fol hm.term.2
 split
 .exact h
 .next y=>
  have h1:r.FJ=2:=CJ fun z=>y (.inl z)
  have h2:¬m.E9<0:=fun z=>y (.inr (.inr (.inr (.inl z))))
  have h3:¬(r.l.length:Int)<m.E9:=fun z=>y (.inr (.inr (.inr (.inr z))))
  rcases h.role with e|e|e
  .omega
  .omega
  .have hf:=hm.from0;have hne:=hm.ne;have hid:=hm.rep.id
   refine⟨h.term,h.voted,.inr (.inr ⟨h1,e.2.1,e.2.2.1,by simp[Qck,e.2.2.2.1],?_,fun j hj=>?_⟩)⟩
   .show O (Qck r m) r.S.toNat=_
    unfold Qck
    rw[YA U];exact e.2.2.2.2.1
   .show 0<=O (Qck r m) j/\O (Qck r m) j<=_
    have hj2:=e.2.2.2.2.2 j hj
    unfold Qck
    by_cases q:j=m.v.toNat
    .subst q
     rw[Q3 U]
     grind
    .rw[YA q];exact hj2
def Shp.handle(h:Shp n r)(hm:b=true->CkM n r m m.b):Shp n (YO n b c r m).1:=by
 unfold YO
 split
 .split
  .exact h
  .next y=>exact h.hear (hm (by simpa using y))
 split
 .dsimp only
  split
  .exact h
  .next y=>exact h.cast (hm (by simpa using y))
 split
 .next y=>exact h.accept fun e=>y ▸ hm e
 split
 .dsimp only
  split
  .exact h
  .next y=>exact h.acked (hm (by simpa using y))
 .exact h
def Shp.prop(h:Shp n r)(hid:0<=r.S/\r.S<n)(h2:r.FJ=2):Shp n (prpV n r o):=by
 rcases h.role with e|e|e
 .omega
 .omega
 .refine⟨h.term,h.voted,.inr (.inr ⟨h2,e.2.1,e.2.2.1,by simp[prpV,e.2.2.2.1],?_,fun j hj=>?_⟩)⟩
  .show O (r.FE.set r.S.toNat _) r.S.toNat=((r.l++[_]).length:Int)
   rw[Q3 U];simp
  .show 0<=O (r.FE.set r.S.toNat _) j/\O (r.FE.set r.S.toNat _) j<=((r.l++[_]).length:Int)
   have:=e.2.2.2.2.2 j hj
   rw[Ac]
   by_cases q:j=r.S.toNat
   .rw[q,Q3 U];simp;omega
   .rw[YA q];simp;omega
def Shp.stand(h:Shp n r)(hid:0<=r.S/\r.S<n)(ht:r.T<1048576):Shp n (if n / 2+1=1 then Qh1 n (VO n r)else VO n r):=by
 have h1:Shp n (VO n r):=by
  refine⟨by show r.T+1<=_;omega,by show -1<=r.S/\r.S<n;omega,.inr (.inl ⟨rfl,by simp[VO],?_,rfl⟩)⟩
  show O ((List.replicate n false).set r.S.toNat true) r.S.toNat=true
  rw[Q3 (by simp;omega)]
 split
 .exact h1.lead hid rfl
 .exact h1
def Shp.back(h:Shp n r):Shp n (QwP r):=⟨h.term,h.voted,.inl ⟨rfl,rfl,rfl⟩⟩
def QBx(hn:1<=n/\n<=5)(h:Shp n r)(hid:0<=r.S/\r.S<n)(hl:r.l.length<=256)(hc:0<=r.h/\r.h<=r.l.length)(ht:0<=r.T)(hf:∀k,k<r.l.length->(if k=0 then 1 else trm r.l (k - 1))<=trm r.l k/\trm r.l k<=r.T):YJ 1000 n r=some true:=by
 have hterm:=h.term;have hv:=h.voted
 have fits:Wg 1000 r.l r.T=some true:=by
  refine Ok.eq ?_
  unfold Wg
  refine Ok.run r.l.length (fun i=>((r.l,r.T,(if i=0 then 1 else trm r.l (i - 1)),(i:Int),()),())) rfl U (fun i hi K hK=>?_) fun K=>?_
  .obtain⟨f1,f2⟩:=hf i hi
   dsimp only
   refine Ok.P (Ok.j (Ok.atn hi (Ok.n (by show ¬trm r.l i<_;omega) (Ok.atn hi (Ok.n (by show ¬r.T<trm r.l i;omega) ?_)))))
   dsimp only at hK |-
   refine Ok.atn hi ?_
   rw[Qa U]
   simp_all
  .exact Ok.N (Ok.s (by simp;omega))
 refine Ok.eq ?_
 unfold YJ
 have inn:∀{x lo hi:Int},lo<=x->x<=hi->inV x lo hi=true:=fun h1 h2=>Qt.2 ⟨h1,h2⟩
 refine Ok.j (Ok.oe Qie (Ok.n (by rw[QoE hn];omega) ?_))
 rw[Qc (x:=(n:Int) - 1) U]
 refine Ok.oe rin (Ok.bt (inn U U) (Ok.oe rin (Ok.bt (inn U U) (Ok.oe rin (Ok.bt (inn U U) (Ok.oe fits (Ok.t (Ok.oe rin (Ok.bt (inn U U) ?_)))))))))
 dsimp only
 rcases h.role with e|e|e
 .exact Ok.p e.1 (Ok.p (by rw[e.2.1];rfl) (Ok.p (by rw[e.2.2];rfl) (Ok.s rfl)))
 .exact Ok.N (Ok.p e.1 (Ok.P (Ok.at U U (Ok.bt e.2.2.1 (Ok.p (by rw[e.2.2.2];rfl) (Ok.s rfl))))))
 .obtain⟨e1,e2,e3,e4,e5,e6⟩:=e
  refine Ok.N (Ok.N (Ok.p e1 (Ok.j (Ok.N (Ok.at U U (Ok.bt e3 (Ok.N (Ok.at U U (Ok.N ?_)))))))))
  refine Ok.run n (fun i=>(((n:Int),(i:Int),()),r,())) rfl U (fun i hi K hK=>?_) fun K=>Ok.n (show ¬(n:Int)<(n:Int)by omega) (Ok.s rfl)
  have:=e6 i hi
  dsimp only at hK |-
  refine Ok.P (Ok.A (Ok.oe rin (Ok.nt (inn this.1 this.2) ?_)))
  rw[Qa U]
  exact hK
def InvC.ck(h:InvC n P Rs W)(hi:i<n)(hn:n<=5)(hs:Shp n (O Rs i))(hl:(O Rs i).l.length<=256):YJ 1000 n (O Rs i)=some true:=by
 have hc:=h.com_le hi
 have hid:=h.id hi
 obtain⟨_,g,x⟩:=h
 have hr:=x.rep i hi
 refine QBx U hs U hl hc hr.pos fun k hk=>⟨?_,(hr.log.term k hk).2⟩
 split
 .exact(hr.log.term k hk).1
 .exact hr.log.asc (k - 1) k U hk
end
open Go AM
section
variable {n zI q fu i:Nat} {c:D.H} {r:D.N} {m:D.e} {o:D.Op} {t k x y:Int} {P:D.Op->Prop}
structure CkC (n:Nat) (c:D.H):Prop where
 len:c.M.length=n
 sz:1<=n/\n<=5
 down:c.FV.length=n
 wire:c.FC.length<=256
 rep:∀i,i<n->(O c.M i).S=i/\YJ 1000 n (O c.M i)=some true/\CkR n (O c.M i)
 msg:∀m∈c.FC,(0<=m.v/\m.v<n)/\(0<=m.To/\m.To<n)/\m.v≠m.To
def isC(L:Y D.FD)(x y:Int):AH:=L.any fun p=>decide (p.a0=min x y/\p.a1=max x y)
def QDx(n:Nat)(L:Y D.FD):Prop:=∀i,i<L.length->0<=(O L i).a0/\(O L i).a0<(O L i).a1/\(O L i).a1<n/\isC (L.take i) (O L i).a0 (O L i).a1=false
structure CI (n qq:Nat) (P:D.Op->Prop) (c:D.H):Prop where
 inv:InvC n P c.M c.FC
 sz:1<=n/\n<=5
 idP:∀o,P o->1<=o.S/\o.S<=(256:Nat)
 shp:∀i,i<n->Shp n (O c.M i)
 dn:c.FV.length=n
 cut:c.Fm.length<=qq
 q:qq<=800
 cutOK:QDx n c.Fm
 wire:c.FC.length<=256
 ents:∀m∈c.FC,m.x.length<=600/\m.v≠m.To
 tm:∀i,i<n->(O c.M i).T<=8*qq+8
def CI.len(h:CI n q P c):c.M.length=n:=h.inv.1
def CI.short(h:CI n q P c)(hi:i<n):(O c.M i).l.length<=256:=h.inv.short hi h.idP
def InvC.msg{Rs:Y D.N}{W:Y D.e}(h:InvC n P Rs W)(hm:m∈W):(0<=m.v/\m.v<n)/\(0<=m.To/\m.To<n):=by
 obtain⟨_,g,x⟩:=h
 exact⟨(x.msg m hm).from0,(x.msg m hm).to0⟩
def Qw9{L:Y D.FD}(hl:L.length<=900):Qd0 1000 L x y=some (isC L x y):=by
 refine Ok.eq ?_
 unfold Qd0
 have e:∀p:D.FD,([p.a0,p.a1]=[min x y,max x y])↔(p.a0=min x y/\p.a1=max x y):=fun p=>by simp
 refine Ok.scan L.length (fun i=>((L,x,y,(i:Int),()),())) (fun i=>decide ((O L i).a0=min x y/\(O L i).a1=max x y)) rfl U (fun i hi hq _ k=>?_) (fun i hi hq k hk=>?_) (fun hq k=>?_)
 .exact Ok.P (Ok.atn hi (Ok.p ((e _).2 (BE hq)) (Ok.s (QjL hi hq).symm)))
 .dsimp only at hk |-
  refine Ok.P (Ok.atn hi (Ok.n (fun g=>BG hq ((e _).1 g)) ?_))
  rw[Qa U]
  exact hk
 .exact Ok.N (Ok.s (Qoe hq).symm)
def CI.ck(h:CI n q P c):CkC n c:=
 ⟨h.len,h.sz,h.dn,h.wire,fun i hi=>by
  have hk:=h.inv.ck hi h.sz.2 (h.shp i hi) (h.short hi)
  obtain⟨b,hb,hb2⟩:=QwY (n:=n) (r:=O c.M i) (by have:=h.short hi;omega)
  rw[hk]at hb;cases hb
  exact⟨h.inv.id hi,hk,hb2 rfl⟩,fun m hm=>⟨(h.inv.msg hm).1,(h.inv.msg hm).2,(h.ents m hm).2⟩⟩
def QjR(h:CI n q P c):UP 1000 c=some true:=by
 have hc:=h.ck
 have hlen:=h.len;have hn:=h.sz;have hq:=h.q;have hcut:=h.cut;have hw:=h.wire;have hd:=h.dn
 have inn:∀{x lo hi:Int},lo<=x->x<=hi->inV x lo hi=true:=fun h1 h2=>Qt.2 ⟨h1,h2⟩
 refine Ok.eq ?_
 unfold UP
 rw[hlen]
 refine Ok.j (Ok.oe Qie (Ok.n (by rw[QoE hn];omega) (Ok.N (Ok.N ?_))))
 dsimp only
 refine Ok.run n (fun i=>(((n:Int),(i:Int),()),c,())) rfl U (fun i hi K hK=>?_) fun K=>?_
 .obtain⟨a1,a2,_⟩:=hc.rep i hi
  dsimp only at hK |-
  refine Ok.P (Ok.j (Ok.A (Ok.N (Ok.A (Ok.oe a2 (Ok.t ?_))))))
  dsimp only
  rw[Qa U]
  exact hK
 .dsimp only
  refine Ok.N (Ok.run c.FC.length (fun i=>(((n:Int),(i:Int),()),c,())) rfl U (fun i hi K hK=>?_) fun K=>?_)
  .obtain⟨a1,a2,a3⟩:=hc.msg _ (Qf hi)
   dsimp only at hK |-
   rw[Qc (x:=(n:Int) - 1) U]
   refine Ok.P (Ok.j (Ok.atn hi (Ok.oe rin (Ok.bt (inn U U) (Ok.oe rin (Ok.bt (inn U U) (Ok.n a3 ?_)))))))
   dsimp only
   rw[Qa U]
   exact hK
  .dsimp only
   refine Ok.N (Ok.run c.Fm.length (fun i=>(((n:Int),(i:Int),()),c,())) rfl U (fun i hi K hK=>?_) fun K=>Ok.n (show ¬(c.Fm.length:Int)<(c.Fm.length:Int)by omega) (Ok.s rfl))
   obtain⟨a1,a2,a3,a4⟩:=h.cutOK i hi
   dsimp only at hK |-
   refine Ok.P (Ok.j (Ok.atn hi (Ok.N (Ok.N (Ok.N (Ok.natn (Ok.L (Ok.oe (Qw9 (by simp;omega)) (Ok.bf a4 ?_)))))))))
   dsimp only
   rw[Qa U]
   exact hK
def CkC.copy(h:CkC n c)(hcut:c.Fm.length<=800)(hs:∀m∈c.FC,m.x.length<=600):Y9 1000 c=some c:=by
 have hl:=h.len;have hn:=h.sz;have hw:=h.wire;have hd:=h.down
 refine Ok.eq ?_
 unfold Y9
 refine Ok.run n (fun i=>(((i:Int),()),c,(),(),c.M.take i,())) rfl U (fun i hi K hK=>?_) fun K=>?_
 .dsimp only at hK |-
  rw[<-Qq (show i<c.M.length by omega)]at hK
  refine Ok.P (Ok.A (Ok.oe (h.rep i hi).2.2.copyP (Ok.LS ?_)))
  rw[Qa U]
  exact hK
 .dsimp only
  rw[Bl U]
  refine Ok.N (Ok.run c.FC.length (fun i=>(((i:Int),()),c,(),(),c.M,c.FC.take i,())) rfl U (fun i hi K hK=>?_) fun K=>?_)
  .dsimp only at hK |-
   rw[<-Qq hi]at hK
   have:=hs _ (Qf hi)
   refine Ok.P (Ok.atn hi (Ok.L (Ok.LS ?_)))
   rw[Qa U]
   exact hK
  .dsimp only
   rw[Ad]
   exact Ok.N (Ok.L (Ok.L (Ok.s rfl)))
def CkC.cp(h:CkC n c)(hi:CI n q P c):Y9 1000 c=some c:=h.copy (by have:=hi.cut;have:=hi.q;omega) fun m hm=>(hi.ents m hm).1
def CI.cp(h:CI n q P c):Y9 1000 c=some c:=h.ck.cp h
def Quk{N:Nat}{o:I Int}(h:o=some (if inV k 0 ((N:Int) - 1)=true then 0 else 3)):Ok o fun e=>(e=0/\∃i:Nat,i<N/\k=i)\/(e=3/\¬(0<=k/\k<N)):=by
 refine Ok.of h ?_
 split
 .next g=>have:=Qt.1 g;exact .inl ⟨rfl,k.toNat,U,U⟩
 .next g=>exact .inr ⟨rfl,fun z=>g (Qt.2 ⟨z.1,U⟩)⟩
def QeP(h:CI n q P c):Ok (VK 1000 c k) fun e=>(e=0/\∃i:Nat,i<n/\k=i)\/(e=3/\¬(0<=k/\k<n)):=by
 have hlen:=h.len;have hn:=h.sz
 refine Quk (Ok.eq ?_)
 unfold VK
 rw[hlen,Qc (x:=(n:Int) - 1) U]
 exact Ok.oe (QjR h) (Ok.nt rfl (Ok.oe rin (Ok.ncnd (fun g=>Ok.s (by rw[g];rfl)) fun g=>Ok.s (by rw[g];rfl))))
def QyP(h:CI n q P c):Ok (Qjo 1000 c k) fun e=>(e=0/\∃i:Nat,i<c.FC.length/\k=i)\/(e=3/\¬(0<=k/\k<c.FC.length)):=by
 have hw:=h.wire
 refine Quk (Ok.eq ?_)
 unfold Qjo
 rw[Qc (x:=(c.FC.length:Int) - 1) U]
 exact Ok.oe (QjR h) (Ok.nt rfl (Ok.oe rin (Ok.ncnd (fun g=>Ok.s (by rw[g];rfl)) fun g=>Ok.s (by rw[g];rfl))))
def GrC(n:Nat)(A B:Y D.N):Prop:=∀i,i<n->Grows (O A i) (O B i)
def GrC.same{A:Y D.N}:GrC n A A:=fun i _=>.same rfl rfl
def GrC.trans{A B zH:Y D.N}(h:GrC n A B)(h2:GrC n B zH):GrC n A zH:=fun i hi=>(h i hi).trans (h2 i hi)
def GrC.set{A:Y D.N}(hi:i<A.length)(h:Grows (O A i) r):GrC n A (A.set i r):=fun j _=>by
 by_cases e:j=i
 .subst e;rw[Q3 hi];exact h
 .rw[YA e];exact .same rfl rfl
structure CG (n q:Nat) (P:D.Op->Prop) (A:Y D.N) (c:D.H):Prop where
 ci:CI n q P c
 gr:GrC n A c.M
def CI.cg(h:CI n q P c):CG n q P c.M c:=⟨h,.same⟩
def CG.of{A:Y D.N}(h:GrC n A c.M){d:D.H}(h2:CG n q P c.M d):CG n q P A d:=⟨h2.ci,h.trans h2.gr⟩
def CI.upd(h:CI n q P c){d:D.H}(hI:InvC n P d.M d.FC)(hs:∀i,i<n->Shp n (O d.M i))(hd:d.FV.length=n)(hc:d.Fm=c.Fm)(hw:d.FC.length<=256)(he:∀m∈d.FC,m.x.length<=600/\m.v≠m.To)(ht:∀i,i<n->(O d.M i).T<=8*q+8):CI n q P d:=⟨hI,h.sz,h.idP,hs,hd,by rw[hc];exact h.cut,h.q,by rw[hc];exact h.cutOK,hw,he,ht⟩
def CI.set(h:CI n q P c)(hi:i<n)(hr:Shp n r):∀j,j<n->Shp n (O (c.M.set i r) j):=fun j hj=>by
 by_cases e:j=i
 .subst e;rw[Q3 (by rw[h.len];exact hj)];exact hr
 .rw[YA e];exact h.shp j hj
def CI.tset(h:CI n q P c)(hi:i<n)(hr:r.T<=8*q+8):∀j,j<n->(O (c.M.set i r) j).T<=8*q+8:=fun j hj=>by
 by_cases e:j=i
 .subst e;rw[Q3 (by rw[h.len];exact hj)];exact hr
 .rw[YA e];exact h.tm j hj
def CI.atR(h:CI n q P c):(c.M.length:Int)=n:=by rw[h.len]
def Qpt{zC W:Y D.e}(h:∀m∈zC,m.x.length<=600/\m.v≠m.To)(h2:∀m∈W,m.x.length<=600/\m.v≠m.To):∀m∈zC++W,m.x.length<=600/\m.v≠m.To:=fun m hm=>(Ah.1 hm).elim (h m) (h2 m)
def QsB(h:CI n q P c)(ht:∀i,i<n->(O c.M i).T<=8*q+7):Ok (Qgi 1000 c k) fun x=>(x.2=0->CG n q P c.M x.1/\∃i:Nat,i<n/\k=i/\O x.1.FV i=false/\∃zC,x.1={ c with M:=c.M.set i (if n / 2+1=1 then Qh1 n (VO n (O c.M i))else VO n (O c.M i)),FC:=c.FC++zC }/\(∀m∈zC,m.b=1/\m.v=i/\m.T=(O c.M i).T+1)/\∀j:Nat,j<n->j≠i->∃m∈zC,m.To=j)/\∀i:Nat,i<n->k=i->O c.FV i=false->c.FC=[]->x.2=0:=by
 have hlen:=h.len;have hn:=h.sz;have hw:=h.wire;have hd:=h.dn;have hq:=h.q
 have no:∀{x:D.H} {e:Int} {Q:Prop},e≠0->(∀i:Nat,i<n->k=i->O c.FV i=false->c.FC=[]->False)->(((x,e):D.H×Int).2=0->Q)/\∀i:Nat,i<n->k=i->O c.FV i=false->c.FC=[]->((x,e):D.H×Int).2=0:=fun h1 h2=>⟨fun e=>absurd e h1,fun i a1 a2 a3 a4=>(h2 i a1 a2 a3 a4).elim⟩
 unfold Qgi
 refine Ok.opt (QeP h) fun e he=>?_
 rcases he with⟨rfl,i,hi,rfl⟩|⟨rfl,z⟩
 rotate_left
 .exact Ok.P (Ok.s (no Ob fun i a1 a2 _ _=>z ⟨U,U⟩))
 have hid:=(h.ck.rep i hi).2.2.id;have hid2:=h.inv.id hi
 have hti:=ht i hi
 refine Ok.N (Ok.A (Ok.J (fun g=>Ok.s (no Ob fun j _ e a _=>by
  obtain rfl:j=i:=U
  rw[g]at a;simp at a)) fun dn=>Ok.oe h.cp (Ok.natn (Ok.E (Ok.G ?_)))))
 rw[h.atR]
 refine Ok.opt (QAh (by have:=h.short hi;omega)) fun⟨r',zC,e⟩ ⟨hs,hs2⟩=>Ok.ite (fun g=>Ok.s (no g fun j _ _ _ _=>g (hs2 (h.ck.rep i hi).2.1 U))) fun g2=>?_
 obtain⟨hr,e0,e1,e2,e3,e4⟩:=hs (Ag.1 g2)
 dsimp only at e1 e2 e3 e4 |-
 rw[Qc U]
 refine Ok.ite (fun g=>Ok.s (no Ob fun _ _ _ _ a=>by rw[a]at g;simp at g;omega)) fun g3=>Ok.L (Ok.natn (Ok.E (Ok.G (Ok.s ⟨fun _=>⟨⟨h.upd ?_ (h.set hi (by rw[e1];exact(h.shp i hi).stand hid e0)) hd rfl (by simp;omega) (Qpt h.ents fun m hm=>?_) (h.tset hi ?_),.set U (by rw[e1];exact .stands)⟩,i,hi,rfl,dn,zC,by rw[e1],fun m hm=>?_,fun j hj hji=>e4 j hj U⟩,fun _ _ _ _ _=>rfl⟩))))
 .rw[e1]
  refine h.inv.stands hi fun m hm=>?_
  obtain⟨a1,a2,a3,a4,a5,a6,a7,_⟩:=e3 m hm
  exact⟨a1,by rw[a2,h.inv.id hi],a3,a4,a5,a6,a7⟩
 .obtain⟨a1,a2,a3,a4,a5,a6,a7,a8,a9⟩:=e3 m hm
  rw[a8,a2];exact⟨Ob,Aj a9⟩
 .rw[e1];split<;>(show(O c.M i).T+1<=_;omega)
 .obtain⟨a1,a2,a3,a4,a5,_⟩:=e3 m hm
  exact⟨a1,U,a5⟩
def Qp1(h:CI n q P c):Ok (Qcx 1000 c k o) fun x=>x.2=0->(P o->CG n q P c.M x.1)/\∃i,i<n/\x.1.M.length=n/\∃e∈(O x.1.M i).l,e.Op=o:=by
 have hlen:=h.len;have hn:=h.sz;have hw:=h.wire;have hd:=h.dn
 unfold Qcx
 refine Ok.opt (QeP h) fun e he=>?_
 rcases he with⟨rfl,i,hi,rfl⟩|⟨rfl,z⟩
 rotate_left
 .exact Ok.P (Ok.s fun e=>absurd e Ob)
 have hid:=(h.ck.rep i hi).2.2.id
 refine Ok.N (Ok.A (Ok.J (fun _=>Ok.s fun e=>absurd e Ob) fun _=>Ok.oe h.cp (Ok.natn (Ok.E (Ok.G ?_)))))
 rw[h.atR]
 refine Ok.opt (QCf (by have:=h.short hi;omega)) fun⟨r',e⟩ hs=>Ok.ite (fun g=>Ok.s fun e=>absurd e g) fun g2=>Ok.natn (Ok.E (Ok.G (Ok.s fun _=>?_)))
 obtain⟨hr,e1,e2,e3⟩:=hs (Ag.1 g2)
 dsimp only at e1 e2 e3 |-
 refine⟨fun hp=>⟨h.upd ?_ (h.set hi (by rw[e1];exact(h.shp i hi).prop hid e2)) hd rfl hw h.ents (h.tset hi (by rw[e1];exact h.tm i hi)),.set U (by rw[e1];exact .prop (h.inv.com_le hi))⟩,i,hi,by simp;exact hlen,⟨(O c.M i).T,o⟩,?_,rfl⟩
 .rw[e1];exact h.inv.prop hi e2 (hr.ldr e2).1 hp e3
 .rw[e1,Q3 U];simp[prpV]
def Qlc(h:CI n q P c):Ok (Qdb 1000 c k) fun x=>(x.2=0->CG n q P c.M x.1/\x.1.FV=c.FV/\∃(i:Nat) (zC:Y D.e),i<n/\k=i/\x.1={ c with FC:=c.FC++zC }/\(∀m∈zC,∃j:Nat,j<n/\m=appV (O c.M i) j/\j≠i)/\∀j:Nat,j<n->j≠i->appV (O c.M i) j∈zC)/\∀i:Nat,i<n->k=i->O c.FV i=false->(O c.M i).FJ=2->c.FC=[]->x.2=0:=by
 have hlen:=h.len;have hn:=h.sz;have hw:=h.wire;have hd:=h.dn
 unfold Qdb
 refine Ok.opt (QeP h) fun e he=>?_
 rcases he with⟨rfl,i,hi,rfl⟩|⟨rfl,z⟩
 rotate_left
 .exact Ok.P (Ok.s ⟨fun e=>absurd e Ob,fun i hi e=>absurd ⟨U,U⟩ z⟩)
 have one:∀{x:D.H} {e:Int},e≠0->(O c.FV i=false->(O c.M i).FJ=2->c.FC=[]->False)->∀{Q:Prop},(((x,e):D.H×Int).2=0->Q)/\∀i':Nat,i'<n->(i:Int)=i'->O c.FV i'=false->(O c.M i').FJ=2->c.FC=[]->((x,e):D.H×Int).2=0:=fun h1 h2=>⟨fun e=>absurd e h1,fun j _ ej a1 a2 a3=>by
  have:j=i:=U
  subst this;exact(h2 a1 a2 a3).elim⟩
 refine Ok.N (Ok.A (Ok.J (fun dn=>Ok.s (one Ob fun a _ _=>by rw[dn]at a;simp at a)) fun _=>Ok.A (Ok.ite (fun g=>Ok.s (one Ob fun _ a _=>g a)) fun g1=>Ok.oe h.cp (Ok.natn (Ok.E (Ok.G ?_))))))
 rw[h.atR]
 have hid:=h.inv.id hi
 refine Ok.opt (Qzf (by have:=h.short hi;omega)) fun zC ⟨v1,v2,v3⟩=>?_
 rw[Qc U]
 refine Ok.ite (fun g=>Ok.s (one Ob fun _ _ a=>by rw[a]at g;simp at g;omega)) fun g3=>Ok.L (Ok.s ⟨fun _=>⟨⟨h.upd (h.inv.beat hi (Ag.1 g1) ((h.ck.rep i hi).2.2.ldr (Ag.1 g1)).2 fun m hm=>?_) h.shp hd rfl (by simp;omega) (Qpt h.ents fun m hm=>?_) h.tm,.same⟩,rfl,i,zC,hi,rfl,rfl,fun m hm=>?_,fun j hj hji=>v3 (h.ck.rep i hi).2.1 (Ag.1 g1) j hj U⟩,fun _ _ _ _ _ _=>rfl⟩)
 rotate_left 2
 .obtain⟨_,_,j,a,b,ne⟩:=v2 m hm;exact⟨j,a,b,U⟩
 .obtain⟨_,_,j,a,b,_⟩:=v2 m hm;exact⟨j,a,b⟩
 .obtain⟨a,b,j,_,rfl,ne⟩:=v2 m hm
  have:=a.log
  exact⟨by simp[appV];omega,Aj ne⟩
def QiD(W:Y D.e)(k:Nat):Y D.e:=W.take k++W.drop (k+1)
def QiE{W:Y D.e}{k:Nat}{m:D.e}(h:m∈QiD W k):m∈W:=(Ah.1 h).elim Bp Bq
def Qvh{W:Y D.e}{k:Nat}(h:k<W.length):WP (QiD W k)+WP [O W k]=WP W:=by
 conv=>rhs;rw[<-Bw k W,EI h]
 have:W[k]=O W k:=by simp[O,AQ,AU h]
 rw[this]
 unfold QiD
 simp only[Ql7,show O W k::W.drop (k+1)=[O W k]++W.drop (k+1)from rfl]
 omega
def Qw7:1<=WP [m]:=by simp[WP];split<;>omega
def CI.drop(h:CI n q P c):CI n q P { c with FC:=QiD c.FC i }:=by
 have hw:=h.wire
 exact h.upd (h.inv.sub fun m hm=>QiE hm) h.shp h.dn rfl (by simp[QiD];omega) (fun m hm=>h.ents m (QiE hm)) h.tm
def Qpm(h:CI n q P c):Ok (Qhb 1000 c k) fun x=>(∃i:Nat,i<c.FC.length/\k=i/\x=({ c with FC:=QiD c.FC i },0))\/(¬(0<=k/\k<c.FC.length)/\x.2≠0):=by
 have hw:=h.wire
 unfold Qhb
 refine Ok.opt (QyP h) fun e he=>?_
 rcases he with⟨rfl,i,hi,rfl⟩|⟨rfl,z⟩
 rotate_left
 .exact Ok.P (Ok.s (.inr ⟨z,Ob⟩))
 refine Ok.N (Ok.oe h.cp (Ok.natn (Ok.natn (Ok.ck rfl (Ok.L ?_)))))
 rw[Qa U]
 refine Ok.natn (Ok.L (Ok.L (Ok.L (Ok.L (Ok.nil (fun g2=>Ok.L (Ok.s (.inl ⟨i,hi,rfl,?_⟩))) fun g2=>Ok.LS (Ok.s (.inl ⟨i,hi,rfl,?_⟩)))))))
 .rw[Ad]at g2
  unfold QiD;rw[g2,List.append_nil]
 .rw[Ad];rfl
def Qvg(h:CI n q P c):Ok (Qha 1000 c k) fun x=>x.2=0->CG n q P c.M x.1:=by
 have hw:=h.wire
 unfold Qha
 refine Ok.opt (QyP h) fun e he=>?_
 rcases he with⟨rfl,i,hi,rfl⟩|⟨rfl,z⟩
 rotate_left
 .exact Ok.P (Ok.s fun e=>absurd e Ob)
 have hs:∀m∈c.FC++[O c.FC i],m∈c.FC:=fun m hm=>(Ah.1 hm).elim id fun hm=>by rw[Ae.1 hm];exact Qf hi
 exact Ok.N (Ok.ite (fun _=>Ok.s fun e=>absurd e Ob) fun g2=>Ok.oe h.cp (Ok.oe h.cp (Ok.natn (Ok.lt hi (Ok.get hi (Ok.LS (Ok.s fun _=>⟨h.upd (h.inv.sub hs) h.shp h.dn rfl (by simp;omega) (fun m hm=>h.ents m (hs m hm)) h.tm,.same⟩)))))))
def QvQ{b d:AH}:∀m'∈(YO n b d r m).2,m'.x=[]/\m'.v=r.S/\m'.To=m.v:=by
 intro m' hm
 unfold YO at hm
 split at hm
 .split at hm
  .simp at hm
  .simp only[Option.mem_def,AN]at hm;subst hm;exact⟨rfl,rfl,rfl⟩
 .split at hm
  .simp at hm
  .split at hm
   .unfold Uq at hm
    grind
   .grind
def QCZ{u:Int}(h:r.T<=u)(h2:m.T<=u):(folV r m.T).T<=u:=by unfold folV;split<;>assumption
def Qxr{b d:AH}{u:Int}(h:r.T<=u)(h2:m.T<=u):(YO n b d r m).1.T<=u:=by
 have hf:=QCZ h h2
 have hh:(hrdV r m).T<=u:=by unfold hrdV;split<;>exact hf
 unfold YO
 split
 .split
  .exact h
  .dsimp only;unfold QbJ;dsimp only;split<;>exact hf
 split
 .dsimp only
  split
  .exact h
  .unfold Qag
   split
   .exact hf
   split
   .exact h
   split<;>exact h
 split
 .unfold Uq
  split
  .exact h
  split
  .split
   .exact h
   .exact hh
  .exact hh
 split
 .dsimp only
  split
  .exact h
  .unfold QaQ
   split
   .exact hf
   split<;>exact h
 .exact h
def InvC.msgTm{Rs:Y D.N}{W:Y D.e}(h:InvC n P Rs W)(hm:m∈W):m.T<=(O Rs m.v.toNat).T:=by
 obtain⟨_,g,x⟩:=h
 exact(x.msg m hm).term
def Qta(h:CI n q P c):Ok (Qay 1000 c k) fun x=>(x.2=0/\CG n q P c.M x.1/\WP x.1.FC<WP c.FC/\x.1.FV=c.FV)\/(¬(0<=k/\k<c.FC.length)/\x.2≠0):=by
 have hlen:=h.len;have hn:=h.sz;have hw:=h.wire;have hdn:=h.dn
 unfold Qay
 refine Ok.opt (Qpm h) fun x hx=>?_
 rcases hx with⟨i,hi,rfl,rfl⟩|⟨z,hx⟩
 rotate_left
 .exact Ok.p hx (Ok.s (.inr ⟨z,hx⟩))
 refine Ok.NS ?_
 obtain⟨m,hm⟩:∃m,m=O c.FC i:=⟨_,rfl⟩
 have hmem:m∈c.FC:=by rw[hm];exact Qf hi
 obtain⟨⟨f0,f1⟩,⟨t0,t1⟩,ft⟩:=h.ck.msg m hmem
 have hcost:=Qvh hi
 rw[<-hm]at hcost
 have hone:=Qw7 (m:=m)
 obtain⟨t,ht⟩:∃t:Nat,m.To=t:=⟨m.To.toNat,U⟩
 obtain⟨d,hd⟩:∃d,d={ c with FC:=QiD c.FC i }:=⟨_,rfl⟩
 have hI:CI n q P d:=by rw[hd];exact h.drop
 have gone:((0:Int)=0/\CG n q P c.M d/\WP d.FC<WP c.FC/\d.FV=c.FV):=⟨rfl,⟨hI,by rw[hd];exact .same⟩,by rw[hd];dsimp only;omega,by rw[hd]⟩
 rw[<-hd]
 refine Ok.oe h.cp (Ok.natn (Ok.lt hi (Ok.get hi ?_)))
 rw[<-hm]
 refine Ok.TG (fun y=>y=((),c,D.H.mk [] [] [] [],(),m,d.M,d.FC,d.FV,d.Fm,())) (fun y hy=>?_) fun zG hJ=>?_
 .subst hy
  dsimp only
  have hrl:d.M.length=n:=by rw[hd];exact hlen
  have hrep:O d.M t=O c.M t:=by rw[hd]
  have hck:=(h.ck.rep t U).2.2
  have hid:=(h.ck.rep t U).1
  rw[ht]
  refine Ok.natn (Ok.E (Ok.G ?_))
  rw[hrep,h.atR]
  have done:∀(b e:AH) (r':D.N) (zC:Y D.e),(b=true->CkM n (O c.M t) m m.b)->r'=(YO n b e (O c.M t) m).1->zC=(YO n b e (O c.M t) m).2.toList->CG n q P c.M (D.H.mk (d.M.set t r') (d.FC++zC) d.FV d.Fm)/\WP (d.FC++zC)<WP c.FC/\d.FV=c.FV:=fun b e r' zC hb e1 e2=>by
   obtain⟨h1,hg⟩:=h.inv.handle (n:=n) (b:=b) (c:=e) (zC:=QiD c.FC i) U hmem ht U (fun m hm=>QiE hm) fun z=>(hck.ldr z).1
   have h2:=Qri (n:=n) (b:=b) (c:=e) (r:=O c.M t) (m:=m) (W:=QiD c.FC i)
   have h3:WP (m::QiD c.FC i)=WP [m]+WP (QiD c.FC i):=Ql7 (zC:=[m])
   have h4:=(h.shp t U).handle (c:=e) hb
   subst e1;subst e2
   rw[hd]
   refine⟨⟨h.upd h1 (h.set U h4) hdn rfl ?_ (Qpt (fun m hm=>h.ents m (QiE hm)) fun m' hm'=>?_) (h.tset U (Qxr (h.tm t U) (Cr (h.inv.msgTm hmem) (h.tm m.v.toNat U)))),.set U hg⟩,by dsimp only;omega,rfl⟩
   .have:(YO n b e (O c.M t) m).2.toList.length<=1:=by cases(YO n b e (O c.M t) m).2<;>simp
    simp[QiD];omega
   .obtain⟨a1,a2,a3⟩:=QvQ m' (by simpa using hm')
    rw[a1,a2,a3];exact⟨Ob,U⟩
  refine Ok.TG (fun y=>∃b e has r' a z,y=((has,()),z,(),m,r',a,d.M,d.FC,d.FV,d.Fm,())/\(b=true->CkM n (O c.M t) m m.b)/\outM (r',a,has)=YO n b e (O c.M t) m) (fun y hy=>?_) fun zG hJ=>?_
  .obtain⟨b,e,has,r',a,z,rfl,hb,hz⟩:=hy
   dsimp only
   rw[ht]
   have e1:r'=(YO n b e (O c.M t) m).1:=by rw[<-hz];rfl
   refine Ok.natn (Ok.E (Ok.G (Ok.j (Ok.J (fun g2=>Ok.TO (by rw[hd];simp[QiD];omega) (Ok.s (.inl ⟨rfl,?_⟩))) fun g2=>Ok.s (.inl ⟨rfl,?_⟩)))))
   .exact done b e _ _ hb e1 (by rw[<-hz,g2];rfl)
   .have:=done b e r' [] hb e1 (by rw[<-hz,g2];rfl)
    rw[Ao]at this;exact this
  .refine Ok.ite (fun g2=>Ok.opt (QBQ hck) fun⟨r',a,has⟩ ⟨b,hb0,hb,_⟩=>hJ _ ⟨b,true,_,_,_,_,rfl,by rw[g2];exact hb0,?_⟩) fun g2=>Ok.ite (fun g3=>Ok.opt (QAw hck) fun r' ⟨b,hb0,hb,_⟩=>hJ _ ⟨b,true,_,_,_,_,rfl,by rw[g3];exact hb0,?_⟩) fun g3=>Ok.ite (fun g4=>Ok.opt (Qwr hck (h.ents m hmem).1) fun⟨r',a,has⟩ ⟨b,e,hb0,hb,_⟩=>hJ _ ⟨b,e,_,_,_,_,rfl,by rw[g4];exact hb0,?_⟩) fun g4=>Ok.ite (fun g5=>Ok.opt (Qy2 hck) fun r' ⟨b,hb0,hb,_⟩=>hJ _ ⟨b,true,_,_,_,_,rfl,by rw[g5];exact hb0,?_⟩) fun g5=>hJ _ ⟨false,true,_,_,_,_,rfl,Ob,?_⟩
   .rw[hb];unfold YO;rw[iB g2]
   .unfold YO;rw[iA g2,iB g3,<-hb];rfl
   .rw[hb];unfold YO;rw[iA g2,iA g3,iB g4]
   .unfold YO;rw[iA g2,iA g3,iA g4,iB g5,<-hb];rfl
   .unfold YO;rw[iA g2,iA g3,iA g4,iA g5];rfl
 .rw[ht]
  exact Ok.A (Ok.J (fun _=>Ok.s (.inl gone)) fun _=>Ok.oe (Qw9 (by have:=h.cut;have:=h.q;omega)) (Ok.J (fun _=>Ok.s (.inl gone)) fun _=>hJ _ rfl))
def Qrj(h:CI n q P c):Ok (Qgh 1000 c k) fun x=>x.2=0->CG n q P c.M x.1:=by
 have hd:=h.dn
 unfold Qgh
 refine Ok.opt (QeP h) fun e he=>?_
 rcases he with⟨rfl,i,hi,rfl⟩|⟨rfl,z⟩
 rotate_left
 .exact Ok.P (Ok.s fun e=>absurd e Ob)
 exact Ok.N (Ok.A (Ok.J (fun _=>Ok.s fun e=>absurd e Ob) fun _=>Ok.oe h.cp (Ok.natn (Ok.E (Ok.G (Ok.s fun _=>⟨h.upd h.inv h.shp (by simp;exact hd) rfl h.wire h.ents h.tm,.same⟩))))))
def Qt6(h:CI n q P c):Ok (Qcy 1000 c k) fun x=>(x.2=0->CG n q P c.M x.1/\x.1.Fm=c.Fm/\∃i:Nat,i<n/\k=i/\x.1.FV=c.FV.set i false)/\∀i:Nat,i<n->k=i->x.2≠0->O c.FV i=false:=by
 have hlen:=h.len;have hd:=h.dn
 unfold Qcy
 refine Ok.opt (QeP h) fun e he=>?_
 rcases he with⟨rfl,i,hi,rfl⟩|⟨rfl,z⟩
 rotate_left
 .exact Ok.P (Ok.s ⟨fun e=>absurd e Ob,fun i a1 a2 _=>absurd ⟨U,U⟩ z⟩)
 have hr:=h.ck.rep i hi
 refine Ok.N (Ok.A (Ok.ncnd (fun g=>Ok.s ⟨fun e=>absurd e Ob,fun j _ e _=>by
  obtain rfl:j=i:=U
  exact g⟩) fun _=>Ok.oe h.cp (Ok.natn (Ok.E (Ok.G (Ok.natn (Ok.E (Ok.G ?_))))))))
 rw[h.atR]
 exact Ok.oe (QBs hr.2.1 hr.2.2) (Ok.natn (Ok.E (Ok.G (Ok.s ⟨fun _=>⟨⟨h.upd (h.inv.back hi) (h.set hi (h.shp i hi).back) (by simp;exact hd) rfl h.wire h.ents (h.tset hi (h.tm i hi)),.set U .back⟩,rfl,i,hi,rfl,rfl⟩,fun _ _ _ e=>absurd rfl e⟩))))
def Qw8(h:CI n q P c)(hq:q<800):Ok (Qm6 1000 c k x) fun z=>z.2=0->CG n (q+1) P c.M z.1:=by
 have hcut:=h.cut;have hn:=h.sz
 unfold Qm6
 refine Ok.opt (QeP h) fun e he=>?_
 rcases he with⟨rfl,i,hi,rfl⟩|⟨rfl,z⟩
 rotate_left
 .exact Ok.P (Ok.s fun e=>absurd e Ob)
 rw[h.atR,Qc (x:=(n:Int) - 1) U]
 refine Ok.N (Ok.oe rin (Ok.ncnd (fun _=>Ok.s fun e=>absurd e Ob) fun g=>Ok.ite (fun _=>Ok.s fun e=>absurd e Ob) fun g2=>Ok.oe (Qw9 U) (Ok.J (fun _=>Ok.s fun e=>absurd e Ob) fun g3=>Ok.oe h.cp (Ok.LS (Ok.s fun _=>⟨⟨h.inv,h.sz,h.idP,h.shp,h.dn,by simp;omega,U,fun j hj=>?_,h.wire,h.ents,fun i hi=>by have:=h.tm i hi;show(O c.M i).T<=_;omega⟩,.same⟩)))))
 have hx:=Qt.1 g
 simp only[Ac,B6]at hj
 by_cases e:j=c.Fm.length
 .subst e
  have e1:O (c.Fm++[D.FD.mk (min (i:Int) x) (max (i:Int) x)]) c.Fm.length=D.FD.mk (min (i:Int) x) (max (i:Int) x):=by simp[O]
  rw[e1,EC]
  refine⟨by dsimp only;omega,by dsimp only;omega,by dsimp only;omega,?_⟩
  rw[<-g3]
  unfold isC
  rw[show min (min (i:Int) x) (max (i:Int) x)=min (i:Int) x by omega,show max (min (i:Int) x) (max (i:Int) x)=max (i:Int) x by omega]
 .have e1:O (c.Fm++[D.FD.mk (min (i:Int) x) (max (i:Int) x)]) j=O c.Fm j:=by
   simp only[O,AQ];rw[BN U]
  rw[e1,Ca U]
  exact h.cutOK j U
def Quu(h:CI n q P c):Ok (Qjn 1000 c) fun d=>CG n q P c.M d/\d.Fm=[]:=by
 unfold Qjn
 exact Ok.oe (QjR h) (Ok.nt rfl (Ok.oe h.cp (Ok.s ⟨⟨⟨h.inv,h.sz,h.idP,h.shp,h.dn,Ob,h.q,fun j hj=>by simp at hj,h.wire,h.ents,h.tm⟩,.same⟩,rfl⟩)))
def QpG(h:CI n q P c):Ok (Qb5 1000 c) fun x=>0<=x.1/\x.1<n:=by
 have hlen:=h.len;have hn:=h.sz;have hd:=h.dn
 unfold Qb5
 refine Ok.TG (fun y=>∃a b,y=((a,b,()),())/\0<=a/\a<(n:Int)) (fun y hy=>?_) fun zG hJ=>?_
 .obtain⟨a,b,rfl,h1⟩:=hy;exact Ok.s h1
 .refine Ok.loop (fun q x=>∃(i:Nat) (a:Int) (b:AH),x=((a,b,(i:Int),()),c,())/\i<=n/\(0<=a/\a<n)/\q=n - i) (m:=n) U ⟨0,0,false,rfl,U,U,rfl⟩ ?_
  rintro q1 x ⟨i,a,b,rfl,i1,i2,hq⟩ K hK
  dsimp only
  rw[h.atR]
  refine Ok.TG (fun y=>y=((a,b,(i:Int),()),c,())/\i<n) (fun y hy=>?_) fun J2 hJ2=>Ok.ite (fun g=>Ok.oe (QjR h) (Ok.t (hJ2 _ ⟨rfl,U⟩))) fun _=>hJ _ ⟨_,_,rfl,i2⟩
  obtain⟨rfl,g⟩:=hy
  dsimp only
  refine Ok.TG (fun y=>∃a b,y=((a,b,(i:Int),()),c,())/\0<=a/\a<(n:Int)) (fun y hy=>?_) fun J3 hJ3=>?_
  .obtain⟨a,b,rfl,h1⟩:=hy
   dsimp only
   rw[Qa U]
   exact hK _ _ U ⟨i+1,a,b,rfl,U,h1,rfl⟩
  .exact Ok.A (Ok.ite (fun _=>Ok.A (Ok.J (fun _=>hJ3 _ ⟨_,_,rfl,i2⟩) fun _=>Ok.J (fun _=>Ok.at i2.1 U (Ok.ite (fun _=>hJ3 _ ⟨_,_,rfl,U,U⟩) fun _=>hJ3 _ ⟨_,_,rfl,i2⟩)) fun _=>hJ3 _ ⟨_,_,rfl,U,U⟩)) fun _=>hJ3 _ ⟨_,_,rfl,i2⟩)
def QiP(h:CI n q P c):Ok (Qa6 1000 c) fun d=>CG n q P c.M d/\d.FC=[]/\d.FV=c.FV:=by
 unfold Qa6
 refine Ok.TG (fun y=>∃d z,y=((),d,z,())/\CG n q P c.M d/\d.FC=[]/\d.FV=c.FV) (fun y hy=>?_) fun zG hJ=>?_
 .obtain⟨d,z,rfl,hd⟩:=hy;exact Ok.s hd
 .have hcl:=Qzn (W:=c.FC);have hw:=h.wire
  refine Ok.loop (fun m x=>∃d z,x=((),d,z,())/\CG n q P c.M d/\d.FV=c.FV/\m=WP d.FC) (m:=WP c.FC) U ⟨c,_,rfl,h.cg,rfl,rfl⟩ ?_
  rintro m x ⟨d,z,rfl,hd,hdn,rfl⟩ K hK
  dsimp only
  refine Ok.ite (fun g=>Ok.opt (Qta hd.ci) fun⟨e,er⟩ he=>?_) fun g=>hJ _ ⟨_,_,rfl,hd,Bc U,hdn⟩
  rcases he with⟨rfl,h1,h2,h3⟩|⟨z,_⟩
  .exact Ok.NS (hK _ _ h2 ⟨e,_,rfl,.of hd.gr h1,h3.trans hdn,rfl⟩)
  .omega
def QoV(h:CI n q P c)(ht:∀i,i<n->(O c.M i).T<=8*q+7):Ok (Qb6 1000 c k) fun x=>x.2=0->CG n q P c.M x.1:=by
 unfold Qb6
 refine Ok.opt (QeP h) fun e he=>?_
 rcases he with⟨rfl,i,hi,rfl⟩|⟨rfl,z⟩
 rotate_left
 .exact Ok.P (Ok.s fun e=>absurd e Ob)
 have h0:CI n q P (D.H.mk c.M [] c.FV c.Fm):=h.upd (h.inv.sub Ob) h.shp h.dn rfl Ob Ob h.tm
 refine Ok.N (Ok.oe h.cp (Ok.opt (QsB h0 ht) fun⟨d,e⟩ ⟨he,_⟩=>Ok.ite (fun g=>Ok.s fun e=>absurd e g) fun g=>?_))
 obtain⟨hd,i',hi',ei,hdn,_⟩:=he (Ag.1 g)
 obtain rfl:i'=i:=U
 refine Ok.opt (QiP hd.ci) fun f ⟨f1,f2,f3⟩=>Ok.TG (fun y=>∃d z,y=((),d,z,())/\CG n q P c.M d) (fun y hy=>?_) fun zG hJ=>?_
 .obtain⟨d,z,rfl,hd⟩:=hy;exact Ok.s fun _=>hd
 .refine Ok.loop (fun m x=>∃(j:Nat) (d z:D.H),x=(((i':Int),(j:Int),()),d,z,())/\(CG n q P c.M d/\d.FC=[]/\O d.FV i'=false)/\j<=2/\m=2 - j) (m:=2) U ⟨0,f,_,rfl,⟨.of hd.gr f1,f2,by rw[f3];exact hdn⟩,U,rfl⟩ ?_
  rintro m x ⟨j,d,z,rfl,⟨hd,d2,d3⟩,j1,rfl⟩ K hK
  dsimp only
  have hdl:=hd.ci.len
  refine Ok.TG (fun y=>y=(((i':Int),(j:Int),()),d,z,())/\j<2/\(O d.M i').FJ=2) (fun y hy=>?_) fun J2 hJ2=>Ok.ite (fun _=>Ok.A (Ok.ite (fun r2=>hJ2 _ ⟨rfl,U,r2⟩) fun _=>hJ _ ⟨_,_,rfl,hd⟩)) fun _=>hJ _ ⟨_,_,rfl,hd⟩
  obtain⟨rfl,g2,r2⟩:=hy
  dsimp only
  refine Ok.opt (Qlc hd.ci) fun⟨e,er⟩ ⟨b1,b2⟩=>?_
  obtain⟨b3,b4,_⟩:=b1 (b2 i' hi' rfl d3 r2 d2)
  refine Ok.opt (QiP b3.ci) fun f ⟨f1,f2,f3⟩=>?_
  rw[Qa U]
  exact hK _ _ U ⟨j+1,f,z,rfl,⟨.of hd.gr (.of b3.gr f1),f2,by rw[f3];dsimp only at b4;rw[b4];exact d3⟩,U,rfl⟩
end
section
attribute [local irreducible] dueV stepV runV QG answerV opV ZS opsV QbD
section
variable {n zI q i:Nat} {c:D.H} {r:D.N} {o:D.Op} {t k x:Int} {P P':D.Op->Prop} {l:D.F} {p:D.d} {L:Y Int} {d:D.y} {E E':Y Int}
def PO(E:Y Int)(zI:Nat)(o:D.Op):Prop:=Qah o/\o.S<zI/\(o.b=5->o.S∈E)
def PO.up{T:Nat}(h:PO E zI o)(hs:zI<=T)(hE:∀x∈E,x∈E'):PO E' T o:=⟨h.1,by have:=h.2.1;omega,fun k=>hE _ (h.2.2 k)⟩
def CI.mono(h:CI n q P c)(hp:∀o,P o->P' o)(hi:∀o,P' o->1<=o.S/\o.S<=(256:Nat)):CI n q P' c:=⟨h.inv.mono hp,h.sz,hi,h.shp,h.dn,h.cut,h.q,h.cutOK,h.wire,h.ents,h.tm⟩
def CI.more(h:CI n q P c){q':Nat}(hq:q<=q')(h2:q'<=800):CI n q' P c:=⟨h.inv,h.sz,h.idP,h.shp,h.dn,by have:=h.cut;omega,h2,h.cutOK,h.wire,h.ents,fun i hi=>by have:=h.tm i hi;omega⟩
def CI.tb(h:CI n q P c):∀i,i<n->(O c.M i).T<=8*((q+1:Nat):Int)+7:=fun i hi=>by have:=h.tm i hi;omega
def PO.id(hs:zI<=257):∀o,PO E zI o->1<=o.S/\o.S<=(256:Nat):=fun o h=>⟨h.1.1.id.1,by have:=h.2.1;omega⟩
def Qah.TZ(h:Qah o)(hs:1<=x/\x<=1099511627776):Qah { o with S:=x }:=
 ⟨⟨hs,h.1.kind,h.1.region,h.1.fence,h.1.at_,h.1.page,h.1.k,h.1.answer,h.1.edit⟩,h.2⟩
structure Sys (n j zI:Nat) (E:Y Int) (l:D.F) (p:D.d):Prop where
 base:p.FX=l
 first:Loose 0 l
 ser:p.FQ=zI
 lo:1<=zI/\zI<=1+3*j
 hi:j<=18
 el:E.length<=j
 ci:CI n j (PO E zI) p.H
def Sys.step{j:Nat}(h:Sys n j zI E l p)(hj:j<18):Sys n (j+1) zI E l p:=⟨h.base,h.first,h.ser,by have:=h.lo;omega,U,by have:=h.el;omega,h.ci.more U U⟩
def Sys.more{j:Nat}(h:Sys n j zI E l p){x:Int}(hj:E.length<j):Sys n j zI (x::E) l p:=⟨h.base,h.first,h.ser,h.lo,h.hi,by simp;omega,h.ci.mono (fun o ho=>ho.up (AP _) fun _=>BB _) (PO.id (by have:=h.lo;have:=h.hi;omega))⟩
def Qt9(hl:Led p.FX)(hs:1<=p.FQ/\p.FQ<=1000)(h:CI n q (PO E zI) p.H):Ok (Qa7 1000 p) fun b=>(b=true->∀i,i<n->∀e∈(O p.H.M i).l,e.Op.S<p.FQ)/\((∀i,i<n->∀e∈(O p.H.M i).l,e.Op.S<p.FQ)->b=true):=by
 have hlen:=h.len;have hn:=h.sz
 unfold Qa7
 refine Ok.j (Ok.oe hl.check (Ok.t (Ok.oe (QjR h) (Ok.t (Ok.oe rin (Ok.bt (Qt.2 U) ?_))))))
 dsimp only
 refine Ok.loop (fun m x=>∃i:Nat,x=(((i:Int),()),p,())/\i<=n/\(∀j,j<i->∀e∈(O p.H.M j).l,e.Op.S<p.FQ)/\m=n - i) (m:=n) U ⟨0,rfl,U,fun j hj=>U,rfl⟩ ?_
 rintro m x ⟨i,rfl,i1,i2,rfl⟩ K hK
 dsimp only
 refine Ok.ite (fun g=>Ok.A ?_) fun g=>Ok.s ⟨fun _ j hj=>i2 j U,fun _=>rfl⟩
 have hsh:=h.short (i:=i) U
 have hlog:=(h.inv.log (i:=i) U).1
 refine Ok.loop (fun m x=>∃k:Nat,x=(((i:Int),(O p.H.M i).l,(k:Int),()),p,())/\k<=(O p.H.M i).l.length/\(∀e∈(O p.H.M i).l.take k,e.Op.S<p.FQ)/\m=(O p.H.M i).l.length - k) (m:=(O p.H.M i).l.length) U ⟨0,rfl,U,Ob,rfl⟩ ?_
 rintro m x ⟨k,rfl,k1,k2,rfl⟩ K2 hK2
 dsimp only
 refine Ok.ite (fun g2=>?_) fun g2=>?_
 .have hk:k<(O p.H.M i).l.length:=U
  refine Ok.j (Ok.atn hk (Ok.oe (hlog _ (Qf hk)).1.1.valid (Ok.t (Ok.atn hk (Ok.ite (fun g3=>Ok.s ⟨fun e=>absurd e Ob,fun z=>?_⟩) fun g3=>?_)))))
  .have:=z i U _ (Qf hk);omega
  .dsimp only
   rw[Qa U]
   refine hK2 _ _ U ⟨k+1,rfl,U,fun e he=>?_,rfl⟩
   rw[<-Qq hk]at he
   grind
 .rw[Bl U]at k2
  rw[Qa U]
  refine hK _ _ U ⟨i+1,rfl,U,fun j hj=>?_,rfl⟩
  grind
variable {j:Nat}
def Sys.led(h:Sys n j zI E l p):Led p.FX:=by rw[h.base];exact h.first.led U
def Sys.log(h:Sys n j zI E l p)(hi:i<n):∀e∈(O p.H.M i).l,PO E zI e.Op:=(h.ci.inv.log hi).1
def Sys.chk(h:Sys n j zI E l p):Qa7 1000 p=some true:=by
 have h1:=h.lo;have h2:=h.ser;have h3:=h.hi
 obtain⟨b,hb,_,h5⟩:=Qt9 h.led U h.ci
 rw[hb,h5 fun i hi e he=>by have:=(h.log hi e he).2.1;omega]
def cnt_le{zH:Y D.o}(hn:(zH.map fun e=>e.Op.S).Nodup)(h:∀e∈zH,e.Op.b=5->e.Op.S∈E):cntE (zH.map fun e=>e.Op)<=E.length:=by
 have:=QmA (l:=(zH.filter fun e=>decide (e.Op.b=5)).map fun e=>e.Op.S) (E:=E) (hn.sublist (List.filter_sublist.map _)) fun x hx=>by
  grind
 unfold cntE
 rw[List.countP_map,List.countP_eq_length_filter]
 rw[AZ]at this
 exact this
def Sys.com(h:Sys n j zI E l p)(hi:i<n):(∀o∈comV (O p.H.M i),Qah o)/\(comV (O p.H.M i)).length<=54/\cntE (comV (O p.H.M i))<=18:=by
 have h1:=h.lo;have h2:=h.hi
 refine⟨fun o ho=>?_,?_,?_⟩
 .obtain⟨e,he,rfl⟩:=BT.1 ho
  exact(h.log hi e (Bp he)).1
 .have:=h.ci.inv.short (zI:=zI - 1) hi fun o ho=>⟨ho.1.1.id.1,by have:=ho.2.1;omega⟩
  unfold comV;simp;omega
 .have:=cnt_le (h.ci.inv.log hi).2 fun e he=>(h.log hi e he).2.2
  have h3:=h.el
  unfold comV
  rw[BX]
  exact AX QiC U
def Sys.behind(h:Sys n j zI E l p)(hi:i<n):Qbq (0+cntE (comV (O p.H.M i))) (0+(comV (O p.H.M i)).length) (opsV l (comV (O p.H.M i))):=by
 obtain⟨h1,h2,h3⟩:=h.com hi
 have:=h.first.e.fold h1 U U (AP _)
 simp_all
def Sys.runs(h:Sys n j zI E l p)(hi:i<n):Runs l (comV (O p.H.M i)):=by
 obtain⟨h1,h2,h3⟩:=h.com hi
 exact h.first.e.runs h1 U U
def QyL(h:Sys n j zI E l p)(hi:i<n):Qjr 1000 p (i:Int)=some (opsV l (comV (O p.H.M i)),0):=by
 obtain⟨h1,h2⟩:=h.com hi
 have hlen:=h.ci.len;have hn:=h.ci.sz
 have hck:=(h.ci.ck.rep i hi).2.2
 refine Ok.eq ?_
 unfold Qjr
 refine Ok.oe h.chk (Ok.nt rfl (Ok.oe rin (Ok.nt (Qt.2 ⟨U,by rw[Qc U];omega⟩) (Ok.A (Ok.oe (Qw3 hck.com (by have:=hck.log;omega)) (Ok.oe (QoO ?_) (Ok.s ?_)))))))
 .rw[h.base];exact h.runs hi
 .rw[h.base]
def QsC(h:Sys n j zI E l p)(ho:Qah { o with S:=(zI:Int) })(hE:o.b=5->(zI:Int)∈E)(hj:zI<=3*j):Ok (Qd1 1000 p k o) fun x=>x.2.2=0->Sys n j (zI+1) E l x.1/\GrC n p.H.M x.1.H.M:=by
 have h1:=h.lo;have h2:=h.ser;have h3:=h.hi
 unfold Qd1
 rw[h2]
 refine Ok.j (Ok.oe h.chk (Ok.t (Ok.oe ho.1.valid (Ok.t ?_))))
 dsimp only
 rw[h2]
 have hc:CI n j (PO E (zI+1)) p.H:=h.ci.mono (fun o ho=>ho.up U fun _=>id) (PO.id U)
 refine Ok.N (Ok.opt (Qp1 hc) fun⟨c',e⟩ he=>Ok.ite (fun g=>Ok.s fun e=>absurd e g) fun g=>Ok.oe h.led.copy (Ok.s fun _=>?_))
 rw[Qa U]
 have hg:=(he (Ag.1 g)).1 ⟨ho,by show(zI:Int)<((zI+1:Nat):Int);omega,hE⟩
 exact⟨⟨h.base,h.first,rfl,U,h3,h.el,hg.ci⟩,hg.gr⟩
def Qtv(hc:0<=r.h)(hl:r.l.length<=256):Ok (Qde 1000 r o) fun _=>True:=by
 unfold Qde
 refine Ok.loop (fun m x=>∃i:Nat,x=(((i:Int),()),r,o,())/\m=r.l.length - i) (m:=r.l.length - r.h.toNat) U ⟨r.h.toNat,by rw[show(r.h.toNat:Int)=r.h by omega],rfl⟩ ?_
 rintro m x ⟨i,rfl,rfl⟩ K hK
 dsimp only
 refine Ok.ite (fun g=>?_) fun _=>Ok.s trivial
 have hi:i<r.l.length:=U
 refine Ok.TG (fun y=>y=(((i:Int),()),r,o,())) (fun y hy=>?_) fun zG hJ=>?_
 .subst hy
  dsimp only
  rw[Qa U]
  exact hK _ _ U ⟨i+1,rfl,rfl⟩
 .have Tb:∀{a b:Prop} [Decidable a] [Decidable b],Ok (J (decide a) (J (decide b) (some true) (zG (((i:Int),()),r,o,()))) (zG (((i:Int),()),r,o,()))) fun _=>True:=Ok.ite (fun _=>Ok.ite (fun _=>Ok.s trivial) fun _=>hJ _ rfl) fun _=>hJ _ rfl
  refine Ok.atn hi (Ok.ite (fun _=>Ok.ite (fun _=>Ok.ite (fun _=>Ok.atn hi (Ok.ite (fun _=>Ok.s trivial) fun _=>Ok.ite (fun _=>Tb) fun _=>hJ _ rfl)) fun _=>Ok.ite (fun _=>Tb) fun _=>hJ _ rfl) fun _=>Ok.ite (fun _=>Tb) fun _=>hJ _ rfl) fun _=>hJ _ rfl)
def Qzo(h:Sys n j zI E l p)(hi:i<n)(ht:0<=t/\t<=980000)(hj:j<18):Ok (Qjp 1000 p (i:Int) t) fun x=>x.2.2=0->∃T,Sys n (j+1) T E l x.1/\GrC n p.H.M x.1.H.M:=by
 have h1:=h.lo;have h2:=h.ser;have hlen:=h.ci.len;have hn:=h.ci.sz;have hdn:=h.ci.dn
 have hck:=(h.ci.ck.rep i hi).2.2
 have hl:=hck.log;have hcm:=hck.com
 have hb:=h.behind hi
 obtain⟨h3,h4,h5⟩:=h.com hi
 obtain⟨v,hv⟩:∃v,v=opsV l (comV (O p.H.M i)):=⟨_,rfl⟩
 rw[<-hv]at hb
 have own:=(hb.led U).ownR
 have hpg:=hb.inv.small3 (k:=3) hb.ids
 have h0:Sys n (j+1) zI E l p:=h.step U
 unfold Qjp
 refine Ok.oe (QyL h hi) (Ok.NS (Ok.A (Ok.A (Ok.J (fun _=>Ok.s fun e=>absurd e Ob) fun _=>Ok.ite (fun _=>Ok.s fun e=>absurd e Ob) fun _=>Ok.oe rin (Ok.ncnd (fun _=>Ok.s fun e=>absurd e Ob) fun _=>?_)))))
 rw[<-hv,h2]
 refine Ok.TG (fun y=>∃ops w,y=(((i:Int),ops,()),p,w,O p.H.M i,())/\(∀o∈ops,Qah o/\o.b≠5)/\ops.length<=3) (fun y hy=>?_) fun zG hJ=>?_
 .obtain⟨ops,w,rfl,o1,o2⟩:=hy
  dsimp only
  refine Ok.oe h.led.copy (Ok.oe h.ci.cp ?_)
  refine Ok.loop (fun m x=>∃(a:Nat) (z:Int) (T:Nat) (p':D.d),x=(((i:Int),ops,z,(a:Int),()),w,O p.H.M i,p',())/\a<=ops.length/\(0<=z/\z<=a)/\T<=zI+a/\(Sys n (j+1) T E l p'/\GrC n p.H.M p'.H.M)/\m=ops.length - a) (m:=ops.length) U ⟨0,0,zI,p,by rw[show D.d.mk p.FX p.H p.FQ=p from rfl];rfl,U,U,U,⟨h0,.same⟩,rfl⟩ ?_
  rintro m x ⟨a,z,T,p',rfl,a1,a2,a3,a4,rfl⟩ K hK
  dsimp only
  refine Ok.ite (fun g=>?_) fun g=>Ok.s fun _=>⟨T,a4⟩
  have ha:a<ops.length:=U
  refine Ok.TG (fun y=>∃(z:Int) (T:Nat) (p':D.d),y=(((i:Int),ops,z,(a:Int),()),w,O p.H.M i,p',())/\(0<=z/\z<=a+1)/\T<=zI+a+1/\Sys n (j+1) T E l p'/\GrC n p.H.M p'.H.M) (fun y hy=>?_) fun zG hJ=>?_
  .obtain⟨z,T,p',rfl,b2,b3,b4⟩:=hy
   dsimp only
   rw[Qa U]
   exact hK _ _ U ⟨a+1,z,T,p',rfl,U,U,U,b4,rfl⟩
  .refine Ok.atn ha (Ok.opt (Qtv hcm.1 hl) fun b _=>Ok.J (fun _=>hJ _ ⟨z,T,p',rfl,U,U,a4⟩) fun _=>Ok.atn ha (Ok.opt (QsC a4.1 ((o1 _ (Qf ha)).1.TZ (by have:=a4.1.lo;omega)) (fun k5=>absurd k5 (o1 _ (Qf ha)).2) U) fun⟨x,y,e⟩ he=>Ok.ite (fun g=>Ok.s fun e=>absurd e g) fun g=>?_))
   rw[Qc U]
   obtain⟨e1,e2⟩:=he (Ag.1 g)
   exact hJ _ ⟨z+1,T+1,x,rfl,U,U,e1,a4.2.trans e2⟩
 .have claim:∀{w:D.d},Ok (V (Qcz 1000 v (i:Int) (zI:Int) t) fun x=>J (decide (x.2≠0)) (some (w,0,x.2)) (TO [x.1].length 34359738368 (zG (((i:Int),[x.1],()),p,w,O p.H.M i,())))) fun x=>x.2.2=0->∃T,Sys n (j+1) T E l x.1/\GrC n p.H.M x.1.H.M:=fun{w}=>by
   have hin:QhO (i:Int) (zI:Int) t:=⟨U,U,U⟩
   refine Ok.oe (Qrb own) ?_
   rw[Qrc hin (by have:=hb.inv.fence;have:=hb.seen;omega)]
   exact Ok.NS (Ok.TO Ob (hJ _ ⟨_,_,rfl,fun o ho=>by rw[Ae.1 ho];exact⟨QuL hb.inv hin ht.2,by show(2:Int)≠5;omega⟩,Ob⟩))
  have starts:(v.FB=(i:Int))->∀{w:D.d},Ok (V (Qb7 1000 v (i:Int) (zI:Int) t) fun x=>zG (((i:Int),x,()),p,w,O p.H.M i,())) fun x=>x.2.2=0->∃T,Sys n (j+1) T E l x.1/\GrC n p.H.M x.1.H.M:=fun ho {w}=>by
   refine Ok.oe (Qv1 own) (hJ _ ⟨_,_,rfl,fun o hm=>?_,?_⟩)
   .unfold QrV at hm
    split at hm
    .next g=>
     obtain⟨a,ha,rfl⟩:=Qj5 hm
     rw[Wo]at ha
     have hwe:=QjE (l:=v) (t:=t)
     rw[Qir ha]
     exact⟨QoX hb.inv ha U U ht,by show(3:Int)≠5;omega⟩
    .simp at hm
   .unfold QrV
    have hwe:=QjE (l:=v) (t:=t)
    split
    .rw[Wo];omega
    .simp
  refine Ok.ite (fun _=>claim) fun g=>Ok.ite (fun _=>Ok.oe (QpD U) (Ok.ite (fun _=>claim) fun _=>starts (Ag.1 g))) fun _=>starts (Ag.1 g)
def QCO(hL:L.length<=500)(hd:QA L d)(h:CI n q (PO E zI) c)(hs:zI<=200)(hq:q<800):Ok (QbK 1000 d c) fun x=>QA L x.2/\CI n (q+1) (PO E 256) x.1/\(CI n (q+1) (PO E zI) x.1\/∃i,i<n/\∃e∈(O x.1.M i).l,(zI:Int)<=e.Op.S):=by
 have hn:=h.sz;have hw:=h.wire
 have big:∀{c:D.H},CI n (q+1) (PO E zI) c->CI n (q+1) (PO E 256) c/\(CI n (q+1) (PO E zI) c\/∃i,i<n/\∃e∈(O c.M i).l,(zI:Int)<=e.Op.S):=fun h=>⟨h.mono (fun o ho=>ho.up U fun _=>id) (PO.id U),.inl h⟩
 have h1:=h.more (q':=q+1) U U
 unfold QbK
 rw[h.len]
 refine Ok.opt (nx hL hd U U) fun⟨a0,d1⟩ ⟨g1,l1,u1⟩=>?_
 dsimp only at g1 l1 u1 |-
 refine Ok.TG (fun y=>∃(a:Int) (d:D.y) (w:D.H),y=((a,()),d,c,w,())/\QA L d) (fun y hy=>?_) fun zG hJ=>Ok.opt (QpG h) fun⟨a,b⟩ _=>Ok.J (fun _=>Ok.opt (nx hL g1 U U) fun⟨a2,d2⟩ ⟨g2,_⟩=>Ok.ite (fun _=>hJ _ ⟨_,_,_,rfl,g2⟩) fun _=>hJ _ ⟨_,_,_,rfl,g2⟩) fun _=>hJ _ ⟨_,_,_,rfl,g1⟩
 obtain⟨a,d,w,rfl,hd⟩:=hy
 dsimp only
 refine Ok.opt (QpM hL hd U) fun⟨a3,d3⟩ ⟨g3,_⟩=>?_
 dsimp only at g3 |-
 refine Ok.TG (fun y=>∃(a k:Int) (d:D.y) (w:D.H),y=((a,k,()),d,c,w,())/\QA L d) (fun y hy=>?_) fun zG hJ=>Ok.opt (nx hL g3 U U) fun⟨a4,d4⟩ ⟨g4,_⟩=>Ok.ite (fun _=>hJ _ ⟨_,_,_,_,rfl,g4⟩) fun _=>hJ _ ⟨_,_,_,_,rfl,g4⟩
 obtain⟨a,k,d,w,rfl,hd⟩:=hy
 dsimp only
 refine Ok.TG (fun y=>∃(e:Int) (w x:D.H) (d:D.y),y=((e,()),c,w,x,d,())/\QA L d/\(e=0->CI n (q+1) (PO E 256) x/\(CI n (q+1) (PO E zI) x\/∃i,i<n/\∃e∈(O x.M i).l,(zI:Int)<=e.Op.S))) (fun y hy=>?_) fun zG hJ=>?_
 .obtain⟨e,w,x,d,rfl,hd,hx⟩:=hy
  exact Ok.ite (fun _=>Ok.s ⟨hd,big h1⟩) fun g=>Ok.s ⟨hd,hx (Ag.1 g)⟩
 .have fin:∀{e:Int} {w x:D.H} {d:D.y},QA L d->(e=0->CI n (q+1) (PO E zI) x)->Ok (zG ((e,()),c,w,x,d,())) fun x=>QA L x.2/\CI n (q+1) (PO E 256) x.1/\(CI n (q+1) (PO E zI) x.1\/∃i,i<n/\∃e∈(O x.1.M i).l,(zI:Int)<=e.Op.S):=fun hd hx=>hJ _ ⟨_,_,_,_,rfl,hd,fun e=>big (hx e)⟩
  refine Ok.opt (nx hL hd U U) fun⟨a5,d5⟩ ⟨g5,_⟩=>Ok.ite (fun _=>Ok.opt (QsB h1 h.tb) fun⟨x,e⟩ he=>fin g5 fun z=>(he.1 z).1.ci) fun _=>?_
  dsimp only at g5 |-
  refine Ok.TG (fun y=>∃(a k:Int) (z v:Int) (b:AH) (d:D.y) (w:D.H),y=((a,k,z,v,b,()),d,c,w,c,())/\QA L d) (fun y hy=>?_) fun J2 hJ2=>Ok.ite (fun _=>hJ2 _ ⟨_,_,_,_,_,_,_,rfl,g5⟩) fun _=>hJ2 _ ⟨_,_,_,_,_,_,_,rfl,g5⟩
  obtain⟨a,k,z,v,b,d,w,rfl,hd⟩:=hy
  dsimp only
  refine Ok.J (fun _=>?_) fun _=>?_
  .refine Ok.opt (nx hL hd U U) fun⟨a6,d6⟩ ⟨g6,l6,u6⟩=>?_
   dsimp only at g6 l6 u6 |-
   rw[Qc (x:=1+a6) U]
   have ho:Qah (D.Op.mk (1+a6) 2 0 0 0 0 0 0 0 (D.Z.mk 0 0 0 0 0 0) (D.r.mk 0 0 0 0 0)):=⟨⟨by dsimp only;omega,Ob,Ob,Ob,Ob,Ob,Ob,Ob,Ob⟩,Ob,Ob,Ob⟩
   by_cases g7:1+a6<(zI:Int)
   .exact Ok.opt (Qp1 h1) fun⟨x,e⟩ he=>fin g6 fun z=>((he z).1 ⟨ho,g7,Ob⟩).ci
   .refine Ok.opt (Qp1 (big h1).1) fun⟨x,e⟩ he=>hJ _ ⟨_,_,_,_,rfl,g6,fun z=>?_⟩
    obtain⟨b1,i,hi,_,e,b2,b3⟩:=he z
    exact⟨(b1 ⟨ho,by dsimp only;omega,Ob⟩).ci,.inr ⟨i,hi,e,b2,by rw[b3];dsimp only;omega⟩⟩
  refine Ok.TG (fun y=>∃(a k:Int) (z v:Int) (b:AH) (d:D.y) (w:D.H),y=((a,k,z,v,b,()),d,c,w,c,())/\QA L d) (fun y hy=>?_) fun J2 hJ2=>Ok.ite (fun _=>hJ2 _ ⟨_,_,_,_,_,_,_,rfl,hd⟩) fun _=>hJ2 _ ⟨_,_,_,_,_,_,_,rfl,hd⟩
  obtain⟨a,k,z,v,b,d,w,rfl,hd⟩:=hy
  refine Ok.J (fun _=>Ok.opt (Qlc h1) fun⟨x,e⟩ he=>fin hd fun z=>(he.1 z).1.ci) fun _=>?_
  refine Ok.TG (fun y=>∃(a k:Int) (z v:Int) (b:AH) (d:D.y) (w:D.H),y=((a,k,z,v,b,()),d,c,w,c,())/\QA L d) (fun y hy=>?_) fun J2 hJ2=>?_
  .obtain⟨a,k,z,v,b,d,w,rfl,hd⟩:=hy
   refine Ok.J (fun _=>Ok.opt (Qta h1) fun⟨x,e⟩ he=>fin hd fun z=>he.elim (fun y=>y.2.1.ci) fun y=>absurd z y.2) fun _=>?_
   refine Ok.ite (fun _=>Ok.opt (Qpm h1) fun x he=>fin hd fun z=>?_) fun _=>Ok.ite (fun _=>Ok.opt (Qvg h1) fun⟨x,e⟩ he=>fin hd fun z=>(he z).ci) fun _=>Ok.ite (fun _=>Ok.opt (Qrj h1) fun⟨x,e⟩ he=>fin hd fun z=>(he z).ci) fun _=>Ok.ite (fun _=>?_) fun _=>Ok.ite (fun _=>Ok.opt (Quu h1) fun x he=>?_) fun _=>fin hd fun _=>h1
   .rcases he with⟨i,_,_,rfl⟩|⟨_,y⟩
    .exact h1.drop
    .exact absurd z y
   .dsimp only
    rw[h.len]
    exact Ok.opt (nx hL hd U U) fun⟨a6,d6⟩ ⟨g6,_⟩=>Ok.opt (Qt6 h1) fun⟨x,e⟩ he=>fin g6 fun z=>(he.1 z).1.ci
   .refine Ok.opt (nx hL hd U U) fun⟨a6,d6⟩ ⟨g6,_⟩=>Ok.ite (fun _=>?_) fun _=>fin g6 fun _=>he.1.ci
    dsimp only
    rw[h.len]
    exact Ok.opt (nx hL g6 U U) fun⟨a7,d7⟩ ⟨g7,_⟩=>Ok.opt (Qw8 h hq) fun⟨x,e⟩ he=>fin g7 fun z=>(he z).ci
  .have go:∀{b:AH},Ok (J2 ((a,k,z,v,b,()),d,c,w,c,())) fun x=>QA L x.2/\CI n (q+1) (PO E 256) x.1/\(CI n (q+1) (PO E zI) x.1\/∃i,i<n/\∃e∈(O x.1.M i).l,(zI:Int)<=e.Op.S):=hJ2 _ ⟨_,_,_,_,_,_,_,rfl,hd⟩
   exact Ok.ite (fun _=>go) fun _=>Ok.ite (fun _=>go) fun _=>Ok.ite (fun _=>go) fun _=>Ok.ite (fun _=>go) fun _=>Ok.ite (fun _=>go) fun _=>go
def QAy(hL:L.length<=500)(hd:QA L d)(h:Sys n j zI E l p)(hj:j<18)(ht:0<=t/\t<=864000+300*j):Ok (UA 1000 d p t) fun x=>QA L x.2.2/\(0<=x.2.1/\x.2.1<=864000+300*((j:Int)+1))/\∃T E',Sys n (j+1) T E' l x.1:=by
 have hn:=h.ci.sz;have hlo:=h.lo
 have h0:=h.step U
 have hel:=h.el
 have h00:=h0.more (x:=(zI:Int)) U
 unfold UA
 rw[h.ci.len]
 refine Ok.opt (nx hL hd U U) fun⟨a0,d1⟩ ⟨g1,l1,u1⟩=>?_
 dsimp only at g1 l1 u1 |-
 refine Ok.TG (fun y=>∃(i:Nat) (d:D.y) (w:D.d),y=((t,(i:Int),()),d,p,w,())/\QA L d/\i<n) (fun y hy=>?_) fun zG hJ=>?_
 rotate_left
 .have at0:∀{a:Int} {d:D.y} {w:D.d},QA L d->0<=a->a<n->Ok (zG ((t,a,()),d,p,w,())) fun x=>QA L x.2.2/\(0<=x.2.1/\x.2.1<=864000+300*((j:Int)+1))/\∃T E',Sys n (j+1) T E' l x.1:=fun{a d w} hd h1 h2=>hJ _ ⟨a.toNat,d,w,by rw[show(a.toNat:Int)=a by omega],hd,U⟩
  exact Ok.opt (QpG h.ci) fun⟨a,b⟩ ⟨b1,b2⟩=>Ok.J (fun _=>Ok.opt (nx hL g1 U U) fun⟨a2,d2⟩ ⟨g2,_⟩=>Ok.ite (fun _=>at0 g2 b1 b2) fun _=>at0 g2 l1 u1) fun _=>at0 g1 l1 u1
 obtain⟨i,d,w,rfl,hd,hi⟩:=hy
 dsimp only
 refine Ok.opt (Qcl hL hd Ob Ob) fun⟨a3,d3⟩ ⟨g3,m3⟩=>?_
 dsimp only at g3 m3 |-
 simp only[AY,BH,or_false]at m3
 rw[Qc (x:=t+a3) U]
 obtain⟨u,hu⟩:∃u,u=t+a3:=⟨_,rfl⟩
 rw[<-hu]
 have hu2:0<=u/\u<=864000+300*((j:Int)+1):=U
 refine Ok.TG (fun y=>∃(T:Nat) (E':Y Int) (p' w:D.d) (d:D.y),y=((u,()),p',w,d,())/\QA L d/\Sys n (j+1) T E' l p') (fun y hy=>?_) fun zG hJ=>?_
 .obtain⟨T,E',p',w,d,rfl,hd,hs⟩:=hy
  exact Ok.s ⟨hd,hu2,T,E',hs⟩
 .refine Ok.opt (nx hL g3 U U) fun⟨a4,d4⟩ ⟨g4,_⟩=>?_
  dsimp only at g4 |-
  refine Ok.TG (fun y=>∃(v:Int) (b:AH) (d:D.y) (w:D.d),y=((u,(i:Int),v,b,()),d,p,w,())/\QA L d) (fun y hy=>?_) fun J2 hJ2=>Ok.ite (fun _=>hJ2 _ ⟨_,_,_,_,rfl,g4⟩) fun _=>hJ2 _ ⟨_,_,_,_,rfl,g4⟩
  obtain⟨v,b,d,w,rfl,hd⟩:=hy
  refine Ok.J (fun _=>?_) fun _=>?_
  ·have hb:=h.behind hi
   obtain⟨_,hcl,hce⟩:=h.com hi
   refine Ok.oe (QyL h hi) (Ok.opt (QAP (id:=1) (t:=u) hL hd hb.inv hb.ids U U) fun⟨o,d5⟩ ⟨g5,o1,o2,o3,o4,o5⟩=>?_)
   dsimp only at g5 o1 o2 o3 o4 o5 |-
   refine Ok.TG (fun y=>∃(o:D.Op) (d:D.y) (w:D.d),y=((u,(i:Int),()),p,w,o,d,())/\QA L d/\Qah { o with S:=(zI:Int) }) (fun y hy=>?_) fun J3 hJ3=>?_
   .obtain⟨o,d,w,rfl,hd,ho⟩:=hy
    exact Ok.opt (QsC (j:=j+1) h00 ho (fun _=>Ob) U) fun⟨x,y,e⟩ he=>Ok.ite (fun z=>hJ _ ⟨_,_,_,_,_,rfl,hd,(he z).1⟩) fun _=>hJ _ ⟨_,_,_,_,_,rfl,hd,h0⟩
   .have pg:∀{a:Int},0<=a->a<3->Qah { (D.Op.mk 0 1 0 0 u (X (1+a)) 0 0 0 (D.Z.mk 0 0 0 0 0 0) (D.r.mk 0 0 0 0 0))with S:=(zI:Int) }:=fun{a} h1 h2=>by
     rw[Qc (x:=1+a) U]
     exact⟨⟨by dsimp only;omega,Ob,Ob,Ob,by dsimp only;omega,by dsimp only;omega,Ob,Ob,Ob⟩,fun _=>by dsimp only;omega,by dsimp only;omega,Ob⟩
    refine Ok.ite (fun _=>Ok.opt (nx hL g5 U U) fun⟨a6,d6⟩ ⟨g6,l6,u6⟩=>hJ3 _ ⟨_,_,_,rfl,g6,pg l6 u6⟩) fun _=>Ok.ite (fun _=>Ok.opt (nx hL g5 U U) fun⟨a6,d6⟩ ⟨g6,l6,u6⟩=>hJ3 _ ⟨_,_,_,rfl,g6,pg l6 u6⟩) fun _=>hJ3 _ ⟨_,_,_,rfl,g5,?_⟩
    exact Qah.TZ ⟨o1,fun e=>(o4 e).2,by rw[o3];omega,o5⟩ U
  .refine Ok.TG (fun y=>∃(v:Int) (b:AH) (d:D.y) (w:D.d),y=((u,(i:Int),v,b,()),d,p,w,())/\QA L d) (fun y hy=>?_) fun J2 hJ2=>Ok.ite (fun _=>hJ2 _ ⟨_,_,_,_,rfl,hd⟩) fun _=>hJ2 _ ⟨_,_,_,_,rfl,hd⟩
   obtain⟨v,b,d,w,rfl,hd⟩:=hy
   refine Ok.J (fun _=>Ok.opt (Qzo h hi (t:=u) U hj) fun⟨x,y,e⟩ he=>Ok.ite (fun z=>?_) fun _=>hJ _ ⟨_,_,_,_,_,rfl,hd,h0⟩) fun _=>Ok.ite (fun _=>Ok.opt (Qlc h0.ci) fun⟨x,e⟩ he=>Ok.ite (fun z=>Ok.opt (QiP (he.1 z).1.ci) fun f ⟨f1,_⟩=>hJ _ ⟨zI,E,_,_,_,rfl,hd,⟨h.base,h.first,h.ser,h0.lo,h0.hi,h0.el,f1.ci⟩⟩) fun _=>hJ _ ⟨_,_,_,_,_,rfl,hd,h0⟩) fun _=>?_
   .grind
   .refine Ok.opt (QCO hL hd h.ci U U) fun⟨x,d6⟩ ⟨g6,x1,x2⟩=>?_
    dsimp only at g6 x1 x2 |-
    refine Ok.opt (Qt9 (p:=D.d.mk p.FX x p.FQ) h.led (by have:=h.ser;dsimp only;omega) x1) fun b hb=>Ok.J (fun z=>?_) fun _=>hJ _ ⟨_,_,_,_,_,rfl,g6,h0⟩
    have hx:CI n (j+1) (PO E zI) x:=x2.resolve_right fun⟨i,hi,e,b1,b2⟩=>by
     have:=hb.1 z i hi e b1
     have:=h.ser
     grind
    exact hJ _ ⟨zI,E,_,_,_,rfl,g6,⟨h.base,h.first,h.ser,h0.lo,h0.hi,h0.el,hx⟩⟩
end
end
section
open Go AM
attribute [local irreducible] dueV stepV runV QG answerV opV ZS opsV QbD
section
def newR(i:Nat):D.N:=D.N.mk i 0 (-1) 0 [] 0 [] []
def newC(n:Nat):D.H:=D.H.mk ((List.range n).map newR) [] (List.replicate n false) []
def QB2{n:Nat}(h:n=1\/n=3\/n=5):QtL 1000 n=some (newC n,0):=by
 rcases h with rfl|rfl|rfl<;>kernel_rfl
def QB3(h:n=1\/n=3\/n=5):CI n 0 (PO [] 1) (newC n):=by
 have e:∀j,j<n->O (newC n).M j=newR j:=fun j hj=>by
  show O ((List.range n).map newR) j=_
  rw[QpO (by simpa using hj),QmB hj]
 refine⟨⟨by simp[newC],_,Inv.fresh (fun j hj=>by rw[e j hj];rfl) fun j hj=>by rw[e j hj];exact⟨rfl,rfl,rfl,rfl,rfl⟩⟩,U,PO.id U,fun j hj=>?_,by simp[newC],by simp[newC],U,fun j hj=>by simp[newC]at hj,by simp[newC],by simp[newC],fun j hj=>by rw[e j hj];show(0:Int)<=_;omega⟩
 rw[e j hj]
 exact⟨by simp[newR],by simp[newR];omega,.inl ⟨rfl,rfl,rfl⟩⟩
def QzR{n:Nat}{l:D.F}(h:n=1\/n=3\/n=5)(hl:Loose 0 l)(hs:l.i=[]):Qqp 1000 l n=some (D.d.mk l (newC n) 1,0):=by
 have hled:=hl.led U
 refine Ok.eq ?_
 unfold Qqp
 refine Ok.oe hled.check (Ok.nt rfl (Ok.oe (QB2 h) (Ok.NS (Ok.oe hled.copy ?_))))
 refine Ok.run 0 (fun _=>_) rfl U (fun i hi=>absurd hi U) fun K=>?_
 dsimp only
 exact Ok.n (by rw[hs];simp) (Ok.s rfl)
def QxT{L:Y Int}{d:D.y}{K:Nat}(hL:L.length<=500)(hd:QA L d)(hK:K<=14):Ok (VS 1000 d (K:Int)) fun x=>QA L x.2.2/\∃n j zI E l,Sys n j zI E l x.1/\j<=K/\l.i=[]/\(0<=x.2.1/\x.2.1<=864000+300*(j:Int)):=by
 unfold VS
 refine Ok.opt (QBA hL hd U) fun⟨c,d1⟩ ⟨h1,hc⟩=>?_
 dsimp only at h1 hc |-
 refine Ok.opt (QBt hL h1 U) fun⟨b,d2⟩ ⟨h2,hb⟩=>?_
 dsimp only at h2 hb |-
 refine Ok.oe (QB5 hc U hb) (Ok.opt (Qcl hL h2 Ob Ob) fun⟨a,d3⟩ ⟨h3,m3⟩=>?_)
 dsimp only at h3 m3 |-
 simp only[AY,BH,or_false]at m3
 obtain⟨n,hn,rfl⟩:∃n:Nat,(n=1\/n=3\/n=5)/\a=n:=⟨a.toNat,U,U⟩
 have hfl:=Qte hc hb
 refine Ok.oe (QzR hn hfl rfl) ?_
 have hS:Sys n 0 1 [] (QfP c b) (D.d.mk (QfP c b) (newC n) 1):=⟨rfl,hfl,rfl,U,U,Ob,QB3 hn⟩
 have hlen:=hS.ci.len
 dsimp only at hlen |-
 refine Ok.TG (fun y=>∃(d:D.y) (w p:D.d),y=(((K:Int),864000,()),d,w,p,())/\QA L d/\Sys n 0 1 [] (QfP c b) p) (fun y hy=>?_) fun zG hJ=>?_
 .obtain⟨d,w,p,rfl,hd,hp⟩:=hy
  dsimp only
  rw[Qc U]
  refine Ok.opt (nx hL hd U U) fun⟨a,d4⟩ ⟨h4,l4,u4⟩=>?_
  dsimp only at h4 l4 u4 |-
  refine Ok.loop (fun m x=>∃(j zI:Nat) (E:Y Int) (t k:Int) (d:D.y) (p:D.d),x=((t,k,()),d,w,p,())/\(0<=k/\k+j<=K)/\(0<=t/\t<=864000+300*j)/\QA L d/\Sys n j zI E (QfP c b) p/\m=k.toNat) (m:=a.toNat) U ⟨0,1,[],864000,a,d4,p,rfl,U,U,h4,hp,rfl⟩ ?_
  rintro m x ⟨j,zI,E,t,k,d,p,rfl,k1,t1,hd,hp,rfl⟩ K2 hK2
  dsimp only
  refine Ok.ite (fun g=>Ok.opt (QAy hL hd hp U t1) fun⟨p',t',d'⟩ ⟨w1,w2,T,E',w3⟩=>?_) fun _=>Ok.s ⟨hd,_,_,_,_,_,hp,U,rfl,t1⟩
  dsimp only at w1 w2 w3 |-
  rw[Qc U]
  exact hK2 (k - 1).toNat _ U ⟨j+1,T,E',t',k - 1,d',p',rfl,U,U,w1,w3,rfl⟩
 .rw[hlen]
  refine Ok.opt (nx hL h3 U U) fun⟨a,d4⟩ ⟨h4,_⟩=>Ok.opt (QoV hS.ci fun i hi=>?_) fun⟨x,e⟩ he=>Ok.ite (fun z=>hJ _ ⟨_,_,_,rfl,h4,⟨rfl,hfl,rfl,U,U,Ob,(he z).ci⟩⟩) fun _=>hJ _ ⟨_,_,_,rfl,h4,hS⟩
  show(O ((List.range n).map newR) i).T<=_
  rw[QpO (by simpa using hi),QmB hi]
  show(0:Int)<=_;omega
abbrev yes:AH->Prop:=fun _=>True
def Ok.any(h:Ok x yes):Ok (J b x (some false)) yes:=Ok.J (fun _=>h) fun _=>Ok.s trivial
def Qw2(h:0<=r.h/\r.h<=r.l.length)(hl:r.l.length<=900):XY 1000 r=some (comV r):=by
 refine Ok.eq ?_
 unfold XY comV
 rw[show max 0 (min r.h (r.l.length:Int))=(r.h.toNat:Int)by omega]
 obtain⟨zH,hC⟩:∃zH,zH=r.l.take r.h.toNat:=⟨_,rfl⟩
 have hCl:zH.length<=900:=by rw[hC];simp;omega
 refine Ok.natn (Ok.L ?_)
 rw[<-hC]
 refine Ok.run zH.length (fun i=>((zH,(zH.length:Int),(i:Int),()),(zH.take i).map (fun e=>e.Op),())) rfl U (fun i hi K hK=>?_) fun K=>?_
 .dsimp only at hK |-
  rw[<-Qq hi,Ax]at hK
  refine Ok.P (Ok.atn hi (Ok.LS ?_))
  rw[Qa U]
  exact hK
 .dsimp only
  rw[Ad]
  exact Ok.N (Ok.s rfl)
end
end
section
def InvC.ckE(h:InvC n P Rs W)(hi:i<n)(hn:n<=5)(hs:Shp n (O Rs i))(hl:(O Rs i).l.length<=256):Ul 1000 n (O Rs i)=some true:=by
 have hc:=h.com_le hi
 have hid:=h.id hi
 obtain⟨_,g,x⟩:=h
 have hr:=x.rep i hi
 refine QtZ U hs U hl hc hr.pos fun k hk=>⟨?_,(hr.log.term k hk).2⟩
 split
 .exact(hr.log.term k hk).1
 .exact hr.log.asc (k - 1) k U hk
def QBP(hl:L.length<=900)(hx:x.a0<x.a1)(h:isC L x.a0 x.a1=false):XA 1000 L x=some false:=by
 refine Ok.eq ?_
 unfold XA
 refine Ok.oe (v:=-1) ?_ (Ok.s Ob)
 refine Ok.eq ?_
 unfold U1
 refine Ok.run L.length (fun i=>((L,(L.length:Int),(i:Int),()),(x.a0,x.a1,()),())) rfl U (fun i hi K hK=>?_) fun K=>Ok.n (by show ¬(L.length:Int)<(L.length:Int);omega) (Ok.s rfl)
 dsimp only at hK |-
 refine Ok.P (Ok.atn hi (Ok.n (fun e=>?_) ?_))
 .have h1:x.a0=(O L i).a0/\x.a1=(O L i).a1:=by simpa using e
  have:isC L x.a0 x.a1=true:=EP.2 ⟨_,Qf hi,by simp;omega⟩
  simp_all
 .rw[Qa U]
  exact hK
def QoK(h:CI n q P c):Vc 1000 c=some true:=by
 have hlen:=h.len;have hn:=h.sz;have hw:=h.wire;have hq:=h.q;have hcut:=h.cut;have hd:=h.dn
 refine Ok.eq ?_
 unfold Vc
 rw[hlen]
 refine Ok.j (Ok.oe gin (Ok.bt (inn U U) (Ok.N (Ok.N ?_))))
 dsimp only
 rw[hlen]
 refine Ok.run n (fun i=>(((n:Int),c.M,(n:Int),(i:Int),()),c,())) rfl U (fun i hi K hK=>?_) fun K=>?_
 .dsimp only at hK |-
  refine Ok.P (Ok.j (Ok.A (Ok.n (by have:=h.inv.id hi;omega) (Ok.oe (h.inv.ckE hi hn.2 (h.shp i hi) (h.short hi)) (Ok.t ?_)))))
  dsimp only
  rw[Qa U]
  exact hK
 refine Ok.n (by show ¬(n:Int)<(n:Int);omega) ?_
 refine Ok.run c.FC.length (fun i=>(((n:Int),c.FC,(c.FC.length:Int),(i:Int),()),c,())) rfl U (fun i hi K hK=>?_) fun K=>?_
 .dsimp only at hK |-
  have hm:=h.inv.msg (Qf hi)
  have hne:=(h.ents _ (Qf hi)).2
  refine Ok.P (Ok.j (Ok.atn hi (Ok.oe gin ?_)))
  rw[Qc (x:=(n:Int) - 1) U]
  refine Ok.bt (inn U U) (Ok.oe gin (Ok.bt (inn U U) (Ok.n hne ?_)))
  dsimp only
  rw[Qa U]
  exact hK
 refine Ok.n (by show ¬(c.FC.length:Int)<(c.FC.length:Int);omega) ?_
 refine Ok.run c.Fm.length (fun i=>(((n:Int),c.Fm,(c.Fm.length:Int),(i:Int),()),c,())) rfl U (fun i hi K hK=>?_) fun K=>Ok.n (by show ¬(c.Fm.length:Int)<(c.Fm.length:Int);omega) (Ok.s rfl)
 dsimp only at hK |-
 obtain⟨k1,k2,k3,k4⟩:=h.cutOK i hi
 refine Ok.P (Ok.j (Ok.atn hi (Ok.oe gin ?_)))
 rw[Qc (x:=(n:Int) - 1) U,Qc (x:=(O c.Fm i).a0+1) U]
 refine Ok.bt (inn U U) (Ok.oe gin (Ok.bt (inn U U) (Ok.natn (Ok.L (Ok.oe (QBP (by simp;omega) k2 k4) (Ok.f ?_))))))
 dsimp only
 rw[Qa U]
 exact hK
end
open Go AM
section
def QCW(h:L.length<=1000):Xu 1000 L=some L:=by unfold Xu;exact Yg U
def QCX(h:L.length<=1000):XO 1000 L=some L:=by unfold XO;exact Yg U
def QBu(h:L.length<=1000):YX 1000 L=some L:=by unfold YX;exact Yg U
def QDC(h:L.length<=1000):XQ 1000 L=some L:=by unfold XQ;exact Yg U
def QDB(h:L.length<=1000):XP 1000 L=some L:=by unfold XP;exact Yg U
def QDA(h:L.length<=1000):WM 1000 L=some L:=by unfold WM;exact Yg U
def QDq(h1:r.l.length<=1000)(h2:r.FR.length<=1000)(h3:r.FE.length<=1000):U4 1000 r=some r/\V5 1000 r=some r:=by
 constructor
 .refine Ok.eq ?_
  unfold U4
  exact Ok.oe (QCW h1) (Ok.oe (QBu h2) (Ok.oe (QfD h3) (Ok.s rfl)))
 .refine Ok.eq ?_
  unfold V5
  exact Ok.oe (QCW h1) (Ok.oe (QBu h2) (Ok.oe (QfD h3) (Ok.s rfl)))
def CI.vcp{n q i:Nat}{c:D.H}{P:D.Op->Prop}(h:CI n q P c)(hi:i<n):U4 1000 (O c.M i)=some (O c.M i)/\V5 1000 (O c.M i)=some (O c.M i):=by
 have k:=(h.ck.rep i hi).2.2
 exact QDq (by have:=h.short hi;omega) (by have:=k.vote;omega) (by have:=k.mat;omega)
def Qvd(h:CI n q P c):Vn 1000 c=some c:=by
 have hlen:=h.len;have hn:=h.sz;have hw:=h.wire;have hq:=h.q;have hcut:=h.cut;have hd:=h.dn
 refine Ok.eq ?_
 unfold Vn
 refine Ok.oe (QDC U) (Ok.oe (QDB U) (Ok.oe (QBu U) (Ok.oe (QDA U) ?_)))
 refine Ok.run n (fun i=>(((n:Int),(i:Int),()),(),D.H.mk [] [] [] [],c.M,c.FC,c.FV,c.Fm,())) (by rw[hlen];rfl) U (fun i hi K hK=>?_) fun K=>?_
 .dsimp only at hK |-
  refine Ok.P (Ok.natn (Ok.E (Ok.G (Ok.oe (h.vcp hi).1 (Ok.natn (Ok.E (Ok.G ?_)))))))
  rw[Qa U,QqC U]
  exact hK
 .refine Ok.n (by show ¬(n:Int)<(n:Int);omega) ?_
  refine Ok.run c.FC.length (fun i=>(((c.FC.length:Int),(i:Int),()),(),D.H.mk [] [] [] [],c.M,c.FC,c.FV,c.Fm,())) rfl U (fun i hi K hK=>?_) fun K=>Ok.n (by show ¬(c.FC.length:Int)<(c.FC.length:Int);omega) (Ok.s rfl)
  dsimp only at hK |-
  refine Ok.P (Ok.natn (Ok.lt hi (Ok.get hi (Ok.oe (QCX (by have:=(h.ents _ (Qf hi)).1;omega)) (Ok.natn (Ok.lt hi (Ok.get hi ?_)))))))
  rw[Qa U,show ∀m:D.e,D.e.mk m.b m.v m.To m.T m.E9 m.Fc m.h m.x m.OK=m from fun _=>rfl,QqC hi]
  exact hK
def CI.cx{n q:Nat}{c:D.H}{P:D.Op->Prop}(h:CI n q P c):CX n P c:=by
 have hn:=h.sz
 exact⟨hn,h.len,h.dn,QoK h,Qvd h,fun i hi=>⟨h.inv.id hi,h.inv.ckE hi hn.2 (h.shp i hi) (h.short hi),(h.vcp hi).2,h.short hi,fun hr=>((h.ck.rep i hi).2.2.ldr hr).1⟩,fun i hi=>(h.inv.log hi).1⟩
end
section
attribute [local irreducible] dueV stepV runV QG answerV
section
def Qzr(h:Zc n c)(hn:n<48)(hx:0<=s/\s<2->Qca x):Ub 1000 c s x=some (if 0<=s/\s<2 then(Qme c s x,0)else(cfg0,3)):=by
 have hsl:=h.slen
 have hpl:=h.plen
 obtain⟨off,hz,_⟩:=h.zone
 have hab:∃a b,c.f=[a,b]:=by
  rcases hcs:c.f with _|⟨a,_|⟨b,_|⟨d,r⟩⟩⟩
  .simp_all
  .simp_all
  .exact⟨a,b,rfl⟩
  .simp_all
 obtain⟨a,b,hab⟩:=hab
 have hpp:∃p1 p2 p3 p4,c.k=[p1,p2,p3,p4]:=by
  rcases hcs:c.k with _|⟨a,_|⟨b,_|⟨d,_|⟨e,_|⟨f,r⟩⟩⟩⟩⟩<;>rw[hcs]at hpl<;>simp at hpl
  exact⟨a,b,d,e,rfl⟩
 obtain⟨p1,p2,p3,p4,hpp⟩:=hpp
 have ha:=h.sched a (by rw[hab];simp)
 have hb:=h.sched b (by rw[hab];simp)
 obtain⟨la,hla,hla2⟩:=ha.layers
 obtain⟨lb,hlb,hlb2⟩:=hb.layers
 have hla3:=ha.len;have hlb3:=hb.len;have hla4:=hla2.len;have hlb4:=hlb2.len
 have hin:Qob 1000 ⟨bZ,off,[]⟩ [p1,p2,p3,p4] la lb a.FS b.FS:=by
  refine⟨Ob,fun p hp=>?_,U,by rw[hla2.win];simp,U,by rw[hlb2.win];simp,U,U⟩
  rcases(h.person p (by rw[hpp];exact hp)).quiet with g|⟨_,_,g,_⟩<;>rw[g]<;>simp
 refine Ok.eq ?_
 unfold Ub
 rw[hz,hpp,h.cal,hab]
 dsimp only
 rw[hla,hlb]
 dsimp only
 rw[iB hin]
 refine Ok.oe (Qle h U) (Ok.NS (Ok.ite (fun hs=>?_) (fun g=>Ok.s ?_)))
 .have hadd:addE c a b s x=Qme c s x:=by
   unfold addE Qme
   rw[hab]
   rcases(show s=0\/s=1 by omega)with rfl|rfl
   .rfl
   .rfl
  rw[iB hs,hadd]
  exact Ok.oe (Qle (Qpp h (hx hs) hs) U) (Ok.NS (Ok.s rfl))
 .rw[iA g]
def Qxg(h:Qd M n l)(hn:n<48)(hpg:l.G.length<=9)(ho:OpIn o)(hk:o.b=5):Z3 1000 ⟨l⟩ o=some ((opV l o).2,⟨(opV l o).1⟩):=by
 refine Ok.eq ?_
 unfold Z3 opV
 rw[iA U,iA U,iA U,iA U]
 refine Ok.run l.G.length (fun i=>(((l.G.length:Int),(i:Int),()),((ZD l i).E8,(ZD l i).E.FF,(ZD l i).E.k,(ZD l i).E.n,(ZD l i).E.f,(ZD l i).a.t,(ZD l i).a.j,(ZD l i).FB,(ZD l i).Fence,()),o,(ZD l i).G,(ZD l i).i,(ZD l i).Calls,())) rfl U (fun i hi k hk=>?_) (fun k=>?_)
 .try dsimp only
  refine Ok.P (Ok.oe (QAb h hpg hi) ?_)
  try dsimp only
  rw[Qa U]
  exact hk
 .try dsimp only
  have hki:=YD (l:=l) (k:=l.G.length)
  obtain⟨L,hL⟩:∃L,ZD l l.G.length=L:=⟨_,rfl⟩
  rw[hL]at hki |-
  have hed:=Qzr (c:=L.E) (s:=o.c) (by rw[hki.2.1];exact h.cfg) hn (ho.edit hk)
  refine Ok.N (Ok.oe hed ?_)
  by_cases hs:0<=o.c/\o.c<2
  .rw[iB hs,iB hs,<-hki.2.1]
   exact Ok.j (Ok.p rfl (Ok.s rfl))
  .rw[iA hs,iA hs]
   exact Ok.j (Ok.NS (Ok.s rfl))
def OkAt.apply(h:OkAt l o):Qao 1000 l o=some ((ZS l o).1,(ZS l o).2,true):=by
 by_cases k5:o.b=5
 rotate_left
 .exact h.applyN k5
 obtain⟨M,n,h1,h2,h3⟩:=h.ok
 have hpg:=h.pg;have hsl:=h.len;have ho:=h.op;have hfe:=h1.fence
 refine Ok.eq ?_
 unfold Qao
 refine Ok.j (Ok.oe h.led.checkE (Ok.t (Ok.oe ho.validE (Ok.t ?_))))
 try dsimp only
 refine Ok.oe h.led.copyE (Ok.oe (QaT U) (Ok.J (fun g=>Ok.s ?_) (fun g=>?_)))
 .unfold ZS;rw[iB g]
 rw[QjM g]
 have hsee:=h1.see ho h3 g hsl
 have hsp:(seeV l o).G.length<=8:=hpg
 have key:∀r:Int×D.worker,r=((opV (seeV l o) o).2,⟨(opV (seeV l o) o).1⟩)->Ok (some (D.F.mk r.2.F.E8 (D.E.mk r.2.F.E.FF r.2.F.E.k r.2.F.E.n r.2.F.E.f) (D.a.mk r.2.F.a.t r.2.F.a.j) r.2.F.G r.2.F.FB r.2.F.Fence r.2.F.i r.2.F.Calls,r.1,true)) (·=((opV (seeV l o) o).1,(opV (seeV l o) o).2,true)):=fun r e=>by
  subst e
  obtain⟨L,e,hLe⟩:∃L e,opV (seeV l o) o=(L,e):=⟨_,_,rfl⟩
  rw[hLe]
  exact Ok.s rfl
 exact Ok.N (Ok.LS (Ok.j (Ok.N (Ok.N (Ok.N (Ok.N (Ok.oe (Qxg (l:=seeV l o) hsee h2 U ho k5) (key _ rfl))))))))
def QoN(h:Runs l ops):YV 1000 l ops=some (opsV l ops,QbD l ops):=by
 have hlen:=h.len
 refine Ok.eq ?_
 unfold YV
 have h0:=h.fin 0 (BM _)
 rw[Bd]at h0
 refine Ok.oe (Led.copyE (l:=l) h0) ?_
 refine Ok.run ops.length (fun j=>((ops,(ops.length:Int),(j:Int),()),opsV l (ops.take j),({ E8:=0,E:={ FF:=[],k:=[],n:=[],f:=[] },a:={ t:=[],j:=[] },G:=[],FB:=0,Fence:=0,i:=[],Calls:=[] }:D.F),QbD l (ops.take j),())) rfl U (fun j hj k hk=>?_) (fun k=>?_)
 .try dsimp only
  have ha:=h.at_ j hj
  have hel:=QiI (ops:=ops.take j) (l:=l)
  rw[Af]at hel
  try dsimp only at hk
  rw[QjV hj]at hk
  rw[Qi3 hj]at hk
  refine Ok.P (Ok.atn hj (Ok.oe ha.apply ?_))
  refine Ok.LS ?_
  try dsimp only
  rw[Qa U]
  exact hk
 .try dsimp only
  rw[Ad]
  exact Ok.N (Ok.s rfl)
end
end
section
open Go AM
attribute [local irreducible] dueV stepV runV QG answerV opV ZS opsV QbD
section
def QC0(hl:zH.length<=900):Ok (QE 1000 zH o) fun b=>b=false->∀e∈zH,e.Op.S≠o.S:=by
 unfold QE
 refine Ok.opt (P:=fun z=>z<0->∀e∈zH,e.Op.S≠o.S) ?_ fun z hz=>Ok.TF (Ok.s fun e=>hz (by have:=BG e;omega))
 unfold Ze
 refine Ok.loop (fun m x=>∃i:Nat,x=((zH,(zH.length:Int),(i:Int),()),o,())/\i<=zH.length/\(∀e∈zH.take i,e.Op.S≠o.S)/\m=zH.length - i) (m:=zH.length) U ⟨0,rfl,U,Ob,rfl⟩ ?_
 rintro m x ⟨i,rfl,i1,i2,rfl⟩ K hK
 dsimp only
 refine Ok.ite (fun g=>?_) fun g=>Ok.TF (Ok.s fun _=>by rw[Bl U]at i2;exact i2)
 have hi:i<zH.length:=U
 refine Ok.atn hi (Ok.opt (P:=fun b=>b=false->(O zH i).Op.S≠o.S) (by unfold Qaz;exact Ok.TF (Ok.s fun e=>of_decide_eq_false e)) fun b hb=>Ok.J (fun _=>Ok.TF (Ok.s fun e=>absurd e U)) fun g2=>?_)
 rw[Qa U]
 refine hK _ _ U ⟨i+1,rfl,U,fun e he=>?_,rfl⟩
 rw[<-Qq hi]at he
 grind
def QDG{n i:Nat}{r:D.N}{o:D.Op}(hn:1<=n/\n<=5)(hid:r.S=i)(hi:i<n)(ck:Ul 1000 n r=some true)(cp:V5 1000 r=some r)(hl:r.l.length<=256)(hm:r.FJ=2->r.FE.length=n):
  Ok (UT 1000 n r o) fun x=>x.2=0->x.1=prpV n r o/\r.FJ=2/\∀e∈r.l,e.Op.S≠o.S:=by
 unfold UT
 refine Ok.oe ck (Ok.nt rfl (Ok.ite (fun _=>Ok.s fun e=>absurd e Ob) fun g1=>Ok.opt (QC0 U) fun b hb=>Ok.J (fun _=>Ok.s fun e=>absurd e Ob) fun g2=>Ok.ite (fun _=>Ok.s fun e=>absurd e Ob) fun g3=>Ok.oe cp (Ok.LS ?_)))
 have hm:=hm (Ag.1 g1)
 have el:(r.l++[D.o.mk r.T o]).length=r.l.length+1:=Ob
 refine Ok.nat U (Ok.E (Ok.G (Ok.j (Ok.oe (QCh hn) ?_))))
 refine Ok.ite (fun g5=>Ok.s fun _=>⟨?_,Ag.1 g1,hb g2⟩) fun g5=>Ok.s fun _=>⟨?_,Ag.1 g1,hb g2⟩
 .unfold prpV;rw[iB U,el];rfl
 .unfold prpV;rw[iA U,el];rfl
def upK(h:CI n q P c):Ok (Qjt 1000 c k) fun e=>e=0->∃i:Nat,i<n/\k=i/\O c.FV i=false:=by
 have hlen:=h.len;have hn:=h.sz;have hdn:=h.dn
 unfold Qjt Qgk
 rw[hlen,Qc (x:=(n:Int) - 1) U]
 refine Ok.opt (P:=fun e=>e=0->0<=k/\k<n) (Ok.oe h.cx.ck (Ok.nt rfl (Ok.oe gin (Ok.ncnd (fun _=>Ok.s fun e=>absurd e Ob) fun g=>Ok.s fun _=>by have:=Qt.1 g;omega)))) fun e he=>Ok.ite (fun g=>Ok.s fun e=>absurd e g) fun g=>?_
 obtain⟨h1,h2⟩:=he (Ag.1 g)
 refine Ok.at h1 U (Ok.J (fun _=>Ok.s fun e=>absurd e Ob) fun g2=>Ok.s fun _=>⟨k.toNat,U,U,g2⟩)
def Qz2(h:CI n q P c):Ok (QaO 1000 c k o) fun x=>x.2=0->P o->CG n q P c.M x.1:=by
 have hlen:=h.len;have hn:=h.sz;have hw:=h.wire;have hd:=h.dn
 unfold QaO
 refine Ok.opt (upK h) fun e he=>Ok.ite (fun g=>Ok.s fun e=>absurd e g) fun g=>?_
 obtain⟨i,hi,rfl,dn⟩:=he (Ag.1 g)
 have hid:=(h.ck.rep i hi).2.2.id
 have hck:=(h.ck.rep i hi).2.2
 obtain⟨x1,x2,x3,x4,x5⟩:=h.cx.rep i hi
 refine Ok.oe h.cx.cp (Ok.natn (Ok.E (Ok.G ?_)))
 rw[h.atR]
 refine Ok.opt (QDG hn x1 hi x2 x3 x4 x5) fun⟨r',e⟩ hs=>Ok.ite (fun g=>Ok.s fun e=>absurd e g) fun g2=>Ok.natn (Ok.E (Ok.G (Ok.s fun _ hp=>?_)))
 obtain⟨e1,e2,e3⟩:=hs (Ag.1 g2)
 dsimp only at e1 e2 e3 |-
 refine⟨h.upd ?_ (h.set hi (by rw[e1];exact(h.shp i hi).prop hid e2)) hd rfl hw h.ents (h.tset hi (by rw[e1];exact h.tm i hi)),.set U (by rw[e1];exact .prop (h.inv.com_le hi))⟩
 rw[e1];exact h.inv.prop hi e2 (hck.ldr e2).1 hp e3
def Sys.px(h:Sys n j zI E l p):PX n p:=by
 have h1:=h.lo;have h2:=h.ser;have h3:=h.hi
 refine⟨h.led,U,?_⟩
 have:=h.ci.cx
 exact⟨this.sz,this.len,this.dn,this.ck,this.cp,this.rep,fun i hi e he=>⟨(this.ops i hi e he).1.1,by have:=(this.ops i hi e he).2.1;omega⟩⟩
def QDk(h:Sys n j zI E l p)(ho:Qah { o with S:=(zI:Int) })(hE:o.b=5->(zI:Int)∈E)(hj:zI<=3*j)(hz:0<=z/\z<=100):
  Ok (Xp 1000 (D.site.mk p k z) o) fun x=>x.1=0->∃p',x.2=D.site.mk p' k (z+1)/\Sys n j (zI+1) E l p'/\GrC n p.H.M p'.H.M:=by
 have h1:=h.lo;have h2:=h.ser;have h3:=h.hi
 unfold Xp
 dsimp only
 rw[h2]
 have hc:CI n j (PO E (zI+1)) p.H:=h.ci.mono (fun o ho=>ho.up U fun _=>id) (PO.id U)
 refine Ok.oe (v:=true) ho.1.validE (Ok.nt rfl (Ok.N (Ok.opt (Qz2 hc) fun⟨c',e⟩ he=>Ok.ite (fun g=>Ok.s fun e=>absurd e g) fun g=>Ok.s fun _=>?_)))
 rw[Qa U,Qc (x:=z+1) U]
 have hg:=he (Ag.1 g) ⟨ho,by show(zI:Int)<((zI+1:Nat):Int);omega,hE⟩
 exact⟨_,rfl,⟨h.base,h.first,rfl,U,h3,h.el,hg.ci⟩,hg.gr⟩
def QA5(h:Sys n j zI E l p)(ho:Qah { o with S:=(zI:Int) })(hE:o.b=5->(zI:Int)∈E)(hj:zI<=3*j):
  Ok (UI 1000 p k o) fun x=>x.2.2=0->(Sys n j (zI+1) E l x.1/\GrC n p.H.M x.1.H.M)/\x.2.1=zI:=by
 have h1:=h.lo;have h3:=h.hi
 unfold UI
 refine Ok.oe h.px.ck (Ok.nt rfl (Ok.oe (Qnk h.px.cx h.led) (Ok.opt (QDk h ho hE hj U) fun⟨e,s⟩ he=>Ok.ite (fun g=>Ok.s fun e=>absurd e g) fun g=>Ok.s fun _=>?_)))
 obtain⟨p',rfl,g1,g2⟩:=he (Ag.1 g)
 refine⟨⟨g1,g2⟩,?_⟩
 have:=g1.ser
 dsimp only
 rw[this,Qc U];omega
def QDs(h:Sys n j zI E l p)(hi:i<n):Qcp 1000 p (i:Int)=some (opsV l (comV (O p.H.M i))):=by
 have hlen:=h.ci.len
 have hck:=(h.ci.ck.rep i hi).2.2
 refine Ok.eq ?_
 unfold Qcp
 rw[h.base]
 exact Ok.A (Ok.oe (Qw2 hck.com (by have:=hck.log;omega)) (Ok.oe (QoN (h.runs hi)) (Ok.s rfl)))
def QCM(h:Sys n j zI E l p)(hi:i<n):Qcn 1000 p (i:Int)=some (opsV l (comV (O p.H.M i)),0):=by
 have hlen:=h.ci.len;have hn:=h.ci.sz
 refine Ok.eq ?_
 unfold Qcn
 exact Ok.oe h.px.ck (Ok.nt rfl (Ok.oe pin (Ok.nt (inn U (by rw[hlen,Qc U];omega)) (Ok.oe (QDs h hi) (Ok.s rfl)))))
def ownK(hl:rest.length<=900):Ok (Qr 1000 rest s t) fun _=>True:=by
 unfold Qr
 refine Ok.opt (P:=fun _=>True) ?_ fun z _=>Ok.TF (Ok.TF (Ok.s trivial))
 unfold Q8
 refine Ok.loop (fun m x=>∃i:Nat,x=((rest,(rest.length:Int),(i:Int),()),(),s,(t,()),())/\i<=rest.length/\m=rest.length - i) (m:=rest.length) U ⟨0,rfl,U,rfl⟩ ?_
 rintro m x ⟨i,rfl,i1,rfl⟩ K hK
 dsimp only
 refine Ok.ite (fun g=>Ok.A (Ok.opt (P:=fun _=>True) ?_ fun b _=>Ok.J (fun _=>Ok.TF (Ok.TF (Ok.s trivial))) fun _=>?_)) fun _=>Ok.TF (Ok.TF (Ok.s trivial))
 .unfold Vx
  exact Ok.ite (fun _=>Ok.ite (fun _=>Ok.ite (fun _=>Ok.TF (Ok.TF (Ok.s trivial))) fun _=>Ok.TF (Ok.TF (Ok.s trivial))) fun _=>Ok.TF (Ok.TF (Ok.s trivial))) fun _=>Ok.TF (Ok.TF (Ok.s trivial))
 .rw[Qa U]
  exact hK _ _ U ⟨i+1,rfl,U,rfl⟩
def QC6(hl:rest.length<=900):Ok (YI 1000 o rest) fun x=>x.2=rest:=by
 unfold YI
 refine Ok.opt (P:=fun _=>True) ?_ fun z _=>Ok.s rfl
 unfold QV
 refine Ok.opt (P:=fun _=>True) ?_ fun z _=>Ok.TF (Ok.s trivial)
 unfold Q0
 refine Ok.loop (fun m x=>∃i:Nat,x=((rest,(rest.length:Int),(i:Int),()),o,())/\i<=rest.length/\m=rest.length - i) (m:=rest.length) U ⟨0,rfl,U,rfl⟩ ?_
 rintro m x ⟨i,rfl,i1,rfl⟩ K hK
 dsimp only
 refine Ok.ite (fun g=>Ok.A (Ok.opt (P:=fun _=>True) ?_ fun b _=>Ok.J (fun _=>Ok.TF (Ok.s trivial)) fun _=>?_)) fun _=>Ok.TF (Ok.s trivial)
 .unfold WD
  exact Ok.ite (fun _=>Ok.ite (fun _=>Ok.ite (fun _=>Ok.TF (Ok.s trivial)) fun _=>Ok.TF (Ok.s trivial)) fun _=>Ok.TF (Ok.s trivial)) fun _=>Ok.TF (Ok.s trivial)
 .rw[Qa U]
  exact hK _ _ U ⟨i+1,rfl,U,rfl⟩
def delK(hr:rest.length<=900)(hl:L.length<=900):Ok (QF 1000 L rest) fun x=>(∀o∈(x.2.2.2.take x.2.1).drop x.1,o∈L)/\((x.2.2.2.take x.2.1).drop x.1).length<=L.length:=by
 unfold QF
 refine Ok.opt (P:=fun x=>(x.1 = -1\/∃i:Nat,i<L.length/\x.1=(i:Int))/\x.2=rest) ?_ fun⟨a,b⟩ ⟨h1,h2⟩=>?_
 .unfold Zb
  refine Ok.loop (fun m x=>∃i:Nat,x=(((L.length:Int),(i:Int),()),(rest,()),L,())/\i<=L.length/\m=L.length - i) (m:=L.length) U ⟨0,rfl,U,rfl⟩ ?_
  rintro m x ⟨i,rfl,i1,rfl⟩ K hK
  dsimp only
  refine Ok.ite (fun g=>Ok.natn (Ok.E (Ok.G (Ok.opt (QC6 hr) fun⟨b,e⟩ he=>?_)))) fun _=>Ok.TF (Ok.s ⟨.inl rfl,rfl⟩)
  obtain rfl:e=rest:=he
  refine Ok.J (fun _=>Ok.TF (Ok.s ⟨.inr ⟨i,U,rfl⟩,rfl⟩)) fun _=>?_
  rw[Qa U]
  exact hK _ _ U ⟨i+1,rfl,U,rfl⟩
 .obtain rfl:b=rest:=h2
  dsimp only at h1 |-
  refine Ok.ite (fun _=>Ok.s ⟨fun o ho=>Bp (Bq ho),Ob⟩) fun g=>?_
  obtain⟨i0,hi0,rfl⟩:=h1.resolve_left g
  rw[Qa U]
  refine Ok.loop (fun m x=>∃(u v:Nat) (zH:Y D.Op),x=(((u:Int),(v:Int),()),(b,()),zH,())/\u<=v/\v<=L.length/\zH.length=L.length/\(∀o∈zH,o∈L)/\m=L.length - v) (m:=L.length - (i0+1)) U ⟨i0,i0+1,L,rfl,U,U,rfl,fun _=>id,rfl⟩ ?_
  rintro m x ⟨u,v,zH,rfl,u1,v1,c1,c2,rfl⟩ K hK
  dsimp only
  refine Ok.ite (fun g2=>?_) fun g2=>?_
  .refine Ok.TG (fun y=>∃(u':Nat) (C':Y D.Op),y=(((u':Int),(v:Int),()),(b,()),C',())/\u'<=v+1/\C'.length=L.length/\∀o∈C',o∈L) (fun y hy=>?_) fun zG hJ=>?_
   .obtain⟨u',C',rfl,y1,y2,y3⟩:=hy
    dsimp only
    rw[Qa U]
    exact hK _ _ U ⟨u',v+1,C',rfl,y1,U,y2,y3,rfl⟩
   .refine Ok.natn (Ok.E (Ok.G (Ok.opt (QC6 hr) fun⟨d,e⟩ he=>?_)))
    obtain rfl:e=b:=he
    refine Ok.ncnd (fun _=>Ok.natn (Ok.E (Ok.G ?_))) fun _=>hJ _ ⟨u,zH,rfl,U,c1,c2⟩
    rw[Qa U]
    exact hJ _ ⟨u+1,_,rfl,U,by simp;exact c1,fun o ho=>(Cy ho).elim (c2 o) fun e=>e ▸ c2 _ (Qf U)⟩
  .refine Ok.natn (Ok.L (Ok.L (Ok.L (Ok.natn (Ok.LS (Ok.s ?_))))))
   grind
def QCD(h:Sys n j zI E l p)(hi:i<n)(ht:0<=t/\t<=980000):Ok (WJ 1000 (D.site.mk p (i:Int) 0) t) fun x=>(∀o∈x.1,Qah o/\o.b≠5)/\x.1.length<=3:=by
 have h1:=h.lo;have h2:=h.ser;have h6:=h.hi;have hlen:=h.ci.len;have hn:=h.ci.sz
 have hck:=(h.ci.ck.rep i hi).2.2
 have hl:=hck.log;have hcm:=hck.com
 have hb:=h.behind hi
 obtain⟨h3,h4,h5⟩:=h.com hi
 have hv:=QDs h hi
 obtain⟨v,hve⟩:∃v,v=opsV l (comV (O p.H.M i)):=⟨_,rfl⟩
 rw[<-hve]at hb hv
 have own:=(hb.led U).ownE
 have hpg:=hb.inv.small3 (k:=3) hb.ids
 have hpend:Wd 1000 (D.site.mk p (i:Int) 0)=some ((O p.H.M i).l.drop (O p.H.M i).h.toNat):=by
  refine Ok.eq ?_
  unfold Wd
  exact Ok.atn (by show i<p.H.M.length;omega) (Ok.nat hcm.1 (Ok.TO (by show(O p.H.M i).h.toNat<=(O p.H.M i).l.length;omega) (Ok.TF (Ok.s rfl))))
 obtain⟨rest,hr⟩:∃rest,rest=(O p.H.M i).l.drop (O p.H.M i).h.toNat:=⟨_,rfl⟩
 rw[<-hr]at hpend
 have hrl:rest.length<=256:=by rw[hr];simp;omega
 have hin:QhO (i:Int) p.FQ t:=⟨U,U,U⟩
 have claim:Ok (V (Qar 1000 v (i:Int) p.FQ t) fun x=>TF (D.site.mk p (i:Int) 0) (D.site.mk p (i:Int) 0) (some ([x.1],x.2))) fun x=>(∀o∈x.1,Qah o/\o.b≠5)/\x.1.length<=3:=by
  refine Ok.oe (QwZ own) ?_
  rw[Qrc hin (by have:=hb.inv.fence;have:=hb.seen;omega)]
  exact Ok.TF (Ok.s ⟨fun o ho=>by rw[Ae.1 ho];exact⟨QuL hb.inv hin ht.2,by show(2:Int)≠5;omega⟩,Ob⟩)
 have none:Ok (TF (D.site.mk p (i:Int) 0) (D.site.mk p (i:Int) 0) (some (([]:Y D.Op),(0:Int)))) fun x=>(∀o∈x.1,Qah o/\o.b≠5)/\x.1.length<=3:=Ok.TF (Ok.s ⟨Ob,Ob⟩)
 unfold WJ
 refine Ok.oe hv (Ok.atn (by show i<p.H.M.length;omega) (Ok.oe hpend (Ok.TG (fun y=>y=((t,()),(),D.site.mk p (i:Int) 0,v,(rest,()),())/\v.FB=(i:Int)) (fun y hy=>?_) fun zG hJ=>?_)))
 .obtain⟨rfl,ho⟩:=hy
  dsimp only
  refine Ok.oe (Qv0 own) ?_
  obtain⟨zH,hC⟩:∃zH,zH=QrV v (i:Int) p.FQ t:=⟨_,rfl⟩
  have hwe:=QjE (l:=v) (t:=t)
  have c1:(∀o∈zH,Qah o/\o.b≠5)/\zH.length<=3:=by
   rw[hC]
   unfold QrV
   split
   .refine⟨fun o hm=>?_,by rw[Wo];omega⟩
    obtain⟨a,ha,rfl⟩:=Qj5 hm
    rw[Wo]at ha
    rw[Qir ha]
    exact⟨QoX hb.inv ha U U ht,by show(3:Int)≠5;omega⟩
   .simp_all
  rw[<-hC]
  exact Ok.opt (delK U U) fun⟨a,b,d,e⟩ ⟨e1,e2⟩=>Ok.TF (Ok.s ⟨fun o ho=>c1.1 o (e1 o ho),AX e2 c1.2⟩)
 .refine Ok.ite (fun _=>Ok.opt (ownK U) fun b _=>Ok.J (fun _=>none) fun _=>claim) fun g=>?_
  have go:=hJ _ ⟨rfl,Ag.1 g⟩
  refine Ok.ite (fun g2=>?_) fun _=>go
  rw[Qc U]
  exact Ok.at U U (Ok.ite (fun _=>Ok.opt (ownK U) fun b _=>Ok.J (fun _=>none) fun _=>claim) fun _=>go)
def QCK(h:Sys n j zI E l p)(hi:i<n)(ht:0<=t/\t<=980000)(hj:j<18):Ok (Qc0 1000 p (i:Int) t) fun x=>x.2.2=0->∃T,Sys n (j+1) T E l x.1/\GrC n p.H.M x.1.H.M:=by
 have h1:=h.lo;have hlen:=h.ci.len;have hn:=h.ci.sz;have hdn:=h.ci.dn
 have h0:=h.step hj
 unfold Qc0
 rw[hlen,Qc (x:=(n:Int) - 1) U]
 refine Ok.oe h.px.ck (Ok.nt rfl (Ok.oe pin (Ok.nt (inn U U) (Ok.A (Ok.J (fun _=>Ok.s fun e=>absurd e Ob) fun _=>Ok.A (Ok.ite (fun _=>Ok.s fun e=>absurd e Ob) fun _=>Ok.oe pin (Ok.ncnd (fun _=>Ok.s fun e=>absurd e Ob) fun _=>Ok.oe (Qnk h.px.cx h.led) (Ok.opt (QCD h hi ht) fun⟨ops,e⟩ ⟨o1,o2⟩=>?_))))))))
 dsimp only at o1 o2 |-
 refine Ok.TG (fun y=>∃(e:Int) (w:D.d) (s:D.site),y=((e,()),w,s,())/\(e=0->∃T,Sys n (j+1) T E l s.d/\GrC n p.H.M s.d.H.M)) (fun y hy=>?_) fun zG hJ=>?_
 .obtain⟨e,w,s,rfl,hs⟩:=hy
  exact Ok.ite (fun g=>Ok.s fun e=>absurd e g) fun g=>Ok.s fun _=>hs (Ag.1 g)
 refine Ok.loop (fun m x=>∃(a:Nat) (e:Int) (w:D.d) (s:D.site),x=((ops,e,(a:Int),()),w,s,())/\a<=ops.length/\(e=0->∃(T:Nat) (z:Int) (p':D.d),s=D.site.mk p' (i:Int) z/\(0<=z/\z<=a)/\T<=zI+a/\Sys n (j+1) T E l p'/\GrC n p.H.M p'.H.M)/\m=ops.length - a) (m:=ops.length) U ⟨0,e,_,_,rfl,U,fun _=>⟨zI,0,p,rfl,U,U,h0,.same⟩,rfl⟩ ?_
 rintro m x ⟨a,e,w,s,rfl,a1,a2,rfl⟩ K hK
 dsimp only
 have out:∀{w:D.d},Ok (zG ((e,()),w,s,())) fun x=>x.2.2=0->∃T,Sys n (j+1) T E l x.1/\GrC n p.H.M x.1.H.M:=fun{w}=>hJ _ ⟨e,w,s,rfl,fun e0=>by
  obtain⟨T,z,p',rfl,_,_,g1,g2⟩:=a2 e0
  exact⟨T,g1,g2⟩⟩
 refine Ok.j (Ok.ite (fun g=>Ok.ite (fun e0=>?_) fun _=>out) fun _=>out)
 have ha:a<ops.length:=U
 obtain⟨T,z,p',rfl,z1,t1,g1,g2⟩:=a2 e0
 have hf:=o1 _ (Qf ha)
 refine Ok.atn ha (Ok.opt (QDk g1 (hf.1.TZ (by have:=g1.lo;omega)) (fun k5=>absurd k5 hf.2) U U) fun⟨e',s'⟩ he=>?_)
 rw[Qa U]
 refine hK _ _ U ⟨a+1,e',w,s',rfl,U,fun e0=>?_,rfl⟩
 obtain⟨p2,rfl,k1,k2⟩:=he e0
 exact⟨T+1,z+1,p2,rfl,U,U,k1,g2.trans k2⟩
end
end
section
def Qhi(Rs:Y D.N):Nat->Y D.Op
 |0=>[]
 |k+1=>if (Qhi Rs k).length<(comV (O Rs k)).length then comV (O Rs k)else Qhi Rs k
section
variable {Rs Rs':Y D.N} {W W':Y D.e} {n q i k:Nat} {P P':D.Op->Prop} {c:D.H}
def Qpe:∀{k:Nat},Qhi Rs k=[]\/∃i,i<k/\Qhi Rs k=comV (O Rs i)
 |0=>.inl rfl
 |k+1=>by
  unfold Qhi
  split
  .exact .inr ⟨k,U,rfl⟩
  .rcases Qpe (k:=k)with h|⟨i,h1,h2⟩
   .exact .inl h
   .exact .inr ⟨i,U,h2⟩
def Qq4:∀{k:Nat},i<k->(comV (O Rs i)).length<=(Qhi Rs k).length
 |k+1,h=>by
  unfold Qhi
  by_cases e:i=k
  .subst e;split<;>omega
  .have:=Qq4 (k:=k) (show i<k by omega)
   split<;>omega
def Qoi:Qhi Rs (k+1)=if (Qhi Rs k).length<(comV (O Rs k)).length then comV (O Rs k)else Qhi Rs k:=rfl
def InvC.comLen(h:InvC n P Rs W)(hi:i<n):((comV (O Rs i)).length:Int)=(O Rs i).h:=by
 have:=h.com_le hi
 unfold comV;simp;omega
def QwR(h:InvC n P Rs W)(hi:i<n):comV (O Rs i)=(Qhi Rs n).take (comV (O Rs i)).length:=by
 have hl:=Qq4 (Rs:=Rs) hi
 rcases Qpe (Rs:=Rs) (k:=n)with e|⟨j,hj,e⟩
 .simp_all
 .rw[e]at hl |-
  have h1:=h.comLen hi;have h2:=h.comLen hj
  have:=h.settled hi hj U
  simp_all
def Qu1(h:CI n q P c):UR 1000 c=some (Qhi c.M n):=by
 have hlen:=h.len;have hn:=h.sz
 refine Ok.eq ?_
 unfold UR
 refine Ok.oe (QoK h) (Ok.nt rfl ?_)
 rw[hlen]
 refine Ok.run n (fun i=>((Qhi c.M i,c.M,(n:Int),(i:Int),()),())) rfl U (fun i hi K hK=>?_) fun K=>Ok.n (by show ¬(n:Int)<(n:Int);omega) (Ok.s rfl)
 have hck:=(h.ck.rep i hi).2.2
 dsimp only at hK |-
 rw[Qoi]at hK
 refine Ok.P (Ok.j (Ok.A (Ok.oe (Qw2 hck.com (by have:=hck.log;omega)) (Ok.ite (fun g=>?_) fun g=>?_))))
 .rw[iB U]at hK
  dsimp only
  rw[Qa U];exact hK
 .rw[iA U]at hK
  dsimp only
  rw[Qa U];exact hK
def Qu2(h:CI n q P c):Qg9 1000 c=some (Qhi c.M n):=by
 have hlen:=h.len;have hn:=h.sz
 refine Ok.eq ?_
 unfold Qg9
 refine Ok.j ?_
 refine Ok.run n (fun i=>((Qhi c.M i,(i:Int),()),c,())) rfl U (fun i hi K hK=>?_) fun K=>Ok.j (Ok.n (by show ¬(n:Int)<(c.M.length:Int);omega) (Ok.s rfl))
 have hck:=(h.ck.rep i hi).2.2
 rw[Qoi]at hK
 refine Ok.j (Ok.p (by show(i:Int)<(c.M.length:Int);omega) (Ok.oe (QjR h) (Ok.t (Ok.j ?_))))
 refine Ok.A (Ok.oe (Qw3 hck.com (by have:=hck.log;omega)) (Ok.ite (fun g=>?_) fun g=>?_))
 .rw[iB U]at hK
  dsimp only
  rw[Qa U];exact hK
 .rw[iA U]at hK
  dsimp only
  rw[Qa U];exact hK
end
attribute [local irreducible] dueV stepV runV QG answerV opV ZS opsV QbD
section
variable {n j zI i:Nat} {E L:Y Int} {l:D.F} {p:D.d} {o:D.Op} {d:D.y} {t x:Int}
abbrev allV(n:Nat)(p:D.d):Y D.Op:=Qhi p.H.M n
def Sys.all(h:Sys n j zI E l p):(∀o∈allV n p,Qah o)/\(allV n p).length<=54/\cntE (allV n p)<=18:=by
 rcases Qpe (Rs:=p.H.M) (k:=n)with e|⟨i,hi,e⟩
 .rw[show allV n p=[]from e];simp[cntE]
 .rw[show allV n p=_ from e];exact h.com hi
def Sys.top(h:Sys n j zI E l p):Qbq (0+cntE (allV n p)) (0+(allV n p).length) (opsV l (allV n p)):=by
 obtain⟨h1,h2,h3⟩:=h.all
 have:=h.first.e.fold h1 U U (AP _)
 simp_all
def Sys.truth(h:Sys n j zI E l p):Qa4 1000 p=some (opsV l (allV n p)):=by
 obtain⟨h1,h2,h3⟩:=h.all
 refine Ok.eq ?_
 unfold Qa4
 rw[h.base]
 exact Ok.oe h.px.ck (Ok.nt rfl (Ok.oe (Qu1 h.ci) (Ok.oe (QoN (h.first.e.runs h1 (by show 0+cntE (allV n p)<=_;omega) (by show 0+(allV n p).length<=_;omega))) (Ok.s rfl))))
def Qv9(hL:L.length<=500)(hd:QA L d)(h:Sys n j zI E l p)(hj:j<18)(ht:0<=t/\t<=864000+300*j):
  Ok (Qeq 1000 d p t) fun x=>QA L x.2.2.2/\(0<=x.2.1/\x.2.1<=864000+300*((j:Int)+1))/\∃T E',Sys n (j+1) T E' l x.1/\GrC n p.H.M x.1.H.M:=by
 have hn:=h.ci.sz;have hlo:=h.lo;have hel:=h.el
 have h0:=h.step hj
 have h00:=h0.more (x:=(zI:Int)) U
 have cg:∀{c:D.H},CG n (j+1) (PO E zI) p.H.M c->Sys n (j+1) zI E l (D.d.mk p.FX c p.FQ)/\GrC n p.H.M c.M:=fun g=>⟨⟨h.base,h.first,h.ser,h0.lo,h0.hi,h0.el,g.ci⟩,g.gr⟩
 unfold Qeq
 rw[h.ci.len]
 refine Ok.opt (nx hL hd U U) fun⟨a0,d1⟩ ⟨g1,l1,u1⟩=>?_
 dsimp only at g1 l1 u1 |-
 refine Ok.TG (fun y=>∃(i:Nat) (d:D.y) (w:D.d),y=((t,(i:Int),()),d,p,w,())/\QA L d/\i<n) (fun y hy=>?_) fun zG hJ=>?_
 rotate_left
 .have at0:∀{a:Int} {d:D.y} {w:D.d},QA L d->0<=a->a<n->Ok (zG ((t,a,()),d,p,w,())) fun x=>QA L x.2.2.2/\(0<=x.2.1/\x.2.1<=864000+300*((j:Int)+1))/\∃T E',Sys n (j+1) T E' l x.1/\GrC n p.H.M x.1.H.M:=fun{a d w} hd h1 h2=>hJ _ ⟨a.toNat,d,w,by rw[show(a.toNat:Int)=a by omega],hd,U⟩
  exact Ok.opt (QpG h.ci) fun⟨a,b⟩ ⟨b1,b2⟩=>Ok.J (fun _=>Ok.opt (nx hL g1 U U) fun⟨a2,d2⟩ ⟨g2,_⟩=>Ok.ite (fun _=>at0 g2 b1 b2) fun _=>at0 g2 l1 u1) fun _=>at0 g1 l1 u1
 obtain⟨i,d,w,rfl,hd,hi⟩:=hy
 dsimp only
 refine Ok.opt (Qcl hL hd Ob Ob) fun⟨a3,d3⟩ ⟨g3,m3⟩=>?_
 dsimp only at g3 m3 |-
 simp only[AY,BH,or_false]at m3
 rw[Qc (x:=t+a3) U]
 obtain⟨u,hu⟩:∃u,u=t+a3:=⟨_,rfl⟩
 rw[<-hu]
 have hu2:0<=u/\u<=864000+300*((j:Int)+1):=U
 refine Ok.TG (fun y=>∃(id:Int) (T:Nat) (E':Y Int) (p' w:D.d) (d:D.y),y=((u,id,()),p',w,d,())/\QA L d/\Sys n (j+1) T E' l p'/\GrC n p.H.M p'.H.M) (fun y hy=>?_) fun zG hJ=>?_
 .obtain⟨id,T,E',p',w,d,rfl,hd,hs,hg⟩:=hy
  exact Ok.s ⟨hd,hu2,T,E',hs,hg⟩
 have same:∀{id:Int} {w:D.d} {d:D.y},QA L d->Ok (zG ((u,id,()),p,w,d,())) _:=fun hd=>hJ _ ⟨_,zI,E,p,_,_,rfl,hd,h0,.same⟩
 refine Ok.opt (nx hL g3 U U) fun⟨a4,d4⟩ ⟨g4,_⟩=>?_
 dsimp only at g4 |-
 refine Ok.TG (fun y=>∃(v:Int) (b:AH) (d:D.y) (w:D.d),y=((u,(i:Int),0,v,b,()),d,p,w,())/\QA L d) (fun y hy=>?_) fun J2 hJ2=>Ok.ite (fun _=>hJ2 _ ⟨_,_,_,_,rfl,g4⟩) fun _=>hJ2 _ ⟨_,_,_,_,rfl,g4⟩
 obtain⟨v,b,d,w,rfl,hd⟩:=hy
 refine Ok.J (fun _=>?_) fun _=>?_
 ·have hb:=h.behind hi
  obtain⟨_,hcl,hce⟩:=h.com hi
  refine Ok.oe (QCM h hi) (Ok.opt (QAP (id:=1) (t:=u) hL hd hb.inv hb.ids U U) fun⟨o,d5⟩ ⟨g5,o1,o2,o3,o4,o5⟩=>?_)
  dsimp only at g5 o1 o2 o3 o4 o5 |-
  refine Ok.TG (fun y=>∃(o:D.Op) (d:D.y) (w:D.d),y=((u,(i:Int),0,()),p,w,o,d,())/\QA L d/\Qah { o with S:=(zI:Int) }) (fun y hy=>?_) fun J3 hJ3=>?_
  .obtain⟨o,d,w,rfl,hd,ho⟩:=hy
   exact Ok.opt (QA5 (j:=j+1) h00 ho (fun _=>Ob) U) fun⟨x,y,e⟩ he=>Ok.ite (fun z=>hJ _ ⟨_,_,_,_,_,_,rfl,hd,(he z).1⟩) fun _=>same hd
  .have pg:∀{a:Int},0<=a->a<3->Qah { (D.Op.mk 0 1 0 0 u (X (1+a)) 0 0 0 (D.Z.mk 0 0 0 0 0 0) (D.r.mk 0 0 0 0 0))with S:=(zI:Int) }:=fun{a} h1 h2=>by
    rw[Qc (x:=1+a) U]
    exact⟨⟨by dsimp only;omega,Ob,Ob,Ob,by dsimp only;omega,by dsimp only;omega,Ob,Ob,Ob⟩,fun _=>by dsimp only;omega,by dsimp only;omega,Ob⟩
   refine Ok.ite (fun _=>Ok.opt (nx hL g5 U U) fun⟨a6,d6⟩ ⟨g6,l6,u6⟩=>hJ3 _ ⟨_,_,_,rfl,g6,pg l6 u6⟩) fun _=>Ok.ite (fun _=>Ok.opt (nx hL g5 U U) fun⟨a6,d6⟩ ⟨g6,l6,u6⟩=>hJ3 _ ⟨_,_,_,rfl,g6,pg l6 u6⟩) fun _=>hJ3 _ ⟨_,_,_,rfl,g5,?_⟩
   exact Qah.TZ ⟨o1,fun e=>(o4 e).2,by rw[o3];omega,o5⟩ U
 refine Ok.TG (fun y=>∃(v:Int) (b:AH) (d:D.y) (w:D.d),y=((u,(i:Int),0,v,b,()),d,p,w,())/\QA L d) (fun y hy=>?_) fun J2 hJ2=>Ok.ite (fun _=>hJ2 _ ⟨_,_,_,_,rfl,hd⟩) fun _=>hJ2 _ ⟨_,_,_,_,rfl,hd⟩
 obtain⟨v,b,d,w,rfl,hd⟩:=hy
 refine Ok.J (fun _=>Ok.opt (QCK h hi (t:=u) U hj) fun⟨x,y,e⟩ he=>Ok.ite (fun z=>?_) fun _=>same hd) fun _=>Ok.ite (fun _=>Ok.opt (Qlc h0.ci) fun⟨x,e⟩ he=>Ok.ite (fun z=>Ok.opt (QiP (he.1 z).1.ci) fun f ⟨f1,_⟩=>hJ _ ⟨_,zI,E,_,_,_,rfl,hd,cg (.of (he.1 z).1.gr f1)⟩) fun _=>same hd) fun _=>Ok.ite (fun _=>Ok.opt (QoV h0.ci h.ci.tb) fun⟨x,e⟩ he=>Ok.ite (fun z=>hJ _ ⟨_,zI,E,_,_,_,rfl,hd,cg (he z)⟩) fun _=>same hd) fun _=>?_
 .obtain⟨T,hT⟩:=he z
  exact hJ _ ⟨_,T,E,_,_,_,rfl,hd,hT⟩
 have hw:=h.ci.wire
 refine Ok.opt (QpM hL hd (by show(p.H.FC.length:Int)<=_;omega)) fun⟨k,d6⟩ ⟨g6,_⟩=>?_
 dsimp only at g6 |-
 refine Ok.TG (fun y=>∃(e:Int) (w:D.d) (c:D.H) (d:D.y),y=((u,0,e,()),p,w,c,d,())/\QA L d/\(e=0->CG n (j+1) (PO E zI) p.H.M c)) (fun y hy=>?_) fun J3 hJ3=>?_
 .obtain⟨e,w,c,d,rfl,hd,hc⟩:=hy
  exact Ok.ite (fun z=>hJ _ ⟨_,zI,E,_,_,_,rfl,hd,cg (hc z)⟩) fun _=>same hd
 refine Ok.opt (nx hL g6 U U) fun⟨a7,d7⟩ ⟨g7,_⟩=>?_
 dsimp only at g7 |-
 rw[h.ci.len]
 refine Ok.ite (fun _=>Ok.opt (Qrj h0.ci) fun⟨x,e⟩ he=>hJ3 _ ⟨_,_,_,_,rfl,g7,he⟩) fun _=>Ok.ite (fun _=>Ok.opt (nx hL g7 U U) fun⟨a8,d8⟩ ⟨g8,_⟩=>Ok.opt (Qt6 h0.ci) fun⟨x,e⟩ he=>hJ3 _ ⟨_,_,_,_,rfl,g8,fun z=>(he.1 z).1⟩) fun _=>Ok.ite (fun _=>Ok.opt (nx hL g7 U U) fun⟨a8,d8⟩ ⟨g8,_⟩=>Ok.opt (Qw8 h.ci U) fun⟨x,e⟩ he=>hJ3 _ ⟨_,_,_,_,rfl,g8,he⟩) fun _=>Ok.ite (fun _=>Ok.opt (Quu h0.ci) fun x he=>hJ3 _ ⟨_,_,_,_,rfl,g7,fun _=>he.1⟩) fun _=>Ok.ite (fun _=>Ok.opt (Qpm h0.ci) fun x he=>?_) fun _=>Ok.ite (fun _=>Ok.opt (Qta h0.ci) fun⟨x,e⟩ he=>?_) fun _=>hJ3 _ ⟨_,_,_,_,rfl,g7,fun _=>h0.ci.cg⟩
 .rcases he with⟨i,_,_,rfl⟩|⟨_,y⟩
  .exact hJ3 _ ⟨_,_,_,_,rfl,g7,fun _=>⟨h0.ci.drop,.same⟩⟩
  .obtain⟨x1,x2⟩:=x
   exact hJ3 _ ⟨_,_,_,_,rfl,g7,fun z=>absurd z y⟩
 .exact hJ3 _ ⟨_,_,_,_,rfl,g7,fun z=>he.elim (fun y=>y.2.1) fun y=>absurd z y.2⟩
end
end
section
open Go AM
attribute [local irreducible] dueV stepV runV QG answerV
section
def QDh(hl:L.length<=900)(h:∀p∈L,Qz p):QbW 1000 L L=some true:=by
 refine Ok.eq ?_
 unfold QbW
 refine Ok.NS (Ok.run2 L.length (fun i=>(L,L,(i:Int),())) rfl U (fun i hi K hK=>?_) (fun K=>by dsimp only;exact Ok.N (Ok.s rfl)))
 try dsimp only
 refine Ok.P (Ok.atn hi (Ok.atn hi (Ok.oe (QvX (h _ (Qf hi))) (Ok.f ?_))))
 try dsimp only
 rw[Qa U];exact hK
def QDg(hl:L.length<=900):QbV 1000 L L=some true:=by
 refine Ok.eq ?_
 unfold QbV
 refine Ok.NS (Ok.run2 L.length (fun i=>(L,L,(i:Int),())) rfl U (fun i hi K hK=>?_) (fun K=>by dsimp only;exact Ok.N (Ok.s rfl)))
 try dsimp only
 refine Ok.P (Ok.atn hi (Ok.atn hi (Ok.NS ?_)))
 try dsimp only
 rw[Qa U];exact hK
end
end
section
attribute [local irreducible] dueV stepV runV QG answerV
section
def QCp(hx:x.length<=900):UN 1000 x x=some true:=by rw[Qqz hx];simp
def QDi(hx:x.length<=900):Qaw 1000 x x=some true:=by
 refine Ok.eq ?_
 unfold Qaw
 refine Ok.NS (Ok.run2 x.length (fun i=>(x,x,(i:Int),())) rfl U (fun i hi K hK=>?_) (fun K=>by dsimp only;exact Ok.N (Ok.s rfl)))
 try dsimp only
 refine Ok.P (Ok.atn hi (Ok.atn hi (Ok.NS ?_)))
 try dsimp only
 rw[Qa U];exact hK
def QDN(hz:z.Fo=[]):Qji 1000 z z=some true:=by
 refine Ok.eq ?_
 unfold Qji
 refine Ok.j (Ok.NS (Ok.NS (Ok.NS ?_)))
 exact Ok.run 0 (fun i=>(((i:Int),()),z,z,())) rfl U (fun i hi=>U) (fun K=>by dsimp only;rw[hz];exact Ok.NS (Ok.s rfl))
def QDM(h:Qej n s)(hn:n<=48):Qjh 1000 s s=some true:=by
 obtain⟨⟨y,hy,hy2⟩,h2,_⟩:=h
 have hyl:s.Fi.length=1:=by rw[hy];rfl
 refine Ok.eq ?_
 unfold Qjh
 refine Ok.j (Ok.NS (Ok.NS (Ok.NS ?_)))
 refine Ok.run s.FS.length (fun i=>(((i:Int),()),s,s,())) rfl U (fun i hi K hK=>?_) (fun K=>?_)
 .try dsimp only
  refine Ok.P (Ok.atn hi (Ok.atn hi (Ok.NS ?_)))
  try dsimp only
  rw[Qa U];exact hK
 .try dsimp only
  refine Ok.N (Ok.run s.Fi.length (fun i=>(((i:Int),()),s,s,())) rfl U (fun i hi K hK=>?_) (fun K=>by dsimp only;exact Ok.N (Ok.s rfl)))
  try dsimp only
  refine Ok.P (Ok.j ?_)
  have hm:O s.Fi i=y:=by
    rw[hy];rw[hyl]at hi;obtain rfl:i=0:=U
    rfl
  refine Ok.atn hi (Ok.atn hi ?_)
  rw[hm]
  refine Ok.NS (Ok.NS (Ok.NS (Ok.NS (Ok.NS (Ok.NS (Ok.NS (Ok.oe (QCp (by have:=hy2.len;omega)) (Ok.t (Ok.oe (QDi (by rw[hy2.win];simp)) (Ok.t ?_))))))))))
  try dsimp only
  rw[Qa U];exact hK
def QCo(h:Zc n c)(hn:n<=48):QaN 1000 c c=some true:=by
 obtain⟨hz,_⟩:=h.zones
 have hpl:=h.plen;have hsl:=h.slen;have hcal:=h.cal
 have hzl:c.FF.length=1:=by rw[hz];rfl
 refine Ok.eq ?_
 unfold QaN
 refine Ok.j (Ok.NS (Ok.NS (Ok.NS (Ok.NS ?_))))
 refine Ok.run c.FF.length (fun i=>(((i:Int),()),c,c,())) rfl U (fun i hi K hK=>?_) (fun K=>?_)
 .try dsimp only
  have hm:(O c.FF i).Fo=[]:=by
    rw[hz];rw[hzl]at hi;obtain rfl:i=0:=U
    rfl
  refine Ok.P (Ok.atn hi (Ok.atn hi (Ok.oe (QDN hm) (Ok.f ?_))))
  try dsimp only
  rw[Qa U];exact hK
 try dsimp only
 refine Ok.N (Ok.run c.k.length (fun i=>(((i:Int),()),c,c,())) rfl U (fun i hi K hK=>?_) (fun K=>?_))
 .try dsimp only
  refine Ok.P (Ok.j (Ok.atn hi (Ok.atn hi ?_)))
  have hq:(O c.k i).Fg.length<=900:=by
   rcases(h.person _ (Qf hi)).quiet with e|⟨_,_,e,_⟩<;>rw[e]<;>simp
  refine Ok.NS (Ok.NS (Ok.NS (Ok.NS (Ok.J (fun g=>Ok.bt g ?_) (fun g=>Ok.bf g ?_)))))
  all_goals
   refine Ok.oe (QDi hq) (Ok.t ?_)
   try dsimp only
   rw[Qa U];exact hK
 try dsimp only
 refine Ok.N (Ok.run 0 (fun i=>(((i:Int),()),c,c,())) rfl U (fun i hi=>U) (fun K=>?_))
 try dsimp only
 refine Ok.n (by rw[hcal];simp) (Ok.run c.f.length (fun i=>(((i:Int),()),c,c,())) rfl U (fun i hi K hK=>?_) (fun K=>by dsimp only;exact Ok.N (Ok.s rfl)))
 try dsimp only
 refine Ok.P (Ok.atn hi (Ok.atn hi (Ok.oe (QDM (h.sched _ (Qf hi)) hn) (Ok.f ?_))))
 try dsimp only
 rw[Qa U];exact hK
def QDL(h:QP b):Qc8 1000 b b=some true:=by
 have htl:=h.tlen;have hpl:=h.plen
 refine Ok.eq ?_
 unfold Qc8
 refine Ok.j (Ok.NS (Ok.NS ?_))
 refine Ok.run b.t.length (fun i=>(((i:Int),()),b,b,())) rfl U (fun i hi K hK=>?_) (fun K=>?_)
 .try dsimp only
  refine Ok.P (Ok.j (Ok.atn hi (Ok.atn hi (Ok.NS (Ok.atn hi (Ok.atn hi (Ok.oe (QCp (by have:=(h.team _ (Qf hi)).len;omega)) (Ok.t ?_))))))))
  try dsimp only
  rw[Qa U];exact hK
 try dsimp only
 refine Ok.N (Ok.run b.j.length (fun i=>(((i:Int),()),b,b,())) rfl U (fun i hi K hK=>?_) (fun K=>by dsimp only;exact Ok.N (Ok.s rfl)))
 try dsimp only
 refine Ok.P (Ok.atn hi (Ok.atn hi (Ok.j ?_)))
 have hp:=h.pol _ (Qf hi)
 obtain⟨p,hpe⟩:∃p,O b.j i=p:=⟨_,rfl⟩
 rw[hpe]at hp |-
 have hsl:=hp.len
 refine Ok.NS (Ok.NS (Ok.NS ?_))
 refine Ok.run p.Steps.length (fun k=>(((i:Int),(k:Int),()),b,b,p,p,())) rfl U (fun k hk K2 hK2=>?_) (fun K2=>?_)
 .try dsimp only
  refine Ok.P (Ok.atn hk (Ok.atn hk (Ok.j ?_)))
  have hs:=hp.step _ (Qf hk)
  obtain⟨s,hse⟩:∃s,O p.Steps k=s:=⟨_,rfl⟩
  rw[hse]at hs |-
  have htl2:=hs.len
  refine Ok.NS (Ok.J (fun g=>Ok.bt g (Ok.NS ?_)) (fun g=>Ok.bf g (Ok.NS ?_)))
  all_goals
   refine Ok.run s.Fb.length (fun j=>(((i:Int),(k:Int),(j:Int),()),b,b,p,p,s,s,())) rfl U (fun j hj K3 hK3=>?_) (fun K3=>?_)
   .try dsimp only
    refine Ok.P (Ok.atn hj (Ok.atn hj (Ok.NS ?_)))
    try dsimp only
    rw[Qa U];exact hK3
   .try dsimp only
    refine Ok.N ?_
    try dsimp only
    rw[Qa U];exact hK2
 .try dsimp only
  refine Ok.N ?_
  try dsimp only
  rw[Qa U];exact hK
def Led.same(h:Led l):Qly 1000 l l=some true:=by
 obtain⟨M,n,h1,h2⟩:=h.ok
 have hcl:=h1.callsLe h.pg;have hse:=h1.seen.len;have hpg:=h.pg
 refine Ok.eq ?_
 unfold Qly
 exact Ok.p rfl (Ok.oe (QCo h1.cfg h2) (Ok.t (Ok.oe (QDL h1.book) (Ok.t (Ok.oe (QDh U h1.plens) (Ok.t (Ok.p rfl (Ok.p rfl (Ok.oe (QCp U) (Ok.t (Ok.oe (QDg U) (Ok.t (Ok.s rfl)))))))))))))
end
end
open Go AM
def Qnj:QgK 1000=some true:=by kernel_rfl
attribute [local irreducible] dueV stepV runV QG answerV opV ZS opsV QbD
def QvW(hl:L.length<=900):QeN 1000 L L=some true:=by
 refine Ok.eq ?_
 unfold QeN
 refine Ok.NS (Ok.run L.length (fun i=>((L,L,(i:Int),()),())) rfl U (fun i hi K hK=>?_) fun K=>Ok.n (by show ¬(L.length:Int)<(L.length:Int);omega) (Ok.s rfl))
 dsimp only at hK |-
 refine Ok.P (Ok.atn hi (Ok.atn hi (Ok.n (fun h=>h rfl) ?_)))
 rw[Qa U];exact hK
def Sys.rest(h:Sys n j zI E l p)(hi:i<n):∃rest,allV n p=comV (O p.H.M i)++rest/\Runs (opsV l (comV (O p.H.M i))) rest/\opsV (opsV l (comV (O p.H.M i))) rest=opsV l (allV n p):=by
 obtain⟨h1,h2,h3⟩:=h.all
 have hp:=QwR h.ci.inv hi
 obtain⟨own,ho⟩:∃own,own=comV (O p.H.M i):=⟨_,rfl⟩
 have hb:=h.behind hi
 rw[<-ho]at hp hb |-
 obtain⟨A,hA⟩:∃A,A=allV n p:=⟨_,rfl⟩
 rw[<-hA]at h1 h2 h3 |-
 have e:A=own++A.drop own.length:=by
  conv=>lhs;rw[<-Bw own.length A]
  rw[hA,<-hp]
 have hc:cntE A=cntE own+cntE (A.drop own.length):=by conv=>lhs;rw[e,Qub]
 have hl:A.length=own.length+(A.drop own.length).length:=by conv=>lhs;rw[e,Ac]
 refine⟨A.drop own.length,e,hb.runs (fun o ho=>h1 o (Bq ho)) U U,?_⟩
 rw[<-QpX,<-e]
def QkZ(t):Vl 1000 t=some true:=by
 refine Ok.eq ?_
 unfold Vl
 refine Ok.oe QzM (Ok.ncnd (fun _=>Ok.oe Qnj (Ok.s rfl)) fun hl=>Ok.oe QCl ?_)
 have hL:=QxJ hl
 refine Ok.opt (QxT (K:=6) hL dice0 U) fun⟨p,z,d⟩ ⟨hd,n,j,zI,E,l,hp,hj,hse,hz⟩=>?_
 dsimp only at hd hp hz |-
 refine Ok.loop (fun m x=>∃(a j zI:Nat) (E:Y Int) (u:Int) (d:D.y) (p:D.d),x=((u,(a:Int),()),d,p,())/\a<=8/\j<=6+a/\QA t d/\Sys n j zI E l p/\(0<=u/\u<=864000+300*(j:Int))/\m=8 - a) (m:=8) U ⟨0,j,zI,E,z,d,p,rfl,U,U,hd,hp,hz,rfl⟩ ?_
 rintro m x ⟨a,j,zI,E,u,d,p,rfl,a1,j1,hd,hp,ht,rfl⟩ K hK
 dsimp only
 refine Ok.ite (fun g=>Ok.opt (Qv9 hL hd hp U ht) fun⟨p',t',id,d'⟩ ⟨w1,w2,T,E',w3,_⟩=>?_) fun _=>?_
 .dsimp only at w1 w2 w3 |-
  rw[Qa U]
  exact hK _ _ U ⟨a+1,j+1,T,E',t',d',p',rfl,U,U,w1,w3,U,rfl⟩
 .have hlen:=hp.ci.len;have hn:=hp.ci.sz
  obtain⟨h1,h2,h3⟩:=hp.all
  refine Ok.oe hp.chk (Ok.nt rfl (Ok.oe (Qu2 hp.ci) (Ok.oe hp.truth ?_)))
  rw[hlen]
  refine Ok.run n (fun i=>((allV n p,p.H.M,(n:Int),(i:Int),()),p,opsV l (allV n p),())) rfl U (fun i hi K2 hK2=>?_) fun K2=>Ok.n (by show ¬(n:Int)<(n:Int);omega) (Ok.oe Qnj (Ok.s rfl))
  have hck:=(hp.ci.ck.rep i hi).2.2
  obtain⟨rest,r1,r2,r3⟩:=hp.rest hi
  have hle:(comV (O p.H.M i)).length<=(allV n p).length:=by rw[r1];simp
  have e1:(allV n p).take (comV (O p.H.M i)).length=comV (O p.H.M i):=by rw[r1,EC]
  have e2:(allV n p).drop (comV (O p.H.M i)).length=rest:=by rw[r1,List.drop_left]
  dsimp only at hK2 |-
  refine Ok.P (Ok.A (Ok.oe (Qw3 hck.com (by have:=hck.log;omega)) (Ok.oe (QCM hp hi) (Ok.j (Ok.NS (Ok.N (Ok.natn (Ok.TO hle ?_))))))))
  rw[e1]
  refine Ok.oe (QvW U) (Ok.t (Ok.natn (Ok.TO hle ?_)))
  rw[e2]
  refine Ok.oe (QoO r2) ?_
  rw[r3]
  refine Ok.oe (hp.top.led U).same (Ok.nt rfl ?_)
  rw[Qa U]
  exact hK2
end Go.Proofs.YtlllfgmajglnhaaGreat
