/-
  What package pagewatchmade makes (dice, targets, books, crews, answers), of what is reckoned of its code.
-/
import Derived.Test.YtlllfgmajglnhaaGreatQRowSurD
set_option maxRecDepth 100000
set_option linter.unusedVariables false
set_option linter.unusedSimpArgs false
namespace Go.Proofs.YtlllfgmajglnhaaGreat
open Go AM
section
theorem Qlg{a n:Int}(hn:1<=n): -n<a.tmod n/\a.tmod n<n:=by
 rcases(show a<0\/0<=a by omega)with h|h
 .have e:a.tmod n = - ((-a).tmod n):=by rw[Int.neg_tmod,Int.neg_neg]
  rw[e,Int.tmod_eq_emod_of_nonneg Oa]
  have h1:=Int.emod_lt_of_pos (-a) (b:=n) Oa
  have h2:=Int.emod_nonneg (-a) (b:=n) Oa
  omega
 .rw[Int.tmod_eq_emod_of_nonneg h]
  have h1:=Int.emod_lt_of_pos a (b:=n) Oa
  have h2:=Int.emod_nonneg a (b:=n) Oa
  omega
structure XI (L:List Int) (d:D.Dice):Prop where
 l:d.L=L
 lo:0<=d.At
 hi:d.At<=(L.length:Int)
variable {fu:Nat} {L:List Int}
theorem Quw{d:D.Dice}{n:Int}(hL:L.length<=500)(hd:XI L d)(hn:n<=1000000):
  Ok (Ql fu d n) fun r=>XI L r.2/\0<=r.1/\(1<=n->r.1<n)/\(n<1->r.1=0):=by
 unfold Ql AM.join
 have h0:=hd.lo
 have h1:=hd.hi
 have hl:((d.L.length:Nat):Int)=(L.length:Int):=by rw[hd.l]
 refine Ok.ite (fun h=>Ok.s ⟨hd,Int.le_refl _,fun h=>by show(0:Int)<n;omega,fun _=>rfl⟩) fun h2=>Ok.ite (fun h=>Ok.s ⟨hd,Int.le_refl _,fun h=>by show(0:Int)<n;omega,fun _=>rfl⟩) fun h3=>?_
 dsimp only
 refine Ok.at hd.lo Oa (Ok.Z ?_)
 have ht:=Qlg (a:=nth d.L d.At.toNat) (n:=n) Oa
 rw[QhQ (x:=d.At+1) Oa Oa]
 refine Ok.ite (fun h4=>?_) (fun h4=>?_)
 .rw[QhQ Oa Oa]
  exact Ok.s ⟨⟨hd.l,by show 0<=d.At+1;omega,by show d.At+1<=_;omega⟩,by dsimp only;omega,fun _=>by dsimp only;omega,fun h=>Oa⟩
 .exact Ok.s ⟨⟨hd.l,by show 0<=d.At+1;omega,by show d.At+1<=_;omega⟩,by dsimp only;omega,fun _=>by dsimp only;omega,fun h=>Oa⟩
theorem nx{d:D.Dice}{n:Int}(hL:L.length<=500)(hd:XI L d)(h1:1<=n)(hn:n<=1000000):
  Ok (Ql fu d n) fun r=>XI L r.2/\0<=r.1/\r.1<n:=(Quw hL hd hn).mono fun r h=>⟨h.1,h.2.1,h.2.2.1 h1⟩
theorem Qf9{d:D.Dice}{l:List Int}(hL:L.length<=500)(hd:XI L d)(hl:1<=l.length)(hl2:l.length<=1000):
  Ok (Zt fu d l) fun r=>XI L r.2/\r.1∈l:=by
 unfold Zt
 refine Ok.opt (Quw hL hd Oa) fun⟨v,d1⟩ ⟨h1,h2,h3,_⟩=>?_
 have h4:=h3 Oa
 dsimp only at h2 h4 |-
 exact Ok.at h2 h4 (Ok.s ⟨h1,Qi Oa⟩)
theorem Qqn{d:D.Dice}(hL:L.length<=500)(hd:XI L d):Ok (Wk fu d) fun r=>XI L r.2/\QbB r.1:=by
 unfold Wk
 refine Ok.opt (Qf9 hL hd Ob Ob) fun⟨a0,d1⟩ ⟨h1,m1⟩=>?_
 dsimp only at h1 m1 |-
 refine Ok.opt (nx hL h1 Oa Oa) fun⟨a2,d2⟩ ⟨h2,l2,u2⟩=>?_
 dsimp only at h2 l2 u2 |-
 refine Ok.opt (nx hL h2 Oa Oa) fun⟨a4,d3⟩ ⟨h3,l3,u3⟩=>?_
 dsimp only at h3 l3 u3 |-
 refine Ok.opt (Qf9 hL h3 Ob Ob) fun⟨a6,d4⟩ ⟨h4,m4⟩=>?_
 dsimp only at h4 m4 |-
 simp only[List.mem_cons,List.not_mem_nil,or_false]at m1 m4
 rw[Qc (x:=864000+a0) Oa,Qc (x:=864000+a0+a6) Oa]
 refine Ok.j (Ok.ite (fun h=>?_) (fun h=>Ok.ite (fun h'=>?_) (fun h'=>?_)))
 .refine Ok.opt (nx hL h4 Oa Oa) fun⟨a7,d5⟩ ⟨h5,l5,u5⟩=>?_
  dsimp only at h5 l5 u5 |-
  rw[Qc (x:=a4+1) Oa,Qc (x:=a4+1+a7) Oa,Int.tmod_eq_emod_of_nonneg Oa]
  exact Ok.Z (Ok.s ⟨h5,⟨by dsimp only;omega,.inl (by dsimp only;omega),fun _=>by dsimp only;omega,fun h=>by dsimp only at h;omega,by dsimp only;omega⟩⟩)
 .refine Ok.opt (nx hL h4 Oa Oa) fun⟨a7,d5⟩ ⟨h5,l5,u5⟩=>?_
  dsimp only at h5 l5 u5 |-
  rw[Qc (x:=a7 - 1) Oa]
  exact Ok.s ⟨h5,⟨by dsimp only;omega,by dsimp only;omega,fun h=>by dsimp only at h;omega,fun _=>rfl,by dsimp only;omega⟩⟩
 .exact Ok.s ⟨h4,⟨by dsimp only;omega,.inl (by dsimp only;omega),fun h=>by dsimp only at h;omega,fun _=>rfl,by dsimp only;omega⟩⟩
theorem Qz{α:Type}[Inhabited α]{l:List α}{i:Nat}(h:i<l.length):l.take i++[nth l i]=l.take (i+1):=by
 rw[List.take_succ_eq_append_getElem h]
 simp[nth,List.getD_eq_getElem?_getD,List.getElem?_eq_getElem h]
theorem VL{α:Type}{P:α->Prop}{l:List α}{x:α}(h:∀y∈l,P y)(hx:P x):∀y∈l++[x],P y:=fun y hy=>by
 rcases List.mem_append.1 hy with hy|hy
 .exact h y hy
 .rw[List.mem_singleton.1 hy];exact hx
theorem QxN{d:D.Dice}(hL:L.length<=500)(hd:XI L d)(hf:10<=fu):Ok (Vb fu d) fun r=>XI L r.2/\Q0 2 r.1:=by
 unfold Vb
 refine Ok.opt (Qf9 hL hd Ob Ob) fun⟨a0,d1⟩ ⟨h1,m1⟩=>?_
 dsimp only at h1 m1 |-
 simp only[List.mem_cons,List.not_mem_nil,or_false]at m1
 refine Ok.loop (fun m x=>x.1.1=Yn/\0<=x.1.2.1/\x.1.2.1<=4/\XI L x.2.1/\x.2.2.2.1.1=[⟨bZ,a0,[]⟩]/\x.2.2.2.2.1.map (·.Name)=Yn.take x.1.2.1.toNat/\(∀p∈x.2.2.2.2.1,UK p)/\(4 - x.1.2.1).toNat=m) (m:=4) Oa
  ⟨rfl,by dsimp only;omega,by dsimp only;omega,h1,rfl,rfl,Ob,rfl⟩ ?_
 rintro m ⟨⟨a3,a4,⟨⟩⟩,a5,⟨⟩,⟨a6,⟨⟩⟩,a7,⟨⟩⟩ ⟨i1,i2,i3,i4,i5,i6,i7,i8⟩ k hk
 dsimp only at i1 i2 i3 i4 i5 i6 i7 i8 |-
 subst i1;subst i5
 refine Ok.ite (fun h4=>?_) (fun h4=>?_)
 .have hlen:Yn.length=4:=rfl
  have hal:a7.length=a4.toNat:=by have:=congrArg List.length i6;rw[List.length_map,List.length_take,hlen]at this;omega
  refine Ok.at Oa Oa ?_
  refine Ok.opt (nx hL i4 Oa Oa) fun⟨a9,d2⟩ ⟨h2,_⟩=>?_
  dsimp only at h2 |-
  refine Ok.join (fun y=>y.1.1=Yn/\y.1.2.1=a4/\XI L y.2.1/\y.2.2.2.1.1=[⟨bZ,a0,[]⟩]/\y.2.2.2.2.1.Name=nth Yn a4.toNat/\UK y.2.2.2.2.1/\y.2.2.2.2.2.1=a7) (fun y hy=>?_) (fun J hJ=>?_)
  .obtain⟨⟨a11,a12,⟨⟩⟩,a13,⟨⟩,⟨a14,⟨⟩⟩,a15,a16,⟨⟩⟩:=y
   obtain⟨g1,g2,g3,g4,g5,g6,g7⟩:=hy
   dsimp only at g1 g2 g3 g4 g5 g6 g7 |-
   subst g1;subst g2;subst g4;subst g7
   refine Ok.LS ?_
   rw[Qc Oa]
   refine hk (4 - (a12+1)).toNat _ Oa ⟨rfl,by dsimp only;omega,by dsimp only;omega,g3,rfl,?_,VL i7 g6,rfl⟩
   dsimp only
   rw[List.map_append,i6,List.map_cons,List.map_nil,g5,Qz (by rw[hlen];omega),show(a12+1).toNat=a12.toNat+1 by omega]
  .refine Ok.opt (nx hL h2 Oa Oa) fun⟨a18,d3⟩ ⟨h3,_⟩=>?_
   dsimp only at h3 |-
   refine Ok.ite (fun h5=>?_) (fun h5=>hJ _ ⟨rfl,rfl,h3,rfl,rfl,⟨rfl,⟨rfl,rfl⟩,.inl rfl⟩,rfl⟩)
   refine Ok.opt (Qf9 hL h3 Ob Ob) fun⟨a20,d4⟩ ⟨h6,m6⟩=>?_
   dsimp only at h6 m6 |-
   refine Ok.opt (Qf9 hL h6 Ob Ob) fun⟨a22,d5⟩ ⟨h7,m7⟩=>?_
   dsimp only at h7 m7 |-
   simp only[List.mem_cons,List.not_mem_nil,or_false]at m6 m7
   exact hJ _ ⟨rfl,rfl,h7,rfl,rfl,⟨rfl,⟨rfl,rfl⟩,.inr ⟨a20,a22,rfl,m6,m7⟩⟩,rfl⟩
 .have e4:a4=4:=Oa
  subst e4
  refine Ok.loop (fun m x=>0<=x.1.1/\x.1.1<=2/\XI L x.2.1/\x.2.2.2.1.1=[⟨bZ,a0,[]⟩]/\x.2.2.2.2.1=a7/\x.2.2.2.2.2.1.map (·.Name)=YF.take x.1.1.toNat/\(∀s∈x.2.2.2.2.2.1,Qd7 2 s)/\(2 - x.1.1).toNat=m) (m:=2) Oa
   ⟨by dsimp only;omega,by dsimp only;omega,i4,rfl,rfl,rfl,Ob,rfl⟩ ?_
  rintro m2 ⟨⟨a25,⟨⟩⟩,a26,⟨⟩,⟨a27,⟨⟩⟩,a28,a29,⟨⟩⟩ ⟨j1,j2,j3,j4,j5,j6,j7,j8⟩ k2 hk2
  dsimp only at j1 j2 j3 j4 j5 j6 j7 j8 |-
  subst j4;subst j5
  refine Ok.ite (fun h5=>?_) (fun h5=>?_)
  .have hlen:YF.length=2:=rfl
   have hal:a29.length=a25.toNat:=by have:=congrArg List.length j6;rw[List.length_map,List.length_take,hlen]at this;omega
   refine Ok.opt (Qf9 hL j3 Ob Ob) fun⟨a30,d2⟩ ⟨h2,m2⟩=>?_
   dsimp only at h2 m2 |-
   refine Ok.opt (Qf9 hL h2 Ob Ob) fun⟨a32,d3⟩ ⟨h3,m3⟩=>?_
   dsimp only at h3 m3 |-
   refine Ok.opt (Qf9 hL h3 Ob Ob) fun⟨a34,d4⟩ ⟨h4',m4⟩=>?_
   dsimp only at h4' m4 |-
   refine Ok.opt (nx hL h4' Oa Oa) fun⟨a36,d5⟩ ⟨h6,l6,u6⟩=>?_
   dsimp only at h6 l6 u6 |-
   refine Ok.opt (nx hL h6 Oa Oa) fun⟨a38,d6⟩ ⟨h7,l7,u7⟩=>?_
   dsimp only at h7 l7 u7 |-
   simp only[List.mem_cons,List.not_mem_nil,or_false]at m2 m3 m4
   rw[Qc (x:=1+a36) Oa,Qc (x:=1+a38) Oa]
   refine Ok.loop (fun m x=>x.1.1=a25/\0<=x.1.2.1/\XI L x.2.1/\x.2.2.2.1.1=[⟨bZ,a0,[]⟩]/\x.2.2.2.2.1=(ByteArray.mk #[108],0,a30,a32,a34,1+a36,0,0,())/\x.2.2.2.2.2.1=a28/\x.2.2.2.2.2.2.1=a29/\
    (∀z∈x.2.2.2.2.2.2.2.1,0<=z/\z<4)/\x.1.2.1+(x.2.2.2.2.2.2.2.1.length:Int)=1+a38/\x.1.2.1.toNat=m) (m:=(1+a38).toNat) Oa ⟨rfl,by dsimp only;omega,h7,rfl,rfl,rfl,rfl,Ob,by dsimp only;simp,rfl⟩ ?_
   rintro m3' ⟨⟨a41,a42,⟨⟩⟩,a43,⟨⟩,⟨a44,⟨⟩⟩,⟨a45,a46,a47,a48,a49,a50,a51,a52,⟨⟩⟩,a53,a54,a55,⟨⟩⟩ ⟨n1,n2,n3,n4,n5,n6,n7,n8,n9,n10⟩ k3 hk3
   dsimp only at n1 n2 n3 n4 n5 n6 n7 n8 n9 n10 |-
   cases n5;subst n1;subst n4;subst n6;subst n7
   refine Ok.ite (fun h8=>?_) (fun h8=>?_)
   .refine Ok.opt (nx hL n3 Oa Oa) fun⟨a56,d7⟩ ⟨h9,l9,u9⟩=>?_
    dsimp only at h9 l9 u9 |-
    refine Ok.LS ?_
    rw[Qc Oa]
    exact hk3 (a42 - 1).toNat _ Oa ⟨rfl,by dsimp only;omega,h9,rfl,rfl,rfl,rfl,VL n8 ⟨l9,u9⟩,by dsimp only;rw[List.length_append];simp only[List.length_cons,List.length_nil];omega,rfl⟩
   .refine Ok.at Oa (by simp only[List.length_cons,List.length_nil];omega) ?_
    refine Ok.opt (nx hL n3 Oa Oa) fun⟨a59,d7⟩ ⟨h9,l9,u9⟩=>?_
    dsimp only at h9 l9 u9 |-
    refine Ok.loop (fun m x=>x.1.1=a41/\0<=x.1.2.1/\XI L x.2.1/\x.2.2.2.1.1=[⟨bZ,a0,[]⟩]/\x.2.2.2.2.1=(nth YF a41.toNat,[(⟨ByteArray.mk #[108],0,⟨a30,a32⟩,a34,1+a36,a55,[],0,0⟩:D.Layer)],())/\x.2.2.2.2.2.1=a53/\x.2.2.2.2.2.2.1=a54/\
     (∀z∈x.2.2.2.2.2.2.2.1,QbB z)/\x.1.2.1+(x.2.2.2.2.2.2.2.1.length:Int)=a59/\x.1.2.1.toNat=m) (m:=a59.toNat) Oa ⟨rfl,by dsimp only;omega,h9,rfl,rfl,rfl,rfl,Ob,by dsimp only;simp,rfl⟩ ?_
    rintro m4' ⟨⟨a62,a63,⟨⟩⟩,a64,⟨⟩,⟨a65,⟨⟩⟩,⟨a66,a67,⟨⟩⟩,a68,a69,a70,⟨⟩⟩ ⟨p1,p2,p3,p4,p5,p6,p7,p8,p9,p10⟩ k4 hk4
    dsimp only at p1 p2 p3 p4 p5 p6 p7 p8 p9 p10 |-
    cases p5;subst p1;subst p4;subst p6;subst p7
    refine Ok.ite (fun h10=>?_) (fun h10=>?_)
    .refine Ok.opt (Qqn hL p3) fun⟨a71,d8⟩ ⟨h11,e11⟩=>?_
     dsimp only at h11 e11 |-
     refine Ok.LS ?_
     rw[Qc Oa]
     exact hk4 (a63 - 1).toNat _ Oa ⟨rfl,by dsimp only;omega,h11,rfl,rfl,rfl,rfl,VL p8 e11,by dsimp only;rw[List.length_append];simp only[List.length_cons,List.length_nil];omega,rfl⟩
    .refine Ok.LS ?_
     rw[Qc Oa]
     refine hk2 (2 - (a62+1)).toNat _ Oa ⟨by dsimp only;omega,by dsimp only;omega,p3,rfl,rfl,?_,VL j7 ⟨⟨_,rfl,⟨rfl,rfl,m2,by dsimp only;omega,by dsimp only;omega,by dsimp only;omega,by dsimp only;omega,n8,rfl,⟨rfl,rfl⟩⟩⟩,by dsimp only;omega,p8⟩,rfl⟩
     dsimp only
     rw[List.map_append,j6,List.map_cons,List.map_nil,Qz (by rw[hlen];omega),show(a62+1).toNat=a62.toNat+1 by omega]
  .have e2:a25=2:=Oa
   subst e2
   exact Ok.s ⟨j3,⟨⟨a0,rfl,m1⟩,i6,i7,rfl,j6,j7⟩⟩
theorem Qvo{d:D.Dice}{b:D.Book}(hL:L.length<=500)(hd:XI L d)(hb:b.Teams.length<=100):
  Ok (YU fu d b) fun r=>XI L r.2/\VD b.Teams.length r.1:=by
 unfold YU
 refine Ok.opt (nx hL hd Oa Oa) fun⟨v,d1⟩ ⟨h1,h2,h4⟩=>?_
 dsimp only at h1 h2 h4 |-
 refine Ok.join (fun y=>0<=y.1.1/\y.1.1<3/\(y.1.1=2->1<=b.Teams.length)/\XI L y.2.1/\y.2.2.2.2.1=b.Teams/\y.2.2.2.2.2.1=b.Policies) (fun y hy=>?_) (fun J hJ=>?_)
 .obtain⟨⟨a2,⟨⟩⟩,d2,⟨⟩,tg,ts,ps,⟨⟩⟩:=y
  obtain⟨g1,g2,g0,g3,g4,g5⟩:=hy
  dsimp only at g1 g2 g0 g3 g4 g5 |-
  subst g4;subst g5
  refine Ok.at g1 (by simp;omega) ?_
  have h3:a2=0\/a2=1\/a2=2:=Oa
  have e:nth [4,2,((b.Teams.length:Nat):Int)] a2.toNat=if a2=0 then 4 else if a2=1 then 2 else((b.Teams.length:Nat):Int):=by rcases h3 with h3|h3|h3<;>subst h3<;>rfl
  rw[e]
  refine Ok.opt (nx hL g3 (by(repeat' split)<;>omega) (by(repeat' split)<;>omega)) fun⟨v2,d3⟩ ⟨k1,k2,k3⟩=>?_
  dsimp only at k1 k2 k3 |-
  refine Ok.sameC (Ok.sameC (Ok.s ⟨k1,⟨h3,k2,fun h=>?_,fun h=>?_,fun h=>?_⟩⟩))<;>dsimp only at h|-<;>subst h<;>simpa using k3
 .refine Ok.ite (fun h5=>Ok.ite (fun h6=>hJ _ ⟨by dsimp only;omega,by dsimp only;omega,fun h=>by dsimp only at h;omega,h1,rfl,rfl⟩) (fun h6=>hJ _ ⟨h2,h4,fun h=>Oa,h1,rfl,rfl⟩)) (fun h5=>hJ _ ⟨h2,h4,fun h=>absurd h h5,h1,rfl,rfl⟩)
theorem QxH{d:D.Dice}(hL:L.length<=500)(hd:XI L d)(hf:10<=fu):
  Ok (Va fu d) fun r=>XI L r.2/\Qy r.1:=by
 unfold Va
 refine Ok.opt (nx hL hd Oa Oa) fun⟨v,d1⟩ ⟨h1,h2,h4⟩=>?_
 dsimp only at h1 h2 h4 |-
 refine Ok.loop (fun m x=>XI L x.2.1/\0<=x.1.1/\x.1.1+(x.2.2.2.2.1.length:Int)<=2/\x.2.2.2.2.1.map (·.Name)=QgZ.take x.2.2.2.2.1.length/\(∀t∈x.2.2.2.2.1,Qn0 t)/\x.1.1.toNat=m) (m:=v.toNat) Oa ⟨h1,h2,by dsimp only;simp;omega,rfl,Ob,rfl⟩ ?_
 rintro m ⟨⟨a3,⟨⟩⟩,d2,⟨⟩,⟨⟩,ts,⟨⟩⟩ ⟨i1,i2,i3,i5,i6,i4⟩ k hk
 dsimp only at i1 i2 i3 i5 i6 i4 |-
 refine Ok.ite (fun h5=>?_) (fun h5=>?_)
 .refine Ok.at Oa (by simp only[List.length_cons,List.length_nil];omega) ?_
  refine Ok.opt (nx hL i1 Oa Oa) fun⟨v2,d3⟩ ⟨j1,j2,j3⟩=>?_
  dsimp only at j1 j2 j3 |-
  refine Ok.join (fun y=>XI L y.2.1/\y.1.1=a3/\y.2.2.2.2.2.1=ts/\y.2.2.2.2.1.Name=nth QgZ ts.length/\Qn0 y.2.2.2.2.1) (fun y hy=>?_) (fun J hJ=>?_)
  .obtain⟨⟨a9,⟨⟩⟩,d4,⟨⟩,⟨⟩,tm,ts2,⟨⟩⟩:=y
   obtain⟨q1,q2,q3,q4,q5⟩:=hy
   dsimp only at q1 q2 q3 q4 q5 |-
   subst q2;subst q3
   refine Ok.LS ?_
   rw[QhQ Oa Oa]
   refine hk (a9 - 1).toNat _ Oa ⟨q1,by dsimp only;omega,by dsimp only;rw[List.length_append];simp only[List.length_cons,List.length_nil];omega,?_,VL i6 q5,rfl⟩
   dsimp only
   rw[List.map_append,i5,List.map_cons,List.map_nil,q4,Qz (by show _<2;omega),List.length_append];rfl
  .refine Ok.opt (nx hL j1 Oa Oa) fun⟨v3,d4⟩ ⟨k1,_⟩=>?_
   dsimp only at k1 |-
   refine Ok.ite (fun _=>?_) (fun _=>hJ _ ⟨k1,rfl,rfl,rfl,⟨by simp[Asc],Ob,by simp;omega⟩⟩)
   refine Ok.opt (nx hL k1 Oa Oa) fun⟨v4,d5⟩ ⟨l1,l2,l3⟩=>?_
   dsimp only at l1 l2 l3 |-
   rw[Qc Oa]
   exact Ok.lec Ob (hJ _ ⟨l1,rfl,rfl,rfl,⟨by simp[Asc];omega,Ob,by simp;omega⟩⟩)
 .refine Ok.opt (nx hL i1 Oa Oa) fun⟨v2,d3⟩ ⟨j1,j2,j4⟩=>?_
  dsimp only at j1 j2 j4 |-
  rw[QhQ Oa Oa]
  refine Ok.loop (fun m x=>XI L x.2.1/\0<=x.1.1/\x.2.2.2.2.1=ts/\x.1.1+(x.2.2.2.2.2.1.length:Int)=1+v2/\x.2.2.2.2.2.1.map (·.Name)=Qls.take x.2.2.2.2.2.1.length/\(∀p∈x.2.2.2.2.2.1,Qce ts.length p)/\x.1.1.toNat=m) (m:=(1+v2).toNat) Oa ⟨j1,by dsimp only;omega,rfl,by dsimp only;simp,rfl,Ob,rfl⟩ ?_
  rintro m ⟨⟨a21,⟨⟩⟩,d4,⟨⟩,⟨⟩,ts2,ps,⟨⟩⟩ ⟨n1,n2,n3,n4,n6,n7,n5⟩ k2 hk2
  dsimp only at n1 n2 n3 n4 n5 n6 n7 |-
  subst n3
  refine Ok.ite (fun h6=>?_) (fun h6=>Ok.s ⟨n1,⟨by dsimp only;omega,i5,i6,by dsimp only;omega,n6,n7⟩⟩)
  refine Ok.at Oa (by simp only[List.length_cons,List.length_nil];omega) ?_
  refine Ok.opt (Qf9 hL n1 Ob Ob) fun⟨v3,d5⟩ ⟨o1,r1⟩=>?_
  dsimp only at o1 r1 |-
  refine Ok.opt (nx hL o1 Oa Oa) fun⟨v4,d6⟩ ⟨o2,o3,o5⟩=>?_
  dsimp only at o2 o3 o5 |-
  simp only[List.mem_cons,List.not_mem_nil,or_false]at r1
  rw[QhQ (x:=1+v4) Oa Oa]
  refine Ok.loop (fun m x=>XI L x.2.1/\x.1.1=a21/\0<=x.1.2.1/\x.2.2.2.2.1=(nth Qls ps.length,v3,())/\x.2.2.2.2.2.1=ts2/\x.2.2.2.2.2.2.1=ps/\x.1.2.1+(x.2.2.2.2.2.2.2.1.length:Int)=1+v4/\(∀s∈x.2.2.2.2.2.2.2.1,StepOK' ts2.length s)/\x.1.2.1.toNat=m) (m:=(1+v4).toNat) Oa ⟨o2,rfl,by dsimp only;omega,rfl,rfl,rfl,by dsimp only;simp,Ob,rfl⟩ ?_
  rintro m3 ⟨⟨a31,a32,⟨⟩⟩,d7,⟨⟩,⟨⟩,⟨nm,rp,⟨⟩⟩,ts3,ps3,ss,⟨⟩⟩ ⟨p1,p2,p3,p0,p4,p5,p6,p8,p7⟩ k3 hk3
  dsimp only at p1 p2 p3 p0 p4 p5 p6 p7 p8 |-
  cases p0
  subst p2;subst p4;subst p5
  refine Ok.ite (fun h7=>?_) (fun h7=>?_)
  .refine Ok.opt (Qf9 hL p1 Ob Ob) fun⟨v5,d8⟩ ⟨s1,s2⟩=>?_
   dsimp only at s1 s2 |-
   refine Ok.opt (nx hL s1 Oa Oa) fun⟨v6,d9⟩ ⟨r2,_⟩=>?_
   dsimp only at r2 |-
   refine Ok.opt (nx hL r2 Oa Oa) fun⟨v7,d10⟩ ⟨r3,r4,r6⟩=>?_
   dsimp only at r3 r4 r6 |-
   simp only[List.mem_cons,List.not_mem_nil,or_false]at s2
   refine Ok.loop (fun m x=>XI L x.2.1/\x.1.1=a31/\x.1.2.1=a32/\0<=x.1.2.2.1/\x.2.2.2.2.1=(nth Qls ps3.length,v3,())/\x.2.2.2.2.2.1=(v5,decide (v6=0),())/\x.2.2.2.2.2.2.1=ts3/\x.2.2.2.2.2.2.2.1=ps3/\x.2.2.2.2.2.2.2.2.1=ss/\x.1.2.2.1+(x.2.2.2.2.2.2.2.2.2.1.length:Int)<=2/\(∀t∈x.2.2.2.2.2.2.2.2.2.1,VD ts3.length t)/\x.1.2.2.1.toNat=m) (m:=v7.toNat) Oa ⟨r3,rfl,rfl,by dsimp only;omega,rfl,rfl,rfl,rfl,rfl,by dsimp only;simp;omega,Ob,rfl⟩ ?_
   rintro m4 ⟨⟨a46,a47,a48,⟨⟩⟩,d11,⟨⟩,⟨⟩,⟨nm2,rp2,⟨⟩⟩,⟨wt,ur,⟨⟩⟩,ts4,ps4,ss4,tg,⟨⟩⟩ ⟨u1,u2,u3,u4,w1,w2,u5,u6,u7,u8,w3,u9⟩ k4 hk4
   dsimp only at u1 u2 u3 u4 u5 u6 u7 u8 u9 w1 w2 w3 |-
   cases w1;cases w2
   subst u2;subst u3;subst u5;subst u6;subst u7
   refine Ok.ite (fun h8=>?_) (fun h8=>?_)
   .refine Ok.opt (Qvo hL u1 (by dsimp only;omega)) fun⟨v8,d12⟩ ⟨x1,x2⟩=>?_
    dsimp only at x1 x2 |-
    refine Ok.LS ?_
    rw[QhQ Oa Oa]
    exact hk4 (a48 - 1).toNat _ Oa ⟨x1,rfl,rfl,by dsimp only;omega,rfl,rfl,rfl,rfl,rfl,by dsimp only;rw[List.length_append];simp only[List.length_cons,List.length_nil];omega,VL w3 x2,rfl⟩
   .refine Ok.LS ?_
    rw[QhQ Oa Oa]
    exact hk3 (a47 - 1).toNat _ Oa ⟨u1,rfl,by dsimp only;omega,rfl,rfl,rfl,by dsimp only;rw[List.length_append];simp only[List.length_cons,List.length_nil];omega,VL p8 ⟨by dsimp only;omega,by dsimp only;omega,w3⟩,rfl⟩
  .refine Ok.LS ?_
   rw[QhQ Oa Oa]
   refine hk2 (a31 - 1).toNat _ Oa ⟨p1,by dsimp only;omega,rfl,by dsimp only;rw[List.length_append];simp only[List.length_cons,List.length_nil];omega,?_,VL n7 ⟨by dsimp only;omega,by dsimp only;omega,p8⟩,rfl⟩
   dsimp only
   rw[List.map_append,n6,List.map_cons,List.map_nil,Qz (by show _<3;omega),List.length_append];rfl
end
/-
  Crews are right: what the checks of configurations say of them (the program's and the reference's).
-/
section
theorem Qb{i:Nat}(h:i<1000000000):IntKind.wrap .i64 ((i:Int)+1)=((i+1:Nat):Int):=by rw[Qc Oa];omega
theorem forall4{P:Nat->Prop}(h0:P 0)(h1:P 1)(h2:P 2)(h3:P 3):∀i,i<4->P i:=fun i hi=>by
 rcases(show i=0\/i=1\/i=2\/i=3 by omega)with rfl|rfl|rfl|rfl<;>assumption
theorem forall2{P:Nat->Prop}(h0:P 0)(h1:P 1):∀i,i<2->P i:=fun i hi=>by
 rcases(show i=0\/i=1 by omega)with rfl|rfl<;>assumption
theorem Qjn{α β:Type}[Inhabited α][Inhabited β]{f:α->β}{l:List α}{m:List β}(h:l.map f=m){i:Nat}(hi:i<l.length):f (nth l i)=nth m i:=by
 subst h
 simp[nth,List.getD_eq_getElem?_getD,List.getElem?_eq_getElem hi]
theorem Q0.pnm{n:Nat}{c:D.Config}(h:Q0 n c){i:Nat}(hi:i<4):(nth c.People i).Name=nth Yn i:=Qjn h.pname (by rw[h.plen];exact hi)
theorem Q0.snm{n:Nat}{c:D.Config}(h:Q0 n c){i:Nat}(hi:i<2):(nth c.Schedules i).Name=nth YF i:=Qjn h.sname (by rw[h.slen];exact hi)
theorem Q0.per{n:Nat}{c:D.Config}(h:Q0 n c){i:Nat}(hi:i<4):UK (nth c.People i):=h.person _ (Qi (by rw[h.plen];exact hi))
theorem Q0.sch{n:Nat}{c:D.Config}(h:Q0 n c){i:Nat}(hi:i<2):Qd7 n (nth c.Schedules i):=h.sched _ (Qi (by rw[h.slen];exact hi))
theorem rIn{fu:Nat}{n lo hi:Int}:Vx fu n lo hi=some (decide (lo<=n/\n<=hi)):=cnd2
theorem rIdx{fu:Nat}{i n:Int}:Yk fu i n=some (decide (0<=i/\i<n)):=cnd2
theorem r8In{fu:Nat}{n lo hi:Int}:VX fu n lo hi=some (decide (lo<=n/\n<=hi)):=cnd2
theorem QyE{p:D.Person}(h:UK p):QcW 1000 p.Quiet=some 0:=by
 rcases h.quiet with h|⟨a,b,h,ha,hb⟩
 .rw[h];kernel_rfl
 .rw[h]
  rcases ha with rfl|rfl<;>rcases hb with rfl|rfl|rfl<;>kernel_rfl
theorem Qr2{p:D.Person}(h:UK p):Qbj 1000 p.Quiet=some 0:=by
 rcases h.quiet with h|⟨a,b,h,ha,hb⟩
 .rw[h];kernel_rfl
 .rw[h]
  rcases ha with rfl|rfl<;>rcases hb with rfl|rfl|rfl<;>kernel_rfl
theorem hours0:QaR 1000 0=some true:=by kernel_rfl
theorem hours8:Qcy 1000 0=some true:=by kernel_rfl
variable {n:Nat} {c:D.Config}
theorem Qlt{p:D.Person}(h:Q0 n c)(hp:UK p):XX 1000 c p=some 0:=by
 refine Ok.eq ?_
 unfold XX
 rw[hp.zone,hp.max.1,hp.max.2,h.zones.1]
 (repeat(first|with_reducible refine Ok.j ?_|with_reducible refine Ok.t ?_|with_reducible refine Ok.f ?_|with_reducible refine Ok.nt rfl ?_|with_reducible refine Ok.oe (rIdx) ?_|with_reducible refine Ok.oe (QyE hp) ?_|with_reducible refine Ok.oe (hours0) ?_|(with_reducible refine Ok.p ?hh ?_;case hh=>(first|omega|decide|assumption|(dsimp only;omega)|(simp;done)))|(with_reducible refine Ok.n ?hh ?_;case hh=>(first|omega|decide|assumption|(dsimp only;omega)|(simp;done)))|with_reducible refine Ok.os ?_))
 exact Ok.s rfl
theorem day10:Xn 1000 (IntKind.wrap .i64 10)=some true:=by kernel_rfl
theorem Qxb:Zi 1000=some 98980:=by kernel_rfl
theorem QbB.day{x:D.Edit}(h:QbB x):Int.tdiv x.To 86400=10:=by
 have:=h.time
 rw[Int.tdiv_eq_ediv_of_nonneg Oa];omega
theorem dayE{x:D.Edit}(h:QbB x):Xn 1000 (IntKind.wrap .i64 (Int.tdiv x.To 86400))=some true:=by rw[h.day];exact day10
theorem Qod{x:D.Edit}(h:Q0 n c)(hx:QbB x):WL 1000 c x=some 0:=by
 refine Ok.eq ?_
 have h1:=hx.kind;have h2:=hx.a;have h3:=hx.b;have h4:=hx.b0;have h5:=hx.time
 have hpl:=h.plen
 unfold WL
 rcases(show x.Kind=0\/x.Kind=1\/x.Kind=2 by omega)with hk|hk|hk<;>rcases h2 with h2|h2<;>first|(exfalso;omega)|((repeat(first|with_reducible refine Ok.j ?_|with_reducible refine Ok.t ?_|with_reducible refine Ok.f ?_|with_reducible refine Ok.oe (rIn) ?_|with_reducible refine Ok.oe (rIdx) ?_|with_reducible refine Ok.oe (dayE hx) ?_|(with_reducible refine Ok.p ?hh ?_;case hh=>(first|omega|decide|assumption|(dsimp only;omega)|(simp;done)))|(with_reducible refine Ok.n ?hh ?_;case hh=>(first|omega|decide|assumption|(dsimp only;omega)|(simp;done)))|(with_reducible refine Ok.np ?hh ?_;case hh=>(first|omega|decide|assumption|(dsimp only;omega)|(simp;done)))|(with_reducible refine Ok.nzc ?hh ?_;case hh=>first|omega|decide)));exact Ok.s rfl)
theorem QvY{x:D.Edit}(h:Q0 n c)(hx:QbB x):Qjq 1000 c x=some 0:=by
 refine Ok.eq ?_
 have h1:=hx.kind;have h2:=hx.a;have h3:=hx.b;have h4:=hx.b0;have h5:=hx.time
 unfold Qjq
 rw[hx.day,h.plen,Qc (x:=10) Oa,show IntKind.wrap .i64 (((4:Nat):Int) - 1)=3 from rfl]
 rcases(show x.Kind=0\/x.Kind=1\/x.Kind=2 by omega)with hk|hk|hk<;>rcases h2 with h2|h2<;>first|(exfalso;omega)|((repeat(first|with_reducible refine Ok.j ?_|with_reducible refine Ok.oe (r8In) ?_|with_reducible refine Ok.oe (Qxb) ?_|(with_reducible refine Ok.p ?hh ?_;case hh=>(first|omega|decide|assumption|(dsimp only;omega)|(simp;done)))|(with_reducible refine Ok.n ?hh ?_;case hh=>(first|omega|decide|assumption|(dsimp only;omega)|(simp;done)))|(with_reducible refine Ok.np ?hh ?_;case hh=>(first|omega|decide|assumption|(dsimp only;omega)|(simp;done)))|(with_reducible refine Ok.nzc ?hh ?_;case hh=>first|omega|decide)));exact Ok.s rfl)
theorem dayL{l:D.Layer}(h:YM l):Xn 1000 l.Start.Day=some true:=by
 rcases h.day with h|h|h<;>rw[h]<;>kernel_rfl
theorem Qus{x:Int}:Xu 1000 x c=some (!decide (0<=x/\x<(c.People.length:Int))):=by
 unfold Xu;rw[rIdx,ZR,WG]
theorem Qsv{l:List Int}(h:Q0 n c)(hm:∀x∈l,0<=x/\x<4)(hl:l.length<900):QB 1000 l c=some false:=by
 have key:QH 1000 l c=some (-1):=by
  refine Ok.eq ?_
  unfold QH
  refine Ok.run l.length (fun i=>((l,((l.length:Nat):Int),(i:Int),()),c,())) rfl Oa (fun i hi k hk=>?_) (fun k=>?_)
  .dsimp only
   have hx:=hm _ (Qi hi)
   refine Ok.P (Ok.atn hi (Ok.oe Qus (Ok.bf ?_ ?_)))
   .rw[h.plen];simp;omega
   .rw[Qb Oa];exact hk
  .dsimp only
   exact Ok.N (Ok.sameC (Ok.s rfl))
 unfold QB
 rw[key,ZR,WG];rfl
theorem wins0:QcW 1000 []=some 0:=by kernel_rfl
theorem wins5:Qbj 1000 []=some 0:=by kernel_rfl
theorem QmO{l:D.Layer}(h:Q0 n c)(hl:YM l):Wm 1000 c l=some 0:=by
 refine Ok.eq ?_
 unfold Wm
 have h1:=hl.day;have h2:=hl.second;have h3:=hl.unit;have h4:=hl.every;have h5:=hl.len
 rw[hl.zone,hl.win,hl.cal.1,hl.cal.2,h.zones.1]
 (repeat(first|with_reducible refine Ok.j ?_|with_reducible refine Ok.t ?_|with_reducible refine Ok.f ?_|with_reducible refine Ok.nt rfl ?_|with_reducible refine Ok.nf rfl ?_|with_reducible refine Ok.oe (rIdx) ?_|with_reducible refine Ok.oe (rIn) ?_|with_reducible refine Ok.oe (dayL hl) ?_|with_reducible refine Ok.oe (Qsv h hl.mem Oa) ?_|with_reducible refine Ok.oe (wins0) ?_|(with_reducible refine Ok.p ?hh ?_;case hh=>(first|omega|decide|assumption|(dsimp only;omega)|(simp;done)))|(with_reducible refine Ok.n ?hh ?_;case hh=>(first|omega|decide|assumption|(dsimp only;omega)|(simp;done)))|with_reducible refine Ok.os ?_))
 exact Ok.s rfl
def ents(l:List ByteArray)(i:Nat):List (ByteArray×Bool):=(l.take i).map fun s=>(s,true)
theorem Quu:∀i,i<4->Xa 1000 (nth Yn i) (ents Yn i)=some (0,ents Yn (i+1)):=forall4 (by kernel_rfl) (by kernel_rfl) (by kernel_rfl) (by kernel_rfl)
theorem Qwm:∀i,i<2->Xa 1000 (nth YF i) (ents YF i)=some (0,ents YF (i+1)):=forall2 (by kernel_rfl) (by kernel_rfl)
theorem Qy5:Xa 1000 (ByteArray.mk #[108]) []=some (0,[(ByteArray.mk #[108],true)]):=by kernel_rfl
theorem Qj4:∀i,i<4->¬nth Yn i=ByteArray.mk (List.toArray (110::(111::(98::(111::(100::(121::[]))))))):=by decide
theorem Qup{l:D.Layer}(h:Q0 n c)(hl:YM l):Qj 1000 [l] c=some 0:=by
 have hc:Z1 1000 (nth [l] 0) c=some 0:=by show Z1 1000 l c=some 0;unfold Z1;rw[QmO h hl,ZR,WG]
 have hn:Z0 1000 (nth [l] 0)=some (ByteArray.mk #[108]):=by show Z0 1000 l=_;unfold Z0;rw[hl.name]
 refine Ok.eq ?_
 unfold Qj
 refine Ok.run 1 (fun i=>(([l],1,(i:Int),()),c,ents [ByteArray.mk #[108]] i,())) rfl Oa (fun i hi k hk=>?_) (fun k=>?_)
 .obtain rfl:i=0:=Oa
  dsimp only
  refine Ok.p (by decide) (Ok.atn Ob (Ok.oe hn (Ok.oe Qy5 ?_)))
  (repeat(first|with_reducible refine Ok.oe (hc) ?_|(with_reducible refine Ok.n ?hh ?_;case hh=>(first|omega|decide|assumption|(dsimp only;omega)|(simp;done)))))
  exact hk
 .dsimp only
  exact Ok.n (by decide) (Ok.sameC (Ok.s rfl))
theorem QiW{s:D.Schedule}(h:Q0 n c)(hn:n<=48)(hs:Qd7 n s):Y9 1000 c s=some 0:=by
 obtain⟨l,hl1,hl2⟩:=hs.layers
 have hlen:=hs.len
 refine Ok.eq ?_
 unfold Y9
 rw[hl1]
 refine Ok.j (Ok.NS (Ok.N ?_))
 dsimp only
 rw[hl1]
 refine Ok.oe (Qup h hl2) (Ok.n (by decide) ?_)
 refine Ok.run s.Edits.length (fun i=>((s.Edits,((s.Edits.length:Nat):Int),(i:Int),()),c,())) rfl Oa (fun i hi k hk=>?_) (fun k=>?_)
 .dsimp only
  refine Ok.P (Ok.atn hi (Ok.oe (Qod h (hs.edit _ (Qi hi))) (Ok.n (by decide) ?_)))
  rw[Qb Oa];exact hk
 .dsimp only
  exact Ok.N (Ok.s rfl)
theorem Qu9(h:Q0 n c)(hn:n<=48):Qp 1000 c.Schedules c=some 0:=by
 refine Ok.eq ?_
 unfold Qp
 rw[h.slen]
 refine Ok.run 2 (fun i=>((c.Schedules,2,(i:Int),()),c,ents YF i,())) rfl Oa (fun i hi k hk=>?_) (fun k=>?_)
 .dsimp only
  have hc:V7 1000 (nth c.Schedules i) c=some 0:=by unfold V7;rw[QiW h hn (h.sch hi),ZR,WG]
  have hn:V6 1000 (nth c.Schedules i)=some (nth YF i):=by unfold V6;rw[h.snm hi]
  refine Ok.P (Ok.atn (by rw[h.slen];exact hi) (Ok.oe hn (Ok.oe (Qwm i hi) ?_)))
  (repeat(first|with_reducible refine Ok.oe (hc) ?_|(with_reducible refine Ok.n ?hh ?_;case hh=>(first|omega|decide|assumption|(dsimp only;omega)|(simp;done)))))
  rw[Qb Oa];exact hk
 .dsimp only
  exact Ok.n (by decide) (Ok.sameC (Ok.s rfl))
theorem Qw0(h:Q0 n c):QC 1000 c.Zones=some 0:=by
 obtain⟨h1,h2⟩:=h.zones
 rw[h1]
 rcases h2 with h2|h2|h2<;>rw[h2]<;>kernel_rfl
theorem QxJ(h:Q0 n c):Qo 1000 c.Calendars c=some 0:=by
 refine Ok.eq ?_
 unfold Qo
 rw[h.cal]
 refine Ok.run 0 (fun i=>(([],0,0,()),c,[],())) rfl Oa (fun i hi=>absurd hi Oa) (fun k=>?_)
 exact Ok.n (by decide) (Ok.sameC (Ok.s rfl))
theorem Qrb(h:Q0 n c)(hn:n<=48):WK 1000 c=some 0:=by
 refine Ok.eq ?_
 unfold WK
 have hz:=congrArg List.length h.zones.1
 have hp:=h.plen
 have hs:=h.slen
 have hc:=congrArg List.length h.cal
 simp only[List.length_cons,List.length_nil]at hz hc
 refine Ok.j (Ok.N (Ok.N (Ok.N (Ok.N ?_))))
 dsimp only
 refine Ok.oe (Qw0 h) (Ok.n (by decide) ?_)
 rw[hp]
 refine Ok.run 4 (fun i=>((c.People,4,(i:Int),()),c,ents Yn i,())) rfl Oa (fun i hi k hk=>?_) (fun k=>?_)
 .dsimp only
  refine Ok.P (Ok.A ?_)
  rw[h.pnm hi]
  refine Ok.oe (Quu i hi) (Ok.j (Ok.n (Qj4 i hi) ?_))
  (repeat(first|with_reducible refine Ok.j ?_|with_reducible refine Ok.oe (Qlt h (h.per hi)) ?_|(with_reducible refine Ok.p ?hh ?_;case hh=>(first|omega|decide|assumption|(dsimp only;omega)|(simp;done)))|(with_reducible refine Ok.n ?hh ?_;case hh=>(first|omega|decide|assumption|(dsimp only;omega)|(simp;done)))))
  rw[Qb Oa];exact hk
 .dsimp only
  refine Ok.n (by decide) ?_
  (repeat(first|with_reducible refine Ok.j ?_|with_reducible refine Ok.oe (QxJ h) ?_|with_reducible refine Ok.oe (Qu9 h hn) ?_|(with_reducible refine Ok.p ?hh ?_;case hh=>(first|omega|decide|assumption|(dsimp only;omega)|(simp;done)))|(with_reducible refine Ok.n ?hh ?_;case hh=>(first|omega|decide|assumption|(dsimp only;omega)|(simp;done)))))
  exact Ok.s rfl
theorem QsH{p:D.Person}(hp:UK p):VX 1000 p.Zone 0 (IntKind.wrap .i64 (((1:Nat):Int) - 1))=some true/\Qbj 1000 p.Quiet=some 0/\Qcy 1000 p.MaxWeek=some true/\Qcy 1000 p.MinRest=some true:=by
 rw[hp.zone,hp.max.1,hp.max.2]
 exact⟨by kernel_rfl,Qr2 hp,hours8,hours8⟩
theorem Qsw:∀i,i<4->Wf 1000 (Yn.take i++[nth Yn i]) (i:Int)=some 0:=forall4 (by kernel_rfl) (by kernel_rfl) (by kernel_rfl) (by kernel_rfl)
theorem Qut:∀i,i<2->Wf 1000 (YF.take i++[nth YF i]) (i:Int)=some 0:=forall2 (by kernel_rfl) (by kernel_rfl)
theorem Qya:Wf 1000 ([]++[ByteArray.mk #[108]]) ((0:Nat):Int)=some 0:=by kernel_rfl
theorem QvB(h:Q0 n c):Qhv 1000 c=some 0:=by
 obtain⟨h1,h2⟩:=h.zones
 refine Ok.eq ?_
 unfold Qhv
 have hz:Qcw 1000 (⟨bZ,YW c,[]⟩:D.Zone)=some 0/\QgF 1000 (⟨bZ,YW c,[]⟩:D.Zone)=some true/\Wf 1000 ([]++[bZ]) ((0:Nat):Int)=some 0:=by
  rcases h2 with h2|h2|h2<;>rw[h2]<;>exact⟨by kernel_rfl,by kernel_rfl,by kernel_rfl⟩
 refine Ok.run 1 (fun i=>(((i:Int),()),c,[bZ].take i,())) rfl Oa (fun i hi k hk=>?_) (fun k=>?_)
 .obtain rfl:i=0:=Oa
  dsimp only
  rw[h1]
  refine Ok.PS (Ok.j (Ok.atn Ob (Ok.lec Ob ?_)))
  refine Ok.oe hz.2.2 (Ok.n (by decide) (Ok.atn Ob (Ok.oe hz.1 (Ok.n (by decide) (Ok.atn Ob (Ok.oe hz.2.1 ?_))))))
  exact hk
 .dsimp only
  rw[h1]
  exact Ok.NS (Ok.s rfl)
theorem QsF(h:Q0 n c):QfA 1000 c=some 0:=by
 have hp:=h.plen
 refine Ok.eq ?_
 unfold QfA
 refine Ok.run 4 (fun i=>(((i:Int),()),c,Yn.take i,())) rfl Oa (fun i hi k hk=>?_) (fun k=>?_)
 .dsimp only
  obtain⟨g1,g2,g3,g4⟩:=QsH (h.per hi)
  refine Ok.P (Ok.j (Ok.A (Ok.LS ?_)))
  rw[h.pnm hi,h.zones.1]
  refine Ok.n (Qj4 i hi) (Ok.oe (Qsw i hi) (Ok.n (by decide) (Ok.oe g1 ?_)))
  refine Ok.nt rfl (Ok.oe g2 (Ok.n (by decide) (Ok.oe g3 (Ok.t (Ok.oe g4 (Ok.t ?_))))))
  dsimp only
  rw[Qb Oa,Qz (show i<Yn.length from hi)];exact hk
 .dsimp only
  exact Ok.N (Ok.s rfl)
theorem QvV(h:Q0 n c):QaJ 1000 c=some 0:=by
 refine Ok.eq ?_
 unfold QaJ
 refine Ok.run 0 (fun i=>((0,()),c,[],())) rfl Oa (fun i hi=>absurd hi Oa) (fun k=>?_)
 dsimp only
 rw[h.cal]
 exact Ok.n (by decide) (Ok.s rfl)
theorem Quo{l:D.Layer}(h:Q0 n c)(hl:YM l):QeL 1000 c l=some 0:=by
 refine Ok.eq ?_
 unfold QeL
 have h1:=hl.day;have h2:=hl.second;have h3:=hl.unit;have h4:=hl.every;have h5:=hl.len
 have hp:=h.plen
 rw[hl.zone,h.zones.1,Qc (x:=(([(⟨bZ,YW c,[]⟩:D.Zone)].length:Nat):Int) - 1) Ob]
 refine Ok.j (Ok.oe r8In (Ok.np Ob ?_))
 (repeat(first|with_reducible refine Ok.oe (r8In) ?_|with_reducible refine Ok.oe (Qxb) ?_|(with_reducible refine Ok.p ?hh ?_;case hh=>(first|omega|decide|assumption|(dsimp only;omega)|(simp;done)))|(with_reducible refine Ok.n ?hh ?_;case hh=>(first|omega|decide|assumption|(dsimp only;omega)|(simp;done)))))
 refine Ok.run l.Members.length (fun i=>(((i:Int),()),c,l,())) rfl Oa (fun i hi k hk=>?_) (fun k=>?_)
 .dsimp only
  have hx:=hl.mem _ (Qi hi)
  rw[hp]
  refine Ok.P (Ok.atn hi (Ok.oe r8In (Ok.np ?_ ?_)))
  .rw[Qc Oa];omega
  .rw[Qb Oa];exact hk
 .dsimp only
  rw[hl.win,hl.cal.1,hl.cal.2]
  refine Ok.N ?_
  (repeat(first|with_reducible refine Ok.oe (wins5) ?_|with_reducible refine Ok.oe (r8In) ?_|(with_reducible refine Ok.p ?hh ?_;case hh=>(first|omega|decide|assumption|(dsimp only;omega)|(simp;done)))|(with_reducible refine Ok.n ?hh ?_;case hh=>(first|omega|decide|assumption|(dsimp only;omega)|(simp;done)))))
  exact Ok.s rfl
theorem QnJ(h:Q0 n c)(hn:n<=48):QaL 1000 c=some 0:=by
 have hs:=h.slen
 refine Ok.eq ?_
 unfold QaL
 refine Ok.run 2 (fun i=>(((i:Int),()),c,YF.take i,())) rfl Oa (fun i hi k hk=>?_) (fun k=>?_)
 .dsimp only
  have hsc:=h.sch hi
  obtain⟨l,hl1,hl2⟩:=hsc.layers
  have hlen:=hsc.len
  refine Ok.P (Ok.A (Ok.LS ?_))
  rw[h.snm hi]
  refine Ok.oe (Qut i hi) (Ok.n (by decide) (Ok.j ?_))
  rw[hl1]
  refine Ok.NS (Ok.N ?_)
  dsimp only
  refine Ok.run 1 (fun j=>(((i:Int),(j:Int),()),c,nth c.Schedules i,YF.take i++[nth YF i],[ByteArray.mk #[108]].take j,())) rfl Oa (fun j hj k2 hk2=>?_) (fun k2=>?_)
  .obtain rfl:j=0:=Oa
   dsimp only
   rw[hl1]
   refine Ok.PS (Ok.atn Ob (Ok.lec Ob ?_))
   rw[show(nth [l] 0).Name=ByteArray.mk #[108]from hl2.name]
   refine Ok.oe Qya (Ok.n (by decide) (Ok.atn Ob (Ok.oe (Quo h hl2:QeL 1000 c (nth [l] 0)=some 0) (Ok.n (by decide) ?_))))
   exact hk2
  .dsimp only
   rw[hl1]
   refine Ok.NS ?_
   refine Ok.run (nth c.Schedules i).Edits.length (fun j=>(((i:Int),(j:Int),()),c,nth c.Schedules i,YF.take i++[nth YF i],())) rfl Oa (fun j hj k3 hk3=>?_) (fun k3=>?_)
   .dsimp only
    refine Ok.P (Ok.atn hj (Ok.oe (QvY h (hsc.edit _ (Qi hj))) (Ok.n (by decide) ?_)))
    rw[Qb Oa];exact hk3
   .dsimp only
    refine Ok.N ?_
    rw[Qb Oa,Qz (show i<YF.length from hi)];exact hk
 .dsimp only
  exact Ok.N (Ok.s rfl)
theorem Qef(h:Q0 n c)(hn:n<=48):VW 1000 c=some 0:=by
 refine Ok.eq ?_
 unfold VW
 have hz:=congrArg List.length h.zones.1
 have hp:=h.plen
 have hs:=h.slen
 have hc:=congrArg List.length h.cal
 simp only[List.length_cons,List.length_nil]at hz hc
 (repeat(first|with_reducible refine Ok.j ?_|with_reducible refine Ok.oe (QvB h) ?_|with_reducible refine Ok.oe (QsF h) ?_|with_reducible refine Ok.oe (QvV h) ?_|with_reducible refine Ok.oe (QnJ h hn) ?_|(with_reducible refine Ok.n ?hh ?_;case hh=>(first|omega|decide|assumption|(dsimp only;omega)|(simp;done)))))
 exact Ok.s rfl
end
/-
  Who is on call in a crew: what the program and the reference compute.
-/
section
open Go AM
def QdT(off:Int):Prop:=off=0\/off=3600\/off = -7200
def tabV(off:Int):D.Table:=⟨off,[]⟩
variable {off t k:Int} {l:D.Layer}
theorem Qyz:WT 1000 (tabV off) t=some off:=by
 have h1:Zk 1000 0 (tabV off) t=some 0:=by
  refine Ok.eq ?_
  unfold Zk
  refine Ok.run 0 (fun _=>((0,(0,())),(tabV off,((t,()),())))) rfl Oa (fun i hi=>absurd hi Oa) (fun k=>?_)
  exact Ok.N (Ok.sameC (Ok.sameC (Ok.s rfl)))
 have h2:Wd 1000 (tabV off) t=some 0:=by unfold Wd;rw[show(((List.length (D.Table.list (tabV off))):Nat):Int)=0 from rfl,h1,ZR]
 unfold WT
 rw[h2,ZR]
 rfl
theorem Qwj{n:Int}(h : -1099511627776<=n/\n<=1099511627776):QfQ 1000 n=some ⟨n / 86400,n % 86400⟩:=by
 refine Ok.eq ?_
 unfold QfQ
 refine Ok.Z (Ok.j (Ok.Z ?_))
 by_cases h0:0<=n
 .rw[Int.tmod_eq_emod_of_nonneg h0,Int.tdiv_eq_ediv_of_nonneg h0]
  refine Ok.N ?_
  dsimp only
  rw[Qc (x:=n / 86400) Oa,Qc (x:=n / 86400*86400) Oa,Qc Oa]
  exact Ok.s (by congr 1;omega)
 .have e1:Int.tmod n 86400 = -((-n) % 86400):=by
   rw[show n = -(-n)by omega,Int.neg_tmod,Int.tmod_eq_emod_of_nonneg Oa,Int.neg_neg]
  have e2:Int.tdiv n 86400 = -((-n) / 86400):=by
   grind
  rw[e1,e2]
  by_cases h1 : -((-n) % 86400)<0
  .refine Ok.p h1 ?_
   dsimp only
   rw[Qc (x:=-((-n) / 86400)) Oa,Qc (x:=-((-n) / 86400) - 1) Oa,Qc (x:=(-((-n) / 86400) - 1)*86400) Oa,Qc Oa]
   exact Ok.s (by rw[D.Local.mk.injEq];omega)
  .refine Ok.n h1 ?_
   dsimp only
   rw[Qc (x:=-((-n) / 86400)) Oa,Qc (x:=-((-n) / 86400)*86400) Oa,Qc Oa]
   exact Ok.s (by rw[D.Local.mk.injEq];omega)
theorem QdT.le(h:QdT off): -7200<=off/\off<=3600:=by unfold QdT at h;omega
theorem Qxo(ho:QdT off)(ht:0<=t/\t<=8589934592):ZL 1000 (tabV off) t=some ⟨(t+off) / 86400,(t+off) % 86400⟩:=by
 have:=ho.le
 unfold ZL
 rw[Qyz,ZR,Qc Oa,Qwj Oa,ZR]
theorem QyB(ho:QdT off):UI 1000 (tabV off) 0 8589934593=some [⟨0,8589934593,off⟩]:=by
 rcases ho with rfl|rfl|rfl<;>kernel_rfl
theorem Qxn{d s:Int}(ho:QdT off)(hd:1<=d/\d<=1000000)(hs:0<=s/\s<=86399):
  Ok (Wc 1000 (tabV off) ⟨d,s⟩) fun r=>r.2=decide (d*86400+s - off<=8589934592)/\(r.2=true->r.1=d*86400+s - off):=by
 have:=ho.le
 unfold Wc Qff
 refine Ok.oe (QyB ho) ?_
 have e:IntKind.wrap .i64 (IntKind.wrap .i64 (min (max d (-1048576)) 1048576*86400)+s)=d*86400+s:=by rw[Qc (x:=min (max d (-1048576)) 1048576*86400) Oa,Qc Oa];omega
 by_cases h:d*86400+s - off<=8589934592
 .refine Ok.scan 1 (fun i=>(([⟨0,8589934593,off⟩],1,(i:Int),()),⟨d,s⟩,())) (fun _=>true) rfl Oa (fun i hi _ _ k=>?_) (fun i hi hq=>by simp at hq) (fun hq=>by have:=hq 0 Oa;simp at this)
  obtain rfl:i=0:=Oa
  refine Ok.PS (Ok.atn Ob (Ok.os ?_))
  dsimp only
  rw[e,show(nth [(⟨0,8589934593,off⟩:D.Piece)] 0)=⟨0,8589934593,off⟩from rfl]
  dsimp only
  rw[Qc (x:=d*86400+s - off) Oa,show max 0 (d*86400+s - off)=d*86400+s - off by omega]
  exact Ok.P (Ok.s ⟨by simp[h],fun _=>rfl⟩)
 .refine Ok.run 1 (fun i=>(([⟨0,8589934593,off⟩],1,(i:Int),()),⟨d,s⟩,())) rfl Oa (fun i hi k hk=>?_) (fun k=>?_)
  .obtain rfl:i=0:=Oa
   refine Ok.PS (Ok.atn Ob (Ok.os ?_))
   dsimp only
   rw[e,show(nth [(⟨0,8589934593,off⟩:D.Piece)] 0)=⟨0,8589934593,off⟩from rfl]
   dsimp only
   rw[Qc (x:=d*86400+s - off) Oa,show max 0 (d*86400+s - off)=d*86400+s - off by omega]
   exact Ok.N hk
  .exact Ok.NS (Ok.s ⟨by simp[h],fun h=>by simp at h⟩)
theorem Qrr(hl:YM l):(l.Unit=0->YV off l k=Yx off l+3600*l.Every*k)/\(l.Unit=1->YV off l k=Yx off l+86400*l.Every*k):=by
 refine⟨fun h=>?_,fun h=>?_⟩
 .unfold YV;rw[Qin h]
 .unfold YV;rw[Qlc h]
theorem Qzg(hl:YM l)(ho:QdT off)(hk:0<=k/\k<=200000)(hu:l.Unit=1\/k=0):
  Ok (Z6 1000 (tabV off) l k) fun r=>r.2=decide (YV off l k<=8589934592)/\(r.2=true->r.1=YV off l k):=by
 have:=ho.le
 have h1:=hl.day;have h2:=hl.second;have h4:=hl.every
 unfold Z6 QcE
 refine Ok.N ?_
 rcases hl.unit with hu0|hu1
 .obtain rfl:k=0:=Oa
  refine Ok.N ?_
  have hf:=Qhc (off:=off) hl ho
  have hh:YV off l 0=l.Start.Day*86400+l.Start.Second - off:=by unfold YV Yx;omega
  refine Ok.opt (Qxn (d:=l.Start.Day) (s:=l.Start.Second) ho Oa Oa) fun⟨v,b⟩ ⟨g1,g2⟩=>?_
  dsimp only at g1 g2 |-
  have hb:b=true:=by rw[g1];unfold Yx at hf;simp;omega
  subst hb
  have hv:=g2 rfl
  have hw:IntKind.wrap .i64 (v+IntKind.wrap .i64 (IntKind.wrap .i64 (3600*l.Every)*0))=YV off l 0:=by
   rw[Int.mul_zero,Qc (x:=0) Oa,Qc (by unfold Yx at hf;omega),hh,hv];omega
  rw[hw]
  have hm:YV off l 0<=8589934592:=by rw[hh];unfold Yx at hf;omega
  exact Ok.t (Ok.p hm (Ok.s ⟨by simp[hm],fun _=>rfl⟩))
 .refine Ok.P ?_
  (try unfold cd);rw[QiY (show ¬l.Unit=2 by omega),ZR]
  have hE:l.Every=1\/l.Every=2\/l.Every=3:=Oa
  have hh:YV off l k=(l.Start.Day+k*l.Every)*86400+l.Start.Second - off:=(Qrq (Qlc hu1)).symm
  have hb:0<=k*l.Every/\k*l.Every<=600000:=by rcases hE with e|e|e<;>rw[e]<;>omega
  rw[Qc (x:=k*l.Every) Oa,Qc (x:=l.Start.Day+k*l.Every) Oa]
  refine Ok.opt (Qxn (d:=l.Start.Day+k*l.Every) (s:=l.Start.Second) ho Oa Oa) fun⟨v,b⟩ ⟨g1,g2⟩=>?_
  rw[<-hh]at g1 g2
  exact Ok.s ⟨g1,g2⟩
theorem Qzh(hl:YM l)(ho:QdT off)(ht:0<=t/\t<=8589934592):V2 1000 (tabV off) l t=some (Z2 off l t):=by
  have hoo:=ho.le
  have h1:=hl.day;have h2:=hl.second;have h4:=hl.every
  have hf:=Qhc (off:=off) hl ho
  have h0:YV off l 0=Yx off l:=by unfold YV;omega
  refine Ok.eq ?_
  unfold V2
  refine Ok.opt (Qzg (k:=0) hl ho Oa (.inr rfl)) fun⟨v,b⟩ ⟨g1,g2⟩=>?_
  dsimp only at g1 g2 |-
  have hb:b=true:=by rw[g1,h0];simp;omega
  subst hb
  have hv:=g2 rfl
  rw[hv,h0]
  refine Ok.j (Ok.t ?_)
  by_cases hlt:t<Yx off l
  . exact Ok.p hlt (Ok.s (by rw[QnM (by rw[h0];exact hlt)]))
  refine Ok.n hlt ?_
  dsimp only
  rcases hl.unit with hu|hu
  . have e1:IntKind.wrap .i64 (3600*l.Every)=3600*l.Every:=Qc Oa
    rw[e1]
    refine Ok.p hu (Ok.Z ?_)
    rw[Qc (x:=t - Yx off l) Oa,Int.tdiv_eq_ediv_of_nonneg Oa]
    have e2:(t - Yx off l) / (3600*l.Every)=Z2 off l t:=by unfold Z2;rw[if_neg hlt,Qin hu]
    have e3:=QpA (t:=t) hl ho Oa
    rw[e2,Qc Oa]
    exact Ok.s rfl
  . refine Ok.N (Ok.oe (Qxo ho ht) ?_)
    unfold QcE
    (try unfold cd);rw[QiY (show ¬l.Unit=2 by omega),ZR]
    refine Ok.Z (Ok.j ?_)
    dsimp only
    obtain⟨dy,hD⟩:∃dy,(t+off) / 86400=dy:=⟨_,rfl⟩
    rw[hD]
    have hDb : -1<=dy/\dy<=99422:=Oa
    rw[Qc (x:=dy - l.Start.Day) Oa]
    obtain⟨k0,hk0⟩:∃k0,max 0 (IntKind.wrap .i64 (Int.tdiv (dy - l.Start.Day) l.Every))=k0:=⟨_,rfl⟩
    rw[hk0]
    have hE:l.Every=1\/l.Every=2\/l.Every=3:=Oa
    have hlin:∀k,YV off l k=Yx off l+86400*l.Every*k:=fun k=>(Qrr hl).2 hu
    have hfd:Yx off l=l.Start.Day*86400+l.Start.Second - off:=rfl
    have hk:0<=k0/\k0<=99422/\(1<=k0->YV off l (k0 - 1)<=t)/\t<YV off l (k0+1):=by
      have hq:Int.tdiv (dy - l.Start.Day) l.Every<=0/\dy - l.Start.Day<l.Every\/Int.tdiv (dy - l.Start.Day) l.Every=(dy - l.Start.Day) / l.Every/\0<=dy - l.Start.Day:=by
        grind
      have hw:IntKind.wrap .i64 (Int.tdiv (dy - l.Start.Day) l.Every)=Int.tdiv (dy - l.Start.Day) l.Every:=by
        refine Qc ?_
        rcases hq with⟨q1,_⟩|⟨q1,q2⟩
        . by_cases hn:0<=dy - l.Start.Day
          . rw[Int.tdiv_eq_ediv_of_nonneg hn];rcases hE with e|e|e<;>rw[e]<;>omega
          . omega
        . rw[q1];rcases hE with e|e|e<;>rw[e]<;>omega
      rw[hw]at hk0
      rw[hlin,hlin,hfd]
      rcases hE with e|e|e<;>rw[e]at hq hk0|-<;>omega
    obtain⟨k1,k2,k3,k4⟩:=hk
    have hhand:∀k,0<=k->k<=k0+1->Ok (Z6 1000 (tabV off) l k) fun r=>r.2=decide (YV off l k<=8589934592)/\(r.2=true->r.1=YV off l k):=fun k a b=>Qzg hl ho Oa (.inl hu)
    have up:∀k,0<=k->k0 - 1<=k->k<=k0->YV off l k<=t->Ok (Qg (X:=((Int×(Int×Unit))×(D.Table×(D.Layer×Unit)))) (fun L12 ((a13,(a14,_)),(a15,(a16,_)))=>
           (join (Y:=((Int×(Int×Unit))×(D.Table×(D.Layer×Unit)))) (fun((a17,(a18,_)),(a19,(a20,_)))=>
             (L12 ((a17,((IntKind.wrap .i64 (a18+1)),())),(a19,(a20,()))))) fun J21=>
            (optc (Z6 1000 a15 a16 (IntKind.wrap .i64 (a14+1))) fun(a22,a23)=>
             (cnd a23
              (cnd (decide (a13<a22))
               (some a14)
               (J21 ((a13,(a14,())),(a15,(a16,())))))
              (some a14))))) 1000 ((t,(k,())),(tabV off,(l,())))) (·=Z2 off l t):=by
      intro k a1 a2 a3 a4
      refine Ok.loop (fun m x=>∃k,x=((t,k,()),tabV off,l,())/\0<=k/\k0 - 1<=k/\k<=k0/\YV off l k<=t/\(k0 - k).toNat=m) (m:=(k0 - k).toNat) Oa ⟨k,rfl,a1,a2,a3,a4,rfl⟩ ?_
      rintro m x ⟨k,rfl,a1,a2,a3,a4,rfl⟩ K hK
      dsimp only
      rw[Qc (x:=k+1) Oa]
      refine Ok.j (Ok.opt (hhand (k+1) Oa Oa) fun⟨v,b⟩ ⟨g1,g2⟩=>?_)
      dsimp only at g1 g2 |-
      by_cases hm:YV off l (k+1)<=8589934592
      . have hb:b=true:=by rw[g1];simp[hm]
        subst hb
        rw[g2 rfl]
        refine Ok.t (Ok.ite (fun hlt=>Ok.s (QnL hl a1 a4 hlt).symm) (fun hge=>?_))
        have:k≠k0:=fun e=>by rw[e]at hge;omega
        rw[Qc (x:=k+1) Oa]
        exact hK _ _ Oa ⟨k+1,rfl,Oa,Oa,Oa,Oa,rfl⟩
      . have hb:b=false:=by rw[g1];simp[hm]
        subst hb
        exact Ok.f (Ok.s (QnL hl a1 a4 Oa).symm)
    have h00:YV off l 0<=t:=by rw[h0];omega
    refine Ok.loop (fun m x=>∃k,x=((t,k,()),tabV off,l,())/\0<=k/\(m=1/\k=k0\/m=0/\k=k0 - 1)) (m:=1) Oa ⟨k0,rfl,k1,.inl ⟨rfl,rfl⟩⟩ ?_
    rintro m x ⟨k,rfl,a1,a2⟩ K hK
    dsimp only
    refine Ok.ite (fun hpos=>?_) (fun hz=>?_)
    . refine Ok.j (Ok.opt (hhand k Oa Oa) fun⟨v,b⟩ ⟨g1,g2⟩=>?_)
      dsimp only at g1 g2 |-
      have down:¬YV off l k<=t->Ok (K ((t,IntKind.wrap .i64 (k - 1),()),tabV off,l,())) (·=Z2 off l t):=fun hgt=>by
        rw[Qc (x:=k - 1) Oa]
        rcases a2 with⟨rfl,rfl⟩|⟨rfl,rfl⟩
        . grind
        . omega
      by_cases hm:YV off l k<=8589934592
      . have hb:b=true:=by rw[g1];simp[hm]
        subst hb
        rw[g2 rfl]
        refine Ok.t (Ok.ite (fun hle=>?_) (fun hgt=>down hgt))
        grind
      . have hb:b=false:=by rw[g1];simp[hm]
        subst hb
        exact Ok.f (down Oa)
    . grind
theorem tOn{v:D.View}(hl:YM l)(ho:QdT off)(hv:v.tables=[tabV off])(ht:0<=t/\t<=8589934592):QbD 1000 v l t=some (if Z2 off l t<0 then(0,false)else(Z2 off l t,true)):=by
 refine Ok.eq ?_
 unfold QbD
 refine Ok.j (Ok.N (Ok.N ?_))
 dsimp only
 rw[hv,hl.zone]
 refine Ok.atn (i:=0) Ob (Ok.oe (Qzh hl ho ht:V2 1000 (nth [tabV off] 0) l t=_) ?_)
 refine Ok.j ?_
 by_cases h:Z2 off l t<0
 .refine Ok.p h (Ok.s ?_)
  rw[if_pos h]
 .refine Ok.n h ?_
  rw[hl.win]
  refine Ok.NS ?_
  dsimp only
  exact Ok.p hl.cal.2 (Ok.s (by rw[if_neg h]))
theorem Qw7(hl:YM l)(h:¬Z2 off l t<0):atc l.Members (Int.tmod (Z2 off l t) (((List.length l.Members):Nat):Int)) (fun a2=>some a2)=some (QcZ off l t):=by
 have hlen:=hl.len
 have e:Int.tmod (Z2 off l t) (((List.length l.Members):Nat):Int)=(((Z2 off l t).toNat % l.Members.length:Nat):Int):=by
  grind
 rw[e,QyL (Nat.mod_lt _ Oa)]
 unfold QcZ
 rw[if_neg h]
theorem QyA{v:D.View}(hl:YM l)(ho:QdT off)(hv:v.tables=[tabV off])(ht:0<=t/\t<=8589934592):X6 1000 v l t=some (QcZ off l t):=by
 have hlen:=hl.len
 refine Ok.eq ?_
 unfold X6
 refine Ok.oe (tOn hl ho hv ht) ?_
 by_cases h:Z2 off l t<0
 .rw[if_pos h]
  refine Ok.nf rfl (Ok.s ?_)
  unfold QcZ
  rw[if_pos h]
 .rw[if_neg h]
  refine Ok.nt rfl (Ok.Z ?_)
  rw[Qw7 hl h]
  exact Ok.s rfl
theorem away1{x:D.Edit}{p:Int}:QbY 1000 x p t=some (QpZ p t x):=by
 unfold QbY QpZ
 simp only[WG,Qw4]
 grind
theorem QzJ{s:D.Schedule}{p:Int}(hs:s.Edits.length<900):UD 1000 s p t=some (QjL s.Edits p t):=by
 have key:Ok (Q7 1000 s.Edits p t) fun r=>decide (0<=r)=QjL s.Edits p t:=by
  unfold Q7
  refine Ok.scan s.Edits.length (fun i=>((s.Edits,((s.Edits.length:Nat):Int),(i:Int),()),(p,()),(t,()),())) (fun i=>QpZ p t (nth s.Edits i)) rfl Oa (fun i hi hq _ k=>?_) (fun i hi hq k hk=>?_) (fun hq k=>?_)
  .refine Ok.P (Ok.atn hi (Ok.oe away1 (Ok.bt hq (Ok.sameC (Ok.sameC (Ok.s ?_))))))
   unfold QjL
   rw[QjH hi hq];simp
  .refine Ok.P (Ok.atn hi (Ok.oe away1 (Ok.bf hq ?_)))
   rw[Qb Oa];exact hk
  .refine Ok.N (Ok.sameC (Ok.sameC (Ok.s ?_)))
   unfold QjL
   rw[Qn3 hq];simp
 obtain⟨r,h1,h2⟩:=key
 unfold UD Zm
 rw[h1,ZR,WG,WG,ZR,h2]
theorem QzK{es:List D.Edit}{p:Int}(hs:es.length<900):Qg6 1000 es p t=some (Qhe es p t):=by
 refine Ok.eq ?_
 unfold Qg6
 refine Ok.run es.length (fun i=>((Qhe (es.take i) p t,t,es,((es.length:Nat):Int),(i:Int),()),())) (by simp[Qhe]) Oa (fun i hi k hk=>?_) (fun k=>?_)
 .refine Ok.P (Ok.j (Ok.atn hi ?_))
  dsimp only
  have ha:Qgn 1000 (nth es i) t=some (decide ((nth es i).From<=t/\t<(nth es i).To)):=cnd2
  refine Ok.oe ha ?_
  rw[Qb Oa]
  rw[Qmb hi]at hk
  unfold QoA at hk
  refine Ok.ite (fun h1=>?_) (fun h1=>?_)
  .refine Ok.ite (fun h2=>?_) (fun h2=>?_)
   .simp_all
   .rw[if_neg (by simp[h1,h2])]at hk
    refine Ok.ite (fun h3=>?_) (fun h3=>?_)
    .simp_all
    .rw[if_neg h3]at hk
     refine Ok.ite (fun h4=>?_) (fun h4=>?_)
     .simp_all
     .rw[if_neg h4]at hk
      refine Ok.ite (fun h5=>?_) (fun h5=>?_)
      .simp_all
      .rw[if_neg h5]at hk
       refine Ok.ite (fun h6=>?_) (fun h6=>?_)
       .simp_all
       .simp_all
  .simp_all
 .refine Ok.N (Ok.s ?_)
  rw[List.take_length]
variable {n:Nat} {c:D.Config}
theorem Q0.offs(h:Q0 n c):QdT (YW c):=h.zones.2
theorem tOf(h:Q0 n c)(hn:n<=48):Qj6 1000 c=some (⟨c,[tabV (YW c)]⟩,true):=by
 have hz:QgW 1000 c.Zones=some [tabV (YW c)]:=by
  obtain⟨h1,h2⟩:=h.zones
  rw[h1]
  rcases h2 with h2|h2|h2<;>rw[h2]<;>kernel_rfl
 unfold Qj6 Qj8
 (try unfold cd);rw[Qrb h hn,ZR,QiY (by decide),hz,ZR,ZR]
theorem Qzi{s:D.Schedule}(h:Q0 n c)(hn:n<=48)(hs:Qd7 n s):Qfj 1000 ⟨c,[tabV (YW c)]⟩ s t=some (if 0<=t/\t<=8589934592 then whoS (YW c) s t else -1):=by
 obtain⟨l,hl1,hl2⟩:=hs.layers
 have hlen:=hs.len
 refine Ok.eq ?_
 unfold Qfj
 refine Ok.j (Ok.ite (fun h1=>Ok.s (by rw[if_neg Oa])) fun h1=>Ok.ite (fun h2=>Ok.s (by rw[if_neg Oa])) fun h2=>?_)
 dsimp only
 rw[if_pos Oa]
 have hlay:Ok (Xi 1000 ⟨c,[tabV (YW c)]⟩ s t) fun r=>r.2=layP (YW c) s t:=by
  unfold Xi layP
  rw[hl1,show nth [l] 0=l from rfl]
  refine Ok.oe (QyA hl2 h.offs rfl Oa) (Ok.ite (fun h3=>Ok.s (by rw[if_neg Oa])) fun h3=>?_)
  refine Ok.oe (QzJ Oa) (Ok.cnd (fun h4=>Ok.s (by rw[if_neg (by rw[h4];simp)])) fun h4=>Ok.s (by rw[if_pos ⟨Oa,h4⟩]))
 refine Ok.opt hlay fun⟨i,p⟩ hp=>?_
 dsimp only at hp |-
 refine Ok.oe (QzK Oa) (Ok.s ?_)
 unfold whoS
 rw[hp]
theorem Qzm{i:Int}(h:Q0 n c)(hn:n<=48):QfL 1000 c i t=some (whoV c i t):=by
 have hsl:=h.slen
 have key:Ok (Qjh 1000 c i t) (·=whoV c i t):=by
  unfold Qjh whoV
  refine Ok.oe (tOf h hn) (Ok.j (Ok.t ?_))
  have hi:QdC 1000 c i=some (decide (0<=i/\i<(c.Schedules.length:Int))):=cnd2
  refine Ok.oe hi (Ok.ite (fun h1=>?_) (fun h1=>Ok.s (by rw[if_neg Oa])))
  dsimp only
  refine Ok.at h1.1 h1.2 (Ok.oe (Qzi h hn (h.sch Oa)) (Ok.s ?_))
  omega
 unfold QfL
 rw[Ok.eq key,ZR]
end
/-
  Who is on call in a crew: what the reference computes.
-/
section
variable {off t k:Int} {l:D.Layer}
def QgU(off:Int):D.Zone:=⟨bZ,off,[]⟩
theorem r4In{fu:Nat}{n lo hi:Int}:Qbi fu n lo hi=some (decide (lo<=n/\n<=hi)):=cnd2
theorem QuS(ho:QdT off):WD 1000 (QgU off)=some ([],0):=by
 rcases ho with rfl|rfl|rfl<;>kernel_rfl
theorem Qyn:Qfw 1000 (QgU off) [] t=some off:=by
 refine Ok.eq ?_
 unfold Qfw
 refine Ok.j (Ok.run 0 (fun _=>(([],(t,(off,(0,())))),())) rfl Oa (fun i hi=>absurd hi Oa) (fun k=>?_))
 exact Ok.j (Ok.NS (Ok.s rfl))
theorem Qxi(ho:QdT off)(ht:0<=t/\t<=8589934592):Ux 1000 (QgU off) t=some (⟨(t+off) / 86400,(t+off) % 86400⟩,0):=by
 have:=ho.le
 have h1:QbN 1000 (QgU off) t=some (off,0):=by
  refine Ok.eq ?_
  unfold QbN
  exact Ok.oe (QuS ho) (Ok.n (by decide) (Ok.oe r4In (Ok.np Oa (Ok.oe Qyn (Ok.s rfl)))))
 refine Ok.eq ?_
 unfold Ux
 refine Ok.oe h1 (Ok.n (by decide) ?_)
 unfold QkN
 rw[Qc (x:=t+off) Oa,Qc (x:=t+off+864000) Oa,Int.tdiv_eq_ediv_of_nonneg Oa,Int.tmod_eq_emod_of_nonneg Oa,Qc (x:=(t+off+864000) / 86400) Oa,Qc Oa,QuA Oa,QuA Oa,ZR]
 exact Ok.s (by rw[Prod.mk.injEq,D.Local.mk.injEq];omega)
theorem Qxh{d s:Int}(ho:QdT off)(hd:1<=d/\d<=1000000)(hs:0<=s/\s<=86399):
  Ok (Qcx 1000 (QgU off) ⟨d,s⟩) fun r=>decide (r.2=0)=decide (d*86400+s - off<=8589934592)/\(r.2=0->r.1=d*86400+s - off):=by
 have:=ho.le
 unfold Qcx
 refine Ok.oe (QuS ho) (Ok.n (by decide) (Ok.oe r4In (Ok.np (by dsimp only;omega) (Ok.n (by dsimp only;omega) ?_))))
 have hsm:Qhu 1000 d=some (decide (-2<=d/\d<=99422)):=by unfold Qhu;rw[r4In,ZR]
 refine Ok.oe hsm ?_
 by_cases hd2:d<=99422
 .refine Ok.np Oa ?_
  refine Ok.loop (fun m x=>x=(([],(-1,())),(QgU off,(⟨d,s⟩,())))/\m=1\/x=(([],(0,())),(QgU off,(⟨d,s⟩,())))/\m=0/\¬d*86400+s - off<=8589934592) (m:=1) Oa (.inl ⟨rfl,rfl⟩) ?_
  rintro m x (⟨rfl,rfl⟩|⟨rfl,rfl,hno⟩) K hK
  .dsimp only
   refine Ok.PS (Ok.j (Ok.n (by decide) ?_))
   dsimp only
   refine Ok.j (Ok.n (by rw[Qc Oa];simp) ?_)
   have ew:max 0 (IntKind.wrap .i64 (IntKind.wrap .i64 (IntKind.wrap .i64 (d*86400)+s) - off))=d*86400+s - off:=by
    rw[Qc (x:=d*86400) Oa,Qc (x:=d*86400+s) Oa,Qc (x:=d*86400+s - off) Oa];omega
   by_cases h:d*86400+s - off<=8589934592
   .exact Ok.p (show max 0 (IntKind.wrap .i64 (IntKind.wrap .i64 (IntKind.wrap .i64 (d*86400)+s) - off))<8589934593 by rw[ew];omega) (Ok.s ⟨by simp[h],fun _=>ew⟩)
   .exact Ok.n (show ¬max 0 (IntKind.wrap .i64 (IntKind.wrap .i64 (IntKind.wrap .i64 (d*86400)+s) - off))<8589934593 by rw[ew];omega) (hK 0 _ Oa (.inr ⟨rfl,rfl,h⟩))
  .dsimp only
   exact Ok.NS (Ok.s ⟨by simp;omega,fun h=>by simp at h⟩)
 .refine Ok.nn Oa (Ok.s ⟨by simp;omega,fun h=>by simp at h⟩)
theorem QzH(hl:YM l)(ho:QdT off)(hk:0<=k/\k<=200000)(hu:l.Unit=1):
  Ok (QbP 1000 (QgU off) l k) fun r=>r.2=decide (YV off l k<=8589934592)/\(r.2=true->r.1=YV off l k):=by
 have:=ho.le
 have h1:=hl.day;have h2:=hl.second;have h4:=hl.every
 unfold QbP
 refine Ok.N (Ok.j (Ok.N ?_))
 dsimp only
 have hE:l.Every=1\/l.Every=2\/l.Every=3:=Oa
 have hh:YV off l k=(l.Start.Day+k*l.Every)*86400+l.Start.Second - off:=(Qrq (Qlc hu)).symm
 have hb:0<=k*l.Every/\k*l.Every<=600000:=by rcases hE with e|e|e<;>rw[e]<;>omega
 rw[Qc (x:=k*l.Every) Oa,Qc (x:=l.Start.Day+k*l.Every) Oa]
 refine Ok.opt (Qxh (d:=l.Start.Day+k*l.Every) (s:=l.Start.Second) ho Oa Oa) fun⟨v,b⟩ ⟨g1,g2⟩=>?_
 rw[<-hh]at g1 g2
 refine Ok.s ⟨g1,fun h=>g2 (of_decide_eq_true h)⟩
theorem Qza(hl:YM l)(ho:QdT off)(ht:0<=t/\t<=8589934592):Qhx 1000 (QgU off) l t=some (Z2 off l t):=by
 have hoo:=ho.le
 have h1:=hl.day;have h2:=hl.second;have h4:=hl.every
 have hf:=Qhc (off:=off) hl ho
 have h0:YV off l 0=Yx off l:=by unfold YV;omega
 have hfd:Yx off l=l.Start.Day*86400+l.Start.Second - off:=rfl
 have e3:=QpA (t:=t) hl ho Oa
 refine Ok.eq ?_
 unfold Qhx
 rcases hl.unit with hu|hu
 .refine Ok.p hu (Ok.j ?_)
  refine Ok.opt (Qxh (d:=l.Start.Day) (s:=l.Start.Second) ho Oa Oa) fun⟨v,b⟩ ⟨g1,g2⟩=>?_
  dsimp only at g1 g2 |-
  have hb:b=0:=by
   have:decide (b=0)=true:=by rw[g1];simp;omega
   exact of_decide_eq_true this
  rw[g2 hb,<-hfd]
  refine Ok.p hb (Ok.ite (fun hle=>?_) (fun hgt=>Ok.s ?_))
  .have e1:IntKind.wrap .i64 (3600*l.Every)=3600*l.Every:=Qc Oa
   rw[e1]
   refine Ok.Z ?_
   rw[Qc (x:=t - Yx off l) Oa,Int.tdiv_eq_ediv_of_nonneg Oa]
   have e2:(t - Yx off l) / (3600*l.Every)=Z2 off l t:=by unfold Z2;rw[if_neg Oa,Qin hu]
   rw[e2,Qc Oa]
   exact Ok.s rfl
  .exact(QnM (by rw[h0];omega)).symm
 .refine Ok.N (Ok.oe (Qxi ho ht) (Ok.j (Ok.N ?_)))
  dsimp only
  obtain⟨dy,hD⟩:∃dy,(t+off) / 86400=dy:=⟨_,rfl⟩
  rw[hD]
  have hDb : -1<=dy/\dy<=99422:=Oa
  refine Ok.j (Ok.Z ?_)
  rw[Qc (x:=dy+2) Oa,Qc (x:=dy+2 - l.Start.Day) Oa,Int.tdiv_eq_ediv_of_nonneg Oa]
  obtain⟨k0,hk0⟩:∃k0,max (dy+2 - l.Start.Day) 0 / l.Every=k0:=⟨_,rfl⟩
  rw[hk0]
  have hE:l.Every=1\/l.Every=2\/l.Every=3:=Oa
  have hlin:∀k,YV off l k=Yx off l+86400*l.Every*k:=fun k=>(Qrr hl).2 hu
  have hk:0<=k0/\k0<=99424/\(∀k,0<=k->k<=k0 - 3->YV off l k<=t)/\t<YV off l (k0+1):=by
   refine⟨?_,?_,fun k a b=>?_,?_⟩
   .rcases hE with e|e|e<;>rw[e]at hk0<;>omega
   .rcases hE with e|e|e<;>rw[e]at hk0<;>omega
   .rw[hlin,hfd];rcases hE with e|e|e<;>rw[e]at hk0|-<;>omega
   .rw[hlin,hfd];rcases hE with e|e|e<;>rw[e]at hk0|-<;>omega
  obtain⟨k1,k2,k3,k4⟩:=hk
  rw[Qc (x:=k0) Oa]
  refine Ok.loop (fun m x=>∃k,x=((t,k,()),QgU off,l,())/\-1<=k/\k<=k0/\(k = -1\/k0 - 3<=k)/\t<YV off l (k+1)/\m=(k - (k0 - 4)).toNat) (m:=4) Oa ⟨k0,rfl,Oa,Oa,Oa,k4,Oa⟩ ?_
  rintro m x ⟨k,rfl,a1,a2,a3,a4,rfl⟩ K hK
  dsimp only
  refine Ok.ite (fun hpos=>?_) (fun hz=>?_)
  .refine Ok.j (Ok.opt (QzH (k:=k) hl ho Oa hu) fun⟨v,b⟩ ⟨g1,g2⟩=>?_)
   dsimp only at g1 g2 |-
   have down:¬YV off l k<=t->Ok (K ((t,IntKind.wrap .i64 (k - 1),()),QgU off,l,())) (·=Z2 off l t):=fun hgt=>by
    rw[Qc (x:=k - 1) Oa]
    have hne:¬k<=k0 - 3:=fun h=>hgt (k3 k hpos h)
    exact hK _ _ Oa ⟨k - 1,rfl,Oa,Oa,Oa,by rw[show k - 1+1=k by omega];omega,rfl⟩
   by_cases hm:YV off l k<=8589934592
   .have hb:b=true:=by rw[g1];simp[hm]
    subst hb
    rw[g2 rfl]
    refine Ok.t (Ok.ite (fun hle=>?_) (fun hgt=>down hgt))
    exact Ok.s (QnL hl hpos hle a4).symm
   .have hb:b=false:=by rw[g1];simp[hm]
    subst hb
    exact Ok.f (down Oa)
  .obtain rfl:k = -1:=Oa
   exact Ok.s (QnM (by simpa using a4)).symm
variable {n:Nat} {c:D.Config}
theorem QwB(hl:YM l)(ho:QdT off):Qhw 1000 (QgU off) l=some 0:=by
 have h1:=hl.day;have h2:=hl.second;have h3:=hl.unit;have h4:=hl.every;have h5:=hl.len
 have hz:Qcw 1000 (QgU off)=some 0:=by unfold Qcw;rw[QuS ho,ZR]
 refine Ok.eq ?_
 unfold Qhw
 (repeat(first|with_reducible refine Ok.j ?_|with_reducible refine Ok.oe (hz) ?_|(with_reducible refine Ok.n ?hh ?_;case hh=>(first|omega|decide|assumption|(dsimp only;omega)|(simp;done)))))
 exact Ok.s rfl
theorem QzI(h:Q0 n c)(hl:YM l)(ht:0<=t/\t<=8589934592):Qjr 1000 c l t=some (if Z2 (YW c) l t<0 then(0,false)else(Z2 (YW c) l t,true)):=by
 have hS:QeM 1000 (QgU (YW c)) l t=some (Z2 (YW c) l t,0):=by
  refine Ok.eq ?_
  unfold QeM
  refine Ok.oe (QwB hl h.offs) (Ok.n (by decide) (Ok.j (Ok.N (Ok.N ?_))))
  exact Ok.oe (Qza hl h.offs ht) (Ok.s rfl)
 refine Ok.eq ?_
 unfold Qjr
 rw[h.zones.1,hl.zone]
 refine Ok.atn (i:=0) Ob (Ok.oe (hS:QeM 1000 (nth [(⟨bZ,YW c,[]⟩:D.Zone)] 0) l t=_) ?_)
 refine Ok.j (Ok.n (by decide) ?_)
 by_cases hs:Z2 (YW c) l t<0
 .exact Ok.p hs (Ok.s (by rw[if_pos hs]))
 .refine Ok.n hs ?_
  rw[hl.win]
  refine Ok.NS ?_
  dsimp only
  exact Ok.p hl.cal.2 (Ok.s (by rw[if_neg hs]))
theorem qRaw(h:Q0 n c)(hl:YM l)(ht:0<=t/\t<=8589934592):QkR 1000 c l t=some (QcZ (YW c) l t):=by
 have hlen:=hl.len
 refine Ok.eq ?_
 unfold QkR
 refine Ok.oe (QzI h hl ht) ?_
 by_cases hs:Z2 (YW c) l t<0
 .rw[if_pos hs]
  refine Ok.nf rfl (Ok.s ?_)
  unfold QcZ
  rw[if_pos hs]
 .rw[if_neg hs]
  refine Ok.nt rfl (Ok.Z ?_)
  rw[Qw7 hl hs]
  exact Ok.s rfl
theorem QzF{s:D.Schedule}{p:Int}(hs:s.Edits.length<900):Qjs 1000 s p t=some (QjL s.Edits p t):=by
 refine Ok.eq ?_
 unfold Qjs
 refine Ok.scan s.Edits.length (fun i=>((p,t,(i:Int),()),s,())) (fun i=>QpZ p t (nth s.Edits i)) rfl Oa (fun i hi hq _ k=>?_) (fun i hi hq k hk=>?_) (fun hq k=>?_)
 .refine Ok.P (Ok.j (Ok.atn hi ?_))
  have hq':=hq
  simp only[QpZ,bae,decide_eq_true_eq]at hq'
  exact Ok.p hq'.1.1.1 (Ok.p hq'.1.1.2 (Ok.p hq'.1.2 (Ok.p hq'.2 (Ok.s (by unfold QjL;rw[QjH hi hq])))))
 .refine Ok.P (Ok.j (Ok.atn hi ?_))
  dsimp only
  rw[Qb Oa]
  have hq':¬((nth s.Edits i).Kind=0/\(nth s.Edits i).A=p/\(nth s.Edits i).From<=t/\t<(nth s.Edits i).To):=fun⟨a,b,c,d⟩=>by
   simp[QpZ,a,b,c,d]at hq
  refine Ok.ite (fun g1=>Ok.ite (fun g2=>Ok.ite (fun g3=>Ok.ite (fun g4=>absurd ⟨g1,g2,g3,g4⟩ hq') (fun _=>hk)) (fun _=>hk)) (fun _=>hk)) (fun _=>hk)
 .refine Ok.N (Ok.s ?_)
  unfold QjL
  rw[Qn3 hq]
theorem QzG{es:List D.Edit}{p:Int}(hs:es.length<900):Qjt 1000 es p t=some (Qhe es p t):=by
 refine Ok.eq ?_
 unfold Qjt
 refine Ok.run es.length (fun i=>((es,Qhe (es.take i) p t,t,(i:Int),()),())) (by simp[Qhe]) Oa (fun i hi k hk=>?_) (fun k=>?_)
 .refine Ok.P (Ok.j (Ok.atn hi ?_))
  dsimp only
  rw[Qb Oa]
  rw[Qmb hi]at hk
  have hfold:∀v,v=QoA t (Qhe (es.take i) p t) (nth es i)->Ok (k ((es,v,t,((i+1:Nat):Int),()),())) (·=Qhe es p t):=fun v e=>by rw[e];exact hk
  refine Ok.ite (fun h1=>hfold _ ?_) fun h1=>Ok.ite (fun h2=>hfold _ ?_) fun h2=>Ok.ite (fun h3=>hfold _ ?_) fun h3=>Ok.ite (fun h4=>Ok.ite (fun h5=>hfold _ ?_) fun h5=>Ok.p h4 (Ok.ite (fun h6=>hfold _ ?_) fun h6=>hfold _ ?_)) fun h4=>Ok.n h4 (hfold _ ?_)
  all_goals unfold QoA
  .rw[if_pos Oa]
  .rw[if_pos Oa]
  .rw[if_neg Oa,if_pos h3]
  .rw[if_neg Oa,if_neg h3,if_neg Oa,if_pos h5]
  .rw[if_neg Oa,if_neg h3,if_neg Oa,if_neg h5,if_pos h6]
  .rw[if_neg Oa,if_neg h3,if_neg Oa,if_neg h5,if_neg h6]
  .by_cases h7:(nth es i).Kind=0
   .rw[if_pos (.inr h7)]
   .rw[if_neg Oa,if_neg h3,if_pos h4]
 .refine Ok.N (Ok.s ?_)
  rw[List.take_length]
theorem qTop{i:Int}(h:Q0 n c)(hn:n<=48)(hi:0<=i/\i<2)(ht:0<=t/\t<=8589934592):Ok (Qnq 1000 c i t) fun r=>r.2=layP (YW c) (nth c.Schedules i.toNat) t:=by
 have hsl:=h.slen
 have hs:=h.sch (i:=i.toNat) Oa
 obtain⟨l,hl1,hl2⟩:=hs.layers
 have hlen:=hs.len
 unfold Qnq layP
 refine Ok.at Oa Oa ?_
 rw[hl1,show nth [l] 0=l from rfl,show IntKind.wrap .i64 (((List.length [l]:Nat):Int) - 1)=0 from by rw[Qc Ob];simp]
 obtain⟨s,hsd⟩:∃s,nth c.Schedules i.toNat=s:=⟨_,rfl⟩
 rw[hsd]at hl1 hlen |-
 refine Ok.loop (fun m x=>x=((t,0,()),c,s,())/\m=1\/x=((t,-1,()),c,s,())/\m=0/\¬(0<=QcZ (YW c) l t/\QjL s.Edits (QcZ (YW c) l t) t=false)) (m:=1) Oa (.inl ⟨rfl,rfl⟩) ?_
 rintro m x (⟨rfl,rfl⟩|⟨rfl,rfl,hno⟩) K hK
 .dsimp only
  rw[hl1]
  refine Ok.P (Ok.j (Ok.atn (i:=0) Ob (Ok.oe (qRaw h hl2 ht:QkR 1000 c (nth [l] 0) t=_) ?_)))
  have hnx:¬(0<=QcZ (YW c) l t/\QjL s.Edits (QcZ (YW c) l t) t=false)->Ok (K ((t,IntKind.wrap .i64 (0 - 1),()),c,s,())) fun r=>r.2=if 0<=QcZ (YW c) l t/\QjL s.Edits (QcZ (YW c) l t) t=false then QcZ (YW c) l t else -1:=fun hno=>hK 0 _ Oa (.inr ⟨rfl,rfl,hno⟩)
  refine Ok.ite (fun h1=>Ok.oe (QzF Oa) (Ok.cnd (fun h2=>hnx (fun h=>by have:=h.2.symm.trans h2;simp at this)) (fun h2=>Ok.s (by rw[if_pos ⟨h1,h2⟩];rfl)))) (fun h1=>hnx (fun h=>h1 h.1))
 .dsimp only
  exact Ok.N (Ok.s (by rw[if_neg hno]))
theorem QyF{i:Int}(h:Q0 n c)(hn:n<=48):QkS 1000 c i t=some (whoV c i t):=by
 have hsl:=h.slen
 have key:Ok (Qnr 1000 c i t) (·=whoV c i t):=by
  unfold Qnr QuV whoV
  by_cases hc:0<=i/\i<2/\0<=t/\t<=8589934592
  ·(try unfold cd);rw[if_pos hc,Qeg hc.1,Qeg Oa,Qeg hc.2.2.1,Qeg hc.2.2.2,Qef h hn,ZR,Qeg rfl,ZR]
   refine Ok.nt rfl ?_
   unfold Qqx
   have hs:=h.sch (i:=i.toNat) Oa
   have hlen:=hs.len
   refine Ok.opt (P:=(·=whoS (YW c) (nth c.Schedules i.toNat) t)) ?_ fun r hr=>Ok.s hr
   refine Ok.opt (qTop h hn ⟨hc.1,hc.2.1⟩ hc.2.2) fun⟨a,p⟩ hp=>?_
   dsimp only at hp |-
   refine Ok.at Oa Oa (Ok.oe (QzG Oa) (Ok.s ?_))
   unfold whoS
   rw[hp]
  .rw[if_neg hc]
   have hf:AM.cnd (decide (0<=i)) (AM.cnd (decide (i<((c.Schedules.length:Nat):Int))) (AM.cnd (decide (0<=t)) (AM.cnd (decide (t<=8589934592)) (optc (VW 1000 c) fun a0=>AM.cnd (decide (a0=0)) (some true) (some false)) (some false)) (some false)) (some false)) (some false)=some false:=by
    rw[hsl]
    by_cases h1:0<=i
    ·(try unfold cd);rw[Qeg h1]
     by_cases h2:i<((2:Nat):Int)
     ·(try unfold cd);rw[Qeg h2]
      by_cases h3:0<=t
      ·(try unfold cd);rw[Qeg h3,QiY Oa]
      ·(try unfold cd);rw[QiY h3]
     ·(try unfold cd);rw[QiY h2]
    ·(try unfold cd);rw[QiY h1]
   (try unfold cd);rw[hf,ZR]
   exact Ok.nf rfl (Ok.s rfl)
 unfold QkS
 rw[Ok.eq key,ZR]
end
/-
  Whether a person of a crew may be called: what the program and the reference compute.
-/
section
open Go AM
variable {off t p:Int} {n:Nat} {c:D.Config} {ur:Bool}
theorem QzL{d:Int}(hd : -10<=d/\d<=100000):Qaz 1000 d=some ((d+3) % 7)/\Qdk 1000 d=some ((d+3) % 7):=by
 have key:AM.nzc 7 (AM.nzc 7 (some (Int.tmod (IntKind.wrap .i64 ((Int.tmod d 7)+10)) 7)))=some ((d+3) % 7):=by
  have h1:=Qlg (a:=d) (n:=7) Oa
  rw[Qc Oa,QuA Oa,QuA Oa,Int.tmod_eq_emod_of_nonneg Oa]
  by_cases h0:0<=d
  .rw[Int.tmod_eq_emod_of_nonneg h0];congr 1;omega
  .have e1:Int.tmod d 7 = -((-d) % 7):=by
    rw[show d = -(-d)by omega,Int.neg_tmod,Int.tmod_eq_emod_of_nonneg Oa,Int.neg_neg]
   rw[e1];congr 1;omega
 exact⟨key,key⟩
theorem Qpx(ho:QdT off)(ht:0<=t/\t<=8589934592):X5 1000 ⟨(t+off) / 86400,(t+off) % 86400⟩=some (QaS off t)/\Qfy 1000 ⟨(t+off) / 86400,(t+off) % 86400⟩=some (QaS off t):=by
 have:=ho.le
 have hw:=QzL (d:=(t+off) / 86400) Oa
 unfold X5 Qfy QaS
 dsimp only
 rw[hw.1,hw.2,ZR,Qc (x:=((t+off) / 86400+3) % 7*86400) Oa,Qc Oa]
 exact⟨rfl,rfl⟩
theorem QyS{ws:List D.Window}{s:Int}(hw:ws.length<900):QdI 1000 ws s=some (QeG ws s):=by
 refine Ok.eq ?_
 unfold QdI
 refine Ok.scan ws.length (fun i=>((s,ws,((ws.length:Nat):Int),(i:Int),()),())) (fun i=>decide ((nth ws i).From<=s) && decide (s<(nth ws i).To)) rfl Oa (fun i hi hq _ k=>?_) (fun i hi hq k hk=>?_) (fun hq k=>?_)
 .have hq':=hq
  simp only[bae,decide_eq_true_eq]at hq'
  exact Ok.P (Ok.j (Ok.atn hi (Ok.p hq'.1 (Ok.p hq'.2 (Ok.s (by unfold QeG;rw[QjH hi hq]))))))
 .refine Ok.P (Ok.j (Ok.atn hi ?_))
  dsimp only
  rw[Qb Oa]
  refine Ok.ite (fun h1=>Ok.ite (fun h2=>by simp[h1,h2]at hq) (fun _=>hk)) (fun _=>hk)
 .exact Ok.N (Ok.s (by unfold QeG;rw[Qn3 hq]))
theorem Qvw{ws:List D.Window}{s:Int}(hw:ws.length<900):Qfx 1000 ws s=some (QeG ws s):=by
 refine Ok.eq ?_
 unfold Qfx
 refine Ok.scan ws.length (fun i=>((ws,s,(i:Int),()),())) (fun i=>decide ((nth ws i).From<=s) && decide (s<(nth ws i).To)) rfl Oa (fun i hi hq _ k=>?_) (fun i hi hq k hk=>?_) (fun hq k=>?_)
 .have hq':=hq
  simp only[bae,decide_eq_true_eq]at hq'
  exact Ok.P (Ok.j (Ok.atn hi (Ok.p hq'.1 (Ok.atn hi (Ok.p hq'.2 (Ok.s (by unfold QeG;rw[QjH hi hq])))))))
 .refine Ok.P (Ok.j (Ok.atn hi ?_))
  dsimp only
  rw[Qb Oa]
  refine Ok.ite (fun h1=>Ok.atn hi (Ok.ite (fun h2=>by simp[h1,h2]at hq) (fun _=>hk))) (fun _=>hk)
 .exact Ok.N (Ok.s (by unfold QeG;rw[Qn3 hq]))
theorem QrT:QhW 1000 t t=some (decide (0<=t/\t<=8589934592))/\QkO 1000 t t=some (decide (0<=t/\t<=8589934592)):=by
 have key:AM.cnd (decide (0<=t)) (AM.cnd (decide (t<=8589934592)) (AM.cnd (decide (t<=t)) (AM.cnd (decide (t<=8589934592)) (AM.cnd (decide ((IntKind.wrap .i64 (t - t))<=34560000)) (some true) (some false)) (some false)) (some false)) (some false)) (some false)=some (decide (0<=t/\t<=8589934592)):=by
  rw[Qc (x:=t - t) Oa]
  by_cases h1:0<=t
  .by_cases h2:t<=8589934592
   ·(try unfold cd);rw[Qeg h1,Qeg h2,Qeg Oa,Qeg h2,Qeg Oa];simp[h1,h2]
   ·(try unfold cd);rw[Qeg h1,QiY h2];simp[h2]
  ·(try unfold cd);rw[QiY h1];simp[h1]
 exact⟨key,key⟩
theorem UK.qlen{x:D.Person}(h:UK x):x.Quiet.length<=1:=by
 rcases h.quiet with h|⟨a,b,h,_⟩<;>rw[h]<;>simp
theorem QwC(h:Q0 n c)(hn:n<=48):Vk 1000 c p t ur=some (WW c p t ur):=by
 have hpl:=h.plen
 refine Ok.eq ?_
 unfold Vk
 have hopen:Ok (Qc9 1000 c p t t) fun r=>(r.2=0↔0<=p/\p<4/\0<=t/\t<=8589934592)/\(r.2=0->r.1=⟨c,[tabV (YW c)]⟩):=by
  unfold Qc9
  refine Ok.oe (tOf h hn) (Ok.j (Ok.nt rfl ?_))
  refine Ok.ite (fun h1=>Ok.s ⟨by simp;omega,fun h=>by simp at h⟩) fun h1=>Ok.ite (fun h2=>Ok.s ⟨by simp;omega,fun h=>by simp at h⟩) fun h2=>?_
  refine Ok.oe QrT.1 (Ok.ncnd (fun h3=>Ok.s ⟨?_,fun h=>by simp at h⟩) fun h3=>Ok.s ⟨?_,fun _=>rfl⟩)
  .have h3:=of_decide_eq_false h3
   simp;omega
  .have h3:=of_decide_eq_true h3
   simp;omega
 refine Ok.opt hopen fun⟨v,e⟩ ⟨g1,g2⟩=>?_
 dsimp only at g1 g2 |-
 by_cases he:e=0
 .have hr:=g1.1 he
  rw[g2 he]
  refine Ok.n (by simp[he]) (Ok.at hr.1 Oa ?_)
  obtain⟨x,hx⟩:∃x,nth c.People p.toNat=x:=⟨_,rfl⟩
  have hper:=h.per (i:=p.toNat) Oa
  rw[hx]at hper |-
  have hq:=hper.qlen
  have htab:Ok (Xx 1000 ⟨c,[tabV (YW c)]⟩ x.Zone) (·=tabV (YW c)):=by
   unfold Xx
   rw[hper.zone]
   exact Ok.atn (i:=0) Ob (Ok.s rfl)
  have hlast:Ok (optc (Xx 1000 ⟨c,[tabV (YW c)]⟩ x.Zone) fun a3=>optc (ZL 1000 a3 t) fun a4=>optc (X5 1000 a4) fun a5=>optc (QdI 1000 x.Quiet a5) fun a6=>AM.cnd a6 (some false) (some true)) (·=!QeG x.Quiet (QaS (YW c) t)):=by
   refine Ok.opt htab fun tb htb=>?_
   subst htb
   refine Ok.oe (Qxo h.offs hr.2.2) (Ok.oe (Qpx h.offs hr.2.2).1 (Ok.oe (QyS Oa) (Ok.cnd (fun h1=>Ok.s (by rw[h1];rfl)) (fun h1=>Ok.s (by rw[h1];rfl)))))
  have hv:WW c p t ur=(ur && x.Consent || !QeG x.Quiet (QaS (YW c) t)):=by unfold WW;rw[hx];simp[hr.1,hr.2.1,hr.2.2.1,hr.2.2.2]
  rw[hv]
  refine Ok.cnd (fun h1=>Ok.cnd (fun h2=>Ok.s (by simp[h1,h2])) (fun h2=>hlast.mono fun r hr=>by rw[hr,h1,h2];simp)) (fun h1=>hlast.mono fun r hr=>by rw[hr,h1];simp)
 .refine Ok.p he (Ok.s ?_)
  have hr:¬(0<=p/\p<4/\0<=t/\t<=8589934592):=fun h=>he (g1.2 h)
  unfold WW
  rw[decide_eq_false hr];rfl
theorem QuX(h:Q0 n c)(hn:n<=48):QaM 1000 c p t ur=some (WW c p t ur):=by
 have hpl:=h.plen
 refine Ok.eq ?_
 unfold QaM
 have hopen:Ok (Qhy 1000 c p t t) fun r=>r=0↔0<=p/\p<4/\0<=t/\t<=8589934592:=by
  unfold Qhy
  refine Ok.j (Ok.oe (Qef h hn) (Ok.n (by decide) ?_))
  refine Ok.ite (fun h1=>Ok.s Oa) fun h1=>Ok.ite (fun h2=>Ok.s Oa) fun h2=>?_
  refine Ok.oe QrT.2 (Ok.ncnd (fun h3=>Ok.s ?_) fun h3=>Ok.s ?_)
  .have h3:=of_decide_eq_false h3
   omega
  .have h3:=of_decide_eq_true h3
   omega
 refine Ok.opt hopen fun e g1=>?_
 by_cases he:e=0
 .have hr:=g1.1 he
  refine Ok.n (by simp[he]) (Ok.at hr.1 Oa ?_)
  obtain⟨x,hx⟩:∃x,nth c.People p.toNat=x:=⟨_,rfl⟩
  have hper:=h.per (i:=p.toNat) Oa
  rw[hx]at hper |-
  have hq:=hper.qlen
  have hv:WW c p t ur=(ur && x.Consent || !QeG x.Quiet (QaS (YW c) t)):=by unfold WW;rw[hx];simp[hr.1,hr.2.1,hr.2.2.1,hr.2.2.2]
  rw[hv,hper.zone,h.zones.1]
  refine Ok.atn (i:=0) Ob ?_
  have hin:Qmi 1000 (QgU (YW c)) x.Quiet t=some (QeG x.Quiet (QaS (YW c) t)):=by
   refine Ok.eq ?_
   unfold Qmi Qif
   refine Ok.oe (v:=(QaS (YW c) t,0)) ?_ (Ok.p rfl (Ok.oe (Qr2 hper) (Ok.p rfl (Ok.oe (Qvw Oa) (Ok.cnd (fun h1=>Ok.s (by rw[h1])) (fun h1=>Ok.s (by rw[h1])))))))
   refine Ok.eq (Ok.oe (Qxi h.offs hr.2.2) (Ok.n (by decide) (Ok.oe (Qpx h.offs hr.2.2).2 (Ok.s rfl))))
  refine Ok.oe (hin:Qmi 1000 (nth [(⟨bZ,YW c,[]⟩:D.Zone)] 0) x.Quiet t=_) ?_
  refine Ok.cnd (fun h1=>Ok.cnd (fun h2=>Ok.cnd (fun h3=>Ok.s (by simp[h2,h3])) (fun h3=>Ok.s (by simp[h1,h3]))) (fun h2=>Ok.s (by simp[h1,h2]))) (fun h1=>Ok.s (by simp[h1]))
 .refine Ok.p he (Ok.s ?_)
  have hr:¬(0<=p/\p<4/\0<=t/\t<=8589934592):=fun h=>he (g1.2 h)
  unfold WW
  rw[decide_eq_false hr];rfl
end
/-
  Lists that are changed in place: what filtering, sorting by insertion and leaving out neighbours that are equal keep. Plain.
-/
theorem Uf{l:List Int}{i:Nat}(h:i<l.length):l.take (i+1)=l.take i++[nth l i]:=(Qz h).symm
structure QjE (p0:List Int) (q:Int->Bool) (w j:Nat) (a:List Int):Prop where
 len:a.length=p0.length
 wj:w<=j/\j<=p0.length
 done:a.take w=(p0.take j).filter q
 rest:∀k,j<=k->nth a k=nth p0 k
theorem Qh2{l:List Int}{q:Int->Bool}{i:Nat}(hi:i<=l.length)(h:∀j,j<i->q (nth l j)=true):(l.take i).filter q=l.take i:=by
 refine List.filter_eq_self.2 fun x hx=>?_
 obtain⟨k,hk,rfl⟩:=List.getElem_of_mem hx
 rw[List.length_take]at hk
 have:=h k Oa
 simpa [nth,List.getD_eq_getElem?_getD,List.getElem?_eq_getElem (show k<l.length by omega)]using this
theorem Qom{p0:List Int}{q:Int->Bool}{i:Nat}(hi:i<p0.length)(h:∀j,j<i->q (nth p0 j)=true)(hx:q (nth p0 i)=false):QjE p0 q i (i+1) p0:=by
 refine⟨rfl,Oa,?_,fun k _=>rfl⟩
 rw[Uf hi,List.filter_append,Qh2 Oa h]
 simp[hx]
theorem Qrf{p0 a:List Int}{q:Int->Bool}{w j:Nat}(h:QjE p0 q w j a)(hj:j<p0.length)(hx:q (nth a j)=true):QjE p0 q (w+1) (j+1) (a.set w (nth a j)):=by
 have h1:=h.wj
 have h2:=h.len
 refine⟨by simp[h.len],Oa,?_,fun k hk=>?_⟩
 .rw[h.rest j (Nat.le_refl _)]at hx |-
  rw[Uf hj,List.filter_append,<-h.done,Uf (by simp;omega),Qku Oa,if_pos rfl,List.take_set_of_le Oa]
  simp[hx]
 .rw[Qku Oa,if_neg Oa];exact h.rest k Oa
theorem Qrg{p0 a:List Int}{q:Int->Bool}{w j:Nat}(h:QjE p0 q w j a)(hj:j<p0.length)(hx:q (nth a j)=false):QjE p0 q w (j+1) a:=by
 have h1:=h.wj
 refine⟨h.len,Oa,?_,fun k hk=>h.rest k Oa⟩
 rw[h.rest j (Nat.le_refl _)]at hx
 rw[Uf hj,List.filter_append,<-h.done]
 simp[hx]
def InTo(l:List Int)(m:Nat)(z:Int):Prop:=∃k,k<m/\nth l k=z
theorem Qrt{l:List Int}{m:Nat}{z:Int}(hm:m<=l.length):InTo l m z↔z∈l.take m:=by
 constructor
 .rintro⟨k,hk,rfl⟩
  have:nth (l.take m) k=nth l k:=by
   simp only[nth,List.getD_eq_getElem?_getD,List.getElem?_take]
   rw[if_pos hk]
  rw[<-this]
  exact Qi (by simp;omega)
 .intro h
  obtain⟨k,hk,rfl⟩:=List.getElem_of_mem h
  rw[List.length_take]at hk
  exact⟨k,Oa,by simp[nth,List.getD_eq_getElem?_getD,List.getElem?_eq_getElem (show k<l.length by omega)]⟩
theorem Qvl{l:List Int}{j m:Nat}{z:Int}(h1:1<=j)(hj:j<l.length)(hm:j<m):InTo (Qjd l j) m z↔InTo l m z:=by
 unfold InTo
 constructor
 .rintro⟨k,hk,e⟩
  rw[Qfo h1 hj]at e
  split at e
  .exact⟨j,hm,e⟩
  .split at e
   .exact⟨j - 1,Oa,e⟩
   .exact⟨k,hk,e⟩
 .rintro⟨k,hk,e⟩
  by_cases g1:k=j
  .subst g1;exact⟨k - 1,Oa,by rw[Qfo h1 hj,if_pos rfl];exact e⟩
  .by_cases g2:k=j - 1
   .subst g2;exact⟨j,hm,by rw[Qfo h1 hj,if_neg Oa,if_pos rfl];exact e⟩
   .exact⟨k,hk,by rw[Qfo h1 hj,if_neg g2,if_neg g1];exact e⟩
def Qs7(l:List Int)(n:Nat):Prop:=∀k,1<=k->k<n->nth l (k - 1)<nth l k
theorem Ql1{l:List Int}{n:Nat}(hn:n<=l.length)(h:Qs7 l n):Asc (l.take n):=by
 have hnth:∀k,k<n->nth (l.take n) k=nth l k:=fun k hk=>by
  simp only[nth,List.getD_eq_getElem?_getD,List.getElem?_take]
  rw[if_pos hk]
 have hlt:∀b,b<n->∀a,a<b->nth l a<nth l b:=by
  intro b
  induction b with
  |zero=>intro _ a ha;omega
  |succ b ih=>
   intro hb a ha
   have h1:=h (b+1) Oa hb
   rw[Nat.add_sub_cancel]at h1
   by_cases e:a=b
   .subst e;exact h1
   .have:=ih Oa a Oa;omega
 have hl:(l.take n).length=n:=by simp;omega
 refine Qw1 (fun a b hab hb=>?_) (fun k h1 h2=>?_)
 .rw[hl]at hb;rw[hnth a Oa,hnth b hb];have:=hlt b hb a hab;omega
 .rw[hl]at h2;rw[hnth _ Oa,hnth k h2];have:=h k h1 h2;omega
structure QlW (p0:List Int) (m o i k:Nat) (a:List Int):Prop where
 len:a.length=p0.length
 ik:1<=i/\i<o+k/\o+k<=m/\1<=k
 rest:∀j,o+k<=j+1->nth a j=nth p0 j
 asc:Qs7 a i
 last:nth a (i - 1)=nth p0 (o+k - 1)
 mem:∀z,InTo a i z↔InTo p0 (o+k) z
theorem QtN{p0:List Int}{m o:Nat}(ho:1<=o)(hm:o<m)(ha:Qs7 p0 o)(he:nth p0 o=nth p0 (o - 1)):QlW p0 m o o 1 p0:=by
 refine⟨rfl,Oa,fun _ _=>rfl,ha,by rw[Nat.add_sub_cancel];exact he.symm,fun z=>⟨?_,?_⟩⟩
 .rintro⟨k,hk,e⟩;exact⟨k,Oa,e⟩
 .rintro⟨k,hk,e⟩
  by_cases h:k=o
  .subst h;exact⟨k - 1,Oa,by rw[<-he];exact e⟩
  .exact⟨k,Oa,e⟩
theorem QxL{p0 a:List Int}{m o i k:Nat}(h:QlW p0 m o i k a)(hk:o+k<m)(hml:m<=p0.length)(hs:Y5 p0 m)(hne:nth a (o+k)≠nth a (o+k - 1)):QlW p0 m o (i+1) (k+1) (a.set i (nth a (o+k))):=by
 have h1:=h.ik
 have h2:=h.len
 have e1:=h.rest (o+k) Oa
 have e2:=h.rest (o+k - 1) Oa
 have hlt:nth p0 (o+k - 1)<nth p0 (o+k):=by
  have:=hs (o+k - 1) (o+k) Oa hk
  rw[e1,e2]at hne;omega
 have hset:∀j,nth (a.set i (nth a (o+k))) j=if j=i then nth p0 (o+k)else nth a j:=fun j=>by rw[Qku Oa,e1]
 refine⟨by simp[h.len],Oa,fun j hj=>?_,fun j hj1 hj2=>?_,?_,fun z=>⟨?_,?_⟩⟩
 .rw[hset,if_neg Oa];exact h.rest j Oa
 .rw[hset,hset,if_neg (show j - 1≠i by omega)]
  by_cases e:j=i
  .rw[if_pos e,e,h.last];exact hlt
  .rw[if_neg e];exact h.asc j hj1 Oa
 .rw[hset,Nat.add_sub_cancel,if_pos rfl,show o+(k+1) - 1=o+k by omega]
 .rintro⟨j,hj,e⟩
  rw[hset]at e
  split at e
  .exact⟨o+k,Oa,e⟩
  .obtain⟨j',hj',e'⟩:=(h.mem z).1 ⟨j,Oa,e⟩
   exact⟨j',Oa,e'⟩
 .rintro⟨j,hj,e⟩
  by_cases g:j=o+k
  .exact⟨i,Oa,by rw[hset,if_pos rfl,<-g];exact e⟩
  .obtain⟨j',hj',e'⟩:=(h.mem z).2 ⟨j,Oa,e⟩
   exact⟨j',Oa,by rw[hset,if_neg Oa];exact e'⟩
theorem QxM{p0 a:List Int}{m o i k:Nat}(h:QlW p0 m o i k a)(hk:o+k<m)(he:nth a (o+k)=nth a (o+k - 1)):QlW p0 m o i (k+1) a:=by
 have h1:=h.ik
 have e1:=h.rest (o+k) Oa
 have e2:=h.rest (o+k - 1) Oa
 have e3:nth p0 (o+k)=nth p0 (o+k - 1):=by rw[<-e1,<-e2];exact he
 refine⟨h.len,Oa,fun j hj=>h.rest j Oa,h.asc,by rw[h.last,show o+(k+1) - 1=o+k by omega];exact e3.symm,fun z=>⟨fun hz=>?_,?_⟩⟩
 .obtain⟨j',hj',e'⟩:=(h.mem z).1 hz
  exact⟨j',Oa,e'⟩
 .rintro⟨j,hj,e⟩
  by_cases g:j=o+k
  .exact(h.mem z).2 ⟨o+k - 1,Oa,by rw[<-e3,<-g];exact e⟩
  .exact(h.mem z).2 ⟨j,Oa,e⟩
/-
  People whom targets mean: what the program and the reference compute.
-/
section
open Go AM
variable {t p:Int} {n:Nat} {c:D.Config} {b:D.Book}
theorem Quq{x y:Int}:Vu 1000 x y=some (decide (x<y)):=by
 unfold Vu QaA
 by_cases h:x<y<;>simp[optc,cd,AM.cnd,h]
theorem Qwb{l0:List Int}{m:Nat}(hm:m<=l0.length)(hs:m<=900):
  Ok (Ze 1000 0 m l0 0 (m:Int)) fun r=>r.length=l0.length/\Y5 r m/\∀z,InTo r m z↔InTo l0 m z:=by
 unfold Ze
 refine Ok.loop (fun q x=>∃i a,x=((0,m,0,(m:Int),((i:Nat):Int),()),a,())/\1<=i/\a.length=l0.length/\Y5 a (min i m)/\(∀z,InTo a m z↔InTo l0 m z)/\q=m+1 - i) (m:=m) Oa
  ⟨1,l0,by rw[Qc Oa];rfl,Oa,rfl,fun a b h1 h2=>Oa,fun z=>Iff.rfl,Oa⟩ ?_
 rintro q x ⟨i,a,rfl,h1,h2,h3,h4,rfl⟩ K hK
 dsimp only
 refine Ok.ite (fun hi=>?_) (fun hi=>Ok.s ⟨h2,by rw[show min i m=m by omega]at h3;exact h3,h4⟩)
 have hlt:i<m:=Oa
 rw[show min i m=i by omega]at h3
 refine Ok.j ?_
 refine Ok.loop (fun q x=>∃j a',x=((0,m,0,(m:Int),((i:Nat):Int),((j:Nat):Int),()),a',())/\j<=i/\a'.length=l0.length/\QlV a' (i+1) j/\(∀z,InTo a' m z↔InTo l0 m z)/\q=j) (m:=i) Oa
  ⟨i,a,rfl,Oa,h2,Qiy h3,h4,rfl⟩ ?_
 rintro q x ⟨j,a',rfl,g1,g2,g3,g4,hqj⟩ K2 hK2
 dsimp only
 have fin:(j=0\/nth a' (j - 1)<=nth a' j)->Ok (K ((0,m,0,(m:Int),IntKind.wrap .i64 ((i:Int)+1),()),a',())) fun r=>r.length=l0.length/\Y5 r m/\∀z,InTo r m z↔InTo l0 m z:=fun he=>by
  rw[Qb Oa]
  exact hK (m+1 - (i+1)) _ Oa ⟨i+1,a',rfl,Oa,g2,by rw[show min (i+1) m=i+1 by omega];exact Ql2 g3 he,g4,rfl⟩
 refine Ok.j (Ok.ite (fun hj=>?_) (fun hj=>fin (.inl Oa)))
 have hw:IntKind.wrap .i64 ((j:Int) - 1)=((j - 1:Nat):Int):=by rw[Qc Oa];omega
 rw[hw]
 refine Ok.natn (Ok.E ?_)
 rw[Nat.zero_add]
 refine Ok.G (Ok.natn (Ok.E ?_))
 rw[Nat.zero_add]
 refine Ok.G (Ok.oe Quq (Ok.ite (fun hless=>?_) (fun hless=>fin (.inr Oa))))
 dsimp only
 rw[hw]
 refine Ok.natn (Ok.E ?_)
 rw[Nat.zero_add]
 refine Ok.G (Ok.natn (Ok.E ?_))
 refine Ok.G (Ok.natn (Ok.E ?_))
 refine Ok.G (Ok.natn (Ok.E ?_))
 refine Ok.get (by simp;omega) ?_
 have hsw:(a'.set (0+j) (nth a' (j - 1))).set (0+(j - 1)) (nth a' (0+j))=Qjd a' j:=by simp only[Nat.zero_add];rfl
 rw[hsw]
 exact hK2 (j - 1) _ Oa ⟨j - 1,Qjd a' j,rfl,Oa,by rw[QwP];exact g2,QjR g3 Oa Oa Oa hless,fun z=>(Qvl Oa Oa Oa).trans (g4 z),rfl⟩
theorem QtC:∀m:Nat,m<13->(QaF 1000 (IntKind.wrap .u64 ((m:Nat):Int))).isSome=true:=by decide
theorem Qyx{l0:List Int}{m:Nat}(hm:m<=l0.length)(hs:m<=12):
  Ok (Wp 1000 0 m l0) fun r=>r.length=l0.length/\Y5 r m/\∀z,InTo r m z↔InTo l0 m z:=by
 unfold Wp
 rw[Nat.sub_zero]
 obtain⟨bv,hb⟩:=Option.isSome_iff_exists.1 (QtC m Oa)
 refine Ok.oe hb (Ok.opt (P:=fun r=>r.length=l0.length/\Y5 r m/\∀z,InTo r m z↔InTo l0 m z) ?_ fun r hr=>Ok.ck hr.1 (Ok.s hr))
 unfold YJ
 refine Ok.loop (fun q x=>x=((0,m,0,(m:Int),bv,true,true,()),l0,())) (m:=0) Oa rfl ?_
 rintro q x rfl K hK
 dsimp only
 refine Ok.p (by rw[Qc Oa];omega) (Ok.opt (Qwb hm Oa) fun r hr=>Ok.ck hr.1 (Ok.s hr))
theorem Qsf{l0:List Int}{m:Nat}(hm:m<=l0.length)(hs:m<=900)(hl:l0.length<=34359738368)(hso:Y5 l0 m):
  Ok (Xe 1000 0 m l0) fun r=>r.1=0/\r.2.1<=m/\r.2.2.length=l0.length/\Asc (r.2.2.take r.2.1)/\∀z,z∈r.2.2.take r.2.1↔InTo l0 m z:=by
 have done:∀(a:List Int) (i:Nat),a.length=l0.length->i<=m->Qs7 a i->(∀z,InTo a i z↔InTo l0 m z)->Asc (a.take i)/\∀z,z∈a.take i↔InTo l0 m z:=fun a i h1 h2 h3 h4=>
  ⟨Ql1 Oa h3,fun z=>by rw[<-Qrt Oa];exact h4 z⟩
 unfold Xe
 rw[Nat.sub_zero]
 refine Ok.ite (fun h=>Ok.s ⟨rfl,Nat.le_refl _,rfl,done l0 m rfl (Nat.le_refl _) (fun k h1 h2=>Oa) fun z=>Iff.rfl⟩) fun h=>?_
 refine Ok.loop (fun q x=>∃i:Nat,x=((0,m,((i:Nat):Int),()),l0,())/\1<=i/\i<=m/\Qs7 l0 i/\q=m - i) (m:=m - 1) Oa ⟨1,rfl,Oa,Oa,fun k h1 h2=>Oa,rfl⟩ ?_
 rintro q x ⟨i,rfl,h1,h2,h3,rfl⟩ K hK
 dsimp only
 rw[Nat.sub_zero]
 refine Ok.ite (fun hi=>?_) (fun hi=>?_)
 .have hw:IntKind.wrap .i64 ((i:Int) - 1)=((i - 1:Nat):Int):=by rw[Qc Oa];omega
  rw[hw]
  refine Ok.natn (Ok.E ?_)
  rw[Nat.zero_add]
  refine Ok.G (Ok.natn (Ok.E ?_))
  rw[Nat.zero_add]
  refine Ok.G (Ok.ite (fun he=>?_) (fun hne=>?_))
  .refine Ok.natn (Ok.E ?_)
   rw[Nat.zero_add,Nat.zero_add]
   refine Ok.loop (fun q x=>∃(w k:Nat) (a:List Int),x=((0,m,((w:Nat):Int),i,m,((k:Nat):Int),()),a,())/\QlW l0 m i w k a/\q=m - i - k) (m:=m - i - 1) Oa ⟨i,1,l0,rfl,QtN h1 Oa h3 he,rfl⟩ ?_
   rintro q x ⟨w,k,a,rfl,hinv,rfl⟩ K2 hK2
   have hik:=hinv.ik
   have hal:=hinv.len
   dsimp only
   refine Ok.ite (fun hk=>?_) (fun hk=>?_)
   .have hw2:IntKind.wrap .i64 ((k:Int) - 1)=((k - 1:Nat):Int):=by rw[Qc Oa];omega
    rw[hw2]
    refine Ok.j (Ok.natn (Ok.E (Ok.G (Ok.natn (Ok.E (Ok.G ?_))))))
    refine Ok.ite (fun hd=>?_) (fun hd=>?_)
    .refine Ok.natn (Ok.E (Ok.G (Ok.natn (Ok.E ?_))))
     rw[Nat.zero_add]
     refine Ok.G ?_
     dsimp only
     rw[Qb Oa,Qb Oa]
     exact hK2 (m - i - (k+1)) _ Oa ⟨w+1,k+1,_,rfl,QxL hinv Oa hm hso (by rw[show i+k - 1=i+(k - 1)by omega];exact hd),rfl⟩
    .dsimp only
     rw[Qb Oa]
     exact hK2 (m - i - (k+1)) _ Oa ⟨w,k+1,a,rfl,QxM hinv Oa (by rw[show i+k - 1=i+(k - 1)by omega];exact Decidable.not_not.1 hd),rfl⟩
   .have ek:i+k=m:=Oa
    refine Ok.natn (Ok.E (Ok.L (Ok.L (Ok.natn (Ok.L (Ok.s ?_))))))
    simp only[Nat.zero_add,Nat.sub_zero,Nat.add_zero]
    have hd:=done a w hal Oa hinv.asc (by rw[<-ek];exact hinv.mem)
    have ht:(List.take w a++List.replicate (m - w) 0++List.drop m a).take w=a.take w:=by
     rw[List.append_assoc,List.take_append_of_le_length (by simp;omega),List.take_take,Nat.min_self]
    refine⟨trivial,Oa,by simp;omega,?_,?_⟩
    .rw[ht];exact hd.1
    .rw[ht];exact hd.2
  .rw[Qb Oa]
   have hlt:nth l0 (i - 1)<nth l0 i:=by
    have:=hso (i - 1) i Oa Oa;omega
   refine hK (m - (i+1)) _ Oa ⟨i+1,rfl,Oa,Oa,fun k a1 a2=>?_,rfl⟩
   by_cases e:k=i
   .subst e;exact hlt
   .exact h3 k a1 Oa
 .obtain rfl:i=m:=Oa
  exact Ok.s ⟨rfl,Nat.le_refl _,rfl,done l0 i rfl (Nat.le_refl _) h3 fun z=>Iff.rfl⟩
def inC(x:Int):Bool:=decide (0<=x/\x<=3)
theorem pIn{fu:Nat}{n lo hi:Int}:Yo fu n lo hi=some (decide (lo<=n/\n<=hi)):=cnd2
theorem people1(h:Q0 n c){x:Int}:WA 1000 x c=some (!inC x):=by
 unfold WA
 rw[h.plen,show IntKind.wrap .i64 (((4:Nat):Int) - 1)=3 from rfl,pIn,ZR,WG]
 rfl
theorem QxP(h:Q0 n c){l0:List Int}(hl:l0.length<=900):
  Ok (QO 1000 l0 c) fun r=>r.1=0/\r.2.1<=l0.length/\r.2.2.length=l0.length/\r.2.2.take r.2.1=l0.filter inC:=by
 unfold QO
 have hidx:Ok (QS 1000 l0 c) fun r=>r = -1/\(∀j,j<l0.length->inC (nth l0 j)=true)\/∃i:Nat,r=(i:Int)/\i<l0.length/\inC (nth l0 i)=false/\∀j,j<i->inC (nth l0 j)=true:=by
  unfold QS
  refine Ok.scan l0.length (fun i=>((((l0.length:Nat):Int),(i:Int),()),c,l0,())) (fun i=>!inC (nth l0 i)) rfl Oa (fun i hi hq hj k=>?_) (fun i hi hq k hk=>?_) (fun hq k=>?_)
  .refine Ok.P (Ok.natn (Ok.lt hi (Ok.get hi (Ok.oe (people1 h) (Ok.bt hq (Ok.sameC (Ok.sameC (Ok.s (.inr ⟨i,rfl,hi,by simpa using hq,fun j hj'=>by simpa using hj j hj'⟩)))))))))
  .refine Ok.P (Ok.natn (Ok.lt hi (Ok.get hi (Ok.oe (people1 h) (Ok.bf hq ?_)))))
   rw[Qb Oa];exact hk
  .exact Ok.N (Ok.sameC (Ok.sameC (Ok.s (.inl ⟨rfl,fun j hj=>by simpa using hq j hj⟩))))
 refine Ok.opt hidx fun r hr=>?_
 rcases hr with⟨rfl,hall⟩|⟨i,rfl,hi,hx,hj⟩
 .refine Ok.p rfl (Ok.sameC (Ok.s ⟨rfl,Nat.le_refl _,rfl,?_⟩))
  have:=Qh2 (q:=inC) (Nat.le_refl _) hall
  rw[List.take_length]at this |-
  exact this.symm
 .refine Ok.N ?_
  rw[Qb Oa]
  refine Ok.loop (fun q x=>∃(w j:Nat) (a:List Int),x=((((w:Nat):Int),((j:Nat):Int),()),c,a,())/\QjE l0 inC w j a/\q=l0.length - j) (m:=l0.length - (i+1)) Oa ⟨i,i+1,l0,rfl,Qom hi hj hx,rfl⟩ ?_
  rintro q x ⟨w,j,a,rfl,hinv,rfl⟩ K hK
  have h1:=hinv.wj
  have h2:=hinv.len
  dsimp only
  refine Ok.ite (fun hlt=>?_) (fun hge=>?_)
  .refine Ok.j (Ok.natn (Ok.E (Ok.G (Ok.oe (people1 h) ?_))))
   rw[Bool.not_not]
   refine Ok.cnd (fun hq=>?_) (fun hq=>?_)
   .refine Ok.natn (Ok.E (Ok.G ?_))
    dsimp only
    rw[Qb Oa,Qb Oa]
    exact hK _ _ Oa ⟨w+1,j+1,_,rfl,Qrf hinv Oa hq,rfl⟩
   .dsimp only
    rw[Qb Oa]
    exact hK _ _ Oa ⟨w,j+1,a,rfl,Qrg hinv Oa hq,rfl⟩
  .have ej:j=l0.length:=Oa
   have hd:=hinv.done
   rw[ej,List.take_length]at hd
   refine Ok.natn (Ok.L (Ok.L (Ok.L (Ok.natn (Ok.LS (Ok.sameC (Ok.s ?_)))))))
   refine⟨rfl,by dsimp only;omega,by simp;omega,?_⟩
   dsimp only
   rw[List.append_assoc,List.take_append_of_le_length (by simp;omega),List.take_take,Nat.min_self]
   exact hd
def QbF(c:D.Config)(b:D.Book)(x:D.Target)(t:Int):List Int:=if x.Kind=0 then[x.Index]else if x.Kind=1 then[whoV c x.Index t]else(nth b.Teams x.Index.toNat).Members
theorem Qwl{x:D.Target}(h:Q0 n c)(hn:n<=48)(hb:Qy b)(hx:VD b.Teams.length x):QbM 1000 c b x t=some (QbF c b x t):=by
 have hpl:=h.plen;have hsl:=h.slen;have htl:=hb.tlen
 have h1:=hx.lo;have h2:=hx.person;have h3:=hx.sched;have h4:=hx.team
 have hsz:WC 1000 c b=some ⟨4,2,((b.Teams.length:Nat):Int)⟩:=by unfold WC;rw[hpl,hsl];rfl
 refine Ok.eq ?_
 unfold QbM QbF
 refine Ok.j (Ok.oe pIn (Ok.p (by have:=hx.kind;omega) (Ok.oe hsz ?_)))
 dsimp only
 rcases hx.kind with hk|hk|hk
 .have:=h2 hk
  refine Ok.P (Ok.oe pIn (Ok.p (by rw[Qc Oa];omega) (Ok.N (Ok.N (Ok.s ?_)))))
  rw[if_pos hk]
 .have:=h3 hk
  refine Ok.N (Ok.P (Ok.oe pIn (Ok.p (by rw[Qc Oa];omega) (Ok.p hk (Ok.oe (Qzm h hn) (Ok.s ?_))))))
  rw[if_neg Oa,if_pos hk]
 .have:=h4 hk
  refine Ok.N (Ok.N (Ok.P (Ok.oe pIn (Ok.p (by rw[Qc Oa];omega) (Ok.N (Ok.p hk (Ok.at h1 Oa (Ok.s ?_))))))))
  rw[if_neg Oa,if_neg Oa]
theorem Qh7{x:D.Target}(hb:Qy b)(hx:VD b.Teams.length x):(QbF c b x t).length<=2:=by
 unfold QbF
 split
 .simp
 .split
  .simp
  .have h4:=hx.team (by have:=hx.kind;omega)
   have h1:=hx.lo
   exact(hb.team _ (Qi Oa)).len.2
theorem Qme{x:D.Target}{z:Int}(h:Q0 n c)(hx:VD b.Teams.length x)(hz:0<=z/\z<=3):z∈QbF c b x t↔z∈Qcq c b x t:=by
 unfold QbF Qcq
 have h1:=hx.lo;have h4:=hx.team
 rcases hx.kind with hk|hk|hk
 .rw[if_pos hk,if_pos hk]
 .rw[if_neg Oa,if_pos hk,if_neg Oa,if_pos hk]
  split
  .simp;omega
  .rfl
 .rw[if_neg Oa,if_neg Oa,if_neg Oa,if_neg Oa,if_pos ⟨hk,h1,h4 hk⟩]
theorem QuH{l:List D.Target}(h:Q0 n c)(hn:n<=48)(hb:Qy b)(hl:∀x∈l,VD b.Teams.length x)(hlen:l.length<=6):
  Ok (QaH 1000 c b l t) fun r=>r.1=0/\r.2.1<=r.2.2.length/\r.2.2.length<=12/\r.2.2.take r.2.1=WZ c b l t:=by
 unfold QaH
 refine Ok.run l.length (fun i=>((t,l,((l.length:Nat):Int),(i:Int),()),c,b,(l.take i).flatMap (fun x=>QbF c b x t),())) Ob Oa (fun i hi k hk=>?_) (fun k=>?_)
 .dsimp only
  have hx:=hl _ (Qi hi)
  have hle:((l.take i).flatMap (fun x=>QbF c b x t)).length<=2*i:=by
   rw[List.length_flatMap]
   have:∀(m:List D.Target),(∀x∈m,VD b.Teams.length x)->(m.map (fun x=>(QbF c b x t).length)).sum<=2*m.length:=by
    intro m hm
    induction m with
    |nil=>simp
    |cons y m ih=>
     have h1:=Qh7 (c:=c) (t:=t) hb (hm y (List.mem_cons_self ..))
     have h2:=ih (fun x hx=>hm x (List.mem_cons_of_mem _ hx))
     simp only[List.map_cons,List.sum_cons,List.length_cons];omega
   have h3:=this (l.take i) (fun x hx=>hl x (List.mem_of_mem_take hx))
   rw[List.length_take]at h3;omega
  have hm2:=Qh7 (c:=c) (t:=t) hb hx
  refine Ok.P (Ok.atn hi (Ok.oe (Qwl h hn hb hx) (Ok.L ?_)))
  rw[Qb Oa]
  have e:(l.take i).flatMap (fun x=>QbF c b x t)++QbF c b (nth l i) t=(l.take (i+1)).flatMap (fun x=>QbF c b x t):=by
   rw[<-Qz hi,List.flatMap_append];simp
  rw[e];exact hk
 .dsimp only
  rw[List.take_length]
  obtain⟨L0,hL0⟩:∃L0,l.flatMap (fun x=>QbF c b x t)=L0:=⟨_,rfl⟩
  have hle:L0.length<=12:=by
   rw[<-hL0,List.length_flatMap]
   have:∀(m:List D.Target),(∀x∈m,VD b.Teams.length x)->(m.map (fun x=>(QbF c b x t).length)).sum<=2*m.length:=by
    intro m hm
    induction m with
    |nil=>simp
    |cons y m ih=>
     have h1:=Qh7 (c:=c) (t:=t) hb (hm y (List.mem_cons_self ..))
     have h2:=ih (fun x hx=>hm x (List.mem_cons_of_mem _ hx))
     simp only[List.map_cons,List.sum_cons,List.length_cons];omega
   have h3:=this l hl
   omega
  rw[hL0]
  refine Ok.N (Ok.opt (QxP h Oa) fun⟨a0,a1,a2⟩ ⟨g1,g2,g3,g4⟩=>?_)
  dsimp only at g1 g2 g3 g4 |-
  subst g1
  refine Ok.opt (Qyx Oa Oa) fun r ⟨s1,s2,s3⟩=>Ok.ck s1 ?_
  refine Ok.opt (Qsf Oa Oa Oa s2) fun⟨b0,b1,b2⟩ ⟨k1,k2,k3,k4,k5⟩=>Ok.s ?_
  dsimp only at k1 k2 k3 k4 k5 |-
  refine⟨k1,Oa,Oa,Qmh k4 fun z=>?_⟩
  rw[k5,s3,Qrt Oa,g4,List.mem_filter,<-hL0,List.mem_flatMap]
  unfold Means inC
  rw[decide_eq_true_eq]
  constructor
  .rintro⟨⟨x,hx1,hx2⟩,hz⟩
   exact⟨hz.1,Oa,x,hx1,(Qme h (hl x hx1) hz).1 hx2⟩
  .rintro⟨hz1,hz2,x,hx1,hx2⟩
   exact⟨⟨x,hx1,(Qme h (hl x hx1) ⟨hz1,Oa⟩).2 hx2⟩,hz1,Oa⟩
end
/-
  People whom targets mean: what the reference computes; lists compared.
-/
section
variable {t p:Int} {n:Nat} {c:D.Config} {b:D.Book}
theorem Qlo{l:List Int}{x:Int}:∀i,(W7 l x i).1.length<=2*i
 |0=>by simp[W7]
 |i+1=>by
  have:=Qlo (l:=l) (x:=x) i
  simp only[W7,List.length_append]
  have h1:(if (W7 l x i).2=false/\x<=nth l i then[x]else[]).length<=1:=by split<;>simp
  have h2:(if nth l i≠x then[nth l i]else[]).length<=1:=by split<;>simp
  omega
theorem QwZ{l:List Int}{x:Int}(hl:l.length<=400):Vl 1000 l x=some (QpO l x):=by
 refine Ok.eq ?_
 unfold Vl
 refine Ok.run l.length (fun i=>((l,x,(W7 l x i).2,(i:Int),()),(W7 l x i).1,())) rfl Oa (fun i hi k hk=>?_) (fun k=>?_)
 .dsimp only
  have hlen:=Qlo (l:=l) (x:=x) i
  rw[W7]at hk
  refine Ok.P (Ok.j (Ok.j ?_))
  have fin:∀(d:Bool) (o:List Int),o.length<=2000->d=((W7 l x i).2 || decide (x<=nth l i))->o=(W7 l x i).1++(if (W7 l x i).2=false/\x<=nth l i then[x]else[])->
    Ok (atc l (i:Int) fun a17=>AM.cnd (decide (a17≠x)) (atc l (i:Int) fun a18=>AM.lec (o.length+[a18].length) 34359738368 (k ((l,x,d,IntKind.wrap .i64 ((i:Int)+1),()),o++[a18],()))) (k ((l,x,d,IntKind.wrap .i64 ((i:Int)+1),()),o,()))) (·=QpO l x):=fun d o ho hd he=>by
   rw[Qb Oa]
   rw[hd,he]
   refine Ok.atn hi (Ok.ite (fun h=>Ok.atn hi (Ok.lec (by rw[<-he];simp;omega) ?_)) (fun h=>?_))
   .rw[if_pos h]at hk;exact hk
   .rw[if_neg h,List.append_nil]at hk;exact hk
  refine Ok.cnd (fun hd=>?_) (fun hd=>Ok.atn hi (Ok.ite (fun hx=>Ok.LS ?_) (fun hx=>?_)))
  .exact fin (W7 l x i).2 (W7 l x i).1 Oa (by rw[hd];rfl) (by rw[hd];simp)
  .exact fin true ((W7 l x i).1++[x]) (by simp;omega) (by rw[hd,decide_eq_true hx];rfl) (by rw[if_pos ⟨hd,hx⟩])
  .exact fin (W7 l x i).2 (W7 l x i).1 Oa (by rw[hd,decide_eq_false hx];rfl) (by rw[if_neg (fun h=>hx h.2),List.append_nil])
 .dsimp only
  have hlen:=Qlo (l:=l) (x:=x) l.length
  refine Ok.N (Ok.j (Ok.ncnd (fun hd=>Ok.LS (Ok.s ?_)) (fun hd=>Ok.s ?_)))
  .unfold QpO;rw[if_neg (by rw[hd];simp)]
  .unfold QpO;rw[if_pos hd]
theorem q25In{fu:Nat}{n lo hi:Int}:QQ fu n lo hi=some (decide (lo<=n/\n<=hi)):=cnd2
theorem Qsu{l:List D.Target}{i:Nat}{z:Int}(hi:i<l.length):Means c b (l.take (i+1)) t z↔Means c b (l.take i) t z\/(0<=z/\z<4/\z∈Qcq c b (nth l i) t):=by
 unfold Means
 rw[<-Qz hi]
 simp only[List.mem_append,List.mem_singleton]
 constructor
 .rintro⟨h1,h2,x,hx|rfl,hz⟩
  .exact .inl ⟨h1,h2,x,hx,hz⟩
  .exact .inr ⟨h1,h2,hz⟩
 .rintro(⟨h1,h2,x,hx,hz⟩|⟨h1,h2,hz⟩)
  .exact⟨h1,h2,x,.inl hx,hz⟩
  .exact⟨h1,h2,_,.inr rfl,hz⟩
theorem Qq7{o:List Int}(h:Asc o)(hm:∀z∈o,0<=z/\z<4):o.length<=4:=by
 have e:o=([0,1,2,3]:List Int).filter fun z=>o.contains z:=Qec h (List.Pairwise.filter _ asc4) fun z=>by
  simp only[List.mem_filter,List.contains_iff_mem,List.mem_cons,List.not_mem_nil,or_false]
  exact⟨fun hz=>⟨by have:=hm z hz;omega,hz⟩,fun hz=>hz.2⟩
 rw[e]
 exact List.length_filter_le _ _
theorem QsG{l:List D.Target}(h:Q0 n c)(hn:n<=48)(hb:Qy b)(hl:∀x∈l,VD b.Teams.length x)(hlen:l.length<=400):QcA 1000 c b l t=some (WZ c b l t):=by
 have hpl:=h.plen;have hsl:=h.slen;have htl:=hb.tlen
 refine Ok.eq ?_
 unfold QcA
 refine Ok.run l.length (fun i=>((l,t,WZ c b (l.take i) t,(i:Int),()),c,b,())) (by rw[List.take_zero];rfl) Oa (fun i hi k hk=>?_) (fun k=>?_)
 .dsimp only
  have hx:=hl _ (Qi hi)
  obtain⟨x,hxx⟩:∃x,nth l i=x:=⟨_,rfl⟩
  have hpe:=QgA (c:=c) (b:=b) (l:=l.take i) (t:=t)
  have hple:=QgB (c:=c) (b:=b) (l:=l.take i) (t:=t)
  have fin:∀o:List Int,Asc o->(∀z,z∈o↔Means c b (l.take i) t z\/(0<=z/\z<4/\z∈Qcq c b x t))->Ok (k ((l,t,o,IntKind.wrap .i64 ((i:Int)+1),()),c,b,())) (·=WZ c b l t):=fun o ho hm=>by
   rw[Qb Oa,Qmh ho (fun z=>by rw[hm,Qsu hi,hxx])]
   exact hk
  have one:∀v,0<=v/\v<4->(∀z,0<=z/\z<4->(z∈Qcq c b x t↔z=v))->Ok (k ((l,t,QpO (WZ c b (l.take i) t) v,IntKind.wrap .i64 ((i:Int)+1),()),c,b,())) (·=WZ c b l t):=fun v hv hm=>
   fin _ (QfP hpe).1 fun z=>by
    rw[(QfP hpe).2,Qbe]
    constructor
    .rintro(hz|rfl)
     .exact .inl hz
     .exact .inr ⟨hv.1,hv.2,(hm _ hv).2 rfl⟩
    .rintro(hz|⟨h1,h2,hz⟩)
     .exact .inl hz
     .exact .inr ((hm z ⟨h1,h2⟩).1 hz)
  have none_:(∀z,0<=z/\z<4->¬z∈Qcq c b x t)->Ok (k ((l,t,WZ c b (l.take i) t,IntKind.wrap .i64 ((i:Int)+1),()),c,b,())) (·=WZ c b l t):=fun hm=>
   fin _ hpe fun z=>by
    rw[Qbe]
    exact⟨.inl,fun h=>h.elim id fun⟨h1,h2,hz⟩=>absurd hz (hm z ⟨h1,h2⟩)⟩
  rw[hxx]at hx
  rw[hpl,hsl]
  have h1:=hx.lo;have h2:=hx.person;have h3:=hx.sched;have h4:=hx.team
  refine Ok.P (Ok.j (Ok.atn hi ?_))
  rw[hxx]
  rcases hx.kind with hkd|hkd|hkd
  .have:=h2 hkd
   refine Ok.p hkd (Ok.oe q25In (Ok.p (by rw[Qc Oa];omega) (Ok.oe (QwZ Oa) ?_)))
   exact one _ ⟨h1,Oa⟩ fun z hz=>by unfold Qcq;rw[if_pos hkd];simp
  .have:=h3 hkd
   refine Ok.N (Ok.p hkd (Ok.oe q25In (Ok.p (by rw[Qc Oa];omega) (Ok.oe (QyF h hn) ?_))))
   have hw:=QyG h (i:=x.Index) (t:=t)
   refine Ok.ite (fun hge=>Ok.oe (QwZ Oa) ?_) (fun hlt=>?_)
   .exact one _ ⟨hge,hw.2⟩ fun z hz=>by unfold Qcq;rw[if_neg Oa,if_pos hkd,if_neg Oa];simp
   .exact none_ fun z hz=>by unfold Qcq;rw[if_neg Oa,if_pos hkd,if_pos Oa];simp
  .have:=h4 hkd
   refine Ok.N (Ok.N (Ok.p hkd (Ok.oe q25In (Ok.p (by rw[Qc Oa];omega) ?_))))
   obtain⟨tm,htm⟩:∃tm,nth b.Teams x.Index.toNat=tm:=⟨_,rfl⟩
   have hteam:=hb.team _ (Qi (l:=b.Teams) (i:=x.Index.toNat) Oa)
   rw[htm]at hteam
   have hmv:Qcq c b x t=tm.Members:=by unfold Qcq;rw[if_neg Oa,if_neg Oa,if_pos ⟨hkd,h1,h4 hkd⟩,htm]
   have hml:=hteam.len
   refine Ok.loop (fun q y=>∃(j:Nat) (o:List Int),y=((l,t,o,(i:Int),(j:Int),()),c,b,x,())/\j<=tm.Members.length/\Asc o/\(∀z,z∈o↔Means c b (l.take i) t z\/(0<=z/\z<4/\z∈tm.Members.take j))/\q=tm.Members.length - j) (m:=tm.Members.length) Oa
    ⟨0,_,rfl,Oa,hpe,fun z=>by rw[Qbe];simp,Oa⟩ ?_
   rintro q y ⟨j,o,rfl,a1,a2,a4,rfl⟩ K hK
   have a3:=Qq7 a2 (fun z hz=>by
    rcases(a4 z).1 hz with g|g
    .exact⟨g.1,g.2.1⟩
    .exact⟨g.1,g.2.1⟩)
   dsimp only
   refine Ok.at h1 Oa ?_
   rw[htm]
   refine Ok.ite (fun hj=>?_) (fun hj=>?_)
   .have hmem:=hteam.mem _ (Qi (l:=tm.Members) (i:=j) Oa)
    refine Ok.j (Ok.at h1 Oa ?_)
    rw[htm]
    refine Ok.A ?_
    rw[hpl]
    refine Ok.oe q25In (Ok.p (by rw[Qc Oa];omega) (Ok.at h1 Oa ?_))
    rw[htm]
    refine Ok.A (Ok.oe (QwZ Oa) ?_)
    dsimp only
    rw[Qb Oa]
    refine hK _ _ Oa ⟨j+1,_,rfl,Oa,(QfP a2).1,fun z=>?_,rfl⟩
    rw[(QfP a2).2,a4,VM Oa]
    constructor
    .rintro((hz|⟨z1,z2,z3⟩)|rfl)
     .exact .inl hz
     .exact .inr ⟨z1,z2,.inl z3⟩
     .exact .inr ⟨hmem.1,hmem.2,.inr rfl⟩
    .rintro(hz|⟨z1,z2,z3|z3⟩)
     .exact .inl (.inl hz)
     .exact .inl (.inr ⟨z1,z2,z3⟩)
     .exact .inr z3
   .have ej:j=tm.Members.length:=Oa
    rw[ej,List.take_length]at a4
    exact fin o a2 fun z=>by rw[a4,hmv]
 .dsimp only
  refine Ok.N (Ok.s ?_)
  rw[List.take_length]
theorem QqR{x y:List Int}(hx:x.length<=900):QfC 1000 x y=some (decide (x=y)):=by
 refine Ok.eq ?_
 unfold QfC
 refine Ok.ite (fun h=>Ok.s ?_) (fun h=>?_)
 .rw[decide_eq_false];rintro rfl;exact h rfl
 .have hl:x.length=y.length:=Oa
  refine Ok.scan x.length (fun i=>((x,y,(i:Int),()),())) (fun i=>decide (nth x i≠nth y i)) rfl Oa (fun i hi hq _ k=>?_) (fun i hi hq k hk=>?_) (fun hq k=>?_)
  .have hq:=of_decide_eq_true hq
   refine Ok.P (Ok.atn hi (Ok.A (Ok.p hq (Ok.s ?_))))
   rw[decide_eq_false];rintro rfl;exact hq rfl
  .have hq:=of_decide_eq_false hq
   refine Ok.P (Ok.atn hi (Ok.A (Ok.n hq ?_)))
   rw[Qb Oa];exact hk
  .refine Ok.N (Ok.s ?_)
   rw[decide_eq_true]
   refine List.ext_getElem hl fun i h1 h2=>?_
   have:=of_decide_eq_false (hq i h1)
   simpa [nth,List.getD_eq_getElem?_getD,List.getElem?_eq_getElem h1,List.getElem?_eq_getElem h2]using this
theorem Qc3{l:List Int}{x:Int}(hl:l.length<=900):Qdl 1000 l x=some (l.contains x):=by
 refine Ok.eq ?_
 unfold Qdl
 refine Ok.scan l.length (fun i=>((l,x,(i:Int),()),())) (fun i=>decide (nth l i=x)) rfl Oa (fun i hi hq _ k=>?_) (fun i hi hq k hk=>?_) (fun hq k=>?_)
 .have hq:=of_decide_eq_true hq
  refine Ok.P (Ok.atn hi (Ok.p hq (Ok.s ?_)))
  exact(List.contains_iff_mem.2 (hq ▸ Qi hi)).symm
 .have hq:=of_decide_eq_false hq
  refine Ok.P (Ok.atn hi (Ok.n hq ?_))
  rw[Qb Oa];exact hk
 .refine Ok.N (Ok.s ?_)
  symm
  rw[Bool.eq_false_iff]
  intro h
  obtain⟨i,hi,e⟩:=List.getElem_of_mem (List.contains_iff_mem.1 h)
  refine of_decide_eq_false (hq i hi) ?_
  simpa [nth,List.getD_eq_getElem?_getD,List.getElem?_eq_getElem hi]using e
end
/-
  Pages looked at: what the program's and the reference's checks of pages and answers compute.
-/
open Go AM
theorem Qei{α:Type}[Inhabited α]{l:List α}{i:Nat}(h:i<l.length):l.drop i=nth l i::l.drop (i+1):=by
 rw[List.drop_eq_getElem_cons h]
 simp[nth,List.getD_eq_getElem?_getD,List.getElem?_eq_getElem h]
theorem ein{fu:Nat}{x lo hi:Int}:Q2 fu x lo hi=some (inV x lo hi):=by
 unfold Q2 inV
 by_cases h1:lo<=x<;>by_cases h2:x<=hi<;>simp[cd,AM.cnd,h1,h2]
theorem aiN{fu:Nat}{x lo hi:Int}:VE fu x lo hi=some (inV x lo hi):=by
 unfold VE inV
 by_cases h1:lo<=x<;>by_cases h2:x<=hi<;>simp[cd,AM.cnd,h1,h2]
theorem QiD{l:List Int}{i:Nat}{x:Int}(hi:i<l.length)(h:decide (x=nth l i)=true):l.contains x=true:=by
 rw[of_decide_eq_true h];exact List.contains_iff_mem.2 (Qi hi)
theorem Qj2{l:List Int}{x:Int}(h:∀j,j<l.length->decide (x=nth l j)=false):l.contains x=false:=by
 cases hb:l.contains x with
 |false=>rfl
 |true=>
  obtain⟨j,hj,e⟩:=List.getElem_of_mem (List.contains_iff_mem.1 hb)
  have:=of_decide_eq_false (h j hj)
  exact absurd (by simp[nth,List.getD_eq_getElem?_getD,List.getElem?_eq_getElem hj,e]) this
theorem QcY{l:List Int}{x:Int}(hl:l.length<900):Yg 1000 l x=some (l.contains x):=by
 refine Ok.eq ?_
 unfold Yg Qam
 refine Ok.opt (P:=fun r=>decide (0<=r)=l.contains x) ?_ fun r hr=>Ok.s hr
 refine Ok.scan l.length (fun i=>((l,x,((l.length:Nat):Int),(i:Int),()),())) (fun i=>decide (x=nth l i)) rfl Oa (fun i hi hq _ k=>?_) (fun i hi hq k hk=>?_) (fun hq k=>?_)
 .refine Ok.P (Ok.atn hi (Ok.bt hq (Ok.s ?_)))
  rw[QiD hi hq];simp
 .refine Ok.P (Ok.atn hi (Ok.bf hq ?_))
  rw[Qb Oa];exact hk
 .refine Ok.N (Ok.s ?_)
  rw[Qj2 hq];rfl
theorem QbC{l:List Int}{x:Int}(hl:l.length<900):Zn 1000 l x=some (l.contains x):=by
 refine Ok.eq ?_
 unfold Zn Ue
 refine Ok.opt (P:=fun r=>decide (0<=r)=l.contains x) ?_ fun r hr=>Ok.sameC (Ok.s hr)
 refine Ok.scan l.length (fun i=>((x,((l.length:Nat):Int),(i:Int),()),l,())) (fun i=>decide (x=nth l i)) rfl Oa (fun i hi hq _ k=>?_) (fun i hi hq k hk=>?_) (fun hq k=>?_)
 .refine Ok.P (Ok.natn (Ok.lt hi (Ok.get hi (Ok.bt hq (Ok.sameC (Ok.s ?_))))))
  rw[QiD hi hq];simp
 .refine Ok.P (Ok.natn (Ok.lt hi (Ok.get hi (Ok.bf hq ?_))))
  rw[Qb Oa];exact hk
 .refine Ok.N (Ok.sameC (Ok.s ?_))
  rw[Qj2 hq];rfl
def badS(l:List Int)(i:Nat):Bool:=!(decide (0<=nth l i) && decide (nth l i<=31) && (decide (i=0) || decide (nth l (i - 1)<nth l i)))
theorem QrW{l:List Int}{i:Nat}(hi:i<l.length)(h:badS l i=true):setV l=false:=by
 cases hb:setV l with
 |false=>rfl
 |true=>
  have hs:=UB.1 hb
  have h1:=hs.2 _ (Qi hi)
  have h2:0<i->nth l (i - 1)<nth l i:=fun h0=>QhR hs.1 Oa hi
  unfold badS at h
  by_cases h0:i=0
  .subst h0;simp at h;omega
  .have:=h2 Oa
   simp[h0]at h;omega
theorem Qpz{l:List Int}(h:∀j,j<l.length->badS l j=false):setV l=true:=by
 have hk:∀j,j<l.length->0<=nth l j/\nth l j<=31/\(j=0\/nth l (j - 1)<nth l j):=fun j hj=>by
  have:=h j hj
  unfold badS at this
  obtain⟨a,b,c⟩:0<=nth l j/\nth l j<=31/\(¬j=0->nth l (j - 1)<nth l j):=by simpa [and_assoc]using this
  exact⟨a,b,by by_cases e:j=0;exact .inl e;exact .inr (c e)⟩
 refine UB.2 ⟨?_,fun x hx=>?_⟩
 .have:=Ql1 (l:=l) (n:=l.length) (Nat.le_refl _) fun k h1 h2=>by have:=(hk k h2).2.2;omega
  rwa [List.take_length]at this
 .obtain⟨j,hj,e⟩:=List.getElem_of_mem hx
  have:=hk j hj
  rw[show nth l j=x by simp[nth,List.getD_eq_getElem?_getD,List.getElem?_eq_getElem hj,e]]at this
  omega
theorem Qxl{l:List Int}(hl:l.length<900):UV 1000 l=some (setV l):=by
 refine Ok.eq ?_
 unfold UV
 refine Ok.scan l.length (fun i=>((l,l,((l.length:Nat):Int),(i:Int),()),())) (badS l) rfl Oa (fun i hi hq _ k=>?_) (fun i hi hq k hk=>?_) (fun hq k=>?_)
 .refine Ok.P (Ok.j (Ok.atn hi (Ok.oe ein ?_)))
  rw[QrW hi hq]
  refine Ok.cnd (fun h1=>?_) (fun h1=>Ok.s rfl)
  by_cases h0:0<i
  .refine Ok.P ?_
   rw[show IntKind.wrap .i64 ((i:Int) - 1)=((i - 1:Nat):Int)by rw[Qc Oa];omega]
   refine Ok.A (Ok.p ?_ (Ok.s rfl))
   unfold badS at hq
   unfold inV at h1
   simp only[bae,decide_eq_true_eq]at h1
   simp[h1.1,h1.2,show i≠0 by omega]at hq
   omega
  .unfold badS at hq
   unfold inV at h1
   simp only[bae,decide_eq_true_eq]at h1
   obtain rfl:i=0:=Oa
   simp[h1.1,h1.2]at hq
 .refine Ok.P (Ok.j (Ok.atn hi (Ok.oe ein ?_)))
  unfold badS at hq
  simp only[Bool.not_eq_false',bae,Bool.or_eq_true,decide_eq_true_eq]at hq
  refine Ok.bt (by unfold inV;simp[hq.1.1,hq.1.2]) ?_
  dsimp only
  rw[Qb Oa]
  by_cases h0:0<i
  .refine Ok.P ?_
   rw[show IntKind.wrap .i64 ((i:Int) - 1)=((i - 1:Nat):Int)by rw[Qc Oa];omega]
   exact Ok.A (Ok.N hk)
  .exact Ok.N hk
 .exact Ok.N (Ok.s (Qpz hq).symm)
theorem QjA{l:List Int}{i:Nat}(hi:i<l.length)(h:(l.take i).contains (nth l i)=true):decide l.Nodup=false:=by
 refine decide_eq_false fun hn=>?_
 have hm:=List.contains_iff_mem.1 h
 have e:l=l.take i++(nth l i::l.drop (i+1)):=by rw[<-Qei hi,List.take_append_drop]
 rw[e]at hn
 exact(List.nodup_append.1 hn).2.2 _ hm _ (List.mem_cons_self ..) rfl
theorem Qpy{l:List Int}(h:∀j,j<l.length->(l.take j).contains (nth l j)=false):l.Nodup:=by
 have:∀i,i<=l.length->(l.take i).Nodup:=by
  intro i
  induction i with
  |zero=>intro _;simp
  |succ i ih=>
   intro hi
   rw[Uf Oa]
   refine List.nodup_append.2 ⟨ih Oa,Ob,fun x hx y hy e=>?_⟩
   rw[List.mem_singleton.1 hy]at e
   subst e
   have:=h i Oa
   rw[List.contains_iff_mem.2 hx]at this
   simp at this
 have:=this l.length (Nat.le_refl _)
 rwa [List.take_length]at this
theorem Qyt{l:List Int}(hl:l.length<900):QaD 1000 l=some (QlP l):=by
 refine Ok.eq ?_
 unfold QaD QlP
 refine Ok.scan l.length (fun i=>((l,l,((l.length:Nat):Int),(i:Int),()),())) (fun i=>(l.take i).contains (nth l i)) rfl Oa (fun i hi hq _ k=>?_) (fun i hi hq k hk=>?_) (fun hq k=>?_)
 .refine Ok.P (Ok.atn hi (Ok.natn (Ok.L (Ok.oe (QcY (by simp;omega)) (Ok.bt hq (Ok.s ?_))))))
  rw[QjA hi hq];rfl
 .refine Ok.P (Ok.atn hi (Ok.natn (Ok.L (Ok.oe (QcY (by simp;omega)) (Ok.bf hq ?_)))))
  rw[Qb Oa];exact hk
 .refine Ok.N (Ok.s ?_)
  rw[decide_eq_true (Qpy hq),Bool.true_and]
  exact decide_eq_decide.2 Oa
structure Qx (p:D.Page):Prop where
 st:p.Starts.length<=300
 pe:∀s∈p.Starts,s.People.length<=40/\-1000000<=s.K/\s.K<=1000000
 de:p.Declined.length<=40
 se:p.Seen.length<=100
 nx : -1000000<=p.Next/\p.Next<=1000000
theorem QsX{p:D.Page}(h:Qx p):Vj 1000 p=some (QgS p):=by
 have hst:=h.st
 have hnx:=h.nx
 refine Ok.eq ?_
 unfold Vj QgS
 refine Ok.loop (fun m x=>∃(i:Nat) (k t:Int),x=((t,k,p.Starts,((p.Starts.length:Nat):Int),(i:Int),()),p,())/\i<=p.Starts.length/\-1<=k/\k<=1000000/\Wj p.Next k t (p.Starts.drop i)=Wj p.Next (-1) p.Start p.Starts/\m=p.Starts.length - i) (m:=p.Starts.length) Oa
  ⟨0,-1,p.Start,rfl,Oa,Oa,Oa,rfl,rfl⟩ ?_
 rintro m x ⟨i,k,t,rfl,h1,h2,h2',h3,rfl⟩ K hK
 dsimp only
 refine Ok.ite (fun hi=>?_) (fun hi=>?_)
 .have hlt:i<p.Starts.length:=Oa
  have hs:=h.pe _ (Qi hlt)
  refine Ok.atn hlt (Ok.j ?_)
  obtain⟨s,hse⟩:∃s,nth p.Starts i=s:=⟨_,rfl⟩
  rw[Qei hlt,Wj,hse]at h3
  rw[hse]at hs |-
  rw[<-h3]
  have next:(decide (t<=s.At) && (decide (s.K = -1) || decide (0<=s.K) && decide (k<s.K) && decide (s.K<p.Next)) && setV s.People)=true->
    Ok (K ((s.At,max k s.K,p.Starts,((p.Starts.length:Nat):Int),IntKind.wrap .i64 ((i:Int)+1),()),p,())) (·=(decide (t<=s.At) && (decide (s.K = -1) || decide (0<=s.K) && decide (k<s.K) && decide (s.K<p.Next)) && setV s.People && Wj p.Next (max k s.K) s.At (p.Starts.drop (i+1)) && decide (p.Starts.length<=200))):=fun e=>by
   rw[Qb Oa,h3]
   rw[e,Bool.true_and]at h3
   exact hK _ _ Oa ⟨i+1,max k s.K,s.At,rfl,Oa,Oa,Oa,h3,rfl⟩
  refine Ok.ite (fun g1=>Ok.s (by rw[decide_eq_false (show ¬t<=s.At by omega)];simp)) fun g1=>?_
  refine Ok.oe (Qxl Oa) (Ok.cnd (fun g2=>?_) (fun g2=>Ok.s (by rw[g2];simp)))
  refine Ok.ite (fun g3=>?_) (fun g3=>?_)
  .rw[Qc (x:=k+1) Oa,Qc (x:=p.Next - 1) Oa]
   refine Ok.oe ein (Ok.cnd (fun g4=>?_) (fun g4=>?_))
   .unfold inV at g4
    simp only[bae,decide_eq_true_eq]at g4
    refine next ?_
    rw[g2];simp;omega
   .refine Ok.s ?_
    have:(decide (s.K = -1) || decide (0<=s.K) && decide (k<s.K) && decide (s.K<p.Next))=false:=by
     unfold inV at g4
     simp only[Bool.and_eq_false_iff,decide_eq_false_iff_not]at g4
     rw[decide_eq_false g3,Bool.false_or]
     by_cases q1:0<=s.K<;>by_cases q2:k<s.K<;>by_cases q3:s.K<p.Next<;>simp[q1,q2,q3]<;>omega
    rw[this];simp
  .refine next ?_
   rw[g2];simp;omega
 .have e:i=p.Starts.length:=Oa
  refine Ok.s ?_
  subst e
  rw[List.drop_length,Wj]at h3
  rw[<-h3,Bool.true_and]
  exact decide_eq_decide.2 Oa
theorem QwS{p:D.Page}:UL 1000 p=some (inV p.Last p.Start farV && inV p.Due 0 farV && inV p.Until 0 farV && inV p.Snoozes 0 4 && inV p.Hands 0 4):=by
 refine Ok.eq ?_
 unfold UL
 refine Ok.oe ein (Ok.cnd (fun h1=>Ok.oe ein (Ok.cnd (fun h2=>Ok.oe ein (Ok.cnd (fun h3=>Ok.oe ein (Ok.cnd (fun h4=>Ok.oe ein (Ok.cnd (fun h5=>Ok.s ?_) (fun h5=>Ok.s ?_))) (fun h4=>Ok.s ?_))) (fun h3=>Ok.s ?_))) (fun h2=>Ok.s ?_))) (fun h1=>Ok.s ?_))
 all_goals simp_all [farV]
theorem QmR{n:Nat}{q:D.Policy}(h:Qce n q):Wz 1000 q=some (Yv q):=by
 have h1:=h.rep
 have h2:=h.len
 refine Ok.eq ?_
 unfold Wz
 refine Ok.j (Ok.oe pIn (Ok.P (Ok.N (Ok.s ?_))))
 rw[(Yw h).1,Qc (x:=q.Repeat+1) Oa,Qc]
 have h3:q.Repeat=0\/q.Repeat=1\/q.Repeat=2:=Oa
 rcases h3 with h3|h3|h3<;>rw[h3]<;>omega
theorem QmC{n:Nat}{q:D.Policy}(h:Qce n q):QpL q=true:=by
 unfold QpL
 rw[List.all_eq_true]
 intro s hs
 have:=(h.step s hs).wait
 simp;omega
theorem Qvv{n:Nat}{q:D.Policy}(h:Qce n q):Qn 1000 q.Steps=some false:=by
 have h2:=h.len
 refine Ok.eq ?_
 unfold Qn Q1
 refine Ok.opt (P:=fun r=>r = -1) ?_ fun r hr=>Ok.s (by rw[hr];rfl)
 refine Ok.run q.Steps.length (fun i=>((q.Steps,((q.Steps.length:Nat):Int),(i:Int),()),())) rfl Oa (fun i hi k hk=>?_) (fun k=>?_)
 .have hw:=(h.step _ (Qi hi)).wait
  refine Ok.P (Ok.atn hi (Ok.oe (v:=false) ?_ (Ok.f ?_)))
  .unfold Qah
   rw[ein,ZR]
   unfold inV;simp;omega
  .rw[Qb Oa];exact hk
 .exact Ok.N (Ok.s rfl)
theorem Qjf{b:D.Book}{p:D.Page}(hb:Qy b)(h:Qx p):Yh 1000 b p=some (QL b p):=by
 have hpl:=hb.plen
 refine Ok.eq ?_
 unfold Yh
 refine Ok.j (Ok.oe ein (Ok.cnd (fun h1=>?_) (fun h1=>Ok.s (by simp[QL,h1]))))
 rw[Qc (x:=((b.Policies.length:Nat):Int) - 1) Oa]
 refine Ok.oe ein (Ok.cnd (fun h2=>?_) (fun h2=>Ok.s (by simp[QL,h2])))
 refine Ok.oe ein (Ok.cnd (fun h3=>?_) (fun h3=>Ok.s (by simp[QL,h3])))
 have h2':=h2
 unfold inV at h2'
 simp only[bae,decide_eq_true_eq]at h2'
 refine Ok.at h2'.1 Oa (Ok.j ?_)
 have hq:Qce b.Teams.length (YX b p):=hb.pol _ (Qi Oa)
 have hw:=QmC hq
 show Ok (optc (Qn 1000 (YX b p).Steps) _) _
 refine Ok.oe (Qvv hq) (Ok.f (Ok.oe (QmR hq) (Ok.oe ein ?_)))
 refine Ok.cnd (fun h4=>?_) (fun h4=>Ok.s (by have h4:inV p.Next 0 (Yv (YX b p))=false:=h4;simp[QL,h4]))
 have h4:inV p.Next 0 (Yv (YX b p))=true:=h4
 refine Ok.oe ein (Ok.cnd (fun h5=>?_) (fun h5=>Ok.s (by simp[QL,h5])))
 refine Ok.oe ein (Ok.cnd (fun h6=>?_) (fun h6=>Ok.s (by simp[QL,h6])))
 refine Ok.oe QwS (Ok.cnd (fun h7=>?_) (fun h7=>Ok.s ?_))
 .refine Ok.oe (QsX h) (Ok.cnd (fun h8=>?_) (fun h8=>Ok.s (by simp[QL,h8])))
  have hde:=h.de;have hse:=h.se
  refine Ok.oe (Qxl Oa) (Ok.cnd (fun h9=>?_) (fun h9=>Ok.s (by simp[QL,h9])))
  refine Ok.oe (Qyt Oa) ?_
  simp only[bae]at h7
  exact Ok.cnd (fun h10=>Ok.s (by simp[QL,h1,h2,h3,hw,h4,h5,h6,h7,h8,h9,h10])) (fun h10=>Ok.s (by simp[QL,h10]))
 .symm
  unfold QL
  rw[Bool.eq_false_iff]
  intro hc
  rw[Bool.eq_false_iff]at h7
  apply h7
  simp only[bae]at hc |-
  obtain⟨⟨⟨⟨⟨⟨⟨⟨hc,a1⟩,a2⟩,a3⟩,a4⟩,a5⟩,_⟩,_⟩,_⟩:=hc
  exact⟨⟨⟨⟨a1,a2⟩,a3⟩,a4⟩,a5⟩
theorem Qr0{a:D.Answer}:UT 1000 a=some (Y0 a):=by
 refine Ok.eq ?_
 unfold UT
 refine Ok.j ?_
 refine Ok.ite (fun k3=>?_) (fun k3=>?_)
 .refine Ok.oe aiN (Ok.cnd (fun h1=>Ok.oe aiN (Ok.cnd (fun h2=>Ok.oe aiN (Ok.cnd (fun h3=>Ok.oe aiN (Ok.cnd (fun h4=>Ok.oe aiN (Ok.cnd (fun h5=>Ok.oe aiN (Ok.cnd (fun h6=>Ok.s ?_) (fun h6=>Ok.s ?_))) (fun h5=>Ok.s ?_))) (fun h4=>Ok.s ?_))) (fun h3=>Ok.s ?_))) (fun h2=>Ok.s ?_))) (fun h1=>Ok.s ?_))
  all_goals (unfold Y0;rw[if_pos k3];simp_all)
 .refine Ok.ite (fun k4=>?_) (fun k4=>?_)
  .refine Ok.oe aiN (Ok.cnd (fun h1=>Ok.oe aiN (Ok.cnd (fun h2=>Ok.oe aiN (Ok.cnd (fun h3=>Ok.oe aiN (Ok.cnd (fun h4=>Ok.oe aiN (Ok.cnd (fun h5=>Ok.oe aiN (Ok.cnd (fun h6=>Ok.s ?_) (fun h6=>Ok.s ?_))) (fun h5=>Ok.s ?_))) (fun h4=>Ok.s ?_))) (fun h3=>Ok.s ?_))) (fun h2=>Ok.s ?_))) (fun h1=>Ok.s ?_))
   all_goals (unfold Y0;rw[if_neg k3,if_pos k4];simp_all)
  .have e0:inV a.Arg 0 0=decide (a.Arg=0):=by unfold inV;by_cases h:a.Arg=0<;>simp[h];omega
   refine Ok.oe aiN (Ok.cnd (fun h1=>Ok.oe aiN (Ok.cnd (fun h2=>Ok.oe aiN (Ok.cnd (fun h3=>Ok.oe aiN (Ok.cnd (fun h4=>Ok.oe aiN (Ok.cnd (fun h5=>Ok.oe aiN (Ok.cnd (fun h6=>Ok.s ?_) (fun h6=>Ok.s ?_))) (fun h5=>Ok.s ?_))) (fun h4=>Ok.s ?_))) (fun h3=>Ok.s ?_))) (fun h2=>Ok.s ?_))) (fun h1=>Ok.s ?_))
   all_goals (unfold Y0;rw[if_neg k3,if_neg k4,<-e0];simp_all)
/-
  What runs and answers keep of pages, in plain Lean: what the laws about pages ask for.
-/
section
variable {Q:Int->D.Start->Prop} {M now:Int} {b:D.Book} {p q:D.Page} {c:D.Config}
theorem QrU{R:D.Page->Prop}(hb:Qy b)(hQ:QiV Q M c b)(hs:∀q,QG Q M b q->Z5 q now=true->R q->R (stepQ c b q)):∀(n:Nat) {p:D.Page},QG Q M b p->R p->R (runN c b now n p).1
 |0,p,h,hr=>hr
 |n+1,p,h,hr=>by
  rw[runN]
  split
  .rename_i hw
   have hd:=Qaf hw
   rw[h.stepVis hb hd.1,if_neg Ob]
   exact QrU hb hQ hs n (h.stepQ_inv hb hd.1 (hQ p h)) (hs p h hw hr)
  .exact hr
theorem Qjz{R:D.Page->Prop}(hb:Qy b)(hQ:QiV Q M c b)(hs:∀q,QG Q M b q->Z5 q now=true->R q->R (stepQ c b q))(h:QG Q M b p)(hr:R p):R (runV c b p now).1:=by
 rw[QgL (h.check hb)]
 exact QrU hb hQ hs 100 h hr
structure Kept (p q:D.Page):Prop where
 id:q.ID=p.ID
 pol:q.Policy=p.Policy
 start:q.Start=p.Start
 by_:q.By=p.By
 until_:q.Until=p.Until
 snoozes:q.Snoozes=p.Snoozes
 hands:q.Hands=p.Hands
 seen:q.Seen=p.Seen
theorem Kept.refl(p:D.Page):Kept p p:=⟨rfl,rfl,rfl,rfl,rfl,rfl,rfl,rfl⟩
theorem Kept.step(h:Kept p q):Kept p (stepQ c b q):=by
 obtain⟨h1,h2,h3,h4,h5,h6,h7,h8⟩:=h
 unfold stepQ
 split
 .exact⟨h1,h2,h3,h4,h5,h6,h7,h8⟩
 .split<;>exact⟨h1,h2,h3,h4,h5,h6,h7,h8⟩
theorem Qbn(hb:Qy b)(hQ:QiV Q M c b)(h:QG Q M b p):Kept p (runV c b p now).1:=
 Qjz hb hQ (fun q _ _ hr=>hr.step) h (Kept.refl p)
theorem Qvk(hw:Z5 q now=true)(h:q.Last<=now):(stepQ c b q).Last<=now:=by
 have hd:=Qaf hw
 have hs:=Qej hd.1
 have h2:=hd.2
 unfold dueV at h2
 unfold stepQ
 split
 .rename_i e;rw[if_neg Oa,if_pos e]at h2;dsimp only at h2 |-;omega
 .rename_i e;rw[if_pos Oa]at h2
  split<;>dsimp only at h2|-<;>omega
theorem Qu7(hb:Qy b)(hQ:QiV Q M c b)(h:QG Q M b p)(hl:p.Last<=now):(runV c b p now).1.Last<=now:=
 Qjz (R:=fun q=>q.Last<=now) hb hQ (fun q _ hw hr=>Qvk hw hr) h hl
theorem Qj5(h:p.State=0):dueV p=(p.Due,true):=by unfold dueV;rw[if_pos h]
theorem Qon(h:p.State=2):dueV p=(p.Until,true):=by unfold dueV;rw[if_neg Oa,if_pos h]
theorem Qpp{a:D.Answer}(h:XW p a=0):p.Last<=a.At/\Z5 p a.At=false/\p.State≠4/\(p.State=3->a.Kind=5)/\(p.State=1->a.Kind≠2)/\p.Seen.length≠64:=by
 revert h
 unfold XW
 split
 .simp
 .rename_i h1
  split
  .simp
  .rename_i h2
   split
   .simp
   .rename_i h3
    intro _
    have hw:Z5 p a.At=false:=by cases hb:Z5 p a.At<;>simp_all
    exact⟨Oa,hw,Oa,Oa,Oa,Oa⟩
theorem QlY{a:D.Answer}:(Xl p a).ID=p.ID/\(Xl p a).Policy=p.Policy/\(Xl p a).Start=p.Start/\(Xl p a).Next=p.Next:=by
 unfold Xl;repeat' split
 all_goals exact⟨rfl,rfl,rfl,rfl⟩
theorem Qn1{a:D.Answer}(h:p.Last<=a.At):(Xl p a).Last<=a.At:=by
 unfold Xl;repeat' split
 all_goals dsimp only
 all_goals omega
theorem QjG{a:D.Answer}:(a.Kind=4->(Xl p a).Starts=p.Starts++[⟨-1,a.At,[a.Arg]⟩])/\(a.Kind≠4->(Xl p a).Starts=p.Starts):=by
 unfold Xl
 refine⟨fun h=>?_,fun h=>?_⟩
 .rw[if_neg Oa,if_neg Oa,if_neg Oa,if_pos h]
 .repeat' split
  all_goals first|rfl|omega
end
def kN(l:List D.Start)(i:Nat):Int:=(((l.take i).filter fun s=>decide (0<=s.K)).length:Int)
def tN(st:Int)(l:List D.Start)(i:Nat):Int:=if i=0 then st else(nth l (i - 1)).At
theorem Qex{α:Type}[Inhabited α]{l m:List α}{i:Nat}(h:i<l.length):nth (l++m) i=nth l i:=by
 simp[nth,List.getD_eq_getElem?_getD,List.getElem?_append_left h]
theorem Qhn{α:Type}[Inhabited α]{l:List α}{x:α}:nth (l++[x]) l.length=x:=by
 simp[nth,List.getD_eq_getElem?_getD]
theorem Qrv{l m:List D.Start}{i:Nat}(h:i<=l.length):kN (l++m) i=kN l i:=by
 unfold kN;rw[List.take_append_of_le_length h]
theorem Qui{l:List D.Start}{x:D.Start}:kN (l++[x]) (l.length+1)=kN l l.length+(if 0<=x.K then 1 else 0):=by
 unfold kN
 rw[List.take_of_length_le Ob,List.take_of_length_le (Nat.le_refl _),List.filter_append,List.length_append]
 by_cases h:0<=x.K
 .simp[h]
 .simp[h]
theorem QrZ{st:Int}{l m:List D.Start}{i:Nat}(h:i<=l.length):tN st (l++m) i=tN st l i:=by
 unfold tN
 split
 .rfl
 .rw[Qex Oa]
theorem Qvn{st:Int}{l:List D.Start}{i:Nat}:tN st l (i+1)=(nth l i).At:=by unfold tN;rw[if_neg Oa];rfl
theorem Goes.scan{Q:D.Start->Prop}{st k t h:Int}{l:List D.Start}(g:Goes Q st l k t h):kN l l.length=k/\tN st l l.length=t/\
  ∀i,i<l.length->tN st l i<=(nth l i).At/\setV (nth l i).People=true/\((nth l i).K = -1/\0<i\/(nth l i).K=kN l i/\0<=(nth l i).K/\Q (nth l i))/\(i=0->(nth l i).At=st):=by
 induction g with
 |nil=>exact⟨rfl,rfl,fun i hi=>by simp at hi⟩
 |@step l k t h a P g h1 h2 h3 h4 ih=>
  obtain⟨i1,i2,i3⟩:=ih
  have hp:=g.pos
  refine⟨by rw[List.length_append,List.length_singleton,Qui,i1,if_pos (by dsimp only;omega)],by rw[List.length_append,List.length_singleton,Qvn,Qhn],fun i hi=>?_⟩
  by_cases e:i=l.length
  .subst e
   rw[Qhn,QrZ (Nat.le_refl _),Qrv (Nat.le_refl _),i1,i2]
   exact⟨h1,h3,.inr ⟨rfl,hp.1,h4⟩,fun e=>h2 (List.length_eq_zero_iff.1 e)⟩
  .have hi':i<l.length:=by rw[List.length_append,List.length_singleton]at hi;omega
   rw[Qex hi',QrZ Oa,Qrv Oa]
   exact i3 i hi'
 |@hand l k t h a x g h1 h2 h3 h4 ih=>
  obtain⟨i1,i2,i3⟩:=ih
  have hne:l.length≠0:=fun e=>h2 (List.length_eq_zero_iff.1 e)
  refine⟨by rw[List.length_append,List.length_singleton,Qui,i1,if_neg Ob];simp,by rw[List.length_append,List.length_singleton,Qvn,Qhn],fun i hi=>?_⟩
  by_cases e:i=l.length
  .subst e
   rw[Qhn,QrZ (Nat.le_refl _),Qrv (Nat.le_refl _),i2]
   exact⟨h1,QrX h3 h4,.inl ⟨rfl,Oa⟩,fun e=>absurd e hne⟩
  .have hi':i<l.length:=by rw[List.length_append,List.length_singleton]at hi;omega
   rw[Qex hi',QrZ Oa,Qrv Oa]
   exact i3 i hi'
/-
  What checks of pages say, and what steps, runs and answers keep of the lengths of pages.
-/
open Go AM
section
variable {R X Y:Type} {Q:R->Prop}
theorem AM.Ok.run2{B:(X×Y->Option R)->X×Y->Option R}(n:Nat)(st:Nat->X){r:Y}{fu:Nat}{x:X}(hx:x=st 0)(hf:n<fu)(hs:∀i,i<n->∀k,(Ok (k (st (i+1),r)) Q->Ok (B k (st i,r)) Q))(h:∀k,Ok (B k (st n,r)) Q):Ok (Qg B fu (x,r)) Q:=
 Ok.run n (fun i=>(st i,r)) (by rw[hx]) hf hs h
theorem AM.Ok.scan2{B:(X×Y->Option R)->X×Y->Option R}(n:Nat)(st:Nat->X){r:Y}(q:Nat->Bool){fu:Nat}{x:X}(hx:x=st 0)(hf:n<fu)(hy:∀i,i<n->q i=true->(∀j,j<i->q j=false)->∀k,Ok (B k (st i,r)) Q)(hn:∀i,i<n->q i=false->∀k,(Ok (k (st (i+1),r)) Q->Ok (B k (st i,r)) Q))(he:(∀j,j<n->q j=false)->∀k,Ok (B k (st n,r)) Q):Ok (Qg B fu (x,r)) Q:=
 Ok.scan n (fun i=>(st i,r)) q (by rw[hx]) hf hy hn he
end
theorem Qvc{α:Type}[Inhabited α]{l:List α}{i:Nat}(h:i<l.length):l.set i (nth l i)=l:=by
 have e:nth l i=l[i]:=by simp[nth,List.getD_eq_getElem?_getD,List.getElem?_eq_getElem h]
 rw[e];exact List.set_getElem_self h
theorem asc32:Asc ((List.range 32).map fun(i:Nat)=>(i:Int)):=by unfold Asc;decide
structure CkF (b:D.Book) (p:D.Page):Prop where
 id:1<=p.ID/\p.ID<=999999
 pol:0<=p.Policy/\p.Policy<(b.Policies.length:Int)
 start:0<=p.Start/\p.Start<=8589934592
 next:0<=p.Next/\p.Next<=Yv (YX b p)
 state:0<=p.State/\p.State<=4
 by_ : -1<=p.By/\p.By<=31
 last:p.Start<=p.Last/\p.Last<=farV
 due:0<=p.Due/\p.Due<=farV
 until_:0<=p.Until/\p.Until<=farV
 snoozes:0<=p.Snoozes/\p.Snoozes<=4
 hands:0<=p.Hands/\p.Hands<=4
 starts:p.Starts.length<=200
 declined:setV p.Declined=true
 seen:p.Seen.Nodup/\p.Seen.length<=64
section
variable {n:Nat} {c:D.Config} {b:D.Book} {p q:D.Page} {now:Int}
theorem Ym(h:QL b p=true):CkF b p:=by
 unfold QL QgS QlP at h
 simp only[bae,QW,decide_eq_true_eq]at h
 obtain⟨⟨⟨⟨⟨⟨⟨⟨⟨⟨⟨⟨⟨⟨h1,h2⟩,h3⟩,h4⟩,h5⟩,h6⟩,h7⟩,h8⟩,h9⟩,h10⟩,h11⟩,h12⟩,h13⟩,h14⟩,h15⟩:=h
 exact⟨h1,Oa,h3,h5,h6,h7,h8,h9,h10,h11,h12,h13.2,h14,h15⟩
theorem CkF.polOK(h:CkF b p)(hb:Qy b):Qce b.Teams.length (YX b p):=hb.pol _ (Qi (by have:=h.pol;omega))
theorem Qx.stepQ(h:Qx p)(hc:CkF b p)(hb:Qy b):Qx (stepQ c b p):=by
 have h1:=hc.starts;have h2:=hc.next
 have h3:=Yw (hc.polOK hb)
 unfold Go.Proofs.YtlllfgmajglnhaaGreat.stepQ
 split
 .exact⟨h.st,h.pe,h.de,h.se,h.nx⟩
 .split
  .exact⟨h.st,h.pe,h.de,h.se,h.nx⟩
  .refine⟨by dsimp only;simp;omega,?_,by dsimp only;simp,h.se,by dsimp only;omega⟩
   refine VL h.pe ⟨?_,by dsimp only;omega,by dsimp only;omega⟩
   have:=Qob (c:=c) (b:=b) (s:=Zr b p) (t:=p.Due)
   dsimp only;omega
theorem Qx.page0:Qx page0:=⟨by simp[Go.Proofs.YtlllfgmajglnhaaGreat.page0],by simp[Go.Proofs.YtlllfgmajglnhaaGreat.page0],by simp[Go.Proofs.YtlllfgmajglnhaaGreat.page0],by simp[Go.Proofs.YtlllfgmajglnhaaGreat.page0],by simp[Go.Proofs.YtlllfgmajglnhaaGreat.page0]⟩
theorem Qx.stepV(h:Qx p)(hb:Qy b):Qx (stepV c b p).1:=by
 unfold Go.Proofs.YtlllfgmajglnhaaGreat.stepV
 split
 .exact .page0
 .rename_i hc
  split
  .exact .page0
  .split
   .exact .page0
   .exact h.stepQ (Ym (by simpa using hc)) hb
theorem Qx.runN(hb:Qy b):∀(k:Nat) {p:D.Page},Qx p->Qx (runN c b now k p).1
 |0,p,h=>h
 |k+1,p,h=>by
  rw[Go.Proofs.YtlllfgmajglnhaaGreat.runN]
  split
  .split
   .exact .page0
   .exact Qx.runN hb k (h.stepV hb)
  .exact h
theorem Qx.runV(h:Qx p)(hb:Qy b):Qx (runV c b p now).1:=by
 unfold Go.Proofs.YtlllfgmajglnhaaGreat.runV
 split
 .exact .page0
 .exact Qx.runN hb 100 h
theorem Qx.answerV{a:D.Answer}(h:Qx p)(hb:Qy b):Qx (answerV b p a).1:=by
 unfold Go.Proofs.YtlllfgmajglnhaaGreat.answerV
 split
 .exact .page0
 .rename_i hc
  have hf:CkF b p:=Ym (by cases hk:QL b p<;>simp_all)
  have hx:=hf.starts;have hs:=hf.seen
  split
  .exact .page0
  .split
   .exact h
   .split
    .exact .page0
    .have hd:(Ug p a).length<=40:=by
      unfold Ug
      split
      .have hde:=UB.1 hf.declined
       have h32:(Qhr p.Declined a.Person).length<=p.Declined.length+1:=by
        unfold Qhr
        rw[List.length_append,List.length_cons]
        have hsum:∀l:List Int,(l.filter (fun z=>decide (z<a.Person))).length+(l.filter (fun z=>decide (a.Person<z))).length<=l.length:=by
         intro l
         induction l with
         |nil=>simp
         |cons y l ih=>
          rw[List.filter_cons,List.filter_cons,List.length_cons]
          by_cases g1:y<a.Person
          .rw[if_pos (by simpa using g1),if_neg (by simp;omega),List.length_cons];omega
          .by_cases g2:a.Person<y
           .rw[if_neg (by simpa using g1),if_pos (by simpa using g2),List.length_cons];omega
           .rw[if_neg (by simpa using g1),if_neg (by simpa using g2)];omega
        have:=hsum p.Declined
        omega
       have hlen:p.Declined.length<=32:=by
        have e:p.Declined=((List.range 32).map fun(i:Nat)=>(i:Int)).filter fun z=>p.Declined.contains z:=Qec hde.1 (List.Pairwise.filter _ asc32) fun z=>by
         simp only[List.mem_filter,List.contains_iff_mem,List.mem_map,List.mem_range]
         exact⟨fun hz=>⟨⟨z.toNat,by have:=hde.2 z hz;omega,by have:=hde.2 z hz;omega⟩,hz⟩,fun hz=>hz.2⟩
        rw[e]
        exact Nat.le_trans (List.length_filter_le _ _) Ob
       omega
      .exact h.de
     have hse:(p.Seen++[a.ID]).length<=100:=by simp;omega
     unfold Xl
     split
     .split
      .exact⟨h.st,h.pe,h.de,hse,h.nx⟩
      .exact⟨h.st,h.pe,h.de,hse,h.nx⟩
     .split
      .exact⟨h.st,h.pe,hd,hse,h.nx⟩
      .split
       .exact⟨h.st,h.pe,h.de,hse,h.nx⟩
       .split
        .exact⟨by dsimp only;simp;omega,VL h.pe ⟨Ob,by dsimp only;omega,by dsimp only;omega⟩,by dsimp only;simp,hse,h.nx⟩
        .exact⟨h.st,h.pe,h.de,hse,h.nx⟩
theorem QG.plen{Q:Int->D.Start->Prop}{M:Int}(h:QG Q M b p)(hb:Qy b):Qx p:=by
 obtain⟨h1,h2,h3⟩:=h.len hb
 have hf:=Ym (h.check hb)
 have hc:=Yw (h.polOK hb)
 have hlen:∀{l:List Int},setV l=true->l.length<=40:=by
  intro l hl
  have hde:=UB.1 hl
  have e:l=((List.range 32).map fun(i:Nat)=>(i:Int)).filter fun z=>l.contains z:=Qec hde.1 (List.Pairwise.filter _ asc32) fun z=>by
   simp only[List.mem_filter,List.contains_iff_mem,List.mem_map,List.mem_range]
   exact⟨fun hz=>⟨⟨z.toNat,by have:=hde.2 z hz;omega,by have:=hde.2 z hz;omega⟩,hz⟩,fun hz=>hz.2⟩
  rw[e]
  exact Nat.le_trans (List.length_filter_le _ _) Ob
 refine⟨Oa,fun s hs=>?_,hlen h.declined,by have:=hf.seen;omega,by have:=hf.next;omega⟩
 obtain⟨t,g1,_⟩:=h.goes
 obtain⟨k1,k2,k3⟩:=g1.scan
 obtain⟨i,hi,rfl⟩:=List.getElem_of_mem hs
 have:=k3 i hi
 have hkk:kN p.Starts i<=300:=by
  unfold kN
  have:=List.length_filter_le (fun s:D.Start=>decide (0<=s.K)) (p.Starts.take i)
  have:=List.length_take_le i p.Starts
  omega
 rw[show nth p.Starts i=p.Starts[i]by simp[nth,List.getD_eq_getElem?_getD,List.getElem?_eq_getElem hi]]at this
 exact⟨hlen this.2.1,Oa,Oa⟩
end
/-
  Pages on their way: what the program's steps and runs compute.
-/
section
attribute [local irreducible] dueV stepV runV QL
section
variable {n:Nat} {c:D.Config} {b:D.Book} {p q:D.Page} {now:Int}
theorem Ql7:Wt 1000 p=some (dueV p):=by
 unfold Wt dueV
 by_cases h0:p.State=0
 .simp[cd,AM.cnd,h0]
 .by_cases h2:p.State=2<;>simp[cd,AM.cnd,h0,h2]
theorem QwY{t:Int}:UM 1000 p t=some (Z5 p t):=by
 unfold UM Z5
 rw[Ql7,ZR]
 obtain⟨a,d⟩:=dueV p
 cases d<;>by_cases h:a<=t<;>simp[cd,AM.cnd,h]
theorem Qoi{l:List D.Start}(h:l.length<=1000):Xd 1000 l=some l:=by unfold Xd;exact Xs Oa
theorem Qj0{l:List Int}(h:l.length<=1000):Qv 1000 l=some l:=by unfold Qv;exact Xs Oa
theorem QtM{l:List Int}(h:l.length<=1000):Wo 1000 l=some l:=by unfold Wo;exact Xs Oa
theorem Qj3(h:Qx p):Xz 1000 p=some p:=by
 have h1:=h.st;have h2:=h.de;have h3:=h.se
 refine Ok.eq ?_
 unfold Xz
 refine Ok.oe (Qoi Oa) ?_
 refine Ok.run2 p.Starts.length (fun i=>(((p.Starts.length:Nat):Int),(i:Int),())) rfl Oa (fun i hi k hk=>?_) (fun k=>?_)
 .dsimp only
  have hp:=(h.pe _ (Qi hi)).1
  refine Ok.P (Ok.natn (Ok.lt hi (Ok.get hi (Ok.oe (QtM Oa) (Ok.natn (Ok.lt hi (Ok.get hi ?_)))))))
  rw[Qb Oa,show(D.Start.mk (nth p.Starts i).K (nth p.Starts i).At (nth p.Starts i).People)=nth p.Starts i from rfl,Qvc hi]
  exact hk
 .dsimp only
  exact Ok.N (Ok.oe (Qj0 Oa) (Ok.oe (Qj0 Oa) (Ok.s rfl)))
def QsE(q:D.Policy)(i:Int):Int×Int×Bool:=if 0<=i/\i<Yv q then(i % (q.Steps.length:Int),i / (q.Steps.length:Int),true)else(0,0,false)
theorem Qyl{m:Nat}{q:D.Policy}{i:Int}(h:Qce m q):Qbg 1000 q i=some (QsE q i):=by
 have h2:=h.len
 have hc:=Yw h
 refine Ok.eq ?_
 unfold Qbg QsE
 refine Ok.oe (QmR h) ?_
 rw[Qc (x:=Yv q - 1) Oa]
 refine Ok.oe pIn ?_
 by_cases hi:0<=i/\i<Yv q
 .have g1:=Int.ediv_le_self (a:=i) (q.Steps.length:Int) hi.1
  have g2:0<=i / (q.Steps.length:Int):=Int.ediv_nonneg hi.1 Oa
  refine Ok.np Oa (Ok.Z (Ok.Z (Ok.s ?_)))
  rw[if_pos hi,Int.tmod_eq_emod_of_nonneg hi.1,Int.tdiv_eq_ediv_of_nonneg hi.1,Qc Oa]
 .refine Ok.nn Oa (Ok.s ?_)
  rw[if_neg hi]
theorem Qxc{q:D.Policy}{i:Int}(h:1<=q.Steps.length):0<=i % (q.Steps.length:Int)/\i % (q.Steps.length:Int)<(q.Steps.length:Int):=
 ⟨Int.emod_nonneg _ Oa,Int.emod_lt_of_pos _ Oa⟩
abbrev pgA(p:D.Page):Int×Int×Int×Int×Int×Int×Int×Int×Int×Int×Int×Unit:=(p.ID,p.Policy,p.Start,p.Next,p.Due,p.State,p.By,p.Until,p.Last,p.Snoozes,p.Hands,())
theorem QjP(h:Q0 n c)(hn:n<=48){x:Int}{s:D.PolicyStep}:Zy 1000 x c p s=some (!WW c x p.Due s.Urgent,p):=by
 unfold Zy
 rw[QwC h hn,ZR,WG,WG]
theorem Qx2(h:Q0 n c)(hn:n<=48){s:D.PolicyStep}{l0:List Int}{m:Nat}(hm:m<=l0.length)(hl:m<=900):
  Ok (Qu 1000 0 m l0 c p s) fun r=>r.2=p/\(r.1 = -1/\(∀j,j<m->WW c (nth l0 j) p.Due s.Urgent=true)\/∃i:Nat,r.1=(i:Int)/\i<m/\WW c (nth l0 i) p.Due s.Urgent=false/\∀j,j<i->WW c (nth l0 j) p.Due s.Urgent=true):=by
 unfold Qu
 rw[Nat.sub_zero]
 refine Ok.scan2 m (fun i=>(0,m,((m:Nat):Int),(i:Int),())) (fun i=>!WW c (nth l0 i) p.Due s.Urgent) rfl Oa (fun i hi hq hj k=>?_) (fun i hi hq k hk=>?_) (fun hq k=>?_)
 .dsimp only
  rw[Nat.sub_zero]
  refine Ok.P (Ok.natn (Ok.E ?_))
  rw[Nat.zero_add]
  refine Ok.G (Ok.oe (QjP (p:=p) h hn) ?_)
  exact Ok.bt hq (Ok.sameC (Ok.sameC (Ok.sameC (Ok.s ⟨rfl,.inr ⟨i,rfl,hi,by simpa using hq,fun j hj'=>by simpa using hj j hj'⟩⟩))))
 .dsimp only
  rw[Nat.sub_zero]
  refine Ok.P (Ok.natn (Ok.E ?_))
  rw[Nat.zero_add]
  refine Ok.G (Ok.oe (QjP (p:=p) h hn) (Ok.bf hq ?_))
  rw[Qb Oa]
  exact hk
 .exact Ok.N (Ok.sameC (Ok.sameC (Ok.sameC (Ok.s ⟨rfl,.inl ⟨rfl,fun j hj=>by simpa using hq j hj⟩⟩))))
theorem QxO(h:Q0 n c)(hn:n<=48){s:D.PolicyStep}{l0:List Int}{m:Nat}(hm:m<=l0.length)(hl:l0.length<=900):
  Ok (Qt 1000 0 m l0 c p s) fun r=>r.2.2.1=p/\List.drop r.1 (List.take r.2.1 r.2.2.2)=(l0.take m).filter fun z=>WW c z p.Due s.Urgent:=by
 unfold Qt
 refine Ok.opt (Qx2 h hn hm Oa) fun⟨r,p'⟩ ⟨hp',hr⟩=>?_
 dsimp only at hp' hr |-
 subst hp'
 rcases hr with⟨rfl,hall⟩|⟨i,rfl,hi,hx,hj⟩
 .refine Ok.p rfl (Ok.sameC (Ok.sameC (Ok.s ⟨rfl,?_⟩)))
  dsimp only
  rw[List.drop_zero,Qh2 (q:=fun z=>WW c z p'.Due s.Urgent) hm hall]
 .refine Ok.N ?_
  rw[Qb Oa]
  refine Ok.loop (fun q x=>∃(w j:Nat) (a:List Int),x=((0,m,((w:Nat):Int),((j:Nat):Int),()),c,pgA p',s,a,p'.Starts,p'.Declined,p'.Seen,())/\QjE (l0) (fun z=>WW c z p'.Due s.Urgent) w j a/\(w<j/\j<=m)/\q=m - j) (m:=m - (i+1)) Oa ⟨i,i+1,l0,rfl,Qom Oa hj hx,Oa,rfl⟩ ?_
  rintro q x ⟨w,j,a,rfl,hinv,hjm,rfl⟩ K hK
  have h1:=hinv.wj
  have h2:=hinv.len
  dsimp only
  rw[Nat.sub_zero]
  refine Ok.ite (fun hlt=>?_) (fun hge=>?_)
  .refine Ok.j (Ok.natn (Ok.E ?_))
   rw[Nat.zero_add]
   refine Ok.G (Ok.oe (QjP (p:=p') h hn) ?_)
   dsimp only
   rw[Bool.not_not]
   refine Ok.cnd (fun hq=>?_) (fun hq=>?_)
   .refine Ok.natn (Ok.E ?_)
    rw[Nat.zero_add]
    refine Ok.G ?_
    rw[Qb Oa,Qb Oa]
    exact hK _ _ Oa ⟨w+1,j+1,_,rfl,Qrf hinv Oa hq,Oa,rfl⟩
   .rw[Qb Oa]
    exact hK _ _ Oa ⟨w,j+1,a,rfl,Qrg hinv Oa hq,Oa,rfl⟩
  .have ej:j=m:=Oa
   have hd:=hinv.done
   rw[ej]at hd
   refine Ok.natn (Ok.E (Ok.L (Ok.L (Ok.natn (Ok.L (Ok.sameC (Ok.sameC (Ok.s ⟨rfl,?_⟩))))))))
   dsimp only
   simp only[Nat.zero_add,List.drop_zero]
   rw[List.append_assoc,List.take_append_of_le_length (by simp;omega),List.take_take,Nat.min_self]
   exact hd
theorem QvQ(h:Q0 n c)(hn:n<=48)(hb:Qy b)(hf:CkF b p)(hnx:p.Next<Yv (YX b p))(hs:p.Starts.length<=300):
  Ok (Yi 1000 c b p) fun r=>r.1={ p with Starts:=p.Starts++[⟨p.Next,p.Due,Qbu c b (Zr b p) p.Due⟩],Declined:=[],Next:=p.Next+1,Due:=if Qbu c b (Zr b p) p.Due=[]then p.Due else p.Due+(Zr b p).Wait }:=by
 have hp:=hf.pol;have h0:=hf.next;have hd:=hf.due
 have hq:Qce b.Teams.length (YX b p):=hf.polOK hb
 have hpl:=hb.plen;have hql:=hq.len
 have hc:=Yw hq
 unfold farV at hd
 unfold Yi
 refine Ok.at hp.1 hp.2 ?_
 show Ok (optc (Qbg 1000 (YX b p) p.Next) _) _
 refine Ok.oe (Qyl hq) ?_
 unfold QsE
 rw[if_pos ⟨h0.1,hnx⟩]
 dsimp only
 have hm:=Qxc (q:=YX b p) (i:=p.Next) hql.1
 refine Ok.at hm.1 hm.2 ?_
 have hst:=hq.step _ (QqW hq h0.1)
 have hw:0<=(Zr b p).Wait/\(Zr b p).Wait<=900:=hst.wait
 have hlen:(Zr b p).Targets.length<=2:=hst.len
 rw[show nth (nth b.Policies p.Policy.toNat).Steps (p.Next % ((YX b p).Steps.length:Int)).toNat=Zr b p from rfl]
 refine Ok.opt (QuH h hn hb hst.target Oa) fun⟨v0,v1,v2⟩ ⟨g1,g2,g3,g4⟩=>?_
 dsimp only at g1 g2 g3 g4 |-
 subst g1
 refine Ok.opt (QxO (s:=Zr b p) h hn g2 Oa) fun⟨w0,w1,w2,w3⟩ ⟨e1,e2⟩=>?_
 dsimp only at e1 e2 |-
 subst e1
 rw[e2,g4]
 show Ok (AM.lec (w2.Starts.length+_) _ _) _
 have hcall:(List.filter (fun z=>WW c z w2.Due (Zr b w2).Urgent) (WZ c b (Zr b w2).Targets w2.Due))=Qbu c b (Zr b w2) w2.Due:=rfl
 rw[hcall]
 refine Ok.LS (Ok.j (Ok.ite (fun hpos=>Ok.s ?_) (fun hpos=>Ok.s ?_)))
 .have hne:Qbu c b (Zr b w2) w2.Due≠[]:=fun e=>by rw[e]at hpos;simp at hpos
  show _=_
  rw[if_neg hne,Qc Oa,Qc Oa]
 .have he:Qbu c b (Zr b w2) w2.Due=[]:=List.eq_nil_iff_length_eq_zero.2 Oa
  show _=_
  rw[if_pos he,Qc Oa]
theorem Qyy(h:Q0 n c)(hn:n<=48)(hb:Qy b)(hp:Qx p):QaB 1000 c b p=some (stepV c b p):=by
 refine Ok.eq ?_
 unfold QaB
 have hst:=hp.st
 refine Ok.oe Ql7 (Ok.oe (Qjf hb hp) (Ok.ncnd (fun hc=>Ok.s ?_) (fun hc=>?_)))
 .unfold stepV;rw[if_pos hc];rfl
 have hf:=Ym hc
 refine Ok.ncnd (fun hd=>Ok.s ?_) (fun hd=>?_)
 .unfold stepV;rw[if_neg (by rw[hc];simp),if_pos hd];rfl
 refine Ok.ite (fun hl=>Ok.s ?_) (fun hl=>?_)
 .unfold stepV;rw[if_neg (by rw[hc];simp),if_neg (by rw[hd];simp),if_pos Oa];rfl
 have hV:stepV c b p=(stepQ c b p,0):=by unfold stepV;rw[if_neg (by rw[hc];simp),if_neg (by rw[hd];simp),if_neg Oa]
 rw[hV]
 have hs:=Qej hd
 have hpol:=hf.pol;have hnx:=hf.next;have hl2:=hf.last;have hdu:=hf.due
 refine Ok.oe (Qj3 hp) (Ok.j (Ok.ite (fun h2=>Ok.s ?_) (fun h2=>?_)))
 .unfold stepQ
  rw[if_pos h2,Qon h2,Int.max_comm]
 .have h0:p.State=0:=Oa
  refine Ok.at hpol.1 hpol.2 ?_
  show Ok (optc (Wz 1000 (YX b p)) _) _
  refine Ok.oe (QmR (hf.polOK hb)) (Ok.ite (fun he=>Ok.s ?_) (fun he=>?_))
  .unfold stepQ
   rw[if_neg h2,if_pos Oa,Qj5 h0,Int.max_comm]
  .have hf':CkF b { p with Last:=max p.Last p.Due }:=⟨hf.id,hf.pol,hf.start,hf.next,hf.state,hf.by_,by dsimp only;omega,hf.due,hf.until_,hf.snoozes,hf.hands,hf.starts,hf.declined,hf.seen⟩
   have hb':=QvQ (p:={ p with Last:=max p.Last p.Due }) h hn hb hf' (by show p.Next<Yv (YX b p);omega) hst
   have hQ:stepQ c b p={ p with Last:=max p.Due p.Last,Starts:=p.Starts++[⟨p.Next,p.Due,Qbu c b (Zr b p) p.Due⟩],Declined:=[],Next:=p.Next+1,Due:=if Qbu c b (Zr b p) p.Due=[]then p.Due else p.Due+(Zr b p).Wait }:=by
    unfold stepQ;rw[if_neg h2,if_neg (show ¬Yv (YX b p)<=p.Next by omega)]
   rw[Qj5 h0,hQ,Int.max_comm p.Due p.Last]
   refine Ok.opt hb' fun⟨r,z⟩ hr=>Ok.s ?_
   dsimp only at hr |-
   subst hr
   rfl
theorem Qzc(h:Q0 n c)(hn:n<=48)(hb:Qy b)(hp:Qx p):QbE 1000 c b p now=some (runV c b p now):=by
 refine Ok.eq ?_
 unfold QbE
 refine Ok.oe (Qjf hb hp) (Ok.ncnd (fun hc=>Ok.s ?_) (fun hc=>?_))
 .unfold runV;rw[if_pos hc];rfl
 rw[QgL hc]
 have hf:=Ym hc
 have hcn:=Yw (hf.polOK hb)
 have hnx:=hf.next
 have hle:UX b p<=11:=by
  unfold UX
  split
  .omega
  .split<;>omega
 refine Ok.oe (Qj3 hp) ?_
 refine Ok.loop (fun m x=>∃(q:D.Page) (k:Nat),x=((now,()),c,b,q,page0,())/\Qx q/\UX b q+1<=k/\runN c b now k q=runN c b now 100 p/\m=UX b q) (m:=UX b p) Oa ⟨p,100,rfl,hp,Oa,rfl,rfl⟩ ?_
 rintro m x ⟨q,k,rfl,hq,hk,he,rfl⟩ K hK
 dsimp only
 obtain⟨k,rfl⟩:∃k',k=k'+1:=⟨k - 1,Oa⟩
 rw[runN]at he
 refine Ok.oe QwY (Ok.cnd (fun hw=>?_) (fun hw=>Ok.s ?_))
 .rw[if_pos hw]at he
  refine Ok.oe (Qyy h hn hb hq) (Ok.ite (fun h1=>Ok.s ?_) (fun h1=>?_))
  .rw[if_pos h1]at he;exact he
  .rw[if_neg h1]at he
   have hd:=Qaf hw
   have hst:stepV c b q=(stepQ c b q,0):=by
    revert h1
    unfold stepV
    split
    .simp
    .split
     .simp
     .split
      .simp
      .intro _;rfl
   have hl:=QcP (c:=c) (b:=b) hd.1
   rw[hst]at he |-
   refine hK (UX b (stepQ c b q)) _ hl ⟨stepQ c b q,k,rfl,?_,Oa,he,rfl⟩
   have:=hq.stepV (c:=c) hb
   rw[hst]at this;exact this
 .rw[if_neg (by simp[hw])]at he;exact he
end
end
/-
  Pages on their way: what the reference's checks, steps, runs and answers compute.
-/
section
open Go AM
attribute [local irreducible] dueV stepV runV QL
section
variable {n:Nat} {c:D.Config} {b:D.Book} {p q:D.Page} {now:Int} {a:D.Answer}
theorem rin{fu:Nat}{x lo hi:Int}:QQ fu x lo hi=some (inV x lo hi):=by
 unfold QQ inV
 by_cases h1:lo<=x<;>by_cases h2:x<=hi<;>simp[cd,AM.cnd,h1,h2]
theorem Qw2{l:List Int}{i:Nat}:badS l i=true↔¬(0<=nth l i/\nth l i<=31/\(i=0\/nth l (i - 1)<nth l i)):=by
 unfold badS
 rw[Bool.not_eq_true',Bool.eq_false_iff]
 simp only[ne_eq,bae,Bool.or_eq_true,decide_eq_true_eq,and_assoc]
theorem QyO{l:List Int}{i:Nat}:badS l i=false↔(0<=nth l i/\nth l i<=31/\(i=0\/nth l (i - 1)<nth l i)):=by
 rw[<-Bool.not_eq_true,Qw2,Decidable.not_not]
theorem QnK{l:List Int}(hl:l.length<900):Qdm 1000 l 32=some (setV l):=by
 refine Ok.eq ?_
 unfold Qdm
 refine Ok.scan l.length (fun i=>((l,32,(i:Int),()),())) (badS l) rfl Oa (fun i hi hq _ k=>?_) (fun i hi hq k hk=>?_) (fun hq k=>?_)
 .have hb:=Qw2.1 hq
  dsimp only
  rw[QrW hi hq]
  refine Ok.P (Ok.j (Ok.atn hi (Ok.ite (fun h1=>Ok.s rfl) (fun h1=>Ok.atn hi (Ok.ite (fun h2=>Ok.s rfl) (fun h2=>?_))))))
  have h0:0<i:=Oa
  refine Ok.P ?_
  rw[show IntKind.wrap .i64 ((i:Int) - 1)=((i - 1:Nat):Int)by rw[Qc Oa];omega]
  exact Ok.A (Ok.atn hi (Ok.P (Ok.s rfl)))
 .have hb:=QyO.1 hq
  dsimp only
  refine Ok.P (Ok.j (Ok.atn hi (Ok.N (Ok.atn hi (Ok.N ?_)))))
  dsimp only
  rw[Qb Oa]
  by_cases h0:0<i
  .refine Ok.P ?_
   rw[show IntKind.wrap .i64 ((i:Int) - 1)=((i - 1:Nat):Int)by rw[Qc Oa];omega]
   exact Ok.A (Ok.atn hi (Ok.N hk))
  .exact Ok.N hk
 .exact Ok.N (Ok.s (Qpz hq).symm)
theorem QqT(h:Qx p):QfH 1000 p=some (QgS p):=by
 have hst:=h.st
 have hnx:=h.nx
 refine Ok.eq ?_
 unfold QfH QgS
 refine Ok.loop (fun m x=>∃(i:Nat) (k t:Int),x=((k,t,(i:Int),()),p,())/\i<=p.Starts.length/\-1<=k/\k<=1000000/\Wj p.Next k t (p.Starts.drop i)=Wj p.Next (-1) p.Start p.Starts/\m=p.Starts.length - i) (m:=p.Starts.length) Oa
  ⟨0,-1,p.Start,rfl,Oa,Oa,Oa,rfl,rfl⟩ ?_
 rintro m x ⟨i,k,t,rfl,h1,h2,h2',h3,rfl⟩ K hK
 dsimp only
 refine Ok.ite (fun hi=>?_) (fun hi=>?_)
 .have hlt:i<p.Starts.length:=Oa
  have hs:=h.pe _ (Qi hlt)
  refine Ok.j (Ok.atn hlt ?_)
  obtain⟨s,hse⟩:∃s,nth p.Starts i=s:=⟨_,rfl⟩
  rw[Qei hlt,Wj,hse]at h3
  rw[hse]at hs |-
  refine Ok.join (fun y=>y=((k,(i:Int),()),p,s,())/\t<=s.At/\(s.K = -1\/0<=s.K/\k<s.K/\s.K<p.Next)/\setV s.People=true) (fun y hy=>?_) (fun J hJ=>?_)
  .obtain⟨rfl,c1,c2,c3⟩:=hy
   have hC:(decide (t<=s.At) && (decide (s.K = -1) || decide (0<=s.K) && decide (k<s.K) && decide (s.K<p.Next)) && setV s.People)=true:=by
    rw[c3];simp;omega
   rw[hC,Bool.true_and]at h3
   dsimp only
   rw[Qb Oa]
   refine Ok.ite (fun g=>?_) (fun g=>?_)
   .rw[show max k s.K=s.K by omega]at h3
    exact hK _ _ Oa ⟨i+1,s.K,s.At,rfl,Oa,Oa,Oa,h3,rfl⟩
   .rw[show max k s.K=k by omega]at h3
    exact hK _ _ Oa ⟨i+1,k,s.At,rfl,Oa,Oa,Oa,h3,rfl⟩
  .refine Ok.ite (fun g1=>Ok.s ?_) (fun g1=>Ok.ite (fun g2=>Ok.s ?_) (fun g2=>Ok.ite (fun g3=>Ok.ite (fun g4=>Ok.s ?_) (fun g4=>Ok.ite (fun g5=>Ok.s ?_) (fun g5=>Ok.oe (QnK Oa) (Ok.cnd (fun g6=>hJ _ ⟨rfl,Oa,Oa,g6⟩) (fun g6=>Ok.s ?_))))) (fun g3=>Ok.oe (QnK Oa) (Ok.cnd (fun g6=>hJ _ ⟨rfl,Oa,Oa,g6⟩) (fun g6=>Ok.s ?_)))))
   .rw[<-h3,decide_eq_false (show ¬t<=s.At by omega)];rfl
   .rw[<-h3,decide_eq_false (show ¬s.K = -1 by omega),decide_eq_false (show ¬0<=s.K by omega)];simp
   .rw[<-h3,decide_eq_false (show ¬s.K = -1 by omega),decide_eq_false (show ¬k<s.K by omega)];simp
   .rw[<-h3,decide_eq_false (show ¬s.K = -1 by omega),decide_eq_false (show ¬s.K<p.Next by omega)];simp
   .rw[<-h3,g6];simp
   .rw[<-h3,g6];simp
 .have e:i=p.Starts.length:=Oa
  refine Ok.s ?_
  subst e
  rw[List.drop_length,Wj]at h3
  rw[<-h3,Bool.true_and]
  exact decide_eq_decide.2 Oa
theorem Ql6{m:Nat}{q:D.Policy}(h:Qce m q):Qcz 1000 q=some (Yv q):=by
 have h1:=h.rep
 have h2:=h.len
 refine Ok.eq ?_
 unfold Qcz
 refine Ok.j (Ok.oe rin (Ok.bt (QW.2 Oa) (Ok.N (Ok.s ?_))))
 rw[(Yw h).1,Qc (x:=q.Repeat+1) Oa,Qc]
 have h3:q.Repeat=0\/q.Repeat=1\/q.Repeat=2:=Oa
 rcases h3 with h3|h3|h3<;>rw[h3]<;>omega
theorem Qs3{m:Nat}{q:D.Policy}(h:Qce m q):QeP 1000 q=some true:=by
 have h2:=h.len
 refine Ok.eq ?_
 unfold QeP
 refine Ok.run2 q.Steps.length (fun i=>((i:Int),())) rfl Oa (fun i hi k hk=>?_) (fun k=>Ok.N (Ok.s rfl))
 dsimp only
 have hw:=(h.step _ (Qi hi)).wait
 refine Ok.P (Ok.atn hi (Ok.oe rin (Ok.nt (QW.2 Oa) ?_)))
 rw[Qb Oa]
 exact hk
theorem QuF{m:Nat}{q:D.Policy}{i:Int}(h:Qce m q):Qhz 1000 q i=some (QsE q i):=by
 have h2:=h.len
 have hc:=Yw h
 refine Ok.eq ?_
 unfold Qhz QsE
 refine Ok.j (Ok.ite (fun g1=>Ok.s ?_) (fun g1=>Ok.oe (Ql6 h) (Ok.ite (fun g2=>Ok.s ?_) (fun g2=>Ok.Z (Ok.Z (Ok.s ?_))))))
 .rw[if_neg Oa]
 .rw[if_neg Oa]
 .have g3:=Int.ediv_le_self (a:=i) (q.Steps.length:Int) Oa
  have g4:0<=i / (q.Steps.length:Int):=Int.ediv_nonneg Oa Oa
  rw[if_pos Oa,Int.tmod_eq_emod_of_nonneg Oa,Int.tdiv_eq_ediv_of_nonneg Oa,Qc Oa]
def newV(b:D.Book)(id pol start:Int):D.Page×Int:=
 if inV id 1 999999=true/\inV start 0 8589934592=true then(if inV pol 0 ((b.Policies.length:Int) - 1)=true then(newP id pol start,0)else(page0,3))else(page0,1)
theorem Qm6{id pol start:Int}(hb:Qy b):QkV 1000 b id pol start=some (newV b id pol start):=by
 have hp:=hb.plen
 refine Ok.eq ?_
 unfold QkV newV
 refine Ok.j (Ok.oe rin (Ok.cnd (fun h1=>Ok.oe rin (Ok.cnd (fun h2=>?_) (fun h2=>Ok.s ?_))) (fun h1=>Ok.s ?_)))
 .dsimp only
  rw[if_pos ⟨h1,h2⟩,Qc Oa]
  refine Ok.oe rin (Ok.ncnd (fun h3=>Ok.s ?_) (fun h3=>Ok.s ?_))
  .rw[if_neg (by rw[h3];simp)];rfl
  .rw[if_pos h3];rfl
 .rw[if_neg (by rw[h2];simp)];rfl
 .rw[if_neg (by rw[h1];simp)];rfl
theorem Qyd{id pol start:Int}(hb:Qy b):Qem 1000 b id pol start=some (newV b id pol start):=Qm6 hb
theorem Qfg(hb:Qy b)(h:Qx p):VY 1000 b p=some (QL b p):=by
 have hde:=h.de;have hse:=h.se
 have hpl:=hb.plen
 refine Ok.eq ?_
 unfold VY
 refine Ok.j (Ok.oe (Qm6 hb) ?_)
 unfold newV
 by_cases h1:inV p.ID 1 999999=true/\inV p.Start 0 8589934592=true
 .rw[if_pos h1]
  by_cases h2:inV p.Policy 0 ((b.Policies.length:Int) - 1)=true
  .rw[if_pos h2]
   have h2':=QW.1 h2
   have hq:Qce b.Teams.length (YX b p):=hb.pol _ (Qi Oa)
   have hw:=QmC hq
   refine Ok.NS (Ok.at h2'.1 Oa ?_)
   show Ok (optc (QeP 1000 (YX b p)) _) _
   refine Ok.oe (Qs3 hq) (Ok.t (Ok.at h2'.1 Oa ?_))
   show Ok (optc (Qcz 1000 (YX b p)) _) _
   refine Ok.oe (Ql6 hq) (Ok.oe rin (Ok.cnd (fun h4=>?_) (fun h4=>Ok.s (by simp[QL,h4]))))
   refine Ok.j (Ok.oe rin (Ok.cnd (fun h5=>?_) (fun h5=>Ok.s (by simp[QL,h5]))))
   refine Ok.oe rin (Ok.cnd (fun h6=>?_) (fun h6=>Ok.s (by simp[QL,h6])))
   refine Ok.oe rin (Ok.cnd (fun h7=>?_) (fun h7=>Ok.s (by have h7:inV p.Last p.Start farV=false:=h7;simp[QL,h7])))
   refine Ok.oe rin (Ok.cnd (fun h8=>?_) (fun h8=>Ok.s (by have h8:inV p.Due 0 farV=false:=h8;simp[QL,h8])))
   refine Ok.oe rin (Ok.cnd (fun h9=>?_) (fun h9=>Ok.s (by have h9:inV p.Until 0 farV=false:=h9;simp[QL,h9])))
   refine Ok.j (Ok.oe rin (Ok.cnd (fun h10=>?_) (fun h10=>Ok.s (by simp[QL,h10]))))
   refine Ok.oe rin (Ok.cnd (fun h11=>?_) (fun h11=>Ok.s (by simp[QL,h11])))
   refine Ok.oe (QqT h) (Ok.cnd (fun h12=>?_) (fun h12=>Ok.s (by simp[QL,h12])))
   refine Ok.oe (QnK Oa) (Ok.cnd (fun h13=>?_) (fun h13=>Ok.s (by simp[QL,h13])))
   refine Ok.ite (fun h14=>Ok.s (by simp[QL,QlP,decide_eq_false (show ¬p.Seen.length<=64 by omega)])) (fun h14=>?_)
   have h7':inV p.Last p.Start farV=true:=h7
   have h8':inV p.Due 0 farV=true:=h8
   have h9':inV p.Until 0 farV=true:=h9
   have hcv:QL b p=QlP p.Seen:=by simp[QL,h1.1,h1.2,h2,hw,h4,h5,h6,h7',h8',h9',h10,h11,h12,h13]
   rw[hcv]
   unfold QlP
   rw[decide_eq_true (show p.Seen.length<=64 by omega),Bool.and_true]
   refine Ok.scan2 p.Seen.length (fun i=>((i:Int),())) (fun i=>(p.Seen.take i).contains (nth p.Seen i)) rfl Oa (fun i hi hq _ k=>?_) (fun i hi hq k hk=>?_) (fun hq k=>?_)
   .refine Ok.P (Ok.natn (Ok.L (Ok.atn hi (Ok.oe (Qc3 (by simp;omega)) (Ok.bt hq (Ok.s ?_))))))
    rw[QjA hi hq]
   .refine Ok.P (Ok.natn (Ok.L (Ok.atn hi (Ok.oe (Qc3 (by simp;omega)) (Ok.bf hq ?_)))))
    rw[Qb Oa];exact hk
   .exact Ok.N (Ok.s (decide_eq_true (Qpy hq)).symm)
  .rw[if_neg h2]
   exact Ok.PS (Ok.s (by simp[QL,h2]))
 .rw[if_neg h1]
  refine Ok.PS (Ok.s ?_)
  have:QL b p=false:=by
   rw[Bool.eq_false_iff]
   intro hc
   have hf:=Ym hc
   exact h1 ⟨QW.2 hf.id,QW.2 hf.start⟩
  rw[this]
theorem Qg4:QgG 1000 p=some (dueV p):=Ql7
theorem Qp6(h:Qx p):QfF 1000 p=some (XP p):=by
 have h1:=h.st
 refine Ok.eq ?_
 unfold QfF XP
 refine Ok.ite (fun h0=>Ok.s ?_) (fun h0=>?_)
 .rw[if_pos (List.eq_nil_iff_length_eq_zero.2 Oa)]
 .have hne:p.Starts≠[]:=fun e=>h0 (by rw[e];rfl)
  have hpos:=List.length_pos_iff.2 hne
  rw[show IntKind.wrap .i64 (((p.Starts.length:Nat):Int) - 1)=((p.Starts.length - 1:Nat):Int)by rw[Qc Oa];omega]
  have hp:=(h.pe _ (Qi (l:=p.Starts) (i:=p.Starts.length - 1) Oa)).1
  refine Ok.A (Ok.L (Ok.s ?_))
  rw[if_neg hne]
theorem Qcj(h:Qx p):QaN 1000 p=some p:=by
 have h1:=h.st;have h2:=h.de;have h3:=h.se
 refine Ok.eq ?_
 unfold QaN
 refine Ok.run p.Starts.length (fun i=>(((i:Int),()),p,page0,p.Starts.take i,())) rfl Oa (fun i hi k hk=>?_) (fun k=>?_)
 .dsimp only
  have hp:=(h.pe _ (Qi hi)).1
  refine Ok.P (Ok.atn hi (Ok.L (Ok.LS ?_)))
  rw[Qb Oa,Qz hi]
  exact hk
 .dsimp only
  rw[List.take_length]
  exact Ok.N (Ok.L (Ok.L (Ok.s rfl)))
theorem Qqc{l:List Int}{f:Int->Bool}{i:Nat}(hi:i<l.length):(l.take (i+1)).filter f=(l.take i).filter f++(if f (nth l i)=true then[nth l i]else[]):=by
 rw[<-Qz hi,List.filter_append]
 congr 1
 by_cases h:f (nth l i)=true
 .simp[h]
 .simp[h]
theorem Qvj(h:Q0 n c)(hn:n<=48)(hb:Qy b)(hp:Qx p):Qjw 1000 c b p=some (stepV c b p):=by
 refine Ok.eq ?_
 unfold Qjw
 have hst:=hp.st
 refine Ok.oe (Qfg hb hp) (Ok.ncnd (fun hc=>Ok.s ?_) (fun hc=>?_))
 .unfold stepV;rw[if_pos hc];rfl
 have hf:=Ym hc
 refine Ok.oe Qg4 (Ok.ncnd (fun hd=>Ok.s ?_) (fun hd=>?_))
 .unfold stepV;rw[if_neg (by rw[hc];simp),if_pos hd];rfl
 have hst2:=hf.starts
 refine Ok.ite (fun hl=>Ok.s ?_) (fun hl=>?_)
 .unfold stepV;rw[if_neg (by rw[hc];simp),if_neg (by rw[hd];simp),if_pos Oa];rfl
 have hV:stepV c b p=(stepQ c b p,0):=by unfold stepV;rw[if_neg (by rw[hc];simp),if_neg (by rw[hd];simp),if_neg Oa]
 rw[hV]
 have hs:=Qej hd
 have hpol:=hf.pol;have hnx:=hf.next;have hl2:=hf.last;have hdu:=hf.due
 refine Ok.oe (Qcj hp) (Ok.ite (fun h2=>Ok.s ?_) (fun h2=>?_))
 .unfold stepQ
  rw[if_pos h2,Qon h2]
 .have h0:p.State=0:=Oa
  have hq:=hf.polOK hb
  have hcn:=Yw hq
  have hql:=hq.len
  refine Ok.at hpol.1 hpol.2 ?_
  show Ok (optc (Qhz 1000 (YX b p) p.Next) _) _
  refine Ok.oe (QuF hq) ?_
  unfold QsE
  rw[Qj5 h0]
  by_cases he:p.Next<Yv (YX b p)
  .rw[if_pos ⟨hnx.1,he⟩]
   dsimp only
   have hm:=Qxc (q:=YX b p) (i:=p.Next) hql.1
   refine Ok.f (Ok.at hm.1 hm.2 ?_)
   have hstp:=hq.step _ (QqW hq hnx.1)
   have hw:0<=(Zr b p).Wait/\(Zr b p).Wait<=900:=hstp.wait
   have hlen:(Zr b p).Targets.length<=2:=hstp.len
   show Ok (optc (QcA 1000 c b (Zr b p).Targets p.Due) _) _
   refine Ok.oe (QsG h hn hb hstp.target Oa) ?_
   have hpl:=QgB (c:=c) (b:=b) (l:=(Zr b p).Targets) (t:=p.Due)
   obtain⟨l,hl3⟩:∃l,WZ c b (Zr b p).Targets p.Due=l:=⟨_,rfl⟩
   rw[hl3]at hpl |-
   have hcall:Qbu c b (Zr b p) p.Due=l.filter fun z=>WW c z p.Due (Zr b p).Urgent:=by unfold Qbu;rw[hl3]
   refine Ok.run l.length (fun i=>((p.Due,p.Next % ((YX b p).Steps.length:Int),l,(i:Int),()),c,p,page0,(p.ID,p.Policy,p.Start,p.Next,p.Due,p.State,p.By,p.Until,max p.Due p.Last,p.Snoozes,p.Hands,()),YX b p,(p.Next,p.Due,()),p.Starts,p.Declined,p.Seen,(l.take i).filter (fun z=>WW c z p.Due (Zr b p).Urgent),())) rfl Oa (fun i hi k hk=>?_) (fun k=>?_)
   .dsimp only
    have hfl:=List.length_filter_le (fun z=>WW c z p.Due (Zr b p).Urgent) (l.take i)
    have htl:=List.length_take_le i l
    refine Ok.P (Ok.j (Ok.atn hi (Ok.at hm.1 hm.2 (Ok.oe (QuX h hn) ?_))))
    show Ok (AM.cnd (WW c (nth l i) p.Due (Zr b p).Urgent) _ _) _
    rw[Qqc hi]at hk
    refine Ok.cnd (fun g=>Ok.atn hi (Ok.LS ?_)) (fun g=>?_)
    .dsimp only
     rw[if_pos g]at hk
     rw[Qb Oa]
     exact hk
    .dsimp only
     rw[if_neg (by rw[g];simp),List.append_nil]at hk
     rw[Qb Oa]
     exact hk
   .dsimp only
    rw[List.take_length,<-hcall]
    unfold stepQ
    rw[if_neg h2,if_neg Oa]
    refine Ok.N (Ok.LS (Ok.j (Ok.ite (fun g=>Ok.at hm.1 hm.2 (Ok.s ?_)) (fun g=>Ok.s ?_))))
    .have hne:Qbu c b (Zr b p) p.Due≠[]:=fun e=>by rw[e]at g;simp at g
     unfold farV at hdu
     show _=_
     rw[if_neg hne,Qc Oa]
     have:IntKind.wrap .i64 (p.Due+(Zr b p).Wait)=p.Due+(Zr b p).Wait:=Qc Oa
     unfold Zr at this
     rw[this]
     rfl
    .have he':Qbu c b (Zr b p) p.Due=[]:=List.eq_nil_iff_length_eq_zero.2 Oa
     show _=_
     rw[if_pos he',Qc Oa]
  .rw[if_neg Oa]
   dsimp only
   refine Ok.t (Ok.s ?_)
   unfold stepQ
   rw[if_neg h2,if_pos Oa]
theorem QwF(h:Q0 n c)(hn:n<=48)(hb:Qy b)(hp:Qx p):Qny 1000 c b p now=some (runV c b p now):=by
 refine Ok.eq ?_
 unfold Qny
 refine Ok.oe (Qfg hb hp) (Ok.ncnd (fun hc=>Ok.s ?_) (fun hc=>?_))
 .unfold runV;rw[if_pos hc];rfl
 rw[QgL hc]
 have hf:=Ym hc
 have hcn:=Yw (hf.polOK hb)
 have hnx:=hf.next
 have hle:UX b p<=11:=by
  unfold UX
  split
  .omega
  .split<;>omega
 refine Ok.oe (Qcj hp) ?_
 refine Ok.loop (fun m x=>∃(q:D.Page) (k:Nat),x=((now,()),c,b,q,page0,())/\Qx q/\UX b q+1<=k/\runN c b now k q=runN c b now 100 p/\m=UX b q) (m:=UX b p) Oa ⟨p,100,rfl,hp,Oa,rfl,rfl⟩ ?_
 rintro m x ⟨q,k,rfl,hq,hk,he,rfl⟩ K hK
 dsimp only
 obtain⟨k,rfl⟩:∃k',k=k'+1:=⟨k - 1,Oa⟩
 rw[runN]at he
 refine Ok.oe Qg4 ?_
 have hwv:Z5 q now=((dueV q).2 && decide ((dueV q).1<=now)):=rfl
 refine Ok.join (fun y=>y=((now,()),c,b,q,page0,())/\Z5 q now=true) (fun y hy=>?_) (fun J hJ=>?_)
 .obtain⟨rfl,hw⟩:=hy
  dsimp only
  rw[if_pos hw]at he
  refine Ok.oe (Qvj h hn hb hq) (Ok.ite (fun h1=>Ok.s ?_) (fun h1=>?_))
  .rw[if_pos h1]at he;exact he
  .rw[if_neg h1]at he
   have hd:=Qaf hw
   have hst:stepV c b q=(stepQ c b q,0):=by
    revert h1
    unfold stepV
    split
    .simp
    .split
     .simp
     .split
      .simp
      .intro _;rfl
   have hl:=QcP (c:=c) (b:=b) hd.1
   rw[hst]at he |-
   refine hK (UX b (stepQ c b q)) _ hl ⟨stepQ c b q,k,rfl,?_,Oa,he,rfl⟩
   have:=hq.stepV (c:=c) hb
   rw[hst]at this;exact this
 .refine Ok.cnd (fun h1=>Ok.ite (fun h2=>Ok.s ?_) (fun h2=>hJ _ ⟨rfl,by rw[hwv,h1];simp;omega⟩)) (fun h1=>Ok.s ?_)
  .rw[if_neg (by rw[hwv,h1];simp;omega)]at he;exact he
  .rw[if_neg (by rw[hwv,h1];simp)]at he;exact he
end
end
/-
  Pages on their way: what the program's answers compute.
-/
section
variable {n:Nat} {c:D.Config} {b:D.Book} {p q:D.Page} {now:Int} {a:D.Answer}
theorem QxQ:YC 1000 p=some (dueV p):=by
 unfold YC
 simp only[WG]
 exact Ql7
theorem Qvu{t:Int}:Yj 1000 p t=some (Z5 p t):=by
 unfold Yj Z5
 simp only[WG]
 rw[QxQ,ZR]
 obtain⟨a,d⟩:=dueV p
 cases d<;>by_cases h:a<=t<;>simp[cd,AM.cnd,h]
theorem Qsc(h:Qx p):Z9 1000 p=some (XP p):=by
 have h1:=h.st
 refine Ok.eq ?_
 unfold Z9 XP
 refine Ok.ite (fun h0=>Ok.sameC (Ok.sameC (Ok.sameC (Ok.s ?_)))) (fun h0=>?_)
 .rw[if_pos (List.eq_nil_iff_length_eq_zero.2 Oa)]
 .have hne:p.Starts≠[]:=fun e=>h0 (by rw[e];rfl)
  have hpos:=List.length_pos_iff.2 hne
  rw[show IntKind.wrap .i64 (((p.Starts.length:Nat):Int) - 1)=((p.Starts.length - 1:Nat):Int)by rw[Qc Oa];omega]
  have hp:=(h.pe _ (Qi (l:=p.Starts) (i:=p.Starts.length - 1) Oa)).1
  refine Ok.natn (Ok.E (Ok.G (Ok.oe (Qj0 Oa) (Ok.sameC (Ok.sameC (Ok.sameC (Ok.s ?_)))))))
  rw[if_neg hne]
theorem Ql3(h:Qx p):(XP p).length<=40:=by
 unfold XP
 split
 .simp
 .rename_i hne
  have hpos:=List.length_pos_iff.2 hne
  exact(h.pe _ (Qi Oa)).1
theorem QsS:ZU 1000 p a=some (XW p a):=by
 refine Ok.eq ?_
 unfold ZU
 refine Ok.join (fun y=>y.1.1=decide ((a.Kind=3/\p.Snoozes=4)\/(a.Kind=4/\(p.Hands=4\/p.Starts.length=200)))/\y.2=(pgA p,a,p.Starts,p.Declined,p.Seen,())) (fun y hy=>?_) (fun J hJ=>?_)
 .obtain⟨⟨full,⟨⟩⟩,r⟩:=y
  obtain⟨h1,h2⟩:=hy
  dsimp only at h1 h2
  subst h2
  dsimp only[pgA]
  refine Ok.j (Ok.ite (fun g1=>Ok.sameC (Ok.sameC (Ok.sameC (Ok.s ?_)))) (fun g1=>?_))
  .unfold XW;rw[if_pos (.inl g1)]
  refine Ok.oe (Qvu (p:=p)) (Ok.cnd (fun g2=>Ok.sameC (Ok.sameC (Ok.sameC (Ok.s ?_)))) (fun g2=>?_))
  .unfold XW;rw[if_pos (.inr g2)]
  unfold XW
  rw[if_neg (by rw[g2];simp;omega)]
  refine Ok.join (fun y=>y.1.1=full/\y.1.2.1=decide (p.State=4\/(p.State=3/\a.Kind≠5)\/(p.State=1/\a.Kind=2))/\y.2=(pgA p,p.Starts,p.Declined,p.Seen,())) (fun y hy=>?_) (fun J hJ=>?_)
  .obtain⟨⟨f2,s2,⟨⟩⟩,r⟩:=y
   obtain⟨k1,k2,k3⟩:=hy
   dsimp only at k1 k2 k3
   subst k3;subst k1
   dsimp only[pgA]
   refine Ok.cnd (fun g3=>Ok.sameC (Ok.sameC (Ok.sameC (Ok.s ?_)))) (fun g3=>?_)
   .rw[k2]at g3;rw[if_pos (of_decide_eq_true g3)]
   .rw[k2]at g3;rw[if_neg (of_decide_eq_false g3)]
    refine Ok.ite (fun g4=>Ok.sameC (Ok.sameC (Ok.sameC (Ok.s ?_)))) (fun g4=>?_)
    .rw[if_pos (.inl Oa)]
    .refine Ok.cnd (fun g5=>Ok.sameC (Ok.sameC (Ok.sameC (Ok.s ?_)))) (fun g5=>Ok.sameC (Ok.sameC (Ok.sameC (Ok.s ?_))))
     .rw[h1]at g5;have:=of_decide_eq_true g5;rw[if_pos (.inr this)]
     .rw[h1]at g5;have:=of_decide_eq_false g5;rw[if_neg Oa]
  .refine Ok.ite (fun g3=>hJ _ ⟨rfl,?_,rfl⟩) (fun g3=>Ok.ite (fun g4=>Ok.ite (fun g5=>hJ _ ⟨rfl,?_,rfl⟩) (fun g5=>Ok.ite (fun g6=>Ok.ite (fun g7=>hJ _ ⟨rfl,?_,rfl⟩) (fun g7=>hJ _ ⟨rfl,?_,rfl⟩)) (fun g6=>hJ _ ⟨rfl,?_,rfl⟩))) (fun g4=>Ok.ite (fun g6=>Ok.ite (fun g7=>hJ _ ⟨rfl,?_,rfl⟩) (fun g7=>hJ _ ⟨rfl,?_,rfl⟩)) (fun g6=>hJ _ ⟨rfl,?_,rfl⟩)))
   all_goals (dsimp only;first|exact(decide_eq_true Oa).symm|exact(decide_eq_false Oa).symm|exact decide_eq_decide.2 Oa)
 .refine Ok.ite (fun g1=>Ok.ite (fun g2=>hJ _ ⟨?_,rfl⟩) (fun g2=>Ok.ite (fun g3=>Ok.ite (fun g4=>hJ _ ⟨?_,rfl⟩) (fun g4=>Ok.ite (fun g5=>hJ _ ⟨?_,rfl⟩) (fun g5=>hJ _ ⟨?_,rfl⟩))) (fun g3=>hJ _ ⟨?_,rfl⟩)))
   (fun g1=>Ok.ite (fun g3=>Ok.ite (fun g4=>hJ _ ⟨?_,rfl⟩) (fun g4=>Ok.ite (fun g5=>hJ _ ⟨?_,rfl⟩) (fun g5=>hJ _ ⟨?_,rfl⟩))) (fun g3=>hJ _ ⟨?_,rfl⟩))
  all_goals (dsimp only;first|exact(decide_eq_true Oa).symm|exact(decide_eq_false Oa).symm)
theorem Qvm{l:List Int}{j:Nat}(h1:1<=j)(hj:j<l.length):(Qjd l j).Perm l:=by
 unfold Qjd
 have e1:nth l j=l[j]:=by simp[nth,List.getD_eq_getElem?_getD,List.getElem?_eq_getElem hj]
 have e2:nth l (j - 1)=l[j - 1]:=by simp[nth,List.getD_eq_getElem?_getD,List.getElem?_eq_getElem (show j - 1<l.length by omega)]
 rw[e1,e2]
 exact List.set_set_perm hj Oa
theorem Qug{l0:List Int}(hs:l0.length<=900):
  Ok (Zg 1000 l0 0 ((l0.length:Nat):Int)) fun r=>r.Perm l0/\Y5 r l0.length:=by
 obtain⟨m,hm⟩:∃m,l0.length=m:=⟨_,rfl⟩
 rw[hm]
 rw[hm]at hs
 unfold Zg
 refine Ok.loop (fun q x=>∃i a,x=((0,(m:Int),((i:Nat):Int),()),a,())/\1<=i/\a.Perm l0/\Y5 a (min i m)/\q=m+1 - i) (m:=m) Oa
  ⟨1,l0,by rw[Qc Oa];rfl,Oa,.refl _,fun a b h1 h2=>Oa,Oa⟩ ?_
 rintro q x ⟨i,a,rfl,h1,h2,h3,rfl⟩ K hK
 have hal:=h2.length_eq
 dsimp only
 refine Ok.ite (fun hi=>?_) (fun hi=>Ok.s ⟨h2,by rw[show min i m=m by omega]at h3;exact h3⟩)
 have hlt:i<m:=Oa
 rw[show min i m=i by omega]at h3
 refine Ok.j ?_
 refine Ok.loop (fun q x=>∃j a',x=((0,(m:Int),((i:Nat):Int),((j:Nat):Int),()),a',())/\j<=i/\a'.Perm l0/\QlV a' (i+1) j/\q=j) (m:=i) Oa
  ⟨i,a,rfl,Oa,h2,Qiy h3,rfl⟩ ?_
 rintro q x ⟨j,a',rfl,g1,g2,g3,hqj⟩ K2 hK2
 have hal':=g2.length_eq
 dsimp only
 have fin:(j=0\/nth a' (j - 1)<=nth a' j)->Ok (K ((0,(m:Int),IntKind.wrap .i64 ((i:Int)+1),()),a',())) fun r=>r.Perm l0/\Y5 r m:=fun he=>by
  rw[Qb Oa]
  exact hK (m+1 - (i+1)) _ Oa ⟨i+1,a',rfl,Oa,g2,by rw[show min (i+1) m=i+1 by omega];exact Ql2 g3 he,rfl⟩
 refine Ok.j (Ok.ite (fun hj=>?_) (fun hj=>fin (.inl Oa)))
 have hw:IntKind.wrap .i64 ((j:Int) - 1)=((j - 1:Nat):Int):=by rw[Qc Oa];omega
 rw[hw]
 refine Ok.natn (Ok.E (Ok.G (Ok.natn (Ok.E (Ok.G (Ok.oe Quq (Ok.ite (fun hless=>?_) (fun hless=>fin (.inr Oa)))))))))
 dsimp only
 rw[hw]
 refine Ok.natn (Ok.E (Ok.G (Ok.natn (Ok.E (Ok.G (Ok.natn (Ok.E (Ok.G (Ok.natn (Ok.lt (by simp;omega) (Ok.get (by simp;omega) ?_)))))))))))
 have hsw:(a'.set j (nth a' (j - 1))).set (j - 1) (nth a' j)=Qjd a' j:=rfl
 rw[hsw]
 exact hK2 (j - 1) _ Oa ⟨j - 1,Qjd a' j,rfl,Oa,(Qvm Oa Oa).trans g2,QjR g3 Oa Oa Oa hless,rfl⟩
theorem QwL{l0:List Int}(hs:l0.length<=12):
  Ok (WR 1000 l0) fun r=>r.Perm l0/\Y5 r l0.length:=by
 unfold WR
 obtain⟨bv,hb⟩:=Option.isSome_iff_exists.1 (QtC l0.length Oa)
 refine Ok.oe hb (Ok.opt (P:=fun r=>r.Perm l0/\Y5 r l0.length) ?_ fun r hr=>Ok.ck hr.1.length_eq (Ok.s hr))
 unfold YT
 refine Ok.loop (fun q x=>x=((0,((l0.length:Nat):Int),bv,true,true,()),l0,())) (m:=0) Oa rfl ?_
 rintro q x rfl K hK
 dsimp only
 refine Ok.p (by rw[Qc Oa];omega) (Ok.opt (Qug Oa) fun r hr=>Ok.ck hr.1.length_eq (Ok.s hr))
theorem Qr6{l:List Int}(h:Y5 l l.length)(hd:l.Nodup):Asc l:=by
 refine Qw1 h fun k h1 h2 e=>?_
 have e1:nth l (k - 1)=l[k - 1]:=by simp[nth,List.getD_eq_getElem?_getD,List.getElem?_eq_getElem (show k - 1<l.length by omega)]
 have e2:nth l k=l[k]:=by simp[nth,List.getD_eq_getElem?_getD,List.getElem?_eq_getElem h2]
 rw[e1,e2]at e
 have:=(List.nodup_iff_pairwise_ne.1 hd)
 exact(List.pairwise_iff_getElem.1 this (k - 1) k Oa h2 Oa) e
theorem Qtl{l:List Int}(h:Asc l):l.Nodup:=List.Pairwise.imp (fun h=>Oa) h
theorem Qvf{l r:List Int}{x:Int}(hl:Asc l)(hx:l.contains x=false)(hp:r.Perm (l++[x]))(hs:Y5 r r.length):r=Qhr l x:=by
 have hnd:(l++[x]).Nodup:=List.nodup_append.2 ⟨Qtl hl,Ob,fun y hy z hz e=>by
  rw[List.mem_singleton.1 hz]at e
  subst e
  rw[List.contains_iff_mem.2 hy]at hx;simp at hx⟩
 refine Qec (Qr6 hs (hp.nodup_iff.2 hnd)) (QbJ hl).1 fun z=>?_
 rw[hp.mem_iff,(QbJ hl).2];simp
theorem Qre{x:Int}(h:p.Declined.length<=40):ZG 1000 x p=some (!p.Declined.contains x,p):=by
 unfold ZG
 rw[QbC Oa,ZR]
theorem Qol{l:List Int}(hl:l.length<=900)(h:p.Declined.length<=40):Qs 1000 l p=some (l.any fun z=>!p.Declined.contains z,p):=by
 refine Ok.eq ?_
 unfold Qs QN
 refine Ok.opt (P:=fun(r:Int×D.Page)=>decide (0<=r.1)=(l.any fun z=>!p.Declined.contains z)/\r.2=p) ?_ fun⟨r,p'⟩ ⟨e1,e2⟩=>Ok.s (by dsimp only at e1 e2;rw[e1,e2])
 refine Ok.scan2 l.length (fun i=>(l,((l.length:Nat):Int),(i:Int),())) (fun i=>!p.Declined.contains (nth l i)) rfl Oa (fun i hi hq _ k=>?_) (fun i hi hq k hk=>?_) (fun hq k=>?_)
 .refine Ok.P (Ok.atn hi (Ok.oe (Qre (p:=p) h) (Ok.bt hq (Ok.s ⟨?_,rfl⟩))))
  rw[QjH hi hq];simp
 .refine Ok.P (Ok.atn hi (Ok.oe (Qre (p:=p) h) (Ok.bf hq ?_)))
  rw[Qb Oa];exact hk
 .refine Ok.N (Ok.s ⟨?_,rfl⟩)
  rw[Qn3 hq];rfl
theorem QtS(hs:setV p.Declined=true)(hd:p.Declined.length<=11):(Ug p a).length<=40:=by
 unfold Ug
 split
 .have hde:=UB.1 hs
  unfold Qhr
  have h1:=List.length_filter_le (fun z=>decide (z<a.Person)) p.Declined
  have h2:=List.length_filter_le (fun z=>decide (a.Person<z)) p.Declined
  simp only[List.length_append,List.length_cons];omega
 .omega
theorem Qqa(h:Qx p)(hd:p.Declined.length<=11)(hs:setV p.Declined=true):
  ZO 1000 p a=some { p with Declined:=Ug p a,Due:=if Uo p a=true/\p.State=0 then a.At else p.Due }:=by
 have hcl:=Ql3 h
 refine Ok.eq ?_
 unfold ZO
 refine Ok.oe (Qsc h) ?_
 refine Ok.join (fun y=>y=((XP p,()),pgA p,a,page0,p.Starts,Ug p a,p.Seen,())) (fun y hy=>?_) (fun J hJ=>?_)
 .subst hy
  dsimp only[pgA]
  have hdl:=QtS (a:=a) hs hd
  refine Ok.j (Ok.ite (fun g1=>Ok.ite (fun g2=>?_) (fun g2=>Ok.s ?_)) (fun g1=>Ok.s ?_))
  .refine Ok.oe (Qol (p:={ p with Declined:=Ug p a }) Oa hdl) (Ok.cnd (fun g3=>Ok.s ?_) (fun g3=>Ok.s ?_))
   .have:Uo p a=false:=by
     unfold Uo
     rw[Bool.and_eq_false_iff]
     refine .inr ?_
     obtain⟨z,hz1,hz2⟩:=List.any_eq_true.1 g3
     refine List.all_eq_false.2 ⟨z,hz1,?_⟩
     simpa using hz2
    rw[this,if_neg Ob]
   .have:Uo p a=true:=by
     unfold Uo
     rw[bae]
     refine⟨decide_eq_true fun e=>by rw[e]at g2;simp at g2,List.all_eq_true.2 fun z hz=>?_⟩
     have:=List.any_eq_false.1 g3 z hz
     simpa using this
    rw[this,if_pos ⟨rfl,g1⟩]
  .have:Uo p a=false:=by
    unfold Uo
    rw[decide_eq_false (fun hne=>hne (List.eq_nil_iff_length_eq_zero.2 Oa))];rfl
   rw[this,if_neg Ob]
  .rw[if_neg (fun hx=>g1 hx.2)]
 .refine Ok.oe (QcY Oa) (Ok.cnd (fun g1=>?_) (fun g1=>?_))
  .refine Ok.oe (QbC Oa) (Ok.cnd (fun g2=>?_) (fun g2=>?_))
   .refine hJ _ ?_
    have:Ug p a=p.Declined:=by
     unfold Ug
     rw[if_pos g1];exact QuL (UB.1 hs).1 (List.contains_iff_mem.1 g2)
    rw[this];rfl
   .refine Ok.LS (Ok.opt (QwL (by simp;omega)) fun r ⟨hr1,hr2⟩=>Ok.ck hr1.length_eq (hJ _ ?_))
    have:r=Ug p a:=by
     unfold Ug
     rw[if_pos g1]
     exact Qvf (UB.1 hs).1 g2 hr1 (by rw[hr1.length_eq];exact hr2)
    rw[this];rfl
  .refine hJ _ ?_
   have:Ug p a=p.Declined:=by unfold Ug;rw[if_neg (by rw[g1];simp)]
   rw[this];rfl
theorem Qte(hb:Qy b)(h:Qx p)(hd:p.Declined.length<=11):VG 1000 c b p a=some (answerV b p a):=by
 have hse:=h.se;have hst:=h.st
 refine Ok.eq ?_
 unfold VG
 refine Ok.join (fun y=>y=((),p,a,page0,())/\QL b p=true/\Y0 a=true) (fun y hy=>?_) (fun J hJ=>?_)
 .obtain⟨rfl,hc,hv⟩:=hy
  dsimp only
  unfold answerV
  rw[if_neg (by rw[hc,hv];simp)]
  have hf:=Ym hc
  have hv':=hv
  unfold Y0 at hv'
  simp only[bae,QW]at hv'
  obtain⟨⟨⟨⟨⟨v1,v2⟩,v3⟩,v4⟩,v5⟩,v6⟩:=hv'
  have hsn:=hf.snoozes;have hha:=hf.hands
  refine Ok.ite (fun g1=>Ok.s ?_) (fun g1=>?_)
  .rw[if_pos g1];rfl
  rw[if_neg g1]
  refine Ok.oe (Qj3 h) (Ok.oe (QbC Oa) (Ok.cnd (fun g2=>Ok.s ?_) (fun g2=>?_)))
  .rw[if_pos g2]
  rw[if_neg (by rw[g2];simp)]
  refine Ok.oe QsS (Ok.ite (fun g3=>Ok.s ?_) (fun g3=>?_))
  .rw[if_pos g3];rfl
  rw[if_neg g3]
  refine Ok.LS ?_
  refine Ok.join (fun y=>y=((),pgA p,a,page0,p.Starts,p.Declined,p.Seen++[a.ID],())/\¬(a.Kind=1/\p.State=1)) (fun y hy=>?_) (fun J hJ=>?_)
  .obtain⟨rfl,hn⟩:=hy
   dsimp only[pgA]
   unfold Xl
   refine Ok.j (Ok.ite (fun k1=>Ok.s ?_) (fun k1=>Ok.ite (fun k2=>?_) (fun k2=>Ok.ite (fun k3=>Ok.s ?_) (fun k3=>Ok.ite (fun k4=>Ok.LS (Ok.s ?_)) (fun k4=>Ok.ite (fun k5=>Ok.s ?_) (fun k5=>absurd v5 Oa))))))
   .rw[if_pos k1,if_neg Oa]
   .rw[if_neg k1,if_pos k2]
    have hp':Qx { p with Last:=a.At,Seen:=p.Seen++[a.ID] }:=⟨h.st,h.pe,h.de,by have:=hf.seen;dsimp only;simp;omega,h.nx⟩
    exact Ok.oe (Qqa (p:={ p with Last:=a.At,Seen:=p.Seen++[a.ID] }) hp' hd hf.declined) (Ok.s rfl)
   .rw[if_neg k1,if_neg k2,if_pos k3]
    rw[if_pos k3]at v6
    have v6:=QW.1 v6
    rw[Qc Oa,Qc Oa]
   .rw[if_neg k1,if_neg k2,if_neg k3,if_pos k4,Qc Oa,Qc Oa]
   .rw[if_neg k1,if_neg k2,if_neg k3,if_neg k4]
  .refine Ok.ite (fun k1=>Ok.ite (fun k2=>Ok.s ?_) (fun k2=>hJ _ ⟨rfl,Oa⟩)) (fun k1=>hJ _ ⟨rfl,Oa⟩)
   unfold Xl
   rw[if_pos k1,if_pos k2]
 .refine Ok.oe (Qjf hb h) (Ok.cnd (fun g1=>Ok.oe Qr0 (Ok.cnd (fun g2=>hJ _ ⟨rfl,g1,g2⟩) (fun g2=>Ok.s ?_))) (fun g1=>Ok.s ?_))
  .unfold answerV;rw[if_pos (.inr g2)];rfl
  .unfold answerV;rw[if_pos (.inl g1)];rfl
end
/-
  Pages on their way: what the reference's answers compute; pages compared.
-/
open Go AM
section
variable {n:Nat} {c:D.Config} {b:D.Book} {p q:D.Page} {now:Int} {a:D.Answer}
theorem QmA:QeQ 1000 a=some (Y0 a):=by
 refine Ok.eq ?_
 unfold QeQ
 refine Ok.j (Ok.oe rin (Ok.cnd (fun h1=>Ok.oe rin (Ok.cnd (fun h2=>Ok.oe rin (Ok.cnd (fun h3=>Ok.oe rin (Ok.cnd (fun h4=>?_) (fun h4=>Ok.s ?_))) (fun h3=>Ok.s ?_))) (fun h2=>Ok.s ?_))) (fun h1=>Ok.s ?_)))
 .dsimp only
  refine Ok.join (fun y=>y.1.1=a.Kind/\y.1.2.1=decide (a.Kind=1\/a.Kind=2\/a.Kind=5)/\y.2=(a,())) (fun y hy=>?_) (fun J hJ=>?_)
  .obtain⟨⟨k,z,⟨⟩⟩,r⟩:=y
   obtain⟨e1,e2,e3⟩:=hy
   dsimp only at e1 e2 e3
   subst e3;subst e1
   dsimp only
   refine Ok.cnd (fun g=>Ok.s ?_) (fun g=>Ok.ite (fun k3=>Ok.oe rin (Ok.s ?_)) (fun k3=>Ok.ite (fun k4=>Ok.oe rin (Ok.s ?_)) (fun k4=>Ok.s ?_)))
   .rw[e2]at g
    have g:=of_decide_eq_true g
    have hk:inV a.Kind 1 5=true:=QW.2 Oa
    unfold Y0
    rw[if_neg Oa,if_neg Oa,h1,h2,h3,h4,hk];rfl
   .have hk:inV a.Kind 1 5=true:=QW.2 Oa
    unfold Y0
    rw[if_pos k3,h1,h2,h3,h4,hk];rfl
   .have hk:inV a.Kind 1 5=true:=QW.2 Oa
    unfold Y0
    rw[if_neg k3,if_pos k4,h1,h2,h3,h4,hk];rfl
   .rw[e2]at g
    have g:=of_decide_eq_false g
    have hk:inV a.Kind 1 5=false:=Bool.eq_false_iff.2 fun h=>by have:=QW.1 h;omega
    unfold Y0
    rw[hk];simp
  .refine Ok.ite (fun g1=>hJ _ ⟨rfl,?_,rfl⟩) (fun g1=>Ok.ite (fun g2=>hJ _ ⟨rfl,?_,rfl⟩) (fun g2=>hJ _ ⟨rfl,?_,rfl⟩))
   all_goals exact decide_eq_decide.2 Oa
 .unfold Y0;rw[h4];simp
 .unfold Y0;rw[h3];simp
 .unfold Y0;rw[h2];simp
 .unfold Y0;rw[h1];simp
theorem Qpo(hf:CkF b p):Qdo 1000 p a=some (XW p a):=by
 have hs1:=hf.seen;have hs2:=hf.snoozes;have hs3:=hf.hands;have hs4:=hf.starts
 refine Ok.eq ?_
 unfold Qdo
 refine Ok.oe Qg4 ?_
 rcases hdv:dueV p with⟨da,dd⟩
 dsimp only
 refine Ok.j (Ok.ite (fun g1=>Ok.s ?_) (fun g1=>Ok.cnd (fun g2=>Ok.ite (fun g3=>Ok.s ?_) (fun g3=>?_)) (fun g2=>?_)))
 .unfold XW;rw[if_pos (.inl g1)]
 .unfold XW;rw[if_pos (.inr (by unfold Z5;rw[hdv,g2];simp;omega))]
 all_goals
  have hw:Z5 p a.At=false:=by
   unfold Z5
   rw[hdv,g2]
   first|rfl|(simp;omega)
  unfold XW
  rw[if_neg (by rw[hw];simp;omega)]
  refine Ok.join (fun y=>y.1.1=decide (p.State=4\/(p.State=3/\a.Kind≠5)\/(p.State=1/\a.Kind=2))/\y.2=(p,a,())) (fun y hy=>?_) (fun J hJ=>?_)
  .obtain⟨⟨s2,⟨⟩⟩,r⟩:=y
   obtain⟨k2,k3⟩:=hy
   dsimp only at k2 k3
   subst k3
   dsimp only
   refine Ok.cnd (fun g3=>Ok.s ?_) (fun g3=>?_)
   .rw[k2]at g3;rw[if_pos (of_decide_eq_true g3)]
   .rw[k2]at g3;rw[if_neg (of_decide_eq_false g3)]
    refine Ok.join (fun y=>y.1.1=decide (p.Seen.length=64\/(a.Kind=3/\p.Snoozes=4)\/(a.Kind=4/\(p.Hands=4\/p.Starts.length=200)))) (fun y hy=>?_) (fun J hJ=>?_)
    .obtain⟨⟨s3,⟨⟩⟩,⟨⟩⟩:=y
     dsimp only at hy |-
     refine Ok.cnd (fun g4=>Ok.s ?_) (fun g4=>Ok.s ?_)
     .rw[hy]at g4;rw[if_pos (of_decide_eq_true g4)]
     .rw[hy]at g4;rw[if_neg (of_decide_eq_false g4)]
    .refine Ok.ite (fun g4=>hJ _ ?_) (fun g4=>Ok.ite (fun g5=>Ok.ite (fun g6=>hJ _ ?_) (fun g6=>Ok.ite (fun g7=>Ok.ite (fun g8=>hJ _ ?_) (fun g8=>Ok.ite (fun g9=>hJ _ ?_) (fun g9=>hJ _ ?_))) (fun g7=>hJ _ ?_))) (fun g5=>Ok.ite (fun g7=>Ok.ite (fun g8=>hJ _ ?_) (fun g8=>Ok.ite (fun g9=>hJ _ ?_) (fun g9=>hJ _ ?_))) (fun g7=>hJ _ ?_)))
     all_goals (dsimp only;first|exact(decide_eq_true Oa).symm|exact(decide_eq_false Oa).symm|exact decide_eq_decide.2 Oa)
  .refine Ok.ite (fun g3=>hJ _ ⟨?_,rfl⟩) (fun g3=>Ok.ite (fun g4=>Ok.ite (fun g5=>hJ _ ⟨?_,rfl⟩) (fun g5=>Ok.ite (fun g6=>Ok.ite (fun g7=>hJ _ ⟨?_,rfl⟩) (fun g7=>hJ _ ⟨?_,rfl⟩)) (fun g6=>hJ _ ⟨?_,rfl⟩))) (fun g4=>Ok.ite (fun g6=>Ok.ite (fun g7=>hJ _ ⟨?_,rfl⟩) (fun g7=>hJ _ ⟨?_,rfl⟩)) (fun g6=>hJ _ ⟨?_,rfl⟩)))
   all_goals (dsimp only;first|exact(decide_eq_true Oa).symm|exact(decide_eq_false Oa).symm|exact decide_eq_decide.2 Oa)
theorem Qq4{l:List Int}{x:Int}(hl:l.length<=400)(h:Asc l):Vl 1000 l x=some (Qhr l x):=by
 rw[QwZ hl]
 congr 1
 exact Qec (QfP h).1 (QbJ h).1 fun z=>by rw[(QfP h).2,(QbJ h).2]
theorem QpY(hb:Qy b)(h:Qx p):QfE 1000 c b p a=some (answerV b p a):=by
 have hse:=h.se;have hst:=h.st;have hde:=h.de
 refine Ok.eq ?_
 unfold QfE
 refine Ok.join (fun y=>y=((),p,a,page0,())/\QL b p=true/\Y0 a=true) (fun y hy=>?_) (fun J hJ=>?_)
 .obtain⟨rfl,hc,hv⟩:=hy
  dsimp only
  unfold answerV
  rw[if_neg (by rw[hc,hv];simp)]
  have hf:=Ym hc
  have hv':=hv
  unfold Y0 at hv'
  simp only[bae,QW]at hv'
  obtain⟨⟨⟨⟨⟨v1,v2⟩,v3⟩,v4⟩,v5⟩,v6⟩:=hv'
  have hsn:=hf.snoozes;have hha:=hf.hands
  refine Ok.ite (fun g1=>Ok.s ?_) (fun g1=>?_)
  .rw[if_pos g1];rfl
  rw[if_neg g1]
  refine Ok.oe (Qcj h) (Ok.oe (Qc3 Oa) (Ok.cnd (fun g2=>Ok.s ?_) (fun g2=>?_)))
  .rw[if_pos g2]
  rw[if_neg (by rw[g2];simp)]
  refine Ok.oe (Qpo hf) (Ok.ite (fun g3=>Ok.s ?_) (fun g3=>?_))
  .rw[if_pos g3];rfl
  rw[if_neg g3]
  refine Ok.LS (Ok.j ?_)
  unfold Xl
  refine Ok.ite (fun k1=>Ok.ite (fun k2=>Ok.s ?_) (fun k2=>Ok.s ?_)) (fun k1=>Ok.ite (fun k2=>?_) (fun k2=>Ok.ite (fun k3=>Ok.s ?_) (fun k3=>Ok.ite (fun k4=>Ok.LS (Ok.s ?_)) (fun k4=>Ok.ite (fun k5=>Ok.s ?_) (fun k5=>absurd v5 Oa)))))
  .rw[if_pos k1,if_pos k2]
  .rw[if_pos k1,if_neg k2]
  .rw[if_neg k1,if_pos k2]
   have hcl:=Ql3 h
   refine Ok.oe (Qp6 h) ?_
   refine Ok.join (fun y=>y=((XP p,()),p,a,page0,(p.ID,p.Policy,p.Start,p.Next,p.Due,p.State,p.By,p.Until,a.At,p.Snoozes,p.Hands,Ug p a,()),p.Starts,p.Seen++[a.ID],())) (fun y hy=>?_) (fun J hJ=>?_)
   .subst hy
    dsimp only
    have hdl:(Ug p a).length<=900:=by
     unfold Ug Qhr
     split
     .have h1:=List.length_filter_le (fun z=>decide (z<a.Person)) p.Declined
      have h2:=List.length_filter_le (fun z=>decide (a.Person<z)) p.Declined
      simp only[List.length_append,List.length_cons];omega
     .omega
    obtain⟨aD,haD⟩:∃aD:Nat->Bool,∀i,aD i=(decide ((0:Int)<(((XP p).length:Nat):Int)) && ((XP p).take i).all fun z=>(Ug p a).contains z):=⟨fun i=>_,fun i=>rfl⟩
    have hall:∀i,i<(XP p).length->aD (i+1)=(aD i && (Ug p a).contains (nth (XP p) i)):=fun i hi=>by
     rw[haD,haD,<-Qz hi,List.all_append,Bool.and_assoc]
     simp
    have hlast:Uo p a=aD (XP p).length:=by
     rw[haD,List.take_length]
     unfold Uo
     congr 1
     refine decide_eq_decide.2 ⟨fun hne=>by have:=List.length_pos_iff.2 hne;omega,fun hpos e=>by rw[e]at hpos;simp at hpos⟩
    refine Ok.run2 (XP p).length (fun i=>(XP p,aD i,(i:Int),())) (by rw[haD];simp) Oa (fun i hi k hk=>?_) (fun k=>?_)
    .dsimp only at hk |-
     rw[hall i hi]at hk
     refine Ok.P (Ok.j (Ok.cnd (fun g=>Ok.atn hi (Ok.oe (Qc3 hdl) (Ok.cnd (fun g'=>?_) (fun g'=>?_)))) (fun g=>?_)))
     .dsimp only
      rw[Qb Oa]
      rw[g,g']at hk;exact hk
     .dsimp only
      rw[Qb Oa]
      rw[g,g']at hk;exact hk
     .dsimp only
      rw[Qb Oa]
      rw[g]at hk;exact hk
    .dsimp only
     rw[hlast]
     refine Ok.N (Ok.cnd (fun g=>Ok.ite (fun g0=>Ok.s ?_) (fun g0=>Ok.s ?_)) (fun g=>Ok.s ?_))
     .rw[if_pos ⟨g,g0⟩]
     .rw[if_neg (fun hx=>g0 hx.2)]
     .rw[if_neg (by rw[g];simp)]
   .refine Ok.oe (Qc3 Oa) (Ok.cnd (fun g4=>?_) (fun g4=>?_))
    .have hd:=(UB.1 hf.declined).1
     refine Ok.oe (Qq4 Oa hd) (hJ _ ?_)
     have:Ug p a=Qhr p.Declined a.Person:=by unfold Ug;rw[if_pos g4]
     rw[this]
    .refine hJ _ ?_
     have:Ug p a=p.Declined:=by unfold Ug;rw[if_neg (by rw[g4];simp)]
     rw[this]
  .rw[if_neg k1,if_neg k2,if_pos k3]
   rw[if_pos k3]at v6
   have v6:=QW.1 v6
   rw[Qc Oa,Qc Oa]
  .rw[if_neg k1,if_neg k2,if_neg k3,if_pos k4,Qc Oa,Qc Oa]
  .rw[if_neg k1,if_neg k2,if_neg k3,if_neg k4]
 .refine Ok.oe (Qfg hb h) (Ok.cnd (fun g1=>Ok.oe QmA (Ok.cnd (fun g2=>hJ _ ⟨rfl,g1,g2⟩) (fun g2=>Ok.s ?_))) (fun g1=>Ok.s ?_))
  .unfold answerV;rw[if_pos (.inr g2)];rfl
  .unfold answerV;rw[if_pos (.inl g1)];rfl
theorem QsW{l:List D.Start}(hl:l.length<=900)(h:∀s∈l,s.People.length<=900):UP 1000 l l=some true:=by
 refine Ok.eq ?_
 unfold UP
 refine Ok.NS (Ok.run l.length (fun i=>((l,l,(i:Int),()),())) rfl Oa (fun i hi k hk=>?_) (fun k=>Ok.N (Ok.s rfl)))
 dsimp only
 have hs:=h _ (Qi hi)
 refine Ok.P (Ok.j (Ok.atn hi (Ok.atn hi (Ok.NS (Ok.atn hi (Ok.atn hi (Ok.NS (Ok.atn hi (Ok.atn hi (Ok.oe (QqR hs) ?_))))))))))
 rw[decide_eq_true rfl]
 refine Ok.t ?_
 dsimp only
 rw[Qb Oa]
 exact hk
theorem QsV(h:Qx p):Qjv 1000 p p=some true:=by
 have h1:=h.st;have h2:=h.de;have h3:=h.se
 unfold Qjv
 rw[QsW Oa (fun s hs=>by have:=(h.pe s hs).1;omega),QqR Oa,QqR Oa]
 simp only[decide_true,cd,AM.cnd,AM.optc]
end
/-
  What else is kept of made pages: who declined, which answers were seen. Plain Lean.
-/
section
variable {n:Nat} {c:D.Config} {b:D.Book} {p q:D.Page} {now k M:Int} {a:D.Answer} {Q:Int->D.Start->Prop}
structure PgX (k:Int) (p:D.Page):Prop where
 decl:∀x∈p.Declined,x<4
 seen:∀x∈p.Seen,1<=x/\x<=k
theorem PgX.mono{k':Int}(h:PgX k p)(hk:k<=k'):PgX k' p:=⟨h.decl,fun x hx=>⟨(h.seen x hx).1,Int.le_trans (h.seen x hx).2 hk⟩⟩
theorem PgX.step(h:PgX k p):PgX k (stepQ c b p):=by
 unfold stepQ
 split
 .exact⟨h.decl,h.seen⟩
 .split
  .exact⟨h.decl,h.seen⟩
  .exact⟨Ob,h.seen⟩
theorem PgX.run(h:PgX k p)(hb:Qy b)(hQ:QiV Q M c b)(hi:QG Q M b p):PgX k (runV c b p now).1:=
 Qjz hb hQ (fun q _ _ hr=>hr.step) hi h
theorem QuK{l:List Int}{x z:Int}(h:z∈Qhr l x):z∈l\/z=x:=by
 unfold Qhr at h
 rcases List.mem_append.1 h with h|h
 .exact .inl (List.mem_filter.1 h).1
 .rcases List.mem_cons.1 h with h|h
  .exact .inr h
  .exact .inl (List.mem_filter.1 h).1
theorem PgX.answer(h:PgX k p)(ha:a.Person<4)(hi:1<=a.ID/\a.ID<=k):PgX k (Xl p a):=by
 have hs:∀x∈p.Seen++[a.ID],1<=x/\x<=k:=VL h.seen hi
 have hd:∀x∈Ug p a,x<4:=by
  unfold Ug
  split
  .intro x hx
   rcases QuK hx with hx|rfl
   .exact h.decl x hx
   .exact ha
  .exact h.decl
 unfold Xl
 split
 .split
  .exact⟨h.decl,hs⟩
  .exact⟨h.decl,hs⟩
 .split
  .exact⟨hd,hs⟩
  .split
   .exact⟨h.decl,hs⟩
   .split
    .exact⟨Ob,hs⟩
    .exact⟨h.decl,hs⟩
theorem PgX.dlen(h:PgX k p)(hi:setV p.Declined=true):p.Declined.length<=4:=by
 have hs:=UB.1 hi
 exact Qq7 hs.1 fun z hz=>⟨(hs.2 z hz).1,h.decl z hz⟩
theorem PgX.new{id pol start:Int}:PgX k (newP id pol start):=⟨by simp[newP],by simp[newP]⟩
end
/-
  How the statements begin: light inputs, dice.
-/
open Go AM
theorem Qwi{t:List Int}:Qh6 1000 t=some (decide (((t.length:Nat):Int)<=500)):=rfl
theorem Qys{t:List Int}:Qev 1000 t=some ⟨t,0⟩:=rfl
theorem dice0{t:List Int}:XI t ⟨t,0⟩:=⟨rfl,Int.le_refl _,by dsimp only;omega⟩
theorem Qur{t:List Int}(h:decide (((t.length:Nat):Int)<=500)=true):t.length<=500:=by have:=of_decide_eq_true h;omega
/-
  Pages and answers that are made by dice: what holds of them.
-/
section
attribute [local irreducible] dueV stepV runV QL answerV
section
variable {n:Nat} {c:D.Config} {b:D.Book} {p q:D.Page} {now k M:Int} {a:D.Answer} {Q:Int->D.Start->Prop} {L:List Int} {d:D.Dice}
theorem Qu8(hb:Qy b)(hQ:QiV Q M c b)(h:QG Q M b p)(now:Int):∃q,runV c b p now=(q,0)/\QG Q M b q/\Z5 q now=false/\Kept p q:=by
 have h1:=QbU (now:=now) hb hQ h
 have h2:=Qbn (now:=now) hb hQ h
 rcases hr:runV c b p now with⟨q,e⟩
 rw[hr]at h1 h2
 obtain⟨a1,a2,a3⟩:=h1
 dsimp only at a1 a2 a3 h2
 subst a2
 exact⟨q,rfl,a1,a3,h2⟩
end
end
/-
  Ledgers, in plain Lean: what operations make of them, and what they keep.
-/
open Go AM
def QI(id f:Int)(l:List D.Start):List D.Call:=l.flatMap fun s=>s.People.map fun x=>D.Call.mk id s.K s.At x f
theorem Qb2{id f:Int}{a b:List D.Start}:QI id f (a++b)=QI id f a++QI id f b:=by unfold QI;rw[List.flatMap_append]
def unf(c:D.Call):D.Call:={ c with Fence:=0 }
theorem Qp8{id f:Int}{l:List D.Start}:(QI id f l).map unf=QI id 0 l:=by
 unfold QI
 rw[List.map_flatMap]
 congr 1
 funext s
 rw[List.map_map];rfl
def ownC(id:Int)(l:List D.Call):List D.Call:=l.filter fun c=>decide (c.Page=id)
theorem Ut{id:Int}{a b:List D.Call}:ownC id (a++b)=ownC id a++ownC id b:=List.filter_append ..
theorem Ws{id f:Int}{l:List D.Start}:∀c∈QI id f l,c.Page=id/\c.Fence=f:=by
 intro c hc
 unfold QI at hc
 grind
theorem Qky{id f:Int}{l:List D.Start}:ownC id (QI id f l)=QI id f l:=by
 unfold ownC
 exact List.filter_eq_self.2 fun c hc=>by simpa using(Ws c hc).1
theorem QsC{id i f:Int}{l:List D.Start}(h:i≠id):ownC i (QI id f l)=[]:=by
 unfold ownC
 exact List.filter_eq_nil_iff.2 fun c hc=>by have:=(Ws c hc).1;simp;omega
structure Told (fence:Int) (p:D.Page) (l:List D.Call):Prop where
 same:(ownC p.ID l).map unf=QI p.ID 0 p.Starts
 up:(ownC p.ID l).Pairwise fun x y=>x.Fence<=y.Fence
 fit:∀c∈ownC p.ID l,0<=c.Fence/\c.Fence<=fence
theorem Told.mono{f g:Int}{p:D.Page}{l:List D.Call}(h:Told f p l)(hg:f<=g):Told g p l:=⟨h.same,h.up,fun c hc=>by have:=h.fit c hc;omega⟩
theorem Told.more{f:Int}{p q:D.Page}{l:List D.Call}{m:List D.Start}(h:Told f p l)(hf:0<=f)(hid:q.ID=p.ID)(hs:q.Starts=p.Starts++m):Told f q (l++QI p.ID f m):=by
 refine⟨?_,?_,?_⟩
 .rw[hid,Ut,Qky,List.map_append,h.same,Qp8,hs,Qb2]
 .rw[hid,Ut,Qky]
  refine List.pairwise_append.2 ⟨h.up,?_,fun x hx y hy=>?_⟩
  .refine List.pairwise_iff_forall_sublist.2 fun{x y} hxy=>?_
   have h1:=(Ws x (hxy.subset Ob)).2
   have h2:=(Ws y (hxy.subset Ob)).2
   omega
  .have h1:=(h.fit x hx).2
   have h2:=(Ws y hy).2
   omega
 .rw[hid,Ut,Qky]
  intro c hc
  rcases List.mem_append.1 hc with hc|hc
  .exact h.fit c hc
  .have:=(Ws c hc).2;omega
theorem Told.other{f id:Int}{p:D.Page}{l:List D.Call}{m:List D.Start}(h:Told f p l)(hid:p.ID≠id):Told f p (l++QI id f m):=by
 have e:ownC p.ID (l++QI id f m)=ownC p.ID l:=by rw[Ut,QsC hid,List.append_nil]
 exact⟨by rw[e];exact h.same,by rw[e];exact h.up,by rw[e];exact h.fit⟩
def AscP(l:List D.Page):Prop:=l.Pairwise fun p q=>p.ID<q.ID
def posV(id:Int):List D.Page->Nat
 |[]=>0
 |p::r=>if p.ID<id then posV id r+1 else 0
theorem Qbh{id:Int}:∀{l:List D.Page},posV id l<=l.length
 |[]=>Nat.le_refl _
 |p::r=>by
  rw[posV]
  split
  .have:=Qbh (id:=id) (l:=r);rw[List.length_cons];omega
  .exact Nat.zero_le _
def hasV(id:Int)(l:List D.Page):Bool:=decide (posV id l<l.length/\(nth l (posV id l)).ID=id)
theorem QaG{α:Type}[Inhabited α]{x:α}{l:List α}{i:Nat}:nth (x::l) (i+1)=nth l i:=by simp[nth]
theorem Qdb{α:Type}[Inhabited α]{x:α}{l:List α}:nth (x::l) 0=x:=by simp[nth]
theorem QkI{id:Int}:∀{l:List D.Page} {i:Nat},i<posV id l->(nth l i).ID<id
 |[],i,h=>by simp[posV]at h
 |p::r,i,h=>by
  rw[posV]at h
  split at h
  .rename_i hp
   cases i with
   |zero=>rw[Qdb];exact hp
   |succ i=>rw[QaG];exact QkI Oa
  .omega
theorem QkH{id:Int}:∀{l:List D.Page},AscP l->∀{i:Nat},posV id l<=i->i<l.length->id<=(nth l i).ID
 |[],_,i,_,h=>by simp at h
 |p::r,ha,i,h1,h2=>by
  have ha':=List.pairwise_cons.1 ha
  rw[posV]at h1
  split at h1
  .cases i with
   |zero=>omega
   |succ i=>rw[QaG];exact QkH ha'.2 Oa (by simpa using h2)
  .cases i with
   |zero=>rw[Qdb];omega
   |succ i=>
    rw[QaG]
    have:=ha'.1 (nth r i) (Qi (by simpa using h2))
    omega
theorem QcX{l:List D.Page}(h:AscP l){i j:Nat}(hij:i<j)(hj:j<l.length):(nth l i).ID<(nth l j).ID:=by
 have:=List.pairwise_iff_getElem.1 h i j Oa hj hij
 simpa [nth,List.getD_eq_getElem?_getD,List.getElem?_eq_getElem hj,List.getElem?_eq_getElem (show i<l.length by omega)]using this
theorem QgC{l:List D.Page}(h:AscP l){i:Nat}(hi:i<l.length):posV (nth l i).ID l=i:=by
 rcases Nat.lt_trichotomy (posV (nth l i).ID l) i with g|g|g
 .have:=QkH h (Nat.le_refl (posV (nth l i).ID l)) Oa
  have:=QcX h g hi
  omega
 .exact g
 .have:=QkI g;omega
theorem Qkl{l:List D.Page}(h:AscP l){i:Nat}(hi:i<l.length):hasV (nth l i).ID l=true:=by
 unfold hasV;rw[QgC h hi];simp[hi]
theorem Quc{id:Int}{l:List D.Page}(ha:AscP l)(h:hasV id l=false):∀p∈l,p.ID≠id:=by
 intro p hp e
 obtain⟨i,hi,rfl⟩:=List.getElem_of_mem hp
 have e1:nth l i=l[i]:=by simp[nth,List.getD_eq_getElem?_getD,List.getElem?_eq_getElem hi]
 have:=Qkl ha hi
 simp_all
def insP(l:List D.Page)(p:D.Page):List D.Page:=l.take (posV p.ID l)++p::l.drop (posV p.ID l)
theorem QuM{id:Int}:∀{l:List D.Page},∀p∈l.take (posV id l),p.ID<id
 |[],p,h=>by simp at h
 |q::r,p,h=>by
  rw[posV]at h
  split at h
  .rename_i hq
   rw[List.take_succ_cons]at h
   rcases List.mem_cons.1 h with rfl|h
   .exact hq
   .exact QuM p h
  .simp at h
theorem Qqq{id:Int}:∀{l:List D.Page},AscP l->∀p∈l.drop (posV id l),id<=p.ID
 |[],_,p,h=>by simp at h
 |q::r,ha,p,h=>by
  have ha':=List.pairwise_cons.1 ha
  rw[posV]at h
  split at h
  .rw[List.drop_succ_cons]at h;exact Qqq ha'.2 p h
  .rename_i hq
   rw[List.drop_zero]at h
   rcases List.mem_cons.1 h with rfl|h
   .omega
   .have:=ha'.1 p h;omega
theorem Qv5{l:List D.Page}{p:D.Page}(h:AscP l)(hn:hasV p.ID l=false):AscP (insP l p):=by
 have hne:=Quc h hn
 refine List.pairwise_append.2 ⟨h.sublist (List.take_sublist ..),List.pairwise_cons.2 ⟨fun q hq=>?_,h.sublist (List.drop_sublist ..)⟩,fun q hq r hr=>?_⟩
 .have:=Qqq h q hq
  grind
 .have h1:=QuM q hq
  rcases List.mem_cons.1 hr with rfl|hr
  .exact h1
  .have:=Qqq h r hr;omega
theorem Qjl{l:List D.Page}{p q:D.Page}:q∈insP l p↔q=p\/q∈l:=by
 unfold insP
 rw[List.mem_append,List.mem_cons]
 constructor
 .grind
 .rintro(h|h)
  .exact .inr (.inl h)
  .have h2:=h
   rw[<-List.take_append_drop (posV p.ID l) l]at h2
   grind
theorem QwJ{l:List D.Page}{i:Nat}{p:D.Page}(h:AscP l)(hi:i<l.length)(hp:p.ID=(nth l i).ID):AscP (l.set i p):=by
 have e:∀j,j<l.length->(nth (l.set i p) j).ID=(nth l j).ID:=fun j hj=>by
  by_cases hij:j=i
  .subst hij;simp[nth,List.getD_eq_getElem?_getD,hi]at hp |-;exact hp
  .simp[nth,List.getD_eq_getElem?_getD,List.getElem?_set,Ne.symm hij]
 refine List.pairwise_iff_getElem.2 fun j k hj hk hjk=>?_
 have hj':j<l.length:=by simpa using hj
 have hk':k<l.length:=by simpa using hk
 have h1:=e j hj';have h2:=e k hk'
 have h3:=QcX h hjk hk'
 have g1:nth (l.set i p) j=(l.set i p)[j]:=by simp only[nth,List.getD_eq_getElem?_getD,List.getElem?_eq_getElem hj,Option.getD_some]
 have g2:nth (l.set i p) k=(l.set i p)[k]:=by simp only[nth,List.getD_eq_getElem?_getD,List.getElem?_eq_getElem hk,Option.getD_some]
 simp_all
structure QlX (l:List Int) (n:Nat):Prop where
 len:l.length<=n
 nodup:l.Nodup
 fit:∀x∈l,1<=x/\x<=1099511627776
theorem QlX.snoc{l:List Int}{n:Nat}{x:Int}(h:QlX l n)(h1:1<=x/\x<=1099511627776)(h2:l.contains x=false):QlX (l++[x]) (n+1):=by
 refine⟨by have:=h.len;simp;omega,List.nodup_append.2 ⟨h.nodup,Ob,fun y hy z hz e=>?_⟩,fun y hy=>?_⟩
 .simp_all
 .rcases List.mem_append.1 hy with hy|hy
  .exact h.fit y hy
  .simp_all
def QT:Int->D.Start->Prop:=fun _ s=>s.People.length<=4
theorem QT.step{M:Int}{c:D.Config}{b:D.Book}:QiV QT M c b:=fun _ _ _ _=>Qob
theorem Goes.short{Q:D.Start->Prop}{st k t h:Int}{l:List D.Start}(hq:∀s,Q s->s.People.length<=4)(g:Goes Q st l k t h):∀s∈l,s.People.length<=4:=by
 induction g with
 |nil=>intro s hs;simp at hs
 |step g h1 h2 h3 h4 ih=>
  grind
 |hand g h1 h2 h3 h4 ih=>
  grind
structure Qe (M:Int) (n:Nat) (l:D.Ledger):Prop where
 top:M<=8000000000
 now:0<=l.Now/\l.Now<=M - 20000
 small:n<=48
 cfg:Q0 n l.Config
 book:Qy l.Book
 page:∀p∈l.Pages,QG QT M l.Book p/\p.Last<=l.Now
 asc:AscP l.Pages
 len:l.Pages.length<=64
 owner : -1<=l.Owner/\l.Owner<=4
 fence:0<=l.Fence/\l.Fence<=(l.Seen.length:Int)
 seen:QlX l.Seen 256
 told:∀p∈l.Pages,Told l.Fence p l.Calls
 all:∀c∈l.Calls,∃p∈l.Pages,p.ID=c.Page
structure LW (M:Int) (n:Nat) (l:D.Ledger):Prop where
 top:M<=8000000000
 now:0<=l.Now/\l.Now<=8589934592
 small:n<=48
 cfg:Q0 n l.Config
 book:Qy l.Book
 page:∀p∈l.Pages,QG QT M l.Book p/\p.Last<=l.Now
 asc:AscP l.Pages
 len:l.Pages.length<=64
 owner : -1<=l.Owner/\l.Owner<=4
 fence:0<=l.Fence/\l.Fence<=1048576
 seen:QlX l.Seen 256
 told:∀p∈l.Pages,Told l.Fence p l.Calls
 all:∀c∈l.Calls,∃p∈l.Pages,p.ID=c.Page
theorem Qe.w{M:Int}{n:Nat}{l:D.Ledger}(h:Qe M n l):LW M n l:=by
 have h1:=h.top;have h2:=h.now;have h3:=h.fence;have h4:=h.seen.len
 exact⟨h1,Oa,h.small,h.cfg,h.book,h.page,h.asc,h.len,h.owner,Oa,h.seen,h.told,h.all⟩
def putV(l:D.Ledger)(i:Nat)(p:D.Page):D.Ledger:=
 { l with Pages:=l.Pages.set i p,Calls:=l.Calls++QI p.ID l.Fence (p.Starts.drop (nth l.Pages i).Starts.length) }
def runI(l:D.Ledger)(i:Nat):D.Ledger:=if (runV l.Config l.Book (nth l.Pages i) l.Now).2≠0 then l else putV l i (runV l.Config l.Book (nth l.Pages i) l.Now).1
def Xb(l:D.Ledger):Nat->D.Ledger
 |0=>l
 |k+1=>runI (Xb l k) k
def Qop(c:D.Config)(i:Int)(x:D.Edit):D.Config:=
 { c with Schedules:=c.Schedules.set i.toNat { nth c.Schedules i.toNat with Edits:=(nth c.Schedules i.toNat).Edits++[x] } }
def opV(l:D.Ledger)(o:D.Op):D.Ledger×Int:=
  if o.Kind=1 then
    (if hasV o.Page l.Pages=true then(l,4)else if l.Pages.length=64 then(l,5)else if o.Page<1 then(l,1)
     else if 0<=o.Policy/\o.Policy<(l.Book.Policies.length:Int)then(runI { l with Pages:=insP l.Pages (newP o.Page o.Policy l.Now) } (posV o.Page l.Pages),0)else(l,3))
  else if o.Kind=2 then(if o.Fence=l.Fence+1 then({ l with Owner:=o.Region,Fence:=o.Fence },0)else(l,23))
  else if o.Kind=3 then
    (if o.Region=l.Owner/\o.Fence=l.Fence then
      (if hasV o.Page l.Pages=true then
        (if Z5 (nth l.Pages (posV o.Page l.Pages)) l.Now=true/\o.K=(if (nth l.Pages (posV o.Page l.Pages)).State=2 then -1 else(nth l.Pages (posV o.Page l.Pages)).Next)then(runI l (posV o.Page l.Pages),0)else(l,9))
       else(l,3))
     else(l,23))
  else if o.Kind=4 then
    (if hasV o.Answer.Page l.Pages=true then
      (if (answerV l.Book (nth (runI l (posV o.Answer.Page l.Pages)).Pages (posV o.Answer.Page l.Pages)) { o.Answer with At:=l.Now }).2=0 then
         (putV (runI l (posV o.Answer.Page l.Pages)) (posV o.Answer.Page l.Pages) (answerV l.Book (nth (runI l (posV o.Answer.Page l.Pages)).Pages (posV o.Answer.Page l.Pages)) { o.Answer with At:=l.Now }).1,0)
       else(runI l (posV o.Answer.Page l.Pages),(answerV l.Book (nth (runI l (posV o.Answer.Page l.Pages)).Pages (posV o.Answer.Page l.Pages)) { o.Answer with At:=l.Now }).2))
     else(l,3))
  else if 0<=o.Schedule/\o.Schedule<2 then({ Xb l l.Pages.length with Config:=Qop l.Config o.Schedule o.Edit },0)else(Xb l l.Pages.length,3)
def Q5(l:D.Ledger)(o:D.Op):D.Ledger×Int:=
 if l.Seen.contains o.ID=true then(l,0)else opV { l with Now:=max l.Now o.At,Seen:=l.Seen++[o.ID] } o
section
variable {M:Int} {n:Nat} {l:D.Ledger} {i:Nat} {p q:D.Page} {b:D.Book} {c:D.Config} {now:Int}
def Ext(p q:D.Page):Prop:=∃m,q.Starts=p.Starts++m
theorem Ext.refl(p:D.Page):Ext p p:=⟨[],Ob⟩
theorem Ext.step(h:Ext p q):Ext p (stepQ c b q):=by
 obtain⟨m,hm⟩:=h
 unfold stepQ
 split
 .exact⟨m,hm⟩
 .split
  .exact⟨m,hm⟩
  .exact⟨m++[_],by dsimp only;rw[hm,List.append_assoc]⟩
theorem QnI(hb:Qy b)(h:QG QT M b p):Ext p (runV c b p now).1:=
 Qjz hb QT.step (fun q _ _ hr=>hr.step) h (Ext.refl p)
theorem Qgi{a:D.Answer}:Ext p (Xl p a):=by
 by_cases h:a.Kind=4
 .exact⟨_,QjG.1 h⟩
 .exact⟨[],by rw[QjG.2 h];simp⟩
theorem QsJ(hx:Ext (nth l.Pages i) p):∃m,p.Starts=(nth l.Pages i).Starts++m/\(putV l i p).Calls=l.Calls++QI p.ID l.Fence m:=by
 obtain⟨m,hm⟩:=hx
 refine⟨m,hm,?_⟩
 unfold putV
 simp_all
theorem XJ{α:Type}[Inhabited α]{l:List α}{i:Nat}{x:α}(h:i<l.length):nth (l.set i x) i=x:=by
 simp[nth,List.getD_eq_getElem?_getD,h]
theorem QaW{α:Type}[Inhabited α]{l:List α}{i j:Nat}{x:α}(h:j≠i):nth (l.set i x) j=nth l j:=by
 simp[nth,List.getD_eq_getElem?_getD,List.getElem?_set,Ne.symm h]
theorem Qm5{α:Type}[Inhabited α]{l:List α}{x:α}(h:x∈l):∃i,i<l.length/\nth l i=x:=by
 obtain⟨i,hi,e⟩:=List.getElem_of_mem h
 exact⟨i,hi,by simp[nth,List.getD_eq_getElem?_getD,List.getElem?_eq_getElem hi,e]⟩
theorem Qe.put(h:Qe M n l)(hi:i<l.Pages.length)(hp:QG QT M l.Book p)(hl:p.Last<=l.Now)(hid:p.ID=(nth l.Pages i).ID)(hx:Ext (nth l.Pages i) p):Qe M n (putV l i p):=by
 obtain⟨m,hm,hc⟩:=QsJ hx
 have hf:=h.fence
 have hpage:∀q∈(l.Pages.set i p),q=p\/(q∈l.Pages/\q.ID≠p.ID):=by
  intro q hq
  obtain⟨j,hj,rfl⟩:=Qm5 hq
  rw[List.length_set]at hj
  by_cases e:j=i
  .subst e;rw[XJ hj];exact .inl rfl
  .rw[QaW e]
   refine .inr ⟨Qi hj,fun e2=>?_⟩
   rw[hid]at e2
   have h1:=QgC h.asc hj
   have h2:=QgC h.asc hi
   rw[e2]at h1;omega
 refine⟨h.top,h.now,h.small,h.cfg,h.book,fun q hq=>?_,QwJ h.asc hi hid,by show(l.Pages.set i p).length<=64;rw[List.length_set];exact h.len,h.owner,h.fence,h.seen,fun q hq=>?_,fun x hx=>?_⟩
 .rcases hpage q hq with rfl|⟨hq,_⟩
  .exact⟨hp,hl⟩
  .exact h.page q hq
 .rw[hc]
  show Told l.Fence q _
  rcases hpage q hq with rfl|⟨hq,hne⟩
  .exact hid ▸ (h.told _ (Qi hi)).more hf.1 hid hm
  .exact(h.told q hq).other hne
 .rw[hc]at hx
  show ∃q∈l.Pages.set i p,q.ID=x.Page
  rcases List.mem_append.1 hx with hx|hx
  .obtain⟨q,hq,e⟩:=h.all x hx
   obtain⟨j,hj,rfl⟩:=Qm5 hq
   by_cases e2:j=i
   .subst e2;exact⟨p,by have:=Qi (l:=l.Pages.set j p) (i:=j) (by simpa using hj);rwa [XJ hj]at this,by rw[hid,e]⟩
   .exact⟨_,by have:=Qi (l:=l.Pages.set i p) (i:=j) (by simpa using hj);rwa [QaW e2]at this,e⟩
  .exact⟨p,by have:=Qi (l:=l.Pages.set i p) (i:=i) (by simpa using hi);rwa [XJ hi]at this,(Ws x hx).1.symm⟩
theorem Qe.at(h:Qe M n l)(hi:i<l.Pages.length):QG QT M l.Book (nth l.Pages i)/\(nth l.Pages i).Last<=l.Now:=h.page _ (Qi hi)
theorem LW.at(h:LW M n l)(hi:i<l.Pages.length):QG QT M l.Book (nth l.Pages i)/\(nth l.Pages i).Last<=l.Now:=h.page _ (Qi hi)
theorem LW.runEq(h:LW M n l)(hi:i<l.Pages.length):runI l i=putV l i (runV l.Config l.Book (nth l.Pages i) l.Now).1:=by
 unfold runI
 rw[(QbU h.book QT.step (h.at hi).1).2.1,if_neg Ob]
theorem Qe.runEq(h:Qe M n l)(hi:i<l.Pages.length):runI l i=putV l i (runV l.Config l.Book (nth l.Pages i) l.Now).1:=h.w.runEq hi
theorem Qe.run(h:Qe M n l)(hi:i<l.Pages.length):Qe M n (runI l i):=by
 rw[h.runEq hi]
 have hp:=h.at hi
 exact h.put hi (QbU h.book QT.step hp.1).1 (Qu7 h.book QT.step hp.1 hp.2) (Qbn h.book QT.step hp.1).id (QnI h.book hp.1)
theorem Yz:(runI l i).Now=l.Now/\(runI l i).Config=l.Config/\(runI l i).Book=l.Book/\(runI l i).Owner=l.Owner/\(runI l i).Fence=l.Fence/\(runI l i).Seen=l.Seen/\(runI l i).Pages.length=l.Pages.length:=by
 unfold runI putV
 grind
theorem QcI(h:Qe M n l)(hi:i<l.Pages.length){j:Nat}:nth (runI l i).Pages j=if j=i then(runV l.Config l.Book (nth l.Pages i) l.Now).1 else nth l.Pages j:=by
 rw[h.runEq hi]
 unfold putV
 dsimp only
 split
 .rename_i e;subst e;rw[XJ hi]
 .rename_i e;rw[QaW e]
theorem XY:∀{k:Nat},(Xb l k).Now=l.Now/\(Xb l k).Config=l.Config/\(Xb l k).Book=l.Book/\(Xb l k).Owner=l.Owner/\(Xb l k).Fence=l.Fence/\(Xb l k).Seen=l.Seen/\(Xb l k).Pages.length=l.Pages.length
 |0=>⟨rfl,rfl,rfl,rfl,rfl,rfl,rfl⟩
 |k+1=>by
  have h1:=Yz (l:=Xb l k) (i:=k)
  have h2:=XY (k:=k)
  rw[Xb]
  exact⟨h1.1.trans h2.1,h1.2.1.trans h2.2.1,h1.2.2.1.trans h2.2.2.1,h1.2.2.2.1.trans h2.2.2.2.1,h1.2.2.2.2.1.trans h2.2.2.2.2.1,h1.2.2.2.2.2.1.trans h2.2.2.2.2.2.1,h1.2.2.2.2.2.2.trans h2.2.2.2.2.2.2⟩
theorem Qe.runs(h:Qe M n l):∀{k:Nat},k<=l.Pages.length->Qe M n (Xb l k)
 |0,_=>h
 |k+1,hk=>by
  have h2:=XY (l:=l) (k:=k)
  exact(h.runs (k:=k) Oa).run Oa
theorem Qrh{x:D.Edit}{s:Int}(h:Q0 n c)(hx:QbB x)(hs:0<=s/\s<2):Q0 (n+1) (Qop c s x):=by
 have hsl:=h.slen
 have hi:s.toNat<c.Schedules.length:=Oa
 have hso:=h.sched _ (Qi hi)
 refine⟨h.zone,h.pname,h.person,h.cal,?_,fun y hy=>?_⟩
 .rw[<-h.sname]
  unfold Qop
  dsimp only
  refine List.ext_getElem Ob fun j h1 h2=>?_
  simp only[List.getElem_map,List.getElem_set]
  split
  .rename_i e;subst e
   simp[nth,List.getD_eq_getElem?_getD,List.getElem?_eq_getElem hi]
  .rfl
 .obtain⟨j,hj,rfl⟩:=Qm5 hy
  have hj:j<(c.Schedules.set s.toNat _).length:=hj
  rw[List.length_set]at hj
  show Qd7 (n+1) (nth (c.Schedules.set s.toNat _) j)
  by_cases e:j=s.toNat
  .subst e
   rw[XJ hi]
   exact⟨hso.layers,by have:=hso.len;simp;omega,fun z hz=>by
    rcases List.mem_append.1 hz with hz|hz
    .exact hso.edit z hz
    .rw[List.mem_singleton.1 hz];exact hx⟩
  .rw[QaW e]
   have:=h.sched _ (Qi hj)
   exact⟨this.layers,by have:=this.len;omega,this.edit⟩
structure OpIn (o:D.Op):Prop where
 id:1<=o.ID/\o.ID<=1099511627776
 kind:1<=o.Kind/\o.Kind<=5
 region:0<=o.Region/\o.Region<=4
 fence:0<=o.Fence/\o.Fence<=1048576
 at_:0<=o.At/\o.At<=8589934592
 page:0<=o.Page/\o.Page<=999999
 k : -1<=o.K/\o.K<=1000
 answer:o.Kind=4->Y0 o.Answer=true/\(o.Answer.Kind=3->o.Answer.Arg<=5000)
 edit:o.Kind=5->0<=o.Schedule/\o.Schedule<2->QbB o.Edit
theorem Qvr{a:D.Answer}{t:Int}(h:Y0 a=true)(ht:0<=t/\t<=8589934592):Y0 { a with At:=t }=true:=by
 unfold Y0 at h |-
 simp only[bae,QW]at h |-
 simp_all
theorem Qe.see{o:D.Op}(h:Qe M n l)(ho:OpIn o)(hn:max l.Now o.At<=M - 20000)(hs:l.Seen.contains o.ID=false)(hl:l.Seen.length<256):Qe M n { l with Now:=max l.Now o.At,Seen:=l.Seen++[o.ID] }:=by
 have hnow:=h.now;have hf:=h.fence
 refine⟨h.top,⟨by dsimp only;omega,hn⟩,h.small,h.cfg,h.book,fun p hp=>⟨(h.page p hp).1,by have:=(h.page p hp).2;dsimp only;omega⟩,h.asc,h.len,h.owner,⟨hf.1,by dsimp only;rw[List.length_append];simp;omega⟩,?_,h.told,h.all⟩
 have:=h.seen.snoc ho.id hs
 exact⟨by dsimp only;simp;omega,this.nodup,this.fit⟩
theorem Qe.open{o:D.Op}(h:Qe M n l)(hp:hasV o.Page l.Pages=false)(h1:1<=o.Page/\o.Page<=999999)(h2:0<=o.Policy/\o.Policy<(l.Book.Policies.length:Int))(hl:l.Pages.length<64):
  Qe M n { l with Pages:=insP l.Pages (newP o.Page o.Policy l.Now) }/\posV o.Page l.Pages<(insP l.Pages (newP o.Page o.Policy l.Now)).length/\nth (insP l.Pages (newP o.Page o.Policy l.Now)) (posV o.Page l.Pages)=newP o.Page o.Policy l.Now:=by
 have hnow:=h.now
 have hnew:QG QT M l.Book (newP o.Page o.Policy l.Now):=Qqm h.top h.book h1 h2 hnow
 have hlen:(insP l.Pages (newP o.Page o.Policy l.Now)).length=l.Pages.length+1:=by
  unfold insP;rw[List.length_append,List.length_cons,List.length_take,List.length_drop]
  omega
 have hpos:=Qbh (id:=o.Page) (l:=l.Pages)
 refine⟨⟨h.top,h.now,h.small,h.cfg,h.book,fun q hq=>?_,Qv5 h.asc hp,by dsimp only;omega,h.owner,h.fence,h.seen,fun q hq=>?_,fun x hx=>?_⟩,Oa,?_⟩
 .rcases Qjl.1 hq with rfl|hq
  .exact⟨hnew,Int.le_refl _⟩
  .exact h.page q hq
 .rcases Qjl.1 hq with rfl|hq
  .have e:ownC o.Page l.Calls=[]:=List.filter_eq_nil_iff.2 fun x hx=>by
    obtain⟨q,hq,e⟩:=h.all x hx
    have:=Quc h.asc hp q hq
    simp;omega
   exact⟨by show(ownC o.Page l.Calls).map unf=_;rw[e];rfl,by show(ownC o.Page l.Calls).Pairwise _;rw[e];exact List.Pairwise.nil,by show ∀x∈ownC o.Page l.Calls,_;rw[e];simp⟩
  .exact h.told q hq
 .obtain⟨q,hq,e⟩:=h.all x hx
  exact⟨q,Qjl.2 (.inr hq),e⟩
 .unfold insP
  show nth (l.Pages.take (posV o.Page l.Pages)++_::_) (posV o.Page l.Pages)=_
  simp[nth,List.getD_eq_getElem?_getD,List.getElem?_append,Nat.min_eq_left hpos]
theorem Qe.own{o:D.Op}(h:Qe M n l)(ho:OpIn o)(hf:o.Fence=l.Fence+1)(hs:l.Fence<(l.Seen.length:Int)):Qe M n { l with Owner:=o.Region,Fence:=o.Fence }:=by
 have hr:=ho.region;have h0:=h.fence
 exact⟨h.top,h.now,h.small,h.cfg,h.book,h.page,h.asc,h.len,⟨by dsimp only;omega,by dsimp only;omega⟩,⟨by dsimp only;omega,by dsimp only;omega⟩,h.seen,fun p hp=>(h.told p hp).mono (by dsimp only;omega),h.all⟩
theorem Qe.edit{o:D.Op}(h:Qe M n l)(hn:n<48)(hx:QbB o.Edit)(hs:0<=o.Schedule/\o.Schedule<2):Qe M (n+1) { l with Config:=Qop l.Config o.Schedule o.Edit }:=
 ⟨h.top,h.now,Oa,Qrh h.cfg hx hs,h.book,h.page,h.asc,h.len,h.owner,h.fence,h.seen,h.told,h.all⟩
theorem Qe.wide(h:Qe M n l)(hn:n<48):Qe M (n+1) l:=
 ⟨h.top,h.now,Oa,h.cfg.mono Oa,h.book,h.page,h.asc,h.len,h.owner,h.fence,h.seen,h.told,h.all⟩
theorem Qba{id:Int}(h:hasV id l.Pages=true):posV id l.Pages<l.Pages.length/\(nth l.Pages (posV id l.Pages)).ID=id:=by
 unfold hasV at h;exact of_decide_eq_true h
theorem Qe.answer{a:D.Answer}(h:Qe M n l)(hi:i<l.Pages.length)(ha:a.At=l.Now)(hv:Y0 a=true)(hs:a.Kind=3->a.Arg<=5000)(hr:(answerV l.Book (nth l.Pages i) a).2=0):Qe M n (putV l i (answerV l.Book (nth l.Pages i) a).1):=by
 have hp:=h.at hi
 have hc:=hp.1.check h.book
 have hnow:=h.now
 revert hr
 unfold answerV
 rw[hc,hv,if_neg Ob]
 split
 .intro e;simp at e
 .split
  .intro _;exact h.put hi hp.1 hp.2 rfl (Ext.refl _)
  .rename_i hs2
   split
   .omega
   .rename_i hre
    intro _
    have hre:XW (nth l.Pages i) a=0:=by simpa using hre
    have h0:=Qpp hre
    exact h.put hi (hp.1.answerQ_inv h.book hv Oa hs (by simpa using hs2) hre) (by rw[<-ha];exact Qn1 h0.1) QlY.1 Qgi
theorem Qe.op0{o:D.Op}(hw:Qe M n l)(ho:OpIn o)(hk5:o.Kind≠5)(hs:l.Fence<(l.Seen.length:Int)):Qe M n (opV l o).1:=by
 have hk:=ho.kind
 unfold opV
 split
 .split
  .exact hw
  .rename_i hp
   split
   .exact hw
   .split
    .exact hw
    .split
     .rename_i h1 h2 h3
      have h4:=ho.page;have h5:=hw.len
      have:=hw.open (o:=o) (by simpa using hp) Oa h3 Oa
      exact this.1.run this.2.1
     .exact hw
 .split
  .split
   .rename_i hf
    exact hw.own ho hf hs
   .exact hw
  .split
   .split
    .split
     .rename_i hp
      generalize (if (nth l.Pages (posV o.Page l.Pages)).State=2 then(-1:Int)else(nth l.Pages (posV o.Page l.Pages)).Next)=kk
      split
      .exact hw.run (Qba hp).1
      .exact hw
     .exact hw
    .exact hw
   .split
    .rename_i k4
     split
     .rename_i hp
      have hi:=(Qba hp).1
      have hr:=hw.run hi
      have hkp:=Yz (l:=l) (i:=posV o.Answer.Page l.Pages)
      have ha:=ho.answer k4
      have hnow:=hw.now;have htop:=hw.top
      split
      .rename_i he
       have:=hr.answer (i:=posV o.Answer.Page l.Pages) (a:={ o.Answer with At:=l.Now }) Oa hkp.1.symm (Qvr ha.1 Oa) ha.2 (by rw[hkp.2.2.1];exact he)
       simp_all
      .exact hr
     .exact hw
    .omega
theorem Qe.op{o:D.Op}(h:Qe M n l)(hn:n<48)(ho:OpIn o)(hs:l.Fence<(l.Seen.length:Int)):Qe M (n+1) (opV l o).1:=by
 have hw:=h.wide hn
 by_cases k5:o.Kind=5
 .unfold opV
  rw[if_neg Oa,if_neg Oa,if_neg Oa,if_neg Oa]
  split
  .rename_i hsch
   have h3:=h.runs (Nat.le_refl _)
   have h4:=XY (l:=l) (k:=l.Pages.length)
   have:=h3.edit hn (ho.edit k5 hsch) hsch
   simp_all
  .exact hw.runs (Nat.le_refl _)
 .exact hw.op0 ho k5 hs
theorem Qe.apply{o:D.Op}(h:Qe M n l)(hn:n<48)(ho:OpIn o)(ht:max l.Now o.At<=M - 20000)(hl:l.Seen.length<256):Qe M (n+1) (Q5 l o).1:=by
 unfold Q5
 split
 .exact h.wide hn
 .rename_i hs
  exact(h.see ho ht (by simpa using hs) hl).op hn ho (by dsimp only;have:=h.fence;rw[List.length_append];simp;omega)
end
/-
  Ledgers looked at: what the reference's calls and checks compute.
-/
section
attribute [local irreducible] dueV stepV runV QL answerV
section
variable {n:Nat} {c:D.Config} {b:D.Book} {p q:D.Page} {now M:Int} {l:D.Ledger}
theorem Qa5{id f:Int}{m:Nat}:∀{l:List D.Start},(∀s∈l,s.People.length<=m)->(QI id f l).length<=m*l.length
 |[],_=>by simp[QI]
 |s::l,h=>by
  have:=Qa5 (id:=id) (f:=f) (l:=l) fun x hx=>h x (List.mem_cons_of_mem _ hx)
  have h1:=h s (List.mem_cons_self ..)
  unfold QI at this |-
  rw[List.flatMap_cons,List.length_append,List.length_map,List.length_cons,Nat.mul_succ];omega
theorem Qed{id f:Int}{l:List D.Start}{s:D.Start}:QI id f (l++[s])=QI id f l++s.People.map fun x=>D.Call.mk id s.K s.At x f:=by
 rw[Qb2];unfold QI;simp
theorem QrE{α:Type}[Inhabited α]{l:List α}{k j:Nat}:nth (l.drop k) j=nth l (k+j):=by
 simp[nth,List.getD_eq_getElem?_getD,List.getElem?_drop]
theorem QmN(h:Qx p){k:Nat}{f:Int}(hk:k<=p.Starts.length):QcC 1000 p (k:Int) f=some (QI p.ID f (p.Starts.drop k)):=by
 have hst:=h.st
 refine Ok.eq ?_
 unfold QcC
 refine Ok.run (p.Starts.length - k) (fun j=>((f,((k+j:Nat):Int),()),p,QI p.ID f ((p.Starts.drop k).take j),())) rfl Oa (fun j hj kk hkk=>?_) (fun kk=>?_)
 .try dsimp only
  have hlt:k+j<p.Starts.length:=Oa
  refine Ok.P (Ok.atn hlt ?_)
  have hpe:=(h.pe _ (Qi hlt)).1
  have hdl:j<(p.Starts.drop k).length:=by simp;omega
  have hts:(p.Starts.drop k).take (j+1)=(p.Starts.drop k).take j++[nth p.Starts (k+j)]:=by rw[<-Qz hdl,QrE]
  have hol:(QI p.ID f ((p.Starts.drop k).take j)).length<=40*((p.Starts.drop k).take j).length:=Qa5 (m:=40) fun s hs=>(h.pe s (List.mem_of_mem_drop (List.mem_of_mem_take hs))).1
  rw[List.length_take]at hol
  obtain⟨s,hs⟩:∃s,nth p.Starts (k+j)=s:=⟨_,rfl⟩
  rw[hs]at hpe hts |-
  refine Ok.run s.People.length (fun z=>((f,((k+j:Nat):Int),(z:Int),()),p,s,QI p.ID f ((p.Starts.drop k).take j)++(s.People.take z).map (fun x=>D.Call.mk p.ID s.K s.At x f),())) (by rw[List.take_zero,List.map_nil,List.append_nil];rfl) Oa (fun z hz k2 hk2=>?_) (fun k2=>?_)
  .try dsimp only
   refine Ok.P (Ok.atn hz (Ok.lec ?_ ?_))
   .simp only[List.length_append,List.length_map,List.length_take,List.length_cons,List.length_nil];omega
   .try dsimp only
    rw[Qb Oa]
    try dsimp only at hk2
    rw[<-Qz hz,List.map_append,<-List.append_assoc]at hk2
    exact hk2
  .try dsimp only
   refine Ok.N ?_
   try dsimp only
   rw[Qb Oa,List.take_length]
   try dsimp only at hkk
   rw[hts,Qed]at hkk
   exact hkk
 .try dsimp only
  refine Ok.N (Ok.s ?_)
  rw[List.take_of_length_le Ob]
theorem QlF{id:Int}{cs:List D.Call}{i:Nat}(hi:i<cs.length):ownC id (cs.take (i+1))=ownC id (cs.take i)++(if (nth cs i).Page=id then[nth cs i]else[]):=by
 rw[<-Qz hi,Ut]
 congr 1
 unfold ownC
 by_cases h:(nth cs i).Page=id
 .simp[h]
 .simp[h]
theorem QyC(h:Qx p)(hl:l.Calls.length<=900)(ht:Told l.Fence p l.Calls):QfI 1000 l p=some true:=by
 have hW:=ht.same
 obtain⟨W,hWe⟩:∃W,QI p.ID 0 p.Starts=W:=⟨_,rfl⟩
 rw[hWe]at hW
 have hWl:W.length=(ownC p.ID l.Calls).length:=by rw[<-hW,List.length_map]
 have hol:∀i,(ownC p.ID (l.Calls.take i)).length<=900:=fun i=>by
  unfold ownC
  exact Nat.le_trans (List.length_filter_le _ _) (by rw[List.length_take];omega)
 refine Ok.eq ?_
 unfold QfI
 have hc:=QmN (k:=0) (f:=0) h (Nat.zero_le _)
 rw[List.drop_zero,hWe]at hc
 refine Ok.oe hc ?_
 refine Ok.loop (fun m x=>∃(i:Nat) (fe:Int),x=((W,((ownC p.ID (l.Calls.take i)).length:Int),fe,(i:Int),()),l,p,())/\i<=l.Calls.length/\(fe=0\/∃c∈ownC p.ID (l.Calls.take i),c.Fence=fe)/\m=l.Calls.length - i) (m:=l.Calls.length) Oa
  ⟨0,0,by rw[List.take_zero];rfl,Oa,.inl rfl,rfl⟩ ?_
 rintro m x ⟨i,fe,rfl,i1,i2,rfl⟩ K hK
 try dsimp only
 have hoi:=hol i
 refine Ok.ite (fun hi=>?_) (fun hi=>?_)
 .have hlt:i<l.Calls.length:=Oa
  refine Ok.j (Ok.atn hlt ?_)
  have hsu:=QlF (id:=p.ID) hlt
  have hsp:l.Calls=l.Calls.take i++nth l.Calls i::l.Calls.drop (i+1):=by rw[<-Qei hlt,List.take_append_drop]
  obtain⟨c,hce⟩:∃c,nth l.Calls i=c:=⟨_,rfl⟩
  rw[hce]at hsu hsp |-
  refine Ok.ite (fun g=>?_) (fun g=>?_)
  .rw[if_neg g,List.append_nil]at hsu
   try dsimp only
   rw[Qb Oa]
   refine hK _ _ Oa ⟨i+1,fe,by rw[hsu],Oa,by rw[hsu];exact i2,rfl⟩
  .have g:c.Page=p.ID:=Oa
   rw[if_pos g]at hsu
   have hown:ownC p.ID l.Calls=ownC p.ID (l.Calls.take i)++c::ownC p.ID (l.Calls.drop (i+1)):=by
    rw[hsp,Ut]
    congr 1
    .rw[<-hsp]
    .unfold ownC
     rw[List.filter_cons_of_pos (by simpa using g)]
     rw[<-hsp]
   have hcm:c∈ownC p.ID l.Calls:=by rw[hown];simp
   have hfit:=ht.fit c hcm
   have hle:fe<=c.Fence:=by
    rcases i2 with rfl|⟨c',hc',rfl⟩
    .exact hfit.1
    .have:=ht.up
     rw[hown]at this
     exact(List.pairwise_append.1 this).2.2 c' hc' c (List.mem_cons_self ..)
   have hn:(ownC p.ID (l.Calls.take i)).length<W.length:=by rw[hWl,hown];simp
   have hnth:nth W (ownC p.ID (l.Calls.take i)).length=unf c:=by
    have e:W=(ownC p.ID (l.Calls.take i)).map unf++(unf c::(ownC p.ID (l.Calls.drop (i+1))).map unf):=by rw[<-hW,hown,List.map_append,List.map_cons]
    rw[e]
    simp[nth,List.getD_eq_getElem?_getD]
   refine Ok.join (fun y=>y=((W,((ownC p.ID (l.Calls.take i)).length:Int),(i:Int),()),l,p,c,())) (fun y hy=>?_) (fun J hJ=>Ok.N (Ok.N (Ok.N (hJ _ rfl))))
   subst hy
   try dsimp only
   refine Ok.atn hn ?_
   rw[hnth]
   refine Ok.n (fun h=>h rfl) ?_
   try dsimp only
   rw[Qb Oa,Qb Oa]
   refine hK _ _ Oa ⟨i+1,c.Fence,by rw[hsu];simp,Oa,.inr ⟨c,by rw[hsu];simp,rfl⟩,rfl⟩
 .have e:i=l.Calls.length:=Oa
  subst e
  refine Ok.s (decide_eq_true ?_)
  rw[List.take_length,hWl]
def sumC(l:List D.Page)(f:D.Page->Nat):Nat:=(l.map f).sum
theorem QwN{l:List D.Page}{f g h:D.Page->Nat}(e:∀p∈l,f p=g p+h p):sumC l f=sumC l g+sumC l h:=by
 induction l with
 |nil=>rfl
 |cons p l ih=>
  have:=ih fun q hq=>e q (List.mem_cons_of_mem _ hq)
  have h1:=e p (List.mem_cons_self ..)
  simp only[sumC,List.map_cons,List.sum_cons]at this |-
  omega
theorem QwO{l:List D.Page}{x:Int}(ha:AscP l)(hx:∃p∈l,p.ID=x):sumC l (fun p=>if x=p.ID then 1 else 0)=1:=by
 induction l with
 |nil=>obtain⟨p,hp,_⟩:=hx;simp at hp
 |cons q l ih=>
  have ha':=List.pairwise_cons.1 ha
  have hz:∀(l:List D.Page),(∀p∈l,x≠p.ID)->sumC l (fun p=>if x=p.ID then 1 else 0)=0:=by
   intro l
   induction l with
   |nil=>intro _;rfl
   |cons p l ih=>
    intro h
    simp only[sumC,List.map_cons,List.sum_cons]
    rw[if_neg (h p (List.mem_cons_self ..))]
    have:=ih fun q hq=>h q (List.mem_cons_of_mem _ hq)
    unfold sumC at this;omega
  simp only[sumC,List.map_cons,List.sum_cons]
  by_cases e:x=q.ID
  .rw[if_pos e]
   have:=hz l fun p hp e'=>by have:=ha'.1 p hp;omega
   unfold sumC at this;omega
  .rw[if_neg e]
   have:=ih ha'.2 (by
    obtain⟨p,hp,h2⟩:=hx
    rcases List.mem_cons.1 hp with rfl|hp
    .exact absurd h2.symm e
    .exact⟨p,hp,h2⟩)
   unfold sumC at this;omega
theorem Qmy{l:List D.Page}(ha:AscP l):∀{cs:List D.Call},(∀c∈cs,∃p∈l,p.ID=c.Page)->sumC l (fun p=>(ownC p.ID cs).length)=cs.length
 |[],_=>by
  have:∀l:List D.Page,sumC l (fun p=>(ownC p.ID []).length)=0:=by
   intro l
   induction l with
   |nil=>rfl
   |cons p l ih=>simp only[sumC,List.map_cons,List.sum_cons]at ih |-;simpa [ownC]using ih
  rw[this];rfl
 |c::cs,h=>by
  have h1:=Qmy ha (cs:=cs) fun x hx=>h x (List.mem_cons_of_mem _ hx)
  have h2:=QwO ha (h c (List.mem_cons_self ..))
  rw[QwN (g:=fun p=>(ownC p.ID cs).length) (h:=fun p=>if c.Page=p.ID then 1 else 0) (fun p hp=>?_),h1,h2,List.length_cons]
  unfold ownC
  by_cases e:c.Page=p.ID
  .rw[List.filter_cons_of_pos (by simpa using e),if_pos e,List.length_cons]
  .rw[List.filter_cons_of_neg (by simpa using e),if_neg e];rfl
theorem QqY{l:List D.Page}{f:D.Page->Nat}{m:Nat}(h:∀p∈l,f p<=m):sumC l f<=m*l.length:=by
 induction l with
 |nil=>simp[sumC]
 |cons p l ih=>
  have h1:=h p (List.mem_cons_self ..)
  have h2:=ih fun q hq=>h q (List.mem_cons_of_mem _ hq)
  simp only[sumC,List.map_cons,List.sum_cons,List.length_cons]at h2 |-
  have:m*(l.length+1)=m*l.length+m:=Nat.mul_succ ..
  omega
end
end
/-
  Books that dice make are right, for the reference's check.
-/
open Go AM
section
variable {n:Nat} {c:D.Config} {b:D.Book}
theorem Qm8{α:Type}[Inhabited α]{l:List α}{k i:Nat}(h:i<k):nth (l.take k) i=nth l i:=by
 simp[nth,List.getD_eq_getElem?_getD,List.getElem?_take,h]
theorem Qy.tnm(h:Qy b){i:Nat}(hi:i<b.Teams.length):(nth b.Teams i).Name=nth QgZ i:=by
 rw[Qjn h.tname hi,Qm8 hi]
theorem Qy.pnm(h:Qy b){i:Nat}(hi:i<b.Policies.length):(nth b.Policies i).Name=nth Qls i:=by
 rw[Qjn h.pname hi,Qm8 hi]
theorem forall3{P:Nat->Prop}(h0:P 0)(h1:P 1)(h2:P 2):∀i,i<3->P i:=fun i hi=>by
 rcases(show i=0\/i=1\/i=2 by omega)with rfl|rfl|rfl
 .exact h0
 .exact h1
 .exact h2
theorem Qx9:∀i,i<2->Qfz 1000 (nth QgZ i)=some true:=forall2 (by kernel_rfl) (by kernel_rfl)
theorem Qx8:∀i,i<3->Qfz 1000 (nth Qls i)=some true:=forall3 (by kernel_rfl) (by kernel_rfl) (by kernel_rfl)
theorem Qn9:∀i,i<2->∀j,j<i->nth QgZ j≠nth QgZ i:=by decide
theorem Qq8:∀i,i<3->∀j,j<i->nth Qls j≠nth Qls i:=by decide
theorem Qyu{l:List Int}{m:Int}(ha:Asc l)(hm:∀x∈l,0<=x/\x<m)(hl:l.length<900):Qdm 1000 l m=some true:=by
 refine Ok.eq ?_
 unfold Qdm
 refine Ok.run l.length (fun i=>((l,m,(i:Int),()),())) rfl Oa (fun i hi k hk=>?_) (fun k=>by dsimp only;exact Ok.N (Ok.s rfl))
 have hx:=hm _ (Qi hi)
 dsimp only
 refine Ok.P (Ok.j (Ok.atn hi (Ok.N (Ok.atn hi (Ok.N ?_)))))
 dsimp only
 rw[Qb Oa]
 by_cases h0:0<i
 .refine Ok.P ?_
  rw[show IntKind.wrap .i64 ((i:Int) - 1)=((i - 1:Nat):Int)by rw[Qc Oa];omega]
  have:=QhR ha (show i - 1<i by omega) hi
  exact Ok.A (Ok.atn hi (Ok.N hk))
 .exact Ok.N hk
theorem Qvp(h:Q0 n c)(hb:Qy b){i:Nat}(hi:i<b.Teams.length):Qju 1000 c b (i:Int)=some 0:=by
 have htl:=hb.tlen
 have ht:=hb.team _ (Qi hi)
 have hnm:=hb.tnm hi
 have hpl:=h.plen
 refine Ok.eq ?_
 unfold Qju
 refine Ok.atn hi (Ok.oe (by rw[hnm];exact Qx9 i Oa) (Ok.nt rfl ?_))
 obtain⟨x,hx⟩:∃x,nth b.Teams i=x:=⟨_,rfl⟩
 rw[hx]at ht hnm |-
 refine Ok.run2 i (fun k=>((i:Int),(k:Int),())) rfl Oa (fun k hk K hK=>?_) (fun K=>?_)
 .dsimp only
  refine Ok.P (Ok.A (Ok.n ?_ ?_))
  .rw[hb.tnm Oa,hnm];exact Qn9 i Oa k hk
  .rw[Qb Oa];exact hK
 .dsimp only
  have hml:=ht.len
  refine Ok.N (Ok.N ?_)
  refine Ok.run2 (x.Members.length - 1) (fun k=>(((k+1:Nat):Int),())) rfl Oa (fun k hk K hK=>?_) (fun K=>?_)
  .dsimp only
   rw[show IntKind.wrap .i64 (((k+1:Nat):Int) - 1)=((k:Nat):Int)by rw[Qc Oa];omega]
   have:=QhR ht.asc (show k<k+1 by omega) (show k+1<x.Members.length by omega)
   refine Ok.P (Ok.A (Ok.A (Ok.N ?_)))
   rw[Qb Oa];exact hK
  .dsimp only
   refine Ok.N (Ok.oe (Qyu ht.asc (fun z hz=>?_) Oa) (Ok.nt rfl (Ok.s rfl)))
   have:=ht.mem z hz;omega
theorem QpE(h:Q0 n c)(hb:Qy b){l:List D.Target}(hl:l.length<=2)(ht:∀x∈l,VD b.Teams.length x):Qdn 1000 c b l=some 0:=by
 have hpl:=h.plen;have hsl:=h.slen
 refine Ok.eq ?_
 unfold Qdn
 refine Ok.N (Ok.run l.length (fun i=>((l,(i:Int),()),c,b,())) rfl Oa (fun i hi k hk=>?_) (fun k=>by dsimp only;exact Ok.N (Ok.s rfl)))
 dsimp only
 have hx:=ht _ (Qi hi)
 have h1:=hx.lo;have h2:=hx.person;have h3:=hx.sched;have h4:=hx.team
 refine Ok.P (Ok.j ?_)
 refine Ok.join (fun y=>∃m:Int,y=((l,(i:Int),m,()),c,b,())/\(nth l i).Index<m) (fun y hy=>?_) (fun J hJ=>?_)
 .obtain⟨m,rfl,hm⟩:=hy
  dsimp only
  rw[Qb Oa]
  exact Ok.atn hi (Ok.N (Ok.atn hi (Ok.N hk)))
 .refine Ok.atn hi ?_
  rcases hx.kind with hk|hk|hk
  .have:=h2 hk
   exact Ok.p hk (hJ _ ⟨_,rfl,Oa⟩)
  .have:=h3 hk
   exact Ok.N (Ok.p hk (hJ _ ⟨_,rfl,Oa⟩))
  .have:=h4 hk
   exact Ok.N (Ok.N (Ok.p hk (hJ _ ⟨_,rfl,Oa⟩)))
theorem Qqp(h:Q0 n c)(hb:Qy b){i:Nat}(hi:i<b.Policies.length):QfD 1000 c b (i:Int)=some 0:=by
 have htl:=hb.plen
 have ht:=hb.pol _ (Qi hi)
 have hnm:=hb.pnm hi
 refine Ok.eq ?_
 unfold QfD
 refine Ok.atn hi (Ok.oe (by rw[hnm];exact Qx8 i Oa) (Ok.nt rfl ?_))
 obtain⟨x,hx⟩:∃x,nth b.Policies i=x:=⟨_,rfl⟩
 rw[hx]at ht hnm |-
 refine Ok.run2 i (fun k=>((i:Int),(k:Int),())) rfl Oa (fun k hk K hK=>?_) (fun K=>?_)
 .dsimp only
  refine Ok.P (Ok.A (Ok.n ?_ ?_))
  .rw[hb.pnm Oa,hnm];exact Qq8 i Oa k hk
  .rw[Qb Oa];exact hK
 .dsimp only
  have hml:=ht.len;have hrp:=ht.rep
  refine Ok.N (Ok.N (Ok.N (Ok.oe rin (Ok.nt (QW.2 Oa) ?_))))
  refine Ok.run2 x.Steps.length (fun k=>((k:Int),())) rfl Oa (fun k hk K hK=>?_) (fun K=>by dsimp only;exact Ok.N (Ok.s rfl))
  dsimp only
  have hs:=ht.step _ (Qi hk)
  have hw:=hs.wait
  refine Ok.P (Ok.atn hk (Ok.oe rin (Ok.nt (QW.2 Oa) (Ok.atn hk (Ok.oe (QpE h hb hs.len hs.target) (Ok.NS ?_))))))
  rw[Qb Oa];exact hK
theorem Qoa(h:Q0 n c)(hn:n<=48)(hb:Qy b):QeO 1000 c b=some 0:=by
 have htl:=hb.tlen;have hpl:=hb.plen
 refine Ok.eq ?_
 unfold QeO
 refine Ok.oe (Qef h hn) (Ok.NS (Ok.opt (P:=(·=0)) ?_ fun r hr=>Ok.s hr))
 unfold Qnu
 refine Ok.j (Ok.N (Ok.N ?_))
 refine Ok.run b.Teams.length (fun i=>(((i:Int),()),c,b,())) rfl Oa (fun i hi k hk=>?_) (fun k=>?_)
 .dsimp only
  refine Ok.P (Ok.oe (Qvp h hb hi) (Ok.NS ?_))
  rw[Qb Oa];exact hk
 .dsimp only
  refine Ok.N (Ok.run b.Policies.length (fun i=>(((i:Int),()),c,b,())) rfl Oa (fun i hi k hk=>?_) (fun k=>by dsimp only;exact Ok.N (Ok.s rfl)))
  dsimp only
  refine Ok.P (Ok.oe (Qqp h hb hi) (Ok.NS ?_))
  rw[Qb Oa];exact hk
end
/-
  Ledgers: what the reference's check, search and runs compute.
-/
section
attribute [local irreducible] dueV stepV runV QL answerV
section
variable {n:Nat} {c:D.Config} {b:D.Book} {p q:D.Page} {now M:Int} {l:D.Ledger} {i:Nat}
theorem LW.callsN(h:LW M n l):sumC l.Pages (fun p=>(ownC p.ID l.Calls).length)=l.Calls.length:=Qmy h.asc h.all
theorem LW.ownN(h:LW M n l)(hp:p∈l.Pages):(ownC p.ID l.Calls).length=(QI p.ID 0 p.Starts).length:=by
 have:=(h.told p hp).same
 rw[<-this,List.length_map]
theorem LW.callsLe(h:LW M n l)(hpg:l.Pages.length<=9):l.Calls.length<=468:=by
 rw[<-h.callsN]
 have:=QqY (l:=l.Pages) (f:=fun p=>(ownC p.ID l.Calls).length) (m:=52) fun p hp=>by
  obtain⟨g1,g2⟩:=h.page p hp
  obtain⟨t,g3,_⟩:=g1.goes
  have h1:=Qa5 (id:=p.ID) (f:=0) (m:=4) (Goes.short (fun s hs=>hs) g3)
  have h2:=(g1.len h.book).1
  show(ownC p.ID l.Calls).length<=52
  rw[h.ownN hp];omega
 omega
theorem Qe.callsLe(h:Qe M n l)(hpg:l.Pages.length<=9):l.Calls.length<=468:=h.w.callsLe hpg
theorem QpD{l:List D.Page}{f:D.Page->Nat}:sumC (l++[p]) f=sumC l f+f p:=by simp[sumC]
theorem Qes(h:LW M n l)(hpg:l.Pages.length<=9):U6 1000 l=some true:=by
 have htop:=h.top;have hnow:=h.now;have how:=h.owner;have hfe:=h.fence;have hse:=h.seen.len;have hcl:=h.callsLe hpg
 refine Ok.eq ?_
 unfold U6
 refine Ok.j (Ok.oe (Qoa h.cfg h.small h.book) (Ok.NS (Ok.oe rin (Ok.bt (QW.2 Oa) (Ok.N (Ok.oe rin (Ok.bt (QW.2 how) (Ok.oe rin (Ok.bt (QW.2 Oa) (Ok.N ?_))))))))))
 have hsle:∀i,sumC (l.Pages.take i) (fun p=>(ownC p.ID l.Calls).length)<=468*i:=fun i=>by
  have:=QqY (l:=l.Pages.take i) (f:=fun p=>(ownC p.ID l.Calls).length) (m:=468) fun p hp=>by
   show(ownC p.ID l.Calls).length<=468
   unfold ownC
   exact Nat.le_trans (List.length_filter_le _ _) hcl
  refine Nat.le_trans this (Nat.mul_le_mul_left _ ?_)
  simp only[List.length_take];omega
 refine Ok.run l.Pages.length (fun i=>((((sumC (l.Pages.take i) (fun p=>(ownC p.ID l.Calls).length):Nat):Int),(i:Int),()),l,())) rfl Oa (fun i hi k hk=>?_) (fun k=>?_)
 .try dsimp only
  have hm:=Qi hi
  obtain⟨g1,g2⟩:=h.page _ hm
  have gt:=h.told _ hm
  have hown:=h.ownN hm
  have hs1:=hsle i
  have hs2:=hsle (i+1)
  refine Ok.P (Ok.atn hi ?_)
  have hasc:0<i->(nth l.Pages (i - 1)).ID<(nth l.Pages i).ID:=fun h0=>QcX h.asc Oa hi
  try dsimp only at hk
  rw[<-Qz hi,QpD]at hk
  obtain⟨p,hp⟩:∃p,nth l.Pages i=p:=⟨_,rfl⟩
  rw[hp]at g1 g2 gt hown hk hasc |-
  have hpl:=g1.plen h.book
  refine Ok.join (fun y=>y=((((sumC (l.Pages.take i) (fun p=>(ownC p.ID l.Calls).length):Nat):Int),(i:Int),()),l,p,())) (fun y hy=>?_) (fun J hJ=>?_)
  .subst hy
   try dsimp only
   have hc:=QmN (k:=0) (f:=0) hpl (Nat.zero_le _)
   rw[List.drop_zero]at hc
   refine Ok.oe hc ?_
   try dsimp only
   rw[Qb Oa,<-hown,Qc (by have:(ownC p.ID l.Calls).length<=468:=(by unfold ownC;exact Nat.le_trans (List.length_filter_le _ _) hcl);omega)]
   exact hk
  .have tail:Ok (optc (VY 1000 l.Book p) fun a13=>AM.cnd a13 (AM.cnd (decide (l.Now<p.Last)) (some false) (optc (QfI 1000 l p) fun a14=>AM.cnd a14 (J ((((sumC (l.Pages.take i) (fun p=>(ownC p.ID l.Calls).length):Nat):Int),(i:Int),()),l,p,())) (some false))) (some false)) (·=true):=
    Ok.oe (Qfg h.book hpl) (Ok.bt (g1.check h.book) (Ok.N (Ok.oe (QyC hpl Oa gt) (Ok.t (hJ _ rfl)))))
   by_cases h0:0<i
   .refine Ok.P ?_
    rw[show IntKind.wrap .i64 ((i:Int) - 1)=((i - 1:Nat):Int)by rw[Qc Oa];omega]
    have:=hasc h0
    exact Ok.A (Ok.N tail)
   .exact Ok.N tail
 .try dsimp only
  refine Ok.N ?_
  rw[List.take_length,h.callsN]
  refine Ok.run l.Seen.length (fun i=>((((l.Calls.length:Nat):Int),(i:Int),()),l,())) rfl Oa (fun i hi k hk=>?_) (fun k=>by dsimp only;exact Ok.N (Ok.s (decide_eq_true rfl)))
  try dsimp only
  have hx:=h.seen.fit _ (Qi hi)
  have hno:(l.Seen.take i).contains (nth l.Seen i)=false:=by
   cases hc:(l.Seen.take i).contains (nth l.Seen i)with
   |false=>rfl
   |true=>
    have:=QjA hi hc
    rw[decide_eq_true h.seen.nodup]at this;simp at this
  refine Ok.P (Ok.j (Ok.atn hi (Ok.oe rin (Ok.bt (QW.2 hx) (Ok.natn (Ok.L (Ok.atn hi (Ok.oe (Qc3 (by simp;omega)) (Ok.bf hno ?_)))))))))
  try dsimp only
  rw[Qb Oa];exact hk
abbrev lgA(l:D.Ledger):Int×List D.Zone×List D.Person×List D.Calendar×List D.Schedule×List D.Team×List D.Policy×Int×Int×Unit:=(l.Now,l.Config.Zones,l.Config.People,l.Config.Calendars,l.Config.Schedules,l.Book.Teams,l.Book.Policies,l.Owner,l.Fence,())
def Qck(l:D.Ledger)(id:Int):D.Page×Bool:=if hasV id l.Pages=true then(nth l.Pages (posV id l.Pages),true)else(page0,false)
theorem Qkg{id:Int}(ha:AscP l.Pages)(hi:i<l.Pages.length)(h:(nth l.Pages i).ID=id):Qck l id=(nth l.Pages i,true):=by
 subst h
 unfold Qck
 rw[if_pos (Qkl ha hi),QgC ha hi]
theorem Qt4{id:Int}(h:∀i,i<l.Pages.length->(nth l.Pages i).ID≠id):Qck l id=(page0,false):=by
 unfold Qck
 rw[if_neg]
 intro hh
 have:=Qba hh
 exact h _ this.1 this.2
theorem Qt3{id:Int}(hp:∀p∈l.Pages,Qx p)(ha:AscP l.Pages)(hl:l.Pages.length<=64):Qdp 1000 l id=some (Qck l id):=by
 refine Ok.eq ?_
 unfold Qdp
 refine Ok.scan2 l.Pages.length (fun i=>(id,(i:Int),())) (fun i=>decide ((nth l.Pages i).ID=id)) rfl Oa (fun i hi hq _ k=>?_) (fun i hi hq k hk=>?_) (fun hq k=>?_)
 .have hq:=of_decide_eq_true hq
  refine Ok.P (Ok.atn hi (Ok.p hq (Ok.atn hi (Ok.oe (Qcj (hp _ (Qi hi))) (Ok.s ?_)))))
  rw[Qkg ha hi hq]
 .have hq:=of_decide_eq_false hq
  refine Ok.P (Ok.atn hi (Ok.n hq ?_))
  try dsimp only
  rw[Qb Oa];exact hk
 .refine Ok.N (Ok.s ?_)
  rw[Qt4 fun i hi=>of_decide_eq_false (hq i hi)];rfl
theorem Qhb{id:Int}(hp:∀p∈l.Pages,Qx p)(ha:AscP l.Pages)(hl:l.Pages.length<=64):ZZ 1000 l id=some (Qck l id):=by
 refine Ok.eq ?_
 unfold ZZ
 refine Ok.scan2 l.Pages.length (fun i=>(id,(i:Int),())) (fun i=>decide ((nth l.Pages i).ID=id)) rfl Oa (fun i hi hq _ k=>?_) (fun i hi hq k hk=>?_) (fun hq k=>?_)
 .have hq:=of_decide_eq_true hq
  refine Ok.P (Ok.natn (Ok.lt hi (Ok.get hi (Ok.p hq (Ok.natn (Ok.lt hi (Ok.get hi (Ok.oe (Qcj (hp _ (Qi hi))) (Ok.sameC (Ok.sameC (Ok.sameC (Ok.s ?_))))))))))))
  rw[Qkg ha hi hq]
 .have hq:=of_decide_eq_false hq
  refine Ok.P (Ok.natn (Ok.lt hi (Ok.get hi (Ok.n hq ?_))))
  try dsimp only
  rw[Qb Oa];exact hk
 .refine Ok.N (Ok.sameC (Ok.sameC (Ok.sameC (Ok.s ?_))))
  rw[Qt4 fun i hi=>of_decide_eq_false (hq i hi)];rfl
theorem LW.plens(h:LW M n l):∀p∈l.Pages,Qx p:=fun p hp=>(h.page p hp).1.plen h.book
theorem Qe.plens(h:Qe M n l):∀p∈l.Pages,Qx p:=h.w.plens
theorem Qxg(ha:AscP l.Pages)(hl:l.Pages.length<=64)(hcl:l.Calls.length<=100000)(hi:i<l.Pages.length)(hid:p.ID=(nth l.Pages i).ID)(hpl:Qx p)(hle:(nth l.Pages i).Starts.length<=p.Starts.length):
  XB 1000 l p=some (putV l i p):=by
 refine Ok.eq ?_
 unfold XB
 refine Ok.run l.Pages.length (fun j=>(((j:Int),()),lgA l,p,({ Now:=0,Config:={ Zones:=[],People:=[],Calendars:=[],Schedules:=[] },Book:={ Teams:=[],Policies:=[] },Pages:=[],Owner:=0,Fence:=0,Seen:=[],Calls:=[] }:D.Ledger),(if j<=i then l.Pages else l.Pages.set i p),l.Seen,(if j<=i then l.Calls else l.Calls++QI p.ID l.Fence (p.Starts.drop (nth l.Pages i).Starts.length)),())) (by rw[if_pos (Nat.zero_le _),if_pos (Nat.zero_le _)];rfl) Oa (fun j hj k hk=>?_) (fun k=>?_)
 .try dsimp only[lgA]at hk |-
  have hlen:(if j<=i then l.Pages else l.Pages.set i p).length=l.Pages.length:=by split<;>simp
  have hj':j<(if j<=i then l.Pages else l.Pages.set i p).length:=Oa
  have hnth:j≠i->nth (if j<=i then l.Pages else l.Pages.set i p) j=nth l.Pages j:=fun hne=>by
   split
   .rfl
   .exact QaW hne
  refine Ok.P (Ok.j (Ok.natn (Ok.lt hj' (Ok.get hj' ?_))))
  by_cases e:j=i
  .subst e
   rw[if_pos (Nat.le_refl _),if_pos (Nat.le_refl _)]
   rw[if_neg Oa,if_neg Oa]at hk
   have hc:=QmN (k:=(nth l.Pages j).Starts.length) (f:=l.Fence) hpl hle
   have hcb:(QI p.ID l.Fence (p.Starts.drop (nth l.Pages j).Starts.length)).length<=40*(p.Starts.drop (nth l.Pages j).Starts.length).length:=Qa5 fun s hs=>(hpl.pe s (List.mem_of_mem_drop hs)).1
   have hst:=hpl.st
   rw[List.length_drop]at hcb
   refine Ok.p hid.symm (Ok.natn (Ok.lt hi (Ok.get hi (Ok.oe hc (Ok.L (Ok.natn (Ok.lt hi (Ok.get hi ?_))))))))
   try dsimp only
   rw[Qb Oa]
   exact hk
  .rw[hnth e]
   have hne:(nth l.Pages j).ID≠p.ID:=by
    rw[hid]
    rcases Nat.lt_or_gt_of_ne e with h|h
    .have:=QcX ha h hi;omega
    .have:=QcX ha h hj;omega
   refine Ok.n hne ?_
   try dsimp only
   rw[Qb Oa]
   have e1:(j+1<=i)=(j<=i):=by apply propext;omega
   simp only[e1]at hk
   exact hk
 .try dsimp only[lgA]
  rw[if_neg Oa,if_neg Oa]
  refine Ok.NS (Ok.s ?_)
  rfl
theorem QnG{id:Int}(h:LW M n l)(hpg:l.Pages.length<=9):Ye 1000 l id l.Now=some (if hasV id l.Pages=true then runI l (posV id l.Pages)else l):=by
 have hcl:=h.callsLe hpg
 refine Ok.eq ?_
 unfold Ye
 refine Ok.oe (Qhb h.plens h.asc Oa) ?_
 unfold Qck
 by_cases hh:hasV id l.Pages=true
 .rw[if_pos hh,if_pos hh]
  try dsimp only
  have hi:=Qba hh
  obtain⟨g1,g2⟩:=h.at hi.1
  obtain⟨q,r1,r2,r3,r4⟩:=Qu8 (c:=l.Config) h.book QT.step g1 l.Now
  have hx:=QnI (c:=l.Config) (now:=l.Now) h.book g1
  rw[r1]at hx
  refine Ok.f (Ok.oe (QwF h.cfg h.small h.book (g1.plen h.book)) ?_)
  rw[r1]
  try dsimp only
  refine Ok.NS (Ok.oe (Qxg (i:=posV id l.Pages) h.asc Oa Oa hi.1 r4.id (r2.plen h.book) ?_) (Ok.s ?_))
  .obtain⟨m,hm⟩:=hx
   try dsimp only at hm
   rw[hm];simp
  .unfold runI
   rw[r1,if_neg Ob]
 .rw[if_neg hh,if_neg hh]
  exact Ok.t (Ok.s rfl)
end
end
/-
  Ledgers: what the reference's operations compute.
-/
section
open Go AM
attribute [local irreducible] dueV stepV runV QL answerV
section
variable {n:Nat} {c:D.Config} {b:D.Book} {p q:D.Page} {now M:Int} {l:D.Ledger} {i:Nat} {o:D.Op}
theorem QvW(hp:∀p∈l.Pages,Qx p)(h1:l.Pages.length<=64)(h2:l.Seen.length<=1000)(h3:l.Calls.length<=100000):Qjx 1000 l=some l:=by
 refine Ok.eq ?_
 unfold Qjx
 refine Ok.run l.Pages.length (fun i=>(((i:Int),()),l,({ Now:=0,Config:={ Zones:=[],People:=[],Calendars:=[],Schedules:=[] },Book:={ Teams:=[],Policies:=[] },Pages:=[],Owner:=0,Fence:=0,Seen:=[],Calls:=[] }:D.Ledger),l.Pages.take i,())) rfl Oa (fun i hi k hk=>?_) (fun k=>?_)
 .try dsimp only
  refine Ok.P (Ok.atn hi (Ok.oe (Qcj (hp _ (Qi hi))) (Ok.LS ?_)))
  try dsimp only
  rw[Qb Oa,Qz hi]
  exact hk
 .try dsimp only
  rw[List.take_length]
  exact Ok.N (Ok.L (Ok.L (Ok.s rfl)))
theorem QwQ{α:Type}[Inhabited α]{L:List α}{k:Nat}{x:α}(h:k<L.length):(L.take (k+1)).set k x=L.take k++[x]:=by
 rw[<-Qz h,List.set_append_right _ _ (by rw[List.length_take];omega)]
 simp[Nat.min_eq_left (Nat.le_of_lt h)]
theorem Qv8{P:D.Page}{L:List D.Page}{k:Nat}(hk:k<=L.length):
  (List.take (k+1) (L++[P])++List.take ((L++[P]).length - (k+1)) (List.drop k (L++[P]))).set k P=L.take k++P::L.drop k:=by
 have hl:(L++[P]).length=L.length+1:=Ob
 rw[List.set_append_left _ _ (by rw[List.length_take,hl];omega),QwQ (by rw[hl];omega),List.take_append_of_le_length hk,List.drop_append_of_le_length hk,hl,show L.length+1 - (k+1)=(L.drop k).length by simp,List.take_left,List.append_assoc]
 rfl
theorem Qym{id:Int}{L:List D.Page}(ha:AscP L){k:Nat}(hk:k<=L.length)(h1:∀j,j<k->(nth L j).ID<id)(h2:k<L.length->id<=(nth L k).ID):posV id L=k:=by
 rcases Nat.lt_trichotomy (posV id L) k with h|h|h
 .have:=QkH ha (id:=id) (Nat.le_refl _) (show posV id L<L.length by omega)
  have:=h1 _ h;omega
 .exact h
 .have:=QkI (l:=L) h
  have:=h2 (by have:=Qbh (id:=id) (l:=L);omega);omega
theorem Qyf(h:Qe M n l)(hpg:l.Pages.length<=8)(ho:OpIn o)(hk:o.Kind=1):Wl 1000 l o l.Now (hasV o.Page l.Pages)=some (opV l o):=by
 have hnow:=h.now;have htop:=h.top;have hpl:=h.book.plen;have hop:=ho.page
 have hsl:=h.seen.len;have hcl:=h.callsLe Oa
 refine Ok.eq ?_
 unfold Wl opV
 rw[if_pos hk]
 refine Ok.cnd (fun g=>Ok.s ?_) (fun g=>?_)
 .rw[if_pos g]
 rw[if_neg (by rw[g];simp)]
 refine Ok.N ?_
 rw[if_neg Oa]
 refine Ok.oe (Qm6 h.book) ?_
 unfold newV
 by_cases g1:o.Page<1
 .rw[if_pos g1,if_neg (fun hh=>by have:=QW.1 hh.1;omega)]
  exact Ok.PS (Ok.s rfl)
 rw[if_neg g1,if_pos ⟨QW.2 Oa,QW.2 Oa⟩]
 by_cases g2:0<=o.Policy/\o.Policy<(l.Book.Policies.length:Int)
 .rw[if_pos g2,if_pos (QW.2 Oa)]
  try dsimp only
  refine Ok.NS ?_
  obtain⟨hi1,hi2,hi3⟩:=h.open (o:=o) g Oa g2 Oa
  have hple:=Qbh (id:=o.Page) (l:=l.Pages)
  refine Ok.join (fun y=>y=((l.Now,((posV o.Page l.Pages:Nat):Int),()),lgA l,({ Now:=0,Config:={ Zones:=[],People:=[],Calendars:=[],Schedules:=[] },Book:={ Teams:=[],Policies:=[] },Pages:=[],Owner:=0,Fence:=0,Seen:=[],Calls:=[] }:D.Ledger),newP o.Page o.Policy l.Now,l.Pages,l.Seen,l.Calls,())) (fun y hy=>?_) (fun J hJ=>?_)
  .subst hy
   try dsimp only[lgA]
   obtain⟨P,hP⟩:∃P,newP o.Page o.Policy l.Now=P:=⟨_,rfl⟩
   have hPid:P.ID=o.Page:=by subst hP;rfl
   rw[hP]at hi1 hi2 hi3 |-
   have hins:insP l.Pages P=l.Pages.take (posV o.Page l.Pages)++P::l.Pages.drop (posV o.Page l.Pages):=by unfold insP;rw[hPid]
   have hle1:(l.Pages++[P]).length=l.Pages.length+1:=Ob
   try dsimp only
   rw[Qb Oa]
   refine Ok.LS (Ok.natn (Ok.L (Ok.natn (Ok.L (Ok.ck rfl (Ok.ck rfl (Ok.L (Ok.L (Ok.natn (Ok.lt ?_ (Ok.get ?_ ?_)))))))))))
   .simp only[List.length_append,List.length_take,List.length_drop,List.length_cons,List.length_nil];omega
   .simp only[List.length_append,List.length_take,List.length_drop,List.length_cons,List.length_nil];omega
   rw[Qv8 hple,<-hins]
   have hrun:=QnG (id:=P.ID) hi1.w (by show(insP l.Pages P).length<=9;rw[hins];simp;omega)
   have hpos:posV P.ID (insP l.Pages P)=posV o.Page l.Pages:=by
    have:=QgC hi1.asc hi2
    rw[hi3]at this;exact this
   have hhas:hasV P.ID (insP l.Pages P)=true:=by
    have:=Qkl hi1.asc hi2
    rw[hi3]at this;exact this
   rw[if_pos hhas,hpos]at hrun
   exact Ok.oe hrun (Ok.s rfl)
  .have hfound:∀k:Nat,k<=l.Pages.length->(∀j,j<k->(nth l.Pages j).ID<o.Page)->(k<l.Pages.length->o.Page<=(nth l.Pages k).ID)->Ok (J ((l.Now,(k:Int),()),lgA l,({ Now:=0,Config:={ Zones:=[],People:=[],Calendars:=[],Schedules:=[] },Book:={ Teams:=[],Policies:=[] },Pages:=[],Owner:=0,Fence:=0,Seen:=[],Calls:=[] }:D.Ledger),newP o.Page o.Policy l.Now,l.Pages,l.Seen,l.Calls,())) _:=fun k h1 h2 h3=>hJ _ (by rw[Qym h.asc h1 h2 h3])
   refine Ok.scan2 l.Pages.length (fun i=>(l.Now,(i:Int),())) (fun i=>!decide ((nth l.Pages i).ID<o.Page)) rfl Oa (fun i hi hq hj k=>?_) (fun i hi hq k hk=>?_) (fun hq k=>?_)
   .refine Ok.j ?_
    dsimp only
    refine Ok.P (Ok.natn (Ok.lt hi (Ok.get hi (Ok.n ?_ (hfound i Oa (fun j hj'=>by simpa using hj j hj') (fun _=>by simpa using hq))))))
    have:¬(nth l.Pages i).ID<o.Page:=by simpa using hq
    exact this
   .have hlt:(nth l.Pages i).ID<o.Page:=by simpa using hq
    refine Ok.j ?_
    dsimp only
    refine Ok.P (Ok.natn (Ok.lt hi (Ok.get hi (Ok.p hlt ?_))))
    try dsimp only
    rw[Qb Oa];exact hk
   .refine Ok.j ?_
    dsimp only
    exact(Ok.N (hfound l.Pages.length (Nat.le_refl _) (fun j hj'=>by simpa using hq j hj') (fun hh=>absurd hh (Nat.lt_irrefl _))))
 .rw[if_neg g2,if_neg (fun hh=>g2 (by have:=QW.1 hh;omega))]
  exact Ok.PS (Ok.s rfl)
theorem Qd9{a:D.Answer}(h:(answerV b p a).2=0):(answerV b p a).1=p\/(answerV b p a).1=Xl p a:=by
 revert h
 unfold answerV
 split
 .intro h;simp at h
 .split
  .intro h;simp at h
  .split
   .intro _;exact .inl rfl
   .split
    .rename_i hr
     intro h;exact absurd h hr
    .intro _;exact .inr rfl
theorem QqP(h:Qe M n l)(hi:i<l.Pages.length):(nth (runI l i).Pages i).ID=(nth l.Pages i).ID:=by
 rw[QcI h hi,if_pos rfl]
 exact(Qbn h.book QT.step (h.at hi).1).id
theorem QwE(h:Qe M n l)(hpg:l.Pages.length<=9)(hk:o.Kind=4)(ha:Y0 o.Answer=true):XV 1000 l o.Answer l.Now=some (opV l o):=by
 have hcl:=h.callsLe hpg
 refine Ok.eq ?_
 unfold XV opV
 rw[if_neg Oa,if_neg Oa,if_neg Oa,if_pos hk]
 refine Ok.oe (Qhb h.plens h.asc Oa) ?_
 unfold Qck
 by_cases hh:hasV o.Answer.Page l.Pages=true
 .rw[if_pos hh,if_pos hh]
  try dsimp only
  have hi:=Qba hh
  have hrun:=QnG (id:=o.Answer.Page) h.w hpg
  rw[if_pos hh]at hrun
  refine Ok.f (Ok.oe hrun ?_)
  have h2:=h.run hi.1
  have hkp:=Yz (l:=l) (i:=posV o.Answer.Page l.Pages)
  obtain⟨i,hie⟩:∃i,posV o.Answer.Page l.Pages=i:=⟨_,rfl⟩
  rw[hie]at hi h2 hkp |-
  have hid2:(nth (runI l i).Pages i).ID=o.Answer.Page:=(QqP h hi.1).trans hi.2
  have hi2:i<(runI l i).Pages.length:=Oa
  have hcl2:=h2.callsLe Oa
  refine Ok.oe (Qhb h2.plens h2.asc Oa) ?_
  rw[Qkg h2.asc hi2 hid2]
  try dsimp only
  obtain⟨a,hae⟩:∃a:D.Answer,a=D.Answer.mk o.Answer.ID o.Answer.Page o.Answer.Person o.Answer.Kind o.Answer.Arg l.Now:=⟨_,rfl⟩
  rw[<-hae]
  have hpl2:=h2.plens _ (Qi hi2)
  refine Ok.oe (QpY h2.book hpl2) ?_
  rw[hkp.2.2.1]
  have hz:=Qd9 (b:=l.Book) (p:=nth (runI l i).Pages i) (a:=a)
  have hAl:=hpl2.answerV (a:=a) h.book
  obtain⟨A,e,hA⟩:∃A e,answerV l.Book (nth (runI l i).Pages i) a=(A,e):=⟨_,_,rfl⟩
  rw[hA]at hz hAl |-
  try dsimp only at hz hAl |-
  by_cases he:e=0
  .rw[if_pos he]
   have hq:=hz he
   have hpid:A.ID=(nth (runI l i).Pages i).ID:=by
    rcases hq with rfl|rfl
    .rfl
    .exact QlY.1
   have hpst:(nth (runI l i).Pages i).Starts.length<=A.Starts.length:=by
    rcases hq with rfl|rfl
    .exact Nat.le_refl _
    .obtain⟨m,hm⟩:=Qgi (p:=nth (runI l i).Pages i) (a:=a)
     rw[hm];simp
   refine Ok.N (Ok.oe (Qxg (i:=i) h2.asc Oa Oa hi2 hpid hAl hpst) (Ok.s rfl))
  .rw[if_neg he]
   exact Ok.p he (Ok.s rfl)
 .rw[if_neg hh,if_neg hh]
  exact Ok.t (Ok.s rfl)
theorem QxR{x:D.Edit}{s:Int}(h:Q0 n c)(hn:n<48)(hx:0<=s/\s<2->QbB x):QeN 1000 c s x=some (if 0<=s/\s<2 then(Qop c s x,0)else({ Zones:=[],People:=[],Calendars:=[],Schedules:=[] },3)):=by
 have hsl:=h.slen
 refine Ok.eq ?_
 unfold QeN
 refine Ok.j (Ok.oe (Qef h Oa) (Ok.NS (Ok.ite (fun g=>Ok.s ?_) (fun g=>Ok.ite (fun g2=>Ok.s ?_) (fun g2=>?_)))))
 .rw[if_neg Oa]
 .rw[if_neg Oa]
 .rw[if_pos Oa]
  try dsimp only
  have hso:=h.sched _ (Qi (l:=c.Schedules) (i:=s.toNat) Oa)
  have hlen:=hso.len
  refine Ok.at Oa Oa (Ok.L (Ok.LS (Ok.oe (v:=Qop c s x) ?_ (Ok.oe (Qef (Qrh h (hx Oa) Oa) Oa) (Ok.NS (Ok.s rfl))))))
  refine Ok.eq ?_
  unfold Qns
  refine Ok.L (Ok.nat Oa (Ok.E (Ok.G (Ok.s ?_))))
  rfl
theorem apply0W(h:LW M n l)(hpg:l.Pages.length<=9)(hkd:o.Kind=2\/o.Kind=3)(hof:0<=o.Fence/\o.Fence<=1048576):Yd 1000 l o l.Now=some (opV l o):=by
 have hfe:=h.fence
 refine Ok.eq ?_
 unfold Yd
 refine Ok.oe (Qhb h.plens h.asc Oa) ?_
 have hf2:(Qck l o.Page).2=hasV o.Page l.Pages:=by
  unfold Qck
  by_cases hh:hasV o.Page l.Pages=true
  .rw[if_pos hh,hh]
  .rw[if_neg hh];simpa using hh
 obtain⟨fp,fo,hfe2⟩:∃fp fo,Qck l o.Page=(fp,fo):=⟨_,_,rfl⟩
 rw[hfe2]at hf2 |-
 try dsimp only at hf2 |-
 subst hf2
 refine Ok.j (Ok.N (Ok.ite (fun k2=>?_) (fun k2=>Ok.P ?_)))
 all_goals have k1:¬o.Kind=1:=Oa
 .unfold opV
  rw[if_neg k1,if_pos k2,Qc Oa]
  refine Ok.ite (fun g=>Ok.s ?_) (fun g=>Ok.s ?_)
  .rw[if_neg Oa]
  .rw[if_pos Oa]
 .have k3:o.Kind=3:=Oa
  unfold opV
  rw[if_neg k1,if_neg k2,if_pos k3]
  refine Ok.join (fun y=>y=((l.Now,hasV o.Page l.Pages,()),lgA l,o,({ Now:=0,Config:={ Zones:=[],People:=[],Calendars:=[],Schedules:=[] },Book:={ Teams:=[],Policies:=[] },Pages:=[],Owner:=0,Fence:=0,Seen:=[],Calls:=[] }:D.Ledger),fp,l.Pages,l.Seen,l.Calls,())/\o.Region=l.Owner/\o.Fence=l.Fence) (fun y hy=>?_) (fun J hJ=>Ok.ite (fun g=>Ok.s ?_) (fun g=>Ok.ite (fun g2=>Ok.s ?_) (fun g2=>hJ _ ⟨rfl,Oa,Oa⟩)))
  .obtain⟨rfl,g1,g2⟩:=hy
   try dsimp only[lgA]
   rw[if_pos ⟨g1,g2⟩]
   refine Ok.ncnd (fun hh=>Ok.s ?_) (fun hh=>?_)
   .rw[if_neg (by rw[hh];simp)]
   .rw[if_pos hh]
    have hfp:fp=nth l.Pages (posV o.Page l.Pages):=by
     unfold Qck at hfe2
     rw[if_pos hh]at hfe2
     exact(Prod.mk.inj hfe2).1.symm
    subst hfp
    have hrun:=QnG (id:=o.Page) h Oa
    rw[if_pos hh]at hrun
    refine Ok.oe Qg4 ?_
    obtain⟨pg,hpg2⟩:∃pg,nth l.Pages (posV o.Page l.Pages)=pg:=⟨_,rfl⟩
    rw[hpg2]
    obtain⟨kk,hkk⟩:∃kk:Int,(if pg.State=2 then(-1:Int)else pg.Next)=kk:=⟨_,rfl⟩
    rw[hkk]
    have hw:Z5 pg l.Now=((dueV pg).2 && decide ((dueV pg).1<=l.Now)):=rfl
    refine Ok.join (fun y=>y=((l.Now,(dueV pg).1,(dueV pg).2,kk,()),lgA l,o,({ Now:=0,Config:={ Zones:=[],People:=[],Calendars:=[],Schedules:=[] },Book:={ Teams:=[],Policies:=[] },Pages:=[],Owner:=0,Fence:=0,Seen:=[],Calls:=[] }:D.Ledger),l.Pages,l.Seen,l.Calls,())) (fun y hy=>?_) (fun J hJ=>Ok.ite (fun g=>hJ _ (by rw[<-hkk,if_pos g])) (fun g=>hJ _ (by rw[<-hkk,if_neg g])))
    subst hy
    try dsimp only[lgA]
    refine Ok.j (Ok.cnd (fun g3=>Ok.ite (fun g4=>Ok.s ?_) (fun g4=>Ok.ite (fun g5=>Ok.s ?_) (fun g5=>Ok.oe hrun (Ok.s ?_)))) (fun g3=>Ok.s ?_))
    .rw[if_neg (fun hx=>by rw[hw,g3]at hx;have:=of_decide_eq_true (show decide ((dueV pg).1<=l.Now)=true by simpa using hx.1);omega)]
    .rw[if_neg (fun hx=>g5 hx.2.symm)]
    .rw[if_pos ⟨by rw[hw,g3];simp;omega,Oa⟩]
    .rw[if_neg (fun hx=>by rw[hw,g3]at hx;simp at hx)]
  .rw[if_neg Oa]
  .rw[if_neg Oa]
theorem Qth(h:Qe M n l)(hn:n<48)(hpg:l.Pages.length<=8)(ho:OpIn o):Yd 1000 l o l.Now=some (opV l o):=by
 have hfe:=h.fence;have hse:=h.seen.len;have hkd:=ho.kind;have hof:=ho.fence
 by_cases hk23:o.Kind=2\/o.Kind=3
 .exact apply0W h.w Oa hk23 hof
 refine Ok.eq ?_
 unfold Yd
 refine Ok.oe (Qhb h.plens h.asc Oa) ?_
 have hf2:(Qck l o.Page).2=hasV o.Page l.Pages:=by
  unfold Qck
  by_cases hh:hasV o.Page l.Pages=true
  .rw[if_pos hh,hh]
  .rw[if_neg hh];simpa using hh
 obtain⟨fp,fo,hfe2⟩:∃fp fo,Qck l o.Page=(fp,fo):=⟨_,_,rfl⟩
 rw[hfe2]at hf2 |-
 try dsimp only at hf2 |-
 subst hf2
 refine Ok.j (Ok.ite (fun k1=>?_) (fun k1=>Ok.ite (fun k2=>absurd (.inl k2) hk23) (fun k2=>Ok.ite (fun k3=>absurd (.inr k3) hk23) (fun k3=>Ok.ite (fun k4=>?_) (fun k4=>Ok.ite (fun k5=>?_) (fun k5=>absurd hkd Oa))))))
 .exact Ok.oe (Qyf h hpg ho k1) (Ok.s rfl)
 .exact Ok.oe (QwE h Oa k4 (ho.answer k4).1) (Ok.s rfl)
 .unfold opV
  rw[if_neg k1,if_neg k2,if_neg k3,if_neg k4]
  have hkeep:∀i,(Xb l i).Now=l.Now/\(Xb l i).Config=l.Config/\(Xb l i).Book=l.Book/\(Xb l i).Owner=l.Owner/\(Xb l i).Fence=l.Fence/\(Xb l i).Seen=l.Seen/\(Xb l i).Pages.length=l.Pages.length:=fun i=>XY
  refine Ok.run l.Pages.length (fun i=>((l.Now,(i:Int),()),lgA (Xb l i),o,({ Now:=0,Config:={ Zones:=[],People:=[],Calendars:=[],Schedules:=[] },Book:={ Teams:=[],Policies:=[] },Pages:=[],Owner:=0,Fence:=0,Seen:=[],Calls:=[] }:D.Ledger),(Xb l i).Pages,(Xb l i).Seen,(Xb l i).Calls,())) rfl Oa (fun i hi k hk=>?_) (fun k=>?_)
  .try dsimp only[lgA]
   have hki:=hkeep i
   have hi2:i<(Xb l i).Pages.length:=Oa
   have hL:=h.runs (k:=i) Oa
   have hrun:=QnG (id:=(nth (Xb l i).Pages i).ID) hL.w Oa
   rw[if_pos (Qkl hL.asc hi2),QgC hL.asc hi2,hki.1]at hrun
   refine Ok.P (Ok.natn (Ok.lt hi2 (Ok.get hi2 (Ok.oe hrun ?_))))
   try dsimp only
   rw[Qb Oa]
   exact hk
  .try dsimp only[lgA]
   have hki:=hkeep l.Pages.length
   refine Ok.N ?_
   have hed:=QxR (c:=l.Config) (s:=o.Schedule) h.cfg hn (ho.edit k5)
   refine Ok.oe (v:=if 0<=o.Schedule/\o.Schedule<2 then(Qop l.Config o.Schedule o.Edit,0)else({ Zones:=[],People:=[],Calendars:=[],Schedules:=[] },3)) ?_ ?_
   .rw[<-hed]
    show QeN 1000 (Xb l l.Pages.length).Config _ _=_
    rw[hki.2.1]
   .by_cases hs:0<=o.Schedule/\o.Schedule<2
    .rw[if_pos hs,if_pos hs]
     exact Ok.NS (Ok.s rfl)
    .rw[if_neg hs,if_neg hs]
     exact Ok.PS (Ok.s rfl)
theorem OpIn.valid(ho:OpIn o):QeR 1000 o=some true:=by
 refine Ok.eq ?_
 unfold QeR
 refine Ok.oe rin (Ok.bt (QW.2 ho.id) (Ok.oe rin (Ok.bt (QW.2 ho.kind) (Ok.oe rin (Ok.bt (QW.2 ho.region) (Ok.oe rin (Ok.bt (QW.2 ho.fence) (Ok.oe rin (Ok.bt (QW.2 ho.at_) (Ok.oe rin (Ok.bt (QW.2 ho.page) (Ok.oe rin (Ok.bt (QW.2 ho.k) ?_)))))))))))))
 exact Ok.ite (fun g=>Ok.s rfl) (fun g=>Ok.oe QmA (Ok.bt (ho.answer Oa).1 (Ok.s rfl)))
theorem Qti(h:Qe M n l)(hn:n<48)(hpg:l.Pages.length<=8)(ho:OpIn o)(ht:max l.Now o.At<=M - 20000)(hl:l.Seen.length<256):QcB 1000 l o=some (Q5 l o):=by
 have hcl:=h.callsLe Oa
 refine Ok.eq ?_
 unfold QcB Q5
 refine Ok.j (Ok.oe (Qes h.w Oa) (Ok.t (Ok.oe ho.valid (Ok.t ?_))))
 try dsimp only
 refine Ok.oe (QvW h.plens Oa Oa Oa) (Ok.oe (Qc3 Oa) (Ok.cnd (fun g=>Ok.s ?_) (fun g=>?_)))
 .rw[if_pos g]
 .rw[if_neg (by rw[g];simp)]
  have h2:=h.see ho ht g hl
  refine Ok.N (Ok.LS (Ok.oe (Qth (l:={ l with Now:=max l.Now o.At,Seen:=l.Seen++[o.ID] }) h2 hn hpg ho) (Ok.s rfl)))
end
end
/-
  Operations and ledgers that are made by dice.
-/
section
attribute [local irreducible] dueV stepV runV QL answerV
section
variable {n:Nat} {c:D.Config} {b:D.Book} {p q:D.Page} {now M m:Int} {l:D.Ledger} {i:Nat} {o:D.Op} {L:List Int} {d:D.Dice}
def Ids(m:Int)(l:D.Ledger):Prop:=∀p∈l.Pages,p.ID<=m
theorem Ids.mono{k:Int}(h:Ids m l)(hk:m<=k):Ids k l:=fun p hp=>Int.le_trans (h p hp) hk
theorem Qx1{L:List D.Page}(ha:AscP L){k:Nat}(h:∀p∈L,1<=p.ID/\p.ID<=(k:Int)):L.length<=k:=by
 have hlo:∀i,i<L.length->(i:Int)+1<=(nth L i).ID:=by
  intro i
  induction i with
  |zero=>intro hi;have:=(h _ (Qi hi)).1;omega
  |succ i ih=>
   intro hi
   have:=ih Oa
   have:=QcX ha (show i<i+1 by omega) hi
   omega
 rcases Nat.lt_or_ge k L.length with h1|h1
 .have h2:=hlo (L.length - 1) Oa
  have h3:=(h _ (Qi (l:=L) (i:=L.length - 1) Oa)).2
  omega
 .exact h1
theorem Qe.small3{k:Nat}(h:Qe M n l)(hi:Ids (k:Int) l):l.Pages.length<=k:=
 Qx1 h.asc fun p hp=>⟨(h.page p hp).1.id.1,hi p hp⟩
theorem Qjo:(opV l o).1.Now=l.Now/\(opV l o).1.Seen=l.Seen:=by
 unfold opV
 have h1:=fun i=>Yz (l:=l) (i:=i)
 have h2:=fun k=>XY (l:=l) (k:=k)
 split
 .split
  .exact⟨rfl,rfl⟩
  .split
   .exact⟨rfl,rfl⟩
   .split
    .exact⟨rfl,rfl⟩
    .split
     .exact⟨(Yz (l:={ l with Pages:=insP l.Pages (newP o.Page o.Policy l.Now) })).1,(Yz (l:={ l with Pages:=insP l.Pages (newP o.Page o.Policy l.Now) })).2.2.2.2.2.1⟩
     .exact⟨rfl,rfl⟩
 .split
  .split<;>exact⟨rfl,rfl⟩
  .split
   .split
    .split
     .generalize (if (nth l.Pages (posV o.Page l.Pages)).State=2 then(-1:Int)else(nth l.Pages (posV o.Page l.Pages)).Next)=kk
      split
      .exact⟨(h1 _).1,(h1 _).2.2.2.2.2.1⟩
      .exact⟨rfl,rfl⟩
     .exact⟨rfl,rfl⟩
    .exact⟨rfl,rfl⟩
   .split
    .split
     .split
      .exact⟨(h1 _).1,(h1 _).2.2.2.2.2.1⟩
      .exact⟨(h1 _).1,(h1 _).2.2.2.2.2.1⟩
     .exact⟨rfl,rfl⟩
    .split
     .exact⟨(h2 _).1,(h2 _).2.2.2.2.2.1⟩
     .exact⟨(h2 _).1,(h2 _).2.2.2.2.2.1⟩
structure Qzn (k:Nat) (l:D.Ledger):Prop where
 inv:Qe 1000000 (2+k) l
 ids:Ids 3 l
 seen:l.Seen.length<=k
 now:l.Now<=864000+700*(k:Int)
theorem Qsy(hc:Q0 2 c)(hb:Qy b):Qe 1000000 2 { Now:=0,Config:=c,Book:=b,Pages:=[],Owner:=-1,Fence:=0,Seen:=[],Calls:=[] }:=
 ⟨Oa,by dsimp only;omega,Oa,hc,hb,Ob,List.Pairwise.nil,Ob,by dsimp only;omega,Ob,⟨Ob,List.nodup_nil,Ob⟩,Ob,Ob⟩
theorem Qye(hc:Q0 n c)(hn:n<=48)(hb:Qy b):QkW 1000 c b=some ({ Now:=0,Config:=c,Book:=b,Pages:=[],Owner:=-1,Fence:=0,Seen:=[],Calls:=[] },0):=by
 refine Ok.eq ?_
 unfold QkW
 exact Ok.oe (Qoa hc hn hb) (Ok.NS (Ok.s rfl))
end
end
/-
  Plain laws of operations on ledgers: what a refused one leaves, what one that comes twice does, which pages one touches.
-/
section
open Go AM
attribute [local irreducible] dueV stepV runV QL answerV
section
variable {n:Nat} {c:D.Config} {b:D.Book} {p q:D.Page} {now M:Int} {l:D.Ledger} {i:Nat} {o:D.Op}
def seeV(l:D.Ledger)(o:D.Op):D.Ledger:={ l with Now:=max l.Now o.At,Seen:=l.Seen++[o.ID] }
theorem Xw(hs:l.Seen.contains o.ID=false):Q5 l o=opV (seeV l o) o:=by
 unfold Q5;rw[hs];rfl
theorem Qr4(hs:l.Seen.contains o.ID=false):(Q5 l o).1.Now=max l.Now o.At:=by
 rw[Xw hs,(Qjo).1];rfl
def ansP(c:D.Config)(b:D.Book)(p:D.Page)(a:D.Answer)(now:Int):D.Page:=
 if (answerV b (runV c b p now).1 { a with At:=now }).2=0 then(answerV b (runV c b p now).1 { a with At:=now }).1 else(runV c b p now).1
theorem QsA(h:Qe M n l)(hk:o.Kind=4):(opV l o).1.Config=l.Config/\(opV l o).1.Book=l.Book/\
  (opV l o).1.Pages=if hasV o.Answer.Page l.Pages=true then l.Pages.set (posV o.Answer.Page l.Pages) (ansP l.Config l.Book (nth l.Pages (posV o.Answer.Page l.Pages)) o.Answer l.Now)else l.Pages:=by
 unfold opV
 rw[if_neg Oa,if_neg Oa,if_neg Oa,if_pos hk]
 split
 .rename_i g
  obtain⟨g1,g2⟩:=Qba g
  have hpg:=QcI h g1 (j:=posV o.Answer.Page l.Pages)
  rw[if_pos rfl]at hpg
  have hpages:(runI l (posV o.Answer.Page l.Pages)).Pages=l.Pages.set (posV o.Answer.Page l.Pages) (runV l.Config l.Book (nth l.Pages (posV o.Answer.Page l.Pages)) l.Now).1:=by
   rw[h.runEq g1];rfl
  split
  .rename_i g3
   rw[hpg]at g3
   refine⟨Yz.2.1,Yz.2.2.1,?_⟩
   show List.set _ _ _=_
   rw[hpages,List.set_set,<-hpages,hpg]
   unfold ansP
   rw[if_pos g3]
  .rename_i g3
   rw[hpg]at g3
   refine⟨Yz.2.1,Yz.2.2.1,?_⟩
   show(runI l _).Pages=_
   rw[hpages]
   unfold ansP
   rw[if_neg g3]
 .exact⟨rfl,rfl,rfl⟩
end
end
/-
  Ledgers looked at: what the program's check computes.
-/
section
attribute [local irreducible] dueV stepV runV QL answerV
section
variable {n:Nat} {c:D.Config} {b:D.Book} {p q:D.Page} {now M:Int} {l:D.Ledger} {i:Nat}
theorem Qyc:∀i,i<2->QaV 1000 (nth QgZ i)=some true:=forall2 (by kernel_rfl) (by kernel_rfl)
theorem Qyb:∀i,i<3->QaV 1000 (nth Qls i)=some true:=forall3 (by kernel_rfl) (by kernel_rfl) (by kernel_rfl)
theorem QtW(hb:Qy b){i:Nat}(hi:i<b.Teams.length):Zw 1000 (i:Int) b=some false:=by
 have htl:=hb.tlen
 have hone:∀j,j<b.Teams.length->Ve 1000 (j:Int) b=some (nth QgZ j):=fun j hj=>by
  refine Ok.eq ?_
  unfold Ve
  exact Ok.atn hj (Ok.sameC (Ok.s (hb.tnm hj)))
 refine Ok.eq ?_
 unfold Zw
 refine Ok.run2 i (fun k=>((i:Int),(i:Int),(k:Int),())) rfl Oa (fun k hk K hK=>?_) (fun K=>by dsimp only;exact Ok.N (Ok.sameC (Ok.s rfl)))
 try dsimp only
 refine Ok.P (Ok.oe (hone k Oa) (Ok.oe (hone i hi) (Ok.n (Qn9 i Oa k hk) ?_)))
 try dsimp only
 rw[Qb Oa];exact hK
theorem QtV(hb:Qy b){i:Nat}(hi:i<b.Policies.length):Zx 1000 (i:Int) b=some false:=by
 have htl:=hb.plen
 have hone:∀j,j<b.Policies.length->Vf 1000 (j:Int) b=some (nth Qls j):=fun j hj=>by
  refine Ok.eq ?_
  unfold Vf
  exact Ok.atn hj (Ok.sameC (Ok.s (hb.pnm hj)))
 refine Ok.eq ?_
 unfold Zx
 refine Ok.run2 i (fun k=>((i:Int),(i:Int),(k:Int),())) rfl Oa (fun k hk K hK=>?_) (fun K=>by dsimp only;exact Ok.N (Ok.sameC (Ok.s rfl)))
 try dsimp only
 refine Ok.P (Ok.oe (hone k Oa) (Ok.oe (hone i hi) (Ok.n (Qq8 i Oa k hk) ?_)))
 try dsimp only
 rw[Qb Oa];exact hK
theorem Qyv{t:D.Team}(h:Q0 n c)(ht:Qn0 t):Qfv 1000 c t.Members=some 0:=by
 have hpl:=h.plen;have hml:=ht.len
 refine Ok.eq ?_
 unfold Qfv
 refine Ok.N (Ok.run2 (t.Members.length - 1) (fun k=>(t.Members,((k+1:Nat):Int),())) rfl Oa (fun k hk K hK=>?_) (fun K=>?_))
 .try dsimp only
  have:=QhR ht.asc (show k<k+1 by omega) (show k+1<t.Members.length by omega)
  refine Ok.P (Ok.A ?_)
  rw[show IntKind.wrap .i64 (((k+1:Nat):Int) - 1)=((k:Nat):Int)by rw[Qc Oa];omega]
  refine Ok.A (Ok.N ?_)
  try dsimp only
  rw[Qb Oa];exact hK
 .try dsimp only
  rw[hpl]
  have h1:=ht.mem _ (Qi (l:=t.Members) (i:=0) Oa)
  have h2:=ht.mem _ (Qi (l:=t.Members) (i:=t.Members.length - 1) Oa)
  refine Ok.N (Ok.j (Ok.at Oa Oa ?_))
  rw[show IntKind.wrap .i64 (((4:Nat):Int) - 1)=3 from rfl,show IntKind.wrap .i64 (((t.Members.length:Nat):Int) - 1)=((t.Members.length - 1:Nat):Int)by rw[Qc Oa];omega]
  refine Ok.oe pIn (Ok.p ⟨h1.1,by have:=h1.2;show nth t.Members (0:Int).toNat<=3;simp only[Int.toNat_zero];omega⟩ (Ok.A (Ok.oe pIn (Ok.P (Ok.s rfl)))))
theorem QwM{s:D.PolicyStep}(h:Q0 n c)(hb:Qy b)(hs:StepOK' b.Teams.length s):Qdh 1000 c b s=some 0:=by
 have hpl:=h.plen;have hsl:=h.slen;have htl:=hb.tlen;have hw:=hs.wait;have htn:=hs.len
 have hsz:WC 1000 c b=some ⟨4,2,((b.Teams.length:Nat):Int)⟩:=by unfold WC;rw[hpl,hsl];rfl
 refine Ok.eq ?_
 unfold Qdh
 refine Ok.oe pIn (Ok.np Oa (Ok.N (Ok.oe hsz ?_)))
 try dsimp only
 refine Ok.run2 s.Targets.length (fun i=>(s.Targets,((s.Targets.length:Nat):Int),(i:Int),())) rfl Oa (fun i hi K hK=>?_) (fun K=>by dsimp only;exact Ok.N (Ok.s rfl))
 try dsimp only
 have hx:=hs.target _ (Qi hi)
 have h1:=hx.lo;have h2:=hx.person;have h3:=hx.sched;have h4:=hx.team
 refine Ok.P (Ok.j (Ok.atn hi (Ok.oe pIn (Ok.p (by have:=hx.kind;omega) ?_))))
 have next:Ok (K ((s.Targets,((s.Targets.length:Nat):Int),IntKind.wrap .i64 ((i:Int)+1),()),(4,2,((b.Teams.length:Nat):Int),()),())) (·=0):=by rw[Qb Oa];exact hK
 rcases hx.kind with hk|hk|hk
 .have:=h2 hk
  refine Ok.P (Ok.oe pIn (Ok.p ⟨h1,by rw[Qc Oa];omega⟩ next))
 .have:=h3 hk
  refine Ok.N (Ok.P (Ok.oe pIn (Ok.p ⟨h1,by rw[Qc Oa];omega⟩ next)))
 .have:=h4 hk
  refine Ok.N (Ok.N (Ok.P (Ok.oe pIn (Ok.p ⟨h1,by rw[Qc Oa];omega⟩ next))))
theorem QvR(h:Q0 n c)(hn:n<=48)(hb:Qy b):QbK 1000 c b=some 0:=by
 have htl:=hb.tlen;have hpl:=hb.plen
 refine Ok.eq ?_
 unfold QbK
 refine Ok.oe (Qrb h hn) (Ok.NS (Ok.j (Ok.N (Ok.N ?_))))
 refine Ok.run b.Teams.length (fun i=>((b.Teams,((b.Teams.length:Nat):Int),(i:Int),()),c,b,())) rfl Oa (fun i hi K hK=>?_) (fun K=>?_)
 .try dsimp only
  have ht:=hb.team _ (Qi hi)
  refine Ok.P (Ok.atn hi (Ok.oe (by rw[hb.tnm hi];exact Qyc i Oa) (Ok.nt rfl (Ok.oe (QtW hb hi) (Ok.f (Ok.oe (Qyv h ht) (Ok.NS ?_)))))))
  try dsimp only
  rw[Qb Oa];exact hK
 .try dsimp only
  refine Ok.N (Ok.run b.Policies.length (fun i=>((((b.Policies.length:Nat):Int),(i:Int),()),c,b,())) rfl Oa (fun i hi K hK=>?_) (fun K=>by dsimp only;exact Ok.N (Ok.s rfl)))
  try dsimp only
  have ht:=hb.pol _ (Qi hi)
  have hml:=ht.len;have hrp:=ht.rep
  refine Ok.P (Ok.oe (v:=0) ?_ (Ok.NS ?_))
  .refine Ok.eq ?_
   unfold QeE
   refine Ok.atn hi (Ok.oe (by rw[hb.pnm hi];exact Qyb i Oa) (Ok.nt rfl (Ok.oe (QtV hb hi) (Ok.f (Ok.N (Ok.N (Ok.oe pIn (Ok.np Oa ?_))))))))
   refine Ok.run (nth b.Policies i).Steps.length (fun k=>(((nth b.Policies i).Steps,(((nth b.Policies i).Steps.length:Nat):Int),(k:Int),()),c,b,())) rfl Oa (fun k hk K2 hK2=>?_) (fun K2=>by dsimp only;exact Ok.N (Ok.s rfl))
   try dsimp only
   refine Ok.P (Ok.atn hk (Ok.oe (QwM h hb (ht.step _ (Qi hk))) (Ok.NS ?_)))
   try dsimp only
   rw[Qb Oa];exact hK2
  .try dsimp only
   rw[Qb Oa];exact hK
theorem oin{fu:Nat}{x lo hi:Int}:XT fu x lo hi=some (inV x lo hi):=by
 unfold XT inV
 by_cases h1:lo<=x<;>by_cases h2:x<=hi<;>simp[cd,AM.cnd,h1,h2]
theorem QwI{L:List Int}(h:QlX L 256):Qfq 1000 L=some true:=by
 have hl:=h.len
 refine Ok.eq ?_
 unfold Qfq
 refine Ok.run L.length (fun i=>((L,L,((L.length:Nat):Int),(i:Int),()),())) rfl Oa (fun i hi k hk=>?_) (fun k=>by dsimp only;exact Ok.N (Ok.s (decide_eq_true Oa)))
 try dsimp only
 have hx:=h.fit _ (Qi hi)
 have hno:(L.take i).contains (nth L i)=false:=by
  cases hc:(L.take i).contains (nth L i)with
  |false=>rfl
  |true=>
   have:=QjA hi hc
   rw[decide_eq_true h.nodup]at this;simp at this
 refine Ok.P (Ok.j (Ok.atn hi (Ok.oe oin (Ok.bt (QW.2 hx) (Ok.natn (Ok.L (Ok.oe (QcY (by simp;omega)) (Ok.bf hno ?_))))))))
 try dsimp only
 rw[Qb Oa];exact hk
structure DelC (p0:List D.Call) (q:D.Call->Bool) (w j:Nat) (a:List D.Call):Prop where
 len:a.length=p0.length
 wj:w<=j/\j<=p0.length
 done:a.take w=(p0.take j).filter q
 rest:∀k,j<=k->nth a k=nth p0 k
theorem Qke{L:List D.Call}{q:D.Call->Bool}{i:Nat}(hi:i<=L.length)(h:∀j,j<i->q (nth L j)=true):(L.take i).filter q=L.take i:=by
 refine List.filter_eq_self.2 fun x hx=>?_
 obtain⟨k,hk,rfl⟩:=List.getElem_of_mem hx
 rw[List.length_take]at hk
 have:=h k Oa
 simpa [nth,List.getD_eq_getElem?_getD,List.getElem?_eq_getElem (show k<L.length by omega)]using this
theorem QrD{L:List D.Call}{j k:Nat}{x:D.Call}(hj:j<L.length):nth (L.set j x) k=if k=j then x else nth L k:=by
 by_cases e:k=j
 .subst e;rw[if_pos rfl,XJ hj]
 .rw[if_neg e,QaW e]
theorem Qsh{p0:List D.Call}{q:D.Call->Bool}{i:Nat}(hi:i<p0.length)(h:∀j,j<i->q (nth p0 j)=true)(hx:q (nth p0 i)=false):DelC p0 q i (i+1) p0:=by
 refine⟨rfl,Oa,?_,fun k _=>rfl⟩
 rw[<-Qz hi,List.filter_append,Qke Oa h]
 simp[hx]
theorem QtT{p0 a:List D.Call}{q:D.Call->Bool}{w j:Nat}(h:DelC p0 q w j a)(hj:j<p0.length)(hx:q (nth a j)=true):DelC p0 q (w+1) (j+1) (a.set w (nth a j)):=by
 have h1:=h.wj
 have h2:=h.len
 refine⟨by simp[h.len],Oa,?_,fun k hk=>?_⟩
 .rw[h.rest j (Nat.le_refl _)]at hx |-
  rw[<-Qz hj,List.filter_append,<-h.done,<-Qz (l:=a.set w (nth p0 j)) (by simp;omega),QrD Oa,if_pos rfl,List.take_set_of_le Oa]
  simp[hx]
 .rw[QrD Oa,if_neg Oa];exact h.rest k Oa
theorem QtU{p0 a:List D.Call}{q:D.Call->Bool}{w j:Nat}(h:DelC p0 q w j a)(hj:j<p0.length)(hx:q (nth a j)=false):DelC p0 q w (j+1) a:=by
 have h1:=h.wj
 refine⟨h.len,Oa,?_,fun k hk=>h.rest k Oa⟩
 rw[h.rest j (Nat.le_refl _)]at hx
 rw[<-Qz hj,List.filter_append,<-h.done]
 simp[hx]
theorem QuI{x:D.Call}:VS 1000 x p=some (decide (x.Page≠p.ID)):=by
 unfold VS
 rw[WG]
theorem Qyi{L:List D.Call}(hl:L.length<=900):Ok (QR 1000 L p) fun r=>List.drop r.1 (List.take r.2.1 r.2.2)=ownC p.ID L:=by
 have hown:∀{x:D.Call},decide (x.Page≠p.ID)=!(decide (x.Page=p.ID)):=fun{x}=>by by_cases e:x.Page=p.ID<;>simp[e]
 unfold QR
 have hidx:Ok (QV 1000 L p) fun r=>(r = -1/\(∀j,j<L.length->decide ((nth L j).Page=p.ID)=true))\/∃i:Nat,r=(i:Int)/\i<L.length/\decide ((nth L i).Page=p.ID)=false/\∀j,j<i->decide ((nth L j).Page=p.ID)=true:=by
  unfold QV
  refine Ok.scan2 L.length (fun i=>(((L.length:Nat):Int),(i:Int),())) (fun i=>!decide ((nth L i).Page=p.ID)) rfl Oa (fun i hi hq hj k=>?_) (fun i hi hq k hk=>?_) (fun hq k=>?_)
  .refine Ok.P (Ok.natn (Ok.lt hi (Ok.get hi (Ok.oe QuI ?_))))
   rw[hown]
   exact Ok.bt hq (Ok.sameC (Ok.sameC (Ok.s (.inr ⟨i,rfl,hi,by simpa using hq,fun j hj'=>by simpa using hj j hj'⟩))))
  .refine Ok.P (Ok.natn (Ok.lt hi (Ok.get hi (Ok.oe QuI ?_))))
   rw[hown]
   refine Ok.bf hq ?_
   try dsimp only
   rw[Qb Oa];exact hk
  .exact Ok.N (Ok.sameC (Ok.sameC (Ok.s (.inl ⟨rfl,fun j hj=>by simpa using hq j hj⟩))))
 refine Ok.opt hidx fun r hr=>?_
 rcases hr with⟨rfl,hall⟩|⟨i,rfl,hi,hx,hj⟩
 .refine Ok.p rfl (Ok.sameC (Ok.s ?_))
  try dsimp only
  have:=Qke (q:=fun z=>decide (z.Page=p.ID)) (Nat.le_refl _) hall
  rw[List.take_length]at this |-
  rw[List.drop_zero]
  exact this.symm
 .refine Ok.N ?_
  try dsimp only
  rw[Qb Oa]
  refine Ok.loop (fun q x=>∃(w j:Nat) (a:List D.Call),x=((((w:Nat):Int),((j:Nat):Int),()),p,a,())/\DelC L (fun z=>decide (z.Page=p.ID)) w j a/\q=L.length - j) (m:=L.length - (i+1)) Oa ⟨i,i+1,L,rfl,Qsh hi hj hx,rfl⟩ ?_
  rintro q x ⟨w,j,a,rfl,hinv,rfl⟩ K hK
  have h1:=hinv.wj
  have h2:=hinv.len
  try dsimp only
  refine Ok.ite (fun hlt=>?_) (fun hge=>?_)
  .refine Ok.j (Ok.natn (Ok.E (Ok.G (Ok.oe QuI ?_))))
   rw[hown,Bool.not_not]
   refine Ok.cnd (fun hq=>?_) (fun hq=>?_)
   .refine Ok.natn (Ok.E (Ok.G ?_))
    try dsimp only
    rw[Qb Oa,Qb Oa]
    exact hK _ _ Oa ⟨w+1,j+1,_,rfl,QtT hinv Oa hq,rfl⟩
   .try dsimp only
    rw[Qb Oa]
    exact hK _ _ Oa ⟨w,j+1,a,rfl,QtU hinv Oa hq,rfl⟩
  .have ej:j=L.length:=Oa
   have hd:=hinv.done
   rw[ej,List.take_length]at hd
   refine Ok.natn (Ok.L (Ok.L (Ok.L (Ok.natn (Ok.LS (Ok.sameC (Ok.s ?_)))))))
   try dsimp only
   rw[List.drop_zero,List.append_assoc,List.take_append_of_le_length (by simp;omega),List.take_take,Nat.min_self]
   exact hd
theorem Qmg{α:Type}[Inhabited α]{A B:List α}{z:Nat}:nth (A++B) (A.length+z)=nth B z:=by
 simp[nth,List.getD_eq_getElem?_getD,List.getElem?_append_right]
theorem QtI{C:List D.Call}{f:Int}(hpl:Qx p)(hC:C.length<=900)(h1:C.map unf=QI p.ID 0 p.Starts)(h2:C.Pairwise fun x y=>x.Fence<=y.Fence)(h3:∀c∈C,0<=c.Fence/\c.Fence<=f):Qdd 1000 p C f=some true:=by
 have hst:=hpl.st
 have hlen:C.length=(QI p.ID 0 p.Starts).length:=by rw[<-h1,List.length_map]
 have hnth:∀k,k<C.length->unf (nth C k)=nth (QI p.ID 0 p.Starts) k:=fun k hk=>by
  rw[<-h1]
  simp[nth,List.getD_eq_getElem?_getD,List.getElem?_eq_getElem hk]
 obtain⟨lf,hlf⟩:∃lf:Nat->Int,∀k,lf k=if k=0 then 0 else(nth C (k - 1)).Fence:=⟨fun k=>_,fun k=>rfl⟩
 have hlow:∀k,k<C.length->lf k<=(nth C k).Fence/\(nth C k).Fence<=f:=fun k hk=>by
  have hf:=h3 _ (Qi hk)
  refine⟨?_,hf.2⟩
  rw[hlf]
  split
  .exact hf.1
  .have:=List.pairwise_iff_getElem.1 h2 (k - 1) k Oa hk Oa
   simpa [nth,List.getD_eq_getElem?_getD,List.getElem?_eq_getElem hk,List.getElem?_eq_getElem (show k - 1<C.length by omega)]using this
 refine Ok.eq ?_
 unfold Qdd
 refine Ok.run p.Starts.length (fun j=>((C,f,(((QI p.ID 0 (p.Starts.take j)).length:Nat):Int),lf (QI p.ID 0 (p.Starts.take j)).length,p.Starts,((p.Starts.length:Nat):Int),(j:Int),()),p,())) (by rw[hlf];rfl) Oa (fun j hj k hk=>?_) (fun k=>?_)
 .try dsimp only
  refine Ok.P (Ok.atn hj ?_)
  have hts:p.Starts.take (j+1)=p.Starts.take j++[nth p.Starts j]:=(Qz hj).symm
  have hsp:p.Starts=p.Starts.take j++(nth p.Starts j::p.Starts.drop (j+1)):=by rw[<-Qei hj,List.take_append_drop]
  have hpe:=(hpl.pe _ (Qi hj)).1
  obtain⟨s,hs⟩:∃s,nth p.Starts j=s:=⟨_,rfl⟩
  rw[hs]at hts hsp hpe |-
  obtain⟨base,hbase⟩:∃base,(QI p.ID 0 (p.Starts.take j)).length=base:=⟨_,rfl⟩
  have hall:QI p.ID 0 p.Starts=QI p.ID 0 (p.Starts.take j)++(s.People.map (fun x=>D.Call.mk p.ID s.K s.At x 0)++QI p.ID 0 (p.Starts.drop (j+1))):=by
   conv=>lhs;rw[hsp]
   rw[Qb2]
   rfl
  have hbl:base+s.People.length<=C.length:=by rw[hlen,hall,<-hbase];simp
  have hat:∀z,z<s.People.length->nth (QI p.ID 0 p.Starts) (base+z)=D.Call.mk p.ID s.K s.At (nth s.People z) 0:=fun z hz=>by
   rw[hall,<-hbase,Qmg,Qex (by simpa using hz)]
   simp[nth,List.getD_eq_getElem?_getD,hz]
  try dsimp only at hk
  rw[hts,Qed,List.length_append,List.length_map,hbase]at hk
  rw[hbase]
  refine Ok.run s.People.length (fun z=>((C,f,((base+z:Nat):Int),lf (base+z),p.Starts,((p.Starts.length:Nat):Int),(j:Int),s.People,((s.People.length:Nat):Int),(z:Int),()),p,s,())) rfl Oa (fun z hz k2 hk2=>?_) (fun k2=>?_)
  .try dsimp only
   have hlt:base+z<C.length:=Oa
   have hlw:=hlow _ hlt
   have hun:=hnth _ hlt
   rw[hat z hz]at hun
   refine Ok.P (Ok.atn hz (Ok.j (Ok.N (Ok.atn hlt (Ok.oe oin (Ok.bt (QW.2 hlw) (Ok.atn hlt (Ok.atn hlt (Ok.n ?_ ?_)))))))))
   .obtain⟨cc,hcc⟩:∃cc,nth C (base+z)=cc:=⟨_,rfl⟩
    rw[hcc]at hun |-
    obtain⟨c1,c2,c3,c4,c5⟩:=cc
    simp only[unf,D.Call.mk.injEq]at hun
    grind
   .try dsimp only
    refine Ok.atn hlt ?_
    try dsimp only
    rw[Qb Oa,Qb Oa]
    grind
  .try dsimp only
   refine Ok.N ?_
   try dsimp only
   rw[Qb Oa]
   exact hk
 .try dsimp only
  rw[List.take_length]
  exact Ok.N (Ok.s (decide_eq_true (by rw[hlen])))
theorem Qoh{L:List D.Call}(h:L.length<=1000):XE 1000 L=some L:=by unfold XE;exact Xs Oa
theorem Qm1(h:LW M n l)(hpg:l.Pages.length<=9):Xm 1000 l=some true:=by
 have htop:=h.top;have hnow:=h.now;have how:=h.owner;have hfe:=h.fence;have hse:=h.seen.len;have hcl:=h.callsLe hpg
 refine Ok.eq ?_
 unfold Xm
 refine Ok.j (Ok.oe oin (Ok.bt (QW.2 Oa) (Ok.N (Ok.oe oin (Ok.bt (QW.2 how) (Ok.oe oin (Ok.bt (QW.2 Oa) (Ok.oe (QwI h.seen) (Ok.t ?_)))))))))
 try dsimp only
 refine Ok.oe (QvR h.cfg h.small h.book) (Ok.p rfl (Ok.oe (v:=true) ?_ (Ok.t (Ok.s rfl))))
 refine Ok.eq ?_
 unfold Qgv
 have hsle:∀i,sumC (l.Pages.take i) (fun p=>(ownC p.ID l.Calls).length)<=468*i:=fun i=>by
  have:=QqY (l:=l.Pages.take i) (f:=fun p=>(ownC p.ID l.Calls).length) (m:=468) fun p hp=>by
   show(ownC p.ID l.Calls).length<=468
   unfold ownC
   grind
  grind
 refine Ok.run l.Pages.length (fun i=>((((sumC (l.Pages.take i) (fun p=>(ownC p.ID l.Calls).length):Nat):Int),l.Pages,((l.Pages.length:Nat):Int),(i:Int),()),l,())) rfl Oa (fun i hi k hk=>?_) (fun k=>?_)
 .try dsimp only
  have hm:=Qi hi
  obtain⟨g1,g2⟩:=h.page _ hm
  have gt:=h.told _ hm
  have hs1:=hsle i
  refine Ok.P (Ok.atn hi ?_)
  have hasc:0<i->(nth l.Pages (i - 1)).ID<(nth l.Pages i).ID:=fun h0=>QcX h.asc Oa hi
  try dsimp only at hk
  rw[<-Qz hi,QpD]at hk
  obtain⟨p,hp⟩:∃p,nth l.Pages i=p:=⟨_,rfl⟩
  rw[hp]at g1 g2 gt hk hasc |-
  have hpl:=g1.plen h.book
  have hol:(ownC p.ID l.Calls).length<=468:=by unfold ownC;exact Nat.le_trans (List.length_filter_le _ _) hcl
  refine Ok.join (fun y=>y=((((sumC (l.Pages.take i) (fun p=>(ownC p.ID l.Calls).length):Nat):Int),l.Pages,((l.Pages.length:Nat):Int),(i:Int),()),l,p,())) (fun y hy=>?_) (fun J hJ=>?_)
  .subst hy
   try dsimp only
   refine Ok.oe (Qoh Oa) (Ok.opt (Qyi (p:=p) Oa) fun⟨r0,r1,r2⟩ hr=>?_)
   try dsimp only at hr |-
   rw[hr]
   refine Ok.oe (QtI hpl Oa gt.same gt.up gt.fit) (Ok.f ?_)
   try dsimp only
   rw[Qb Oa,Qc Oa]
   exact hk
  .have tail:Ok (optc (Yh 1000 l.Book p) fun a13=>AM.cnd a13 (AM.cnd (decide (l.Now<p.Last)) (some false) (J ((((sumC (l.Pages.take i) (fun p=>(ownC p.ID l.Calls).length):Nat):Int),l.Pages,((l.Pages.length:Nat):Int),(i:Int),()),l,p,()))) (some false)) (·=true):=
    Ok.oe (Qjf h.book hpl) (Ok.bt (g1.check h.book) (Ok.N (hJ _ rfl)))
   by_cases h0:0<i
   .refine Ok.P ?_
    rw[show IntKind.wrap .i64 ((i:Int) - 1)=((i - 1:Nat):Int)by rw[Qc Oa];omega]
    have:=hasc h0
    exact Ok.A (Ok.N tail)
   .exact Ok.N tail
 .try dsimp only
  rw[List.take_length,h.callsN]
  exact Ok.N (Ok.s (decide_eq_true rfl))
end
end
/-
  Plain laws of operations on ledgers: takeovers and proposed starts change nothing in the long run.
-/
section
open Go AM
attribute [local irreducible] dueV stepV runV QL answerV
section
variable {n:Nat} {c:D.Config} {b:D.Book} {p q:D.Page} {now M:Int} {l x:D.Ledger} {i:Nat} {o:D.Op}
theorem Qnh{id:Int}:∀{L K:List D.Page},L.map D.Page.ID=K.map D.Page.ID->posV id L=posV id K
 |[],[],_=>rfl
 |[],_::_,h=>by simp at h
 |_::_,[],h=>by simp at h
 |y::r,z::s,h=>by
  simp only[List.map_cons,List.cons.injEq]at h
  simp only[posV,h.1,Qnh h.2]
theorem Qw9{L K:List D.Page}(hl:L.length=K.length)(h:∀i,i<L.length->(nth L i).ID=(nth K i).ID):L.map D.Page.ID=K.map D.Page.ID:=by
 refine List.ext_getElem (by simpa using hl) fun i h1 h2=>?_
 simp only[List.length_map]at h1 h2
 have:=h i h1
 simpa [nth,List.getD_eq_getElem?_getD,List.getElem?_eq_getElem h1,List.getElem?_eq_getElem h2]using this
theorem Qv3{id:Int}{L K:List D.Page}(hl:L.length=K.length)(h:∀i,i<L.length->(nth L i).ID=(nth K i).ID):hasV id L=hasV id K:=by
 have e:=Qnh (id:=id) (Qw9 hl h)
 unfold hasV
 rw[e,hl]
 by_cases g:posV id K<K.length
 .rw[h _ Oa]
 .have:∀q:Prop,¬(posV id K<K.length/\q):=fun q hq=>g hq.1
  rw[decide_eq_false (this _),decide_eq_false (this _)]
theorem QrF{L:List D.Page}{p:D.Page}{j:Nat}:nth (insP L p) j=if j<posV p.ID L then nth L j else if j=posV p.ID L then p else nth L (j - 1):=by
 have hp:=Qbh (id:=p.ID) (l:=L)
 have htl:(L.take (posV p.ID L)).length=posV p.ID L:=by simp;omega
 unfold insP
 split
 .rename_i g
  rw[Qex Oa,Qm8 g]
 .rename_i g
  obtain⟨k,rfl⟩:∃k,j=(L.take (posV p.ID L)).length+k:=⟨j - posV p.ID L,Oa⟩
  rw[Qmg,htl]
  cases k with
  |zero=>rw[if_pos Oa,Qdb]
  |succ k=>
   rw[if_neg Oa,QaG,QrE]
   congr 1
structure Alike (M:Int) (n:Nat) (l x:D.Ledger):Prop where
 li:Qe M n l
 xi:Qe M n x
 cfg:x.Config=l.Config
 book:x.Book=l.Book
 now:x.Now<=l.Now
 len:x.Pages.length=l.Pages.length
 page:∀i,i<l.Pages.length->(nth x.Pages i).ID=(nth l.Pages i).ID/\(runV l.Config l.Book (nth x.Pages i) l.Now).1=(runV l.Config l.Book (nth l.Pages i) l.Now).1
theorem Alike.has(h:Alike M n l x){id:Int}:hasV id x.Pages=hasV id l.Pages/\posV id x.Pages=posV id l.Pages:=by
 have e:∀i,i<x.Pages.length->(nth x.Pages i).ID=(nth l.Pages i).ID:=fun i hi=>(h.page i (by rw[<-h.len];exact hi)).1
 exact⟨Qv3 h.len e,Qnh (Qw9 h.len e)⟩
theorem Alike.wide(h:Alike M n l x)(hn:n<48):Alike M (n+1) l x:=⟨h.li.wide hn,h.xi.wide hn,h.cfg,h.book,h.now,h.len,h.page⟩
theorem QrI(hk:o.Kind=5):(opV l o).1.Pages=(Xb l l.Pages.length).Pages/\(opV l o).1.Book=l.Book/\(opV l o).1.Config=(if 0<=o.Schedule/\o.Schedule<2 then Qop l.Config o.Schedule o.Edit else l.Config):=by
 unfold opV
 rw[if_neg Oa,if_neg Oa,if_neg Oa,if_neg Oa]
 split
 .exact⟨rfl,XY.2.2.1,rfl⟩
 .exact⟨rfl,XY.2.2.1,XY.2.1⟩
theorem Alike.runL(h:Alike M n l x)(hi:i<l.Pages.length):Alike M n (runI l i) x:=by
 obtain⟨k1,k2,k3,k4,k5,k6,k7⟩:=Yz (l:=l) (i:=i)
 refine⟨h.li.run hi,h.xi,by rw[k2];exact h.cfg,by rw[k3];exact h.book,by rw[k1];exact h.now,by rw[k7];exact h.len,fun j hj=>?_⟩
 rw[k7]at hj
 rw[k1,k2,k3]
 by_cases e:j=i
 .subst e
  refine⟨by rw[QqP h.li hi];exact(h.page j hj).1,?_⟩
  rw[QcI h.li hi,if_pos rfl,Qmt (c:=l.Config) h.li.book QT.step (Int.le_refl _) (h.li.at hi).1]
  exact(h.page j hj).2
 .rw[QcI h.li hi,if_neg e]
  exact h.page j hj
theorem Alike.runR(h:Alike M n l x)(hi:i<l.Pages.length)(hnow:x.Now=l.Now):Alike M n l (runI x i):=by
 obtain⟨k1,k2,k3,k4,k5,k6,k7⟩:=Yz (l:=x) (i:=i)
 have hx:i<x.Pages.length:=by rw[h.len];exact hi
 refine⟨h.li,h.xi.run hx,by rw[k2];exact h.cfg,by rw[k3];exact h.book,by rw[k1];exact h.now,by rw[k7];exact h.len,fun j hj=>?_⟩
 by_cases e:j=i
 .subst e
  refine⟨by rw[QqP h.xi hx];exact(h.page j hj).1,?_⟩
  have hq:QG QT M l.Book (nth x.Pages j):=by
   have:=(h.xi.at hx).1
   rw[h.book]at this;exact this
  rw[QcI h.xi hx,if_pos rfl,h.cfg,h.book,hnow,Qmt (c:=l.Config) h.li.book QT.step (Int.le_refl _) hq]
  exact(h.page j hj).2
 .rw[QcI h.xi hx,if_neg e]
  exact h.page j hj
theorem Qjk{L:List D.Page}:(insP L p).length=L.length+1:=by
 have:=Qbh (id:=p.ID) (l:=L)
 unfold insP;rw[List.length_append,List.length_cons,List.length_take,List.length_drop];omega
theorem Alike.open(h:Alike M n l x)(hn:n<48)(ho:OpIn o)(hk:o.Kind=1)(hnow:x.Now=l.Now):Alike M (n+1) (opV l o).1 (opV x o).1:=by
 have hw:=h.wide hn
 obtain⟨e1,e2⟩:=h.has (id:=o.Page)
 have same:∀e:Int,opV l o=(l,e)->opV x o=(x,e)->Alike M (n+1) (opV l o).1 (opV x o).1:=fun e g1 g2=>by rw[g1,g2];exact hw
 by_cases g1:hasV o.Page l.Pages=true
 .exact same 4 (by unfold opV;rw[if_pos hk,if_pos g1]) (by unfold opV;rw[if_pos hk,e1,if_pos g1])
 by_cases g2:l.Pages.length=64
 .exact same 5 (by unfold opV;rw[if_pos hk,if_neg g1,if_pos g2]) (by unfold opV;rw[if_pos hk,e1,if_neg g1,h.len,if_pos g2])
 by_cases g3:o.Page<1
 .exact same 1 (by unfold opV;rw[if_pos hk,if_neg g1,if_neg g2,if_pos g3]) (by unfold opV;rw[if_pos hk,e1,if_neg g1,h.len,if_neg g2,if_pos g3])
 by_cases g4:0<=o.Policy/\o.Policy<(l.Book.Policies.length:Int)
 case neg=>exact same 3 (by unfold opV;rw[if_pos hk,if_neg g1,if_neg g2,if_neg g3,if_neg g4]) (by unfold opV;rw[if_pos hk,e1,if_neg g1,h.len,if_neg g2,if_neg g3,h.book,if_neg g4])
 have f1:opV l o=(runI { l with Pages:=insP l.Pages (newP o.Page o.Policy l.Now) } (posV o.Page l.Pages),0):=by unfold opV;rw[if_pos hk,if_neg g1,if_neg g2,if_neg g3,if_pos g4]
 have f2:opV x o=(runI { x with Pages:=insP x.Pages (newP o.Page o.Policy l.Now) } (posV o.Page l.Pages),0):=by unfold opV;rw[if_pos hk,e1,if_neg g1,h.len,if_neg g2,if_neg g3,h.book,if_pos g4,e2,hnow]
 have hlen:=h.li.len
 obtain⟨i1,i2,i3⟩:=h.li.open (o:=o) (by simpa using g1) ⟨Oa,ho.page.2⟩ g4 Oa
 have hx4:0<=o.Policy/\o.Policy<(x.Book.Policies.length:Int):=by rw[h.book];exact g4
 obtain⟨j1,j2,j3⟩:=h.xi.open (o:=o) (by rw[e1];simpa using g1) ⟨Oa,ho.page.2⟩ hx4 (by rw[h.len];omega)
 have eP:newP o.Page o.Policy x.Now=newP o.Page o.Policy l.Now:=by rw[hnow]
 rw[eP]at j1
 have hP:(newP o.Page o.Policy l.Now).ID=o.Page:=rfl
 have hA:Alike M n { l with Pages:=insP l.Pages (newP o.Page o.Policy l.Now) } { x with Pages:=insP x.Pages (newP o.Page o.Policy l.Now) }:=by
  refine⟨i1,j1,h.cfg,h.book,h.now,by show(insP _ _).length=(insP _ _).length;rw[Qjk,Qjk,h.len],fun i hi=>?_⟩
  replace hi:i<l.Pages.length+1:=by have:i<(insP l.Pages (newP o.Page o.Policy l.Now)).length:=hi;rw[Qjk]at this;exact this
  show(nth (insP x.Pages _) i).ID=(nth (insP l.Pages _) i).ID/\(runV l.Config l.Book (nth (insP x.Pages _) i) l.Now).1=(runV l.Config l.Book (nth (insP l.Pages _) i) l.Now).1
  have hpos:=Qbh (id:=o.Page) (l:=l.Pages)
  rw[QrF,QrF,hP,e2]
  by_cases q1:i<posV o.Page l.Pages
  .rw[if_pos q1,if_pos q1];exact h.page i Oa
  .rw[if_neg q1,if_neg q1]
   by_cases q2:i=posV o.Page l.Pages
   .rw[if_pos q2,if_pos q2];exact⟨rfl,rfl⟩
   .rw[if_neg q2,if_neg q2];exact h.page (i - 1) Oa
 have hB:=hA.runR (i:=posV o.Page l.Pages) i2 hnow
 have hC:=hB.runL (i:=posV o.Page l.Pages) i2
 rw[f1,f2]
 exact hC.wide hn
end
end
/-
  Plain laws of operations on ledgers: an owner's starts drive all that waits.
-/
section
attribute [local irreducible] dueV stepV runV QL answerV
section
variable {n:Nat} {c:D.Config} {b:D.Book} {p q:D.Page} {now M:Int} {l x:D.Ledger} {i:Nat} {o:D.Op}
def Qhl(p:D.Page):Int:=if p.State=2 then -1 else p.Next
theorem Qsi(h:Qe M n l)(hk:o.Kind=3)(hr:o.Region=l.Owner)(hf:o.Fence=l.Fence)(hi:i<l.Pages.length)(hp:o.Page=(nth l.Pages i).ID)(hw:Z5 (nth l.Pages i) (max l.Now o.At)=true)(hK:o.K=Qhl (nth l.Pages i))(hs:l.Seen.contains o.ID=false):Q5 l o=(runI (seeV l o) i,0):=by
 have hpos:posV o.Page (seeV l o).Pages=i:=by rw[hp];exact QgC h.asc hi
 have hhas:hasV o.Page (seeV l o).Pages=true:=by rw[hp];exact Qkl h.asc hi
 rw[Xw hs]
 have g:Z5 (nth (seeV l o).Pages (posV o.Page (seeV l o).Pages)) (seeV l o).Now=true/\o.K=(if (nth (seeV l o).Pages (posV o.Page (seeV l o).Pages)).State=2 then -1 else(nth (seeV l o).Pages (posV o.Page (seeV l o).Pages)).Next):=by
  rw[hpos];exact⟨hw,hK⟩
 have g0:o.Region=(seeV l o).Owner/\o.Fence=(seeV l o).Fence:=⟨hr,hf⟩
 unfold opV
 rw[if_neg Oa,if_neg Oa,if_pos hk,if_pos g0,if_pos hhas,if_pos g,hpos]
theorem QfM(h:Qe M n l)(hi:i<l.Pages.length):(runI l i).Pages=l.Pages.set i (runV l.Config l.Book (nth l.Pages i) l.Now).1/\Z5 (nth (runI l i).Pages i) l.Now=false:=by
 have e:(runI l i).Pages=l.Pages.set i (runV l.Config l.Book (nth l.Pages i) l.Now).1:=by rw[h.runEq hi];rfl
 refine⟨e,?_⟩
 rw[e,XJ hi]
 exact(QbU h.book QT.step (h.at hi).1).2.2
def UG(l:D.Ledger)(now:Int):List Nat:=(List.range l.Pages.length).filter fun i=>Z5 (nth l.Pages i) now
theorem QpJ{j:Nat}:j∈UG l now↔j<l.Pages.length/\Z5 (nth l.Pages j) now=true:=by
 unfold UG;rw[List.mem_filter,List.mem_range]
structure Driven (M:Int) (n:Nat) (l:D.Ledger) (now:Int) (k:Nat) (x:D.Ledger):Prop where
 inv:Qe M n x
 time:x.Now<=now/\(0<k->x.Now=now)
 len:x.Pages.length=l.Pages.length
 cfg:x.Config=l.Config/\x.Book=l.Book/\x.Owner=l.Owner/\x.Fence=l.Fence
 page:∀j,j<l.Pages.length->nth x.Pages j=if j∈(UG l now).take k then(runV l.Config l.Book (nth l.Pages j) now).1 else nth l.Pages j
theorem Driven.done(h:Driven M n l now (UG l now).length x)(hl:Qe M n l){j:Nat}(hj:j<x.Pages.length):Z5 (nth x.Pages j) now=false:=by
 rw[h.len]at hj
 rw[h.page j hj,List.take_length]
 split
 .exact(QbU hl.book QT.step (hl.at hj).1).2.2
 .rename_i g
  cases hw:Z5 (nth l.Pages j) now with
  |false=>rfl
  |true=>exact absurd (QpJ.2 ⟨hj,hw⟩) g
theorem Qv6{L:List D.Page}(h:q.ID=p.ID):(insP L p).set (posV p.ID L) q=insP L q:=by
 have hle:=Qbh (id:=p.ID) (l:=L)
 unfold insP
 rw[h,List.set_append_right _ _ (by simp;omega)]
 rw[show posV p.ID L - (L.take (posV p.ID L)).length=0 by simp;omega,List.set_cons_zero]
def Qww(c:D.Config)(b:D.Book)(o:D.Op)(now:Int):D.Page:=(runV c b (newP o.Page o.Policy now) now).1
theorem Qwu(h:Qe M n l)(ho:OpIn o)(hk:o.Kind=1)(h1:1<=o.Page)(hl:l.Pages.length<64):(opV l o).1.Config=l.Config/\(opV l o).1.Book=l.Book/\
  (opV l o).1.Pages=if hasV o.Page l.Pages=false/\(0<=o.Policy/\o.Policy<(l.Book.Policies.length:Int))then insP l.Pages (Qww l.Config l.Book o l.Now)else l.Pages:=by
 have h2:=ho.page
 by_cases g1:hasV o.Page l.Pages=true
 .have e:opV l o=(l,4):=by unfold opV;rw[if_pos hk,if_pos g1]
  rw[e,if_neg (by rw[g1];simp)];exact⟨rfl,rfl,rfl⟩
 .have g1':hasV o.Page l.Pages=false:=by simpa using g1
  by_cases g4:0<=o.Policy/\o.Policy<(l.Book.Policies.length:Int)
  .have e:opV l o=(runI { l with Pages:=insP l.Pages (newP o.Page o.Policy l.Now) } (posV o.Page l.Pages),0):=by
    unfold opV;rw[if_pos hk,if_neg g1,if_neg Oa,if_neg Oa,if_pos g4]
   obtain⟨i1,i2,i3⟩:=h.open (o:=o) g1' ⟨h1,h2.2⟩ g4 hl
   obtain⟨k1,k2,k3,_⟩:=Yz (l:={ l with Pages:=insP l.Pages (newP o.Page o.Policy l.Now) }) (i:=posV o.Page l.Pages)
   have hp:=(QfM i1 (i:=posV o.Page l.Pages) i2).1
   rw[e,if_pos ⟨g1',g4⟩]
   refine⟨k2,k3,?_⟩
   rw[hp]
   show(insP l.Pages (newP o.Page o.Policy l.Now)).set (posV o.Page l.Pages) (runV l.Config l.Book (nth (insP l.Pages (newP o.Page o.Policy l.Now)) (posV o.Page l.Pages)) l.Now).1=_
   rw[i3]
   have hid:(Qww l.Config l.Book o l.Now).ID=(newP o.Page o.Policy l.Now).ID:=(Qbn h.book QT.step (Qqm h.top h.book ⟨h1,h2.2⟩ g4 h.now)).id
   exact Qv6 hid
  .have e:opV l o=(l,3):=by unfold opV;rw[if_pos hk,if_neg g1,if_neg Oa,if_neg Oa,if_neg g4]
   rw[e,if_neg (fun hh=>g4 hh.2)];exact⟨rfl,rfl,rfl⟩
theorem QsB(h:Qe M n l)(ho:OpIn o)(hn:max l.Now o.At<=M - 20000)(hs:l.Seen.contains o.ID=false)(hl:l.Seen.length<256)(hk:o.Kind=1)(h1:1<=o.Page)(hpl:l.Pages.length<64):
  (Q5 l o).1.Config=l.Config/\(Q5 l o).1.Book=l.Book/\(Q5 l o).1.Now=max l.Now o.At/\
  (Q5 l o).1.Pages=if hasV o.Page l.Pages=false/\(0<=o.Policy/\o.Policy<(l.Book.Policies.length:Int))then insP l.Pages (Qww l.Config l.Book o (max l.Now o.At))else l.Pages:=by
 have h2:Qe M n (seeV l o):=h.see ho hn hs hl
 rw[Xw hs]
 obtain⟨g1,g2,g3⟩:=Qwu h2 ho hk h1 hpl
 exact⟨g1,g2,Qjo.1,g3⟩
theorem Qr5(hs:l.Seen.contains o.ID=false)(hk:o.Kind=2):Q5 l o=if o.Fence=l.Fence+1 then({ seeV l o with Owner:=o.Region,Fence:=o.Fence },0)else(seeV l o,23):=by
 rw[Xw hs]
 unfold opV
 rw[if_neg Oa,if_pos hk]
 rfl
def QdG(L:List D.Page)(t:Int):List D.Start:=(L.filter fun p=>Z5 p t).map fun p=>⟨p.ID,(dueV p).1,[]⟩
theorem QmB{L:List D.Page}{t:Int}(hi:i<L.length):QdG (L.take (i+1)) t=QdG (L.take i) t++(if Z5 (nth L i) t=true then[⟨(nth L i).ID,(dueV (nth L i)).1,[]⟩]else[]):=by
 unfold QdG
 rw[<-Qz hi,List.filter_append,List.map_append]
 congr 1
 cases g:Z5 (nth L i) t with
 |true=>simp[g]
 |false=>simp[g]
theorem Qlk{L:List D.Page}{t:Int}:(QdG L t).length<=L.length:=by
 unfold QdG;rw[List.length_map];exact List.length_filter_le ..
theorem Qq3{t:Int}(h:LW M n l)(hpg:l.Pages.length<=9):QgH 1000 l t=some (QdG l.Pages t):=by
 refine Ok.eq ?_
 unfold QgH
 refine Ok.j ?_
 refine Ok.run l.Pages.length (fun i=>((t,(i:Int),()),l,QdG (l.Pages.take i) t,())) rfl Oa (fun i hi k hk=>?_) (fun k=>?_)
 .try dsimp only
  have hs:=QmB (t:=t) hi
  have hlen:=Qlk (L:=l.Pages.take i) (t:=t)
  rw[List.length_take]at hlen
  try dsimp only at hk
  rw[hs]at hk
  refine Ok.j (Ok.P (Ok.oe (Qes h hpg) (Ok.t ?_)))
  refine Ok.j (Ok.atn hi (Ok.oe Qg4 (Ok.cnd (fun g=>Ok.ite (fun g2=>Ok.atn hi (Ok.LS ?_)) (fun g2=>?_)) (fun g=>?_))))
  .try dsimp only
   rw[Qb Oa]
   rw[if_pos (by unfold Z5;rw[g,decide_eq_true g2];rfl)]at hk;exact hk
  .try dsimp only
   rw[Qb Oa]
   rw[if_neg (by unfold Z5;rw[decide_eq_false g2];simp),List.append_nil]at hk;exact hk
  .try dsimp only
   rw[Qb Oa]
   rw[if_neg (by unfold Z5;rw[g];simp),List.append_nil]at hk;exact hk
 .try dsimp only
  refine Ok.j (Ok.N (Ok.s ?_))
  rw[List.take_length]
theorem Driven.none(h:Driven M n l now (UG l now).length x)(hl:Qe M n l):QdG x.Pages now=[]:=by
 unfold QdG
 rw[List.map_eq_nil_iff,List.filter_eq_nil_iff]
 intro p hp
 obtain⟨j,hj,rfl⟩:=Qm5 hp
 rw[h.done hl hj];simp
end
end
/-
  Lists of operations as they are made: one after the other, with numbers and times that ascend; what they make of a new ledger.
-/
section
open Go AM
attribute [local irreducible] dueV stepV runV QL answerV
section
variable {n:Nat} {c:D.Config} {b:D.Book} {p q:D.Page} {now M:Int} {l x:D.Ledger} {i:Nat} {o:D.Op} {L:List Int} {d:D.Dice} {ops:List D.Op}
def DecL(l:D.Ledger):Prop:=∀p∈l.Pages,PgX 1000000 p
theorem QpG{a:D.Answer}(h:Y0 a=true):(1<=a.ID/\a.ID<=1000000)/\0<=a.Page/\a.Page<=999999:=by
 unfold Y0 at h
 simp only[bae,QW]at h
 have h1:=h.1.1.1.1.1
 have h2:=h.1.1.1.1.2
 omega
theorem DecL.set(h:DecL l)(hp:PgX 1000000 p){L:List D.Page}(e:L=l.Pages.set i p):∀q∈L,PgX 1000000 q:=fun q hq=>by
 rw[e]at hq
 rcases List.mem_or_eq_of_mem_set hq with g|rfl
 .exact h q g
 .exact hp
theorem DecL.run(h:DecL l)(hl:Qe M n l)(hi:i<l.Pages.length):DecL (runI l i):=
 h.set ((h _ (Qi hi)).run hl.book QT.step (hl.at hi).1) (QfM hl hi).1
theorem DecL.runs(h:DecL l)(hl:Qe M n l):∀{k:Nat},k<=l.Pages.length->DecL (Xb l k)
 |0,_=>h
 |k+1,hk=>(h.runs hl Oa).run (hl.runs Oa) (by rw[(XY (l:=l) (k:=k)).2.2.2.2.2.2];exact hk)
theorem QvF{a:D.Answer}(hb:Qy b)(h:QG QT M b p)(hd:PgX 1000000 p)(hv:Y0 a=true)(ha:a.Person<4):PgX 1000000 (ansP c b p a now):=by
 have hr:PgX 1000000 (runV c b p now).1:=hd.run hb QT.step h
 unfold ansP
 split
 .rename_i g
  rcases Qd9 g with e|e
  .rw[e];exact hr
  .rw[e];exact hr.answer ha (QpG hv).1
 .exact hr
theorem DecL.op(h:DecL l)(hl:Qe M n l)(ho:OpIn o)(hlt:l.Pages.length<64)(ha:o.Kind=4->o.Answer.Person<4):DecL (opV l o).1:=by
 have hk5:=ho.kind
 by_cases k1:o.Kind=1
 .unfold opV
  rw[if_pos k1]
  split
  .exact h
  .rename_i g
   split
   .exact h
   .split
    .exact h
    .split
     .rename_i g1 g2 g3
      obtain⟨i1,i2,i3⟩:=hl.open (o:=o) (by simpa using g) ⟨Oa,ho.page.2⟩ g3 hlt
      refine DecL.run (fun q hq=>?_) i1 i2
      rcases Qjl.1 hq with rfl|hq
      .exact PgX.new
      .exact h q hq
     .exact h
 by_cases k2:o.Kind=2
 .unfold opV
  rw[if_neg k1,if_pos k2]
  split<;>exact h
 by_cases k3:o.Kind=3
 .unfold opV
  rw[if_neg k1,if_neg k2,if_pos k3]
  split
  .split
   .rename_i g
    generalize (if (nth l.Pages (posV o.Page l.Pages)).State=2 then(-1:Int)else(nth l.Pages (posV o.Page l.Pages)).Next)=kk
    split
    .exact h.run hl (Qba g).1
    .exact h
   .exact h
  .exact h
 by_cases k4:o.Kind=4
 .obtain⟨_,_,e⟩:=QsA hl k4
  show ∀q∈(opV l o).1.Pages,_
  rw[e]
  split
  .rename_i g
   have hi:=(Qba g).1
   exact h.set (QvF hl.book (hl.at hi).1 (h _ (Qi hi)) (ho.answer k4).1 (ha k4)) rfl
  .exact h
 .obtain⟨e,_⟩:=QrI (l:=l) (o:=o) Oa
  show ∀q∈(opV l o).1.Pages,_
  rw[e]
  exact h.runs hl (Nat.le_refl _)
theorem DecL.apply(h:DecL l)(hl:Qe M n l)(ho:OpIn o)(ht:max l.Now o.At<=M - 20000)(hs:l.Seen.length<256)(hlt:l.Pages.length<64)(ha:o.Kind=4->o.Answer.Person<4):DecL (Q5 l o).1:=by
 cases g:l.Seen.contains o.ID with
 |true=>unfold Q5;rw[if_pos g];exact h
 |false=>rw[Xw g];exact DecL.op (l:=seeV l o) h (hl.see ho ht g hs) ho hlt ha
def Xq(c:D.Config)(b:D.Book):D.Ledger:={ Now:=0,Config:=c,Book:=b,Pages:=[],Owner:=-1,Fence:=0,Seen:=[],Calls:=[] }
def opsV(l:D.Ledger):List D.Op->D.Ledger
 |[]=>l
 |o::r=>opsV (Q5 l o).1 r
theorem QrJ:∀{a:List D.Op} {l:D.Ledger} {r:List D.Op},opsV l (a++r)=opsV (opsV l a) r
 |[],_,_=>rfl
 |o::a,l,r=>by simp only[List.cons_append,opsV,QrJ]
theorem QuB:opsV l (ops++[o])=(Q5 (opsV l ops) o).1:=by rw[QrJ];rfl
theorem QuC(h:i<ops.length):opsV l (ops.take (i+1))=(Q5 (opsV l (ops.take i)) (nth ops i)).1:=by rw[<-Qz h,QuB]
structure Behind (ops:List D.Op) (k:Nat) (l:D.Ledger):Prop where
 made:Qzn k l
 dec:DecL l
 seen:∀x∈l.Seen,x<=(k:Int)
 last:l.Now<=0\/∃j,j<k/\l.Now<=(nth ops j).At
theorem Behind.first(hc:Q0 2 c)(hb:Qy b):Behind ops 0 (Xq c b):=
 ⟨⟨Qsy hc hb,fun p hp=>by simp[Xq]at hp,Nat.le_refl _,by simp[Xq]⟩,fun p hp=>by simp[Xq]at hp,fun x hx=>by simp[Xq]at hx,.inl (by simp[Xq])⟩
theorem Behind.fresh{k:Nat}(h:Behind ops k l)(hi:o.ID=(k:Int)+1):l.Seen.contains o.ID=false:=by
 cases hc:l.Seen.contains o.ID with
 |false=>rfl
 |true=>
  have:=h.seen _ (List.contains_iff_mem.1 hc)
  omega
theorem Qwx:opsV l []=l:=rfl
attribute [local irreducible] opsV Q5 opV
end
end
/-
  Ledgers behind lists of operations: what is asked of each, their errors, those of made lists.
-/
attribute [local irreducible] dueV stepV runV QL answerV
section
variable {n:Nat} {c:D.Config} {b:D.Book} {p q:D.Page} {now M:Int} {l x:D.Ledger} {i:Nat} {o:D.Op} {L:List Int} {d:D.Dice} {ops:List D.Op}
def QdU(l:D.Ledger):List D.Op->List Int
 |[]=>[]
 |o::r=>(Q5 l o).2::QdU (Q5 l o).1 r
theorem Qov:∀{a:List D.Op} {l:D.Ledger} {r:List D.Op},QdU l (a++r)=QdU l a++QdU (opsV l a) r
 |[],_,_=>rfl
 |o::a,l,r=>by simp only[List.cons_append,QdU,opsV,Qov]
theorem Qsk(h:i<ops.length):QdU l (ops.take (i+1))=QdU l (ops.take i)++[(Q5 (opsV l (ops.take i)) (nth ops i)).2]:=by rw[<-Qz h,Qov];rfl
theorem Qow:∀{ops:List D.Op} {l:D.Ledger},(QdU l ops).length=ops.length
 |[],_=>rfl
 |o::r,l=>by simp only[QdU,List.length_cons,Qow]
structure Led (l:D.Ledger):Prop where
 ok:∃M n,LW M n l/\n<=48
 pg:l.Pages.length<=9
structure OkAt (l:D.Ledger) (o:D.Op):Prop where
 ok:∃M n,Qe M n l/\n<48/\max l.Now o.At<=M - 20000
 pg:l.Pages.length<=8
 dec:DecL l
 op:OpIn o
 len:l.Seen.length<256
theorem OkAt.led(h:OkAt l o):Led l:=by
 obtain⟨M,n,h1,h2,_⟩:=h.ok
 exact⟨⟨M,n,h1.w,Oa⟩,by have:=h.pg;omega⟩
theorem OkAt.ref(h:OkAt l o):QcB 1000 l o=some (Q5 l o):=by
 obtain⟨M,n,h1,h2,h3⟩:=h.ok
 exact Qti h1 h2 h.pg h.op h3 h.len
theorem Led.check(h:Led l):U6 1000 l=some true:=by
 obtain⟨M,n,h1,h2⟩:=h.ok
 exact Qes h1 h.pg
theorem Led.checkE(h:Led l):Xm 1000 l=some true:=by
 obtain⟨M,n,h1,h2⟩:=h.ok
 exact Qm1 h1 h.pg
structure Runs (l:D.Ledger) (ops:List D.Op):Prop where
 at_:∀j,j<ops.length->OkAt (opsV l (ops.take j)) (nth ops j)
 fin:∀j,j<=ops.length->Led (opsV l (ops.take j))
 len:ops.length<=200
structure Loose (k:Nat) (l:D.Ledger):Prop where
 inv:Qe 1000000 (2+k) l
 ids:Ids 3 l
 seen:l.Seen.length<=k
 dec:DecL l
theorem Behind.loose{k:Nat}(h:Behind ops k l):Loose k l:=⟨h.made.inv,h.made.ids,h.made.seen,h.dec⟩
theorem Loose.led{k:Nat}(h:Loose k l)(hk:k<=46):Led l:=⟨⟨1000000,2+k,h.inv.w,Oa⟩,by have:=h.inv.small3 (k:=3) h.ids;omega⟩
theorem Qc1(hc:Q0 2 c)(hb:Qy b):Loose 0 (Xq c b):=(Behind.first (ops:=[]) hc hb).loose
end
end Go.Proofs.YtlllfgmajglnhaaGreat
