/-
  Owners of ledgers, in plain Lean: takeovers, what an owner proposes, its calls, fences.
-/
import Derived.Test.YtlllfgmajglnhaaGreatQRowSurE
import Derived.Test.YtlllfgmajglnhaaGreatQRowSurD
set_option maxRecDepth 100000
set_option linter.unusedVariables false
set_option linter.unusedSimpArgs false
namespace Go.Proofs.YtlllfgmajglnhaaGreat
open Go AM
section
attribute [local irreducible] dueV stepV runV QL answerV opV Q5 opsV QdU
section
variable {n:Nat} {M:Int} {l x:D.Ledger} {o:D.Op} {i k:Nat} {t r id now:Int} {L:List Int}
def ans0:D.Answer:=D.Answer.mk 0 0 0 0 0 0
def edit0:D.Edit:=D.Edit.mk 0 0 0 0 0
def op0:D.Op:=D.Op.mk 0 0 0 0 0 0 0 0 0 ans0 edit0
def ownO(l:D.Ledger)(r id now:Int):D.Op:=D.Op.mk id 2 r (l.Fence+1) now 0 0 0 0 ans0 edit0
def QpS(r id now:Int):Prop:=(0<=r/\r<=4)/\(1<=id/\id<=1099511627776)/\0<=now/\now<=8589934592
theorem Qyj(hs:l.Seen.contains id=false):Q5 l (ownO l r id now)=({ seeV l (ownO l r id now)with Owner:=r,Fence:=l.Fence+1 },0):=by
 rw[Qr5 (o:=ownO l r id now) hs rfl,if_pos (show(ownO l r id now).Fence=l.Fence+1 from rfl)]
 rfl
theorem Qm3{α:Type}[Inhabited α]{l:List α}:(List.range l.length).map (nth l)=l:=by
 refine List.ext_getElem Ob fun i h1 h2=>?_
 simp only[List.getElem_map,List.getElem_range,nth,List.getD_eq_getElem?_getD,List.getElem?_eq_getElem h2,Option.getD_some]
theorem Qvs:QdG l.Pages t=(UG l t).map fun i=>D.Start.mk (nth l.Pages i).ID (dueV (nth l.Pages i)).1 []:=by
 unfold QdG UG
 conv=>lhs;rw[<-Qm3 (l:=l.Pages)]
 rw[List.filter_map,List.map_map]
 rfl
theorem QpI:(UG l t).length=(QdG l.Pages t).length:=by rw[Qvs,List.length_map]
theorem QwX:(UG l t).length<=l.Pages.length:=by rw[QpI];exact Qlk
theorem Quy{α β:Type}[Inhabited α][Inhabited β]{l:List α}{f:α->β}(h:i<l.length):nth (l.map f) i=f (nth l i):=by
 simp[nth,List.getD_eq_getElem?_getD,List.getElem?_eq_getElem h]
theorem Quz{n:Nat}(h:i<n):nth (List.range n) i=i:=by
 simp[nth,List.getD_eq_getElem?_getD,h]
def Uj(l:D.Ledger)(now:Int)(k:Nat):D.Page:=nth l.Pages (nth (UG l now) k)
theorem QkA(h:k<(UG l now).length):nth (UG l now) k<l.Pages.length/\Z5 (Uj l now k) now=true:=QpJ.1 (Qi h)
theorem Qvt(h:k<(UG l now).length):nth (QdG l.Pages now) k=D.Start.mk (Uj l now k).ID (dueV (Uj l now k)).1 []:=by
 rw[Qvs,Quy h];rfl
def QbZ(l:D.Ledger)(id now:Int)(k:Nat):D.Op:=D.Op.mk (id+k) 3 l.Owner l.Fence now (Uj l now k).ID (Qhl (Uj l now k)) 0 0 ans0 edit0
def Qbp(l:D.Ledger)(id now:Int):List D.Op:=(List.range (UG l now).length).map (QbZ l id now)
theorem QgR:(Qbp l id now).length=(UG l now).length:=by simp[Qbp]
theorem QqU(h:k<(UG l now).length):nth (Qbp l id now) k=QbZ l id now k:=by
 unfold Qbp;rw[Quy (by simpa using h),Quz h]
theorem QpC(h:k<(UG l now).length):(Qbp l id now).take (k+1)=(Qbp l id now).take k++[QbZ l id now k]:=by
 rw[<-QqU h,Qz (by rw[QgR];exact h)]
theorem Qvh(h:Qe M n l)(hk:k<(UG l now).length)(hid:1<=id/\id+k<=1099511627776)(ho:0<=l.Owner)(hn:0<=now/\now<=8589934592):OpIn (QbZ l id now k):=by
 have hf:=h.fence;have hs:=h.seen.len;have how:=h.owner
 obtain⟨h1,h2⟩:=QkA hk
 obtain⟨g1,_⟩:=h.at h1
 have hnx:=(Ym (g1.check h.book)).next
 have hcn:=Yw (g1.polOK h.book)
 have hpid:=g1.id
 have hK : -1<=Qhl (Uj l now k)/\Qhl (Uj l now k)<=1000:=by
  show -1<=Qhl (nth l.Pages (nth (UG l now) k))/\Qhl (nth l.Pages (nth (UG l now) k))<=1000
  unfold Qhl
  split<;>omega
 exact⟨by simp only[QbZ];omega,by simp only[QbZ];omega,by simp only[QbZ];omega,by simp only[QbZ];omega,hn,by simp only[QbZ,Uj];omega,hK,fun e=>absurd (show(3:Int)=4 from e) Oa,fun e=>absurd (show(3:Int)=5 from e) Oa⟩
end
end
/-
  Owners of ledgers: what the reference's takeovers and proposed starts are.
-/
section
attribute [local irreducible] dueV stepV runV QL answerV opV Q5 opsV QdU
section
variable {n:Nat} {M:Int} {l x:D.Ledger} {o:D.Op} {i k:Nat} {t r id now f:Int}
def QiC(r id now:Int):Bool:=inV r 0 4 && (inV id 1 1099511627776 && inV now 0 8589934592)
theorem QjZ:QiC r id now=true↔QpS r id now:=by
 unfold QiC QpS
 simp only[bae,QW]
structure OwnR (l:D.Ledger):Prop where
 chkR:U6 1000 l=some true
 fence:0<=l.Fence/\l.Fence<=1048576
 waitR:∀t,QgH 1000 l t=some (QdG l.Pages t)
 findR:∀p∈l.Pages,Qdp 1000 l p.ID=some (Qck l p.ID)
 asc:AscP l.Pages
 pg:l.Pages.length<=9
theorem Led.ownR(h:Led l):OwnR l:=by
 obtain⟨M,n,h1,h2⟩:=h.ok
 have hf:=h1.fence;have hpg:=h.pg
 exact⟨h.check,Oa,fun t=>Qq3 h1 hpg,fun p hp=>Qt3 h1.plens h1.asc Oa,h1.asc,hpg⟩
def Qog(l:D.Ledger)(r id now:Int):D.Op×Int:=if QiC r id now=true then(if l.Fence=1048576 then(op0,5)else(ownO l r id now,0))else(op0,1)
theorem QtL(h:QpS r id now)(hf:l.Fence<=1000):Qog l r id now=(ownO l r id now,0):=by
 unfold Qog
 rw[if_pos (QjZ.2 h),if_neg Oa]
def QkJ(l:D.Ledger)(r id now:Int):List D.Op:=if QiC r id now=true/\r=l.Owner/\id+(l.Pages.length:Int)<=1099511627776 then Qbp l id now else[]
theorem Qt5(h:OwnR l)(hk:k<(UG l now).length):Qck l (Uj l now k).ID=(Uj l now k,true):=Qkg h.asc (QkA hk).1 rfl
theorem QsD(hk:k<(UG l now).length):Uj l now k∈l.Pages:=Qi (QkA hk).1
end
end
/-
  Lists of operations: what replaying them computes in the reference.
-/
section
open Go AM
attribute [local irreducible] dueV stepV runV QL answerV
section
variable {n:Nat} {c:D.Config} {b:D.Book} {p q:D.Page} {now M:Int} {l x:D.Ledger} {i:Nat} {o:D.Op} {ops:List D.Op}
end
end
/-
  PagingSurvives: its ledgers, in plain Lean: a page, a takeover, a start; and the same page run by one machine.
-/
section
attribute [local irreducible] dueV stepV runV QL answerV opV Q5 opsV QdU
section
variable {c:D.Config} {b:D.Book} {l:D.Ledger} {o:D.Op} {P Q:D.Page} {k:Nat} {pol now t:Int}
def opA(pol:Int):D.Op:=D.Op.mk 1 1 0 0 864000 7 0 pol 0 ans0 edit0
def opB(now:Int):D.Op:=D.Op.mk 2 2 1 1 now 0 0 0 0 ans0 edit0
def opE(now:Int):D.Op:=D.Op.mk 2 5 0 0 now 0 0 0 99 ans0 edit0
theorem Qkv(hp:0<=pol):OpIn (opA pol):=⟨by simp[opA],by simp[opA],by simp[opA],by simp[opA],by simp[opA],by simp[opA],by simp[opA],fun e=>absurd (show(1:Int)=4 from e) Oa,fun e=>absurd (show(1:Int)=5 from e) Oa⟩
theorem QoP(hn:0<=now/\now<=900000):OpIn (opB now):=⟨by simp[opB],by simp[opB],by simp[opB],by simp[opB],by simp only[opB];omega,by simp[opB],by simp[opB],fun e=>absurd (show(2:Int)=4 from e) Oa,fun e=>absurd (show(2:Int)=5 from e) Oa⟩
theorem Qy9(hn:0<=now/\now<=900000):OpIn (opE now):=⟨by simp[opE],by simp[opE],by simp[opE],by simp[opE],by simp only[opE];omega,by simp[opE],by simp[opE],fun e=>absurd (show(5:Int)=4 from e) Oa,fun _ h=>absurd (show(99:Int)<2 from h.2) Oa⟩
structure S7 (c:D.Config) (b:D.Book) (k:Nat) (P:D.Page) (l:D.Ledger):Prop where
 inv:Qe 1000000 (2+k) l
 dec:DecL l
 pages:l.Pages=[P]
 cfg:l.Config=c/\l.Book=b
 seen:l.Seen.length<=k/\∀x∈l.Seen,x<=(k:Int)
 now:l.Now<=900000
theorem S7.okAt(h:S7 c b k P l)(hk:k<=5)(ho:OpIn o)(ht:o.At<=900000):OkAt l o:=by
 have:=h.seen.1;have:=h.now
 exact⟨⟨1000000,2+k,h.inv,Oa,Oa⟩,by rw[h.pages];simp,h.dec,ho,Oa⟩
theorem S7.led(h:S7 c b k P l)(hk:k<=5):Led l:=⟨⟨1000000,2+k,h.inv.w,Oa⟩,by rw[h.pages];simp⟩
theorem S7.fresh(h:S7 c b k P l)(hi:o.ID=(k:Int)+1):l.Seen.contains o.ID=false:=by
 cases hc:l.Seen.contains o.ID with
 |false=>rfl
 |true=>have:=h.seen.2 _ (List.contains_iff_mem.1 hc);omega
theorem S7.next(h:S7 c b k P l)(hk:k<=5)(ho:OpIn o)(hid:o.ID=(k:Int)+1)(ht:o.At<=900000)(h4:o.Kind≠4)(hp:(Q5 l o).1.Pages=[Q])(hc:(Q5 l o).1.Config=c/\(Q5 l o).1.Book=b):S7 c b (k+1) Q (Q5 l o).1:=by
 have h1:=h.seen.1;have h2:=h.now
 have hf:=h.fresh hid
 refine⟨h.inv.apply Oa ho Oa Oa,h.dec.apply h.inv ho Oa Oa (by rw[h.pages];simp) (fun e=>absurd e h4),hp,hc,?_,?_⟩
 .rw[Xw hf,Qjo.2]
  refine⟨by show(l.Seen++[o.ID]).length<=k+1;simp;omega,fun x hx=>?_⟩
  rcases List.mem_append.1 hx with hx|hx
  .have:=h.seen.2 x hx;omega
  .rw[List.mem_singleton.1 hx,hid];omega
 .rw[Qr4 hf];omega
abbrev runP(c:D.Config)(b:D.Book)(P:D.Page)(t:Int):D.Page:=(runV c b P t).1
theorem Qu6{M:Int}(hb:Qy b)(h:QG QT M b P)(hw:Z5 P t=false):runP c b P t=P:=by
 show(runV c b P t).1=P
 rw[QgL (h.check hb)]
 show(runN c b t (99+1) P).1=P
 unfold runN
 rw[if_neg (by rw[hw];simp)]
theorem S7.page(h:S7 c b k P l):Qy b/\QG QT 1000000 b P:=by
 have:=h.inv.book;have h2:=(h.inv.page P (by rw[h.pages];simp)).1
 rw[h.cfg.2]at this h2
 exact⟨this,h2⟩
theorem QpK(h:l.Pages=[P]):UG l t=if Z5 P t=true then[0]else[]:=by
 unfold UG
 rw[h]
 show(List.range 1).filter _=_
 rw[show List.range 1=[0]from rfl]
 by_cases g:Z5 P t=true
 .rw[if_pos g];simp[nth,g]
 .rw[if_neg g];simp[nth,g]
theorem UW(hc:Q0 2 c)(hb:Qy b):Led (Xq c b):=(Qc1 hc hb).led Oa
theorem QvZ(hc:Q0 2 c)(hb:Qy b)(ho:OpIn o)(ht:o.At<=900000):OkAt (Xq c b) o:=
 ⟨⟨1000000,2+0,(Qc1 hc hb).inv,Oa,by simp only[Xq];omega⟩,by simp[Xq],(Qc1 hc hb).dec,ho,by simp[Xq]⟩
def lA(c:D.Config)(b:D.Book)(pol:Int):D.Ledger:=(Q5 (Xq c b) (opA pol)).1
def pA(c:D.Config)(b:D.Book)(pol:Int):D.Page:=Qww c b (opA pol) 864000
def lB(c:D.Config)(b:D.Book)(pol now:Int):D.Ledger:=(Q5 (lA c b pol) (opB now)).1
def opC(c:D.Config)(b:D.Book)(pol now:Int):D.Op:=QbZ (lB c b pol now) 3 now 0
def lC(c:D.Config)(b:D.Book)(pol now:Int):D.Ledger:=(Q5 (lB c b pol now) (opC c b pol now)).1
theorem claim0(hn:0<=now/\now<=900000):Qog (Xq c b) 1 2 now=(opB now,0):=by
 rw[QtL ⟨Oa,Oa,Oa⟩ (by simp[Xq])];rfl
theorem Qwg(hc:Q0 2 c)(hb:Qy b)(hp:0<=pol/\pol<(b.Policies.length:Int)):S7 c b 1 (pA c b pol) (lA c b pol)/\(lA c b pol).Fence=0/\(lA c b pol).Now=864000/\(pA c b pol).ID=7/\(pA c b pol).Policy=pol:=by
 have hl:=Qc1 hc hb
 have ho:=Qkv hp.1
 have hs:(Xq c b).Seen.contains (opA pol).ID=false:=rfl
 obtain⟨g1,g2,g3,g4⟩:=QsB (M:=1000000) hl.inv ho (by show max (0:Int) 864000<=_;omega) hs (by simp[Xq]) rfl (by simp[opA]) (by simp[Xq])
 rw[if_pos ⟨by simp[hasV,Xq],hp⟩]at g4
 have g3:(lA c b pol).Now=864000:=g3
 have g4:(lA c b pol).Pages=[pA c b pol]:=g4
 have hnew:=Qqm (Q:=QT) (M:=1000000) (b:=b) (id:=7) (pol:=pol) (start:=864000) Oa hb Oa hp Oa
 have hk:=Qbn (c:=c) (now:=864000) hb QT.step hnew
 refine⟨⟨hl.inv.apply Oa ho (by show max (0:Int) 864000<=_;omega) (by simp[Xq]),hl.dec.apply hl.inv ho (by show max (0:Int) 864000<=_;omega) (by simp[Xq]) (by simp[Xq]) (fun e=>absurd (show(1:Int)=4 from e) Oa),g4,⟨g1,g2⟩,?_,Oa⟩,?_,g3,hk.id,hk.pol⟩
 .unfold lA
  rw[Xw hs,Qjo.2]
  simp[seeV,Xq,opA]
 .unfold lA
  rw[Xw hs]
  unfold opV
  rw[if_pos (show(opA pol).Kind=1 from rfl)]
  repeat' split
  all_goals first
   |rfl
   |exact Yz.2.2.2.2.1
theorem Qsr(hc:Q0 2 c)(hb:Qy b)(hp:0<=pol/\pol<(b.Policies.length:Int))(hn:864000<=now/\now<=900000):S7 c b 2 (pA c b pol) (lB c b pol now)/\(lB c b pol now).Owner=1/\(lB c b pol now).Fence=1/\(lB c b pol now).Now=now:=by
 obtain⟨h1,h2,h3,_⟩:=Qwg hc hb hp
 have ho:=QoP (now:=now) Oa
 have e:opB now=ownO (lA c b pol) 1 2 now:=by unfold ownO opB;rw[h2];rfl
 have ha:Q5 (lA c b pol) (opB now)=({ seeV (lA c b pol) (opB now)with Owner:=1,Fence:=1 },0):=by
  have:=Qyj (l:=lA c b pol) (r:=1) (id:=2) (now:=now) (h1.fresh (o:=opB now) rfl)
  rw[<-e,h2]at this
  exact this
 have hP:(lB c b pol now).Pages=[pA c b pol]:=by unfold lB;rw[ha];exact h1.pages
 have hC:(lB c b pol now).Config=c/\(lB c b pol now).Book=b:=by unfold lB;rw[ha];exact h1.cfg
 refine⟨h1.next Oa ho rfl (by simp only[opB];omega) (by simp[opB]) hP hC,by unfold lB;rw[ha],by unfold lB;rw[ha],?_⟩
 unfold lB
 rw[ha]
 show max (lA c b pol).Now now=now
 omega
theorem QoS{id:Int}(h:S7 c b k P l)(hw:Z5 P now=false):QkJ l 1 id now=[]:=by
 unfold QkJ
 split
 .unfold Qbp
  rw[QpK h.pages,if_neg (by rw[hw];simp)];rfl
 .rfl
theorem QzB(hc:Q0 2 c)(hb:Qy b)(hp:0<=pol/\pol<(b.Policies.length:Int))(hn:864000<=now/\now<=900000):
  (QkJ (lB c b pol now) 1 3 now=[]/\pA c b pol=runP c b (pA c b pol) now)\/
  (QkJ (lB c b pol now) 1 3 now=[opC c b pol now]/\OpIn (opC c b pol now)/\(opC c b pol now).ID=3/\(opC c b pol now).Kind=3/\(opC c b pol now).At=now/\S7 c b 3 (runP c b (pA c b pol) now) (lC c b pol now)/\(lC c b pol now).Owner=1/\QkJ (lC c b pol now) 1 4 now=[]):=by
 obtain⟨h1,h2,h3,h4⟩:=Qsr hc hb hp hn
 obtain⟨hb',hpi⟩:=h1.page
 by_cases hw:Z5 (pA c b pol) now=true
 .right
  have hwI:UG (lB c b pol now) now=[0]:=by rw[QpK h1.pages,if_pos hw]
  have hlt:0<(UG (lB c b pol now) now).length:=by rw[hwI];simp
  have hpa:Uj (lB c b pol now) now 0=pA c b pol:=by unfold Uj;rw[hwI,h1.pages];rfl
  have hin:OpIn (opC c b pol now):=Qvh h1.inv hlt Oa Oa Oa
  have hs:=h1.fresh (o:=opC c b pol now) rfl
  have hd:=Qsi (o:=opC c b pol now) (i:=0) h1.inv rfl rfl rfl (by rw[h1.pages];simp) (by rw[h1.pages];show(Uj (lB c b pol now) now 0).ID=_;rw[hpa];rfl) (by rw[h1.pages,show max (lB c b pol now).Now (opC c b pol now).At=now by rw[h4];exact Int.max_self now];exact hw) (by rw[h1.pages];show Qhl (Uj (lB c b pol now) now 0)=_;rw[hpa];rfl) hs
  have hsee:Qe 1000000 (2+2) (seeV (lB c b pol now) (opC c b pol now)):=h1.inv.see hin (by show max (lB c b pol now).Now now<=_;omega) hs (by have:=h1.seen.1;omega)
  obtain⟨r1,r2⟩:=QfM hsee (i:=0) (by show 0<(lB c b pol now).Pages.length;rw[h1.pages];simp)
  obtain⟨k1,k2,k3,k4,k5,_⟩:=Yz (l:=seeV (lB c b pol now) (opC c b pol now)) (i:=0)
  have hN:(seeV (lB c b pol now) (opC c b pol now)).Now=now:=by show max (lB c b pol now).Now now=now;omega
  have hP:(lC c b pol now).Pages=[runP c b (pA c b pol) now]:=by
   unfold lC
   rw[hd,r1,hN]
   show(lB c b pol now).Pages.set 0 (runV (lB c b pol now).Config (lB c b pol now).Book (nth (lB c b pol now).Pages 0) now).1=_
   rw[h1.pages,h1.cfg.1,h1.cfg.2];rfl
  have hC:(lC c b pol now).Config=c/\(lC c b pol now).Book=b:=by
   unfold lC
   rw[hd,k2,k3];exact h1.cfg
  have h7:S7 c b 3 (runP c b (pA c b pol) now) (lC c b pol now):=h1.next Oa hin rfl (by show now<=_;omega) (by show(3:Int)≠4;omega) hP hC
  refine⟨?_,hin,rfl,rfl,rfl,h7,?_,QoS h7 (QbU hb' QT.step hpi).2.2⟩
  .unfold QkJ
   rw[if_pos ⟨QjZ.2 ⟨Oa,Oa,Oa⟩,h2.symm,by rw[h1.pages];simp⟩]
   unfold Qbp
   rw[hwI];rfl
  .unfold lC
   rw[hd,k4];exact h2
 .left
  have hw:Z5 (pA c b pol) now=false:=by simpa using hw
  exact⟨QoS h1 hw,(Qu6 hb' hpi hw).symm⟩
theorem QzC(hc:Q0 2 c)(hb:Qy b)(hp:0<=pol/\pol<(b.Policies.length:Int))(hn:864000<=now/\now<=900000):OkAt (lA c b pol) (opE now)/\S7 c b 2 (runP c b (pA c b pol) now) (Q5 (lA c b pol) (opE now)).1:=by
 obtain⟨h1,h2,h3,_⟩:=Qwg hc hb hp
 have ho:=Qy9 (now:=now) Oa
 have hs:=h1.fresh (o:=opE now) rfl
 have hsee:Qe 1000000 (2+1) (seeV (lA c b pol) (opE now)):=h1.inv.see ho (by show max (lA c b pol).Now now<=_;omega) hs (by have:=h1.seen.1;omega)
 obtain⟨e1,e2,e3⟩:=QrI (l:=seeV (lA c b pol) (opE now)) (o:=opE now) rfl
 have hlen:(seeV (lA c b pol) (opE now)).Pages.length=1:=by show(lA c b pol).Pages.length=1;rw[h1.pages];rfl
 have hN:(seeV (lA c b pol) (opE now)).Now=now:=by show max (lA c b pol).Now now=now;omega
 refine⟨h1.okAt Oa ho (by show now<=_;omega),h1.next Oa ho rfl (by show now<=_;omega) (by show(5:Int)≠4;omega) ?_ ?_⟩
 .rw[Xw hs,e1,hlen]
  show(runI (seeV (lA c b pol) (opE now)) 0).Pages=_
  rw[(QfM hsee (i:=0) Oa).1,hN]
  show(lA c b pol).Pages.set 0 (runV (lA c b pol).Config (lA c b pol).Book (nth (lA c b pol).Pages 0) now).1=_
  rw[h1.pages,h1.cfg.1,h1.cfg.2];rfl
 .rw[Xw hs,e3,e2,if_neg (fun h=>absurd (show(99:Int)<2 from h.2) Oa)]
  exact h1.cfg
theorem S7.find(h:S7 c b k P l)(hid:P.ID=7):Qdp 1000 l 7=some (P,true):=by
 rw[Qt3 h.inv.plens h.inv.asc (by rw[h.pages];simp),Qkg (i:=0) h.inv.asc (by rw[h.pages];simp) (by rw[h.pages];exact hid),h.pages];rfl
theorem S7.len(h:S7 c b k P l):Qx P:=h.inv.plens P (by rw[h.pages];simp)
theorem Qzd(h:Qx P):QaO 1000 [P] [P]=some true:=by
 refine Ok.eq ?_
 unfold QaO
 refine Ok.NS (Ok.run2 1 (fun i=>([P],[P],(i:Int),())) rfl Oa (fun i hi K hK=>?_) (fun K=>by dsimp only;exact Ok.NS (Ok.s rfl)))
 obtain rfl:i=0:=Oa
 dsimp only at hK |-
 exact Ok.PS (Ok.atn Ob (Ok.atn Ob (Ok.oe (QsV h) (Ok.f hK))))
end
end
/-
  Ledgers: what the program's operations compute.
-/
section
open Go AM
attribute [local irreducible] dueV stepV runV QL answerV
section
variable {n:Nat} {c:D.Config} {b:D.Book} {p q:D.Page} {now M:Int} {l x:D.Ledger} {i:Nat} {o:D.Op} {ops:List D.Op}
theorem mapE{T:Type}[Inhabited T]{f:Nat->T->Option T}{l:List T}(hf:∀x∈l,f 1000 x=some x)(hl:l.length<=900):
  Qg (X:=((Int×(Int×Unit))×(List T×Unit))) (fun L1 ((a2,(a3,_)),(a4,_))=>(AM.cnd (decide (a3<a2)) (natc a3 fun a5=>(ltc a5 (List.length a4) (optc (GetElem?.getElem? a4 a5) fun a6=>(optc (f 1000 a6) fun a7=>(natc a3 fun a8=>(ltc a8 (List.length a4) (optc (GetElem?.getElem? a4 a8) fun a9=>(L1 ((a2,((IntKind.wrap .i64 (a3+1)),())),((List.set a4 a8 a7),())))))))))) (some a4))) 1000 (((((List.length l):Nat):Int),(0,())),(l,()))=some l:=by
 refine Ok.eq ?_
 refine Ok.run l.length (fun i=>(((((List.length l):Nat):Int),((i:Nat):Int),()),l,())) rfl Oa (fun i hi k hk=>?_) (fun k=>?_)
 .try dsimp only
  refine Ok.P (Ok.natn (Ok.lt hi (Ok.get hi (Ok.oe (hf _ (Qi hi)) (Ok.natn (Ok.lt hi (Ok.get hi ?_)))))))
  rw[Qb Oa,Qvc hi];exact hk
 .try dsimp only
  exact Ok.N (Ok.s rfl)
theorem cl_w{l:List D.Window}(h:l.length<=900):YR 1000 l=some l:=by unfold YR;exact Xs Oa
theorem cl_i{l:List Int}(h:l.length<=900):Qv 1000 l=some l:=by unfold Qv;exact Xs Oa
theorem Qql{l:List D.Zone}(h:∀z∈l,z.Rules=[])(hl:l.length<=900):ZE 1000 l=some l:=by
 unfold ZE
 refine(WV (show WP 1000 l=some l by unfold WP;exact Xs Oa)).trans (mapE (f:=Qft) (fun z hz=>?_) hl)
 unfold Qft
 exact WV (show WH 1000 z.Rules=some z.Rules by rw[h z hz];rfl)
theorem Qm4{l:List D.Person}(h:∀z∈l,z.Quiet.length<=900)(hl:l.length<=900):Zd 1000 l=some l:=by
 unfold Zd
 refine(WV (show XZ 1000 l=some l by unfold XZ;exact Xs Oa)).trans (mapE (f:=QbH) (fun z hz=>?_) hl)
 unfold QbH
 exact WV (cl_w (h z hz))
theorem QoK{l:List D.Layer}(h:∀z∈l,YM z)(hl:l.length<=900):Zj 1000 l=some l:=by
 unfold Zj
 refine(WV (show Wn 1000 l=some l by unfold Wn;exact Xs Oa)).trans (mapE (f:=Qdf) (fun z hz=>?_) hl)
 have hz':=h z hz
 unfold Qdf
 exact(WV (cl_i (by have:=hz'.len;omega))).trans (WV (cl_w (by rw[hz'.win];simp)))
theorem QoL{l:List D.Schedule}(h:∀z∈l,Qd7 n z)(hn:n<=48)(hl:l.length<=900):QZ 1000 l=some l:=by
 unfold QZ
 refine(WV (show Xc 1000 l=some l by unfold Xc;exact Xs Oa)).trans (mapE (f:=UO) (fun z hz=>?_) hl)
 obtain⟨⟨y,hy,hy2⟩,h2,_⟩:=h z hz
 unfold UO
 refine(WV (QoK (l:=z.Layers) (fun w hw=>?_) (by rw[hy];simp))).trans (WV (show WM 1000 z.Edits=some z.Edits by unfold WM;exact Xs Oa))
 simp_all
theorem Qqk{l:List D.Team}(h:∀z∈l,Qn0 z)(hl:l.length<=900):ZD 1000 l=some l:=by
 unfold ZD
 refine(WV (show WO 1000 l=some l by unfold WO;exact Xs Oa)).trans (mapE (f:=Qfs) (fun z hz=>?_) hl)
 unfold Qfs
 exact WV (cl_i (by have:=(h z hz).len;omega))
theorem Qqj{m:Nat}{l:List D.PolicyStep}(h:∀z∈l,StepOK' m z)(hl:l.length<=900):Q6 1000 l=some l:=by
 unfold Q6
 refine(WV (show YG 1000 l=some l by unfold YG;exact Xs Oa)).trans (mapE (f:=Qfr) (fun z hz=>?_) hl)
 unfold Qfr
 exact WV (show X1 1000 z.Targets=some z.Targets by unfold X1;exact Xs (by have:=(h z hz).len;omega))
theorem Qst{m:Nat}{l:List D.Policy}(h:∀z∈l,Qce m z)(hl:l.length<=900):Zv 1000 l=some l:=by
 unfold Zv
 refine(WV (show X0 1000 l=some l by unfold X0;exact Xs Oa)).trans (mapE (f:=Qhp) (fun z hz=>?_) hl)
 unfold Qhp
 exact WV (Qqj (h z hz).step (by have:=(h z hz).len;omega))
theorem QrM(h:Qx p):QaX 1000 p=some p:=by
 have h1:=h.st;have h2:=h.de;have h3:=h.se
 unfold QaX
 refine(WV (x:=p.Starts) ?_).trans ((WV (cl_i Oa)).trans (WV (cl_i Oa)))
 unfold ZW
 refine(WV (Qoi Oa)).trans (mapE (f:=QbG) (fun z hz=>?_) Oa)
 unfold QbG
 exact WV (cl_i (by have:=(h.pe z hz).1;omega))
theorem Qqi{l:List D.Page}(h:∀z∈l,Qx z)(hl:l.length<=900):ZC 1000 l=some l:=by
 unfold ZC
 exact(WV (show WN 1000 l=some l by unfold WN;exact Xs Oa)).trans (mapE (f:=QaX) (fun z hz=>QrM (h z hz)) hl)
theorem Led.copyE(h:Led l):UZ 1000 l=some l:=by
 obtain⟨M,n,h1,h2⟩:=h.ok
 have hcl:=h1.callsLe h.pg;have hse:=h1.seen.len;have hpg:=h.pg;have hb:=h1.book;have hc:=h1.cfg
 have htl:=hb.tlen;have hpl:=hb.plen
 obtain⟨hz,_⟩:=hc.zones
 unfold UZ
 rw[Qql (by rw[hz];intro z hm;rw[List.mem_singleton.1 hm]) (by rw[hz];simp),ZR,Qm4 (fun z hm=>by rcases(hc.person z hm).quiet with e|⟨_,_,e,_⟩<;>rw[e]<;>simp) (by rw[hc.plen];omega),ZR,hc.cal]
 rw[show Zu 1000 []=some []by kernel_rfl,ZR,QoL hc.sched h2 (by rw[hc.slen];omega),ZR,Qqk hb.team Oa,ZR,Qst hb.pol Oa,ZR,Qqi h1.plens Oa,ZR,cl_i Oa,ZR,Qoh Oa,ZR]
 obtain⟨l1,⟨c1,c2,c3,c4⟩,l3,l4,l5,l6,l7,l8⟩:=l
 have hcal:=hc.cal
 dsimp only at hcal |-
 subst hcal
 rfl
theorem Qua{i j:Nat}(h:i+j<1000000):IntKind.wrap .i64 (Int.fdiv (IntKind.wrap .u64 (IntKind.wrap .i64 ((i:Int)+(j:Int)))) (HPow.hPow 2 (min 1 (Go.IntKind.bits Go.IntKind.u64))))=(((i+j) / 2:Nat):Int):=by
 rw[Qc (x:=(i:Int)+(j:Int)) Oa]
 have e:IntKind.u64.wrap ((i:Int)+(j:Int))=(i:Int)+(j:Int):=by
  simp only[IntKind.wrap,IntKind.bits,IntKind.signed]
  simp
  omega
 rw[e,show((HPow.hPow 2 (min 1 (Go.IntKind.bits Go.IntKind.u64)):Nat):Int)=2 from rfl,Int.fdiv_eq_ediv_of_nonneg _ Oa,Qc Oa]
 omega
theorem Qrc{id:Int}(h1:0<=p.ID/\p.ID<=999999)(h2 : -1<=id/\id<=1000000):Wu 1000 p id=some (p.ID - id):=by
 unfold Wu
 rw[Qc Oa]
theorem QyR{id:Int}{L:List D.Page}(ha:AscP L)(hl:L.length<=64)(hp:∀p∈L,0<=p.ID/\p.ID<=999999)(hid : -1<=id/\id<=1000000):
  QF 1000 L id=some ((posV id L:Int),hasV id L):=by
 have hple:=Qbh (id:=id) (l:=L)
 refine Ok.eq ?_
 unfold QF
 refine Ok.loop (fun m x=>∃(i j:Nat),x=((id,((L.length:Nat):Int),(i:Int),(j:Int),()),L,())/\i<=posV id L/\posV id L<=j/\j<=L.length/\m=j - i) (m:=L.length) Oa ⟨0,L.length,rfl,Oa,Oa,Oa,Oa⟩ ?_
 rintro m x ⟨i,j,rfl,h1,h2,h3,rfl⟩ K hK
 try dsimp only
 refine Ok.ite (fun hij=>?_) (fun hij=>?_)
 .refine Ok.nat Oa ?_
  rw[show(1:Int).toNat=1 from rfl,Qua Oa]
  have hh:(i+j) / 2<L.length:=Oa
  refine Ok.natn (Ok.lt hh (Ok.get hh (Ok.oe (Qrc (hp _ (Qi hh)) hid) (Ok.ite (fun g=>?_) (fun g=>?_)))))
  .try dsimp only
   rw[Qb Oa]
   refine hK _ _ Oa ⟨(i+j) / 2+1,j,rfl,?_,h2,h3,rfl⟩
   rcases Nat.lt_or_ge ((i+j) / 2) (posV id L)with g2|g2
   .omega
   .have:=QkH ha g2 hh
    omega
  .refine hK _ _ Oa ⟨i,(i+j) / 2,rfl,h1,?_,Oa,rfl⟩
   rcases Nat.lt_or_ge ((i+j) / 2) (posV id L)with g2|g2
   .have:=QkI g2
    omega
   .exact g2
 .have e:i=posV id L:=Oa
  subst e
  unfold hasV
  refine Ok.ite (fun g=>?_) (fun g=>?_)
  .have hh:posV id L<L.length:=Oa
   refine Ok.natn (Ok.lt hh (Ok.get hh (Ok.oe (Qrc (hp _ (Qi hh)) hid) (Ok.ite (fun g=>Ok.sameC (Ok.s ?_)) (fun g=>Ok.sameC (Ok.s ?_))))))
   .grind
   .rw[decide_eq_false (fun h=>g Oa)]
  .exact Ok.sameC (Ok.s (by rw[decide_eq_false (fun h=>g Oa)]))
theorem Qzo{id:Int}{L:List D.Page}(ha:AscP L)(hl:L.length<=64)(hp:∀p∈L,0<=p.ID/\p.ID<=999999)(hid : -1<=id/\id<=1000000):
  QJ 1000 L id=some ((posV id L:Int),hasV id L):=by
 have hple:=Qbh (id:=id) (l:=L)
 refine Ok.eq ?_
 unfold QJ
 refine Ok.loop (fun m x=>∃(i j:Nat),x=((L,id,((L.length:Nat):Int),(i:Int),(j:Int),()),())/\i<=posV id L/\posV id L<=j/\j<=L.length/\m=j - i) (m:=L.length) Oa ⟨0,L.length,rfl,Oa,Oa,Oa,Oa⟩ ?_
 rintro m x ⟨i,j,rfl,h1,h2,h3,rfl⟩ K hK
 try dsimp only
 refine Ok.ite (fun hij=>?_) (fun hij=>?_)
 .refine Ok.nat Oa ?_
  rw[show(1:Int).toNat=1 from rfl,Qua Oa]
  have hh:(i+j) / 2<L.length:=Oa
  refine Ok.atn hh (Ok.oe (Qrc (hp _ (Qi hh)) hid) (Ok.ite (fun g=>?_) (fun g=>?_)))
  .try dsimp only
   rw[Qb Oa]
   refine hK _ _ Oa ⟨(i+j) / 2+1,j,rfl,?_,h2,h3,rfl⟩
   rcases Nat.lt_or_ge ((i+j) / 2) (posV id L)with g2|g2
   .omega
   .have:=QkH ha g2 hh
    omega
  .refine hK _ _ Oa ⟨i,(i+j) / 2,rfl,h1,?_,Oa,rfl⟩
   rcases Nat.lt_or_ge ((i+j) / 2) (posV id L)with g2|g2
   .have:=QkI g2
    omega
   .exact g2
 .have e:i=posV id L:=Oa
  subst e
  unfold hasV
  refine Ok.ite (fun g=>?_) (fun g=>?_)
  .have hh:posV id L<L.length:=Oa
   refine Ok.atn hh (Ok.oe (Qrc (hp _ (Qi hh)) hid) (Ok.ite (fun g=>Ok.s ?_) (fun g=>Ok.s ?_)))
   .grind
   .rw[decide_eq_false (fun h=>g Oa)]
  .exact Ok.s (by rw[decide_eq_false (fun h=>g Oa)])
theorem LW.idsIn(h:LW M n l):∀p∈l.Pages,0<=p.ID/\p.ID<=999999:=fun p hp=>by
 have:=(h.page p hp).1.id;omega
theorem Qkf{id:Int}(h:LW M n l)(hid : -1<=id/\id<=1000000):Z3 1000 l id=some ((posV id l.Pages:Int),hasV id l.Pages):=by
 unfold Z3
 rw[QyR h.asc h.len h.idsIn hid,ZR]
 dsimp only
 rw[WG,WG,WG]
theorem QvC{id:Int}(h:LW M n l)(hid : -1<=id/\id<=1000000):Qcs 1000 l id=some (Qck l id):=by
 refine Ok.eq ?_
 unfold Qcs Qh9 Qck
 rw[Qzo h.asc h.len h.idsIn hid]
 by_cases g:hasV id l.Pages=true
 .rw[if_pos g]
  have:=(Qba g).1
  exact Ok.os (Ok.nt g (Ok.atn this (Ok.oe (QrM (h.plens _ (Qi this))) (Ok.s rfl))))
 .rw[if_neg g]
  exact Ok.os (Ok.nf (by simpa using g) (Ok.s rfl))
theorem Qwq:Qfp 1000 p=some (Qhl p):=by
 unfold Qfp Qhl
 (try unfold cd);rw[Qw4];split<;>rfl
theorem QvT{k:Nat}(hi:i<l.Pages.length)(hp:Qx (nth l.Pages i))(hk:k<=(nth l.Pages i).Starts.length)(hcl:l.Calls.length<=20000):
  Q3 1000 ⟨l⟩ (i:Int) (k:Int)=some ⟨{ l with Calls:=l.Calls++QI (nth l.Pages i).ID l.Fence ((nth l.Pages i).Starts.drop k) }⟩:=by
 obtain⟨P,hP⟩:∃P,nth l.Pages i=P:=⟨_,rfl⟩
 have hst:=hp.st
 refine Ok.eq ?_
 unfold Q3
 refine Ok.natn (Ok.lt hi (Ok.get hi (Ok.natn (Ok.lec hk ?_))))
 rw[hP]at hp hk hst |-
 refine Ok.run (P.Starts.length - k) (fun j=>(((P.Starts.drop k),(((P.Starts.drop k).length:Nat):Int),(j:Int),()),(l.Now,l.Config.Zones,l.Config.People,l.Config.Calendars,l.Config.Schedules,l.Book.Teams,l.Book.Policies,l.Owner,l.Fence,()),P,l.Pages,l.Seen,l.Calls++QI P.ID l.Fence ((P.Starts.drop k).take j),())) (by rw[List.take_zero];simp[QI]) Oa (fun j hj kk hkk=>?_) (fun kk=>?_)
 .try dsimp only
  have hdl:j<(P.Starts.drop k).length:=by simp;omega
  refine Ok.P (Ok.atn hdl ?_)
  have hpe:=(hp.pe _ (List.mem_of_mem_drop (Qi hdl))).1
  have hts:(P.Starts.drop k).take (j+1)=(P.Starts.drop k).take j++[nth (P.Starts.drop k) j]:=(Qz hdl).symm
  have hol:(QI P.ID l.Fence ((P.Starts.drop k).take j)).length<=40*((P.Starts.drop k).take j).length:=Qa5 (m:=40) fun s hs=>(hp.pe s (List.mem_of_mem_drop (List.mem_of_mem_take hs))).1
  rw[List.length_take,List.length_drop]at hol
  obtain⟨s,hs⟩:∃s,nth (P.Starts.drop k) j=s:=⟨_,rfl⟩
  rw[hs]at hpe hts |-
  refine Ok.run s.People.length (fun z=>(((P.Starts.drop k),(((P.Starts.drop k).length:Nat):Int),(j:Int),s.People,((s.People.length:Nat):Int),(z:Int),()),(l.Now,l.Config.Zones,l.Config.People,l.Config.Calendars,l.Config.Schedules,l.Book.Teams,l.Book.Policies,l.Owner,l.Fence,()),P,s,l.Pages,l.Seen,(l.Calls++QI P.ID l.Fence ((P.Starts.drop k).take j))++(s.People.take z).map (fun x=>D.Call.mk P.ID s.K s.At x l.Fence),())) (by rw[List.take_zero,List.map_nil,List.append_nil];rfl) Oa (fun z hz k2 hk2=>?_) (fun k2=>?_)
  .try dsimp only
   refine Ok.P (Ok.atn hz (Ok.lec ?_ ?_))
   .grind
   .try dsimp only
    rw[Qb Oa]
    try dsimp only at hk2
    rw[<-Qz hz,List.map_append,<-List.append_assoc]at hk2
    exact hk2
  .try dsimp only
   refine Ok.N ?_
   try dsimp only
   rw[Qb Oa,List.take_length]
   try dsimp only at hkk
   rw[hts,Qed,<-List.append_assoc]at hkk
   exact hkk
 .try dsimp only
  refine Ok.NS (Ok.s ?_)
  rw[List.take_of_length_le Ob]
theorem QuP{A:D.Page}(hi:i<l.Pages.length)(hA:Qx A)(hx:Ext (nth l.Pages i) A)(hcl:l.Calls.length<=20000):
  Q3 1000 ⟨⟨l.Now,l.Config,l.Book,l.Pages.set i A,l.Owner,l.Fence,l.Seen,l.Calls⟩⟩ (i:Int) (((nth l.Pages i).Starts.length:Nat):Int)=some ⟨putV l i A⟩:=by
 obtain⟨m,hm⟩:=hx
 have hset:nth (l.Pages.set i A) i=A:=XJ hi
 have hc:=QvT (l:={ l with Pages:=l.Pages.set i A }) (i:=i) (k:=(nth l.Pages i).Starts.length) (by show i<(l.Pages.set i A).length;rw[List.length_set];exact hi) (by show Qx (nth (l.Pages.set i A) i);rw[hset];exact hA)
  (by show _<=(nth (l.Pages.set i A) i).Starts.length;rw[hset,hm];simp) hcl
 refine hc.trans ?_
 show some (D.worker.mk { l with Pages:=l.Pages.set i A,Calls:=l.Calls++QI (nth (l.Pages.set i A) i).ID l.Fence ((nth (l.Pages.set i A) i).Starts.drop (nth l.Pages i).Starts.length) })=_
 rw[hset];rfl
theorem QqO(h:LW M n l)(hpg:l.Pages.length<=9)(hi:i<l.Pages.length):QU 1000 ⟨l⟩ (i:Int)=some ⟨runI l i⟩:=by
 have hcl:=h.callsLe hpg
 have hat:=h.at hi
 have hpl:=hat.1.plen h.book
 refine Ok.eq ?_
 unfold QU
 refine Ok.natn (Ok.lt hi (Ok.get hi (Ok.oe (Qzc h.cfg h.small h.book hpl) ?_)))
 have hext:=QnI (c:=l.Config) (now:=l.Now) h.book hat.1
 have hR:=hpl.runV (c:=l.Config) (now:=l.Now) h.book
 have hid:=(Qbn (c:=l.Config) (now:=l.Now) h.book QT.step hat.1).id
 have herr:=(QbU (c:=l.Config) (now:=l.Now) h.book QT.step hat.1).2.1
 rw[h.runEq hi]
 obtain⟨R,e,hRe⟩:∃R e,runV l.Config l.Book (nth l.Pages i) l.Now=(R,e):=⟨_,_,rfl⟩
 rw[hRe]at hext hR hid herr |-
 try dsimp only at hext hR hid herr |-
 subst herr
 refine Ok.NS (Ok.natn (Ok.lt hi (Ok.get hi (Ok.natn (Ok.lt hi (Ok.get hi ?_))))))
 exact Ok.oe (QuP hi hR hext Oa) (Ok.s rfl)
theorem Qyh(hf:0<=l.Fence/\l.Fence<=1048576)(hk:o.Kind=2):Ya 1000 ⟨l⟩ o=some ((opV l o).2,⟨(opV l o).1⟩):=by
 refine Ok.eq ?_
 unfold Ya opV
 rw[if_neg Oa,if_pos hk,Qc (by dsimp only;omega)]
 refine Ok.ite (fun g=>Ok.s ?_) (fun g=>Ok.s ?_)
 .simp_all
 .simp_all
theorem Qvg(h:LW M n l)(hpg:l.Pages.length<=9)(ho:OpIn o)(hk:o.Kind=3):ZQ 1000 ⟨l⟩ o=some ((opV l o).2,⟨(opV l o).1⟩):=by
 have hop:=ho.page
 refine Ok.eq ?_
 unfold ZQ opV
 rw[if_neg Oa,if_neg Oa,if_pos hk]
 refine Ok.join (fun y=>y=((),(l.Now,l.Config.Zones,l.Config.People,l.Config.Calendars,l.Config.Schedules,l.Book.Teams,l.Book.Policies,l.Owner,l.Fence,()),o,l.Pages,l.Seen,l.Calls,())/\o.Region=l.Owner/\o.Fence=l.Fence) (fun y hy=>?_) (fun J hJ=>Ok.ite (fun g=>Ok.s ?_) (fun g=>Ok.ite (fun g2=>Ok.s ?_) (fun g2=>hJ _ ⟨rfl,by simpa using g,by simpa using g2⟩)))
 .obtain⟨rfl,g1,g2⟩:=hy
  try dsimp only
  rw[if_pos ⟨g1,g2⟩]
  refine Ok.oe (Qkf (l:=l) h Oa) (Ok.ncnd (fun hh=>Ok.s ?_) (fun hh=>?_))
  .simp_all
  .rw[if_pos hh]
   have hi:=(Qba hh).1
   refine Ok.natn (Ok.lt hi (Ok.get hi ?_))
   have hrun:=QqO h hpg hi
   obtain⟨pg,hpg2⟩:∃pg,nth l.Pages (posV o.Page l.Pages)=pg:=⟨_,rfl⟩
   rw[hpg2]
   have hw:Z5 pg l.Now=((dueV pg).2 && decide ((dueV pg).1<=l.Now)):=rfl
   have hkk:(if pg.State=2 then(-1:Int)else pg.Next)=Qhl pg:=rfl
   rw[hkk]
   refine Ok.join (fun y=>y=((((posV o.Page l.Pages:Nat):Int),()),(l.Now,l.Config.Zones,l.Config.People,l.Config.Calendars,l.Config.Schedules,l.Book.Teams,l.Book.Policies,l.Owner,l.Fence,()),l.Pages,l.Seen,l.Calls,())/\Z5 pg l.Now=true/\o.K=Qhl pg) (fun y hy=>?_) (fun J hJ=>?_)
   .obtain⟨rfl,g3,g4⟩:=hy
    try dsimp only
    rw[if_pos ⟨g3,g4⟩]
    exact Ok.oe hrun (Ok.s rfl)
   .refine Ok.oe Ql7 (Ok.cnd (fun g3=>Ok.ite (fun g4=>Ok.s ?_) (fun g4=>Ok.oe Qwq (Ok.ite (fun g5=>Ok.s ?_) (fun g5=>hJ _ ⟨rfl,?_,?_⟩)))) (fun g3=>Ok.s ?_))
    .rw[if_neg (fun hx=>by rw[hw,g3]at hx;have:=of_decide_eq_true (show decide ((dueV pg).1<=l.Now)=true by simpa using hx.1);omega)]
    .rw[if_neg (fun hx=>g5 hx.2.symm)]
    .simp_all
    .omega
    .simp_all
 .simp_all
 .simp_all
theorem Qu4(h:Qe M n l)(hpg:l.Pages.length<=9)(hd:DecL l)(hk:o.Kind=4)(ha:Y0 o.Answer=true):ZI 1000 ⟨l⟩ o=some ((opV l o).2,⟨(opV l o).1⟩):=by
 have hcl:=h.callsLe hpg
 have hap:=(QpG ha).2
 refine Ok.eq ?_
 unfold ZI opV
 rw[if_neg Oa,if_neg Oa,if_neg Oa,if_pos hk]
 refine Ok.oe (Qkf (l:=l) h.w Oa) (Ok.ncnd (fun hh=>Ok.s ?_) (fun hh=>?_))
 .simp_all
 .rw[if_pos hh]
  have hi:=Qba hh
  refine Ok.oe (QqO h.w hpg hi.1) ?_
  have h2:=h.run hi.1
  have hkp:=Yz (l:=l) (i:=posV o.Answer.Page l.Pages)
  obtain⟨i,hie⟩:∃i,posV o.Answer.Page l.Pages=i:=⟨_,rfl⟩
  rw[hie]at hi h2 hkp |-
  have hi2:i<(runI l i).Pages.length:=Oa
  have hcl2:=h2.callsLe Oa
  refine Ok.natn (Ok.lt hi2 (Ok.get hi2 ?_))
  have hpl2:=h2.plens _ (Qi hi2)
  have hde:(nth (runI l i).Pages i).Declined.length<=11:=by
   have:=((hd.run h hi.1) _ (Qi (hie ▸ hi2))).dlen (h2.at hi2).1.declined
   omega
  obtain⟨a,hae⟩:∃a:D.Answer,a=D.Answer.mk o.Answer.ID o.Answer.Page o.Answer.Person o.Answer.Kind o.Answer.Arg (runI l i).Now:=⟨_,rfl⟩
  have hae2:D.Answer.mk o.Answer.ID o.Answer.Page o.Answer.Person o.Answer.Kind o.Answer.Arg l.Now=a:=by rw[hae,hkp.1]
  rw[<-hae]
  refine Ok.oe (Qte h2.book hpl2 hde) ?_
  have hz:=Qd9 (b:=(runI l i).Book) (p:=nth (runI l i).Pages i) (a:=a)
  have hAl:=hpl2.answerV (a:=a) h2.book
  show Ok _ (·=((if (answerV l.Book (nth (runI l i).Pages i) (D.Answer.mk o.Answer.ID o.Answer.Page o.Answer.Person o.Answer.Kind o.Answer.Arg l.Now)).2=0 then(putV (runI l i) i (answerV l.Book (nth (runI l i).Pages i) (D.Answer.mk o.Answer.ID o.Answer.Page o.Answer.Person o.Answer.Kind o.Answer.Arg l.Now)).1,(0:Int))else(runI l i,(answerV l.Book (nth (runI l i).Pages i) (D.Answer.mk o.Answer.ID o.Answer.Page o.Answer.Person o.Answer.Kind o.Answer.Arg l.Now)).2)).2,(D.worker.mk (if (answerV l.Book (nth (runI l i).Pages i) (D.Answer.mk o.Answer.ID o.Answer.Page o.Answer.Person o.Answer.Kind o.Answer.Arg l.Now)).2=0 then(putV (runI l i) i (answerV l.Book (nth (runI l i).Pages i) (D.Answer.mk o.Answer.ID o.Answer.Page o.Answer.Person o.Answer.Kind o.Answer.Arg l.Now)).1,(0:Int))else(runI l i,(answerV l.Book (nth (runI l i).Pages i) (D.Answer.mk o.Answer.ID o.Answer.Page o.Answer.Person o.Answer.Kind o.Answer.Arg l.Now)).2)).1)))
  rw[hae2,<-hkp.2.2.1]
  obtain⟨A,e,hA⟩:∃A e,answerV (runI l i).Book (nth (runI l i).Pages i) a=(A,e):=⟨_,_,rfl⟩
  rw[hA]at hz hAl |-
  try dsimp only at hz hAl |-
  by_cases he:e=0
  .rw[if_pos he]
   have hq:=hz he
   have hext:Ext (nth (runI l i).Pages i) A:=by
    rcases hq with rfl|rfl
    .exact Ext.refl _
    .exact Qgi
   refine Ok.n (fun g=>g he) (Ok.natn (Ok.lt hi2 (Ok.get hi2 (Ok.natn (Ok.lt hi2 (Ok.get hi2 ?_))))))
   exact Ok.oe (QuP hi2 hAl hext Oa) (Ok.s rfl)
  .rw[if_neg he]
   exact Ok.p he (Ok.s rfl)
end
end
/-
  Operations that are valid: what the program computes.
-/
section
attribute [local irreducible] dueV stepV runV QL answerV
section
variable {n:Nat} {c:D.Config} {b:D.Book} {p q:D.Page} {now M:Int} {l x:D.Ledger} {i:Nat} {o:D.Op} {ops:List D.Op}
theorem OpIn.validE(ho:OpIn o):Ur 1000 o=some true:=by
 refine Ok.eq ?_
 unfold Ur
 refine Ok.oe oin (Ok.bt (QW.2 ho.id) (Ok.oe oin (Ok.bt (QW.2 ho.kind) (Ok.oe oin (Ok.bt (QW.2 ho.region) (Ok.oe oin (Ok.bt (QW.2 ho.fence) (Ok.oe oin (Ok.bt (QW.2 ho.at_) (Ok.oe oin (Ok.bt (QW.2 ho.page) (Ok.oe oin (Ok.bt (QW.2 ho.k) ?_)))))))))))))
 exact Ok.ite (fun g=>Ok.s rfl) (fun g=>Ok.oe Qr0 (Ok.bt (ho.answer Oa).1 (Ok.s rfl)))
end
end
/-
  Ledgers without edits: what the program's operations, lists of operations and what waits compute.
-/
section
open Go AM
attribute [local irreducible] dueV stepV runV QL answerV
section
variable {n:Nat} {c:D.Config} {b:D.Book} {p q:D.Page} {now M:Int} {l x:D.Ledger} {i:Nat} {o:D.Op} {ops:List D.Op}
theorem QyT{P:D.Page}{L:List D.Page}(hl:L.length<=64):QA 1000 L (posV P.ID L:Int) [P]=some (insP L P):=by
 have hp:=Qbh (id:=P.ID) (l:=L)
 refine Ok.eq ?_
 unfold QA insP
 by_cases g:posV P.ID L=L.length
 .rw[if_pos Oa]
  unfold Xv
  refine Ok.natn (Ok.lec hp (Ok.NS (Ok.P (Ok.LS (Ok.s ?_)))))
  rw[g,List.take_length,List.drop_length]
 .rw[if_neg Oa]
  exact Ok.natn (Ok.E (Ok.L (Ok.s rfl)))
theorem Qwv(h:Qe M n l)(hpg:l.Pages.length<=8)(ho:OpIn o)(hk:o.Kind=1):ZX 1000 ⟨l⟩ o=some ((opV l o).2,⟨(opV l o).1⟩):=by
 have hnow:=h.now;have htop:=h.top;have hpl:=h.book.plen;have hop:=ho.page
 refine Ok.eq ?_
 unfold ZX opV
 rw[if_pos hk]
 refine Ok.oe (Qkf (l:=l) h.w Oa) (Ok.cnd (fun g=>Ok.s ?_) (fun g=>?_))
 .rw[if_pos g]
 replace g:hasV o.Page l.Pages=false:=g
 rw[if_neg (by rw[g];simp)]
 refine Ok.n (by dsimp only;omega) ?_
 rw[if_neg Oa]
 refine Ok.oe (Qyd h.book) ?_
 unfold newV
 by_cases g1:o.Page<1
 .rw[if_pos g1,if_neg (fun hh=>by have:=QW.1 hh.1;omega)]
  exact Ok.PS (Ok.s rfl)
 rw[if_neg g1,if_pos ⟨QW.2 Oa,QW.2 (by dsimp only;omega)⟩]
 by_cases g2:0<=o.Policy/\o.Policy<(l.Book.Policies.length:Int)
 .rw[if_pos g2,if_pos (QW.2 (by dsimp only;omega))]
  try dsimp only
  refine Ok.NS ?_
  obtain⟨hi1,hi2,hi3⟩:=h.open (o:=o) g Oa g2 Oa
  have hP:(newP o.Page o.Policy l.Now).ID=o.Page:=rfl
  have hins:=QyT (P:=newP o.Page o.Policy l.Now) (L:=l.Pages) h.len
  rw[hP]at hins
  refine Ok.oe hins ?_
  exact Ok.oe (QqO hi1.w (by show(insP l.Pages _).length<=9;rw[Qjk];omega) hi2) (Ok.s rfl)
 .rw[if_neg g2,if_neg (fun hh=>g2 (by have:=QW.1 hh;dsimp only at this;omega))]
  exact Ok.PS (Ok.s rfl)
theorem OkAt.applyN(h:OkAt l o)(hne:o.Kind≠5):Qdc 1000 l o=some ((Q5 l o).1,(Q5 l o).2,true):=by
 obtain⟨M,n,h1,h2,h3⟩:=h.ok
 have hpg:=h.pg;have hsl:=h.len;have ho:=h.op;have hfe:=h1.fence
 refine Ok.eq ?_
 unfold Qdc
 refine Ok.j (Ok.oe h.led.checkE (Ok.t (Ok.oe ho.validE (Ok.t ?_))))
 try dsimp only
 refine Ok.oe h.led.copyE (Ok.oe (QbC Oa) (Ok.cnd (fun g=>Ok.s ?_) (fun g=>?_)))
 .unfold Q5;rw[if_pos g]
 rw[Xw g]
 have hsee:=h1.see ho h3 g hsl
 have hsp:(seeV l o).Pages.length<=8:=hpg
 have hsf:0<=(seeV l o).Fence/\(seeV l o).Fence<=1048576:=by show 0<=l.Fence/\l.Fence<=1048576;omega
 have hsd:DecL (seeV l o):=h.dec
 have hkd:=ho.kind
 have key:∀r:Int×D.worker,r=((opV (seeV l o) o).2,⟨(opV (seeV l o) o).1⟩)->Ok (some (D.Ledger.mk r.2.Ledger.Now (D.Config.mk r.2.Ledger.Config.Zones r.2.Ledger.Config.People r.2.Ledger.Config.Calendars r.2.Ledger.Config.Schedules) (D.Book.mk r.2.Ledger.Book.Teams r.2.Ledger.Book.Policies) r.2.Ledger.Pages r.2.Ledger.Owner r.2.Ledger.Fence r.2.Ledger.Seen r.2.Ledger.Calls,r.1,true)) (·=((opV (seeV l o) o).1,(opV (seeV l o) o).2,true)):=fun r e=>by
  subst e
  obtain⟨L,e,hLe⟩:∃L e,opV (seeV l o) o=(L,e):=⟨_,_,rfl⟩
  rw[hLe]
  exact Ok.s rfl
 refine Ok.N (Ok.LS (Ok.j ?_))
 refine Ok.ite (fun k1=>?_) (fun k1=>Ok.ite (fun k2=>?_) (fun k2=>Ok.ite (fun k3=>?_) (fun k3=>Ok.ite (fun k4=>?_) (fun k4=>?_))))
 .exact Ok.oe (Qwv (l:=seeV l o) hsee hsp ho k1) (key _ rfl)
 .exact Ok.oe (Qyh (l:=seeV l o) hsf k2) (key _ rfl)
 .exact Ok.oe (Qvg (l:=seeV l o) hsee.w Oa ho k3) (key _ rfl)
 .exact Ok.oe (Qu4 (l:=seeV l o) hsee Oa hsd k4 (ho.answer k4).1) (key _ rfl)
 .exact absurd (show o.Kind=5 by omega) hne
theorem Led.waiting{t:Int}(h:Led l):VO 1000 l t=some (QdG l.Pages t):=by
 have hpg:=h.pg
 refine Ok.eq ?_
 unfold VO
 refine Ok.oe h.checkE (Ok.nt rfl ?_)
 refine Ok.run l.Pages.length (fun i=>((t,l.Pages,((l.Pages.length:Nat):Int),(i:Int),()),QdG (l.Pages.take i) t,())) rfl Oa (fun i hi k hk=>?_) (fun k=>?_)
 .try dsimp only
  have hs:=QmB (t:=t) hi
  have hlen:=Qlk (L:=l.Pages.take i) (t:=t)
  rw[List.length_take]at hlen
  try dsimp only at hk
  rw[hs]at hk
  refine Ok.P (Ok.j (Ok.atn hi (Ok.oe Ql7 (Ok.cnd (fun g=>Ok.ite (fun g2=>Ok.LS ?_) (fun g2=>?_)) (fun g=>?_)))))
  .try dsimp only
   rw[Qb Oa]
   rw[if_pos (by unfold Z5;rw[g,decide_eq_true g2];rfl)]at hk;exact hk
  .try dsimp only
   rw[Qb Oa]
   rw[if_neg (by unfold Z5;rw[decide_eq_false g2];simp),List.append_nil]at hk;exact hk
  .try dsimp only
   rw[Qb Oa]
   rw[if_neg (by unfold Z5;rw[g];simp),List.append_nil]at hk;exact hk
 .try dsimp only
  refine Ok.N (Ok.s ?_)
  rw[List.take_length]
theorem Qmq(h:Runs l ops)(hne:∀o∈ops,o.Kind≠5):XK 1000 l ops=some (opsV l ops,QdU l ops):=by
 have hlen:=h.len
 refine Ok.eq ?_
 unfold XK
 have h0:=h.fin 0 (Nat.zero_le _)
 rw[List.take_zero]at h0
 refine Ok.oe (Led.copyE (l:=l) h0) ?_
 refine Ok.run ops.length (fun j=>((ops,((ops.length:Nat):Int),(j:Int),()),opsV l (ops.take j),({ Now:=0,Config:={ Zones:=[],People:=[],Calendars:=[],Schedules:=[] },Book:={ Teams:=[],Policies:=[] },Pages:=[],Owner:=0,Fence:=0,Seen:=[],Calls:=[] }:D.Ledger),QdU l (ops.take j),())) rfl Oa (fun j hj k hk=>?_) (fun k=>?_)
 .try dsimp only
  have ha:=h.at_ j hj
  have hel:=Qow (ops:=ops.take j) (l:=l)
  rw[List.length_take]at hel
  try dsimp only at hk
  rw[Qsk hj]at hk
  rw[QuC hj]at hk
  refine Ok.P (Ok.atn hj (Ok.oe (ha.applyN (hne _ (Qi hj))) ?_))
  refine Ok.LS ?_
  try dsimp only
  rw[Qb Oa]
  exact hk
 .try dsimp only
  rw[List.take_length]
  exact Ok.N (Ok.s rfl)
end
end
/-
  The program's takeovers and proposed starts, without its calls and contacts.
-/
section
attribute [local irreducible] dueV stepV runV QL answerV opV Q5 opsV QdU
section
variable {n:Nat} {M:Int} {l x:D.Ledger} {o:D.Op} {i k:Nat} {t r id now f:Int}
theorem owin{fu:Nat}{x lo hi:Int}:Qfu fu x lo hi=some (inV x lo hi):=by
 unfold Qfu inV
 by_cases h1:lo<=x<;>by_cases h2:x<=hi<;>simp[cd,AM.cnd,h1,h2]
structure OwnE (l:D.Ledger):Prop where
 r:OwnR l
 chkE:Xm 1000 l=some true
 waitE:∀t,VO 1000 l t=some (QdG l.Pages t)
 findE:∀p∈l.Pages,Qcs 1000 l p.ID=some (Qck l p.ID)
theorem Led.ownE(h:Led l):OwnE l:=by
 obtain⟨M,n,h1,h2⟩:=h.ok
 exact⟨h.ownR,h.checkE,fun t=>h.waiting,fun p hp=>QvC h1 (by have:=(h1.page p hp).1.id;omega)⟩
theorem QrL(h:OwnE l):Qbb 1000 l r id now=some (if QiC r id now=true then 0 else 1):=by
 refine Ok.eq ?_
 unfold Qbb QiC
 refine Ok.oe h.chkE (Ok.nt rfl (Ok.j (Ok.oe owin (Ok.cnd (fun g1=>Ok.oe owin (Ok.cnd (fun g2=>Ok.oe owin (Ok.cnd (fun g3=>Ok.s ?_) (fun g3=>Ok.s ?_))) (fun g2=>Ok.s ?_))) (fun g1=>Ok.s ?_)))))
 all_goals simp[*]
theorem QtK(h:OwnE l):Uu 1000 l r id now=some (Qog l r id now):=by
 have hf:=h.r.fence
 refine Ok.eq ?_
 unfold Uu Qog
 refine Ok.oe (QrL h) ?_
 by_cases g:QiC r id now=true
 .rw[if_pos g,if_pos g]
  refine Ok.NS (Ok.ite (fun g2=>Ok.s ?_) (fun g2=>Ok.s ?_))
  .rw[if_pos g2];rfl
  .rw[if_neg g2,Qc (x:=l.Fence+1) Oa];rfl
 .rw[if_neg g,if_neg g];exact Ok.PS (Ok.s rfl)
theorem Qio(h:OwnE l):U2 1000 l r id now=some (QkJ l r id now):=by
 have hpg:=h.r.pg
 have hwl:=QpI (l:=l) (t:=now);have hwe:=QwX (l:=l) (t:=now)
 refine Ok.eq ?_
 unfold U2 QkJ
 refine Ok.j (Ok.oe (QrL h) ?_)
 by_cases g:QiC r id now=true
 .obtain⟨c1,c2,c3⟩:=QjZ.1 g
  rw[if_pos g]
  refine Ok.NS (Ok.ite (fun g2=>Ok.s (by rw[if_neg (fun h=>g2 h.2.1)])) (fun g2=>?_))
  have g2:r=l.Owner:=Decidable.not_not.1 g2
  rw[Qc (x:=id+(l.Pages.length:Int)) Oa]
  refine Ok.ite (fun g3=>Ok.s (by rw[if_neg (fun h=>Oa)])) (fun g3=>?_)
  rw[if_pos ⟨g,g2,Oa⟩]
  try dsimp only
  refine Ok.oe (h.waitE now) ?_
  refine Ok.run (UG l now).length (fun k=>((r,id,now,QdG l.Pages now,(((QdG l.Pages now).length:Nat):Int),(k:Int),()),l,(Qbp l id now).take k,())) rfl Oa (fun k hk K hK=>?_) (fun K=>?_)
  .try dsimp only
   have hl:((Qbp l id now).take k).length<=9:=by rw[List.length_take,QgR];omega
   try dsimp only at hK
   rw[QpC hk]at hK
   refine Ok.P (Ok.A ?_)
   rw[Qvt hk]
   refine Ok.oe (h.findE _ (QsD hk)) ?_
   rw[Qt5 h.r hk]
   refine Ok.j ?_
   have hw:IntKind.wrap .i64 (id+(k:Int))=id+k:=Qc Oa
   refine Ok.ite (fun g4=>Ok.LS ?_) (fun g4=>Ok.LS ?_)
   .try dsimp only at g4 |-
    rw[hw,Qb Oa]
    have e:QbZ l id now k=D.Op.mk (id+k) 3 r l.Fence now (Uj l now k).ID (-1) 0 0 (D.Answer.mk 0 0 0 0 0 0) (D.Edit.mk 0 0 0 0 0):=by unfold QbZ Qhl;rw[if_pos g4,g2];rfl
    rw[<-e];exact hK
   .try dsimp only at g4 |-
    rw[hw,Qb Oa]
    have e:QbZ l id now k=D.Op.mk (id+k) 3 r l.Fence now (Uj l now k).ID (Uj l now k).Next 0 0 (D.Answer.mk 0 0 0 0 0 0) (D.Edit.mk 0 0 0 0 0):=by unfold QbZ Qhl;rw[if_neg g4,g2];rfl
    rw[<-e];exact hK
  .try dsimp only
   exact Ok.N (Ok.s (List.take_of_length_le (by rw[QgR];omega)))
 .rw[if_neg g];exact Ok.PS (Ok.s (by rw[if_neg (fun h=>g h.1)]))
end
end
/-
  The program's paging over clusters that its checks accept: checks, copies, proposals, operations that are submitted.
-/
section
open Go AM
theorem Qmp{l:D.Ledger}(h:Led l):XK 1000 l []=some (l,[]):=
 Qmq (l:=l) (ops:=[]) ⟨fun j hj=>absurd hj Ob,fun j _=>by rw[List.take_nil];exact h,Ob⟩ Ob
attribute [local irreducible] dueV stepV runV QL answerV opV Q5 opsV QdU
section
variable {n i fu:Nat} {r:D.Replica} {c:D.Cluster} {P:D.Op->Prop} {o:D.Op} {p:D.Paging} {k x lo hi:Int} {l:D.Ledger}
theorem vin:UF fu x lo hi=some (inV x lo hi):=by
 unfold UF inV
 by_cases h1:lo<=x<;>by_cases h2:x<=hi<;>simp[cd,AM.cnd,h1,h2]
theorem gin:V4 fu x lo hi=some (inV x lo hi):=vin (fu:=fu)
theorem pin:Qcu fu x lo hi=some (inV x lo hi):=vin (fu:=fu)
theorem inn(h1:lo<=x)(h2:x<=hi):inV x lo hi=true:=QW.2 ⟨h1,h2⟩
structure Shp (n:Nat) (r:D.Replica):Prop where
 term:r.Term<=1048576
 voted : -1<=r.Voted/\r.Voted<n
 role:(r.Role=0/\r.Votes=[]/\r.Match=[])\/(r.Role=1/\r.Votes.length=n/\nth r.Votes r.ID.toNat=true/\r.Match=[])\/
  (r.Role=2/\r.Votes.length=n/\nth r.Votes r.ID.toNat=true/\r.Match.length=n/\nth r.Match r.ID.toNat=r.Log.length/\∀j,j<n->0<=nth r.Match j/\nth r.Match j<=r.Log.length)
theorem Qq1(hn:1<=n/\n<=5)(h:Shp n r)(hid:0<=r.ID/\r.ID<n)(hl:r.Log.length<=256)(hc:0<=r.Commit/\r.Commit<=r.Log.length)(ht:0<=r.Term)(hf:∀k,k<r.Log.length->(if k=0 then 1 else(nth r.Log (k - 1)).Term)<=(nth r.Log k).Term/\(nth r.Log k).Term<=r.Term):WS 1000 n r=some true:=by
 have hterm:=h.term;have hv:=h.voted
 have logged:QdF 1000 r=some true:=by
  refine Ok.eq ?_
  unfold QdF
  refine Ok.run r.Log.length (fun i=>(((if i=0 then 1 else(nth r.Log (i - 1)).Term),r.Log,(r.Log.length:Int),(i:Int),()),r,())) rfl Oa (fun i hi K hK=>?_) fun K=>?_
  .obtain⟨f1,f2⟩:=hf i hi
   dsimp only at hK |-
   refine Ok.P (Ok.atn hi (Ok.oe vin (Ok.nt (inn (by show _<=(nth r.Log i).Term;omega) (by show(nth r.Log i).Term<=_;omega)) ?_)))
   rw[Qb Oa]
   rw[if_neg Oa]at hK
   exact hK
  .exact Ok.n (by show ¬(r.Log.length:Int)<(r.Log.length:Int);omega) (Ok.P (Ok.oe vin (Ok.bt (inn Oa Oa) (Ok.s rfl))))
 refine Ok.eq ?_
 unfold WS
 refine Ok.j (Ok.oe vin (Ok.bt (inn Oa Oa) ?_))
 rw[Qc (x:=(n:Int) - 1) Oa]
 refine Ok.oe vin (Ok.bt (inn Oa Oa) (Ok.oe vin (Ok.bt (inn Oa Oa) (Ok.oe vin (Ok.bt (inn Oa Oa) (Ok.oe logged (Ok.t ?_)))))))
 dsimp only
 have vs:r.Votes.length=n->nth r.Votes r.ID.toNat=true->QcV 1000 n r=some true:=fun e1 e2=>by
  refine Ok.eq ?_
  unfold QcV
  exact Ok.P (Ok.at Oa Oa (Ok.bt e2 (Ok.s rfl)))
 rcases h.role with e|e|e
 .exact Ok.p e.1 (Ok.p (by rw[e.2.1];rfl) (Ok.p (by rw[e.2.2];rfl) (Ok.s rfl)))
 .exact Ok.N (Ok.p e.1 (Ok.oe (vs e.2.1 e.2.2.1) (Ok.t (Ok.p (by rw[e.2.2.2];rfl) (Ok.s rfl)))))
 .obtain⟨e1,e2,e3,e4,e5,e6⟩:=e
  refine Ok.N (Ok.N (Ok.p e1 (Ok.oe (vs e2 e3) (Ok.t (Ok.oe (v:=true) ?_ (Ok.t (Ok.s rfl)))))))
  refine Ok.eq ?_
  unfold Qfc
  refine Ok.P (Ok.at Oa Oa (Ok.P (Ok.oe (v:=false) ?_ (Ok.f (Ok.s rfl)))))
  refine Ok.eq ?_
  unfold Zh
  refine Ok.oe (v:=-1) ?_ (Ok.sameC (Ok.s Ob))
  refine Ok.eq ?_
  unfold ZA
  refine Ok.run n (fun i=>((r.Match,(r.Match.length:Int),(i:Int),()),r,())) rfl Oa (fun i hi K hK=>?_) fun K=>Ok.n (by show ¬(n:Int)<(r.Match.length:Int);omega) (Ok.sameC (Ok.s rfl))
  have:=e6 i hi
  dsimp only at hK |-
  refine Ok.P (Ok.A (Ok.oe (v:=false) ?_ (Ok.f ?_)))
  .refine Ok.eq ?_
   unfold Qcc
   exact Ok.oe vin (Ok.sameC (Ok.s (by rw[inn this.1 this.2];rfl)))
  .rw[Qb Oa]
   exact hK
theorem QuY(hn:1<=n/\n<=5)(hlen:c.Replicas.length=n)(hd:c.Down.length=n)(hw:c.Wire=[])(hcut:c.Cut=[])(h:∀i,i<n->(nth c.Replicas i).ID=i/\WS 1000 n (nth c.Replicas i)=some true):XM 1000 c=some true:=by
 refine Ok.eq ?_
 unfold XM
 rw[hlen]
 refine Ok.j (Ok.oe gin (Ok.bt (inn Oa Oa) (Ok.N (Ok.n (by rw[hw];simp) ?_))))
 dsimp only
 rw[hlen]
 refine Ok.run n (fun i=>(((n:Int),c.Replicas,(n:Int),(i:Int),()),c,())) rfl Oa (fun i hi K hK=>?_) fun K=>?_
 .dsimp only at hK |-
  refine Ok.P (Ok.j (Ok.A (Ok.n (by have:=(h i hi).1;omega) (Ok.oe (h i hi).2 (Ok.t ?_)))))
  dsimp only
  rw[Qb Oa]
  exact hK
 refine Ok.n (by show ¬(n:Int)<(n:Int);omega) ?_
 dsimp only
 rw[hw]
 refine Ok.run 0 (fun _=>_) rfl Oa (fun i hi=>absurd hi Oa) fun K=>Ok.NS ?_
 dsimp only
 rw[hcut]
 exact Ok.run 0 (fun _=>_) rfl Oa (fun i hi=>absurd hi Oa) fun K=>Ok.NS (Ok.s rfl)
structure CX (n:Nat) (P:D.Op->Prop) (c:D.Cluster):Prop where
 sz:1<=n/\n<=5
 len:c.Replicas.length=n
 dn:c.Down.length=n
 ck:XM 1000 c=some true
 cp:V3 1000 c=some c
 rep:∀i,i<n->(nth c.Replicas i).ID=i/\WS 1000 n (nth c.Replicas i)=some true/\UE 1000 (nth c.Replicas i)=some (nth c.Replicas i)/\(nth c.Replicas i).Log.length<=256/\((nth c.Replicas i).Role=2->(nth c.Replicas i).Match.length=n)
 ops:∀i,i<n->∀e∈(nth c.Replicas i).Log,P e.Op
theorem Qt6{L:List D.Entry}(hl:L.length<=900)(h:∀e∈L,e.Op.ID≠o.ID):QD 1000 L o=some false:=by
 refine Ok.eq ?_
 unfold QD
 refine Ok.oe (v:=-1) ?_ (Ok.sameC (Ok.s Ob))
 refine Ok.eq ?_
 unfold Zb
 refine Ok.run L.length (fun i=>((L,(L.length:Int),(i:Int),()),o,())) rfl Oa (fun i hi K hK=>?_) fun K=>Ok.n (by show ¬(L.length:Int)<(L.length:Int);omega) (Ok.sameC (Ok.s rfl))
 dsimp only at hK |-
 refine Ok.P (Ok.atn hi (Ok.oe (v:=false) ?_ (Ok.f ?_)))
 .refine Ok.eq ?_
  unfold UA
  exact Ok.sameC (Ok.s (by simp[h _ (Qi hi)]))
 .rw[Qb Oa]
  exact hK
theorem Qyo(hn:1<=n/\n<=5):QdE 1000 n=some ((n / 2+1:Nat):Int):=by
 refine Ok.eq ?_
 unfold QdE
 have e:Int.tdiv (n:Int) 2=((n / 2:Nat):Int):=by rw[Int.tdiv_eq_ediv_of_nonneg Oa];omega
 rw[e,Qc (x:=((n / 2:Nat):Int)) Oa,Qc (x:=((n / 2:Nat):Int)+1) Oa]
 exact Ok.oe vin (Ok.nt (inn Oa Oa) (Ok.Z (Ok.s Oa)))
theorem Qzj(h:CX n P c)(hi:i<n)(hd:nth c.Down i=false):QhE 1000 c (i:Int)=some 0:=by
 have hlen:=h.len;have hn:=h.sz;have hdn:=h.dn
 have ck:QbT 1000 c (i:Int) (n:Int)=some 0:=by
  refine Ok.eq ?_
  unfold QbT
  refine Ok.oe h.ck (Ok.nt rfl (Ok.oe gin ?_))
  rw[Qc (x:=(n:Int) - 1) Oa]
  exact Ok.nt (inn Oa Oa) (Ok.s rfl)
 refine Ok.eq ?_
 unfold QhE
 rw[hlen]
 exact Ok.oe ck (Ok.NS (Ok.A (Ok.bf hd (Ok.s rfl))))
def QuN(r:D.Replica)(o:D.Op):D.Replica:={ r with Log:=r.Log++[D.Entry.mk r.Term o],Match:=r.Match.set r.ID.toNat ((r.Log++[D.Entry.mk r.Term o]).length:Int) }
theorem Qqr(h:CX n P c)(hn1:n≠1)(hi:i<n)(hd:nth c.Down i=false)(hr:(nth c.Replicas i).Role=2)(hf:∀e∈(nth c.Replicas i).Log,e.Op.ID≠o.ID)(hl:(nth c.Replicas i).Log.length<256):
  UR 1000 c (i:Int) o=some ({ c with Replicas:=c.Replicas.set i (QuN (nth c.Replicas i) o) },0):=by
 have hlen:=h.len;have hn:=h.sz
 obtain⟨hid,ck,cp,_,hm⟩:=h.rep i hi
 have hm:=hm hr
 have rp:V5 1000 n (nth c.Replicas i) o=some (QuN (nth c.Replicas i) o,0):=by
  have fr:=Qt6 Oa hf
  generalize nth c.Replicas i=r at *
  refine Ok.eq ?_
  unfold V5
  refine Ok.oe ck (Ok.nt rfl (Ok.N (Ok.oe fr (Ok.f (Ok.N (Ok.oe cp (Ok.LS ?_)))))))
  have hp:QuN r o=D.Replica.mk (i:Int) r.Term r.Voted r.Role (r.Log++[D.Entry.mk r.Term o]) r.Commit r.Votes (r.Match.set i ((r.Log++[D.Entry.mk r.Term o]).length:Int)):=by unfold QuN;rw[hid];rfl
  rw[hp,hid]
  exact Ok.natn (Ok.E (Ok.G (Ok.j (Ok.oe (Qyo hn) (Ok.N (Ok.s rfl))))))
 refine Ok.eq ?_
 unfold UR
 refine Ok.oe (Qzj h hi hd) (Ok.NS (Ok.oe h.cp (Ok.natn (Ok.E (Ok.G ?_)))))
 rw[hlen]
 exact Ok.oe rp (Ok.NS (Ok.natn (Ok.E (Ok.G (Ok.s rfl)))))
theorem Qwz(hl:Led p.Base)(hser:1<=p.Serial/\p.Serial<=1000)(h:CX n P p.Cluster)(hP:∀o,P o->OpIn o/\o.ID<p.Serial):Y7 1000 p=some true:=by
 have hlen:=h.len;have hn:=h.sz
 refine Ok.eq ?_
 unfold Y7
 refine Ok.j (Ok.oe hl.checkE (Ok.t (Ok.oe h.ck (Ok.t (Ok.oe pin (Ok.bt (inn Oa Oa) ?_))))))
 dsimp only
 rw[hlen]
 refine Ok.run n (fun i=>((p.Cluster.Replicas,(n:Int),(i:Int),()),p,())) rfl Oa (fun i hi K hK=>?_) fun K=>Ok.n (by show ¬(n:Int)<(n:Int);omega) (Ok.s rfl)
 dsimp only at hK |-
 refine Ok.P (Ok.A ?_)
 have hsh:=(h.rep i hi).2.2.2.1
 have hlog:=h.ops i hi
 obtain⟨C,hC⟩:∃C,C=(nth p.Cluster.Replicas i).Log:=⟨_,rfl⟩
 rw[<-hC]at hsh hlog |-
 refine Ok.run C.length (fun k=>((p.Cluster.Replicas,(n:Int),(i:Int),C,(C.length:Int),(k:Int),()),p,())) rfl Oa (fun k hk K2 hK2=>?_) fun K2=>Ok.n (by show ¬(C.length:Int)<(C.length:Int);omega) ?_
 .dsimp only at hK2 |-
  have hq:=hP _ (hlog _ (Qi hk))
  refine Ok.P (Ok.j (Ok.atn hk (Ok.oe hq.1.validE (Ok.t (Ok.n (by have:=hq.2;omega) ?_)))))
  dsimp only
  rw[Qb Oa]
  exact hK2
 .dsimp only
  rw[Qb Oa]
  exact hK
theorem Qsg(h:CX n P c):QaQ 1000 c=some c:=by
 refine Ok.eq ?_
 unfold QaQ
 exact Ok.oe h.cp (Ok.s rfl)
theorem Qlb(h:CX n P p.Cluster)(hl:Led p.Base):Qbd 1000 p k=some (D.site.mk p k 0):=by
 refine Ok.eq ?_
 unfold Qbd
 exact Ok.oe (Qmp hl) (Ok.oe (Qsg h) (Ok.s rfl))
def numV(p:D.Paging)(o:D.Op):D.Op:={ o with ID:=p.Serial }
def subV(p:D.Paging)(i:Nat)(o:D.Op):D.Paging:=D.Paging.mk p.Base { p.Cluster with Replicas:=p.Cluster.Replicas.set i (QuN (nth p.Cluster.Replicas i) (numV p o)) } (p.Serial+1)
structure Lead (n i:Nat) (p:D.Paging):Prop where
 n1:n≠1
 lt:i<n
 up:nth p.Cluster.Down i=false
 role:(nth p.Cluster.Replicas i).Role=2
 fresh:∀e∈(nth p.Cluster.Replicas i).Log,e.Op.ID≠p.Serial
 room:(nth p.Cluster.Replicas i).Log.length<256
theorem Qmx(h:CX n P p.Cluster)(hs:1<=p.Serial/\p.Serial<=1000)(ho:OpIn (numV p o))(hL:Lead n i p)(hk:0<=k/\k<=100):
  Y8 1000 (D.site.mk p (i:Int) k) o=some (0,D.site.mk (subV p i o) (i:Int) (k+1)):=by
 refine Ok.eq ?_
 unfold Y8
 refine Ok.oe (v:=true) ho.validE (Ok.nt rfl (Ok.n (by show ¬p.Serial=_;omega) (Ok.oe (Qqr (o:=numV p o) h hL.n1 hL.lt hL.up hL.role hL.fresh hL.room) (Ok.NS (Ok.s ?_)))))
 dsimp only
 rw[Qc (x:=p.Serial+1) Oa,Qc (x:=k+1) Oa]
 rfl
structure PX (n:Nat) (p:D.Paging):Prop where
 base:Led p.Base
 ser:1<=p.Serial/\p.Serial<=1000
 cx:CX n (fun o=>OpIn o/\o.ID<p.Serial) p.Cluster
theorem PX.ck(h:PX n p):Y7 1000 p=some true:=Qwz h.base h.ser h.cx fun _=>id
theorem QsZ(h:PX n p)(ho:OpIn (numV p o))(hL:Lead n i p):VT 1000 p (i:Int) o=some (subV p i o,p.Serial,0):=by
 have hs:=h.ser
 refine Ok.eq ?_
 unfold VT
 refine Ok.oe h.ck (Ok.nt rfl (Ok.oe (Qlb h.cx h.base) (Ok.oe (Qmx h.cx hs ho hL Oa) (Ok.NS (Ok.s ?_)))))
 show(subV p i o,IntKind.wrap .i64 (p.Serial+1 - 1),0)=_
 rw[Qc Oa,Int.add_sub_cancel]
end
end
/-
  The program's paging: views, what a leader wants, driving, what is accepted; the systems of PagingSurvives.
-/
section
section
variable {l:D.Ledger} {a b c:D.Op}
theorem runs0(h:Led l):Runs l []:=⟨fun j hj=>absurd hj Ob,fun j _=>by rw[List.take_nil];exact h,Ob⟩
theorem runs2(h0:OkAt l a)(h1:OkAt (Q5 l a).1 b)(h2:Led (Q5 (Q5 l a).1 b).1):Runs l [a,b]:=by
 refine⟨fun j hj=>?_,fun j hj=>?_,Ob⟩
 .rcases(show j=0\/j=1 by simp at hj;omega)with rfl|rfl
  .exact h0
  .exact h1
 .rcases(show j=0\/j=1\/j=2 by simp at hj;omega)with rfl|rfl|rfl
  .exact h0.led
  .exact h1.led
  .exact h2
theorem runs3(h0:OkAt l a)(h1:OkAt (Q5 l a).1 b)(h2:OkAt (Q5 (Q5 l a).1 b).1 c)(h3:Led (Q5 (Q5 (Q5 l a).1 b).1 c).1):Runs l [a,b,c]:=by
 refine⟨fun j hj=>?_,fun j hj=>?_,Ob⟩
 .rcases(show j=0\/j=1\/j=2 by simp at hj;omega)with rfl|rfl|rfl
  .exact h0
  .exact h1
  .exact h2
 .rcases(show j=0\/j=1\/j=2\/j=3 by simp at hj;omega)with rfl|rfl|rfl|rfl
  .exact h0.led
  .exact h1.led
  .exact h2.led
  .exact h3
end
attribute [local irreducible] dueV stepV runV QL answerV opV Q5 opsV QdU
section
variable {n i k:Nat} {p q:D.Paging} {o:D.Op} {ops L:List D.Op} {rest:List D.Entry} {v l:D.Ledger} {now x t pol:Int} {P:D.Op->Prop} {s:D.site} {cf:D.Config} {bk:D.Book} {pg:D.Page}
theorem QnR(hi:i<p.Cluster.Replicas.length)(hc:XC 1000 (nth p.Cluster.Replicas i)=some ops)(hr:Runs p.Base ops)(hne:∀o∈ops,o.Kind≠5):YQ 1000 p (i:Int)=some (opsV p.Base ops):=by
 refine Ok.eq ?_
 unfold YQ
 exact Ok.atn hi (Ok.oe hc (Ok.oe (Qmq hr hne) (Ok.s rfl)))
theorem QuG(hi:i<p.Cluster.Replicas.length)(hk:(nth p.Cluster.Replicas i).Commit=(k:Int))(hl:k<=(nth p.Cluster.Replicas i).Log.length):XU 1000 (D.site.mk p (i:Int) x)=some ((nth p.Cluster.Replicas i).Log.drop k):=by
 refine Ok.eq ?_
 unfold XU
 refine Ok.atn hi ?_
 rw[hk]
 exact Ok.natn (Ok.lec hl (Ok.sameC (Ok.s rfl)))
theorem Qsz(hl:rest.length<=900)(h:∀e∈rest,e.Op.Kind≠2):Qq 1000 rest s t=some false:=by
 refine Ok.eq ?_
 unfold Qq
 refine Ok.oe (v:=-1) ?_ (Ok.sameC (Ok.sameC (Ok.s Ob)))
 refine Ok.eq ?_
 unfold Q4
 refine Ok.run rest.length (fun i=>((rest,(rest.length:Int),(i:Int),()),(),s,(t,()),())) rfl Oa (fun i hi K hK=>?_) fun K=>Ok.n (by show ¬(rest.length:Int)<(rest.length:Int);omega) (Ok.sameC (Ok.sameC (Ok.s rfl)))
 dsimp only at hK |-
 refine Ok.P (Ok.atn hi (Ok.oe (v:=false) ?_ (Ok.f ?_)))
 .refine Ok.eq ?_
  unfold WY
  exact Ok.n (h _ (Qi hi)) (Ok.sameC (Ok.sameC (Ok.s rfl)))
 .rw[Qb Oa];exact hK
theorem QpM(hi:i<p.Cluster.Replicas.length)(hv:YQ 1000 p (i:Int)=some v)(hk:(nth p.Cluster.Replicas i).Commit=((0:Nat):Int))(hl:(nth p.Cluster.Replicas i).Log.length<=900)(hne:v.Owner≠(i:Int))(hno:∀e∈(nth p.Cluster.Replicas i).Log,e.Op.Kind≠2)(hc:Uu 1000 v (i:Int) p.Serial now=some (o,0)):ZY 1000 (D.site.mk p (i:Int) 0) now=some ([o],0):=by
 have hp:=QuG (x:=0) hi hk (Nat.zero_le _)
 rw[List.drop_zero]at hp
 refine Ok.eq ?_
 unfold ZY
 exact Ok.oe hv (Ok.atn hi (Ok.oe hp (Ok.j (Ok.p hne (Ok.oe (Qsz hl hno) (Ok.f (Ok.oe hc (Ok.sameC (Ok.s rfl)))))))))
theorem Qwe:Yy 1000 o []=some (false,[]):=by
 refine Ok.eq ?_
 unfold Yy
 refine Ok.oe (v:=false) ?_ (Ok.s rfl)
 refine Ok.eq ?_
 unfold QP
 refine Ok.oe (v:=-1) ?_ (Ok.sameC (Ok.s Ob))
 refine Ok.eq ?_
 unfold QY
 exact Ok.run 0 (fun _=>_) rfl Oa (fun i hi=>absurd hi Oa) fun K=>Ok.NS (Ok.sameC (Ok.s rfl))
theorem Qx4(hl:L.length<=900):QE 1000 L []=some (0,L.length,[],L):=by
 refine Ok.eq ?_
 unfold QE
 refine Ok.oe (v:=(-1,[])) ?_ (Ok.p rfl (Ok.s rfl))
 refine Ok.eq ?_
 unfold Q8
 refine Ok.run L.length (fun i=>(((L.length:Int),(i:Int),()),([],()),L,())) rfl Oa (fun i hi K hK=>?_) fun K=>Ok.n (by show ¬(L.length:Int)<(L.length:Int);omega) ?_
 .dsimp only at hK |-
  refine Ok.P (Ok.natn (Ok.lt hi (Ok.get hi (Ok.oe Qwe (Ok.f ?_)))))
  rw[Qb Oa];exact hK
 .exact Ok.sameC (Ok.s rfl)
theorem QdH(hi:i<p.Cluster.Replicas.length)(hv:YQ 1000 p (i:Int)=some v)(hk:(nth p.Cluster.Replicas i).Commit=(((nth p.Cluster.Replicas i).Log.length:Nat):Int))(ho:v.Owner=(i:Int))(hs:U2 1000 v (i:Int) p.Serial now=some L)(hl:L.length<=900):ZY 1000 (D.site.mk p (i:Int) 0) now=some (L,0):=by
 have hp:=QuG (x:=0) hi hk (Nat.le_refl _)
 rw[List.drop_length]at hp
 refine Ok.eq ?_
 unfold ZY
 refine Ok.oe hv (Ok.atn hi (Ok.oe hp (Ok.j (Ok.n (fun g=>g ho) (Ok.NS (Ok.oe hs (Ok.oe (Qx4 hl) (Ok.sameC (Ok.s ?_)))))))))
 rw[List.take_length,List.drop_zero]
theorem Qg3(h:PX n p)(hL:Lead n i p)(hn:0<=now/\now<=900000)(hl:ops.length<=1)(hw:ZY 1000 (D.site.mk p (i:Int) 0) now=some (ops,0))(ho:∀o∈ops,OpIn (numV p o)):
  ∃k,U3 1000 p (i:Int) now=some (ops.foldl (fun p o=>subV p i o) p,k,0):=by
 have hlen:=h.cx.len;have hdn:=h.cx.dn;have hsz:=h.cx.sz;have hlt:=hL.lt;have hs:=h.ser
 refine⟨(ops.length:Int),Ok.eq ?_⟩
 unfold U3
 refine Ok.oe h.ck (Ok.nt rfl (Ok.oe pin (Ok.nt (inn Oa (by rw[hlen,Qc Oa];omega)) (Ok.A (Ok.bf hL.up (Ok.A (Ok.n (fun g=>g hL.role) (Ok.oe pin (Ok.nt (inn Oa Oa) (Ok.oe (Qlb h.cx h.base) (Ok.oe hw (Ok.j ?_))))))))))))
 rcases ops with _|⟨o,_|⟨o2,r⟩⟩
 .exact Ok.run 0 (fun _=>_) rfl Oa (fun i hi=>absurd hi Oa) fun K=>by dsimp only;exact Ok.j (Ok.NS (Ok.NS (Ok.s rfl)))
 .refine Ok.run 1 (fun j=>(([o],0,(j:Int),()),_,(if j=0 then D.site.mk p (i:Int) 0 else D.site.mk (subV p i o) (i:Int) (0+1)),())) rfl Oa (fun j hj K hK=>?_) fun K=>by dsimp only;exact Ok.j (Ok.NS (Ok.NS (Ok.s rfl)))
  obtain rfl:j=0:=Oa
  dsimp only at hK |-
  exact Ok.j (Ok.PS (Ok.p rfl (Ok.atn Ob (Ok.oe (Qmx h.cx hs (ho _ (by simp[nth])) hL Oa) hK))))
 .simp at hl
theorem QpV(h:PX n p)(ha:YD 1000 p.Cluster=some (o::ops))(hl:ops.length<=900)(hid:o.ID=x):YP 1000 p x=some true:=by
 refine Ok.eq ?_
 unfold YP
 refine Ok.oe h.ck (Ok.t (Ok.oe ha (Ok.oe (v:=true) ?_ (Ok.t (Ok.s rfl)))))
 refine Ok.eq ?_
 unfold Za
 refine Ok.oe (v:=0) ?_ (Ok.sameC (Ok.s rfl))
 refine Ok.eq ?_
 unfold Zo
 refine Ok.run 0 (fun _=>_) rfl Oa (fun i hi=>absurd hi Oa) fun K=>Ok.PS (Ok.atn (i:=0) Ob (Ok.oe (v:=true) ?_ (Ok.t (Ok.sameC (Ok.s rfl)))))
 refine Ok.eq ?_
 unfold Uv
 exact Ok.sameC (Ok.s (decide_eq_true hid))
theorem Qq6(h:PX n p)(hi:i<n)(hv:YQ 1000 p (i:Int)=some v):Qbc 1000 p (i:Int)=some (v,0):=by
 have hlen:=h.cx.len;have hsz:=h.cx.sz
 refine Ok.eq ?_
 unfold Qbc
 exact Ok.oe h.ck (Ok.nt rfl (Ok.oe pin (Ok.nt (inn Oa (by rw[hlen,Qc Oa];omega)) (Ok.oe hv (Ok.s rfl)))))
theorem Qwo(h:Led l)(hs:l.Seen=[]):Qct 1000 l 3=some (D.Paging.mk l kl0 1,0):=by
 refine Ok.eq ?_
 unfold Qct
 refine Ok.oe h.checkE (Ok.nt rfl (Ok.oe Qy1 (Ok.NS (Ok.oe (Qmp h) ?_))))
 rw[hs]
 exact Ok.lec Ob (Ok.oe (v:=0) (by kernel_rfl) (Ok.s rfl))
theorem QxK(h:PX n p)(hc:U7 1000 p.Cluster=some true):QhC 1000 p=some true:=by
 have hlen:=h.cx.len;have hn:=h.cx.sz;have hs:=h.ser
 refine Ok.eq ?_
 unfold QhC
 refine Ok.j (Ok.oe h.base.check (Ok.t (Ok.oe hc (Ok.t (Ok.oe rin (Ok.bt (QW.2 Oa) ?_))))))
 dsimp only
 refine Ok.run n (fun i=>(((i:Int),()),p,())) rfl Oa (fun i hi K hK=>?_) fun K=>Ok.n (by dsimp only;rw[hlen];omega) (Ok.s rfl)
 dsimp only at hK |-
 have hsh:=(h.cx.rep i hi).2.2.2.1
 have hlog:=h.cx.ops i hi
 obtain⟨C,hC⟩:∃C,C=(nth p.Cluster.Replicas i).Log:=⟨_,rfl⟩
 rw[<-hC]at hsh hlog
 refine Ok.p (by rw[hlen];omega) (Ok.A ?_)
 rw[<-hC]
 refine Ok.run C.length (fun k=>(((i:Int),C,(k:Int),()),p,())) rfl Oa (fun k hk K2 hK2=>?_) fun K2=>Ok.n (by show ¬(C.length:Int)<(C.length:Int);omega) ?_
 .dsimp only at hK2 |-
  have hq:=hlog _ (Qi hk)
  refine Ok.P (Ok.j (Ok.atn hk (Ok.oe hq.1.valid (Ok.t (Ok.atn hk (Ok.n (by have:=hq.2;omega) ?_))))))
  dsimp only
  rw[Qb Oa]
  exact hK2
 .dsimp only
  rw[Qb Oa]
  exact hK
structure RX (P:D.Op->Prop) (i:Nat) (r:D.Replica):Prop where
 id:r.ID=i
 ck:WS 1000 3 r=some true
 cp:UE 1000 r=some r
 short:r.Log.length<=256
 mat:r.Role=2->r.Match.length=3
 ops:∀e∈r.Log,P e.Op
theorem CX.of3{x y z:D.Replica}{d:Bool}(cp:V3 1000 (Cl3 x y z d)=some (Cl3 x y z d))(hx:RX P 0 x)(hy:RX P 1 y)(hz:RX P 2 z):CX 3 P (Cl3 x y z d):=by
 have all:∀i,i<3->RX P i (nth (Cl3 x y z d).Replicas i):=fun i hi=>by
  rcases(show i=0\/i=1\/i=2 by omega)with rfl|rfl|rfl
  .exact hx
  .exact hy
  .exact hz
 exact⟨Oa,rfl,rfl,QuY (n:=3) Oa rfl rfl rfl rfl fun i hi=>⟨(all i hi).id,(all i hi).ck⟩,cp,fun i hi=>⟨(all i hi).id,(all i hi).ck,(all i hi).cp,(all i hi).short,(all i hi).mat⟩,fun i hi=>(all i hi).ops⟩
variable {a b c:D.Op} {r:D.Replica}
theorem all3{Q:Nat->Prop}(h0:Q 0)(h1:Q 1)(h2:Q 2):∀j,j<3->Q j:=fun j hj=>by
 rcases(show j=0\/j=1\/j=2 by omega)with rfl|rfl|rfl
 .exact h0
 .exact h1
 .exact h2
theorem rx2(hi:i<3)(hid:r.ID=i)(cp:UE 1000 r=some r)(hl:r.Log.length<=3)(ht:0<=r.Term/\r.Term<=5)(hv:r.Voted=i)(hr:r.Role=2)(h1:r.Votes.length=3)(h2:nth r.Votes i=true)(h3:r.Match.length=3)(h4:nth r.Match i=r.Log.length)(h5:∀j,j<3->0<=nth r.Match j/\nth r.Match j<=r.Log.length)(hc:0<=r.Commit/\r.Commit<=r.Log.length)(hf:∀k,k<3->k<r.Log.length->(if k=0 then 1 else(nth r.Log (k - 1)).Term)<=(nth r.Log k).Term/\(nth r.Log k).Term<=r.Term)(ho:∀e∈r.Log,P e.Op):RX P i r:=by
 have e:r.ID.toNat=i:=Oa
 exact⟨hid,Qq1 (n:=3) Oa ⟨Oa,Oa,.inr (.inr ⟨hr,h1,by rw[e];exact h2,h3,by rw[e];exact h4,h5⟩)⟩ Oa Oa hc ht.1 (fun k hk=>hf k Oa hk),cp,Oa,fun _=>h3,ho⟩
theorem rx0(hid:r.ID=i)(ck:WS 1000 3 r=some true)(cp:UE 1000 r=some r)(hl:r.Log.length<=3)(hr:r.Role=0)(ho:∀e∈r.Log,P e.Op):RX P i r:=⟨hid,ck,cp,Oa,fun h=>Oa,ho⟩
theorem QrG(ha:P a):RX P 0 (old0 a):=rx2 Oa rfl (by kernel_rfl) Ob Ob rfl rfl rfl rfl rfl rfl (all3 (by simp[nth]) (by simp[nth]) (by simp[nth])) Ob (all3 (by simp[nth]) (by simp[nth]) (by simp[nth])) (by simpa using ha)
theorem Qzq:CX 3 P kl1:=CX.of3 (by kernel_rfl) (rx2 Oa rfl (by kernel_rfl) Ob Ob rfl rfl rfl rfl rfl rfl (all3 (by simp[nth]) (by simp[nth]) (by simp[nth])) Ob (all3 (by simp[nth]) (by simp[nth]) (by simp[nth])) Ob) (rx0 rfl (by kernel_rfl) (by kernel_rfl) Ob rfl Ob) (rx0 rfl (by kernel_rfl) (by kernel_rfl) Ob rfl Ob)
theorem Qzs(ha:P a):CX 3 P (kl3 a):=CX.of3 (by kernel_rfl) (QrG ha) (rx0 rfl (by kernel_rfl) (by kernel_rfl) Ob rfl (by simpa using ha)) (rx0 rfl (by kernel_rfl) (by kernel_rfl) Ob rfl (by simpa using ha))
theorem Qzt(ha:P a):CX 3 P (kl4 a):=CX.of3 (by kernel_rfl) (QrG ha) (rx2 Oa rfl (by kernel_rfl) Ob Ob rfl rfl rfl rfl rfl rfl (all3 (by simp[nth]) (by simp[nth]) (by simp[nth])) Ob (all3 (by simp[nth]) (by simp[nth]) (by simp[nth])) (by simpa using ha)) (rx0 rfl (by kernel_rfl) (by kernel_rfl) Ob rfl (by simpa using ha))
theorem Qzv(ha:P a)(hb:P b):CX 3 P (kl7 a b):=CX.of3 (by kernel_rfl) (QrG ha) (rx2 Oa rfl (by kernel_rfl) Ob Ob rfl rfl rfl rfl rfl rfl (all3 (by simp[nth]) (by simp[nth]) (by simp[nth])) Ob (all3 (by simp[nth]) (by simp[nth]) (by simp[nth])) (by simpa using⟨ha,hb⟩)) (rx0 rfl (by kernel_rfl) (by kernel_rfl) Ob rfl (by simpa using⟨ha,hb⟩))
theorem QyW(ha:P a)(hb:P b)(hc:P c):CX 3 P (kl10 a b c):=CX.of3 (by kernel_rfl) (QrG ha) (rx2 Oa rfl (by kernel_rfl) Ob Ob rfl rfl rfl rfl rfl rfl (all3 (by simp[nth]) (by simp[nth]) (by simp[nth])) Ob (all3 (by simp[nth]) (by simp[nth]) (by simp[nth])) (by simpa using⟨ha,hb,hc⟩)) (rx0 rfl (by kernel_rfl) (by kernel_rfl) Ob rfl (by simpa using⟨ha,hb,hc⟩))
theorem QpX{c:D.Cluster}{A B:Nat->List D.Op}(hc:XM 1000 c=some true)(hl:c.Replicas.length=3)(hA:∀i,i<3->XC 1000 (nth c.Replicas i)=some (A i))(h0:B 0=[])(hB:∀i,i<3->B (i+1)=if (B i).length<(A i).length then A i else B i):YD 1000 c=some (B 3):=by
 refine Ok.eq ?_
 unfold YD
 refine Ok.oe hc (Ok.nt rfl ?_)
 rw[hl]
 refine Ok.run 3 (fun i=>((B i,c.Replicas,3,(i:Int),()),())) (by rw[h0];rfl) Oa (fun i hi K hK=>?_) fun K=>Ok.NS (Ok.s rfl)
 dsimp only at hK |-
 rw[hB i hi]at hK
 refine Ok.P (Ok.j (Ok.A (Ok.oe (hA i hi) (Ok.ite (fun g=>?_) fun g=>?_))))
 .rw[if_pos Oa]at hK
  dsimp only
  rw[Qb Oa];exact hK
 .rw[if_neg Oa]at hK
  dsimp only
  rw[Qb Oa];exact hK
theorem Qzr(h:CX 3 P (kl3 a)):YD 1000 (kl3 a)=some [a]:=
 QpX (A:=fun i=>if i=0 then[a]else[]) (B:=fun i=>if i=0 then[]else[a]) h.ck rfl (all3 (by kernel_rfl) (by kernel_rfl) (by kernel_rfl)) rfl (all3 rfl rfl rfl)
theorem Qzu(h:CX 3 P (kl7 a b)):YD 1000 (kl7 a b)=some [a,b]:=
 QpX (A:=fun i=>if i=0 then[a]else[a,b]) (B:=fun i=>if i=0 then[]else if i=1 then[a]else[a,b]) h.ck rfl (all3 (by kernel_rfl) (by kernel_rfl) (by kernel_rfl)) rfl (all3 rfl rfl rfl)
theorem QyV(h:CX 3 P (kl10 a b c)):YD 1000 (kl10 a b c)=some [a,b,c]:=
 QpX (A:=fun i=>if i=0 then[a]else[a,b,c]) (B:=fun i=>if i=0 then[]else if i=1 then[a]else[a,b,c]) h.ck rfl (all3 (by kernel_rfl) (by kernel_rfl) (by kernel_rfl)) rfl (all3 rfl rfl rfl)
end
end
/-
  The example of the chapter of paging: what it computes.
-/
open Go AM
theorem Qla:Qfl 1000=some true:=by kernel_rfl
/-
  The law PagingSurvives, of what is reckoned of its code.
-/
attribute [local irreducible] dueV stepV runV QL answerV opV Q5 opsV QdU
section
variable {c:D.Config} {b:D.Book} {pol now:Int} {p q:D.Paging} {k:Nat} {v:D.Ledger} {Q:D.Page}
abbrev sy(c:D.Config)(b:D.Book)(S:Int)(x:D.Cluster):D.Paging:=D.Paging.mk (Xq c b) x S
def Rnd(now:Int)(p q:D.Paging):Prop:=∃x k,U3 1000 p 1 now=some (x,k,0)/\x.Base=q.Base/\x.Serial=q.Serial/\∃m,BF x.Cluster m 1/\BF m q.Cluster 1
structure Sur (c:D.Config) (b:D.Book) (pol now:Int):Prop where
 cfg:Q0 2 c
 book:Qy b
 pol:0<=pol/\pol<(b.Policies.length:Int)
 now:864000<=now/\now<=869000
theorem px1(hc:Q0 2 c)(hb:Qy b):PX 3 (sy c b 1 kl1):=⟨UW hc hb,Ob,Qzq⟩
theorem px3(h:Sur c b pol now):PX 3 (sy c b 2 (kl3 (opA pol))):=⟨UW h.cfg h.book,Ob,Qzs ⟨Qkv h.pol.1,by simp[opA]⟩⟩
theorem px4(h:Sur c b pol now):PX 3 (sy c b 2 (kl4 (opA pol))):=⟨UW h.cfg h.book,Ob,Qzt ⟨Qkv h.pol.1,by simp[opA]⟩⟩
theorem px7(h:Sur c b pol now):PX 3 (sy c b 3 (kl7 (opA pol) (opB now))):=⟨UW h.cfg h.book,Ob,Qzv ⟨Qkv h.pol.1,by simp[opA]⟩ ⟨QoP (by have:=h.now;omega),by simp[opB]⟩⟩
theorem px10(h:Sur c b pol now)(hC:OpIn (opC c b pol now)):PX 3 (sy c b 4 (kl10 (opA pol) (opB now) (opC c b pol now))):=⟨UW h.cfg h.book,Ob,QyW ⟨Qkv h.pol.1,by simp[opA]⟩ ⟨QoP (by have:=h.now;omega),by simp[opB]⟩ ⟨hC,by show(3:Int)<4;omega⟩⟩
theorem ld1:Lead 3 0 (sy c b 1 kl1):=⟨Oa,Oa,rfl,rfl,fun e he=>absurd he (by simp[sy,kl1,nth]),by simp[sy,kl1,nth]⟩
theorem ld4:Lead 3 1 (sy c b 2 (kl4 (opA pol))):=⟨Oa,Oa,rfl,rfl,fun e he=>by
 rw[List.mem_singleton.1 (show e∈[EnT 1 (opA pol)]from he)];show(1:Int)≠2;omega,by show 1<256;omega⟩
theorem ld7:Lead 3 1 (sy c b 3 (kl7 (opA pol) (opB now))):=⟨Oa,Oa,rfl,rfl,fun e he=>by
 rcases List.mem_cons.1 (show e∈[EnT 1 (opA pol),EnT 2 (opB now)]from he)with rfl|he
 .show(1:Int)≠3;omega
 .rw[List.mem_singleton.1 he];show(2:Int)≠3;omega,by show 2<256;omega⟩
theorem ld10:Lead 3 1 (sy c b 4 (kl10 (opA pol) (opB now) (opC c b pol now))):=⟨Oa,Oa,rfl,rfl,fun e he=>by
 rcases List.mem_cons.1 (show e∈[EnT 1 (opA pol),EnT 2 (opB now),EnT 2 (opC c b pol now)]from he)with rfl|he
 .show(1:Int)≠4;omega
 .rcases List.mem_cons.1 he with rfl|he
  .show(2:Int)≠4;omega
  .rw[List.mem_singleton.1 he];show(3:Int)≠4;omega,by show 3<256;omega⟩
theorem vw4(h:Sur c b pol now):YQ 1000 (sy c b 2 (kl4 (opA pol))) ((1:Nat):Int)=some (Xq c b):=by
 have:=QnR (p:=sy c b 2 (kl4 (opA pol))) (i:=1) (ops:=[]) (by show 1<3;omega) (by kernel_rfl) (runs0 (UW h.cfg h.book)) Ob
 rw[Qwx]at this;exact this
theorem kA:(opA pol).Kind≠5:=by show(1:Int)≠5;omega
theorem kB:(opB now).Kind≠5:=by show(2:Int)≠5;omega
theorem kC:(opC c b pol now).Kind≠5:=by show(3:Int)≠5;omega
theorem okA(h:Sur c b pol now):OkAt (Xq c b) (opA pol):=QvZ h.cfg h.book (Qkv h.pol.1) (by show(864000:Int)<=_;omega)
theorem okB(h:Sur c b pol now):OkAt (lA c b pol) (opB now):=(Qwg h.cfg h.book h.pol).1.okAt Oa (QoP (by have:=h.now;omega)) (by show now<=_;have:=h.now;omega)
theorem vw7(h:Sur c b pol now):YQ 1000 (sy c b 3 (kl7 (opA pol) (opB now))) ((1:Nat):Int)=some (lB c b pol now):=by
 have hn:=h.now
 have:=QnR (p:=sy c b 3 (kl7 (opA pol) (opB now))) (i:=1) (ops:=[opA pol,opB now]) (by show 1<3;omega) (by kernel_rfl) (runs2 (okA h) (okB h) ((Qsr h.cfg h.book h.pol Oa).1.led Oa)) (by simp[kA,kB])
 rw[this];unfold opsV;unfold opsV;unfold opsV;rfl
theorem vw10(h:Sur c b pol now)(hC:OpIn (opC c b pol now))(h7:S7 c b 3 Q (lC c b pol now)):YQ 1000 (sy c b 4 (kl10 (opA pol) (opB now) (opC c b pol now))) ((1:Nat):Int)=some (lC c b pol now):=by
 have hn:=h.now
 have:=QnR (p:=sy c b 4 (kl10 (opA pol) (opB now) (opC c b pol now))) (i:=1) (ops:=[opA pol,opB now,opC c b pol now]) (by show 1<3;omega) (by kernel_rfl) (runs3 (okA h) (okB h) ((Qsr h.cfg h.book h.pol Oa).1.okAt Oa hC (by show now<=_;omega)) (h7.led Oa)) (by simp[kA,kB,kC])
 rw[this];unfold opsV;unfold opsV;unfold opsV;unfold opsV;rfl
theorem rnd1(h:Sur c b pol now):Rnd now (sy c b 2 (kl4 (opA pol))) (sy c b 3 (kl7 (opA pol) (opB now))):=by
 have hn:=h.now
 have hw:=QpM (p:=sy c b 2 (kl4 (opA pol))) (i:=1) (now:=now) (o:=opB now) (by show 1<3;omega) (vw4 h) rfl (by show 1<=900;omega) (by show(-1:Int)≠1;omega) (fun e he=>by rw[List.mem_singleton.1 (show e∈[EnT 1 (opA pol)]from he)];show(1:Int)≠2;omega) (by rw[<-claim0 (c:=c) (b:=b) (now:=now) Oa];exact QtK (UW h.cfg h.book).ownE)
 obtain⟨k,hk⟩:=Qg3 (px4 h) ld4 Oa Ob hw (fun o ho=>by rw[List.mem_singleton.1 ho];exact QoP (now:=now) Oa)
 exact⟨_,k,hk,rfl,rfl,kl6 (opA pol) (opB now),Qzy _ _,Qzz _ _⟩
theorem rnd2N(h:Sur c b pol now)(hp:QkJ (lB c b pol now) 1 3 now=[]):Rnd now (sy c b 3 (kl7 (opA pol) (opB now))) (sy c b 3 (kl7 (opA pol) (opB now))):=by
 have hn:=h.now
 obtain⟨h1,h2,_⟩:=Qsr h.cfg h.book h.pol (now:=now) Oa
 have hs:=Qio (r:=1) (id:=3) (now:=now) (h1.led Oa).ownE
 rw[hp]at hs
 obtain⟨k,hk⟩:=Qg3 (px7 h) ld7 Oa Ob (QdH (p:=sy c b 3 (kl7 (opA pol) (opB now))) (i:=1) (by show 1<3;omega) (vw7 h) rfl h2 hs Ob) Ob
 exact⟨_,k,hk,rfl,rfl,_,QyY _ _,QyY _ _⟩
theorem rnd2W(h:Sur c b pol now)(hp:QkJ (lB c b pol now) 1 3 now=[opC c b pol now])(hC:OpIn (opC c b pol now)):Rnd now (sy c b 3 (kl7 (opA pol) (opB now))) (sy c b 4 (kl10 (opA pol) (opB now) (opC c b pol now))):=by
 have hn:=h.now
 obtain⟨h1,h2,_⟩:=Qsr h.cfg h.book h.pol (now:=now) Oa
 have hs:=Qio (r:=1) (id:=3) (now:=now) (h1.led Oa).ownE
 rw[hp]at hs
 obtain⟨k,hk⟩:=Qg3 (px7 h) ld7 Oa Ob (QdH (p:=sy c b 3 (kl7 (opA pol) (opB now))) (i:=1) (by show 1<3;omega) (vw7 h) rfl h2 hs Ob) (fun o ho=>by rw[List.mem_singleton.1 ho];exact hC)
 exact⟨_,k,hk,rfl,rfl,_,QzA _ _ _,QyZ _ _ _⟩
theorem rnd3W(h:Sur c b pol now)(hC:OpIn (opC c b pol now))(h7:S7 c b 3 Q (lC c b pol now))(ho:(lC c b pol now).Owner=1)(hp:QkJ (lC c b pol now) 1 4 now=[]):Rnd now (sy c b 4 (kl10 (opA pol) (opB now) (opC c b pol now))) (sy c b 4 (kl10 (opA pol) (opB now) (opC c b pol now))):=by
 have hn:=h.now
 have hs:=Qio (r:=1) (id:=4) (now:=now) (h7.led Oa).ownE
 rw[hp]at hs
 obtain⟨k,hk⟩:=Qg3 (px10 h hC) ld10 Oa Ob (QdH (p:=sy c b 4 (kl10 (opA pol) (opB now) (opC c b pol now))) (i:=1) (by show 1<3;omega) (vw10 h hC h7) rfl ho hs Ob) Ob
 exact⟨_,k,hk,rfl,rfl,_,Qul _ _ _,Qul _ _ _⟩
structure End (c:D.Config) (b:D.Book) (pol now:Int) (p:D.Paging) (v:D.Ledger):Prop where
 px:PX 3 p
 ck:U7 1000 p.Cluster=some true
 view:Qbc 1000 p 1=some (v,0)
 acc:YP 1000 p 1=some true
 own:v.Owner=1
 s7:∃k,k<=5/\S7 c b k (runP c b (pA c b pol) now) v
theorem ends(h:Sur c b pol now):∃(st:Nat->D.Paging) (v:D.Ledger),st 0=sy c b 2 (kl4 (opA pol))/\(∀i,i<4->Rnd now (st i) (st (i+1)))/\End c b pol now (st 4) v:=by
 have hn:=h.now
 have p7:=px7 h
 obtain⟨h1,h2,_⟩:=Qsr h.cfg h.book h.pol (now:=now) Oa
 rcases QzB h.cfg h.book h.pol (now:=now) Oa with⟨g1,g2⟩|⟨g1,g2,g3,g4,g5,g6,g7,g8⟩
 .refine⟨fun i=>if i=0 then sy c b 2 (kl4 (opA pol))else sy c b 3 (kl7 (opA pol) (opB now)),lB c b pol now,rfl,fun i hi=>?_,⟨p7,Qy0 _ _,Qq6 (i:=1) p7 Oa (vw7 h),QpV (o:=opA pol) (ops:=[opB now]) p7 (Qzu p7.cx) Ob rfl,h2,2,Oa,by rw[<-g2];exact h1⟩⟩
  rcases(show i=0\/i=1\/i=2\/i=3 by omega)with rfl|rfl|rfl|rfl
  .exact rnd1 h
  .exact rnd2N h g1
  .exact rnd2N h g1
  .exact rnd2N h g1
 .have p10:=px10 h g2
  refine⟨fun i=>if i=0 then sy c b 2 (kl4 (opA pol))else if i=1 then sy c b 3 (kl7 (opA pol) (opB now))else sy c b 4 (kl10 (opA pol) (opB now) (opC c b pol now)),lC c b pol now,rfl,fun i hi=>?_,⟨p10,Qx5 _ _ _,Qq6 (i:=1) p10 Oa (vw10 h g2 g6),QpV (o:=opA pol) (ops:=[opB now,opC c b pol now]) p10 (QyV p10.cx) Ob rfl,g7,3,Oa,g6⟩⟩
  rcases(show i=0\/i=1\/i=2\/i=3 by omega)with rfl|rfl|rfl|rfl
  .exact rnd1 h
  .exact rnd2W h g1 g2
  .exact rnd3W h g2 g6 g7 g8
  .exact rnd3W h g2 g6 g7 g8
theorem Qgx(t:List Int)(n:Int)(hn:0<=n/\n<=65535):Xt 1000 t n=some true:=by
 refine Ok.eq ?_
 unfold Xt
 refine Ok.oe Qwi (Ok.ncnd (fun _=>Ok.oe Qla (Ok.s rfl)) fun hl=>Ok.oe Qys ?_)
 have hL:=Qur hl
 refine Ok.opt (QxN hL dice0 Oa) fun⟨c,d1⟩ ⟨h1,hc⟩=>?_
 dsimp only at h1 hc |-
 refine Ok.opt (QxH hL h1 Oa) fun⟨b,d2⟩ ⟨h2,hb⟩=>?_
 dsimp only at h2 hb |-
 have hbl:=hb.plen
 have hfl:=UW hc hb
 refine Ok.oe (Qye hc Oa hb) (Ok.oe (Qwo hfl rfl) (Ok.oe Qzw (Ok.opt (nx hL h2 (by show 1<=(b.Policies.length:Int);omega) (by show(b.Policies.length:Int)<=_;omega)) fun⟨pol,d3⟩ ⟨h3,l3,u3⟩=>?_)))
 have hm1:=Int.tmod_nonneg (5000:Int) hn.1
 have hm2:=Int.tmod_lt_of_pos n (show(0:Int)<5000 by omega)
 have h:Sur c b pol (864000+n.tmod 5000):=⟨hc,hb,⟨l3,u3⟩,Oa⟩
 obtain⟨st,v,e0,er,eE⟩:=ends h
 obtain⟨k7,hk7,h7⟩:=eE.s7
 obtain⟨a1,a2,_,aid,apol⟩:=Qwg hc hb ⟨l3,u3⟩
 obtain⟨x1,x2⟩:=QzC hc hb ⟨l3,u3⟩ (now:=864000+n.tmod 5000) Oa
 have hkp:=Qbn (c:=c) (now:=864000+n.tmod 5000) a1.page.1 QT.step a1.page.2
 obtain⟨w3,b1,b2⟩:=Qzx (opA pol)
 refine Ok.oe (QsZ (i:=0) (px1 hc hb) (o:=D.Op.mk 0 1 0 0 864000 7 0 pol 0 ans0 edit0) (Qkv l3) ld1) (Ok.j (Ok.NS (Ok.NS (Ok.NS (Ok.NS ?_)))))
 refine Ok.oe (v:=(w3,0)) b1 (Ok.oe b2 (Ok.j (Ok.NS (Ok.oe (QpV (p:=sy c b 2 (kl3 (opA pol))) (o:=opA pol) (ops:=[]) (px3 h) (Qzr (px3 h).cx) Ob rfl) (Ok.t ?_)))))
 refine Ok.oe (QyX (opA pol)).1 (Ok.oe (QyX (opA pol)).2 (Ok.j (Ok.NS (Ok.NS (Ok.Z ?_)))))
 rw[Qc (x:=n) Oa,Qc (x:=864000+n.tmod 5000) Oa]
 obtain⟨now,hnow⟩:∃now,now=864000+n.tmod 5000:=⟨_,rfl⟩
 rw[<-hnow]at h er eE h7 x1 x2 hkp |-
 refine Ok.run 4 (fun i=>((1,now,(i:Int),()),Xq c b,st i,())) (by rw[e0];rfl) Oa (fun i hi K hK=>?_) fun K=>?_
 .obtain⟨x,k,r1,r2,r3,m,⟨w,r4,r5⟩,w2,r6,r7⟩:=er i hi
  dsimp only at hK |-
  refine Ok.P (Ok.oe r1 (Ok.oe r4 (Ok.j (Ok.NS (Ok.NS (Ok.oe r5 (Ok.oe r6 (Ok.NS (Ok.oe r7 ?_)))))))))
  rw[Qb Oa,r2,r3]
  exact hK
 .dsimp only
  have hq:Qc6 1000 v=some pol:=by
   refine Ok.eq ?_
   unfold Qc6
   rw[h7.pages]
   exact Ok.NS (Ok.atn (i:=0) Ob (Ok.s (hkp.pol.trans apol)))
  have hid:(runP c b (pA c b pol) now).ID=7:=hkp.id.trans aid
  refine Ok.N (Ok.oe eE.view (Ok.oe hq (Ok.oe (okA h).ref ?_)))
  obtain⟨y1,e1,hy1⟩:∃y e,Q5 (Xq c b) (opA pol)=(y,e):=⟨_,_,rfl⟩
  have hlA:lA c b pol=y1:=by unfold lA;rw[hy1]
  rw[hlA]at x1 x2
  rw[hy1]
  refine Ok.oe x1.ref ?_
  obtain⟨y2,e2,hy2⟩:∃y e,Q5 y1 (opE now)=(y,e):=⟨_,_,rfl⟩
  rw[hy2]at x2 |-
  exact Ok.oe (h7.find hid) (Ok.oe (x2.find hid) (Ok.p rfl (Ok.oe (QxK eE.px eE.ck) (Ok.t (Ok.oe eE.acc (Ok.t (Ok.t (Ok.t (Ok.p eE.own (Ok.oe (Qzd h7.len) (Ok.t (Ok.oe Qla (Ok.t (Ok.s rfl))))))))))))))
end
end Go.Proofs.YtlllfgmajglnhaaGreat
