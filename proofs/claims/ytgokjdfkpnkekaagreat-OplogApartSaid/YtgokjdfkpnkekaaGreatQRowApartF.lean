/-
  Ledgers, in plain Lean: what operations make of them, and what they keep.
-/
import Derived.Test.YtgokjdfkpnkekaaGreatQRowApartE
set_option maxRecDepth 100000
set_option linter.unusedSimpArgs false
set_option linter.unusedVariables false
namespace Go.Proofs.YtgokjdfkpnkekaaGreat
open Go AM
def QG(id f:Int)(l:List D.Start):List D.Call:=l.flatMap fun s=>s.People.map fun x=>D.Call.mk id s.K s.At x f
theorem Qa3{id f:Int}{a b:List D.Start}:QG id f (a++b)=QG id f a++QG id f b:=by unfold QG;rw[List.flatMap_append]
def unf(c:D.Call):D.Call:={ c with Fence:=0 }
theorem QnN{id f:Int}{l:List D.Start}:(QG id f l).map unf=QG id 0 l:=by
 unfold QG
 rw[List.map_flatMap]
 congr 1
 funext s
 rw[List.map_map];rfl
def ownC(id:Int)(l:List D.Call):List D.Call:=l.filter fun c=>decide (c.Page=id)
theorem VR{id:Int}{a b:List D.Call}:ownC id (a++b)=ownC id a++ownC id b:=List.filter_append ..
theorem X3{id f:Int}{l:List D.Start}:∀c∈QG id f l,c.Page=id∧c.Fence=f:=by
 intro c hc
 unfold QG at hc
 obtain⟨s,_,hc⟩:=List.mem_flatMap.1 hc
 obtain⟨x,_,rfl⟩:=List.mem_map.1 hc
 exact⟨rfl,rfl⟩
theorem Qiz{id f:Int}{l:List D.Start}:ownC id (QG id f l)=QG id f l:=by
 unfold ownC
 exact List.filter_eq_self.2 fun c hc=>by simpa using(X3 c hc).1
theorem QpN{id i f:Int}{l:List D.Start}(h:i≠id):ownC i (QG id f l)=[]:=by
 unfold ownC
 exact List.filter_eq_nil_iff.2 fun c hc=>by have:=(X3 c hc).1;simp;omega
structure Told (fence:Int) (p:D.Page) (l:List D.Call):Prop where
 same:(ownC p.ID l).map unf=QG p.ID 0 p.Starts
 up:(ownC p.ID l).Pairwise fun x y=>x.Fence≤y.Fence
 fit:∀c∈ownC p.ID l,0≤c.Fence∧c.Fence≤fence
theorem Told.mono{f g:Int}{p:D.Page}{l:List D.Call}(h:Told f p l)(hg:f≤g):Told g p l:=⟨h.same,h.up,fun c hc=>by have:=h.fit c hc;omega⟩
theorem Told.more{f:Int}{p q:D.Page}{l:List D.Call}{m:List D.Start}(h:Told f p l)(hf:0≤f)(hid:q.ID=p.ID)(hs:q.Starts=p.Starts++m):Told f q (l++QG p.ID f m):=by
 refine⟨?_,?_,?_⟩
 ·rw[hid,VR,Qiz,List.map_append,h.same,QnN,hs,Qa3]
 ·rw[hid,VR,Qiz]
  refine List.pairwise_append.2 ⟨h.up,?_,fun x hx y hy=>?_⟩
  ·refine List.pairwise_iff_forall_sublist.2 fun{x y} hxy=>?_
   have h1:=(X3 x (hxy.subset (by simp))).2
   have h2:=(X3 y (hxy.subset (by simp))).2
   omega
  ·have h1:=(h.fit x hx).2
   have h2:=(X3 y hy).2
   omega
 ·rw[hid,VR,Qiz]
  intro c hc
  rcases List.mem_append.1 hc with hc|hc
  ·exact h.fit c hc
  ·have:=(X3 c hc).2;omega
theorem Told.other{f id:Int}{p:D.Page}{l:List D.Call}{m:List D.Start}(h:Told f p l)(hid:p.ID≠id):Told f p (l++QG id f m):=by
 have e:ownC p.ID (l++QG id f m)=ownC p.ID l:=by rw[VR,QpN hid,List.append_nil]
 exact⟨by rw[e];exact h.same,by rw[e];exact h.up,by rw[e];exact h.fit⟩
def AscP(l:List D.Page):Prop:=l.Pairwise fun p q=>p.ID<q.ID
def posV(id:Int):List D.Page→Nat
 |[]=>0
 |p::r=>if p.ID<id then posV id r+1 else 0
theorem VS{id:Int}:∀{l:List D.Page},posV id l≤l.length
 |[]=>Nat.le_refl _
 |p::r=>by
  rw[posV]
  split
  ·have:=VS (id:=id) (l:=r);rw[List.length_cons];omega
  ·exact Nat.zero_le _
def hasV(id:Int)(l:List D.Page):Bool:=decide (posV id l<l.length∧(nth l (posV id l)).ID=id)
theorem Vk{α:Type}[Inhabited α]{x:α}{l:List α}{i:Nat}:nth (x::l) (i+1)=nth l i:=by simp[nth]
theorem QbW{α:Type}[Inhabited α]{x:α}{l:List α}:nth (x::l) 0=x:=by simp[nth]
theorem Qk8{id:Int}:∀{l:List D.Page} {i:Nat},i<posV id l→(nth l i).ID<id
 |[],i,h=>by simp[posV]at h
 |p::r,i,h=>by
  rw[posV]at h
  split at h
  ·rename_i hp
   cases i with
   |zero=>rw[QbW];exact hp
   |succ i=>rw[Vk];exact Qk8 (by omega)
  ·omega
theorem QiF{id:Int}:∀{l:List D.Page},AscP l→∀{i:Nat},posV id l≤i→i<l.length→id≤(nth l i).ID
 |[],_,i,_,h=>by simp at h
 |p::r,ha,i,h1,h2=>by
  have ha':=List.pairwise_cons.1 ha
  rw[posV]at h1
  split at h1
  ·cases i with
   |zero=>omega
   |succ i=>rw[Vk];exact QiF ha'.2 (by omega) (by simpa using h2)
  ·cases i with
   |zero=>rw[QbW];omega
   |succ i=>
    rw[Vk]
    have:=ha'.1 (nth r i) (Qj (by simpa using h2))
    omega
theorem QbK{l:List D.Page}(h:AscP l){i j:Nat}(hij:i<j)(hj:j<l.length):(nth l i).ID<(nth l j).ID:=by
 have:=List.pairwise_iff_getElem.1 h i j (by omega) hj hij
 simpa [nth,List.getD_eq_getElem?_getD,List.getElem?_eq_getElem hj,List.getElem?_eq_getElem (show i<l.length by omega)]using this
theorem Qgf{l:List D.Page}(h:AscP l){i:Nat}(hi:i<l.length):posV (nth l i).ID l=i:=by
 rcases Nat.lt_trichotomy (posV (nth l i).ID l) i with g|g|g
 ·have:=QiF h (Nat.le_refl (posV (nth l i).ID l)) (by omega)
  have:=QbK h g hi
  omega
 ·exact g
 ·have:=Qk8 g;omega
theorem QkN{l:List D.Page}(h:AscP l){i:Nat}(hi:i<l.length):hasV (nth l i).ID l=true:=by
 unfold hasV;rw[Qgf h hi];simp[hi]
theorem Qrj{id:Int}{l:List D.Page}(ha:AscP l)(h:hasV id l=false):∀p∈l,p.ID≠id:=by
 intro p hp e
 obtain⟨i,hi,rfl⟩:=List.getElem_of_mem hp
 have e1:nth l i=l[i]:=by simp[nth,List.getD_eq_getElem?_getD,List.getElem?_eq_getElem hi]
 have:=QkN ha hi
 rw[e1,e,h]at this
 simp at this
def insP(l:List D.Page)(p:D.Page):List D.Page:=l.take (posV p.ID l)++p::l.drop (posV p.ID l)
theorem QrR{id:Int}:∀{l:List D.Page},∀p∈l.take (posV id l),p.ID<id
 |[],p,h=>by simp at h
 |q::r,p,h=>by
  rw[posV]at h
  split at h
  ·rename_i hq
   rw[List.take_succ_cons]at h
   rcases List.mem_cons.1 h with rfl|h
   ·exact hq
   ·exact QrR p h
  ·simp at h
theorem Qn5{id:Int}:∀{l:List D.Page},AscP l→∀p∈l.drop (posV id l),id≤p.ID
 |[],_,p,h=>by simp at h
 |q::r,ha,p,h=>by
  have ha':=List.pairwise_cons.1 ha
  rw[posV]at h
  split at h
  ·rw[List.drop_succ_cons]at h;exact Qn5 ha'.2 p h
  ·rename_i hq
   rw[List.drop_zero]at h
   rcases List.mem_cons.1 h with rfl|h
   ·omega
   ·have:=ha'.1 p h;omega
theorem Qtd{l:List D.Page}{p:D.Page}(h:AscP l)(hn:hasV p.ID l=false):AscP (insP l p):=by
 have hne:=Qrj h hn
 refine List.pairwise_append.2 ⟨h.sublist (List.take_sublist ..),List.pairwise_cons.2 ⟨fun q hq=>?_,h.sublist (List.drop_sublist ..)⟩,fun q hq r hr=>?_⟩
 ·have:=Qn5 h q hq
  have:=hne q (List.mem_of_mem_drop hq)
  omega
 ·have h1:=QrR q hq
  rcases List.mem_cons.1 hr with rfl|hr
  ·exact h1
  ·have:=Qn5 h r hr;omega
theorem Qfd{l:List D.Page}{p q:D.Page}:q∈insP l p↔q=p∨q∈l:=by
 unfold insP
 rw[List.mem_append,List.mem_cons]
 constructor
 ·rintro(h|h|h)
  ·exact .inr (List.mem_of_mem_take h)
  ·exact .inl h
  ·exact .inr (List.mem_of_mem_drop h)
 ·rintro(h|h)
  ·exact .inr (.inl h)
  ·have h2:=h
   rw[←List.take_append_drop (posV p.ID l) l]at h2
   rcases List.mem_append.1 h2 with h2|h2
   ·exact .inl h2
   ·exact .inr (.inr h2)
theorem QtO{l:List D.Page}{i:Nat}{p:D.Page}(h:AscP l)(hi:i<l.length)(hp:p.ID=(nth l i).ID):AscP (l.set i p):=by
 have e:∀j,j<l.length→(nth (l.set i p) j).ID=(nth l j).ID:=fun j hj=>by
  by_cases hij:j=i
  ·subst hij;simp[nth,List.getD_eq_getElem?_getD,hi]at hp ⊢;exact hp
  ·simp[nth,List.getD_eq_getElem?_getD,List.getElem?_set,Ne.symm hij]
 refine List.pairwise_iff_getElem.2 fun j k hj hk hjk=>?_
 have hj':j<l.length:=by simpa using hj
 have hk':k<l.length:=by simpa using hk
 have h1:=e j hj';have h2:=e k hk'
 have h3:=QbK h hjk hk'
 have g1:nth (l.set i p) j=(l.set i p)[j]:=by simp only[nth,List.getD_eq_getElem?_getD,List.getElem?_eq_getElem hj,Option.getD_some]
 have g2:nth (l.set i p) k=(l.set i p)[k]:=by simp only[nth,List.getD_eq_getElem?_getD,List.getElem?_eq_getElem hk,Option.getD_some]
 rw[g1]at h1;rw[g2]at h2
 omega
structure QlO (l:List Int) (n:Nat):Prop where
 len:l.length≤n
 nodup:l.Nodup
 fit:∀x∈l,1≤x∧x≤1099511627776
theorem QlO.snoc{l:List Int}{n:Nat}{x:Int}(h:QlO l n)(h1:1≤x∧x≤1099511627776)(h2:l.contains x=false):QlO (l++[x]) (n+1):=by
 refine⟨by have:=h.len;simp;omega,List.nodup_append.2 ⟨h.nodup,by simp,fun y hy z hz e=>?_⟩,fun y hy=>?_⟩
 ·rw[List.mem_singleton.1 hz]at e
  subst e
  rw[List.contains_iff_mem.2 hy]at h2;simp at h2
 ·rcases List.mem_append.1 hy with hy|hy
  ·exact h.fit y hy
  ·rw[List.mem_singleton.1 hy];exact h1
def QT:Int→D.Start→Prop:=fun _ s=>s.People.length≤4
theorem QT.step{M:Int}{c:D.Config}{b:D.Book}:QgN QT M c b:=fun _ _ _ _=>Ql2
theorem Goes.short{Q:D.Start→Prop}{st k t h:Int}{l:List D.Start}(hq:∀s,Q s→s.People.length≤4)(g:Goes Q st l k t h):∀s∈l,s.People.length≤4:=by
 induction g with
 |nil=>intro s hs;simp at hs
 |step g h1 h2 h3 h4 ih=>
  intro s hs
  rcases List.mem_append.1 hs with hs|hs
  ·exact ih s hs
  ·rw[List.mem_singleton.1 hs];exact hq _ h4
 |hand g h1 h2 h3 h4 ih=>
  intro s hs
  rcases List.mem_append.1 hs with hs|hs
  ·exact ih s hs
  ·rw[List.mem_singleton.1 hs];simp
structure Qc (M:Int) (n:Nat) (l:D.Ledger):Prop where
 top:M≤8000000000
 now:0≤l.Now∧l.Now≤M - 20000
 small:n≤48
 cfg:Q3 n l.Config
 book:QI l.Book
 page:∀p∈l.Pages,QJ QT M l.Book p∧p.Last≤l.Now
 asc:AscP l.Pages
 len:l.Pages.length≤64
 owner : -1≤l.Owner∧l.Owner≤4
 fence:0≤l.Fence∧l.Fence≤(l.Seen.length:Int)
 seen:QlO l.Seen 256
 told:∀p∈l.Pages,Told l.Fence p l.Calls
 all:∀c∈l.Calls,∃p∈l.Pages,p.ID=c.Page
def putV(l:D.Ledger)(i:Nat)(p:D.Page):D.Ledger:=
 { l with Pages:=l.Pages.set i p,Calls:=l.Calls++QG p.ID l.Fence (p.Starts.drop (nth l.Pages i).Starts.length) }
def runI(l:D.Ledger)(i:Nat):D.Ledger:=if (runV l.Config l.Book (nth l.Pages i) l.Now).2≠0 then l else putV l i (runV l.Config l.Book (nth l.Pages i) l.Now).1
def Zj(l:D.Ledger):Nat→D.Ledger
 |0=>l
 |k+1=>runI (Zj l k) k
def Qh5(c:D.Config)(i:Int)(x:D.Edit):D.Config:=
 { c with Schedules:=c.Schedules.set i.toNat { nth c.Schedules i.toNat with Edits:=(nth c.Schedules i.toNat).Edits++[x] } }
def opV(l:D.Ledger)(o:D.Op):D.Ledger×Int:=
  if o.Kind=1 then
    (if hasV o.Page l.Pages=true then(l,4)else if l.Pages.length=64 then(l,5)else if o.Page<1 then(l,1)
     else if 0≤o.Policy∧o.Policy<(l.Book.Policies.length:Int)then(runI { l with Pages:=insP l.Pages (newP o.Page o.Policy l.Now) } (posV o.Page l.Pages),0)else(l,3))
  else if o.Kind=2 then(if o.Fence=l.Fence+1 then({ l with Owner:=o.Region,Fence:=o.Fence },0)else(l,23))
  else if o.Kind=3 then
    (if o.Region=l.Owner∧o.Fence=l.Fence then
      (if hasV o.Page l.Pages=true then
        (if Xo (nth l.Pages (posV o.Page l.Pages)) l.Now=true∧o.K=(if (nth l.Pages (posV o.Page l.Pages)).State=2 then -1 else(nth l.Pages (posV o.Page l.Pages)).Next)then(runI l (posV o.Page l.Pages),0)else(l,9))
       else(l,3))
     else(l,23))
  else if o.Kind=4 then
    (if hasV o.Answer.Page l.Pages=true then
      (if (answerV l.Book (nth (runI l (posV o.Answer.Page l.Pages)).Pages (posV o.Answer.Page l.Pages)) { o.Answer with At:=l.Now }).2=0 then
         (putV (runI l (posV o.Answer.Page l.Pages)) (posV o.Answer.Page l.Pages) (answerV l.Book (nth (runI l (posV o.Answer.Page l.Pages)).Pages (posV o.Answer.Page l.Pages)) { o.Answer with At:=l.Now }).1,0)
       else(runI l (posV o.Answer.Page l.Pages),(answerV l.Book (nth (runI l (posV o.Answer.Page l.Pages)).Pages (posV o.Answer.Page l.Pages)) { o.Answer with At:=l.Now }).2))
     else(l,3))
  else if 0≤o.Schedule∧o.Schedule<2 then({ Zj l l.Pages.length with Config:=Qh5 l.Config o.Schedule o.Edit },0)else(Zj l l.Pages.length,3)
def Qr(l:D.Ledger)(o:D.Op):D.Ledger×Int:=
 if l.Seen.contains o.ID=true then(l,0)else opV { l with Now:=max l.Now o.At,Seen:=l.Seen++[o.ID] } o
section
variable {M:Int} {n:Nat} {l:D.Ledger} {i:Nat} {p q:D.Page} {b:D.Book} {c:D.Config} {now:Int}
def Ext(p q:D.Page):Prop:=∃m,q.Starts=p.Starts++m
theorem Ext.refl(p:D.Page):Ext p p:=⟨[],by simp⟩
theorem Ext.step(h:Ext p q):Ext p (stepQ c b q):=by
 obtain⟨m,hm⟩:=h
 unfold stepQ
 split
 ·exact⟨m,hm⟩
 ·split
  ·exact⟨m,hm⟩
  ·exact⟨m++[_],by dsimp only;rw[hm,List.append_assoc]⟩
theorem Qly(hb:QI b)(h:QJ QT M b p):Ext p (runV c b p now).1:=
 Qhr hb QT.step (fun q _ _ hr=>hr.step) h (Ext.refl p)
theorem Qem{a:D.Answer}:Ext p (Y7 p a):=by
 by_cases h:a.Kind=4
 ·exact⟨_,QhA.1 h⟩
 ·exact⟨[],by rw[QhA.2 h];simp⟩
theorem QpT(hx:Ext (nth l.Pages i) p):∃m,p.Starts=(nth l.Pages i).Starts++m∧(putV l i p).Calls=l.Calls++QG p.ID l.Fence m:=by
 obtain⟨m,hm⟩:=hx
 refine⟨m,hm,?_⟩
 unfold putV
 dsimp only
 rw[hm,List.drop_left]
theorem YZ{α:Type}[Inhabited α]{l:List α}{i:Nat}{x:α}(h:i<l.length):nth (l.set i x) i=x:=by
 simp[nth,List.getD_eq_getElem?_getD,h]
theorem WY{α:Type}[Inhabited α]{l:List α}{i j:Nat}{x:α}(h:j≠i):nth (l.set i x) j=nth l j:=by
 simp[nth,List.getD_eq_getElem?_getD,List.getElem?_set,Ne.symm h]
theorem QkV{α:Type}[Inhabited α]{l:List α}{x:α}(h:x∈l):∃i,i<l.length∧nth l i=x:=by
 obtain⟨i,hi,e⟩:=List.getElem_of_mem h
 exact⟨i,hi,by simp[nth,List.getD_eq_getElem?_getD,List.getElem?_eq_getElem hi,e]⟩
theorem Qc.put(h:Qc M n l)(hi:i<l.Pages.length)(hp:QJ QT M l.Book p)(hl:p.Last≤l.Now)(hid:p.ID=(nth l.Pages i).ID)(hx:Ext (nth l.Pages i) p):Qc M n (putV l i p):=by
 obtain⟨m,hm,hc⟩:=QpT hx
 have hf:=h.fence
 have hpage:∀q∈(l.Pages.set i p),q=p∨(q∈l.Pages∧q.ID≠p.ID):=by
  intro q hq
  obtain⟨j,hj,rfl⟩:=QkV hq
  rw[List.length_set]at hj
  by_cases e:j=i
  ·subst e;rw[YZ hj];exact .inl rfl
  ·rw[WY e]
   refine .inr ⟨Qj hj,fun e2=>?_⟩
   rw[hid]at e2
   have h1:=Qgf h.asc hj
   have h2:=Qgf h.asc hi
   rw[e2]at h1;omega
 refine⟨h.top,h.now,h.small,h.cfg,h.book,fun q hq=>?_,QtO h.asc hi hid,by show(l.Pages.set i p).length≤64;rw[List.length_set];exact h.len,h.owner,h.fence,h.seen,fun q hq=>?_,fun x hx=>?_⟩
 ·rcases hpage q hq with rfl|⟨hq,_⟩
  ·exact⟨hp,hl⟩
  ·exact h.page q hq
 ·rw[hc]
  show Told l.Fence q _
  rcases hpage q hq with rfl|⟨hq,hne⟩
  ·exact hid ▸ (h.told _ (Qj hi)).more hf.1 hid hm
  ·exact(h.told q hq).other hne
 ·rw[hc]at hx
  show ∃q∈l.Pages.set i p,q.ID=x.Page
  rcases List.mem_append.1 hx with hx|hx
  ·obtain⟨q,hq,e⟩:=h.all x hx
   obtain⟨j,hj,rfl⟩:=QkV hq
   by_cases e2:j=i
   ·subst e2;exact⟨p,by have:=Qj (l:=l.Pages.set j p) (i:=j) (by simpa using hj);rwa [YZ hj]at this,by rw[hid,e]⟩
   ·exact⟨_,by have:=Qj (l:=l.Pages.set i p) (i:=j) (by simpa using hj);rwa [WY e2]at this,e⟩
  ·exact⟨p,by have:=Qj (l:=l.Pages.set i p) (i:=i) (by simpa using hi);rwa [YZ hi]at this,(X3 x hx).1.symm⟩
theorem Qc.at(h:Qc M n l)(hi:i<l.Pages.length):QJ QT M l.Book (nth l.Pages i)∧(nth l.Pages i).Last≤l.Now:=h.page _ (Qj hi)
theorem Qc.runEq(h:Qc M n l)(hi:i<l.Pages.length):runI l i=putV l i (runV l.Config l.Book (nth l.Pages i) l.Now).1:=by
 unfold runI
 rw[(Qcc h.book QT.step (h.at hi).1).2.1,if_neg (by simp)]
theorem Qc.run(h:Qc M n l)(hi:i<l.Pages.length):Qc M n (runI l i):=by
 rw[h.runEq hi]
 have hp:=h.at hi
 exact h.put hi (Qcc h.book QT.step hp.1).1 (Qsa h.book QT.step hp.1 hp.2) (Up h.book QT.step hp.1).id (Qly h.book hp.1)
theorem YH:(runI l i).Now=l.Now∧(runI l i).Config=l.Config∧(runI l i).Book=l.Book∧(runI l i).Owner=l.Owner∧(runI l i).Fence=l.Fence∧(runI l i).Seen=l.Seen∧(runI l i).Pages.length=l.Pages.length:=by
 unfold runI putV
 split
 ·exact⟨rfl,rfl,rfl,rfl,rfl,rfl,rfl⟩
 ·exact⟨rfl,rfl,rfl,rfl,rfl,rfl,by simp⟩
theorem Qbz(h:Qc M n l)(hi:i<l.Pages.length){j:Nat}:nth (runI l i).Pages j=if j=i then(runV l.Config l.Book (nth l.Pages i) l.Now).1 else nth l.Pages j:=by
 rw[h.runEq hi]
 unfold putV
 dsimp only
 split
 ·rename_i e;subst e;rw[YZ hi]
 ·rename_i e;rw[WY e]
theorem Yj:∀{k:Nat},(Zj l k).Now=l.Now∧(Zj l k).Config=l.Config∧(Zj l k).Book=l.Book∧(Zj l k).Owner=l.Owner∧(Zj l k).Fence=l.Fence∧(Zj l k).Seen=l.Seen∧(Zj l k).Pages.length=l.Pages.length
 |0=>⟨rfl,rfl,rfl,rfl,rfl,rfl,rfl⟩
 |k+1=>by
  have h1:=YH (l:=Zj l k) (i:=k)
  have h2:=Yj (k:=k)
  rw[Zj]
  exact⟨h1.1.trans h2.1,h1.2.1.trans h2.2.1,h1.2.2.1.trans h2.2.2.1,h1.2.2.2.1.trans h2.2.2.2.1,h1.2.2.2.2.1.trans h2.2.2.2.2.1,h1.2.2.2.2.2.1.trans h2.2.2.2.2.2.1,h1.2.2.2.2.2.2.trans h2.2.2.2.2.2.2⟩
theorem Qc.runs(h:Qc M n l):∀{k:Nat},k≤l.Pages.length→Qc M n (Zj l k)
 |0,_=>h
 |k+1,hk=>by
  have h2:=Yj (l:=l) (k:=k)
  exact(h.runs (k:=k) (by omega)).run (by omega)
theorem QkD{x:D.Edit}{s:Int}(h:Q3 n c)(hx:U8 x)(hs:0≤s∧s<2):Q3 (n+1) (Qh5 c s x):=by
 have hsl:=h.slen
 have hi:s.toNat<c.Schedules.length:=by omega
 have hso:=h.sched _ (Qj hi)
 refine⟨h.zone,h.pname,h.person,h.cal,?_,fun y hy=>?_⟩
 ·rw[←h.sname]
  unfold Qh5
  dsimp only
  refine List.ext_getElem (by simp) fun j h1 h2=>?_
  simp only[List.getElem_map,List.getElem_set]
  split
  ·rename_i e;subst e
   simp[nth,List.getD_eq_getElem?_getD,List.getElem?_eq_getElem hi]
  ·rfl
 ·obtain⟨j,hj,rfl⟩:=QkV hy
  have hj:j<(c.Schedules.set s.toNat _).length:=hj
  rw[List.length_set]at hj
  show QcB (n+1) (nth (c.Schedules.set s.toNat _) j)
  by_cases e:j=s.toNat
  ·subst e
   rw[YZ hi]
   exact⟨hso.layers,by have:=hso.len;simp;omega,fun z hz=>by
    rcases List.mem_append.1 hz with hz|hz
    ·exact hso.edit z hz
    ·rw[List.mem_singleton.1 hz];exact hx⟩
  ·rw[WY e]
   have:=h.sched _ (Qj hj)
   exact⟨this.layers,by have:=this.len;omega,this.edit⟩
structure OpIn (o:D.Op):Prop where
 id:1≤o.ID∧o.ID≤1099511627776
 kind:1≤o.Kind∧o.Kind≤5
 region:0≤o.Region∧o.Region≤4
 fence:0≤o.Fence∧o.Fence≤1048576
 at_:0≤o.At∧o.At≤8589934592
 page:0≤o.Page∧o.Page≤999999
 k : -1≤o.K∧o.K≤1000
 answer:o.Kind=4→Yz o.Answer=true∧(o.Answer.Kind=3→o.Answer.Arg≤5000)
 edit:o.Kind=5→U8 o.Edit
theorem Qsu{a:D.Answer}{t:Int}(h:Yz a=true)(ht:0≤t∧t≤8589934592):Yz { a with At:=t }=true:=by
 unfold Yz at h ⊢
 simp only[bae,QN]at h ⊢
 exact⟨⟨⟨⟨⟨h.1.1.1.1.1,h.1.1.1.1.2⟩,h.1.1.1.2⟩,ht⟩,h.1.2⟩,h.2⟩
theorem Qc.see{o:D.Op}(h:Qc M n l)(ho:OpIn o)(hn:max l.Now o.At≤M - 20000)(hs:l.Seen.contains o.ID=false)(hl:l.Seen.length<256):Qc M n { l with Now:=max l.Now o.At,Seen:=l.Seen++[o.ID] }:=by
 have hnow:=h.now;have hf:=h.fence
 refine⟨h.top,⟨by dsimp only;omega,hn⟩,h.small,h.cfg,h.book,fun p hp=>⟨(h.page p hp).1,by have:=(h.page p hp).2;dsimp only;omega⟩,h.asc,h.len,h.owner,⟨hf.1,by dsimp only;rw[List.length_append];simp;omega⟩,?_,h.told,h.all⟩
 have:=h.seen.snoc ho.id hs
 exact⟨by dsimp only;simp;omega,this.nodup,this.fit⟩
theorem Qc.open{o:D.Op}(h:Qc M n l)(hp:hasV o.Page l.Pages=false)(h1:1≤o.Page∧o.Page≤999999)(h2:0≤o.Policy∧o.Policy<(l.Book.Policies.length:Int))(hl:l.Pages.length<64):
  Qc M n { l with Pages:=insP l.Pages (newP o.Page o.Policy l.Now) }∧posV o.Page l.Pages<(insP l.Pages (newP o.Page o.Policy l.Now)).length∧nth (insP l.Pages (newP o.Page o.Policy l.Now)) (posV o.Page l.Pages)=newP o.Page o.Policy l.Now:=by
 have hnow:=h.now
 have hnew:QJ QT M l.Book (newP o.Page o.Policy l.Now):=Qn2 h.top h.book h1 h2 hnow
 have hlen:(insP l.Pages (newP o.Page o.Policy l.Now)).length=l.Pages.length+1:=by
  unfold insP;rw[List.length_append,List.length_cons,List.length_take,List.length_drop]
  have:=VS (id:=o.Page) (l:=l.Pages)
  show min (posV o.Page l.Pages) _+(_ - posV o.Page l.Pages+1)=_
  omega
 have hpos:=VS (id:=o.Page) (l:=l.Pages)
 refine⟨⟨h.top,h.now,h.small,h.cfg,h.book,fun q hq=>?_,Qtd h.asc hp,by dsimp only;omega,h.owner,h.fence,h.seen,fun q hq=>?_,fun x hx=>?_⟩,by omega,?_⟩
 ·rcases Qfd.1 hq with rfl|hq
  ·exact⟨hnew,Int.le_refl _⟩
  ·exact h.page q hq
 ·rcases Qfd.1 hq with rfl|hq
  ·have e:ownC o.Page l.Calls=[]:=List.filter_eq_nil_iff.2 fun x hx=>by
    obtain⟨q,hq,e⟩:=h.all x hx
    have:=Qrj h.asc hp q hq
    simp;omega
   exact⟨by show(ownC o.Page l.Calls).map unf=_;rw[e];rfl,by show(ownC o.Page l.Calls).Pairwise _;rw[e];exact List.Pairwise.nil,by show ∀x∈ownC o.Page l.Calls,_;rw[e];simp⟩
  ·exact h.told q hq
 ·obtain⟨q,hq,e⟩:=h.all x hx
  exact⟨q,Qfd.2 (.inr hq),e⟩
 ·unfold insP
  show nth (l.Pages.take (posV o.Page l.Pages)++_::_) (posV o.Page l.Pages)=_
  simp[nth,List.getD_eq_getElem?_getD,List.getElem?_append,Nat.min_eq_left hpos]
theorem Qc.own{o:D.Op}(h:Qc M n l)(ho:OpIn o)(hf:o.Fence=l.Fence+1)(hs:l.Fence<(l.Seen.length:Int)):Qc M n { l with Owner:=o.Region,Fence:=o.Fence }:=by
 have hr:=ho.region;have h0:=h.fence
 exact⟨h.top,h.now,h.small,h.cfg,h.book,h.page,h.asc,h.len,⟨by dsimp only;omega,by dsimp only;omega⟩,⟨by dsimp only;omega,by dsimp only;omega⟩,h.seen,fun p hp=>(h.told p hp).mono (by dsimp only;omega),h.all⟩
theorem Qc.edit{o:D.Op}(h:Qc M n l)(hn:n<48)(hx:U8 o.Edit)(hs:0≤o.Schedule∧o.Schedule<2):Qc M (n+1) { l with Config:=Qh5 l.Config o.Schedule o.Edit }:=
 ⟨h.top,h.now,by omega,QkD h.cfg hx hs,h.book,h.page,h.asc,h.len,h.owner,h.fence,h.seen,h.told,h.all⟩
theorem Qc.wide(h:Qc M n l)(hn:n<48):Qc M (n+1) l:=
 ⟨h.top,h.now,by omega,h.cfg.mono (by omega),h.book,h.page,h.asc,h.len,h.owner,h.fence,h.seen,h.told,h.all⟩
theorem Xu{id:Int}(h:hasV id l.Pages=true):posV id l.Pages<l.Pages.length∧(nth l.Pages (posV id l.Pages)).ID=id:=by
 unfold hasV at h;exact of_decide_eq_true h
theorem Qc.answer{a:D.Answer}(h:Qc M n l)(hi:i<l.Pages.length)(ha:a.At=l.Now)(hv:Yz a=true)(hs:a.Kind=3→a.Arg≤5000)(hr:(answerV l.Book (nth l.Pages i) a).2=0):Qc M n (putV l i (answerV l.Book (nth l.Pages i) a).1):=by
 have hp:=h.at hi
 have hc:=hp.1.check h.book
 have hnow:=h.now
 revert hr
 unfold answerV
 rw[hc,hv,if_neg (by simp)]
 split
 ·intro e;simp at e
 ·split
  ·intro _;exact h.put hi hp.1 hp.2 rfl (Ext.refl _)
  ·rename_i hs2
   split
   ·rename_i hre;intro e;exact absurd e hre
   ·rename_i hre
    intro _
    have hre:Xz (nth l.Pages i) a=0:=by simpa using hre
    have h0:=Qna hre
    exact h.put hi (hp.1.answerQ_inv h.book hv (by omega) hs (by simpa using hs2) hre) (by rw[←ha];exact QlR h0.1) Qdv.1 Qem
theorem Qc.op{o:D.Op}(h:Qc M n l)(hn:n<48)(ho:OpIn o)(hs:l.Fence<(l.Seen.length:Int)):Qc M (n+1) (opV l o).1:=by
 have hw:=h.wide hn
 have hk:=ho.kind
 unfold opV
 split
 ·split
  ·exact hw
  ·rename_i hp
   split
   ·exact hw
   ·split
    ·exact hw
    ·split
     ·rename_i h1 h2 h3
      have h4:=ho.page;have h5:=h.len
      have:=hw.open (o:=o) (by simpa using hp) (by omega) h3 (by omega)
      exact this.1.run this.2.1
     ·exact hw
 ·split
  ·split
   ·rename_i hf
    exact hw.own ho hf hs
   ·exact hw
  ·split
   ·split
    ·split
     ·rename_i hp
      generalize (if (nth l.Pages (posV o.Page l.Pages)).State=2 then(-1:Int)else(nth l.Pages (posV o.Page l.Pages)).Next)=kk
      split
      ·exact hw.run (Xu hp).1
      ·exact hw
     ·exact hw
    ·exact hw
   ·split
    ·rename_i k4
     split
     ·rename_i hp
      have hi:=(Xu hp).1
      have hr:=hw.run hi
      have hkp:=YH (l:=l) (i:=posV o.Answer.Page l.Pages)
      have ha:=ho.answer k4
      have hnow:=h.now;have htop:=h.top
      split
      ·rename_i he
       have:=hr.answer (i:=posV o.Answer.Page l.Pages) (a:={ o.Answer with At:=l.Now }) (by omega) hkp.1.symm (Qsu ha.1 (by omega)) ha.2 (by rw[hkp.2.2.1];exact he)
       rw[hkp.2.2.1]at this
       exact this
      ·exact hr
     ·exact hw
    ·have he:=ho.edit (by omega)
     split
     ·rename_i hsch
      have h3:=h.runs (Nat.le_refl _)
      have h4:=Yj (l:=l) (k:=l.Pages.length)
      have:=h3.edit hn he hsch
      rw[h4.2.1]at this
      exact this
     ·exact hw.runs (Nat.le_refl _)
theorem Qc.apply{o:D.Op}(h:Qc M n l)(hn:n<48)(ho:OpIn o)(ht:max l.Now o.At≤M - 20000)(hl:l.Seen.length<256):Qc M (n+1) (Qr l o).1:=by
 unfold Qr
 split
 ·exact h.wide hn
 ·rename_i hs
  exact(h.see ho ht (by simpa using hs) hl).op hn ho (by dsimp only;have:=h.fence;rw[List.length_append];simp;omega)
end
end Go.Proofs.YtgokjdfkpnkekaaGreat
/-
  Ledgers looked at: what the reference's calls and checks compute.
-/
namespace Go.Proofs.YtgokjdfkpnkekaaGreat
open Go AM
attribute [local irreducible] dueV stepV runV QS answerV
section
variable {n:Nat} {c:D.Config} {b:D.Book} {p q:D.Page} {now M:Int} {l:D.Ledger}
theorem Qab{id f:Int}{m:Nat}:∀{l:List D.Start},(∀s∈l,s.People.length≤m)→(QG id f l).length≤m*l.length
 |[],_=>by simp[QG]
 |s::l,h=>by
  have:=Qab (id:=id) (f:=f) (l:=l) fun x hx=>h x (List.mem_cons_of_mem _ hx)
  have h1:=h s (List.mem_cons_self ..)
  unfold QG at this ⊢
  rw[List.flatMap_cons,List.length_append,List.length_map,List.length_cons,Nat.mul_succ];omega
theorem QcH{id f:Int}{l:List D.Start}{s:D.Start}:QG id f (l++[s])=QG id f l++s.People.map fun x=>D.Call.mk id s.K s.At x f:=by
 rw[Qa3];unfold QG;simp
theorem Qo5{α:Type}[Inhabited α]{l:List α}{k j:Nat}:nth (l.drop k) j=nth l (k+j):=by
 simp[nth,List.getD_eq_getElem?_getD,List.getElem?_drop]
theorem Qkv(h:Qy p){k:Nat}{f:Int}(hk:k≤p.Starts.length):Qbu 1000 p (k:Int) f=some (QG p.ID f (p.Starts.drop k)):=by
 have hst:=h.st
 refine Ok.eq ?_
 unfold Qbu
 refine Ok.run (p.Starts.length - k) (fun j=>((f,((k+j:Nat):Int),()),p,QG p.ID f ((p.Starts.drop k).take j),())) rfl (by omega) (fun j hj kk hkk=>?_) (fun kk=>?_)
 ·try dsimp only
  have hlt:k+j<p.Starts.length:=by omega
  refine Ok.p (by omega) (Ok.atn hlt ?_)
  have hpe:=(h.pe _ (Qj hlt)).1
  have hdl:j<(p.Starts.drop k).length:=by simp;omega
  have hts:(p.Starts.drop k).take (j+1)=(p.Starts.drop k).take j++[nth p.Starts (k+j)]:=by rw[←QF hdl,Qo5]
  have hol:(QG p.ID f ((p.Starts.drop k).take j)).length≤40*((p.Starts.drop k).take j).length:=Qab (m:=40) fun s hs=>(h.pe s (List.mem_of_mem_drop (List.mem_of_mem_take hs))).1
  rw[List.length_take]at hol
  obtain⟨s,hs⟩:∃s,nth p.Starts (k+j)=s:=⟨_,rfl⟩
  rw[hs]at hpe hts ⊢
  refine Ok.run s.People.length (fun z=>((f,((k+j:Nat):Int),(z:Int),()),p,s,QG p.ID f ((p.Starts.drop k).take j)++(s.People.take z).map (fun x=>D.Call.mk p.ID s.K s.At x f),())) (by rw[List.take_zero,List.map_nil,List.append_nil];rfl) (by omega) (fun z hz k2 hk2=>?_) (fun k2=>?_)
  ·try dsimp only
   refine Ok.p (by omega) (Ok.atn hz (Ok.lec ?_ ?_))
   ·simp only[List.length_append,List.length_map,List.length_take,List.length_cons,List.length_nil];omega
   ·try dsimp only
    rw[Qa (by omega)]
    try dsimp only at hk2
    rw[←QF hz,List.map_append,←List.append_assoc]at hk2
    exact hk2
  ·try dsimp only
   refine Ok.n (by omega) ?_
   try dsimp only
   rw[Qa (by omega),List.take_length]
   try dsimp only at hkk
   rw[hts,QcH]at hkk
   exact hkk
 ·try dsimp only
  refine Ok.n (by omega) (Ok.s ?_)
  rw[List.take_of_length_le (by simp)]
theorem Qjp{id:Int}{cs:List D.Call}{i:Nat}(hi:i<cs.length):ownC id (cs.take (i+1))=ownC id (cs.take i)++(if (nth cs i).Page=id then[nth cs i]else[]):=by
 rw[←QF hi,VR]
 congr 1
 unfold ownC
 by_cases h:(nth cs i).Page=id
 ·simp[h]
 ·simp[h]
theorem QvO(h:Qy p)(hl:l.Calls.length≤900)(ht:Told l.Fence p l.Calls):QdV 1000 l p=some true:=by
 have hW:=ht.same
 obtain⟨W,hWe⟩:∃W,QG p.ID 0 p.Starts=W:=⟨_,rfl⟩
 rw[hWe]at hW
 have hWl:W.length=(ownC p.ID l.Calls).length:=by rw[←hW,List.length_map]
 have hol:∀i,(ownC p.ID (l.Calls.take i)).length≤900:=fun i=>by
  unfold ownC
  exact Nat.le_trans (List.length_filter_le _ _) (by rw[List.length_take];omega)
 refine Ok.eq ?_
 unfold QdV
 have hc:=Qkv (k:=0) (f:=0) h (Nat.zero_le _)
 rw[List.drop_zero,hWe]at hc
 refine Ok.oe hc ?_
 refine Ok.loop (fun m x=>∃(i:Nat) (fe:Int),x=((W,((ownC p.ID (l.Calls.take i)).length:Int),fe,(i:Int),()),l,p,())∧i≤l.Calls.length∧(fe=0∨∃c∈ownC p.ID (l.Calls.take i),c.Fence=fe)∧m=l.Calls.length - i) (m:=l.Calls.length) (by omega)
  ⟨0,0,by rw[List.take_zero];rfl,by omega,.inl rfl,rfl⟩ ?_
 rintro m x ⟨i,fe,rfl,i1,i2,rfl⟩ K hK
 try dsimp only
 have hoi:=hol i
 refine Ok.ite (fun hi=>?_) (fun hi=>?_)
 ·have hlt:i<l.Calls.length:=by omega
  refine Ok.j (Ok.atn hlt ?_)
  have hsu:=Qjp (id:=p.ID) hlt
  have hsp:l.Calls=l.Calls.take i++nth l.Calls i::l.Calls.drop (i+1):=by rw[←QcM hlt,List.take_append_drop]
  obtain⟨c,hce⟩:∃c,nth l.Calls i=c:=⟨_,rfl⟩
  rw[hce]at hsu hsp ⊢
  refine Ok.ite (fun g=>?_) (fun g=>?_)
  ·rw[if_neg g,List.append_nil]at hsu
   try dsimp only
   rw[Qa (by omega)]
   refine hK _ _ (by omega) ⟨i+1,fe,by rw[hsu],by omega,by rw[hsu];exact i2,rfl⟩
  ·have g:c.Page=p.ID:=by omega
   rw[if_pos g]at hsu
   have hown:ownC p.ID l.Calls=ownC p.ID (l.Calls.take i)++c::ownC p.ID (l.Calls.drop (i+1)):=by
    rw[hsp,VR]
    congr 1
    ·rw[←hsp]
    ·unfold ownC
     rw[List.filter_cons_of_pos (by simpa using g)]
     rw[←hsp]
   have hcm:c∈ownC p.ID l.Calls:=by rw[hown];simp
   have hfit:=ht.fit c hcm
   have hle:fe≤c.Fence:=by
    rcases i2 with rfl|⟨c',hc',rfl⟩
    ·exact hfit.1
    ·have:=ht.up
     rw[hown]at this
     exact(List.pairwise_append.1 this).2.2 c' hc' c (List.mem_cons_self ..)
   have hn:(ownC p.ID (l.Calls.take i)).length<W.length:=by rw[hWl,hown];simp
   have hnth:nth W (ownC p.ID (l.Calls.take i)).length=unf c:=by
    have e:W=(ownC p.ID (l.Calls.take i)).map unf++(unf c::(ownC p.ID (l.Calls.drop (i+1))).map unf):=by rw[←hW,hown,List.map_append,List.map_cons]
    rw[e]
    simp[nth,List.getD_eq_getElem?_getD]
   refine Ok.join (fun y=>y=((W,((ownC p.ID (l.Calls.take i)).length:Int),(i:Int),()),l,p,c,())) (fun y hy=>?_) (fun J hJ=>Ok.n (by omega) (Ok.n (by omega) (Ok.n (by omega) (hJ _ rfl))))
   subst hy
   try dsimp only
   refine Ok.atn hn ?_
   rw[hnth]
   refine Ok.n (fun h=>h rfl) ?_
   try dsimp only
   rw[Qa (by omega),Qa (by omega)]
   refine hK _ _ (by omega) ⟨i+1,c.Fence,by rw[hsu];simp,by omega,.inr ⟨c,by rw[hsu];simp,rfl⟩,rfl⟩
 ·have e:i=l.Calls.length:=by omega
  subst e
  refine Ok.s (decide_eq_true ?_)
  rw[List.take_length,hWl]
def sumC(l:List D.Page)(f:D.Page→Nat):Nat:=(l.map f).sum
theorem QtS{l:List D.Page}{f g h:D.Page→Nat}(e:∀p∈l,f p=g p+h p):sumC l f=sumC l g+sumC l h:=by
 induction l with
 |nil=>rfl
 |cons p l ih=>
  have:=ih fun q hq=>e q (List.mem_cons_of_mem _ hq)
  have h1:=e p (List.mem_cons_self ..)
  simp only[sumC,List.map_cons,List.sum_cons]at this ⊢
  omega
theorem QtT{l:List D.Page}{x:Int}(ha:AscP l)(hx:∃p∈l,p.ID=x):sumC l (fun p=>if x=p.ID then 1 else 0)=1:=by
 induction l with
 |nil=>obtain⟨p,hp,_⟩:=hx;simp at hp
 |cons q l ih=>
  have ha':=List.pairwise_cons.1 ha
  have hz:∀(l:List D.Page),(∀p∈l,x≠p.ID)→sumC l (fun p=>if x=p.ID then 1 else 0)=0:=by
   intro l
   induction l with
   |nil=>intro _;rfl
   |cons p l ih=>
    intro h
    simp only[sumC,List.map_cons,List.sum_cons]
    rw[if_neg (h p (List.mem_cons_self ..))]
    have:=ih fun q hq=>h q (List.mem_cons_of_mem _ hq)
    unfold sumC at this;omega
  simp only[sumC,List.map_cons,List.sum_cons]
  by_cases e:x=q.ID
  ·rw[if_pos e]
   have:=hz l fun p hp e'=>by have:=ha'.1 p hp;omega
   unfold sumC at this;omega
  ·rw[if_neg e]
   have:=ih ha'.2 (by
    obtain⟨p,hp,h2⟩:=hx
    rcases List.mem_cons.1 hp with rfl|hp
    ·exact absurd h2.symm e
    ·exact⟨p,hp,h2⟩)
   unfold sumC at this;omega
theorem Qkf{l:List D.Page}(ha:AscP l):∀{cs:List D.Call},(∀c∈cs,∃p∈l,p.ID=c.Page)→sumC l (fun p=>(ownC p.ID cs).length)=cs.length
 |[],_=>by
  have:∀l:List D.Page,sumC l (fun p=>(ownC p.ID []).length)=0:=by
   intro l
   induction l with
   |nil=>rfl
   |cons p l ih=>simp only[sumC,List.map_cons,List.sum_cons]at ih ⊢;simpa [ownC]using ih
  rw[this];rfl
 |c::cs,h=>by
  have h1:=Qkf ha (cs:=cs) fun x hx=>h x (List.mem_cons_of_mem _ hx)
  have h2:=QtT ha (h c (List.mem_cons_self ..))
  rw[QtS (g:=fun p=>(ownC p.ID cs).length) (h:=fun p=>if c.Page=p.ID then 1 else 0) (fun p hp=>?_),h1,h2,List.length_cons]
  unfold ownC
  by_cases e:c.Page=p.ID
  ·rw[List.filter_cons_of_pos (by simpa using e),if_pos e,List.length_cons]
  ·rw[List.filter_cons_of_neg (by simpa using e),if_neg e];rfl
theorem Qow{l:List D.Page}{f:D.Page→Nat}{m:Nat}(h:∀p∈l,f p≤m):sumC l f≤m*l.length:=by
 induction l with
 |nil=>simp[sumC]
 |cons p l ih=>
  have h1:=h p (List.mem_cons_self ..)
  have h2:=ih fun q hq=>h q (List.mem_cons_of_mem _ hq)
  simp only[sumC,List.map_cons,List.sum_cons,List.length_cons]at h2 ⊢
  have:m*(l.length+1)=m*l.length+m:=Nat.mul_succ ..
  omega
end
end Go.Proofs.YtgokjdfkpnkekaaGreat
/-
  Books that dice make are right, for the reference's check.
-/
namespace Go.Proofs.YtgokjdfkpnkekaaGreat
open Go AM
section
variable {n:Nat} {c:D.Config} {b:D.Book}
theorem QkY{α:Type}[Inhabited α]{l:List α}{k i:Nat}(h:i<k):nth (l.take k) i=nth l i:=by
 simp[nth,List.getD_eq_getElem?_getD,List.getElem?_take,h]
theorem QI.tnm(h:QI b){i:Nat}(hi:i<b.Teams.length):(nth b.Teams i).Name=nth QeX i:=by
 rw[Qhf h.tname hi,QkY hi]
theorem QI.pnm(h:QI b){i:Nat}(hi:i<b.Policies.length):(nth b.Policies i).Name=nth Qi9 i:=by
 rw[Qhf h.pname hi,QkY hi]
theorem forall3{P:Nat→Prop}(h0:P 0)(h1:P 1)(h2:P 2):∀i,i<3→P i:=fun i hi=>by
 rcases(show i=0∨i=1∨i=2 by omega)with rfl|rfl|rfl
 ·exact h0
 ·exact h1
 ·exact h2
theorem Qvj:∀i,i<2→QdN 1000 (nth QeX i)=some true:=forall2 (by kernel_rfl) (by kernel_rfl)
theorem Qvi:∀i,i<3→QdN 1000 (nth Qi9 i)=some true:=forall3 (by kernel_rfl) (by kernel_rfl) (by kernel_rfl)
theorem Ql0:∀i,i<2→∀j,j<i→nth QeX j≠nth QeX i:=by decide
theorem QoB:∀i,i<3→∀j,j<i→nth Qi9 j≠nth Qi9 i:=by decide
theorem QvF{l:List Int}{m:Int}(ha:Asc l)(hm:∀x∈l,0≤x∧x<m)(hl:l.length<900):Qb6 1000 l m=some true:=by
 refine Ok.eq ?_
 unfold Qb6
 refine Ok.run l.length (fun i=>((l,m,(i:Int),()),())) rfl (by omega) (fun i hi k hk=>?_) (fun k=>by dsimp only;exact Ok.n (by omega) (Ok.s rfl))
 have hx:=hm _ (Qj hi)
 dsimp only
 refine Ok.p (by omega) (Ok.j (Ok.atn hi (Ok.n (by omega) (Ok.atn hi (Ok.n (by omega) ?_)))))
 dsimp only
 rw[Qa (by omega)]
 by_cases h0:0<i
 ·refine Ok.p (by omega) ?_
  rw[show IntKind.wrap .i64 ((i:Int) - 1)=((i - 1:Nat):Int)by rw[Qd (by omega)];omega]
  have:=QfN ha (show i - 1<i by omega) hi
  exact Ok.atn (by omega) (Ok.atn hi (Ok.n (by omega) hk))
 ·exact Ok.n (by omega) hk
theorem Qsr(h:Q3 n c)(hb:QI b){i:Nat}(hi:i<b.Teams.length):Qhm 1000 c b (i:Int)=some 0:=by
 have htl:=hb.tlen
 have ht:=hb.team _ (Qj hi)
 have hnm:=hb.tnm hi
 have hpl:=h.plen
 refine Ok.eq ?_
 unfold Qhm
 refine Ok.atn hi (Ok.oe (by rw[hnm];exact Qvj i (by omega)) (Ok.nt rfl ?_))
 obtain⟨x,hx⟩:∃x,nth b.Teams i=x:=⟨_,rfl⟩
 rw[hx]at ht hnm ⊢
 refine Ok.run2 i (fun k=>((i:Int),(k:Int),())) rfl (by omega) (fun k hk K hK=>?_) (fun K=>?_)
 ·dsimp only
  refine Ok.p (by omega) (Ok.atn (by omega) (Ok.n ?_ ?_))
  ·rw[hb.tnm (by omega),hnm];exact Ql0 i (by omega) k hk
  ·rw[Qa (by omega)];exact hK
 ·dsimp only
  have hml:=ht.len
  refine Ok.n (by omega) (Ok.n (by omega) ?_)
  refine Ok.run2 (x.Members.length - 1) (fun k=>(((k+1:Nat):Int),())) rfl (by omega) (fun k hk K hK=>?_) (fun K=>?_)
  ·dsimp only
   rw[show IntKind.wrap .i64 (((k+1:Nat):Int) - 1)=((k:Nat):Int)by rw[Qd (by omega)];omega]
   have:=QfN ht.asc (show k<k+1 by omega) (show k+1<x.Members.length by omega)
   refine Ok.p (by omega) (Ok.atn (by omega) (Ok.atn (by omega) (Ok.n (by omega) ?_)))
   rw[Qa (by omega)];exact hK
  ·dsimp only
   refine Ok.n (by omega) (Ok.oe (QvF ht.asc (fun z hz=>?_) (by omega)) (Ok.nt rfl (Ok.s rfl)))
   have:=ht.mem z hz;omega
theorem Qno(h:Q3 n c)(hb:QI b){l:List D.Target}(hl:l.length≤2)(ht:∀x∈l,Vb b.Teams.length x):Qb7 1000 c b l=some 0:=by
 have hpl:=h.plen;have hsl:=h.slen
 refine Ok.eq ?_
 unfold Qb7
 refine Ok.n (by omega) (Ok.run l.length (fun i=>((l,(i:Int),()),c,b,())) rfl (by omega) (fun i hi k hk=>?_) (fun k=>by dsimp only;exact Ok.n (by omega) (Ok.s rfl)))
 dsimp only
 have hx:=ht _ (Qj hi)
 have h1:=hx.lo;have h2:=hx.person;have h3:=hx.sched;have h4:=hx.team
 refine Ok.p (by omega) (Ok.j ?_)
 refine Ok.join (fun y=>∃m:Int,y=((l,(i:Int),m,()),c,b,())∧(nth l i).Index<m) (fun y hy=>?_) (fun J hJ=>?_)
 ·obtain⟨m,rfl,hm⟩:=hy
  dsimp only
  rw[Qa (by omega)]
  exact Ok.atn hi (Ok.n (by omega) (Ok.atn hi (Ok.n (by omega) hk)))
 ·refine Ok.atn hi ?_
  rcases hx.kind with hk|hk|hk
  ·have:=h2 hk
   exact Ok.p hk (hJ _ ⟨_,rfl,by omega⟩)
  ·have:=h3 hk
   exact Ok.n (by omega) (Ok.p hk (hJ _ ⟨_,rfl,by omega⟩))
  ·have:=h4 hk
   exact Ok.n (by omega) (Ok.n (by omega) (Ok.p hk (hJ _ ⟨_,rfl,by omega⟩)))
theorem Qn4(h:Q3 n c)(hb:QI b){i:Nat}(hi:i<b.Policies.length):QdR 1000 c b (i:Int)=some 0:=by
 have htl:=hb.plen
 have ht:=hb.pol _ (Qj hi)
 have hnm:=hb.pnm hi
 refine Ok.eq ?_
 unfold QdR
 refine Ok.atn hi (Ok.oe (by rw[hnm];exact Qvi i (by omega)) (Ok.nt rfl ?_))
 obtain⟨x,hx⟩:∃x,nth b.Policies i=x:=⟨_,rfl⟩
 rw[hx]at ht hnm ⊢
 refine Ok.run2 i (fun k=>((i:Int),(k:Int),())) rfl (by omega) (fun k hk K hK=>?_) (fun K=>?_)
 ·dsimp only
  refine Ok.p (by omega) (Ok.atn (by omega) (Ok.n ?_ ?_))
  ·rw[hb.pnm (by omega),hnm];exact QoB i (by omega) k hk
  ·rw[Qa (by omega)];exact hK
 ·dsimp only
  have hml:=ht.len;have hrp:=ht.rep
  refine Ok.n (by omega) (Ok.n (by omega) (Ok.n (by omega) (Ok.oe rin (Ok.nt (QN.2 (by omega)) ?_))))
  refine Ok.run2 x.Steps.length (fun k=>((k:Int),())) rfl (by omega) (fun k hk K hK=>?_) (fun K=>by dsimp only;exact Ok.n (by omega) (Ok.s rfl))
  dsimp only
  have hs:=ht.step _ (Qj hk)
  have hw:=hs.wait
  refine Ok.p (by omega) (Ok.atn hk (Ok.oe rin (Ok.nt (QN.2 (by omega)) (Ok.atn hk (Ok.oe (Qno h hb hs.len hs.target) (Ok.n (by simp) ?_))))))
  rw[Qa (by omega)];exact hK
theorem Ql1(h:Q3 n c)(hn:n≤48)(hb:QI b):Qdb 1000 c b=some 0:=by
 have htl:=hb.tlen;have hpl:=hb.plen
 refine Ok.eq ?_
 unfold Qdb
 refine Ok.oe (QcJ h hn) (Ok.n (by simp) (Ok.opt (P:=(·=0)) ?_ fun r hr=>Ok.s hr))
 unfold Qll
 refine Ok.j (Ok.n (by omega) (Ok.n (by omega) ?_))
 refine Ok.run b.Teams.length (fun i=>(((i:Int),()),c,b,())) rfl (by omega) (fun i hi k hk=>?_) (fun k=>?_)
 ·dsimp only
  refine Ok.p (by omega) (Ok.oe (Qsr h hb hi) (Ok.n (by simp) ?_))
  rw[Qa (by omega)];exact hk
 ·dsimp only
  refine Ok.n (by omega) (Ok.run b.Policies.length (fun i=>(((i:Int),()),c,b,())) rfl (by omega) (fun i hi k hk=>?_) (fun k=>by dsimp only;exact Ok.n (by omega) (Ok.s rfl)))
  dsimp only
  refine Ok.p (by omega) (Ok.oe (Qn4 h hb hi) (Ok.n (by simp) ?_))
  rw[Qa (by omega)];exact hk
end
end Go.Proofs.YtgokjdfkpnkekaaGreat
/-
  Ledgers: what the reference's check, search and runs compute.
-/
namespace Go.Proofs.YtgokjdfkpnkekaaGreat
open Go AM
attribute [local irreducible] dueV stepV runV QS answerV
section
variable {n:Nat} {c:D.Config} {b:D.Book} {p q:D.Page} {now M:Int} {l:D.Ledger} {i:Nat}
theorem Qc.callsN(h:Qc M n l):sumC l.Pages (fun p=>(ownC p.ID l.Calls).length)=l.Calls.length:=Qkf h.asc h.all
theorem Qc.ownN(h:Qc M n l)(hp:p∈l.Pages):(ownC p.ID l.Calls).length=(QG p.ID 0 p.Starts).length:=by
 have:=(h.told p hp).same
 rw[←this,List.length_map]
theorem Qc.callsLe(h:Qc M n l)(hpg:l.Pages.length≤9):l.Calls.length≤468:=by
 rw[←h.callsN]
 have:=Qow (l:=l.Pages) (f:=fun p=>(ownC p.ID l.Calls).length) (m:=52) fun p hp=>by
  obtain⟨g1,g2⟩:=h.page p hp
  obtain⟨t,g3,_⟩:=g1.goes
  have h1:=Qab (id:=p.ID) (f:=0) (m:=4) (Goes.short (fun s hs=>hs) g3)
  have h2:=(g1.len h.book).1
  show(ownC p.ID l.Calls).length≤52
  rw[h.ownN hp];omega
 omega
theorem Qnn{l:List D.Page}{f:D.Page→Nat}:sumC (l++[p]) f=sumC l f+f p:=by simp[sumC]
theorem QcV(h:Qc M n l)(hpg:l.Pages.length≤9):Qbt 1000 l=some true:=by
 have htop:=h.top;have hnow:=h.now;have how:=h.owner;have hfe:=h.fence;have hse:=h.seen.len;have hcl:=h.callsLe hpg
 refine Ok.eq ?_
 unfold Qbt
 refine Ok.j (Ok.oe (Ql1 h.cfg h.small h.book) (Ok.n (by simp) (Ok.oe rin (Ok.bt (QN.2 (by omega)) (Ok.n (by omega) (Ok.oe rin (Ok.bt (QN.2 how) (Ok.oe rin (Ok.bt (QN.2 (by omega)) (Ok.n (by omega) ?_))))))))))
 have hsle:∀i,sumC (l.Pages.take i) (fun p=>(ownC p.ID l.Calls).length)≤468*i:=fun i=>by
  have:=Qow (l:=l.Pages.take i) (f:=fun p=>(ownC p.ID l.Calls).length) (m:=468) fun p hp=>by
   show(ownC p.ID l.Calls).length≤468
   unfold ownC
   exact Nat.le_trans (List.length_filter_le _ _) hcl
  refine Nat.le_trans this (Nat.mul_le_mul_left _ ?_)
  simp only[List.length_take];omega
 refine Ok.run l.Pages.length (fun i=>((((sumC (l.Pages.take i) (fun p=>(ownC p.ID l.Calls).length):Nat):Int),(i:Int),()),l,())) rfl (by omega) (fun i hi k hk=>?_) (fun k=>?_)
 ·try dsimp only
  have hm:=Qj hi
  obtain⟨g1,g2⟩:=h.page _ hm
  have gt:=h.told _ hm
  have hown:=h.ownN hm
  have hs1:=hsle i
  have hs2:=hsle (i+1)
  refine Ok.p (by omega) (Ok.atn hi ?_)
  have hasc:0<i→(nth l.Pages (i - 1)).ID<(nth l.Pages i).ID:=fun h0=>QbK h.asc (by omega) hi
  try dsimp only at hk
  rw[←QF hi,Qnn]at hk
  obtain⟨p,hp⟩:∃p,nth l.Pages i=p:=⟨_,rfl⟩
  rw[hp]at g1 g2 gt hown hk hasc ⊢
  have hpl:=g1.plen h.book
  refine Ok.join (fun y=>y=((((sumC (l.Pages.take i) (fun p=>(ownC p.ID l.Calls).length):Nat):Int),(i:Int),()),l,p,())) (fun y hy=>?_) (fun J hJ=>?_)
  ·subst hy
   try dsimp only
   have hc:=Qkv (k:=0) (f:=0) hpl (Nat.zero_le _)
   rw[List.drop_zero]at hc
   refine Ok.oe hc ?_
   try dsimp only
   rw[Qa (by omega),←hown,Qd (by have:(ownC p.ID l.Calls).length≤468:=(by unfold ownC;exact Nat.le_trans (List.length_filter_le _ _) hcl);omega)]
   exact hk
  ·have tail:Ok (optc (Vt 1000 l.Book p) fun a13=>AM.cnd a13 (AM.cnd (decide (l.Now<p.Last)) (some false) (optc (QdV 1000 l p) fun a14=>AM.cnd a14 (J ((((sumC (l.Pages.take i) (fun p=>(ownC p.ID l.Calls).length):Nat):Int),(i:Int),()),l,p,())) (some false))) (some false)) (·=true):=
    Ok.oe (Qdw h.book hpl) (Ok.bt (g1.check h.book) (Ok.n (by omega) (Ok.oe (QvO hpl (by omega) gt) (Ok.t (hJ _ rfl)))))
   by_cases h0:0<i
   ·refine Ok.p (by omega) ?_
    rw[show IntKind.wrap .i64 ((i:Int) - 1)=((i - 1:Nat):Int)by rw[Qd (by omega)];omega]
    have:=hasc h0
    exact Ok.atn (by omega) (Ok.n (by omega) tail)
   ·exact Ok.n (by omega) tail
 ·try dsimp only
  refine Ok.n (by omega) ?_
  rw[List.take_length,h.callsN]
  refine Ok.run l.Seen.length (fun i=>((((l.Calls.length:Nat):Int),(i:Int),()),l,())) rfl (by omega) (fun i hi k hk=>?_) (fun k=>by dsimp only;exact Ok.n (by omega) (Ok.s (decide_eq_true rfl)))
  try dsimp only
  have hx:=h.seen.fit _ (Qj hi)
  have hno:(l.Seen.take i).contains (nth l.Seen i)=false:=by
   cases hc:(l.Seen.take i).contains (nth l.Seen i)with
   |false=>rfl
   |true=>
    have:=Qhs hi hc
    rw[decide_eq_true h.seen.nodup]at this;simp at this
  refine Ok.p (by omega) (Ok.j (Ok.atn hi (Ok.oe rin (Ok.bt (QN.2 hx) (Ok.natn (Ok.lec (by omega) (Ok.atn hi (Ok.oe (QbP (by simp;omega)) (Ok.bf hno ?_)))))))))
  try dsimp only
  rw[Qa (by omega)];exact hk
abbrev lgA(l:D.Ledger):Int×List D.Zone×List D.Person×List D.Calendar×List D.Schedule×List D.Team×List D.Policy×Int×Int×Unit:=(l.Now,l.Config.Zones,l.Config.People,l.Config.Calendars,l.Config.Schedules,l.Book.Teams,l.Book.Policies,l.Owner,l.Fence,())
def QfZ(l:D.Ledger)(id:Int):D.Page×Bool:=if hasV id l.Pages=true then(nth l.Pages (posV id l.Pages),true)else(page0,false)
theorem QnS{id:Int}(ha:AscP l.Pages)(hi:i<l.Pages.length)(h:(nth l.Pages i).ID=id):QfZ l id=(nth l.Pages i,true):=by
 subst h
 unfold QfZ
 rw[if_pos (QkN ha hi),Qgf ha hi]
theorem Qre{id:Int}(h:∀i,i<l.Pages.length→(nth l.Pages i).ID≠id):QfZ l id=(page0,false):=by
 unfold QfZ
 rw[if_neg]
 intro hh
 have:=Xu hh
 exact h _ this.1 this.2
theorem Qu6{id:Int}(hp:∀p∈l.Pages,Qy p)(ha:AscP l.Pages)(hl:l.Pages.length≤64):Qhq 1000 l id=some (QfZ l id):=by
 refine Ok.eq ?_
 unfold Qhq
 refine Ok.scan2 l.Pages.length (fun i=>(id,(i:Int),())) (fun i=>decide ((nth l.Pages i).ID=id)) rfl (by omega) (fun i hi hq _ k=>?_) (fun i hi hq k hk=>?_) (fun hq k=>?_)
 ·have hq:=of_decide_eq_true hq
  refine Ok.p (by omega) (Ok.atn hi (Ok.p hq (Ok.atn hi (Ok.oe (Qbh (hp _ (Qj hi))) (Ok.s ?_)))))
  rw[QnS ha hi hq]
 ·have hq:=of_decide_eq_false hq
  refine Ok.p (by omega) (Ok.atn hi (Ok.n hq ?_))
  try dsimp only
  rw[Qa (by omega)];exact hk
 ·refine Ok.n (by omega) (Ok.s ?_)
  rw[Qre fun i hi=>of_decide_eq_false (hq i hi)];rfl
theorem Qhb{id:Int}(hp:∀p∈l.Pages,Qy p)(ha:AscP l.Pages)(hl:l.Pages.length≤64):ZQ 1000 l id=some (QfZ l id):=by
 refine Ok.eq ?_
 unfold ZQ
 refine Ok.scan2 l.Pages.length (fun i=>(id,(i:Int),())) (fun i=>decide ((nth l.Pages i).ID=id)) rfl (by omega) (fun i hi hq _ k=>?_) (fun i hi hq k hk=>?_) (fun hq k=>?_)
 ·have hq:=of_decide_eq_true hq
  refine Ok.p (by omega) (Ok.natn (Ok.lt hi (Ok.get hi (Ok.p hq (Ok.natn (Ok.lt hi (Ok.get hi (Ok.oe (Qbh (hp _ (Qj hi))) (Ok.sameC (Ok.sameC (Ok.sameC (Ok.s ?_))))))))))))
  rw[QnS ha hi hq]
 ·have hq:=of_decide_eq_false hq
  refine Ok.p (by omega) (Ok.natn (Ok.lt hi (Ok.get hi (Ok.n hq ?_))))
  try dsimp only
  rw[Qa (by omega)];exact hk
 ·refine Ok.n (by omega) (Ok.sameC (Ok.sameC (Ok.sameC (Ok.s ?_))))
  rw[Qre fun i hi=>of_decide_eq_false (hq i hi)];rfl
theorem Qc.plens(h:Qc M n l):∀p∈l.Pages,Qy p:=fun p hp=>(h.page p hp).1.plen h.book
theorem Quh(ha:AscP l.Pages)(hl:l.Pages.length≤64)(hcl:l.Calls.length≤100000)(hi:i<l.Pages.length)(hid:p.ID=(nth l.Pages i).ID)(hpl:Qy p)(hle:(nth l.Pages i).Starts.length≤p.Starts.length):
  Xj 1000 l p=some (putV l i p):=by
 refine Ok.eq ?_
 unfold Xj
 refine Ok.run l.Pages.length (fun j=>(((j:Int),()),lgA l,p,({ Now:=0,Config:={ Zones:=[],People:=[],Calendars:=[],Schedules:=[] },Book:={ Teams:=[],Policies:=[] },Pages:=[],Owner:=0,Fence:=0,Seen:=[],Calls:=[] }:D.Ledger),(if j≤i then l.Pages else l.Pages.set i p),l.Seen,(if j≤i then l.Calls else l.Calls++QG p.ID l.Fence (p.Starts.drop (nth l.Pages i).Starts.length)),())) (by rw[if_pos (Nat.zero_le _),if_pos (Nat.zero_le _)];rfl) (by omega) (fun j hj k hk=>?_) (fun k=>?_)
 ·try dsimp only[lgA]at hk ⊢
  have hlen:(if j≤i then l.Pages else l.Pages.set i p).length=l.Pages.length:=by split<;>simp
  have hj':j<(if j≤i then l.Pages else l.Pages.set i p).length:=by omega
  have hnth:j≠i→nth (if j≤i then l.Pages else l.Pages.set i p) j=nth l.Pages j:=fun hne=>by
   split
   ·rfl
   ·exact WY hne
  refine Ok.p (by omega) (Ok.j (Ok.natn (Ok.lt hj' (Ok.get hj' ?_))))
  by_cases e:j=i
  ·subst e
   rw[if_pos (Nat.le_refl _),if_pos (Nat.le_refl _)]
   rw[if_neg (by omega),if_neg (by omega)]at hk
   have hc:=Qkv (k:=(nth l.Pages j).Starts.length) (f:=l.Fence) hpl hle
   have hcb:(QG p.ID l.Fence (p.Starts.drop (nth l.Pages j).Starts.length)).length≤40*(p.Starts.drop (nth l.Pages j).Starts.length).length:=Qab fun s hs=>(hpl.pe s (List.mem_of_mem_drop hs)).1
   have hst:=hpl.st
   rw[List.length_drop]at hcb
   refine Ok.p hid.symm (Ok.natn (Ok.lt hi (Ok.get hi (Ok.oe hc (Ok.lec (by omega) (Ok.natn (Ok.lt hi (Ok.get hi ?_))))))))
   try dsimp only
   rw[Qa (by omega)]
   exact hk
  ·rw[hnth e]
   have hne:(nth l.Pages j).ID≠p.ID:=by
    rw[hid]
    rcases Nat.lt_or_gt_of_ne e with h|h
    ·have:=QbK ha h hi;omega
    ·have:=QbK ha h hj;omega
   refine Ok.n hne ?_
   try dsimp only
   rw[Qa (by omega)]
   have e1:(j+1≤i)=(j≤i):=by apply propext;omega
   simp only[e1]at hk
   exact hk
 ·try dsimp only[lgA]
  rw[if_neg (by omega),if_neg (by omega)]
  refine Ok.n (by simp) (Ok.s ?_)
  rfl
theorem Qlw{id:Int}(h:Qc M n l)(hpg:l.Pages.length≤9):Z2 1000 l id l.Now=some (if hasV id l.Pages=true then runI l (posV id l.Pages)else l):=by
 have hcl:=h.callsLe hpg
 refine Ok.eq ?_
 unfold Z2
 refine Ok.oe (Qhb h.plens h.asc (by omega)) ?_
 unfold QfZ
 by_cases hh:hasV id l.Pages=true
 ·rw[if_pos hh,if_pos hh]
  try dsimp only
  have hi:=Xu hh
  obtain⟨g1,g2⟩:=h.at hi.1
  obtain⟨q,r1,r2,r3,r4⟩:=Qsb (c:=l.Config) h.book QT.step g1 l.Now
  have hx:=Qly (c:=l.Config) (now:=l.Now) h.book g1
  rw[r1]at hx
  refine Ok.f (Ok.oe (QtJ h.cfg h.small h.book (g1.plen h.book)) ?_)
  rw[r1]
  try dsimp only
  refine Ok.n (by simp) (Ok.oe (Quh (i:=posV id l.Pages) h.asc (by omega) (by omega) hi.1 r4.id (r2.plen h.book) ?_) (Ok.s ?_))
  ·obtain⟨m,hm⟩:=hx
   try dsimp only at hm
   rw[hm];simp
  ·unfold runI
   rw[r1,if_neg (by simp)]
 ·rw[if_neg hh,if_neg hh]
  exact Ok.t (Ok.s rfl)
end
end Go.Proofs.YtgokjdfkpnkekaaGreat
/-
  Ledgers: what the reference's operations compute.
-/
namespace Go.Proofs.YtgokjdfkpnkekaaGreat
open Go AM
attribute [local irreducible] dueV stepV runV QS answerV
section
variable {n:Nat} {c:D.Config} {b:D.Book} {p q:D.Page} {now M:Int} {l:D.Ledger} {i:Nat} {o:D.Op}
theorem Qs1(hp:∀p∈l.Pages,Qy p)(h1:l.Pages.length≤64)(h2:l.Seen.length≤1000)(h3:l.Calls.length≤100000):Qhp 1000 l=some l:=by
 refine Ok.eq ?_
 unfold Qhp
 refine Ok.run l.Pages.length (fun i=>(((i:Int),()),l,({ Now:=0,Config:={ Zones:=[],People:=[],Calendars:=[],Schedules:=[] },Book:={ Teams:=[],Policies:=[] },Pages:=[],Owner:=0,Fence:=0,Seen:=[],Calls:=[] }:D.Ledger),l.Pages.take i,())) rfl (by omega) (fun i hi k hk=>?_) (fun k=>?_)
 ·try dsimp only
  refine Ok.p (by omega) (Ok.atn hi (Ok.oe (Qbh (hp _ (Qj hi))) (Ok.lec (by simp;omega) ?_)))
  try dsimp only
  rw[Qa (by omega),QF hi]
  exact hk
 ·try dsimp only
  rw[List.take_length]
  exact Ok.n (by omega) (Ok.lec (by omega) (Ok.lec (by omega) (Ok.s rfl)))
theorem take_set{α:Type}[Inhabited α]{L:List α}{k:Nat}{x:α}(h:k<L.length):(L.take (k+1)).set k x=L.take k++[x]:=by
 rw[←QF h,List.set_append_right _ _ (by rw[List.length_take];omega)]
 simp[Nat.min_eq_left (Nat.le_of_lt h)]
theorem Qth{P:D.Page}{L:List D.Page}{k:Nat}(hk:k≤L.length):
  (List.take (k+1) (L++[P])++List.take ((L++[P]).length - (k+1)) (List.drop k (L++[P]))).set k P=L.take k++P::L.drop k:=by
 have hl:(L++[P]).length=L.length+1:=by simp
 rw[List.set_append_left _ _ (by rw[List.length_take,hl];omega),take_set (by rw[hl];omega),List.take_append_of_le_length hk,List.drop_append_of_le_length hk,hl,show L.length+1 - (k+1)=(L.drop k).length by simp,List.take_left,List.append_assoc]
 rfl
theorem Qvw{id:Int}{L:List D.Page}(ha:AscP L){k:Nat}(hk:k≤L.length)(h1:∀j,j<k→(nth L j).ID<id)(h2:k<L.length→id≤(nth L k).ID):posV id L=k:=by
 rcases Nat.lt_trichotomy (posV id L) k with h|h|h
 ·have:=QiF ha (id:=id) (Nat.le_refl _) (show posV id L<L.length by omega)
  have:=h1 _ h;omega
 ·exact h
 ·have:=Qk8 (l:=L) h
  have:=h2 (by have:=VS (id:=id) (l:=L);omega);omega
theorem Qvp(h:Qc M n l)(hpg:l.Pages.length≤8)(ho:OpIn o)(hk:o.Kind=1):XY 1000 l o l.Now (hasV o.Page l.Pages)=some (opV l o):=by
 have hnow:=h.now;have htop:=h.top;have hpl:=h.book.plen;have hop:=ho.page
 have hsl:=h.seen.len;have hcl:=h.callsLe (by omega)
 refine Ok.eq ?_
 unfold XY opV
 rw[if_pos hk]
 refine Ok.cnd (fun g=>Ok.s ?_) (fun g=>?_)
 ·rw[if_pos g]
 rw[if_neg (by rw[g];simp)]
 refine Ok.n (by omega) ?_
 rw[if_neg (by omega)]
 refine Ok.oe (QkW h.book) ?_
 unfold newV
 by_cases g1:o.Page<1
 ·rw[if_pos g1,if_neg (fun hh=>by have:=QN.1 hh.1;omega)]
  exact Ok.p (by simp) (Ok.s rfl)
 rw[if_neg g1,if_pos ⟨QN.2 (by omega),QN.2 (by omega)⟩]
 by_cases g2:0≤o.Policy∧o.Policy<(l.Book.Policies.length:Int)
 ·rw[if_pos g2,if_pos (QN.2 (by omega))]
  try dsimp only
  refine Ok.n (by simp) ?_
  obtain⟨hi1,hi2,hi3⟩:=h.open (o:=o) g (by omega) g2 (by omega)
  have hple:=VS (id:=o.Page) (l:=l.Pages)
  refine Ok.join (fun y=>y=((l.Now,((posV o.Page l.Pages:Nat):Int),()),lgA l,({ Now:=0,Config:={ Zones:=[],People:=[],Calendars:=[],Schedules:=[] },Book:={ Teams:=[],Policies:=[] },Pages:=[],Owner:=0,Fence:=0,Seen:=[],Calls:=[] }:D.Ledger),newP o.Page o.Policy l.Now,l.Pages,l.Seen,l.Calls,())) (fun y hy=>?_) (fun J hJ=>?_)
  ·subst hy
   try dsimp only[lgA]
   obtain⟨P,hP⟩:∃P,newP o.Page o.Policy l.Now=P:=⟨_,rfl⟩
   have hPid:P.ID=o.Page:=by subst hP;rfl
   rw[hP]at hi1 hi2 hi3 ⊢
   have hins:insP l.Pages P=l.Pages.take (posV o.Page l.Pages)++P::l.Pages.drop (posV o.Page l.Pages):=by unfold insP;rw[hPid]
   have hle1:(l.Pages++[P]).length=l.Pages.length+1:=by simp
   try dsimp only
   rw[Qa (by omega)]
   refine Ok.lec (by simp;omega) (Ok.natn (Ok.lec (by omega) (Ok.natn (Ok.lec (by omega) (Ok.ck rfl (Ok.ck rfl (Ok.lec (by omega) (Ok.lec (by omega) (Ok.natn (Ok.lt ?_ (Ok.get ?_ ?_)))))))))))
   ·simp only[List.length_append,List.length_take,List.length_drop,List.length_cons,List.length_nil];omega
   ·simp only[List.length_append,List.length_take,List.length_drop,List.length_cons,List.length_nil];omega
   rw[Qth hple,←hins]
   have hrun:=Qlw (id:=P.ID) hi1 (by show(insP l.Pages P).length≤9;rw[hins];simp;omega)
   have hpos:posV P.ID (insP l.Pages P)=posV o.Page l.Pages:=by
    have:=Qgf hi1.asc hi2
    rw[hi3]at this;exact this
   have hhas:hasV P.ID (insP l.Pages P)=true:=by
    have:=QkN hi1.asc hi2
    rw[hi3]at this;exact this
   rw[if_pos hhas,hpos]at hrun
   exact Ok.oe hrun (Ok.s rfl)
  ·have hfound:∀k:Nat,k≤l.Pages.length→(∀j,j<k→(nth l.Pages j).ID<o.Page)→(k<l.Pages.length→o.Page≤(nth l.Pages k).ID)→Ok (J ((l.Now,(k:Int),()),lgA l,({ Now:=0,Config:={ Zones:=[],People:=[],Calendars:=[],Schedules:=[] },Book:={ Teams:=[],Policies:=[] },Pages:=[],Owner:=0,Fence:=0,Seen:=[],Calls:=[] }:D.Ledger),newP o.Page o.Policy l.Now,l.Pages,l.Seen,l.Calls,())) _:=fun k h1 h2 h3=>hJ _ (by rw[Qvw h.asc h1 h2 h3])
   refine Ok.scan2 l.Pages.length (fun i=>(l.Now,(i:Int),())) (fun i=>!decide ((nth l.Pages i).ID<o.Page)) rfl (by omega) (fun i hi hq hj k=>?_) (fun i hi hq k hk=>?_) (fun hq k=>?_)
   ·refine Ok.j ?_
    dsimp only
    refine Ok.p (by omega) (Ok.natn (Ok.lt hi (Ok.get hi (Ok.n ?_ (hfound i (by omega) (fun j hj'=>by simpa using hj j hj') (fun _=>by simpa using hq))))))
    have:¬(nth l.Pages i).ID<o.Page:=by simpa using hq
    exact this
   ·have hlt:(nth l.Pages i).ID<o.Page:=by simpa using hq
    refine Ok.j ?_
    dsimp only
    refine Ok.p (by omega) (Ok.natn (Ok.lt hi (Ok.get hi (Ok.p hlt ?_))))
    try dsimp only
    rw[Qa (by omega)];exact hk
   ·refine Ok.j ?_
    dsimp only
    exact(Ok.n (by omega) (hfound l.Pages.length (Nat.le_refl _) (fun j hj'=>by simpa using hq j hj') (fun hh=>absurd hh (Nat.lt_irrefl _))))
 ·rw[if_neg g2,if_neg (fun hh=>g2 (by have:=QN.1 hh;omega))]
  exact Ok.p (by simp) (Ok.s rfl)
theorem Ub{a:D.Answer}(h:(answerV b p a).2=0):(answerV b p a).1=p∨(answerV b p a).1=Y7 p a:=by
 revert h
 unfold answerV
 split
 ·intro h;simp at h
 ·split
  ·intro h;simp at h
  ·split
   ·intro _;exact .inl rfl
   ·split
    ·rename_i hr
     intro h;exact absurd h hr
    ·intro _;exact .inr rfl
theorem Qop(h:Qc M n l)(hi:i<l.Pages.length):(nth (runI l i).Pages i).ID=(nth l.Pages i).ID:=by
 rw[Qbz h hi,if_pos rfl]
 exact(Up h.book QT.step (h.at hi).1).id
theorem QtI(h:Qc M n l)(hpg:l.Pages.length≤9)(hk:o.Kind=4)(ha:Yz o.Answer=true):Xy 1000 l o.Answer l.Now=some (opV l o):=by
 have hcl:=h.callsLe hpg
 refine Ok.eq ?_
 unfold Xy opV
 rw[if_neg (by omega),if_neg (by omega),if_neg (by omega),if_pos hk]
 refine Ok.oe (Qhb h.plens h.asc (by omega)) ?_
 unfold QfZ
 by_cases hh:hasV o.Answer.Page l.Pages=true
 ·rw[if_pos hh,if_pos hh]
  try dsimp only
  have hi:=Xu hh
  have hrun:=Qlw (id:=o.Answer.Page) h hpg
  rw[if_pos hh]at hrun
  refine Ok.f (Ok.oe hrun ?_)
  have h2:=h.run hi.1
  have hkp:=YH (l:=l) (i:=posV o.Answer.Page l.Pages)
  obtain⟨i,hie⟩:∃i,posV o.Answer.Page l.Pages=i:=⟨_,rfl⟩
  rw[hie]at hi h2 hkp ⊢
  have hid2:(nth (runI l i).Pages i).ID=o.Answer.Page:=(Qop h hi.1).trans hi.2
  have hi2:i<(runI l i).Pages.length:=by omega
  have hcl2:=h2.callsLe (by omega)
  refine Ok.oe (Qhb h2.plens h2.asc (by omega)) ?_
  rw[QnS h2.asc hi2 hid2]
  try dsimp only
  obtain⟨a,hae⟩:∃a:D.Answer,a=D.Answer.mk o.Answer.ID o.Answer.Page o.Answer.Person o.Answer.Kind o.Answer.Arg l.Now:=⟨_,rfl⟩
  rw[←hae]
  have hpl2:=h2.plens _ (Qj hi2)
  refine Ok.oe (QnC h2.book hpl2) ?_
  rw[hkp.2.2.1]
  have hz:=Ub (b:=l.Book) (p:=nth (runI l i).Pages i) (a:=a)
  have hAl:=hpl2.answerV (a:=a) h.book
  obtain⟨A,e,hA⟩:∃A e,answerV l.Book (nth (runI l i).Pages i) a=(A,e):=⟨_,_,rfl⟩
  rw[hA]at hz hAl ⊢
  try dsimp only at hz hAl ⊢
  by_cases he:e=0
  ·rw[if_pos he]
   have hq:=hz he
   have hpid:A.ID=(nth (runI l i).Pages i).ID:=by
    rcases hq with rfl|rfl
    ·rfl
    ·exact Qdv.1
   have hpst:(nth (runI l i).Pages i).Starts.length≤A.Starts.length:=by
    rcases hq with rfl|rfl
    ·exact Nat.le_refl _
    ·obtain⟨m,hm⟩:=Qem (p:=nth (runI l i).Pages i) (a:=a)
     rw[hm];simp
   refine Ok.n (by omega) (Ok.oe (Quh (i:=i) h2.asc (by omega) (by omega) hi2 hpid hAl hpst) (Ok.s rfl))
  ·rw[if_neg he]
   exact Ok.p he (Ok.s rfl)
 ·rw[if_neg hh,if_neg hh]
  exact Ok.t (Ok.s rfl)
theorem Qu0{x:D.Edit}{s:Int}(h:Q3 n c)(hn:n<48)(hx:U8 x):Qda 1000 c s x=some (if 0≤s∧s<2 then(Qh5 c s x,0)else({ Zones:=[],People:=[],Calendars:=[],Schedules:=[] },3)):=by
 have hsl:=h.slen
 refine Ok.eq ?_
 unfold Qda
 refine Ok.j (Ok.oe (QcJ h (by omega)) (Ok.n (by simp) (Ok.ite (fun g=>Ok.s ?_) (fun g=>Ok.ite (fun g2=>Ok.s ?_) (fun g2=>?_)))))
 ·rw[if_neg (by omega)]
 ·rw[if_neg (by omega)]
 ·rw[if_pos (by omega)]
  try dsimp only
  have hso:=h.sched _ (Qj (l:=c.Schedules) (i:=s.toNat) (by omega))
  have hlen:=hso.len
  refine Ok.at (by omega) (by omega) (Ok.lec (by omega) (Ok.lec (by simp;omega) (Ok.oe (v:=Qh5 c s x) ?_ (Ok.oe (QcJ (QkD h hx (by omega)) (by omega)) (Ok.n (by simp) (Ok.s rfl))))))
  refine Ok.eq ?_
  unfold Qlj
  refine Ok.lec (by omega) (Ok.nat (by omega) (Ok.lt (by omega) (Ok.get (by omega) (Ok.s ?_))))
  rfl
theorem Qqx(h:Qc M n l)(hn:n<48)(hpg:l.Pages.length≤8)(ho:OpIn o):Xx 1000 l o l.Now=some (opV l o):=by
 have hfe:=h.fence;have hse:=h.seen.len;have hkd:=ho.kind;have hof:=ho.fence
 refine Ok.eq ?_
 unfold Xx
 refine Ok.oe (Qhb h.plens h.asc (by omega)) ?_
 have hf2:(QfZ l o.Page).2=hasV o.Page l.Pages:=by
  unfold QfZ
  by_cases hh:hasV o.Page l.Pages=true
  ·rw[if_pos hh,hh]
  ·rw[if_neg hh];simpa using hh
 obtain⟨fp,fo,hfe2⟩:∃fp fo,QfZ l o.Page=(fp,fo):=⟨_,_,rfl⟩
 rw[hfe2]at hf2 ⊢
 try dsimp only at hf2 ⊢
 subst hf2
 refine Ok.j (Ok.ite (fun k1=>?_) (fun k1=>Ok.ite (fun k2=>?_) (fun k2=>Ok.ite (fun k3=>?_) (fun k3=>Ok.ite (fun k4=>?_) (fun k4=>Ok.ite (fun k5=>?_) (fun k5=>absurd hkd (by omega)))))))
 ·exact Ok.oe (Qvp h hpg ho k1) (Ok.s rfl)
 ·unfold opV
  rw[if_neg k1,if_pos k2,Qd (by omega)]
  refine Ok.ite (fun g=>Ok.s ?_) (fun g=>Ok.s ?_)
  ·rw[if_neg (by omega)]
  ·rw[if_pos (by omega)]
 ·unfold opV
  rw[if_neg k1,if_neg k2,if_pos k3]
  refine Ok.join (fun y=>y=((l.Now,hasV o.Page l.Pages,()),lgA l,o,({ Now:=0,Config:={ Zones:=[],People:=[],Calendars:=[],Schedules:=[] },Book:={ Teams:=[],Policies:=[] },Pages:=[],Owner:=0,Fence:=0,Seen:=[],Calls:=[] }:D.Ledger),fp,l.Pages,l.Seen,l.Calls,())∧o.Region=l.Owner∧o.Fence=l.Fence) (fun y hy=>?_) (fun J hJ=>Ok.ite (fun g=>Ok.s ?_) (fun g=>Ok.ite (fun g2=>Ok.s ?_) (fun g2=>hJ _ ⟨rfl,by omega,by omega⟩)))
  ·obtain⟨rfl,g1,g2⟩:=hy
   try dsimp only[lgA]
   rw[if_pos ⟨g1,g2⟩]
   refine Ok.ncnd (fun hh=>Ok.s ?_) (fun hh=>?_)
   ·rw[if_neg (by rw[hh];simp)]
   ·rw[if_pos hh]
    have hfp:fp=nth l.Pages (posV o.Page l.Pages):=by
     unfold QfZ at hfe2
     rw[if_pos hh]at hfe2
     exact(Prod.mk.inj hfe2).1.symm
    subst hfp
    have hrun:=Qlw (id:=o.Page) h (by omega)
    rw[if_pos hh]at hrun
    refine Ok.oe Qe0 ?_
    obtain⟨pg,hpg2⟩:∃pg,nth l.Pages (posV o.Page l.Pages)=pg:=⟨_,rfl⟩
    rw[hpg2]
    obtain⟨kk,hkk⟩:∃kk:Int,(if pg.State=2 then(-1:Int)else pg.Next)=kk:=⟨_,rfl⟩
    rw[hkk]
    have hw:Xo pg l.Now=((dueV pg).2 && decide ((dueV pg).1≤l.Now)):=rfl
    refine Ok.join (fun y=>y=((l.Now,(dueV pg).1,(dueV pg).2,kk,()),lgA l,o,({ Now:=0,Config:={ Zones:=[],People:=[],Calendars:=[],Schedules:=[] },Book:={ Teams:=[],Policies:=[] },Pages:=[],Owner:=0,Fence:=0,Seen:=[],Calls:=[] }:D.Ledger),l.Pages,l.Seen,l.Calls,())) (fun y hy=>?_) (fun J hJ=>Ok.ite (fun g=>hJ _ (by rw[←hkk,if_pos g])) (fun g=>hJ _ (by rw[←hkk,if_neg g])))
    subst hy
    try dsimp only[lgA]
    refine Ok.j (Ok.cnd (fun g3=>Ok.ite (fun g4=>Ok.s ?_) (fun g4=>Ok.ite (fun g5=>Ok.s ?_) (fun g5=>Ok.oe hrun (Ok.s ?_)))) (fun g3=>Ok.s ?_))
    ·rw[if_neg (fun hx=>by rw[hw,g3]at hx;have:=of_decide_eq_true (show decide ((dueV pg).1≤l.Now)=true by simpa using hx.1);omega)]
    ·rw[if_neg (fun hx=>g5 hx.2.symm)]
    ·rw[if_pos ⟨by rw[hw,g3];simp;omega,by omega⟩]
    ·rw[if_neg (fun hx=>by rw[hw,g3]at hx;simp at hx)]
  ·rw[if_neg (by omega)]
  ·rw[if_neg (by omega)]
 ·exact Ok.oe (QtI h (by omega) k4 (ho.answer k4).1) (Ok.s rfl)
 ·unfold opV
  rw[if_neg k1,if_neg k2,if_neg k3,if_neg k4]
  have hkeep:∀i,(Zj l i).Now=l.Now∧(Zj l i).Config=l.Config∧(Zj l i).Book=l.Book∧(Zj l i).Owner=l.Owner∧(Zj l i).Fence=l.Fence∧(Zj l i).Seen=l.Seen∧(Zj l i).Pages.length=l.Pages.length:=fun i=>Yj
  refine Ok.run l.Pages.length (fun i=>((l.Now,(i:Int),()),lgA (Zj l i),o,({ Now:=0,Config:={ Zones:=[],People:=[],Calendars:=[],Schedules:=[] },Book:={ Teams:=[],Policies:=[] },Pages:=[],Owner:=0,Fence:=0,Seen:=[],Calls:=[] }:D.Ledger),(Zj l i).Pages,(Zj l i).Seen,(Zj l i).Calls,())) rfl (by omega) (fun i hi k hk=>?_) (fun k=>?_)
  ·try dsimp only[lgA]
   have hki:=hkeep i
   have hi2:i<(Zj l i).Pages.length:=by omega
   have hL:=h.runs (k:=i) (by omega)
   have hrun:=Qlw (id:=(nth (Zj l i).Pages i).ID) hL (by omega)
   rw[if_pos (QkN hL.asc hi2),Qgf hL.asc hi2,hki.1]at hrun
   refine Ok.p (by omega) (Ok.natn (Ok.lt hi2 (Ok.get hi2 (Ok.oe hrun ?_))))
   try dsimp only
   rw[Qa (by omega)]
   exact hk
  ·try dsimp only[lgA]
   have hki:=hkeep l.Pages.length
   refine Ok.n (by omega) ?_
   have hed:=Qu0 (c:=l.Config) (s:=o.Schedule) h.cfg hn (ho.edit k5)
   refine Ok.oe (v:=if 0≤o.Schedule∧o.Schedule<2 then(Qh5 l.Config o.Schedule o.Edit,0)else({ Zones:=[],People:=[],Calendars:=[],Schedules:=[] },3)) ?_ ?_
   ·rw[←hed]
    show Qda 1000 (Zj l l.Pages.length).Config _ _=_
    rw[hki.2.1]
   ·by_cases hs:0≤o.Schedule∧o.Schedule<2
    ·rw[if_pos hs,if_pos hs]
     exact Ok.n (by simp) (Ok.s rfl)
    ·rw[if_neg hs,if_neg hs]
     exact Ok.p (by simp) (Ok.s rfl)
theorem OpIn.valid(ho:OpIn o):Qfy 1000 o=some true:=by
 refine Ok.eq ?_
 unfold Qfy
 refine Ok.oe rin (Ok.bt (QN.2 ho.id) (Ok.oe rin (Ok.bt (QN.2 ho.kind) (Ok.oe rin (Ok.bt (QN.2 ho.region) (Ok.oe rin (Ok.bt (QN.2 ho.fence) (Ok.oe rin (Ok.bt (QN.2 ho.at_) (Ok.oe rin (Ok.bt (QN.2 ho.page) (Ok.oe rin (Ok.bt (QN.2 ho.k) ?_)))))))))))))
 exact Ok.ite (fun g=>Ok.s rfl) (fun g=>Ok.oe Qkh (Ok.bt (ho.answer (by omega)).1 (Ok.s rfl)))
theorem Qqy(h:Qc M n l)(hn:n<48)(hpg:l.Pages.length≤8)(ho:OpIn o)(ht:max l.Now o.At≤M - 20000)(hl:l.Seen.length<256):Qfx 1000 l o=some (Qr l o):=by
 have hcl:=h.callsLe (by omega)
 refine Ok.eq ?_
 unfold Qfx Qr
 refine Ok.j (Ok.oe (QcV h (by omega)) (Ok.t (Ok.oe ho.valid (Ok.t ?_))))
 try dsimp only
 refine Ok.oe (Qs1 h.plens (by omega) (by omega) (by omega)) (Ok.oe (QbP (by omega)) (Ok.cnd (fun g=>Ok.s ?_) (fun g=>?_)))
 ·rw[if_pos g]
 ·rw[if_neg (by rw[g];simp)]
  have h2:=h.see ho ht g hl
  refine Ok.n (by omega) (Ok.lec (by simp;omega) (Ok.oe (Qqx (l:={ l with Now:=max l.Now o.At,Seen:=l.Seen++[o.ID] }) h2 hn hpg ho) (Ok.s rfl)))
end
end Go.Proofs.YtgokjdfkpnkekaaGreat
/-
  Operations and ledgers that are made by dice.
-/
namespace Go.Proofs.YtgokjdfkpnkekaaGreat
open Go AM
attribute [local irreducible] dueV stepV runV QS answerV
section
variable {n:Nat} {c:D.Config} {b:D.Book} {p q:D.Page} {now M m:Int} {l:D.Ledger} {i:Nat} {o:D.Op} {L:List Int} {d:D.Dice}
def Ids(m:Int)(l:D.Ledger):Prop:=∀p∈l.Pages,p.ID≤m
theorem Ids.mono{k:Int}(h:Ids m l)(hk:m≤k):Ids k l:=fun p hp=>Int.le_trans (h p hp) hk
theorem Qve{L:List D.Page}(ha:AscP L){k:Nat}(h:∀p∈L,1≤p.ID∧p.ID≤(k:Int)):L.length≤k:=by
 have hlo:∀i,i<L.length→(i:Int)+1≤(nth L i).ID:=by
  intro i
  induction i with
  |zero=>intro hi;have:=(h _ (Qj hi)).1;omega
  |succ i ih=>
   intro hi
   have:=ih (by omega)
   have:=QbK ha (show i<i+1 by omega) hi
   omega
 rcases Nat.lt_or_ge k L.length with h1|h1
 ·have h2:=hlo (L.length - 1) (by omega)
  have h3:=(h _ (Qj (l:=L) (i:=L.length - 1) (by omega))).2
  omega
 ·exact h1
theorem Qc.small3{k:Nat}(h:Qc M n l)(hi:Ids (k:Int) l):l.Pages.length≤k:=
 Qve h.asc fun p hp=>⟨(h.page p hp).1.id.1,hi p hp⟩
theorem Ids.put(h:Ids m l)(hi:i<l.Pages.length)(hp:p.ID=(nth l.Pages i).ID):Ids m (putV l i p):=fun q hq=>by
 rcases List.mem_or_eq_of_mem_set hq with hq|rfl
 ·exact h q hq
 ·rw[hp];exact h _ (Qj hi)
theorem Ids.run(h:Ids m l)(hl:Qc M n l)(hi:i<l.Pages.length):Ids m (runI l i):=by
 rw[hl.runEq hi]
 exact h.put hi (Up hl.book QT.step (hl.at hi).1).id
theorem Ids.runs(h:Ids m l)(hl:Qc M n l):∀{k:Nat},k≤l.Pages.length→Ids m (Zj l k)
 |0,_=>h
 |k+1,hk=>by
  rw[Zj]
  exact(Ids.runs h hl (k:=k) (by omega)).run (hl.runs (by omega)) (by have:=(Yj (l:=l) (k:=k)).2.2.2.2.2.2;omega)
theorem Ids.op(h:Ids m l)(hl:Qc M n l)(ho:OpIn o)(hp:o.Kind=1→o.Page≤m):Ids m (opV l o).1:=by
 unfold opV
 split
 ·rename_i k1
  split
  ·exact h
  ·rename_i hh
   split
   ·exact h
   ·split
    ·exact h
    ·split
     ·rename_i h1 h2 h3
      have hop:=ho.page
      have hi:=hl.open (o:=o) (by simpa using hh) (by omega) h3 (by have:=hl.len;omega)
      have hid:Ids m { l with Pages:=insP l.Pages (newP o.Page o.Policy l.Now) }:=fun q hq=>by
       rcases Qfd.1 hq with rfl|hq
       ·exact hp k1
       ·exact h q hq
      exact hid.run hi.1 hi.2.1
     ·exact h
 ·split
  ·split
   ·exact h
   ·exact h
  ·split
   ·split
    ·split
     ·rename_i hh
      generalize (if (nth l.Pages (posV o.Page l.Pages)).State=2 then(-1:Int)else(nth l.Pages (posV o.Page l.Pages)).Next)=kk
      split
      ·exact h.run hl (Xu hh).1
      ·exact h
     ·exact h
    ·exact h
   ·split
    ·split
     ·rename_i hh
      have hi:=(Xu hh).1
      split
      ·rename_i he
       have h2:=hl.run hi
       have hk:=YH (l:=l) (i:=posV o.Answer.Page l.Pages)
       refine(h.run hl hi).put (by omega) ?_
       rcases Ub he with e|e
       ·rw[e]
       ·rw[e];exact Qdv.1
      ·exact h.run hl hi
     ·exact h
    ·split
     ·exact h.runs hl (Nat.le_refl _)
     ·exact h.runs hl (Nat.le_refl _)
theorem Ids.apply(h:Ids m l)(hl:Qc M n l)(ho:OpIn o)(ht:max l.Now o.At≤M - 20000)(hs:l.Seen.length<256)(hp:o.Kind=1→o.Page≤m):Ids m (Qr l o).1:=by
 unfold Qr
 split
 ·exact h
 ·rename_i hse
  exact Ids.op (l:={ l with Now:=max l.Now o.At,Seen:=l.Seen++[o.ID] }) h (hl.see ho ht (by simpa using hse) hs) ho hp
theorem QbX:(opV l o).1.Now=l.Now∧(opV l o).1.Seen=l.Seen:=by
 unfold opV
 have h1:=fun i=>YH (l:=l) (i:=i)
 have h2:=fun k=>Yj (l:=l) (k:=k)
 split
 ·split
  ·exact⟨rfl,rfl⟩
  ·split
   ·exact⟨rfl,rfl⟩
   ·split
    ·exact⟨rfl,rfl⟩
    ·split
     ·exact⟨(YH (l:={ l with Pages:=insP l.Pages (newP o.Page o.Policy l.Now) })).1,(YH (l:={ l with Pages:=insP l.Pages (newP o.Page o.Policy l.Now) })).2.2.2.2.2.1⟩
     ·exact⟨rfl,rfl⟩
 ·split
  ·split<;>exact⟨rfl,rfl⟩
  ·split
   ·split
    ·split
     ·generalize (if (nth l.Pages (posV o.Page l.Pages)).State=2 then(-1:Int)else(nth l.Pages (posV o.Page l.Pages)).Next)=kk
      split
      ·exact⟨(h1 _).1,(h1 _).2.2.2.2.2.1⟩
      ·exact⟨rfl,rfl⟩
     ·exact⟨rfl,rfl⟩
    ·exact⟨rfl,rfl⟩
   ·split
    ·split
     ·split
      ·exact⟨(h1 _).1,(h1 _).2.2.2.2.2.1⟩
      ·exact⟨(h1 _).1,(h1 _).2.2.2.2.2.1⟩
     ·exact⟨rfl,rfl⟩
    ·split
     ·exact⟨(h2 _).1,(h2 _).2.2.2.2.2.1⟩
     ·exact⟨(h2 _).1,(h2 _).2.2.2.2.2.1⟩
theorem QhD:(Qr l o).1.Seen.length≤l.Seen.length+1∧((Qr l o).1.Now=l.Now∨(Qr l o).1.Now=max l.Now o.At):=by
 unfold Qr
 split
 ·exact⟨by dsimp only;omega,.inl rfl⟩
 ·have:=QbX (l:={ l with Now:=max l.Now o.At,Seen:=l.Seen++[o.ID] }) (o:=o)
  exact⟨by rw[this.2];simp,.inr this.1⟩
theorem Qqb{t:Int}(h:Qc M n l)(hpg:l.Pages.length≤9):Ok (Qb9 1000 l t) fun w=>w.length≤9∧∀s∈w,∃p∈l.Pages,s.K=p.ID:=by
 unfold Qb9
 refine Ok.j ?_
 refine Ok.loop (fun m x=>∃(i:Nat) (w:List D.Start),x=((t,(i:Int),()),l,w,())∧i≤l.Pages.length∧w.length≤i∧(∀s∈w,∃p∈l.Pages,s.K=p.ID)∧m=l.Pages.length - i) (m:=l.Pages.length) (by omega) ⟨0,[],rfl,by omega,by simp,by simp,rfl⟩ ?_
 rintro m x ⟨i,w,rfl,i1,i2,i3,rfl⟩ K hK
 try dsimp only
 refine Ok.j (Ok.ite (fun hi=>?_) (fun hi=>Ok.s ⟨by omega,i3⟩))
 have hlt:i<l.Pages.length:=by omega
 refine Ok.oe (QcV h hpg) (Ok.t ?_)
 try dsimp only
 have next:∀w:List D.Start,w.length≤i+1→(∀s∈w,∃p∈l.Pages,s.K=p.ID)→Ok (K ((t,IntKind.wrap .i64 ((i:Int)+1),()),l,w,())) fun w=>w.length≤9∧∀s∈w,∃p∈l.Pages,s.K=p.ID:=fun w h1 h2=>by
  try dsimp only
  rw[Qa (by omega)]
  exact hK _ _ (by omega) ⟨i+1,w,rfl,by omega,h1,h2,rfl⟩
 refine Ok.j (Ok.atn hlt (Ok.oe Qe0 (Ok.cnd (fun g=>Ok.ite (fun g2=>Ok.atn hlt (Ok.lec (by simp;omega) (next _ (by simp;omega) ?_))) (fun g2=>next w (by omega) i3)) (fun g=>next w (by omega) i3))))
 exact WJ i3 ⟨_,Qj hlt,rfl⟩
theorem Qwg{id t:Int}(hL:L.length≤500)(hd:ZI L d)(h:Qc M n l)(hids:Ids 3 l)(hid:1≤id∧id≤1000)(ht:0≤t∧t≤8589934592):
  Ok (QaM 1000 d l id t) fun r=>ZI L r.2∧OpIn r.1∧r.1.ID=id∧r.1.At=t∧(r.1.Kind=1→1≤r.1.Page∧r.1.Page≤3)∧(r.1.Kind=4→r.1.Answer.Person<4):=by
 have hpl:=h.book.plen;have hfe:=h.fence;have hse:=h.seen.len;have how:=h.owner
 have hpg:=h.small3 (k:=3) hids
 unfold QaM
 refine Ok.opt (nx hL hd (by omega) (by omega)) fun⟨a0,d1⟩ ⟨h1,l1,u1⟩=>?_
 try dsimp only at h1 l1 u1 ⊢
 refine Ok.opt (nx hL h1 (by omega) (by omega)) fun⟨a2,d3⟩ ⟨h3,l3,u3⟩=>?_
 try dsimp only at h3 l3 u3 ⊢
 refine Ok.opt (nx hL h3 (by omega) (by omega)) fun⟨a4,d5⟩ ⟨h5,l5,u5⟩=>?_
 try dsimp only at h5 l5 u5 ⊢
 rw[Qd (x:=1+a0) (by omega),Qd (x:=1+a4) (by omega)]
 have noEdit:∀{P:Prop},¬(1+a0=5)→1+a0=5→P:=fun h1 h2=>absurd h2 h1
 refine Ok.j (Ok.ite (fun k1=>?_) (fun k1=>Ok.ite (fun k2=>?_) (fun k2=>Ok.ite (fun k3=>?_) (fun k3=>Ok.ite (fun k4=>?_) (fun k4=>Ok.ite (fun k5=>?_) (fun k5=>?_))))))
 ·refine Ok.opt (nx hL h5 (by omega) (by omega)) fun⟨a10,d11⟩ ⟨h11,l11,u11⟩=>?_
  try dsimp only at h11 l11 u11 ⊢
  rw[Qd (x:=((l.Book.Policies.length:Nat):Int)+1) (by omega),Qd (x:=((l.Book.Policies.length:Nat):Int)+1 - a10) (by omega)]
  refine Ok.opt (nx hL h11 (by omega) (by omega)) fun⟨a12,d13⟩ ⟨h13,l13,u13⟩=>Ok.s ⟨h13,?_,rfl,rfl,fun _=>by dsimp only;omega,fun e=>absurd (show 1+a0=4 from e) (by omega)⟩
  exact⟨by dsimp only;omega,by dsimp only;omega,by dsimp only;omega,by dsimp only;omega,ht,by dsimp only;omega,by dsimp only;omega,fun e=>absurd (show 1+a0=4 from e) (by omega),fun e=>absurd (show 1+a0=5 from e) (by omega)⟩
 ·refine Ok.opt (QaO hL h5 (by simp) (by simp)) fun⟨a14,d15⟩ ⟨h15,m15⟩=>?_
  try dsimp only at h15 m15 ⊢
  simp only[List.mem_cons,List.not_mem_nil,or_false]at m15
  try dsimp only
  rw[Qd (x:=l.Fence+a14) (by omega)]
  refine Ok.s ⟨h15,?_,rfl,rfl,fun e=>absurd (show 1+a0=1 from e) k1,fun e=>absurd (show 1+a0=4 from e) (by omega)⟩
  exact⟨by dsimp only;omega,by dsimp only;omega,by dsimp only;omega,by dsimp only;omega,ht,by dsimp only;omega,by dsimp only;omega,fun e=>absurd (show 1+a0=4 from e) (by omega),fun e=>absurd (show 1+a0=5 from e) (by omega)⟩
 ·-- a proposed start
  have hop:∀o:D.Op,OpIn o→o.ID=id→o.At=t→o.Kind=3→∀d,ZI L d→Ok (some (o,d)) fun r=>ZI L r.2∧OpIn r.1∧r.1.ID=id∧r.1.At=t∧(r.1.Kind=1→1≤r.1.Page∧r.1.Page≤3)∧(r.1.Kind=4→r.1.Answer.Person<4):=fun o h1 h2 h3 h4 d hd=>Ok.s ⟨hd,h1,h2,h3,fun e=>absurd (show o.Kind=1 from e) (by omega),fun e=>absurd (show o.Kind=4 from e) (by omega)⟩
  refine Ok.join (fun y=>∃(d:D.Dice) (z o:D.Op),y=((t,1+a4,()),d,l,z,o,())∧ZI L d∧OpIn o∧o.ID=id∧o.At=t∧o.Kind=3) (fun y hy=>?_) (fun J hJ=>?_)
  ·obtain⟨d,z,o,rfl,j1,j2,j3,j4,j5⟩:=hy
   try dsimp only
   refine Ok.join (fun y=>∃(d:D.Dice) (z o:D.Op),y=((t,1+a4,()),d,l,z,o,())∧ZI L d∧OpIn o∧o.ID=id∧o.At=t∧o.Kind=3) (fun y hy=>?_) (fun J hJ=>?_)
   ·obtain⟨d,z,o,rfl,j1,j2,j3,j4,j5⟩:=hy
    try dsimp only
    refine Ok.join (fun y=>∃(d:D.Dice) (z o:D.Op),y=((),l,z,o,d,())∧ZI L d∧OpIn o∧o.ID=id∧o.At=t∧o.Kind=3) (fun y hy=>?_) (fun J hJ=>?_)
    ·obtain⟨d,z,o,rfl,j1,j2,j3,j4,j5⟩:=hy
     try dsimp only
     refine Ok.oe (Qu6 h.plens h.asc (by omega)) ?_
     unfold QfZ
     by_cases hh:hasV o.Page l.Pages=true
     ·rw[if_pos hh]
      try dsimp only
      have hi:=Xu hh
      obtain⟨g1,_⟩:=h.at hi.1
      have hnx:=(Yb (g1.check h.book)).next
      have hcn:=Yn (g1.polOK h.book)
      refine Ok.t (Ok.ite (fun g=>Ok.s ⟨j1,?_,j3,j4,fun e=>absurd (show o.Kind=1 from e) (by omega),fun e=>absurd (show o.Kind=4 from e) (by omega)⟩) (fun g=>Ok.s ⟨j1,?_,j3,j4,fun e=>absurd (show o.Kind=1 from e) (by omega),fun e=>absurd (show o.Kind=4 from e) (by omega)⟩))
      ·exact⟨j2.id,j2.kind,j2.region,j2.fence,j2.at_,j2.page,by dsimp only;omega,j2.answer,j2.edit⟩
      ·exact⟨j2.id,j2.kind,j2.region,j2.fence,j2.at_,j2.page,by dsimp only;omega,j2.answer,j2.edit⟩
     ·rw[if_neg hh]
      exact Ok.f (hop _ j2 j3 j4 j5 _ j1)
    ·refine Ok.opt (Qqb h (by omega)) fun w ⟨w1,w2⟩=>?_
     refine Ok.ite (fun g=>?_) (fun g=>hJ _ ⟨_,_,_,rfl,j1,⟨j2.id,j2.kind,j2.region,j2.fence,j2.at_,by dsimp only;omega,j2.k,j2.answer,j2.edit⟩,j3,j4,j5⟩)
     refine Ok.opt (nx hL j1 (by omega) (by omega)) fun⟨a36,d37⟩ ⟨h37,l37,u37⟩=>?_
     try dsimp only at h37 l37 u37 ⊢
     refine Ok.at l37 u37 (hJ _ ⟨_,_,_,rfl,h37,⟨j2.id,j2.kind,j2.region,j2.fence,j2.at_,?_,j2.k,j2.answer,j2.edit⟩,j3,j4,j5⟩)
     obtain⟨p,hp,e⟩:=w2 _ (Qj (l:=w) (i:=a36.toNat) (by omega))
     have:=(h.page p hp).1.id
     try dsimp only
     omega
   ·refine Ok.opt (nx hL j1 (by omega) (by omega)) fun⟨a40,d41⟩ ⟨h41,_⟩=>Ok.ite (fun g=>?_) (fun g=>hJ _ ⟨_,_,_,rfl,h41,j2,j3,j4,j5⟩)
    try dsimp only at h41
    refine Ok.opt (nx hL h41 (by omega) (by omega)) fun⟨a42,d43⟩ ⟨h43,l43,u43⟩=>hJ _ ⟨_,_,_,rfl,h43,⟨j2.id,j2.kind,j2.region,?_,j2.at_,j2.page,j2.k,j2.answer,j2.edit⟩,j3,j4,j5⟩
    try dsimp only at l43 u43 ⊢
    omega
  ·refine Ok.opt (nx hL h5 (by omega) (by omega)) fun⟨a45,d46⟩ ⟨h46,_⟩=>Ok.ite (fun g=>?_) (fun g=>?_)
   ·try dsimp only at h46
    refine Ok.opt (nx hL h46 (by omega) (by omega)) fun⟨a47,d48⟩ ⟨h48,l48,u48⟩=>hJ _ ⟨_,_,_,rfl,h48,?_,rfl,rfl,k3⟩
    try dsimp only at l48 u48
    exact⟨by dsimp only;omega,by dsimp only;omega,by dsimp only;omega,by dsimp only;omega,ht,by dsimp only;omega,by dsimp only;omega,fun e=>absurd (show 1+a0=4 from e) (by omega),fun e=>absurd (show 1+a0=5 from e) (by omega)⟩
   ·refine hJ _ ⟨_,_,_,rfl,h46,?_,rfl,rfl,k3⟩
    exact⟨by dsimp only;omega,by dsimp only;omega,by dsimp only;omega,by dsimp only;omega,ht,by dsimp only;omega,by dsimp only;omega,fun e=>absurd (show 1+a0=4 from e) (by omega),fun e=>absurd (show 1+a0=5 from e) (by omega)⟩
 ·refine Ok.opt (nx hL h5 (by omega) (by omega)) fun⟨a49,d50⟩ ⟨h50,l50,u50⟩=>?_
  try dsimp only at h50 l50 u50 ⊢
  rw[Qd (x:=1+a49) (by omega)]
  refine Ok.opt (QhB hL h50) fun⟨a,d52⟩ ⟨h52,ha,e1,e2,e3⟩=>Ok.s ⟨h52,?_,rfl,rfl,fun e=>absurd (show 1+a0=1 from e) k1,fun _=>ha.pers.2⟩
  try dsimp only at ha e1 e2 e3
  exact⟨by dsimp only;omega,by dsimp only;omega,by dsimp only;omega,by dsimp only;omega,ht,by dsimp only;omega,by dsimp only;omega,fun _=>⟨ha.valid (by omega) (by omega) (by omega),fun e=>(ha.arg3 e).2⟩,fun e=>absurd (show 1+a0=5 from e) (by omega)⟩
 ·refine Ok.opt (nx hL h5 (by omega) (by omega)) fun⟨a53,d54⟩ ⟨h54,l54,u54⟩=>?_
  try dsimp only at h54 l54 u54 ⊢
  refine Ok.opt (Qiy hL h54) fun⟨x,d56⟩ ⟨h56,hx⟩=>Ok.s ⟨h56,?_,rfl,rfl,fun e=>absurd (show 1+a0=1 from e) k1,fun e=>absurd (show 1+a0=4 from e) (by omega)⟩
  try dsimp only at hx
  exact⟨by dsimp only;omega,by dsimp only;omega,by dsimp only;omega,by dsimp only;omega,ht,by dsimp only;omega,by dsimp only;omega,fun e=>absurd (show 1+a0=4 from e) k4,fun _=>hx⟩
 ·omega
structure QsE (k:Nat) (l:D.Ledger):Prop where
 inv:Qc 1000000 (2+k) l
 ids:Ids 3 l
 seen:l.Seen.length≤k
 now:l.Now≤864000+700*(k:Int)
theorem QpL(hc:Q3 2 c)(hb:QI b):Qc 1000000 2 { Now:=0,Config:=c,Book:=b,Pages:=[],Owner:=-1,Fence:=0,Seen:=[],Calls:=[] }:=
 ⟨by omega,by dsimp only;omega,by omega,hc,hb,by simp,List.Pairwise.nil,by simp,by dsimp only;omega,by simp,⟨by simp,List.nodup_nil,by simp⟩,by simp,by simp⟩
theorem Qvo(hc:Q3 n c)(hn:n≤48)(hb:QI b):QiS 1000 c b=some ({ Now:=0,Config:=c,Book:=b,Pages:=[],Owner:=-1,Fence:=0,Seen:=[],Calls:=[] },0):=by
 refine Ok.eq ?_
 unfold QiS
 exact Ok.oe (Ql1 hc hn hb) (Ok.n (by simp) (Ok.s rfl))
end
end Go.Proofs.YtgokjdfkpnkekaaGreat
/-
  Plain laws of operations on ledgers: what a refused one leaves, what one that comes twice does, which pages one touches.
-/
namespace Go.Proofs.YtgokjdfkpnkekaaGreat
open Go AM
attribute [local irreducible] dueV stepV runV QS answerV
section
variable {n:Nat} {c:D.Config} {b:D.Book} {p q:D.Page} {now M:Int} {l:D.Ledger} {i:Nat} {o:D.Op}
def seeV(l:D.Ledger)(o:D.Op):D.Ledger:={ l with Now:=max l.Now o.At,Seen:=l.Seen++[o.ID] }
theorem WS(hs:l.Seen.contains o.ID=false):Qr l o=opV (seeV l o) o:=by
 unfold Qr;rw[hs];rfl
theorem Qpn(hs:l.Seen.contains o.ID=false):(Qr l o).1.Now=max l.Now o.At:=by
 rw[WS hs,(QbX).1];rfl
theorem Qhg{id:Int}:∀{L:List D.Page} {i:Nat} {x:D.Page},x.ID=(nth L i).ID→posV id (L.set i x)=posV id L
 |[],_,_,_=>by simp
 |y::r,0,x,h=>by
  have h':x.ID=y.ID:=h
  simp only[List.set_cons_zero,posV,h']
 |y::r,i+1,x,h=>by
  rw[Vk]at h
  simp only[List.set_cons_succ,posV,Qhg h]
theorem QoR{id:Int}{L:List D.Page}{i:Nat}{x:D.Page}(h:x.ID=(nth L i).ID):hasV id (L.set i x)=hasV id L:=by
 have e:∀j,(nth (L.set i x) j).ID=(nth L j).ID:=fun j=>by
  by_cases g:j=i
  ·subst g
   by_cases g2:j<L.length
   ·rw[YZ g2];exact h
   ·rw[List.set_eq_of_length_le (by omega)]
  ·rw[WY g]
 unfold hasV
 rw[Qhg h,List.length_set,e]
def ansP(c:D.Config)(b:D.Book)(p:D.Page)(a:D.Answer)(now:Int):D.Page:=
 if (answerV b (runV c b p now).1 { a with At:=now }).2=0 then(answerV b (runV c b p now).1 { a with At:=now }).1 else(runV c b p now).1
theorem QjX(h:Qc M n l)(hk:o.Kind=4):(opV l o).1.Config=l.Config∧(opV l o).1.Book=l.Book∧
  (opV l o).1.Pages=if hasV o.Answer.Page l.Pages=true then l.Pages.set (posV o.Answer.Page l.Pages) (ansP l.Config l.Book (nth l.Pages (posV o.Answer.Page l.Pages)) o.Answer l.Now)else l.Pages:=by
 unfold opV
 rw[if_neg (by omega),if_neg (by omega),if_neg (by omega),if_pos hk]
 split
 ·rename_i g
  obtain⟨g1,g2⟩:=Xu g
  have hpg:=Qbz h g1 (j:=posV o.Answer.Page l.Pages)
  rw[if_pos rfl]at hpg
  have hpages:(runI l (posV o.Answer.Page l.Pages)).Pages=l.Pages.set (posV o.Answer.Page l.Pages) (runV l.Config l.Book (nth l.Pages (posV o.Answer.Page l.Pages)) l.Now).1:=by
   rw[h.runEq g1];rfl
  split
  ·rename_i g3
   rw[hpg]at g3
   refine⟨YH.2.1,YH.2.2.1,?_⟩
   show List.set _ _ _=_
   rw[hpages,List.set_set,←hpages,hpg]
   unfold ansP
   rw[if_pos g3]
  ·rename_i g3
   rw[hpg]at g3
   refine⟨YH.2.1,YH.2.2.1,?_⟩
   show(runI l _).Pages=_
   rw[hpages]
   unfold ansP
   rw[if_neg g3]
 ·exact⟨rfl,rfl,rfl⟩
theorem Qc.callsSum(h:Qc M n l):l.Calls.length=sumC l.Pages (fun p=>(QG p.ID 0 p.Starts).length):=by
 rw[←h.callsN]
 unfold sumC
 congr 1
 exact List.map_congr_left fun p hp=>h.ownN hp
theorem Qqt{a:D.Answer}(hb:QI b)(h:QJ QT M b p):(ansP c b p a now).ID=p.ID:=by
 have hr:(runV c b p now).1.ID=p.ID:=(Up hb QT.step h).id
 unfold ansP
 split
 ·rename_i g
  rcases Ub g with e|e
  ·rw[e];exact hr
  ·rw[e,Qdv.1];exact hr
 ·exact hr
theorem Qbe(h:Qc M n l)(ho:OpIn o)(hn:max l.Now o.At≤M - 20000)(hs:l.Seen.contains o.ID=false)(hl:l.Seen.length<256)(hk:o.Kind=4):
  (Qr l o).1.Config=l.Config∧(Qr l o).1.Book=l.Book∧(Qr l o).1.Now=max l.Now o.At∧
  (Qr l o).1.Pages=if hasV o.Answer.Page l.Pages=true then l.Pages.set (posV o.Answer.Page l.Pages) (ansP l.Config l.Book (nth l.Pages (posV o.Answer.Page l.Pages)) o.Answer (max l.Now o.At))else l.Pages:=by
 have h1:Qc M n (seeV l o):=h.see ho hn hs hl
 rw[WS hs]
 obtain⟨g1,g2,g3⟩:=QjX h1 hk
 exact⟨g1,g2,QbX.1,g3⟩
theorem Qqu{a d:D.Op}(h:Qc M n l)(hn:n<47)(ha:OpIn a)(hd:OpIn d)(hat:a.At=d.At)(ht:max l.Now a.At≤M - 20000)(hsa:l.Seen.contains a.ID=false)(hsd:l.Seen.contains d.ID=false)(hne:a.ID≠d.ID)(hl:l.Seen.length<255)(hka:a.Kind=4)(hkd:d.Kind=4)(hp:a.Answer.Page≠d.Answer.Page):
  (Qr (Qr l a).1 d).1.Pages=(Qr (Qr l d).1 a).1.Pages∧(Qr (Qr l a).1 d).1.Now=(Qr (Qr l d).1 a).1.Now:=by
 have step:∀{a d:D.Op},OpIn a→OpIn d→a.At=d.At→max l.Now a.At≤M - 20000→l.Seen.contains a.ID=false→l.Seen.contains d.ID=false→a.ID≠d.ID→a.Kind=4→d.Kind=4→a.Answer.Page≠d.Answer.Page→
   (Qr (Qr l a).1 d).1.Now=max l.Now d.At∧
   (Qr (Qr l a).1 d).1.Pages=(if hasV d.Answer.Page l.Pages=true then(Qr l a).1.Pages.set (posV d.Answer.Page l.Pages) (ansP l.Config l.Book (nth l.Pages (posV d.Answer.Page l.Pages)) d.Answer (max l.Now d.At))else(Qr l a).1.Pages):=fun{a d} ha hd hat ht hsa hsd hne hka hkd hp=>by
  obtain⟨e1,e2,e3,e4⟩:=Qbe h ha ht hsa (by omega) hka
  have h1:Qc M (n+1) (Qr l a).1:=h.apply (by omega) ha ht (by omega)
  have hseen:(Qr l a).1.Seen=l.Seen++[a.ID]:=by rw[WS hsa,QbX.2];rfl
  have hm:max (max l.Now a.At) d.At=max l.Now d.At:=by omega
  obtain⟨f1,f2,f3,f4⟩:=Qbe h1 hd (by rw[e3];omega) (by rw[hseen];simp only[List.contains_eq_mem,List.mem_append,List.mem_singleton,decide_eq_false_iff_not]at hsd ⊢;exact fun g=>g.elim hsd fun g=>hne g.symm) (by rw[hseen];simp;omega) hkd
  rw[e3,hm]at f3
  refine⟨f3,?_⟩
  rw[f4,e1,e2,e3,hm]
  have hid:∀i,i<l.Pages.length→(ansP l.Config l.Book (nth l.Pages i) a.Answer (max l.Now a.At)).ID=(nth l.Pages i).ID:=fun i hi=>Qqt h.book (h.at hi).1
  have hset:hasV d.Answer.Page (Qr l a).1.Pages=hasV d.Answer.Page l.Pages∧posV d.Answer.Page (Qr l a).1.Pages=posV d.Answer.Page l.Pages∧
    (hasV d.Answer.Page l.Pages=true→nth (Qr l a).1.Pages (posV d.Answer.Page l.Pages)=nth l.Pages (posV d.Answer.Page l.Pages)):=by
   rw[e4]
   split
   ·rename_i g
    obtain⟨g1,g2⟩:=Xu g
    refine⟨QoR (hid _ g1),Qhg (hid _ g1),fun g3=>?_⟩
    obtain⟨g4,g5⟩:=Xu g3
    exact WY (fun e=>hp (by rw[←g2,←g5,e]))
   ·exact⟨rfl,rfl,fun _=>rfl⟩
  rw[hset.1,hset.2.1]
  by_cases g:hasV d.Answer.Page l.Pages=true
  ·rw[if_pos g,if_pos g,hset.2.2 g]
  ·rw[if_neg g,if_neg g]
 obtain⟨x1,x2⟩:=step ha hd hat ht hsa hsd hne hka hkd hp
 obtain⟨y1,y2⟩:=step hd ha hat.symm (by omega) hsd hsa (Ne.symm hne) hkd hka (Ne.symm hp)
 refine⟨?_,by rw[x1,y1];omega⟩
 rw[x2,y2]
 obtain⟨_,_,_,e4⟩:=Qbe h ha ht hsa (by omega) hka
 obtain⟨_,_,_,f4⟩:=Qbe h hd (by omega) hsd (by omega) hkd
 rw[e4,f4]
 by_cases g1:hasV a.Answer.Page l.Pages=true
 ·by_cases g2:hasV d.Answer.Page l.Pages=true
  ·simp only[if_pos g1,if_pos g2]
   refine List.set_comm _ _ (fun e=>hp ?_)
   rw[←(Xu g1).2,←(Xu g2).2,e]
  ·simp only[if_pos g1,if_neg g2]
 ·by_cases g2:hasV d.Answer.Page l.Pages=true
  ·simp only[if_neg g1,if_pos g2]
  ·simp only[if_neg g1,if_neg g2]
end
end Go.Proofs.YtgokjdfkpnkekaaGreat
/-
  Ledgers looked at: what the program's check computes.
-/
namespace Go.Proofs.YtgokjdfkpnkekaaGreat
open Go AM
attribute [local irreducible] dueV stepV runV QS answerV
section
variable {n:Nat} {c:D.Config} {b:D.Book} {p q:D.Page} {now M:Int} {l:D.Ledger} {i:Nat}
theorem Qvm:∀i,i<2→U3 1000 (nth QeX i)=some true:=forall2 (by kernel_rfl) (by kernel_rfl)
theorem Qvl:∀i,i<3→U3 1000 (nth Qi9 i)=some true:=forall3 (by kernel_rfl) (by kernel_rfl) (by kernel_rfl)
theorem Qq7(hb:QI b){i:Nat}(hi:i<b.Teams.length):Zo 1000 (i:Int) b=some false:=by
 have htl:=hb.tlen
 have hone:∀j,j<b.Teams.length→WA 1000 (j:Int) b=some (nth QeX j):=fun j hj=>by
  refine Ok.eq ?_
  unfold WA
  exact Ok.atn hj (Ok.sameC (Ok.s (hb.tnm hj)))
 refine Ok.eq ?_
 unfold Zo
 refine Ok.run2 i (fun k=>((i:Int),(i:Int),(k:Int),())) rfl (by omega) (fun k hk K hK=>?_) (fun K=>by dsimp only;exact Ok.n (by omega) (Ok.sameC (Ok.s rfl)))
 try dsimp only
 refine Ok.p (by omega) (Ok.oe (hone k (by omega)) (Ok.oe (hone i hi) (Ok.n (Ql0 i (by omega) k hk) ?_)))
 try dsimp only
 rw[Qa (by omega)];exact hK
theorem Qq6(hb:QI b){i:Nat}(hi:i<b.Policies.length):Zp 1000 (i:Int) b=some false:=by
 have htl:=hb.plen
 have hone:∀j,j<b.Policies.length→WB 1000 (j:Int) b=some (nth Qi9 j):=fun j hj=>by
  refine Ok.eq ?_
  unfold WB
  exact Ok.atn hj (Ok.sameC (Ok.s (hb.pnm hj)))
 refine Ok.eq ?_
 unfold Zp
 refine Ok.run2 i (fun k=>((i:Int),(i:Int),(k:Int),())) rfl (by omega) (fun k hk K hK=>?_) (fun K=>by dsimp only;exact Ok.n (by omega) (Ok.sameC (Ok.s rfl)))
 try dsimp only
 refine Ok.p (by omega) (Ok.oe (hone k (by omega)) (Ok.oe (hone i hi) (Ok.n (QoB i (by omega) k hk) ?_)))
 try dsimp only
 rw[Qa (by omega)];exact hK
theorem QvG{t:D.Team}(h:Q3 n c)(ht:QlP t):QdJ 1000 c t.Members=some 0:=by
 have hpl:=h.plen;have hml:=ht.len
 refine Ok.eq ?_
 unfold QdJ
 refine Ok.n (by omega) (Ok.run2 (t.Members.length - 1) (fun k=>(t.Members,((k+1:Nat):Int),())) rfl (by omega) (fun k hk K hK=>?_) (fun K=>?_))
 ·try dsimp only
  have:=QfN ht.asc (show k<k+1 by omega) (show k+1<t.Members.length by omega)
  refine Ok.p (by omega) (Ok.atn (by omega) ?_)
  rw[show IntKind.wrap .i64 (((k+1:Nat):Int) - 1)=((k:Nat):Int)by rw[Qd (by omega)];omega]
  refine Ok.atn (by omega) (Ok.n (by omega) ?_)
  try dsimp only
  rw[Qa (by omega)];exact hK
 ·try dsimp only
  rw[hpl]
  have h1:=ht.mem _ (Qj (l:=t.Members) (i:=0) (by omega))
  have h2:=ht.mem _ (Qj (l:=t.Members) (i:=t.Members.length - 1) (by omega))
  refine Ok.n (by omega) (Ok.j (Ok.at (by omega) (by omega) ?_))
  rw[show IntKind.wrap .i64 (((4:Nat):Int) - 1)=3 from rfl,show IntKind.wrap .i64 (((t.Members.length:Nat):Int) - 1)=((t.Members.length - 1:Nat):Int)by rw[Qd (by omega)];omega]
  refine Ok.oe pIn (Ok.p ⟨h1.1,by have:=h1.2;show nth t.Members (0:Int).toNat≤3;simp only[Int.toNat_zero];omega⟩ (Ok.atn (by omega) (Ok.oe pIn (Ok.p (by omega) (Ok.s rfl)))))
theorem QtR{s:D.PolicyStep}(h:Q3 n c)(hb:QI b)(hs:StepOK' b.Teams.length s):Qb2 1000 c b s=some 0:=by
 have hpl:=h.plen;have hsl:=h.slen;have htl:=hb.tlen;have hw:=hs.wait;have htn:=hs.len
 have hsz:X9 1000 c b=some ⟨4,2,((b.Teams.length:Nat):Int)⟩:=by unfold X9;rw[hpl,hsl];rfl
 refine Ok.eq ?_
 unfold Qb2
 refine Ok.oe pIn (Ok.np (by omega) (Ok.n (by omega) (Ok.oe hsz ?_)))
 try dsimp only
 refine Ok.run2 s.Targets.length (fun i=>(s.Targets,((s.Targets.length:Nat):Int),(i:Int),())) rfl (by omega) (fun i hi K hK=>?_) (fun K=>by dsimp only;exact Ok.n (by omega) (Ok.s rfl))
 try dsimp only
 have hx:=hs.target _ (Qj hi)
 have h1:=hx.lo;have h2:=hx.person;have h3:=hx.sched;have h4:=hx.team
 refine Ok.p (by omega) (Ok.j (Ok.atn hi (Ok.oe pIn (Ok.p (by have:=hx.kind;omega) ?_))))
 have next:Ok (K ((s.Targets,((s.Targets.length:Nat):Int),IntKind.wrap .i64 ((i:Int)+1),()),(4,2,((b.Teams.length:Nat):Int),()),())) (·=0):=by rw[Qa (by omega)];exact hK
 rcases hx.kind with hk|hk|hk
 ·have:=h2 hk
  refine Ok.p (by omega) (Ok.oe pIn (Ok.p ⟨h1,by rw[Qd (by omega)];omega⟩ next))
 ·have:=h3 hk
  refine Ok.n (by omega) (Ok.p (by omega) (Ok.oe pIn (Ok.p ⟨h1,by rw[Qd (by omega)];omega⟩ next)))
 ·have:=h4 hk
  refine Ok.n (by omega) (Ok.n (by omega) (Ok.p (by omega) (Ok.oe pIn (Ok.p ⟨h1,by rw[Qd (by omega)];omega⟩ next))))
theorem QsV(h:Q3 n c)(hn:n≤48)(hb:QI b):QaS 1000 c b=some 0:=by
 have htl:=hb.tlen;have hpl:=hb.plen
 refine Ok.eq ?_
 unfold QaS
 refine Ok.oe (Qg7 h hn) (Ok.n (by simp) (Ok.j (Ok.n (by omega) (Ok.n (by omega) ?_))))
 refine Ok.run b.Teams.length (fun i=>((b.Teams,((b.Teams.length:Nat):Int),(i:Int),()),c,b,())) rfl (by omega) (fun i hi K hK=>?_) (fun K=>?_)
 ·try dsimp only
  have ht:=hb.team _ (Qj hi)
  refine Ok.p (by omega) (Ok.atn hi (Ok.oe (by rw[hb.tnm hi];exact Qvm i (by omega)) (Ok.nt rfl (Ok.oe (Qq7 hb hi) (Ok.f (Ok.oe (QvG h ht) (Ok.n (by simp) ?_)))))))
  try dsimp only
  rw[Qa (by omega)];exact hK
 ·try dsimp only
  refine Ok.n (by omega) (Ok.run b.Policies.length (fun i=>((((b.Policies.length:Nat):Int),(i:Int),()),c,b,())) rfl (by omega) (fun i hi K hK=>?_) (fun K=>by dsimp only;exact Ok.n (by omega) (Ok.s rfl)))
  try dsimp only
  have ht:=hb.pol _ (Qj hi)
  have hml:=ht.len;have hrp:=ht.rep
  refine Ok.p (by omega) (Ok.oe (v:=0) ?_ (Ok.n (by simp) ?_))
  ·refine Ok.eq ?_
   unfold Qc1
   refine Ok.atn hi (Ok.oe (by rw[hb.pnm hi];exact Qvl i (by omega)) (Ok.nt rfl (Ok.oe (Qq6 hb hi) (Ok.f (Ok.n (by omega) (Ok.n (by omega) (Ok.oe pIn (Ok.np (by omega) ?_))))))))
   refine Ok.run (nth b.Policies i).Steps.length (fun k=>(((nth b.Policies i).Steps,(((nth b.Policies i).Steps.length:Nat):Int),(k:Int),()),c,b,())) rfl (by omega) (fun k hk K2 hK2=>?_) (fun K2=>by dsimp only;exact Ok.n (by omega) (Ok.s rfl))
   try dsimp only
   refine Ok.p (by omega) (Ok.atn hk (Ok.oe (QtR h hb (ht.step _ (Qj hk))) (Ok.n (by simp) ?_)))
   try dsimp only
   rw[Qa (by omega)];exact hK2
  ·try dsimp only
   rw[Qa (by omega)];exact hK
theorem oin{fu:Nat}{x lo hi:Int}:Xw fu x lo hi=some (inV x lo hi):=by
 unfold Xw inV
 by_cases h1:lo≤x<;>by_cases h2:x≤hi<;>simp[cd,AM.cnd,h1,h2]
theorem QtN{L:List Int}(h:QlO L 256):QdF 1000 L=some true:=by
 have hl:=h.len
 refine Ok.eq ?_
 unfold QdF
 refine Ok.run L.length (fun i=>((L,L,((L.length:Nat):Int),(i:Int),()),())) rfl (by omega) (fun i hi k hk=>?_) (fun k=>by dsimp only;exact Ok.n (by omega) (Ok.s (decide_eq_true (by omega))))
 try dsimp only
 have hx:=h.fit _ (Qj hi)
 have hno:(L.take i).contains (nth L i)=false:=by
  cases hc:(L.take i).contains (nth L i)with
  |false=>rfl
  |true=>
   have:=Qhs hi hc
   rw[decide_eq_true h.nodup]at this;simp at this
 refine Ok.p (by omega) (Ok.j (Ok.atn hi (Ok.oe oin (Ok.bt (QN.2 hx) (Ok.natn (Ok.lec (by omega) (Ok.oe (QbL (by simp;omega)) (Ok.bf hno ?_))))))))
 try dsimp only
 rw[Qa (by omega)];exact hk
structure DelC (p0:List D.Call) (q:D.Call→Bool) (w j:Nat) (a:List D.Call):Prop where
 len:a.length=p0.length
 wj:w≤j∧j≤p0.length
 done:a.take w=(p0.take j).filter q
 rest:∀k,j≤k→nth a k=nth p0 k
theorem Qic{L:List D.Call}{q:D.Call→Bool}{i:Nat}(hi:i≤L.length)(h:∀j,j<i→q (nth L j)=true):(L.take i).filter q=L.take i:=by
 refine List.filter_eq_self.2 fun x hx=>?_
 obtain⟨k,hk,rfl⟩:=List.getElem_of_mem hx
 rw[List.length_take]at hk
 have:=h k (by omega)
 simpa [nth,List.getD_eq_getElem?_getD,List.getElem?_eq_getElem (show k<L.length by omega)]using this
theorem Qo4{L:List D.Call}{j k:Nat}{x:D.Call}(hj:j<L.length):nth (L.set j x) k=if k=j then x else nth L k:=by
 by_cases e:k=j
 ·subst e;rw[if_pos rfl,YZ hj]
 ·rw[if_neg e,WY e]
theorem Qpz{p0:List D.Call}{q:D.Call→Bool}{i:Nat}(hi:i<p0.length)(h:∀j,j<i→q (nth p0 j)=true)(hx:q (nth p0 i)=false):DelC p0 q i (i+1) p0:=by
 refine⟨rfl,by omega,?_,fun k _=>rfl⟩
 rw[←QF hi,List.filter_append,Qic (by omega) h]
 simp[hx]
theorem Qq4{p0 a:List D.Call}{q:D.Call→Bool}{w j:Nat}(h:DelC p0 q w j a)(hj:j<p0.length)(hx:q (nth a j)=true):DelC p0 q (w+1) (j+1) (a.set w (nth a j)):=by
 have h1:=h.wj
 have h2:=h.len
 refine⟨by simp[h.len],by omega,?_,fun k hk=>?_⟩
 ·rw[h.rest j (Nat.le_refl _)]at hx ⊢
  rw[←QF hj,List.filter_append,←h.done,←QF (l:=a.set w (nth p0 j)) (by simp;omega),Qo4 (by omega),if_pos rfl,List.take_set_of_le (by omega)]
  simp[hx]
 ·rw[Qo4 (by omega),if_neg (by omega)];exact h.rest k (by omega)
theorem Qq5{p0 a:List D.Call}{q:D.Call→Bool}{w j:Nat}(h:DelC p0 q w j a)(hj:j<p0.length)(hx:q (nth a j)=false):DelC p0 q w (j+1) a:=by
 have h1:=h.wj
 refine⟨h.len,by omega,?_,fun k hk=>h.rest k (by omega)⟩
 rw[h.rest j (Nat.le_refl _)]at hx
 rw[←QF hj,List.filter_append,←h.done]
 simp[hx]
theorem QrN{x:D.Call}:Vo 1000 x p=some (decide (x.Page≠p.ID)):=by
 unfold Vo
 rw[Wd]
theorem Qvs{L:List D.Call}(hl:L.length≤900):Ok (QO 1000 L p) fun r=>List.drop r.1 (List.take r.2.1 r.2.2)=ownC p.ID L:=by
 have hown:∀{x:D.Call},decide (x.Page≠p.ID)=!(decide (x.Page=p.ID)):=fun{x}=>by by_cases e:x.Page=p.ID<;>simp[e]
 unfold QO
 have hidx:Ok (QR 1000 L p) fun r=>(r = -1∧(∀j,j<L.length→decide ((nth L j).Page=p.ID)=true))∨∃i:Nat,r=(i:Int)∧i<L.length∧decide ((nth L i).Page=p.ID)=false∧∀j,j<i→decide ((nth L j).Page=p.ID)=true:=by
  unfold QR
  refine Ok.scan2 L.length (fun i=>(((L.length:Nat):Int),(i:Int),())) (fun i=>!decide ((nth L i).Page=p.ID)) rfl (by omega) (fun i hi hq hj k=>?_) (fun i hi hq k hk=>?_) (fun hq k=>?_)
  ·refine Ok.p (by omega) (Ok.natn (Ok.lt hi (Ok.get hi (Ok.oe QrN ?_))))
   rw[hown]
   exact Ok.bt hq (Ok.sameC (Ok.sameC (Ok.s (.inr ⟨i,rfl,hi,by simpa using hq,fun j hj'=>by simpa using hj j hj'⟩))))
  ·refine Ok.p (by omega) (Ok.natn (Ok.lt hi (Ok.get hi (Ok.oe QrN ?_))))
   rw[hown]
   refine Ok.bf hq ?_
   try dsimp only
   rw[Qa (by omega)];exact hk
  ·exact Ok.n (by omega) (Ok.sameC (Ok.sameC (Ok.s (.inl ⟨rfl,fun j hj=>by simpa using hq j hj⟩))))
 refine Ok.opt hidx fun r hr=>?_
 rcases hr with⟨rfl,hall⟩|⟨i,rfl,hi,hx,hj⟩
 ·refine Ok.p rfl (Ok.sameC (Ok.s ?_))
  try dsimp only
  have:=Qic (q:=fun z=>decide (z.Page=p.ID)) (Nat.le_refl _) hall
  rw[List.take_length]at this ⊢
  rw[List.drop_zero]
  exact this.symm
 ·refine Ok.n (by omega) ?_
  try dsimp only
  rw[Qa (by omega)]
  refine Ok.loop (fun q x=>∃(w j:Nat) (a:List D.Call),x=((((w:Nat):Int),((j:Nat):Int),()),p,a,())∧DelC L (fun z=>decide (z.Page=p.ID)) w j a∧q=L.length - j) (m:=L.length - (i+1)) (by omega) ⟨i,i+1,L,rfl,Qpz hi hj hx,rfl⟩ ?_
  rintro q x ⟨w,j,a,rfl,hinv,rfl⟩ K hK
  have h1:=hinv.wj
  have h2:=hinv.len
  try dsimp only
  refine Ok.ite (fun hlt=>?_) (fun hge=>?_)
  ·refine Ok.j (Ok.natn (Ok.lt (by omega) (Ok.get (by omega) (Ok.oe QrN ?_))))
   rw[hown,Bool.not_not]
   refine Ok.cnd (fun hq=>?_) (fun hq=>?_)
   ·refine Ok.natn (Ok.lt (by omega) (Ok.get (by omega) ?_))
    try dsimp only
    rw[Qa (by omega),Qa (by omega)]
    exact hK _ _ (by omega) ⟨w+1,j+1,_,rfl,Qq4 hinv (by omega) hq,rfl⟩
   ·try dsimp only
    rw[Qa (by omega)]
    exact hK _ _ (by omega) ⟨w,j+1,a,rfl,Qq5 hinv (by omega) hq,rfl⟩
  ·have ej:j=L.length:=by omega
   have hd:=hinv.done
   rw[ej,List.take_length]at hd
   refine Ok.natn (Ok.lec (by omega) (Ok.lec (by omega) (Ok.lec (by omega) (Ok.natn (Ok.lec (by simp;omega) (Ok.sameC (Ok.s ?_)))))))
   try dsimp only
   rw[List.drop_zero,List.append_assoc,List.take_append_of_le_length (by simp;omega),List.take_take,Nat.min_self]
   exact hd
theorem QjW{α:Type}[Inhabited α]{A B:List α}{z:Nat}:nth (A++B) (A.length+z)=nth B z:=by
 simp[nth,List.getD_eq_getElem?_getD,List.getElem?_append_right]
theorem QqX{C:List D.Call}{f:Int}(hpl:Qy p)(hC:C.length≤900)(h1:C.map unf=QG p.ID 0 p.Starts)(h2:C.Pairwise fun x y=>x.Fence≤y.Fence)(h3:∀c∈C,0≤c.Fence∧c.Fence≤f):QbZ 1000 p C f=some true:=by
 have hst:=hpl.st
 have hlen:C.length=(QG p.ID 0 p.Starts).length:=by rw[←h1,List.length_map]
 have hnth:∀k,k<C.length→unf (nth C k)=nth (QG p.ID 0 p.Starts) k:=fun k hk=>by
  rw[←h1]
  simp[nth,List.getD_eq_getElem?_getD,List.getElem?_eq_getElem hk]
 obtain⟨lf,hlf⟩:∃lf:Nat→Int,∀k,lf k=if k=0 then 0 else(nth C (k - 1)).Fence:=⟨fun k=>_,fun k=>rfl⟩
 have hlow:∀k,k<C.length→lf k≤(nth C k).Fence∧(nth C k).Fence≤f:=fun k hk=>by
  have hf:=h3 _ (Qj hk)
  refine⟨?_,hf.2⟩
  rw[hlf]
  split
  ·exact hf.1
  ·have:=List.pairwise_iff_getElem.1 h2 (k - 1) k (by omega) hk (by omega)
   simpa [nth,List.getD_eq_getElem?_getD,List.getElem?_eq_getElem hk,List.getElem?_eq_getElem (show k - 1<C.length by omega)]using this
 refine Ok.eq ?_
 unfold QbZ
 refine Ok.run p.Starts.length (fun j=>((C,f,(((QG p.ID 0 (p.Starts.take j)).length:Nat):Int),lf (QG p.ID 0 (p.Starts.take j)).length,p.Starts,((p.Starts.length:Nat):Int),(j:Int),()),p,())) (by rw[hlf];rfl) (by omega) (fun j hj k hk=>?_) (fun k=>?_)
 ·try dsimp only
  refine Ok.p (by omega) (Ok.atn hj ?_)
  have hts:p.Starts.take (j+1)=p.Starts.take j++[nth p.Starts j]:=(QF hj).symm
  have hsp:p.Starts=p.Starts.take j++(nth p.Starts j::p.Starts.drop (j+1)):=by rw[←QcM hj,List.take_append_drop]
  have hpe:=(hpl.pe _ (Qj hj)).1
  obtain⟨s,hs⟩:∃s,nth p.Starts j=s:=⟨_,rfl⟩
  rw[hs]at hts hsp hpe ⊢
  obtain⟨base,hbase⟩:∃base,(QG p.ID 0 (p.Starts.take j)).length=base:=⟨_,rfl⟩
  have hall:QG p.ID 0 p.Starts=QG p.ID 0 (p.Starts.take j)++(s.People.map (fun x=>D.Call.mk p.ID s.K s.At x 0)++QG p.ID 0 (p.Starts.drop (j+1))):=by
   conv=>lhs;rw[hsp]
   rw[Qa3]
   rfl
  have hbl:base+s.People.length≤C.length:=by rw[hlen,hall,←hbase];simp
  have hat:∀z,z<s.People.length→nth (QG p.ID 0 p.Starts) (base+z)=D.Call.mk p.ID s.K s.At (nth s.People z) 0:=fun z hz=>by
   rw[hall,←hbase,QjW,QcY (by simpa using hz)]
   simp[nth,List.getD_eq_getElem?_getD,hz]
  try dsimp only at hk
  rw[hts,QcH,List.length_append,List.length_map,hbase]at hk
  rw[hbase]
  refine Ok.run s.People.length (fun z=>((C,f,((base+z:Nat):Int),lf (base+z),p.Starts,((p.Starts.length:Nat):Int),(j:Int),s.People,((s.People.length:Nat):Int),(z:Int),()),p,s,())) rfl (by omega) (fun z hz k2 hk2=>?_) (fun k2=>?_)
  ·try dsimp only
   have hlt:base+z<C.length:=by omega
   have hlw:=hlow _ hlt
   have hun:=hnth _ hlt
   rw[hat z hz]at hun
   refine Ok.p (by omega) (Ok.atn hz (Ok.j (Ok.n (by omega) (Ok.atn hlt (Ok.oe oin (Ok.bt (QN.2 hlw) (Ok.atn hlt (Ok.atn hlt (Ok.n ?_ ?_)))))))))
   ·obtain⟨cc,hcc⟩:∃cc,nth C (base+z)=cc:=⟨_,rfl⟩
    rw[hcc]at hun ⊢
    obtain⟨c1,c2,c3,c4,c5⟩:=cc
    simp only[unf,D.Call.mk.injEq]at hun
    obtain⟨u1,u2,u3,u4,_⟩:=hun
    simp[u1,u2,u3,u4]
   ·try dsimp only
    refine Ok.atn hlt ?_
    try dsimp only
    rw[Qa (by omega),Qa (by omega)]
    try dsimp only at hk2
    rw[hlf (base+(z+1)),if_neg (by omega),show base+(z+1) - 1=base+z by omega]at hk2
    exact hk2
  ·try dsimp only
   refine Ok.n (by omega) ?_
   try dsimp only
   rw[Qa (by omega)]
   exact hk
 ·try dsimp only
  rw[List.take_length]
  exact Ok.n (by omega) (Ok.s (decide_eq_true (by rw[hlen])))
theorem Ql7{L:List D.Call}(h:L.length≤1000):Xl 1000 L=some L:=by unfold Xl;exact Xc (by omega)
theorem QkS(h:Qc M n l)(hpg:l.Pages.length≤9):Qal 1000 l=some true:=by
 have htop:=h.top;have hnow:=h.now;have how:=h.owner;have hfe:=h.fence;have hse:=h.seen.len;have hcl:=h.callsLe hpg
 refine Ok.eq ?_
 unfold Qal
 refine Ok.j (Ok.oe oin (Ok.bt (QN.2 (by omega)) (Ok.n (by omega) (Ok.oe oin (Ok.bt (QN.2 how) (Ok.oe oin (Ok.bt (QN.2 (by omega)) (Ok.oe (QtN h.seen) (Ok.t ?_)))))))))
 try dsimp only
 refine Ok.oe (QsV h.cfg h.small h.book) (Ok.p rfl (Ok.oe (v:=true) ?_ (Ok.t (Ok.s rfl))))
 refine Ok.eq ?_
 unfold QeC
 have hsle:∀i,sumC (l.Pages.take i) (fun p=>(ownC p.ID l.Calls).length)≤468*i:=fun i=>by
  have:=Qow (l:=l.Pages.take i) (f:=fun p=>(ownC p.ID l.Calls).length) (m:=468) fun p hp=>by
   show(ownC p.ID l.Calls).length≤468
   unfold ownC
   exact Nat.le_trans (List.length_filter_le _ _) hcl
  refine Nat.le_trans this (Nat.mul_le_mul_left _ ?_)
  simp only[List.length_take];omega
 refine Ok.run l.Pages.length (fun i=>((((sumC (l.Pages.take i) (fun p=>(ownC p.ID l.Calls).length):Nat):Int),l.Pages,((l.Pages.length:Nat):Int),(i:Int),()),l,())) rfl (by omega) (fun i hi k hk=>?_) (fun k=>?_)
 ·try dsimp only
  have hm:=Qj hi
  obtain⟨g1,g2⟩:=h.page _ hm
  have gt:=h.told _ hm
  have hs1:=hsle i
  refine Ok.p (by omega) (Ok.atn hi ?_)
  have hasc:0<i→(nth l.Pages (i - 1)).ID<(nth l.Pages i).ID:=fun h0=>QbK h.asc (by omega) hi
  try dsimp only at hk
  rw[←QF hi,Qnn]at hk
  obtain⟨p,hp⟩:∃p,nth l.Pages i=p:=⟨_,rfl⟩
  rw[hp]at g1 g2 gt hk hasc ⊢
  have hpl:=g1.plen h.book
  have hol:(ownC p.ID l.Calls).length≤468:=by unfold ownC;exact Nat.le_trans (List.length_filter_le _ _) hcl
  refine Ok.join (fun y=>y=((((sumC (l.Pages.take i) (fun p=>(ownC p.ID l.Calls).length):Nat):Int),l.Pages,((l.Pages.length:Nat):Int),(i:Int),()),l,p,())) (fun y hy=>?_) (fun J hJ=>?_)
  ·subst hy
   try dsimp only
   refine Ok.oe (Ql7 (by omega)) (Ok.opt (Qvs (p:=p) (by omega)) fun⟨r0,r1,r2⟩ hr=>?_)
   try dsimp only at hr ⊢
   rw[hr]
   refine Ok.oe (QqX hpl (by omega) gt.same gt.up gt.fit) (Ok.f ?_)
   try dsimp only
   rw[Qa (by omega),Qd (by omega)]
   exact hk
  ·have tail:Ok (optc (Z6 1000 l.Book p) fun a13=>AM.cnd a13 (AM.cnd (decide (l.Now<p.Last)) (some false) (J ((((sumC (l.Pages.take i) (fun p=>(ownC p.ID l.Calls).length):Nat):Int),l.Pages,((l.Pages.length:Nat):Int),(i:Int),()),l,p,()))) (some false)) (·=true):=
    Ok.oe (Qg6 h.book hpl) (Ok.bt (g1.check h.book) (Ok.n (by omega) (hJ _ rfl)))
   by_cases h0:0<i
   ·refine Ok.p (by omega) ?_
    rw[show IntKind.wrap .i64 ((i:Int) - 1)=((i - 1:Nat):Int)by rw[Qd (by omega)];omega]
    have:=hasc h0
    exact Ok.atn (by omega) (Ok.n (by omega) tail)
   ·exact Ok.n (by omega) tail
 ·try dsimp only
  rw[List.take_length,h.callsN]
  exact Ok.n (by omega) (Ok.s (decide_eq_true rfl))
end
end Go.Proofs.YtgokjdfkpnkekaaGreat
/-
  Plain laws of operations on ledgers: takeovers and proposed starts change nothing in the long run.
-/
namespace Go.Proofs.YtgokjdfkpnkekaaGreat
open Go AM
attribute [local irreducible] dueV stepV runV QS answerV
section
variable {n:Nat} {c:D.Config} {b:D.Book} {p q:D.Page} {now M:Int} {l x:D.Ledger} {i:Nat} {o:D.Op}
theorem Qk7{id:Int}:∀{L K:List D.Page},L.map D.Page.ID=K.map D.Page.ID→posV id L=posV id K
 |[],[],_=>rfl
 |[],_::_,h=>by simp at h
 |_::_,[],h=>by simp at h
 |y::r,z::s,h=>by
  simp only[List.map_cons,List.cons.injEq]at h
  simp only[posV,h.1,Qk7 h.2]
theorem Quc{L K:List D.Page}(hl:L.length=K.length)(h:∀i,i<L.length→(nth L i).ID=(nth K i).ID):L.map D.Page.ID=K.map D.Page.ID:=by
 refine List.ext_getElem (by simpa using hl) fun i h1 h2=>?_
 simp only[List.length_map]at h1 h2
 have:=h i h1
 simpa [nth,List.getD_eq_getElem?_getD,List.getElem?_eq_getElem h1,List.getElem?_eq_getElem h2]using this
theorem Qs9{id:Int}{L K:List D.Page}(hl:L.length=K.length)(h:∀i,i<L.length→(nth L i).ID=(nth K i).ID):hasV id L=hasV id K:=by
 have e:=Qk7 (id:=id) (Quc hl h)
 unfold hasV
 rw[e,hl]
 by_cases g:posV id K<K.length
 ·rw[h _ (by omega)]
 ·have:∀q:Prop,¬(posV id K<K.length∧q):=fun q hq=>g hq.1
  rw[decide_eq_false (this _),decide_eq_false (this _)]
theorem Qhe{L:List D.Page}{p:D.Page}{j:Nat}:nth (insP L p) j=if j<posV p.ID L then nth L j else if j=posV p.ID L then p else nth L (j - 1):=by
 have hp:=VS (id:=p.ID) (l:=L)
 have htl:(L.take (posV p.ID L)).length=posV p.ID L:=by simp;omega
 unfold insP
 split
 ·rename_i g
  rw[QcY (by omega),QkY g]
 ·rename_i g
  obtain⟨k,rfl⟩:∃k,j=(L.take (posV p.ID L)).length+k:=⟨j - posV p.ID L,by omega⟩
  rw[QjW,htl]
  cases k with
  |zero=>rw[if_pos (by omega),QbW]
  |succ k=>
   rw[if_neg (by omega),Vk,Qo5]
   congr 1
structure Alike (M:Int) (n:Nat) (l x:D.Ledger):Prop where
 li:Qc M n l
 xi:Qc M n x
 cfg:x.Config=l.Config
 book:x.Book=l.Book
 now:x.Now≤l.Now
 len:x.Pages.length=l.Pages.length
 page:∀i,i<l.Pages.length→(nth x.Pages i).ID=(nth l.Pages i).ID∧(runV l.Config l.Book (nth x.Pages i) l.Now).1=(runV l.Config l.Book (nth l.Pages i) l.Now).1
theorem Alike.has(h:Alike M n l x){id:Int}:hasV id x.Pages=hasV id l.Pages∧posV id x.Pages=posV id l.Pages:=by
 have e:∀i,i<x.Pages.length→(nth x.Pages i).ID=(nth l.Pages i).ID:=fun i hi=>(h.page i (by rw[←h.len];exact hi)).1
 exact⟨Qs9 h.len e,Qk7 (Quc h.len e)⟩
theorem Alike.wide(h:Alike M n l x)(hn:n<48):Alike M (n+1) l x:=⟨h.li.wide hn,h.xi.wide hn,h.cfg,h.book,h.now,h.len,h.page⟩
theorem Qtz(hk:o.Kind=5):(opV l o).1.Pages=(Zj l l.Pages.length).Pages∧(opV l o).1.Book=l.Book∧(opV l o).1.Config=(if 0≤o.Schedule∧o.Schedule<2 then Qh5 l.Config o.Schedule o.Edit else l.Config):=by
 unfold opV
 rw[if_neg (by omega),if_neg (by omega),if_neg (by omega),if_neg (by omega)]
 split
 ·exact⟨rfl,Yj.2.2.1,rfl⟩
 ·exact⟨rfl,Yj.2.2.1,Yj.2.1⟩
theorem Alike.runL(h:Alike M n l x)(hi:i<l.Pages.length):Alike M n (runI l i) x:=by
 obtain⟨k1,k2,k3,k4,k5,k6,k7⟩:=YH (l:=l) (i:=i)
 refine⟨h.li.run hi,h.xi,by rw[k2];exact h.cfg,by rw[k3];exact h.book,by rw[k1];exact h.now,by rw[k7];exact h.len,fun j hj=>?_⟩
 rw[k7]at hj
 rw[k1,k2,k3]
 by_cases e:j=i
 ·subst e
  refine⟨by rw[Qop h.li hi];exact(h.page j hj).1,?_⟩
  rw[Qbz h.li hi,if_pos rfl,Qkc (c:=l.Config) h.li.book QT.step (Int.le_refl _) (h.li.at hi).1]
  exact(h.page j hj).2
 ·rw[Qbz h.li hi,if_neg e]
  exact h.page j hj
theorem Alike.runR(h:Alike M n l x)(hi:i<l.Pages.length)(hnow:x.Now=l.Now):Alike M n l (runI x i):=by
 obtain⟨k1,k2,k3,k4,k5,k6,k7⟩:=YH (l:=x) (i:=i)
 have hx:i<x.Pages.length:=by rw[h.len];exact hi
 refine⟨h.li,h.xi.run hx,by rw[k2];exact h.cfg,by rw[k3];exact h.book,by rw[k1];exact h.now,by rw[k7];exact h.len,fun j hj=>?_⟩
 by_cases e:j=i
 ·subst e
  refine⟨by rw[Qop h.xi hx];exact(h.page j hj).1,?_⟩
  have hq:QJ QT M l.Book (nth x.Pages j):=by
   have:=(h.xi.at hx).1
   rw[h.book]at this;exact this
  rw[Qbz h.xi hx,if_pos rfl,h.cfg,h.book,hnow,Qkc (c:=l.Config) h.li.book QT.step (Int.le_refl _) hq]
  exact(h.page j hj).2
 ·rw[Qbz h.xi hx,if_neg e]
  exact h.page j hj
theorem Qfc{L:List D.Page}:(insP L p).length=L.length+1:=by
 have:=VS (id:=p.ID) (l:=L)
 unfold insP;rw[List.length_append,List.length_cons,List.length_take,List.length_drop];omega
theorem Alike.open(h:Alike M n l x)(hn:n<48)(ho:OpIn o)(hk:o.Kind=1)(hnow:x.Now=l.Now):Alike M (n+1) (opV l o).1 (opV x o).1:=by
 have hw:=h.wide hn
 obtain⟨e1,e2⟩:=h.has (id:=o.Page)
 have same:∀e:Int,opV l o=(l,e)→opV x o=(x,e)→Alike M (n+1) (opV l o).1 (opV x o).1:=fun e g1 g2=>by rw[g1,g2];exact hw
 by_cases g1:hasV o.Page l.Pages=true
 ·exact same 4 (by unfold opV;rw[if_pos hk,if_pos g1]) (by unfold opV;rw[if_pos hk,e1,if_pos g1])
 by_cases g2:l.Pages.length=64
 ·exact same 5 (by unfold opV;rw[if_pos hk,if_neg g1,if_pos g2]) (by unfold opV;rw[if_pos hk,e1,if_neg g1,h.len,if_pos g2])
 by_cases g3:o.Page<1
 ·exact same 1 (by unfold opV;rw[if_pos hk,if_neg g1,if_neg g2,if_pos g3]) (by unfold opV;rw[if_pos hk,e1,if_neg g1,h.len,if_neg g2,if_pos g3])
 by_cases g4:0≤o.Policy∧o.Policy<(l.Book.Policies.length:Int)
 case neg=>exact same 3 (by unfold opV;rw[if_pos hk,if_neg g1,if_neg g2,if_neg g3,if_neg g4]) (by unfold opV;rw[if_pos hk,e1,if_neg g1,h.len,if_neg g2,if_neg g3,h.book,if_neg g4])
 have f1:opV l o=(runI { l with Pages:=insP l.Pages (newP o.Page o.Policy l.Now) } (posV o.Page l.Pages),0):=by unfold opV;rw[if_pos hk,if_neg g1,if_neg g2,if_neg g3,if_pos g4]
 have f2:opV x o=(runI { x with Pages:=insP x.Pages (newP o.Page o.Policy l.Now) } (posV o.Page l.Pages),0):=by unfold opV;rw[if_pos hk,e1,if_neg g1,h.len,if_neg g2,if_neg g3,h.book,if_pos g4,e2,hnow]
 have hlen:=h.li.len
 obtain⟨i1,i2,i3⟩:=h.li.open (o:=o) (by simpa using g1) ⟨by omega,ho.page.2⟩ g4 (by omega)
 have hx4:0≤o.Policy∧o.Policy<(x.Book.Policies.length:Int):=by rw[h.book];exact g4
 obtain⟨j1,j2,j3⟩:=h.xi.open (o:=o) (by rw[e1];simpa using g1) ⟨by omega,ho.page.2⟩ hx4 (by rw[h.len];omega)
 have eP:newP o.Page o.Policy x.Now=newP o.Page o.Policy l.Now:=by rw[hnow]
 rw[eP]at j1
 have hP:(newP o.Page o.Policy l.Now).ID=o.Page:=rfl
 have hA:Alike M n { l with Pages:=insP l.Pages (newP o.Page o.Policy l.Now) } { x with Pages:=insP x.Pages (newP o.Page o.Policy l.Now) }:=by
  refine⟨i1,j1,h.cfg,h.book,h.now,by show(insP _ _).length=(insP _ _).length;rw[Qfc,Qfc,h.len],fun i hi=>?_⟩
  replace hi:i<l.Pages.length+1:=by have:i<(insP l.Pages (newP o.Page o.Policy l.Now)).length:=hi;rw[Qfc]at this;exact this
  show(nth (insP x.Pages _) i).ID=(nth (insP l.Pages _) i).ID∧(runV l.Config l.Book (nth (insP x.Pages _) i) l.Now).1=(runV l.Config l.Book (nth (insP l.Pages _) i) l.Now).1
  have hpos:=VS (id:=o.Page) (l:=l.Pages)
  rw[Qhe,Qhe,hP,e2]
  by_cases q1:i<posV o.Page l.Pages
  ·rw[if_pos q1,if_pos q1];exact h.page i (by omega)
  ·rw[if_neg q1,if_neg q1]
   by_cases q2:i=posV o.Page l.Pages
   ·rw[if_pos q2,if_pos q2];exact⟨rfl,rfl⟩
   ·rw[if_neg q2,if_neg q2];exact h.page (i - 1) (by omega)
 have hB:=hA.runR (i:=posV o.Page l.Pages) i2 hnow
 have hC:=hB.runL (i:=posV o.Page l.Pages) i2
 rw[f1,f2]
 exact hC.wide hn
end
end Go.Proofs.YtgokjdfkpnkekaaGreat
/-
  Plain laws of operations on ledgers: an owner's starts drive all that waits.
-/
namespace Go.Proofs.YtgokjdfkpnkekaaGreat
open Go AM
attribute [local irreducible] dueV stepV runV QS answerV
section
variable {n:Nat} {c:D.Config} {b:D.Book} {p q:D.Page} {now M:Int} {l x:D.Ledger} {i:Nat} {o:D.Op}
def QrD(p:D.Page):Int:=if p.State=2 then -1 else p.Next
theorem Qka(h:Qc M n l)(hi:i<l.Pages.length):(runI l i).Pages=l.Pages.set i (runV l.Config l.Book (nth l.Pages i) l.Now).1∧Xo (nth (runI l i).Pages i) l.Now=false:=by
 have e:(runI l i).Pages=l.Pages.set i (runV l.Config l.Book (nth l.Pages i) l.Now).1:=by rw[h.runEq hi];rfl
 refine⟨e,?_⟩
 rw[e,YZ hi]
 exact(Qcc h.book QT.step (h.at hi).1).2.2
def Qsv(l:D.Ledger)(now:Int):List Nat:=(List.range l.Pages.length).filter fun i=>Xo (nth l.Pages i) now
theorem Qsw{j:Nat}:j∈Qsv l now↔j<l.Pages.length∧Xo (nth l.Pages j) now=true:=by
 unfold Qsv;rw[List.mem_filter,List.mem_range]
structure Driven (M:Int) (n:Nat) (l:D.Ledger) (now:Int) (k:Nat) (x:D.Ledger):Prop where
 inv:Qc M n x
 time:x.Now≤now∧(0<k→x.Now=now)
 len:x.Pages.length=l.Pages.length
 cfg:x.Config=l.Config∧x.Book=l.Book∧x.Owner=l.Owner∧x.Fence=l.Fence
 page:∀j,j<l.Pages.length→nth x.Pages j=if j∈(Qsv l now).take k then(runV l.Config l.Book (nth l.Pages j) now).1 else nth l.Pages j
theorem Driven.done(h:Driven M n l now (Qsv l now).length x)(hl:Qc M n l){j:Nat}(hj:j<x.Pages.length):Xo (nth x.Pages j) now=false:=by
 rw[h.len]at hj
 rw[h.page j hj,List.take_length]
 split
 ·exact(Qcc hl.book QT.step (hl.at hj).1).2.2
 ·rename_i g
  cases hw:Xo (nth l.Pages j) now with
  |false=>rfl
  |true=>exact absurd (Qsw.2 ⟨hj,hw⟩) g
theorem Qrl{y:D.Page}{r:List D.Page}:insP (y::r) p=if y.ID<p.ID then y::insP r p else p::y::r:=by
 unfold insP
 by_cases g:y.ID<p.ID
 ·simp only[posV,if_pos g,List.take_succ_cons,List.drop_succ_cons,List.cons_append]
 ·simp only[posV,if_neg g,List.take_zero,List.drop_zero,List.nil_append]
theorem Qfp{id:Int}(h:id<p.ID):∀{L:List D.Page},posV id (insP L p)=posV id L
 |[]=>by simp only[insP,posV,List.take_nil,List.drop_nil,List.nil_append];rw[if_neg (by omega)]
 |y::r=>by
  rw[Qrl]
  split
  ·simp only[posV,Qfp h]
  ·simp only[posV]
   rw[if_neg (by omega),if_neg (by omega)]
theorem QmN{id k:Int}(h:id≤k):∀{L:List D.Page},posV id L≤posV k L
 |[]=>Nat.le_refl _
 |y::r=>by
  have:=QmN h (L:=r)
  simp only[posV]
  by_cases g:y.ID<id
  ·rw[if_pos g,if_pos (by omega)];omega
  ·rw[if_neg g];omega
theorem Qri{id:Int}{L:List D.Page}(ha:AscP L)(h:id<p.ID):hasV id (insP L p)=hasV id L∧(hasV id L=true→nth (insP L p) (posV id L)=nth L (posV id L)∧posV id L<posV p.ID L):=by
 have hm:=QmN (L:=L) (Int.le_of_lt h)
 have hle:=VS (id:=p.ID) (l:=L)
 have hcase:posV id L<posV p.ID L∨(posV id L=posV p.ID L∧hasV id L=false∧hasV id (insP L p)=false):=by
  rcases Nat.lt_or_ge (posV id L) (posV p.ID L)with g|g
  ·exact .inl g
  ·have e:posV id L=posV p.ID L:=by omega
   refine .inr ⟨e,?_,?_⟩
   ·unfold hasV
    refine decide_eq_false fun⟨g1,g2⟩=>?_
    have:=QiF ha (id:=p.ID) (i:=posV id L) (by omega) g1
    omega
   ·unfold hasV
    refine decide_eq_false fun⟨g1,g2⟩=>?_
    rw[Qfp h,Qhe,if_neg (by omega),if_pos e]at g2
    omega
 rcases hcase with g|⟨e,g1,g2⟩
 ·have hn:nth (insP L p) (posV id L)=nth L (posV id L):=by rw[Qhe,if_pos g]
  refine⟨?_,fun _=>⟨hn,g⟩⟩
  unfold hasV
  rw[Qfp h,hn,Qfc]
  by_cases q:(nth L (posV id L)).ID=id
  ·rw[decide_eq_true ⟨by omega,q⟩,decide_eq_true ⟨by omega,q⟩]
  ·rw[decide_eq_false (fun hh=>q hh.2),decide_eq_false (fun hh=>q hh.2)]
 ·rw[g1,g2];exact⟨rfl,fun hh=>by simp at hh⟩
theorem Qtf{L:List D.Page}{i:Nat}(hi:i<posV p.ID L)(hq:q.ID=(nth L i).ID):insP (L.set i q) p=(insP L p).set i q:=by
 have hle:=VS (id:=p.ID) (l:=L)
 unfold insP
 rw[Qhg hq,List.take_set,List.drop_set_of_lt hi,List.set_append_left _ _ (by simp;omega)]
theorem Qte{L:List D.Page}(h:q.ID=p.ID):(insP L p).set (posV p.ID L) q=insP L q:=by
 have hle:=VS (id:=p.ID) (l:=L)
 unfold insP
 rw[h,List.set_append_right _ _ (by simp;omega)]
 rw[show posV p.ID L - (L.take (posV p.ID L)).length=0 by simp;omega,List.set_cons_zero]
def QrI(c:D.Config)(b:D.Book)(o:D.Op)(now:Int):D.Page:=(runV c b (newP o.Page o.Policy now) now).1
theorem QtA(h:Qc M n l)(ho:OpIn o)(hk:o.Kind=1)(h1:1≤o.Page)(hl:l.Pages.length<64):(opV l o).1.Config=l.Config∧(opV l o).1.Book=l.Book∧
  (opV l o).1.Pages=if hasV o.Page l.Pages=false∧(0≤o.Policy∧o.Policy<(l.Book.Policies.length:Int))then insP l.Pages (QrI l.Config l.Book o l.Now)else l.Pages:=by
 have h2:=ho.page
 by_cases g1:hasV o.Page l.Pages=true
 ·have e:opV l o=(l,4):=by unfold opV;rw[if_pos hk,if_pos g1]
  rw[e,if_neg (by rw[g1];simp)];exact⟨rfl,rfl,rfl⟩
 ·have g1':hasV o.Page l.Pages=false:=by simpa using g1
  by_cases g4:0≤o.Policy∧o.Policy<(l.Book.Policies.length:Int)
  ·have e:opV l o=(runI { l with Pages:=insP l.Pages (newP o.Page o.Policy l.Now) } (posV o.Page l.Pages),0):=by
    unfold opV;rw[if_pos hk,if_neg g1,if_neg (by omega),if_neg (by omega),if_pos g4]
   obtain⟨i1,i2,i3⟩:=h.open (o:=o) g1' ⟨h1,h2.2⟩ g4 hl
   obtain⟨k1,k2,k3,_⟩:=YH (l:={ l with Pages:=insP l.Pages (newP o.Page o.Policy l.Now) }) (i:=posV o.Page l.Pages)
   have hp:=(Qka i1 (i:=posV o.Page l.Pages) i2).1
   rw[e,if_pos ⟨g1',g4⟩]
   refine⟨k2,k3,?_⟩
   rw[hp]
   show(insP l.Pages (newP o.Page o.Policy l.Now)).set (posV o.Page l.Pages) (runV l.Config l.Book (nth (insP l.Pages (newP o.Page o.Policy l.Now)) (posV o.Page l.Pages)) l.Now).1=_
   rw[i3]
   have hid:(QrI l.Config l.Book o l.Now).ID=(newP o.Page o.Policy l.Now).ID:=(Up h.book QT.step (Qn2 h.top h.book ⟨h1,h2.2⟩ g4 h.now)).id
   exact Qte hid
  ·have e:opV l o=(l,3):=by unfold opV;rw[if_pos hk,if_neg g1,if_neg (by omega),if_neg (by omega),if_neg g4]
   rw[e,if_neg (fun hh=>g4 hh.2)];exact⟨rfl,rfl,rfl⟩
theorem QjY(h:Qc M n l)(ho:OpIn o)(hn:max l.Now o.At≤M - 20000)(hs:l.Seen.contains o.ID=false)(hl:l.Seen.length<256)(hk:o.Kind=1)(h1:1≤o.Page)(hpl:l.Pages.length<64):
  (Qr l o).1.Config=l.Config∧(Qr l o).1.Book=l.Book∧(Qr l o).1.Now=max l.Now o.At∧
  (Qr l o).1.Pages=if hasV o.Page l.Pages=false∧(0≤o.Policy∧o.Policy<(l.Book.Policies.length:Int))then insP l.Pages (QrI l.Config l.Book o (max l.Now o.At))else l.Pages:=by
 have h2:Qc M n (seeV l o):=h.see ho hn hs hl
 rw[WS hs]
 obtain⟨g1,g2,g3⟩:=QtA h2 ho hk h1 hpl
 exact⟨g1,g2,QbX.1,g3⟩
theorem QpM{a d:D.Op}(h:Qc M n l)(hn:n<47)(ha:OpIn a)(hd:OpIn d)(hat:a.At=d.At)(ht:max l.Now a.At≤M - 20000)(hsa:l.Seen.contains a.ID=false)(hsd:l.Seen.contains d.ID=false)(hne:a.ID≠d.ID)(hl:l.Seen.length<255)(hka:a.Kind=4)(hkd:d.Kind=1)(hp:a.Answer.Page<d.Page)(h1:1≤d.Page)(hpl:l.Pages.length<63):
  (Qr (Qr l a).1 d).1.Pages=(Qr (Qr l d).1 a).1.Pages∧(Qr (Qr l a).1 d).1.Now=(Qr (Qr l d).1 a).1.Now:=by
 have hseen:∀o,l.Seen.contains o.ID=false→(Qr l o).1.Seen=l.Seen++[o.ID]:=fun o ho=>by rw[WS ho,QbX.2];rfl
 have hno:∀{o o':D.Op},l.Seen.contains o.ID=false→l.Seen.contains o'.ID=false→o.ID≠o'.ID→(Qr l o).1.Seen.contains o'.ID=false:=fun{o o'} h1 h2 h3=>by
  rw[hseen o h1]
  simp only[List.contains_eq_mem,List.mem_append,List.mem_singleton,decide_eq_false_iff_not]at h2 ⊢
  exact fun g=>g.elim h2 fun g=>h3 g.symm
 obtain⟨a1,a2,a3,a4⟩:=Qbe h ha ht hsa (by omega) hka
 obtain⟨d1,d2,d3,d4⟩:=QjY h hd (by omega) hsd (by omega) hkd h1 (by omega)
 have hA:Qc M (n+1) (Qr l a).1:=h.apply (by omega) ha ht (by omega)
 have hD:Qc M (n+1) (Qr l d).1:=h.apply (by omega) hd (by omega) (by omega)
 have hAl:(Qr l a).1.Pages.length<64:=by
  rw[a4];split
  ·rw[List.length_set];omega
  ·omega
 obtain⟨x1,x2,x3,x4⟩:=QjY hA hd (by rw[a3];omega) (hno hsa hsd hne) (by rw[hseen a hsa];simp;omega) hkd h1 hAl
 obtain⟨y1,y2,y3,y4⟩:=Qbe hD ha (by rw[d3];omega) (hno hsd hsa (Ne.symm hne)) (by rw[hseen d hsd];simp;omega) hka
 rw[a1,a2,a3,show max (max l.Now a.At) d.At=max l.Now a.At by omega]at x4
 rw[d1,d2,d3,show max (max l.Now d.At) a.At=max l.Now a.At by omega]at y4
 rw[show max l.Now d.At=max l.Now a.At by omega]at d4
 refine⟨?_,by rw[x3,y3,a3,d3];omega⟩
 rw[x4,y4]
 have hans:∀i,i<l.Pages.length→(ansP l.Config l.Book (nth l.Pages i) a.Answer (max l.Now a.At)).ID=(nth l.Pages i).ID:=fun i hi=>Qqt h.book (h.at hi).1
 have hNid:(0≤d.Policy∧d.Policy<(l.Book.Policies.length:Int))→(QrI l.Config l.Book d (max l.Now a.At)).ID=d.Page:=fun g4=>
  (Up h.book QT.step (Qn2 h.top h.book ⟨h1,hd.page.2⟩ g4 (start:=max l.Now a.At) ⟨by have:=h.now;omega,ht⟩)).id
 have e3:hasV d.Page (Qr l a).1.Pages=hasV d.Page l.Pages:=by
  rw[a4]
  split
  ·rename_i g
   exact QoR (hans _ (Xu g).1)
  ·rfl
 rw[e3]
 by_cases gc:hasV d.Page l.Pages=false∧(0≤d.Policy∧d.Policy<(l.Book.Policies.length:Int))
 ·rw[if_pos gc]at d4
  have hN:=hNid gc.2
  have hlt:a.Answer.Page<(QrI l.Config l.Book d (max l.Now a.At)).ID:=by rw[hN];exact hp
  obtain⟨i1,i2⟩:=Qri h.asc hlt
  have hps:=Qfp hlt (L:=l.Pages)
  rw[if_pos gc,a4,d4,i1,hps]
  by_cases g:hasV a.Answer.Page l.Pages=true
  ·obtain⟨j1,j2⟩:=i2 g
   simp only[if_pos g]
   rw[j1]
   exact Qtf j2 (hans _ (Xu g).1)
  ·simp only[if_neg g]
 ·rw[if_neg gc]at d4
  rw[if_neg gc,a4,d4]
def Qws(L:List D.Page)(t:Int):List D.Start:=(L.filter fun p=>Xo p t).map fun p=>⟨p.ID,(dueV p).1,[]⟩
theorem Driven.none(h:Driven M n l now (Qsv l now).length x)(hl:Qc M n l):Qws x.Pages now=[]:=by
 unfold Qws
 rw[List.map_eq_nil_iff,List.filter_eq_nil_iff]
 intro p hp
 obtain⟨j,hj,rfl⟩:=QkV hp
 rw[h.done hl hj];simp
end
end Go.Proofs.YtgokjdfkpnkekaaGreat
/-
  Lists of operations as they are made: one after the other, with numbers and times that ascend; what they make of a new ledger.
-/
namespace Go.Proofs.YtgokjdfkpnkekaaGreat
open Go AM
attribute [local irreducible] dueV stepV runV QS answerV
section
variable {n:Nat} {c:D.Config} {b:D.Book} {p q:D.Page} {now M:Int} {l x:D.Ledger} {i:Nat} {o:D.Op} {L:List Int} {d:D.Dice} {ops:List D.Op}
def DecL(l:D.Ledger):Prop:=∀p∈l.Pages,PgX 1000000 p
theorem Qnq{a:D.Answer}(h:Yz a=true):(1≤a.ID∧a.ID≤1000000)∧0≤a.Page∧a.Page≤999999:=by
 unfold Yz at h
 simp only[bae,QN]at h
 have h1:=h.1.1.1.1.1
 have h2:=h.1.1.1.1.2
 omega
theorem DecL.set(h:DecL l)(hp:PgX 1000000 p){L:List D.Page}(e:L=l.Pages.set i p):∀q∈L,PgX 1000000 q:=fun q hq=>by
 rw[e]at hq
 rcases List.mem_or_eq_of_mem_set hq with g|rfl
 ·exact h q g
 ·exact hp
theorem DecL.run(h:DecL l)(hl:Qc M n l)(hi:i<l.Pages.length):DecL (runI l i):=
 h.set ((h _ (Qj hi)).run hl.book QT.step (hl.at hi).1) (Qka hl hi).1
theorem DecL.runs(h:DecL l)(hl:Qc M n l):∀{k:Nat},k≤l.Pages.length→DecL (Zj l k)
 |0,_=>h
 |k+1,hk=>(h.runs hl (by omega)).run (hl.runs (by omega)) (by rw[(Yj (l:=l) (k:=k)).2.2.2.2.2.2];exact hk)
theorem QsJ{a:D.Answer}(hb:QI b)(h:QJ QT M b p)(hd:PgX 1000000 p)(hv:Yz a=true)(ha:a.Person<4):PgX 1000000 (ansP c b p a now):=by
 have hr:PgX 1000000 (runV c b p now).1:=hd.run hb QT.step h
 unfold ansP
 split
 ·rename_i g
  rcases Ub g with e|e
  ·rw[e];exact hr
  ·rw[e];exact hr.answer ha (Qnq hv).1
 ·exact hr
theorem DecL.op(h:DecL l)(hl:Qc M n l)(ho:OpIn o)(hlt:l.Pages.length<64)(ha:o.Kind=4→o.Answer.Person<4):DecL (opV l o).1:=by
 have hk5:=ho.kind
 by_cases k1:o.Kind=1
 ·unfold opV
  rw[if_pos k1]
  split
  ·exact h
  ·rename_i g
   split
   ·exact h
   ·split
    ·exact h
    ·split
     ·rename_i g1 g2 g3
      obtain⟨i1,i2,i3⟩:=hl.open (o:=o) (by simpa using g) ⟨by omega,ho.page.2⟩ g3 hlt
      refine DecL.run (fun q hq=>?_) i1 i2
      rcases Qfd.1 hq with rfl|hq
      ·exact PgX.new
      ·exact h q hq
     ·exact h
 by_cases k2:o.Kind=2
 ·unfold opV
  rw[if_neg k1,if_pos k2]
  split<;>exact h
 by_cases k3:o.Kind=3
 ·unfold opV
  rw[if_neg k1,if_neg k2,if_pos k3]
  split
  ·split
   ·rename_i g
    generalize (if (nth l.Pages (posV o.Page l.Pages)).State=2 then(-1:Int)else(nth l.Pages (posV o.Page l.Pages)).Next)=kk
    split
    ·exact h.run hl (Xu g).1
    ·exact h
   ·exact h
  ·exact h
 by_cases k4:o.Kind=4
 ·obtain⟨_,_,e⟩:=QjX hl k4
  show ∀q∈(opV l o).1.Pages,_
  rw[e]
  split
  ·rename_i g
   have hi:=(Xu g).1
   exact h.set (QsJ hl.book (hl.at hi).1 (h _ (Qj hi)) (ho.answer k4).1 (ha k4)) rfl
  ·exact h
 ·obtain⟨e,_⟩:=Qtz (l:=l) (o:=o) (by omega)
  show ∀q∈(opV l o).1.Pages,_
  rw[e]
  exact h.runs hl (Nat.le_refl _)
theorem DecL.apply(h:DecL l)(hl:Qc M n l)(ho:OpIn o)(ht:max l.Now o.At≤M - 20000)(hs:l.Seen.length<256)(hlt:l.Pages.length<64)(ha:o.Kind=4→o.Answer.Person<4):DecL (Qr l o).1:=by
 cases g:l.Seen.contains o.ID with
 |true=>unfold Qr;rw[if_pos g];exact h
 |false=>rw[WS g];exact DecL.op (l:=seeV l o) h (hl.see ho ht g hs) ho hlt ha
def QaL(c:D.Config)(b:D.Book):D.Ledger:={ Now:=0,Config:=c,Book:=b,Pages:=[],Owner:=-1,Fence:=0,Seen:=[],Calls:=[] }
def opsV(l:D.Ledger):List D.Op→D.Ledger
 |[]=>l
 |o::r=>opsV (Qr l o).1 r
theorem Qo7:∀{a:List D.Op} {l:D.Ledger} {r:List D.Op},opsV l (a++r)=opsV (opsV l a) r
 |[],_,_=>rfl
 |o::a,l,r=>by simp only[List.cons_append,opsV,Qo7]
theorem QmL:opsV l (ops++[o])=(Qr (opsV l ops) o).1:=by rw[Qo7];rfl
theorem Qix(h:i<ops.length):opsV l (ops.take (i+1))=(Qr (opsV l (ops.take i)) (nth ops i)).1:=by rw[←QF h,QmL]
structure QgM (ops:List D.Op):Prop where
 op:∀j,j<ops.length→OpIn (nth ops j)∧(nth ops j).ID=(j:Int)+1∧((nth ops j).Kind=1→1≤(nth ops j).Page∧(nth ops j).Page≤3)∧((nth ops j).Kind=4→(nth ops j).Answer.Person<4)
 at_:∀j,j<ops.length→864000≤(nth ops j).At∧(nth ops j).At≤864000+700*((j:Int)+1)
 up:∀i j,i<j→j<ops.length→(nth ops i).At≤(nth ops j).At
theorem QgM.nil:QgM []:=⟨fun j hj=>by simp at hj,fun j hj=>by simp at hj,fun i j _ hj=>by simp at hj⟩
theorem Qfl{α:Type}[Inhabited α]{l:List α}{x:α}{j:Nat}:nth (l++[x]) j=if j<l.length then nth l j else if j=l.length then x else default:=by
 unfold nth
 simp only[List.getD_eq_getElem?_getD,List.getElem?_append]
 by_cases h:j<l.length
 ·rw[if_pos h,if_pos h]
 ·rw[if_neg h,if_neg h]
  by_cases e:j=l.length
  ·subst e;simp
  ·rw[if_neg e]
   have:¬(j - l.length=0):=by omega
   obtain⟨m,hm⟩:∃m,j - l.length=m+1:=⟨j - l.length - 1,by omega⟩
   rw[hm];simp
theorem QgM.snoc(h:QgM ops)(ho:OpIn o)(hid:o.ID=(ops.length:Int)+1)(hk:o.Kind=1→1≤o.Page∧o.Page≤3)(hk4:o.Kind=4→o.Answer.Person<4)(h1:864000≤o.At∧o.At≤864000+700*((ops.length:Int)+1))(h2:∀j,j<ops.length→(nth ops j).At≤o.At):QgM (ops++[o]):=by
 have hl:(ops++[o]).length=ops.length+1:=by simp
 refine⟨fun j hj=>?_,fun j hj=>?_,fun i j hij hj=>?_⟩
 ·rw[hl]at hj
  rw[Qfl]
  by_cases g:j<ops.length
  ·rw[if_pos g];exact h.op j g
  ·obtain rfl:j=ops.length:=by omega
   rw[if_neg g,if_pos rfl];exact⟨ho,hid,hk,hk4⟩
 ·rw[hl]at hj
  rw[Qfl]
  by_cases g:j<ops.length
  ·rw[if_pos g];exact h.at_ j g
  ·obtain rfl:j=ops.length:=by omega
   rw[if_neg g,if_pos rfl];exact h1
 ·rw[hl]at hj
  rw[Qfl,Qfl,if_pos (by omega)]
  by_cases g:j<ops.length
  ·rw[if_pos g];exact h.up i j hij g
  ·obtain rfl:j=ops.length:=by omega
   rw[if_neg g,if_pos rfl];exact h2 i (by omega)
structure Behind (ops:List D.Op) (k:Nat) (l:D.Ledger):Prop where
 made:QsE k l
 dec:DecL l
 seen:∀x∈l.Seen,x≤(k:Int)
 last:l.Now≤0∨∃j,j<k∧l.Now≤(nth ops j).At
theorem Behind.first(hc:Q3 2 c)(hb:QI b):Behind ops 0 (QaL c b):=
 ⟨⟨QpL hc hb,fun p hp=>by simp[QaL]at hp,Nat.le_refl _,by simp[QaL]⟩,fun p hp=>by simp[QaL]at hp,fun x hx=>by simp[QaL]at hx,.inl (by simp[QaL])⟩
theorem Behind.fresh{k:Nat}(h:Behind ops k l)(hi:o.ID=(k:Int)+1):l.Seen.contains o.ID=false:=by
 cases hc:l.Seen.contains o.ID with
 |false=>rfl
 |true=>
  have:=h.seen _ (List.contains_iff_mem.1 hc)
  omega
theorem Behind.le{k:Nat}(h:Behind ops k l)(ho:QgM ops)(hk:k<ops.length):l.Now≤(nth ops k).At:=by
 have:=(ho.at_ k hk).1
 rcases h.last with h|⟨j,h1,h2⟩
 ·omega
 ·have:=ho.up j k h1 hk;omega
theorem QsE.next{k:Nat}(h:QsE k l)(hk:k≤11)(ho:OpIn o)(hp:o.Kind=1→o.Page≤3)(ht:o.At≤864000+700*((k:Int)+1)):QsE (k+1) (Qr l o).1:=by
 have hn:=h.now;have hs:=h.seen
 have hkp:=QhD (l:=l) (o:=o)
 exact⟨h.inv.apply (by omega) ho (by omega) (by omega),h.ids.apply h.inv ho (by omega) (by omega) hp,by omega,by rcases hkp.2 with e|e<;>omega⟩
theorem Behind.next{k:Nat}(h:Behind ops k l)(ho:QgM ops)(hk:k<ops.length)(hk9:k≤9):Behind ops (k+1) (Qr l (nth ops k)).1:=by
 obtain⟨g1,g2,g3,g4⟩:=ho.op k hk
 have hnew:=h.fresh g2
 have hat:=(ho.at_ k hk).2;have hnow:=h.made.now;have hsl:=h.made.seen
 have hp3:=h.made.inv.small3 (k:=3) h.made.ids
 refine⟨h.made.next (by omega) g1 (fun e=>(g3 e).2) hat,h.dec.apply h.made.inv g1 (by omega) (by omega) (by omega) g4,fun x hx=>?_,.inr ⟨k,by omega,?_⟩⟩
 ·rw[WS hnew,QbX.2]at hx
  rcases List.mem_append.1 hx with hx|hx
  ·have:=h.seen x hx;omega
  ·rw[List.mem_singleton.1 hx,g2];omega
 ·rw[Qpn hnew]
  have:=h.le ho hk
  omega
theorem Behind.fold(hc:Q3 2 c)(hb:QI b)(ho:QgM ops)(h9:ops.length≤9):∀{k:Nat},k≤ops.length→Behind ops k (opsV (QaL c b) (ops.take k))
 |0,_=>by rw[List.take_zero];exact Behind.first hc hb
 |k+1,hk=>by
  rw[Qix (by omega)]
  exact(Behind.fold hc hb ho h9 (by omega)).next ho (by omega) (by omega)
theorem QvI{t u:Int}(h:∀q,q<ops.length→(nth ops q).At≤t)(ht:t≤u)(ho:o.At≤u):∀q,q<(ops++[o]).length→(nth (ops++[o]) q).At≤u:=fun q hq=>by
 rw[Qfl]
 by_cases g:q<ops.length
 ·rw[if_pos g];have:=h q g;omega
 ·have:q=ops.length:=by rw[List.length_append]at hq;simp at hq;omega
  rw[if_neg g,if_pos this];exact ho
theorem QtC:opsV l []=l:=rfl
attribute [local irreducible] opsV Qr opV
theorem Qvb{k:Nat}(hL:L.length≤500)(h2:ZI L d)(hc:Q3 2 c)(hb:QI b)(hk:k≤9):
  Ok (V5 1000 d (QaL c b) (k:Int)) fun r=>ZI L r.2.2∧QgM r.2.1∧r.2.1.length≤k∧r.1=opsV (QaL c b) r.2.1:=by
 unfold V5 QaL
 refine Ok.loop (fun m x=>x=(((k:Int),864000,1,0,()),d,{ Now:=0,Config:=c,Book:=b,Pages:=[],Owner:=-1,Fence:=0,Seen:=[],Calls:=[] },(0,0,0,()),())) (m:=0) (by omega) rfl ?_
 rintro m x rfl K hK
 try dsimp only
 refine Ok.n (by simp) ?_
 try dsimp only
 rw[Qd (x:=(k:Int)+1) (by omega)]
 refine Ok.opt (nx hL h2 (by omega) (by omega)) fun⟨a11,d12⟩ ⟨h12,l12,u12⟩=>?_
 try dsimp only at h12 l12 u12 ⊢
 refine Ok.loop (fun m x=>∃(j:Nat) (t i:Int) (d:D.Dice) (z:Int×Int×Int×Unit) (ops:List D.Op),x=((t,(j:Int)+1,i,()),d,opsV (QaL c b) ops,z,ops,())∧ZI L d∧QgM ops∧ops.length=j∧(864000≤t∧t≤864000+700*(j:Int))∧(∀q,q<ops.length→(nth ops q).At≤t)∧0≤i∧(j:Int)+i≤(k:Int)∧m=i.toNat) (m:=a11.toNat) (by omega)
  ⟨0,864000,a11,d12,(0,0,0,()),[],by rw[QtC];rfl,h12,QgM.nil,rfl,by omega,fun q hq=>by simp at hq,l12,by omega,rfl⟩ ?_
 rintro m x ⟨j,t,i,d,z,ops,rfl,i1,io,il,i3,iu,i4,i5,rfl⟩ K2 hK2
 obtain⟨z1,z2,z3,⟨⟩⟩:=z
 have hB:=Behind.fold hc hb io (by omega) (Nat.le_refl _)
 rw[List.take_length,il]at hB
 have i2:=hB.made
 obtain⟨l,hl⟩:∃l,opsV (QaL c b) ops=l:=⟨_,rfl⟩
 rw[hl]at hB i2 ⊢
 try dsimp only
 refine Ok.ite (fun hi=>?_) (fun hi=>Ok.s ⟨i1,io,by dsimp only;omega,hl.symm⟩)
 refine Ok.opt (QaO hL i1 (by simp) (by simp)) fun⟨a23,d24⟩ ⟨h24,m24⟩=>?_
 try dsimp only at h24 m24 ⊢
 simp only[List.mem_cons,List.not_mem_nil,or_false]at m24
 try dsimp only
 rw[Qd (x:=t+a23) (by omega)]
 obtain⟨u,hu⟩:∃u,t+a23=u:=⟨_,rfl⟩
 rw[hu]
 have hnow:=i2.now;have hsl:=i2.seen
 refine Ok.opt (Qwg hL h24 i2.inv i2.ids (by omega) (by omega)) fun⟨o,d26⟩ ⟨h26,ho,e1,e2,e3,e4⟩=>?_
 try dsimp only at h26 ho e1 e2 e3 e4 ⊢
 have hp3:=i2.inv.small3 (k:=3) i2.ids
 have happ:=Qqy i2.inv (by omega) (by omega) ho (by omega) (by omega)
 have hnx:=i2.next (o:=o) (by omega) ho (fun e=>(e3 e).2) (by omega)
 have hp3':=hnx.inv.small3 (k:=3) hnx.ids
 have hio:QgM (ops++[o]):=io.snoc ho (by rw[e1,il]) e3 e4 (by rw[e2,il];omega) (fun q hq=>by have:=iu q hq;omega)
 have hsn:=QvI (o:=o) (u:=u) iu (by omega) (by omega)
 have hln:(ops++[o]).length=j+1:=by simp;omega
 clear iu hB
 refine Ok.join (fun y=>y=((u,(j:Int)+2,i,()),d26,opsV (QaL c b) (ops++[o]),(z1,z2,z3,()),o,ops,())) (fun y hy=>?_) (fun J hJ=>?_)
 ·subst hy
  clear happ hnx hp3' hp3 hnow hsl i2 ho e1 e2 e3 e4
  try dsimp only
  rw[Qd (x:=i - 1) (by omega)]
  refine Ok.lec (by simp;omega) (hK2 (i - 1).toNat _ (by omega) ⟨j+1,u,i - 1,d26,(z1,z2,z3,()),ops++[o],?_,h26,hio,hln,?_,hsn,?_,?_,rfl⟩)
  ·simp only[Prod.mk.injEq,and_true,true_and]
   omega
  ·omega
  ·omega
  ·omega
 ·refine Ok.oe happ ?_
  have hf:opsV (QaL c b) (ops++[o])=(Qr l o).1:=by rw[QmL,hl]
  obtain⟨l',e,hle⟩:∃l' e,Qr l o=(l',e):=⟨_,_,rfl⟩
  rw[hle]at hnx hp3' hf ⊢
  try dsimp only at hnx hp3' hf ⊢
  rw[show IntKind.wrap .i64 ((j:Int)+1+1)=(j:Int)+2 by rw[Qd (by omega)];omega]
  refine Ok.oe (QcV hnx.inv (by omega)) (Ok.t ?_)
  rw[←hf]
  exact hJ _ rfl
end
end Go.Proofs.YtgokjdfkpnkekaaGreat
/-
  Ledgers behind lists of operations: what is asked of each, their errors, those of made lists.
-/
namespace Go.Proofs.YtgokjdfkpnkekaaGreat
open Go AM
attribute [local irreducible] dueV stepV runV QS answerV
section
variable {n:Nat} {c:D.Config} {b:D.Book} {p q:D.Page} {now M:Int} {l x:D.Ledger} {i:Nat} {o:D.Op} {L:List Int} {d:D.Dice} {ops:List D.Op}
def Qe4(l:D.Ledger):List D.Op→List Int
 |[]=>[]
 |o::r=>(Qr l o).2::Qe4 (Qr l o).1 r
theorem Qmo:∀{a:List D.Op} {l:D.Ledger} {r:List D.Op},Qe4 l (a++r)=Qe4 l a++Qe4 (opsV l a) r
 |[],_,_=>rfl
 |o::a,l,r=>by simp only[List.cons_append,Qe4,opsV,Qmo]
theorem QpB(h:i<ops.length):Qe4 l (ops.take (i+1))=Qe4 l (ops.take i)++[(Qr (opsV l (ops.take i)) (nth ops i)).2]:=by rw[←QF h,Qmo];rfl
theorem Qmp:∀{ops:List D.Op} {l:D.Ledger},(Qe4 l ops).length=ops.length
 |[],_=>rfl
 |o::r,l=>by simp only[Qe4,List.length_cons,Qmp]
structure Led (l:D.Ledger):Prop where
 ok:∃M n,Qc M n l∧n≤48
 pg:l.Pages.length≤9
structure OkAt (l:D.Ledger) (o:D.Op):Prop where
 ok:∃M n,Qc M n l∧n<48∧max l.Now o.At≤M - 20000
 pg:l.Pages.length≤8
 dec:DecL l
 op:OpIn o
 len:l.Seen.length<256
theorem OkAt.led(h:OkAt l o):Led l:=by
 obtain⟨M,n,h1,h2,_⟩:=h.ok
 exact⟨⟨M,n,h1,by omega⟩,by have:=h.pg;omega⟩
theorem Led.checkE(h:Led l):Qal 1000 l=some true:=by
 obtain⟨M,n,h1,h2⟩:=h.ok
 exact QkS h1 h.pg
structure Runs (l:D.Ledger) (ops:List D.Op):Prop where
 at_:∀j,j<ops.length→OkAt (opsV l (ops.take j)) (nth ops j)
 fin:∀j,j≤ops.length→Led (opsV l (ops.take j))
 len:ops.length≤200
structure Loose (k:Nat) (l:D.Ledger):Prop where
 inv:Qc 1000000 (2+k) l
 ids:Ids 3 l
 seen:l.Seen.length≤k
 dec:DecL l
def Qpm(o:D.Op):Prop:=OpIn o∧(o.Kind=1→o.Page≤3)∧o.At≤980000∧(o.Kind=4→o.Answer.Person<4)
theorem Behind.loose{k:Nat}(h:Behind ops k l):Loose k l:=⟨h.made.inv,h.made.ids,h.made.seen,h.dec⟩
theorem Loose.okAt{k:Nat}(h:Loose k l)(hk:k≤45)(ho:Qpm o):OkAt l o:=by
 have hn:=h.inv.now;have hs:=h.seen;have h2:=ho.2.2.1
 have hp3:=h.inv.small3 (k:=3) h.ids
 exact⟨⟨1000000,2+k,h.inv,by omega,by omega⟩,by omega,h.dec,ho.1,by omega⟩
theorem Loose.led{k:Nat}(h:Loose k l)(hk:k≤46):Led l:=⟨⟨1000000,2+k,h.inv,by omega⟩,by have:=h.inv.small3 (k:=3) h.ids;omega⟩
theorem Loose.next{k:Nat}(h:Loose k l)(hk:k≤45)(ho:Qpm o):Loose (k+1) (Qr l o).1:=by
 have hn:=h.inv.now;have hs:=h.seen;have h2:=ho.2.2.1
 have hp3:=h.inv.small3 (k:=3) h.ids
 exact⟨h.inv.apply (by omega) ho.1 (by omega) (by omega),h.ids.apply h.inv ho.1 (by omega) (by omega) ho.2.1,by have:=(QhD (l:=l) (o:=o)).1;omega,h.dec.apply h.inv ho.1 (by omega) (by omega) (by omega) ho.2.2.2⟩
theorem Loose.fold{k:Nat}(h:Loose k l)(ho:∀o∈ops,Qpm o)(hk:k+ops.length≤45):∀{j:Nat},j≤ops.length→Loose (k+j) (opsV l (ops.take j))
 |0,_=>by rw[List.take_zero];exact h
 |j+1,hj=>by
  rw[Qix (by omega)]
  exact(Loose.fold h ho hk (by omega)).next (by omega) (ho _ (Qj (by omega)))
theorem Loose.runs{k:Nat}(h:Loose k l)(ho:∀o∈ops,Qpm o)(hk:k+ops.length≤45):Runs l ops:=
 ⟨fun j hj=>(h.fold ho hk (by omega)).okAt (by omega) (ho _ (Qj hj)),fun j hj=>(h.fold ho hk hj).led (by omega),by omega⟩
end
end Go.Proofs.YtgokjdfkpnkekaaGreat
/-
  Ledgers: what the program's operations compute.
-/
namespace Go.Proofs.YtgokjdfkpnkekaaGreat
open Go AM
attribute [local irreducible] dueV stepV runV QS answerV
section
variable {n:Nat} {c:D.Config} {b:D.Book} {p q:D.Page} {now M:Int} {l x:D.Ledger} {i:Nat} {o:D.Op} {ops:List D.Op}
theorem mapE{T:Type}[Inhabited T]{f:Nat→T→Option T}{l:List T}(hf:∀x∈l,f 1000 x=some x)(hl:l.length≤900):
  Qi (X:=((Int×(Int×Unit))×(List T×Unit))) (fun L1 ((a2,(a3,_)),(a4,_))=>(AM.cnd (decide (a3<a2)) (natc a3 fun a5=>(ltc a5 (List.length a4) (optc (GetElem?.getElem? a4 a5) fun a6=>(optc (f 1000 a6) fun a7=>(natc a3 fun a8=>(ltc a8 (List.length a4) (optc (GetElem?.getElem? a4 a8) fun a9=>(L1 ((a2,((IntKind.wrap .i64 (a3+1)),())),((List.set a4 a8 a7),())))))))))) (some a4))) 1000 (((((List.length l):Nat):Int),(0,())),(l,()))=some l:=by
 refine Ok.eq ?_
 refine Ok.run l.length (fun i=>(((((List.length l):Nat):Int),((i:Nat):Int),()),l,())) rfl (by omega) (fun i hi k hk=>?_) (fun k=>?_)
 ·try dsimp only
  refine Ok.p (by omega) (Ok.natn (Ok.lt hi (Ok.get hi (Ok.oe (hf _ (Qj hi)) (Ok.natn (Ok.lt hi (Ok.get hi ?_)))))))
  rw[Qa (by omega),Qsf hi];exact hk
 ·try dsimp only
  exact Ok.n (by omega) (Ok.s rfl)
theorem cl_w{l:List D.Window}(h:l.length≤900):Z4 1000 l=some l:=by unfold Z4;exact Xc (by omega)
theorem cl_i{l:List Int}(h:l.length≤900):Qx 1000 l=some l:=by unfold Qx;exact Xc (by omega)
theorem Qn1{l:List D.Zone}(h:∀z∈l,z.Rules=[])(hl:l.length≤900):Zv 1000 l=some l:=by
 unfold Zv
 refine(Wo (show Xn 1000 l=some l by unfold Xn;exact Xc (by omega))).trans (mapE (f:=QdI) (fun z hz=>?_) hl)
 unfold QdI
 exact Wo (show Y4 1000 z.Rules=some z.Rules by rw[h z hz];rfl)
theorem QkU{l:List D.Person}(h:∀z∈l,z.Quiet.length≤900)(hl:l.length≤900):Q5 1000 l=some l:=by
 unfold Q5
 refine(Wo (show YI 1000 l=some l by unfold YI;exact Xc (by omega))).trans (mapE (f:=QaQ) (fun z hz=>?_) hl)
 unfold QaQ
 exact Wo (cl_w (h z hz))
theorem QmC{l:List D.Layer}(h:∀z∈l,YC z)(hl:l.length≤900):Zc 1000 l=some l:=by
 unfold Zc
 refine(Wo (show Y2 1000 l=some l by unfold Y2;exact Xc (by omega))).trans (mapE (f:=Qb1) (fun z hz=>?_) hl)
 have hz':=h z hz
 unfold Qb1
 exact(Wo (cl_i (by have:=hz'.len;omega))).trans (Wo (cl_w (by rw[hz'.win];simp)))
theorem QmD{l:List D.Schedule}(h:∀z∈l,QcB n z)(hn:n≤48)(hl:l.length≤900):QU 1000 l=some l:=by
 unfold QU
 refine(Wo (show Ye 1000 l=some l by unfold Ye;exact Xc (by omega))).trans (mapE (f:=V7) (fun z hz=>?_) hl)
 obtain⟨⟨y,hy,hy2⟩,h2,_⟩:=h z hz
 unfold V7
 refine(Wo (QmC (l:=z.Layers) (fun w hw=>?_) (by rw[hy];simp))).trans (Wo (show Xm 1000 z.Edits=some z.Edits by unfold Xm;exact Xc (by omega)))
 rw[hy]at hw
 rw[List.mem_singleton.1 hw];exact hy2
theorem Qn0{l:List D.Team}(h:∀z∈l,QlP z)(hl:l.length≤900):Zu 1000 l=some l:=by
 unfold Zu
 refine(Wo (show Wl 1000 l=some l by unfold Wl;exact Xc (by omega))).trans (mapE (f:=QdH) (fun z hz=>?_) hl)
 unfold QdH
 exact Wo (cl_i (by have:=(h z hz).len;omega))
theorem QnZ{m:Nat}{l:List D.PolicyStep}(h:∀z∈l,StepOK' m z)(hl:l.length≤900):Q0 1000 l=some l:=by
 unfold Q0
 refine(Wo (show Yv 1000 l=some l by unfold Yv;exact Xc (by omega))).trans (mapE (f:=QdG) (fun z hz=>?_) hl)
 unfold QdG
 exact Wo (show XC 1000 z.Targets=some z.Targets by unfold XC;exact Xc (by have:=(h z hz).len;omega))
theorem QpH{m:Nat}{l:List D.Policy}(h:∀z∈l,Qbb m z)(hl:l.length≤900):Zn 1000 l=some l:=by
 unfold Zn
 refine(Wo (show XB 1000 l=some l by unfold XB;exact Xc (by omega))).trans (mapE (f:=Qfn) (fun z hz=>?_) hl)
 unfold Qfn
 exact Wo (QnZ (h z hz).step (by have:=(h z hz).len;omega))
theorem QtD(h:Qy p):U4 1000 p=some p:=by
 have h1:=h.st;have h2:=h.de;have h3:=h.se
 unfold U4
 refine(Wo (x:=p.Starts) ?_).trans ((Wo (cl_i (by omega))).trans (Wo (cl_i (by omega))))
 unfold ZN
 refine(Wo (Ql8 (by omega))).trans (mapE (f:=QaP) (fun z hz=>?_) (by omega))
 unfold QaP
 exact Wo (cl_i (by have:=(h.pe z hz).1;omega))
theorem QnY{l:List D.Page}(h:∀z∈l,Qy z)(hl:l.length≤900):Zt 1000 l=some l:=by
 unfold Zt
 exact(Wo (show Wk 1000 l=some l by unfold Wk;exact Xc (by omega))).trans (mapE (f:=U4) (fun z hz=>QtD (h z hz)) hl)
theorem Led.copyE(h:Led l):Uk 1000 l=some l:=by
 obtain⟨M,n,h1,h2⟩:=h.ok
 have hcl:=h1.callsLe h.pg;have hse:=h1.seen.len;have hpg:=h.pg;have hb:=h1.book;have hc:=h1.cfg
 have htl:=hb.tlen;have hpl:=hb.plen
 obtain⟨hz,_⟩:=hc.zones
 unfold Uk
 rw[Qn1 (by rw[hz];intro z hm;rw[List.mem_singleton.1 hm]) (by rw[hz];simp),ZJ,QkU (fun z hm=>by rcases(hc.person z hm).quiet with e|⟨_,_,e,_⟩<;>rw[e]<;>simp) (by rw[hc.plen];omega),ZJ,hc.cal]
 rw[show Zm 1000 []=some []by kernel_rfl,ZJ,QmD hc.sched h2 (by rw[hc.slen];omega),ZJ,Qn0 hb.team (by omega),ZJ,QpH hb.pol (by omega),ZJ,QnY h1.plens (by omega),ZJ,cl_i (by omega),ZJ,Ql7 (by omega),ZJ]
 obtain⟨l1,⟨c1,c2,c3,c4⟩,l3,l4,l5,l6,l7,l8⟩:=l
 have hcal:=hc.cal
 dsimp only at hcal ⊢
 subst hcal
 rfl
theorem Qvc{i j:Nat}(h:i+j<1000000):IntKind.wrap .i64 (Int.fdiv (IntKind.wrap .u64 (IntKind.wrap .i64 ((i:Int)+(j:Int)))) (HPow.hPow 2 (min 1 (Go.IntKind.bits Go.IntKind.u64))))=(((i+j) / 2:Nat):Int):=by
 rw[Qd (x:=(i:Int)+(j:Int)) (by omega)]
 have e:IntKind.u64.wrap ((i:Int)+(j:Int))=(i:Int)+(j:Int):=by
  simp only[IntKind.wrap,IntKind.bits,IntKind.signed]
  simp
  omega
 rw[e,show((HPow.hPow 2 (min 1 (Go.IntKind.bits Go.IntKind.u64)):Nat):Int)=2 from rfl,Int.fdiv_eq_ediv_of_nonneg _ (by omega),Qd (by omega)]
 omega
theorem Qt7{id:Int}(h1:0≤p.ID∧p.ID≤999999)(h2 : -1≤id∧id≤1000000):X4 1000 p id=some (p.ID - id):=by
 unfold X4
 rw[Qd (by omega)]
theorem Qv4{id:Int}{L:List D.Page}(ha:AscP L)(hl:L.length≤64)(hp:∀p∈L,0≤p.ID∧p.ID≤999999)(hid : -1≤id∧id≤1000000):
  QE 1000 L id=some ((posV id L:Int),hasV id L):=by
 have hple:=VS (id:=id) (l:=L)
 refine Ok.eq ?_
 unfold QE
 refine Ok.loop (fun m x=>∃(i j:Nat),x=((id,((L.length:Nat):Int),(i:Int),(j:Int),()),L,())∧i≤posV id L∧posV id L≤j∧j≤L.length∧m=j - i) (m:=L.length) (by omega) ⟨0,L.length,rfl,by omega,by omega,by omega,by omega⟩ ?_
 rintro m x ⟨i,j,rfl,h1,h2,h3,rfl⟩ K hK
 try dsimp only
 refine Ok.ite (fun hij=>?_) (fun hij=>?_)
 ·refine Ok.nat (by omega) ?_
  rw[show(1:Int).toNat=1 from rfl,Qvc (by omega)]
  have hh:(i+j) / 2<L.length:=by omega
  refine Ok.natn (Ok.lt hh (Ok.get hh (Ok.oe (Qt7 (hp _ (Qj hh)) hid) (Ok.ite (fun g=>?_) (fun g=>?_)))))
  ·try dsimp only
   rw[Qa (by omega)]
   refine hK _ _ (by omega) ⟨(i+j) / 2+1,j,rfl,?_,h2,h3,rfl⟩
   rcases Nat.lt_or_ge ((i+j) / 2) (posV id L)with g2|g2
   ·omega
   ·have:=QiF ha g2 hh
    omega
  ·refine hK _ _ (by omega) ⟨i,(i+j) / 2,rfl,h1,?_,by omega,rfl⟩
   rcases Nat.lt_or_ge ((i+j) / 2) (posV id L)with g2|g2
   ·have:=Qk8 g2
    omega
   ·exact g2
 ·have e:i=posV id L:=by omega
  subst e
  unfold hasV
  refine Ok.ite (fun g=>?_) (fun g=>?_)
  ·have hh:posV id L<L.length:=by omega
   refine Ok.natn (Ok.lt hh (Ok.get hh (Ok.oe (Qt7 (hp _ (Qj hh)) hid) (Ok.ite (fun g=>Ok.sameC (Ok.s ?_)) (fun g=>Ok.sameC (Ok.s ?_))))))
   ·rw[decide_eq_true ⟨hh,by omega⟩]
   ·rw[decide_eq_false (fun h=>g (by omega))]
  ·exact Ok.sameC (Ok.s (by rw[decide_eq_false (fun h=>g (by omega))]))
theorem Qc.idsIn(h:Qc M n l):∀p∈l.Pages,0≤p.ID∧p.ID≤999999:=fun p hp=>by
 have:=(h.page p hp).1.id;omega
theorem Qid{id:Int}(h:Qc M n l)(hid : -1≤id∧id≤1000000):ZU 1000 l id=some ((posV id l.Pages:Int),hasV id l.Pages):=by
 unfold ZU
 rw[Qv4 h.asc h.len h.idsIn hid,ZJ]
 dsimp only
 rw[Wd,Wd,Wd]
theorem Qtw:QdE 1000 p=some (QrD p):=by
 unfold QdE QrD
 (try unfold cd);rw[Qt8];split<;>rfl
theorem QsX{k:Nat}(hi:i<l.Pages.length)(hp:Qy (nth l.Pages i))(hk:k≤(nth l.Pages i).Starts.length)(hcl:l.Calls.length≤20000):
  QY 1000 ⟨l⟩ (i:Int) (k:Int)=some ⟨{ l with Calls:=l.Calls++QG (nth l.Pages i).ID l.Fence ((nth l.Pages i).Starts.drop k) }⟩:=by
 obtain⟨P,hP⟩:∃P,nth l.Pages i=P:=⟨_,rfl⟩
 have hst:=hp.st
 refine Ok.eq ?_
 unfold QY
 refine Ok.natn (Ok.lt hi (Ok.get hi (Ok.natn (Ok.lec hk ?_))))
 rw[hP]at hp hk hst ⊢
 refine Ok.run (P.Starts.length - k) (fun j=>(((P.Starts.drop k),(((P.Starts.drop k).length:Nat):Int),(j:Int),()),(l.Now,l.Config.Zones,l.Config.People,l.Config.Calendars,l.Config.Schedules,l.Book.Teams,l.Book.Policies,l.Owner,l.Fence,()),P,l.Pages,l.Seen,l.Calls++QG P.ID l.Fence ((P.Starts.drop k).take j),())) (by rw[List.take_zero];simp[QG]) (by omega) (fun j hj kk hkk=>?_) (fun kk=>?_)
 ·try dsimp only
  have hdl:j<(P.Starts.drop k).length:=by simp;omega
  refine Ok.p (by omega) (Ok.atn hdl ?_)
  have hpe:=(hp.pe _ (List.mem_of_mem_drop (Qj hdl))).1
  have hts:(P.Starts.drop k).take (j+1)=(P.Starts.drop k).take j++[nth (P.Starts.drop k) j]:=(QF hdl).symm
  have hol:(QG P.ID l.Fence ((P.Starts.drop k).take j)).length≤40*((P.Starts.drop k).take j).length:=Qab (m:=40) fun s hs=>(hp.pe s (List.mem_of_mem_drop (List.mem_of_mem_take hs))).1
  rw[List.length_take,List.length_drop]at hol
  obtain⟨s,hs⟩:∃s,nth (P.Starts.drop k) j=s:=⟨_,rfl⟩
  rw[hs]at hpe hts ⊢
  refine Ok.run s.People.length (fun z=>(((P.Starts.drop k),(((P.Starts.drop k).length:Nat):Int),(j:Int),s.People,((s.People.length:Nat):Int),(z:Int),()),(l.Now,l.Config.Zones,l.Config.People,l.Config.Calendars,l.Config.Schedules,l.Book.Teams,l.Book.Policies,l.Owner,l.Fence,()),P,s,l.Pages,l.Seen,(l.Calls++QG P.ID l.Fence ((P.Starts.drop k).take j))++(s.People.take z).map (fun x=>D.Call.mk P.ID s.K s.At x l.Fence),())) (by rw[List.take_zero,List.map_nil,List.append_nil];rfl) (by omega) (fun z hz k2 hk2=>?_) (fun k2=>?_)
  ·try dsimp only
   refine Ok.p (by omega) (Ok.atn hz (Ok.lec ?_ ?_))
   ·simp only[List.length_append,List.length_map,List.length_take,List.length_cons,List.length_nil];omega
   ·try dsimp only
    rw[Qa (by omega)]
    try dsimp only at hk2
    rw[←QF hz,List.map_append,←List.append_assoc]at hk2
    exact hk2
  ·try dsimp only
   refine Ok.n (by omega) ?_
   try dsimp only
   rw[Qa (by omega),List.take_length]
   try dsimp only at hkk
   rw[hts,QcH,←List.append_assoc]at hkk
   exact hkk
 ·try dsimp only
  refine Ok.n (by simp) (Ok.s ?_)
  rw[List.take_of_length_le (by simp)]
theorem QrT{A:D.Page}(hi:i<l.Pages.length)(hA:Qy A)(hx:Ext (nth l.Pages i) A)(hcl:l.Calls.length≤20000):
  QY 1000 ⟨⟨l.Now,l.Config,l.Book,l.Pages.set i A,l.Owner,l.Fence,l.Seen,l.Calls⟩⟩ (i:Int) (((nth l.Pages i).Starts.length:Nat):Int)=some ⟨putV l i A⟩:=by
 obtain⟨m,hm⟩:=hx
 have hset:nth (l.Pages.set i A) i=A:=YZ hi
 have hc:=QsX (l:={ l with Pages:=l.Pages.set i A }) (i:=i) (k:=(nth l.Pages i).Starts.length) (by show i<(l.Pages.set i A).length;rw[List.length_set];exact hi) (by show Qy (nth (l.Pages.set i A) i);rw[hset];exact hA)
  (by show _≤(nth (l.Pages.set i A) i).Starts.length;rw[hset,hm];simp) hcl
 refine hc.trans ?_
 show some (D.worker.mk { l with Pages:=l.Pages.set i A,Calls:=l.Calls++QG (nth (l.Pages.set i A) i).ID l.Fence ((nth (l.Pages.set i A) i).Starts.drop (nth l.Pages i).Starts.length) })=_
 rw[hset];rfl
theorem Qlv(h:Qc M n l)(hpg:l.Pages.length≤9)(hi:i<l.Pages.length):QD 1000 ⟨l⟩ (i:Int)=some ⟨runI l i⟩:=by
 have hcl:=h.callsLe hpg
 have hat:=h.at hi
 have hpl:=hat.1.plen h.book
 refine Ok.eq ?_
 unfold QD
 refine Ok.natn (Ok.lt hi (Ok.get hi (Ok.oe (Qwj h.cfg h.small h.book hpl) ?_)))
 have hext:=Qly (c:=l.Config) (now:=l.Now) h.book hat.1
 have hR:=hpl.runV (c:=l.Config) (now:=l.Now) h.book
 have hid:=(Up (c:=l.Config) (now:=l.Now) h.book QT.step hat.1).id
 have herr:=(Qcc (c:=l.Config) (now:=l.Now) h.book QT.step hat.1).2.1
 rw[h.runEq hi]
 obtain⟨R,e,hRe⟩:∃R e,runV l.Config l.Book (nth l.Pages i) l.Now=(R,e):=⟨_,_,rfl⟩
 rw[hRe]at hext hR hid herr ⊢
 try dsimp only at hext hR hid herr ⊢
 subst herr
 refine Ok.n (by simp) (Ok.natn (Ok.lt hi (Ok.get hi (Ok.natn (Ok.lt hi (Ok.get hi ?_))))))
 exact Ok.oe (QrT hi hR hext (by omega)) (Ok.s rfl)
theorem QtM(h:Qc M n l)(hpg:l.Pages.length≤9):∀{k:Nat},k<l.Pages.length→QD 1000 ⟨Zj l k⟩ (k:Int)=some ⟨Zj l (k+1)⟩:=fun{k} hk=>by
 have hr:=h.runs (k:=k) (by omega)
 have hl:=(Yj (l:=l) (k:=k)).2.2.2.2.2.2
 exact Qlv hr (by rw[hl];exact hpg) (by rw[hl];exact hk)
theorem Qvr(hf:0≤l.Fence∧l.Fence≤100000)(hk:o.Kind=2):Z1 1000 ⟨l⟩ o=some ((opV l o).2,⟨(opV l o).1⟩):=by
 refine Ok.eq ?_
 unfold Z1 opV
 rw[if_neg (by omega),if_pos hk,Qd (by dsimp only;omega)]
 refine Ok.ite (fun g=>Ok.s ?_) (fun g=>Ok.s ?_)
 ·rw[if_neg (fun e=>g e)]
 ·rw[if_pos (by simpa using g)]
theorem Qsj(h:Qc M n l)(hpg:l.Pages.length≤9)(ho:OpIn o)(hk:o.Kind=3):ZG 1000 ⟨l⟩ o=some ((opV l o).2,⟨(opV l o).1⟩):=by
 have hop:=ho.page
 refine Ok.eq ?_
 unfold ZG opV
 rw[if_neg (by omega),if_neg (by omega),if_pos hk]
 refine Ok.join (fun y=>y=((),(l.Now,l.Config.Zones,l.Config.People,l.Config.Calendars,l.Config.Schedules,l.Book.Teams,l.Book.Policies,l.Owner,l.Fence,()),o,l.Pages,l.Seen,l.Calls,())∧o.Region=l.Owner∧o.Fence=l.Fence) (fun y hy=>?_) (fun J hJ=>Ok.ite (fun g=>Ok.s ?_) (fun g=>Ok.ite (fun g2=>Ok.s ?_) (fun g2=>hJ _ ⟨rfl,by simpa using g,by simpa using g2⟩)))
 ·obtain⟨rfl,g1,g2⟩:=hy
  try dsimp only
  rw[if_pos ⟨g1,g2⟩]
  refine Ok.oe (Qid (l:=l) h (by omega)) (Ok.ncnd (fun hh=>Ok.s ?_) (fun hh=>?_))
  ·rw[if_neg (by rw[show hasV _ l.Pages=false from hh];simp)]
  ·rw[if_pos hh]
   have hi:=(Xu hh).1
   refine Ok.natn (Ok.lt hi (Ok.get hi ?_))
   have hrun:=Qlv h hpg hi
   obtain⟨pg,hpg2⟩:∃pg,nth l.Pages (posV o.Page l.Pages)=pg:=⟨_,rfl⟩
   rw[hpg2]
   have hw:Xo pg l.Now=((dueV pg).2 && decide ((dueV pg).1≤l.Now)):=rfl
   have hkk:(if pg.State=2 then(-1:Int)else pg.Next)=QrD pg:=rfl
   rw[hkk]
   refine Ok.join (fun y=>y=((((posV o.Page l.Pages:Nat):Int),()),(l.Now,l.Config.Zones,l.Config.People,l.Config.Calendars,l.Config.Schedules,l.Book.Teams,l.Book.Policies,l.Owner,l.Fence,()),l.Pages,l.Seen,l.Calls,())∧Xo pg l.Now=true∧o.K=QrD pg) (fun y hy=>?_) (fun J hJ=>?_)
   ·obtain⟨rfl,g3,g4⟩:=hy
    try dsimp only
    rw[if_pos ⟨g3,g4⟩]
    exact Ok.oe hrun (Ok.s rfl)
   ·refine Ok.oe Qme (Ok.cnd (fun g3=>Ok.ite (fun g4=>Ok.s ?_) (fun g4=>Ok.oe Qtw (Ok.ite (fun g5=>Ok.s ?_) (fun g5=>hJ _ ⟨rfl,?_,?_⟩)))) (fun g3=>Ok.s ?_))
    ·rw[if_neg (fun hx=>by rw[hw,g3]at hx;have:=of_decide_eq_true (show decide ((dueV pg).1≤l.Now)=true by simpa using hx.1);omega)]
    ·rw[if_neg (fun hx=>g5 hx.2.symm)]
    ·rw[hw,g3];simp;omega
    ·exact(show QrD pg=o.K by simpa using g5).symm
    ·rw[if_neg (fun hx=>by rw[hw,g3]at hx;simp at hx)]
 ·rw[if_neg (fun hx=>g hx.1)]
 ·rw[if_neg (fun hx=>g2 hx.2)]
theorem Qr8(h:Qc M n l)(hpg:l.Pages.length≤9)(hd:DecL l)(hk:o.Kind=4)(ha:Yz o.Answer=true):ZA 1000 ⟨l⟩ o=some ((opV l o).2,⟨(opV l o).1⟩):=by
 have hcl:=h.callsLe hpg
 have hap:=(Qnq ha).2
 refine Ok.eq ?_
 unfold ZA opV
 rw[if_neg (by omega),if_neg (by omega),if_neg (by omega),if_pos hk]
 refine Ok.oe (Qid (l:=l) h (by omega)) (Ok.ncnd (fun hh=>Ok.s ?_) (fun hh=>?_))
 ·rw[if_neg (by rw[show hasV _ l.Pages=false from hh];simp)]
 ·rw[if_pos hh]
  have hi:=Xu hh
  refine Ok.oe (Qlv h hpg hi.1) ?_
  have h2:=h.run hi.1
  have hkp:=YH (l:=l) (i:=posV o.Answer.Page l.Pages)
  obtain⟨i,hie⟩:∃i,posV o.Answer.Page l.Pages=i:=⟨_,rfl⟩
  rw[hie]at hi h2 hkp ⊢
  have hi2:i<(runI l i).Pages.length:=by omega
  have hcl2:=h2.callsLe (by omega)
  refine Ok.natn (Ok.lt hi2 (Ok.get hi2 ?_))
  have hpl2:=h2.plens _ (Qj hi2)
  have hde:(nth (runI l i).Pages i).Declined.length≤11:=by
   have:=((hd.run h hi.1) _ (Qj (hie ▸ hi2))).dlen (h2.at hi2).1.declined
   omega
  obtain⟨a,hae⟩:∃a:D.Answer,a=D.Answer.mk o.Answer.ID o.Answer.Page o.Answer.Person o.Answer.Kind o.Answer.Arg (runI l i).Now:=⟨_,rfl⟩
  have hae2:D.Answer.mk o.Answer.ID o.Answer.Page o.Answer.Person o.Answer.Kind o.Answer.Arg l.Now=a:=by rw[hae,hkp.1]
  rw[←hae]
  refine Ok.oe (Qqv h2.book hpl2 hde) ?_
  have hz:=Ub (b:=(runI l i).Book) (p:=nth (runI l i).Pages i) (a:=a)
  have hAl:=hpl2.answerV (a:=a) h2.book
  show Ok _ (·=((if (answerV l.Book (nth (runI l i).Pages i) (D.Answer.mk o.Answer.ID o.Answer.Page o.Answer.Person o.Answer.Kind o.Answer.Arg l.Now)).2=0 then(putV (runI l i) i (answerV l.Book (nth (runI l i).Pages i) (D.Answer.mk o.Answer.ID o.Answer.Page o.Answer.Person o.Answer.Kind o.Answer.Arg l.Now)).1,(0:Int))else(runI l i,(answerV l.Book (nth (runI l i).Pages i) (D.Answer.mk o.Answer.ID o.Answer.Page o.Answer.Person o.Answer.Kind o.Answer.Arg l.Now)).2)).2,(D.worker.mk (if (answerV l.Book (nth (runI l i).Pages i) (D.Answer.mk o.Answer.ID o.Answer.Page o.Answer.Person o.Answer.Kind o.Answer.Arg l.Now)).2=0 then(putV (runI l i) i (answerV l.Book (nth (runI l i).Pages i) (D.Answer.mk o.Answer.ID o.Answer.Page o.Answer.Person o.Answer.Kind o.Answer.Arg l.Now)).1,(0:Int))else(runI l i,(answerV l.Book (nth (runI l i).Pages i) (D.Answer.mk o.Answer.ID o.Answer.Page o.Answer.Person o.Answer.Kind o.Answer.Arg l.Now)).2)).1)))
  rw[hae2,←hkp.2.2.1]
  obtain⟨A,e,hA⟩:∃A e,answerV (runI l i).Book (nth (runI l i).Pages i) a=(A,e):=⟨_,_,rfl⟩
  rw[hA]at hz hAl ⊢
  try dsimp only at hz hAl ⊢
  by_cases he:e=0
  ·rw[if_pos he]
   have hq:=hz he
   have hext:Ext (nth (runI l i).Pages i) A:=by
    rcases hq with rfl|rfl
    ·exact Ext.refl _
    ·exact Qem
   refine Ok.n (fun g=>g he) (Ok.natn (Ok.lt hi2 (Ok.get hi2 (Ok.natn (Ok.lt hi2 (Ok.get hi2 ?_))))))
   exact Ok.oe (QrT hi2 hAl hext (by omega)) (Ok.s rfl)
  ·rw[if_neg he]
   exact Ok.p he (Ok.s rfl)
end
end Go.Proofs.YtgokjdfkpnkekaaGreat
/-
  Ledgers: what the program's operations, lists of operations and what waits compute.
-/
namespace Go.Proofs.YtgokjdfkpnkekaaGreat
open Go AM
attribute [local irreducible] dueV stepV runV QS answerV
section
variable {n:Nat} {c:D.Config} {b:D.Book} {p q:D.Page} {now M:Int} {l x:D.Ledger} {i:Nat} {o:D.Op} {ops:List D.Op}
theorem Qs4{x:D.Edit}{s:Int}(h:Q3 n c)(hn:n<48)(hx:U8 x):WU 1000 c s x=some (if 0≤s∧s<2 then(Qh5 c s x,0)else(cfg0,3)):=by
 have hsl:=h.slen
 have hpl:=h.plen
 obtain⟨off,hz,_⟩:=h.zone
 have hab:∃a b,c.Schedules=[a,b]:=by
  rcases hcs:c.Schedules with _|⟨a,_|⟨b,_|⟨d,r⟩⟩⟩
  ·rw[hcs]at hsl;simp at hsl
  ·rw[hcs]at hsl;simp at hsl
  ·exact⟨a,b,rfl⟩
  ·rw[hcs]at hsl;simp at hsl
 obtain⟨a,b,hab⟩:=hab
 have hpp:∃p1 p2 p3 p4,c.People=[p1,p2,p3,p4]:=by
  rcases hcs:c.People with _|⟨a,_|⟨b,_|⟨d,_|⟨e,_|⟨f,r⟩⟩⟩⟩⟩<;>rw[hcs]at hpl<;>simp at hpl
  exact⟨a,b,d,e,rfl⟩
 obtain⟨p1,p2,p3,p4,hpp⟩:=hpp
 have ha:=h.sched a (by rw[hab];simp)
 have hb:=h.sched b (by rw[hab];simp)
 obtain⟨la,hla,hla2⟩:=ha.layers
 obtain⟨lb,hlb,hlb2⟩:=hb.layers
 have hla3:=ha.len;have hlb3:=hb.len;have hla4:=hla2.len;have hlb4:=hlb2.len
 have hin:QjC 1000 ⟨bZ,off,[]⟩ [p1,p2,p3,p4] la lb a.Edits b.Edits:=by
  refine⟨by simp,fun p hp=>?_,by omega,by rw[hla2.win];simp,by omega,by rw[hlb2.win];simp,by omega,by omega⟩
  rcases(h.person p (by rw[hpp];exact hp)).quiet with g|⟨_,_,g,_⟩<;>rw[g]<;>simp
 refine Ok.eq ?_
 unfold WU
 rw[hz,hpp,h.cal,hab]
 dsimp only
 rw[hla,hlb]
 dsimp only
 rw[if_pos hin]
 refine Ok.oe (Qg7 h (by omega)) (Ok.n (by simp) (Ok.ite (fun hs=>?_) (fun g=>Ok.s ?_)))
 ·have hadd:addE c a b s x=Qh5 c s x:=by
   unfold addE Qh5
   rw[hab]
   rcases(show s=0∨s=1 by omega)with rfl|rfl
   ·rfl
   ·rfl
  rw[if_pos hs,hadd]
  exact Ok.oe (Qg7 (QkD h hx hs) (by omega)) (Ok.n (by simp) (Ok.s rfl))
 ·rw[if_neg g]
theorem Qv6{P:D.Page}{L:List D.Page}(hl:L.length≤64):QA 1000 L (posV P.ID L:Int) [P]=some (insP L P):=by
 have hp:=VS (id:=P.ID) (l:=L)
 refine Ok.eq ?_
 unfold QA insP
 by_cases g:posV P.ID L=L.length
 ·rw[if_pos (by omega)]
  unfold Xe
  refine Ok.natn (Ok.lec hp (Ok.n (by simp) (Ok.p (by omega) (Ok.lec (by simp;omega) (Ok.s ?_)))))
  rw[g,List.take_length,List.drop_length]
 ·rw[if_neg (by omega)]
  exact Ok.natn (Ok.lt (by omega) (Ok.lec (by omega) (Ok.s rfl)))
theorem QtB(h:Qc M n l)(hpg:l.Pages.length≤8)(ho:OpIn o)(hk:o.Kind=1):ZP 1000 ⟨l⟩ o=some ((opV l o).2,⟨(opV l o).1⟩):=by
 have hnow:=h.now;have htop:=h.top;have hpl:=h.book.plen;have hop:=ho.page
 refine Ok.eq ?_
 unfold ZP opV
 rw[if_pos hk]
 refine Ok.oe (Qid (l:=l) h (by omega)) (Ok.cnd (fun g=>Ok.s ?_) (fun g=>?_))
 ·rw[if_pos g]
 replace g:hasV o.Page l.Pages=false:=g
 rw[if_neg (by rw[g];simp)]
 refine Ok.n (by dsimp only;omega) ?_
 rw[if_neg (by omega)]
 refine Ok.oe (Qvn h.book) ?_
 unfold newV
 by_cases g1:o.Page<1
 ·rw[if_pos g1,if_neg (fun hh=>by have:=QN.1 hh.1;omega)]
  exact Ok.p (by simp) (Ok.s rfl)
 rw[if_neg g1,if_pos ⟨QN.2 (by omega),QN.2 (by dsimp only;omega)⟩]
 by_cases g2:0≤o.Policy∧o.Policy<(l.Book.Policies.length:Int)
 ·rw[if_pos g2,if_pos (QN.2 (by dsimp only;omega))]
  try dsimp only
  refine Ok.n (by simp) ?_
  obtain⟨hi1,hi2,hi3⟩:=h.open (o:=o) g (by omega) g2 (by omega)
  have hP:(newP o.Page o.Policy l.Now).ID=o.Page:=rfl
  have hins:=Qv6 (P:=newP o.Page o.Policy l.Now) (L:=l.Pages) h.len
  rw[hP]at hins
  refine Ok.oe hins ?_
  exact Ok.oe (Qlv hi1 (by show(insP l.Pages _).length≤9;rw[Qfc];omega) hi2) (Ok.s rfl)
 ·rw[if_neg g2,if_neg (fun hh=>g2 (by have:=QN.1 hh;dsimp only at this;omega))]
  exact Ok.p (by simp) (Ok.s rfl)
theorem Qq8(h:Qc M n l)(hn:n<48)(hpg:l.Pages.length≤9)(ho:OpIn o)(hk:o.Kind=5):ZO 1000 ⟨l⟩ o=some ((opV l o).2,⟨(opV l o).1⟩):=by
 refine Ok.eq ?_
 unfold ZO opV
 rw[if_neg (by omega),if_neg (by omega),if_neg (by omega),if_neg (by omega)]
 refine Ok.run l.Pages.length (fun i=>((((l.Pages.length:Nat):Int),(i:Int),()),((Zj l i).Now,(Zj l i).Config.Zones,(Zj l i).Config.People,(Zj l i).Config.Calendars,(Zj l i).Config.Schedules,(Zj l i).Book.Teams,(Zj l i).Book.Policies,(Zj l i).Owner,(Zj l i).Fence,()),o,(Zj l i).Pages,(Zj l i).Seen,(Zj l i).Calls,())) rfl (by omega) (fun i hi k hk=>?_) (fun k=>?_)
 ·try dsimp only
  refine Ok.p (by omega) (Ok.oe (QtM h hpg hi) ?_)
  try dsimp only
  rw[Qa (by omega)]
  exact hk
 ·try dsimp only
  have hki:=Yj (l:=l) (k:=l.Pages.length)
  obtain⟨L,hL⟩:∃L,Zj l l.Pages.length=L:=⟨_,rfl⟩
  rw[hL]at hki ⊢
  have hed:=Qs4 (c:=L.Config) (s:=o.Schedule) (by rw[hki.2.1];exact h.cfg) hn (ho.edit hk)
  refine Ok.n (by omega) (Ok.oe hed ?_)
  by_cases hs:0≤o.Schedule∧o.Schedule<2
  ·rw[if_pos hs,if_pos hs,←hki.2.1]
   exact Ok.j (Ok.p rfl (Ok.s rfl))
  ·rw[if_neg hs,if_neg hs]
   exact Ok.j (Ok.n (by simp) (Ok.s rfl))
theorem OpIn.validE(ho:OpIn o):QbY 1000 o=some true:=by
 refine Ok.eq ?_
 unfold QbY
 refine Ok.oe oin (Ok.bt (QN.2 ho.id) (Ok.oe oin (Ok.bt (QN.2 ho.kind) (Ok.oe oin (Ok.bt (QN.2 ho.region) (Ok.oe oin (Ok.bt (QN.2 ho.fence) (Ok.oe oin (Ok.bt (QN.2 ho.at_) (Ok.oe oin (Ok.bt (QN.2 ho.page) (Ok.oe oin (Ok.bt (QN.2 ho.k) ?_)))))))))))))
 exact Ok.ite (fun g=>Ok.s rfl) (fun g=>Ok.oe Qpj (Ok.bt (ho.answer (by omega)).1 (Ok.s rfl)))
theorem OkAt.apply(h:OkAt l o):Qam 1000 l o=some ((Qr l o).1,(Qr l o).2,true):=by
 obtain⟨M,n,h1,h2,h3⟩:=h.ok
 have hpg:=h.pg;have hsl:=h.len;have ho:=h.op;have hfe:=h1.fence
 refine Ok.eq ?_
 unfold Qam
 refine Ok.j (Ok.oe h.led.checkE (Ok.t (Ok.oe ho.validE (Ok.t ?_))))
 try dsimp only
 refine Ok.oe h.led.copyE (Ok.oe (QaI (by omega)) (Ok.cnd (fun g=>Ok.s ?_) (fun g=>?_)))
 ·unfold Qr;rw[if_pos g]
 rw[WS g]
 have hsee:=h1.see ho h3 g hsl
 have hsp:(seeV l o).Pages.length≤8:=hpg
 have hsf:0≤(seeV l o).Fence∧(seeV l o).Fence≤100000:=by show 0≤l.Fence∧l.Fence≤100000;omega
 have hsd:DecL (seeV l o):=h.dec
 have hkd:=ho.kind
 have key:∀r:Int×D.worker,r=((opV (seeV l o) o).2,⟨(opV (seeV l o) o).1⟩)→Ok (some (D.Ledger.mk r.2.Ledger.Now (D.Config.mk r.2.Ledger.Config.Zones r.2.Ledger.Config.People r.2.Ledger.Config.Calendars r.2.Ledger.Config.Schedules) (D.Book.mk r.2.Ledger.Book.Teams r.2.Ledger.Book.Policies) r.2.Ledger.Pages r.2.Ledger.Owner r.2.Ledger.Fence r.2.Ledger.Seen r.2.Ledger.Calls,r.1,true)) (·=((opV (seeV l o) o).1,(opV (seeV l o) o).2,true)):=fun r e=>by
  subst e
  obtain⟨L,e,hLe⟩:∃L e,opV (seeV l o) o=(L,e):=⟨_,_,rfl⟩
  rw[hLe]
  exact Ok.s rfl
 refine Ok.n (by omega) (Ok.lec (by simp;omega) (Ok.j ?_))
 refine Ok.ite (fun k1=>?_) (fun k1=>Ok.ite (fun k2=>?_) (fun k2=>Ok.ite (fun k3=>?_) (fun k3=>Ok.ite (fun k4=>?_) (fun k4=>?_))))
 ·exact Ok.oe (QtB (l:=seeV l o) hsee hsp ho k1) (key _ rfl)
 ·exact Ok.oe (Qvr (l:=seeV l o) hsf k2) (key _ rfl)
 ·exact Ok.oe (Qsj (l:=seeV l o) hsee (by omega) ho k3) (key _ rfl)
 ·exact Ok.oe (Qr8 (l:=seeV l o) hsee (by omega) hsd k4 (ho.answer k4).1) (key _ rfl)
 ·exact Ok.oe (Qq8 (l:=seeV l o) hsee h2 (by omega) ho (by omega)) (key _ rfl)
theorem OkAt.prog(h:OkAt l o):Qak 1000 l o=some (Qr l o):=by
 refine Ok.eq ?_
 unfold Qak
 exact Ok.oe h.apply (Ok.nt rfl (Ok.s rfl))
theorem Qj7(h:Runs l ops):Uj 1000 l ops=some (opsV l ops,Qe4 l ops):=by
 have hlen:=h.len
 refine Ok.eq ?_
 unfold Uj
 have h0:=h.fin 0 (Nat.zero_le _)
 rw[List.take_zero]at h0
 refine Ok.oe (Led.copyE (l:=l) h0) ?_
 refine Ok.run ops.length (fun j=>((ops,((ops.length:Nat):Int),(j:Int),()),opsV l (ops.take j),({ Now:=0,Config:={ Zones:=[],People:=[],Calendars:=[],Schedules:=[] },Book:={ Teams:=[],Policies:=[] },Pages:=[],Owner:=0,Fence:=0,Seen:=[],Calls:=[] }:D.Ledger),Qe4 l (ops.take j),())) rfl (by omega) (fun j hj k hk=>?_) (fun k=>?_)
 ·try dsimp only
  have ha:=h.at_ j hj
  have hel:=Qmp (ops:=ops.take j) (l:=l)
  rw[List.length_take]at hel
  try dsimp only at hk
  rw[QpB hj]at hk
  rw[Qix hj]at hk
  refine Ok.p (by omega) (Ok.atn hj (Ok.oe ha.apply ?_))
  refine Ok.lec (by simp;omega) ?_
  try dsimp only
  rw[Qa (by omega)]
  exact hk
 ·try dsimp only
  rw[List.take_length]
  exact Ok.n (by omega) (Ok.s rfl)
end
end Go.Proofs.YtgokjdfkpnkekaaGreat
/-
  Ledgers that are equal are the same to the reference.
-/
namespace Go.Proofs.YtgokjdfkpnkekaaGreat
open Go AM
attribute [local irreducible] dueV stepV runV QS answerV
section
variable {n:Nat} {c:D.Config} {b:D.Book} {l:D.Ledger}
theorem Qwk{L:List D.Page}(hl:L.length≤900)(h:∀p∈L,Qy p):UZ 1000 L L=some true:=by
 refine Ok.eq ?_
 unfold UZ
 refine Ok.n (by simp) (Ok.run2 L.length (fun i=>(L,L,(i:Int),())) rfl (by omega) (fun i hi K hK=>?_) (fun K=>by dsimp only;exact Ok.n (by omega) (Ok.s rfl)))
 try dsimp only
 refine Ok.p (by omega) (Ok.atn hi (Ok.atn hi (Ok.oe (Qp5 (h _ (Qj hi))) (Ok.f ?_))))
 try dsimp only
 rw[Qa (by omega)];exact hK
theorem sane31:QdB 1000=some true:=by kernel_rfl
end
end Go.Proofs.YtgokjdfkpnkekaaGreat
/-
  The laws OplogReplays and OplogKeeps, of what is reckoned of their code.
-/
namespace Go.Proofs.YtgokjdfkpnkekaaGreat
open Go AM
attribute [local irreducible] dueV stepV runV QS answerV opV Qr opsV Qe4
section
variable {n:Nat} {c:D.Config} {b:D.Book} {M:Int} {l x:D.Ledger} {o:D.Op} {ops:List D.Op} {L:List Int} {d:D.Dice}
theorem Runs.led(h:Runs l ops):Led (opsV l ops):=by
 have:=h.fin ops.length (Nat.le_refl _)
 rwa [List.take_length]at this
theorem Qwa{k:Nat}(hL:L.length≤500)(hd:ZI L d)(hk:k≤9):
  Ok (WI 1000 d (k:Int)) fun r=>ZI L r.2.2∧∃ops m,m≤k∧Behind ops m r.1:=by
 unfold WI
 refine Ok.opt (QuW hL hd (by omega)) fun⟨c,d1⟩ ⟨h1,hc⟩=>?_
 try dsimp only at h1 hc ⊢
 refine Ok.opt (QuR hL h1 (by omega)) fun⟨b,d2⟩ ⟨h2,hb⟩=>?_
 try dsimp only at h2 hb ⊢
 refine Ok.oe (Qvo hc (by omega) hb) ?_
 try dsimp only
 refine Ok.opt (Qvb hL h2 hc hb hk) fun⟨l,ops,d⟩ ⟨g1,g2,g3,g4⟩=>Ok.s ⟨g1,ops,ops.length,g3,?_⟩
 dsimp only at g2 g3 g4 ⊢
 have:=Behind.fold hc hb g2 (by omega) (Nat.le_refl _)
 rw[List.take_length]at this
 rw[g4];exact this
end
end Go.Proofs.YtgokjdfkpnkekaaGreat
/-
  The laws OplogRefuses and OplogKeeps, of what is reckoned of their code.
-/
namespace Go.Proofs.YtgokjdfkpnkekaaGreat
open Go AM
section
variable {n:Nat} {c:D.Config} {b:D.Book} {M:Int} {l x:D.Ledger} {o:D.Op} {ops:List D.Op} {L:List Int} {d:D.Dice}
attribute [local irreducible] dueV stepV runV QS
attribute [local irreducible] opV Qr opsV Qe4 answerV
theorem QkL{k:Int}(h:∀x∈l.Seen,x≤k)(ho:k<o.ID):l.Seen.contains o.ID=false:=by
 cases hc:l.Seen.contains o.ID with
 |false=>rfl
 |true=>
  have:=h _ (List.contains_iff_mem.1 hc)
  omega
end
end Go.Proofs.YtgokjdfkpnkekaaGreat
/-
  The law OplogApart, of what is reckoned of its code.
-/
namespace Go.Proofs.YtgokjdfkpnkekaaGreat
open Go AM
theorem Qo8{l:D.Ledger}{a d:D.Op}:opsV l [a,d]=(Qr (Qr l a).1 d).1:=rfl
attribute [local irreducible] dueV stepV runV QS answerV opV Qr opsV Qe4
theorem Qpv{x y:D.Ledger}(hx:Led x)(hy:Led y)(h:x.Pages=y.Pages):x.Calls.length=y.Calls.length:=by
 obtain⟨M,n,h1,_⟩:=hx.ok
 obtain⟨M2,n2,h2,_⟩:=hy.ok
 rw[h1.callsSum,h2.callsSum,h]
theorem Qit(t:List Int):WG 1000 t=some true:=by
 refine Ok.eq ?_
 unfold WG
 refine Ok.oe Qtp (Ok.ncnd (fun _=>Ok.oe sane31 (Ok.s rfl)) fun hl=>Ok.oe QvB ?_)
 have hL:=Qry hl
 refine Ok.opt (Qwa (k:=6) hL dice0 (by omega)) fun⟨l,z,d⟩ ⟨h1,ops,m,hm,hB⟩=>?_
 try dsimp only at h1 hB ⊢
 have hnow:=hB.made.now;have hn0:=hB.made.inv.now
 refine Ok.opt (QaO hL h1 (by simp) (by simp)) fun⟨a,d2⟩ ⟨h2,ha⟩=>?_
 try dsimp only at h2 ha ⊢
 simp only[List.mem_cons,List.not_mem_nil,or_false]at ha
 rw[Qd (x:=l.Now+a) (by omega)]
 obtain⟨u,hu⟩:∃u,l.Now+a=u:=⟨_,rfl⟩
 rw[hu]
 refine Ok.opt (QhB hL h2) fun⟨p,d3⟩ ⟨h3,hp,p1,p2,p3⟩=>?_
 try dsimp only at h3 hp p1 p2 p3 ⊢
 refine Ok.opt (QhB hL h3) fun⟨q,d4⟩ ⟨h4,hq,q1,q2,q3⟩=>?_
 try dsimp only at h4 hq q1 q2 q3 ⊢
 have hlo:=hB.loose
 have hsl:=hlo.seen
 have hp3:=hlo.inv.small3 (k:=3) hlo.ids
 have hbk:=hB.made.inv.book.plen
 have hseen:=hB.seen
 obtain⟨o,ho⟩:∃o,D.Op.mk 91 4 0 0 u 0 0 0 0 p (D.Edit.mk 0 0 0 0 0)=o:=⟨_,rfl⟩
 have o1:o.ID=91:=by rw[←ho]
 have o2:o.Kind=4:=by rw[←ho]
 have o3:o.At=u:=by rw[←ho]
 have o4:o.Answer=p:=by rw[←ho]
 have hin:OpIn o:=by
  rw[←ho]
  exact⟨by dsimp only;omega,by dsimp only;omega,by dsimp only;omega,by dsimp only;omega,by dsimp only;omega,by dsimp only;omega,by dsimp only;omega,fun _=>⟨hp.valid (by omega) (by omega) (by omega),fun e=>(hp.arg3 e).2⟩,fun e=>absurd (show(4:Int)=5 from e) (by omega)⟩
 have hfit:Qpm o:=⟨hin,fun e=>by omega,by omega,fun _=>by rw[o4];exact hp.pers.2⟩
 have hso:l.Seen.contains o.ID=false:=QkL hseen (by rw[o1];omega)
 rw[ho]
 refine Ok.join (fun y=>∃x,y=((),l,o,x,())∧Qpm x∧(Qr (Qr l o).1 x).1.Pages=(Qr (Qr l x).1 o).1.Pages∧(Qr (Qr l o).1 x).1.Now=(Qr (Qr l x).1 o).1.Now) (fun y hy=>?_) (fun J hJ=>?_)
 ·obtain⟨x,rfl,hx,e1,e2⟩:=hy
  try dsimp only
  have r1:Runs l [o,x]:=hlo.runs (by intro z hz;simp only[List.mem_cons,List.not_mem_nil,or_false]at hz;rcases hz with rfl|rfl<;>assumption) (by simp only[List.length_cons,List.length_nil];omega)
  have r2:Runs l [x,o]:=hlo.runs (by intro z hz;simp only[List.mem_cons,List.not_mem_nil,or_false]at hz;rcases hz with rfl|rfl<;>assumption) (by simp only[List.length_cons,List.length_nil];omega)
  have l1:=r1.led;have l2:=r2.led
  rw[←Qo8,←Qo8]at e1 e2
  have hc:=Qpv l1 l2 e1
  refine Ok.oe (Qj7 r1) (Ok.oe (Qj7 r2) ?_)
  try dsimp only
  obtain⟨M,n,g1,g2⟩:=l2.ok
  have hpg:=l2.pg
  rw[e1]
  refine Ok.oe (Qwk (by omega) g1.plens) (Ok.t (Ok.p e2 (Ok.p (by omega) (Ok.oe sane31 (Ok.t (Ok.s rfl))))))
 ·refine Ok.opt (nx hL h4 (by omega) (by omega)) fun⟨b,d5⟩ ⟨h5,l5,u5⟩=>?_
  try dsimp only at h5 l5 u5 ⊢
  refine Ok.ite (fun g=>?_) (fun g=>?_)
  ·refine Ok.opt (nx hL h5 (by omega) (by omega)) fun⟨b2,d6⟩ ⟨h6,l6,u6⟩=>?_
   try dsimp only at h6 l6 u6 ⊢
   obtain⟨x,hx⟩:∃x,D.Op.mk 92 1 0 0 u 3 0 b2 0 (D.Answer.mk 0 0 0 0 0 0) (D.Edit.mk 0 0 0 0 0)=x:=⟨_,rfl⟩
   have x1:x.ID=92:=by rw[←hx]
   have x2:x.Kind=1:=by rw[←hx]
   have x3:x.At=u:=by rw[←hx]
   have x4:x.Page=3:=by rw[←hx]
   have xin:OpIn x:=by
    rw[←hx]
    exact⟨by dsimp only;omega,by dsimp only;omega,by dsimp only;omega,by dsimp only;omega,by dsimp only;omega,by dsimp only;omega,by dsimp only;omega,fun e=>absurd (show(1:Int)=4 from e) (by omega),fun e=>absurd (show(1:Int)=5 from e) (by omega)⟩
   rw[hx]
   have hsx:l.Seen.contains x.ID=false:=QkL hseen (by rw[x1];omega)
   refine hJ _ ⟨x,rfl,⟨xin,fun _=>by omega,by omega,fun e=>by omega⟩,?_⟩
   exact QpM hlo.inv (by omega) hin xin (by omega) (by omega) hso hsx (by omega) (by omega) o2 x2 (by rw[o4,p2,x4];omega) (by omega) (by omega)
  ·obtain⟨x,hx⟩:∃x,D.Op.mk 92 4 0 0 u 0 0 0 0 q (D.Edit.mk 0 0 0 0 0)=x:=⟨_,rfl⟩
   have x1:x.ID=92:=by rw[←hx]
   have x2:x.Kind=4:=by rw[←hx]
   have x3:x.At=u:=by rw[←hx]
   have x4:x.Answer=q:=by rw[←hx]
   have xin:OpIn x:=by
    rw[←hx]
    exact⟨by dsimp only;omega,by dsimp only;omega,by dsimp only;omega,by dsimp only;omega,by dsimp only;omega,by dsimp only;omega,by dsimp only;omega,fun _=>⟨hq.valid (by omega) (by omega) (by omega),fun e=>(hq.arg3 e).2⟩,fun e=>absurd (show(4:Int)=5 from e) (by omega)⟩
   rw[hx]
   have hsx:l.Seen.contains x.ID=false:=QkL hseen (by rw[x1];omega)
   refine hJ _ ⟨x,rfl,⟨xin,fun e=>by omega,by omega,fun _=>by rw[x4];exact hq.pers.2⟩,?_⟩
   exact Qqu hlo.inv (by omega) hin xin (by omega) (by omega) hso hsx (by omega) (by omega) o2 x2 (by rw[o4,x4,p2,q2];omega)
end Go.Proofs.YtgokjdfkpnkekaaGreat
