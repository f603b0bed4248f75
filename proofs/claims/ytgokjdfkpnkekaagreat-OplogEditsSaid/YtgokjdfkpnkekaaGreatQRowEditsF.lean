/-
  Ledgers, in plain Lean: what operations make of them, and what they keep.
-/
import Derived.Test.YtgokjdfkpnkekaaGreatQRowEditsE
set_option maxRecDepth 100000
set_option linter.unusedSimpArgs false
set_option linter.unusedVariables false
namespace Go.Proofs.YtgokjdfkpnkekaaGreat
open Go AM
def QF(id f:Int)(l:List D.Start):List D.Call:=l.flatMap fun s=>s.People.map fun x=>D.Call.mk id s.K s.At x f
theorem Qa1{id f:Int}{a b:List D.Start}:QF id f (a++b)=QF id f a++QF id f b:=by unfold QF;rw[List.flatMap_append]
def unf(c:D.Call):D.Call:={ c with Fence:=0 }
theorem QnG{id f:Int}{l:List D.Start}:(QF id f l).map unf=QF id 0 l:=by
 unfold QF
 rw[List.map_flatMap]
 congr 1
 funext s
 rw[List.map_map];rfl
def ownC(id:Int)(l:List D.Call):List D.Call:=l.filter fun c=>decide (c.Page=id)
theorem VR{id:Int}{a b:List D.Call}:ownC id (a++b)=ownC id a++ownC id b:=List.filter_append ..
theorem X1{id f:Int}{l:List D.Start}:∀c∈QF id f l,c.Page=id∧c.Fence=f:=by
 intro c hc
 unfold QF at hc
 obtain⟨s,_,hc⟩:=List.mem_flatMap.1 hc
 obtain⟨x,_,rfl⟩:=List.mem_map.1 hc
 exact⟨rfl,rfl⟩
theorem Qix{id f:Int}{l:List D.Start}:ownC id (QF id f l)=QF id f l:=by
 unfold ownC
 exact List.filter_eq_self.2 fun c hc=>by simpa using(X1 c hc).1
theorem QpC{id i f:Int}{l:List D.Start}(h:i≠id):ownC i (QF id f l)=[]:=by
 unfold ownC
 exact List.filter_eq_nil_iff.2 fun c hc=>by have:=(X1 c hc).1;simp;omega
structure Told (fence:Int) (p:D.Page) (l:List D.Call):Prop where
 same:(ownC p.ID l).map unf=QF p.ID 0 p.Starts
 up:(ownC p.ID l).Pairwise fun x y=>x.Fence≤y.Fence
 fit:∀c∈ownC p.ID l,0≤c.Fence∧c.Fence≤fence
theorem Told.mono{f g:Int}{p:D.Page}{l:List D.Call}(h:Told f p l)(hg:f≤g):Told g p l:=⟨h.same,h.up,fun c hc=>by have:=h.fit c hc;omega⟩
theorem Told.more{f:Int}{p q:D.Page}{l:List D.Call}{m:List D.Start}(h:Told f p l)(hf:0≤f)(hid:q.ID=p.ID)(hs:q.Starts=p.Starts++m):Told f q (l++QF p.ID f m):=by
 refine⟨?_,?_,?_⟩
 ·rw[hid,VR,Qix,List.map_append,h.same,QnG,hs,Qa1]
 ·rw[hid,VR,Qix]
  refine List.pairwise_append.2 ⟨h.up,?_,fun x hx y hy=>?_⟩
  ·refine List.pairwise_iff_forall_sublist.2 fun{x y} hxy=>?_
   have h1:=(X1 x (hxy.subset (by simp))).2
   have h2:=(X1 y (hxy.subset (by simp))).2
   omega
  ·have h1:=(h.fit x hx).2
   have h2:=(X1 y hy).2
   omega
 ·rw[hid,VR,Qix]
  intro c hc
  rcases List.mem_append.1 hc with hc|hc
  ·exact h.fit c hc
  ·have:=(X1 c hc).2;omega
theorem Told.other{f id:Int}{p:D.Page}{l:List D.Call}{m:List D.Start}(h:Told f p l)(hid:p.ID≠id):Told f p (l++QF id f m):=by
 have e:ownC p.ID (l++QF id f m)=ownC p.ID l:=by rw[VR,QpC hid,List.append_nil]
 exact⟨by rw[e];exact h.same,by rw[e];exact h.up,by rw[e];exact h.fit⟩
def AscP(l:List D.Page):Prop:=l.Pairwise fun p q=>p.ID<q.ID
def posV(id:Int):List D.Page→Nat
 |[]=>0
 |p::r=>if p.ID<id then posV id r+1 else 0
theorem Qa5{id:Int}:∀{l:List D.Page},posV id l≤l.length
 |[]=>Nat.le_refl _
 |p::r=>by
  rw[posV]
  split
  ·have:=Qa5 (id:=id) (l:=r);rw[List.length_cons];omega
  ·exact Nat.zero_le _
def hasV(id:Int)(l:List D.Page):Bool:=decide (posV id l<l.length∧(nth l (posV id l)).ID=id)
theorem UO{α:Type}[Inhabited α]{x:α}{l:List α}{i:Nat}:nth (x::l) (i+1)=nth l i:=by simp[nth]
theorem QbX{α:Type}[Inhabited α]{x:α}{l:List α}:nth (x::l) 0=x:=by simp[nth]
theorem Qk1{id:Int}:∀{l:List D.Page} {i:Nat},i<posV id l→(nth l i).ID<id
 |[],i,h=>by simp[posV]at h
 |p::r,i,h=>by
  rw[posV]at h
  split at h
  ·rename_i hp
   cases i with
   |zero=>rw[QbX];exact hp
   |succ i=>rw[UO];exact Qk1 (by omega)
  ·omega
theorem QkZ{id:Int}:∀{l:List D.Page},AscP l→∀{i:Nat},posV id l≤i→i<l.length→id≤(nth l i).ID
 |[],_,i,_,h=>by simp at h
 |p::r,ha,i,h1,h2=>by
  have ha':=List.pairwise_cons.1 ha
  rw[posV]at h1
  split at h1
  ·cases i with
   |zero=>omega
   |succ i=>rw[UO];exact QkZ ha'.2 (by omega) (by simpa using h2)
  ·cases i with
   |zero=>rw[QbX];omega
   |succ i=>
    rw[UO]
    have:=ha'.1 (nth r i) (Qk (by simpa using h2))
    omega
theorem QbL{l:List D.Page}(h:AscP l){i j:Nat}(hij:i<j)(hj:j<l.length):(nth l i).ID<(nth l j).ID:=by
 have:=List.pairwise_iff_getElem.1 h i j (by omega) hj hij
 simpa [nth,List.getD_eq_getElem?_getD,List.getElem?_eq_getElem hj,List.getElem?_eq_getElem (show i<l.length by omega)]using this
theorem Qgg{l:List D.Page}(h:AscP l){i:Nat}(hi:i<l.length):posV (nth l i).ID l=i:=by
 rcases Nat.lt_trichotomy (posV (nth l i).ID l) i with g|g|g
 ·have:=QkZ h (Nat.le_refl (posV (nth l i).ID l)) (by omega)
  have:=QbL h g hi
  omega
 ·exact g
 ·have:=Qk1 g;omega
theorem QkE{l:List D.Page}(h:AscP l){i:Nat}(hi:i<l.length):hasV (nth l i).ID l=true:=by
 unfold hasV;rw[Qgg h hi];simp[hi]
theorem Qq7{id:Int}{l:List D.Page}(ha:AscP l)(h:hasV id l=false):∀p∈l,p.ID≠id:=by
 intro p hp e
 obtain⟨i,hi,rfl⟩:=List.getElem_of_mem hp
 have e1:nth l i=l[i]:=by simp[nth,List.getD_eq_getElem?_getD,List.getElem?_eq_getElem hi]
 have:=QkE ha hi
 rw[e1,e,h]at this
 simp at this
def insP(l:List D.Page)(p:D.Page):List D.Page:=l.take (posV p.ID l)++p::l.drop (posV p.ID l)
theorem QrE{id:Int}:∀{l:List D.Page},∀p∈l.take (posV id l),p.ID<id
 |[],p,h=>by simp at h
 |q::r,p,h=>by
  rw[posV]at h
  split at h
  ·rename_i hq
   rw[List.take_succ_cons]at h
   rcases List.mem_cons.1 h with rfl|h
   ·exact hq
   ·exact QrE p h
  ·simp at h
theorem QnX{id:Int}:∀{l:List D.Page},AscP l→∀p∈l.drop (posV id l),id≤p.ID
 |[],_,p,h=>by simp at h
 |q::r,ha,p,h=>by
  have ha':=List.pairwise_cons.1 ha
  rw[posV]at h
  split at h
  ·rw[List.drop_succ_cons]at h;exact QnX ha'.2 p h
  ·rename_i hq
   rw[List.drop_zero]at h
   rcases List.mem_cons.1 h with rfl|h
   ·omega
   ·have:=ha'.1 p h;omega
theorem Qs2{l:List D.Page}{p:D.Page}(h:AscP l)(hn:hasV p.ID l=false):AscP (insP l p):=by
 have hne:=Qq7 h hn
 refine List.pairwise_append.2 ⟨h.sublist (List.take_sublist ..),List.pairwise_cons.2 ⟨fun q hq=>?_,h.sublist (List.drop_sublist ..)⟩,fun q hq r hr=>?_⟩
 ·have:=QnX h q hq
  have:=hne q (List.mem_of_mem_drop hq)
  omega
 ·have h1:=QrE q hq
  rcases List.mem_cons.1 hr with rfl|hr
  ·exact h1
  ·have:=QnX h r hr;omega
theorem Qfb{l:List D.Page}{p q:D.Page}:q∈insP l p↔q=p∨q∈l:=by
 unfold insP
 rw[List.mem_append,List.mem_cons]
 constructor
 ·rintro(h|h|h)
  ·exact .inr (List.mem_of_mem_take h)
  ·exact .inl h
  ·exact .inr (List.mem_of_mem_drop h)
 ·rintro(h|h)
  ·exact .inr (.inl h)
  ·have h2:=h
   rw[←List.take_append_drop (posV p.ID l) l]at h2
   rcases List.mem_append.1 h2 with h2|h2
   ·exact .inl h2
   ·exact .inr (.inr h2)
theorem Qty{l:List D.Page}{i:Nat}{p:D.Page}(h:AscP l)(hi:i<l.length)(hp:p.ID=(nth l i).ID):AscP (l.set i p):=by
 have e:∀j,j<l.length→(nth (l.set i p) j).ID=(nth l j).ID:=fun j hj=>by
  by_cases hij:j=i
  ·subst hij;simp[nth,List.getD_eq_getElem?_getD,hi]at hp ⊢;exact hp
  ·simp[nth,List.getD_eq_getElem?_getD,List.getElem?_set,Ne.symm hij]
 refine List.pairwise_iff_getElem.2 fun j k hj hk hjk=>?_
 have hj':j<l.length:=by simpa using hj
 have hk':k<l.length:=by simpa using hk
 have h1:=e j hj';have h2:=e k hk'
 have h3:=QbL h hjk hk'
 have g1:nth (l.set i p) j=(l.set i p)[j]:=by simp only[nth,List.getD_eq_getElem?_getD,List.getElem?_eq_getElem hj,Option.getD_some]
 have g2:nth (l.set i p) k=(l.set i p)[k]:=by simp only[nth,List.getD_eq_getElem?_getD,List.getElem?_eq_getElem hk,Option.getD_some]
 rw[g1]at h1;rw[g2]at h2
 omega
structure QlH (l:List Int) (n:Nat):Prop where
 len:l.length≤n
 nodup:l.Nodup
 fit:∀x∈l,1≤x∧x≤1099511627776
theorem QlH.snoc{l:List Int}{n:Nat}{x:Int}(h:QlH l n)(h1:1≤x∧x≤1099511627776)(h2:l.contains x=false):QlH (l++[x]) (n+1):=by
 refine⟨by have:=h.len;simp;omega,List.nodup_append.2 ⟨h.nodup,by simp,fun y hy z hz e=>?_⟩,fun y hy=>?_⟩
 ·rw[List.mem_singleton.1 hz]at e
  subst e
  rw[List.contains_iff_mem.2 hy]at h2;simp at h2
 ·rcases List.mem_append.1 hy with hy|hy
  ·exact h.fit y hy
  ·rw[List.mem_singleton.1 hy];exact h1
def QT:Int→D.Start→Prop:=fun _ s=>s.People.length≤4
theorem QT.step{M:Int}{c:D.Config}{b:D.Book}:QgR QT M c b:=fun _ _ _ _=>QlV
theorem Goes.short{Q:D.Start→Prop}{st k t h:Int}{l:List D.Start}(hq:∀s,Q s→s.People.length≤4)(g:Goes Q st l k t h):∀s∈l,s.People.length≤4:=by
 induction g with
 |nil=>intro s hs;simp at hs
 |step g h1 h2 h3 h4 ih=>
  intro s hs
  rcases List.mem_append.1 hs with hs|hs
  ·exact ih s hs
  ·rw[List.mem_singleton.1 hs];exact hq _ h4
 |hand g h1 h2 h3 h4 ih=>
  intro s hs
  rcases List.mem_append.1 hs with hs|hs
  ·exact ih s hs
  ·rw[List.mem_singleton.1 hs];simp
structure Qd (M:Int) (n:Nat) (l:D.Ledger):Prop where
 top:M≤8000000000
 now:0≤l.Now∧l.Now≤M - 20000
 small:n≤48
 cfg:Q1 n l.Config
 book:QJ l.Book
 page:∀p∈l.Pages,QM QT M l.Book p∧p.Last≤l.Now
 asc:AscP l.Pages
 len:l.Pages.length≤64
 owner : -1≤l.Owner∧l.Owner≤4
 fence:0≤l.Fence∧l.Fence≤(l.Seen.length:Int)
 seen:QlH l.Seen 256
 told:∀p∈l.Pages,Told l.Fence p l.Calls
 all:∀c∈l.Calls,∃p∈l.Pages,p.ID=c.Page
def putV(l:D.Ledger)(i:Nat)(p:D.Page):D.Ledger:=
 { l with Pages:=l.Pages.set i p,Calls:=l.Calls++QF p.ID l.Fence (p.Starts.drop (nth l.Pages i).Starts.length) }
def runI(l:D.Ledger)(i:Nat):D.Ledger:=if (runV l.Config l.Book (nth l.Pages i) l.Now).2≠0 then l else putV l i (runV l.Config l.Book (nth l.Pages i) l.Now).1
def Za(l:D.Ledger):Nat→D.Ledger
 |0=>l
 |k+1=>runI (Za l k) k
def QgV(c:D.Config)(i:Int)(x:D.Edit):D.Config:=
 { c with Schedules:=c.Schedules.set i.toNat { nth c.Schedules i.toNat with Edits:=(nth c.Schedules i.toNat).Edits++[x] } }
def opV(l:D.Ledger)(o:D.Op):D.Ledger×Int:=
  if o.Kind=1 then
    (if hasV o.Page l.Pages=true then(l,4)else if l.Pages.length=64 then(l,5)else if o.Page<1 then(l,1)
     else if 0≤o.Policy∧o.Policy<(l.Book.Policies.length:Int)then(runI { l with Pages:=insP l.Pages (newP o.Page o.Policy l.Now) } (posV o.Page l.Pages),0)else(l,3))
  else if o.Kind=2 then(if o.Fence=l.Fence+1 then({ l with Owner:=o.Region,Fence:=o.Fence },0)else(l,23))
  else if o.Kind=3 then
    (if o.Region=l.Owner∧o.Fence=l.Fence then
      (if hasV o.Page l.Pages=true then
        (if Xm (nth l.Pages (posV o.Page l.Pages)) l.Now=true∧o.K=(if (nth l.Pages (posV o.Page l.Pages)).State=2 then -1 else(nth l.Pages (posV o.Page l.Pages)).Next)then(runI l (posV o.Page l.Pages),0)else(l,9))
       else(l,3))
     else(l,23))
  else if o.Kind=4 then
    (if hasV o.Answer.Page l.Pages=true then
      (if (answerV l.Book (nth (runI l (posV o.Answer.Page l.Pages)).Pages (posV o.Answer.Page l.Pages)) { o.Answer with At:=l.Now }).2=0 then
         (putV (runI l (posV o.Answer.Page l.Pages)) (posV o.Answer.Page l.Pages) (answerV l.Book (nth (runI l (posV o.Answer.Page l.Pages)).Pages (posV o.Answer.Page l.Pages)) { o.Answer with At:=l.Now }).1,0)
       else(runI l (posV o.Answer.Page l.Pages),(answerV l.Book (nth (runI l (posV o.Answer.Page l.Pages)).Pages (posV o.Answer.Page l.Pages)) { o.Answer with At:=l.Now }).2))
     else(l,3))
  else if 0≤o.Schedule∧o.Schedule<2 then({ Za l l.Pages.length with Config:=QgV l.Config o.Schedule o.Edit },0)else(Za l l.Pages.length,3)
def Yy(l:D.Ledger)(o:D.Op):D.Ledger×Int:=
 if l.Seen.contains o.ID=true then(l,0)else opV { l with Now:=max l.Now o.At,Seen:=l.Seen++[o.ID] } o
section
variable {M:Int} {n:Nat} {l:D.Ledger} {i:Nat} {p q:D.Page} {b:D.Book} {c:D.Config} {now:Int}
def Ext(p q:D.Page):Prop:=∃m,q.Starts=p.Starts++m
theorem Ext.refl(p:D.Page):Ext p p:=⟨[],by simp⟩
theorem Ext.step(h:Ext p q):Ext p (stepQ c b q):=by
 obtain⟨m,hm⟩:=h
 unfold stepQ
 split
 ·exact⟨m,hm⟩
 ·split
  ·exact⟨m,hm⟩
  ·exact⟨m++[_],by dsimp only;rw[hm,List.append_assoc]⟩
theorem Qlq(hb:QJ b)(h:QM QT M b p):Ext p (runV c b p now).1:=
 Qhu hb QT.step (fun q _ _ hr=>hr.step) h (Ext.refl p)
theorem Qej{a:D.Answer}:Ext p (Y5 p a):=by
 by_cases h:a.Kind=4
 ·exact⟨_,QhD.1 h⟩
 ·exact⟨[],by rw[QhD.2 h];simp⟩
theorem QpI(hx:Ext (nth l.Pages i) p):∃m,p.Starts=(nth l.Pages i).Starts++m∧(putV l i p).Calls=l.Calls++QF p.ID l.Fence m:=by
 obtain⟨m,hm⟩:=hx
 refine⟨m,hm,?_⟩
 unfold putV
 dsimp only
 rw[hm,List.drop_left]
theorem Xp{α:Type}[Inhabited α]{l:List α}{i:Nat}{x:α}(h:i<l.length):nth (l.set i x) i=x:=by
 simp[nth,List.getD_eq_getElem?_getD,h]
theorem U0{α:Type}[Inhabited α]{l:List α}{i j:Nat}{x:α}(h:j≠i):nth (l.set i x) j=nth l j:=by
 simp[nth,List.getD_eq_getElem?_getD,List.getElem?_set,Ne.symm h]
theorem QkM{α:Type}[Inhabited α]{l:List α}{x:α}(h:x∈l):∃i,i<l.length∧nth l i=x:=by
 obtain⟨i,hi,e⟩:=List.getElem_of_mem h
 exact⟨i,hi,by simp[nth,List.getD_eq_getElem?_getD,List.getElem?_eq_getElem hi,e]⟩
theorem Qd.put(h:Qd M n l)(hi:i<l.Pages.length)(hp:QM QT M l.Book p)(hl:p.Last≤l.Now)(hid:p.ID=(nth l.Pages i).ID)(hx:Ext (nth l.Pages i) p):Qd M n (putV l i p):=by
 obtain⟨m,hm,hc⟩:=QpI hx
 have hf:=h.fence
 have hpage:∀q∈(l.Pages.set i p),q=p∨(q∈l.Pages∧q.ID≠p.ID):=by
  intro q hq
  obtain⟨j,hj,rfl⟩:=QkM hq
  rw[List.length_set]at hj
  by_cases e:j=i
  ·subst e;rw[Xp hj];exact .inl rfl
  ·rw[U0 e]
   refine .inr ⟨Qk hj,fun e2=>?_⟩
   rw[hid]at e2
   have h1:=Qgg h.asc hj
   have h2:=Qgg h.asc hi
   rw[e2]at h1;omega
 refine⟨h.top,h.now,h.small,h.cfg,h.book,fun q hq=>?_,Qty h.asc hi hid,by show(l.Pages.set i p).length≤64;rw[List.length_set];exact h.len,h.owner,h.fence,h.seen,fun q hq=>?_,fun x hx=>?_⟩
 ·rcases hpage q hq with rfl|⟨hq,_⟩
  ·exact⟨hp,hl⟩
  ·exact h.page q hq
 ·rw[hc]
  show Told l.Fence q _
  rcases hpage q hq with rfl|⟨hq,hne⟩
  ·exact hid ▸ (h.told _ (Qk hi)).more hf.1 hid hm
  ·exact(h.told q hq).other hne
 ·rw[hc]at hx
  show ∃q∈l.Pages.set i p,q.ID=x.Page
  rcases List.mem_append.1 hx with hx|hx
  ·obtain⟨q,hq,e⟩:=h.all x hx
   obtain⟨j,hj,rfl⟩:=QkM hq
   by_cases e2:j=i
   ·subst e2;exact⟨p,by have:=Qk (l:=l.Pages.set j p) (i:=j) (by simpa using hj);rwa [Xp hj]at this,by rw[hid,e]⟩
   ·exact⟨_,by have:=Qk (l:=l.Pages.set i p) (i:=j) (by simpa using hj);rwa [U0 e2]at this,e⟩
  ·exact⟨p,by have:=Qk (l:=l.Pages.set i p) (i:=i) (by simpa using hi);rwa [Xp hi]at this,(X1 x hx).1.symm⟩
theorem Qd.at(h:Qd M n l)(hi:i<l.Pages.length):QM QT M l.Book (nth l.Pages i)∧(nth l.Pages i).Last≤l.Now:=h.page _ (Qk hi)
theorem Qd.runEq(h:Qd M n l)(hi:i<l.Pages.length):runI l i=putV l i (runV l.Config l.Book (nth l.Pages i) l.Now).1:=by
 unfold runI
 rw[(QaX h.book QT.step (h.at hi).1).2.1,if_neg (by simp)]
theorem Qd.run(h:Qd M n l)(hi:i<l.Pages.length):Qd M n (runI l i):=by
 rw[h.runEq hi]
 have hp:=h.at hi
 exact h.put hi (QaX h.book QT.step hp.1).1 (QrX h.book QT.step hp.1 hp.2) (Qdk h.book QT.step hp.1).id (Qlq h.book hp.1)
theorem YZ:(runI l i).Now=l.Now∧(runI l i).Config=l.Config∧(runI l i).Book=l.Book∧(runI l i).Owner=l.Owner∧(runI l i).Fence=l.Fence∧(runI l i).Seen=l.Seen∧(runI l i).Pages.length=l.Pages.length:=by
 unfold runI putV
 split
 ·exact⟨rfl,rfl,rfl,rfl,rfl,rfl,rfl⟩
 ·exact⟨rfl,rfl,rfl,rfl,rfl,rfl,by simp⟩
theorem Qan(h:Qd M n l)(hi:i<l.Pages.length){j:Nat}:nth (runI l i).Pages j=if j=i then(runV l.Config l.Book (nth l.Pages i) l.Now).1 else nth l.Pages j:=by
 rw[h.runEq hi]
 unfold putV
 dsimp only
 split
 ·rename_i e;subst e;rw[Xp hi]
 ·rename_i e;rw[U0 e]
theorem ZS:∀{k:Nat},(Za l k).Now=l.Now∧(Za l k).Config=l.Config∧(Za l k).Book=l.Book∧(Za l k).Owner=l.Owner∧(Za l k).Fence=l.Fence∧(Za l k).Seen=l.Seen∧(Za l k).Pages.length=l.Pages.length
 |0=>⟨rfl,rfl,rfl,rfl,rfl,rfl,rfl⟩
 |k+1=>by
  have h1:=YZ (l:=Za l k) (i:=k)
  have h2:=ZS (k:=k)
  rw[Za]
  exact⟨h1.1.trans h2.1,h1.2.1.trans h2.2.1,h1.2.2.1.trans h2.2.2.1,h1.2.2.2.1.trans h2.2.2.2.1,h1.2.2.2.2.1.trans h2.2.2.2.2.1,h1.2.2.2.2.2.1.trans h2.2.2.2.2.2.1,h1.2.2.2.2.2.2.trans h2.2.2.2.2.2.2⟩
theorem Qd.runs(h:Qd M n l):∀{k:Nat},k≤l.Pages.length→Qd M n (Za l k)
 |0,_=>h
 |k+1,hk=>by
  have h2:=ZS (l:=l) (k:=k)
  exact(h.runs (k:=k) (by omega)).run (by omega)
theorem QeM(h:Qd M n l):∀{k:Nat},k≤l.Pages.length→∀{j:Nat},nth (Za l k).Pages j=if j<k then(runV l.Config l.Book (nth l.Pages j) l.Now).1 else nth l.Pages j
 |0,_,j=>by rw[if_neg (by omega)];rfl
 |k+1,hk,j=>by
  have h2:=ZS (l:=l) (k:=k)
  have h3:=h.runs (k:=k) (by omega)
  rw[Za,Qan h3 (by omega)]
  split
  ·rename_i e
   subst e
   rw[if_pos (by omega),h2.1,h2.2.1,h2.2.2.1,QeM h (by omega),if_neg (by omega)]
  ·rw[QeM h (by omega)]
   by_cases e:j<k
   ·rw[if_pos e,if_pos (by omega)]
   ·rw[if_neg e,if_neg (by omega)]
theorem Qhe{x:D.Edit}{s:Int}(h:Q1 n c)(hx:U5 x)(hs:0≤s∧s<2):Q1 (n+1) (QgV c s x):=by
 have hsl:=h.slen
 have hi:s.toNat<c.Schedules.length:=by omega
 have hso:=h.sched _ (Qk hi)
 refine⟨h.zone,h.pname,h.person,h.cal,?_,fun y hy=>?_⟩
 ·rw[←h.sname]
  unfold QgV
  dsimp only
  refine List.ext_getElem (by simp) fun j h1 h2=>?_
  simp only[List.getElem_map,List.getElem_set]
  split
  ·rename_i e;subst e
   simp[nth,List.getD_eq_getElem?_getD,List.getElem?_eq_getElem hi]
  ·rfl
 ·obtain⟨j,hj,rfl⟩:=QkM hy
  have hj:j<(c.Schedules.set s.toNat _).length:=hj
  rw[List.length_set]at hj
  show QbK (n+1) (nth (c.Schedules.set s.toNat _) j)
  by_cases e:j=s.toNat
  ·subst e
   rw[Xp hi]
   exact⟨hso.layers,by have:=hso.len;simp;omega,fun z hz=>by
    rcases List.mem_append.1 hz with hz|hz
    ·exact hso.edit z hz
    ·rw[List.mem_singleton.1 hz];exact hx⟩
  ·rw[U0 e]
   have:=h.sched _ (Qk hj)
   exact⟨this.layers,by have:=this.len;omega,this.edit⟩
structure OpIn (o:D.Op):Prop where
 id:1≤o.ID∧o.ID≤1099511627776
 kind:1≤o.Kind∧o.Kind≤5
 region:0≤o.Region∧o.Region≤4
 fence:0≤o.Fence∧o.Fence≤1048576
 at_:0≤o.At∧o.At≤8589934592
 page:0≤o.Page∧o.Page≤999999
 k : -1≤o.K∧o.K≤1000
 answer:o.Kind=4→YA o.Answer=true∧(o.Answer.Kind=3→o.Answer.Arg≤5000)
 edit:o.Kind=5→U5 o.Edit
theorem Qsh{a:D.Answer}{t:Int}(h:YA a=true)(ht:0≤t∧t≤8589934592):YA { a with At:=t }=true:=by
 unfold YA at h ⊢
 simp only[bae,QL]at h ⊢
 exact⟨⟨⟨⟨⟨h.1.1.1.1.1,h.1.1.1.1.2⟩,h.1.1.1.2⟩,ht⟩,h.1.2⟩,h.2⟩
theorem Qd.see{o:D.Op}(h:Qd M n l)(ho:OpIn o)(hn:max l.Now o.At≤M - 20000)(hs:l.Seen.contains o.ID=false)(hl:l.Seen.length<256):Qd M n { l with Now:=max l.Now o.At,Seen:=l.Seen++[o.ID] }:=by
 have hnow:=h.now;have hf:=h.fence
 refine⟨h.top,⟨by dsimp only;omega,hn⟩,h.small,h.cfg,h.book,fun p hp=>⟨(h.page p hp).1,by have:=(h.page p hp).2;dsimp only;omega⟩,h.asc,h.len,h.owner,⟨hf.1,by dsimp only;rw[List.length_append];simp;omega⟩,?_,h.told,h.all⟩
 have:=h.seen.snoc ho.id hs
 exact⟨by dsimp only;simp;omega,this.nodup,this.fit⟩
theorem Qd.open{o:D.Op}(h:Qd M n l)(hp:hasV o.Page l.Pages=false)(h1:1≤o.Page∧o.Page≤999999)(h2:0≤o.Policy∧o.Policy<(l.Book.Policies.length:Int))(hl:l.Pages.length<64):
  Qd M n { l with Pages:=insP l.Pages (newP o.Page o.Policy l.Now) }∧posV o.Page l.Pages<(insP l.Pages (newP o.Page o.Policy l.Now)).length∧nth (insP l.Pages (newP o.Page o.Policy l.Now)) (posV o.Page l.Pages)=newP o.Page o.Policy l.Now:=by
 have hnow:=h.now
 have hnew:QM QT M l.Book (newP o.Page o.Policy l.Now):=Qu9 h.top h.book h1 h2 hnow
 have hlen:(insP l.Pages (newP o.Page o.Policy l.Now)).length=l.Pages.length+1:=by
  unfold insP;rw[List.length_append,List.length_cons,List.length_take,List.length_drop]
  have:=Qa5 (id:=o.Page) (l:=l.Pages)
  show min (posV o.Page l.Pages) _+(_ - posV o.Page l.Pages+1)=_
  omega
 have hpos:=Qa5 (id:=o.Page) (l:=l.Pages)
 refine⟨⟨h.top,h.now,h.small,h.cfg,h.book,fun q hq=>?_,Qs2 h.asc hp,by dsimp only;omega,h.owner,h.fence,h.seen,fun q hq=>?_,fun x hx=>?_⟩,by omega,?_⟩
 ·rcases Qfb.1 hq with rfl|hq
  ·exact⟨hnew,Int.le_refl _⟩
  ·exact h.page q hq
 ·rcases Qfb.1 hq with rfl|hq
  ·have e:ownC o.Page l.Calls=[]:=List.filter_eq_nil_iff.2 fun x hx=>by
    obtain⟨q,hq,e⟩:=h.all x hx
    have:=Qq7 h.asc hp q hq
    simp;omega
   exact⟨by show(ownC o.Page l.Calls).map unf=_;rw[e];rfl,by show(ownC o.Page l.Calls).Pairwise _;rw[e];exact List.Pairwise.nil,by show ∀x∈ownC o.Page l.Calls,_;rw[e];simp⟩
  ·exact h.told q hq
 ·obtain⟨q,hq,e⟩:=h.all x hx
  exact⟨q,Qfb.2 (.inr hq),e⟩
 ·unfold insP
  show nth (l.Pages.take (posV o.Page l.Pages)++_::_) (posV o.Page l.Pages)=_
  simp[nth,List.getD_eq_getElem?_getD,List.getElem?_append,Nat.min_eq_left hpos]
theorem Qd.own{o:D.Op}(h:Qd M n l)(ho:OpIn o)(hf:o.Fence=l.Fence+1)(hs:l.Fence<(l.Seen.length:Int)):Qd M n { l with Owner:=o.Region,Fence:=o.Fence }:=by
 have hr:=ho.region;have h0:=h.fence
 exact⟨h.top,h.now,h.small,h.cfg,h.book,h.page,h.asc,h.len,⟨by dsimp only;omega,by dsimp only;omega⟩,⟨by dsimp only;omega,by dsimp only;omega⟩,h.seen,fun p hp=>(h.told p hp).mono (by dsimp only;omega),h.all⟩
theorem Qd.edit{o:D.Op}(h:Qd M n l)(hn:n<48)(hx:U5 o.Edit)(hs:0≤o.Schedule∧o.Schedule<2):Qd M (n+1) { l with Config:=QgV l.Config o.Schedule o.Edit }:=
 ⟨h.top,h.now,by omega,Qhe h.cfg hx hs,h.book,h.page,h.asc,h.len,h.owner,h.fence,h.seen,h.told,h.all⟩
theorem Qd.wide(h:Qd M n l)(hn:n<48):Qd M (n+1) l:=
 ⟨h.top,h.now,by omega,h.cfg.mono (by omega),h.book,h.page,h.asc,h.len,h.owner,h.fence,h.seen,h.told,h.all⟩
theorem VO{id:Int}(h:hasV id l.Pages=true):posV id l.Pages<l.Pages.length∧(nth l.Pages (posV id l.Pages)).ID=id:=by
 unfold hasV at h;exact of_decide_eq_true h
theorem Qd.answer{a:D.Answer}(h:Qd M n l)(hi:i<l.Pages.length)(ha:a.At=l.Now)(hv:YA a=true)(hs:a.Kind=3→a.Arg≤5000)(hr:(answerV l.Book (nth l.Pages i) a).2=0):Qd M n (putV l i (answerV l.Book (nth l.Pages i) a).1):=by
 have hp:=h.at hi
 have hc:=hp.1.check h.book
 have hnow:=h.now
 revert hr
 unfold answerV
 rw[hc,hv,if_neg (by simp)]
 split
 ·intro e;simp at e
 ·split
  ·intro _;exact h.put hi hp.1 hp.2 rfl (Ext.refl _)
  ·rename_i hs2
   split
   ·rename_i hre;intro e;exact absurd e hre
   ·rename_i hre
    intro _
    have hre:Xx (nth l.Pages i) a=0:=by simpa using hre
    have h0:=Qm2 hre
    exact h.put hi (hp.1.answerQ_inv h.book hv (by omega) hs (by simpa using hs2) hre) (by rw[←ha];exact QlK h0.1) QfN.1 Qej
theorem Qd.op{o:D.Op}(h:Qd M n l)(hn:n<48)(ho:OpIn o)(hs:l.Fence<(l.Seen.length:Int)):Qd M (n+1) (opV l o).1:=by
 have hw:=h.wide hn
 have hk:=ho.kind
 unfold opV
 split
 ·split
  ·exact hw
  ·rename_i hp
   split
   ·exact hw
   ·split
    ·exact hw
    ·split
     ·rename_i h1 h2 h3
      have h4:=ho.page;have h5:=h.len
      have:=hw.open (o:=o) (by simpa using hp) (by omega) h3 (by omega)
      exact this.1.run this.2.1
     ·exact hw
 ·split
  ·split
   ·rename_i hf
    exact hw.own ho hf hs
   ·exact hw
  ·split
   ·split
    ·split
     ·rename_i hp
      generalize (if (nth l.Pages (posV o.Page l.Pages)).State=2 then(-1:Int)else(nth l.Pages (posV o.Page l.Pages)).Next)=kk
      split
      ·exact hw.run (VO hp).1
      ·exact hw
     ·exact hw
    ·exact hw
   ·split
    ·rename_i k4
     split
     ·rename_i hp
      have hi:=(VO hp).1
      have hr:=hw.run hi
      have hkp:=YZ (l:=l) (i:=posV o.Answer.Page l.Pages)
      have ha:=ho.answer k4
      have hnow:=h.now;have htop:=h.top
      split
      ·rename_i he
       have:=hr.answer (i:=posV o.Answer.Page l.Pages) (a:={ o.Answer with At:=l.Now }) (by omega) hkp.1.symm (Qsh ha.1 (by omega)) ha.2 (by rw[hkp.2.2.1];exact he)
       rw[hkp.2.2.1]at this
       exact this
      ·exact hr
     ·exact hw
    ·have he:=ho.edit (by omega)
     split
     ·rename_i hsch
      have h3:=h.runs (Nat.le_refl _)
      have h4:=ZS (l:=l) (k:=l.Pages.length)
      have:=h3.edit hn he hsch
      rw[h4.2.1]at this
      exact this
     ·exact hw.runs (Nat.le_refl _)
theorem Qd.apply{o:D.Op}(h:Qd M n l)(hn:n<48)(ho:OpIn o)(ht:max l.Now o.At≤M - 20000)(hl:l.Seen.length<256):Qd M (n+1) (Yy l o).1:=by
 unfold Yy
 split
 ·exact h.wide hn
 ·rename_i hs
  exact(h.see ho ht (by simpa using hs) hl).op hn ho (by dsimp only;have:=h.fence;rw[List.length_append];simp;omega)
end
end Go.Proofs.YtgokjdfkpnkekaaGreat
/-
  Ledgers looked at: what the reference's calls and checks compute.
-/
namespace Go.Proofs.YtgokjdfkpnkekaaGreat
open Go AM
attribute [local irreducible] dueV stepV runV QR answerV
section
variable {n:Nat} {c:D.Config} {b:D.Book} {p q:D.Page} {now M:Int} {l:D.Ledger}
theorem U8{id f:Int}{m:Nat}:∀{l:List D.Start},(∀s∈l,s.People.length≤m)→(QF id f l).length≤m*l.length
 |[],_=>by simp[QF]
 |s::l,h=>by
  have:=U8 (id:=id) (f:=f) (l:=l) fun x hx=>h x (List.mem_cons_of_mem _ hx)
  have h1:=h s (List.mem_cons_self ..)
  unfold QF at this ⊢
  rw[List.flatMap_cons,List.length_append,List.length_map,List.length_cons,Nat.mul_succ];omega
theorem QcH{id f:Int}{l:List D.Start}{s:D.Start}:QF id f (l++[s])=QF id f l++s.People.map fun x=>D.Call.mk id s.K s.At x f:=by
 rw[Qa1];unfold QF;simp
theorem QoV{α:Type}[Inhabited α]{l:List α}{k j:Nat}:nth (l.drop k) j=nth l (k+j):=by
 simp[nth,List.getD_eq_getElem?_getD,List.getElem?_drop]
theorem Qko(h:Qy p){k:Nat}{f:Int}(hk:k≤p.Starts.length):Qbv 1000 p (k:Int) f=some (QF p.ID f (p.Starts.drop k)):=by
 have hst:=h.st
 refine Ok.eq ?_
 unfold Qbv
 refine Ok.run (p.Starts.length - k) (fun j=>((f,((k+j:Nat):Int),()),p,QF p.ID f ((p.Starts.drop k).take j),())) rfl (by omega) (fun j hj kk hkk=>?_) (fun kk=>?_)
 ·try dsimp only
  have hlt:k+j<p.Starts.length:=by omega
  refine Ok.p (by omega) (Ok.atn hlt ?_)
  have hpe:=(h.pe _ (Qk hlt)).1
  have hdl:j<(p.Starts.drop k).length:=by simp;omega
  have hts:(p.Starts.drop k).take (j+1)=(p.Starts.drop k).take j++[nth p.Starts (k+j)]:=by rw[←QG hdl,QoV]
  have hol:(QF p.ID f ((p.Starts.drop k).take j)).length≤40*((p.Starts.drop k).take j).length:=U8 (m:=40) fun s hs=>(h.pe s (List.mem_of_mem_drop (List.mem_of_mem_take hs))).1
  rw[List.length_take]at hol
  obtain⟨s,hs⟩:∃s,nth p.Starts (k+j)=s:=⟨_,rfl⟩
  rw[hs]at hpe hts ⊢
  refine Ok.run s.People.length (fun z=>((f,((k+j:Nat):Int),(z:Int),()),p,s,QF p.ID f ((p.Starts.drop k).take j)++(s.People.take z).map (fun x=>D.Call.mk p.ID s.K s.At x f),())) (by rw[List.take_zero,List.map_nil,List.append_nil];rfl) (by omega) (fun z hz k2 hk2=>?_) (fun k2=>?_)
  ·try dsimp only
   refine Ok.p (by omega) (Ok.atn hz (Ok.lec ?_ ?_))
   ·simp only[List.length_append,List.length_map,List.length_take,List.length_cons,List.length_nil];omega
   ·try dsimp only
    rw[Qa (by omega)]
    try dsimp only at hk2
    rw[←QG hz,List.map_append,←List.append_assoc]at hk2
    exact hk2
  ·try dsimp only
   refine Ok.n (by omega) ?_
   try dsimp only
   rw[Qa (by omega),List.take_length]
   try dsimp only at hkk
   rw[hts,QcH]at hkk
   exact hkk
 ·try dsimp only
  refine Ok.n (by omega) (Ok.s ?_)
  rw[List.take_of_length_le (by simp)]
theorem Qjl{id:Int}{cs:List D.Call}{i:Nat}(hi:i<cs.length):ownC id (cs.take (i+1))=ownC id (cs.take i)++(if (nth cs i).Page=id then[nth cs i]else[]):=by
 rw[←QG hi,VR]
 congr 1
 unfold ownC
 by_cases h:(nth cs i).Page=id
 ·simp[h]
 ·simp[h]
theorem QvA(h:Qy p)(hl:l.Calls.length≤900)(ht:Told l.Fence p l.Calls):QdR 1000 l p=some true:=by
 have hW:=ht.same
 obtain⟨W,hWe⟩:∃W,QF p.ID 0 p.Starts=W:=⟨_,rfl⟩
 rw[hWe]at hW
 have hWl:W.length=(ownC p.ID l.Calls).length:=by rw[←hW,List.length_map]
 have hol:∀i,(ownC p.ID (l.Calls.take i)).length≤900:=fun i=>by
  unfold ownC
  exact Nat.le_trans (List.length_filter_le _ _) (by rw[List.length_take];omega)
 refine Ok.eq ?_
 unfold QdR
 have hc:=Qko (k:=0) (f:=0) h (Nat.zero_le _)
 rw[List.drop_zero,hWe]at hc
 refine Ok.oe hc ?_
 refine Ok.loop (fun m x=>∃(i:Nat) (fe:Int),x=((W,((ownC p.ID (l.Calls.take i)).length:Int),fe,(i:Int),()),l,p,())∧i≤l.Calls.length∧(fe=0∨∃c∈ownC p.ID (l.Calls.take i),c.Fence=fe)∧m=l.Calls.length - i) (m:=l.Calls.length) (by omega)
  ⟨0,0,by rw[List.take_zero];rfl,by omega,.inl rfl,rfl⟩ ?_
 rintro m x ⟨i,fe,rfl,i1,i2,rfl⟩ K hK
 try dsimp only
 have hoi:=hol i
 refine Ok.ite (fun hi=>?_) (fun hi=>?_)
 ·have hlt:i<l.Calls.length:=by omega
  refine Ok.j (Ok.atn hlt ?_)
  have hsu:=Qjl (id:=p.ID) hlt
  have hsp:l.Calls=l.Calls.take i++nth l.Calls i::l.Calls.drop (i+1):=by rw[←QcM hlt,List.take_append_drop]
  obtain⟨c,hce⟩:∃c,nth l.Calls i=c:=⟨_,rfl⟩
  rw[hce]at hsu hsp ⊢
  refine Ok.ite (fun g=>?_) (fun g=>?_)
  ·rw[if_neg g,List.append_nil]at hsu
   try dsimp only
   rw[Qa (by omega)]
   refine hK _ _ (by omega) ⟨i+1,fe,by rw[hsu],by omega,by rw[hsu];exact i2,rfl⟩
  ·have g:c.Page=p.ID:=by omega
   rw[if_pos g]at hsu
   have hown:ownC p.ID l.Calls=ownC p.ID (l.Calls.take i)++c::ownC p.ID (l.Calls.drop (i+1)):=by
    rw[hsp,VR]
    congr 1
    ·rw[←hsp]
    ·unfold ownC
     rw[List.filter_cons_of_pos (by simpa using g)]
     rw[←hsp]
   have hcm:c∈ownC p.ID l.Calls:=by rw[hown];simp
   have hfit:=ht.fit c hcm
   have hle:fe≤c.Fence:=by
    rcases i2 with rfl|⟨c',hc',rfl⟩
    ·exact hfit.1
    ·have:=ht.up
     rw[hown]at this
     exact(List.pairwise_append.1 this).2.2 c' hc' c (List.mem_cons_self ..)
   have hn:(ownC p.ID (l.Calls.take i)).length<W.length:=by rw[hWl,hown];simp
   have hnth:nth W (ownC p.ID (l.Calls.take i)).length=unf c:=by
    have e:W=(ownC p.ID (l.Calls.take i)).map unf++(unf c::(ownC p.ID (l.Calls.drop (i+1))).map unf):=by rw[←hW,hown,List.map_append,List.map_cons]
    rw[e]
    simp[nth,List.getD_eq_getElem?_getD]
   refine Ok.join (fun y=>y=((W,((ownC p.ID (l.Calls.take i)).length:Int),(i:Int),()),l,p,c,())) (fun y hy=>?_) (fun J hJ=>Ok.n (by omega) (Ok.n (by omega) (Ok.n (by omega) (hJ _ rfl))))
   subst hy
   try dsimp only
   refine Ok.atn hn ?_
   rw[hnth]
   refine Ok.n (fun h=>h rfl) ?_
   try dsimp only
   rw[Qa (by omega),Qa (by omega)]
   refine hK _ _ (by omega) ⟨i+1,c.Fence,by rw[hsu];simp,by omega,.inr ⟨c,by rw[hsu];simp,rfl⟩,rfl⟩
 ·have e:i=l.Calls.length:=by omega
  subst e
  refine Ok.s (decide_eq_true ?_)
  rw[List.take_length,hWl]
def sumC(l:List D.Page)(f:D.Page→Nat):Nat:=(l.map f).sum
theorem QtC{l:List D.Page}{f g h:D.Page→Nat}(e:∀p∈l,f p=g p+h p):sumC l f=sumC l g+sumC l h:=by
 induction l with
 |nil=>rfl
 |cons p l ih=>
  have:=ih fun q hq=>e q (List.mem_cons_of_mem _ hq)
  have h1:=e p (List.mem_cons_self ..)
  simp only[sumC,List.map_cons,List.sum_cons]at this ⊢
  omega
theorem QtD{l:List D.Page}{x:Int}(ha:AscP l)(hx:∃p∈l,p.ID=x):sumC l (fun p=>if x=p.ID then 1 else 0)=1:=by
 induction l with
 |nil=>obtain⟨p,hp,_⟩:=hx;simp at hp
 |cons q l ih=>
  have ha':=List.pairwise_cons.1 ha
  have hz:∀(l:List D.Page),(∀p∈l,x≠p.ID)→sumC l (fun p=>if x=p.ID then 1 else 0)=0:=by
   intro l
   induction l with
   |nil=>intro _;rfl
   |cons p l ih=>
    intro h
    simp only[sumC,List.map_cons,List.sum_cons]
    rw[if_neg (h p (List.mem_cons_self ..))]
    have:=ih fun q hq=>h q (List.mem_cons_of_mem _ hq)
    unfold sumC at this;omega
  simp only[sumC,List.map_cons,List.sum_cons]
  by_cases e:x=q.ID
  ·rw[if_pos e]
   have:=hz l fun p hp e'=>by have:=ha'.1 p hp;omega
   unfold sumC at this;omega
  ·rw[if_neg e]
   have:=ih ha'.2 (by
    obtain⟨p,hp,h2⟩:=hx
    rcases List.mem_cons.1 hp with rfl|hp
    ·exact absurd h2.symm e
    ·exact⟨p,hp,h2⟩)
   unfold sumC at this;omega
theorem Qj8{l:List D.Page}(ha:AscP l):∀{cs:List D.Call},(∀c∈cs,∃p∈l,p.ID=c.Page)→sumC l (fun p=>(ownC p.ID cs).length)=cs.length
 |[],_=>by
  have:∀l:List D.Page,sumC l (fun p=>(ownC p.ID []).length)=0:=by
   intro l
   induction l with
   |nil=>rfl
   |cons p l ih=>simp only[sumC,List.map_cons,List.sum_cons]at ih ⊢;simpa [ownC]using ih
  rw[this];rfl
 |c::cs,h=>by
  have h1:=Qj8 ha (cs:=cs) fun x hx=>h x (List.mem_cons_of_mem _ hx)
  have h2:=QtD ha (h c (List.mem_cons_self ..))
  rw[QtC (g:=fun p=>(ownC p.ID cs).length) (h:=fun p=>if c.Page=p.ID then 1 else 0) (fun p hp=>?_),h1,h2,List.length_cons]
  unfold ownC
  by_cases e:c.Page=p.ID
  ·rw[List.filter_cons_of_pos (by simpa using e),if_pos e,List.length_cons]
  ·rw[List.filter_cons_of_neg (by simpa using e),if_neg e];rfl
theorem Qon{l:List D.Page}{f:D.Page→Nat}{m:Nat}(h:∀p∈l,f p≤m):sumC l f≤m*l.length:=by
 induction l with
 |nil=>simp[sumC]
 |cons p l ih=>
  have h1:=h p (List.mem_cons_self ..)
  have h2:=ih fun q hq=>h q (List.mem_cons_of_mem _ hq)
  simp only[sumC,List.map_cons,List.sum_cons,List.length_cons]at h2 ⊢
  have:m*(l.length+1)=m*l.length+m:=Nat.mul_succ ..
  omega
end
end Go.Proofs.YtgokjdfkpnkekaaGreat
/-
  Books that dice make are right, for the reference's check.
-/
namespace Go.Proofs.YtgokjdfkpnkekaaGreat
open Go AM
section
variable {n:Nat} {c:D.Config} {b:D.Book}
theorem QkP{α:Type}[Inhabited α]{l:List α}{k i:Nat}(h:i<k):nth (l.take k) i=nth l i:=by
 simp[nth,List.getD_eq_getElem?_getD,List.getElem?_take,h]
theorem QJ.tnm(h:QJ b){i:Nat}(hi:i<b.Teams.length):(nth b.Teams i).Name=nth QeX i:=by
 rw[Qhk h.tname hi,QkP hi]
theorem QJ.pnm(h:QJ b){i:Nat}(hi:i<b.Policies.length):(nth b.Policies i).Name=nth Qi5 i:=by
 rw[Qhk h.pname hi,QkP hi]
theorem forall3{P:Nat→Prop}(h0:P 0)(h1:P 1)(h2:P 2):∀i,i<3→P i:=fun i hi=>by
 rcases(show i=0∨i=1∨i=2 by omega)with rfl|rfl|rfl
 ·exact h0
 ·exact h1
 ·exact h2
theorem Qu3:∀i,i<2→QdK 1000 (nth QeX i)=some true:=forall2 (by kernel_rfl) (by kernel_rfl)
theorem Qu2:∀i,i<3→QdK 1000 (nth Qi5 i)=some true:=forall3 (by kernel_rfl) (by kernel_rfl) (by kernel_rfl)
theorem QlT:∀i,i<2→∀j,j<i→nth QeX j≠nth QeX i:=by decide
theorem Qos:∀i,i<3→∀j,j<i→nth Qi5 j≠nth Qi5 i:=by decide
theorem Qvr{l:List Int}{m:Int}(ha:Asc l)(hm:∀x∈l,0≤x∧x<m)(hl:l.length<900):Qb8 1000 l m=some true:=by
 refine Ok.eq ?_
 unfold Qb8
 refine Ok.run l.length (fun i=>((l,m,(i:Int),()),())) rfl (by omega) (fun i hi k hk=>?_) (fun k=>by dsimp only;exact Ok.n (by omega) (Ok.s rfl))
 have hx:=hm _ (Qk hi)
 dsimp only
 refine Ok.p (by omega) (Ok.j (Ok.atn hi (Ok.n (by omega) (Ok.atn hi (Ok.n (by omega) ?_)))))
 dsimp only
 rw[Qa (by omega)]
 by_cases h0:0<i
 ·refine Ok.p (by omega) ?_
  rw[show IntKind.wrap .i64 ((i:Int) - 1)=((i - 1:Nat):Int)by rw[Qc (by omega)];omega]
  have:=QfO ha (show i - 1<i by omega) hi
  exact Ok.atn (by omega) (Ok.atn hi (Ok.n (by omega) hk))
 ·exact Ok.n (by omega) hk
theorem Qse(h:Q1 n c)(hb:QJ b){i:Nat}(hi:i<b.Teams.length):Qhq 1000 c b (i:Int)=some 0:=by
 have htl:=hb.tlen
 have ht:=hb.team _ (Qk hi)
 have hnm:=hb.tnm hi
 have hpl:=h.plen
 refine Ok.eq ?_
 unfold Qhq
 refine Ok.atn hi (Ok.oe (by rw[hnm];exact Qu3 i (by omega)) (Ok.nt rfl ?_))
 obtain⟨x,hx⟩:∃x,nth b.Teams i=x:=⟨_,rfl⟩
 rw[hx]at ht hnm ⊢
 refine Ok.run2 i (fun k=>((i:Int),(k:Int),())) rfl (by omega) (fun k hk K hK=>?_) (fun K=>?_)
 ·dsimp only
  refine Ok.p (by omega) (Ok.atn (by omega) (Ok.n ?_ ?_))
  ·rw[hb.tnm (by omega),hnm];exact QlT i (by omega) k hk
  ·rw[Qa (by omega)];exact hK
 ·dsimp only
  have hml:=ht.len
  refine Ok.n (by omega) (Ok.n (by omega) ?_)
  refine Ok.run2 (x.Members.length - 1) (fun k=>(((k+1:Nat):Int),())) rfl (by omega) (fun k hk K hK=>?_) (fun K=>?_)
  ·dsimp only
   rw[show IntKind.wrap .i64 (((k+1:Nat):Int) - 1)=((k:Nat):Int)by rw[Qc (by omega)];omega]
   have:=QfO ht.asc (show k<k+1 by omega) (show k+1<x.Members.length by omega)
   refine Ok.p (by omega) (Ok.atn (by omega) (Ok.atn (by omega) (Ok.n (by omega) ?_)))
   rw[Qa (by omega)];exact hK
  ·dsimp only
   refine Ok.n (by omega) (Ok.oe (Qvr ht.asc (fun z hz=>?_) (by omega)) (Ok.nt rfl (Ok.s rfl)))
   have:=ht.mem z hz;omega
theorem Qng(h:Q1 n c)(hb:QJ b){l:List D.Target}(hl:l.length≤2)(ht:∀x∈l,Va b.Teams.length x):Qb9 1000 c b l=some 0:=by
 have hpl:=h.plen;have hsl:=h.slen
 refine Ok.eq ?_
 unfold Qb9
 refine Ok.n (by omega) (Ok.run l.length (fun i=>((l,(i:Int),()),c,b,())) rfl (by omega) (fun i hi k hk=>?_) (fun k=>by dsimp only;exact Ok.n (by omega) (Ok.s rfl)))
 dsimp only
 have hx:=ht _ (Qk hi)
 have h1:=hx.lo;have h2:=hx.person;have h3:=hx.sched;have h4:=hx.team
 refine Ok.p (by omega) (Ok.j ?_)
 refine Ok.join (fun y=>∃m:Int,y=((l,(i:Int),m,()),c,b,())∧(nth l i).Index<m) (fun y hy=>?_) (fun J hJ=>?_)
 ·obtain⟨m,rfl,hm⟩:=hy
  dsimp only
  rw[Qa (by omega)]
  exact Ok.atn hi (Ok.n (by omega) (Ok.atn hi (Ok.n (by omega) hk)))
 ·refine Ok.atn hi ?_
  rcases hx.kind with hk|hk|hk
  ·have:=h2 hk
   exact Ok.p hk (hJ _ ⟨_,rfl,by omega⟩)
  ·have:=h3 hk
   exact Ok.n (by omega) (Ok.p hk (hJ _ ⟨_,rfl,by omega⟩))
  ·have:=h4 hk
   exact Ok.n (by omega) (Ok.n (by omega) (Ok.p hk (hJ _ ⟨_,rfl,by omega⟩)))
theorem QnW(h:Q1 n c)(hb:QJ b){i:Nat}(hi:i<b.Policies.length):QdN 1000 c b (i:Int)=some 0:=by
 have htl:=hb.plen
 have ht:=hb.pol _ (Qk hi)
 have hnm:=hb.pnm hi
 refine Ok.eq ?_
 unfold QdN
 refine Ok.atn hi (Ok.oe (by rw[hnm];exact Qu2 i (by omega)) (Ok.nt rfl ?_))
 obtain⟨x,hx⟩:∃x,nth b.Policies i=x:=⟨_,rfl⟩
 rw[hx]at ht hnm ⊢
 refine Ok.run2 i (fun k=>((i:Int),(k:Int),())) rfl (by omega) (fun k hk K hK=>?_) (fun K=>?_)
 ·dsimp only
  refine Ok.p (by omega) (Ok.atn (by omega) (Ok.n ?_ ?_))
  ·rw[hb.pnm (by omega),hnm];exact Qos i (by omega) k hk
  ·rw[Qa (by omega)];exact hK
 ·dsimp only
  have hml:=ht.len;have hrp:=ht.rep
  refine Ok.n (by omega) (Ok.n (by omega) (Ok.n (by omega) (Ok.oe rin (Ok.nt (QL.2 (by omega)) ?_))))
  refine Ok.run2 x.Steps.length (fun k=>((k:Int),())) rfl (by omega) (fun k hk K hK=>?_) (fun K=>by dsimp only;exact Ok.n (by omega) (Ok.s rfl))
  dsimp only
  have hs:=ht.step _ (Qk hk)
  have hw:=hs.wait
  refine Ok.p (by omega) (Ok.atn hk (Ok.oe rin (Ok.nt (QL.2 (by omega)) (Ok.atn hk (Ok.oe (Qng h hb hs.len hs.target) (Ok.n (by simp) ?_))))))
  rw[Qa (by omega)];exact hK
theorem QlU(h:Q1 n c)(hn:n≤48)(hb:QJ b):Qc9 1000 c b=some 0:=by
 have htl:=hb.tlen;have hpl:=hb.plen
 refine Ok.eq ?_
 unfold Qc9
 refine Ok.oe (QcJ h hn) (Ok.n (by simp) (Ok.opt (P:=(·=0)) ?_ fun r hr=>Ok.s hr))
 unfold Qle
 refine Ok.j (Ok.n (by omega) (Ok.n (by omega) ?_))
 refine Ok.run b.Teams.length (fun i=>(((i:Int),()),c,b,())) rfl (by omega) (fun i hi k hk=>?_) (fun k=>?_)
 ·dsimp only
  refine Ok.p (by omega) (Ok.oe (Qse h hb hi) (Ok.n (by simp) ?_))
  rw[Qa (by omega)];exact hk
 ·dsimp only
  refine Ok.n (by omega) (Ok.run b.Policies.length (fun i=>(((i:Int),()),c,b,())) rfl (by omega) (fun i hi k hk=>?_) (fun k=>by dsimp only;exact Ok.n (by omega) (Ok.s rfl)))
  dsimp only
  refine Ok.p (by omega) (Ok.oe (QnW h hb hi) (Ok.n (by simp) ?_))
  rw[Qa (by omega)];exact hk
end
end Go.Proofs.YtgokjdfkpnkekaaGreat
/-
  Ledgers: what the reference's check, search and runs compute.
-/
namespace Go.Proofs.YtgokjdfkpnkekaaGreat
open Go AM
attribute [local irreducible] dueV stepV runV QR answerV
section
variable {n:Nat} {c:D.Config} {b:D.Book} {p q:D.Page} {now M:Int} {l:D.Ledger} {i:Nat}
theorem Qd.callsN(h:Qd M n l):sumC l.Pages (fun p=>(ownC p.ID l.Calls).length)=l.Calls.length:=Qj8 h.asc h.all
theorem Qd.ownN(h:Qd M n l)(hp:p∈l.Pages):(ownC p.ID l.Calls).length=(QF p.ID 0 p.Starts).length:=by
 have:=(h.told p hp).same
 rw[←this,List.length_map]
theorem Qd.callsLe(h:Qd M n l)(hpg:l.Pages.length≤9):l.Calls.length≤468:=by
 rw[←h.callsN]
 have:=Qon (l:=l.Pages) (f:=fun p=>(ownC p.ID l.Calls).length) (m:=52) fun p hp=>by
  obtain⟨g1,g2⟩:=h.page p hp
  obtain⟨t,g3,_⟩:=g1.goes
  have h1:=U8 (id:=p.ID) (f:=0) (m:=4) (Goes.short (fun s hs=>hs) g3)
  have h2:=(g1.len h.book).1
  show(ownC p.ID l.Calls).length≤52
  rw[h.ownN hp];omega
 omega
theorem Qnf{l:List D.Page}{f:D.Page→Nat}:sumC (l++[p]) f=sumC l f+f p:=by simp[sumC]
theorem QcV(h:Qd M n l)(hpg:l.Pages.length≤9):Qbu 1000 l=some true:=by
 have htop:=h.top;have hnow:=h.now;have how:=h.owner;have hfe:=h.fence;have hse:=h.seen.len;have hcl:=h.callsLe hpg
 refine Ok.eq ?_
 unfold Qbu
 refine Ok.j (Ok.oe (QlU h.cfg h.small h.book) (Ok.n (by simp) (Ok.oe rin (Ok.bt (QL.2 (by omega)) (Ok.n (by omega) (Ok.oe rin (Ok.bt (QL.2 how) (Ok.oe rin (Ok.bt (QL.2 (by omega)) (Ok.n (by omega) ?_))))))))))
 have hsle:∀i,sumC (l.Pages.take i) (fun p=>(ownC p.ID l.Calls).length)≤468*i:=fun i=>by
  have:=Qon (l:=l.Pages.take i) (f:=fun p=>(ownC p.ID l.Calls).length) (m:=468) fun p hp=>by
   show(ownC p.ID l.Calls).length≤468
   unfold ownC
   exact Nat.le_trans (List.length_filter_le _ _) hcl
  refine Nat.le_trans this (Nat.mul_le_mul_left _ ?_)
  simp only[List.length_take];omega
 refine Ok.run l.Pages.length (fun i=>((((sumC (l.Pages.take i) (fun p=>(ownC p.ID l.Calls).length):Nat):Int),(i:Int),()),l,())) rfl (by omega) (fun i hi k hk=>?_) (fun k=>?_)
 ·try dsimp only
  have hm:=Qk hi
  obtain⟨g1,g2⟩:=h.page _ hm
  have gt:=h.told _ hm
  have hown:=h.ownN hm
  have hs1:=hsle i
  have hs2:=hsle (i+1)
  refine Ok.p (by omega) (Ok.atn hi ?_)
  have hasc:0<i→(nth l.Pages (i - 1)).ID<(nth l.Pages i).ID:=fun h0=>QbL h.asc (by omega) hi
  try dsimp only at hk
  rw[←QG hi,Qnf]at hk
  obtain⟨p,hp⟩:∃p,nth l.Pages i=p:=⟨_,rfl⟩
  rw[hp]at g1 g2 gt hown hk hasc ⊢
  have hpl:=g1.plen h.book
  refine Ok.join (fun y=>y=((((sumC (l.Pages.take i) (fun p=>(ownC p.ID l.Calls).length):Nat):Int),(i:Int),()),l,p,())) (fun y hy=>?_) (fun J hJ=>?_)
  ·subst hy
   try dsimp only
   have hc:=Qko (k:=0) (f:=0) hpl (Nat.zero_le _)
   rw[List.drop_zero]at hc
   refine Ok.oe hc ?_
   try dsimp only
   rw[Qa (by omega),←hown,Qc (by have:(ownC p.ID l.Calls).length≤468:=(by unfold ownC;exact Nat.le_trans (List.length_filter_le _ _) hcl);omega)]
   exact hk
  ·have tail:Ok (optc (Vr 1000 l.Book p) fun a13=>AM.cnd a13 (AM.cnd (decide (l.Now<p.Last)) (some false) (optc (QdR 1000 l p) fun a14=>AM.cnd a14 (J ((((sumC (l.Pages.take i) (fun p=>(ownC p.ID l.Calls).length):Nat):Int),(i:Int),()),l,p,())) (some false))) (some false)) (·=true):=
    Ok.oe (Qdu h.book hpl) (Ok.bt (g1.check h.book) (Ok.n (by omega) (Ok.oe (QvA hpl (by omega) gt) (Ok.t (hJ _ rfl)))))
   by_cases h0:0<i
   ·refine Ok.p (by omega) ?_
    rw[show IntKind.wrap .i64 ((i:Int) - 1)=((i - 1:Nat):Int)by rw[Qc (by omega)];omega]
    have:=hasc h0
    exact Ok.atn (by omega) (Ok.n (by omega) tail)
   ·exact Ok.n (by omega) tail
 ·try dsimp only
  refine Ok.n (by omega) ?_
  rw[List.take_length,h.callsN]
  refine Ok.run l.Seen.length (fun i=>((((l.Calls.length:Nat):Int),(i:Int),()),l,())) rfl (by omega) (fun i hi k hk=>?_) (fun k=>by dsimp only;exact Ok.n (by omega) (Ok.s (decide_eq_true rfl)))
  try dsimp only
  have hx:=h.seen.fit _ (Qk hi)
  have hno:(l.Seen.take i).contains (nth l.Seen i)=false:=by
   cases hc:(l.Seen.take i).contains (nth l.Seen i)with
   |false=>rfl
   |true=>
    have:=Qhv hi hc
    rw[decide_eq_true h.seen.nodup]at this;simp at this
  refine Ok.p (by omega) (Ok.j (Ok.atn hi (Ok.oe rin (Ok.bt (QL.2 hx) (Ok.natn (Ok.lec (by omega) (Ok.atn hi (Ok.oe (QbQ (by simp;omega)) (Ok.bf hno ?_)))))))))
  try dsimp only
  rw[Qa (by omega)];exact hk
abbrev lgA(l:D.Ledger):Int×List D.Zone×List D.Person×List D.Calendar×List D.Schedule×List D.Team×List D.Policy×Int×Int×Unit:=(l.Now,l.Config.Zones,l.Config.People,l.Config.Calendars,l.Config.Schedules,l.Book.Teams,l.Book.Policies,l.Owner,l.Fence,())
def Qf0(l:D.Ledger)(id:Int):D.Page×Bool:=if hasV id l.Pages=true then(nth l.Pages (posV id l.Pages),true)else(page0,false)
theorem QnL{id:Int}(ha:AscP l.Pages)(hi:i<l.Pages.length)(h:(nth l.Pages i).ID=id):Qf0 l id=(nth l.Pages i,true):=by
 subst h
 unfold Qf0
 rw[if_pos (QkE ha hi),Qgg ha hi]
theorem Qq3{id:Int}(h:∀i,i<l.Pages.length→(nth l.Pages i).ID≠id):Qf0 l id=(page0,false):=by
 unfold Qf0
 rw[if_neg]
 intro hh
 have:=VO hh
 exact h _ this.1 this.2
theorem QuQ{id:Int}(hp:∀p∈l.Pages,Qy p)(ha:AscP l.Pages)(hl:l.Pages.length≤64):Qht 1000 l id=some (Qf0 l id):=by
 refine Ok.eq ?_
 unfold Qht
 refine Ok.scan2 l.Pages.length (fun i=>(id,(i:Int),())) (fun i=>decide ((nth l.Pages i).ID=id)) rfl (by omega) (fun i hi hq _ k=>?_) (fun i hi hq k hk=>?_) (fun hq k=>?_)
 ·have hq:=of_decide_eq_true hq
  refine Ok.p (by omega) (Ok.atn hi (Ok.p hq (Ok.atn hi (Ok.oe (Qbg (hp _ (Qk hi))) (Ok.s ?_)))))
  rw[QnL ha hi hq]
 ·have hq:=of_decide_eq_false hq
  refine Ok.p (by omega) (Ok.atn hi (Ok.n hq ?_))
  try dsimp only
  rw[Qa (by omega)];exact hk
 ·refine Ok.n (by omega) (Ok.s ?_)
  rw[Qq3 fun i hi=>of_decide_eq_false (hq i hi)];rfl
theorem Qhg{id:Int}(hp:∀p∈l.Pages,Qy p)(ha:AscP l.Pages)(hl:l.Pages.length≤64):ZP 1000 l id=some (Qf0 l id):=by
 refine Ok.eq ?_
 unfold ZP
 refine Ok.scan2 l.Pages.length (fun i=>(id,(i:Int),())) (fun i=>decide ((nth l.Pages i).ID=id)) rfl (by omega) (fun i hi hq _ k=>?_) (fun i hi hq k hk=>?_) (fun hq k=>?_)
 ·have hq:=of_decide_eq_true hq
  refine Ok.p (by omega) (Ok.natn (Ok.lt hi (Ok.get hi (Ok.p hq (Ok.natn (Ok.lt hi (Ok.get hi (Ok.oe (Qbg (hp _ (Qk hi))) (Ok.sameC (Ok.sameC (Ok.sameC (Ok.s ?_))))))))))))
  rw[QnL ha hi hq]
 ·have hq:=of_decide_eq_false hq
  refine Ok.p (by omega) (Ok.natn (Ok.lt hi (Ok.get hi (Ok.n hq ?_))))
  try dsimp only
  rw[Qa (by omega)];exact hk
 ·refine Ok.n (by omega) (Ok.sameC (Ok.sameC (Ok.sameC (Ok.s ?_))))
  rw[Qq3 fun i hi=>of_decide_eq_false (hq i hi)];rfl
theorem Qd.plens(h:Qd M n l):∀p∈l.Pages,Qy p:=fun p hp=>(h.page p hp).1.plen h.book
theorem Qt2(ha:AscP l.Pages)(hl:l.Pages.length≤64)(hcl:l.Calls.length≤100000)(hi:i<l.Pages.length)(hid:p.ID=(nth l.Pages i).ID)(hpl:Qy p)(hle:(nth l.Pages i).Starts.length≤p.Starts.length):
  Xh 1000 l p=some (putV l i p):=by
 refine Ok.eq ?_
 unfold Xh
 refine Ok.run l.Pages.length (fun j=>(((j:Int),()),lgA l,p,({ Now:=0,Config:={ Zones:=[],People:=[],Calendars:=[],Schedules:=[] },Book:={ Teams:=[],Policies:=[] },Pages:=[],Owner:=0,Fence:=0,Seen:=[],Calls:=[] }:D.Ledger),(if j≤i then l.Pages else l.Pages.set i p),l.Seen,(if j≤i then l.Calls else l.Calls++QF p.ID l.Fence (p.Starts.drop (nth l.Pages i).Starts.length)),())) (by rw[if_pos (Nat.zero_le _),if_pos (Nat.zero_le _)];rfl) (by omega) (fun j hj k hk=>?_) (fun k=>?_)
 ·try dsimp only[lgA]at hk ⊢
  have hlen:(if j≤i then l.Pages else l.Pages.set i p).length=l.Pages.length:=by split<;>simp
  have hj':j<(if j≤i then l.Pages else l.Pages.set i p).length:=by omega
  have hnth:j≠i→nth (if j≤i then l.Pages else l.Pages.set i p) j=nth l.Pages j:=fun hne=>by
   split
   ·rfl
   ·exact U0 hne
  refine Ok.p (by omega) (Ok.j (Ok.natn (Ok.lt hj' (Ok.get hj' ?_))))
  by_cases e:j=i
  ·subst e
   rw[if_pos (Nat.le_refl _),if_pos (Nat.le_refl _)]
   rw[if_neg (by omega),if_neg (by omega)]at hk
   have hc:=Qko (k:=(nth l.Pages j).Starts.length) (f:=l.Fence) hpl hle
   have hcb:(QF p.ID l.Fence (p.Starts.drop (nth l.Pages j).Starts.length)).length≤40*(p.Starts.drop (nth l.Pages j).Starts.length).length:=U8 fun s hs=>(hpl.pe s (List.mem_of_mem_drop hs)).1
   have hst:=hpl.st
   rw[List.length_drop]at hcb
   refine Ok.p hid.symm (Ok.natn (Ok.lt hi (Ok.get hi (Ok.oe hc (Ok.lec (by omega) (Ok.natn (Ok.lt hi (Ok.get hi ?_))))))))
   try dsimp only
   rw[Qa (by omega)]
   exact hk
  ·rw[hnth e]
   have hne:(nth l.Pages j).ID≠p.ID:=by
    rw[hid]
    rcases Nat.lt_or_gt_of_ne e with h|h
    ·have:=QbL ha h hi;omega
    ·have:=QbL ha h hj;omega
   refine Ok.n hne ?_
   try dsimp only
   rw[Qa (by omega)]
   have e1:(j+1≤i)=(j≤i):=by apply propext;omega
   simp only[e1]at hk
   exact hk
 ·try dsimp only[lgA]
  rw[if_neg (by omega),if_neg (by omega)]
  refine Ok.n (by simp) (Ok.s ?_)
  rfl
theorem Qlo{id:Int}(h:Qd M n l)(hpg:l.Pages.length≤9):Z2 1000 l id l.Now=some (if hasV id l.Pages=true then runI l (posV id l.Pages)else l):=by
 have hcl:=h.callsLe hpg
 refine Ok.eq ?_
 unfold Z2
 refine Ok.oe (Qhg h.plens h.asc (by omega)) ?_
 unfold Qf0
 by_cases hh:hasV id l.Pages=true
 ·rw[if_pos hh,if_pos hh]
  try dsimp only
  have hi:=VO hh
  obtain⟨g1,g2⟩:=h.at hi.1
  obtain⟨q,r1,r2,r3,r4⟩:=QrY (c:=l.Config) h.book QT.step g1 l.Now
  have hx:=Qlq (c:=l.Config) (now:=l.Now) h.book g1
  rw[r1]at hx
  refine Ok.f (Ok.oe (Qo5 h.cfg h.small h.book (g1.plen h.book)) ?_)
  rw[r1]
  try dsimp only
  refine Ok.n (by simp) (Ok.oe (Qt2 (i:=posV id l.Pages) h.asc (by omega) (by omega) hi.1 r4.id (r2.plen h.book) ?_) (Ok.s ?_))
  ·obtain⟨m,hm⟩:=hx
   try dsimp only at hm
   rw[hm];simp
  ·unfold runI
   rw[r1,if_neg (by simp)]
 ·rw[if_neg hh,if_neg hh]
  exact Ok.t (Ok.s rfl)
end
end Go.Proofs.YtgokjdfkpnkekaaGreat
/-
  Ledgers: what the reference's operations compute.
-/
namespace Go.Proofs.YtgokjdfkpnkekaaGreat
open Go AM
attribute [local irreducible] dueV stepV runV QR answerV
section
variable {n:Nat} {c:D.Config} {b:D.Book} {p q:D.Page} {now M:Int} {l:D.Ledger} {i:Nat} {o:D.Op}
theorem QsO(hp:∀p∈l.Pages,Qy p)(h1:l.Pages.length≤64)(h2:l.Seen.length≤1000)(h3:l.Calls.length≤100000):Qhs 1000 l=some l:=by
 refine Ok.eq ?_
 unfold Qhs
 refine Ok.run l.Pages.length (fun i=>(((i:Int),()),l,({ Now:=0,Config:={ Zones:=[],People:=[],Calendars:=[],Schedules:=[] },Book:={ Teams:=[],Policies:=[] },Pages:=[],Owner:=0,Fence:=0,Seen:=[],Calls:=[] }:D.Ledger),l.Pages.take i,())) rfl (by omega) (fun i hi k hk=>?_) (fun k=>?_)
 ·try dsimp only
  refine Ok.p (by omega) (Ok.atn hi (Ok.oe (Qbg (hp _ (Qk hi))) (Ok.lec (by simp;omega) ?_)))
  try dsimp only
  rw[Qa (by omega),QG hi]
  exact hk
 ·try dsimp only
  rw[List.take_length]
  exact Ok.n (by omega) (Ok.lec (by omega) (Ok.lec (by omega) (Ok.s rfl)))
theorem QtF{α:Type}[Inhabited α]{L:List α}{k:Nat}{x:α}(h:k<L.length):(L.take (k+1)).set k x=L.take k++[x]:=by
 rw[←QG h,List.set_append_right _ _ (by rw[List.length_take];omega)]
 simp[Nat.min_eq_left (Nat.le_of_lt h)]
theorem Qs4{P:D.Page}{L:List D.Page}{k:Nat}(hk:k≤L.length):
  (List.take (k+1) (L++[P])++List.take ((L++[P]).length - (k+1)) (List.drop k (L++[P]))).set k P=L.take k++P::L.drop k:=by
 have hl:(L++[P]).length=L.length+1:=by simp
 rw[List.set_append_left _ _ (by rw[List.length_take,hl];omega),QtF (by rw[hl];omega),List.take_append_of_le_length hk,List.drop_append_of_le_length hk,hl,show L.length+1 - (k+1)=(L.drop k).length by simp,List.take_left,List.append_assoc]
 rfl
theorem Qvh{id:Int}{L:List D.Page}(ha:AscP L){k:Nat}(hk:k≤L.length)(h1:∀j,j<k→(nth L j).ID<id)(h2:k<L.length→id≤(nth L k).ID):posV id L=k:=by
 rcases Nat.lt_trichotomy (posV id L) k with h|h|h
 ·have:=QkZ ha (id:=id) (Nat.le_refl _) (show posV id L<L.length by omega)
  have:=h1 _ h;omega
 ·exact h
 ·have:=Qk1 (l:=L) h
  have:=h2 (by have:=Qa5 (id:=id) (l:=L);omega);omega
theorem Qva(h:Qd M n l)(hpg:l.Pages.length≤8)(ho:OpIn o)(hk:o.Kind=1):XW 1000 l o l.Now (hasV o.Page l.Pages)=some (opV l o):=by
 have hnow:=h.now;have htop:=h.top;have hpl:=h.book.plen;have hop:=ho.page
 have hsl:=h.seen.len;have hcl:=h.callsLe (by omega)
 refine Ok.eq ?_
 unfold XW opV
 rw[if_pos hk]
 refine Ok.cnd (fun g=>Ok.s ?_) (fun g=>?_)
 ·rw[if_pos g]
 rw[if_neg (by rw[g];simp)]
 refine Ok.n (by omega) ?_
 rw[if_neg (by omega)]
 refine Ok.oe (QkN h.book) ?_
 unfold newV
 by_cases g1:o.Page<1
 ·rw[if_pos g1,if_neg (fun hh=>by have:=QL.1 hh.1;omega)]
  exact Ok.p (by simp) (Ok.s rfl)
 rw[if_neg g1,if_pos ⟨QL.2 (by omega),QL.2 (by omega)⟩]
 by_cases g2:0≤o.Policy∧o.Policy<(l.Book.Policies.length:Int)
 ·rw[if_pos g2,if_pos (QL.2 (by omega))]
  try dsimp only
  refine Ok.n (by simp) ?_
  obtain⟨hi1,hi2,hi3⟩:=h.open (o:=o) g (by omega) g2 (by omega)
  have hple:=Qa5 (id:=o.Page) (l:=l.Pages)
  refine Ok.join (fun y=>y=((l.Now,((posV o.Page l.Pages:Nat):Int),()),lgA l,({ Now:=0,Config:={ Zones:=[],People:=[],Calendars:=[],Schedules:=[] },Book:={ Teams:=[],Policies:=[] },Pages:=[],Owner:=0,Fence:=0,Seen:=[],Calls:=[] }:D.Ledger),newP o.Page o.Policy l.Now,l.Pages,l.Seen,l.Calls,())) (fun y hy=>?_) (fun J hJ=>?_)
  ·subst hy
   try dsimp only[lgA]
   obtain⟨P,hP⟩:∃P,newP o.Page o.Policy l.Now=P:=⟨_,rfl⟩
   have hPid:P.ID=o.Page:=by subst hP;rfl
   rw[hP]at hi1 hi2 hi3 ⊢
   have hins:insP l.Pages P=l.Pages.take (posV o.Page l.Pages)++P::l.Pages.drop (posV o.Page l.Pages):=by unfold insP;rw[hPid]
   have hle1:(l.Pages++[P]).length=l.Pages.length+1:=by simp
   try dsimp only
   rw[Qa (by omega)]
   refine Ok.lec (by simp;omega) (Ok.natn (Ok.lec (by omega) (Ok.natn (Ok.lec (by omega) (Ok.ck rfl (Ok.ck rfl (Ok.lec (by omega) (Ok.lec (by omega) (Ok.natn (Ok.lt ?_ (Ok.get ?_ ?_)))))))))))
   ·simp only[List.length_append,List.length_take,List.length_drop,List.length_cons,List.length_nil];omega
   ·simp only[List.length_append,List.length_take,List.length_drop,List.length_cons,List.length_nil];omega
   rw[Qs4 hple,←hins]
   have hrun:=Qlo (id:=P.ID) hi1 (by show(insP l.Pages P).length≤9;rw[hins];simp;omega)
   have hpos:posV P.ID (insP l.Pages P)=posV o.Page l.Pages:=by
    have:=Qgg hi1.asc hi2
    rw[hi3]at this;exact this
   have hhas:hasV P.ID (insP l.Pages P)=true:=by
    have:=QkE hi1.asc hi2
    rw[hi3]at this;exact this
   rw[if_pos hhas,hpos]at hrun
   exact Ok.oe hrun (Ok.s rfl)
  ·have hfound:∀k:Nat,k≤l.Pages.length→(∀j,j<k→(nth l.Pages j).ID<o.Page)→(k<l.Pages.length→o.Page≤(nth l.Pages k).ID)→Ok (J ((l.Now,(k:Int),()),lgA l,({ Now:=0,Config:={ Zones:=[],People:=[],Calendars:=[],Schedules:=[] },Book:={ Teams:=[],Policies:=[] },Pages:=[],Owner:=0,Fence:=0,Seen:=[],Calls:=[] }:D.Ledger),newP o.Page o.Policy l.Now,l.Pages,l.Seen,l.Calls,())) _:=fun k h1 h2 h3=>hJ _ (by rw[Qvh h.asc h1 h2 h3])
   refine Ok.scan2 l.Pages.length (fun i=>(l.Now,(i:Int),())) (fun i=>!decide ((nth l.Pages i).ID<o.Page)) rfl (by omega) (fun i hi hq hj k=>?_) (fun i hi hq k hk=>?_) (fun hq k=>?_)
   ·refine Ok.j ?_
    dsimp only
    refine Ok.p (by omega) (Ok.natn (Ok.lt hi (Ok.get hi (Ok.n ?_ (hfound i (by omega) (fun j hj'=>by simpa using hj j hj') (fun _=>by simpa using hq))))))
    have:¬(nth l.Pages i).ID<o.Page:=by simpa using hq
    exact this
   ·have hlt:(nth l.Pages i).ID<o.Page:=by simpa using hq
    refine Ok.j ?_
    dsimp only
    refine Ok.p (by omega) (Ok.natn (Ok.lt hi (Ok.get hi (Ok.p hlt ?_))))
    try dsimp only
    rw[Qa (by omega)];exact hk
   ·refine Ok.j ?_
    dsimp only
    exact(Ok.n (by omega) (hfound l.Pages.length (Nat.le_refl _) (fun j hj'=>by simpa using hq j hj') (fun hh=>absurd hh (Nat.lt_irrefl _))))
 ·rw[if_neg g2,if_neg (fun hh=>g2 (by have:=QL.1 hh;omega))]
  exact Ok.p (by simp) (Ok.s rfl)
theorem QaD{a:D.Answer}(h:(answerV b p a).2=0):(answerV b p a).1=p∨(answerV b p a).1=Y5 p a:=by
 revert h
 unfold answerV
 split
 ·intro h;simp at h
 ·split
  ·intro h;simp at h
  ·split
   ·intro _;exact .inl rfl
   ·split
    ·rename_i hr
     intro h;exact absurd h hr
    ·intro _;exact .inr rfl
theorem Qoh(h:Qd M n l)(hi:i<l.Pages.length):(nth (runI l i).Pages i).ID=(nth l.Pages i).ID:=by
 rw[Qan h hi,if_pos rfl]
 exact(Qdk h.book QT.step (h.at hi).1).id
theorem Qtt(h:Qd M n l)(hpg:l.Pages.length≤9)(hk:o.Kind=4)(ha:YA o.Answer=true):Xw 1000 l o.Answer l.Now=some (opV l o):=by
 have hcl:=h.callsLe hpg
 refine Ok.eq ?_
 unfold Xw opV
 rw[if_neg (by omega),if_neg (by omega),if_neg (by omega),if_pos hk]
 refine Ok.oe (Qhg h.plens h.asc (by omega)) ?_
 unfold Qf0
 by_cases hh:hasV o.Answer.Page l.Pages=true
 ·rw[if_pos hh,if_pos hh]
  try dsimp only
  have hi:=VO hh
  have hrun:=Qlo (id:=o.Answer.Page) h hpg
  rw[if_pos hh]at hrun
  refine Ok.f (Ok.oe hrun ?_)
  have h2:=h.run hi.1
  have hkp:=YZ (l:=l) (i:=posV o.Answer.Page l.Pages)
  obtain⟨i,hie⟩:∃i,posV o.Answer.Page l.Pages=i:=⟨_,rfl⟩
  rw[hie]at hi h2 hkp ⊢
  have hid2:(nth (runI l i).Pages i).ID=o.Answer.Page:=(Qoh h hi.1).trans hi.2
  have hi2:i<(runI l i).Pages.length:=by omega
  have hcl2:=h2.callsLe (by omega)
  refine Ok.oe (Qhg h2.plens h2.asc (by omega)) ?_
  rw[QnL h2.asc hi2 hid2]
  try dsimp only
  obtain⟨a,hae⟩:∃a:D.Answer,a=D.Answer.mk o.Answer.ID o.Answer.Page o.Answer.Person o.Answer.Kind o.Answer.Arg l.Now:=⟨_,rfl⟩
  rw[←hae]
  have hpl2:=h2.plens _ (Qk hi2)
  refine Ok.oe (Qnu h2.book hpl2) ?_
  rw[hkp.2.2.1]
  have hz:=QaD (b:=l.Book) (p:=nth (runI l i).Pages i) (a:=a)
  have hAl:=hpl2.answerV (a:=a) h.book
  obtain⟨A,e,hA⟩:∃A e,answerV l.Book (nth (runI l i).Pages i) a=(A,e):=⟨_,_,rfl⟩
  rw[hA]at hz hAl ⊢
  try dsimp only at hz hAl ⊢
  by_cases he:e=0
  ·rw[if_pos he]
   have hq:=hz he
   have hpid:A.ID=(nth (runI l i).Pages i).ID:=by
    rcases hq with rfl|rfl
    ·rfl
    ·exact QfN.1
   have hpst:(nth (runI l i).Pages i).Starts.length≤A.Starts.length:=by
    rcases hq with rfl|rfl
    ·exact Nat.le_refl _
    ·obtain⟨m,hm⟩:=Qej (p:=nth (runI l i).Pages i) (a:=a)
     rw[hm];simp
   refine Ok.n (by omega) (Ok.oe (Qt2 (i:=i) h2.asc (by omega) (by omega) hi2 hpid hAl hpst) (Ok.s rfl))
  ·rw[if_neg he]
   exact Ok.p he (Ok.s rfl)
 ·rw[if_neg hh,if_neg hh]
  exact Ok.t (Ok.s rfl)
theorem QqW{x:D.Edit}{s:Int}(h:Q1 n c)(hn:n<48)(hx:U5 x):Qbq 1000 c s x=some (if 0≤s∧s<2 then(QgV c s x,0)else({ Zones:=[],People:=[],Calendars:=[],Schedules:=[] },3)):=by
 have hsl:=h.slen
 refine Ok.eq ?_
 unfold Qbq
 refine Ok.j (Ok.oe (QcJ h (by omega)) (Ok.n (by simp) (Ok.ite (fun g=>Ok.s ?_) (fun g=>Ok.ite (fun g2=>Ok.s ?_) (fun g2=>?_)))))
 ·rw[if_neg (by omega)]
 ·rw[if_neg (by omega)]
 ·rw[if_pos (by omega)]
  try dsimp only
  have hso:=h.sched _ (Qk (l:=c.Schedules) (i:=s.toNat) (by omega))
  have hlen:=hso.len
  refine Ok.at (by omega) (by omega) (Ok.lec (by omega) (Ok.lec (by simp;omega) (Ok.oe (v:=QgV c s x) ?_ (Ok.oe (QcJ (Qhe h hx (by omega)) (by omega)) (Ok.n (by simp) (Ok.s rfl))))))
  refine Ok.eq ?_
  unfold Qlc
  refine Ok.lec (by omega) (Ok.nat (by omega) (Ok.lt (by omega) (Ok.get (by omega) (Ok.s ?_))))
  rfl
theorem Qql(h:Qd M n l)(hn:n<48)(hpg:l.Pages.length≤8)(ho:OpIn o):Xv 1000 l o l.Now=some (opV l o):=by
 have hfe:=h.fence;have hse:=h.seen.len;have hkd:=ho.kind;have hof:=ho.fence
 refine Ok.eq ?_
 unfold Xv
 refine Ok.oe (Qhg h.plens h.asc (by omega)) ?_
 have hf2:(Qf0 l o.Page).2=hasV o.Page l.Pages:=by
  unfold Qf0
  by_cases hh:hasV o.Page l.Pages=true
  ·rw[if_pos hh,hh]
  ·rw[if_neg hh];simpa using hh
 obtain⟨fp,fo,hfe2⟩:∃fp fo,Qf0 l o.Page=(fp,fo):=⟨_,_,rfl⟩
 rw[hfe2]at hf2 ⊢
 try dsimp only at hf2 ⊢
 subst hf2
 refine Ok.j (Ok.ite (fun k1=>?_) (fun k1=>Ok.ite (fun k2=>?_) (fun k2=>Ok.ite (fun k3=>?_) (fun k3=>Ok.ite (fun k4=>?_) (fun k4=>Ok.ite (fun k5=>?_) (fun k5=>absurd hkd (by omega)))))))
 ·exact Ok.oe (Qva h hpg ho k1) (Ok.s rfl)
 ·unfold opV
  rw[if_neg k1,if_pos k2,Qc (by omega)]
  refine Ok.ite (fun g=>Ok.s ?_) (fun g=>Ok.s ?_)
  ·rw[if_neg (by omega)]
  ·rw[if_pos (by omega)]
 ·unfold opV
  rw[if_neg k1,if_neg k2,if_pos k3]
  refine Ok.join (fun y=>y=((l.Now,hasV o.Page l.Pages,()),lgA l,o,({ Now:=0,Config:={ Zones:=[],People:=[],Calendars:=[],Schedules:=[] },Book:={ Teams:=[],Policies:=[] },Pages:=[],Owner:=0,Fence:=0,Seen:=[],Calls:=[] }:D.Ledger),fp,l.Pages,l.Seen,l.Calls,())∧o.Region=l.Owner∧o.Fence=l.Fence) (fun y hy=>?_) (fun J hJ=>Ok.ite (fun g=>Ok.s ?_) (fun g=>Ok.ite (fun g2=>Ok.s ?_) (fun g2=>hJ _ ⟨rfl,by omega,by omega⟩)))
  ·obtain⟨rfl,g1,g2⟩:=hy
   try dsimp only[lgA]
   rw[if_pos ⟨g1,g2⟩]
   refine Ok.ncnd (fun hh=>Ok.s ?_) (fun hh=>?_)
   ·rw[if_neg (by rw[hh];simp)]
   ·rw[if_pos hh]
    have hfp:fp=nth l.Pages (posV o.Page l.Pages):=by
     unfold Qf0 at hfe2
     rw[if_pos hh]at hfe2
     exact(Prod.mk.inj hfe2).1.symm
    subst hfp
    have hrun:=Qlo (id:=o.Page) h (by omega)
    rw[if_pos hh]at hrun
    refine Ok.oe Qe0 ?_
    obtain⟨pg,hpg2⟩:∃pg,nth l.Pages (posV o.Page l.Pages)=pg:=⟨_,rfl⟩
    rw[hpg2]
    obtain⟨kk,hkk⟩:∃kk:Int,(if pg.State=2 then(-1:Int)else pg.Next)=kk:=⟨_,rfl⟩
    rw[hkk]
    have hw:Xm pg l.Now=((dueV pg).2 && decide ((dueV pg).1≤l.Now)):=rfl
    refine Ok.join (fun y=>y=((l.Now,(dueV pg).1,(dueV pg).2,kk,()),lgA l,o,({ Now:=0,Config:={ Zones:=[],People:=[],Calendars:=[],Schedules:=[] },Book:={ Teams:=[],Policies:=[] },Pages:=[],Owner:=0,Fence:=0,Seen:=[],Calls:=[] }:D.Ledger),l.Pages,l.Seen,l.Calls,())) (fun y hy=>?_) (fun J hJ=>Ok.ite (fun g=>hJ _ (by rw[←hkk,if_pos g])) (fun g=>hJ _ (by rw[←hkk,if_neg g])))
    subst hy
    try dsimp only[lgA]
    refine Ok.j (Ok.cnd (fun g3=>Ok.ite (fun g4=>Ok.s ?_) (fun g4=>Ok.ite (fun g5=>Ok.s ?_) (fun g5=>Ok.oe hrun (Ok.s ?_)))) (fun g3=>Ok.s ?_))
    ·rw[if_neg (fun hx=>by rw[hw,g3]at hx;have:=of_decide_eq_true (show decide ((dueV pg).1≤l.Now)=true by simpa using hx.1);omega)]
    ·rw[if_neg (fun hx=>g5 hx.2.symm)]
    ·rw[if_pos ⟨by rw[hw,g3];simp;omega,by omega⟩]
    ·rw[if_neg (fun hx=>by rw[hw,g3]at hx;simp at hx)]
  ·rw[if_neg (by omega)]
  ·rw[if_neg (by omega)]
 ·exact Ok.oe (Qtt h (by omega) k4 (ho.answer k4).1) (Ok.s rfl)
 ·unfold opV
  rw[if_neg k1,if_neg k2,if_neg k3,if_neg k4]
  have hkeep:∀i,(Za l i).Now=l.Now∧(Za l i).Config=l.Config∧(Za l i).Book=l.Book∧(Za l i).Owner=l.Owner∧(Za l i).Fence=l.Fence∧(Za l i).Seen=l.Seen∧(Za l i).Pages.length=l.Pages.length:=fun i=>ZS
  refine Ok.run l.Pages.length (fun i=>((l.Now,(i:Int),()),lgA (Za l i),o,({ Now:=0,Config:={ Zones:=[],People:=[],Calendars:=[],Schedules:=[] },Book:={ Teams:=[],Policies:=[] },Pages:=[],Owner:=0,Fence:=0,Seen:=[],Calls:=[] }:D.Ledger),(Za l i).Pages,(Za l i).Seen,(Za l i).Calls,())) rfl (by omega) (fun i hi k hk=>?_) (fun k=>?_)
  ·try dsimp only[lgA]
   have hki:=hkeep i
   have hi2:i<(Za l i).Pages.length:=by omega
   have hL:=h.runs (k:=i) (by omega)
   have hrun:=Qlo (id:=(nth (Za l i).Pages i).ID) hL (by omega)
   rw[if_pos (QkE hL.asc hi2),Qgg hL.asc hi2,hki.1]at hrun
   refine Ok.p (by omega) (Ok.natn (Ok.lt hi2 (Ok.get hi2 (Ok.oe hrun ?_))))
   try dsimp only
   rw[Qa (by omega)]
   exact hk
  ·try dsimp only[lgA]
   have hki:=hkeep l.Pages.length
   refine Ok.n (by omega) ?_
   have hed:=QqW (c:=l.Config) (s:=o.Schedule) h.cfg hn (ho.edit k5)
   refine Ok.oe (v:=if 0≤o.Schedule∧o.Schedule<2 then(QgV l.Config o.Schedule o.Edit,0)else({ Zones:=[],People:=[],Calendars:=[],Schedules:=[] },3)) ?_ ?_
   ·rw[←hed]
    show Qbq 1000 (Za l l.Pages.length).Config _ _=_
    rw[hki.2.1]
   ·by_cases hs:0≤o.Schedule∧o.Schedule<2
    ·rw[if_pos hs,if_pos hs]
     exact Ok.n (by simp) (Ok.s rfl)
    ·rw[if_neg hs,if_neg hs]
     exact Ok.p (by simp) (Ok.s rfl)
theorem OpIn.valid(ho:OpIn o):Qfw 1000 o=some true:=by
 refine Ok.eq ?_
 unfold Qfw
 refine Ok.oe rin (Ok.bt (QL.2 ho.id) (Ok.oe rin (Ok.bt (QL.2 ho.kind) (Ok.oe rin (Ok.bt (QL.2 ho.region) (Ok.oe rin (Ok.bt (QL.2 ho.fence) (Ok.oe rin (Ok.bt (QL.2 ho.at_) (Ok.oe rin (Ok.bt (QL.2 ho.page) (Ok.oe rin (Ok.bt (QL.2 ho.k) ?_)))))))))))))
 exact Ok.ite (fun g=>Ok.s rfl) (fun g=>Ok.oe Qka (Ok.bt (ho.answer (by omega)).1 (Ok.s rfl)))
theorem Qqm(h:Qd M n l)(hn:n<48)(hpg:l.Pages.length≤8)(ho:OpIn o)(ht:max l.Now o.At≤M - 20000)(hl:l.Seen.length<256):Qfv 1000 l o=some (Yy l o):=by
 have hcl:=h.callsLe (by omega)
 refine Ok.eq ?_
 unfold Qfv Yy
 refine Ok.j (Ok.oe (QcV h (by omega)) (Ok.t (Ok.oe ho.valid (Ok.t ?_))))
 try dsimp only
 refine Ok.oe (QsO h.plens (by omega) (by omega) (by omega)) (Ok.oe (QbQ (by omega)) (Ok.cnd (fun g=>Ok.s ?_) (fun g=>?_)))
 ·rw[if_pos g]
 ·rw[if_neg (by rw[g];simp)]
  have h2:=h.see ho ht g hl
  refine Ok.n (by omega) (Ok.lec (by simp;omega) (Ok.oe (Qql (l:={ l with Now:=max l.Now o.At,Seen:=l.Seen++[o.ID] }) h2 hn hpg ho) (Ok.s rfl)))
end
end Go.Proofs.YtgokjdfkpnkekaaGreat
/-
  Operations and ledgers that are made by dice.
-/
namespace Go.Proofs.YtgokjdfkpnkekaaGreat
open Go AM
attribute [local irreducible] dueV stepV runV QR answerV
section
variable {n:Nat} {c:D.Config} {b:D.Book} {p q:D.Page} {now M m:Int} {l:D.Ledger} {i:Nat} {o:D.Op} {L:List Int} {d:D.Dice}
def Ids(m:Int)(l:D.Ledger):Prop:=∀p∈l.Pages,p.ID≤m
theorem Ids.mono{k:Int}(h:Ids m l)(hk:m≤k):Ids k l:=fun p hp=>Int.le_trans (h p hp) hk
theorem QuY{L:List D.Page}(ha:AscP L){k:Nat}(h:∀p∈L,1≤p.ID∧p.ID≤(k:Int)):L.length≤k:=by
 have hlo:∀i,i<L.length→(i:Int)+1≤(nth L i).ID:=by
  intro i
  induction i with
  |zero=>intro hi;have:=(h _ (Qk hi)).1;omega
  |succ i ih=>
   intro hi
   have:=ih (by omega)
   have:=QbL ha (show i<i+1 by omega) hi
   omega
 rcases Nat.lt_or_ge k L.length with h1|h1
 ·have h2:=hlo (L.length - 1) (by omega)
  have h3:=(h _ (Qk (l:=L) (i:=L.length - 1) (by omega))).2
  omega
 ·exact h1
theorem Qd.small3{k:Nat}(h:Qd M n l)(hi:Ids (k:Int) l):l.Pages.length≤k:=
 QuY h.asc fun p hp=>⟨(h.page p hp).1.id.1,hi p hp⟩
theorem Ids.put(h:Ids m l)(hi:i<l.Pages.length)(hp:p.ID=(nth l.Pages i).ID):Ids m (putV l i p):=fun q hq=>by
 rcases List.mem_or_eq_of_mem_set hq with hq|rfl
 ·exact h q hq
 ·rw[hp];exact h _ (Qk hi)
theorem Ids.run(h:Ids m l)(hl:Qd M n l)(hi:i<l.Pages.length):Ids m (runI l i):=by
 rw[hl.runEq hi]
 exact h.put hi (Qdk hl.book QT.step (hl.at hi).1).id
theorem Ids.runs(h:Ids m l)(hl:Qd M n l):∀{k:Nat},k≤l.Pages.length→Ids m (Za l k)
 |0,_=>h
 |k+1,hk=>by
  rw[Za]
  exact(Ids.runs h hl (k:=k) (by omega)).run (hl.runs (by omega)) (by have:=(ZS (l:=l) (k:=k)).2.2.2.2.2.2;omega)
theorem Ids.op(h:Ids m l)(hl:Qd M n l)(ho:OpIn o)(hp:o.Kind=1→o.Page≤m):Ids m (opV l o).1:=by
 unfold opV
 split
 ·rename_i k1
  split
  ·exact h
  ·rename_i hh
   split
   ·exact h
   ·split
    ·exact h
    ·split
     ·rename_i h1 h2 h3
      have hop:=ho.page
      have hi:=hl.open (o:=o) (by simpa using hh) (by omega) h3 (by have:=hl.len;omega)
      have hid:Ids m { l with Pages:=insP l.Pages (newP o.Page o.Policy l.Now) }:=fun q hq=>by
       rcases Qfb.1 hq with rfl|hq
       ·exact hp k1
       ·exact h q hq
      exact hid.run hi.1 hi.2.1
     ·exact h
 ·split
  ·split
   ·exact h
   ·exact h
  ·split
   ·split
    ·split
     ·rename_i hh
      generalize (if (nth l.Pages (posV o.Page l.Pages)).State=2 then(-1:Int)else(nth l.Pages (posV o.Page l.Pages)).Next)=kk
      split
      ·exact h.run hl (VO hh).1
      ·exact h
     ·exact h
    ·exact h
   ·split
    ·split
     ·rename_i hh
      have hi:=(VO hh).1
      split
      ·rename_i he
       have h2:=hl.run hi
       have hk:=YZ (l:=l) (i:=posV o.Answer.Page l.Pages)
       refine(h.run hl hi).put (by omega) ?_
       rcases QaD he with e|e
       ·rw[e]
       ·rw[e];exact QfN.1
      ·exact h.run hl hi
     ·exact h
    ·split
     ·exact h.runs hl (Nat.le_refl _)
     ·exact h.runs hl (Nat.le_refl _)
theorem Ids.apply(h:Ids m l)(hl:Qd M n l)(ho:OpIn o)(ht:max l.Now o.At≤M - 20000)(hs:l.Seen.length<256)(hp:o.Kind=1→o.Page≤m):Ids m (Yy l o).1:=by
 unfold Yy
 split
 ·exact h
 ·rename_i hse
  exact Ids.op (l:={ l with Now:=max l.Now o.At,Seen:=l.Seen++[o.ID] }) h (hl.see ho ht (by simpa using hse) hs) ho hp
theorem QkQ:(opV l o).1.Now=l.Now∧(opV l o).1.Seen=l.Seen:=by
 unfold opV
 have h1:=fun i=>YZ (l:=l) (i:=i)
 have h2:=fun k=>ZS (l:=l) (k:=k)
 split
 ·split
  ·exact⟨rfl,rfl⟩
  ·split
   ·exact⟨rfl,rfl⟩
   ·split
    ·exact⟨rfl,rfl⟩
    ·split
     ·exact⟨(YZ (l:={ l with Pages:=insP l.Pages (newP o.Page o.Policy l.Now) })).1,(YZ (l:={ l with Pages:=insP l.Pages (newP o.Page o.Policy l.Now) })).2.2.2.2.2.1⟩
     ·exact⟨rfl,rfl⟩
 ·split
  ·split<;>exact⟨rfl,rfl⟩
  ·split
   ·split
    ·split
     ·generalize (if (nth l.Pages (posV o.Page l.Pages)).State=2 then(-1:Int)else(nth l.Pages (posV o.Page l.Pages)).Next)=kk
      split
      ·exact⟨(h1 _).1,(h1 _).2.2.2.2.2.1⟩
      ·exact⟨rfl,rfl⟩
     ·exact⟨rfl,rfl⟩
    ·exact⟨rfl,rfl⟩
   ·split
    ·split
     ·split
      ·exact⟨(h1 _).1,(h1 _).2.2.2.2.2.1⟩
      ·exact⟨(h1 _).1,(h1 _).2.2.2.2.2.1⟩
     ·exact⟨rfl,rfl⟩
    ·split
     ·exact⟨(h2 _).1,(h2 _).2.2.2.2.2.1⟩
     ·exact⟨(h2 _).1,(h2 _).2.2.2.2.2.1⟩
theorem Qnv:(Yy l o).1.Seen.length≤l.Seen.length+1∧((Yy l o).1.Now=l.Now∨(Yy l o).1.Now=max l.Now o.At):=by
 unfold Yy
 split
 ·exact⟨by dsimp only;omega,.inl rfl⟩
 ·have:=QkQ (l:={ l with Now:=max l.Now o.At,Seen:=l.Seen++[o.ID] }) (o:=o)
  exact⟨by rw[this.2];simp,.inr this.1⟩
theorem Qp0{t:Int}(h:Qd M n l)(hpg:l.Pages.length≤9):Ok (Qcb 1000 l t) fun w=>w.length≤9∧∀s∈w,∃p∈l.Pages,s.K=p.ID:=by
 unfold Qcb
 refine Ok.j ?_
 refine Ok.loop (fun m x=>∃(i:Nat) (w:List D.Start),x=((t,(i:Int),()),l,w,())∧i≤l.Pages.length∧w.length≤i∧(∀s∈w,∃p∈l.Pages,s.K=p.ID)∧m=l.Pages.length - i) (m:=l.Pages.length) (by omega) ⟨0,[],rfl,by omega,by simp,by simp,rfl⟩ ?_
 rintro m x ⟨i,w,rfl,i1,i2,i3,rfl⟩ K hK
 try dsimp only
 refine Ok.j (Ok.ite (fun hi=>?_) (fun hi=>Ok.s ⟨by omega,i3⟩))
 have hlt:i<l.Pages.length:=by omega
 refine Ok.oe (QcV h hpg) (Ok.t ?_)
 try dsimp only
 have next:∀w:List D.Start,w.length≤i+1→(∀s∈w,∃p∈l.Pages,s.K=p.ID)→Ok (K ((t,IntKind.wrap .i64 ((i:Int)+1),()),l,w,())) fun w=>w.length≤9∧∀s∈w,∃p∈l.Pages,s.K=p.ID:=fun w h1 h2=>by
  try dsimp only
  rw[Qa (by omega)]
  exact hK _ _ (by omega) ⟨i+1,w,rfl,by omega,h1,h2,rfl⟩
 refine Ok.j (Ok.atn hlt (Ok.oe Qe0 (Ok.cnd (fun g=>Ok.ite (fun g2=>Ok.atn hlt (Ok.lec (by simp;omega) (next _ (by simp;omega) ?_))) (fun g2=>next w (by omega) i3)) (fun g=>next w (by omega) i3))))
 exact WK i3 ⟨_,Qk hlt,rfl⟩
theorem Qv3{id t:Int}(hL:L.length≤500)(hd:ZH L d)(h:Qd M n l)(hids:Ids 3 l)(hid:1≤id∧id≤1000)(ht:0≤t∧t≤8589934592):
  Ok (QaI 1000 d l id t) fun r=>ZH L r.2∧OpIn r.1∧r.1.ID=id∧r.1.At=t∧(r.1.Kind=1→1≤r.1.Page∧r.1.Page≤3)∧(r.1.Kind=4→r.1.Answer.Person<4):=by
 have hpl:=h.book.plen;have hfe:=h.fence;have hse:=h.seen.len;have how:=h.owner
 have hpg:=h.small3 (k:=3) hids
 unfold QaI
 refine Ok.opt (nx hL hd (by omega) (by omega)) fun⟨a0,d1⟩ ⟨h1,l1,u1⟩=>?_
 try dsimp only at h1 l1 u1 ⊢
 refine Ok.opt (nx hL h1 (by omega) (by omega)) fun⟨a2,d3⟩ ⟨h3,l3,u3⟩=>?_
 try dsimp only at h3 l3 u3 ⊢
 refine Ok.opt (nx hL h3 (by omega) (by omega)) fun⟨a4,d5⟩ ⟨h5,l5,u5⟩=>?_
 try dsimp only at h5 l5 u5 ⊢
 rw[Qc (x:=1+a0) (by omega),Qc (x:=1+a4) (by omega)]
 have noEdit:∀{P:Prop},¬(1+a0=5)→1+a0=5→P:=fun h1 h2=>absurd h2 h1
 refine Ok.j (Ok.ite (fun k1=>?_) (fun k1=>Ok.ite (fun k2=>?_) (fun k2=>Ok.ite (fun k3=>?_) (fun k3=>Ok.ite (fun k4=>?_) (fun k4=>Ok.ite (fun k5=>?_) (fun k5=>?_))))))
 ·refine Ok.opt (nx hL h5 (by omega) (by omega)) fun⟨a10,d11⟩ ⟨h11,l11,u11⟩=>?_
  try dsimp only at h11 l11 u11 ⊢
  rw[Qc (x:=((l.Book.Policies.length:Nat):Int)+1) (by omega),Qc (x:=((l.Book.Policies.length:Nat):Int)+1 - a10) (by omega)]
  refine Ok.opt (nx hL h11 (by omega) (by omega)) fun⟨a12,d13⟩ ⟨h13,l13,u13⟩=>Ok.s ⟨h13,?_,rfl,rfl,fun _=>by dsimp only;omega,fun e=>absurd (show 1+a0=4 from e) (by omega)⟩
  exact⟨by dsimp only;omega,by dsimp only;omega,by dsimp only;omega,by dsimp only;omega,ht,by dsimp only;omega,by dsimp only;omega,fun e=>absurd (show 1+a0=4 from e) (by omega),fun e=>absurd (show 1+a0=5 from e) (by omega)⟩
 ·refine Ok.opt (QaK hL h5 (by simp) (by simp)) fun⟨a14,d15⟩ ⟨h15,m15⟩=>?_
  try dsimp only at h15 m15 ⊢
  simp only[List.mem_cons,List.not_mem_nil,or_false]at m15
  try dsimp only
  rw[Qc (x:=l.Fence+a14) (by omega)]
  refine Ok.s ⟨h15,?_,rfl,rfl,fun e=>absurd (show 1+a0=1 from e) k1,fun e=>absurd (show 1+a0=4 from e) (by omega)⟩
  exact⟨by dsimp only;omega,by dsimp only;omega,by dsimp only;omega,by dsimp only;omega,ht,by dsimp only;omega,by dsimp only;omega,fun e=>absurd (show 1+a0=4 from e) (by omega),fun e=>absurd (show 1+a0=5 from e) (by omega)⟩
 ·-- a proposed start
  have hop:∀o:D.Op,OpIn o→o.ID=id→o.At=t→o.Kind=3→∀d,ZH L d→Ok (some (o,d)) fun r=>ZH L r.2∧OpIn r.1∧r.1.ID=id∧r.1.At=t∧(r.1.Kind=1→1≤r.1.Page∧r.1.Page≤3)∧(r.1.Kind=4→r.1.Answer.Person<4):=fun o h1 h2 h3 h4 d hd=>Ok.s ⟨hd,h1,h2,h3,fun e=>absurd (show o.Kind=1 from e) (by omega),fun e=>absurd (show o.Kind=4 from e) (by omega)⟩
  refine Ok.join (fun y=>∃(d:D.Dice) (z o:D.Op),y=((t,1+a4,()),d,l,z,o,())∧ZH L d∧OpIn o∧o.ID=id∧o.At=t∧o.Kind=3) (fun y hy=>?_) (fun J hJ=>?_)
  ·obtain⟨d,z,o,rfl,j1,j2,j3,j4,j5⟩:=hy
   try dsimp only
   refine Ok.join (fun y=>∃(d:D.Dice) (z o:D.Op),y=((t,1+a4,()),d,l,z,o,())∧ZH L d∧OpIn o∧o.ID=id∧o.At=t∧o.Kind=3) (fun y hy=>?_) (fun J hJ=>?_)
   ·obtain⟨d,z,o,rfl,j1,j2,j3,j4,j5⟩:=hy
    try dsimp only
    refine Ok.join (fun y=>∃(d:D.Dice) (z o:D.Op),y=((),l,z,o,d,())∧ZH L d∧OpIn o∧o.ID=id∧o.At=t∧o.Kind=3) (fun y hy=>?_) (fun J hJ=>?_)
    ·obtain⟨d,z,o,rfl,j1,j2,j3,j4,j5⟩:=hy
     try dsimp only
     refine Ok.oe (QuQ h.plens h.asc (by omega)) ?_
     unfold Qf0
     by_cases hh:hasV o.Page l.Pages=true
     ·rw[if_pos hh]
      try dsimp only
      have hi:=VO hh
      obtain⟨g1,_⟩:=h.at hi.1
      have hnx:=(Yb (g1.check h.book)).next
      have hcn:=Yn (g1.polOK h.book)
      refine Ok.t (Ok.ite (fun g=>Ok.s ⟨j1,?_,j3,j4,fun e=>absurd (show o.Kind=1 from e) (by omega),fun e=>absurd (show o.Kind=4 from e) (by omega)⟩) (fun g=>Ok.s ⟨j1,?_,j3,j4,fun e=>absurd (show o.Kind=1 from e) (by omega),fun e=>absurd (show o.Kind=4 from e) (by omega)⟩))
      ·exact⟨j2.id,j2.kind,j2.region,j2.fence,j2.at_,j2.page,by dsimp only;omega,j2.answer,j2.edit⟩
      ·exact⟨j2.id,j2.kind,j2.region,j2.fence,j2.at_,j2.page,by dsimp only;omega,j2.answer,j2.edit⟩
     ·rw[if_neg hh]
      exact Ok.f (hop _ j2 j3 j4 j5 _ j1)
    ·refine Ok.opt (Qp0 h (by omega)) fun w ⟨w1,w2⟩=>?_
     refine Ok.ite (fun g=>?_) (fun g=>hJ _ ⟨_,_,_,rfl,j1,⟨j2.id,j2.kind,j2.region,j2.fence,j2.at_,by dsimp only;omega,j2.k,j2.answer,j2.edit⟩,j3,j4,j5⟩)
     refine Ok.opt (nx hL j1 (by omega) (by omega)) fun⟨a36,d37⟩ ⟨h37,l37,u37⟩=>?_
     try dsimp only at h37 l37 u37 ⊢
     refine Ok.at l37 u37 (hJ _ ⟨_,_,_,rfl,h37,⟨j2.id,j2.kind,j2.region,j2.fence,j2.at_,?_,j2.k,j2.answer,j2.edit⟩,j3,j4,j5⟩)
     obtain⟨p,hp,e⟩:=w2 _ (Qk (l:=w) (i:=a36.toNat) (by omega))
     have:=(h.page p hp).1.id
     try dsimp only
     omega
   ·refine Ok.opt (nx hL j1 (by omega) (by omega)) fun⟨a40,d41⟩ ⟨h41,_⟩=>Ok.ite (fun g=>?_) (fun g=>hJ _ ⟨_,_,_,rfl,h41,j2,j3,j4,j5⟩)
    try dsimp only at h41
    refine Ok.opt (nx hL h41 (by omega) (by omega)) fun⟨a42,d43⟩ ⟨h43,l43,u43⟩=>hJ _ ⟨_,_,_,rfl,h43,⟨j2.id,j2.kind,j2.region,?_,j2.at_,j2.page,j2.k,j2.answer,j2.edit⟩,j3,j4,j5⟩
    try dsimp only at l43 u43 ⊢
    omega
  ·refine Ok.opt (nx hL h5 (by omega) (by omega)) fun⟨a45,d46⟩ ⟨h46,_⟩=>Ok.ite (fun g=>?_) (fun g=>?_)
   ·try dsimp only at h46
    refine Ok.opt (nx hL h46 (by omega) (by omega)) fun⟨a47,d48⟩ ⟨h48,l48,u48⟩=>hJ _ ⟨_,_,_,rfl,h48,?_,rfl,rfl,k3⟩
    try dsimp only at l48 u48
    exact⟨by dsimp only;omega,by dsimp only;omega,by dsimp only;omega,by dsimp only;omega,ht,by dsimp only;omega,by dsimp only;omega,fun e=>absurd (show 1+a0=4 from e) (by omega),fun e=>absurd (show 1+a0=5 from e) (by omega)⟩
   ·refine hJ _ ⟨_,_,_,rfl,h46,?_,rfl,rfl,k3⟩
    exact⟨by dsimp only;omega,by dsimp only;omega,by dsimp only;omega,by dsimp only;omega,ht,by dsimp only;omega,by dsimp only;omega,fun e=>absurd (show 1+a0=4 from e) (by omega),fun e=>absurd (show 1+a0=5 from e) (by omega)⟩
 ·refine Ok.opt (nx hL h5 (by omega) (by omega)) fun⟨a49,d50⟩ ⟨h50,l50,u50⟩=>?_
  try dsimp only at h50 l50 u50 ⊢
  rw[Qc (x:=1+a49) (by omega)]
  refine Ok.opt (Qqj hL h50) fun⟨a,d52⟩ ⟨h52,ha,e1,e2,e3⟩=>Ok.s ⟨h52,?_,rfl,rfl,fun e=>absurd (show 1+a0=1 from e) k1,fun _=>ha.pers.2⟩
  try dsimp only at ha e1 e2 e3
  exact⟨by dsimp only;omega,by dsimp only;omega,by dsimp only;omega,by dsimp only;omega,ht,by dsimp only;omega,by dsimp only;omega,fun _=>⟨ha.valid (by omega) (by omega) (by omega),fun e=>(ha.arg3 e).2⟩,fun e=>absurd (show 1+a0=5 from e) (by omega)⟩
 ·refine Ok.opt (nx hL h5 (by omega) (by omega)) fun⟨a53,d54⟩ ⟨h54,l54,u54⟩=>?_
  try dsimp only at h54 l54 u54 ⊢
  refine Ok.opt (QeC hL h54) fun⟨x,d56⟩ ⟨h56,hx⟩=>Ok.s ⟨h56,?_,rfl,rfl,fun e=>absurd (show 1+a0=1 from e) k1,fun e=>absurd (show 1+a0=4 from e) (by omega)⟩
  try dsimp only at hx
  exact⟨by dsimp only;omega,by dsimp only;omega,by dsimp only;omega,by dsimp only;omega,ht,by dsimp only;omega,by dsimp only;omega,fun e=>absurd (show 1+a0=4 from e) k4,fun _=>hx⟩
 ·omega
structure Qsr (k:Nat) (l:D.Ledger):Prop where
 inv:Qd 1000000 (2+k) l
 ids:Ids 3 l
 seen:l.Seen.length≤k
 now:l.Now≤864000+700*(k:Int)
theorem QpA(hc:Q1 2 c)(hb:QJ b):Qd 1000000 2 { Now:=0,Config:=c,Book:=b,Pages:=[],Owner:=-1,Fence:=0,Seen:=[],Calls:=[] }:=
 ⟨by omega,by dsimp only;omega,by omega,hc,hb,by simp,List.Pairwise.nil,by simp,by dsimp only;omega,by simp,⟨by simp,List.nodup_nil,by simp⟩,by simp,by simp⟩
theorem Qu8(hc:Q1 n c)(hn:n≤48)(hb:QJ b):QiO 1000 c b=some ({ Now:=0,Config:=c,Book:=b,Pages:=[],Owner:=-1,Fence:=0,Seen:=[],Calls:=[] },0):=by
 refine Ok.eq ?_
 unfold QiO
 exact Ok.oe (QlU hc hn hb) (Ok.n (by simp) (Ok.s rfl))
end
end Go.Proofs.YtgokjdfkpnkekaaGreat
/-
  Plain laws of operations on ledgers: what a refused one leaves, what one that comes twice does, which pages one touches.
-/
namespace Go.Proofs.YtgokjdfkpnkekaaGreat
open Go AM
attribute [local irreducible] dueV stepV runV QR answerV
section
variable {n:Nat} {c:D.Config} {b:D.Book} {p q:D.Page} {now M:Int} {l:D.Ledger} {i:Nat} {o:D.Op}
def seeV(l:D.Ledger)(o:D.Op):D.Ledger:={ l with Now:=max l.Now o.At,Seen:=l.Seen++[o.ID] }
theorem Qbd(hs:l.Seen.contains o.ID=false):Yy l o=opV (seeV l o) o:=by
 unfold Yy;rw[hs];rfl
theorem Qpe(hs:l.Seen.contains o.ID=false):(Yy l o).1.Now=max l.Now o.At:=by
 rw[Qbd hs,(QkQ).1];rfl
def ansP(c:D.Config)(b:D.Book)(p:D.Page)(a:D.Answer)(now:Int):D.Page:=
 if (answerV b (runV c b p now).1 { a with At:=now }).2=0 then(answerV b (runV c b p now).1 { a with At:=now }).1 else(runV c b p now).1
theorem QpB(h:Qd M n l)(hk:o.Kind=4):(opV l o).1.Config=l.Config∧(opV l o).1.Book=l.Book∧
  (opV l o).1.Pages=if hasV o.Answer.Page l.Pages=true then l.Pages.set (posV o.Answer.Page l.Pages) (ansP l.Config l.Book (nth l.Pages (posV o.Answer.Page l.Pages)) o.Answer l.Now)else l.Pages:=by
 unfold opV
 rw[if_neg (by omega),if_neg (by omega),if_neg (by omega),if_pos hk]
 split
 ·rename_i g
  obtain⟨g1,g2⟩:=VO g
  have hpg:=Qan h g1 (j:=posV o.Answer.Page l.Pages)
  rw[if_pos rfl]at hpg
  have hpages:(runI l (posV o.Answer.Page l.Pages)).Pages=l.Pages.set (posV o.Answer.Page l.Pages) (runV l.Config l.Book (nth l.Pages (posV o.Answer.Page l.Pages)) l.Now).1:=by
   rw[h.runEq g1];rfl
  split
  ·rename_i g3
   rw[hpg]at g3
   refine⟨YZ.2.1,YZ.2.2.1,?_⟩
   show List.set _ _ _=_
   rw[hpages,List.set_set,←hpages,hpg]
   unfold ansP
   rw[if_pos g3]
  ·rename_i g3
   rw[hpg]at g3
   refine⟨YZ.2.1,YZ.2.2.1,?_⟩
   show(runI l _).Pages=_
   rw[hpages]
   unfold ansP
   rw[if_neg g3]
 ·exact⟨rfl,rfl,rfl⟩
end
end Go.Proofs.YtgokjdfkpnkekaaGreat
/-
  Ledgers looked at: what the program's check computes.
-/
namespace Go.Proofs.YtgokjdfkpnkekaaGreat
open Go AM
attribute [local irreducible] dueV stepV runV QR answerV
section
variable {n:Nat} {c:D.Config} {b:D.Book} {p q:D.Page} {now M:Int} {l:D.Ledger} {i:Nat}
theorem Qu6:∀i,i<2→UZ 1000 (nth QeX i)=some true:=forall2 (by kernel_rfl) (by kernel_rfl)
theorem Qu5:∀i,i<3→UZ 1000 (nth Qi5 i)=some true:=forall3 (by kernel_rfl) (by kernel_rfl) (by kernel_rfl)
theorem QqV(hb:QJ b){i:Nat}(hi:i<b.Teams.length):Zn 1000 (i:Int) b=some false:=by
 have htl:=hb.tlen
 have hone:∀j,j<b.Teams.length→Wz 1000 (j:Int) b=some (nth QeX j):=fun j hj=>by
  refine Ok.eq ?_
  unfold Wz
  exact Ok.atn hj (Ok.sameC (Ok.s (hb.tnm hj)))
 refine Ok.eq ?_
 unfold Zn
 refine Ok.run2 i (fun k=>((i:Int),(i:Int),(k:Int),())) rfl (by omega) (fun k hk K hK=>?_) (fun K=>by dsimp only;exact Ok.n (by omega) (Ok.sameC (Ok.s rfl)))
 try dsimp only
 refine Ok.p (by omega) (Ok.oe (hone k (by omega)) (Ok.oe (hone i hi) (Ok.n (QlT i (by omega) k hk) ?_)))
 try dsimp only
 rw[Qa (by omega)];exact hK
theorem QqU(hb:QJ b){i:Nat}(hi:i<b.Policies.length):Zo 1000 (i:Int) b=some false:=by
 have htl:=hb.plen
 have hone:∀j,j<b.Policies.length→WA 1000 (j:Int) b=some (nth Qi5 j):=fun j hj=>by
  refine Ok.eq ?_
  unfold WA
  exact Ok.atn hj (Ok.sameC (Ok.s (hb.pnm hj)))
 refine Ok.eq ?_
 unfold Zo
 refine Ok.run2 i (fun k=>((i:Int),(i:Int),(k:Int),())) rfl (by omega) (fun k hk K hK=>?_) (fun K=>by dsimp only;exact Ok.n (by omega) (Ok.sameC (Ok.s rfl)))
 try dsimp only
 refine Ok.p (by omega) (Ok.oe (hone k (by omega)) (Ok.oe (hone i hi) (Ok.n (Qos i (by omega) k hk) ?_)))
 try dsimp only
 rw[Qa (by omega)];exact hK
theorem Qvs{t:D.Team}(h:Q1 n c)(ht:QlI t):QdG 1000 c t.Members=some 0:=by
 have hpl:=h.plen;have hml:=ht.len
 refine Ok.eq ?_
 unfold QdG
 refine Ok.n (by omega) (Ok.run2 (t.Members.length - 1) (fun k=>(t.Members,((k+1:Nat):Int),())) rfl (by omega) (fun k hk K hK=>?_) (fun K=>?_))
 ·try dsimp only
  have:=QfO ht.asc (show k<k+1 by omega) (show k+1<t.Members.length by omega)
  refine Ok.p (by omega) (Ok.atn (by omega) ?_)
  rw[show IntKind.wrap .i64 (((k+1:Nat):Int) - 1)=((k:Nat):Int)by rw[Qc (by omega)];omega]
  refine Ok.atn (by omega) (Ok.n (by omega) ?_)
  try dsimp only
  rw[Qa (by omega)];exact hK
 ·try dsimp only
  rw[hpl]
  have h1:=ht.mem _ (Qk (l:=t.Members) (i:=0) (by omega))
  have h2:=ht.mem _ (Qk (l:=t.Members) (i:=t.Members.length - 1) (by omega))
  refine Ok.n (by omega) (Ok.j (Ok.at (by omega) (by omega) ?_))
  rw[show IntKind.wrap .i64 (((4:Nat):Int) - 1)=3 from rfl,show IntKind.wrap .i64 (((t.Members.length:Nat):Int) - 1)=((t.Members.length - 1:Nat):Int)by rw[Qc (by omega)];omega]
  refine Ok.oe pIn (Ok.p ⟨h1.1,by have:=h1.2;show nth t.Members (0:Int).toNat≤3;simp only[Int.toNat_zero];omega⟩ (Ok.atn (by omega) (Ok.oe pIn (Ok.p (by omega) (Ok.s rfl)))))
theorem QtB{s:D.PolicyStep}(h:Q1 n c)(hb:QJ b)(hs:StepOK' b.Teams.length s):Qb3 1000 c b s=some 0:=by
 have hpl:=h.plen;have hsl:=h.slen;have htl:=hb.tlen;have hw:=hs.wait;have htn:=hs.len
 have hsz:X8 1000 c b=some ⟨4,2,((b.Teams.length:Nat):Int)⟩:=by unfold X8;rw[hpl,hsl];rfl
 refine Ok.eq ?_
 unfold Qb3
 refine Ok.oe pIn (Ok.np (by omega) (Ok.n (by omega) (Ok.oe hsz ?_)))
 try dsimp only
 refine Ok.run2 s.Targets.length (fun i=>(s.Targets,((s.Targets.length:Nat):Int),(i:Int),())) rfl (by omega) (fun i hi K hK=>?_) (fun K=>by dsimp only;exact Ok.n (by omega) (Ok.s rfl))
 try dsimp only
 have hx:=hs.target _ (Qk hi)
 have h1:=hx.lo;have h2:=hx.person;have h3:=hx.sched;have h4:=hx.team
 refine Ok.p (by omega) (Ok.j (Ok.atn hi (Ok.oe pIn (Ok.p (by have:=hx.kind;omega) ?_))))
 have next:Ok (K ((s.Targets,((s.Targets.length:Nat):Int),IntKind.wrap .i64 ((i:Int)+1),()),(4,2,((b.Teams.length:Nat):Int),()),())) (·=0):=by rw[Qa (by omega)];exact hK
 rcases hx.kind with hk|hk|hk
 ·have:=h2 hk
  refine Ok.p (by omega) (Ok.oe pIn (Ok.p ⟨h1,by rw[Qc (by omega)];omega⟩ next))
 ·have:=h3 hk
  refine Ok.n (by omega) (Ok.p (by omega) (Ok.oe pIn (Ok.p ⟨h1,by rw[Qc (by omega)];omega⟩ next)))
 ·have:=h4 hk
  refine Ok.n (by omega) (Ok.n (by omega) (Ok.p (by omega) (Ok.oe pIn (Ok.p ⟨h1,by rw[Qc (by omega)];omega⟩ next))))
theorem QsI(h:Q1 n c)(hn:n≤48)(hb:QJ b):QaP 1000 c b=some 0:=by
 have htl:=hb.tlen;have hpl:=hb.plen
 refine Ok.eq ?_
 unfold QaP
 refine Ok.oe (Qhb h hn) (Ok.n (by simp) (Ok.j (Ok.n (by omega) (Ok.n (by omega) ?_))))
 refine Ok.run b.Teams.length (fun i=>((b.Teams,((b.Teams.length:Nat):Int),(i:Int),()),c,b,())) rfl (by omega) (fun i hi K hK=>?_) (fun K=>?_)
 ·try dsimp only
  have ht:=hb.team _ (Qk hi)
  refine Ok.p (by omega) (Ok.atn hi (Ok.oe (by rw[hb.tnm hi];exact Qu6 i (by omega)) (Ok.nt rfl (Ok.oe (QqV hb hi) (Ok.f (Ok.oe (Qvs h ht) (Ok.n (by simp) ?_)))))))
  try dsimp only
  rw[Qa (by omega)];exact hK
 ·try dsimp only
  refine Ok.n (by omega) (Ok.run b.Policies.length (fun i=>((((b.Policies.length:Nat):Int),(i:Int),()),c,b,())) rfl (by omega) (fun i hi K hK=>?_) (fun K=>by dsimp only;exact Ok.n (by omega) (Ok.s rfl)))
  try dsimp only
  have ht:=hb.pol _ (Qk hi)
  have hml:=ht.len;have hrp:=ht.rep
  refine Ok.p (by omega) (Ok.oe (v:=0) ?_ (Ok.n (by simp) ?_))
  ·refine Ok.eq ?_
   unfold Qc0
   refine Ok.atn hi (Ok.oe (by rw[hb.pnm hi];exact Qu5 i (by omega)) (Ok.nt rfl (Ok.oe (QqU hb hi) (Ok.f (Ok.n (by omega) (Ok.n (by omega) (Ok.oe pIn (Ok.np (by omega) ?_))))))))
   refine Ok.run (nth b.Policies i).Steps.length (fun k=>(((nth b.Policies i).Steps,(((nth b.Policies i).Steps.length:Nat):Int),(k:Int),()),c,b,())) rfl (by omega) (fun k hk K2 hK2=>?_) (fun K2=>by dsimp only;exact Ok.n (by omega) (Ok.s rfl))
   try dsimp only
   refine Ok.p (by omega) (Ok.atn hk (Ok.oe (QtB h hb (ht.step _ (Qk hk))) (Ok.n (by simp) ?_)))
   try dsimp only
   rw[Qa (by omega)];exact hK2
  ·try dsimp only
   rw[Qa (by omega)];exact hK
theorem oin{fu:Nat}{x lo hi:Int}:Xu fu x lo hi=some (inV x lo hi):=by
 unfold Xu inV
 by_cases h1:lo≤x<;>by_cases h2:x≤hi<;>simp[cd,AM.cnd,h1,h2]
theorem Qtx{L:List Int}(h:QlH L 256):QdC 1000 L=some true:=by
 have hl:=h.len
 refine Ok.eq ?_
 unfold QdC
 refine Ok.run L.length (fun i=>((L,L,((L.length:Nat):Int),(i:Int),()),())) rfl (by omega) (fun i hi k hk=>?_) (fun k=>by dsimp only;exact Ok.n (by omega) (Ok.s (decide_eq_true (by omega))))
 try dsimp only
 have hx:=h.fit _ (Qk hi)
 have hno:(L.take i).contains (nth L i)=false:=by
  cases hc:(L.take i).contains (nth L i)with
  |false=>rfl
  |true=>
   have:=Qhv hi hc
   rw[decide_eq_true h.nodup]at this;simp at this
 refine Ok.p (by omega) (Ok.j (Ok.atn hi (Ok.oe oin (Ok.bt (QL.2 hx) (Ok.natn (Ok.lec (by omega) (Ok.oe (QbM (by simp;omega)) (Ok.bf hno ?_))))))))
 try dsimp only
 rw[Qa (by omega)];exact hk
structure DelC (p0:List D.Call) (q:D.Call→Bool) (w j:Nat) (a:List D.Call):Prop where
 len:a.length=p0.length
 wj:w≤j∧j≤p0.length
 done:a.take w=(p0.take j).filter q
 rest:∀k,j≤k→nth a k=nth p0 k
theorem Qic{L:List D.Call}{q:D.Call→Bool}{i:Nat}(hi:i≤L.length)(h:∀j,j<i→q (nth L j)=true):(L.take i).filter q=L.take i:=by
 refine List.filter_eq_self.2 fun x hx=>?_
 obtain⟨k,hk,rfl⟩:=List.getElem_of_mem hx
 rw[List.length_take]at hk
 have:=h k (by omega)
 simpa [nth,List.getD_eq_getElem?_getD,List.getElem?_eq_getElem (show k<L.length by omega)]using this
theorem QoU{L:List D.Call}{j k:Nat}{x:D.Call}(hj:j<L.length):nth (L.set j x) k=if k=j then x else nth L k:=by
 by_cases e:k=j
 ·subst e;rw[if_pos rfl,Xp hj]
 ·rw[if_neg e,U0 e]
theorem Qpp{p0:List D.Call}{q:D.Call→Bool}{i:Nat}(hi:i<p0.length)(h:∀j,j<i→q (nth p0 j)=true)(hx:q (nth p0 i)=false):DelC p0 q i (i+1) p0:=by
 refine⟨rfl,by omega,?_,fun k _=>rfl⟩
 rw[←QG hi,List.filter_append,Qic (by omega) h]
 simp[hx]
theorem QqS{p0 a:List D.Call}{q:D.Call→Bool}{w j:Nat}(h:DelC p0 q w j a)(hj:j<p0.length)(hx:q (nth a j)=true):DelC p0 q (w+1) (j+1) (a.set w (nth a j)):=by
 have h1:=h.wj
 have h2:=h.len
 refine⟨by simp[h.len],by omega,?_,fun k hk=>?_⟩
 ·rw[h.rest j (Nat.le_refl _)]at hx ⊢
  rw[←QG hj,List.filter_append,←h.done,←QG (l:=a.set w (nth p0 j)) (by simp;omega),QoU (by omega),if_pos rfl,List.take_set_of_le (by omega)]
  simp[hx]
 ·rw[QoU (by omega),if_neg (by omega)];exact h.rest k (by omega)
theorem QqT{p0 a:List D.Call}{q:D.Call→Bool}{w j:Nat}(h:DelC p0 q w j a)(hj:j<p0.length)(hx:q (nth a j)=false):DelC p0 q w (j+1) a:=by
 have h1:=h.wj
 refine⟨h.len,by omega,?_,fun k hk=>h.rest k (by omega)⟩
 rw[h.rest j (Nat.le_refl _)]at hx
 rw[←QG hj,List.filter_append,←h.done]
 simp[hx]
theorem QrA{x:D.Call}:Vm 1000 x p=some (decide (x.Page≠p.ID)):=by
 unfold Vm
 rw[Wc]
theorem Qvd{L:List D.Call}(hl:L.length≤900):Ok (QN 1000 L p) fun r=>List.drop r.1 (List.take r.2.1 r.2.2)=ownC p.ID L:=by
 have hown:∀{x:D.Call},decide (x.Page≠p.ID)=!(decide (x.Page=p.ID)):=fun{x}=>by by_cases e:x.Page=p.ID<;>simp[e]
 unfold QN
 have hidx:Ok (QQ 1000 L p) fun r=>(r = -1∧(∀j,j<L.length→decide ((nth L j).Page=p.ID)=true))∨∃i:Nat,r=(i:Int)∧i<L.length∧decide ((nth L i).Page=p.ID)=false∧∀j,j<i→decide ((nth L j).Page=p.ID)=true:=by
  unfold QQ
  refine Ok.scan2 L.length (fun i=>(((L.length:Nat):Int),(i:Int),())) (fun i=>!decide ((nth L i).Page=p.ID)) rfl (by omega) (fun i hi hq hj k=>?_) (fun i hi hq k hk=>?_) (fun hq k=>?_)
  ·refine Ok.p (by omega) (Ok.natn (Ok.lt hi (Ok.get hi (Ok.oe QrA ?_))))
   rw[hown]
   exact Ok.bt hq (Ok.sameC (Ok.sameC (Ok.s (.inr ⟨i,rfl,hi,by simpa using hq,fun j hj'=>by simpa using hj j hj'⟩))))
  ·refine Ok.p (by omega) (Ok.natn (Ok.lt hi (Ok.get hi (Ok.oe QrA ?_))))
   rw[hown]
   refine Ok.bf hq ?_
   try dsimp only
   rw[Qa (by omega)];exact hk
  ·exact Ok.n (by omega) (Ok.sameC (Ok.sameC (Ok.s (.inl ⟨rfl,fun j hj=>by simpa using hq j hj⟩))))
 refine Ok.opt hidx fun r hr=>?_
 rcases hr with⟨rfl,hall⟩|⟨i,rfl,hi,hx,hj⟩
 ·refine Ok.p rfl (Ok.sameC (Ok.s ?_))
  try dsimp only
  have:=Qic (q:=fun z=>decide (z.Page=p.ID)) (Nat.le_refl _) hall
  rw[List.take_length]at this ⊢
  rw[List.drop_zero]
  exact this.symm
 ·refine Ok.n (by omega) ?_
  try dsimp only
  rw[Qa (by omega)]
  refine Ok.loop (fun q x=>∃(w j:Nat) (a:List D.Call),x=((((w:Nat):Int),((j:Nat):Int),()),p,a,())∧DelC L (fun z=>decide (z.Page=p.ID)) w j a∧q=L.length - j) (m:=L.length - (i+1)) (by omega) ⟨i,i+1,L,rfl,Qpp hi hj hx,rfl⟩ ?_
  rintro q x ⟨w,j,a,rfl,hinv,rfl⟩ K hK
  have h1:=hinv.wj
  have h2:=hinv.len
  try dsimp only
  refine Ok.ite (fun hlt=>?_) (fun hge=>?_)
  ·refine Ok.j (Ok.natn (Ok.lt (by omega) (Ok.get (by omega) (Ok.oe QrA ?_))))
   rw[hown,Bool.not_not]
   refine Ok.cnd (fun hq=>?_) (fun hq=>?_)
   ·refine Ok.natn (Ok.lt (by omega) (Ok.get (by omega) ?_))
    try dsimp only
    rw[Qa (by omega),Qa (by omega)]
    exact hK _ _ (by omega) ⟨w+1,j+1,_,rfl,QqS hinv (by omega) hq,rfl⟩
   ·try dsimp only
    rw[Qa (by omega)]
    exact hK _ _ (by omega) ⟨w,j+1,a,rfl,QqT hinv (by omega) hq,rfl⟩
  ·have ej:j=L.length:=by omega
   have hd:=hinv.done
   rw[ej,List.take_length]at hd
   refine Ok.natn (Ok.lec (by omega) (Ok.lec (by omega) (Ok.lec (by omega) (Ok.natn (Ok.lec (by simp;omega) (Ok.sameC (Ok.s ?_)))))))
   try dsimp only
   rw[List.drop_zero,List.append_assoc,List.take_append_of_le_length (by simp;omega),List.take_take,Nat.min_self]
   exact hd
theorem QjS{α:Type}[Inhabited α]{A B:List α}{z:Nat}:nth (A++B) (A.length+z)=nth B z:=by
 simp[nth,List.getD_eq_getElem?_getD,List.getElem?_append_right]
theorem QqL{C:List D.Call}{f:Int}(hpl:Qy p)(hC:C.length≤900)(h1:C.map unf=QF p.ID 0 p.Starts)(h2:C.Pairwise fun x y=>x.Fence≤y.Fence)(h3:∀c∈C,0≤c.Fence∧c.Fence≤f):Qb0 1000 p C f=some true:=by
 have hst:=hpl.st
 have hlen:C.length=(QF p.ID 0 p.Starts).length:=by rw[←h1,List.length_map]
 have hnth:∀k,k<C.length→unf (nth C k)=nth (QF p.ID 0 p.Starts) k:=fun k hk=>by
  rw[←h1]
  simp[nth,List.getD_eq_getElem?_getD,List.getElem?_eq_getElem hk]
 obtain⟨lf,hlf⟩:∃lf:Nat→Int,∀k,lf k=if k=0 then 0 else(nth C (k - 1)).Fence:=⟨fun k=>_,fun k=>rfl⟩
 have hlow:∀k,k<C.length→lf k≤(nth C k).Fence∧(nth C k).Fence≤f:=fun k hk=>by
  have hf:=h3 _ (Qk hk)
  refine⟨?_,hf.2⟩
  rw[hlf]
  split
  ·exact hf.1
  ·have:=List.pairwise_iff_getElem.1 h2 (k - 1) k (by omega) hk (by omega)
   simpa [nth,List.getD_eq_getElem?_getD,List.getElem?_eq_getElem hk,List.getElem?_eq_getElem (show k - 1<C.length by omega)]using this
 refine Ok.eq ?_
 unfold Qb0
 refine Ok.run p.Starts.length (fun j=>((C,f,(((QF p.ID 0 (p.Starts.take j)).length:Nat):Int),lf (QF p.ID 0 (p.Starts.take j)).length,p.Starts,((p.Starts.length:Nat):Int),(j:Int),()),p,())) (by rw[hlf];rfl) (by omega) (fun j hj k hk=>?_) (fun k=>?_)
 ·try dsimp only
  refine Ok.p (by omega) (Ok.atn hj ?_)
  have hts:p.Starts.take (j+1)=p.Starts.take j++[nth p.Starts j]:=(QG hj).symm
  have hsp:p.Starts=p.Starts.take j++(nth p.Starts j::p.Starts.drop (j+1)):=by rw[←QcM hj,List.take_append_drop]
  have hpe:=(hpl.pe _ (Qk hj)).1
  obtain⟨s,hs⟩:∃s,nth p.Starts j=s:=⟨_,rfl⟩
  rw[hs]at hts hsp hpe ⊢
  obtain⟨base,hbase⟩:∃base,(QF p.ID 0 (p.Starts.take j)).length=base:=⟨_,rfl⟩
  have hall:QF p.ID 0 p.Starts=QF p.ID 0 (p.Starts.take j)++(s.People.map (fun x=>D.Call.mk p.ID s.K s.At x 0)++QF p.ID 0 (p.Starts.drop (j+1))):=by
   conv=>lhs;rw[hsp]
   rw[Qa1]
   rfl
  have hbl:base+s.People.length≤C.length:=by rw[hlen,hall,←hbase];simp
  have hat:∀z,z<s.People.length→nth (QF p.ID 0 p.Starts) (base+z)=D.Call.mk p.ID s.K s.At (nth s.People z) 0:=fun z hz=>by
   rw[hall,←hbase,QjS,QcY (by simpa using hz)]
   simp[nth,List.getD_eq_getElem?_getD,hz]
  try dsimp only at hk
  rw[hts,QcH,List.length_append,List.length_map,hbase]at hk
  rw[hbase]
  refine Ok.run s.People.length (fun z=>((C,f,((base+z:Nat):Int),lf (base+z),p.Starts,((p.Starts.length:Nat):Int),(j:Int),s.People,((s.People.length:Nat):Int),(z:Int),()),p,s,())) rfl (by omega) (fun z hz k2 hk2=>?_) (fun k2=>?_)
  ·try dsimp only
   have hlt:base+z<C.length:=by omega
   have hlw:=hlow _ hlt
   have hun:=hnth _ hlt
   rw[hat z hz]at hun
   refine Ok.p (by omega) (Ok.atn hz (Ok.j (Ok.n (by omega) (Ok.atn hlt (Ok.oe oin (Ok.bt (QL.2 hlw) (Ok.atn hlt (Ok.atn hlt (Ok.n ?_ ?_)))))))))
   ·obtain⟨cc,hcc⟩:∃cc,nth C (base+z)=cc:=⟨_,rfl⟩
    rw[hcc]at hun ⊢
    obtain⟨c1,c2,c3,c4,c5⟩:=cc
    simp only[unf,D.Call.mk.injEq]at hun
    obtain⟨u1,u2,u3,u4,_⟩:=hun
    simp[u1,u2,u3,u4]
   ·try dsimp only
    refine Ok.atn hlt ?_
    try dsimp only
    rw[Qa (by omega),Qa (by omega)]
    try dsimp only at hk2
    rw[hlf (base+(z+1)),if_neg (by omega),show base+(z+1) - 1=base+z by omega]at hk2
    exact hk2
  ·try dsimp only
   refine Ok.n (by omega) ?_
   try dsimp only
   rw[Qa (by omega)]
   exact hk
 ·try dsimp only
  rw[List.take_length]
  exact Ok.n (by omega) (Ok.s (decide_eq_true (by rw[hlen])))
theorem Ql0{L:List D.Call}(h:L.length≤1000):Xj 1000 L=some L:=by unfold Xj;exact Xa (by omega)
theorem QkJ(h:Qd M n l)(hpg:l.Pages.length≤9):Qag 1000 l=some true:=by
 have htop:=h.top;have hnow:=h.now;have how:=h.owner;have hfe:=h.fence;have hse:=h.seen.len;have hcl:=h.callsLe hpg
 refine Ok.eq ?_
 unfold Qag
 refine Ok.j (Ok.oe oin (Ok.bt (QL.2 (by omega)) (Ok.n (by omega) (Ok.oe oin (Ok.bt (QL.2 how) (Ok.oe oin (Ok.bt (QL.2 (by omega)) (Ok.oe (Qtx h.seen) (Ok.t ?_)))))))))
 try dsimp only
 refine Ok.oe (QsI h.cfg h.small h.book) (Ok.p rfl (Ok.oe (v:=true) ?_ (Ok.t (Ok.s rfl))))
 refine Ok.eq ?_
 unfold QeA
 have hsle:∀i,sumC (l.Pages.take i) (fun p=>(ownC p.ID l.Calls).length)≤468*i:=fun i=>by
  have:=Qon (l:=l.Pages.take i) (f:=fun p=>(ownC p.ID l.Calls).length) (m:=468) fun p hp=>by
   show(ownC p.ID l.Calls).length≤468
   unfold ownC
   exact Nat.le_trans (List.length_filter_le _ _) hcl
  refine Nat.le_trans this (Nat.mul_le_mul_left _ ?_)
  simp only[List.length_take];omega
 refine Ok.run l.Pages.length (fun i=>((((sumC (l.Pages.take i) (fun p=>(ownC p.ID l.Calls).length):Nat):Int),l.Pages,((l.Pages.length:Nat):Int),(i:Int),()),l,())) rfl (by omega) (fun i hi k hk=>?_) (fun k=>?_)
 ·try dsimp only
  have hm:=Qk hi
  obtain⟨g1,g2⟩:=h.page _ hm
  have gt:=h.told _ hm
  have hs1:=hsle i
  refine Ok.p (by omega) (Ok.atn hi ?_)
  have hasc:0<i→(nth l.Pages (i - 1)).ID<(nth l.Pages i).ID:=fun h0=>QbL h.asc (by omega) hi
  try dsimp only at hk
  rw[←QG hi,Qnf]at hk
  obtain⟨p,hp⟩:∃p,nth l.Pages i=p:=⟨_,rfl⟩
  rw[hp]at g1 g2 gt hk hasc ⊢
  have hpl:=g1.plen h.book
  have hol:(ownC p.ID l.Calls).length≤468:=by unfold ownC;exact Nat.le_trans (List.length_filter_le _ _) hcl
  refine Ok.join (fun y=>y=((((sumC (l.Pages.take i) (fun p=>(ownC p.ID l.Calls).length):Nat):Int),l.Pages,((l.Pages.length:Nat):Int),(i:Int),()),l,p,())) (fun y hy=>?_) (fun J hJ=>?_)
  ·subst hy
   try dsimp only
   refine Ok.oe (Ql0 (by omega)) (Ok.opt (Qvd (p:=p) (by omega)) fun⟨r0,r1,r2⟩ hr=>?_)
   try dsimp only at hr ⊢
   rw[hr]
   refine Ok.oe (QqL hpl (by omega) gt.same gt.up gt.fit) (Ok.f ?_)
   try dsimp only
   rw[Qa (by omega),Qc (by omega)]
   exact hk
  ·have tail:Ok (optc (Z6 1000 l.Book p) fun a13=>AM.cnd a13 (AM.cnd (decide (l.Now<p.Last)) (some false) (J ((((sumC (l.Pages.take i) (fun p=>(ownC p.ID l.Calls).length):Nat):Int),l.Pages,((l.Pages.length:Nat):Int),(i:Int),()),l,p,()))) (some false)) (·=true):=
    Ok.oe (Qha h.book hpl) (Ok.bt (g1.check h.book) (Ok.n (by omega) (hJ _ rfl)))
   by_cases h0:0<i
   ·refine Ok.p (by omega) ?_
    rw[show IntKind.wrap .i64 ((i:Int) - 1)=((i - 1:Nat):Int)by rw[Qc (by omega)];omega]
    have:=hasc h0
    exact Ok.atn (by omega) (Ok.n (by omega) tail)
   ·exact Ok.n (by omega) tail
 ·try dsimp only
  rw[List.take_length,h.callsN]
  exact Ok.n (by omega) (Ok.s (decide_eq_true rfl))
end
end Go.Proofs.YtgokjdfkpnkekaaGreat
/-
  Plain laws of operations on ledgers: takeovers and proposed starts change nothing in the long run.
-/
namespace Go.Proofs.YtgokjdfkpnkekaaGreat
open Go AM
attribute [local irreducible] dueV stepV runV QR answerV
section
variable {n:Nat} {c:D.Config} {b:D.Book} {p q:D.Page} {now M:Int} {l x:D.Ledger} {i:Nat} {o:D.Op}
theorem Qk0{id:Int}:∀{L K:List D.Page},L.map D.Page.ID=K.map D.Page.ID→posV id L=posV id K
 |[],[],_=>rfl
 |[],_::_,h=>by simp at h
 |_::_,[],h=>by simp at h
 |y::r,z::s,h=>by
  simp only[List.map_cons,List.cons.injEq]at h
  simp only[posV,h.1,Qk0 h.2]
theorem QtX{L K:List D.Page}(hl:L.length=K.length)(h:∀i,i<L.length→(nth L i).ID=(nth K i).ID):L.map D.Page.ID=K.map D.Page.ID:=by
 refine List.ext_getElem (by simpa using hl) fun i h1 h2=>?_
 simp only[List.length_map]at h1 h2
 have:=h i h1
 simpa [nth,List.getD_eq_getElem?_getD,List.getElem?_eq_getElem h1,List.getElem?_eq_getElem h2]using this
theorem QsY{id:Int}{L K:List D.Page}(hl:L.length=K.length)(h:∀i,i<L.length→(nth L i).ID=(nth K i).ID):hasV id L=hasV id K:=by
 have e:=Qk0 (id:=id) (QtX hl h)
 unfold hasV
 rw[e,hl]
 by_cases g:posV id K<K.length
 ·rw[h _ (by omega)]
 ·have:∀q:Prop,¬(posV id K<K.length∧q):=fun q hq=>g hq.1
  rw[decide_eq_false (this _),decide_eq_false (this _)]
theorem QoW{L:List D.Page}{p:D.Page}{j:Nat}:nth (insP L p) j=if j<posV p.ID L then nth L j else if j=posV p.ID L then p else nth L (j - 1):=by
 have hp:=Qa5 (id:=p.ID) (l:=L)
 have htl:(L.take (posV p.ID L)).length=posV p.ID L:=by simp;omega
 unfold insP
 split
 ·rename_i g
  rw[QcY (by omega),QkP g]
 ·rename_i g
  obtain⟨k,rfl⟩:∃k,j=(L.take (posV p.ID L)).length+k:=⟨j - posV p.ID L,by omega⟩
  rw[QjS,htl]
  cases k with
  |zero=>rw[if_pos (by omega),QbX]
  |succ k=>
   rw[if_neg (by omega),UO,QoV]
   congr 1
structure Alike (M:Int) (n:Nat) (l x:D.Ledger):Prop where
 li:Qd M n l
 xi:Qd M n x
 cfg:x.Config=l.Config
 book:x.Book=l.Book
 now:x.Now≤l.Now
 len:x.Pages.length=l.Pages.length
 page:∀i,i<l.Pages.length→(nth x.Pages i).ID=(nth l.Pages i).ID∧(runV l.Config l.Book (nth x.Pages i) l.Now).1=(runV l.Config l.Book (nth l.Pages i) l.Now).1
theorem Alike.has(h:Alike M n l x){id:Int}:hasV id x.Pages=hasV id l.Pages∧posV id x.Pages=posV id l.Pages:=by
 have e:∀i,i<x.Pages.length→(nth x.Pages i).ID=(nth l.Pages i).ID:=fun i hi=>(h.page i (by rw[←h.len];exact hi)).1
 exact⟨QsY h.len e,Qk0 (QtX h.len e)⟩
theorem Alike.wide(h:Alike M n l x)(hn:n<48):Alike M (n+1) l x:=⟨h.li.wide hn,h.xi.wide hn,h.cfg,h.book,h.now,h.len,h.page⟩
theorem QoY(hk:o.Kind=5):(opV l o).1.Pages=(Za l l.Pages.length).Pages∧(opV l o).1.Book=l.Book∧(opV l o).1.Config=(if 0≤o.Schedule∧o.Schedule<2 then QgV l.Config o.Schedule o.Edit else l.Config):=by
 unfold opV
 rw[if_neg (by omega),if_neg (by omega),if_neg (by omega),if_neg (by omega)]
 split
 ·exact⟨rfl,ZS.2.2.1,rfl⟩
 ·exact⟨rfl,ZS.2.2.1,ZS.2.1⟩
theorem Alike.runL(h:Alike M n l x)(hi:i<l.Pages.length):Alike M n (runI l i) x:=by
 obtain⟨k1,k2,k3,k4,k5,k6,k7⟩:=YZ (l:=l) (i:=i)
 refine⟨h.li.run hi,h.xi,by rw[k2];exact h.cfg,by rw[k3];exact h.book,by rw[k1];exact h.now,by rw[k7];exact h.len,fun j hj=>?_⟩
 rw[k7]at hj
 rw[k1,k2,k3]
 by_cases e:j=i
 ·subst e
  refine⟨by rw[Qoh h.li hi];exact(h.page j hj).1,?_⟩
  rw[Qan h.li hi,if_pos rfl,Qj5 (c:=l.Config) h.li.book QT.step (Int.le_refl _) (h.li.at hi).1]
  exact(h.page j hj).2
 ·rw[Qan h.li hi,if_neg e]
  exact h.page j hj
theorem Alike.runR(h:Alike M n l x)(hi:i<l.Pages.length)(hnow:x.Now=l.Now):Alike M n l (runI x i):=by
 obtain⟨k1,k2,k3,k4,k5,k6,k7⟩:=YZ (l:=x) (i:=i)
 have hx:i<x.Pages.length:=by rw[h.len];exact hi
 refine⟨h.li,h.xi.run hx,by rw[k2];exact h.cfg,by rw[k3];exact h.book,by rw[k1];exact h.now,by rw[k7];exact h.len,fun j hj=>?_⟩
 by_cases e:j=i
 ·subst e
  refine⟨by rw[Qoh h.xi hx];exact(h.page j hj).1,?_⟩
  have hq:QM QT M l.Book (nth x.Pages j):=by
   have:=(h.xi.at hx).1
   rw[h.book]at this;exact this
  rw[Qan h.xi hx,if_pos rfl,h.cfg,h.book,hnow,Qj5 (c:=l.Config) h.li.book QT.step (Int.le_refl _) hq]
  exact(h.page j hj).2
 ·rw[Qan h.xi hx,if_neg e]
  exact h.page j hj
theorem Qhj{L:List D.Page}:(insP L p).length=L.length+1:=by
 have:=Qa5 (id:=p.ID) (l:=L)
 unfold insP;rw[List.length_append,List.length_cons,List.length_take,List.length_drop];omega
theorem Alike.open(h:Alike M n l x)(hn:n<48)(ho:OpIn o)(hk:o.Kind=1)(hnow:x.Now=l.Now):Alike M (n+1) (opV l o).1 (opV x o).1:=by
 have hw:=h.wide hn
 obtain⟨e1,e2⟩:=h.has (id:=o.Page)
 have same:∀e:Int,opV l o=(l,e)→opV x o=(x,e)→Alike M (n+1) (opV l o).1 (opV x o).1:=fun e g1 g2=>by rw[g1,g2];exact hw
 by_cases g1:hasV o.Page l.Pages=true
 ·exact same 4 (by unfold opV;rw[if_pos hk,if_pos g1]) (by unfold opV;rw[if_pos hk,e1,if_pos g1])
 by_cases g2:l.Pages.length=64
 ·exact same 5 (by unfold opV;rw[if_pos hk,if_neg g1,if_pos g2]) (by unfold opV;rw[if_pos hk,e1,if_neg g1,h.len,if_pos g2])
 by_cases g3:o.Page<1
 ·exact same 1 (by unfold opV;rw[if_pos hk,if_neg g1,if_neg g2,if_pos g3]) (by unfold opV;rw[if_pos hk,e1,if_neg g1,h.len,if_neg g2,if_pos g3])
 by_cases g4:0≤o.Policy∧o.Policy<(l.Book.Policies.length:Int)
 case neg=>exact same 3 (by unfold opV;rw[if_pos hk,if_neg g1,if_neg g2,if_neg g3,if_neg g4]) (by unfold opV;rw[if_pos hk,e1,if_neg g1,h.len,if_neg g2,if_neg g3,h.book,if_neg g4])
 have f1:opV l o=(runI { l with Pages:=insP l.Pages (newP o.Page o.Policy l.Now) } (posV o.Page l.Pages),0):=by unfold opV;rw[if_pos hk,if_neg g1,if_neg g2,if_neg g3,if_pos g4]
 have f2:opV x o=(runI { x with Pages:=insP x.Pages (newP o.Page o.Policy l.Now) } (posV o.Page l.Pages),0):=by unfold opV;rw[if_pos hk,e1,if_neg g1,h.len,if_neg g2,if_neg g3,h.book,if_pos g4,e2,hnow]
 have hlen:=h.li.len
 obtain⟨i1,i2,i3⟩:=h.li.open (o:=o) (by simpa using g1) ⟨by omega,ho.page.2⟩ g4 (by omega)
 have hx4:0≤o.Policy∧o.Policy<(x.Book.Policies.length:Int):=by rw[h.book];exact g4
 obtain⟨j1,j2,j3⟩:=h.xi.open (o:=o) (by rw[e1];simpa using g1) ⟨by omega,ho.page.2⟩ hx4 (by rw[h.len];omega)
 have eP:newP o.Page o.Policy x.Now=newP o.Page o.Policy l.Now:=by rw[hnow]
 rw[eP]at j1
 have hP:(newP o.Page o.Policy l.Now).ID=o.Page:=rfl
 have hA:Alike M n { l with Pages:=insP l.Pages (newP o.Page o.Policy l.Now) } { x with Pages:=insP x.Pages (newP o.Page o.Policy l.Now) }:=by
  refine⟨i1,j1,h.cfg,h.book,h.now,by show(insP _ _).length=(insP _ _).length;rw[Qhj,Qhj,h.len],fun i hi=>?_⟩
  replace hi:i<l.Pages.length+1:=by have:i<(insP l.Pages (newP o.Page o.Policy l.Now)).length:=hi;rw[Qhj]at this;exact this
  show(nth (insP x.Pages _) i).ID=(nth (insP l.Pages _) i).ID∧(runV l.Config l.Book (nth (insP x.Pages _) i) l.Now).1=(runV l.Config l.Book (nth (insP l.Pages _) i) l.Now).1
  have hpos:=Qa5 (id:=o.Page) (l:=l.Pages)
  rw[QoW,QoW,hP,e2]
  by_cases q1:i<posV o.Page l.Pages
  ·rw[if_pos q1,if_pos q1];exact h.page i (by omega)
  ·rw[if_neg q1,if_neg q1]
   by_cases q2:i=posV o.Page l.Pages
   ·rw[if_pos q2,if_pos q2];exact⟨rfl,rfl⟩
   ·rw[if_neg q2,if_neg q2];exact h.page (i - 1) (by omega)
 have hB:=hA.runR (i:=posV o.Page l.Pages) i2 hnow
 have hC:=hB.runL (i:=posV o.Page l.Pages) i2
 rw[f1,f2]
 exact hC.wide hn
end
end Go.Proofs.YtgokjdfkpnkekaaGreat
/-
  Plain laws of operations on ledgers: an owner's starts drive all that waits.
-/
namespace Go.Proofs.YtgokjdfkpnkekaaGreat
open Go AM
attribute [local irreducible] dueV stepV runV QR answerV
section
variable {n:Nat} {c:D.Config} {b:D.Book} {p q:D.Page} {now M:Int} {l x:D.Ledger} {i:Nat} {o:D.Op}
def Qrq(p:D.Page):Int:=if p.State=2 then -1 else p.Next
theorem QpT(h:Qd M n l)(hi:i<l.Pages.length):(runI l i).Pages=l.Pages.set i (runV l.Config l.Book (nth l.Pages i) l.Now).1∧Xm (nth (runI l i).Pages i) l.Now=false:=by
 have e:(runI l i).Pages=l.Pages.set i (runV l.Config l.Book (nth l.Pages i) l.Now).1:=by rw[h.runEq hi];rfl
 refine⟨e,?_⟩
 rw[e,Xp hi]
 exact(QaX h.book QT.step (h.at hi).1).2.2
def Qsi(l:D.Ledger)(now:Int):List Nat:=(List.range l.Pages.length).filter fun i=>Xm (nth l.Pages i) now
theorem Qsj{j:Nat}:j∈Qsi l now↔j<l.Pages.length∧Xm (nth l.Pages j) now=true:=by
 unfold Qsi;rw[List.mem_filter,List.mem_range]
structure Driven (M:Int) (n:Nat) (l:D.Ledger) (now:Int) (k:Nat) (x:D.Ledger):Prop where
 inv:Qd M n x
 time:x.Now≤now∧(0<k→x.Now=now)
 len:x.Pages.length=l.Pages.length
 cfg:x.Config=l.Config∧x.Book=l.Book∧x.Owner=l.Owner∧x.Fence=l.Fence
 page:∀j,j<l.Pages.length→nth x.Pages j=if j∈(Qsi l now).take k then(runV l.Config l.Book (nth l.Pages j) now).1 else nth l.Pages j
theorem Driven.done(h:Driven M n l now (Qsi l now).length x)(hl:Qd M n l){j:Nat}(hj:j<x.Pages.length):Xm (nth x.Pages j) now=false:=by
 rw[h.len]at hj
 rw[h.page j hj,List.take_length]
 split
 ·exact(QaX hl.book QT.step (hl.at hj).1).2.2
 ·rename_i g
  cases hw:Xm (nth l.Pages j) now with
  |false=>rfl
  |true=>exact absurd (Qsj.2 ⟨hj,hw⟩) g
def Qwf(L:List D.Page)(t:Int):List D.Start:=(L.filter fun p=>Xm p t).map fun p=>⟨p.ID,(dueV p).1,[]⟩
theorem Driven.none(h:Driven M n l now (Qsi l now).length x)(hl:Qd M n l):Qwf x.Pages now=[]:=by
 unfold Qwf
 rw[List.map_eq_nil_iff,List.filter_eq_nil_iff]
 intro p hp
 obtain⟨j,hj,rfl⟩:=QkM hp
 rw[h.done hl hj];simp
end
end Go.Proofs.YtgokjdfkpnkekaaGreat
/-
  Lists of operations as they are made: one after the other, with numbers and times that ascend; what they make of a new ledger.
-/
namespace Go.Proofs.YtgokjdfkpnkekaaGreat
open Go AM
attribute [local irreducible] dueV stepV runV QR answerV
section
variable {n:Nat} {c:D.Config} {b:D.Book} {p q:D.Page} {now M:Int} {l x:D.Ledger} {i:Nat} {o:D.Op} {L:List Int} {d:D.Dice} {ops:List D.Op}
def DecL(l:D.Ledger):Prop:=∀p∈l.Pages,PgX 1000000 p
theorem Qni{a:D.Answer}(h:YA a=true):(1≤a.ID∧a.ID≤1000000)∧0≤a.Page∧a.Page≤999999:=by
 unfold YA at h
 simp only[bae,QL]at h
 have h1:=h.1.1.1.1.1
 have h2:=h.1.1.1.1.2
 omega
theorem DecL.set(h:DecL l)(hp:PgX 1000000 p){L:List D.Page}(e:L=l.Pages.set i p):∀q∈L,PgX 1000000 q:=fun q hq=>by
 rw[e]at hq
 rcases List.mem_or_eq_of_mem_set hq with g|rfl
 ·exact h q g
 ·exact hp
theorem DecL.run(h:DecL l)(hl:Qd M n l)(hi:i<l.Pages.length):DecL (runI l i):=
 h.set ((h _ (Qk hi)).run hl.book QT.step (hl.at hi).1) (QpT hl hi).1
theorem DecL.runs(h:DecL l)(hl:Qd M n l):∀{k:Nat},k≤l.Pages.length→DecL (Za l k)
 |0,_=>h
 |k+1,hk=>(h.runs hl (by omega)).run (hl.runs (by omega)) (by rw[(ZS (l:=l) (k:=k)).2.2.2.2.2.2];exact hk)
theorem Qsw{a:D.Answer}(hb:QJ b)(h:QM QT M b p)(hd:PgX 1000000 p)(hv:YA a=true)(ha:a.Person<4):PgX 1000000 (ansP c b p a now):=by
 have hr:PgX 1000000 (runV c b p now).1:=hd.run hb QT.step h
 unfold ansP
 split
 ·rename_i g
  rcases QaD g with e|e
  ·rw[e];exact hr
  ·rw[e];exact hr.answer ha (Qni hv).1
 ·exact hr
theorem DecL.op(h:DecL l)(hl:Qd M n l)(ho:OpIn o)(hlt:l.Pages.length<64)(ha:o.Kind=4→o.Answer.Person<4):DecL (opV l o).1:=by
 have hk5:=ho.kind
 by_cases k1:o.Kind=1
 ·unfold opV
  rw[if_pos k1]
  split
  ·exact h
  ·rename_i g
   split
   ·exact h
   ·split
    ·exact h
    ·split
     ·rename_i g1 g2 g3
      obtain⟨i1,i2,i3⟩:=hl.open (o:=o) (by simpa using g) ⟨by omega,ho.page.2⟩ g3 hlt
      refine DecL.run (fun q hq=>?_) i1 i2
      rcases Qfb.1 hq with rfl|hq
      ·exact PgX.new
      ·exact h q hq
     ·exact h
 by_cases k2:o.Kind=2
 ·unfold opV
  rw[if_neg k1,if_pos k2]
  split<;>exact h
 by_cases k3:o.Kind=3
 ·unfold opV
  rw[if_neg k1,if_neg k2,if_pos k3]
  split
  ·split
   ·rename_i g
    generalize (if (nth l.Pages (posV o.Page l.Pages)).State=2 then(-1:Int)else(nth l.Pages (posV o.Page l.Pages)).Next)=kk
    split
    ·exact h.run hl (VO g).1
    ·exact h
   ·exact h
  ·exact h
 by_cases k4:o.Kind=4
 ·obtain⟨_,_,e⟩:=QpB hl k4
  show ∀q∈(opV l o).1.Pages,_
  rw[e]
  split
  ·rename_i g
   have hi:=(VO g).1
   exact h.set (Qsw hl.book (hl.at hi).1 (h _ (Qk hi)) (ho.answer k4).1 (ha k4)) rfl
  ·exact h
 ·obtain⟨e,_⟩:=QoY (l:=l) (o:=o) (by omega)
  show ∀q∈(opV l o).1.Pages,_
  rw[e]
  exact h.runs hl (Nat.le_refl _)
theorem DecL.apply(h:DecL l)(hl:Qd M n l)(ho:OpIn o)(ht:max l.Now o.At≤M - 20000)(hs:l.Seen.length<256)(hlt:l.Pages.length<64)(ha:o.Kind=4→o.Answer.Person<4):DecL (Yy l o).1:=by
 cases g:l.Seen.contains o.ID with
 |true=>unfold Yy;rw[if_pos g];exact h
 |false=>rw[Qbd g];exact DecL.op (l:=seeV l o) h (hl.see ho ht g hs) ho hlt ha
def QaH(c:D.Config)(b:D.Book):D.Ledger:={ Now:=0,Config:=c,Book:=b,Pages:=[],Owner:=-1,Fence:=0,Seen:=[],Calls:=[] }
def opsV(l:D.Ledger):List D.Op→D.Ledger
 |[]=>l
 |o::r=>opsV (Yy l o).1 r
theorem QoZ:∀{a:List D.Op} {l:D.Ledger} {r:List D.Op},opsV l (a++r)=opsV (opsV l a) r
 |[],_,_=>rfl
 |o::a,l,r=>by simp only[List.cons_append,opsV,QoZ]
theorem QmD:opsV l (ops++[o])=(Yy (opsV l ops) o).1:=by rw[QoZ];rfl
theorem Qrv(h:i<ops.length):opsV l (ops.take (i+1))=(Yy (opsV l (ops.take i)) (nth ops i)).1:=by rw[←QG h,QmD]
structure QgQ (ops:List D.Op):Prop where
 op:∀j,j<ops.length→OpIn (nth ops j)∧(nth ops j).ID=(j:Int)+1∧((nth ops j).Kind=1→1≤(nth ops j).Page∧(nth ops j).Page≤3)∧((nth ops j).Kind=4→(nth ops j).Answer.Person<4)
 at_:∀j,j<ops.length→864000≤(nth ops j).At∧(nth ops j).At≤864000+700*((j:Int)+1)
 up:∀i j,i<j→j<ops.length→(nth ops i).At≤(nth ops j).At
theorem QgQ.nil:QgQ []:=⟨fun j hj=>by simp at hj,fun j hj=>by simp at hj,fun i j _ hj=>by simp at hj⟩
theorem Qfj{α:Type}[Inhabited α]{l:List α}{x:α}{j:Nat}:nth (l++[x]) j=if j<l.length then nth l j else if j=l.length then x else default:=by
 unfold nth
 simp only[List.getD_eq_getElem?_getD,List.getElem?_append]
 by_cases h:j<l.length
 ·rw[if_pos h,if_pos h]
 ·rw[if_neg h,if_neg h]
  by_cases e:j=l.length
  ·subst e;simp
  ·rw[if_neg e]
   have:¬(j - l.length=0):=by omega
   obtain⟨m,hm⟩:∃m,j - l.length=m+1:=⟨j - l.length - 1,by omega⟩
   rw[hm];simp
theorem QgQ.snoc(h:QgQ ops)(ho:OpIn o)(hid:o.ID=(ops.length:Int)+1)(hk:o.Kind=1→1≤o.Page∧o.Page≤3)(hk4:o.Kind=4→o.Answer.Person<4)(h1:864000≤o.At∧o.At≤864000+700*((ops.length:Int)+1))(h2:∀j,j<ops.length→(nth ops j).At≤o.At):QgQ (ops++[o]):=by
 have hl:(ops++[o]).length=ops.length+1:=by simp
 refine⟨fun j hj=>?_,fun j hj=>?_,fun i j hij hj=>?_⟩
 ·rw[hl]at hj
  rw[Qfj]
  by_cases g:j<ops.length
  ·rw[if_pos g];exact h.op j g
  ·obtain rfl:j=ops.length:=by omega
   rw[if_neg g,if_pos rfl];exact⟨ho,hid,hk,hk4⟩
 ·rw[hl]at hj
  rw[Qfj]
  by_cases g:j<ops.length
  ·rw[if_pos g];exact h.at_ j g
  ·obtain rfl:j=ops.length:=by omega
   rw[if_neg g,if_pos rfl];exact h1
 ·rw[hl]at hj
  rw[Qfj,Qfj,if_pos (by omega)]
  by_cases g:j<ops.length
  ·rw[if_pos g];exact h.up i j hij g
  ·obtain rfl:j=ops.length:=by omega
   rw[if_neg g,if_pos rfl];exact h2 i (by omega)
structure Behind (ops:List D.Op) (k:Nat) (l:D.Ledger):Prop where
 made:Qsr k l
 dec:DecL l
 seen:∀x∈l.Seen,x≤(k:Int)
 last:l.Now≤0∨∃j,j<k∧l.Now≤(nth ops j).At
theorem Behind.first(hc:Q1 2 c)(hb:QJ b):Behind ops 0 (QaH c b):=
 ⟨⟨QpA hc hb,fun p hp=>by simp[QaH]at hp,Nat.le_refl _,by simp[QaH]⟩,fun p hp=>by simp[QaH]at hp,fun x hx=>by simp[QaH]at hx,.inl (by simp[QaH])⟩
theorem Behind.fresh{k:Nat}(h:Behind ops k l)(hi:o.ID=(k:Int)+1):l.Seen.contains o.ID=false:=by
 cases hc:l.Seen.contains o.ID with
 |false=>rfl
 |true=>
  have:=h.seen _ (List.contains_iff_mem.1 hc)
  omega
theorem Behind.le{k:Nat}(h:Behind ops k l)(ho:QgQ ops)(hk:k<ops.length):l.Now≤(nth ops k).At:=by
 have:=(ho.at_ k hk).1
 rcases h.last with h|⟨j,h1,h2⟩
 ·omega
 ·have:=ho.up j k h1 hk;omega
theorem Qsr.next{k:Nat}(h:Qsr k l)(hk:k≤11)(ho:OpIn o)(hp:o.Kind=1→o.Page≤3)(ht:o.At≤864000+700*((k:Int)+1)):Qsr (k+1) (Yy l o).1:=by
 have hn:=h.now;have hs:=h.seen
 have hkp:=Qnv (l:=l) (o:=o)
 exact⟨h.inv.apply (by omega) ho (by omega) (by omega),h.ids.apply h.inv ho (by omega) (by omega) hp,by omega,by rcases hkp.2 with e|e<;>omega⟩
theorem Behind.next{k:Nat}(h:Behind ops k l)(ho:QgQ ops)(hk:k<ops.length)(hk9:k≤9):Behind ops (k+1) (Yy l (nth ops k)).1:=by
 obtain⟨g1,g2,g3,g4⟩:=ho.op k hk
 have hnew:=h.fresh g2
 have hat:=(ho.at_ k hk).2;have hnow:=h.made.now;have hsl:=h.made.seen
 have hp3:=h.made.inv.small3 (k:=3) h.made.ids
 refine⟨h.made.next (by omega) g1 (fun e=>(g3 e).2) hat,h.dec.apply h.made.inv g1 (by omega) (by omega) (by omega) g4,fun x hx=>?_,.inr ⟨k,by omega,?_⟩⟩
 ·rw[Qbd hnew,QkQ.2]at hx
  rcases List.mem_append.1 hx with hx|hx
  ·have:=h.seen x hx;omega
  ·rw[List.mem_singleton.1 hx,g2];omega
 ·rw[Qpe hnew]
  have:=h.le ho hk
  omega
theorem Behind.fold(hc:Q1 2 c)(hb:QJ b)(ho:QgQ ops)(h9:ops.length≤9):∀{k:Nat},k≤ops.length→Behind ops k (opsV (QaH c b) (ops.take k))
 |0,_=>by rw[List.take_zero];exact Behind.first hc hb
 |k+1,hk=>by
  rw[Qrv (by omega)]
  exact(Behind.fold hc hb ho h9 (by omega)).next ho (by omega) (by omega)
theorem Qvu{t u:Int}(h:∀q,q<ops.length→(nth ops q).At≤t)(ht:t≤u)(ho:o.At≤u):∀q,q<(ops++[o]).length→(nth (ops++[o]) q).At≤u:=fun q hq=>by
 rw[Qfj]
 by_cases g:q<ops.length
 ·rw[if_pos g];have:=h q g;omega
 ·have:q=ops.length:=by rw[List.length_append]at hq;simp at hq;omega
  rw[if_neg g,if_pos this];exact ho
theorem Qtn:opsV l []=l:=rfl
attribute [local irreducible] opsV Yy opV
theorem QuV{k:Nat}(hL:L.length≤500)(h2:ZH L d)(hc:Q1 2 c)(hb:QJ b)(hk:k≤9):
  Ok (V5 1000 d (QaH c b) (k:Int)) fun r=>ZH L r.2.2∧QgQ r.2.1∧r.2.1.length≤k∧r.1=opsV (QaH c b) r.2.1:=by
 unfold V5 QaH
 refine Ok.loop (fun m x=>x=(((k:Int),864000,1,0,()),d,{ Now:=0,Config:=c,Book:=b,Pages:=[],Owner:=-1,Fence:=0,Seen:=[],Calls:=[] },(0,0,0,()),())) (m:=0) (by omega) rfl ?_
 rintro m x rfl K hK
 try dsimp only
 refine Ok.n (by simp) ?_
 try dsimp only
 rw[Qc (x:=(k:Int)+1) (by omega)]
 refine Ok.opt (nx hL h2 (by omega) (by omega)) fun⟨a11,d12⟩ ⟨h12,l12,u12⟩=>?_
 try dsimp only at h12 l12 u12 ⊢
 refine Ok.loop (fun m x=>∃(j:Nat) (t i:Int) (d:D.Dice) (z:Int×Int×Int×Unit) (ops:List D.Op),x=((t,(j:Int)+1,i,()),d,opsV (QaH c b) ops,z,ops,())∧ZH L d∧QgQ ops∧ops.length=j∧(864000≤t∧t≤864000+700*(j:Int))∧(∀q,q<ops.length→(nth ops q).At≤t)∧0≤i∧(j:Int)+i≤(k:Int)∧m=i.toNat) (m:=a11.toNat) (by omega)
  ⟨0,864000,a11,d12,(0,0,0,()),[],by rw[Qtn];rfl,h12,QgQ.nil,rfl,by omega,fun q hq=>by simp at hq,l12,by omega,rfl⟩ ?_
 rintro m x ⟨j,t,i,d,z,ops,rfl,i1,io,il,i3,iu,i4,i5,rfl⟩ K2 hK2
 obtain⟨z1,z2,z3,⟨⟩⟩:=z
 have hB:=Behind.fold hc hb io (by omega) (Nat.le_refl _)
 rw[List.take_length,il]at hB
 have i2:=hB.made
 obtain⟨l,hl⟩:∃l,opsV (QaH c b) ops=l:=⟨_,rfl⟩
 rw[hl]at hB i2 ⊢
 try dsimp only
 refine Ok.ite (fun hi=>?_) (fun hi=>Ok.s ⟨i1,io,by dsimp only;omega,hl.symm⟩)
 refine Ok.opt (QaK hL i1 (by simp) (by simp)) fun⟨a23,d24⟩ ⟨h24,m24⟩=>?_
 try dsimp only at h24 m24 ⊢
 simp only[List.mem_cons,List.not_mem_nil,or_false]at m24
 try dsimp only
 rw[Qc (x:=t+a23) (by omega)]
 obtain⟨u,hu⟩:∃u,t+a23=u:=⟨_,rfl⟩
 rw[hu]
 have hnow:=i2.now;have hsl:=i2.seen
 refine Ok.opt (Qv3 hL h24 i2.inv i2.ids (by omega) (by omega)) fun⟨o,d26⟩ ⟨h26,ho,e1,e2,e3,e4⟩=>?_
 try dsimp only at h26 ho e1 e2 e3 e4 ⊢
 have hp3:=i2.inv.small3 (k:=3) i2.ids
 have happ:=Qqm i2.inv (by omega) (by omega) ho (by omega) (by omega)
 have hnx:=i2.next (o:=o) (by omega) ho (fun e=>(e3 e).2) (by omega)
 have hp3':=hnx.inv.small3 (k:=3) hnx.ids
 have hio:QgQ (ops++[o]):=io.snoc ho (by rw[e1,il]) e3 e4 (by rw[e2,il];omega) (fun q hq=>by have:=iu q hq;omega)
 have hsn:=Qvu (o:=o) (u:=u) iu (by omega) (by omega)
 have hln:(ops++[o]).length=j+1:=by simp;omega
 clear iu hB
 refine Ok.join (fun y=>y=((u,(j:Int)+2,i,()),d26,opsV (QaH c b) (ops++[o]),(z1,z2,z3,()),o,ops,())) (fun y hy=>?_) (fun J hJ=>?_)
 ·subst hy
  clear happ hnx hp3' hp3 hnow hsl i2 ho e1 e2 e3 e4
  try dsimp only
  rw[Qc (x:=i - 1) (by omega)]
  refine Ok.lec (by simp;omega) (hK2 (i - 1).toNat _ (by omega) ⟨j+1,u,i - 1,d26,(z1,z2,z3,()),ops++[o],?_,h26,hio,hln,?_,hsn,?_,?_,rfl⟩)
  ·simp only[Prod.mk.injEq,and_true,true_and]
   omega
  ·omega
  ·omega
  ·omega
 ·refine Ok.oe happ ?_
  have hf:opsV (QaH c b) (ops++[o])=(Yy l o).1:=by rw[QmD,hl]
  obtain⟨l',e,hle⟩:∃l' e,Yy l o=(l',e):=⟨_,_,rfl⟩
  rw[hle]at hnx hp3' hf ⊢
  try dsimp only at hnx hp3' hf ⊢
  rw[show IntKind.wrap .i64 ((j:Int)+1+1)=(j:Int)+2 by rw[Qc (by omega)];omega]
  refine Ok.oe (QcV hnx.inv (by omega)) (Ok.t ?_)
  rw[←hf]
  exact hJ _ rfl
end
end Go.Proofs.YtgokjdfkpnkekaaGreat
/-
  Ledgers behind lists of operations: what is asked of each, their errors, those of made lists.
-/
namespace Go.Proofs.YtgokjdfkpnkekaaGreat
open Go AM
attribute [local irreducible] dueV stepV runV QR answerV
section
variable {n:Nat} {c:D.Config} {b:D.Book} {p q:D.Page} {now M:Int} {l x:D.Ledger} {i:Nat} {o:D.Op} {L:List Int} {d:D.Dice} {ops:List D.Op}
def QsS(l:D.Ledger):List D.Op→List Int
 |[]=>[]
 |o::r=>(Yy l o).2::QsS (Yy l o).1 r
structure Led (l:D.Ledger):Prop where
 ok:∃M n,Qd M n l∧n≤48
 pg:l.Pages.length≤9
structure OkAt (l:D.Ledger) (o:D.Op):Prop where
 ok:∃M n,Qd M n l∧n<48∧max l.Now o.At≤M - 20000
 pg:l.Pages.length≤8
 dec:DecL l
 op:OpIn o
 len:l.Seen.length<256
theorem OkAt.led(h:OkAt l o):Led l:=by
 obtain⟨M,n,h1,h2,_⟩:=h.ok
 exact⟨⟨M,n,h1,by omega⟩,by have:=h.pg;omega⟩
theorem Led.checkE(h:Led l):Qag 1000 l=some true:=by
 obtain⟨M,n,h1,h2⟩:=h.ok
 exact QkJ h1 h.pg
structure Loose (k:Nat) (l:D.Ledger):Prop where
 inv:Qd 1000000 (2+k) l
 ids:Ids 3 l
 seen:l.Seen.length≤k
 dec:DecL l
def QvI(o:D.Op):Prop:=OpIn o∧(o.Kind=1→o.Page≤3)∧o.At≤980000∧(o.Kind=4→o.Answer.Person<4)
theorem Behind.loose{k:Nat}(h:Behind ops k l):Loose k l:=⟨h.made.inv,h.made.ids,h.made.seen,h.dec⟩
theorem Loose.okAt{k:Nat}(h:Loose k l)(hk:k≤45)(ho:QvI o):OkAt l o:=by
 have hn:=h.inv.now;have hs:=h.seen;have h2:=ho.2.2.1
 have hp3:=h.inv.small3 (k:=3) h.ids
 exact⟨⟨1000000,2+k,h.inv,by omega,by omega⟩,by omega,h.dec,ho.1,by omega⟩
end
end Go.Proofs.YtgokjdfkpnkekaaGreat
/-
  Ledgers: what the program's operations compute.
-/
namespace Go.Proofs.YtgokjdfkpnkekaaGreat
open Go AM
attribute [local irreducible] dueV stepV runV QR answerV
section
variable {n:Nat} {c:D.Config} {b:D.Book} {p q:D.Page} {now M:Int} {l x:D.Ledger} {i:Nat} {o:D.Op} {ops:List D.Op}
theorem mapE{T:Type}[Inhabited T]{f:Nat→T→Option T}{l:List T}(hf:∀x∈l,f 1000 x=some x)(hl:l.length≤900):
  Qh (X:=((Int×(Int×Unit))×(List T×Unit))) (fun L1 ((a2,(a3,_)),(a4,_))=>(AM.cnd (decide (a3<a2)) (natc a3 fun a5=>(ltc a5 (List.length a4) (optc (GetElem?.getElem? a4 a5) fun a6=>(optc (f 1000 a6) fun a7=>(natc a3 fun a8=>(ltc a8 (List.length a4) (optc (GetElem?.getElem? a4 a8) fun a9=>(L1 ((a2,((IntKind.wrap .i64 (a3+1)),())),((List.set a4 a8 a7),())))))))))) (some a4))) 1000 (((((List.length l):Nat):Int),(0,())),(l,()))=some l:=by
 refine Ok.eq ?_
 refine Ok.run l.length (fun i=>(((((List.length l):Nat):Int),((i:Nat):Int),()),l,())) rfl (by omega) (fun i hi k hk=>?_) (fun k=>?_)
 ·try dsimp only
  refine Ok.p (by omega) (Ok.natn (Ok.lt hi (Ok.get hi (Ok.oe (hf _ (Qk hi)) (Ok.natn (Ok.lt hi (Ok.get hi ?_)))))))
  rw[Qa (by omega),Qr2 hi];exact hk
 ·try dsimp only
  exact Ok.n (by omega) (Ok.s rfl)
theorem cl_w{l:List D.Window}(h:l.length≤900):Z4 1000 l=some l:=by unfold Z4;exact Xa (by omega)
theorem cl_i{l:List Int}(h:l.length≤900):Qw 1000 l=some l:=by unfold Qw;exact Xa (by omega)
theorem QnU{l:List D.Zone}(h:∀z∈l,z.Rules=[])(hl:l.length≤900):Zu 1000 l=some l:=by
 unfold Zu
 refine(Wn (show Xl 1000 l=some l by unfold Xl;exact Xa (by omega))).trans (mapE (f:=QdF) (fun z hz=>?_) hl)
 unfold QdF
 exact Wn (show Y2 1000 z.Rules=some z.Rules by rw[h z hz];rfl)
theorem QkL{l:List D.Person}(h:∀z∈l,z.Quiet.length≤900)(hl:l.length≤900):Q4 1000 l=some l:=by
 unfold Q4
 refine(Wn (show YI 1000 l=some l by unfold YI;exact Xa (by omega))).trans (mapE (f:=QaN) (fun z hz=>?_) hl)
 unfold QaN
 exact Wn (cl_w (h z hz))
theorem Qmt{l:List D.Layer}(h:∀z∈l,YD z)(hl:l.length≤900):Zc 1000 l=some l:=by
 unfold Zc
 refine(Wn (show Y0 1000 l=some l by unfold Y0;exact Xa (by omega))).trans (mapE (f:=Qb2) (fun z hz=>?_) hl)
 have hz':=h z hz
 unfold Qb2
 exact(Wn (cl_i (by have:=hz'.len;omega))).trans (Wn (cl_w (by rw[hz'.win];simp)))
theorem Qmu{l:List D.Schedule}(h:∀z∈l,QbK n z)(hn:n≤48)(hl:l.length≤900):QS 1000 l=some l:=by
 unfold QS
 refine(Wn (show Ye 1000 l=some l by unfold Ye;exact Xa (by omega))).trans (mapE (f:=V7) (fun z hz=>?_) hl)
 obtain⟨⟨y,hy,hy2⟩,h2,_⟩:=h z hz
 unfold V7
 refine(Wn (Qmt (l:=z.Layers) (fun w hw=>?_) (by rw[hy];simp))).trans (Wn (show Xk 1000 z.Edits=some z.Edits by unfold Xk;exact Xa (by omega)))
 rw[hy]at hw
 rw[List.mem_singleton.1 hw];exact hy2
theorem QnT{l:List D.Team}(h:∀z∈l,QlI z)(hl:l.length≤900):Zt 1000 l=some l:=by
 unfold Zt
 refine(Wn (show Wk 1000 l=some l by unfold Wk;exact Xa (by omega))).trans (mapE (f:=QdE) (fun z hz=>?_) hl)
 unfold QdE
 exact Wn (cl_i (by have:=(h z hz).len;omega))
theorem QnS{m:Nat}{l:List D.PolicyStep}(h:∀z∈l,StepOK' m z)(hl:l.length≤900):QZ 1000 l=some l:=by
 unfold QZ
 refine(Wn (show Yv 1000 l=some l by unfold Yv;exact Xa (by omega))).trans (mapE (f:=QdD) (fun z hz=>?_) hl)
 unfold QdD
 exact Wn (show XA 1000 z.Targets=some z.Targets by unfold XA;exact Xa (by have:=(h z hz).len;omega))
theorem Qpw{m:Nat}{l:List D.Policy}(h:∀z∈l,Qba m z)(hl:l.length≤900):Zm 1000 l=some l:=by
 unfold Zm
 refine(Wn (show Xz 1000 l=some l by unfold Xz;exact Xa (by omega))).trans (mapE (f:=Qfl) (fun z hz=>?_) hl)
 unfold Qfl
 exact Wn (QnS (h z hz).step (by have:=(h z hz).len;omega))
theorem Qto(h:Qy p):U1 1000 p=some p:=by
 have h1:=h.st;have h2:=h.de;have h3:=h.se
 unfold U1
 refine(Wn (x:=p.Starts) ?_).trans ((Wn (cl_i (by omega))).trans (Wn (cl_i (by omega))))
 unfold ZM
 refine(Wn (Ql1 (by omega))).trans (mapE (f:=QaL) (fun z hz=>?_) (by omega))
 unfold QaL
 exact Wn (cl_i (by have:=(h.pe z hz).1;omega))
theorem QnR{l:List D.Page}(h:∀z∈l,Qy z)(hl:l.length≤900):Zs 1000 l=some l:=by
 unfold Zs
 exact(Wn (show Wj 1000 l=some l by unfold Wj;exact Xa (by omega))).trans (mapE (f:=U1) (fun z hz=>Qto (h z hz)) hl)
theorem Led.copyE(h:Led l):QaM 1000 l=some l:=by
 obtain⟨M,n,h1,h2⟩:=h.ok
 have hcl:=h1.callsLe h.pg;have hse:=h1.seen.len;have hpg:=h.pg;have hb:=h1.book;have hc:=h1.cfg
 have htl:=hb.tlen;have hpl:=hb.plen
 obtain⟨hz,_⟩:=hc.zones
 unfold QaM
 rw[QnU (by rw[hz];intro z hm;rw[List.mem_singleton.1 hm]) (by rw[hz];simp),ZI,QkL (fun z hm=>by rcases(hc.person z hm).quiet with e|⟨_,_,e,_⟩<;>rw[e]<;>simp) (by rw[hc.plen];omega),ZI,hc.cal]
 rw[show Zl 1000 []=some []by kernel_rfl,ZI,Qmu hc.sched h2 (by rw[hc.slen];omega),ZI,QnT hb.team (by omega),ZI,Qpw hb.pol (by omega),ZI,QnR h1.plens (by omega),ZI,cl_i (by omega),ZI,Ql0 (by omega),ZI]
 obtain⟨l1,⟨c1,c2,c3,c4⟩,l3,l4,l5,l6,l7,l8⟩:=l
 have hcal:=hc.cal
 dsimp only at hcal ⊢
 subst hcal
 rfl
theorem QuW{i j:Nat}(h:i+j<1000000):IntKind.wrap .i64 (Int.fdiv (IntKind.wrap .u64 (IntKind.wrap .i64 ((i:Int)+(j:Int)))) (HPow.hPow 2 (min 1 (Go.IntKind.bits Go.IntKind.u64))))=(((i+j) / 2:Nat):Int):=by
 rw[Qc (x:=(i:Int)+(j:Int)) (by omega)]
 have e:IntKind.u64.wrap ((i:Int)+(j:Int))=(i:Int)+(j:Int):=by
  simp only[IntKind.wrap,IntKind.bits,IntKind.signed]
  simp
  omega
 rw[e,show((HPow.hPow 2 (min 1 (Go.IntKind.bits Go.IntKind.u64)):Nat):Int)=2 from rfl,Int.fdiv_eq_ediv_of_nonneg _ (by omega),Qc (by omega)]
 omega
theorem QtS{id:Int}(h1:0≤p.ID∧p.ID≤999999)(h2 : -1≤id∧id≤1000000):X3 1000 p id=some (p.ID - id):=by
 unfold X3
 rw[Qc (by omega)]
theorem QvR{id:Int}{L:List D.Page}(ha:AscP L)(hl:L.length≤64)(hp:∀p∈L,0≤p.ID∧p.ID≤999999)(hid : -1≤id∧id≤1000000):
  QD 1000 L id=some ((posV id L:Int),hasV id L):=by
 have hple:=Qa5 (id:=id) (l:=L)
 refine Ok.eq ?_
 unfold QD
 refine Ok.loop (fun m x=>∃(i j:Nat),x=((id,((L.length:Nat):Int),(i:Int),(j:Int),()),L,())∧i≤posV id L∧posV id L≤j∧j≤L.length∧m=j - i) (m:=L.length) (by omega) ⟨0,L.length,rfl,by omega,by omega,by omega,by omega⟩ ?_
 rintro m x ⟨i,j,rfl,h1,h2,h3,rfl⟩ K hK
 try dsimp only
 refine Ok.ite (fun hij=>?_) (fun hij=>?_)
 ·refine Ok.nat (by omega) ?_
  rw[show(1:Int).toNat=1 from rfl,QuW (by omega)]
  have hh:(i+j) / 2<L.length:=by omega
  refine Ok.natn (Ok.lt hh (Ok.get hh (Ok.oe (QtS (hp _ (Qk hh)) hid) (Ok.ite (fun g=>?_) (fun g=>?_)))))
  ·try dsimp only
   rw[Qa (by omega)]
   refine hK _ _ (by omega) ⟨(i+j) / 2+1,j,rfl,?_,h2,h3,rfl⟩
   rcases Nat.lt_or_ge ((i+j) / 2) (posV id L)with g2|g2
   ·omega
   ·have:=QkZ ha g2 hh
    omega
  ·refine hK _ _ (by omega) ⟨i,(i+j) / 2,rfl,h1,?_,by omega,rfl⟩
   rcases Nat.lt_or_ge ((i+j) / 2) (posV id L)with g2|g2
   ·have:=Qk1 g2
    omega
   ·exact g2
 ·have e:i=posV id L:=by omega
  subst e
  unfold hasV
  refine Ok.ite (fun g=>?_) (fun g=>?_)
  ·have hh:posV id L<L.length:=by omega
   refine Ok.natn (Ok.lt hh (Ok.get hh (Ok.oe (QtS (hp _ (Qk hh)) hid) (Ok.ite (fun g=>Ok.sameC (Ok.s ?_)) (fun g=>Ok.sameC (Ok.s ?_))))))
   ·rw[decide_eq_true ⟨hh,by omega⟩]
   ·rw[decide_eq_false (fun h=>g (by omega))]
  ·exact Ok.sameC (Ok.s (by rw[decide_eq_false (fun h=>g (by omega))]))
theorem Qd.idsIn(h:Qd M n l):∀p∈l.Pages,0≤p.ID∧p.ID≤999999:=fun p hp=>by
 have:=(h.page p hp).1.id;omega
theorem Qid{id:Int}(h:Qd M n l)(hid : -1≤id∧id≤1000000):ZU 1000 l id=some ((posV id l.Pages:Int),hasV id l.Pages):=by
 unfold ZU
 rw[QvR h.asc h.len h.idsIn hid,ZI]
 dsimp only
 rw[Wc,Wc,Wc]
theorem Qtj:QdB 1000 p=some (Qrq p):=by
 unfold QdB Qrq
 (try unfold cd);rw[QtT];split<;>rfl
theorem QsK{k:Nat}(hi:i<l.Pages.length)(hp:Qy (nth l.Pages i))(hk:k≤(nth l.Pages i).Starts.length)(hcl:l.Calls.length≤20000):
  QX 1000 ⟨l⟩ (i:Int) (k:Int)=some ⟨{ l with Calls:=l.Calls++QF (nth l.Pages i).ID l.Fence ((nth l.Pages i).Starts.drop k) }⟩:=by
 obtain⟨P,hP⟩:∃P,nth l.Pages i=P:=⟨_,rfl⟩
 have hst:=hp.st
 refine Ok.eq ?_
 unfold QX
 refine Ok.natn (Ok.lt hi (Ok.get hi (Ok.natn (Ok.lec hk ?_))))
 rw[hP]at hp hk hst ⊢
 refine Ok.run (P.Starts.length - k) (fun j=>(((P.Starts.drop k),(((P.Starts.drop k).length:Nat):Int),(j:Int),()),(l.Now,l.Config.Zones,l.Config.People,l.Config.Calendars,l.Config.Schedules,l.Book.Teams,l.Book.Policies,l.Owner,l.Fence,()),P,l.Pages,l.Seen,l.Calls++QF P.ID l.Fence ((P.Starts.drop k).take j),())) (by rw[List.take_zero];simp[QF]) (by omega) (fun j hj kk hkk=>?_) (fun kk=>?_)
 ·try dsimp only
  have hdl:j<(P.Starts.drop k).length:=by simp;omega
  refine Ok.p (by omega) (Ok.atn hdl ?_)
  have hpe:=(hp.pe _ (List.mem_of_mem_drop (Qk hdl))).1
  have hts:(P.Starts.drop k).take (j+1)=(P.Starts.drop k).take j++[nth (P.Starts.drop k) j]:=(QG hdl).symm
  have hol:(QF P.ID l.Fence ((P.Starts.drop k).take j)).length≤40*((P.Starts.drop k).take j).length:=U8 (m:=40) fun s hs=>(hp.pe s (List.mem_of_mem_drop (List.mem_of_mem_take hs))).1
  rw[List.length_take,List.length_drop]at hol
  obtain⟨s,hs⟩:∃s,nth (P.Starts.drop k) j=s:=⟨_,rfl⟩
  rw[hs]at hpe hts ⊢
  refine Ok.run s.People.length (fun z=>(((P.Starts.drop k),(((P.Starts.drop k).length:Nat):Int),(j:Int),s.People,((s.People.length:Nat):Int),(z:Int),()),(l.Now,l.Config.Zones,l.Config.People,l.Config.Calendars,l.Config.Schedules,l.Book.Teams,l.Book.Policies,l.Owner,l.Fence,()),P,s,l.Pages,l.Seen,(l.Calls++QF P.ID l.Fence ((P.Starts.drop k).take j))++(s.People.take z).map (fun x=>D.Call.mk P.ID s.K s.At x l.Fence),())) (by rw[List.take_zero,List.map_nil,List.append_nil];rfl) (by omega) (fun z hz k2 hk2=>?_) (fun k2=>?_)
  ·try dsimp only
   refine Ok.p (by omega) (Ok.atn hz (Ok.lec ?_ ?_))
   ·simp only[List.length_append,List.length_map,List.length_take,List.length_cons,List.length_nil];omega
   ·try dsimp only
    rw[Qa (by omega)]
    try dsimp only at hk2
    rw[←QG hz,List.map_append,←List.append_assoc]at hk2
    exact hk2
  ·try dsimp only
   refine Ok.n (by omega) ?_
   try dsimp only
   rw[Qa (by omega),List.take_length]
   try dsimp only at hkk
   rw[hts,QcH,←List.append_assoc]at hkk
   exact hkk
 ·try dsimp only
  refine Ok.n (by simp) (Ok.s ?_)
  rw[List.take_of_length_le (by simp)]
theorem QrG{A:D.Page}(hi:i<l.Pages.length)(hA:Qy A)(hx:Ext (nth l.Pages i) A)(hcl:l.Calls.length≤20000):
  QX 1000 ⟨⟨l.Now,l.Config,l.Book,l.Pages.set i A,l.Owner,l.Fence,l.Seen,l.Calls⟩⟩ (i:Int) (((nth l.Pages i).Starts.length:Nat):Int)=some ⟨putV l i A⟩:=by
 obtain⟨m,hm⟩:=hx
 have hset:nth (l.Pages.set i A) i=A:=Xp hi
 have hc:=QsK (l:={ l with Pages:=l.Pages.set i A }) (i:=i) (k:=(nth l.Pages i).Starts.length) (by show i<(l.Pages.set i A).length;rw[List.length_set];exact hi) (by show Qy (nth (l.Pages.set i A) i);rw[hset];exact hA)
  (by show _≤(nth (l.Pages.set i A) i).Starts.length;rw[hset,hm];simp) hcl
 refine hc.trans ?_
 show some (D.worker.mk { l with Pages:=l.Pages.set i A,Calls:=l.Calls++QF (nth (l.Pages.set i A) i).ID l.Fence ((nth (l.Pages.set i A) i).Starts.drop (nth l.Pages i).Starts.length) })=_
 rw[hset];rfl
theorem Qln(h:Qd M n l)(hpg:l.Pages.length≤9)(hi:i<l.Pages.length):QC 1000 ⟨l⟩ (i:Int)=some ⟨runI l i⟩:=by
 have hcl:=h.callsLe hpg
 have hat:=h.at hi
 have hpl:=hat.1.plen h.book
 refine Ok.eq ?_
 unfold QC
 refine Ok.natn (Ok.lt hi (Ok.get hi (Ok.oe (Qv6 h.cfg h.small h.book hpl) ?_)))
 have hext:=Qlq (c:=l.Config) (now:=l.Now) h.book hat.1
 have hR:=hpl.runV (c:=l.Config) (now:=l.Now) h.book
 have hid:=(Qdk (c:=l.Config) (now:=l.Now) h.book QT.step hat.1).id
 have herr:=(QaX (c:=l.Config) (now:=l.Now) h.book QT.step hat.1).2.1
 rw[h.runEq hi]
 obtain⟨R,e,hRe⟩:∃R e,runV l.Config l.Book (nth l.Pages i) l.Now=(R,e):=⟨_,_,rfl⟩
 rw[hRe]at hext hR hid herr ⊢
 try dsimp only at hext hR hid herr ⊢
 subst herr
 refine Ok.n (by simp) (Ok.natn (Ok.lt hi (Ok.get hi (Ok.natn (Ok.lt hi (Ok.get hi ?_))))))
 exact Ok.oe (QrG hi hR hext (by omega)) (Ok.s rfl)
theorem Qtw(h:Qd M n l)(hpg:l.Pages.length≤9):∀{k:Nat},k<l.Pages.length→QC 1000 ⟨Za l k⟩ (k:Int)=some ⟨Za l (k+1)⟩:=fun{k} hk=>by
 have hr:=h.runs (k:=k) (by omega)
 have hl:=(ZS (l:=l) (k:=k)).2.2.2.2.2.2
 exact Qln hr (by rw[hl];exact hpg) (by rw[hl];exact hk)
theorem Qvc(hf:0≤l.Fence∧l.Fence≤100000)(hk:o.Kind=2):Z1 1000 ⟨l⟩ o=some ((opV l o).2,⟨(opV l o).1⟩):=by
 refine Ok.eq ?_
 unfold Z1 opV
 rw[if_neg (by omega),if_pos hk,Qc (by dsimp only;omega)]
 refine Ok.ite (fun g=>Ok.s ?_) (fun g=>Ok.s ?_)
 ·rw[if_neg (fun e=>g e)]
 ·rw[if_pos (by simpa using g)]
theorem Qr6(h:Qd M n l)(hpg:l.Pages.length≤9)(ho:OpIn o)(hk:o.Kind=3):ZF 1000 ⟨l⟩ o=some ((opV l o).2,⟨(opV l o).1⟩):=by
 have hop:=ho.page
 refine Ok.eq ?_
 unfold ZF opV
 rw[if_neg (by omega),if_neg (by omega),if_pos hk]
 refine Ok.join (fun y=>y=((),(l.Now,l.Config.Zones,l.Config.People,l.Config.Calendars,l.Config.Schedules,l.Book.Teams,l.Book.Policies,l.Owner,l.Fence,()),o,l.Pages,l.Seen,l.Calls,())∧o.Region=l.Owner∧o.Fence=l.Fence) (fun y hy=>?_) (fun J hJ=>Ok.ite (fun g=>Ok.s ?_) (fun g=>Ok.ite (fun g2=>Ok.s ?_) (fun g2=>hJ _ ⟨rfl,by simpa using g,by simpa using g2⟩)))
 ·obtain⟨rfl,g1,g2⟩:=hy
  try dsimp only
  rw[if_pos ⟨g1,g2⟩]
  refine Ok.oe (Qid (l:=l) h (by omega)) (Ok.ncnd (fun hh=>Ok.s ?_) (fun hh=>?_))
  ·rw[if_neg (by rw[show hasV _ l.Pages=false from hh];simp)]
  ·rw[if_pos hh]
   have hi:=(VO hh).1
   refine Ok.natn (Ok.lt hi (Ok.get hi ?_))
   have hrun:=Qln h hpg hi
   obtain⟨pg,hpg2⟩:∃pg,nth l.Pages (posV o.Page l.Pages)=pg:=⟨_,rfl⟩
   rw[hpg2]
   have hw:Xm pg l.Now=((dueV pg).2 && decide ((dueV pg).1≤l.Now)):=rfl
   have hkk:(if pg.State=2 then(-1:Int)else pg.Next)=Qrq pg:=rfl
   rw[hkk]
   refine Ok.join (fun y=>y=((((posV o.Page l.Pages:Nat):Int),()),(l.Now,l.Config.Zones,l.Config.People,l.Config.Calendars,l.Config.Schedules,l.Book.Teams,l.Book.Policies,l.Owner,l.Fence,()),l.Pages,l.Seen,l.Calls,())∧Xm pg l.Now=true∧o.K=Qrq pg) (fun y hy=>?_) (fun J hJ=>?_)
   ·obtain⟨rfl,g3,g4⟩:=hy
    try dsimp only
    rw[if_pos ⟨g3,g4⟩]
    exact Ok.oe hrun (Ok.s rfl)
   ·refine Ok.oe Ql7 (Ok.cnd (fun g3=>Ok.ite (fun g4=>Ok.s ?_) (fun g4=>Ok.oe Qtj (Ok.ite (fun g5=>Ok.s ?_) (fun g5=>hJ _ ⟨rfl,?_,?_⟩)))) (fun g3=>Ok.s ?_))
    ·rw[if_neg (fun hx=>by rw[hw,g3]at hx;have:=of_decide_eq_true (show decide ((dueV pg).1≤l.Now)=true by simpa using hx.1);omega)]
    ·rw[if_neg (fun hx=>g5 hx.2.symm)]
    ·rw[hw,g3];simp;omega
    ·exact(show Qrq pg=o.K by simpa using g5).symm
    ·rw[if_neg (fun hx=>by rw[hw,g3]at hx;simp at hx)]
 ·rw[if_neg (fun hx=>g hx.1)]
 ·rw[if_neg (fun hx=>g2 hx.2)]
theorem QrV(h:Qd M n l)(hpg:l.Pages.length≤9)(hd:DecL l)(hk:o.Kind=4)(ha:YA o.Answer=true):Zz 1000 ⟨l⟩ o=some ((opV l o).2,⟨(opV l o).1⟩):=by
 have hcl:=h.callsLe hpg
 have hap:=(Qni ha).2
 refine Ok.eq ?_
 unfold Zz opV
 rw[if_neg (by omega),if_neg (by omega),if_neg (by omega),if_pos hk]
 refine Ok.oe (Qid (l:=l) h (by omega)) (Ok.ncnd (fun hh=>Ok.s ?_) (fun hh=>?_))
 ·rw[if_neg (by rw[show hasV _ l.Pages=false from hh];simp)]
 ·rw[if_pos hh]
  have hi:=VO hh
  refine Ok.oe (Qln h hpg hi.1) ?_
  have h2:=h.run hi.1
  have hkp:=YZ (l:=l) (i:=posV o.Answer.Page l.Pages)
  obtain⟨i,hie⟩:∃i,posV o.Answer.Page l.Pages=i:=⟨_,rfl⟩
  rw[hie]at hi h2 hkp ⊢
  have hi2:i<(runI l i).Pages.length:=by omega
  have hcl2:=h2.callsLe (by omega)
  refine Ok.natn (Ok.lt hi2 (Ok.get hi2 ?_))
  have hpl2:=h2.plens _ (Qk hi2)
  have hde:(nth (runI l i).Pages i).Declined.length≤11:=by
   have:=((hd.run h hi.1) _ (Qk (hie ▸ hi2))).dlen (h2.at hi2).1.declined
   omega
  obtain⟨a,hae⟩:∃a:D.Answer,a=D.Answer.mk o.Answer.ID o.Answer.Page o.Answer.Person o.Answer.Kind o.Answer.Arg (runI l i).Now:=⟨_,rfl⟩
  have hae2:D.Answer.mk o.Answer.ID o.Answer.Page o.Answer.Person o.Answer.Kind o.Answer.Arg l.Now=a:=by rw[hae,hkp.1]
  rw[←hae]
  refine Ok.oe (Qqi h2.book hpl2 hde) ?_
  have hz:=QaD (b:=(runI l i).Book) (p:=nth (runI l i).Pages i) (a:=a)
  have hAl:=hpl2.answerV (a:=a) h2.book
  show Ok _ (·=((if (answerV l.Book (nth (runI l i).Pages i) (D.Answer.mk o.Answer.ID o.Answer.Page o.Answer.Person o.Answer.Kind o.Answer.Arg l.Now)).2=0 then(putV (runI l i) i (answerV l.Book (nth (runI l i).Pages i) (D.Answer.mk o.Answer.ID o.Answer.Page o.Answer.Person o.Answer.Kind o.Answer.Arg l.Now)).1,(0:Int))else(runI l i,(answerV l.Book (nth (runI l i).Pages i) (D.Answer.mk o.Answer.ID o.Answer.Page o.Answer.Person o.Answer.Kind o.Answer.Arg l.Now)).2)).2,(D.worker.mk (if (answerV l.Book (nth (runI l i).Pages i) (D.Answer.mk o.Answer.ID o.Answer.Page o.Answer.Person o.Answer.Kind o.Answer.Arg l.Now)).2=0 then(putV (runI l i) i (answerV l.Book (nth (runI l i).Pages i) (D.Answer.mk o.Answer.ID o.Answer.Page o.Answer.Person o.Answer.Kind o.Answer.Arg l.Now)).1,(0:Int))else(runI l i,(answerV l.Book (nth (runI l i).Pages i) (D.Answer.mk o.Answer.ID o.Answer.Page o.Answer.Person o.Answer.Kind o.Answer.Arg l.Now)).2)).1)))
  rw[hae2,←hkp.2.2.1]
  obtain⟨A,e,hA⟩:∃A e,answerV (runI l i).Book (nth (runI l i).Pages i) a=(A,e):=⟨_,_,rfl⟩
  rw[hA]at hz hAl ⊢
  try dsimp only at hz hAl ⊢
  by_cases he:e=0
  ·rw[if_pos he]
   have hq:=hz he
   have hext:Ext (nth (runI l i).Pages i) A:=by
    rcases hq with rfl|rfl
    ·exact Ext.refl _
    ·exact Qej
   refine Ok.n (fun g=>g he) (Ok.natn (Ok.lt hi2 (Ok.get hi2 (Ok.natn (Ok.lt hi2 (Ok.get hi2 ?_))))))
   exact Ok.oe (QrG hi2 hAl hext (by omega)) (Ok.s rfl)
  ·rw[if_neg he]
   exact Ok.p he (Ok.s rfl)
end
end Go.Proofs.YtgokjdfkpnkekaaGreat
/-
  Ledgers: what the program's operations, lists of operations and what waits compute.
-/
namespace Go.Proofs.YtgokjdfkpnkekaaGreat
open Go AM
attribute [local irreducible] dueV stepV runV QR answerV
section
variable {n:Nat} {c:D.Config} {b:D.Book} {p q:D.Page} {now M:Int} {l x:D.Ledger} {i:Nat} {o:D.Op} {ops:List D.Op}
theorem QsR{x:D.Edit}{s:Int}(h:Q1 n c)(hn:n<48)(hx:U5 x):WU 1000 c s x=some (if 0≤s∧s<2 then(QgV c s x,0)else(cfg0,3)):=by
 have hsl:=h.slen
 have hpl:=h.plen
 obtain⟨off,hz,_⟩:=h.zone
 have hab:∃a b,c.Schedules=[a,b]:=by
  rcases hcs:c.Schedules with _|⟨a,_|⟨b,_|⟨d,r⟩⟩⟩
  ·rw[hcs]at hsl;simp at hsl
  ·rw[hcs]at hsl;simp at hsl
  ·exact⟨a,b,rfl⟩
  ·rw[hcs]at hsl;simp at hsl
 obtain⟨a,b,hab⟩:=hab
 have hpp:∃p1 p2 p3 p4,c.People=[p1,p2,p3,p4]:=by
  rcases hcs:c.People with _|⟨a,_|⟨b,_|⟨d,_|⟨e,_|⟨f,r⟩⟩⟩⟩⟩<;>rw[hcs]at hpl<;>simp at hpl
  exact⟨a,b,d,e,rfl⟩
 obtain⟨p1,p2,p3,p4,hpp⟩:=hpp
 have ha:=h.sched a (by rw[hab];simp)
 have hb:=h.sched b (by rw[hab];simp)
 obtain⟨la,hla,hla2⟩:=ha.layers
 obtain⟨lb,hlb,hlb2⟩:=hb.layers
 have hla3:=ha.len;have hlb3:=hb.len;have hla4:=hla2.len;have hlb4:=hlb2.len
 have hin:Qjy 1000 ⟨bZ,off,[]⟩ [p1,p2,p3,p4] la lb a.Edits b.Edits:=by
  refine⟨by simp,fun p hp=>?_,by omega,by rw[hla2.win];simp,by omega,by rw[hlb2.win];simp,by omega,by omega⟩
  rcases(h.person p (by rw[hpp];exact hp)).quiet with g|⟨_,_,g,_⟩<;>rw[g]<;>simp
 refine Ok.eq ?_
 unfold WU
 rw[hz,hpp,h.cal,hab]
 dsimp only
 rw[hla,hlb]
 dsimp only
 rw[if_pos hin]
 refine Ok.oe (Qhb h (by omega)) (Ok.n (by simp) (Ok.ite (fun hs=>?_) (fun g=>Ok.s ?_)))
 ·have hadd:addE c a b s x=QgV c s x:=by
   unfold addE QgV
   rw[hab]
   rcases(show s=0∨s=1 by omega)with rfl|rfl
   ·rfl
   ·rfl
  rw[if_pos hs,hadd]
  exact Ok.oe (Qhb (Qhe h hx hs) (by omega)) (Ok.n (by simp) (Ok.s rfl))
 ·rw[if_neg g]
theorem QvT{P:D.Page}{L:List D.Page}(hl:L.length≤64):Qz 1000 L (posV P.ID L:Int) [P]=some (insP L P):=by
 have hp:=Qa5 (id:=P.ID) (l:=L)
 refine Ok.eq ?_
 unfold Qz insP
 by_cases g:posV P.ID L=L.length
 ·rw[if_pos (by omega)]
  unfold Xc
  refine Ok.natn (Ok.lec hp (Ok.n (by simp) (Ok.p (by omega) (Ok.lec (by simp;omega) (Ok.s ?_)))))
  rw[g,List.take_length,List.drop_length]
 ·rw[if_neg (by omega)]
  exact Ok.natn (Ok.lt (by omega) (Ok.lec (by omega) (Ok.s rfl)))
theorem Qtm(h:Qd M n l)(hpg:l.Pages.length≤8)(ho:OpIn o)(hk:o.Kind=1):ZO 1000 ⟨l⟩ o=some ((opV l o).2,⟨(opV l o).1⟩):=by
 have hnow:=h.now;have htop:=h.top;have hpl:=h.book.plen;have hop:=ho.page
 refine Ok.eq ?_
 unfold ZO opV
 rw[if_pos hk]
 refine Ok.oe (Qid (l:=l) h (by omega)) (Ok.cnd (fun g=>Ok.s ?_) (fun g=>?_))
 ·rw[if_pos g]
 replace g:hasV o.Page l.Pages=false:=g
 rw[if_neg (by rw[g];simp)]
 refine Ok.n (by dsimp only;omega) ?_
 rw[if_neg (by omega)]
 refine Ok.oe (Qu7 h.book) ?_
 unfold newV
 by_cases g1:o.Page<1
 ·rw[if_pos g1,if_neg (fun hh=>by have:=QL.1 hh.1;omega)]
  exact Ok.p (by simp) (Ok.s rfl)
 rw[if_neg g1,if_pos ⟨QL.2 (by omega),QL.2 (by dsimp only;omega)⟩]
 by_cases g2:0≤o.Policy∧o.Policy<(l.Book.Policies.length:Int)
 ·rw[if_pos g2,if_pos (QL.2 (by dsimp only;omega))]
  try dsimp only
  refine Ok.n (by simp) ?_
  obtain⟨hi1,hi2,hi3⟩:=h.open (o:=o) g (by omega) g2 (by omega)
  have hP:(newP o.Page o.Policy l.Now).ID=o.Page:=rfl
  have hins:=QvT (P:=newP o.Page o.Policy l.Now) (L:=l.Pages) h.len
  rw[hP]at hins
  refine Ok.oe hins ?_
  exact Ok.oe (Qln hi1 (by show(insP l.Pages _).length≤9;rw[Qhj];omega) hi2) (Ok.s rfl)
 ·rw[if_neg g2,if_neg (fun hh=>g2 (by have:=QL.1 hh;dsimp only at this;omega))]
  exact Ok.p (by simp) (Ok.s rfl)
theorem QqX(h:Qd M n l)(hn:n<48)(hpg:l.Pages.length≤9)(ho:OpIn o)(hk:o.Kind=5):ZN 1000 ⟨l⟩ o=some ((opV l o).2,⟨(opV l o).1⟩):=by
 refine Ok.eq ?_
 unfold ZN opV
 rw[if_neg (by omega),if_neg (by omega),if_neg (by omega),if_neg (by omega)]
 refine Ok.run l.Pages.length (fun i=>((((l.Pages.length:Nat):Int),(i:Int),()),((Za l i).Now,(Za l i).Config.Zones,(Za l i).Config.People,(Za l i).Config.Calendars,(Za l i).Config.Schedules,(Za l i).Book.Teams,(Za l i).Book.Policies,(Za l i).Owner,(Za l i).Fence,()),o,(Za l i).Pages,(Za l i).Seen,(Za l i).Calls,())) rfl (by omega) (fun i hi k hk=>?_) (fun k=>?_)
 ·try dsimp only
  refine Ok.p (by omega) (Ok.oe (Qtw h hpg hi) ?_)
  try dsimp only
  rw[Qa (by omega)]
  exact hk
 ·try dsimp only
  have hki:=ZS (l:=l) (k:=l.Pages.length)
  obtain⟨L,hL⟩:∃L,Za l l.Pages.length=L:=⟨_,rfl⟩
  rw[hL]at hki ⊢
  have hed:=QsR (c:=L.Config) (s:=o.Schedule) (by rw[hki.2.1];exact h.cfg) hn (ho.edit hk)
  refine Ok.n (by omega) (Ok.oe hed ?_)
  by_cases hs:0≤o.Schedule∧o.Schedule<2
  ·rw[if_pos hs,if_pos hs,←hki.2.1]
   exact Ok.j (Ok.p rfl (Ok.s rfl))
  ·rw[if_neg hs,if_neg hs]
   exact Ok.j (Ok.n (by simp) (Ok.s rfl))
theorem OpIn.validE(ho:OpIn o):QbY 1000 o=some true:=by
 refine Ok.eq ?_
 unfold QbY
 refine Ok.oe oin (Ok.bt (QL.2 ho.id) (Ok.oe oin (Ok.bt (QL.2 ho.kind) (Ok.oe oin (Ok.bt (QL.2 ho.region) (Ok.oe oin (Ok.bt (QL.2 ho.fence) (Ok.oe oin (Ok.bt (QL.2 ho.at_) (Ok.oe oin (Ok.bt (QL.2 ho.page) (Ok.oe oin (Ok.bt (QL.2 ho.k) ?_)))))))))))))
 exact Ok.ite (fun g=>Ok.s rfl) (fun g=>Ok.oe Qpb (Ok.bt (ho.answer (by omega)).1 (Ok.s rfl)))
theorem OkAt.apply(h:OkAt l o):QbZ 1000 l o=some ((Yy l o).1,(Yy l o).2,true):=by
 obtain⟨M,n,h1,h2,h3⟩:=h.ok
 have hpg:=h.pg;have hsl:=h.len;have ho:=h.op;have hfe:=h1.fence
 refine Ok.eq ?_
 unfold QbZ
 refine Ok.j (Ok.oe h.led.checkE (Ok.t (Ok.oe ho.validE (Ok.t ?_))))
 try dsimp only
 refine Ok.oe h.led.copyE (Ok.oe (QaE (by omega)) (Ok.cnd (fun g=>Ok.s ?_) (fun g=>?_)))
 ·unfold Yy;rw[if_pos g]
 rw[Qbd g]
 have hsee:=h1.see ho h3 g hsl
 have hsp:(seeV l o).Pages.length≤8:=hpg
 have hsf:0≤(seeV l o).Fence∧(seeV l o).Fence≤100000:=by show 0≤l.Fence∧l.Fence≤100000;omega
 have hsd:DecL (seeV l o):=h.dec
 have hkd:=ho.kind
 have key:∀r:Int×D.worker,r=((opV (seeV l o) o).2,⟨(opV (seeV l o) o).1⟩)→Ok (some (D.Ledger.mk r.2.Ledger.Now (D.Config.mk r.2.Ledger.Config.Zones r.2.Ledger.Config.People r.2.Ledger.Config.Calendars r.2.Ledger.Config.Schedules) (D.Book.mk r.2.Ledger.Book.Teams r.2.Ledger.Book.Policies) r.2.Ledger.Pages r.2.Ledger.Owner r.2.Ledger.Fence r.2.Ledger.Seen r.2.Ledger.Calls,r.1,true)) (·=((opV (seeV l o) o).1,(opV (seeV l o) o).2,true)):=fun r e=>by
  subst e
  obtain⟨L,e,hLe⟩:∃L e,opV (seeV l o) o=(L,e):=⟨_,_,rfl⟩
  rw[hLe]
  exact Ok.s rfl
 refine Ok.n (by omega) (Ok.lec (by simp;omega) (Ok.j ?_))
 refine Ok.ite (fun k1=>?_) (fun k1=>Ok.ite (fun k2=>?_) (fun k2=>Ok.ite (fun k3=>?_) (fun k3=>Ok.ite (fun k4=>?_) (fun k4=>?_))))
 ·exact Ok.oe (Qtm (l:=seeV l o) hsee hsp ho k1) (key _ rfl)
 ·exact Ok.oe (Qvc (l:=seeV l o) hsf k2) (key _ rfl)
 ·exact Ok.oe (Qr6 (l:=seeV l o) hsee (by omega) ho k3) (key _ rfl)
 ·exact Ok.oe (QrV (l:=seeV l o) hsee (by omega) hsd k4 (ho.answer k4).1) (key _ rfl)
 ·exact Ok.oe (QqX (l:=seeV l o) hsee h2 (by omega) ho (by omega)) (key _ rfl)
theorem OkAt.prog(h:OkAt l o):VP 1000 l o=some (Yy l o):=by
 refine Ok.eq ?_
 unfold VP
 exact Ok.oe h.apply (Ok.nt rfl (Ok.s rfl))
end
end Go.Proofs.YtgokjdfkpnkekaaGreat
/-
  Ledgers that are equal are the same to the reference.
-/
namespace Go.Proofs.YtgokjdfkpnkekaaGreat
open Go AM
attribute [local irreducible] dueV stepV runV QR answerV
section
variable {n:Nat} {c:D.Config} {b:D.Book} {l:D.Ledger}
theorem Qwr{x:List Int}(hx:x.length≤900):UU 1000 x x=some true:=by rw[Qlr hx];simp
theorem Qv7{x:List D.Window}(hx:x.length≤900):VU 1000 x x=some true:=by
 refine Ok.eq ?_
 unfold VU
 refine Ok.n (by simp) (Ok.run2 x.length (fun i=>(x,x,(i:Int),())) rfl (by omega) (fun i hi K hK=>?_) (fun K=>by dsimp only;exact Ok.n (by omega) (Ok.s rfl)))
 try dsimp only
 refine Ok.p (by omega) (Ok.atn hi (Ok.atn hi (Ok.n (by simp) ?_)))
 try dsimp only
 rw[Qa (by omega)];exact hK
theorem Qws{z:D.Zone}(hz:z.Rules=[]):Qfy 1000 z z=some true:=by
 refine Ok.eq ?_
 unfold Qfy
 refine Ok.j (Ok.n (by simp) (Ok.n (by simp) (Ok.n (by simp) ?_)))
 exact Ok.run 0 (fun i=>(((i:Int),()),z,z,())) rfl (by omega) (fun i hi=>by omega) (fun K=>by dsimp only;rw[hz];exact Ok.n (by simp) (Ok.s rfl))
theorem Qwq{s:D.Schedule}(h:QbK n s)(hn:n≤48):Qfx 1000 s s=some true:=by
 obtain⟨⟨y,hy,hy2⟩,h2,_⟩:=h
 have hyl:s.Layers.length=1:=by rw[hy];rfl
 refine Ok.eq ?_
 unfold Qfx
 refine Ok.j (Ok.n (by simp) (Ok.n (by simp) (Ok.n (by simp) ?_)))
 refine Ok.run s.Edits.length (fun i=>(((i:Int),()),s,s,())) rfl (by omega) (fun i hi K hK=>?_) (fun K=>?_)
 ·try dsimp only
  refine Ok.p (by omega) (Ok.atn hi (Ok.atn hi (Ok.n (by simp) ?_)))
  try dsimp only
  rw[Qa (by omega)];exact hK
 ·try dsimp only
  refine Ok.n (by omega) (Ok.run s.Layers.length (fun i=>(((i:Int),()),s,s,())) rfl (by omega) (fun i hi K hK=>?_) (fun K=>by dsimp only;exact Ok.n (by omega) (Ok.s rfl)))
  try dsimp only
  refine Ok.p (by omega) (Ok.j ?_)
  have hm:nth s.Layers i=y:=by
    rw[hy];rw[hyl]at hi;obtain rfl:i=0:=by omega
    rfl
  refine Ok.atn hi (Ok.atn hi ?_)
  rw[hm]
  refine Ok.n (by simp) (Ok.n (by simp) (Ok.n (by simp) (Ok.n (by simp) (Ok.n (by simp) (Ok.n (by simp) (Ok.n (by simp) (Ok.oe (Qwr (by have:=hy2.len;omega)) (Ok.t (Ok.oe (Qv7 (by rw[hy2.win];simp)) (Ok.t ?_))))))))))
  try dsimp only
  rw[Qa (by omega)];exact hK
theorem Qvp(h:Q1 n c)(hn:n≤48):WB 1000 c c=some true:=by
 obtain⟨hz,_⟩:=h.zones
 have hpl:=h.plen;have hsl:=h.slen;have hcal:=h.cal
 have hzl:c.Zones.length=1:=by rw[hz];rfl
 refine Ok.eq ?_
 unfold WB
 refine Ok.j (Ok.n (by simp) (Ok.n (by simp) (Ok.n (by simp) (Ok.n (by simp) ?_))))
 refine Ok.run c.Zones.length (fun i=>(((i:Int),()),c,c,())) rfl (by omega) (fun i hi K hK=>?_) (fun K=>?_)
 ·try dsimp only
  have hm:(nth c.Zones i).Rules=[]:=by
    rw[hz];rw[hzl]at hi;obtain rfl:i=0:=by omega
    rfl
  refine Ok.p (by omega) (Ok.atn hi (Ok.atn hi (Ok.oe (Qws hm) (Ok.f ?_))))
  try dsimp only
  rw[Qa (by omega)];exact hK
 try dsimp only
 refine Ok.n (by omega) (Ok.run c.People.length (fun i=>(((i:Int),()),c,c,())) rfl (by omega) (fun i hi K hK=>?_) (fun K=>?_))
 ·try dsimp only
  refine Ok.p (by omega) (Ok.j (Ok.atn hi (Ok.atn hi ?_)))
  have hq:(nth c.People i).Quiet.length≤900:=by
   rcases(h.person _ (Qk hi)).quiet with e|⟨_,_,e,_⟩<;>rw[e]<;>simp
  refine Ok.n (by simp) (Ok.n (by simp) (Ok.n (by simp) (Ok.n (by simp) (Ok.cnd (fun g=>Ok.bt g ?_) (fun g=>Ok.bf g ?_)))))
  all_goals
   refine Ok.oe (Qv7 hq) (Ok.t ?_)
   try dsimp only
   rw[Qa (by omega)];exact hK
 try dsimp only
 refine Ok.n (by omega) (Ok.run 0 (fun i=>(((i:Int),()),c,c,())) rfl (by omega) (fun i hi=>by omega) (fun K=>?_))
 try dsimp only
 refine Ok.n (by rw[hcal];simp) (Ok.run c.Schedules.length (fun i=>(((i:Int),()),c,c,())) rfl (by omega) (fun i hi K hK=>?_) (fun K=>by dsimp only;exact Ok.n (by omega) (Ok.s rfl)))
 try dsimp only
 refine Ok.p (by omega) (Ok.atn hi (Ok.atn hi (Ok.oe (Qwq (h.sched _ (Qk hi)) hn) (Ok.f ?_))))
 try dsimp only
 rw[Qa (by omega)];exact hK
theorem sane31:Qbi 1000=some true:=by kernel_rfl
end
end Go.Proofs.YtgokjdfkpnkekaaGreat
/-
  The laws OplogReplays and OplogKeeps, of what is reckoned of their code.
-/
namespace Go.Proofs.YtgokjdfkpnkekaaGreat
open Go AM
attribute [local irreducible] dueV stepV runV QR answerV opV Yy opsV QsS
section
variable {n:Nat} {c:D.Config} {b:D.Book} {M:Int} {l x:D.Ledger} {o:D.Op} {ops:List D.Op} {L:List Int} {d:D.Dice}
theorem QvX{k:Nat}(hL:L.length≤500)(hd:ZH L d)(hk:k≤9):
  Ok (WJ 1000 d (k:Int)) fun r=>ZH L r.2.2∧∃ops m,m≤k∧Behind ops m r.1:=by
 unfold WJ
 refine Ok.opt (QuH hL hd (by omega)) fun⟨c,d1⟩ ⟨h1,hc⟩=>?_
 try dsimp only at h1 hc ⊢
 refine Ok.opt (QuC hL h1 (by omega)) fun⟨b,d2⟩ ⟨h2,hb⟩=>?_
 try dsimp only at h2 hb ⊢
 refine Ok.oe (Qu8 hc (by omega) hb) ?_
 try dsimp only
 refine Ok.opt (QuV hL h2 hc hb hk) fun⟨l,ops,d⟩ ⟨g1,g2,g3,g4⟩=>Ok.s ⟨g1,ops,ops.length,g3,?_⟩
 dsimp only at g2 g3 g4 ⊢
 have:=Behind.fold hc hb g2 (by omega) (Nat.le_refl _)
 rw[List.take_length]at this
 rw[g4];exact this
end
end Go.Proofs.YtgokjdfkpnkekaaGreat
/-
  The laws OplogRefuses and OplogKeeps, of what is reckoned of their code.
-/
namespace Go.Proofs.YtgokjdfkpnkekaaGreat
open Go AM
section
variable {n:Nat} {c:D.Config} {b:D.Book} {M:Int} {l x:D.Ledger} {o:D.Op} {ops:List D.Op} {L:List Int} {d:D.Dice}
attribute [local irreducible] dueV stepV runV QR
attribute [local irreducible] opV Yy opsV QsS answerV
theorem QsX{k:Int}(h:∀x∈l.Seen,x≤k)(ho:k<o.ID):l.Seen.contains o.ID=false:=by
 cases hc:l.Seen.contains o.ID with
 |false=>rfl
 |true=>
  have:=h _ (List.contains_iff_mem.1 hc)
  omega
end
end Go.Proofs.YtgokjdfkpnkekaaGreat
/-
  The law OplogEdits, of what is reckoned of its code.
-/
namespace Go.Proofs.YtgokjdfkpnkekaaGreat
open Go AM
attribute [local irreducible] dueV stepV runV QR answerV opV Yy opsV QsS
theorem QmB{l:D.Ledger}{o:D.Op}(hk:o.Kind=5):(opV l o).2=if 0≤o.Schedule∧o.Schedule<2 then 0 else 3:=by
 with_unfolding_all unfold opV
 rw[if_neg (by omega),if_neg (by omega),if_neg (by omega),if_neg (by omega)]
 split<;>rfl
theorem Qit(t:List Int):WG 1000 t=some true:=by
  refine Ok.eq ?_
  unfold WG
  refine Ok.oe Qtc (Ok.ncnd (fun _=>Ok.oe sane31 (Ok.s rfl)) fun hl=>Ok.oe Qvm ?_)
  have hL:=Qrl hl
  refine Ok.opt (QvX (k:=6) hL dice0 (by omega)) fun⟨l,z,d⟩ ⟨h1,ops,m,hm,hB⟩=>?_
  try dsimp only at h1 hB ⊢
  have hnow:=hB.made.now;have hn0:=hB.made.inv.now
  refine Ok.opt (QaK hL h1 (by simp) (by simp)) fun⟨a,d2⟩ ⟨h2,ha⟩=>?_
  try dsimp only at h2 ha ⊢
  simp only[List.mem_cons,List.not_mem_nil,or_false]at ha
  refine Ok.opt (nx hL h2 (by omega) (by omega)) fun⟨s,d3⟩ ⟨h3,l3,u3⟩=>?_
  try dsimp only at h3 l3 u3 ⊢
  refine Ok.opt (QeC hL h3) fun⟨e,d4⟩ ⟨h4,he⟩=>?_
  try dsimp only at h4 he ⊢
  rw[Qc (x:=l.Now+a) (by omega)]
  obtain⟨u,hu⟩:∃u,l.Now+a=u:=⟨_,rfl⟩
  rw[hu]
  have hlo:=hB.loose
  obtain⟨o,ho⟩:∃o,D.Op.mk 99 5 0 0 u 0 0 0 s (D.Answer.mk 0 0 0 0 0 0) e=o:=⟨_,rfl⟩
  have o1:o.ID=99:=by rw[←ho]
  have o2:o.Kind=5:=by rw[←ho]
  have o3:o.At=u:=by rw[←ho]
  have o4:o.Schedule=s:=by rw[←ho]
  have o5:o.Edit=e:=by rw[←ho]
  have hin:OpIn o:=by
    rw[←ho]
    exact⟨by dsimp only;omega,by dsimp only;omega,by dsimp only;omega,by dsimp only;omega,by dsimp only;omega,by dsimp only;omega,by dsimp only;omega,fun e=>absurd (show(5:Int)=4 from e) (by omega),fun _=>he⟩
  have hfit:QvI o:=⟨hin,fun e=>by omega,by omega,fun e=>by omega⟩
  rw[ho]
  have hok:=hlo.okAt (by omega) hfit
  have hs:l.Seen.contains o.ID=false:=QsX hB.seen (by rw[o1];omega)
  obtain⟨M,k,g1,g2,g3⟩:=hok.ok
  have hsee:=g1.see hin g3 hs hok.len
  have hsl:=hok.len;have hpg:=hok.pg
  have hprog:=hok.prog
  have hed:=QoY (l:=seeV l o) o2
  have her:=QmB (l:=seeV l o) o2
  have hap:=Qbd hs
  rw[hap]at hprog
  obtain⟨x,r,hx⟩:∃x r,opV (seeV l o) o=(x,r):=⟨_,_,rfl⟩
  rw[hx]at hprog hed her
  dsimp only at hed her
  obtain⟨q1,q2,q3⟩:=hed
  have hun:(seeV l o).Now=u:=by show max l.Now o.At=u;omega
  have hpp:∀j,j<l.Pages.length→nth x.Pages j=(runV l.Config l.Book (nth l.Pages j) u).1:=fun j hj=>by
    rw[q1,QeM (l:=seeV l o) hsee (Nat.le_refl _),if_pos (show j<(seeV l o).Pages.length from hj),hun];rfl
  have hxl:x.Pages.length=l.Pages.length:=by rw[q1];exact(ZS (l:=seeV l o)).2.2.2.2.2.2
  have hq3:x.Config=if 0≤s∧s<2 then QgV l.Config s e else l.Config:=by rw[q3,o4,o5];rfl
  have hcfg:=g1.cfg
  have hbook:=g1.book
  have hat:=fun j hj=>g1.at (i:=j) hj
  rw[o4]at her
  have hk48:k<48:=g2
  have hr13:=QqW (s:=s) hcfg hk48 he
  clear hok hsee q1 q2 q3 hap g3
  have fin:∀K:D.Config,x.Config=K→Q1 (k+1) K→Ok (Qh (X:=((Int×(Int×(Int×Unit)))×(D.Ledger×(D.Ledger×(D.Config×Unit))))) (fun L25 ((a26,(a27,(a28,_))),(a29,(a30,(a31,_))))=>
      cnd (decide (a28<a27))
        (join (Y:=((Int×(Int×(Int×Unit)))×(D.Ledger×(D.Ledger×(D.Config×Unit))))) (fun((a32,(a33,(a34,_))),(a35,(a36,(a37,_))))=>
           (L25 ((a32,(a33,((IntKind.wrap .i64 (a34+1)),()))),(a35,(a36,(a37,())))))) fun J38=>
          (atc (D.Ledger.Pages a29) a28 fun a39=>
           (optc (Qgk 1000 (D.Ledger.Config a29) (D.Ledger.Book a29) a39 a26) fun(a40,a41)=>
            (cnd (decide (a41≠0))
             (some false)
             (atc (D.Ledger.Pages a30) a28 fun a42=>
              (optc (Qfu 1000 a40 a42) fun a43=>
               (cnd a43
                (J38 ((a26,(a27,(a28,()))),(a29,(a30,(a31,())))))
                (some false))))))))
         (optc (WB 1000 (D.Ledger.Config a30) a31) fun a44=>
          (cnd a44
           (optc (Qbi 1000) fun a45=>
            (cnd a45
             (some true)
             (some false)))
           (some false)))) 1000 ((u,((((l.Pages.length):Nat):Int),(0,()))),(l,(x,(K,()))))) (·=true):=by
    intro K hK hKc
    refine Ok.run l.Pages.length (fun i=>((u,((l.Pages.length:Nat):Int),(i:Int),()),l,x,K,())) rfl (by omega) (fun i hi k' hk'=>?_) (fun k'=>?_)
    · try dsimp only
      have hv:=QaX (c:=l.Config) (now:=u) hbook QT.step (hat i hi).1
      have hrun:=Qo5 (now:=u) hcfg (by omega) hbook ((hat i hi).1.plen hbook)
      have hp:=hpp i hi
      obtain⟨q,e0,hqe⟩:∃q e0,runV l.Config l.Book (nth l.Pages i) u=(q,e0):=⟨_,_,rfl⟩
      rw[hqe]at hv hrun hp
      dsimp only at hv hp
      refine Ok.p (by omega) (Ok.j (Ok.atn hi (Ok.oe hrun ?_)))
      try dsimp only
      refine Ok.n (by rw[hv.2.1];simp) (Ok.atn (by omega) ?_)
      rw[hp]
      refine Ok.oe (QpU (hv.1.plen hbook)) (Ok.t ?_)
      try dsimp only
      rw[Qa (by omega)];exact hk'
    · try dsimp only
      refine Ok.n (by omega) ?_
      rw[hK]
      exact Ok.oe (Qvp hKc (by omega)) (Ok.t (Ok.oe sane31 (Ok.t (Ok.s rfl))))
  by_cases hh:0≤s∧s<2
  · rw[if_pos hh]at hr13 hq3 her
    refine Ok.oe hprog (Ok.oe hr13 ?_)
    try dsimp only
    refine Ok.j (Ok.n (by omega) (Ok.n (by omega) ?_))
    try dsimp only
    refine Ok.j (Ok.n (by simp) ?_)
    try dsimp only
    exact fin _ hq3 (Qhe hcfg he hh)
  · rw[if_neg hh]at hr13 hq3 her
    refine Ok.oe hprog (Ok.oe hr13 ?_)
    try dsimp only
    refine Ok.j (Ok.n (by omega) (Ok.n (by omega) ?_))
    try dsimp only
    refine Ok.j (Ok.p (by simp) ?_)
    try dsimp only
    exact fin _ hq3 (hcfg.mono (by omega))
end Go.Proofs.YtgokjdfkpnkekaaGreat
