/-
  Ledgers, in plain Lean: what operations make of them, and what they keep.
-/
import Derived.Test.YtgokjdfkpnkekaaGreatQRowRefusesE
set_option maxRecDepth 100000
set_option linter.unusedSimpArgs false
set_option linter.unusedVariables false
namespace Go.Proofs.YtgokjdfkpnkekaaGreat
open Go AM
def QF(id f:Int)(l:List D.Start):List D.Call:=l.flatMap fun s=>s.People.map fun x=>D.Call.mk id s.K s.At x f
theorem Qa6{id f:Int}{a b:List D.Start}:QF id f (a++b)=QF id f a++QF id f b:=by unfold QF;rw[List.flatMap_append]
def unf(c:D.Call):D.Call:={ c with Fence:=0 }
theorem QnM{id f:Int}{l:List D.Start}:(QF id f l).map unf=QF id 0 l:=by
 unfold QF
 rw[List.map_flatMap]
 congr 1
 funext s
 rw[List.map_map];rfl
def ownC(id:Int)(l:List D.Call):List D.Call:=l.filter fun c=>decide (c.Page=id)
theorem VS{id:Int}{a b:List D.Call}:ownC id (a++b)=ownC id a++ownC id b:=List.filter_append ..
theorem X3{id f:Int}{l:List D.Start}:∀c∈QF id f l,c.Page=id∧c.Fence=f:=by
 intro c hc
 unfold QF at hc
 obtain⟨s,_,hc⟩:=List.mem_flatMap.1 hc
 obtain⟨x,_,rfl⟩:=List.mem_map.1 hc
 exact⟨rfl,rfl⟩
theorem QiB{id f:Int}{l:List D.Start}:ownC id (QF id f l)=QF id f l:=by
 unfold ownC
 exact List.filter_eq_self.2 fun c hc=>by simpa using(X3 c hc).1
theorem QpH{id i f:Int}{l:List D.Start}(h:i≠id):ownC i (QF id f l)=[]:=by
 unfold ownC
 exact List.filter_eq_nil_iff.2 fun c hc=>by have:=(X3 c hc).1;simp;omega
structure Told (fence:Int) (p:D.Page) (l:List D.Call):Prop where
 same:(ownC p.ID l).map unf=QF p.ID 0 p.Starts
 up:(ownC p.ID l).Pairwise fun x y=>x.Fence≤y.Fence
 fit:∀c∈ownC p.ID l,0≤c.Fence∧c.Fence≤fence
theorem Told.mono{f g:Int}{p:D.Page}{l:List D.Call}(h:Told f p l)(hg:f≤g):Told g p l:=⟨h.same,h.up,fun c hc=>by have:=h.fit c hc;omega⟩
theorem Told.more{f:Int}{p q:D.Page}{l:List D.Call}{m:List D.Start}(h:Told f p l)(hf:0≤f)(hid:q.ID=p.ID)(hs:q.Starts=p.Starts++m):Told f q (l++QF p.ID f m):=by
 refine⟨?_,?_,?_⟩
 ·rw[hid,VS,QiB,List.map_append,h.same,QnM,hs,Qa6]
 ·rw[hid,VS,QiB]
  refine List.pairwise_append.2 ⟨h.up,?_,fun x hx y hy=>?_⟩
  ·refine List.pairwise_iff_forall_sublist.2 fun{x y} hxy=>?_
   have h1:=(X3 x (hxy.subset (by simp))).2
   have h2:=(X3 y (hxy.subset (by simp))).2
   omega
  ·have h1:=(h.fit x hx).2
   have h2:=(X3 y hy).2
   omega
 ·rw[hid,VS,QiB]
  intro c hc
  rcases List.mem_append.1 hc with hc|hc
  ·exact h.fit c hc
  ·have:=(X3 c hc).2;omega
theorem Told.other{f id:Int}{p:D.Page}{l:List D.Call}{m:List D.Start}(h:Told f p l)(hid:p.ID≠id):Told f p (l++QF id f m):=by
 have e:ownC p.ID (l++QF id f m)=ownC p.ID l:=by rw[VS,QpH hid,List.append_nil]
 exact⟨by rw[e];exact h.same,by rw[e];exact h.up,by rw[e];exact h.fit⟩
def AscP(l:List D.Page):Prop:=l.Pairwise fun p q=>p.ID<q.ID
def posV(id:Int):List D.Page→Nat
 |[]=>0
 |p::r=>if p.ID<id then posV id r+1 else 0
theorem Qba{id:Int}:∀{l:List D.Page},posV id l≤l.length
 |[]=>Nat.le_refl _
 |p::r=>by
  rw[posV]
  split
  ·have:=Qba (id:=id) (l:=r);rw[List.length_cons];omega
  ·exact Nat.zero_le _
def hasV(id:Int)(l:List D.Page):Bool:=decide (posV id l<l.length∧(nth l (posV id l)).ID=id)
theorem UT{α:Type}[Inhabited α]{x:α}{l:List α}{i:Nat}:nth (x::l) (i+1)=nth l i:=by simp[nth]
theorem Qb1{α:Type}[Inhabited α]{x:α}{l:List α}:nth (x::l) 0=x:=by simp[nth]
theorem Qk7{id:Int}:∀{l:List D.Page} {i:Nat},i<posV id l→(nth l i).ID<id
 |[],i,h=>by simp[posV]at h
 |p::r,i,h=>by
  rw[posV]at h
  split at h
  ·rename_i hp
   cases i with
   |zero=>rw[Qb1];exact hp
   |succ i=>rw[UT];exact Qk7 (by omega)
  ·omega
theorem Qk5{id:Int}:∀{l:List D.Page},AscP l→∀{i:Nat},posV id l≤i→i<l.length→id≤(nth l i).ID
 |[],_,i,_,h=>by simp at h
 |p::r,ha,i,h1,h2=>by
  have ha':=List.pairwise_cons.1 ha
  rw[posV]at h1
  split at h1
  ·cases i with
   |zero=>omega
   |succ i=>rw[UT];exact Qk5 ha'.2 (by omega) (by simpa using h2)
  ·cases i with
   |zero=>rw[Qb1];omega
   |succ i=>
    rw[UT]
    have:=ha'.1 (nth r i) (Qj (by simpa using h2))
    omega
theorem QbP{l:List D.Page}(h:AscP l){i j:Nat}(hij:i<j)(hj:j<l.length):(nth l i).ID<(nth l j).ID:=by
 have:=List.pairwise_iff_getElem.1 h i j (by omega) hj hij
 simpa [nth,List.getD_eq_getElem?_getD,List.getElem?_eq_getElem hj,List.getElem?_eq_getElem (show i<l.length by omega)]using this
theorem Qgj{l:List D.Page}(h:AscP l){i:Nat}(hi:i<l.length):posV (nth l i).ID l=i:=by
 rcases Nat.lt_trichotomy (posV (nth l i).ID l) i with g|g|g
 ·have:=Qk5 h (Nat.le_refl (posV (nth l i).ID l)) (by omega)
  have:=QbP h g hi
  omega
 ·exact g
 ·have:=Qk7 g;omega
theorem QkK{l:List D.Page}(h:AscP l){i:Nat}(hi:i<l.length):hasV (nth l i).ID l=true:=by
 unfold hasV;rw[Qgj h hi];simp[hi]
theorem Qrc{id:Int}{l:List D.Page}(ha:AscP l)(h:hasV id l=false):∀p∈l,p.ID≠id:=by
 intro p hp e
 obtain⟨i,hi,rfl⟩:=List.getElem_of_mem hp
 have e1:nth l i=l[i]:=by simp[nth,List.getD_eq_getElem?_getD,List.getElem?_eq_getElem hi]
 have:=QkK ha hi
 rw[e1,e,h]at this
 simp at this
def insP(l:List D.Page)(p:D.Page):List D.Page:=l.take (posV p.ID l)++p::l.drop (posV p.ID l)
theorem QrJ{id:Int}:∀{l:List D.Page},∀p∈l.take (posV id l),p.ID<id
 |[],p,h=>by simp at h
 |q::r,p,h=>by
  rw[posV]at h
  split at h
  ·rename_i hq
   rw[List.take_succ_cons]at h
   rcases List.mem_cons.1 h with rfl|h
   ·exact hq
   ·exact QrJ p h
  ·simp at h
theorem Qn3{id:Int}:∀{l:List D.Page},AscP l→∀p∈l.drop (posV id l),id≤p.ID
 |[],_,p,h=>by simp at h
 |q::r,ha,p,h=>by
  have ha':=List.pairwise_cons.1 ha
  rw[posV]at h
  split at h
  ·rw[List.drop_succ_cons]at h;exact Qn3 ha'.2 p h
  ·rename_i hq
   rw[List.drop_zero]at h
   rcases List.mem_cons.1 h with rfl|h
   ·omega
   ·have:=ha'.1 p h;omega
theorem Qs5{l:List D.Page}{p:D.Page}(h:AscP l)(hn:hasV p.ID l=false):AscP (insP l p):=by
 have hne:=Qrc h hn
 refine List.pairwise_append.2 ⟨h.sublist (List.take_sublist ..),List.pairwise_cons.2 ⟨fun q hq=>?_,h.sublist (List.drop_sublist ..)⟩,fun q hq r hr=>?_⟩
 ·have:=Qn3 h q hq
  have:=hne q (List.mem_of_mem_drop hq)
  omega
 ·have h1:=QrJ q hq
  rcases List.mem_cons.1 hr with rfl|hr
  ·exact h1
  ·have:=Qn3 h r hr;omega
theorem Qfg{l:List D.Page}{p q:D.Page}:q∈insP l p↔q=p∨q∈l:=by
 unfold insP
 rw[List.mem_append,List.mem_cons]
 constructor
 ·rintro(h|h|h)
  ·exact .inr (List.mem_of_mem_take h)
  ·exact .inl h
  ·exact .inr (List.mem_of_mem_drop h)
 ·rintro(h|h)
  ·exact .inr (.inl h)
  ·have h2:=h
   rw[←List.take_append_drop (posV p.ID l) l]at h2
   rcases List.mem_append.1 h2 with h2|h2
   ·exact .inl h2
   ·exact .inr (.inr h2)
theorem QtD{l:List D.Page}{i:Nat}{p:D.Page}(h:AscP l)(hi:i<l.length)(hp:p.ID=(nth l i).ID):AscP (l.set i p):=by
 have e:∀j,j<l.length→(nth (l.set i p) j).ID=(nth l j).ID:=fun j hj=>by
  by_cases hij:j=i
  ·subst hij;simp[nth,List.getD_eq_getElem?_getD,hi]at hp ⊢;exact hp
  ·simp[nth,List.getD_eq_getElem?_getD,List.getElem?_set,Ne.symm hij]
 refine List.pairwise_iff_getElem.2 fun j k hj hk hjk=>?_
 have hj':j<l.length:=by simpa using hj
 have hk':k<l.length:=by simpa using hk
 have h1:=e j hj';have h2:=e k hk'
 have h3:=QbP h hjk hk'
 have g1:nth (l.set i p) j=(l.set i p)[j]:=by simp only[nth,List.getD_eq_getElem?_getD,List.getElem?_eq_getElem hj,Option.getD_some]
 have g2:nth (l.set i p) k=(l.set i p)[k]:=by simp only[nth,List.getD_eq_getElem?_getD,List.getElem?_eq_getElem hk,Option.getD_some]
 rw[g1]at h1;rw[g2]at h2
 omega
structure QlO (l:List Int) (n:Nat):Prop where
 len:l.length≤n
 nodup:l.Nodup
 fit:∀x∈l,1≤x∧x≤1099511627776
theorem QlO.snoc{l:List Int}{n:Nat}{x:Int}(h:QlO l n)(h1:1≤x∧x≤1099511627776)(h2:l.contains x=false):QlO (l++[x]) (n+1):=by
 refine⟨by have:=h.len;simp;omega,List.nodup_append.2 ⟨h.nodup,by simp,fun y hy z hz e=>?_⟩,fun y hy=>?_⟩
 ·rw[List.mem_singleton.1 hz]at e
  subst e
  rw[List.contains_iff_mem.2 hy]at h2;simp at h2
 ·rcases List.mem_append.1 hy with hy|hy
  ·exact h.fit y hy
  ·rw[List.mem_singleton.1 hy];exact h1
def QT:Int→D.Start→Prop:=fun _ s=>s.People.length≤4
theorem QT.step{M:Int}{c:D.Config}{b:D.Book}:QgS QT M c b:=fun _ _ _ _=>Ql2
theorem Goes.short{Q:D.Start→Prop}{st k t h:Int}{l:List D.Start}(hq:∀s,Q s→s.People.length≤4)(g:Goes Q st l k t h):∀s∈l,s.People.length≤4:=by
 induction g with
 |nil=>intro s hs;simp at hs
 |step g h1 h2 h3 h4 ih=>
  intro s hs
  rcases List.mem_append.1 hs with hs|hs
  ·exact ih s hs
  ·rw[List.mem_singleton.1 hs];exact hq _ h4
 |hand g h1 h2 h3 h4 ih=>
  intro s hs
  rcases List.mem_append.1 hs with hs|hs
  ·exact ih s hs
  ·rw[List.mem_singleton.1 hs];simp
structure Qd (M:Int) (n:Nat) (l:D.Ledger):Prop where
 top:M≤8000000000
 now:0≤l.Now∧l.Now≤M - 20000
 small:n≤48
 cfg:Q1 n l.Config
 book:QH l.Book
 page:∀p∈l.Pages,QM QT M l.Book p∧p.Last≤l.Now
 asc:AscP l.Pages
 len:l.Pages.length≤64
 owner : -1≤l.Owner∧l.Owner≤4
 fence:0≤l.Fence∧l.Fence≤(l.Seen.length:Int)
 seen:QlO l.Seen 256
 told:∀p∈l.Pages,Told l.Fence p l.Calls
 all:∀c∈l.Calls,∃p∈l.Pages,p.ID=c.Page
def putV(l:D.Ledger)(i:Nat)(p:D.Page):D.Ledger:=
 { l with Pages:=l.Pages.set i p,Calls:=l.Calls++QF p.ID l.Fence (p.Starts.drop (nth l.Pages i).Starts.length) }
def runI(l:D.Ledger)(i:Nat):D.Ledger:=if (runV l.Config l.Book (nth l.Pages i) l.Now).2≠0 then l else putV l i (runV l.Config l.Book (nth l.Pages i) l.Now).1
def Zi(l:D.Ledger):Nat→D.Ledger
 |0=>l
 |k+1=>runI (Zi l k) k
def Qia(c:D.Config)(i:Int)(x:D.Edit):D.Config:=
 { c with Schedules:=c.Schedules.set i.toNat { nth c.Schedules i.toNat with Edits:=(nth c.Schedules i.toNat).Edits++[x] } }
def opV(l:D.Ledger)(o:D.Op):D.Ledger×Int:=
  if o.Kind=1 then
    (if hasV o.Page l.Pages=true then(l,4)else if l.Pages.length=64 then(l,5)else if o.Page<1 then(l,1)
     else if 0≤o.Policy∧o.Policy<(l.Book.Policies.length:Int)then(runI { l with Pages:=insP l.Pages (newP o.Page o.Policy l.Now) } (posV o.Page l.Pages),0)else(l,3))
  else if o.Kind=2 then(if o.Fence=l.Fence+1 then({ l with Owner:=o.Region,Fence:=o.Fence },0)else(l,23))
  else if o.Kind=3 then
    (if o.Region=l.Owner∧o.Fence=l.Fence then
      (if hasV o.Page l.Pages=true then
        (if Xb (nth l.Pages (posV o.Page l.Pages)) l.Now=true∧o.K=(if (nth l.Pages (posV o.Page l.Pages)).State=2 then -1 else(nth l.Pages (posV o.Page l.Pages)).Next)then(runI l (posV o.Page l.Pages),0)else(l,9))
       else(l,3))
     else(l,23))
  else if o.Kind=4 then
    (if hasV o.Answer.Page l.Pages=true then
      (if (answerV l.Book (nth (runI l (posV o.Answer.Page l.Pages)).Pages (posV o.Answer.Page l.Pages)) { o.Answer with At:=l.Now }).2=0 then
         (putV (runI l (posV o.Answer.Page l.Pages)) (posV o.Answer.Page l.Pages) (answerV l.Book (nth (runI l (posV o.Answer.Page l.Pages)).Pages (posV o.Answer.Page l.Pages)) { o.Answer with At:=l.Now }).1,0)
       else(runI l (posV o.Answer.Page l.Pages),(answerV l.Book (nth (runI l (posV o.Answer.Page l.Pages)).Pages (posV o.Answer.Page l.Pages)) { o.Answer with At:=l.Now }).2))
     else(l,3))
  else if 0≤o.Schedule∧o.Schedule<2 then({ Zi l l.Pages.length with Config:=Qia l.Config o.Schedule o.Edit },0)else(Zi l l.Pages.length,3)
def ZL(l:D.Ledger)(o:D.Op):D.Ledger×Int:=
 if l.Seen.contains o.ID=true then(l,0)else opV { l with Now:=max l.Now o.At,Seen:=l.Seen++[o.ID] } o
section
variable {M:Int} {n:Nat} {l:D.Ledger} {i:Nat} {p q:D.Page} {b:D.Book} {c:D.Config} {now:Int}
def Ext(p q:D.Page):Prop:=∃m,q.Starts=p.Starts++m
theorem Ext.refl(p:D.Page):Ext p p:=⟨[],by simp⟩
theorem Ext.step(h:Ext p q):Ext p (stepQ c b q):=by
 obtain⟨m,hm⟩:=h
 unfold stepQ
 split
 ·exact⟨m,hm⟩
 ·split
  ·exact⟨m,hm⟩
  ·exact⟨m++[_],by dsimp only;rw[hm,List.append_assoc]⟩
theorem Qlx(hb:QH b)(h:QM QT M b p):Ext p (runV c b p now).1:=
 Qhx hb QT.step (fun q _ _ hr=>hr.step) h (Ext.refl p)
theorem Qep{a:D.Answer}:Ext p (Y6 p a):=by
 by_cases h:a.Kind=4
 ·exact⟨_,QhG.1 h⟩
 ·exact⟨[],by rw[QhG.2 h];simp⟩
theorem QpN(hx:Ext (nth l.Pages i) p):∃m,p.Starts=(nth l.Pages i).Starts++m∧(putV l i p).Calls=l.Calls++QF p.ID l.Fence m:=by
 obtain⟨m,hm⟩:=hx
 refine⟨m,hm,?_⟩
 unfold putV
 dsimp only
 rw[hm,List.drop_left]
theorem Xq{α:Type}[Inhabited α]{l:List α}{i:Nat}{x:α}(h:i<l.length):nth (l.set i x) i=x:=by
 simp[nth,List.getD_eq_getElem?_getD,h]
theorem U6{α:Type}[Inhabited α]{l:List α}{i j:Nat}{x:α}(h:j≠i):nth (l.set i x) j=nth l j:=by
 simp[nth,List.getD_eq_getElem?_getD,List.getElem?_set,Ne.symm h]
theorem QkS{α:Type}[Inhabited α]{l:List α}{x:α}(h:x∈l):∃i,i<l.length∧nth l i=x:=by
 obtain⟨i,hi,e⟩:=List.getElem_of_mem h
 exact⟨i,hi,by simp[nth,List.getD_eq_getElem?_getD,List.getElem?_eq_getElem hi,e]⟩
theorem Qd.put(h:Qd M n l)(hi:i<l.Pages.length)(hp:QM QT M l.Book p)(hl:p.Last≤l.Now)(hid:p.ID=(nth l.Pages i).ID)(hx:Ext (nth l.Pages i) p):Qd M n (putV l i p):=by
 obtain⟨m,hm,hc⟩:=QpN hx
 have hf:=h.fence
 have hpage:∀q∈(l.Pages.set i p),q=p∨(q∈l.Pages∧q.ID≠p.ID):=by
  intro q hq
  obtain⟨j,hj,rfl⟩:=QkS hq
  rw[List.length_set]at hj
  by_cases e:j=i
  ·subst e;rw[Xq hj];exact .inl rfl
  ·rw[U6 e]
   refine .inr ⟨Qj hj,fun e2=>?_⟩
   rw[hid]at e2
   have h1:=Qgj h.asc hj
   have h2:=Qgj h.asc hi
   rw[e2]at h1;omega
 refine⟨h.top,h.now,h.small,h.cfg,h.book,fun q hq=>?_,QtD h.asc hi hid,by show(l.Pages.set i p).length≤64;rw[List.length_set];exact h.len,h.owner,h.fence,h.seen,fun q hq=>?_,fun x hx=>?_⟩
 ·rcases hpage q hq with rfl|⟨hq,_⟩
  ·exact⟨hp,hl⟩
  ·exact h.page q hq
 ·rw[hc]
  show Told l.Fence q _
  rcases hpage q hq with rfl|⟨hq,hne⟩
  ·exact hid ▸ (h.told _ (Qj hi)).more hf.1 hid hm
  ·exact(h.told q hq).other hne
 ·rw[hc]at hx
  show ∃q∈l.Pages.set i p,q.ID=x.Page
  rcases List.mem_append.1 hx with hx|hx
  ·obtain⟨q,hq,e⟩:=h.all x hx
   obtain⟨j,hj,rfl⟩:=QkS hq
   by_cases e2:j=i
   ·subst e2;exact⟨p,by have:=Qj (l:=l.Pages.set j p) (i:=j) (by simpa using hj);rwa [Xq hj]at this,by rw[hid,e]⟩
   ·exact⟨_,by have:=Qj (l:=l.Pages.set i p) (i:=j) (by simpa using hj);rwa [U6 e2]at this,e⟩
  ·exact⟨p,by have:=Qj (l:=l.Pages.set i p) (i:=i) (by simpa using hi);rwa [Xq hi]at this,(X3 x hx).1.symm⟩
theorem Qd.at(h:Qd M n l)(hi:i<l.Pages.length):QM QT M l.Book (nth l.Pages i)∧(nth l.Pages i).Last≤l.Now:=h.page _ (Qj hi)
theorem Qd.runEq(h:Qd M n l)(hi:i<l.Pages.length):runI l i=putV l i (runV l.Config l.Book (nth l.Pages i) l.Now).1:=by
 unfold runI
 rw[(Qch h.book QT.step (h.at hi).1).2.1,if_neg (by simp)]
theorem Qd.run(h:Qd M n l)(hi:i<l.Pages.length):Qd M n (runI l i):=by
 rw[h.runEq hi]
 have hp:=h.at hi
 exact h.put hi (Qch h.book QT.step hp.1).1 (Qr2 h.book QT.step hp.1 hp.2) (Qdp h.book QT.step hp.1).id (Qlx h.book hp.1)
theorem Y0:(runI l i).Now=l.Now∧(runI l i).Config=l.Config∧(runI l i).Book=l.Book∧(runI l i).Owner=l.Owner∧(runI l i).Fence=l.Fence∧(runI l i).Seen=l.Seen∧(runI l i).Pages.length=l.Pages.length:=by
 unfold runI putV
 split
 ·exact⟨rfl,rfl,rfl,rfl,rfl,rfl,rfl⟩
 ·exact⟨rfl,rfl,rfl,rfl,rfl,rfl,by simp⟩
theorem QbD(h:Qd M n l)(hi:i<l.Pages.length){j:Nat}:nth (runI l i).Pages j=if j=i then(runV l.Config l.Book (nth l.Pages i) l.Now).1 else nth l.Pages j:=by
 rw[h.runEq hi]
 unfold putV
 dsimp only
 split
 ·rename_i e;subst e;rw[Xq hi]
 ·rename_i e;rw[U6 e]
theorem Yi:∀{k:Nat},(Zi l k).Now=l.Now∧(Zi l k).Config=l.Config∧(Zi l k).Book=l.Book∧(Zi l k).Owner=l.Owner∧(Zi l k).Fence=l.Fence∧(Zi l k).Seen=l.Seen∧(Zi l k).Pages.length=l.Pages.length
 |0=>⟨rfl,rfl,rfl,rfl,rfl,rfl,rfl⟩
 |k+1=>by
  have h1:=Y0 (l:=Zi l k) (i:=k)
  have h2:=Yi (k:=k)
  rw[Zi]
  exact⟨h1.1.trans h2.1,h1.2.1.trans h2.2.1,h1.2.2.1.trans h2.2.2.1,h1.2.2.2.1.trans h2.2.2.2.1,h1.2.2.2.2.1.trans h2.2.2.2.2.1,h1.2.2.2.2.2.1.trans h2.2.2.2.2.2.1,h1.2.2.2.2.2.2.trans h2.2.2.2.2.2.2⟩
theorem Qd.runs(h:Qd M n l):∀{k:Nat},k≤l.Pages.length→Qd M n (Zi l k)
 |0,_=>h
 |k+1,hk=>by
  have h2:=Yi (l:=l) (k:=k)
  exact(h.runs (k:=k) (by omega)).run (by omega)
theorem QkB{x:D.Edit}{s:Int}(h:Q1 n c)(hx:Qab x)(hs:0≤s∧s<2):Q1 (n+1) (Qia c s x):=by
 have hsl:=h.slen
 have hi:s.toNat<c.Schedules.length:=by omega
 have hso:=h.sched _ (Qj hi)
 refine⟨h.zone,h.pname,h.person,h.cal,?_,fun y hy=>?_⟩
 ·rw[←h.sname]
  unfold Qia
  dsimp only
  refine List.ext_getElem (by simp) fun j h1 h2=>?_
  simp only[List.getElem_map,List.getElem_set]
  split
  ·rename_i e;subst e
   simp[nth,List.getD_eq_getElem?_getD,List.getElem?_eq_getElem hi]
  ·rfl
 ·obtain⟨j,hj,rfl⟩:=QkS hy
  have hj:j<(c.Schedules.set s.toNat _).length:=hj
  rw[List.length_set]at hj
  show QbO (n+1) (nth (c.Schedules.set s.toNat _) j)
  by_cases e:j=s.toNat
  ·subst e
   rw[Xq hi]
   exact⟨hso.layers,by have:=hso.len;simp;omega,fun z hz=>by
    rcases List.mem_append.1 hz with hz|hz
    ·exact hso.edit z hz
    ·rw[List.mem_singleton.1 hz];exact hx⟩
  ·rw[U6 e]
   have:=h.sched _ (Qj hj)
   exact⟨this.layers,by have:=this.len;omega,this.edit⟩
structure OpIn (o:D.Op):Prop where
 id:1≤o.ID∧o.ID≤1099511627776
 kind:1≤o.Kind∧o.Kind≤5
 region:0≤o.Region∧o.Region≤4
 fence:0≤o.Fence∧o.Fence≤1048576
 at_:0≤o.At∧o.At≤8589934592
 page:0≤o.Page∧o.Page≤999999
 k : -1≤o.K∧o.K≤1000
 answer:o.Kind=4→Yy o.Answer=true∧(o.Answer.Kind=3→o.Answer.Arg≤5000)
 edit:o.Kind=5→Qab o.Edit
theorem Qsm{a:D.Answer}{t:Int}(h:Yy a=true)(ht:0≤t∧t≤8589934592):Yy { a with At:=t }=true:=by
 unfold Yy at h ⊢
 simp only[bae,QL]at h ⊢
 exact⟨⟨⟨⟨⟨h.1.1.1.1.1,h.1.1.1.1.2⟩,h.1.1.1.2⟩,ht⟩,h.1.2⟩,h.2⟩
theorem Qd.see{o:D.Op}(h:Qd M n l)(ho:OpIn o)(hn:max l.Now o.At≤M - 20000)(hs:l.Seen.contains o.ID=false)(hl:l.Seen.length<256):Qd M n { l with Now:=max l.Now o.At,Seen:=l.Seen++[o.ID] }:=by
 have hnow:=h.now;have hf:=h.fence
 refine⟨h.top,⟨by dsimp only;omega,hn⟩,h.small,h.cfg,h.book,fun p hp=>⟨(h.page p hp).1,by have:=(h.page p hp).2;dsimp only;omega⟩,h.asc,h.len,h.owner,⟨hf.1,by dsimp only;rw[List.length_append];simp;omega⟩,?_,h.told,h.all⟩
 have:=h.seen.snoc ho.id hs
 exact⟨by dsimp only;simp;omega,this.nodup,this.fit⟩
theorem Qd.open{o:D.Op}(h:Qd M n l)(hp:hasV o.Page l.Pages=false)(h1:1≤o.Page∧o.Page≤999999)(h2:0≤o.Policy∧o.Policy<(l.Book.Policies.length:Int))(hl:l.Pages.length<64):
  Qd M n { l with Pages:=insP l.Pages (newP o.Page o.Policy l.Now) }∧posV o.Page l.Pages<(insP l.Pages (newP o.Page o.Policy l.Now)).length∧nth (insP l.Pages (newP o.Page o.Policy l.Now)) (posV o.Page l.Pages)=newP o.Page o.Policy l.Now:=by
 have hnow:=h.now
 have hnew:QM QT M l.Book (newP o.Page o.Policy l.Now):=Qvi h.top h.book h1 h2 hnow
 have hlen:(insP l.Pages (newP o.Page o.Policy l.Now)).length=l.Pages.length+1:=by
  unfold insP;rw[List.length_append,List.length_cons,List.length_take,List.length_drop]
  have:=Qba (id:=o.Page) (l:=l.Pages)
  show min (posV o.Page l.Pages) _+(_ - posV o.Page l.Pages+1)=_
  omega
 have hpos:=Qba (id:=o.Page) (l:=l.Pages)
 refine⟨⟨h.top,h.now,h.small,h.cfg,h.book,fun q hq=>?_,Qs5 h.asc hp,by dsimp only;omega,h.owner,h.fence,h.seen,fun q hq=>?_,fun x hx=>?_⟩,by omega,?_⟩
 ·rcases Qfg.1 hq with rfl|hq
  ·exact⟨hnew,Int.le_refl _⟩
  ·exact h.page q hq
 ·rcases Qfg.1 hq with rfl|hq
  ·have e:ownC o.Page l.Calls=[]:=List.filter_eq_nil_iff.2 fun x hx=>by
    obtain⟨q,hq,e⟩:=h.all x hx
    have:=Qrc h.asc hp q hq
    simp;omega
   exact⟨by show(ownC o.Page l.Calls).map unf=_;rw[e];rfl,by show(ownC o.Page l.Calls).Pairwise _;rw[e];exact List.Pairwise.nil,by show ∀x∈ownC o.Page l.Calls,_;rw[e];simp⟩
  ·exact h.told q hq
 ·obtain⟨q,hq,e⟩:=h.all x hx
  exact⟨q,Qfg.2 (.inr hq),e⟩
 ·unfold insP
  show nth (l.Pages.take (posV o.Page l.Pages)++_::_) (posV o.Page l.Pages)=_
  simp[nth,List.getD_eq_getElem?_getD,List.getElem?_append,Nat.min_eq_left hpos]
theorem Qd.own{o:D.Op}(h:Qd M n l)(ho:OpIn o)(hf:o.Fence=l.Fence+1)(hs:l.Fence<(l.Seen.length:Int)):Qd M n { l with Owner:=o.Region,Fence:=o.Fence }:=by
 have hr:=ho.region;have h0:=h.fence
 exact⟨h.top,h.now,h.small,h.cfg,h.book,h.page,h.asc,h.len,⟨by dsimp only;omega,by dsimp only;omega⟩,⟨by dsimp only;omega,by dsimp only;omega⟩,h.seen,fun p hp=>(h.told p hp).mono (by dsimp only;omega),h.all⟩
theorem Qd.edit{o:D.Op}(h:Qd M n l)(hn:n<48)(hx:Qab o.Edit)(hs:0≤o.Schedule∧o.Schedule<2):Qd M (n+1) { l with Config:=Qia l.Config o.Schedule o.Edit }:=
 ⟨h.top,h.now,by omega,QkB h.cfg hx hs,h.book,h.page,h.asc,h.len,h.owner,h.fence,h.seen,h.told,h.all⟩
theorem Qd.wide(h:Qd M n l)(hn:n<48):Qd M (n+1) l:=
 ⟨h.top,h.now,by omega,h.cfg.mono (by omega),h.book,h.page,h.asc,h.len,h.owner,h.fence,h.seen,h.told,h.all⟩
theorem VP{id:Int}(h:hasV id l.Pages=true):posV id l.Pages<l.Pages.length∧(nth l.Pages (posV id l.Pages)).ID=id:=by
 unfold hasV at h;exact of_decide_eq_true h
theorem Qd.answer{a:D.Answer}(h:Qd M n l)(hi:i<l.Pages.length)(ha:a.At=l.Now)(hv:Yy a=true)(hs:a.Kind=3→a.Arg≤5000)(hr:(answerV l.Book (nth l.Pages i) a).2=0):Qd M n (putV l i (answerV l.Book (nth l.Pages i) a).1):=by
 have hp:=h.at hi
 have hc:=hp.1.check h.book
 have hnow:=h.now
 revert hr
 unfold answerV
 rw[hc,hv,if_neg (by simp)]
 split
 ·intro e;simp at e
 ·split
  ·intro _;exact h.put hi hp.1 hp.2 rfl (Ext.refl _)
  ·rename_i hs2
   split
   ·rename_i hre;intro e;exact absurd e hre
   ·rename_i hre
    intro _
    have hre:Xy (nth l.Pages i) a=0:=by simpa using hre
    have h0:=Qm9 hre
    exact h.put hi (hp.1.answerQ_inv h.book hv (by omega) hs (by simpa using hs2) hre) (by rw[←ha];exact QlR h0.1) QfR.1 Qep
theorem Qd.op{o:D.Op}(h:Qd M n l)(hn:n<48)(ho:OpIn o)(hs:l.Fence<(l.Seen.length:Int)):Qd M (n+1) (opV l o).1:=by
 have hw:=h.wide hn
 have hk:=ho.kind
 unfold opV
 split
 ·split
  ·exact hw
  ·rename_i hp
   split
   ·exact hw
   ·split
    ·exact hw
    ·split
     ·rename_i h1 h2 h3
      have h4:=ho.page;have h5:=h.len
      have:=hw.open (o:=o) (by simpa using hp) (by omega) h3 (by omega)
      exact this.1.run this.2.1
     ·exact hw
 ·split
  ·split
   ·rename_i hf
    exact hw.own ho hf hs
   ·exact hw
  ·split
   ·split
    ·split
     ·rename_i hp
      generalize (if (nth l.Pages (posV o.Page l.Pages)).State=2 then(-1:Int)else(nth l.Pages (posV o.Page l.Pages)).Next)=kk
      split
      ·exact hw.run (VP hp).1
      ·exact hw
     ·exact hw
    ·exact hw
   ·split
    ·rename_i k4
     split
     ·rename_i hp
      have hi:=(VP hp).1
      have hr:=hw.run hi
      have hkp:=Y0 (l:=l) (i:=posV o.Answer.Page l.Pages)
      have ha:=ho.answer k4
      have hnow:=h.now;have htop:=h.top
      split
      ·rename_i he
       have:=hr.answer (i:=posV o.Answer.Page l.Pages) (a:={ o.Answer with At:=l.Now }) (by omega) hkp.1.symm (Qsm ha.1 (by omega)) ha.2 (by rw[hkp.2.2.1];exact he)
       rw[hkp.2.2.1]at this
       exact this
      ·exact hr
     ·exact hw
    ·have he:=ho.edit (by omega)
     split
     ·rename_i hsch
      have h3:=h.runs (Nat.le_refl _)
      have h4:=Yi (l:=l) (k:=l.Pages.length)
      have:=h3.edit hn he hsch
      rw[h4.2.1]at this
      exact this
     ·exact hw.runs (Nat.le_refl _)
theorem Qd.apply{o:D.Op}(h:Qd M n l)(hn:n<48)(ho:OpIn o)(ht:max l.Now o.At≤M - 20000)(hl:l.Seen.length<256):Qd M (n+1) (ZL l o).1:=by
 unfold ZL
 split
 ·exact h.wide hn
 ·rename_i hs
  exact(h.see ho ht (by simpa using hs) hl).op hn ho (by dsimp only;have:=h.fence;rw[List.length_append];simp;omega)
end
end Go.Proofs.YtgokjdfkpnkekaaGreat
/-
  Ledgers looked at: what the reference's calls and checks compute.
-/
namespace Go.Proofs.YtgokjdfkpnkekaaGreat
open Go AM
attribute [local irreducible] dueV stepV runV QR answerV
section
variable {n:Nat} {c:D.Config} {b:D.Book} {p q:D.Page} {now M:Int} {l:D.Ledger}
theorem Qae{id f:Int}{m:Nat}:∀{l:List D.Start},(∀s∈l,s.People.length≤m)→(QF id f l).length≤m*l.length
 |[],_=>by simp[QF]
 |s::l,h=>by
  have:=Qae (id:=id) (f:=f) (l:=l) fun x hx=>h x (List.mem_cons_of_mem _ hx)
  have h1:=h s (List.mem_cons_self ..)
  unfold QF at this ⊢
  rw[List.flatMap_cons,List.length_append,List.length_map,List.length_cons,Nat.mul_succ];omega
theorem QcL{id f:Int}{l:List D.Start}{s:D.Start}:QF id f (l++[s])=QF id f l++s.People.map fun x=>D.Call.mk id s.K s.At x f:=by
 rw[Qa6];unfold QF;simp
theorem Qo2{α:Type}[Inhabited α]{l:List α}{k j:Nat}:nth (l.drop k) j=nth l (k+j):=by
 simp[nth,List.getD_eq_getElem?_getD,List.getElem?_drop]
theorem Qkt(h:Qx p){k:Nat}{f:Int}(hk:k≤p.Starts.length):Qby 1000 p (k:Int) f=some (QF p.ID f (p.Starts.drop k)):=by
 have hst:=h.st
 refine Ok.eq ?_
 unfold Qby
 refine Ok.run (p.Starts.length - k) (fun j=>((f,((k+j:Nat):Int),()),p,QF p.ID f ((p.Starts.drop k).take j),())) rfl (by omega) (fun j hj kk hkk=>?_) (fun kk=>?_)
 ·try dsimp only
  have hlt:k+j<p.Starts.length:=by omega
  refine Ok.p (by omega) (Ok.atn hlt ?_)
  have hpe:=(h.pe _ (Qj hlt)).1
  have hdl:j<(p.Starts.drop k).length:=by simp;omega
  have hts:(p.Starts.drop k).take (j+1)=(p.Starts.drop k).take j++[nth p.Starts (k+j)]:=by rw[←QG hdl,Qo2]
  have hol:(QF p.ID f ((p.Starts.drop k).take j)).length≤40*((p.Starts.drop k).take j).length:=Qae (m:=40) fun s hs=>(h.pe s (List.mem_of_mem_drop (List.mem_of_mem_take hs))).1
  rw[List.length_take]at hol
  obtain⟨s,hs⟩:∃s,nth p.Starts (k+j)=s:=⟨_,rfl⟩
  rw[hs]at hpe hts ⊢
  refine Ok.run s.People.length (fun z=>((f,((k+j:Nat):Int),(z:Int),()),p,s,QF p.ID f ((p.Starts.drop k).take j)++(s.People.take z).map (fun x=>D.Call.mk p.ID s.K s.At x f),())) (by rw[List.take_zero,List.map_nil,List.append_nil];rfl) (by omega) (fun z hz k2 hk2=>?_) (fun k2=>?_)
  ·try dsimp only
   refine Ok.p (by omega) (Ok.atn hz (Ok.lec ?_ ?_))
   ·simp only[List.length_append,List.length_map,List.length_take,List.length_cons,List.length_nil];omega
   ·try dsimp only
    rw[Qa (by omega)]
    try dsimp only at hk2
    rw[←QG hz,List.map_append,←List.append_assoc]at hk2
    exact hk2
  ·try dsimp only
   refine Ok.n (by omega) ?_
   try dsimp only
   rw[Qa (by omega),List.take_length]
   try dsimp only at hkk
   rw[hts,QcL]at hkk
   exact hkk
 ·try dsimp only
  refine Ok.n (by omega) (Ok.s ?_)
  rw[List.take_of_length_le (by simp)]
theorem Qjr{id:Int}{cs:List D.Call}{i:Nat}(hi:i<cs.length):ownC id (cs.take (i+1))=ownC id (cs.take i)++(if (nth cs i).Page=id then[nth cs i]else[]):=by
 rw[←QG hi,VS]
 congr 1
 unfold ownC
 by_cases h:(nth cs i).Page=id
 ·simp[h]
 ·simp[h]
theorem QvK(h:Qx p)(hl:l.Calls.length≤900)(ht:Told l.Fence p l.Calls):QdX 1000 l p=some true:=by
 have hW:=ht.same
 obtain⟨W,hWe⟩:∃W,QF p.ID 0 p.Starts=W:=⟨_,rfl⟩
 rw[hWe]at hW
 have hWl:W.length=(ownC p.ID l.Calls).length:=by rw[←hW,List.length_map]
 have hol:∀i,(ownC p.ID (l.Calls.take i)).length≤900:=fun i=>by
  unfold ownC
  exact Nat.le_trans (List.length_filter_le _ _) (by rw[List.length_take];omega)
 refine Ok.eq ?_
 unfold QdX
 have hc:=Qkt (k:=0) (f:=0) h (Nat.zero_le _)
 rw[List.drop_zero,hWe]at hc
 refine Ok.oe hc ?_
 refine Ok.loop (fun m x=>∃(i:Nat) (fe:Int),x=((W,((ownC p.ID (l.Calls.take i)).length:Int),fe,(i:Int),()),l,p,())∧i≤l.Calls.length∧(fe=0∨∃c∈ownC p.ID (l.Calls.take i),c.Fence=fe)∧m=l.Calls.length - i) (m:=l.Calls.length) (by omega)
  ⟨0,0,by rw[List.take_zero];rfl,by omega,.inl rfl,rfl⟩ ?_
 rintro m x ⟨i,fe,rfl,i1,i2,rfl⟩ K hK
 try dsimp only
 have hoi:=hol i
 refine Ok.ite (fun hi=>?_) (fun hi=>?_)
 ·have hlt:i<l.Calls.length:=by omega
  refine Ok.j (Ok.atn hlt ?_)
  have hsu:=Qjr (id:=p.ID) hlt
  have hsp:l.Calls=l.Calls.take i++nth l.Calls i::l.Calls.drop (i+1):=by rw[←QcQ hlt,List.take_append_drop]
  obtain⟨c,hce⟩:∃c,nth l.Calls i=c:=⟨_,rfl⟩
  rw[hce]at hsu hsp ⊢
  refine Ok.ite (fun g=>?_) (fun g=>?_)
  ·rw[if_neg g,List.append_nil]at hsu
   try dsimp only
   rw[Qa (by omega)]
   refine hK _ _ (by omega) ⟨i+1,fe,by rw[hsu],by omega,by rw[hsu];exact i2,rfl⟩
  ·have g:c.Page=p.ID:=by omega
   rw[if_pos g]at hsu
   have hown:ownC p.ID l.Calls=ownC p.ID (l.Calls.take i)++c::ownC p.ID (l.Calls.drop (i+1)):=by
    rw[hsp,VS]
    congr 1
    ·rw[←hsp]
    ·unfold ownC
     rw[List.filter_cons_of_pos (by simpa using g)]
     rw[←hsp]
   have hcm:c∈ownC p.ID l.Calls:=by rw[hown];simp
   have hfit:=ht.fit c hcm
   have hle:fe≤c.Fence:=by
    rcases i2 with rfl|⟨c',hc',rfl⟩
    ·exact hfit.1
    ·have:=ht.up
     rw[hown]at this
     exact(List.pairwise_append.1 this).2.2 c' hc' c (List.mem_cons_self ..)
   have hn:(ownC p.ID (l.Calls.take i)).length<W.length:=by rw[hWl,hown];simp
   have hnth:nth W (ownC p.ID (l.Calls.take i)).length=unf c:=by
    have e:W=(ownC p.ID (l.Calls.take i)).map unf++(unf c::(ownC p.ID (l.Calls.drop (i+1))).map unf):=by rw[←hW,hown,List.map_append,List.map_cons]
    rw[e]
    simp[nth,List.getD_eq_getElem?_getD]
   refine Ok.join (fun y=>y=((W,((ownC p.ID (l.Calls.take i)).length:Int),(i:Int),()),l,p,c,())) (fun y hy=>?_) (fun J hJ=>Ok.n (by omega) (Ok.n (by omega) (Ok.n (by omega) (hJ _ rfl))))
   subst hy
   try dsimp only
   refine Ok.atn hn ?_
   rw[hnth]
   refine Ok.n (fun h=>h rfl) ?_
   try dsimp only
   rw[Qa (by omega),Qa (by omega)]
   refine hK _ _ (by omega) ⟨i+1,c.Fence,by rw[hsu];simp,by omega,.inr ⟨c,by rw[hsu];simp,rfl⟩,rfl⟩
 ·have e:i=l.Calls.length:=by omega
  subst e
  refine Ok.s (decide_eq_true ?_)
  rw[List.take_length,hWl]
def sumC(l:List D.Page)(f:D.Page→Nat):Nat:=(l.map f).sum
theorem QtH{l:List D.Page}{f g h:D.Page→Nat}(e:∀p∈l,f p=g p+h p):sumC l f=sumC l g+sumC l h:=by
 induction l with
 |nil=>rfl
 |cons p l ih=>
  have:=ih fun q hq=>e q (List.mem_cons_of_mem _ hq)
  have h1:=e p (List.mem_cons_self ..)
  simp only[sumC,List.map_cons,List.sum_cons]at this ⊢
  omega
theorem QtI{l:List D.Page}{x:Int}(ha:AscP l)(hx:∃p∈l,p.ID=x):sumC l (fun p=>if x=p.ID then 1 else 0)=1:=by
 induction l with
 |nil=>obtain⟨p,hp,_⟩:=hx;simp at hp
 |cons q l ih=>
  have ha':=List.pairwise_cons.1 ha
  have hz:∀(l:List D.Page),(∀p∈l,x≠p.ID)→sumC l (fun p=>if x=p.ID then 1 else 0)=0:=by
   intro l
   induction l with
   |nil=>intro _;rfl
   |cons p l ih=>
    intro h
    simp only[sumC,List.map_cons,List.sum_cons]
    rw[if_neg (h p (List.mem_cons_self ..))]
    have:=ih fun q hq=>h q (List.mem_cons_of_mem _ hq)
    unfold sumC at this;omega
  simp only[sumC,List.map_cons,List.sum_cons]
  by_cases e:x=q.ID
  ·rw[if_pos e]
   have:=hz l fun p hp e'=>by have:=ha'.1 p hp;omega
   unfold sumC at this;omega
  ·rw[if_neg e]
   have:=ih ha'.2 (by
    obtain⟨p,hp,h2⟩:=hx
    rcases List.mem_cons.1 hp with rfl|hp
    ·exact absurd h2.symm e
    ·exact⟨p,hp,h2⟩)
   unfold sumC at this;omega
theorem Qkd{l:List D.Page}(ha:AscP l):∀{cs:List D.Call},(∀c∈cs,∃p∈l,p.ID=c.Page)→sumC l (fun p=>(ownC p.ID cs).length)=cs.length
 |[],_=>by
  have:∀l:List D.Page,sumC l (fun p=>(ownC p.ID []).length)=0:=by
   intro l
   induction l with
   |nil=>rfl
   |cons p l ih=>simp only[sumC,List.map_cons,List.sum_cons]at ih ⊢;simpa [ownC]using ih
  rw[this];rfl
 |c::cs,h=>by
  have h1:=Qkd ha (cs:=cs) fun x hx=>h x (List.mem_cons_of_mem _ hx)
  have h2:=QtI ha (h c (List.mem_cons_self ..))
  rw[QtH (g:=fun p=>(ownC p.ID cs).length) (h:=fun p=>if c.Page=p.ID then 1 else 0) (fun p hp=>?_),h1,h2,List.length_cons]
  unfold ownC
  by_cases e:c.Page=p.ID
  ·rw[List.filter_cons_of_pos (by simpa using e),if_pos e,List.length_cons]
  ·rw[List.filter_cons_of_neg (by simpa using e),if_neg e];rfl
theorem Qot{l:List D.Page}{f:D.Page→Nat}{m:Nat}(h:∀p∈l,f p≤m):sumC l f≤m*l.length:=by
 induction l with
 |nil=>simp[sumC]
 |cons p l ih=>
  have h1:=h p (List.mem_cons_self ..)
  have h2:=ih fun q hq=>h q (List.mem_cons_of_mem _ hq)
  simp only[sumC,List.map_cons,List.sum_cons,List.length_cons]at h2 ⊢
  have:m*(l.length+1)=m*l.length+m:=Nat.mul_succ ..
  omega
end
end Go.Proofs.YtgokjdfkpnkekaaGreat
/-
  Books that dice make are right, for the reference's check.
-/
namespace Go.Proofs.YtgokjdfkpnkekaaGreat
open Go AM
section
variable {n:Nat} {c:D.Config} {b:D.Book}
theorem QkV{α:Type}[Inhabited α]{l:List α}{k i:Nat}(h:i<k):nth (l.take k) i=nth l i:=by
 simp[nth,List.getD_eq_getElem?_getD,List.getElem?_take,h]
theorem QH.tnm(h:QH b){i:Nat}(hi:i<b.Teams.length):(nth b.Teams i).Name=nth Qe2 i:=by
 rw[Qhm h.tname hi,QkV hi]
theorem QH.pnm(h:QH b){i:Nat}(hi:i<b.Policies.length):(nth b.Policies i).Name=nth Qjc i:=by
 rw[Qhm h.pname hi,QkV hi]
theorem forall3{P:Nat→Prop}(h0:P 0)(h1:P 1)(h2:P 2):∀i,i<3→P i:=fun i hi=>by
 rcases(show i=0∨i=1∨i=2 by omega)with rfl|rfl|rfl
 ·exact h0
 ·exact h1
 ·exact h2
theorem Qvc:∀i,i<2→QdP 1000 (nth Qe2 i)=some true:=forall2 (by kernel_rfl) (by kernel_rfl)
theorem Qvb:∀i,i<3→QdP 1000 (nth Qjc i)=some true:=forall3 (by kernel_rfl) (by kernel_rfl) (by kernel_rfl)
theorem Ql0:∀i,i<2→∀j,j<i→nth Qe2 j≠nth Qe2 i:=by decide
theorem Qoy:∀i,i<3→∀j,j<i→nth Qjc j≠nth Qjc i:=by decide
theorem QvB{l:List Int}{m:Int}(ha:Asc l)(hm:∀x∈l,0≤x∧x<m)(hl:l.length<900):Qcb 1000 l m=some true:=by
 refine Ok.eq ?_
 unfold Qcb
 refine Ok.run l.length (fun i=>((l,m,(i:Int),()),())) rfl (by omega) (fun i hi k hk=>?_) (fun k=>by dsimp only;exact Ok.n (by omega) (Ok.s rfl))
 have hx:=hm _ (Qj hi)
 dsimp only
 refine Ok.p (by omega) (Ok.j (Ok.atn hi (Ok.n (by omega) (Ok.atn hi (Ok.n (by omega) ?_)))))
 dsimp only
 rw[Qa (by omega)]
 by_cases h0:0<i
 ·refine Ok.p (by omega) ?_
  rw[show IntKind.wrap .i64 ((i:Int) - 1)=((i - 1:Nat):Int)by rw[Qc (by omega)];omega]
  have:=QfS ha (show i - 1<i by omega) hi
  exact Ok.atn (by omega) (Ok.atn hi (Ok.n (by omega) hk))
 ·exact Ok.n (by omega) hk
theorem Qsj(h:Q1 n c)(hb:QH b){i:Nat}(hi:i<b.Teams.length):Qhs 1000 c b (i:Int)=some 0:=by
 have htl:=hb.tlen
 have ht:=hb.team _ (Qj hi)
 have hnm:=hb.tnm hi
 have hpl:=h.plen
 refine Ok.eq ?_
 unfold Qhs
 refine Ok.atn hi (Ok.oe (by rw[hnm];exact Qvc i (by omega)) (Ok.nt rfl ?_))
 obtain⟨x,hx⟩:∃x,nth b.Teams i=x:=⟨_,rfl⟩
 rw[hx]at ht hnm ⊢
 refine Ok.run2 i (fun k=>((i:Int),(k:Int),())) rfl (by omega) (fun k hk K hK=>?_) (fun K=>?_)
 ·dsimp only
  refine Ok.p (by omega) (Ok.atn (by omega) (Ok.n ?_ ?_))
  ·rw[hb.tnm (by omega),hnm];exact Ql0 i (by omega) k hk
  ·rw[Qa (by omega)];exact hK
 ·dsimp only
  have hml:=ht.len
  refine Ok.n (by omega) (Ok.n (by omega) ?_)
  refine Ok.run2 (x.Members.length - 1) (fun k=>(((k+1:Nat):Int),())) rfl (by omega) (fun k hk K hK=>?_) (fun K=>?_)
  ·dsimp only
   rw[show IntKind.wrap .i64 (((k+1:Nat):Int) - 1)=((k:Nat):Int)by rw[Qc (by omega)];omega]
   have:=QfS ht.asc (show k<k+1 by omega) (show k+1<x.Members.length by omega)
   refine Ok.p (by omega) (Ok.atn (by omega) (Ok.atn (by omega) (Ok.n (by omega) ?_)))
   rw[Qa (by omega)];exact hK
  ·dsimp only
   refine Ok.n (by omega) (Ok.oe (QvB ht.asc (fun z hz=>?_) (by omega)) (Ok.nt rfl (Ok.s rfl)))
   have:=ht.mem z hz;omega
theorem Qnn(h:Q1 n c)(hb:QH b){l:List D.Target}(hl:l.length≤2)(ht:∀x∈l,Va b.Teams.length x):Qcc 1000 c b l=some 0:=by
 have hpl:=h.plen;have hsl:=h.slen
 refine Ok.eq ?_
 unfold Qcc
 refine Ok.n (by omega) (Ok.run l.length (fun i=>((l,(i:Int),()),c,b,())) rfl (by omega) (fun i hi k hk=>?_) (fun k=>by dsimp only;exact Ok.n (by omega) (Ok.s rfl)))
 dsimp only
 have hx:=ht _ (Qj hi)
 have h1:=hx.lo;have h2:=hx.person;have h3:=hx.sched;have h4:=hx.team
 refine Ok.p (by omega) (Ok.j ?_)
 refine Ok.join (fun y=>∃m:Int,y=((l,(i:Int),m,()),c,b,())∧(nth l i).Index<m) (fun y hy=>?_) (fun J hJ=>?_)
 ·obtain⟨m,rfl,hm⟩:=hy
  dsimp only
  rw[Qa (by omega)]
  exact Ok.atn hi (Ok.n (by omega) (Ok.atn hi (Ok.n (by omega) hk)))
 ·refine Ok.atn hi ?_
  rcases hx.kind with hk|hk|hk
  ·have:=h2 hk
   exact Ok.p hk (hJ _ ⟨_,rfl,by omega⟩)
  ·have:=h3 hk
   exact Ok.n (by omega) (Ok.p hk (hJ _ ⟨_,rfl,by omega⟩))
  ·have:=h4 hk
   exact Ok.n (by omega) (Ok.n (by omega) (Ok.p hk (hJ _ ⟨_,rfl,by omega⟩)))
theorem Qn2(h:Q1 n c)(hb:QH b){i:Nat}(hi:i<b.Policies.length):QdS 1000 c b (i:Int)=some 0:=by
 have htl:=hb.plen
 have ht:=hb.pol _ (Qj hi)
 have hnm:=hb.pnm hi
 refine Ok.eq ?_
 unfold QdS
 refine Ok.atn hi (Ok.oe (by rw[hnm];exact Qvb i (by omega)) (Ok.nt rfl ?_))
 obtain⟨x,hx⟩:∃x,nth b.Policies i=x:=⟨_,rfl⟩
 rw[hx]at ht hnm ⊢
 refine Ok.run2 i (fun k=>((i:Int),(k:Int),())) rfl (by omega) (fun k hk K hK=>?_) (fun K=>?_)
 ·dsimp only
  refine Ok.p (by omega) (Ok.atn (by omega) (Ok.n ?_ ?_))
  ·rw[hb.pnm (by omega),hnm];exact Qoy i (by omega) k hk
  ·rw[Qa (by omega)];exact hK
 ·dsimp only
  have hml:=ht.len;have hrp:=ht.rep
  refine Ok.n (by omega) (Ok.n (by omega) (Ok.n (by omega) (Ok.oe rin (Ok.nt (QL.2 (by omega)) ?_))))
  refine Ok.run2 x.Steps.length (fun k=>((k:Int),())) rfl (by omega) (fun k hk K hK=>?_) (fun K=>by dsimp only;exact Ok.n (by omega) (Ok.s rfl))
  dsimp only
  have hs:=ht.step _ (Qj hk)
  have hw:=hs.wait
  refine Ok.p (by omega) (Ok.atn hk (Ok.oe rin (Ok.nt (QL.2 (by omega)) (Ok.atn hk (Ok.oe (Qnn h hb hs.len hs.target) (Ok.n (by simp) ?_))))))
  rw[Qa (by omega)];exact hK
theorem Ql1(h:Q1 n c)(hn:n≤48)(hb:QH b):Qdf 1000 c b=some 0:=by
 have htl:=hb.tlen;have hpl:=hb.plen
 refine Ok.eq ?_
 unfold Qdf
 refine Ok.oe (QcN h hn) (Ok.n (by simp) (Ok.opt (P:=(·=0)) ?_ fun r hr=>Ok.s hr))
 unfold Qlk
 refine Ok.j (Ok.n (by omega) (Ok.n (by omega) ?_))
 refine Ok.run b.Teams.length (fun i=>(((i:Int),()),c,b,())) rfl (by omega) (fun i hi k hk=>?_) (fun k=>?_)
 ·dsimp only
  refine Ok.p (by omega) (Ok.oe (Qsj h hb hi) (Ok.n (by simp) ?_))
  rw[Qa (by omega)];exact hk
 ·dsimp only
  refine Ok.n (by omega) (Ok.run b.Policies.length (fun i=>(((i:Int),()),c,b,())) rfl (by omega) (fun i hi k hk=>?_) (fun k=>by dsimp only;exact Ok.n (by omega) (Ok.s rfl)))
  dsimp only
  refine Ok.p (by omega) (Ok.oe (Qn2 h hb hi) (Ok.n (by simp) ?_))
  rw[Qa (by omega)];exact hk
end
end Go.Proofs.YtgokjdfkpnkekaaGreat
/-
  Ledgers: what the reference's check, search and runs compute.
-/
namespace Go.Proofs.YtgokjdfkpnkekaaGreat
open Go AM
attribute [local irreducible] dueV stepV runV QR answerV
section
variable {n:Nat} {c:D.Config} {b:D.Book} {p q:D.Page} {now M:Int} {l:D.Ledger} {i:Nat}
theorem Qd.callsN(h:Qd M n l):sumC l.Pages (fun p=>(ownC p.ID l.Calls).length)=l.Calls.length:=Qkd h.asc h.all
theorem Qd.ownN(h:Qd M n l)(hp:p∈l.Pages):(ownC p.ID l.Calls).length=(QF p.ID 0 p.Starts).length:=by
 have:=(h.told p hp).same
 rw[←this,List.length_map]
theorem Qd.callsLe(h:Qd M n l)(hpg:l.Pages.length≤9):l.Calls.length≤468:=by
 rw[←h.callsN]
 have:=Qot (l:=l.Pages) (f:=fun p=>(ownC p.ID l.Calls).length) (m:=52) fun p hp=>by
  obtain⟨g1,g2⟩:=h.page p hp
  obtain⟨t,g3,_⟩:=g1.goes
  have h1:=Qae (id:=p.ID) (f:=0) (m:=4) (Goes.short (fun s hs=>hs) g3)
  have h2:=(g1.len h.book).1
  show(ownC p.ID l.Calls).length≤52
  rw[h.ownN hp];omega
 omega
theorem Qnm{l:List D.Page}{f:D.Page→Nat}:sumC (l++[p]) f=sumC l f+f p:=by simp[sumC]
theorem QaN(h:Qd M n l)(hpg:l.Pages.length≤9):WC 1000 l=some true:=by
 have htop:=h.top;have hnow:=h.now;have how:=h.owner;have hfe:=h.fence;have hse:=h.seen.len;have hcl:=h.callsLe hpg
 refine Ok.eq ?_
 unfold WC
 refine Ok.j (Ok.oe (Ql1 h.cfg h.small h.book) (Ok.n (by simp) (Ok.oe rin (Ok.bt (QL.2 (by omega)) (Ok.n (by omega) (Ok.oe rin (Ok.bt (QL.2 how) (Ok.oe rin (Ok.bt (QL.2 (by omega)) (Ok.n (by omega) ?_))))))))))
 have hsle:∀i,sumC (l.Pages.take i) (fun p=>(ownC p.ID l.Calls).length)≤468*i:=fun i=>by
  have:=Qot (l:=l.Pages.take i) (f:=fun p=>(ownC p.ID l.Calls).length) (m:=468) fun p hp=>by
   show(ownC p.ID l.Calls).length≤468
   unfold ownC
   exact Nat.le_trans (List.length_filter_le _ _) hcl
  refine Nat.le_trans this (Nat.mul_le_mul_left _ ?_)
  simp only[List.length_take];omega
 refine Ok.run l.Pages.length (fun i=>((((sumC (l.Pages.take i) (fun p=>(ownC p.ID l.Calls).length):Nat):Int),(i:Int),()),l,())) rfl (by omega) (fun i hi k hk=>?_) (fun k=>?_)
 ·try dsimp only
  have hm:=Qj hi
  obtain⟨g1,g2⟩:=h.page _ hm
  have gt:=h.told _ hm
  have hown:=h.ownN hm
  have hs1:=hsle i
  have hs2:=hsle (i+1)
  refine Ok.p (by omega) (Ok.atn hi ?_)
  have hasc:0<i→(nth l.Pages (i - 1)).ID<(nth l.Pages i).ID:=fun h0=>QbP h.asc (by omega) hi
  try dsimp only at hk
  rw[←QG hi,Qnm]at hk
  obtain⟨p,hp⟩:∃p,nth l.Pages i=p:=⟨_,rfl⟩
  rw[hp]at g1 g2 gt hown hk hasc ⊢
  have hpl:=g1.plen h.book
  refine Ok.join (fun y=>y=((((sumC (l.Pages.take i) (fun p=>(ownC p.ID l.Calls).length):Nat):Int),(i:Int),()),l,p,())) (fun y hy=>?_) (fun J hJ=>?_)
  ·subst hy
   try dsimp only
   have hc:=Qkt (k:=0) (f:=0) hpl (Nat.zero_le _)
   rw[List.drop_zero]at hc
   refine Ok.oe hc ?_
   try dsimp only
   rw[Qa (by omega),←hown,Qc (by have:(ownC p.ID l.Calls).length≤468:=(by unfold ownC;exact Nat.le_trans (List.length_filter_le _ _) hcl);omega)]
   exact hk
  ·have tail:Ok (optc (Vs 1000 l.Book p) fun a13=>AM.cnd a13 (AM.cnd (decide (l.Now<p.Last)) (some false) (optc (QdX 1000 l p) fun a14=>AM.cnd a14 (J ((((sumC (l.Pages.take i) (fun p=>(ownC p.ID l.Calls).length):Nat):Int),(i:Int),()),l,p,())) (some false))) (some false)) (·=true):=
    Ok.oe (Qdz h.book hpl) (Ok.bt (g1.check h.book) (Ok.n (by omega) (Ok.oe (QvK hpl (by omega) gt) (Ok.t (hJ _ rfl)))))
   by_cases h0:0<i
   ·refine Ok.p (by omega) ?_
    rw[show IntKind.wrap .i64 ((i:Int) - 1)=((i - 1:Nat):Int)by rw[Qc (by omega)];omega]
    have:=hasc h0
    exact Ok.atn (by omega) (Ok.n (by omega) tail)
   ·exact Ok.n (by omega) tail
 ·try dsimp only
  refine Ok.n (by omega) ?_
  rw[List.take_length,h.callsN]
  refine Ok.run l.Seen.length (fun i=>((((l.Calls.length:Nat):Int),(i:Int),()),l,())) rfl (by omega) (fun i hi k hk=>?_) (fun k=>by dsimp only;exact Ok.n (by omega) (Ok.s (decide_eq_true rfl)))
  try dsimp only
  have hx:=h.seen.fit _ (Qj hi)
  have hno:(l.Seen.take i).contains (nth l.Seen i)=false:=by
   cases hc:(l.Seen.take i).contains (nth l.Seen i)with
   |false=>rfl
   |true=>
    have:=Qhy hi hc
    rw[decide_eq_true h.seen.nodup]at this;simp at this
  refine Ok.p (by omega) (Ok.j (Ok.atn hi (Ok.oe rin (Ok.bt (QL.2 hx) (Ok.natn (Ok.lec (by omega) (Ok.atn hi (Ok.oe (QbU (by simp;omega)) (Ok.bf hno ?_)))))))))
  try dsimp only
  rw[Qa (by omega)];exact hk
abbrev lgA(l:D.Ledger):Int×List D.Zone×List D.Person×List D.Calendar×List D.Schedule×List D.Team×List D.Policy×Int×Int×Unit:=(l.Now,l.Config.Zones,l.Config.People,l.Config.Calendars,l.Config.Schedules,l.Book.Teams,l.Book.Policies,l.Owner,l.Fence,())
def Qf4(l:D.Ledger)(id:Int):D.Page×Bool:=if hasV id l.Pages=true then(nth l.Pages (posV id l.Pages),true)else(page0,false)
theorem QnR{id:Int}(ha:AscP l.Pages)(hi:i<l.Pages.length)(h:(nth l.Pages i).ID=id):Qf4 l id=(nth l.Pages i,true):=by
 subst h
 unfold Qf4
 rw[if_pos (QkK ha hi),Qgj ha hi]
theorem Qq8{id:Int}(h:∀i,i<l.Pages.length→(nth l.Pages i).ID≠id):Qf4 l id=(page0,false):=by
 unfold Qf4
 rw[if_neg]
 intro hh
 have:=VP hh
 exact h _ this.1 this.2
theorem QuZ{id:Int}(hp:∀p∈l.Pages,Qx p)(ha:AscP l.Pages)(hl:l.Pages.length≤64):Qhv 1000 l id=some (Qf4 l id):=by
 refine Ok.eq ?_
 unfold Qhv
 refine Ok.scan2 l.Pages.length (fun i=>(id,(i:Int),())) (fun i=>decide ((nth l.Pages i).ID=id)) rfl (by omega) (fun i hi hq _ k=>?_) (fun i hi hq k hk=>?_) (fun hq k=>?_)
 ·have hq:=of_decide_eq_true hq
  refine Ok.p (by omega) (Ok.atn hi (Ok.p hq (Ok.atn hi (Ok.oe (Qbl (hp _ (Qj hi))) (Ok.s ?_)))))
  rw[QnR ha hi hq]
 ·have hq:=of_decide_eq_false hq
  refine Ok.p (by omega) (Ok.atn hi (Ok.n hq ?_))
  try dsimp only
  rw[Qa (by omega)];exact hk
 ·refine Ok.n (by omega) (Ok.s ?_)
  rw[Qq8 fun i hi=>of_decide_eq_false (hq i hi)];rfl
theorem Qhi{id:Int}(hp:∀p∈l.Pages,Qx p)(ha:AscP l.Pages)(hl:l.Pages.length≤64):ZQ 1000 l id=some (Qf4 l id):=by
 refine Ok.eq ?_
 unfold ZQ
 refine Ok.scan2 l.Pages.length (fun i=>(id,(i:Int),())) (fun i=>decide ((nth l.Pages i).ID=id)) rfl (by omega) (fun i hi hq _ k=>?_) (fun i hi hq k hk=>?_) (fun hq k=>?_)
 ·have hq:=of_decide_eq_true hq
  refine Ok.p (by omega) (Ok.natn (Ok.lt hi (Ok.get hi (Ok.p hq (Ok.natn (Ok.lt hi (Ok.get hi (Ok.oe (Qbl (hp _ (Qj hi))) (Ok.sameC (Ok.sameC (Ok.sameC (Ok.s ?_))))))))))))
  rw[QnR ha hi hq]
 ·have hq:=of_decide_eq_false hq
  refine Ok.p (by omega) (Ok.natn (Ok.lt hi (Ok.get hi (Ok.n hq ?_))))
  try dsimp only
  rw[Qa (by omega)];exact hk
 ·refine Ok.n (by omega) (Ok.sameC (Ok.sameC (Ok.sameC (Ok.s ?_))))
  rw[Qq8 fun i hi=>of_decide_eq_false (hq i hi)];rfl
theorem Qd.plens(h:Qd M n l):∀p∈l.Pages,Qx p:=fun p hp=>(h.page p hp).1.plen h.book
theorem Qt8(ha:AscP l.Pages)(hl:l.Pages.length≤64)(hcl:l.Calls.length≤100000)(hi:i<l.Pages.length)(hid:p.ID=(nth l.Pages i).ID)(hpl:Qx p)(hle:(nth l.Pages i).Starts.length≤p.Starts.length):
  Xj 1000 l p=some (putV l i p):=by
 refine Ok.eq ?_
 unfold Xj
 refine Ok.run l.Pages.length (fun j=>(((j:Int),()),lgA l,p,({ Now:=0,Config:={ Zones:=[],People:=[],Calendars:=[],Schedules:=[] },Book:={ Teams:=[],Policies:=[] },Pages:=[],Owner:=0,Fence:=0,Seen:=[],Calls:=[] }:D.Ledger),(if j≤i then l.Pages else l.Pages.set i p),l.Seen,(if j≤i then l.Calls else l.Calls++QF p.ID l.Fence (p.Starts.drop (nth l.Pages i).Starts.length)),())) (by rw[if_pos (Nat.zero_le _),if_pos (Nat.zero_le _)];rfl) (by omega) (fun j hj k hk=>?_) (fun k=>?_)
 ·try dsimp only[lgA]at hk ⊢
  have hlen:(if j≤i then l.Pages else l.Pages.set i p).length=l.Pages.length:=by split<;>simp
  have hj':j<(if j≤i then l.Pages else l.Pages.set i p).length:=by omega
  have hnth:j≠i→nth (if j≤i then l.Pages else l.Pages.set i p) j=nth l.Pages j:=fun hne=>by
   split
   ·rfl
   ·exact U6 hne
  refine Ok.p (by omega) (Ok.j (Ok.natn (Ok.lt hj' (Ok.get hj' ?_))))
  by_cases e:j=i
  ·subst e
   rw[if_pos (Nat.le_refl _),if_pos (Nat.le_refl _)]
   rw[if_neg (by omega),if_neg (by omega)]at hk
   have hc:=Qkt (k:=(nth l.Pages j).Starts.length) (f:=l.Fence) hpl hle
   have hcb:(QF p.ID l.Fence (p.Starts.drop (nth l.Pages j).Starts.length)).length≤40*(p.Starts.drop (nth l.Pages j).Starts.length).length:=Qae fun s hs=>(hpl.pe s (List.mem_of_mem_drop hs)).1
   have hst:=hpl.st
   rw[List.length_drop]at hcb
   refine Ok.p hid.symm (Ok.natn (Ok.lt hi (Ok.get hi (Ok.oe hc (Ok.lec (by omega) (Ok.natn (Ok.lt hi (Ok.get hi ?_))))))))
   try dsimp only
   rw[Qa (by omega)]
   exact hk
  ·rw[hnth e]
   have hne:(nth l.Pages j).ID≠p.ID:=by
    rw[hid]
    rcases Nat.lt_or_gt_of_ne e with h|h
    ·have:=QbP ha h hi;omega
    ·have:=QbP ha h hj;omega
   refine Ok.n hne ?_
   try dsimp only
   rw[Qa (by omega)]
   have e1:(j+1≤i)=(j≤i):=by apply propext;omega
   simp only[e1]at hk
   exact hk
 ·try dsimp only[lgA]
  rw[if_neg (by omega),if_neg (by omega)]
  refine Ok.n (by simp) (Ok.s ?_)
  rfl
theorem Qlv{id:Int}(h:Qd M n l)(hpg:l.Pages.length≤9):Z2 1000 l id l.Now=some (if hasV id l.Pages=true then runI l (posV id l.Pages)else l):=by
 have hcl:=h.callsLe hpg
 refine Ok.eq ?_
 unfold Z2
 refine Ok.oe (Qhi h.plens h.asc (by omega)) ?_
 unfold Qf4
 by_cases hh:hasV id l.Pages=true
 ·rw[if_pos hh,if_pos hh]
  try dsimp only
  have hi:=VP hh
  obtain⟨g1,g2⟩:=h.at hi.1
  obtain⟨q,r1,r2,r3,r4⟩:=Qr3 (c:=l.Config) h.book QT.step g1 l.Now
  have hx:=Qlx (c:=l.Config) (now:=l.Now) h.book g1
  rw[r1]at hx
  refine Ok.f (Ok.oe (Qty h.cfg h.small h.book (g1.plen h.book)) ?_)
  rw[r1]
  try dsimp only
  refine Ok.n (by simp) (Ok.oe (Qt8 (i:=posV id l.Pages) h.asc (by omega) (by omega) hi.1 r4.id (r2.plen h.book) ?_) (Ok.s ?_))
  ·obtain⟨m,hm⟩:=hx
   try dsimp only at hm
   rw[hm];simp
  ·unfold runI
   rw[r1,if_neg (by simp)]
 ·rw[if_neg hh,if_neg hh]
  exact Ok.t (Ok.s rfl)
end
end Go.Proofs.YtgokjdfkpnkekaaGreat
/-
  Ledgers: what the reference's operations compute.
-/
namespace Go.Proofs.YtgokjdfkpnkekaaGreat
open Go AM
attribute [local irreducible] dueV stepV runV QR answerV
section
variable {n:Nat} {c:D.Config} {b:D.Book} {p q:D.Page} {now M:Int} {l:D.Ledger} {i:Nat} {o:D.Op}
theorem QoB(hp:∀p∈l.Pages,Qx p)(h1:l.Pages.length≤64)(h2:l.Seen.length≤1000)(h3:l.Calls.length≤100000):QdW 1000 l=some l:=by
 refine Ok.eq ?_
 unfold QdW
 refine Ok.run l.Pages.length (fun i=>(((i:Int),()),l,({ Now:=0,Config:={ Zones:=[],People:=[],Calendars:=[],Schedules:=[] },Book:={ Teams:=[],Policies:=[] },Pages:=[],Owner:=0,Fence:=0,Seen:=[],Calls:=[] }:D.Ledger),l.Pages.take i,())) rfl (by omega) (fun i hi k hk=>?_) (fun k=>?_)
 ·try dsimp only
  refine Ok.p (by omega) (Ok.atn hi (Ok.oe (Qbl (hp _ (Qj hi))) (Ok.lec (by simp;omega) ?_)))
  try dsimp only
  rw[Qa (by omega),QG hi]
  exact hk
 ·try dsimp only
  rw[List.take_length]
  exact Ok.n (by omega) (Ok.lec (by omega) (Ok.lec (by omega) (Ok.s rfl)))
theorem QtK{α:Type}[Inhabited α]{L:List α}{k:Nat}{x:α}(h:k<L.length):(L.take (k+1)).set k x=L.take k++[x]:=by
 rw[←QG h,List.set_append_right _ _ (by rw[List.length_take];omega)]
 simp[Nat.min_eq_left (Nat.le_of_lt h)]
theorem Qs7{P:D.Page}{L:List D.Page}{k:Nat}(hk:k≤L.length):
  (List.take (k+1) (L++[P])++List.take ((L++[P]).length - (k+1)) (List.drop k (L++[P]))).set k P=L.take k++P::L.drop k:=by
 have hl:(L++[P]).length=L.length+1:=by simp
 rw[List.set_append_left _ _ (by rw[List.length_take,hl];omega),QtK (by rw[hl];omega),List.take_append_of_le_length hk,List.drop_append_of_le_length hk,hl,show L.length+1 - (k+1)=(L.drop k).length by simp,List.take_left,List.append_assoc]
 rfl
theorem Qvq{id:Int}{L:List D.Page}(ha:AscP L){k:Nat}(hk:k≤L.length)(h1:∀j,j<k→(nth L j).ID<id)(h2:k<L.length→id≤(nth L k).ID):posV id L=k:=by
 rcases Nat.lt_trichotomy (posV id L) k with h|h|h
 ·have:=Qk5 ha (id:=id) (Nat.le_refl _) (show posV id L<L.length by omega)
  have:=h1 _ h;omega
 ·exact h
 ·have:=Qk7 (l:=L) h
  have:=h2 (by have:=Qba (id:=id) (l:=L);omega);omega
theorem Qvj(h:Qd M n l)(hpg:l.Pages.length≤8)(ho:OpIn o)(hk:o.Kind=1):XY 1000 l o l.Now (hasV o.Page l.Pages)=some (opV l o):=by
 have hnow:=h.now;have htop:=h.top;have hpl:=h.book.plen;have hop:=ho.page
 have hsl:=h.seen.len;have hcl:=h.callsLe (by omega)
 refine Ok.eq ?_
 unfold XY opV
 rw[if_pos hk]
 refine Ok.cnd (fun g=>Ok.s ?_) (fun g=>?_)
 ·rw[if_pos g]
 rw[if_neg (by rw[g];simp)]
 refine Ok.n (by omega) ?_
 rw[if_neg (by omega)]
 refine Ok.oe (QkT h.book) ?_
 unfold newV
 by_cases g1:o.Page<1
 ·rw[if_pos g1,if_neg (fun hh=>by have:=QL.1 hh.1;omega)]
  exact Ok.p (by simp) (Ok.s rfl)
 rw[if_neg g1,if_pos ⟨QL.2 (by omega),QL.2 (by omega)⟩]
 by_cases g2:0≤o.Policy∧o.Policy<(l.Book.Policies.length:Int)
 ·rw[if_pos g2,if_pos (QL.2 (by omega))]
  try dsimp only
  refine Ok.n (by simp) ?_
  obtain⟨hi1,hi2,hi3⟩:=h.open (o:=o) g (by omega) g2 (by omega)
  have hple:=Qba (id:=o.Page) (l:=l.Pages)
  refine Ok.join (fun y=>y=((l.Now,((posV o.Page l.Pages:Nat):Int),()),lgA l,({ Now:=0,Config:={ Zones:=[],People:=[],Calendars:=[],Schedules:=[] },Book:={ Teams:=[],Policies:=[] },Pages:=[],Owner:=0,Fence:=0,Seen:=[],Calls:=[] }:D.Ledger),newP o.Page o.Policy l.Now,l.Pages,l.Seen,l.Calls,())) (fun y hy=>?_) (fun J hJ=>?_)
  ·subst hy
   try dsimp only[lgA]
   obtain⟨P,hP⟩:∃P,newP o.Page o.Policy l.Now=P:=⟨_,rfl⟩
   have hPid:P.ID=o.Page:=by subst hP;rfl
   rw[hP]at hi1 hi2 hi3 ⊢
   have hins:insP l.Pages P=l.Pages.take (posV o.Page l.Pages)++P::l.Pages.drop (posV o.Page l.Pages):=by unfold insP;rw[hPid]
   have hle1:(l.Pages++[P]).length=l.Pages.length+1:=by simp
   try dsimp only
   rw[Qa (by omega)]
   refine Ok.lec (by simp;omega) (Ok.natn (Ok.lec (by omega) (Ok.natn (Ok.lec (by omega) (Ok.ck rfl (Ok.ck rfl (Ok.lec (by omega) (Ok.lec (by omega) (Ok.natn (Ok.lt ?_ (Ok.get ?_ ?_)))))))))))
   ·simp only[List.length_append,List.length_take,List.length_drop,List.length_cons,List.length_nil];omega
   ·simp only[List.length_append,List.length_take,List.length_drop,List.length_cons,List.length_nil];omega
   rw[Qs7 hple,←hins]
   have hrun:=Qlv (id:=P.ID) hi1 (by show(insP l.Pages P).length≤9;rw[hins];simp;omega)
   have hpos:posV P.ID (insP l.Pages P)=posV o.Page l.Pages:=by
    have:=Qgj hi1.asc hi2
    rw[hi3]at this;exact this
   have hhas:hasV P.ID (insP l.Pages P)=true:=by
    have:=QkK hi1.asc hi2
    rw[hi3]at this;exact this
   rw[if_pos hhas,hpos]at hrun
   exact Ok.oe hrun (Ok.s rfl)
  ·have hfound:∀k:Nat,k≤l.Pages.length→(∀j,j<k→(nth l.Pages j).ID<o.Page)→(k<l.Pages.length→o.Page≤(nth l.Pages k).ID)→Ok (J ((l.Now,(k:Int),()),lgA l,({ Now:=0,Config:={ Zones:=[],People:=[],Calendars:=[],Schedules:=[] },Book:={ Teams:=[],Policies:=[] },Pages:=[],Owner:=0,Fence:=0,Seen:=[],Calls:=[] }:D.Ledger),newP o.Page o.Policy l.Now,l.Pages,l.Seen,l.Calls,())) _:=fun k h1 h2 h3=>hJ _ (by rw[Qvq h.asc h1 h2 h3])
   refine Ok.scan2 l.Pages.length (fun i=>(l.Now,(i:Int),())) (fun i=>!decide ((nth l.Pages i).ID<o.Page)) rfl (by omega) (fun i hi hq hj k=>?_) (fun i hi hq k hk=>?_) (fun hq k=>?_)
   ·refine Ok.j ?_
    dsimp only
    refine Ok.p (by omega) (Ok.natn (Ok.lt hi (Ok.get hi (Ok.n ?_ (hfound i (by omega) (fun j hj'=>by simpa using hj j hj') (fun _=>by simpa using hq))))))
    have:¬(nth l.Pages i).ID<o.Page:=by simpa using hq
    exact this
   ·have hlt:(nth l.Pages i).ID<o.Page:=by simpa using hq
    refine Ok.j ?_
    dsimp only
    refine Ok.p (by omega) (Ok.natn (Ok.lt hi (Ok.get hi (Ok.p hlt ?_))))
    try dsimp only
    rw[Qa (by omega)];exact hk
   ·refine Ok.j ?_
    dsimp only
    exact(Ok.n (by omega) (hfound l.Pages.length (Nat.le_refl _) (fun j hj'=>by simpa using hq j hj') (fun hh=>absurd hh (Nat.lt_irrefl _))))
 ·rw[if_neg g2,if_neg (fun hh=>g2 (by have:=QL.1 hh;omega))]
  exact Ok.p (by simp) (Ok.s rfl)
theorem QaI{a:D.Answer}(h:(answerV b p a).2=0):(answerV b p a).1=p∨(answerV b p a).1=Y6 p a:=by
 revert h
 unfold answerV
 split
 ·intro h;simp at h
 ·split
  ·intro h;simp at h
  ·split
   ·intro _;exact .inl rfl
   ·split
    ·rename_i hr
     intro h;exact absurd h hr
    ·intro _;exact .inr rfl
theorem Qon(h:Qd M n l)(hi:i<l.Pages.length):(nth (runI l i).Pages i).ID=(nth l.Pages i).ID:=by
 rw[QbD h hi,if_pos rfl]
 exact(Qdp h.book QT.step (h.at hi).1).id
theorem Qtx(h:Qd M n l)(hpg:l.Pages.length≤9)(hk:o.Kind=4)(ha:Yy o.Answer=true):Xx 1000 l o.Answer l.Now=some (opV l o):=by
 have hcl:=h.callsLe hpg
 refine Ok.eq ?_
 unfold Xx opV
 rw[if_neg (by omega),if_neg (by omega),if_neg (by omega),if_pos hk]
 refine Ok.oe (Qhi h.plens h.asc (by omega)) ?_
 unfold Qf4
 by_cases hh:hasV o.Answer.Page l.Pages=true
 ·rw[if_pos hh,if_pos hh]
  try dsimp only
  have hi:=VP hh
  have hrun:=Qlv (id:=o.Answer.Page) h hpg
  rw[if_pos hh]at hrun
  refine Ok.f (Ok.oe hrun ?_)
  have h2:=h.run hi.1
  have hkp:=Y0 (l:=l) (i:=posV o.Answer.Page l.Pages)
  obtain⟨i,hie⟩:∃i,posV o.Answer.Page l.Pages=i:=⟨_,rfl⟩
  rw[hie]at hi h2 hkp ⊢
  have hid2:(nth (runI l i).Pages i).ID=o.Answer.Page:=(Qon h hi.1).trans hi.2
  have hi2:i<(runI l i).Pages.length:=by omega
  have hcl2:=h2.callsLe (by omega)
  refine Ok.oe (Qhi h2.plens h2.asc (by omega)) ?_
  rw[QnR h2.asc hi2 hid2]
  try dsimp only
  obtain⟨a,hae⟩:∃a:D.Answer,a=D.Answer.mk o.Answer.ID o.Answer.Page o.Answer.Person o.Answer.Kind o.Answer.Arg l.Now:=⟨_,rfl⟩
  rw[←hae]
  have hpl2:=h2.plens _ (Qj hi2)
  refine Ok.oe (QnB h2.book hpl2) ?_
  rw[hkp.2.2.1]
  have hz:=QaI (b:=l.Book) (p:=nth (runI l i).Pages i) (a:=a)
  have hAl:=hpl2.answerV (a:=a) h.book
  obtain⟨A,e,hA⟩:∃A e,answerV l.Book (nth (runI l i).Pages i) a=(A,e):=⟨_,_,rfl⟩
  rw[hA]at hz hAl ⊢
  try dsimp only at hz hAl ⊢
  by_cases he:e=0
  ·rw[if_pos he]
   have hq:=hz he
   have hpid:A.ID=(nth (runI l i).Pages i).ID:=by
    rcases hq with rfl|rfl
    ·rfl
    ·exact QfR.1
   have hpst:(nth (runI l i).Pages i).Starts.length≤A.Starts.length:=by
    rcases hq with rfl|rfl
    ·exact Nat.le_refl _
    ·obtain⟨m,hm⟩:=Qep (p:=nth (runI l i).Pages i) (a:=a)
     rw[hm];simp
   refine Ok.n (by omega) (Ok.oe (Qt8 (i:=i) h2.asc (by omega) (by omega) hi2 hpid hAl hpst) (Ok.s rfl))
  ·rw[if_neg he]
   exact Ok.p he (Ok.s rfl)
 ·rw[if_neg hh,if_neg hh]
  exact Ok.t (Ok.s rfl)
theorem QuS{x:D.Edit}{s:Int}(h:Q1 n c)(hn:n<48)(hx:Qab x):Qde 1000 c s x=some (if 0≤s∧s<2 then(Qia c s x,0)else({ Zones:=[],People:=[],Calendars:=[],Schedules:=[] },3)):=by
 have hsl:=h.slen
 refine Ok.eq ?_
 unfold Qde
 refine Ok.j (Ok.oe (QcN h (by omega)) (Ok.n (by simp) (Ok.ite (fun g=>Ok.s ?_) (fun g=>Ok.ite (fun g2=>Ok.s ?_) (fun g2=>?_)))))
 ·rw[if_neg (by omega)]
 ·rw[if_neg (by omega)]
 ·rw[if_pos (by omega)]
  try dsimp only
  have hso:=h.sched _ (Qj (l:=c.Schedules) (i:=s.toNat) (by omega))
  have hlen:=hso.len
  refine Ok.at (by omega) (by omega) (Ok.lec (by omega) (Ok.lec (by simp;omega) (Ok.oe (v:=Qia c s x) ?_ (Ok.oe (QcN (QkB h hx (by omega)) (by omega)) (Ok.n (by simp) (Ok.s rfl))))))
  refine Ok.eq ?_
  unfold Qli
  refine Ok.lec (by omega) (Ok.nat (by omega) (Ok.lt (by omega) (Ok.get (by omega) (Ok.s ?_))))
  rfl
theorem Qqr(h:Qd M n l)(hn:n<48)(hpg:l.Pages.length≤8)(ho:OpIn o):Xw 1000 l o l.Now=some (opV l o):=by
 have hfe:=h.fence;have hse:=h.seen.len;have hkd:=ho.kind;have hof:=ho.fence
 refine Ok.eq ?_
 unfold Xw
 refine Ok.oe (Qhi h.plens h.asc (by omega)) ?_
 have hf2:(Qf4 l o.Page).2=hasV o.Page l.Pages:=by
  unfold Qf4
  by_cases hh:hasV o.Page l.Pages=true
  ·rw[if_pos hh,hh]
  ·rw[if_neg hh];simpa using hh
 obtain⟨fp,fo,hfe2⟩:∃fp fo,Qf4 l o.Page=(fp,fo):=⟨_,_,rfl⟩
 rw[hfe2]at hf2 ⊢
 try dsimp only at hf2 ⊢
 subst hf2
 refine Ok.j (Ok.ite (fun k1=>?_) (fun k1=>Ok.ite (fun k2=>?_) (fun k2=>Ok.ite (fun k3=>?_) (fun k3=>Ok.ite (fun k4=>?_) (fun k4=>Ok.ite (fun k5=>?_) (fun k5=>absurd hkd (by omega)))))))
 ·exact Ok.oe (Qvj h hpg ho k1) (Ok.s rfl)
 ·unfold opV
  rw[if_neg k1,if_pos k2,Qc (by omega)]
  refine Ok.ite (fun g=>Ok.s ?_) (fun g=>Ok.s ?_)
  ·rw[if_neg (by omega)]
  ·rw[if_pos (by omega)]
 ·unfold opV
  rw[if_neg k1,if_neg k2,if_pos k3]
  refine Ok.join (fun y=>y=((l.Now,hasV o.Page l.Pages,()),lgA l,o,({ Now:=0,Config:={ Zones:=[],People:=[],Calendars:=[],Schedules:=[] },Book:={ Teams:=[],Policies:=[] },Pages:=[],Owner:=0,Fence:=0,Seen:=[],Calls:=[] }:D.Ledger),fp,l.Pages,l.Seen,l.Calls,())∧o.Region=l.Owner∧o.Fence=l.Fence) (fun y hy=>?_) (fun J hJ=>Ok.ite (fun g=>Ok.s ?_) (fun g=>Ok.ite (fun g2=>Ok.s ?_) (fun g2=>hJ _ ⟨rfl,by omega,by omega⟩)))
  ·obtain⟨rfl,g1,g2⟩:=hy
   try dsimp only[lgA]
   rw[if_pos ⟨g1,g2⟩]
   refine Ok.ncnd (fun hh=>Ok.s ?_) (fun hh=>?_)
   ·rw[if_neg (by rw[hh];simp)]
   ·rw[if_pos hh]
    have hfp:fp=nth l.Pages (posV o.Page l.Pages):=by
     unfold Qf4 at hfe2
     rw[if_pos hh]at hfe2
     exact(Prod.mk.inj hfe2).1.symm
    subst hfp
    have hrun:=Qlv (id:=o.Page) h (by omega)
    rw[if_pos hh]at hrun
    refine Ok.oe Qe5 ?_
    obtain⟨pg,hpg2⟩:∃pg,nth l.Pages (posV o.Page l.Pages)=pg:=⟨_,rfl⟩
    rw[hpg2]
    obtain⟨kk,hkk⟩:∃kk:Int,(if pg.State=2 then(-1:Int)else pg.Next)=kk:=⟨_,rfl⟩
    rw[hkk]
    have hw:Xb pg l.Now=((dueV pg).2 && decide ((dueV pg).1≤l.Now)):=rfl
    refine Ok.join (fun y=>y=((l.Now,(dueV pg).1,(dueV pg).2,kk,()),lgA l,o,({ Now:=0,Config:={ Zones:=[],People:=[],Calendars:=[],Schedules:=[] },Book:={ Teams:=[],Policies:=[] },Pages:=[],Owner:=0,Fence:=0,Seen:=[],Calls:=[] }:D.Ledger),l.Pages,l.Seen,l.Calls,())) (fun y hy=>?_) (fun J hJ=>Ok.ite (fun g=>hJ _ (by rw[←hkk,if_pos g])) (fun g=>hJ _ (by rw[←hkk,if_neg g])))
    subst hy
    try dsimp only[lgA]
    refine Ok.j (Ok.cnd (fun g3=>Ok.ite (fun g4=>Ok.s ?_) (fun g4=>Ok.ite (fun g5=>Ok.s ?_) (fun g5=>Ok.oe hrun (Ok.s ?_)))) (fun g3=>Ok.s ?_))
    ·rw[if_neg (fun hx=>by rw[hw,g3]at hx;have:=of_decide_eq_true (show decide ((dueV pg).1≤l.Now)=true by simpa using hx.1);omega)]
    ·rw[if_neg (fun hx=>g5 hx.2.symm)]
    ·rw[if_pos ⟨by rw[hw,g3];simp;omega,by omega⟩]
    ·rw[if_neg (fun hx=>by rw[hw,g3]at hx;simp at hx)]
  ·rw[if_neg (by omega)]
  ·rw[if_neg (by omega)]
 ·exact Ok.oe (Qtx h (by omega) k4 (ho.answer k4).1) (Ok.s rfl)
 ·unfold opV
  rw[if_neg k1,if_neg k2,if_neg k3,if_neg k4]
  have hkeep:∀i,(Zi l i).Now=l.Now∧(Zi l i).Config=l.Config∧(Zi l i).Book=l.Book∧(Zi l i).Owner=l.Owner∧(Zi l i).Fence=l.Fence∧(Zi l i).Seen=l.Seen∧(Zi l i).Pages.length=l.Pages.length:=fun i=>Yi
  refine Ok.run l.Pages.length (fun i=>((l.Now,(i:Int),()),lgA (Zi l i),o,({ Now:=0,Config:={ Zones:=[],People:=[],Calendars:=[],Schedules:=[] },Book:={ Teams:=[],Policies:=[] },Pages:=[],Owner:=0,Fence:=0,Seen:=[],Calls:=[] }:D.Ledger),(Zi l i).Pages,(Zi l i).Seen,(Zi l i).Calls,())) rfl (by omega) (fun i hi k hk=>?_) (fun k=>?_)
  ·try dsimp only[lgA]
   have hki:=hkeep i
   have hi2:i<(Zi l i).Pages.length:=by omega
   have hL:=h.runs (k:=i) (by omega)
   have hrun:=Qlv (id:=(nth (Zi l i).Pages i).ID) hL (by omega)
   rw[if_pos (QkK hL.asc hi2),Qgj hL.asc hi2,hki.1]at hrun
   refine Ok.p (by omega) (Ok.natn (Ok.lt hi2 (Ok.get hi2 (Ok.oe hrun ?_))))
   try dsimp only
   rw[Qa (by omega)]
   exact hk
  ·try dsimp only[lgA]
   have hki:=hkeep l.Pages.length
   refine Ok.n (by omega) ?_
   have hed:=QuS (c:=l.Config) (s:=o.Schedule) h.cfg hn (ho.edit k5)
   refine Ok.oe (v:=if 0≤o.Schedule∧o.Schedule<2 then(Qia l.Config o.Schedule o.Edit,0)else({ Zones:=[],People:=[],Calendars:=[],Schedules:=[] },3)) ?_ ?_
   ·rw[←hed]
    show Qde 1000 (Zi l l.Pages.length).Config _ _=_
    rw[hki.2.1]
   ·by_cases hs:0≤o.Schedule∧o.Schedule<2
    ·rw[if_pos hs,if_pos hs]
     exact Ok.n (by simp) (Ok.s rfl)
    ·rw[if_neg hs,if_neg hs]
     exact Ok.p (by simp) (Ok.s rfl)
theorem OpIn.valid(ho:OpIn o):QfA 1000 o=some true:=by
 refine Ok.eq ?_
 unfold QfA
 refine Ok.oe rin (Ok.bt (QL.2 ho.id) (Ok.oe rin (Ok.bt (QL.2 ho.kind) (Ok.oe rin (Ok.bt (QL.2 ho.region) (Ok.oe rin (Ok.bt (QL.2 ho.fence) (Ok.oe rin (Ok.bt (QL.2 ho.at_) (Ok.oe rin (Ok.bt (QL.2 ho.page) (Ok.oe rin (Ok.bt (QL.2 ho.k) ?_)))))))))))))
 exact Ok.ite (fun g=>Ok.s rfl) (fun g=>Ok.oe Qkf (Ok.bt (ho.answer (by omega)).1 (Ok.s rfl)))
theorem Qqs(h:Qd M n l)(hn:n<48)(hpg:l.Pages.length≤8)(ho:OpIn o)(ht:max l.Now o.At≤M - 20000)(hl:l.Seen.length<256):Qfz 1000 l o=some (ZL l o):=by
 have hcl:=h.callsLe (by omega)
 refine Ok.eq ?_
 unfold Qfz ZL
 refine Ok.j (Ok.oe (QaN h (by omega)) (Ok.t (Ok.oe ho.valid (Ok.t ?_))))
 try dsimp only
 refine Ok.oe (QoB h.plens (by omega) (by omega) (by omega)) (Ok.oe (QbU (by omega)) (Ok.cnd (fun g=>Ok.s ?_) (fun g=>?_)))
 ·rw[if_pos g]
 ·rw[if_neg (by rw[g];simp)]
  have h2:=h.see ho ht g hl
  refine Ok.n (by omega) (Ok.lec (by simp;omega) (Ok.oe (Qqr (l:={ l with Now:=max l.Now o.At,Seen:=l.Seen++[o.ID] }) h2 hn hpg ho) (Ok.s rfl)))
end
end Go.Proofs.YtgokjdfkpnkekaaGreat
/-
  Operations and ledgers that are made by dice.
-/
namespace Go.Proofs.YtgokjdfkpnkekaaGreat
open Go AM
attribute [local irreducible] dueV stepV runV QR answerV
section
variable {n:Nat} {c:D.Config} {b:D.Book} {p q:D.Page} {now M m:Int} {l:D.Ledger} {i:Nat} {o:D.Op} {L:List Int} {d:D.Dice}
def Ids(m:Int)(l:D.Ledger):Prop:=∀p∈l.Pages,p.ID≤m
theorem Ids.mono{k:Int}(h:Ids m l)(hk:m≤k):Ids k l:=fun p hp=>Int.le_trans (h p hp) hk
theorem Qu7{L:List D.Page}(ha:AscP L){k:Nat}(h:∀p∈L,1≤p.ID∧p.ID≤(k:Int)):L.length≤k:=by
 have hlo:∀i,i<L.length→(i:Int)+1≤(nth L i).ID:=by
  intro i
  induction i with
  |zero=>intro hi;have:=(h _ (Qj hi)).1;omega
  |succ i ih=>
   intro hi
   have:=ih (by omega)
   have:=QbP ha (show i<i+1 by omega) hi
   omega
 rcases Nat.lt_or_ge k L.length with h1|h1
 ·have h2:=hlo (L.length - 1) (by omega)
  have h3:=(h _ (Qj (l:=L) (i:=L.length - 1) (by omega))).2
  omega
 ·exact h1
theorem Qd.small3{k:Nat}(h:Qd M n l)(hi:Ids (k:Int) l):l.Pages.length≤k:=
 Qu7 h.asc fun p hp=>⟨(h.page p hp).1.id.1,hi p hp⟩
theorem Ids.put(h:Ids m l)(hi:i<l.Pages.length)(hp:p.ID=(nth l.Pages i).ID):Ids m (putV l i p):=fun q hq=>by
 rcases List.mem_or_eq_of_mem_set hq with hq|rfl
 ·exact h q hq
 ·rw[hp];exact h _ (Qj hi)
theorem Ids.run(h:Ids m l)(hl:Qd M n l)(hi:i<l.Pages.length):Ids m (runI l i):=by
 rw[hl.runEq hi]
 exact h.put hi (Qdp hl.book QT.step (hl.at hi).1).id
theorem Ids.runs(h:Ids m l)(hl:Qd M n l):∀{k:Nat},k≤l.Pages.length→Ids m (Zi l k)
 |0,_=>h
 |k+1,hk=>by
  rw[Zi]
  exact(Ids.runs h hl (k:=k) (by omega)).run (hl.runs (by omega)) (by have:=(Yi (l:=l) (k:=k)).2.2.2.2.2.2;omega)
theorem Ids.op(h:Ids m l)(hl:Qd M n l)(ho:OpIn o)(hp:o.Kind=1→o.Page≤m):Ids m (opV l o).1:=by
 unfold opV
 split
 ·rename_i k1
  split
  ·exact h
  ·rename_i hh
   split
   ·exact h
   ·split
    ·exact h
    ·split
     ·rename_i h1 h2 h3
      have hop:=ho.page
      have hi:=hl.open (o:=o) (by simpa using hh) (by omega) h3 (by have:=hl.len;omega)
      have hid:Ids m { l with Pages:=insP l.Pages (newP o.Page o.Policy l.Now) }:=fun q hq=>by
       rcases Qfg.1 hq with rfl|hq
       ·exact hp k1
       ·exact h q hq
      exact hid.run hi.1 hi.2.1
     ·exact h
 ·split
  ·split
   ·exact h
   ·exact h
  ·split
   ·split
    ·split
     ·rename_i hh
      generalize (if (nth l.Pages (posV o.Page l.Pages)).State=2 then(-1:Int)else(nth l.Pages (posV o.Page l.Pages)).Next)=kk
      split
      ·exact h.run hl (VP hh).1
      ·exact h
     ·exact h
    ·exact h
   ·split
    ·split
     ·rename_i hh
      have hi:=(VP hh).1
      split
      ·rename_i he
       have h2:=hl.run hi
       have hk:=Y0 (l:=l) (i:=posV o.Answer.Page l.Pages)
       refine(h.run hl hi).put (by omega) ?_
       rcases QaI he with e|e
       ·rw[e]
       ·rw[e];exact QfR.1
      ·exact h.run hl hi
     ·exact h
    ·split
     ·exact h.runs hl (Nat.le_refl _)
     ·exact h.runs hl (Nat.le_refl _)
theorem Ids.apply(h:Ids m l)(hl:Qd M n l)(ho:OpIn o)(ht:max l.Now o.At≤M - 20000)(hs:l.Seen.length<256)(hp:o.Kind=1→o.Page≤m):Ids m (ZL l o).1:=by
 unfold ZL
 split
 ·exact h
 ·rename_i hse
  exact Ids.op (l:={ l with Now:=max l.Now o.At,Seen:=l.Seen++[o.ID] }) h (hl.see ho ht (by simpa using hse) hs) ho hp
theorem QkW:(opV l o).1.Now=l.Now∧(opV l o).1.Seen=l.Seen:=by
 unfold opV
 have h1:=fun i=>Y0 (l:=l) (i:=i)
 have h2:=fun k=>Yi (l:=l) (k:=k)
 split
 ·split
  ·exact⟨rfl,rfl⟩
  ·split
   ·exact⟨rfl,rfl⟩
   ·split
    ·exact⟨rfl,rfl⟩
    ·split
     ·exact⟨(Y0 (l:={ l with Pages:=insP l.Pages (newP o.Page o.Policy l.Now) })).1,(Y0 (l:={ l with Pages:=insP l.Pages (newP o.Page o.Policy l.Now) })).2.2.2.2.2.1⟩
     ·exact⟨rfl,rfl⟩
 ·split
  ·split<;>exact⟨rfl,rfl⟩
  ·split
   ·split
    ·split
     ·generalize (if (nth l.Pages (posV o.Page l.Pages)).State=2 then(-1:Int)else(nth l.Pages (posV o.Page l.Pages)).Next)=kk
      split
      ·exact⟨(h1 _).1,(h1 _).2.2.2.2.2.1⟩
      ·exact⟨rfl,rfl⟩
     ·exact⟨rfl,rfl⟩
    ·exact⟨rfl,rfl⟩
   ·split
    ·split
     ·split
      ·exact⟨(h1 _).1,(h1 _).2.2.2.2.2.1⟩
      ·exact⟨(h1 _).1,(h1 _).2.2.2.2.2.1⟩
     ·exact⟨rfl,rfl⟩
    ·split
     ·exact⟨(h2 _).1,(h2 _).2.2.2.2.2.1⟩
     ·exact⟨(h2 _).1,(h2 _).2.2.2.2.2.1⟩
theorem QhI:(ZL l o).1.Seen.length≤l.Seen.length+1∧((ZL l o).1.Now=l.Now∨(ZL l o).1.Now=max l.Now o.At):=by
 unfold ZL
 split
 ·exact⟨by dsimp only;omega,.inl rfl⟩
 ·have:=QkW (l:={ l with Now:=max l.Now o.At,Seen:=l.Seen++[o.ID] }) (o:=o)
  exact⟨by rw[this.2];simp,.inr this.1⟩
theorem Qp6{t:Int}(h:Qd M n l)(hpg:l.Pages.length≤9):Ok (Qce 1000 l t) fun w=>w.length≤9∧∀s∈w,∃p∈l.Pages,s.K=p.ID:=by
 unfold Qce
 refine Ok.j ?_
 refine Ok.loop (fun m x=>∃(i:Nat) (w:List D.Start),x=((t,(i:Int),()),l,w,())∧i≤l.Pages.length∧w.length≤i∧(∀s∈w,∃p∈l.Pages,s.K=p.ID)∧m=l.Pages.length - i) (m:=l.Pages.length) (by omega) ⟨0,[],rfl,by omega,by simp,by simp,rfl⟩ ?_
 rintro m x ⟨i,w,rfl,i1,i2,i3,rfl⟩ K hK
 try dsimp only
 refine Ok.j (Ok.ite (fun hi=>?_) (fun hi=>Ok.s ⟨by omega,i3⟩))
 have hlt:i<l.Pages.length:=by omega
 refine Ok.oe (QaN h hpg) (Ok.t ?_)
 try dsimp only
 have next:∀w:List D.Start,w.length≤i+1→(∀s∈w,∃p∈l.Pages,s.K=p.ID)→Ok (K ((t,IntKind.wrap .i64 ((i:Int)+1),()),l,w,())) fun w=>w.length≤9∧∀s∈w,∃p∈l.Pages,s.K=p.ID:=fun w h1 h2=>by
  try dsimp only
  rw[Qa (by omega)]
  exact hK _ _ (by omega) ⟨i+1,w,rfl,by omega,h1,h2,rfl⟩
 refine Ok.j (Ok.atn hlt (Ok.oe Qe5 (Ok.cnd (fun g=>Ok.ite (fun g2=>Ok.atn hlt (Ok.lec (by simp;omega) (next _ (by simp;omega) ?_))) (fun g2=>next w (by omega) i3)) (fun g=>next w (by omega) i3))))
 exact WK i3 ⟨_,Qj hlt,rfl⟩
theorem Qt7{id t:Int}(hL:L.length≤500)(hd:ZH L d)(h:Qd M n l)(hids:Ids 3 l)(hid:1≤id∧id≤1000)(ht:0≤t∧t≤8589934592):
  Ok (Uk 1000 d l id t) fun r=>ZH L r.2∧OpIn r.1∧r.1.ID=id∧r.1.At=t∧(r.1.Kind=1→1≤r.1.Page∧r.1.Page≤3)∧(r.1.Kind=4→r.1.Answer.Person<4):=by
 have hpl:=h.book.plen;have hfe:=h.fence;have hse:=h.seen.len;have how:=h.owner
 have hpg:=h.small3 (k:=3) hids
 unfold Uk
 refine Ok.opt (nx hL hd (by omega) (by omega)) fun⟨a0,d1⟩ ⟨h1,l1,u1⟩=>?_
 try dsimp only at h1 l1 u1 ⊢
 refine Ok.opt (nx hL h1 (by omega) (by omega)) fun⟨a2,d3⟩ ⟨h3,l3,u3⟩=>?_
 try dsimp only at h3 l3 u3 ⊢
 refine Ok.opt (nx hL h3 (by omega) (by omega)) fun⟨a4,d5⟩ ⟨h5,l5,u5⟩=>?_
 try dsimp only at h5 l5 u5 ⊢
 rw[Qc (x:=1+a0) (by omega),Qc (x:=1+a4) (by omega)]
 have noEdit:∀{P:Prop},¬(1+a0=5)→1+a0=5→P:=fun h1 h2=>absurd h2 h1
 refine Ok.j (Ok.ite (fun k1=>?_) (fun k1=>Ok.ite (fun k2=>?_) (fun k2=>Ok.ite (fun k3=>?_) (fun k3=>Ok.ite (fun k4=>?_) (fun k4=>Ok.ite (fun k5=>?_) (fun k5=>?_))))))
 ·refine Ok.opt (nx hL h5 (by omega) (by omega)) fun⟨a10,d11⟩ ⟨h11,l11,u11⟩=>?_
  try dsimp only at h11 l11 u11 ⊢
  rw[Qc (x:=((l.Book.Policies.length:Nat):Int)+1) (by omega),Qc (x:=((l.Book.Policies.length:Nat):Int)+1 - a10) (by omega)]
  refine Ok.opt (nx hL h11 (by omega) (by omega)) fun⟨a12,d13⟩ ⟨h13,l13,u13⟩=>Ok.s ⟨h13,?_,rfl,rfl,fun _=>by dsimp only;omega,fun e=>absurd (show 1+a0=4 from e) (by omega)⟩
  exact⟨by dsimp only;omega,by dsimp only;omega,by dsimp only;omega,by dsimp only;omega,ht,by dsimp only;omega,by dsimp only;omega,fun e=>absurd (show 1+a0=4 from e) (by omega),fun e=>absurd (show 1+a0=5 from e) (by omega)⟩
 ·refine Ok.opt (Qbq hL h5 (by simp) (by simp)) fun⟨a14,d15⟩ ⟨h15,m15⟩=>?_
  try dsimp only at h15 m15 ⊢
  simp only[List.mem_cons,List.not_mem_nil,or_false]at m15
  try dsimp only
  rw[Qc (x:=l.Fence+a14) (by omega)]
  refine Ok.s ⟨h15,?_,rfl,rfl,fun e=>absurd (show 1+a0=1 from e) k1,fun e=>absurd (show 1+a0=4 from e) (by omega)⟩
  exact⟨by dsimp only;omega,by dsimp only;omega,by dsimp only;omega,by dsimp only;omega,ht,by dsimp only;omega,by dsimp only;omega,fun e=>absurd (show 1+a0=4 from e) (by omega),fun e=>absurd (show 1+a0=5 from e) (by omega)⟩
 ·-- a proposed start
  have hop:∀o:D.Op,OpIn o→o.ID=id→o.At=t→o.Kind=3→∀d,ZH L d→Ok (some (o,d)) fun r=>ZH L r.2∧OpIn r.1∧r.1.ID=id∧r.1.At=t∧(r.1.Kind=1→1≤r.1.Page∧r.1.Page≤3)∧(r.1.Kind=4→r.1.Answer.Person<4):=fun o h1 h2 h3 h4 d hd=>Ok.s ⟨hd,h1,h2,h3,fun e=>absurd (show o.Kind=1 from e) (by omega),fun e=>absurd (show o.Kind=4 from e) (by omega)⟩
  refine Ok.join (fun y=>∃(d:D.Dice) (z o:D.Op),y=((t,1+a4,()),d,l,z,o,())∧ZH L d∧OpIn o∧o.ID=id∧o.At=t∧o.Kind=3) (fun y hy=>?_) (fun J hJ=>?_)
  ·obtain⟨d,z,o,rfl,j1,j2,j3,j4,j5⟩:=hy
   try dsimp only
   refine Ok.join (fun y=>∃(d:D.Dice) (z o:D.Op),y=((t,1+a4,()),d,l,z,o,())∧ZH L d∧OpIn o∧o.ID=id∧o.At=t∧o.Kind=3) (fun y hy=>?_) (fun J hJ=>?_)
   ·obtain⟨d,z,o,rfl,j1,j2,j3,j4,j5⟩:=hy
    try dsimp only
    refine Ok.join (fun y=>∃(d:D.Dice) (z o:D.Op),y=((),l,z,o,d,())∧ZH L d∧OpIn o∧o.ID=id∧o.At=t∧o.Kind=3) (fun y hy=>?_) (fun J hJ=>?_)
    ·obtain⟨d,z,o,rfl,j1,j2,j3,j4,j5⟩:=hy
     try dsimp only
     refine Ok.oe (QuZ h.plens h.asc (by omega)) ?_
     unfold Qf4
     by_cases hh:hasV o.Page l.Pages=true
     ·rw[if_pos hh]
      try dsimp only
      have hi:=VP hh
      obtain⟨g1,_⟩:=h.at hi.1
      have hnx:=(Yb (g1.check h.book)).next
      have hcn:=Ym (g1.polOK h.book)
      refine Ok.t (Ok.ite (fun g=>Ok.s ⟨j1,?_,j3,j4,fun e=>absurd (show o.Kind=1 from e) (by omega),fun e=>absurd (show o.Kind=4 from e) (by omega)⟩) (fun g=>Ok.s ⟨j1,?_,j3,j4,fun e=>absurd (show o.Kind=1 from e) (by omega),fun e=>absurd (show o.Kind=4 from e) (by omega)⟩))
      ·exact⟨j2.id,j2.kind,j2.region,j2.fence,j2.at_,j2.page,by dsimp only;omega,j2.answer,j2.edit⟩
      ·exact⟨j2.id,j2.kind,j2.region,j2.fence,j2.at_,j2.page,by dsimp only;omega,j2.answer,j2.edit⟩
     ·rw[if_neg hh]
      exact Ok.f (hop _ j2 j3 j4 j5 _ j1)
    ·refine Ok.opt (Qp6 h (by omega)) fun w ⟨w1,w2⟩=>?_
     refine Ok.ite (fun g=>?_) (fun g=>hJ _ ⟨_,_,_,rfl,j1,⟨j2.id,j2.kind,j2.region,j2.fence,j2.at_,by dsimp only;omega,j2.k,j2.answer,j2.edit⟩,j3,j4,j5⟩)
     refine Ok.opt (nx hL j1 (by omega) (by omega)) fun⟨a36,d37⟩ ⟨h37,l37,u37⟩=>?_
     try dsimp only at h37 l37 u37 ⊢
     refine Ok.at l37 u37 (hJ _ ⟨_,_,_,rfl,h37,⟨j2.id,j2.kind,j2.region,j2.fence,j2.at_,?_,j2.k,j2.answer,j2.edit⟩,j3,j4,j5⟩)
     obtain⟨p,hp,e⟩:=w2 _ (Qj (l:=w) (i:=a36.toNat) (by omega))
     have:=(h.page p hp).1.id
     try dsimp only
     omega
   ·refine Ok.opt (nx hL j1 (by omega) (by omega)) fun⟨a40,d41⟩ ⟨h41,_⟩=>Ok.ite (fun g=>?_) (fun g=>hJ _ ⟨_,_,_,rfl,h41,j2,j3,j4,j5⟩)
    try dsimp only at h41
    refine Ok.opt (nx hL h41 (by omega) (by omega)) fun⟨a42,d43⟩ ⟨h43,l43,u43⟩=>hJ _ ⟨_,_,_,rfl,h43,⟨j2.id,j2.kind,j2.region,?_,j2.at_,j2.page,j2.k,j2.answer,j2.edit⟩,j3,j4,j5⟩
    try dsimp only at l43 u43 ⊢
    omega
  ·refine Ok.opt (nx hL h5 (by omega) (by omega)) fun⟨a45,d46⟩ ⟨h46,_⟩=>Ok.ite (fun g=>?_) (fun g=>?_)
   ·try dsimp only at h46
    refine Ok.opt (nx hL h46 (by omega) (by omega)) fun⟨a47,d48⟩ ⟨h48,l48,u48⟩=>hJ _ ⟨_,_,_,rfl,h48,?_,rfl,rfl,k3⟩
    try dsimp only at l48 u48
    exact⟨by dsimp only;omega,by dsimp only;omega,by dsimp only;omega,by dsimp only;omega,ht,by dsimp only;omega,by dsimp only;omega,fun e=>absurd (show 1+a0=4 from e) (by omega),fun e=>absurd (show 1+a0=5 from e) (by omega)⟩
   ·refine hJ _ ⟨_,_,_,rfl,h46,?_,rfl,rfl,k3⟩
    exact⟨by dsimp only;omega,by dsimp only;omega,by dsimp only;omega,by dsimp only;omega,ht,by dsimp only;omega,by dsimp only;omega,fun e=>absurd (show 1+a0=4 from e) (by omega),fun e=>absurd (show 1+a0=5 from e) (by omega)⟩
 ·refine Ok.opt (nx hL h5 (by omega) (by omega)) fun⟨a49,d50⟩ ⟨h50,l50,u50⟩=>?_
  try dsimp only at h50 l50 u50 ⊢
  rw[Qc (x:=1+a49) (by omega)]
  refine Ok.opt (Qqp hL h50) fun⟨a,d52⟩ ⟨h52,ha,e1,e2,e3⟩=>Ok.s ⟨h52,?_,rfl,rfl,fun e=>absurd (show 1+a0=1 from e) k1,fun _=>ha.pers.2⟩
  try dsimp only at ha e1 e2 e3
  exact⟨by dsimp only;omega,by dsimp only;omega,by dsimp only;omega,by dsimp only;omega,ht,by dsimp only;omega,by dsimp only;omega,fun _=>⟨ha.valid (by omega) (by omega) (by omega),fun e=>(ha.arg3 e).2⟩,fun e=>absurd (show 1+a0=5 from e) (by omega)⟩
 ·refine Ok.opt (nx hL h5 (by omega) (by omega)) fun⟨a53,d54⟩ ⟨h54,l54,u54⟩=>?_
  try dsimp only at h54 l54 u54 ⊢
  refine Ok.opt (QiA hL h54) fun⟨x,d56⟩ ⟨h56,hx⟩=>Ok.s ⟨h56,?_,rfl,rfl,fun e=>absurd (show 1+a0=1 from e) k1,fun e=>absurd (show 1+a0=4 from e) (by omega)⟩
  try dsimp only at hx
  exact⟨by dsimp only;omega,by dsimp only;omega,by dsimp only;omega,by dsimp only;omega,ht,by dsimp only;omega,by dsimp only;omega,fun e=>absurd (show 1+a0=4 from e) k4,fun _=>hx⟩
 ·omega
structure Qsw (k:Nat) (l:D.Ledger):Prop where
 inv:Qd 1000000 (2+k) l
 ids:Ids 3 l
 seen:l.Seen.length≤k
 now:l.Now≤864000+700*(k:Int)
theorem QpF(hc:Q1 2 c)(hb:QH b):Qd 1000000 2 { Now:=0,Config:=c,Book:=b,Pages:=[],Owner:=-1,Fence:=0,Seen:=[],Calls:=[] }:=
 ⟨by omega,by dsimp only;omega,by omega,hc,hb,by simp,List.Pairwise.nil,by simp,by dsimp only;omega,by simp,⟨by simp,List.nodup_nil,by simp⟩,by simp,by simp⟩
theorem Qvh(hc:Q1 n c)(hn:n≤48)(hb:QH b):QiU 1000 c b=some ({ Now:=0,Config:=c,Book:=b,Pages:=[],Owner:=-1,Fence:=0,Seen:=[],Calls:=[] },0):=by
 refine Ok.eq ?_
 unfold QiU
 exact Ok.oe (Ql1 hc hn hb) (Ok.n (by simp) (Ok.s rfl))
end
end Go.Proofs.YtgokjdfkpnkekaaGreat
/-
  Plain laws of operations on ledgers: what a refused one leaves, what one that comes twice does, which pages one touches.
-/
namespace Go.Proofs.YtgokjdfkpnkekaaGreat
open Go AM
attribute [local irreducible] dueV stepV runV QR answerV
section
variable {n:Nat} {c:D.Config} {b:D.Book} {p q:D.Page} {now M:Int} {l:D.Ledger} {i:Nat} {o:D.Op}
def seeV(l:D.Ledger)(o:D.Op):D.Ledger:={ l with Now:=max l.Now o.At,Seen:=l.Seen++[o.ID] }
theorem Qbi(hs:l.Seen.contains o.ID=false):ZL l o=opV (seeV l o) o:=by
 unfold ZL;rw[hs];rfl
theorem Qja(hs:l.Seen.contains o.ID=false)(hk:o.Kind=1∨o.Kind=2∨o.Kind=3)(hl:l.Pages.length<64)(hp:o.Kind=1→1≤o.Page)(he:(ZL l o).2≠0):
  (ZL l o).1=seeV l o∧((ZL l o).2=23∨(ZL l o).2=9∨(ZL l o).2=3∨(ZL l o).2=4):=by
 rw[Qbi hs]at he ⊢
 have hl':(seeV l o).Pages.length≠64:=by show l.Pages.length≠64;omega
 have fin:∀e:Int,opV (seeV l o) o=(seeV l o,e)→(e=23∨e=9∨e=3∨e=4)→(opV (seeV l o) o).1=seeV l o∧((opV (seeV l o) o).2=23∨(opV (seeV l o) o).2=9∨(opV (seeV l o) o).2=3∨(opV (seeV l o) o).2=4):=fun e h1 h2=>by
  rw[h1];exact⟨rfl,h2⟩
 have bad:∀x:D.Ledger,opV (seeV l o) o=(x,0)→False:=fun x h1=>he (by rw[h1])
 rcases hk with hk|hk|hk
 ·have hp1:=hp hk
  by_cases g1:hasV o.Page (seeV l o).Pages=true
  ·exact fin 4 (by unfold opV;rw[if_pos hk,if_pos g1]) (by simp)
  ·by_cases g2:0≤o.Policy∧o.Policy<((seeV l o).Book.Policies.length:Int)
   ·exact absurd (by unfold opV;rw[if_pos hk,if_neg g1,if_neg hl',if_neg (by omega),if_pos g2]) (bad _)
   ·exact fin 3 (by unfold opV;rw[if_pos hk,if_neg g1,if_neg hl',if_neg (by omega),if_neg g2]) (by simp)
 ·by_cases g1:o.Fence=(seeV l o).Fence+1
  ·exact absurd (by unfold opV;rw[if_neg (by omega),if_pos hk,if_pos g1]) (bad _)
  ·exact fin 23 (by unfold opV;rw[if_neg (by omega),if_pos hk,if_neg g1]) (by simp)
 ·by_cases g1:o.Region=(seeV l o).Owner∧o.Fence=(seeV l o).Fence
  ·by_cases g2:hasV o.Page (seeV l o).Pages=true
   ·by_cases g3:Xb (nth (seeV l o).Pages (posV o.Page (seeV l o).Pages)) (seeV l o).Now=true∧o.K=(if (nth (seeV l o).Pages (posV o.Page (seeV l o).Pages)).State=2 then -1 else(nth (seeV l o).Pages (posV o.Page (seeV l o).Pages)).Next)
    ·exact absurd (by unfold opV;rw[if_neg (by omega),if_neg (by omega),if_pos hk,if_pos g1,if_pos g2,if_pos g3]) (bad _)
    ·exact fin 9 (by unfold opV;rw[if_neg (by omega),if_neg (by omega),if_pos hk,if_pos g1,if_pos g2,if_neg g3]) (by simp)
   ·exact fin 3 (by unfold opV;rw[if_neg (by omega),if_neg (by omega),if_pos hk,if_pos g1,if_neg g2]) (by simp)
  ·exact fin 23 (by unfold opV;rw[if_neg (by omega),if_neg (by omega),if_pos hk,if_neg g1]) (by simp)
theorem Qpj(hs:l.Seen.contains o.ID=false):(ZL l o).1.Now=max l.Now o.At:=by
 rw[Qbi hs,(QkW).1];rfl
def ansP(c:D.Config)(b:D.Book)(p:D.Page)(a:D.Answer)(now:Int):D.Page:=
 if (answerV b (runV c b p now).1 { a with At:=now }).2=0 then(answerV b (runV c b p now).1 { a with At:=now }).1 else(runV c b p now).1
theorem QpG(h:Qd M n l)(hk:o.Kind=4):(opV l o).1.Config=l.Config∧(opV l o).1.Book=l.Book∧
  (opV l o).1.Pages=if hasV o.Answer.Page l.Pages=true then l.Pages.set (posV o.Answer.Page l.Pages) (ansP l.Config l.Book (nth l.Pages (posV o.Answer.Page l.Pages)) o.Answer l.Now)else l.Pages:=by
 unfold opV
 rw[if_neg (by omega),if_neg (by omega),if_neg (by omega),if_pos hk]
 split
 ·rename_i g
  obtain⟨g1,g2⟩:=VP g
  have hpg:=QbD h g1 (j:=posV o.Answer.Page l.Pages)
  rw[if_pos rfl]at hpg
  have hpages:(runI l (posV o.Answer.Page l.Pages)).Pages=l.Pages.set (posV o.Answer.Page l.Pages) (runV l.Config l.Book (nth l.Pages (posV o.Answer.Page l.Pages)) l.Now).1:=by
   rw[h.runEq g1];rfl
  split
  ·rename_i g3
   rw[hpg]at g3
   refine⟨Y0.2.1,Y0.2.2.1,?_⟩
   show List.set _ _ _=_
   rw[hpages,List.set_set,←hpages,hpg]
   unfold ansP
   rw[if_pos g3]
  ·rename_i g3
   rw[hpg]at g3
   refine⟨Y0.2.1,Y0.2.2.1,?_⟩
   show(runI l _).Pages=_
   rw[hpages]
   unfold ansP
   rw[if_neg g3]
 ·exact⟨rfl,rfl,rfl⟩
end
end Go.Proofs.YtgokjdfkpnkekaaGreat
/-
  Ledgers looked at: what the program's check computes.
-/
namespace Go.Proofs.YtgokjdfkpnkekaaGreat
open Go AM
attribute [local irreducible] dueV stepV runV QR answerV
section
variable {n:Nat} {c:D.Config} {b:D.Book} {p q:D.Page} {now M:Int} {l:D.Ledger} {i:Nat}
theorem Qvf:∀i,i<2→U5 1000 (nth Qe2 i)=some true:=forall2 (by kernel_rfl) (by kernel_rfl)
theorem Qve:∀i,i<3→U5 1000 (nth Qjc i)=some true:=forall3 (by kernel_rfl) (by kernel_rfl) (by kernel_rfl)
theorem Qq1(hb:QH b){i:Nat}(hi:i<b.Teams.length):Zn 1000 (i:Int) b=some false:=by
 have htl:=hb.tlen
 have hone:∀j,j<b.Teams.length→WA 1000 (j:Int) b=some (nth Qe2 j):=fun j hj=>by
  refine Ok.eq ?_
  unfold WA
  exact Ok.atn hj (Ok.sameC (Ok.s (hb.tnm hj)))
 refine Ok.eq ?_
 unfold Zn
 refine Ok.run2 i (fun k=>((i:Int),(i:Int),(k:Int),())) rfl (by omega) (fun k hk K hK=>?_) (fun K=>by dsimp only;exact Ok.n (by omega) (Ok.sameC (Ok.s rfl)))
 try dsimp only
 refine Ok.p (by omega) (Ok.oe (hone k (by omega)) (Ok.oe (hone i hi) (Ok.n (Ql0 i (by omega) k hk) ?_)))
 try dsimp only
 rw[Qa (by omega)];exact hK
theorem Qq0(hb:QH b){i:Nat}(hi:i<b.Policies.length):Zo 1000 (i:Int) b=some false:=by
 have htl:=hb.plen
 have hone:∀j,j<b.Policies.length→WB 1000 (j:Int) b=some (nth Qjc j):=fun j hj=>by
  refine Ok.eq ?_
  unfold WB
  exact Ok.atn hj (Ok.sameC (Ok.s (hb.pnm hj)))
 refine Ok.eq ?_
 unfold Zo
 refine Ok.run2 i (fun k=>((i:Int),(i:Int),(k:Int),())) rfl (by omega) (fun k hk K hK=>?_) (fun K=>by dsimp only;exact Ok.n (by omega) (Ok.sameC (Ok.s rfl)))
 try dsimp only
 refine Ok.p (by omega) (Ok.oe (hone k (by omega)) (Ok.oe (hone i hi) (Ok.n (Qoy i (by omega) k hk) ?_)))
 try dsimp only
 rw[Qa (by omega)];exact hK
theorem QvC{t:D.Team}(h:Q1 n c)(ht:QlP t):QdL 1000 c t.Members=some 0:=by
 have hpl:=h.plen;have hml:=ht.len
 refine Ok.eq ?_
 unfold QdL
 refine Ok.n (by omega) (Ok.run2 (t.Members.length - 1) (fun k=>(t.Members,((k+1:Nat):Int),())) rfl (by omega) (fun k hk K hK=>?_) (fun K=>?_))
 ·try dsimp only
  have:=QfS ht.asc (show k<k+1 by omega) (show k+1<t.Members.length by omega)
  refine Ok.p (by omega) (Ok.atn (by omega) ?_)
  rw[show IntKind.wrap .i64 (((k+1:Nat):Int) - 1)=((k:Nat):Int)by rw[Qc (by omega)];omega]
  refine Ok.atn (by omega) (Ok.n (by omega) ?_)
  try dsimp only
  rw[Qa (by omega)];exact hK
 ·try dsimp only
  rw[hpl]
  have h1:=ht.mem _ (Qj (l:=t.Members) (i:=0) (by omega))
  have h2:=ht.mem _ (Qj (l:=t.Members) (i:=t.Members.length - 1) (by omega))
  refine Ok.n (by omega) (Ok.j (Ok.at (by omega) (by omega) ?_))
  rw[show IntKind.wrap .i64 (((4:Nat):Int) - 1)=3 from rfl,show IntKind.wrap .i64 (((t.Members.length:Nat):Int) - 1)=((t.Members.length - 1:Nat):Int)by rw[Qc (by omega)];omega]
  refine Ok.oe pIn (Ok.p ⟨h1.1,by have:=h1.2;show nth t.Members (0:Int).toNat≤3;simp only[Int.toNat_zero];omega⟩ (Ok.atn (by omega) (Ok.oe pIn (Ok.p (by omega) (Ok.s rfl)))))
theorem QtG{s:D.PolicyStep}(h:Q1 n c)(hb:QH b)(hs:StepOK' b.Teams.length s):Qb7 1000 c b s=some 0:=by
 have hpl:=h.plen;have hsl:=h.slen;have htl:=hb.tlen;have hw:=hs.wait;have htn:=hs.len
 have hsz:X9 1000 c b=some ⟨4,2,((b.Teams.length:Nat):Int)⟩:=by unfold X9;rw[hpl,hsl];rfl
 refine Ok.eq ?_
 unfold Qb7
 refine Ok.oe pIn (Ok.np (by omega) (Ok.n (by omega) (Ok.oe hsz ?_)))
 try dsimp only
 refine Ok.run2 s.Targets.length (fun i=>(s.Targets,((s.Targets.length:Nat):Int),(i:Int),())) rfl (by omega) (fun i hi K hK=>?_) (fun K=>by dsimp only;exact Ok.n (by omega) (Ok.s rfl))
 try dsimp only
 have hx:=hs.target _ (Qj hi)
 have h1:=hx.lo;have h2:=hx.person;have h3:=hx.sched;have h4:=hx.team
 refine Ok.p (by omega) (Ok.j (Ok.atn hi (Ok.oe pIn (Ok.p (by have:=hx.kind;omega) ?_))))
 have next:Ok (K ((s.Targets,((s.Targets.length:Nat):Int),IntKind.wrap .i64 ((i:Int)+1),()),(4,2,((b.Teams.length:Nat):Int),()),())) (·=0):=by rw[Qa (by omega)];exact hK
 rcases hx.kind with hk|hk|hk
 ·have:=h2 hk
  refine Ok.p (by omega) (Ok.oe pIn (Ok.p ⟨h1,by rw[Qc (by omega)];omega⟩ next))
 ·have:=h3 hk
  refine Ok.n (by omega) (Ok.p (by omega) (Ok.oe pIn (Ok.p ⟨h1,by rw[Qc (by omega)];omega⟩ next)))
 ·have:=h4 hk
  refine Ok.n (by omega) (Ok.n (by omega) (Ok.p (by omega) (Ok.oe pIn (Ok.p ⟨h1,by rw[Qc (by omega)];omega⟩ next))))
theorem QsN(h:Q1 n c)(hn:n≤48)(hb:QH b):QaT 1000 c b=some 0:=by
 have htl:=hb.tlen;have hpl:=hb.plen
 refine Ok.eq ?_
 unfold QaT
 refine Ok.oe (Qhe h hn) (Ok.n (by simp) (Ok.j (Ok.n (by omega) (Ok.n (by omega) ?_))))
 refine Ok.run b.Teams.length (fun i=>((b.Teams,((b.Teams.length:Nat):Int),(i:Int),()),c,b,())) rfl (by omega) (fun i hi K hK=>?_) (fun K=>?_)
 ·try dsimp only
  have ht:=hb.team _ (Qj hi)
  refine Ok.p (by omega) (Ok.atn hi (Ok.oe (by rw[hb.tnm hi];exact Qvf i (by omega)) (Ok.nt rfl (Ok.oe (Qq1 hb hi) (Ok.f (Ok.oe (QvC h ht) (Ok.n (by simp) ?_)))))))
  try dsimp only
  rw[Qa (by omega)];exact hK
 ·try dsimp only
  refine Ok.n (by omega) (Ok.run b.Policies.length (fun i=>((((b.Policies.length:Nat):Int),(i:Int),()),c,b,())) rfl (by omega) (fun i hi K hK=>?_) (fun K=>by dsimp only;exact Ok.n (by omega) (Ok.s rfl)))
  try dsimp only
  have ht:=hb.pol _ (Qj hi)
  have hml:=ht.len;have hrp:=ht.rep
  refine Ok.p (by omega) (Ok.oe (v:=0) ?_ (Ok.n (by simp) ?_))
  ·refine Ok.eq ?_
   unfold Qc5
   refine Ok.atn hi (Ok.oe (by rw[hb.pnm hi];exact Qve i (by omega)) (Ok.nt rfl (Ok.oe (Qq0 hb hi) (Ok.f (Ok.n (by omega) (Ok.n (by omega) (Ok.oe pIn (Ok.np (by omega) ?_))))))))
   refine Ok.run (nth b.Policies i).Steps.length (fun k=>(((nth b.Policies i).Steps,(((nth b.Policies i).Steps.length:Nat):Int),(k:Int),()),c,b,())) rfl (by omega) (fun k hk K2 hK2=>?_) (fun K2=>by dsimp only;exact Ok.n (by omega) (Ok.s rfl))
   try dsimp only
   refine Ok.p (by omega) (Ok.atn hk (Ok.oe (QtG h hb (ht.step _ (Qj hk))) (Ok.n (by simp) ?_)))
   try dsimp only
   rw[Qa (by omega)];exact hK2
  ·try dsimp only
   rw[Qa (by omega)];exact hK
theorem oin{fu:Nat}{x lo hi:Int}:Xv fu x lo hi=some (inV x lo hi):=by
 unfold Xv inV
 by_cases h1:lo≤x<;>by_cases h2:x≤hi<;>simp[cd,AM.cnd,h1,h2]
theorem QtC{L:List Int}(h:QlO L 256):QdH 1000 L=some true:=by
 have hl:=h.len
 refine Ok.eq ?_
 unfold QdH
 refine Ok.run L.length (fun i=>((L,L,((L.length:Nat):Int),(i:Int),()),())) rfl (by omega) (fun i hi k hk=>?_) (fun k=>by dsimp only;exact Ok.n (by omega) (Ok.s (decide_eq_true (by omega))))
 try dsimp only
 have hx:=h.fit _ (Qj hi)
 have hno:(L.take i).contains (nth L i)=false:=by
  cases hc:(L.take i).contains (nth L i)with
  |false=>rfl
  |true=>
   have:=Qhy hi hc
   rw[decide_eq_true h.nodup]at this;simp at this
 refine Ok.p (by omega) (Ok.j (Ok.atn hi (Ok.oe oin (Ok.bt (QL.2 hx) (Ok.natn (Ok.lec (by omega) (Ok.oe (QbQ (by simp;omega)) (Ok.bf hno ?_))))))))
 try dsimp only
 rw[Qa (by omega)];exact hk
structure DelC (p0:List D.Call) (q:D.Call→Bool) (w j:Nat) (a:List D.Call):Prop where
 len:a.length=p0.length
 wj:w≤j∧j≤p0.length
 done:a.take w=(p0.take j).filter q
 rest:∀k,j≤k→nth a k=nth p0 k
theorem Qih{L:List D.Call}{q:D.Call→Bool}{i:Nat}(hi:i≤L.length)(h:∀j,j<i→q (nth L j)=true):(L.take i).filter q=L.take i:=by
 refine List.filter_eq_self.2 fun x hx=>?_
 obtain⟨k,hk,rfl⟩:=List.getElem_of_mem hx
 rw[List.length_take]at hk
 have:=h k (by omega)
 simpa [nth,List.getD_eq_getElem?_getD,List.getElem?_eq_getElem (show k<L.length by omega)]using this
theorem Qo1{L:List D.Call}{j k:Nat}{x:D.Call}(hj:j<L.length):nth (L.set j x) k=if k=j then x else nth L k:=by
 by_cases e:k=j
 ·subst e;rw[if_pos rfl,Xq hj]
 ·rw[if_neg e,U6 e]
theorem Qpu{p0:List D.Call}{q:D.Call→Bool}{i:Nat}(hi:i<p0.length)(h:∀j,j<i→q (nth p0 j)=true)(hx:q (nth p0 i)=false):DelC p0 q i (i+1) p0:=by
 refine⟨rfl,by omega,?_,fun k _=>rfl⟩
 rw[←QG hi,List.filter_append,Qih (by omega) h]
 simp[hx]
theorem QqY{p0 a:List D.Call}{q:D.Call→Bool}{w j:Nat}(h:DelC p0 q w j a)(hj:j<p0.length)(hx:q (nth a j)=true):DelC p0 q (w+1) (j+1) (a.set w (nth a j)):=by
 have h1:=h.wj
 have h2:=h.len
 refine⟨by simp[h.len],by omega,?_,fun k hk=>?_⟩
 ·rw[h.rest j (Nat.le_refl _)]at hx ⊢
  rw[←QG hj,List.filter_append,←h.done,←QG (l:=a.set w (nth p0 j)) (by simp;omega),Qo1 (by omega),if_pos rfl,List.take_set_of_le (by omega)]
  simp[hx]
 ·rw[Qo1 (by omega),if_neg (by omega)];exact h.rest k (by omega)
theorem QqZ{p0 a:List D.Call}{q:D.Call→Bool}{w j:Nat}(h:DelC p0 q w j a)(hj:j<p0.length)(hx:q (nth a j)=false):DelC p0 q w (j+1) a:=by
 have h1:=h.wj
 refine⟨h.len,by omega,?_,fun k hk=>h.rest k (by omega)⟩
 rw[h.rest j (Nat.le_refl _)]at hx
 rw[←QG hj,List.filter_append,←h.done]
 simp[hx]
theorem QrF{x:D.Call}:Vm 1000 x p=some (decide (x.Page≠p.ID)):=by
 unfold Vm
 rw[Wd]
theorem Qvm{L:List D.Call}(hl:L.length≤900):Ok (QN 1000 L p) fun r=>List.drop r.1 (List.take r.2.1 r.2.2)=ownC p.ID L:=by
 have hown:∀{x:D.Call},decide (x.Page≠p.ID)=!(decide (x.Page=p.ID)):=fun{x}=>by by_cases e:x.Page=p.ID<;>simp[e]
 unfold QN
 have hidx:Ok (QP 1000 L p) fun r=>(r = -1∧(∀j,j<L.length→decide ((nth L j).Page=p.ID)=true))∨∃i:Nat,r=(i:Int)∧i<L.length∧decide ((nth L i).Page=p.ID)=false∧∀j,j<i→decide ((nth L j).Page=p.ID)=true:=by
  unfold QP
  refine Ok.scan2 L.length (fun i=>(((L.length:Nat):Int),(i:Int),())) (fun i=>!decide ((nth L i).Page=p.ID)) rfl (by omega) (fun i hi hq hj k=>?_) (fun i hi hq k hk=>?_) (fun hq k=>?_)
  ·refine Ok.p (by omega) (Ok.natn (Ok.lt hi (Ok.get hi (Ok.oe QrF ?_))))
   rw[hown]
   exact Ok.bt hq (Ok.sameC (Ok.sameC (Ok.s (.inr ⟨i,rfl,hi,by simpa using hq,fun j hj'=>by simpa using hj j hj'⟩))))
  ·refine Ok.p (by omega) (Ok.natn (Ok.lt hi (Ok.get hi (Ok.oe QrF ?_))))
   rw[hown]
   refine Ok.bf hq ?_
   try dsimp only
   rw[Qa (by omega)];exact hk
  ·exact Ok.n (by omega) (Ok.sameC (Ok.sameC (Ok.s (.inl ⟨rfl,fun j hj=>by simpa using hq j hj⟩))))
 refine Ok.opt hidx fun r hr=>?_
 rcases hr with⟨rfl,hall⟩|⟨i,rfl,hi,hx,hj⟩
 ·refine Ok.p rfl (Ok.sameC (Ok.s ?_))
  try dsimp only
  have:=Qih (q:=fun z=>decide (z.Page=p.ID)) (Nat.le_refl _) hall
  rw[List.take_length]at this ⊢
  rw[List.drop_zero]
  exact this.symm
 ·refine Ok.n (by omega) ?_
  try dsimp only
  rw[Qa (by omega)]
  refine Ok.loop (fun q x=>∃(w j:Nat) (a:List D.Call),x=((((w:Nat):Int),((j:Nat):Int),()),p,a,())∧DelC L (fun z=>decide (z.Page=p.ID)) w j a∧q=L.length - j) (m:=L.length - (i+1)) (by omega) ⟨i,i+1,L,rfl,Qpu hi hj hx,rfl⟩ ?_
  rintro q x ⟨w,j,a,rfl,hinv,rfl⟩ K hK
  have h1:=hinv.wj
  have h2:=hinv.len
  try dsimp only
  refine Ok.ite (fun hlt=>?_) (fun hge=>?_)
  ·refine Ok.j (Ok.natn (Ok.lt (by omega) (Ok.get (by omega) (Ok.oe QrF ?_))))
   rw[hown,Bool.not_not]
   refine Ok.cnd (fun hq=>?_) (fun hq=>?_)
   ·refine Ok.natn (Ok.lt (by omega) (Ok.get (by omega) ?_))
    try dsimp only
    rw[Qa (by omega),Qa (by omega)]
    exact hK _ _ (by omega) ⟨w+1,j+1,_,rfl,QqY hinv (by omega) hq,rfl⟩
   ·try dsimp only
    rw[Qa (by omega)]
    exact hK _ _ (by omega) ⟨w,j+1,a,rfl,QqZ hinv (by omega) hq,rfl⟩
  ·have ej:j=L.length:=by omega
   have hd:=hinv.done
   rw[ej,List.take_length]at hd
   refine Ok.natn (Ok.lec (by omega) (Ok.lec (by omega) (Ok.lec (by omega) (Ok.natn (Ok.lec (by simp;omega) (Ok.sameC (Ok.s ?_)))))))
   try dsimp only
   rw[List.drop_zero,List.append_assoc,List.take_append_of_le_length (by simp;omega),List.take_take,Nat.min_self]
   exact hd
theorem QjY{α:Type}[Inhabited α]{A B:List α}{z:Nat}:nth (A++B) (A.length+z)=nth B z:=by
 simp[nth,List.getD_eq_getElem?_getD,List.getElem?_append_right]
theorem QqR{C:List D.Call}{f:Int}(hpl:Qx p)(hC:C.length≤900)(h1:C.map unf=QF p.ID 0 p.Starts)(h2:C.Pairwise fun x y=>x.Fence≤y.Fence)(h3:∀c∈C,0≤c.Fence∧c.Fence≤f):Qb4 1000 p C f=some true:=by
 have hst:=hpl.st
 have hlen:C.length=(QF p.ID 0 p.Starts).length:=by rw[←h1,List.length_map]
 have hnth:∀k,k<C.length→unf (nth C k)=nth (QF p.ID 0 p.Starts) k:=fun k hk=>by
  rw[←h1]
  simp[nth,List.getD_eq_getElem?_getD,List.getElem?_eq_getElem hk]
 obtain⟨lf,hlf⟩:∃lf:Nat→Int,∀k,lf k=if k=0 then 0 else(nth C (k - 1)).Fence:=⟨fun k=>_,fun k=>rfl⟩
 have hlow:∀k,k<C.length→lf k≤(nth C k).Fence∧(nth C k).Fence≤f:=fun k hk=>by
  have hf:=h3 _ (Qj hk)
  refine⟨?_,hf.2⟩
  rw[hlf]
  split
  ·exact hf.1
  ·have:=List.pairwise_iff_getElem.1 h2 (k - 1) k (by omega) hk (by omega)
   simpa [nth,List.getD_eq_getElem?_getD,List.getElem?_eq_getElem hk,List.getElem?_eq_getElem (show k - 1<C.length by omega)]using this
 refine Ok.eq ?_
 unfold Qb4
 refine Ok.run p.Starts.length (fun j=>((C,f,(((QF p.ID 0 (p.Starts.take j)).length:Nat):Int),lf (QF p.ID 0 (p.Starts.take j)).length,p.Starts,((p.Starts.length:Nat):Int),(j:Int),()),p,())) (by rw[hlf];rfl) (by omega) (fun j hj k hk=>?_) (fun k=>?_)
 ·try dsimp only
  refine Ok.p (by omega) (Ok.atn hj ?_)
  have hts:p.Starts.take (j+1)=p.Starts.take j++[nth p.Starts j]:=(QG hj).symm
  have hsp:p.Starts=p.Starts.take j++(nth p.Starts j::p.Starts.drop (j+1)):=by rw[←QcQ hj,List.take_append_drop]
  have hpe:=(hpl.pe _ (Qj hj)).1
  obtain⟨s,hs⟩:∃s,nth p.Starts j=s:=⟨_,rfl⟩
  rw[hs]at hts hsp hpe ⊢
  obtain⟨base,hbase⟩:∃base,(QF p.ID 0 (p.Starts.take j)).length=base:=⟨_,rfl⟩
  have hall:QF p.ID 0 p.Starts=QF p.ID 0 (p.Starts.take j)++(s.People.map (fun x=>D.Call.mk p.ID s.K s.At x 0)++QF p.ID 0 (p.Starts.drop (j+1))):=by
   conv=>lhs;rw[hsp]
   rw[Qa6]
   rfl
  have hbl:base+s.People.length≤C.length:=by rw[hlen,hall,←hbase];simp
  have hat:∀z,z<s.People.length→nth (QF p.ID 0 p.Starts) (base+z)=D.Call.mk p.ID s.K s.At (nth s.People z) 0:=fun z hz=>by
   rw[hall,←hbase,QjY,Qc3 (by simpa using hz)]
   simp[nth,List.getD_eq_getElem?_getD,hz]
  try dsimp only at hk
  rw[hts,QcL,List.length_append,List.length_map,hbase]at hk
  rw[hbase]
  refine Ok.run s.People.length (fun z=>((C,f,((base+z:Nat):Int),lf (base+z),p.Starts,((p.Starts.length:Nat):Int),(j:Int),s.People,((s.People.length:Nat):Int),(z:Int),()),p,s,())) rfl (by omega) (fun z hz k2 hk2=>?_) (fun k2=>?_)
  ·try dsimp only
   have hlt:base+z<C.length:=by omega
   have hlw:=hlow _ hlt
   have hun:=hnth _ hlt
   rw[hat z hz]at hun
   refine Ok.p (by omega) (Ok.atn hz (Ok.j (Ok.n (by omega) (Ok.atn hlt (Ok.oe oin (Ok.bt (QL.2 hlw) (Ok.atn hlt (Ok.atn hlt (Ok.n ?_ ?_)))))))))
   ·obtain⟨cc,hcc⟩:∃cc,nth C (base+z)=cc:=⟨_,rfl⟩
    rw[hcc]at hun ⊢
    obtain⟨c1,c2,c3,c4,c5⟩:=cc
    simp only[unf,D.Call.mk.injEq]at hun
    obtain⟨u1,u2,u3,u4,_⟩:=hun
    simp[u1,u2,u3,u4]
   ·try dsimp only
    refine Ok.atn hlt ?_
    try dsimp only
    rw[Qa (by omega),Qa (by omega)]
    try dsimp only at hk2
    rw[hlf (base+(z+1)),if_neg (by omega),show base+(z+1) - 1=base+z by omega]at hk2
    exact hk2
  ·try dsimp only
   refine Ok.n (by omega) ?_
   try dsimp only
   rw[Qa (by omega)]
   exact hk
 ·try dsimp only
  rw[List.take_length]
  exact Ok.n (by omega) (Ok.s (decide_eq_true (by rw[hlen])))
theorem Ql7{L:List D.Call}(h:L.length≤1000):Xl 1000 L=some L:=by unfold Xl;exact Xc (by omega)
theorem QkP(h:Qd M n l)(hpg:l.Pages.length≤9):Qam 1000 l=some true:=by
 have htop:=h.top;have hnow:=h.now;have how:=h.owner;have hfe:=h.fence;have hse:=h.seen.len;have hcl:=h.callsLe hpg
 refine Ok.eq ?_
 unfold Qam
 refine Ok.j (Ok.oe oin (Ok.bt (QL.2 (by omega)) (Ok.n (by omega) (Ok.oe oin (Ok.bt (QL.2 how) (Ok.oe oin (Ok.bt (QL.2 (by omega)) (Ok.oe (QtC h.seen) (Ok.t ?_)))))))))
 try dsimp only
 refine Ok.oe (QsN h.cfg h.small h.book) (Ok.p rfl (Ok.oe (v:=true) ?_ (Ok.t (Ok.s rfl))))
 refine Ok.eq ?_
 unfold QeH
 have hsle:∀i,sumC (l.Pages.take i) (fun p=>(ownC p.ID l.Calls).length)≤468*i:=fun i=>by
  have:=Qot (l:=l.Pages.take i) (f:=fun p=>(ownC p.ID l.Calls).length) (m:=468) fun p hp=>by
   show(ownC p.ID l.Calls).length≤468
   unfold ownC
   exact Nat.le_trans (List.length_filter_le _ _) hcl
  refine Nat.le_trans this (Nat.mul_le_mul_left _ ?_)
  simp only[List.length_take];omega
 refine Ok.run l.Pages.length (fun i=>((((sumC (l.Pages.take i) (fun p=>(ownC p.ID l.Calls).length):Nat):Int),l.Pages,((l.Pages.length:Nat):Int),(i:Int),()),l,())) rfl (by omega) (fun i hi k hk=>?_) (fun k=>?_)
 ·try dsimp only
  have hm:=Qj hi
  obtain⟨g1,g2⟩:=h.page _ hm
  have gt:=h.told _ hm
  have hs1:=hsle i
  refine Ok.p (by omega) (Ok.atn hi ?_)
  have hasc:0<i→(nth l.Pages (i - 1)).ID<(nth l.Pages i).ID:=fun h0=>QbP h.asc (by omega) hi
  try dsimp only at hk
  rw[←QG hi,Qnm]at hk
  obtain⟨p,hp⟩:∃p,nth l.Pages i=p:=⟨_,rfl⟩
  rw[hp]at g1 g2 gt hk hasc ⊢
  have hpl:=g1.plen h.book
  have hol:(ownC p.ID l.Calls).length≤468:=by unfold ownC;exact Nat.le_trans (List.length_filter_le _ _) hcl
  refine Ok.join (fun y=>y=((((sumC (l.Pages.take i) (fun p=>(ownC p.ID l.Calls).length):Nat):Int),l.Pages,((l.Pages.length:Nat):Int),(i:Int),()),l,p,())) (fun y hy=>?_) (fun J hJ=>?_)
  ·subst hy
   try dsimp only
   refine Ok.oe (Ql7 (by omega)) (Ok.opt (Qvm (p:=p) (by omega)) fun⟨r0,r1,r2⟩ hr=>?_)
   try dsimp only at hr ⊢
   rw[hr]
   refine Ok.oe (QqR hpl (by omega) gt.same gt.up gt.fit) (Ok.f ?_)
   try dsimp only
   rw[Qa (by omega),Qc (by omega)]
   exact hk
  ·have tail:Ok (optc (Z6 1000 l.Book p) fun a13=>AM.cnd a13 (AM.cnd (decide (l.Now<p.Last)) (some false) (J ((((sumC (l.Pages.take i) (fun p=>(ownC p.ID l.Calls).length):Nat):Int),l.Pages,((l.Pages.length:Nat):Int),(i:Int),()),l,p,()))) (some false)) (·=true):=
    Ok.oe (Qhd h.book hpl) (Ok.bt (g1.check h.book) (Ok.n (by omega) (hJ _ rfl)))
   by_cases h0:0<i
   ·refine Ok.p (by omega) ?_
    rw[show IntKind.wrap .i64 ((i:Int) - 1)=((i - 1:Nat):Int)by rw[Qc (by omega)];omega]
    have:=hasc h0
    exact Ok.atn (by omega) (Ok.n (by omega) tail)
   ·exact Ok.n (by omega) tail
 ·try dsimp only
  rw[List.take_length,h.callsN]
  exact Ok.n (by omega) (Ok.s (decide_eq_true rfl))
end
end Go.Proofs.YtgokjdfkpnkekaaGreat
/-
  Plain laws of operations on ledgers: takeovers and proposed starts change nothing in the long run.
-/
namespace Go.Proofs.YtgokjdfkpnkekaaGreat
open Go AM
attribute [local irreducible] dueV stepV runV QR answerV
section
variable {n:Nat} {c:D.Config} {b:D.Book} {p q:D.Page} {now M:Int} {l x:D.Ledger} {i:Nat} {o:D.Op}
theorem Qk6{id:Int}:∀{L K:List D.Page},L.map D.Page.ID=K.map D.Page.ID→posV id L=posV id K
 |[],[],_=>rfl
 |[],_::_,h=>by simp at h
 |_::_,[],h=>by simp at h
 |y::r,z::s,h=>by
  simp only[List.map_cons,List.cons.injEq]at h
  simp only[posV,h.1,Qk6 h.2]
theorem Qt2{L K:List D.Page}(hl:L.length=K.length)(h:∀i,i<L.length→(nth L i).ID=(nth K i).ID):L.map D.Page.ID=K.map D.Page.ID:=by
 refine List.ext_getElem (by simpa using hl) fun i h1 h2=>?_
 simp only[List.length_map]at h1 h2
 have:=h i h1
 simpa [nth,List.getD_eq_getElem?_getD,List.getElem?_eq_getElem h1,List.getElem?_eq_getElem h2]using this
theorem Qs1{id:Int}{L K:List D.Page}(hl:L.length=K.length)(h:∀i,i<L.length→(nth L i).ID=(nth K i).ID):hasV id L=hasV id K:=by
 have e:=Qk6 (id:=id) (Qt2 hl h)
 unfold hasV
 rw[e,hl]
 by_cases g:posV id K<K.length
 ·rw[h _ (by omega)]
 ·have:∀q:Prop,¬(posV id K<K.length∧q):=fun q hq=>g hq.1
  rw[decide_eq_false (this _),decide_eq_false (this _)]
theorem Qo3{L:List D.Page}{p:D.Page}{j:Nat}:nth (insP L p) j=if j<posV p.ID L then nth L j else if j=posV p.ID L then p else nth L (j - 1):=by
 have hp:=Qba (id:=p.ID) (l:=L)
 have htl:(L.take (posV p.ID L)).length=posV p.ID L:=by simp;omega
 unfold insP
 split
 ·rename_i g
  rw[Qc3 (by omega),QkV g]
 ·rename_i g
  obtain⟨k,rfl⟩:∃k,j=(L.take (posV p.ID L)).length+k:=⟨j - posV p.ID L,by omega⟩
  rw[QjY,htl]
  cases k with
  |zero=>rw[if_pos (by omega),Qb1]
  |succ k=>
   rw[if_neg (by omega),UT,Qo2]
   congr 1
structure Alike (M:Int) (n:Nat) (l x:D.Ledger):Prop where
 li:Qd M n l
 xi:Qd M n x
 cfg:x.Config=l.Config
 book:x.Book=l.Book
 now:x.Now≤l.Now
 len:x.Pages.length=l.Pages.length
 page:∀i,i<l.Pages.length→(nth x.Pages i).ID=(nth l.Pages i).ID∧(runV l.Config l.Book (nth x.Pages i) l.Now).1=(runV l.Config l.Book (nth l.Pages i) l.Now).1
theorem Alike.has(h:Alike M n l x){id:Int}:hasV id x.Pages=hasV id l.Pages∧posV id x.Pages=posV id l.Pages:=by
 have e:∀i,i<x.Pages.length→(nth x.Pages i).ID=(nth l.Pages i).ID:=fun i hi=>(h.page i (by rw[←h.len];exact hi)).1
 exact⟨Qs1 h.len e,Qk6 (Qt2 h.len e)⟩
theorem Alike.wide(h:Alike M n l x)(hn:n<48):Alike M (n+1) l x:=⟨h.li.wide hn,h.xi.wide hn,h.cfg,h.book,h.now,h.len,h.page⟩
theorem Qtp(hk:o.Kind=5):(opV l o).1.Pages=(Zi l l.Pages.length).Pages∧(opV l o).1.Book=l.Book∧(opV l o).1.Config=(if 0≤o.Schedule∧o.Schedule<2 then Qia l.Config o.Schedule o.Edit else l.Config):=by
 unfold opV
 rw[if_neg (by omega),if_neg (by omega),if_neg (by omega),if_neg (by omega)]
 split
 ·exact⟨rfl,Yi.2.2.1,rfl⟩
 ·exact⟨rfl,Yi.2.2.1,Yi.2.1⟩
theorem Alike.runL(h:Alike M n l x)(hi:i<l.Pages.length):Alike M n (runI l i) x:=by
 obtain⟨k1,k2,k3,k4,k5,k6,k7⟩:=Y0 (l:=l) (i:=i)
 refine⟨h.li.run hi,h.xi,by rw[k2];exact h.cfg,by rw[k3];exact h.book,by rw[k1];exact h.now,by rw[k7];exact h.len,fun j hj=>?_⟩
 rw[k7]at hj
 rw[k1,k2,k3]
 by_cases e:j=i
 ·subst e
  refine⟨by rw[Qon h.li hi];exact(h.page j hj).1,?_⟩
  rw[QbD h.li hi,if_pos rfl,Qka (c:=l.Config) h.li.book QT.step (Int.le_refl _) (h.li.at hi).1]
  exact(h.page j hj).2
 ·rw[QbD h.li hi,if_neg e]
  exact h.page j hj
theorem Alike.runR(h:Alike M n l x)(hi:i<l.Pages.length)(hnow:x.Now=l.Now):Alike M n l (runI x i):=by
 obtain⟨k1,k2,k3,k4,k5,k6,k7⟩:=Y0 (l:=x) (i:=i)
 have hx:i<x.Pages.length:=by rw[h.len];exact hi
 refine⟨h.li,h.xi.run hx,by rw[k2];exact h.cfg,by rw[k3];exact h.book,by rw[k1];exact h.now,by rw[k7];exact h.len,fun j hj=>?_⟩
 by_cases e:j=i
 ·subst e
  refine⟨by rw[Qon h.xi hx];exact(h.page j hj).1,?_⟩
  have hq:QM QT M l.Book (nth x.Pages j):=by
   have:=(h.xi.at hx).1
   rw[h.book]at this;exact this
  rw[QbD h.xi hx,if_pos rfl,h.cfg,h.book,hnow,Qka (c:=l.Config) h.li.book QT.step (Int.le_refl _) hq]
  exact(h.page j hj).2
 ·rw[QbD h.xi hx,if_neg e]
  exact h.page j hj
theorem Qhl{L:List D.Page}:(insP L p).length=L.length+1:=by
 have:=Qba (id:=p.ID) (l:=L)
 unfold insP;rw[List.length_append,List.length_cons,List.length_take,List.length_drop];omega
theorem Alike.open(h:Alike M n l x)(hn:n<48)(ho:OpIn o)(hk:o.Kind=1)(hnow:x.Now=l.Now):Alike M (n+1) (opV l o).1 (opV x o).1:=by
 have hw:=h.wide hn
 obtain⟨e1,e2⟩:=h.has (id:=o.Page)
 have same:∀e:Int,opV l o=(l,e)→opV x o=(x,e)→Alike M (n+1) (opV l o).1 (opV x o).1:=fun e g1 g2=>by rw[g1,g2];exact hw
 by_cases g1:hasV o.Page l.Pages=true
 ·exact same 4 (by unfold opV;rw[if_pos hk,if_pos g1]) (by unfold opV;rw[if_pos hk,e1,if_pos g1])
 by_cases g2:l.Pages.length=64
 ·exact same 5 (by unfold opV;rw[if_pos hk,if_neg g1,if_pos g2]) (by unfold opV;rw[if_pos hk,e1,if_neg g1,h.len,if_pos g2])
 by_cases g3:o.Page<1
 ·exact same 1 (by unfold opV;rw[if_pos hk,if_neg g1,if_neg g2,if_pos g3]) (by unfold opV;rw[if_pos hk,e1,if_neg g1,h.len,if_neg g2,if_pos g3])
 by_cases g4:0≤o.Policy∧o.Policy<(l.Book.Policies.length:Int)
 case neg=>exact same 3 (by unfold opV;rw[if_pos hk,if_neg g1,if_neg g2,if_neg g3,if_neg g4]) (by unfold opV;rw[if_pos hk,e1,if_neg g1,h.len,if_neg g2,if_neg g3,h.book,if_neg g4])
 have f1:opV l o=(runI { l with Pages:=insP l.Pages (newP o.Page o.Policy l.Now) } (posV o.Page l.Pages),0):=by unfold opV;rw[if_pos hk,if_neg g1,if_neg g2,if_neg g3,if_pos g4]
 have f2:opV x o=(runI { x with Pages:=insP x.Pages (newP o.Page o.Policy l.Now) } (posV o.Page l.Pages),0):=by unfold opV;rw[if_pos hk,e1,if_neg g1,h.len,if_neg g2,if_neg g3,h.book,if_pos g4,e2,hnow]
 have hlen:=h.li.len
 obtain⟨i1,i2,i3⟩:=h.li.open (o:=o) (by simpa using g1) ⟨by omega,ho.page.2⟩ g4 (by omega)
 have hx4:0≤o.Policy∧o.Policy<(x.Book.Policies.length:Int):=by rw[h.book];exact g4
 obtain⟨j1,j2,j3⟩:=h.xi.open (o:=o) (by rw[e1];simpa using g1) ⟨by omega,ho.page.2⟩ hx4 (by rw[h.len];omega)
 have eP:newP o.Page o.Policy x.Now=newP o.Page o.Policy l.Now:=by rw[hnow]
 rw[eP]at j1
 have hP:(newP o.Page o.Policy l.Now).ID=o.Page:=rfl
 have hA:Alike M n { l with Pages:=insP l.Pages (newP o.Page o.Policy l.Now) } { x with Pages:=insP x.Pages (newP o.Page o.Policy l.Now) }:=by
  refine⟨i1,j1,h.cfg,h.book,h.now,by show(insP _ _).length=(insP _ _).length;rw[Qhl,Qhl,h.len],fun i hi=>?_⟩
  replace hi:i<l.Pages.length+1:=by have:i<(insP l.Pages (newP o.Page o.Policy l.Now)).length:=hi;rw[Qhl]at this;exact this
  show(nth (insP x.Pages _) i).ID=(nth (insP l.Pages _) i).ID∧(runV l.Config l.Book (nth (insP x.Pages _) i) l.Now).1=(runV l.Config l.Book (nth (insP l.Pages _) i) l.Now).1
  have hpos:=Qba (id:=o.Page) (l:=l.Pages)
  rw[Qo3,Qo3,hP,e2]
  by_cases q1:i<posV o.Page l.Pages
  ·rw[if_pos q1,if_pos q1];exact h.page i (by omega)
  ·rw[if_neg q1,if_neg q1]
   by_cases q2:i=posV o.Page l.Pages
   ·rw[if_pos q2,if_pos q2];exact⟨rfl,rfl⟩
   ·rw[if_neg q2,if_neg q2];exact h.page (i - 1) (by omega)
 have hB:=hA.runR (i:=posV o.Page l.Pages) i2 hnow
 have hC:=hB.runL (i:=posV o.Page l.Pages) i2
 rw[f1,f2]
 exact hC.wide hn
end
end Go.Proofs.YtgokjdfkpnkekaaGreat
/-
  Plain laws of operations on ledgers: an owner's starts drive all that waits.
-/
namespace Go.Proofs.YtgokjdfkpnkekaaGreat
open Go AM
attribute [local irreducible] dueV stepV runV QR answerV
section
variable {n:Nat} {c:D.Config} {b:D.Book} {p q:D.Page} {now M:Int} {l x:D.Ledger} {i:Nat} {o:D.Op}
def Qrv(p:D.Page):Int:=if p.State=2 then -1 else p.Next
theorem QpZ(h:Qd M n l)(hi:i<l.Pages.length):(runI l i).Pages=l.Pages.set i (runV l.Config l.Book (nth l.Pages i) l.Now).1∧Xb (nth (runI l i).Pages i) l.Now=false:=by
 have e:(runI l i).Pages=l.Pages.set i (runV l.Config l.Book (nth l.Pages i) l.Now).1:=by rw[h.runEq hi];rfl
 refine⟨e,?_⟩
 rw[e,Xq hi]
 exact(Qch h.book QT.step (h.at hi).1).2.2
def Qsn(l:D.Ledger)(now:Int):List Nat:=(List.range l.Pages.length).filter fun i=>Xb (nth l.Pages i) now
theorem Qso{j:Nat}:j∈Qsn l now↔j<l.Pages.length∧Xb (nth l.Pages j) now=true:=by
 unfold Qsn;rw[List.mem_filter,List.mem_range]
structure Driven (M:Int) (n:Nat) (l:D.Ledger) (now:Int) (k:Nat) (x:D.Ledger):Prop where
 inv:Qd M n x
 time:x.Now≤now∧(0<k→x.Now=now)
 len:x.Pages.length=l.Pages.length
 cfg:x.Config=l.Config∧x.Book=l.Book∧x.Owner=l.Owner∧x.Fence=l.Fence
 page:∀j,j<l.Pages.length→nth x.Pages j=if j∈(Qsn l now).take k then(runV l.Config l.Book (nth l.Pages j) now).1 else nth l.Pages j
theorem Driven.done(h:Driven M n l now (Qsn l now).length x)(hl:Qd M n l){j:Nat}(hj:j<x.Pages.length):Xb (nth x.Pages j) now=false:=by
 rw[h.len]at hj
 rw[h.page j hj,List.take_length]
 split
 ·exact(Qch hl.book QT.step (hl.at hj).1).2.2
 ·rename_i g
  cases hw:Xb (nth l.Pages j) now with
  |false=>rfl
  |true=>exact absurd (Qso.2 ⟨hj,hw⟩) g
def Qwp(L:List D.Page)(t:Int):List D.Start:=(L.filter fun p=>Xb p t).map fun p=>⟨p.ID,(dueV p).1,[]⟩
theorem Driven.none(h:Driven M n l now (Qsn l now).length x)(hl:Qd M n l):Qwp x.Pages now=[]:=by
 unfold Qwp
 rw[List.map_eq_nil_iff,List.filter_eq_nil_iff]
 intro p hp
 obtain⟨j,hj,rfl⟩:=QkS hp
 rw[h.done hl hj];simp
end
end Go.Proofs.YtgokjdfkpnkekaaGreat
/-
  Lists of operations as they are made: one after the other, with numbers and times that ascend; what they make of a new ledger.
-/
namespace Go.Proofs.YtgokjdfkpnkekaaGreat
open Go AM
attribute [local irreducible] dueV stepV runV QR answerV
section
variable {n:Nat} {c:D.Config} {b:D.Book} {p q:D.Page} {now M:Int} {l x:D.Ledger} {i:Nat} {o:D.Op} {L:List Int} {d:D.Dice} {ops:List D.Op}
def DecL(l:D.Ledger):Prop:=∀p∈l.Pages,PgX 1000000 p
theorem Qnp{a:D.Answer}(h:Yy a=true):(1≤a.ID∧a.ID≤1000000)∧0≤a.Page∧a.Page≤999999:=by
 unfold Yy at h
 simp only[bae,QL]at h
 have h1:=h.1.1.1.1.1
 have h2:=h.1.1.1.1.2
 omega
theorem DecL.set(h:DecL l)(hp:PgX 1000000 p){L:List D.Page}(e:L=l.Pages.set i p):∀q∈L,PgX 1000000 q:=fun q hq=>by
 rw[e]at hq
 rcases List.mem_or_eq_of_mem_set hq with g|rfl
 ·exact h q g
 ·exact hp
theorem DecL.run(h:DecL l)(hl:Qd M n l)(hi:i<l.Pages.length):DecL (runI l i):=
 h.set ((h _ (Qj hi)).run hl.book QT.step (hl.at hi).1) (QpZ hl hi).1
theorem DecL.runs(h:DecL l)(hl:Qd M n l):∀{k:Nat},k≤l.Pages.length→DecL (Zi l k)
 |0,_=>h
 |k+1,hk=>(h.runs hl (by omega)).run (hl.runs (by omega)) (by rw[(Yi (l:=l) (k:=k)).2.2.2.2.2.2];exact hk)
theorem QsB{a:D.Answer}(hb:QH b)(h:QM QT M b p)(hd:PgX 1000000 p)(hv:Yy a=true)(ha:a.Person<4):PgX 1000000 (ansP c b p a now):=by
 have hr:PgX 1000000 (runV c b p now).1:=hd.run hb QT.step h
 unfold ansP
 split
 ·rename_i g
  rcases QaI g with e|e
  ·rw[e];exact hr
  ·rw[e];exact hr.answer ha (Qnp hv).1
 ·exact hr
theorem DecL.op(h:DecL l)(hl:Qd M n l)(ho:OpIn o)(hlt:l.Pages.length<64)(ha:o.Kind=4→o.Answer.Person<4):DecL (opV l o).1:=by
 have hk5:=ho.kind
 by_cases k1:o.Kind=1
 ·unfold opV
  rw[if_pos k1]
  split
  ·exact h
  ·rename_i g
   split
   ·exact h
   ·split
    ·exact h
    ·split
     ·rename_i g1 g2 g3
      obtain⟨i1,i2,i3⟩:=hl.open (o:=o) (by simpa using g) ⟨by omega,ho.page.2⟩ g3 hlt
      refine DecL.run (fun q hq=>?_) i1 i2
      rcases Qfg.1 hq with rfl|hq
      ·exact PgX.new
      ·exact h q hq
     ·exact h
 by_cases k2:o.Kind=2
 ·unfold opV
  rw[if_neg k1,if_pos k2]
  split<;>exact h
 by_cases k3:o.Kind=3
 ·unfold opV
  rw[if_neg k1,if_neg k2,if_pos k3]
  split
  ·split
   ·rename_i g
    generalize (if (nth l.Pages (posV o.Page l.Pages)).State=2 then(-1:Int)else(nth l.Pages (posV o.Page l.Pages)).Next)=kk
    split
    ·exact h.run hl (VP g).1
    ·exact h
   ·exact h
  ·exact h
 by_cases k4:o.Kind=4
 ·obtain⟨_,_,e⟩:=QpG hl k4
  show ∀q∈(opV l o).1.Pages,_
  rw[e]
  split
  ·rename_i g
   have hi:=(VP g).1
   exact h.set (QsB hl.book (hl.at hi).1 (h _ (Qj hi)) (ho.answer k4).1 (ha k4)) rfl
  ·exact h
 ·obtain⟨e,_⟩:=Qtp (l:=l) (o:=o) (by omega)
  show ∀q∈(opV l o).1.Pages,_
  rw[e]
  exact h.runs hl (Nat.le_refl _)
theorem DecL.apply(h:DecL l)(hl:Qd M n l)(ho:OpIn o)(ht:max l.Now o.At≤M - 20000)(hs:l.Seen.length<256)(hlt:l.Pages.length<64)(ha:o.Kind=4→o.Answer.Person<4):DecL (ZL l o).1:=by
 cases g:l.Seen.contains o.ID with
 |true=>unfold ZL;rw[if_pos g];exact h
 |false=>rw[Qbi g];exact DecL.op (l:=seeV l o) h (hl.see ho ht g hs) ho hlt ha
def QaM(c:D.Config)(b:D.Book):D.Ledger:={ Now:=0,Config:=c,Book:=b,Pages:=[],Owner:=-1,Fence:=0,Seen:=[],Calls:=[] }
def opsV(l:D.Ledger):List D.Op→D.Ledger
 |[]=>l
 |o::r=>opsV (ZL l o).1 r
theorem Qo5:∀{a:List D.Op} {l:D.Ledger} {r:List D.Op},opsV l (a++r)=opsV (opsV l a) r
 |[],_,_=>rfl
 |o::a,l,r=>by simp only[List.cons_append,opsV,Qo5]
theorem QmJ:opsV l (ops++[o])=(ZL (opsV l ops) o).1:=by rw[Qo5];rfl
theorem QrA(h:i<ops.length):opsV l (ops.take (i+1))=(ZL (opsV l (ops.take i)) (nth ops i)).1:=by rw[←QG h,QmJ]
structure QgR (ops:List D.Op):Prop where
 op:∀j,j<ops.length→OpIn (nth ops j)∧(nth ops j).ID=(j:Int)+1∧((nth ops j).Kind=1→1≤(nth ops j).Page∧(nth ops j).Page≤3)∧((nth ops j).Kind=4→(nth ops j).Answer.Person<4)
 at_:∀j,j<ops.length→864000≤(nth ops j).At∧(nth ops j).At≤864000+700*((j:Int)+1)
 up:∀i j,i<j→j<ops.length→(nth ops i).At≤(nth ops j).At
theorem QgR.nil:QgR []:=⟨fun j hj=>by simp at hj,fun j hj=>by simp at hj,fun i j _ hj=>by simp at hj⟩
theorem Qfo{α:Type}[Inhabited α]{l:List α}{x:α}{j:Nat}:nth (l++[x]) j=if j<l.length then nth l j else if j=l.length then x else default:=by
 unfold nth
 simp only[List.getD_eq_getElem?_getD,List.getElem?_append]
 by_cases h:j<l.length
 ·rw[if_pos h,if_pos h]
 ·rw[if_neg h,if_neg h]
  by_cases e:j=l.length
  ·subst e;simp
  ·rw[if_neg e]
   have:¬(j - l.length=0):=by omega
   obtain⟨m,hm⟩:∃m,j - l.length=m+1:=⟨j - l.length - 1,by omega⟩
   rw[hm];simp
theorem QgR.snoc(h:QgR ops)(ho:OpIn o)(hid:o.ID=(ops.length:Int)+1)(hk:o.Kind=1→1≤o.Page∧o.Page≤3)(hk4:o.Kind=4→o.Answer.Person<4)(h1:864000≤o.At∧o.At≤864000+700*((ops.length:Int)+1))(h2:∀j,j<ops.length→(nth ops j).At≤o.At):QgR (ops++[o]):=by
 have hl:(ops++[o]).length=ops.length+1:=by simp
 refine⟨fun j hj=>?_,fun j hj=>?_,fun i j hij hj=>?_⟩
 ·rw[hl]at hj
  rw[Qfo]
  by_cases g:j<ops.length
  ·rw[if_pos g];exact h.op j g
  ·obtain rfl:j=ops.length:=by omega
   rw[if_neg g,if_pos rfl];exact⟨ho,hid,hk,hk4⟩
 ·rw[hl]at hj
  rw[Qfo]
  by_cases g:j<ops.length
  ·rw[if_pos g];exact h.at_ j g
  ·obtain rfl:j=ops.length:=by omega
   rw[if_neg g,if_pos rfl];exact h1
 ·rw[hl]at hj
  rw[Qfo,Qfo,if_pos (by omega)]
  by_cases g:j<ops.length
  ·rw[if_pos g];exact h.up i j hij g
  ·obtain rfl:j=ops.length:=by omega
   rw[if_neg g,if_pos rfl];exact h2 i (by omega)
structure Behind (ops:List D.Op) (k:Nat) (l:D.Ledger):Prop where
 made:Qsw k l
 dec:DecL l
 seen:∀x∈l.Seen,x≤(k:Int)
 last:l.Now≤0∨∃j,j<k∧l.Now≤(nth ops j).At
theorem Behind.first(hc:Q1 2 c)(hb:QH b):Behind ops 0 (QaM c b):=
 ⟨⟨QpF hc hb,fun p hp=>by simp[QaM]at hp,Nat.le_refl _,by simp[QaM]⟩,fun p hp=>by simp[QaM]at hp,fun x hx=>by simp[QaM]at hx,.inl (by simp[QaM])⟩
theorem Behind.fresh{k:Nat}(h:Behind ops k l)(hi:o.ID=(k:Int)+1):l.Seen.contains o.ID=false:=by
 cases hc:l.Seen.contains o.ID with
 |false=>rfl
 |true=>
  have:=h.seen _ (List.contains_iff_mem.1 hc)
  omega
theorem Behind.le{k:Nat}(h:Behind ops k l)(ho:QgR ops)(hk:k<ops.length):l.Now≤(nth ops k).At:=by
 have:=(ho.at_ k hk).1
 rcases h.last with h|⟨j,h1,h2⟩
 ·omega
 ·have:=ho.up j k h1 hk;omega
theorem Qsw.next{k:Nat}(h:Qsw k l)(hk:k≤11)(ho:OpIn o)(hp:o.Kind=1→o.Page≤3)(ht:o.At≤864000+700*((k:Int)+1)):Qsw (k+1) (ZL l o).1:=by
 have hn:=h.now;have hs:=h.seen
 have hkp:=QhI (l:=l) (o:=o)
 exact⟨h.inv.apply (by omega) ho (by omega) (by omega),h.ids.apply h.inv ho (by omega) (by omega) hp,by omega,by rcases hkp.2 with e|e<;>omega⟩
theorem Behind.next{k:Nat}(h:Behind ops k l)(ho:QgR ops)(hk:k<ops.length)(hk9:k≤9):Behind ops (k+1) (ZL l (nth ops k)).1:=by
 obtain⟨g1,g2,g3,g4⟩:=ho.op k hk
 have hnew:=h.fresh g2
 have hat:=(ho.at_ k hk).2;have hnow:=h.made.now;have hsl:=h.made.seen
 have hp3:=h.made.inv.small3 (k:=3) h.made.ids
 refine⟨h.made.next (by omega) g1 (fun e=>(g3 e).2) hat,h.dec.apply h.made.inv g1 (by omega) (by omega) (by omega) g4,fun x hx=>?_,.inr ⟨k,by omega,?_⟩⟩
 ·rw[Qbi hnew,QkW.2]at hx
  rcases List.mem_append.1 hx with hx|hx
  ·have:=h.seen x hx;omega
  ·rw[List.mem_singleton.1 hx,g2];omega
 ·rw[Qpj hnew]
  have:=h.le ho hk
  omega
theorem Behind.fold(hc:Q1 2 c)(hb:QH b)(ho:QgR ops)(h9:ops.length≤9):∀{k:Nat},k≤ops.length→Behind ops k (opsV (QaM c b) (ops.take k))
 |0,_=>by rw[List.take_zero];exact Behind.first hc hb
 |k+1,hk=>by
  rw[QrA (by omega)]
  exact(Behind.fold hc hb ho h9 (by omega)).next ho (by omega) (by omega)
theorem QvE{t u:Int}(h:∀q,q<ops.length→(nth ops q).At≤t)(ht:t≤u)(ho:o.At≤u):∀q,q<(ops++[o]).length→(nth (ops++[o]) q).At≤u:=fun q hq=>by
 rw[Qfo]
 by_cases g:q<ops.length
 ·rw[if_pos g];have:=h q g;omega
 ·have:q=ops.length:=by rw[List.length_append]at hq;simp at hq;omega
  rw[if_neg g,if_pos this];exact ho
theorem Qtr:opsV l []=l:=rfl
attribute [local irreducible] opsV ZL opV
theorem Qu4{k:Nat}(hL:L.length≤500)(h2:ZH L d)(hc:Q1 2 c)(hb:QH b)(hk:k≤9):
  Ok (V7 1000 d (QaM c b) (k:Int)) fun r=>ZH L r.2.2∧QgR r.2.1∧r.2.1.length≤k∧r.1=opsV (QaM c b) r.2.1:=by
 unfold V7 QaM
 refine Ok.loop (fun m x=>x=(((k:Int),864000,1,0,()),d,{ Now:=0,Config:=c,Book:=b,Pages:=[],Owner:=-1,Fence:=0,Seen:=[],Calls:=[] },(0,0,0,()),())) (m:=0) (by omega) rfl ?_
 rintro m x rfl K hK
 try dsimp only
 refine Ok.n (by simp) ?_
 try dsimp only
 rw[Qc (x:=(k:Int)+1) (by omega)]
 refine Ok.opt (nx hL h2 (by omega) (by omega)) fun⟨a11,d12⟩ ⟨h12,l12,u12⟩=>?_
 try dsimp only at h12 l12 u12 ⊢
 refine Ok.loop (fun m x=>∃(j:Nat) (t i:Int) (d:D.Dice) (z:Int×Int×Int×Unit) (ops:List D.Op),x=((t,(j:Int)+1,i,()),d,opsV (QaM c b) ops,z,ops,())∧ZH L d∧QgR ops∧ops.length=j∧(864000≤t∧t≤864000+700*(j:Int))∧(∀q,q<ops.length→(nth ops q).At≤t)∧0≤i∧(j:Int)+i≤(k:Int)∧m=i.toNat) (m:=a11.toNat) (by omega)
  ⟨0,864000,a11,d12,(0,0,0,()),[],by rw[Qtr];rfl,h12,QgR.nil,rfl,by omega,fun q hq=>by simp at hq,l12,by omega,rfl⟩ ?_
 rintro m x ⟨j,t,i,d,z,ops,rfl,i1,io,il,i3,iu,i4,i5,rfl⟩ K2 hK2
 obtain⟨z1,z2,z3,⟨⟩⟩:=z
 have hB:=Behind.fold hc hb io (by omega) (Nat.le_refl _)
 rw[List.take_length,il]at hB
 have i2:=hB.made
 obtain⟨l,hl⟩:∃l,opsV (QaM c b) ops=l:=⟨_,rfl⟩
 rw[hl]at hB i2 ⊢
 try dsimp only
 refine Ok.ite (fun hi=>?_) (fun hi=>Ok.s ⟨i1,io,by dsimp only;omega,hl.symm⟩)
 refine Ok.opt (Qbq hL i1 (by simp) (by simp)) fun⟨a23,d24⟩ ⟨h24,m24⟩=>?_
 try dsimp only at h24 m24 ⊢
 simp only[List.mem_cons,List.not_mem_nil,or_false]at m24
 try dsimp only
 rw[Qc (x:=t+a23) (by omega)]
 obtain⟨u,hu⟩:∃u,t+a23=u:=⟨_,rfl⟩
 rw[hu]
 have hnow:=i2.now;have hsl:=i2.seen
 refine Ok.opt (Qt7 hL h24 i2.inv i2.ids (by omega) (by omega)) fun⟨o,d26⟩ ⟨h26,ho,e1,e2,e3,e4⟩=>?_
 try dsimp only at h26 ho e1 e2 e3 e4 ⊢
 have hp3:=i2.inv.small3 (k:=3) i2.ids
 have happ:=Qqs i2.inv (by omega) (by omega) ho (by omega) (by omega)
 have hnx:=i2.next (o:=o) (by omega) ho (fun e=>(e3 e).2) (by omega)
 have hp3':=hnx.inv.small3 (k:=3) hnx.ids
 have hio:QgR (ops++[o]):=io.snoc ho (by rw[e1,il]) e3 e4 (by rw[e2,il];omega) (fun q hq=>by have:=iu q hq;omega)
 have hsn:=QvE (o:=o) (u:=u) iu (by omega) (by omega)
 have hln:(ops++[o]).length=j+1:=by simp;omega
 clear iu hB
 refine Ok.join (fun y=>y=((u,(j:Int)+2,i,()),d26,opsV (QaM c b) (ops++[o]),(z1,z2,z3,()),o,ops,())) (fun y hy=>?_) (fun J hJ=>?_)
 ·subst hy
  clear happ hnx hp3' hp3 hnow hsl i2 ho e1 e2 e3 e4
  try dsimp only
  rw[Qc (x:=i - 1) (by omega)]
  refine Ok.lec (by simp;omega) (hK2 (i - 1).toNat _ (by omega) ⟨j+1,u,i - 1,d26,(z1,z2,z3,()),ops++[o],?_,h26,hio,hln,?_,hsn,?_,?_,rfl⟩)
  ·simp only[Prod.mk.injEq,and_true,true_and]
   omega
  ·omega
  ·omega
  ·omega
 ·refine Ok.oe happ ?_
  have hf:opsV (QaM c b) (ops++[o])=(ZL l o).1:=by rw[QmJ,hl]
  obtain⟨l',e,hle⟩:∃l' e,ZL l o=(l',e):=⟨_,_,rfl⟩
  rw[hle]at hnx hp3' hf ⊢
  try dsimp only at hnx hp3' hf ⊢
  rw[show IntKind.wrap .i64 ((j:Int)+1+1)=(j:Int)+2 by rw[Qc (by omega)];omega]
  refine Ok.oe (QaN hnx.inv (by omega)) (Ok.t ?_)
  rw[←hf]
  exact hJ _ rfl
end
end Go.Proofs.YtgokjdfkpnkekaaGreat
/-
  Ledgers behind lists of operations: what is asked of each, their errors, those of made lists.
-/
namespace Go.Proofs.YtgokjdfkpnkekaaGreat
open Go AM
attribute [local irreducible] dueV stepV runV QR answerV
section
variable {n:Nat} {c:D.Config} {b:D.Book} {p q:D.Page} {now M:Int} {l x:D.Ledger} {i:Nat} {o:D.Op} {L:List Int} {d:D.Dice} {ops:List D.Op}
def QuY(l:D.Ledger):List D.Op→List Int
 |[]=>[]
 |o::r=>(ZL l o).2::QuY (ZL l o).1 r
structure Led (l:D.Ledger):Prop where
 ok:∃M n,Qd M n l∧n≤48
 pg:l.Pages.length≤9
structure OkAt (l:D.Ledger) (o:D.Op):Prop where
 ok:∃M n,Qd M n l∧n<48∧max l.Now o.At≤M - 20000
 pg:l.Pages.length≤8
 dec:DecL l
 op:OpIn o
 len:l.Seen.length<256
theorem OkAt.led(h:OkAt l o):Led l:=by
 obtain⟨M,n,h1,h2,_⟩:=h.ok
 exact⟨⟨M,n,h1,by omega⟩,by have:=h.pg;omega⟩
theorem Led.check(h:Led l):WC 1000 l=some true:=by
 obtain⟨M,n,h1,h2⟩:=h.ok
 exact QaN h1 h.pg
theorem Led.checkE(h:Led l):Qam 1000 l=some true:=by
 obtain⟨M,n,h1,h2⟩:=h.ok
 exact QkP h1 h.pg
theorem Led.copy(h:Led l):QdW 1000 l=some l:=by
 obtain⟨M,n,h1,h2⟩:=h.ok
 have:=h1.callsLe h.pg;have:=h1.seen.len;have:=h.pg
 exact QoB h1.plens (by omega) (by omega) (by omega)
structure Loose (k:Nat) (l:D.Ledger):Prop where
 inv:Qd 1000000 (2+k) l
 ids:Ids 3 l
 seen:l.Seen.length≤k
 dec:DecL l
def Qum(o:D.Op):Prop:=OpIn o∧(o.Kind=1→o.Page≤3)∧o.At≤980000∧(o.Kind=4→o.Answer.Person<4)
theorem Behind.loose{k:Nat}(h:Behind ops k l):Loose k l:=⟨h.made.inv,h.made.ids,h.made.seen,h.dec⟩
theorem Loose.okAt{k:Nat}(h:Loose k l)(hk:k≤45)(ho:Qum o):OkAt l o:=by
 have hn:=h.inv.now;have hs:=h.seen;have h2:=ho.2.2.1
 have hp3:=h.inv.small3 (k:=3) h.ids
 exact⟨⟨1000000,2+k,h.inv,by omega,by omega⟩,by omega,h.dec,ho.1,by omega⟩
theorem Loose.led{k:Nat}(h:Loose k l)(hk:k≤46):Led l:=⟨⟨1000000,2+k,h.inv,by omega⟩,by have:=h.inv.small3 (k:=3) h.ids;omega⟩
theorem Loose.next{k:Nat}(h:Loose k l)(hk:k≤45)(ho:Qum o):Loose (k+1) (ZL l o).1:=by
 have hn:=h.inv.now;have hs:=h.seen;have h2:=ho.2.2.1
 have hp3:=h.inv.small3 (k:=3) h.ids
 exact⟨h.inv.apply (by omega) ho.1 (by omega) (by omega),h.ids.apply h.inv ho.1 (by omega) (by omega) ho.2.1,by have:=(QhI (l:=l) (o:=o)).1;omega,h.dec.apply h.inv ho.1 (by omega) (by omega) (by omega) ho.2.2.2⟩
end
end Go.Proofs.YtgokjdfkpnkekaaGreat
/-
  Ledgers: what the program's operations compute.
-/
namespace Go.Proofs.YtgokjdfkpnkekaaGreat
open Go AM
attribute [local irreducible] dueV stepV runV QR answerV
section
variable {n:Nat} {c:D.Config} {b:D.Book} {p q:D.Page} {now M:Int} {l x:D.Ledger} {i:Nat} {o:D.Op} {ops:List D.Op}
theorem mapE{T:Type}[Inhabited T]{f:Nat→T→Option T}{l:List T}(hf:∀x∈l,f 1000 x=some x)(hl:l.length≤900):
  Qh (X:=((Int×(Int×Unit))×(List T×Unit))) (fun L1 ((a2,(a3,_)),(a4,_))=>(AM.cnd (decide (a3<a2)) (natc a3 fun a5=>(ltc a5 (List.length a4) (optc (GetElem?.getElem? a4 a5) fun a6=>(optc (f 1000 a6) fun a7=>(natc a3 fun a8=>(ltc a8 (List.length a4) (optc (GetElem?.getElem? a4 a8) fun a9=>(L1 ((a2,((IntKind.wrap .i64 (a3+1)),())),((List.set a4 a8 a7),())))))))))) (some a4))) 1000 (((((List.length l):Nat):Int),(0,())),(l,()))=some l:=by
 refine Ok.eq ?_
 refine Ok.run l.length (fun i=>(((((List.length l):Nat):Int),((i:Nat):Int),()),l,())) rfl (by omega) (fun i hi k hk=>?_) (fun k=>?_)
 ·try dsimp only
  refine Ok.p (by omega) (Ok.natn (Ok.lt hi (Ok.get hi (Ok.oe (hf _ (Qj hi)) (Ok.natn (Ok.lt hi (Ok.get hi ?_)))))))
  rw[Qa (by omega),Qr7 hi];exact hk
 ·try dsimp only
  exact Ok.n (by omega) (Ok.s rfl)
theorem cl_w{l:List D.Window}(h:l.length≤900):Z4 1000 l=some l:=by unfold Z4;exact Xc (by omega)
theorem cl_i{l:List Int}(h:l.length≤900):Qw 1000 l=some l:=by unfold Qw;exact Xc (by omega)
theorem Qn0{l:List D.Zone}(h:∀z∈l,z.Rules=[])(hl:l.length≤900):Zu 1000 l=some l:=by
 unfold Zu
 refine(Wo (show Xn 1000 l=some l by unfold Xn;exact Xc (by omega))).trans (mapE (f:=QdK) (fun z hz=>?_) hl)
 unfold QdK
 exact Wo (show Y3 1000 z.Rules=some z.Rules by rw[h z hz];rfl)
theorem QkR{l:List D.Person}(h:∀z∈l,z.Quiet.length≤900)(hl:l.length≤900):Q4 1000 l=some l:=by
 unfold Q4
 refine(Wo (show YH 1000 l=some l by unfold YH;exact Xc (by omega))).trans (mapE (f:=QaR) (fun z hz=>?_) hl)
 unfold QaR
 exact Wo (cl_w (h z hz))
theorem QmA{l:List D.Layer}(h:∀z∈l,YC z)(hl:l.length≤900):Zb 1000 l=some l:=by
 unfold Zb
 refine(Wo (show Y1 1000 l=some l by unfold Y1;exact Xc (by omega))).trans (mapE (f:=Qb6) (fun z hz=>?_) hl)
 have hz':=h z hz
 unfold Qb6
 exact(Wo (cl_i (by have:=hz'.len;omega))).trans (Wo (cl_w (by rw[hz'.win];simp)))
theorem QmB{l:List D.Schedule}(h:∀z∈l,QbO n z)(hn:n≤48)(hl:l.length≤900):QQ 1000 l=some l:=by
 unfold QQ
 refine(Wo (show Ye 1000 l=some l by unfold Ye;exact Xc (by omega))).trans (mapE (f:=V9) (fun z hz=>?_) hl)
 obtain⟨⟨y,hy,hy2⟩,h2,_⟩:=h z hz
 unfold V9
 refine(Wo (QmA (l:=z.Layers) (fun w hw=>?_) (by rw[hy];simp))).trans (Wo (show Xm 1000 z.Edits=some z.Edits by unfold Xm;exact Xc (by omega)))
 rw[hy]at hw
 rw[List.mem_singleton.1 hw];exact hy2
theorem QnZ{l:List D.Team}(h:∀z∈l,QlP z)(hl:l.length≤900):Zt 1000 l=some l:=by
 unfold Zt
 refine(Wo (show Wl 1000 l=some l by unfold Wl;exact Xc (by omega))).trans (mapE (f:=QdJ) (fun z hz=>?_) hl)
 unfold QdJ
 exact Wo (cl_i (by have:=(h z hz).len;omega))
theorem QnY{m:Nat}{l:List D.PolicyStep}(h:∀z∈l,StepOK' m z)(hl:l.length≤900):QZ 1000 l=some l:=by
 unfold QZ
 refine(Wo (show Yu 1000 l=some l by unfold Yu;exact Xc (by omega))).trans (mapE (f:=QdI) (fun z hz=>?_) hl)
 unfold QdI
 exact Wo (show XB 1000 z.Targets=some z.Targets by unfold XB;exact Xc (by have:=(h z hz).len;omega))
theorem QpB{m:Nat}{l:List D.Policy}(h:∀z∈l,Qbf m z)(hl:l.length≤900):Zm 1000 l=some l:=by
 unfold Zm
 refine(Wo (show XA 1000 l=some l by unfold XA;exact Xc (by omega))).trans (mapE (f:=Qfq) (fun z hz=>?_) hl)
 unfold Qfq
 exact Wo (QnY (h z hz).step (by have:=(h z hz).len;omega))
theorem Qts(h:Qx p):U7 1000 p=some p:=by
 have h1:=h.st;have h2:=h.de;have h3:=h.se
 unfold U7
 refine(Wo (x:=p.Starts) ?_).trans ((Wo (cl_i (by omega))).trans (Wo (cl_i (by omega))))
 unfold ZN
 refine(Wo (Ql8 (by omega))).trans (mapE (f:=QaP) (fun z hz=>?_) (by omega))
 unfold QaP
 exact Wo (cl_i (by have:=(h.pe z hz).1;omega))
theorem QnX{l:List D.Page}(h:∀z∈l,Qx z)(hl:l.length≤900):Zs 1000 l=some l:=by
 unfold Zs
 exact(Wo (show Wk 1000 l=some l by unfold Wk;exact Xc (by omega))).trans (mapE (f:=U7) (fun z hz=>Qts (h z hz)) hl)
theorem Led.copyE(h:Led l):QaQ 1000 l=some l:=by
 obtain⟨M,n,h1,h2⟩:=h.ok
 have hcl:=h1.callsLe h.pg;have hse:=h1.seen.len;have hpg:=h.pg;have hb:=h1.book;have hc:=h1.cfg
 have htl:=hb.tlen;have hpl:=hb.plen
 obtain⟨hz,_⟩:=hc.zones
 unfold QaQ
 rw[Qn0 (by rw[hz];intro z hm;rw[List.mem_singleton.1 hm]) (by rw[hz];simp),ZI,QkR (fun z hm=>by rcases(hc.person z hm).quiet with e|⟨_,_,e,_⟩<;>rw[e]<;>simp) (by rw[hc.plen];omega),ZI,hc.cal]
 rw[show Zl 1000 []=some []by kernel_rfl,ZI,QmB hc.sched h2 (by rw[hc.slen];omega),ZI,QnZ hb.team (by omega),ZI,QpB hb.pol (by omega),ZI,QnX h1.plens (by omega),ZI,cl_i (by omega),ZI,Ql7 (by omega),ZI]
 obtain⟨l1,⟨c1,c2,c3,c4⟩,l3,l4,l5,l6,l7,l8⟩:=l
 have hcal:=hc.cal
 dsimp only at hcal ⊢
 subst hcal
 rfl
theorem Qu5{i j:Nat}(h:i+j<1000000):IntKind.wrap .i64 (Int.fdiv (IntKind.wrap .u64 (IntKind.wrap .i64 ((i:Int)+(j:Int)))) (HPow.hPow 2 (min 1 (Go.IntKind.bits Go.IntKind.u64))))=(((i+j) / 2:Nat):Int):=by
 rw[Qc (x:=(i:Int)+(j:Int)) (by omega)]
 have e:IntKind.u64.wrap ((i:Int)+(j:Int))=(i:Int)+(j:Int):=by
  simp only[IntKind.wrap,IntKind.bits,IntKind.signed]
  simp
  omega
 rw[e,show((HPow.hPow 2 (min 1 (Go.IntKind.bits Go.IntKind.u64)):Nat):Int)=2 from rfl,Int.fdiv_eq_ediv_of_nonneg _ (by omega),Qc (by omega)]
 omega
theorem QtX{id:Int}(h1:0≤p.ID∧p.ID≤999999)(h2 : -1≤id∧id≤1000000):X4 1000 p id=some (p.ID - id):=by
 unfold X4
 rw[Qc (by omega)]
theorem Qv0{id:Int}{L:List D.Page}(ha:AscP L)(hl:L.length≤64)(hp:∀p∈L,0≤p.ID∧p.ID≤999999)(hid : -1≤id∧id≤1000000):
  QD 1000 L id=some ((posV id L:Int),hasV id L):=by
 have hple:=Qba (id:=id) (l:=L)
 refine Ok.eq ?_
 unfold QD
 refine Ok.loop (fun m x=>∃(i j:Nat),x=((id,((L.length:Nat):Int),(i:Int),(j:Int),()),L,())∧i≤posV id L∧posV id L≤j∧j≤L.length∧m=j - i) (m:=L.length) (by omega) ⟨0,L.length,rfl,by omega,by omega,by omega,by omega⟩ ?_
 rintro m x ⟨i,j,rfl,h1,h2,h3,rfl⟩ K hK
 try dsimp only
 refine Ok.ite (fun hij=>?_) (fun hij=>?_)
 ·refine Ok.nat (by omega) ?_
  rw[show(1:Int).toNat=1 from rfl,Qu5 (by omega)]
  have hh:(i+j) / 2<L.length:=by omega
  refine Ok.natn (Ok.lt hh (Ok.get hh (Ok.oe (QtX (hp _ (Qj hh)) hid) (Ok.ite (fun g=>?_) (fun g=>?_)))))
  ·try dsimp only
   rw[Qa (by omega)]
   refine hK _ _ (by omega) ⟨(i+j) / 2+1,j,rfl,?_,h2,h3,rfl⟩
   rcases Nat.lt_or_ge ((i+j) / 2) (posV id L)with g2|g2
   ·omega
   ·have:=Qk5 ha g2 hh
    omega
  ·refine hK _ _ (by omega) ⟨i,(i+j) / 2,rfl,h1,?_,by omega,rfl⟩
   rcases Nat.lt_or_ge ((i+j) / 2) (posV id L)with g2|g2
   ·have:=Qk7 g2
    omega
   ·exact g2
 ·have e:i=posV id L:=by omega
  subst e
  unfold hasV
  refine Ok.ite (fun g=>?_) (fun g=>?_)
  ·have hh:posV id L<L.length:=by omega
   refine Ok.natn (Ok.lt hh (Ok.get hh (Ok.oe (QtX (hp _ (Qj hh)) hid) (Ok.ite (fun g=>Ok.sameC (Ok.s ?_)) (fun g=>Ok.sameC (Ok.s ?_))))))
   ·rw[decide_eq_true ⟨hh,by omega⟩]
   ·rw[decide_eq_false (fun h=>g (by omega))]
  ·exact Ok.sameC (Ok.s (by rw[decide_eq_false (fun h=>g (by omega))]))
theorem Qd.idsIn(h:Qd M n l):∀p∈l.Pages,0≤p.ID∧p.ID≤999999:=fun p hp=>by
 have:=(h.page p hp).1.id;omega
theorem Qii{id:Int}(h:Qd M n l)(hid : -1≤id∧id≤1000000):ZU 1000 l id=some ((posV id l.Pages:Int),hasV id l.Pages):=by
 unfold ZU
 rw[Qv0 h.asc h.len h.idsIn hid,ZI]
 dsimp only
 rw[Wd,Wd,Wd]
theorem Qtm:QdG 1000 p=some (Qrv p):=by
 unfold QdG Qrv
 (try unfold cd);rw[QtY];split<;>rfl
theorem QsP{k:Nat}(hi:i<l.Pages.length)(hp:Qx (nth l.Pages i))(hk:k≤(nth l.Pages i).Starts.length)(hcl:l.Calls.length≤20000):
  QX 1000 ⟨l⟩ (i:Int) (k:Int)=some ⟨{ l with Calls:=l.Calls++QF (nth l.Pages i).ID l.Fence ((nth l.Pages i).Starts.drop k) }⟩:=by
 obtain⟨P,hP⟩:∃P,nth l.Pages i=P:=⟨_,rfl⟩
 have hst:=hp.st
 refine Ok.eq ?_
 unfold QX
 refine Ok.natn (Ok.lt hi (Ok.get hi (Ok.natn (Ok.lec hk ?_))))
 rw[hP]at hp hk hst ⊢
 refine Ok.run (P.Starts.length - k) (fun j=>(((P.Starts.drop k),(((P.Starts.drop k).length:Nat):Int),(j:Int),()),(l.Now,l.Config.Zones,l.Config.People,l.Config.Calendars,l.Config.Schedules,l.Book.Teams,l.Book.Policies,l.Owner,l.Fence,()),P,l.Pages,l.Seen,l.Calls++QF P.ID l.Fence ((P.Starts.drop k).take j),())) (by rw[List.take_zero];simp[QF]) (by omega) (fun j hj kk hkk=>?_) (fun kk=>?_)
 ·try dsimp only
  have hdl:j<(P.Starts.drop k).length:=by simp;omega
  refine Ok.p (by omega) (Ok.atn hdl ?_)
  have hpe:=(hp.pe _ (List.mem_of_mem_drop (Qj hdl))).1
  have hts:(P.Starts.drop k).take (j+1)=(P.Starts.drop k).take j++[nth (P.Starts.drop k) j]:=(QG hdl).symm
  have hol:(QF P.ID l.Fence ((P.Starts.drop k).take j)).length≤40*((P.Starts.drop k).take j).length:=Qae (m:=40) fun s hs=>(hp.pe s (List.mem_of_mem_drop (List.mem_of_mem_take hs))).1
  rw[List.length_take,List.length_drop]at hol
  obtain⟨s,hs⟩:∃s,nth (P.Starts.drop k) j=s:=⟨_,rfl⟩
  rw[hs]at hpe hts ⊢
  refine Ok.run s.People.length (fun z=>(((P.Starts.drop k),(((P.Starts.drop k).length:Nat):Int),(j:Int),s.People,((s.People.length:Nat):Int),(z:Int),()),(l.Now,l.Config.Zones,l.Config.People,l.Config.Calendars,l.Config.Schedules,l.Book.Teams,l.Book.Policies,l.Owner,l.Fence,()),P,s,l.Pages,l.Seen,(l.Calls++QF P.ID l.Fence ((P.Starts.drop k).take j))++(s.People.take z).map (fun x=>D.Call.mk P.ID s.K s.At x l.Fence),())) (by rw[List.take_zero,List.map_nil,List.append_nil];rfl) (by omega) (fun z hz k2 hk2=>?_) (fun k2=>?_)
  ·try dsimp only
   refine Ok.p (by omega) (Ok.atn hz (Ok.lec ?_ ?_))
   ·simp only[List.length_append,List.length_map,List.length_take,List.length_cons,List.length_nil];omega
   ·try dsimp only
    rw[Qa (by omega)]
    try dsimp only at hk2
    rw[←QG hz,List.map_append,←List.append_assoc]at hk2
    exact hk2
  ·try dsimp only
   refine Ok.n (by omega) ?_
   try dsimp only
   rw[Qa (by omega),List.take_length]
   try dsimp only at hkk
   rw[hts,QcL,←List.append_assoc]at hkk
   exact hkk
 ·try dsimp only
  refine Ok.n (by simp) (Ok.s ?_)
  rw[List.take_of_length_le (by simp)]
theorem QrL{A:D.Page}(hi:i<l.Pages.length)(hA:Qx A)(hx:Ext (nth l.Pages i) A)(hcl:l.Calls.length≤20000):
  QX 1000 ⟨⟨l.Now,l.Config,l.Book,l.Pages.set i A,l.Owner,l.Fence,l.Seen,l.Calls⟩⟩ (i:Int) (((nth l.Pages i).Starts.length:Nat):Int)=some ⟨putV l i A⟩:=by
 obtain⟨m,hm⟩:=hx
 have hset:nth (l.Pages.set i A) i=A:=Xq hi
 have hc:=QsP (l:={ l with Pages:=l.Pages.set i A }) (i:=i) (k:=(nth l.Pages i).Starts.length) (by show i<(l.Pages.set i A).length;rw[List.length_set];exact hi) (by show Qx (nth (l.Pages.set i A) i);rw[hset];exact hA)
  (by show _≤(nth (l.Pages.set i A) i).Starts.length;rw[hset,hm];simp) hcl
 refine hc.trans ?_
 show some (D.worker.mk { l with Pages:=l.Pages.set i A,Calls:=l.Calls++QF (nth (l.Pages.set i A) i).ID l.Fence ((nth (l.Pages.set i A) i).Starts.drop (nth l.Pages i).Starts.length) })=_
 rw[hset];rfl
theorem Qlu(h:Qd M n l)(hpg:l.Pages.length≤9)(hi:i<l.Pages.length):QC 1000 ⟨l⟩ (i:Int)=some ⟨runI l i⟩:=by
 have hcl:=h.callsLe hpg
 have hat:=h.at hi
 have hpl:=hat.1.plen h.book
 refine Ok.eq ?_
 unfold QC
 refine Ok.natn (Ok.lt hi (Ok.get hi (Ok.oe (Qwe h.cfg h.small h.book hpl) ?_)))
 have hext:=Qlx (c:=l.Config) (now:=l.Now) h.book hat.1
 have hR:=hpl.runV (c:=l.Config) (now:=l.Now) h.book
 have hid:=(Qdp (c:=l.Config) (now:=l.Now) h.book QT.step hat.1).id
 have herr:=(Qch (c:=l.Config) (now:=l.Now) h.book QT.step hat.1).2.1
 rw[h.runEq hi]
 obtain⟨R,e,hRe⟩:∃R e,runV l.Config l.Book (nth l.Pages i) l.Now=(R,e):=⟨_,_,rfl⟩
 rw[hRe]at hext hR hid herr ⊢
 try dsimp only at hext hR hid herr ⊢
 subst herr
 refine Ok.n (by simp) (Ok.natn (Ok.lt hi (Ok.get hi (Ok.natn (Ok.lt hi (Ok.get hi ?_))))))
 exact Ok.oe (QrL hi hR hext (by omega)) (Ok.s rfl)
theorem QtB(h:Qd M n l)(hpg:l.Pages.length≤9):∀{k:Nat},k<l.Pages.length→QC 1000 ⟨Zi l k⟩ (k:Int)=some ⟨Zi l (k+1)⟩:=fun{k} hk=>by
 have hr:=h.runs (k:=k) (by omega)
 have hl:=(Yi (l:=l) (k:=k)).2.2.2.2.2.2
 exact Qlu hr (by rw[hl];exact hpg) (by rw[hl];exact hk)
theorem Qvl(hf:0≤l.Fence∧l.Fence≤100000)(hk:o.Kind=2):Z1 1000 ⟨l⟩ o=some ((opV l o).2,⟨(opV l o).1⟩):=by
 refine Ok.eq ?_
 unfold Z1 opV
 rw[if_neg (by omega),if_pos hk,Qc (by dsimp only;omega)]
 refine Ok.ite (fun g=>Ok.s ?_) (fun g=>Ok.s ?_)
 ·rw[if_neg (fun e=>g e)]
 ·rw[if_pos (by simpa using g)]
theorem Qsb(h:Qd M n l)(hpg:l.Pages.length≤9)(ho:OpIn o)(hk:o.Kind=3):ZF 1000 ⟨l⟩ o=some ((opV l o).2,⟨(opV l o).1⟩):=by
 have hop:=ho.page
 refine Ok.eq ?_
 unfold ZF opV
 rw[if_neg (by omega),if_neg (by omega),if_pos hk]
 refine Ok.join (fun y=>y=((),(l.Now,l.Config.Zones,l.Config.People,l.Config.Calendars,l.Config.Schedules,l.Book.Teams,l.Book.Policies,l.Owner,l.Fence,()),o,l.Pages,l.Seen,l.Calls,())∧o.Region=l.Owner∧o.Fence=l.Fence) (fun y hy=>?_) (fun J hJ=>Ok.ite (fun g=>Ok.s ?_) (fun g=>Ok.ite (fun g2=>Ok.s ?_) (fun g2=>hJ _ ⟨rfl,by simpa using g,by simpa using g2⟩)))
 ·obtain⟨rfl,g1,g2⟩:=hy
  try dsimp only
  rw[if_pos ⟨g1,g2⟩]
  refine Ok.oe (Qii (l:=l) h (by omega)) (Ok.ncnd (fun hh=>Ok.s ?_) (fun hh=>?_))
  ·rw[if_neg (by rw[show hasV _ l.Pages=false from hh];simp)]
  ·rw[if_pos hh]
   have hi:=(VP hh).1
   refine Ok.natn (Ok.lt hi (Ok.get hi ?_))
   have hrun:=Qlu h hpg hi
   obtain⟨pg,hpg2⟩:∃pg,nth l.Pages (posV o.Page l.Pages)=pg:=⟨_,rfl⟩
   rw[hpg2]
   have hw:Xb pg l.Now=((dueV pg).2 && decide ((dueV pg).1≤l.Now)):=rfl
   have hkk:(if pg.State=2 then(-1:Int)else pg.Next)=Qrv pg:=rfl
   rw[hkk]
   refine Ok.join (fun y=>y=((((posV o.Page l.Pages:Nat):Int),()),(l.Now,l.Config.Zones,l.Config.People,l.Config.Calendars,l.Config.Schedules,l.Book.Teams,l.Book.Policies,l.Owner,l.Fence,()),l.Pages,l.Seen,l.Calls,())∧Xb pg l.Now=true∧o.K=Qrv pg) (fun y hy=>?_) (fun J hJ=>?_)
   ·obtain⟨rfl,g3,g4⟩:=hy
    try dsimp only
    rw[if_pos ⟨g3,g4⟩]
    exact Ok.oe hrun (Ok.s rfl)
   ·refine Ok.oe Qme (Ok.cnd (fun g3=>Ok.ite (fun g4=>Ok.s ?_) (fun g4=>Ok.oe Qtm (Ok.ite (fun g5=>Ok.s ?_) (fun g5=>hJ _ ⟨rfl,?_,?_⟩)))) (fun g3=>Ok.s ?_))
    ·rw[if_neg (fun hx=>by rw[hw,g3]at hx;have:=of_decide_eq_true (show decide ((dueV pg).1≤l.Now)=true by simpa using hx.1);omega)]
    ·rw[if_neg (fun hx=>g5 hx.2.symm)]
    ·rw[hw,g3];simp;omega
    ·exact(show Qrv pg=o.K by simpa using g5).symm
    ·rw[if_neg (fun hx=>by rw[hw,g3]at hx;simp at hx)]
 ·rw[if_neg (fun hx=>g hx.1)]
 ·rw[if_neg (fun hx=>g2 hx.2)]
theorem Qr0(h:Qd M n l)(hpg:l.Pages.length≤9)(hd:DecL l)(hk:o.Kind=4)(ha:Yy o.Answer=true):Zz 1000 ⟨l⟩ o=some ((opV l o).2,⟨(opV l o).1⟩):=by
 have hcl:=h.callsLe hpg
 have hap:=(Qnp ha).2
 refine Ok.eq ?_
 unfold Zz opV
 rw[if_neg (by omega),if_neg (by omega),if_neg (by omega),if_pos hk]
 refine Ok.oe (Qii (l:=l) h (by omega)) (Ok.ncnd (fun hh=>Ok.s ?_) (fun hh=>?_))
 ·rw[if_neg (by rw[show hasV _ l.Pages=false from hh];simp)]
 ·rw[if_pos hh]
  have hi:=VP hh
  refine Ok.oe (Qlu h hpg hi.1) ?_
  have h2:=h.run hi.1
  have hkp:=Y0 (l:=l) (i:=posV o.Answer.Page l.Pages)
  obtain⟨i,hie⟩:∃i,posV o.Answer.Page l.Pages=i:=⟨_,rfl⟩
  rw[hie]at hi h2 hkp ⊢
  have hi2:i<(runI l i).Pages.length:=by omega
  have hcl2:=h2.callsLe (by omega)
  refine Ok.natn (Ok.lt hi2 (Ok.get hi2 ?_))
  have hpl2:=h2.plens _ (Qj hi2)
  have hde:(nth (runI l i).Pages i).Declined.length≤11:=by
   have:=((hd.run h hi.1) _ (Qj (hie ▸ hi2))).dlen (h2.at hi2).1.declined
   omega
  obtain⟨a,hae⟩:∃a:D.Answer,a=D.Answer.mk o.Answer.ID o.Answer.Page o.Answer.Person o.Answer.Kind o.Answer.Arg (runI l i).Now:=⟨_,rfl⟩
  have hae2:D.Answer.mk o.Answer.ID o.Answer.Page o.Answer.Person o.Answer.Kind o.Answer.Arg l.Now=a:=by rw[hae,hkp.1]
  rw[←hae]
  refine Ok.oe (Qqo h2.book hpl2 hde) ?_
  have hz:=QaI (b:=(runI l i).Book) (p:=nth (runI l i).Pages i) (a:=a)
  have hAl:=hpl2.answerV (a:=a) h2.book
  show Ok _ (·=((if (answerV l.Book (nth (runI l i).Pages i) (D.Answer.mk o.Answer.ID o.Answer.Page o.Answer.Person o.Answer.Kind o.Answer.Arg l.Now)).2=0 then(putV (runI l i) i (answerV l.Book (nth (runI l i).Pages i) (D.Answer.mk o.Answer.ID o.Answer.Page o.Answer.Person o.Answer.Kind o.Answer.Arg l.Now)).1,(0:Int))else(runI l i,(answerV l.Book (nth (runI l i).Pages i) (D.Answer.mk o.Answer.ID o.Answer.Page o.Answer.Person o.Answer.Kind o.Answer.Arg l.Now)).2)).2,(D.worker.mk (if (answerV l.Book (nth (runI l i).Pages i) (D.Answer.mk o.Answer.ID o.Answer.Page o.Answer.Person o.Answer.Kind o.Answer.Arg l.Now)).2=0 then(putV (runI l i) i (answerV l.Book (nth (runI l i).Pages i) (D.Answer.mk o.Answer.ID o.Answer.Page o.Answer.Person o.Answer.Kind o.Answer.Arg l.Now)).1,(0:Int))else(runI l i,(answerV l.Book (nth (runI l i).Pages i) (D.Answer.mk o.Answer.ID o.Answer.Page o.Answer.Person o.Answer.Kind o.Answer.Arg l.Now)).2)).1)))
  rw[hae2,←hkp.2.2.1]
  obtain⟨A,e,hA⟩:∃A e,answerV (runI l i).Book (nth (runI l i).Pages i) a=(A,e):=⟨_,_,rfl⟩
  rw[hA]at hz hAl ⊢
  try dsimp only at hz hAl ⊢
  by_cases he:e=0
  ·rw[if_pos he]
   have hq:=hz he
   have hext:Ext (nth (runI l i).Pages i) A:=by
    rcases hq with rfl|rfl
    ·exact Ext.refl _
    ·exact Qep
   refine Ok.n (fun g=>g he) (Ok.natn (Ok.lt hi2 (Ok.get hi2 (Ok.natn (Ok.lt hi2 (Ok.get hi2 ?_))))))
   exact Ok.oe (QrL hi2 hAl hext (by omega)) (Ok.s rfl)
  ·rw[if_neg he]
   exact Ok.p he (Ok.s rfl)
end
end Go.Proofs.YtgokjdfkpnkekaaGreat
/-
  Ledgers: what the program's operations, lists of operations and what waits compute.
-/
namespace Go.Proofs.YtgokjdfkpnkekaaGreat
open Go AM
attribute [local irreducible] dueV stepV runV QR answerV
section
variable {n:Nat} {c:D.Config} {b:D.Book} {p q:D.Page} {now M:Int} {l x:D.Ledger} {i:Nat} {o:D.Op} {ops:List D.Op}
theorem QsV{x:D.Edit}{s:Int}(h:Q1 n c)(hn:n<48)(hx:Qab x):WU 1000 c s x=some (if 0≤s∧s<2 then(Qia c s x,0)else(cfg0,3)):=by
 have hsl:=h.slen
 have hpl:=h.plen
 obtain⟨off,hz,_⟩:=h.zone
 have hab:∃a b,c.Schedules=[a,b]:=by
  rcases hcs:c.Schedules with _|⟨a,_|⟨b,_|⟨d,r⟩⟩⟩
  ·rw[hcs]at hsl;simp at hsl
  ·rw[hcs]at hsl;simp at hsl
  ·exact⟨a,b,rfl⟩
  ·rw[hcs]at hsl;simp at hsl
 obtain⟨a,b,hab⟩:=hab
 have hpp:∃p1 p2 p3 p4,c.People=[p1,p2,p3,p4]:=by
  rcases hcs:c.People with _|⟨a,_|⟨b,_|⟨d,_|⟨e,_|⟨f,r⟩⟩⟩⟩⟩<;>rw[hcs]at hpl<;>simp at hpl
  exact⟨a,b,d,e,rfl⟩
 obtain⟨p1,p2,p3,p4,hpp⟩:=hpp
 have ha:=h.sched a (by rw[hab];simp)
 have hb:=h.sched b (by rw[hab];simp)
 obtain⟨la,hla,hla2⟩:=ha.layers
 obtain⟨lb,hlb,hlb2⟩:=hb.layers
 have hla3:=ha.len;have hlb3:=hb.len;have hla4:=hla2.len;have hlb4:=hlb2.len
 have hin:QjE 1000 ⟨bZ,off,[]⟩ [p1,p2,p3,p4] la lb a.Edits b.Edits:=by
  refine⟨by simp,fun p hp=>?_,by omega,by rw[hla2.win];simp,by omega,by rw[hlb2.win];simp,by omega,by omega⟩
  rcases(h.person p (by rw[hpp];exact hp)).quiet with g|⟨_,_,g,_⟩<;>rw[g]<;>simp
 refine Ok.eq ?_
 unfold WU
 rw[hz,hpp,h.cal,hab]
 dsimp only
 rw[hla,hlb]
 dsimp only
 rw[if_pos hin]
 refine Ok.oe (Qhe h (by omega)) (Ok.n (by simp) (Ok.ite (fun hs=>?_) (fun g=>Ok.s ?_)))
 ·have hadd:addE c a b s x=Qia c s x:=by
   unfold addE Qia
   rw[hab]
   rcases(show s=0∨s=1 by omega)with rfl|rfl
   ·rfl
   ·rfl
  rw[if_pos hs,hadd]
  exact Ok.oe (Qhe (QkB h hx hs) (by omega)) (Ok.n (by simp) (Ok.s rfl))
 ·rw[if_neg g]
theorem Qv2{P:D.Page}{L:List D.Page}(hl:L.length≤64):Qz 1000 L (posV P.ID L:Int) [P]=some (insP L P):=by
 have hp:=Qba (id:=P.ID) (l:=L)
 refine Ok.eq ?_
 unfold Qz insP
 by_cases g:posV P.ID L=L.length
 ·rw[if_pos (by omega)]
  unfold Xe
  refine Ok.natn (Ok.lec hp (Ok.n (by simp) (Ok.p (by omega) (Ok.lec (by simp;omega) (Ok.s ?_)))))
  rw[g,List.take_length,List.drop_length]
 ·rw[if_neg (by omega)]
  exact Ok.natn (Ok.lt (by omega) (Ok.lec (by omega) (Ok.s rfl)))
theorem Qtq(h:Qd M n l)(hpg:l.Pages.length≤8)(ho:OpIn o)(hk:o.Kind=1):ZP 1000 ⟨l⟩ o=some ((opV l o).2,⟨(opV l o).1⟩):=by
 have hnow:=h.now;have htop:=h.top;have hpl:=h.book.plen;have hop:=ho.page
 refine Ok.eq ?_
 unfold ZP opV
 rw[if_pos hk]
 refine Ok.oe (Qii (l:=l) h (by omega)) (Ok.cnd (fun g=>Ok.s ?_) (fun g=>?_))
 ·rw[if_pos g]
 replace g:hasV o.Page l.Pages=false:=g
 rw[if_neg (by rw[g];simp)]
 refine Ok.n (by dsimp only;omega) ?_
 rw[if_neg (by omega)]
 refine Ok.oe (Qvg h.book) ?_
 unfold newV
 by_cases g1:o.Page<1
 ·rw[if_pos g1,if_neg (fun hh=>by have:=QL.1 hh.1;omega)]
  exact Ok.p (by simp) (Ok.s rfl)
 rw[if_neg g1,if_pos ⟨QL.2 (by omega),QL.2 (by dsimp only;omega)⟩]
 by_cases g2:0≤o.Policy∧o.Policy<(l.Book.Policies.length:Int)
 ·rw[if_pos g2,if_pos (QL.2 (by dsimp only;omega))]
  try dsimp only
  refine Ok.n (by simp) ?_
  obtain⟨hi1,hi2,hi3⟩:=h.open (o:=o) g (by omega) g2 (by omega)
  have hP:(newP o.Page o.Policy l.Now).ID=o.Page:=rfl
  have hins:=Qv2 (P:=newP o.Page o.Policy l.Now) (L:=l.Pages) h.len
  rw[hP]at hins
  refine Ok.oe hins ?_
  exact Ok.oe (Qlu hi1 (by show(insP l.Pages _).length≤9;rw[Qhl];omega) hi2) (Ok.s rfl)
 ·rw[if_neg g2,if_neg (fun hh=>g2 (by have:=QL.1 hh;dsimp only at this;omega))]
  exact Ok.p (by simp) (Ok.s rfl)
theorem Qq2(h:Qd M n l)(hn:n<48)(hpg:l.Pages.length≤9)(ho:OpIn o)(hk:o.Kind=5):ZO 1000 ⟨l⟩ o=some ((opV l o).2,⟨(opV l o).1⟩):=by
 refine Ok.eq ?_
 unfold ZO opV
 rw[if_neg (by omega),if_neg (by omega),if_neg (by omega),if_neg (by omega)]
 refine Ok.run l.Pages.length (fun i=>((((l.Pages.length:Nat):Int),(i:Int),()),((Zi l i).Now,(Zi l i).Config.Zones,(Zi l i).Config.People,(Zi l i).Config.Calendars,(Zi l i).Config.Schedules,(Zi l i).Book.Teams,(Zi l i).Book.Policies,(Zi l i).Owner,(Zi l i).Fence,()),o,(Zi l i).Pages,(Zi l i).Seen,(Zi l i).Calls,())) rfl (by omega) (fun i hi k hk=>?_) (fun k=>?_)
 ·try dsimp only
  refine Ok.p (by omega) (Ok.oe (QtB h hpg hi) ?_)
  try dsimp only
  rw[Qa (by omega)]
  exact hk
 ·try dsimp only
  have hki:=Yi (l:=l) (k:=l.Pages.length)
  obtain⟨L,hL⟩:∃L,Zi l l.Pages.length=L:=⟨_,rfl⟩
  rw[hL]at hki ⊢
  have hed:=QsV (c:=L.Config) (s:=o.Schedule) (by rw[hki.2.1];exact h.cfg) hn (ho.edit hk)
  refine Ok.n (by omega) (Ok.oe hed ?_)
  by_cases hs:0≤o.Schedule∧o.Schedule<2
  ·rw[if_pos hs,if_pos hs,←hki.2.1]
   exact Ok.j (Ok.p rfl (Ok.s rfl))
  ·rw[if_neg hs,if_neg hs]
   exact Ok.j (Ok.n (by simp) (Ok.s rfl))
theorem OpIn.validE(ho:OpIn o):Qb2 1000 o=some true:=by
 refine Ok.eq ?_
 unfold Qb2
 refine Ok.oe oin (Ok.bt (QL.2 ho.id) (Ok.oe oin (Ok.bt (QL.2 ho.kind) (Ok.oe oin (Ok.bt (QL.2 ho.region) (Ok.oe oin (Ok.bt (QL.2 ho.fence) (Ok.oe oin (Ok.bt (QL.2 ho.at_) (Ok.oe oin (Ok.bt (QL.2 ho.page) (Ok.oe oin (Ok.bt (QL.2 ho.k) ?_)))))))))))))
 exact Ok.ite (fun g=>Ok.s rfl) (fun g=>Ok.oe Qpg (Ok.bt (ho.answer (by omega)).1 (Ok.s rfl)))
theorem OkAt.apply(h:OkAt l o):Qb3 1000 l o=some ((ZL l o).1,(ZL l o).2,true):=by
 obtain⟨M,n,h1,h2,h3⟩:=h.ok
 have hpg:=h.pg;have hsl:=h.len;have ho:=h.op;have hfe:=h1.fence
 refine Ok.eq ?_
 unfold Qb3
 refine Ok.j (Ok.oe h.led.checkE (Ok.t (Ok.oe ho.validE (Ok.t ?_))))
 try dsimp only
 refine Ok.oe h.led.copyE (Ok.oe (QaJ (by omega)) (Ok.cnd (fun g=>Ok.s ?_) (fun g=>?_)))
 ·unfold ZL;rw[if_pos g]
 rw[Qbi g]
 have hsee:=h1.see ho h3 g hsl
 have hsp:(seeV l o).Pages.length≤8:=hpg
 have hsf:0≤(seeV l o).Fence∧(seeV l o).Fence≤100000:=by show 0≤l.Fence∧l.Fence≤100000;omega
 have hsd:DecL (seeV l o):=h.dec
 have hkd:=ho.kind
 have key:∀r:Int×D.worker,r=((opV (seeV l o) o).2,⟨(opV (seeV l o) o).1⟩)→Ok (some (D.Ledger.mk r.2.Ledger.Now (D.Config.mk r.2.Ledger.Config.Zones r.2.Ledger.Config.People r.2.Ledger.Config.Calendars r.2.Ledger.Config.Schedules) (D.Book.mk r.2.Ledger.Book.Teams r.2.Ledger.Book.Policies) r.2.Ledger.Pages r.2.Ledger.Owner r.2.Ledger.Fence r.2.Ledger.Seen r.2.Ledger.Calls,r.1,true)) (·=((opV (seeV l o) o).1,(opV (seeV l o) o).2,true)):=fun r e=>by
  subst e
  obtain⟨L,e,hLe⟩:∃L e,opV (seeV l o) o=(L,e):=⟨_,_,rfl⟩
  rw[hLe]
  exact Ok.s rfl
 refine Ok.n (by omega) (Ok.lec (by simp;omega) (Ok.j ?_))
 refine Ok.ite (fun k1=>?_) (fun k1=>Ok.ite (fun k2=>?_) (fun k2=>Ok.ite (fun k3=>?_) (fun k3=>Ok.ite (fun k4=>?_) (fun k4=>?_))))
 ·exact Ok.oe (Qtq (l:=seeV l o) hsee hsp ho k1) (key _ rfl)
 ·exact Ok.oe (Qvl (l:=seeV l o) hsf k2) (key _ rfl)
 ·exact Ok.oe (Qsb (l:=seeV l o) hsee (by omega) ho k3) (key _ rfl)
 ·exact Ok.oe (Qr0 (l:=seeV l o) hsee (by omega) hsd k4 (ho.answer k4).1) (key _ rfl)
 ·exact Ok.oe (Qq2 (l:=seeV l o) hsee h2 (by omega) ho (by omega)) (key _ rfl)
theorem OkAt.prog(h:OkAt l o):VQ 1000 l o=some (ZL l o):=by
 refine Ok.eq ?_
 unfold VQ
 exact Ok.oe h.apply (Ok.nt rfl (Ok.s rfl))
end
end Go.Proofs.YtgokjdfkpnkekaaGreat
/-
  Ledgers that are equal are the same to the reference.
-/
namespace Go.Proofs.YtgokjdfkpnkekaaGreat
open Go AM
attribute [local irreducible] dueV stepV runV QR answerV
section
variable {n:Nat} {c:D.Config} {b:D.Book} {l:D.Ledger}
theorem Qvz{x:List Int}(hx:x.length≤900):Vr 1000 x x=some true:=by rw[Qly hx];simp
theorem Qwh{x:List D.Window}(hx:x.length≤900):VW 1000 x x=some true:=by
 refine Ok.eq ?_
 unfold VW
 refine Ok.n (by simp) (Ok.run2 x.length (fun i=>(x,x,(i:Int),())) rfl (by omega) (fun i hi K hK=>?_) (fun K=>by dsimp only;exact Ok.n (by omega) (Ok.s rfl)))
 try dsimp only
 refine Ok.p (by omega) (Ok.atn hi (Ok.atn hi (Ok.n (by simp) ?_)))
 try dsimp only
 rw[Qa (by omega)];exact hK
theorem QwC{z:D.Zone}(hz:z.Rules=[]):QfC 1000 z z=some true:=by
 refine Ok.eq ?_
 unfold QfC
 refine Ok.j (Ok.n (by simp) (Ok.n (by simp) (Ok.n (by simp) ?_)))
 exact Ok.run 0 (fun i=>(((i:Int),()),z,z,())) rfl (by omega) (fun i hi=>by omega) (fun K=>by dsimp only;rw[hz];exact Ok.n (by simp) (Ok.s rfl))
theorem QwB{s:D.Schedule}(h:QbO n s)(hn:n≤48):QfB 1000 s s=some true:=by
 obtain⟨⟨y,hy,hy2⟩,h2,_⟩:=h
 have hyl:s.Layers.length=1:=by rw[hy];rfl
 refine Ok.eq ?_
 unfold QfB
 refine Ok.j (Ok.n (by simp) (Ok.n (by simp) (Ok.n (by simp) ?_)))
 refine Ok.run s.Edits.length (fun i=>(((i:Int),()),s,s,())) rfl (by omega) (fun i hi K hK=>?_) (fun K=>?_)
 ·try dsimp only
  refine Ok.p (by omega) (Ok.atn hi (Ok.atn hi (Ok.n (by simp) ?_)))
  try dsimp only
  rw[Qa (by omega)];exact hK
 ·try dsimp only
  refine Ok.n (by omega) (Ok.run s.Layers.length (fun i=>(((i:Int),()),s,s,())) rfl (by omega) (fun i hi K hK=>?_) (fun K=>by dsimp only;exact Ok.n (by omega) (Ok.s rfl)))
  try dsimp only
  refine Ok.p (by omega) (Ok.j ?_)
  have hm:nth s.Layers i=y:=by
    rw[hy];rw[hyl]at hi;obtain rfl:i=0:=by omega
    rfl
  refine Ok.atn hi (Ok.atn hi ?_)
  rw[hm]
  refine Ok.n (by simp) (Ok.n (by simp) (Ok.n (by simp) (Ok.n (by simp) (Ok.n (by simp) (Ok.n (by simp) (Ok.n (by simp) (Ok.oe (Qvz (by have:=hy2.len;omega)) (Ok.t (Ok.oe (Qwh (by rw[hy2.win];simp)) (Ok.t ?_))))))))))
  try dsimp only
  rw[Qa (by omega)];exact hK
theorem Qvy(h:Q1 n c)(hn:n≤48):Uc 1000 c c=some true:=by
 obtain⟨hz,_⟩:=h.zones
 have hpl:=h.plen;have hsl:=h.slen;have hcal:=h.cal
 have hzl:c.Zones.length=1:=by rw[hz];rfl
 refine Ok.eq ?_
 unfold Uc
 refine Ok.j (Ok.n (by simp) (Ok.n (by simp) (Ok.n (by simp) (Ok.n (by simp) ?_))))
 refine Ok.run c.Zones.length (fun i=>(((i:Int),()),c,c,())) rfl (by omega) (fun i hi K hK=>?_) (fun K=>?_)
 ·try dsimp only
  have hm:(nth c.Zones i).Rules=[]:=by
    rw[hz];rw[hzl]at hi;obtain rfl:i=0:=by omega
    rfl
  refine Ok.p (by omega) (Ok.atn hi (Ok.atn hi (Ok.oe (QwC hm) (Ok.f ?_))))
  try dsimp only
  rw[Qa (by omega)];exact hK
 try dsimp only
 refine Ok.n (by omega) (Ok.run c.People.length (fun i=>(((i:Int),()),c,c,())) rfl (by omega) (fun i hi K hK=>?_) (fun K=>?_))
 ·try dsimp only
  refine Ok.p (by omega) (Ok.j (Ok.atn hi (Ok.atn hi ?_)))
  have hq:(nth c.People i).Quiet.length≤900:=by
   rcases(h.person _ (Qj hi)).quiet with e|⟨_,_,e,_⟩<;>rw[e]<;>simp
  refine Ok.n (by simp) (Ok.n (by simp) (Ok.n (by simp) (Ok.n (by simp) (Ok.cnd (fun g=>Ok.bt g ?_) (fun g=>Ok.bf g ?_)))))
  all_goals
   refine Ok.oe (Qwh hq) (Ok.t ?_)
   try dsimp only
   rw[Qa (by omega)];exact hK
 try dsimp only
 refine Ok.n (by omega) (Ok.run 0 (fun i=>(((i:Int),()),c,c,())) rfl (by omega) (fun i hi=>by omega) (fun K=>?_))
 try dsimp only
 refine Ok.n (by rw[hcal];simp) (Ok.run c.Schedules.length (fun i=>(((i:Int),()),c,c,())) rfl (by omega) (fun i hi K hK=>?_) (fun K=>by dsimp only;exact Ok.n (by omega) (Ok.s rfl)))
 try dsimp only
 refine Ok.p (by omega) (Ok.atn hi (Ok.atn hi (Ok.oe (QwB (h.sched _ (Qj hi)) hn) (Ok.f ?_))))
 try dsimp only
 rw[Qa (by omega)];exact hK
theorem QwA(h:QH b):QaZ 1000 b b=some true:=by
 have htl:=h.tlen;have hpl:=h.plen
 refine Ok.eq ?_
 unfold QaZ
 refine Ok.j (Ok.n (by simp) (Ok.n (by simp) ?_))
 refine Ok.run b.Teams.length (fun i=>(((i:Int),()),b,b,())) rfl (by omega) (fun i hi K hK=>?_) (fun K=>?_)
 ·try dsimp only
  refine Ok.p (by omega) (Ok.j (Ok.atn hi (Ok.atn hi (Ok.n (by simp) (Ok.atn hi (Ok.atn hi (Ok.oe (Qvz (by have:=(h.team _ (Qj hi)).len;omega)) (Ok.t ?_))))))))
  try dsimp only
  rw[Qa (by omega)];exact hK
 try dsimp only
 refine Ok.n (by omega) (Ok.run b.Policies.length (fun i=>(((i:Int),()),b,b,())) rfl (by omega) (fun i hi K hK=>?_) (fun K=>by dsimp only;exact Ok.n (by omega) (Ok.s rfl)))
 try dsimp only
 refine Ok.p (by omega) (Ok.atn hi (Ok.atn hi (Ok.j ?_)))
 have hp:=h.pol _ (Qj hi)
 obtain⟨p,hpe⟩:∃p,nth b.Policies i=p:=⟨_,rfl⟩
 rw[hpe]at hp ⊢
 have hsl:=hp.len
 refine Ok.n (by simp) (Ok.n (by simp) (Ok.n (by simp) ?_))
 refine Ok.run p.Steps.length (fun k=>(((i:Int),(k:Int),()),b,b,p,p,())) rfl (by omega) (fun k hk K2 hK2=>?_) (fun K2=>?_)
 ·try dsimp only
  refine Ok.p (by omega) (Ok.atn hk (Ok.atn hk (Ok.j ?_)))
  have hs:=hp.step _ (Qj hk)
  obtain⟨s,hse⟩:∃s,nth p.Steps k=s:=⟨_,rfl⟩
  rw[hse]at hs ⊢
  have htl2:=hs.len
  refine Ok.n (by simp) (Ok.cnd (fun g=>Ok.bt g (Ok.n (by simp) ?_)) (fun g=>Ok.bf g (Ok.n (by simp) ?_)))
  all_goals
   refine Ok.run s.Targets.length (fun j=>(((i:Int),(k:Int),(j:Int),()),b,b,p,p,s,s,())) rfl (by omega) (fun j hj K3 hK3=>?_) (fun K3=>?_)
   ·try dsimp only
    refine Ok.p (by omega) (Ok.atn hj (Ok.atn hj (Ok.n (by simp) ?_)))
    try dsimp only
    rw[Qa (by omega)];exact hK3
   ·try dsimp only
    refine Ok.n (by omega) ?_
    try dsimp only
    rw[Qa (by omega)];exact hK2
 ·try dsimp only
  refine Ok.n (by omega) ?_
  try dsimp only
  rw[Qa (by omega)];exact hK
theorem Qwg{L:List D.Page}(hl:L.length≤900)(h:∀p∈L,Qx p):U1 1000 L L=some true:=by
 refine Ok.eq ?_
 unfold U1
 refine Ok.n (by simp) (Ok.run2 L.length (fun i=>(L,L,(i:Int),())) rfl (by omega) (fun i hi K hK=>?_) (fun K=>by dsimp only;exact Ok.n (by omega) (Ok.s rfl)))
 try dsimp only
 refine Ok.p (by omega) (Ok.atn hi (Ok.atn hi (Ok.oe (Qp0 (h _ (Qj hi))) (Ok.f ?_))))
 try dsimp only
 rw[Qa (by omega)];exact hK
theorem Qwf{L:List D.Call}(hl:L.length≤900):U0 1000 L L=some true:=by
 refine Ok.eq ?_
 unfold U0
 refine Ok.n (by simp) (Ok.run2 L.length (fun i=>(L,L,(i:Int),())) rfl (by omega) (fun i hi K hK=>?_) (fun K=>by dsimp only;exact Ok.n (by omega) (Ok.s rfl)))
 try dsimp only
 refine Ok.p (by omega) (Ok.atn hi (Ok.atn hi (Ok.n (by simp) ?_)))
 try dsimp only
 rw[Qa (by omega)];exact hK
theorem Led.same(h:Led l):Qhw 1000 l l=some true:=by
 obtain⟨M,n,h1,h2⟩:=h.ok
 have hcl:=h1.callsLe h.pg;have hse:=h1.seen.len;have hpg:=h.pg
 refine Ok.eq ?_
 unfold Qhw
 exact Ok.p rfl (Ok.oe (Qvy h1.cfg h2) (Ok.t (Ok.oe (QwA h1.book) (Ok.t (Ok.oe (Qwg (by omega) h1.plens) (Ok.t (Ok.p rfl (Ok.p rfl (Ok.oe (Qvz (by omega)) (Ok.t (Ok.oe (Qwf (by omega)) (Ok.t (Ok.s rfl)))))))))))))
theorem sane31:Yz 1000=some true:=by kernel_rfl
end
end Go.Proofs.YtgokjdfkpnkekaaGreat
/-
  The laws OplogReplays and OplogKeeps, of what is reckoned of their code.
-/
namespace Go.Proofs.YtgokjdfkpnkekaaGreat
open Go AM
attribute [local irreducible] dueV stepV runV QR answerV opV ZL opsV QuY
section
variable {n:Nat} {c:D.Config} {b:D.Book} {M:Int} {l x:D.Ledger} {o:D.Op} {ops:List D.Op} {L:List Int} {d:D.Dice}
theorem Qv6{k:Nat}(hL:L.length≤500)(hd:ZH L d)(hk:k≤9):
  Ok (WJ 1000 d (k:Int)) fun r=>ZH L r.2.2∧∃ops m,m≤k∧Behind ops m r.1:=by
 unfold WJ
 refine Ok.opt (QuO hL hd (by omega)) fun⟨c,d1⟩ ⟨h1,hc⟩=>?_
 try dsimp only at h1 hc ⊢
 refine Ok.opt (QuJ hL h1 (by omega)) fun⟨b,d2⟩ ⟨h2,hb⟩=>?_
 try dsimp only at h2 hb ⊢
 refine Ok.oe (Qvh hc (by omega) hb) ?_
 try dsimp only
 refine Ok.opt (Qu4 hL h2 hc hb hk) fun⟨l,ops,d⟩ ⟨g1,g2,g3,g4⟩=>Ok.s ⟨g1,ops,ops.length,g3,?_⟩
 dsimp only at g2 g3 g4 ⊢
 have:=Behind.fold hc hb g2 (by omega) (Nat.le_refl _)
 rw[List.take_length]at this
 rw[g4];exact this
end
end Go.Proofs.YtgokjdfkpnkekaaGreat
/-
  The laws OplogRefuses and OplogKeeps, of what is reckoned of their code.
-/
namespace Go.Proofs.YtgokjdfkpnkekaaGreat
open Go AM
section
variable {n:Nat} {c:D.Config} {b:D.Book} {M:Int} {l x:D.Ledger} {o:D.Op} {ops:List D.Op} {L:List Int} {d:D.Dice}
attribute [local irreducible] dueV stepV runV QR
attribute [local irreducible] opV ZL opsV QuY answerV
theorem Qs0{k:Int}(h:∀x∈l.Seen,x≤k)(ho:k<o.ID):l.Seen.contains o.ID=false:=by
 cases hc:l.Seen.contains o.ID with
 |false=>rfl
 |true=>
  have:=h _ (List.contains_iff_mem.1 hc)
  omega
theorem Qgd(t:List Int):XX 1000 t=some true:=by
 refine Ok.eq ?_
 unfold XX
 refine Ok.oe Qtf (Ok.ncnd (fun _=>Ok.oe sane31 (Ok.s rfl)) fun hl=>Ok.oe Qvv ?_)
 have hL:=Qrq hl
 refine Ok.opt (Qv6 (k:=7) hL dice0 (by omega)) fun⟨l,z,d⟩ ⟨h1,ops,m,hm,hB⟩=>?_
 try dsimp only at h1 hB ⊢
 refine Ok.opt (nx hL h1 (by omega) (by omega)) fun⟨a,d2⟩ ⟨h2,l2,u2⟩=>?_
 try dsimp only at h2 l2 u2 ⊢
 have hnow:=hB.made.now;have hn0:=hB.made.inv.now
 rw[Qc (x:=l.Now+a) (by omega)]
 refine Ok.opt (Qt7 (id:=600) hL h2 hB.made.inv hB.made.ids (by omega) (by omega)) fun⟨o,d3⟩ ⟨h3,ho,e1,e2,e3,e4⟩=>?_
 try dsimp only at h3 ho e1 e2 e3 e4 ⊢
 have hlo:=hB.loose
 have hfit:Qum o:=⟨ho,fun e=>(e3 e).2,by rw[e2];omega,e4⟩
 have hok:=hlo.okAt (by omega) hfit
 have hnl:=(hlo.next (by omega) hfit).led (by omega)
 have hs:l.Seen.contains o.ID=false:=Qs0 hB.seen (by rw[e1];omega)
 have hp3:=hlo.inv.small3 (k:=3) hlo.ids
 have hsl:=hlo.seen
 have hcp:=hok.led.copy
 have href:=Qja (o:=o) hs
 have hkk:=ho.kind
 have hprog:=hok.prog
 obtain⟨x,e,hx⟩:∃x e,ZL l o=(x,e):=⟨_,_,rfl⟩
 rw[hx]at hnl href hprog
 dsimp only at hnl href
 refine Ok.oe hprog ?_
 try dsimp only
 clear hB hok hfit ho hprog hx
 refine Ok.join (fun y=>e≠0∧o.Kind≠4∧o.Kind≠5∧y=((e,()),l,o,x,())) (fun y hy=>?_) (fun J hJ=>?_)
 ·obtain⟨g1,g2,g3,rfl⟩:=hy
  obtain⟨r1,r2⟩:=href (by omega) (by omega) (fun e=>(e3 e).1) g1
  try dsimp only
  refine Ok.oe hcp (Ok.lec (by simp;omega) ?_)
  have hsame:=hnl.same
  rw[r1]at hsame ⊢
  refine Ok.oe hsame (Ok.t ?_)
  rcases r2 with rfl|rfl|rfl|rfl
  ·exact Ok.p rfl (Ok.oe sane31 (Ok.t (Ok.s rfl)))
  ·exact Ok.n (by omega) (Ok.p rfl (Ok.oe sane31 (Ok.t (Ok.s rfl))))
  ·exact Ok.n (by omega) (Ok.n (by omega) (Ok.p rfl (Ok.oe sane31 (Ok.t (Ok.s rfl)))))
  ·exact Ok.n (by omega) (Ok.n (by omega) (Ok.n (by omega) (Ok.p rfl (Ok.oe sane31 (Ok.t (Ok.s rfl))))))
 ·refine Ok.ite (fun g=>Ok.p g (Ok.oe sane31 (Ok.t (Ok.s rfl)))) (fun g=>?_)
  refine Ok.ite (fun g4=>Ok.n g (Ok.oe hnl.check (Ok.t (Ok.oe sane31 (Ok.t (Ok.s rfl)))))) (fun g4=>?_)
  refine Ok.ite (fun g5=>Ok.n g (Ok.oe hnl.check (Ok.t (Ok.oe sane31 (Ok.t (Ok.s rfl)))))) (fun g5=>?_)
  exact hJ _ ⟨g,g4,g5,rfl⟩
end
end Go.Proofs.YtgokjdfkpnkekaaGreat
