/-
  Books that dice make are right, for the reference's check.
-/
import Derived.Test.YtadlpefpehjcoaaGreatQRowCallsE
set_option maxRecDepth 100000
set_option linter.unusedVariables false
set_option linter.unusedSimpArgs false
namespace Go.Proofs.YtadlpefpehjcoaaGreat
open Go AM
section
variable {n:Nat} {c:D.Config} {b:D.Book}
theorem Qld{α:Type}[Inhabited α]{l:List α}{k i:Nat}(h:i<k):nth (l.take k) i=nth l i:=by
 simp[nth,List.getD_eq_getElem?_getD,List.getElem?_take,h]
theorem QL.tnm(h:QL b){i:Nat}(hi:i<b.Teams.length):(nth b.Teams i).Name=nth Qfi i:=by
 rw[Qhw h.tname hi,Qld hi]
theorem QL.pnm(h:QL b){i:Nat}(hi:i<b.Policies.length):(nth b.Policies i).Name=nth Qjr i:=by
 rw[Qhw h.pname hi,Qld hi]
theorem forall3{P:Nat→Prop}(h0:P 0)(h1:P 1)(h2:P 2):∀i,i<3→P i:=fun i hi=>by
 rcases(show i=0∨i=1∨i=2 by omega)with rfl|rfl|rfl
 ·exact h0
 ·exact h1
 ·exact h2
theorem QvX:∀i,i<2→QdZ 1000 (nth Qfi i)=some true:=forall2 (by kernel_rfl) (by kernel_rfl)
theorem QvW:∀i,i<3→QdZ 1000 (nth Qjr i)=some true:=forall3 (by kernel_rfl) (by kernel_rfl) (by kernel_rfl)
theorem Qmi:∀i,i<2→∀j,j<i→nth Qfi j≠nth Qfi i:=by decide
theorem Qo0:∀i,i<3→∀j,j<i→nth Qjr j≠nth Qjr i:=by decide
theorem Qwp{l:List Int}{m:Int}(ha:Asc l)(hm:∀x∈l,0≤x∧x<m)(hl:l.length<900):Qci 1000 l m=some true:=by
 refine Ok.eq ?_
 unfold Qci
 refine Ok.run l.length (fun i=>((l,m,(i:Int),()),())) rfl (by omega) (fun i hi k hk=>?_) (fun k=>by dsimp only;exact Ok.N (Ok.s rfl))
 have hx:=hm _ (Qh hi)
 dsimp only
 refine Ok.P (Ok.j (Ok.atn hi (Ok.N (Ok.atn hi (Ok.N ?_)))))
 dsimp only
 rw[Qa (by omega)]
 by_cases h0:0<i
 ·refine Ok.P ?_
  rw[show IntKind.wrap .i64 ((i:Int) - 1)=((i - 1:Nat):Int)by rw[Qc (by omega)];omega]
  have:=Qf9 ha (show i - 1<i by omega) hi
  exact Ok.A (Ok.atn hi (Ok.N hk))
 ·exact Ok.N hk
theorem Qs3(h:Q3 n c)(hb:QL b){i:Nat}(hi:i<b.Teams.length):QhD 1000 c b (i:Int)=some 0:=by
 have htl:=hb.tlen
 have ht:=hb.team _ (Qh hi)
 have hnm:=hb.tnm hi
 have hpl:=h.plen
 refine Ok.eq ?_
 unfold QhD
 refine Ok.atn hi (Ok.oe (by rw[hnm];exact QvX i (by omega)) (Ok.nt rfl ?_))
 obtain⟨x,hx⟩:∃x,nth b.Teams i=x:=⟨_,rfl⟩
 rw[hx]at ht hnm ⊢
 refine Ok.run2 i (fun k=>((i:Int),(k:Int),())) rfl (by omega) (fun k hk K hK=>?_) (fun K=>?_)
 ·dsimp only
  refine Ok.P (Ok.A (Ok.n ?_ ?_))
  ·rw[hb.tnm (by omega),hnm];exact Qmi i (by omega) k hk
  ·rw[Qa (by omega)];exact hK
 ·dsimp only
  have hml:=ht.len
  refine Ok.N (Ok.N ?_)
  refine Ok.run2 (x.Members.length - 1) (fun k=>(((k+1:Nat):Int),())) rfl (by omega) (fun k hk K hK=>?_) (fun K=>?_)
  ·dsimp only
   rw[show IntKind.wrap .i64 (((k+1:Nat):Int) - 1)=((k:Nat):Int)by rw[Qc (by omega)];omega]
   have:=Qf9 ht.asc (show k<k+1 by omega) (show k+1<x.Members.length by omega)
   refine Ok.P (Ok.A (Ok.A (Ok.N ?_)))
   rw[Qa (by omega)];exact hK
  ·dsimp only
   refine Ok.N (Ok.oe (Qwp ht.asc (fun z hz=>?_) (by omega)) (Ok.nt rfl (Ok.s rfl)))
   have:=ht.mem z hz;omega
theorem QnJ(h:Q3 n c)(hb:QL b){l:List D.Target}(hl:l.length≤2)(ht:∀x∈l,Ve b.Teams.length x):Qcj 1000 c b l=some 0:=by
 have hpl:=h.plen;have hsl:=h.slen
 refine Ok.eq ?_
 unfold Qcj
 refine Ok.N (Ok.run l.length (fun i=>((l,(i:Int),()),c,b,())) rfl (by omega) (fun i hi k hk=>?_) (fun k=>by dsimp only;exact Ok.N (Ok.s rfl)))
 dsimp only
 have hx:=ht _ (Qh hi)
 have h1:=hx.lo;have h2:=hx.person;have h3:=hx.sched;have h4:=hx.team
 refine Ok.P (Ok.j ?_)
 refine Ok.join (fun y=>∃m:Int,y=((l,(i:Int),m,()),c,b,())∧(nth l i).Index<m) (fun y hy=>?_) (fun J hJ=>?_)
 ·obtain⟨m,rfl,hm⟩:=hy
  dsimp only
  rw[Qa (by omega)]
  exact Ok.atn hi (Ok.N (Ok.atn hi (Ok.N hk)))
 ·refine Ok.atn hi ?_
  rcases hx.kind with hk|hk|hk
  ·have:=h2 hk
   exact Ok.p hk (hJ _ ⟨_,rfl,by omega⟩)
  ·have:=h3 hk
   exact Ok.N (Ok.p hk (hJ _ ⟨_,rfl,by omega⟩))
  ·have:=h4 hk
   exact Ok.N (Ok.N (Ok.p hk (hJ _ ⟨_,rfl,by omega⟩)))
theorem Qov(h:Q3 n c)(hb:QL b){i:Nat}(hi:i<b.Policies.length):Qd2 1000 c b (i:Int)=some 0:=by
 have htl:=hb.plen
 have ht:=hb.pol _ (Qh hi)
 have hnm:=hb.pnm hi
 refine Ok.eq ?_
 unfold Qd2
 refine Ok.atn hi (Ok.oe (by rw[hnm];exact QvW i (by omega)) (Ok.nt rfl ?_))
 obtain⟨x,hx⟩:∃x,nth b.Policies i=x:=⟨_,rfl⟩
 rw[hx]at ht hnm ⊢
 refine Ok.run2 i (fun k=>((i:Int),(k:Int),())) rfl (by omega) (fun k hk K hK=>?_) (fun K=>?_)
 ·dsimp only
  refine Ok.P (Ok.A (Ok.n ?_ ?_))
  ·rw[hb.pnm (by omega),hnm];exact Qo0 i (by omega) k hk
  ·rw[Qa (by omega)];exact hK
 ·dsimp only
  have hml:=ht.len;have hrp:=ht.rep
  refine Ok.N (Ok.N (Ok.N (Ok.oe rin (Ok.nt (QG.2 (by omega)) ?_))))
  refine Ok.run2 x.Steps.length (fun k=>((k:Int),())) rfl (by omega) (fun k hk K hK=>?_) (fun K=>by dsimp only;exact Ok.N (Ok.s rfl))
  dsimp only
  have hs:=ht.step _ (Qh hk)
  have hw:=hs.wait
  refine Ok.P (Ok.atn hk (Ok.oe rin (Ok.nt (QG.2 (by omega)) (Ok.atn hk (Ok.oe (QnJ h hb hs.len hs.target) (Ok.NS ?_))))))
  rw[Qa (by omega)];exact hK
theorem Qmj(h:Q3 n c)(hn:n≤48)(hb:QL b):Qdk 1000 c b=some 0:=by
 have htl:=hb.tlen;have hpl:=hb.plen
 refine Ok.eq ?_
 unfold Qdk
 refine Ok.oe (QcU h hn) (Ok.NS (Ok.opt (P:=(·=0)) ?_ fun r hr=>Ok.s hr))
 unfold QlA
 refine Ok.j (Ok.N (Ok.N ?_))
 refine Ok.run b.Teams.length (fun i=>(((i:Int),()),c,b,())) rfl (by omega) (fun i hi k hk=>?_) (fun k=>?_)
 ·dsimp only
  refine Ok.P (Ok.oe (Qs3 h hb hi) (Ok.NS ?_))
  rw[Qa (by omega)];exact hk
 ·dsimp only
  refine Ok.N (Ok.run b.Policies.length (fun i=>(((i:Int),()),c,b,())) rfl (by omega) (fun i hi k hk=>?_) (fun k=>by dsimp only;exact Ok.N (Ok.s rfl)))
  dsimp only
  refine Ok.P (Ok.oe (Qov h hb hi) (Ok.NS ?_))
  rw[Qa (by omega)];exact hk
end
end Go.Proofs.YtadlpefpehjcoaaGreat
/-
  Ledgers: what the reference's check, search and runs compute.
-/
namespace Go.Proofs.YtadlpefpehjcoaaGreat
open Go AM
attribute [local irreducible] dueV stepV runV QQ answerV
section
variable {n:Nat} {c:D.Config} {b:D.Book} {p q:D.Page} {now M:Int} {l:D.Ledger} {i:Nat}
theorem LW.callsN(h:LW M n l):sumC l.Pages (fun p=>(ownC p.ID l.Calls).length)=l.Calls.length:=Qku h.asc h.all
theorem LW.ownN(h:LW M n l)(hp:p∈l.Pages):(ownC p.ID l.Calls).length=(QA p.ID 0 p.Starts).length:=by
 have:=(h.told p hp).same
 rw[←this,List.length_map]
theorem Qe.ownN(h:Qe M n l)(hp:p∈l.Pages):(ownC p.ID l.Calls).length=(QA p.ID 0 p.Starts).length:=h.w.ownN hp
theorem LW.callsLe(h:LW M n l)(hpg:l.Pages.length≤9):l.Calls.length≤468:=by
 rw[←h.callsN]
 have:=QlX (l:=l.Pages) (f:=fun p=>(ownC p.ID l.Calls).length) (m:=52) fun p hp=>by
  obtain⟨g1,g2⟩:=h.page p hp
  obtain⟨t,g3,_⟩:=g1.goes
  have h1:=Qaf (id:=p.ID) (f:=0) (m:=4) (Goes.short (fun s hs=>hs) g3)
  have h2:=(g1.len h.book).1
  show(ownC p.ID l.Calls).length≤52
  rw[h.ownN hp];omega
 omega
theorem Qe.callsLe(h:Qe M n l)(hpg:l.Pages.length≤9):l.Calls.length≤468:=h.w.callsLe hpg
theorem Qjh{l:List D.Page}{f:D.Page→Nat}:sumC (l++[p]) f=sumC l f+f p:=by simp[sumC]
theorem Ui(h:LW M n l)(hpg:l.Pages.length≤9):Vx 1000 l=some true:=by
 have htop:=h.top;have hnow:=h.now;have how:=h.owner;have hfe:=h.fence;have hse:=h.seen.len;have hcl:=h.callsLe hpg
 refine Ok.eq ?_
 unfold Vx
 refine Ok.j (Ok.oe (Qmj h.cfg h.small h.book) (Ok.NS (Ok.oe rin (Ok.bt (QG.2 (by omega)) (Ok.N (Ok.oe rin (Ok.bt (QG.2 how) (Ok.oe rin (Ok.bt (QG.2 (by omega)) (Ok.N ?_))))))))))
 have hsle:∀i,sumC (l.Pages.take i) (fun p=>(ownC p.ID l.Calls).length)≤468*i:=fun i=>by
  have:=QlX (l:=l.Pages.take i) (f:=fun p=>(ownC p.ID l.Calls).length) (m:=468) fun p hp=>by
   show(ownC p.ID l.Calls).length≤468
   unfold ownC
   exact Nat.le_trans (List.length_filter_le _ _) hcl
  refine Nat.le_trans this (Nat.mul_le_mul_left _ ?_)
  simp only[List.length_take];omega
 refine Ok.run l.Pages.length (fun i=>((((sumC (l.Pages.take i) (fun p=>(ownC p.ID l.Calls).length):Nat):Int),(i:Int),()),l,())) rfl (by omega) (fun i hi k hk=>?_) (fun k=>?_)
 ·try dsimp only
  have hm:=Qh hi
  obtain⟨g1,g2⟩:=h.page _ hm
  have gt:=h.told _ hm
  have hown:=h.ownN hm
  have hs1:=hsle i
  have hs2:=hsle (i+1)
  refine Ok.P (Ok.atn hi ?_)
  have hasc:0<i→(nth l.Pages (i - 1)).ID<(nth l.Pages i).ID:=fun h0=>QbW h.asc (by omega) hi
  try dsimp only at hk
  rw[←Qu hi,Qjh]at hk
  obtain⟨p,hp⟩:∃p,nth l.Pages i=p:=⟨_,rfl⟩
  rw[hp]at g1 g2 gt hown hk hasc ⊢
  have hpl:=g1.plen h.book
  refine Ok.join (fun y=>y=((((sumC (l.Pages.take i) (fun p=>(ownC p.ID l.Calls).length):Nat):Int),(i:Int),()),l,p,())) (fun y hy=>?_) (fun J hJ=>?_)
  ·subst hy
   try dsimp only
   have hc:=QkL (k:=0) (f:=0) hpl (Nat.zero_le _)
   rw[List.drop_zero]at hc
   refine Ok.oe hc ?_
   try dsimp only
   rw[Qa (by omega),←hown,Qc (by have:(ownC p.ID l.Calls).length≤468:=(by unfold ownC;exact Nat.le_trans (List.length_filter_le _ _) hcl);omega)]
   exact hk
  ·have tail:Ok (optc (Vv 1000 l.Book p) fun a13=>AM.cnd a13 (AM.cnd (decide (l.Now<p.Last)) (some false) (optc (Qd6 1000 l p) fun a14=>AM.cnd a14 (J ((((sumC (l.Pages.take i) (fun p=>(ownC p.ID l.Calls).length):Nat):Int),(i:Int),()),l,p,())) (some false))) (some false)) (·=true):=
    Ok.oe (QdH h.book hpl) (Ok.bt (g1.check h.book) (Ok.N (Ok.oe (Qwy hpl (by omega) gt) (Ok.t (hJ _ rfl)))))
   by_cases h0:0<i
   ·refine Ok.P ?_
    rw[show IntKind.wrap .i64 ((i:Int) - 1)=((i - 1:Nat):Int)by rw[Qc (by omega)];omega]
    have:=hasc h0
    exact Ok.A (Ok.N tail)
   ·exact Ok.N tail
 ·try dsimp only
  refine Ok.N ?_
  rw[List.take_length,h.callsN]
  refine Ok.run l.Seen.length (fun i=>((((l.Calls.length:Nat):Int),(i:Int),()),l,())) rfl (by omega) (fun i hi k hk=>?_) (fun k=>by dsimp only;exact Ok.N (Ok.s (decide_eq_true rfl)))
  try dsimp only
  have hx:=h.seen.fit _ (Qh hi)
  have hno:(l.Seen.take i).contains (nth l.Seen i)=false:=by
   cases hc:(l.Seen.take i).contains (nth l.Seen i)with
   |false=>rfl
   |true=>
    have:=QhH hi hc
    rw[decide_eq_true h.seen.nodup]at this;simp at this
  refine Ok.P (Ok.j (Ok.atn hi (Ok.oe rin (Ok.bt (QG.2 hx) (Ok.natn (Ok.L (Ok.atn hi (Ok.oe (Qb1 (by simp;omega)) (Ok.bf hno ?_)))))))))
  try dsimp only
  rw[Qa (by omega)];exact hk
abbrev lgA(l:D.Ledger):Int×List D.Zone×List D.Person×List D.Calendar×List D.Schedule×List D.Team×List D.Policy×Int×Int×Unit:=(l.Now,l.Config.Zones,l.Config.People,l.Config.Calendars,l.Config.Schedules,l.Book.Teams,l.Book.Policies,l.Owner,l.Fence,())
def US(l:D.Ledger)(id:Int):D.Page×Bool:=if hasV id l.Pages=true then(nth l.Pages (posV id l.Pages),true)else(page0,false)
theorem Qoh{id:Int}(ha:AscP l.Pages)(hi:i<l.Pages.length)(h:(nth l.Pages i).ID=id):US l id=(nth l.Pages i,true):=by
 subst h
 unfold US
 rw[if_pos (Qix ha hi),Qe1 ha hi]
theorem QrL{id:Int}(h:∀i,i<l.Pages.length→(nth l.Pages i).ID≠id):US l id=(page0,false):=by
 unfold US
 rw[if_neg]
 intro hh
 have:=Vl hh
 exact h _ this.1 this.2
theorem QrK{id:Int}(hp:∀p∈l.Pages,Qz p)(ha:AscP l.Pages)(hl:l.Pages.length≤64):QfR 1000 l id=some (US l id):=by
 refine Ok.eq ?_
 unfold QfR
 refine Ok.scan2 l.Pages.length (fun i=>(id,(i:Int),())) (fun i=>decide ((nth l.Pages i).ID=id)) rfl (by omega) (fun i hi hq _ k=>?_) (fun i hi hq k hk=>?_) (fun hq k=>?_)
 ·have hq:=of_decide_eq_true hq
  refine Ok.P (Ok.atn hi (Ok.p hq (Ok.atn hi (Ok.oe (Qbq (hp _ (Qh hi))) (Ok.s ?_)))))
  rw[Qoh ha hi hq]
 ·have hq:=of_decide_eq_false hq
  refine Ok.P (Ok.atn hi (Ok.n hq ?_))
  try dsimp only
  rw[Qa (by omega)];exact hk
 ·refine Ok.N (Ok.s ?_)
  rw[QrL fun i hi=>of_decide_eq_false (hq i hi)];rfl
theorem Qfs{id:Int}(hp:∀p∈l.Pages,Qz p)(ha:AscP l.Pages)(hl:l.Pages.length≤64):ZR 1000 l id=some (US l id):=by
 refine Ok.eq ?_
 unfold ZR
 refine Ok.scan2 l.Pages.length (fun i=>(id,(i:Int),())) (fun i=>decide ((nth l.Pages i).ID=id)) rfl (by omega) (fun i hi hq _ k=>?_) (fun i hi hq k hk=>?_) (fun hq k=>?_)
 ·have hq:=of_decide_eq_true hq
  refine Ok.P (Ok.natn (Ok.lt hi (Ok.get hi (Ok.p hq (Ok.natn (Ok.lt hi (Ok.get hi (Ok.oe (Qbq (hp _ (Qh hi))) (Ok.sameC (Ok.sameC (Ok.sameC (Ok.s ?_))))))))))))
  rw[Qoh ha hi hq]
 ·have hq:=of_decide_eq_false hq
  refine Ok.P (Ok.natn (Ok.lt hi (Ok.get hi (Ok.n hq ?_))))
  try dsimp only
  rw[Qa (by omega)];exact hk
 ·refine Ok.N (Ok.sameC (Ok.sameC (Ok.sameC (Ok.s ?_))))
  rw[QrL fun i hi=>of_decide_eq_false (hq i hi)];rfl
theorem LW.plens(h:LW M n l):∀p∈l.Pages,Qz p:=fun p hp=>(h.page p hp).1.plen h.book
theorem Qe.plens(h:Qe M n l):∀p∈l.Pages,Qz p:=h.w.plens
theorem QuV(ha:AscP l.Pages)(hl:l.Pages.length≤64)(hcl:l.Calls.length≤100000)(hi:i<l.Pages.length)(hid:p.ID=(nth l.Pages i).ID)(hpl:Qz p)(hle:(nth l.Pages i).Starts.length≤p.Starts.length):
  Xi 1000 l p=some (putV l i p):=by
 refine Ok.eq ?_
 unfold Xi
 refine Ok.run l.Pages.length (fun j=>(((j:Int),()),lgA l,p,({ Now:=0,Config:={ Zones:=[],People:=[],Calendars:=[],Schedules:=[] },Book:={ Teams:=[],Policies:=[] },Pages:=[],Owner:=0,Fence:=0,Seen:=[],Calls:=[] }:D.Ledger),(if j≤i then l.Pages else l.Pages.set i p),l.Seen,(if j≤i then l.Calls else l.Calls++QA p.ID l.Fence (p.Starts.drop (nth l.Pages i).Starts.length)),())) (by rw[if_pos (Nat.zero_le _),if_pos (Nat.zero_le _)];rfl) (by omega) (fun j hj k hk=>?_) (fun k=>?_)
 ·try dsimp only[lgA]at hk ⊢
  have hlen:(if j≤i then l.Pages else l.Pages.set i p).length=l.Pages.length:=by split<;>simp
  have hj':j<(if j≤i then l.Pages else l.Pages.set i p).length:=by omega
  have hnth:j≠i→nth (if j≤i then l.Pages else l.Pages.set i p) j=nth l.Pages j:=fun hne=>by
   split
   ·rfl
   ·exact U6 hne
  refine Ok.P (Ok.j (Ok.natn (Ok.lt hj' (Ok.get hj' ?_))))
  by_cases e:j=i
  ·subst e
   rw[if_pos (Nat.le_refl _),if_pos (Nat.le_refl _)]
   rw[if_neg (by omega),if_neg (by omega)]at hk
   have hc:=QkL (k:=(nth l.Pages j).Starts.length) (f:=l.Fence) hpl hle
   have hcb:(QA p.ID l.Fence (p.Starts.drop (nth l.Pages j).Starts.length)).length≤40*(p.Starts.drop (nth l.Pages j).Starts.length).length:=Qaf fun s hs=>(hpl.pe s (List.mem_of_mem_drop hs)).1
   have hst:=hpl.st
   rw[List.length_drop]at hcb
   refine Ok.p hid.symm (Ok.natn (Ok.lt hi (Ok.get hi (Ok.oe hc (Ok.L (Ok.natn (Ok.lt hi (Ok.get hi ?_))))))))
   try dsimp only
   rw[Qa (by omega)]
   exact hk
  ·rw[hnth e]
   have hne:(nth l.Pages j).ID≠p.ID:=by
    rw[hid]
    rcases Nat.lt_or_gt_of_ne e with h|h
    ·have:=QbW ha h hi;omega
    ·have:=QbW ha h hj;omega
   refine Ok.n hne ?_
   try dsimp only
   rw[Qa (by omega)]
   have e1:(j+1≤i)=(j≤i):=by apply propext;omega
   simp only[e1]at hk
   exact hk
 ·try dsimp only[lgA]
  rw[if_neg (by omega),if_neg (by omega)]
  refine Ok.NS (Ok.s ?_)
  rfl
theorem QlM{id:Int}(h:LW M n l)(hpg:l.Pages.length≤9):Z3 1000 l id l.Now=some (if hasV id l.Pages=true then runI l (posV id l.Pages)else l):=by
 have hcl:=h.callsLe hpg
 refine Ok.eq ?_
 unfold Z3
 refine Ok.oe (Qfs h.plens h.asc (by omega)) ?_
 unfold US
 by_cases hh:hasV id l.Pages=true
 ·rw[if_pos hh,if_pos hh]
  try dsimp only
  have hi:=Vl hh
  obtain⟨g1,g2⟩:=h.at hi.1
  obtain⟨q,r1,r2,r3,r4⟩:=QsM (c:=l.Config) h.book QT.step g1 l.Now
  have hx:=QlO (c:=l.Config) (now:=l.Now) h.book g1
  rw[r1]at hx
  refine Ok.f (Ok.oe (Qul h.cfg h.small h.book (g1.plen h.book)) ?_)
  rw[r1]
  try dsimp only
  refine Ok.NS (Ok.oe (QuV (i:=posV id l.Pages) h.asc (by omega) (by omega) hi.1 r4.id (r2.plen h.book) ?_) (Ok.s ?_))
  ·obtain⟨m,hm⟩:=hx
   try dsimp only at hm
   rw[hm];simp
  ·unfold runI
   rw[r1,if_neg (by simp)]
 ·rw[if_neg hh,if_neg hh]
  exact Ok.t (Ok.s rfl)
end
end Go.Proofs.YtadlpefpehjcoaaGreat
/-
  Ledgers: what the reference's operations compute.
-/
namespace Go.Proofs.YtadlpefpehjcoaaGreat
open Go AM
attribute [local irreducible] dueV stepV runV QQ answerV
section
variable {n:Nat} {c:D.Config} {b:D.Book} {p q:D.Page} {now M:Int} {l:D.Ledger} {i:Nat} {o:D.Op}
theorem QtF(hp:∀p∈l.Pages,Qz p)(h1:l.Pages.length≤64)(h2:l.Seen.length≤1000)(h3:l.Calls.length≤100000):QhF 1000 l=some l:=by
 refine Ok.eq ?_
 unfold QhF
 refine Ok.run l.Pages.length (fun i=>(((i:Int),()),l,({ Now:=0,Config:={ Zones:=[],People:=[],Calendars:=[],Schedules:=[] },Book:={ Teams:=[],Policies:=[] },Pages:=[],Owner:=0,Fence:=0,Seen:=[],Calls:=[] }:D.Ledger),l.Pages.take i,())) rfl (by omega) (fun i hi k hk=>?_) (fun k=>?_)
 ·try dsimp only
  refine Ok.P (Ok.atn hi (Ok.oe (Qbq (hp _ (Qh hi))) (Ok.LS ?_)))
  try dsimp only
  rw[Qa (by omega),Qu hi]
  exact hk
 ·try dsimp only
  rw[List.take_length]
  exact Ok.N (Ok.L (Ok.L (Ok.s rfl)))
theorem Quw{α:Type}[Inhabited α]{L:List α}{k:Nat}{x:α}(h:k<L.length):(L.take (k+1)).set k x=L.take k++[x]:=by
 rw[←Qu h,List.set_append_right _ _ (by rw[List.length_take];omega)]
 simp[Nat.min_eq_left (Nat.le_of_lt h)]
theorem QtT{P:D.Page}{L:List D.Page}{k:Nat}(hk:k≤L.length):
  (List.take (k+1) (L++[P])++List.take ((L++[P]).length - (k+1)) (List.drop k (L++[P]))).set k P=L.take k++P::L.drop k:=by
 have hl:(L++[P]).length=L.length+1:=by simp
 rw[List.set_append_left _ _ (by rw[List.length_take,hl];omega),Quw (by rw[hl];omega),List.take_append_of_le_length hk,List.drop_append_of_le_length hk,hl,show L.length+1 - (k+1)=(L.drop k).length by simp,List.take_left,List.append_assoc]
 rfl
theorem Qwg{id:Int}{L:List D.Page}(ha:AscP L){k:Nat}(hk:k≤L.length)(h1:∀j,j<k→(nth L j).ID<id)(h2:k<L.length→id≤(nth L k).ID):posV id L=k:=by
 rcases Nat.lt_trichotomy (posV id L) k with h|h|h
 ·have:=QiV ha (id:=id) (Nat.le_refl _) (show posV id L<L.length by omega)
  have:=h1 _ h;omega
 ·exact h
 ·have:=QiW (l:=L) h
  have:=h2 (by have:=Qat (id:=id) (l:=L);omega);omega
theorem Qv7(h:Qe M n l)(hpg:l.Pages.length≤8)(ho:OpIn o)(hk:o.Kind=1):XW 1000 l o l.Now (hasV o.Page l.Pages)=some (opV l o):=by
 have hnow:=h.now;have htop:=h.top;have hpl:=h.book.plen;have hop:=ho.page
 have hsl:=h.seen.len;have hcl:=h.callsLe (by omega)
 refine Ok.eq ?_
 unfold XW opV
 rw[if_pos hk]
 refine Ok.cnd (fun g=>Ok.s ?_) (fun g=>?_)
 ·rw[if_pos g]
 rw[if_neg (by rw[g];simp)]
 refine Ok.N ?_
 rw[if_neg (by omega)]
 refine Ok.oe (Qlb h.book) ?_
 unfold newV
 by_cases g1:o.Page<1
 ·rw[if_pos g1,if_neg (fun hh=>by have:=QG.1 hh.1;omega)]
  exact Ok.PS (Ok.s rfl)
 rw[if_neg g1,if_pos ⟨QG.2 (by omega),QG.2 (by omega)⟩]
 by_cases g2:0≤o.Policy∧o.Policy<(l.Book.Policies.length:Int)
 ·rw[if_pos g2,if_pos (QG.2 (by omega))]
  try dsimp only
  refine Ok.NS ?_
  obtain⟨hi1,hi2,hi3⟩:=h.open (o:=o) g (by omega) g2 (by omega)
  have hple:=Qat (id:=o.Page) (l:=l.Pages)
  refine Ok.join (fun y=>y=((l.Now,((posV o.Page l.Pages:Nat):Int),()),lgA l,({ Now:=0,Config:={ Zones:=[],People:=[],Calendars:=[],Schedules:=[] },Book:={ Teams:=[],Policies:=[] },Pages:=[],Owner:=0,Fence:=0,Seen:=[],Calls:=[] }:D.Ledger),newP o.Page o.Policy l.Now,l.Pages,l.Seen,l.Calls,())) (fun y hy=>?_) (fun J hJ=>?_)
  ·subst hy
   try dsimp only[lgA]
   obtain⟨P,hP⟩:∃P,newP o.Page o.Policy l.Now=P:=⟨_,rfl⟩
   have hPid:P.ID=o.Page:=by subst hP;rfl
   rw[hP]at hi1 hi2 hi3 ⊢
   have hins:insP l.Pages P=l.Pages.take (posV o.Page l.Pages)++P::l.Pages.drop (posV o.Page l.Pages):=by unfold insP;rw[hPid]
   have hle1:(l.Pages++[P]).length=l.Pages.length+1:=by simp
   try dsimp only
   rw[Qa (by omega)]
   refine Ok.LS (Ok.natn (Ok.L (Ok.natn (Ok.L (Ok.ck rfl (Ok.ck rfl (Ok.L (Ok.L (Ok.natn (Ok.lt ?_ (Ok.get ?_ ?_)))))))))))
   ·simp only[List.length_append,List.length_take,List.length_drop,List.length_cons,List.length_nil];omega
   ·simp only[List.length_append,List.length_take,List.length_drop,List.length_cons,List.length_nil];omega
   rw[QtT hple,←hins]
   have hrun:=QlM (id:=P.ID) hi1.w (by show(insP l.Pages P).length≤9;rw[hins];simp;omega)
   have hpos:posV P.ID (insP l.Pages P)=posV o.Page l.Pages:=by
    have:=Qe1 hi1.asc hi2
    rw[hi3]at this;exact this
   have hhas:hasV P.ID (insP l.Pages P)=true:=by
    have:=Qix hi1.asc hi2
    rw[hi3]at this;exact this
   rw[if_pos hhas,hpos]at hrun
   exact Ok.oe hrun (Ok.s rfl)
  ·have hfound:∀k:Nat,k≤l.Pages.length→(∀j,j<k→(nth l.Pages j).ID<o.Page)→(k<l.Pages.length→o.Page≤(nth l.Pages k).ID)→Ok (J ((l.Now,(k:Int),()),lgA l,({ Now:=0,Config:={ Zones:=[],People:=[],Calendars:=[],Schedules:=[] },Book:={ Teams:=[],Policies:=[] },Pages:=[],Owner:=0,Fence:=0,Seen:=[],Calls:=[] }:D.Ledger),newP o.Page o.Policy l.Now,l.Pages,l.Seen,l.Calls,())) _:=fun k h1 h2 h3=>hJ _ (by rw[Qwg h.asc h1 h2 h3])
   refine Ok.scan2 l.Pages.length (fun i=>(l.Now,(i:Int),())) (fun i=>!decide ((nth l.Pages i).ID<o.Page)) rfl (by omega) (fun i hi hq hj k=>?_) (fun i hi hq k hk=>?_) (fun hq k=>?_)
   ·refine Ok.j ?_
    dsimp only
    refine Ok.P (Ok.natn (Ok.lt hi (Ok.get hi (Ok.n ?_ (hfound i (by omega) (fun j hj'=>by simpa using hj j hj') (fun _=>by simpa using hq))))))
    have:¬(nth l.Pages i).ID<o.Page:=by simpa using hq
    exact this
   ·have hlt:(nth l.Pages i).ID<o.Page:=by simpa using hq
    refine Ok.j ?_
    dsimp only
    refine Ok.P (Ok.natn (Ok.lt hi (Ok.get hi (Ok.p hlt ?_))))
    try dsimp only
    rw[Qa (by omega)];exact hk
   ·refine Ok.j ?_
    dsimp only
    exact(Ok.N (hfound l.Pages.length (Nat.le_refl _) (fun j hj'=>by simpa using hq j hj') (fun hh=>absurd hh (Nat.lt_irrefl _))))
 ·rw[if_neg g2,if_neg (fun hh=>g2 (by have:=QG.1 hh;omega))]
  exact Ok.PS (Ok.s rfl)
theorem QaM{a:D.Answer}(h:(answerV b p a).2=0):(answerV b p a).1=p∨(answerV b p a).1=Y6 p a:=by
 revert h
 unfold answerV
 split
 ·intro h;simp at h
 ·split
  ·intro h;simp at h
  ·split
   ·intro _;exact .inl rfl
   ·split
    ·rename_i hr
     intro h;exact absurd h hr
    ·intro _;exact .inr rfl
theorem QoP(h:Qe M n l)(hi:i<l.Pages.length):(nth (runI l i).Pages i).ID=(nth l.Pages i).ID:=by
 rw[QbL h hi,if_pos rfl]
 exact(Qdw h.book QT.step (h.at hi).1).id
theorem Quk(h:Qe M n l)(hpg:l.Pages.length≤9)(hk:o.Kind=4)(ha:YB o.Answer=true):Xw 1000 l o.Answer l.Now=some (opV l o):=by
 have hcl:=h.callsLe hpg
 refine Ok.eq ?_
 unfold Xw opV
 rw[if_neg (by omega),if_neg (by omega),if_neg (by omega),if_pos hk]
 refine Ok.oe (Qfs h.plens h.asc (by omega)) ?_
 unfold US
 by_cases hh:hasV o.Answer.Page l.Pages=true
 ·rw[if_pos hh,if_pos hh]
  try dsimp only
  have hi:=Vl hh
  have hrun:=QlM (id:=o.Answer.Page) h.w hpg
  rw[if_pos hh]at hrun
  refine Ok.f (Ok.oe hrun ?_)
  have h2:=h.run hi.1
  have hkp:=YZ (l:=l) (i:=posV o.Answer.Page l.Pages)
  obtain⟨i,hie⟩:∃i,posV o.Answer.Page l.Pages=i:=⟨_,rfl⟩
  rw[hie]at hi h2 hkp ⊢
  have hid2:(nth (runI l i).Pages i).ID=o.Answer.Page:=(QoP h hi.1).trans hi.2
  have hi2:i<(runI l i).Pages.length:=by omega
  have hcl2:=h2.callsLe (by omega)
  refine Ok.oe (Qfs h2.plens h2.asc (by omega)) ?_
  rw[Qoh h2.asc hi2 hid2]
  try dsimp only
  obtain⟨a,hae⟩:∃a:D.Answer,a=D.Answer.mk o.Answer.ID o.Answer.Page o.Answer.Person o.Answer.Kind o.Answer.Arg l.Now:=⟨_,rfl⟩
  rw[←hae]
  have hpl2:=h2.plens _ (Qh hi2)
  refine Ok.oe (QnZ h2.book hpl2) ?_
  rw[hkp.2.2.1]
  have hz:=QaM (b:=l.Book) (p:=nth (runI l i).Pages i) (a:=a)
  have hAl:=hpl2.answerV (a:=a) h.book
  obtain⟨A,e,hA⟩:∃A e,answerV l.Book (nth (runI l i).Pages i) a=(A,e):=⟨_,_,rfl⟩
  rw[hA]at hz hAl ⊢
  try dsimp only at hz hAl ⊢
  by_cases he:e=0
  ·rw[if_pos he]
   have hq:=hz he
   have hpid:A.ID=(nth (runI l i).Pages i).ID:=by
    rcases hq with rfl|rfl
    ·rfl
    ·exact Qf8.1
   have hpst:(nth (runI l i).Pages i).Starts.length≤A.Starts.length:=by
    rcases hq with rfl|rfl
    ·exact Nat.le_refl _
    ·obtain⟨m,hm⟩:=QeA (p:=nth (runI l i).Pages i) (a:=a)
     rw[hm];simp
   refine Ok.N (Ok.oe (QuV (i:=i) h2.asc (by omega) (by omega) hi2 hpid hAl hpst) (Ok.s rfl))
  ·rw[if_neg he]
   exact Ok.p he (Ok.s rfl)
 ·rw[if_neg hh,if_neg hh]
  exact Ok.t (Ok.s rfl)
theorem QvF{x:D.Edit}{s:Int}(h:Q3 n c)(hn:n<48)(hx:Qac x):Qdj 1000 c s x=some (if 0≤s∧s<2 then(Qik c s x,0)else({ Zones:=[],People:=[],Calendars:=[],Schedules:=[] },3)):=by
 have hsl:=h.slen
 refine Ok.eq ?_
 unfold Qdj
 refine Ok.j (Ok.oe (QcU h (by omega)) (Ok.NS (Ok.ite (fun g=>Ok.s ?_) (fun g=>Ok.ite (fun g2=>Ok.s ?_) (fun g2=>?_)))))
 ·rw[if_neg (by omega)]
 ·rw[if_neg (by omega)]
 ·rw[if_pos (by omega)]
  try dsimp only
  have hso:=h.sched _ (Qh (l:=c.Schedules) (i:=s.toNat) (by omega))
  have hlen:=hso.len
  refine Ok.at (by omega) (by omega) (Ok.L (Ok.LS (Ok.oe (v:=Qik c s x) ?_ (Ok.oe (QcU (QkT h hx (by omega)) (by omega)) (Ok.NS (Ok.s rfl))))))
  refine Ok.eq ?_
  unfold Qly
  refine Ok.L (Ok.nat (by omega) (Ok.E (Ok.G (Ok.s ?_))))
  rfl
theorem apply0W(h:LW M n l)(hpg:l.Pages.length≤9)(hkd:o.Kind=2∨o.Kind=3)(hof:0≤o.Fence∧o.Fence≤1048576):Z2 1000 l o l.Now=some (opV l o):=by
 have hfe:=h.fence
 refine Ok.eq ?_
 unfold Z2
 refine Ok.oe (Qfs h.plens h.asc (by omega)) ?_
 have hf2:(US l o.Page).2=hasV o.Page l.Pages:=by
  unfold US
  by_cases hh:hasV o.Page l.Pages=true
  ·rw[if_pos hh,hh]
  ·rw[if_neg hh];simpa using hh
 obtain⟨fp,fo,hfe2⟩:∃fp fo,US l o.Page=(fp,fo):=⟨_,_,rfl⟩
 rw[hfe2]at hf2 ⊢
 try dsimp only at hf2 ⊢
 subst hf2
 refine Ok.j (Ok.N (Ok.ite (fun k2=>?_) (fun k2=>Ok.P ?_)))
 all_goals have k1:¬o.Kind=1:=by omega
 ·unfold opV
  rw[if_neg k1,if_pos k2,Qc (by omega)]
  refine Ok.ite (fun g=>Ok.s ?_) (fun g=>Ok.s ?_)
  ·rw[if_neg (by omega)]
  ·rw[if_pos (by omega)]
 ·have k3:o.Kind=3:=by omega
  unfold opV
  rw[if_neg k1,if_neg k2,if_pos k3]
  refine Ok.join (fun y=>y=((l.Now,hasV o.Page l.Pages,()),lgA l,o,({ Now:=0,Config:={ Zones:=[],People:=[],Calendars:=[],Schedules:=[] },Book:={ Teams:=[],Policies:=[] },Pages:=[],Owner:=0,Fence:=0,Seen:=[],Calls:=[] }:D.Ledger),fp,l.Pages,l.Seen,l.Calls,())∧o.Region=l.Owner∧o.Fence=l.Fence) (fun y hy=>?_) (fun J hJ=>Ok.ite (fun g=>Ok.s ?_) (fun g=>Ok.ite (fun g2=>Ok.s ?_) (fun g2=>hJ _ ⟨rfl,by omega,by omega⟩)))
  ·obtain⟨rfl,g1,g2⟩:=hy
   try dsimp only[lgA]
   rw[if_pos ⟨g1,g2⟩]
   refine Ok.ncnd (fun hh=>Ok.s ?_) (fun hh=>?_)
   ·rw[if_neg (by rw[hh];simp)]
   ·rw[if_pos hh]
    have hfp:fp=nth l.Pages (posV o.Page l.Pages):=by
     unfold US at hfe2
     rw[if_pos hh]at hfe2
     exact(Prod.mk.inj hfe2).1.symm
    subst hfp
    have hrun:=QlM (id:=o.Page) h (by omega)
    rw[if_pos hh]at hrun
    refine Ok.oe QdJ ?_
    obtain⟨pg,hpg2⟩:∃pg,nth l.Pages (posV o.Page l.Pages)=pg:=⟨_,rfl⟩
    rw[hpg2]
    obtain⟨kk,hkk⟩:∃kk:Int,(if pg.State=2 then(-1:Int)else pg.Next)=kk:=⟨_,rfl⟩
    rw[hkk]
    have hw:Yz pg l.Now=((dueV pg).2 && decide ((dueV pg).1≤l.Now)):=rfl
    refine Ok.join (fun y=>y=((l.Now,(dueV pg).1,(dueV pg).2,kk,()),lgA l,o,({ Now:=0,Config:={ Zones:=[],People:=[],Calendars:=[],Schedules:=[] },Book:={ Teams:=[],Policies:=[] },Pages:=[],Owner:=0,Fence:=0,Seen:=[],Calls:=[] }:D.Ledger),l.Pages,l.Seen,l.Calls,())) (fun y hy=>?_) (fun J hJ=>Ok.ite (fun g=>hJ _ (by rw[←hkk,if_pos g])) (fun g=>hJ _ (by rw[←hkk,if_neg g])))
    subst hy
    try dsimp only[lgA]
    refine Ok.j (Ok.cnd (fun g3=>Ok.ite (fun g4=>Ok.s ?_) (fun g4=>Ok.ite (fun g5=>Ok.s ?_) (fun g5=>Ok.oe hrun (Ok.s ?_)))) (fun g3=>Ok.s ?_))
    ·rw[if_neg (fun hx=>by rw[hw,g3]at hx;have:=of_decide_eq_true (show decide ((dueV pg).1≤l.Now)=true by simpa using hx.1);omega)]
    ·rw[if_neg (fun hx=>g5 hx.2.symm)]
    ·rw[if_pos ⟨by rw[hw,g3];simp;omega,by omega⟩]
    ·rw[if_neg (fun hx=>by rw[hw,g3]at hx;simp at hx)]
  ·rw[if_neg (by omega)]
  ·rw[if_neg (by omega)]
theorem Qq2(h:Qe M n l)(hn:n<48)(hpg:l.Pages.length≤8)(ho:OpIn o):Z2 1000 l o l.Now=some (opV l o):=by
 have hfe:=h.fence;have hse:=h.seen.len;have hkd:=ho.kind;have hof:=ho.fence
 by_cases hk23:o.Kind=2∨o.Kind=3
 ·exact apply0W h.w (by omega) hk23 hof
 refine Ok.eq ?_
 unfold Z2
 refine Ok.oe (Qfs h.plens h.asc (by omega)) ?_
 have hf2:(US l o.Page).2=hasV o.Page l.Pages:=by
  unfold US
  by_cases hh:hasV o.Page l.Pages=true
  ·rw[if_pos hh,hh]
  ·rw[if_neg hh];simpa using hh
 obtain⟨fp,fo,hfe2⟩:∃fp fo,US l o.Page=(fp,fo):=⟨_,_,rfl⟩
 rw[hfe2]at hf2 ⊢
 try dsimp only at hf2 ⊢
 subst hf2
 refine Ok.j (Ok.ite (fun k1=>?_) (fun k1=>Ok.ite (fun k2=>absurd (.inl k2) hk23) (fun k2=>Ok.ite (fun k3=>absurd (.inr k3) hk23) (fun k3=>Ok.ite (fun k4=>?_) (fun k4=>Ok.ite (fun k5=>?_) (fun k5=>absurd hkd (by omega)))))))
 ·exact Ok.oe (Qv7 h hpg ho k1) (Ok.s rfl)
 ·exact Ok.oe (Quk h (by omega) k4 (ho.answer k4).1) (Ok.s rfl)
 ·unfold opV
  rw[if_neg k1,if_neg k2,if_neg k3,if_neg k4]
  have hkeep:∀i,(Zj l i).Now=l.Now∧(Zj l i).Config=l.Config∧(Zj l i).Book=l.Book∧(Zj l i).Owner=l.Owner∧(Zj l i).Fence=l.Fence∧(Zj l i).Seen=l.Seen∧(Zj l i).Pages.length=l.Pages.length:=fun i=>Yk
  refine Ok.run l.Pages.length (fun i=>((l.Now,(i:Int),()),lgA (Zj l i),o,({ Now:=0,Config:={ Zones:=[],People:=[],Calendars:=[],Schedules:=[] },Book:={ Teams:=[],Policies:=[] },Pages:=[],Owner:=0,Fence:=0,Seen:=[],Calls:=[] }:D.Ledger),(Zj l i).Pages,(Zj l i).Seen,(Zj l i).Calls,())) rfl (by omega) (fun i hi k hk=>?_) (fun k=>?_)
  ·try dsimp only[lgA]
   have hki:=hkeep i
   have hi2:i<(Zj l i).Pages.length:=by omega
   have hL:=h.runs (k:=i) (by omega)
   have hrun:=QlM (id:=(nth (Zj l i).Pages i).ID) hL.w (by omega)
   rw[if_pos (Qix hL.asc hi2),Qe1 hL.asc hi2,hki.1]at hrun
   refine Ok.P (Ok.natn (Ok.lt hi2 (Ok.get hi2 (Ok.oe hrun ?_))))
   try dsimp only
   rw[Qa (by omega)]
   exact hk
  ·try dsimp only[lgA]
   have hki:=hkeep l.Pages.length
   refine Ok.N ?_
   have hed:=QvF (c:=l.Config) (s:=o.Schedule) h.cfg hn (ho.edit k5)
   refine Ok.oe (v:=if 0≤o.Schedule∧o.Schedule<2 then(Qik l.Config o.Schedule o.Edit,0)else({ Zones:=[],People:=[],Calendars:=[],Schedules:=[] },3)) ?_ ?_
   ·rw[←hed]
    show Qdj 1000 (Zj l l.Pages.length).Config _ _=_
    rw[hki.2.1]
   ·by_cases hs:0≤o.Schedule∧o.Schedule<2
    ·rw[if_pos hs,if_pos hs]
     exact Ok.NS (Ok.s rfl)
    ·rw[if_neg hs,if_neg hs]
     exact Ok.PS (Ok.s rfl)
theorem OpIn.valid(ho:OpIn o):QfS 1000 o=some true:=by
 refine Ok.eq ?_
 unfold QfS
 refine Ok.oe rin (Ok.bt (QG.2 ho.id) (Ok.oe rin (Ok.bt (QG.2 ho.kind) (Ok.oe rin (Ok.bt (QG.2 ho.region) (Ok.oe rin (Ok.bt (QG.2 ho.fence) (Ok.oe rin (Ok.bt (QG.2 ho.at_) (Ok.oe rin (Ok.bt (QG.2 ho.page) (Ok.oe rin (Ok.bt (QG.2 ho.k) ?_)))))))))))))
 exact Ok.ite (fun g=>Ok.s rfl) (fun g=>Ok.oe Qkw (Ok.bt (ho.answer (by omega)).1 (Ok.s rfl)))
theorem Qmc(h:Qe M n l)(hn:n<48)(hpg:l.Pages.length≤8)(ho:OpIn o)(ht:max l.Now o.At≤M - 20000)(hl:l.Seen.length<256):Vw 1000 l o=some (ZF l o):=by
 have hcl:=h.callsLe (by omega)
 refine Ok.eq ?_
 unfold Vw ZF
 refine Ok.j (Ok.oe (Ui h.w (by omega)) (Ok.t (Ok.oe ho.valid (Ok.t ?_))))
 try dsimp only
 refine Ok.oe (QtF h.plens (by omega) (by omega) (by omega)) (Ok.oe (Qb1 (by omega)) (Ok.cnd (fun g=>Ok.s ?_) (fun g=>?_)))
 ·rw[if_pos g]
 ·rw[if_neg (by rw[g];simp)]
  have h2:=h.see ho ht g hl
  refine Ok.N (Ok.LS (Ok.oe (Qq2 (l:={ l with Now:=max l.Now o.At,Seen:=l.Seen++[o.ID] }) h2 hn hpg ho) (Ok.s rfl)))
end
end Go.Proofs.YtadlpefpehjcoaaGreat
/-
  Operations and ledgers that are made by dice.
-/
namespace Go.Proofs.YtadlpefpehjcoaaGreat
open Go AM
attribute [local irreducible] dueV stepV runV QQ answerV
section
variable {n:Nat} {c:D.Config} {b:D.Book} {p q:D.Page} {now M m:Int} {l:D.Ledger} {i:Nat} {o:D.Op} {L:List Int} {d:D.Dice}
def Ids(m:Int)(l:D.Ledger):Prop:=∀p∈l.Pages,p.ID≤m
theorem Ids.mono{k:Int}(h:Ids m l)(hk:m≤k):Ids k l:=fun p hp=>Int.le_trans (h p hp) hk
theorem QvR{L:List D.Page}(ha:AscP L){k:Nat}(h:∀p∈L,1≤p.ID∧p.ID≤(k:Int)):L.length≤k:=by
 have hlo:∀i,i<L.length→(i:Int)+1≤(nth L i).ID:=by
  intro i
  induction i with
  |zero=>intro hi;have:=(h _ (Qh hi)).1;omega
  |succ i ih=>
   intro hi
   have:=ih (by omega)
   have:=QbW ha (show i<i+1 by omega) hi
   omega
 rcases Nat.lt_or_ge k L.length with h1|h1
 ·have h2:=hlo (L.length - 1) (by omega)
  have h3:=(h _ (Qh (l:=L) (i:=L.length - 1) (by omega))).2
  omega
 ·exact h1
theorem Qe.small3{k:Nat}(h:Qe M n l)(hi:Ids (k:Int) l):l.Pages.length≤k:=
 QvR h.asc fun p hp=>⟨(h.page p hp).1.id.1,hi p hp⟩
theorem Ids.put(h:Ids m l)(hi:i<l.Pages.length)(hp:p.ID=(nth l.Pages i).ID):Ids m (putV l i p):=fun q hq=>by
 rcases List.mem_or_eq_of_mem_set hq with hq|rfl
 ·exact h q hq
 ·rw[hp];exact h _ (Qh hi)
theorem Ids.run(h:Ids m l)(hl:Qe M n l)(hi:i<l.Pages.length):Ids m (runI l i):=by
 rw[hl.runEq hi]
 exact h.put hi (Qdw hl.book QT.step (hl.at hi).1).id
theorem Ids.runs(h:Ids m l)(hl:Qe M n l):∀{k:Nat},k≤l.Pages.length→Ids m (Zj l k)
 |0,_=>h
 |k+1,hk=>by
  rw[Zj]
  exact(Ids.runs h hl (k:=k) (by omega)).run (hl.runs (by omega)) (by have:=(Yk (l:=l) (k:=k)).2.2.2.2.2.2;omega)
theorem Ids.op(h:Ids m l)(hl:Qe M n l)(ho:OpIn o)(hp:o.Kind=1→o.Page≤m):Ids m (opV l o).1:=by
 unfold opV
 split
 ·rename_i k1
  split
  ·exact h
  ·rename_i hh
   split
   ·exact h
   ·split
    ·exact h
    ·split
     ·rename_i h1 h2 h3
      have hop:=ho.page
      have hi:=hl.open (o:=o) (by simpa using hh) (by omega) h3 (by have:=hl.len;omega)
      have hid:Ids m { l with Pages:=insP l.Pages (newP o.Page o.Policy l.Now) }:=fun q hq=>by
       rcases Qfx.1 hq with rfl|hq
       ·exact hp k1
       ·exact h q hq
      exact hid.run hi.1 hi.2.1
     ·exact h
 ·split
  ·split
   ·exact h
   ·exact h
  ·split
   ·split
    ·split
     ·rename_i hh
      generalize (if (nth l.Pages (posV o.Page l.Pages)).State=2 then(-1:Int)else(nth l.Pages (posV o.Page l.Pages)).Next)=kk
      split
      ·exact h.run hl (Vl hh).1
      ·exact h
     ·exact h
    ·exact h
   ·split
    ·split
     ·rename_i hh
      have hi:=(Vl hh).1
      split
      ·rename_i he
       have h2:=hl.run hi
       have hk:=YZ (l:=l) (i:=posV o.Answer.Page l.Pages)
       refine(h.run hl hi).put (by omega) ?_
       rcases QaM he with e|e
       ·rw[e]
       ·rw[e];exact Qf8.1
      ·exact h.run hl hi
     ·exact h
    ·split
     ·exact h.runs hl (Nat.le_refl _)
     ·exact h.runs hl (Nat.le_refl _)
theorem Ids.apply(h:Ids m l)(hl:Qe M n l)(ho:OpIn o)(ht:max l.Now o.At≤M - 20000)(hs:l.Seen.length<256)(hp:o.Kind=1→o.Page≤m):Ids m (ZF l o).1:=by
 unfold ZF
 split
 ·exact h
 ·rename_i hse
  exact Ids.op (l:={ l with Now:=max l.Now o.At,Seen:=l.Seen++[o.ID] }) h (hl.see ho ht (by simpa using hse) hs) ho hp
theorem Qle:(opV l o).1.Now=l.Now∧(opV l o).1.Seen=l.Seen:=by
 unfold opV
 have h1:=fun i=>YZ (l:=l) (i:=i)
 have h2:=fun k=>Yk (l:=l) (k:=k)
 split
 ·split
  ·exact⟨rfl,rfl⟩
  ·split
   ·exact⟨rfl,rfl⟩
   ·split
    ·exact⟨rfl,rfl⟩
    ·split
     ·exact⟨(YZ (l:={ l with Pages:=insP l.Pages (newP o.Page o.Policy l.Now) })).1,(YZ (l:={ l with Pages:=insP l.Pages (newP o.Page o.Policy l.Now) })).2.2.2.2.2.1⟩
     ·exact⟨rfl,rfl⟩
 ·split
  ·split<;>exact⟨rfl,rfl⟩
  ·split
   ·split
    ·split
     ·generalize (if (nth l.Pages (posV o.Page l.Pages)).State=2 then(-1:Int)else(nth l.Pages (posV o.Page l.Pages)).Next)=kk
      split
      ·exact⟨(h1 _).1,(h1 _).2.2.2.2.2.1⟩
      ·exact⟨rfl,rfl⟩
     ·exact⟨rfl,rfl⟩
    ·exact⟨rfl,rfl⟩
   ·split
    ·split
     ·split
      ·exact⟨(h1 _).1,(h1 _).2.2.2.2.2.1⟩
      ·exact⟨(h1 _).1,(h1 _).2.2.2.2.2.1⟩
     ·exact⟨rfl,rfl⟩
    ·split
     ·exact⟨(h2 _).1,(h2 _).2.2.2.2.2.1⟩
     ·exact⟨(h2 _).1,(h2 _).2.2.2.2.2.1⟩
theorem QhR:(ZF l o).1.Seen.length≤l.Seen.length+1∧((ZF l o).1.Now=l.Now∨(ZF l o).1.Now=max l.Now o.At):=by
 unfold ZF
 split
 ·exact⟨by dsimp only;omega,.inl rfl⟩
 ·have:=Qle (l:={ l with Now:=max l.Now o.At,Seen:=l.Seen++[o.ID] }) (o:=o)
  exact⟨by rw[this.2];simp,.inr this.1⟩
theorem QqH{t:Int}(h:Qe M n l)(hpg:l.Pages.length≤9):Ok (WS 1000 l t) fun w=>w.length≤9∧∀s∈w,∃p∈l.Pages,s.K=p.ID:=by
 unfold WS
 refine Ok.j ?_
 refine Ok.loop (fun m x=>∃(i:Nat) (w:List D.Start),x=((t,(i:Int),()),l,w,())∧i≤l.Pages.length∧w.length≤i∧(∀s∈w,∃p∈l.Pages,s.K=p.ID)∧m=l.Pages.length - i) (m:=l.Pages.length) (by omega) ⟨0,[],rfl,by omega,by simp,by simp,rfl⟩ ?_
 rintro m x ⟨i,w,rfl,i1,i2,i3,rfl⟩ K hK
 try dsimp only
 refine Ok.j (Ok.ite (fun hi=>?_) (fun hi=>Ok.s ⟨by omega,i3⟩))
 have hlt:i<l.Pages.length:=by omega
 refine Ok.oe (Ui h.w hpg) (Ok.t ?_)
 try dsimp only
 have next:∀w:List D.Start,w.length≤i+1→(∀s∈w,∃p∈l.Pages,s.K=p.ID)→Ok (K ((t,IntKind.wrap .i64 ((i:Int)+1),()),l,w,())) fun w=>w.length≤9∧∀s∈w,∃p∈l.Pages,s.K=p.ID:=fun w h1 h2=>by
  try dsimp only
  rw[Qa (by omega)]
  exact hK _ _ (by omega) ⟨i+1,w,rfl,by omega,h1,h2,rfl⟩
 refine Ok.j (Ok.atn hlt (Ok.oe QdJ (Ok.cnd (fun g=>Ok.ite (fun g2=>Ok.atn hlt (Ok.LS (next _ (by simp;omega) ?_))) (fun g2=>next w (by omega) i3)) (fun g=>next w (by omega) i3))))
 exact WN i3 ⟨_,Qh hlt,rfl⟩
theorem Qw0{id t:Int}(hL:L.length≤500)(hd:ZJ L d)(h:Qe M n l)(hids:Ids 3 l)(hid:1≤id∧id≤1000)(ht:0≤t∧t≤8589934592):
  Ok (QaT 1000 d l id t) fun r=>ZJ L r.2∧OpIn r.1∧r.1.ID=id∧r.1.At=t∧(r.1.Kind=1→1≤r.1.Page∧r.1.Page≤3)∧(r.1.Kind=4→r.1.Answer.Person<4):=by
 have hpl:=h.book.plen;have hfe:=h.fence;have hse:=h.seen.len;have how:=h.owner
 have hpg:=h.small3 (k:=3) hids
 unfold QaT
 refine Ok.opt (nx hL hd (by omega) (by omega)) fun⟨a0,d1⟩ ⟨h1,l1,u1⟩=>?_
 try dsimp only at h1 l1 u1 ⊢
 refine Ok.opt (nx hL h1 (by omega) (by omega)) fun⟨a2,d3⟩ ⟨h3,l3,u3⟩=>?_
 try dsimp only at h3 l3 u3 ⊢
 refine Ok.opt (nx hL h3 (by omega) (by omega)) fun⟨a4,d5⟩ ⟨h5,l5,u5⟩=>?_
 try dsimp only at h5 l5 u5 ⊢
 rw[Qc (x:=1+a0) (by omega),Qc (x:=1+a4) (by omega)]
 have noEdit:∀{P:Prop},¬(1+a0=5)→1+a0=5→P:=fun h1 h2=>absurd h2 h1
 refine Ok.j (Ok.ite (fun k1=>?_) (fun k1=>Ok.ite (fun k2=>?_) (fun k2=>Ok.ite (fun k3=>?_) (fun k3=>Ok.ite (fun k4=>?_) (fun k4=>Ok.ite (fun k5=>?_) (fun k5=>?_))))))
 ·refine Ok.opt (nx hL h5 (by omega) (by omega)) fun⟨a10,d11⟩ ⟨h11,l11,u11⟩=>?_
  try dsimp only at h11 l11 u11 ⊢
  rw[Qc (x:=((l.Book.Policies.length:Nat):Int)+1) (by omega),Qc (x:=((l.Book.Policies.length:Nat):Int)+1 - a10) (by omega)]
  refine Ok.opt (nx hL h11 (by omega) (by omega)) fun⟨a12,d13⟩ ⟨h13,l13,u13⟩=>Ok.s ⟨h13,?_,rfl,rfl,fun _=>by dsimp only;omega,fun e=>absurd (show 1+a0=4 from e) (by omega)⟩
  exact⟨by dsimp only;omega,by dsimp only;omega,by dsimp only;omega,by dsimp only;omega,ht,by dsimp only;omega,by dsimp only;omega,fun e=>absurd (show 1+a0=4 from e) (by omega),fun e=>absurd (show 1+a0=5 from e) (by omega)⟩
 ·refine Ok.opt (Qbx hL h5 (by simp) (by simp)) fun⟨a14,d15⟩ ⟨h15,m15⟩=>?_
  try dsimp only at h15 m15 ⊢
  simp only[List.mem_cons,List.not_mem_nil,or_false]at m15
  try dsimp only
  rw[Qc (x:=l.Fence+a14) (by omega)]
  refine Ok.s ⟨h15,?_,rfl,rfl,fun e=>absurd (show 1+a0=1 from e) k1,fun e=>absurd (show 1+a0=4 from e) (by omega)⟩
  exact⟨by dsimp only;omega,by dsimp only;omega,by dsimp only;omega,by dsimp only;omega,ht,by dsimp only;omega,by dsimp only;omega,fun e=>absurd (show 1+a0=4 from e) (by omega),fun e=>absurd (show 1+a0=5 from e) (by omega)⟩
 ·-- a proposed start
  have hop:∀o:D.Op,OpIn o→o.ID=id→o.At=t→o.Kind=3→∀d,ZJ L d→Ok (some (o,d)) fun r=>ZJ L r.2∧OpIn r.1∧r.1.ID=id∧r.1.At=t∧(r.1.Kind=1→1≤r.1.Page∧r.1.Page≤3)∧(r.1.Kind=4→r.1.Answer.Person<4):=fun o h1 h2 h3 h4 d hd=>Ok.s ⟨hd,h1,h2,h3,fun e=>absurd (show o.Kind=1 from e) (by omega),fun e=>absurd (show o.Kind=4 from e) (by omega)⟩
  refine Ok.join (fun y=>∃(d:D.Dice) (z o:D.Op),y=((t,1+a4,()),d,l,z,o,())∧ZJ L d∧OpIn o∧o.ID=id∧o.At=t∧o.Kind=3) (fun y hy=>?_) (fun J hJ=>?_)
  ·obtain⟨d,z,o,rfl,j1,j2,j3,j4,j5⟩:=hy
   try dsimp only
   refine Ok.join (fun y=>∃(d:D.Dice) (z o:D.Op),y=((t,1+a4,()),d,l,z,o,())∧ZJ L d∧OpIn o∧o.ID=id∧o.At=t∧o.Kind=3) (fun y hy=>?_) (fun J hJ=>?_)
   ·obtain⟨d,z,o,rfl,j1,j2,j3,j4,j5⟩:=hy
    try dsimp only
    refine Ok.join (fun y=>∃(d:D.Dice) (z o:D.Op),y=((),l,z,o,d,())∧ZJ L d∧OpIn o∧o.ID=id∧o.At=t∧o.Kind=3) (fun y hy=>?_) (fun J hJ=>?_)
    ·obtain⟨d,z,o,rfl,j1,j2,j3,j4,j5⟩:=hy
     try dsimp only
     refine Ok.oe (QrK h.plens h.asc (by omega)) ?_
     unfold US
     by_cases hh:hasV o.Page l.Pages=true
     ·rw[if_pos hh]
      try dsimp only
      have hi:=Vl hh
      obtain⟨g1,_⟩:=h.at hi.1
      have hnx:=(Yc (g1.check h.book)).next
      have hcn:=Yo (g1.polOK h.book)
      refine Ok.t (Ok.ite (fun g=>Ok.s ⟨j1,?_,j3,j4,fun e=>absurd (show o.Kind=1 from e) (by omega),fun e=>absurd (show o.Kind=4 from e) (by omega)⟩) (fun g=>Ok.s ⟨j1,?_,j3,j4,fun e=>absurd (show o.Kind=1 from e) (by omega),fun e=>absurd (show o.Kind=4 from e) (by omega)⟩))
      ·exact⟨j2.id,j2.kind,j2.region,j2.fence,j2.at_,j2.page,by dsimp only;omega,j2.answer,j2.edit⟩
      ·exact⟨j2.id,j2.kind,j2.region,j2.fence,j2.at_,j2.page,by dsimp only;omega,j2.answer,j2.edit⟩
     ·rw[if_neg hh]
      exact Ok.f (hop _ j2 j3 j4 j5 _ j1)
    ·refine Ok.opt (QqH h (by omega)) fun w ⟨w1,w2⟩=>?_
     refine Ok.ite (fun g=>?_) (fun g=>hJ _ ⟨_,_,_,rfl,j1,⟨j2.id,j2.kind,j2.region,j2.fence,j2.at_,by dsimp only;omega,j2.k,j2.answer,j2.edit⟩,j3,j4,j5⟩)
     refine Ok.opt (nx hL j1 (by omega) (by omega)) fun⟨a36,d37⟩ ⟨h37,l37,u37⟩=>?_
     try dsimp only at h37 l37 u37 ⊢
     refine Ok.at l37 u37 (hJ _ ⟨_,_,_,rfl,h37,⟨j2.id,j2.kind,j2.region,j2.fence,j2.at_,?_,j2.k,j2.answer,j2.edit⟩,j3,j4,j5⟩)
     obtain⟨p,hp,e⟩:=w2 _ (Qh (l:=w) (i:=a36.toNat) (by omega))
     have:=(h.page p hp).1.id
     try dsimp only
     omega
   ·refine Ok.opt (nx hL j1 (by omega) (by omega)) fun⟨a40,d41⟩ ⟨h41,_⟩=>Ok.ite (fun g=>?_) (fun g=>hJ _ ⟨_,_,_,rfl,h41,j2,j3,j4,j5⟩)
    try dsimp only at h41
    refine Ok.opt (nx hL h41 (by omega) (by omega)) fun⟨a42,d43⟩ ⟨h43,l43,u43⟩=>hJ _ ⟨_,_,_,rfl,h43,⟨j2.id,j2.kind,j2.region,?_,j2.at_,j2.page,j2.k,j2.answer,j2.edit⟩,j3,j4,j5⟩
    try dsimp only at l43 u43 ⊢
    omega
  ·refine Ok.opt (nx hL h5 (by omega) (by omega)) fun⟨a45,d46⟩ ⟨h46,_⟩=>Ok.ite (fun g=>?_) (fun g=>?_)
   ·try dsimp only at h46
    refine Ok.opt (nx hL h46 (by omega) (by omega)) fun⟨a47,d48⟩ ⟨h48,l48,u48⟩=>hJ _ ⟨_,_,_,rfl,h48,?_,rfl,rfl,k3⟩
    try dsimp only at l48 u48
    exact⟨by dsimp only;omega,by dsimp only;omega,by dsimp only;omega,by dsimp only;omega,ht,by dsimp only;omega,by dsimp only;omega,fun e=>absurd (show 1+a0=4 from e) (by omega),fun e=>absurd (show 1+a0=5 from e) (by omega)⟩
   ·refine hJ _ ⟨_,_,_,rfl,h46,?_,rfl,rfl,k3⟩
    exact⟨by dsimp only;omega,by dsimp only;omega,by dsimp only;omega,by dsimp only;omega,ht,by dsimp only;omega,by dsimp only;omega,fun e=>absurd (show 1+a0=4 from e) (by omega),fun e=>absurd (show 1+a0=5 from e) (by omega)⟩
 ·refine Ok.opt (nx hL h5 (by omega) (by omega)) fun⟨a49,d50⟩ ⟨h50,l50,u50⟩=>?_
  try dsimp only at h50 l50 u50 ⊢
  rw[Qc (x:=1+a49) (by omega)]
  refine Ok.opt (Qq0 hL h50) fun⟨a,d52⟩ ⟨h52,ha,e1,e2,e3⟩=>Ok.s ⟨h52,?_,rfl,rfl,fun e=>absurd (show 1+a0=1 from e) k1,fun _=>ha.pers.2⟩
  try dsimp only at ha e1 e2 e3
  exact⟨by dsimp only;omega,by dsimp only;omega,by dsimp only;omega,by dsimp only;omega,ht,by dsimp only;omega,by dsimp only;omega,fun _=>⟨ha.valid (by omega) (by omega) (by omega),fun e=>(ha.arg3 e).2⟩,fun e=>absurd (show 1+a0=5 from e) (by omega)⟩
 ·refine Ok.opt (nx hL h5 (by omega) (by omega)) fun⟨a53,d54⟩ ⟨h54,l54,u54⟩=>?_
  try dsimp only at h54 l54 u54 ⊢
  refine Ok.opt (QiM hL h54) fun⟨x,d56⟩ ⟨h56,hx⟩=>Ok.s ⟨h56,?_,rfl,rfl,fun e=>absurd (show 1+a0=1 from e) k1,fun e=>absurd (show 1+a0=4 from e) (by omega)⟩
  try dsimp only at hx
  exact⟨by dsimp only;omega,by dsimp only;omega,by dsimp only;omega,by dsimp only;omega,ht,by dsimp only;omega,by dsimp only;omega,fun e=>absurd (show 1+a0=4 from e) k4,fun _=>hx⟩
 ·omega
structure Qth (k:Nat) (l:D.Ledger):Prop where
 inv:Qe 1000000 (2+k) l
 ids:Ids 3 l
 seen:l.Seen.length≤k
 now:l.Now≤864000+700*(k:Int)
theorem Qqg(hc:Q3 2 c)(hb:QL b):Qe 1000000 2 { Now:=0,Config:=c,Book:=b,Pages:=[],Owner:=-1,Fence:=0,Seen:=[],Calls:=[] }:=
 ⟨by omega,by dsimp only;omega,by omega,hc,hb,by simp,List.Pairwise.nil,by simp,by dsimp only;omega,by simp,⟨by simp,List.nodup_nil,by simp⟩,by simp,by simp⟩
theorem Qv3(hc:Q3 n c)(hn:n≤48)(hb:QL b):Qi9 1000 c b=some ({ Now:=0,Config:=c,Book:=b,Pages:=[],Owner:=-1,Fence:=0,Seen:=[],Calls:=[] },0):=by
 refine Ok.eq ?_
 unfold Qi9
 exact Ok.oe (Qmj hc hn hb) (Ok.NS (Ok.s rfl))
end
end Go.Proofs.YtadlpefpehjcoaaGreat
/-
  Plain laws of operations on ledgers: what a refused one leaves, what one that comes twice does, which pages one touches.
-/
namespace Go.Proofs.YtadlpefpehjcoaaGreat
open Go AM
attribute [local irreducible] dueV stepV runV QQ answerV
section
variable {n:Nat} {c:D.Config} {b:D.Book} {p q:D.Page} {now M:Int} {l:D.Ledger} {i:Nat} {o:D.Op}
def seeV(l:D.Ledger)(o:D.Op):D.Ledger:={ l with Now:=max l.Now o.At,Seen:=l.Seen++[o.ID] }
theorem Qbn(hs:l.Seen.contains o.ID=false):ZF l o=opV (seeV l o) o:=by
 unfold ZF;rw[hs];rfl
theorem QpQ(hs:l.Seen.contains o.ID=false):(ZF l o).1.Now=max l.Now o.At:=by
 rw[Qbn hs,(Qle).1];rfl
def ansP(c:D.Config)(b:D.Book)(p:D.Page)(a:D.Answer)(now:Int):D.Page:=
 if (answerV b (runV c b p now).1 { a with At:=now }).2=0 then(answerV b (runV c b p now).1 { a with At:=now }).1 else(runV c b p now).1
theorem Qqh(h:Qe M n l)(hk:o.Kind=4):(opV l o).1.Config=l.Config∧(opV l o).1.Book=l.Book∧
  (opV l o).1.Pages=if hasV o.Answer.Page l.Pages=true then l.Pages.set (posV o.Answer.Page l.Pages) (ansP l.Config l.Book (nth l.Pages (posV o.Answer.Page l.Pages)) o.Answer l.Now)else l.Pages:=by
 unfold opV
 rw[if_neg (by omega),if_neg (by omega),if_neg (by omega),if_pos hk]
 split
 ·rename_i g
  obtain⟨g1,g2⟩:=Vl g
  have hpg:=QbL h g1 (j:=posV o.Answer.Page l.Pages)
  rw[if_pos rfl]at hpg
  have hpages:(runI l (posV o.Answer.Page l.Pages)).Pages=l.Pages.set (posV o.Answer.Page l.Pages) (runV l.Config l.Book (nth l.Pages (posV o.Answer.Page l.Pages)) l.Now).1:=by
   rw[h.runEq g1];rfl
  split
  ·rename_i g3
   rw[hpg]at g3
   refine⟨YZ.2.1,YZ.2.2.1,?_⟩
   show List.set _ _ _=_
   rw[hpages,List.set_set,←hpages,hpg]
   unfold ansP
   rw[if_pos g3]
  ·rename_i g3
   rw[hpg]at g3
   refine⟨YZ.2.1,YZ.2.2.1,?_⟩
   show(runI l _).Pages=_
   rw[hpages]
   unfold ansP
   rw[if_neg g3]
 ·exact⟨rfl,rfl,rfl⟩
end
end Go.Proofs.YtadlpefpehjcoaaGreat
/-
  Ledgers looked at: what the program's check computes.
-/
namespace Go.Proofs.YtadlpefpehjcoaaGreat
open Go AM
attribute [local irreducible] dueV stepV runV QQ answerV
section
variable {n:Nat} {c:D.Config} {b:D.Book} {p q:D.Page} {now M:Int} {l:D.Ledger} {i:Nat}
theorem Qv0:∀i,i<2→U5 1000 (nth Qfi i)=some true:=forall2 (by kernel_rfl) (by kernel_rfl)
theorem QvZ:∀i,i<3→U5 1000 (nth Qjr i)=some true:=forall3 (by kernel_rfl) (by kernel_rfl) (by kernel_rfl)
theorem QrD(hb:QL b){i:Nat}(hi:i<b.Teams.length):Zo 1000 (i:Int) b=some false:=by
 have htl:=hb.tlen
 have hone:∀j,j<b.Teams.length→WD 1000 (j:Int) b=some (nth Qfi j):=fun j hj=>by
  refine Ok.eq ?_
  unfold WD
  exact Ok.atn hj (Ok.sameC (Ok.s (hb.tnm hj)))
 refine Ok.eq ?_
 unfold Zo
 refine Ok.run2 i (fun k=>((i:Int),(i:Int),(k:Int),())) rfl (by omega) (fun k hk K hK=>?_) (fun K=>by dsimp only;exact Ok.N (Ok.sameC (Ok.s rfl)))
 try dsimp only
 refine Ok.P (Ok.oe (hone k (by omega)) (Ok.oe (hone i hi) (Ok.n (Qmi i (by omega) k hk) ?_)))
 try dsimp only
 rw[Qa (by omega)];exact hK
theorem QrC(hb:QL b){i:Nat}(hi:i<b.Policies.length):Zp 1000 (i:Int) b=some false:=by
 have htl:=hb.plen
 have hone:∀j,j<b.Policies.length→WE 1000 (j:Int) b=some (nth Qjr j):=fun j hj=>by
  refine Ok.eq ?_
  unfold WE
  exact Ok.atn hj (Ok.sameC (Ok.s (hb.pnm hj)))
 refine Ok.eq ?_
 unfold Zp
 refine Ok.run2 i (fun k=>((i:Int),(i:Int),(k:Int),())) rfl (by omega) (fun k hk K hK=>?_) (fun K=>by dsimp only;exact Ok.N (Ok.sameC (Ok.s rfl)))
 try dsimp only
 refine Ok.P (Ok.oe (hone k (by omega)) (Ok.oe (hone i hi) (Ok.n (Qo0 i (by omega) k hk) ?_)))
 try dsimp only
 rw[Qa (by omega)];exact hK
theorem Qwq{t:D.Team}(h:Q3 n c)(ht:Ql6 t):QdV 1000 c t.Members=some 0:=by
 have hpl:=h.plen;have hml:=ht.len
 refine Ok.eq ?_
 unfold QdV
 refine Ok.N (Ok.run2 (t.Members.length - 1) (fun k=>(t.Members,((k+1:Nat):Int),())) rfl (by omega) (fun k hk K hK=>?_) (fun K=>?_))
 ·try dsimp only
  have:=Qf9 ht.asc (show k<k+1 by omega) (show k+1<t.Members.length by omega)
  refine Ok.P (Ok.A ?_)
  rw[show IntKind.wrap .i64 (((k+1:Nat):Int) - 1)=((k:Nat):Int)by rw[Qc (by omega)];omega]
  refine Ok.A (Ok.N ?_)
  try dsimp only
  rw[Qa (by omega)];exact hK
 ·try dsimp only
  rw[hpl]
  have h1:=ht.mem _ (Qh (l:=t.Members) (i:=0) (by omega))
  have h2:=ht.mem _ (Qh (l:=t.Members) (i:=t.Members.length - 1) (by omega))
  refine Ok.N (Ok.j (Ok.at (by omega) (by omega) ?_))
  rw[show IntKind.wrap .i64 (((4:Nat):Int) - 1)=3 from rfl,show IntKind.wrap .i64 (((t.Members.length:Nat):Int) - 1)=((t.Members.length - 1:Nat):Int)by rw[Qc (by omega)];omega]
  refine Ok.oe pIn (Ok.p ⟨h1.1,by have:=h1.2;show nth t.Members (0:Int).toNat≤3;simp only[Int.toNat_zero];omega⟩ (Ok.A (Ok.oe pIn (Ok.P (Ok.s rfl)))))
theorem Qut{s:D.PolicyStep}(h:Q3 n c)(hb:QL b)(hs:StepOK' b.Teams.length s):Qce 1000 c b s=some 0:=by
 have hpl:=h.plen;have hsl:=h.slen;have htl:=hb.tlen;have hw:=hs.wait;have htn:=hs.len
 have hsz:X8 1000 c b=some ⟨4,2,((b.Teams.length:Nat):Int)⟩:=by unfold X8;rw[hpl,hsl];rfl
 refine Ok.eq ?_
 unfold Qce
 refine Ok.oe pIn (Ok.np (by omega) (Ok.N (Ok.oe hsz ?_)))
 try dsimp only
 refine Ok.run2 s.Targets.length (fun i=>(s.Targets,((s.Targets.length:Nat):Int),(i:Int),())) rfl (by omega) (fun i hi K hK=>?_) (fun K=>by dsimp only;exact Ok.N (Ok.s rfl))
 try dsimp only
 have hx:=hs.target _ (Qh hi)
 have h1:=hx.lo;have h2:=hx.person;have h3:=hx.sched;have h4:=hx.team
 refine Ok.P (Ok.j (Ok.atn hi (Ok.oe pIn (Ok.p (by have:=hx.kind;omega) ?_))))
 have next:Ok (K ((s.Targets,((s.Targets.length:Nat):Int),IntKind.wrap .i64 ((i:Int)+1),()),(4,2,((b.Teams.length:Nat):Int),()),())) (·=0):=by rw[Qa (by omega)];exact hK
 rcases hx.kind with hk|hk|hk
 ·have:=h2 hk
  refine Ok.P (Ok.oe pIn (Ok.p ⟨h1,by rw[Qc (by omega)];omega⟩ next))
 ·have:=h3 hk
  refine Ok.N (Ok.P (Ok.oe pIn (Ok.p ⟨h1,by rw[Qc (by omega)];omega⟩ next)))
 ·have:=h4 hk
  refine Ok.N (Ok.N (Ok.P (Ok.oe pIn (Ok.p ⟨h1,by rw[Qc (by omega)];omega⟩ next))))
theorem Qtz(h:Q3 n c)(hn:n≤48)(hb:QL b):QaZ 1000 c b=some 0:=by
 have htl:=hb.tlen;have hpl:=hb.plen
 refine Ok.eq ?_
 unfold QaZ
 refine Ok.oe (Qhp h hn) (Ok.NS (Ok.j (Ok.N (Ok.N ?_))))
 refine Ok.run b.Teams.length (fun i=>((b.Teams,((b.Teams.length:Nat):Int),(i:Int),()),c,b,())) rfl (by omega) (fun i hi K hK=>?_) (fun K=>?_)
 ·try dsimp only
  have ht:=hb.team _ (Qh hi)
  refine Ok.P (Ok.atn hi (Ok.oe (by rw[hb.tnm hi];exact Qv0 i (by omega)) (Ok.nt rfl (Ok.oe (QrD hb hi) (Ok.f (Ok.oe (Qwq h ht) (Ok.NS ?_)))))))
  try dsimp only
  rw[Qa (by omega)];exact hK
 ·try dsimp only
  refine Ok.N (Ok.run b.Policies.length (fun i=>((((b.Policies.length:Nat):Int),(i:Int),()),c,b,())) rfl (by omega) (fun i hi K hK=>?_) (fun K=>by dsimp only;exact Ok.N (Ok.s rfl)))
  try dsimp only
  have ht:=hb.pol _ (Qh hi)
  have hml:=ht.len;have hrp:=ht.rep
  refine Ok.P (Ok.oe (v:=0) ?_ (Ok.NS ?_))
  ·refine Ok.eq ?_
   unfold Qda
   refine Ok.atn hi (Ok.oe (by rw[hb.pnm hi];exact QvZ i (by omega)) (Ok.nt rfl (Ok.oe (QrC hb hi) (Ok.f (Ok.N (Ok.N (Ok.oe pIn (Ok.np (by omega) ?_))))))))
   refine Ok.run (nth b.Policies i).Steps.length (fun k=>(((nth b.Policies i).Steps,(((nth b.Policies i).Steps.length:Nat):Int),(k:Int),()),c,b,())) rfl (by omega) (fun k hk K2 hK2=>?_) (fun K2=>by dsimp only;exact Ok.N (Ok.s rfl))
   try dsimp only
   refine Ok.P (Ok.atn hk (Ok.oe (Qut h hb (ht.step _ (Qh hk))) (Ok.NS ?_)))
   try dsimp only
   rw[Qa (by omega)];exact hK2
  ·try dsimp only
   rw[Qa (by omega)];exact hK
theorem oin{fu:Nat}{x lo hi:Int}:Xv fu x lo hi=some (inV x lo hi):=by
 unfold Xv inV
 by_cases h1:lo≤x<;>by_cases h2:x≤hi<;>simp[cd,AM.cnd,h1,h2]
theorem Qup{L:List Int}(h:QjY L 256):QdR 1000 L=some true:=by
 have hl:=h.len
 refine Ok.eq ?_
 unfold QdR
 refine Ok.run L.length (fun i=>((L,L,((L.length:Nat):Int),(i:Int),()),())) rfl (by omega) (fun i hi k hk=>?_) (fun k=>by dsimp only;exact Ok.N (Ok.s (decide_eq_true (by omega))))
 try dsimp only
 have hx:=h.fit _ (Qh hi)
 have hno:(L.take i).contains (nth L i)=false:=by
  cases hc:(L.take i).contains (nth L i)with
  |false=>rfl
  |true=>
   have:=QhH hi hc
   rw[decide_eq_true h.nodup]at this;simp at this
 refine Ok.P (Ok.j (Ok.atn hi (Ok.oe oin (Ok.bt (QG.2 hx) (Ok.natn (Ok.L (Ok.oe (QbX (by simp;omega)) (Ok.bf hno ?_))))))))
 try dsimp only
 rw[Qa (by omega)];exact hk
structure DelC (p0:List D.Call) (q:D.Call→Bool) (w j:Nat) (a:List D.Call):Prop where
 len:a.length=p0.length
 wj:w≤j∧j≤p0.length
 done:a.take w=(p0.take j).filter q
 rest:∀k,j≤k→nth a k=nth p0 k
theorem Qir{L:List D.Call}{q:D.Call→Bool}{i:Nat}(hi:i≤L.length)(h:∀j,j<i→q (nth L j)=true):(L.take i).filter q=L.take i:=by
 refine List.filter_eq_self.2 fun x hx=>?_
 obtain⟨k,hk,rfl⟩:=List.getElem_of_mem hx
 rw[List.length_take]at hk
 have:=h k (by omega)
 simpa [nth,List.getD_eq_getElem?_getD,List.getElem?_eq_getElem (show k<L.length by omega)]using this
theorem Qpv{L:List D.Call}{j k:Nat}{x:D.Call}(hj:j<L.length):nth (L.set j x) k=if k=j then x else nth L k:=by
 by_cases e:k=j
 ·subst e;rw[if_pos rfl,Xp hj]
 ·rw[if_neg e,U6 e]
theorem Qp3{p0:List D.Call}{q:D.Call→Bool}{i:Nat}(hi:i<p0.length)(h:∀j,j<i→q (nth p0 j)=true)(hx:q (nth p0 i)=false):DelC p0 q i (i+1) p0:=by
 refine⟨rfl,by omega,?_,fun k _=>rfl⟩
 rw[←Qu hi,List.filter_append,Qir (by omega) h]
 simp[hx]
theorem QrA{p0 a:List D.Call}{q:D.Call→Bool}{w j:Nat}(h:DelC p0 q w j a)(hj:j<p0.length)(hx:q (nth a j)=true):DelC p0 q (w+1) (j+1) (a.set w (nth a j)):=by
 have h1:=h.wj
 have h2:=h.len
 refine⟨by simp[h.len],by omega,?_,fun k hk=>?_⟩
 ·rw[h.rest j (Nat.le_refl _)]at hx ⊢
  rw[←Qu hj,List.filter_append,←h.done,←Qu (l:=a.set w (nth p0 j)) (by simp;omega),Qpv (by omega),if_pos rfl,List.take_set_of_le (by omega)]
  simp[hx]
 ·rw[Qpv (by omega),if_neg (by omega)];exact h.rest k (by omega)
theorem QrB{p0 a:List D.Call}{q:D.Call→Bool}{w j:Nat}(h:DelC p0 q w j a)(hj:j<p0.length)(hx:q (nth a j)=false):DelC p0 q w (j+1) a:=by
 have h1:=h.wj
 refine⟨h.len,by omega,?_,fun k hk=>h.rest k (by omega)⟩
 rw[h.rest j (Nat.le_refl _)]at hx
 rw[←Qu hj,List.filter_append,←h.done]
 simp[hx]
theorem Qso{x:D.Call}:Vr 1000 x p=some (decide (x.Page≠p.ID)):=by
 unfold Vr
 rw[Wd]
theorem Qwa{L:List D.Call}(hl:L.length≤900):Ok (QO 1000 L p) fun r=>List.drop r.1 (List.take r.2.1 r.2.2)=ownC p.ID L:=by
 have hown:∀{x:D.Call},decide (x.Page≠p.ID)=!(decide (x.Page=p.ID)):=fun{x}=>by by_cases e:x.Page=p.ID<;>simp[e]
 unfold QO
 have hidx:Ok (QR 1000 L p) fun r=>(r = -1∧(∀j,j<L.length→decide ((nth L j).Page=p.ID)=true))∨∃i:Nat,r=(i:Int)∧i<L.length∧decide ((nth L i).Page=p.ID)=false∧∀j,j<i→decide ((nth L j).Page=p.ID)=true:=by
  unfold QR
  refine Ok.scan2 L.length (fun i=>(((L.length:Nat):Int),(i:Int),())) (fun i=>!decide ((nth L i).Page=p.ID)) rfl (by omega) (fun i hi hq hj k=>?_) (fun i hi hq k hk=>?_) (fun hq k=>?_)
  ·refine Ok.P (Ok.natn (Ok.lt hi (Ok.get hi (Ok.oe Qso ?_))))
   rw[hown]
   exact Ok.bt hq (Ok.sameC (Ok.sameC (Ok.s (.inr ⟨i,rfl,hi,by simpa using hq,fun j hj'=>by simpa using hj j hj'⟩))))
  ·refine Ok.P (Ok.natn (Ok.lt hi (Ok.get hi (Ok.oe Qso ?_))))
   rw[hown]
   refine Ok.bf hq ?_
   try dsimp only
   rw[Qa (by omega)];exact hk
  ·exact Ok.N (Ok.sameC (Ok.sameC (Ok.s (.inl ⟨rfl,fun j hj=>by simpa using hq j hj⟩))))
 refine Ok.opt hidx fun r hr=>?_
 rcases hr with⟨rfl,hall⟩|⟨i,rfl,hi,hx,hj⟩
 ·refine Ok.p rfl (Ok.sameC (Ok.s ?_))
  try dsimp only
  have:=Qir (q:=fun z=>decide (z.Page=p.ID)) (Nat.le_refl _) hall
  rw[List.take_length]at this ⊢
  rw[List.drop_zero]
  exact this.symm
 ·refine Ok.N ?_
  try dsimp only
  rw[Qa (by omega)]
  refine Ok.loop (fun q x=>∃(w j:Nat) (a:List D.Call),x=((((w:Nat):Int),((j:Nat):Int),()),p,a,())∧DelC L (fun z=>decide (z.Page=p.ID)) w j a∧q=L.length - j) (m:=L.length - (i+1)) (by omega) ⟨i,i+1,L,rfl,Qp3 hi hj hx,rfl⟩ ?_
  rintro q x ⟨w,j,a,rfl,hinv,rfl⟩ K hK
  have h1:=hinv.wj
  have h2:=hinv.len
  try dsimp only
  refine Ok.ite (fun hlt=>?_) (fun hge=>?_)
  ·refine Ok.j (Ok.natn (Ok.E (Ok.G (Ok.oe Qso ?_))))
   rw[hown,Bool.not_not]
   refine Ok.cnd (fun hq=>?_) (fun hq=>?_)
   ·refine Ok.natn (Ok.E (Ok.G ?_))
    try dsimp only
    rw[Qa (by omega),Qa (by omega)]
    exact hK _ _ (by omega) ⟨w+1,j+1,_,rfl,QrA hinv (by omega) hq,rfl⟩
   ·try dsimp only
    rw[Qa (by omega)]
    exact hK _ _ (by omega) ⟨w,j+1,a,rfl,QrB hinv (by omega) hq,rfl⟩
  ·have ej:j=L.length:=by omega
   have hd:=hinv.done
   rw[ej,List.take_length]at hd
   refine Ok.natn (Ok.L (Ok.L (Ok.L (Ok.natn (Ok.LS (Ok.sameC (Ok.s ?_)))))))
   try dsimp only
   rw[List.drop_zero,List.append_assoc,List.take_append_of_le_length (by simp;omega),List.take_take,Nat.min_self]
   exact hd
theorem Qkh{α:Type}[Inhabited α]{A B:List α}{z:Nat}:nth (A++B) (A.length+z)=nth B z:=by
 simp[nth,List.getD_eq_getElem?_getD,List.getElem?_append_right]
theorem Qrq{C:List D.Call}{f:Int}(hpl:Qz p)(hC:C.length≤900)(h1:C.map unf=QA p.ID 0 p.Starts)(h2:C.Pairwise fun x y=>x.Fence≤y.Fence)(h3:∀c∈C,0≤c.Fence∧c.Fence≤f):Qcb 1000 p C f=some true:=by
 have hst:=hpl.st
 have hlen:C.length=(QA p.ID 0 p.Starts).length:=by rw[←h1,List.length_map]
 have hnth:∀k,k<C.length→unf (nth C k)=nth (QA p.ID 0 p.Starts) k:=fun k hk=>by
  rw[←h1]
  simp[nth,List.getD_eq_getElem?_getD,List.getElem?_eq_getElem hk]
 obtain⟨lf,hlf⟩:∃lf:Nat→Int,∀k,lf k=if k=0 then 0 else(nth C (k - 1)).Fence:=⟨fun k=>_,fun k=>rfl⟩
 have hlow:∀k,k<C.length→lf k≤(nth C k).Fence∧(nth C k).Fence≤f:=fun k hk=>by
  have hf:=h3 _ (Qh hk)
  refine⟨?_,hf.2⟩
  rw[hlf]
  split
  ·exact hf.1
  ·have:=List.pairwise_iff_getElem.1 h2 (k - 1) k (by omega) hk (by omega)
   simpa [nth,List.getD_eq_getElem?_getD,List.getElem?_eq_getElem hk,List.getElem?_eq_getElem (show k - 1<C.length by omega)]using this
 refine Ok.eq ?_
 unfold Qcb
 refine Ok.run p.Starts.length (fun j=>((C,f,(((QA p.ID 0 (p.Starts.take j)).length:Nat):Int),lf (QA p.ID 0 (p.Starts.take j)).length,p.Starts,((p.Starts.length:Nat):Int),(j:Int),()),p,())) (by rw[hlf];rfl) (by omega) (fun j hj k hk=>?_) (fun k=>?_)
 ·try dsimp only
  refine Ok.P (Ok.atn hj ?_)
  have hts:p.Starts.take (j+1)=p.Starts.take j++[nth p.Starts j]:=(Qu hj).symm
  have hsp:p.Starts=p.Starts.take j++(nth p.Starts j::p.Starts.drop (j+1)):=by rw[←QcX hj,List.take_append_drop]
  have hpe:=(hpl.pe _ (Qh hj)).1
  obtain⟨s,hs⟩:∃s,nth p.Starts j=s:=⟨_,rfl⟩
  rw[hs]at hts hsp hpe ⊢
  obtain⟨base,hbase⟩:∃base,(QA p.ID 0 (p.Starts.take j)).length=base:=⟨_,rfl⟩
  have hall:QA p.ID 0 p.Starts=QA p.ID 0 (p.Starts.take j)++(s.People.map (fun x=>D.Call.mk p.ID s.K s.At x 0)++QA p.ID 0 (p.Starts.drop (j+1))):=by
   conv=>lhs;rw[hsp]
   rw[Qbb]
   rfl
  have hbl:base+s.People.length≤C.length:=by rw[hlen,hall,←hbase];simp
  have hat:∀z,z<s.People.length→nth (QA p.ID 0 p.Starts) (base+z)=D.Call.mk p.ID s.K s.At (nth s.People z) 0:=fun z hz=>by
   rw[hall,←hbase,Qkh,Qc8 (by simpa using hz)]
   simp[nth,List.getD_eq_getElem?_getD,hz]
  try dsimp only at hk
  rw[hts,QcS,List.length_append,List.length_map,hbase]at hk
  rw[hbase]
  refine Ok.run s.People.length (fun z=>((C,f,((base+z:Nat):Int),lf (base+z),p.Starts,((p.Starts.length:Nat):Int),(j:Int),s.People,((s.People.length:Nat):Int),(z:Int),()),p,s,())) rfl (by omega) (fun z hz k2 hk2=>?_) (fun k2=>?_)
  ·try dsimp only
   have hlt:base+z<C.length:=by omega
   have hlw:=hlow _ hlt
   have hun:=hnth _ hlt
   rw[hat z hz]at hun
   refine Ok.P (Ok.atn hz (Ok.j (Ok.N (Ok.atn hlt (Ok.oe oin (Ok.bt (QG.2 hlw) (Ok.atn hlt (Ok.atn hlt (Ok.n ?_ ?_)))))))))
   ·obtain⟨cc,hcc⟩:∃cc,nth C (base+z)=cc:=⟨_,rfl⟩
    rw[hcc]at hun ⊢
    obtain⟨c1,c2,c3,c4,c5⟩:=cc
    simp only[unf,D.Call.mk.injEq]at hun
    obtain⟨u1,u2,u3,u4,_⟩:=hun
    simp[u1,u2,u3,u4]
   ·try dsimp only
    refine Ok.atn hlt ?_
    try dsimp only
    rw[Qa (by omega),Qa (by omega)]
    try dsimp only at hk2
    rw[hlf (base+(z+1)),if_neg (by omega),show base+(z+1) - 1=base+z by omega]at hk2
    exact hk2
  ·try dsimp only
   refine Ok.N ?_
   try dsimp only
   rw[Qa (by omega)]
   exact hk
 ·try dsimp only
  rw[List.take_length]
  exact Ok.N (Ok.s (decide_eq_true (by rw[hlen])))
theorem Qmq{L:List D.Call}(h:L.length≤1000):Xk 1000 L=some L:=by unfold Xk;exact Xb (by omega)
theorem Qk6(h:LW M n l)(hpg:l.Pages.length≤9):Xt 1000 l=some true:=by
 have htop:=h.top;have hnow:=h.now;have how:=h.owner;have hfe:=h.fence;have hse:=h.seen.len;have hcl:=h.callsLe hpg
 refine Ok.eq ?_
 unfold Xt
 refine Ok.j (Ok.oe oin (Ok.bt (QG.2 (by omega)) (Ok.N (Ok.oe oin (Ok.bt (QG.2 how) (Ok.oe oin (Ok.bt (QG.2 (by omega)) (Ok.oe (Qup h.seen) (Ok.t ?_)))))))))
 try dsimp only
 refine Ok.oe (Qtz h.cfg h.small h.book) (Ok.p rfl (Ok.oe (v:=true) ?_ (Ok.t (Ok.s rfl))))
 refine Ok.eq ?_
 unfold QeS
 have hsle:∀i,sumC (l.Pages.take i) (fun p=>(ownC p.ID l.Calls).length)≤468*i:=fun i=>by
  have:=QlX (l:=l.Pages.take i) (f:=fun p=>(ownC p.ID l.Calls).length) (m:=468) fun p hp=>by
   show(ownC p.ID l.Calls).length≤468
   unfold ownC
   exact Nat.le_trans (List.length_filter_le _ _) hcl
  refine Nat.le_trans this (Nat.mul_le_mul_left _ ?_)
  simp only[List.length_take];omega
 refine Ok.run l.Pages.length (fun i=>((((sumC (l.Pages.take i) (fun p=>(ownC p.ID l.Calls).length):Nat):Int),l.Pages,((l.Pages.length:Nat):Int),(i:Int),()),l,())) rfl (by omega) (fun i hi k hk=>?_) (fun k=>?_)
 ·try dsimp only
  have hm:=Qh hi
  obtain⟨g1,g2⟩:=h.page _ hm
  have gt:=h.told _ hm
  have hs1:=hsle i
  refine Ok.P (Ok.atn hi ?_)
  have hasc:0<i→(nth l.Pages (i - 1)).ID<(nth l.Pages i).ID:=fun h0=>QbW h.asc (by omega) hi
  try dsimp only at hk
  rw[←Qu hi,Qjh]at hk
  obtain⟨p,hp⟩:∃p,nth l.Pages i=p:=⟨_,rfl⟩
  rw[hp]at g1 g2 gt hk hasc ⊢
  have hpl:=g1.plen h.book
  have hol:(ownC p.ID l.Calls).length≤468:=by unfold ownC;exact Nat.le_trans (List.length_filter_le _ _) hcl
  refine Ok.join (fun y=>y=((((sumC (l.Pages.take i) (fun p=>(ownC p.ID l.Calls).length):Nat):Int),l.Pages,((l.Pages.length:Nat):Int),(i:Int),()),l,p,())) (fun y hy=>?_) (fun J hJ=>?_)
  ·subst hy
   try dsimp only
   refine Ok.oe (Qmq (by omega)) (Ok.opt (Qwa (p:=p) (by omega)) fun⟨r0,r1,r2⟩ hr=>?_)
   try dsimp only at hr ⊢
   rw[hr]
   refine Ok.oe (Qrq hpl (by omega) gt.same gt.up gt.fit) (Ok.f ?_)
   try dsimp only
   rw[Qa (by omega),Qc (by omega)]
   exact hk
  ·have tail:Ok (optc (Z7 1000 l.Book p) fun a13=>AM.cnd a13 (AM.cnd (decide (l.Now<p.Last)) (some false) (J ((((sumC (l.Pages.take i) (fun p=>(ownC p.ID l.Calls).length):Nat):Int),l.Pages,((l.Pages.length:Nat):Int),(i:Int),()),l,p,()))) (some false)) (·=true):=
    Ok.oe (Qho h.book hpl) (Ok.bt (g1.check h.book) (Ok.N (hJ _ rfl)))
   by_cases h0:0<i
   ·refine Ok.P ?_
    rw[show IntKind.wrap .i64 ((i:Int) - 1)=((i - 1:Nat):Int)by rw[Qc (by omega)];omega]
    have:=hasc h0
    exact Ok.A (Ok.N tail)
   ·exact Ok.N tail
 ·try dsimp only
  rw[List.take_length,h.callsN]
  exact Ok.N (Ok.s (decide_eq_true rfl))
end
end Go.Proofs.YtadlpefpehjcoaaGreat
/-
  Plain laws of operations on ledgers: takeovers and proposed starts change nothing in the long run.
-/
namespace Go.Proofs.YtadlpefpehjcoaaGreat
open Go AM
attribute [local irreducible] dueV stepV runV QQ answerV
section
variable {n:Nat} {c:D.Config} {b:D.Book} {p q:D.Page} {now M:Int} {l x:D.Ledger} {i:Nat} {o:D.Op}
theorem Qln{id:Int}:∀{L K:List D.Page},L.map D.Page.ID=K.map D.Page.ID→posV id L=posV id K
 |[],[],_=>rfl
 |[],_::_,h=>by simp at h
 |_::_,[],h=>by simp at h
 |y::r,z::s,h=>by
  simp only[List.map_cons,List.cons.injEq]at h
  simp only[posV,h.1,Qln h.2]
theorem QuP{L K:List D.Page}(hl:L.length=K.length)(h:∀i,i<L.length→(nth L i).ID=(nth K i).ID):L.map D.Page.ID=K.map D.Page.ID:=by
 refine List.ext_getElem (by simpa using hl) fun i h1 h2=>?_
 simp only[List.length_map]at h1 h2
 have:=h i h1
 simpa [nth,List.getD_eq_getElem?_getD,List.getElem?_eq_getElem h1,List.getElem?_eq_getElem h2]using this
theorem QtN{id:Int}{L K:List D.Page}(hl:L.length=K.length)(h:∀i,i<L.length→(nth L i).ID=(nth K i).ID):hasV id L=hasV id K:=by
 have e:=Qln (id:=id) (QuP hl h)
 unfold hasV
 rw[e,hl]
 by_cases g:posV id K<K.length
 ·rw[h _ (by omega)]
 ·have:∀q:Prop,¬(posV id K<K.length∧q):=fun q hq=>g hq.1
  rw[decide_eq_false (this _),decide_eq_false (this _)]
theorem Qpx{L:List D.Page}{p:D.Page}{j:Nat}:nth (insP L p) j=if j<posV p.ID L then nth L j else if j=posV p.ID L then p else nth L (j - 1):=by
 have hp:=Qat (id:=p.ID) (l:=L)
 have htl:(L.take (posV p.ID L)).length=posV p.ID L:=by simp;omega
 unfold insP
 split
 ·rename_i g
  rw[Qc8 (by omega),Qld g]
 ·rename_i g
  obtain⟨k,rfl⟩:∃k,j=(L.take (posV p.ID L)).length+k:=⟨j - posV p.ID L,by omega⟩
  rw[Qkh,htl]
  cases k with
  |zero=>rw[if_pos (by omega),Qb6]
  |succ k=>
   rw[if_neg (by omega),UV,Qpw]
   congr 1
structure Alike (M:Int) (n:Nat) (l x:D.Ledger):Prop where
 li:Qe M n l
 xi:Qe M n x
 cfg:x.Config=l.Config
 book:x.Book=l.Book
 now:x.Now≤l.Now
 len:x.Pages.length=l.Pages.length
 page:∀i,i<l.Pages.length→(nth x.Pages i).ID=(nth l.Pages i).ID∧(runV l.Config l.Book (nth x.Pages i) l.Now).1=(runV l.Config l.Book (nth l.Pages i) l.Now).1
theorem Alike.has(h:Alike M n l x){id:Int}:hasV id x.Pages=hasV id l.Pages∧posV id x.Pages=posV id l.Pages:=by
 have e:∀i,i<x.Pages.length→(nth x.Pages i).ID=(nth l.Pages i).ID:=fun i hi=>(h.page i (by rw[←h.len];exact hi)).1
 exact⟨QtN h.len e,Qln (QuP h.len e)⟩
theorem Alike.wide(h:Alike M n l x)(hn:n<48):Alike M (n+1) l x:=⟨h.li.wide hn,h.xi.wide hn,h.cfg,h.book,h.now,h.len,h.page⟩
theorem Qub(hk:o.Kind=5):(opV l o).1.Pages=(Zj l l.Pages.length).Pages∧(opV l o).1.Book=l.Book∧(opV l o).1.Config=(if 0≤o.Schedule∧o.Schedule<2 then Qik l.Config o.Schedule o.Edit else l.Config):=by
 unfold opV
 rw[if_neg (by omega),if_neg (by omega),if_neg (by omega),if_neg (by omega)]
 split
 ·exact⟨rfl,Yk.2.2.1,rfl⟩
 ·exact⟨rfl,Yk.2.2.1,Yk.2.1⟩
theorem Alike.runL(h:Alike M n l x)(hi:i<l.Pages.length):Alike M n (runI l i) x:=by
 obtain⟨k1,k2,k3,k4,k5,k6,k7⟩:=YZ (l:=l) (i:=i)
 refine⟨h.li.run hi,h.xi,by rw[k2];exact h.cfg,by rw[k3];exact h.book,by rw[k1];exact h.now,by rw[k7];exact h.len,fun j hj=>?_⟩
 rw[k7]at hj
 rw[k1,k2,k3]
 by_cases e:j=i
 ·subst e
  refine⟨by rw[QoP h.li hi];exact(h.page j hj).1,?_⟩
  rw[QbL h.li hi,if_pos rfl,Qkr (c:=l.Config) h.li.book QT.step (Int.le_refl _) (h.li.at hi).1]
  exact(h.page j hj).2
 ·rw[QbL h.li hi,if_neg e]
  exact h.page j hj
theorem Alike.runR(h:Alike M n l x)(hi:i<l.Pages.length)(hnow:x.Now=l.Now):Alike M n l (runI x i):=by
 obtain⟨k1,k2,k3,k4,k5,k6,k7⟩:=YZ (l:=x) (i:=i)
 have hx:i<x.Pages.length:=by rw[h.len];exact hi
 refine⟨h.li,h.xi.run hx,by rw[k2];exact h.cfg,by rw[k3];exact h.book,by rw[k1];exact h.now,by rw[k7];exact h.len,fun j hj=>?_⟩
 by_cases e:j=i
 ·subst e
  refine⟨by rw[QoP h.xi hx];exact(h.page j hj).1,?_⟩
  have hq:QI QT M l.Book (nth x.Pages j):=by
   have:=(h.xi.at hx).1
   rw[h.book]at this;exact this
  rw[QbL h.xi hx,if_pos rfl,h.cfg,h.book,hnow,Qkr (c:=l.Config) h.li.book QT.step (Int.le_refl _) hq]
  exact(h.page j hj).2
 ·rw[QbL h.xi hx,if_neg e]
  exact h.page j hj
theorem Qhv{L:List D.Page}:(insP L p).length=L.length+1:=by
 have:=Qat (id:=p.ID) (l:=L)
 unfold insP;rw[List.length_append,List.length_cons,List.length_take,List.length_drop];omega
theorem Alike.open(h:Alike M n l x)(hn:n<48)(ho:OpIn o)(hk:o.Kind=1)(hnow:x.Now=l.Now):Alike M (n+1) (opV l o).1 (opV x o).1:=by
 have hw:=h.wide hn
 obtain⟨e1,e2⟩:=h.has (id:=o.Page)
 have same:∀e:Int,opV l o=(l,e)→opV x o=(x,e)→Alike M (n+1) (opV l o).1 (opV x o).1:=fun e g1 g2=>by rw[g1,g2];exact hw
 by_cases g1:hasV o.Page l.Pages=true
 ·exact same 4 (by unfold opV;rw[if_pos hk,if_pos g1]) (by unfold opV;rw[if_pos hk,e1,if_pos g1])
 by_cases g2:l.Pages.length=64
 ·exact same 5 (by unfold opV;rw[if_pos hk,if_neg g1,if_pos g2]) (by unfold opV;rw[if_pos hk,e1,if_neg g1,h.len,if_pos g2])
 by_cases g3:o.Page<1
 ·exact same 1 (by unfold opV;rw[if_pos hk,if_neg g1,if_neg g2,if_pos g3]) (by unfold opV;rw[if_pos hk,e1,if_neg g1,h.len,if_neg g2,if_pos g3])
 by_cases g4:0≤o.Policy∧o.Policy<(l.Book.Policies.length:Int)
 case neg=>exact same 3 (by unfold opV;rw[if_pos hk,if_neg g1,if_neg g2,if_neg g3,if_neg g4]) (by unfold opV;rw[if_pos hk,e1,if_neg g1,h.len,if_neg g2,if_neg g3,h.book,if_neg g4])
 have f1:opV l o=(runI { l with Pages:=insP l.Pages (newP o.Page o.Policy l.Now) } (posV o.Page l.Pages),0):=by unfold opV;rw[if_pos hk,if_neg g1,if_neg g2,if_neg g3,if_pos g4]
 have f2:opV x o=(runI { x with Pages:=insP x.Pages (newP o.Page o.Policy l.Now) } (posV o.Page l.Pages),0):=by unfold opV;rw[if_pos hk,e1,if_neg g1,h.len,if_neg g2,if_neg g3,h.book,if_pos g4,e2,hnow]
 have hlen:=h.li.len
 obtain⟨i1,i2,i3⟩:=h.li.open (o:=o) (by simpa using g1) ⟨by omega,ho.page.2⟩ g4 (by omega)
 have hx4:0≤o.Policy∧o.Policy<(x.Book.Policies.length:Int):=by rw[h.book];exact g4
 obtain⟨j1,j2,j3⟩:=h.xi.open (o:=o) (by rw[e1];simpa using g1) ⟨by omega,ho.page.2⟩ hx4 (by rw[h.len];omega)
 have eP:newP o.Page o.Policy x.Now=newP o.Page o.Policy l.Now:=by rw[hnow]
 rw[eP]at j1
 have hP:(newP o.Page o.Policy l.Now).ID=o.Page:=rfl
 have hA:Alike M n { l with Pages:=insP l.Pages (newP o.Page o.Policy l.Now) } { x with Pages:=insP x.Pages (newP o.Page o.Policy l.Now) }:=by
  refine⟨i1,j1,h.cfg,h.book,h.now,by show(insP _ _).length=(insP _ _).length;rw[Qhv,Qhv,h.len],fun i hi=>?_⟩
  replace hi:i<l.Pages.length+1:=by have:i<(insP l.Pages (newP o.Page o.Policy l.Now)).length:=hi;rw[Qhv]at this;exact this
  show(nth (insP x.Pages _) i).ID=(nth (insP l.Pages _) i).ID∧(runV l.Config l.Book (nth (insP x.Pages _) i) l.Now).1=(runV l.Config l.Book (nth (insP l.Pages _) i) l.Now).1
  have hpos:=Qat (id:=o.Page) (l:=l.Pages)
  rw[Qpx,Qpx,hP,e2]
  by_cases q1:i<posV o.Page l.Pages
  ·rw[if_pos q1,if_pos q1];exact h.page i (by omega)
  ·rw[if_neg q1,if_neg q1]
   by_cases q2:i=posV o.Page l.Pages
   ·rw[if_pos q2,if_pos q2];exact⟨rfl,rfl⟩
   ·rw[if_neg q2,if_neg q2];exact h.page (i - 1) (by omega)
 have hB:=hA.runR (i:=posV o.Page l.Pages) i2 hnow
 have hC:=hB.runL (i:=posV o.Page l.Pages) i2
 rw[f1,f2]
 exact hC.wide hn
end
end Go.Proofs.YtadlpefpehjcoaaGreat
/-
  Plain laws of operations on ledgers: an owner's starts drive all that waits.
-/
namespace Go.Proofs.YtadlpefpehjcoaaGreat
open Go AM
attribute [local irreducible] dueV stepV runV QQ answerV
section
variable {n:Nat} {c:D.Config} {b:D.Book} {p q:D.Page} {now M:Int} {l x:D.Ledger} {i:Nat} {o:D.Op}
def Qsc(p:D.Page):Int:=if p.State=2 then -1 else p.Next
theorem QqC(h:Qe M n l)(hi:i<l.Pages.length):(runI l i).Pages=l.Pages.set i (runV l.Config l.Book (nth l.Pages i) l.Now).1∧Yz (nth (runI l i).Pages i) l.Now=false:=by
 have e:(runI l i).Pages=l.Pages.set i (runV l.Config l.Book (nth l.Pages i) l.Now).1:=by rw[h.runEq hi];rfl
 refine⟨e,?_⟩
 rw[e,Xp hi]
 exact(Qcn h.book QT.step (h.at hi).1).2.2
def Qs7(l:D.Ledger)(now:Int):List Nat:=(List.range l.Pages.length).filter fun i=>Yz (nth l.Pages i) now
theorem Qs8{j:Nat}:j∈Qs7 l now↔j<l.Pages.length∧Yz (nth l.Pages j) now=true:=by
 unfold Qs7;rw[List.mem_filter,List.mem_range]
structure Driven (M:Int) (n:Nat) (l:D.Ledger) (now:Int) (k:Nat) (x:D.Ledger):Prop where
 inv:Qe M n x
 time:x.Now≤now∧(0<k→x.Now=now)
 len:x.Pages.length=l.Pages.length
 cfg:x.Config=l.Config∧x.Book=l.Book∧x.Owner=l.Owner∧x.Fence=l.Fence
 page:∀j,j<l.Pages.length→nth x.Pages j=if j∈(Qs7 l now).take k then(runV l.Config l.Book (nth l.Pages j) now).1 else nth l.Pages j
theorem Driven.done(h:Driven M n l now (Qs7 l now).length x)(hl:Qe M n l){j:Nat}(hj:j<x.Pages.length):Yz (nth x.Pages j) now=false:=by
 rw[h.len]at hj
 rw[h.page j hj,List.take_length]
 split
 ·exact(Qcn hl.book QT.step (hl.at hj).1).2.2
 ·rename_i g
  cases hw:Yz (nth l.Pages j) now with
  |false=>rfl
  |true=>exact absurd (Qs8.2 ⟨hj,hw⟩) g
theorem QpR(hs:l.Seen.contains o.ID=false)(hk:o.Kind=2):ZF l o=if o.Fence=l.Fence+1 then({ seeV l o with Owner:=o.Region,Fence:=o.Fence },0)else(seeV l o,23):=by
 rw[Qbn hs]
 unfold opV
 rw[if_neg (by omega),if_pos hk]
 rfl
def Qm2(L:List D.Page)(id:Int):Bool:=hasV id L && decide ((nth L (posV id L)).State=0)
theorem Quc{L:List D.Page}(ha:AscP L)(hi:i<L.length):Qm2 L (nth L i).ID=decide ((nth L i).State=0):=by
 unfold Qm2
 rw[Qix ha hi,Qe1 ha hi,Bool.true_and]
theorem QnH{L:List D.Page}{f:D.Page→Nat}(h:∀p∈L,f p=0):sumC L f=0:=by
 unfold sumC
 induction L with
 |nil=>rfl
 |cons y r ih=>
  rw[List.map_cons,List.sum_cons,h y (by simp),ih fun p hp=>h p (by simp[hp])]
theorem QnG{f:D.Page→Nat}:∀{L:List D.Page} (ha:AscP L) {z:D.Page} (hz:z∈L),sumC L (fun p=>if z.ID=p.ID then f p else 0)=f z
 |[],_,z,hz=>by simp at hz
 |y::r,ha,z,hz=>by
  have hh:=List.pairwise_cons.1 ha
  unfold sumC
  rw[List.map_cons,List.sum_cons]
  rcases List.mem_cons.1 hz with rfl|hz'
  ·rw[if_pos rfl]
   have:=QnH (L:=r) (f:=fun p=>if z.ID=p.ID then f p else 0) (fun p hp=>if_neg (by have:=hh.1 p hp;omega))
   unfold sumC at this
   rw[this,Nat.add_zero]
  ·have hne:=hh.1 z hz'
   have:=QnG (f:=f) hh.2 hz'
   unfold sumC at this
   rw[if_neg (by omega),this,Nat.zero_add]
theorem Qpz{L:List D.Page}(ha:AscP L):∀{cs:List D.Call},(∀c∈cs,∃p∈L,p.ID=c.Page)→(cs.filter fun c=>Qm2 L c.Page).length=sumC L fun p=>if p.State=0 then(ownC p.ID cs).length else 0
 |[],_=>by
  rw[QnH (fun p _=>by simp[ownC])];rfl
 |y::r,h=>by
  obtain⟨z,hz,e⟩:=h y (by simp)
  obtain⟨i,hi,rfl⟩:=QiG hz
  have ih:=Qpz ha (cs:=r) fun c hc=>h c (by simp[hc])
  have hsum:sumC L (fun p=>if p.State=0 then(ownC p.ID (y::r)).length else 0)=sumC L (fun p=>if (nth L i).ID=p.ID then(if p.State=0 then 1 else 0)else 0)+sumC L (fun p=>if p.State=0 then(ownC p.ID r).length else 0):=by
   refine QpL fun p hp=>?_
   unfold ownC
   rw[List.filter_cons,e]
   by_cases g1:p.State=0
   ·by_cases g2:y.Page=p.ID
    ·simp[g1,g2];omega
    ·simp[g1,g2]
   ·simp[g1]
  rw[hsum,←ih,QnG ha hz,List.filter_cons,←e,Quc ha hi]
  by_cases g:(nth L i).State=0
  ·simp[g];omega
  ·simp[g]
def QgM(L:List D.Page)(t:Int):List D.Start:=(L.filter fun p=>Yz p t).map fun p=>⟨p.ID,(dueV p).1,[]⟩
theorem Qkx{L:List D.Page}{t:Int}(hi:i<L.length):QgM (L.take (i+1)) t=QgM (L.take i) t++(if Yz (nth L i) t=true then[⟨(nth L i).ID,(dueV (nth L i)).1,[]⟩]else[]):=by
 unfold QgM
 rw[←Qu hi,List.filter_append,List.map_append]
 congr 1
 cases g:Yz (nth L i) t with
 |true=>simp[g]
 |false=>simp[g]
theorem QnO{L:List D.Page}{t:Int}:(QgM L t).length≤L.length:=by
 unfold QgM;rw[List.length_map];exact List.length_filter_le ..
theorem QoW{t:Int}(h:LW M n l)(hpg:l.Pages.length≤9):WS 1000 l t=some (QgM l.Pages t):=by
 refine Ok.eq ?_
 unfold WS
 refine Ok.j ?_
 refine Ok.run l.Pages.length (fun i=>((t,(i:Int),()),l,QgM (l.Pages.take i) t,())) rfl (by omega) (fun i hi k hk=>?_) (fun k=>?_)
 ·try dsimp only
  have hs:=Qkx (t:=t) hi
  have hlen:=QnO (L:=l.Pages.take i) (t:=t)
  rw[List.length_take]at hlen
  try dsimp only at hk
  rw[hs]at hk
  refine Ok.j (Ok.P (Ok.oe (Ui h hpg) (Ok.t ?_)))
  refine Ok.j (Ok.atn hi (Ok.oe QdJ (Ok.cnd (fun g=>Ok.ite (fun g2=>Ok.atn hi (Ok.LS ?_)) (fun g2=>?_)) (fun g=>?_))))
  ·try dsimp only
   rw[Qa (by omega)]
   rw[if_pos (by unfold Yz;rw[g,decide_eq_true g2];rfl)]at hk;exact hk
  ·try dsimp only
   rw[Qa (by omega)]
   rw[if_neg (by unfold Yz;rw[decide_eq_false g2];simp),List.append_nil]at hk;exact hk
  ·try dsimp only
   rw[Qa (by omega)]
   rw[if_neg (by unfold Yz;rw[g];simp),List.append_nil]at hk;exact hk
 ·try dsimp only
  refine Ok.j (Ok.N (Ok.s ?_))
  rw[List.take_length]
theorem Driven.none(h:Driven M n l now (Qs7 l now).length x)(hl:Qe M n l):QgM x.Pages now=[]:=by
 unfold QgM
 rw[List.map_eq_nil_iff,List.filter_eq_nil_iff]
 intro p hp
 obtain⟨j,hj,rfl⟩:=QiG hp
 rw[h.done hl hj];simp
end
end Go.Proofs.YtadlpefpehjcoaaGreat
/-
  Lists of operations as they are made: one after the other, with numbers and times that ascend; what they make of a new ledger.
-/
namespace Go.Proofs.YtadlpefpehjcoaaGreat
open Go AM
attribute [local irreducible] dueV stepV runV QQ answerV
section
variable {n:Nat} {c:D.Config} {b:D.Book} {p q:D.Page} {now M:Int} {l x:D.Ledger} {i:Nat} {o:D.Op} {L:List Int} {d:D.Dice} {ops:List D.Op}
def DecL(l:D.Ledger):Prop:=∀p∈l.Pages,PgX 1000000 p
theorem QnM{a:D.Answer}(h:YB a=true):(1≤a.ID∧a.ID≤1000000)∧0≤a.Page∧a.Page≤999999:=by
 unfold YB at h
 simp only[bae,QG]at h
 have h1:=h.1.1.1.1.1
 have h2:=h.1.1.1.1.2
 omega
theorem DecL.set(h:DecL l)(hp:PgX 1000000 p){L:List D.Page}(e:L=l.Pages.set i p):∀q∈L,PgX 1000000 q:=fun q hq=>by
 rw[e]at hq
 rcases List.mem_or_eq_of_mem_set hq with g|rfl
 ·exact h q g
 ·exact hp
theorem DecL.run(h:DecL l)(hl:Qe M n l)(hi:i<l.Pages.length):DecL (runI l i):=
 h.set ((h _ (Qh hi)).run hl.book QT.step (hl.at hi).1) (QqC hl hi).1
theorem DecL.runs(h:DecL l)(hl:Qe M n l):∀{k:Nat},k≤l.Pages.length→DecL (Zj l k)
 |0,_=>h
 |k+1,hk=>(h.runs hl (by omega)).run (hl.runs (by omega)) (by rw[(Yk (l:=l) (k:=k)).2.2.2.2.2.2];exact hk)
theorem Qtn{a:D.Answer}(hb:QL b)(h:QI QT M b p)(hd:PgX 1000000 p)(hv:YB a=true)(ha:a.Person<4):PgX 1000000 (ansP c b p a now):=by
 have hr:PgX 1000000 (runV c b p now).1:=hd.run hb QT.step h
 unfold ansP
 split
 ·rename_i g
  rcases QaM g with e|e
  ·rw[e];exact hr
  ·rw[e];exact hr.answer ha (QnM hv).1
 ·exact hr
theorem DecL.op(h:DecL l)(hl:Qe M n l)(ho:OpIn o)(hlt:l.Pages.length<64)(ha:o.Kind=4→o.Answer.Person<4):DecL (opV l o).1:=by
 have hk5:=ho.kind
 by_cases k1:o.Kind=1
 ·unfold opV
  rw[if_pos k1]
  split
  ·exact h
  ·rename_i g
   split
   ·exact h
   ·split
    ·exact h
    ·split
     ·rename_i g1 g2 g3
      obtain⟨i1,i2,i3⟩:=hl.open (o:=o) (by simpa using g) ⟨by omega,ho.page.2⟩ g3 hlt
      refine DecL.run (fun q hq=>?_) i1 i2
      rcases Qfx.1 hq with rfl|hq
      ·exact PgX.new
      ·exact h q hq
     ·exact h
 by_cases k2:o.Kind=2
 ·unfold opV
  rw[if_neg k1,if_pos k2]
  split<;>exact h
 by_cases k3:o.Kind=3
 ·unfold opV
  rw[if_neg k1,if_neg k2,if_pos k3]
  split
  ·split
   ·rename_i g
    generalize (if (nth l.Pages (posV o.Page l.Pages)).State=2 then(-1:Int)else(nth l.Pages (posV o.Page l.Pages)).Next)=kk
    split
    ·exact h.run hl (Vl g).1
    ·exact h
   ·exact h
  ·exact h
 by_cases k4:o.Kind=4
 ·obtain⟨_,_,e⟩:=Qqh hl k4
  show ∀q∈(opV l o).1.Pages,_
  rw[e]
  split
  ·rename_i g
   have hi:=(Vl g).1
   exact h.set (Qtn hl.book (hl.at hi).1 (h _ (Qh hi)) (ho.answer k4).1 (ha k4)) rfl
  ·exact h
 ·obtain⟨e,_⟩:=Qub (l:=l) (o:=o) (by omega)
  show ∀q∈(opV l o).1.Pages,_
  rw[e]
  exact h.runs hl (Nat.le_refl _)
theorem DecL.apply(h:DecL l)(hl:Qe M n l)(ho:OpIn o)(ht:max l.Now o.At≤M - 20000)(hs:l.Seen.length<256)(hlt:l.Pages.length<64)(ha:o.Kind=4→o.Answer.Person<4):DecL (ZF l o).1:=by
 cases g:l.Seen.contains o.ID with
 |true=>unfold ZF;rw[if_pos g];exact h
 |false=>rw[Qbn g];exact DecL.op (l:=seeV l o) h (hl.see ho ht g hs) ho hlt ha
def QaR(c:D.Config)(b:D.Book):D.Ledger:={ Now:=0,Config:=c,Book:=b,Pages:=[],Owner:=-1,Fence:=0,Seen:=[],Calls:=[] }
def opsV(l:D.Ledger):List D.Op→D.Ledger
 |[]=>l
 |o::r=>opsV (ZF l o).1 r
theorem QpA:∀{a:List D.Op} {l:D.Ledger} {r:List D.Op},opsV l (a++r)=opsV (opsV l a) r
 |[],_,_=>rfl
 |o::a,l,r=>by simp only[List.cons_append,opsV,QpA]
theorem Qm4:opsV l (ops++[o])=(ZF (opsV l ops) o).1:=by rw[QpA];rfl
theorem Qsh(h:i<ops.length):opsV l (ops.take (i+1))=(ZF (opsV l (ops.take i)) (nth ops i)).1:=by rw[←Qu h,Qm4]
structure Qg7 (ops:List D.Op):Prop where
 op:∀j,j<ops.length→OpIn (nth ops j)∧(nth ops j).ID=(j:Int)+1∧((nth ops j).Kind=1→1≤(nth ops j).Page∧(nth ops j).Page≤3)∧((nth ops j).Kind=4→(nth ops j).Answer.Person<4)
 at_:∀j,j<ops.length→864000≤(nth ops j).At∧(nth ops j).At≤864000+700*((j:Int)+1)
 up:∀i j,i<j→j<ops.length→(nth ops i).At≤(nth ops j).At
theorem Qg7.nil:Qg7 []:=⟨fun j hj=>by simp at hj,fun j hj=>by simp at hj,fun i j _ hj=>by simp at hj⟩
theorem QfF{α:Type}[Inhabited α]{l:List α}{x:α}{j:Nat}:nth (l++[x]) j=if j<l.length then nth l j else if j=l.length then x else default:=by
 unfold nth
 simp only[List.getD_eq_getElem?_getD,List.getElem?_append]
 by_cases h:j<l.length
 ·rw[if_pos h,if_pos h]
 ·rw[if_neg h,if_neg h]
  by_cases e:j=l.length
  ·subst e;simp
  ·rw[if_neg e]
   have:¬(j - l.length=0):=by omega
   obtain⟨m,hm⟩:∃m,j - l.length=m+1:=⟨j - l.length - 1,by omega⟩
   rw[hm];simp
theorem Qg7.snoc(h:Qg7 ops)(ho:OpIn o)(hid:o.ID=(ops.length:Int)+1)(hk:o.Kind=1→1≤o.Page∧o.Page≤3)(hk4:o.Kind=4→o.Answer.Person<4)(h1:864000≤o.At∧o.At≤864000+700*((ops.length:Int)+1))(h2:∀j,j<ops.length→(nth ops j).At≤o.At):Qg7 (ops++[o]):=by
 have hl:(ops++[o]).length=ops.length+1:=by simp
 refine⟨fun j hj=>?_,fun j hj=>?_,fun i j hij hj=>?_⟩
 ·rw[hl]at hj
  rw[QfF]
  by_cases g:j<ops.length
  ·rw[if_pos g];exact h.op j g
  ·obtain rfl:j=ops.length:=by omega
   rw[if_neg g,if_pos rfl];exact⟨ho,hid,hk,hk4⟩
 ·rw[hl]at hj
  rw[QfF]
  by_cases g:j<ops.length
  ·rw[if_pos g];exact h.at_ j g
  ·obtain rfl:j=ops.length:=by omega
   rw[if_neg g,if_pos rfl];exact h1
 ·rw[hl]at hj
  rw[QfF,QfF,if_pos (by omega)]
  by_cases g:j<ops.length
  ·rw[if_pos g];exact h.up i j hij g
  ·obtain rfl:j=ops.length:=by omega
   rw[if_neg g,if_pos rfl];exact h2 i (by omega)
structure Behind (ops:List D.Op) (k:Nat) (l:D.Ledger):Prop where
 made:Qth k l
 dec:DecL l
 seen:∀x∈l.Seen,x≤(k:Int)
 last:l.Now≤0∨∃j,j<k∧l.Now≤(nth ops j).At
theorem Behind.first(hc:Q3 2 c)(hb:QL b):Behind ops 0 (QaR c b):=
 ⟨⟨Qqg hc hb,fun p hp=>by simp[QaR]at hp,Nat.le_refl _,by simp[QaR]⟩,fun p hp=>by simp[QaR]at hp,fun x hx=>by simp[QaR]at hx,.inl (by simp[QaR])⟩
theorem Behind.fresh{k:Nat}(h:Behind ops k l)(hi:o.ID=(k:Int)+1):l.Seen.contains o.ID=false:=by
 cases hc:l.Seen.contains o.ID with
 |false=>rfl
 |true=>
  have:=h.seen _ (List.contains_iff_mem.1 hc)
  omega
theorem Behind.le{k:Nat}(h:Behind ops k l)(ho:Qg7 ops)(hk:k<ops.length):l.Now≤(nth ops k).At:=by
 have:=(ho.at_ k hk).1
 rcases h.last with h|⟨j,h1,h2⟩
 ·omega
 ·have:=ho.up j k h1 hk;omega
theorem Qth.next{k:Nat}(h:Qth k l)(hk:k≤11)(ho:OpIn o)(hp:o.Kind=1→o.Page≤3)(ht:o.At≤864000+700*((k:Int)+1)):Qth (k+1) (ZF l o).1:=by
 have hn:=h.now;have hs:=h.seen
 have hkp:=QhR (l:=l) (o:=o)
 exact⟨h.inv.apply (by omega) ho (by omega) (by omega),h.ids.apply h.inv ho (by omega) (by omega) hp,by omega,by rcases hkp.2 with e|e<;>omega⟩
theorem Behind.next{k:Nat}(h:Behind ops k l)(ho:Qg7 ops)(hk:k<ops.length)(hk9:k≤9):Behind ops (k+1) (ZF l (nth ops k)).1:=by
 obtain⟨g1,g2,g3,g4⟩:=ho.op k hk
 have hnew:=h.fresh g2
 have hat:=(ho.at_ k hk).2;have hnow:=h.made.now;have hsl:=h.made.seen
 have hp3:=h.made.inv.small3 (k:=3) h.made.ids
 refine⟨h.made.next (by omega) g1 (fun e=>(g3 e).2) hat,h.dec.apply h.made.inv g1 (by omega) (by omega) (by omega) g4,fun x hx=>?_,.inr ⟨k,by omega,?_⟩⟩
 ·rw[Qbn hnew,Qle.2]at hx
  rcases List.mem_append.1 hx with hx|hx
  ·have:=h.seen x hx;omega
  ·rw[List.mem_singleton.1 hx,g2];omega
 ·rw[QpQ hnew]
  have:=h.le ho hk
  omega
theorem Behind.fold(hc:Q3 2 c)(hb:QL b)(ho:Qg7 ops)(h9:ops.length≤9):∀{k:Nat},k≤ops.length→Behind ops k (opsV (QaR c b) (ops.take k))
 |0,_=>by rw[List.take_zero];exact Behind.first hc hb
 |k+1,hk=>by
  rw[Qsh (by omega)]
  exact(Behind.fold hc hb ho h9 (by omega)).next ho (by omega) (by omega)
theorem Qws{t u:Int}(h:∀q,q<ops.length→(nth ops q).At≤t)(ht:t≤u)(ho:o.At≤u):∀q,q<(ops++[o]).length→(nth (ops++[o]) q).At≤u:=fun q hq=>by
 rw[QfF]
 by_cases g:q<ops.length
 ·rw[if_pos g];have:=h q g;omega
 ·have:q=ops.length:=by rw[List.length_append]at hq;simp at hq;omega
  rw[if_neg g,if_pos this];exact ho
theorem Que:opsV l []=l:=rfl
attribute [local irreducible] opsV ZF opV
theorem QvP{k:Nat}(hL:L.length≤500)(h2:ZJ L d)(hc:Q3 2 c)(hb:QL b)(hk:k≤9):
  Ok (V8 1000 d (QaR c b) (k:Int)) fun r=>ZJ L r.2.2∧Qg7 r.2.1∧r.2.1.length≤k∧r.1=opsV (QaR c b) r.2.1:=by
 unfold V8 QaR
 refine Ok.loop (fun m x=>x=(((k:Int),864000,1,0,()),d,{ Now:=0,Config:=c,Book:=b,Pages:=[],Owner:=-1,Fence:=0,Seen:=[],Calls:=[] },(0,0,0,()),())) (m:=0) (by omega) rfl ?_
 rintro m x rfl K hK
 try dsimp only
 refine Ok.NS ?_
 try dsimp only
 rw[Qc (x:=(k:Int)+1) (by omega)]
 refine Ok.opt (nx hL h2 (by omega) (by omega)) fun⟨a11,d12⟩ ⟨h12,l12,u12⟩=>?_
 try dsimp only at h12 l12 u12 ⊢
 refine Ok.loop (fun m x=>∃(j:Nat) (t i:Int) (d:D.Dice) (z:Int×Int×Int×Unit) (ops:List D.Op),x=((t,(j:Int)+1,i,()),d,opsV (QaR c b) ops,z,ops,())∧ZJ L d∧Qg7 ops∧ops.length=j∧(864000≤t∧t≤864000+700*(j:Int))∧(∀q,q<ops.length→(nth ops q).At≤t)∧0≤i∧(j:Int)+i≤(k:Int)∧m=i.toNat) (m:=a11.toNat) (by omega)
  ⟨0,864000,a11,d12,(0,0,0,()),[],by rw[Que];rfl,h12,Qg7.nil,rfl,by omega,fun q hq=>by simp at hq,l12,by omega,rfl⟩ ?_
 rintro m x ⟨j,t,i,d,z,ops,rfl,i1,io,il,i3,iu,i4,i5,rfl⟩ K2 hK2
 obtain⟨z1,z2,z3,⟨⟩⟩:=z
 have hB:=Behind.fold hc hb io (by omega) (Nat.le_refl _)
 rw[List.take_length,il]at hB
 have i2:=hB.made
 obtain⟨l,hl⟩:∃l,opsV (QaR c b) ops=l:=⟨_,rfl⟩
 rw[hl]at hB i2 ⊢
 try dsimp only
 refine Ok.ite (fun hi=>?_) (fun hi=>Ok.s ⟨i1,io,by dsimp only;omega,hl.symm⟩)
 refine Ok.opt (Qbx hL i1 (by simp) (by simp)) fun⟨a23,d24⟩ ⟨h24,m24⟩=>?_
 try dsimp only at h24 m24 ⊢
 simp only[List.mem_cons,List.not_mem_nil,or_false]at m24
 try dsimp only
 rw[Qc (x:=t+a23) (by omega)]
 obtain⟨u,hu⟩:∃u,t+a23=u:=⟨_,rfl⟩
 rw[hu]
 have hnow:=i2.now;have hsl:=i2.seen
 refine Ok.opt (Qw0 hL h24 i2.inv i2.ids (by omega) (by omega)) fun⟨o,d26⟩ ⟨h26,ho,e1,e2,e3,e4⟩=>?_
 try dsimp only at h26 ho e1 e2 e3 e4 ⊢
 have hp3:=i2.inv.small3 (k:=3) i2.ids
 have happ:=Qmc i2.inv (by omega) (by omega) ho (by omega) (by omega)
 have hnx:=i2.next (o:=o) (by omega) ho (fun e=>(e3 e).2) (by omega)
 have hp3':=hnx.inv.small3 (k:=3) hnx.ids
 have hio:Qg7 (ops++[o]):=io.snoc ho (by rw[e1,il]) e3 e4 (by rw[e2,il];omega) (fun q hq=>by have:=iu q hq;omega)
 have hsn:=Qws (o:=o) (u:=u) iu (by omega) (by omega)
 have hln:(ops++[o]).length=j+1:=by simp;omega
 clear iu hB
 refine Ok.join (fun y=>y=((u,(j:Int)+2,i,()),d26,opsV (QaR c b) (ops++[o]),(z1,z2,z3,()),o,ops,())) (fun y hy=>?_) (fun J hJ=>?_)
 ·subst hy
  clear happ hnx hp3' hp3 hnow hsl i2 ho e1 e2 e3 e4
  try dsimp only
  rw[Qc (x:=i - 1) (by omega)]
  refine Ok.LS (hK2 (i - 1).toNat _ (by omega) ⟨j+1,u,i - 1,d26,(z1,z2,z3,()),ops++[o],?_,h26,hio,hln,?_,hsn,?_,?_,rfl⟩)
  ·simp only[Prod.mk.injEq,and_true,true_and]
   omega
  ·omega
  ·omega
  ·omega
 ·refine Ok.oe happ ?_
  have hf:opsV (QaR c b) (ops++[o])=(ZF l o).1:=by rw[Qm4,hl]
  obtain⟨l',e,hle⟩:∃l' e,ZF l o=(l',e):=⟨_,_,rfl⟩
  rw[hle]at hnx hp3' hf ⊢
  try dsimp only at hnx hp3' hf ⊢
  rw[show IntKind.wrap .i64 ((j:Int)+1+1)=(j:Int)+2 by rw[Qc (by omega)];omega]
  refine Ok.oe (Ui hnx.inv.w (by omega)) (Ok.t ?_)
  rw[←hf]
  exact hJ _ rfl
end
end Go.Proofs.YtadlpefpehjcoaaGreat
/-
  Ledgers behind lists of operations: what is asked of each, their errors, those of made lists.
-/
namespace Go.Proofs.YtadlpefpehjcoaaGreat
open Go AM
attribute [local irreducible] dueV stepV runV QQ answerV
section
variable {n:Nat} {c:D.Config} {b:D.Book} {p q:D.Page} {now M:Int} {l x:D.Ledger} {i:Nat} {o:D.Op} {L:List Int} {d:D.Dice} {ops:List D.Op}
def Qp5(l:D.Ledger):List D.Op→List Int
 |[]=>[]
 |o::r=>(ZF l o).2::Qp5 (ZF l o).1 r
structure Led (l:D.Ledger):Prop where
 ok:∃M n,LW M n l∧n≤48
 pg:l.Pages.length≤9
structure OkAt (l:D.Ledger) (o:D.Op):Prop where
 ok:∃M n,Qe M n l∧n<48∧max l.Now o.At≤M - 20000
 pg:l.Pages.length≤8
 dec:DecL l
 op:OpIn o
 len:l.Seen.length<256
theorem OkAt.led(h:OkAt l o):Led l:=by
 obtain⟨M,n,h1,h2,_⟩:=h.ok
 exact⟨⟨M,n,h1.w,by omega⟩,by have:=h.pg;omega⟩
theorem OkAt.ref(h:OkAt l o):Vw 1000 l o=some (ZF l o):=by
 obtain⟨M,n,h1,h2,h3⟩:=h.ok
 exact Qmc h1 h2 h.pg h.op h3 h.len
theorem Led.check(h:Led l):Vx 1000 l=some true:=by
 obtain⟨M,n,h1,h2⟩:=h.ok
 exact Ui h1 h.pg
theorem Led.checkE(h:Led l):Xt 1000 l=some true:=by
 obtain⟨M,n,h1,h2⟩:=h.ok
 exact Qk6 h1 h.pg
structure Loose (k:Nat) (l:D.Ledger):Prop where
 inv:Qe 1000000 (2+k) l
 ids:Ids 3 l
 seen:l.Seen.length≤k
 dec:DecL l
def Qti(o:D.Op):Prop:=OpIn o∧(o.Kind=1→o.Page≤3)∧o.At≤980000∧(o.Kind=4→o.Answer.Person<4)
theorem Behind.loose{k:Nat}(h:Behind ops k l):Loose k l:=⟨h.made.inv,h.made.ids,h.made.seen,h.dec⟩
theorem Loose.okAt{k:Nat}(h:Loose k l)(hk:k≤45)(ho:Qti o):OkAt l o:=by
 have hn:=h.inv.now;have hs:=h.seen;have h2:=ho.2.2.1
 have hp3:=h.inv.small3 (k:=3) h.ids
 exact⟨⟨1000000,2+k,h.inv,by omega,by omega⟩,by omega,h.dec,ho.1,by omega⟩
theorem Loose.led{k:Nat}(h:Loose k l)(hk:k≤46):Led l:=⟨⟨1000000,2+k,h.inv.w,by omega⟩,by have:=h.inv.small3 (k:=3) h.ids;omega⟩
theorem Loose.next{k:Nat}(h:Loose k l)(hk:k≤45)(ho:Qti o):Loose (k+1) (ZF l o).1:=by
 have hn:=h.inv.now;have hs:=h.seen;have h2:=ho.2.2.1
 have hp3:=h.inv.small3 (k:=3) h.ids
 exact⟨h.inv.apply (by omega) ho.1 (by omega) (by omega),h.ids.apply h.inv ho.1 (by omega) (by omega) ho.2.1,by have:=(QhR (l:=l) (o:=o)).1;omega,h.dec.apply h.inv ho.1 (by omega) (by omega) (by omega) ho.2.2.2⟩
end
end Go.Proofs.YtadlpefpehjcoaaGreat
/-
  Ledgers: what the program's operations compute.
-/
namespace Go.Proofs.YtadlpefpehjcoaaGreat
open Go AM
attribute [local irreducible] dueV stepV runV QQ answerV
section
variable {n:Nat} {c:D.Config} {b:D.Book} {p q:D.Page} {now M:Int} {l x:D.Ledger} {i:Nat} {o:D.Op} {ops:List D.Op}
theorem mapE{T:Type}[Inhabited T]{f:Nat→T→Option T}{l:List T}(hf:∀x∈l,f 1000 x=some x)(hl:l.length≤900):
  Qj (X:=((Int×(Int×Unit))×(List T×Unit))) (fun L1 ((a2,(a3,_)),(a4,_))=>(AM.cnd (decide (a3<a2)) (natc a3 fun a5=>(ltc a5 (List.length a4) (optc (GetElem?.getElem? a4 a5) fun a6=>(optc (f 1000 a6) fun a7=>(natc a3 fun a8=>(ltc a8 (List.length a4) (optc (GetElem?.getElem? a4 a8) fun a9=>(L1 ((a2,((IntKind.wrap .i64 (a3+1)),())),((List.set a4 a8 a7),())))))))))) (some a4))) 1000 (((((List.length l):Nat):Int),(0,())),(l,()))=some l:=by
 refine Ok.eq ?_
 refine Ok.run l.length (fun i=>(((((List.length l):Nat):Int),((i:Nat):Int),()),l,())) rfl (by omega) (fun i hi k hk=>?_) (fun k=>?_)
 ·try dsimp only
  refine Ok.P (Ok.natn (Ok.lt hi (Ok.get hi (Ok.oe (hf _ (Qh hi)) (Ok.natn (Ok.lt hi (Ok.get hi ?_)))))))
  rw[Qa (by omega),QsQ hi];exact hk
 ·try dsimp only
  exact Ok.N (Ok.s rfl)
theorem cl_w{l:List D.Window}(h:l.length≤900):Z5 1000 l=some l:=by unfold Z5;exact Xb (by omega)
theorem cl_i{l:List Int}(h:l.length≤900):Qx 1000 l=some l:=by unfold Qx;exact Xb (by omega)
theorem Qos{l:List D.Zone}(h:∀z∈l,z.Rules=[])(hl:l.length≤900):Zv 1000 l=some l:=by
 unfold Zv
 refine(Wq (show Xm 1000 l=some l by unfold Xm;exact Xb (by omega))).trans (mapE (f:=QdU) (fun z hz=>?_) hl)
 unfold QdU
 exact Wq (show Y2 1000 z.Rules=some z.Rules by rw[h z hz];rfl)
theorem Qk8{l:List D.Person}(h:∀z∈l,z.Quiet.length≤900)(hl:l.length≤900):Q7 1000 l=some l:=by
 unfold Q7
 refine(Wq (show YI 1000 l=some l by unfold YI;exact Xb (by omega))).trans (mapE (f:=QaX) (fun z hz=>?_) hl)
 unfold QaX
 exact Wq (cl_w (h z hz))
theorem QmT{l:List D.Layer}(h:∀z∈l,YE z)(hl:l.length≤900):Zd 1000 l=some l:=by
 unfold Zd
 refine(Wq (show Y0 1000 l=some l by unfold Y0;exact Xb (by omega))).trans (mapE (f:=Qcd) (fun z hz=>?_) hl)
 have hz':=h z hz
 unfold Qcd
 exact(Wq (cl_i (by have:=hz'.len;omega))).trans (Wq (cl_w (by rw[hz'.win];simp)))
theorem QmU{l:List D.Schedule}(h:∀z∈l,QcM n z)(hn:n≤48)(hl:l.length≤900):QU 1000 l=some l:=by
 unfold QU
 refine(Wq (show Yg 1000 l=some l by unfold Yg;exact Xb (by omega))).trans (mapE (f:=Ua) (fun z hz=>?_) hl)
 obtain⟨⟨y,hy,hy2⟩,h2,_⟩:=h z hz
 unfold Ua
 refine(Wq (QmT (l:=z.Layers) (fun w hw=>?_) (by rw[hy];simp))).trans (Wq (show Xl 1000 z.Edits=some z.Edits by unfold Xl;exact Xb (by omega)))
 rw[hy]at hw
 rw[List.mem_singleton.1 hw];exact hy2
theorem Qor{l:List D.Team}(h:∀z∈l,Ql6 z)(hl:l.length≤900):Zu 1000 l=some l:=by
 unfold Zu
 refine(Wq (show Wo 1000 l=some l by unfold Wo;exact Xb (by omega))).trans (mapE (f:=QdT) (fun z hz=>?_) hl)
 unfold QdT
 exact Wq (cl_i (by have:=(h z hz).len;omega))
theorem Qoq{m:Nat}{l:List D.PolicyStep}(h:∀z∈l,StepOK' m z)(hl:l.length≤900):Q1 1000 l=some l:=by
 unfold Q1
 refine(Wq (show Yw 1000 l=some l by unfold Yw;exact Xb (by omega))).trans (mapE (f:=QdS) (fun z hz=>?_) hl)
 unfold QdS
 exact Wq (show XA 1000 z.Targets=some z.Targets by unfold XA;exact Xb (by have:=(h z hz).len;omega))
theorem Qqb{m:Nat}{l:List D.Policy}(h:∀z∈l,Qbk m z)(hl:l.length≤900):Zn 1000 l=some l:=by
 unfold Zn
 refine(Wq (show Xz 1000 l=some l by unfold Xz;exact Xb (by omega))).trans (mapE (f:=QfH) (fun z hz=>?_) hl)
 unfold QfH
 exact Wq (Qoq (h z hz).step (by have:=(h z hz).len;omega))
theorem QpC(h:Qz p):U7 1000 p=some p:=by
 have h1:=h.st;have h2:=h.de;have h3:=h.se
 unfold U7
 refine(Wq (x:=p.Starts) ?_).trans ((Wq (cl_i (by omega))).trans (Wq (cl_i (by omega))))
 unfold ZO
 refine(Wq (Qmr (by omega))).trans (mapE (f:=QaV) (fun z hz=>?_) (by omega))
 unfold QaV
 exact Wq (cl_i (by have:=(h.pe z hz).1;omega))
theorem Qop{l:List D.Page}(h:∀z∈l,Qz z)(hl:l.length≤900):Zt 1000 l=some l:=by
 unfold Zt
 exact(Wq (show Wn 1000 l=some l by unfold Wn;exact Xb (by omega))).trans (mapE (f:=U7) (fun z hz=>QpC (h z hz)) hl)
theorem Led.copyE(h:Led l):QaW 1000 l=some l:=by
 obtain⟨M,n,h1,h2⟩:=h.ok
 have hcl:=h1.callsLe h.pg;have hse:=h1.seen.len;have hpg:=h.pg;have hb:=h1.book;have hc:=h1.cfg
 have htl:=hb.tlen;have hpl:=hb.plen
 obtain⟨hz,_⟩:=hc.zones
 unfold QaW
 rw[Qos (by rw[hz];intro z hm;rw[List.mem_singleton.1 hm]) (by rw[hz];simp),ZK,Qk8 (fun z hm=>by rcases(hc.person z hm).quiet with e|⟨_,_,e,_⟩<;>rw[e]<;>simp) (by rw[hc.plen];omega),ZK,hc.cal]
 rw[show Zm 1000 []=some []by kernel_rfl,ZK,QmU hc.sched h2 (by rw[hc.slen];omega),ZK,Qor hb.team (by omega),ZK,Qqb hb.pol (by omega),ZK,Qop h1.plens (by omega),ZK,cl_i (by omega),ZK,Qmq (by omega),ZK]
 obtain⟨l1,⟨c1,c2,c3,c4⟩,l3,l4,l5,l6,l7,l8⟩:=l
 have hcal:=hc.cal
 dsimp only at hcal ⊢
 subst hcal
 rfl
theorem QrP{i j:Nat}(h:i+j<1000000):IntKind.wrap .i64 (Int.fdiv (IntKind.wrap .u64 (IntKind.wrap .i64 ((i:Int)+(j:Int)))) (HPow.hPow 2 (min 1 (Go.IntKind.bits Go.IntKind.u64))))=(((i+j) / 2:Nat):Int):=by
 rw[Qc (x:=(i:Int)+(j:Int)) (by omega)]
 have e:IntKind.u64.wrap ((i:Int)+(j:Int))=(i:Int)+(j:Int):=by
  simp only[IntKind.wrap,IntKind.bits,IntKind.signed]
  simp
  omega
 rw[e,show((HPow.hPow 2 (min 1 (Go.IntKind.bits Go.IntKind.u64)):Nat):Int)=2 from rfl,Int.fdiv_eq_ediv_of_nonneg _ (by omega),Qc (by omega)]
 omega
theorem Qo4{id:Int}(h1:0≤p.ID∧p.ID≤999999)(h2 : -1≤id∧id≤1000000):X3 1000 p id=some (p.ID - id):=by
 unfold X3
 rw[Qc (by omega)]
theorem QwO{id:Int}{L:List D.Page}(ha:AscP L)(hl:L.length≤64)(hp:∀p∈L,0≤p.ID∧p.ID≤999999)(hid : -1≤id∧id≤1000000):
  QF 1000 L id=some ((posV id L:Int),hasV id L):=by
 have hple:=Qat (id:=id) (l:=L)
 refine Ok.eq ?_
 unfold QF
 refine Ok.loop (fun m x=>∃(i j:Nat),x=((id,((L.length:Nat):Int),(i:Int),(j:Int),()),L,())∧i≤posV id L∧posV id L≤j∧j≤L.length∧m=j - i) (m:=L.length) (by omega) ⟨0,L.length,rfl,by omega,by omega,by omega,by omega⟩ ?_
 rintro m x ⟨i,j,rfl,h1,h2,h3,rfl⟩ K hK
 try dsimp only
 refine Ok.ite (fun hij=>?_) (fun hij=>?_)
 ·refine Ok.nat (by omega) ?_
  rw[show(1:Int).toNat=1 from rfl,QrP (by omega)]
  have hh:(i+j) / 2<L.length:=by omega
  refine Ok.natn (Ok.lt hh (Ok.get hh (Ok.oe (Qo4 (hp _ (Qh hh)) hid) (Ok.ite (fun g=>?_) (fun g=>?_)))))
  ·try dsimp only
   rw[Qa (by omega)]
   refine hK _ _ (by omega) ⟨(i+j) / 2+1,j,rfl,?_,h2,h3,rfl⟩
   rcases Nat.lt_or_ge ((i+j) / 2) (posV id L)with g2|g2
   ·omega
   ·have:=QiV ha g2 hh
    omega
  ·refine hK _ _ (by omega) ⟨i,(i+j) / 2,rfl,h1,?_,by omega,rfl⟩
   rcases Nat.lt_or_ge ((i+j) / 2) (posV id L)with g2|g2
   ·have:=QiW g2
    omega
   ·exact g2
 ·have e:i=posV id L:=by omega
  subst e
  unfold hasV
  refine Ok.ite (fun g=>?_) (fun g=>?_)
  ·have hh:posV id L<L.length:=by omega
   refine Ok.natn (Ok.lt hh (Ok.get hh (Ok.oe (Qo4 (hp _ (Qh hh)) hid) (Ok.ite (fun g=>Ok.sameC (Ok.s ?_)) (fun g=>Ok.sameC (Ok.s ?_))))))
   ·rw[decide_eq_true ⟨hh,by omega⟩]
   ·rw[decide_eq_false (fun h=>g (by omega))]
  ·exact Ok.sameC (Ok.s (by rw[decide_eq_false (fun h=>g (by omega))]))
theorem Qxe{id:Int}{L:List D.Page}(ha:AscP L)(hl:L.length≤64)(hp:∀p∈L,0≤p.ID∧p.ID≤999999)(hid : -1≤id∧id≤1000000):
  QJ 1000 L id=some ((posV id L:Int),hasV id L):=by
 have hple:=Qat (id:=id) (l:=L)
 refine Ok.eq ?_
 unfold QJ
 refine Ok.loop (fun m x=>∃(i j:Nat),x=((L,id,((L.length:Nat):Int),(i:Int),(j:Int),()),())∧i≤posV id L∧posV id L≤j∧j≤L.length∧m=j - i) (m:=L.length) (by omega) ⟨0,L.length,rfl,by omega,by omega,by omega,by omega⟩ ?_
 rintro m x ⟨i,j,rfl,h1,h2,h3,rfl⟩ K hK
 try dsimp only
 refine Ok.ite (fun hij=>?_) (fun hij=>?_)
 ·refine Ok.nat (by omega) ?_
  rw[show(1:Int).toNat=1 from rfl,QrP (by omega)]
  have hh:(i+j) / 2<L.length:=by omega
  refine Ok.atn hh (Ok.oe (Qo4 (hp _ (Qh hh)) hid) (Ok.ite (fun g=>?_) (fun g=>?_)))
  ·try dsimp only
   rw[Qa (by omega)]
   refine hK _ _ (by omega) ⟨(i+j) / 2+1,j,rfl,?_,h2,h3,rfl⟩
   rcases Nat.lt_or_ge ((i+j) / 2) (posV id L)with g2|g2
   ·omega
   ·have:=QiV ha g2 hh
    omega
  ·refine hK _ _ (by omega) ⟨i,(i+j) / 2,rfl,h1,?_,by omega,rfl⟩
   rcases Nat.lt_or_ge ((i+j) / 2) (posV id L)with g2|g2
   ·have:=QiW g2
    omega
   ·exact g2
 ·have e:i=posV id L:=by omega
  subst e
  unfold hasV
  refine Ok.ite (fun g=>?_) (fun g=>?_)
  ·have hh:posV id L<L.length:=by omega
   refine Ok.atn hh (Ok.oe (Qo4 (hp _ (Qh hh)) hid) (Ok.ite (fun g=>Ok.s ?_) (fun g=>Ok.s ?_)))
   ·rw[decide_eq_true ⟨hh,by omega⟩]
   ·rw[decide_eq_false (fun h=>g (by omega))]
  ·exact Ok.s (by rw[decide_eq_false (fun h=>g (by omega))])
theorem LW.idsIn(h:LW M n l):∀p∈l.Pages,0≤p.ID∧p.ID≤999999:=fun p hp=>by
 have:=(h.page p hp).1.id;omega
theorem Qis{id:Int}(h:LW M n l)(hid : -1≤id∧id≤1000000):ZV 1000 l id=some ((posV id l.Pages:Int),hasV id l.Pages):=by
 unfold ZV
 rw[QwO h.asc h.len h.idsIn hid,ZK]
 dsimp only
 rw[Wd,Wd,Wd]
theorem Qtf{id:Int}(h:LW M n l)(hid : -1≤id∧id≤1000000):Qby 1000 l id=some (US l id):=by
 refine Ok.eq ?_
 unfold Qby Qgt US
 rw[Qxe h.asc h.len h.idsIn hid]
 by_cases g:hasV id l.Pages=true
 ·rw[if_pos g]
  have:=(Vl g).1
  exact Ok.os (Ok.nt g (Ok.atn this (Ok.oe (QpC (h.plens _ (Qh this))) (Ok.s rfl))))
 ·rw[if_neg g]
  exact Ok.os (Ok.nf (by simpa using g) (Ok.s rfl))
theorem Qt8:QdQ 1000 p=some (Qsc p):=by
 unfold QdQ Qsc
 (try unfold cd);rw[QuK];split<;>rfl
theorem QtB{k:Nat}(hi:i<l.Pages.length)(hp:Qz (nth l.Pages i))(hk:k≤(nth l.Pages i).Starts.length)(hcl:l.Calls.length≤20000):
  QZ 1000 ⟨l⟩ (i:Int) (k:Int)=some ⟨{ l with Calls:=l.Calls++QA (nth l.Pages i).ID l.Fence ((nth l.Pages i).Starts.drop k) }⟩:=by
 obtain⟨P,hP⟩:∃P,nth l.Pages i=P:=⟨_,rfl⟩
 have hst:=hp.st
 refine Ok.eq ?_
 unfold QZ
 refine Ok.natn (Ok.lt hi (Ok.get hi (Ok.natn (Ok.lec hk ?_))))
 rw[hP]at hp hk hst ⊢
 refine Ok.run (P.Starts.length - k) (fun j=>(((P.Starts.drop k),(((P.Starts.drop k).length:Nat):Int),(j:Int),()),(l.Now,l.Config.Zones,l.Config.People,l.Config.Calendars,l.Config.Schedules,l.Book.Teams,l.Book.Policies,l.Owner,l.Fence,()),P,l.Pages,l.Seen,l.Calls++QA P.ID l.Fence ((P.Starts.drop k).take j),())) (by rw[List.take_zero];simp[QA]) (by omega) (fun j hj kk hkk=>?_) (fun kk=>?_)
 ·try dsimp only
  have hdl:j<(P.Starts.drop k).length:=by simp;omega
  refine Ok.P (Ok.atn hdl ?_)
  have hpe:=(hp.pe _ (List.mem_of_mem_drop (Qh hdl))).1
  have hts:(P.Starts.drop k).take (j+1)=(P.Starts.drop k).take j++[nth (P.Starts.drop k) j]:=(Qu hdl).symm
  have hol:(QA P.ID l.Fence ((P.Starts.drop k).take j)).length≤40*((P.Starts.drop k).take j).length:=Qaf (m:=40) fun s hs=>(hp.pe s (List.mem_of_mem_drop (List.mem_of_mem_take hs))).1
  rw[List.length_take,List.length_drop]at hol
  obtain⟨s,hs⟩:∃s,nth (P.Starts.drop k) j=s:=⟨_,rfl⟩
  rw[hs]at hpe hts ⊢
  refine Ok.run s.People.length (fun z=>(((P.Starts.drop k),(((P.Starts.drop k).length:Nat):Int),(j:Int),s.People,((s.People.length:Nat):Int),(z:Int),()),(l.Now,l.Config.Zones,l.Config.People,l.Config.Calendars,l.Config.Schedules,l.Book.Teams,l.Book.Policies,l.Owner,l.Fence,()),P,s,l.Pages,l.Seen,(l.Calls++QA P.ID l.Fence ((P.Starts.drop k).take j))++(s.People.take z).map (fun x=>D.Call.mk P.ID s.K s.At x l.Fence),())) (by rw[List.take_zero,List.map_nil,List.append_nil];rfl) (by omega) (fun z hz k2 hk2=>?_) (fun k2=>?_)
  ·try dsimp only
   refine Ok.P (Ok.atn hz (Ok.lec ?_ ?_))
   ·simp only[List.length_append,List.length_map,List.length_take,List.length_cons,List.length_nil];omega
   ·try dsimp only
    rw[Qa (by omega)]
    try dsimp only at hk2
    rw[←Qu hz,List.map_append,←List.append_assoc]at hk2
    exact hk2
  ·try dsimp only
   refine Ok.N ?_
   try dsimp only
   rw[Qa (by omega),List.take_length]
   try dsimp only at hkk
   rw[hts,QcS,←List.append_assoc]at hkk
   exact hkk
 ·try dsimp only
  refine Ok.NS (Ok.s ?_)
  rw[List.take_of_length_le (by simp)]
theorem Qsu{A:D.Page}(hi:i<l.Pages.length)(hA:Qz A)(hx:Ext (nth l.Pages i) A)(hcl:l.Calls.length≤20000):
  QZ 1000 ⟨⟨l.Now,l.Config,l.Book,l.Pages.set i A,l.Owner,l.Fence,l.Seen,l.Calls⟩⟩ (i:Int) (((nth l.Pages i).Starts.length:Nat):Int)=some ⟨putV l i A⟩:=by
 obtain⟨m,hm⟩:=hx
 have hset:nth (l.Pages.set i A) i=A:=Xp hi
 have hc:=QtB (l:={ l with Pages:=l.Pages.set i A }) (i:=i) (k:=(nth l.Pages i).Starts.length) (by show i<(l.Pages.set i A).length;rw[List.length_set];exact hi) (by show Qz (nth (l.Pages.set i A) i);rw[hset];exact hA)
  (by show _≤(nth (l.Pages.set i A) i).Starts.length;rw[hset,hm];simp) hcl
 refine hc.trans ?_
 show some (D.worker.mk { l with Pages:=l.Pages.set i A,Calls:=l.Calls++QA (nth (l.Pages.set i A) i).ID l.Fence ((nth (l.Pages.set i A) i).Starts.drop (nth l.Pages i).Starts.length) })=_
 rw[hset];rfl
theorem QlL(h:LW M n l)(hpg:l.Pages.length≤9)(hi:i<l.Pages.length):QE 1000 ⟨l⟩ (i:Int)=some ⟨runI l i⟩:=by
 have hcl:=h.callsLe hpg
 have hat:=h.at hi
 have hpl:=hat.1.plen h.book
 refine Ok.eq ?_
 unfold QE
 refine Ok.natn (Ok.lt hi (Ok.get hi (Ok.oe (Qw3 h.cfg h.small h.book hpl) ?_)))
 have hext:=QlO (c:=l.Config) (now:=l.Now) h.book hat.1
 have hR:=hpl.runV (c:=l.Config) (now:=l.Now) h.book
 have hid:=(Qdw (c:=l.Config) (now:=l.Now) h.book QT.step hat.1).id
 have herr:=(Qcn (c:=l.Config) (now:=l.Now) h.book QT.step hat.1).2.1
 rw[h.runEq hi]
 obtain⟨R,e,hRe⟩:∃R e,runV l.Config l.Book (nth l.Pages i) l.Now=(R,e):=⟨_,_,rfl⟩
 rw[hRe]at hext hR hid herr ⊢
 try dsimp only at hext hR hid herr ⊢
 subst herr
 refine Ok.NS (Ok.natn (Ok.lt hi (Ok.get hi (Ok.natn (Ok.lt hi (Ok.get hi ?_))))))
 exact Ok.oe (Qsu hi hR hext (by omega)) (Ok.s rfl)
theorem Quo(h:Qe M n l)(hpg:l.Pages.length≤9):∀{k:Nat},k<l.Pages.length→QE 1000 ⟨Zj l k⟩ (k:Int)=some ⟨Zj l (k+1)⟩:=fun{k} hk=>by
 have hr:=h.runs (k:=k) (by omega)
 have hl:=(Yk (l:=l) (k:=k)).2.2.2.2.2.2
 exact QlL hr.w (by rw[hl];exact hpg) (by rw[hl];exact hk)
theorem Qv9(hf:0≤l.Fence∧l.Fence≤1048576)(hk:o.Kind=2):Z1 1000 ⟨l⟩ o=some ((opV l o).2,⟨(opV l o).1⟩):=by
 refine Ok.eq ?_
 unfold Z1 opV
 rw[if_neg (by omega),if_pos hk,Qc (by dsimp only;omega)]
 refine Ok.ite (fun g=>Ok.s ?_) (fun g=>Ok.s ?_)
 ·rw[if_neg (fun e=>g e)]
 ·rw[if_pos (by simpa using g)]
theorem QsV(h:LW M n l)(hpg:l.Pages.length≤9)(ho:OpIn o)(hk:o.Kind=3):ZH 1000 ⟨l⟩ o=some ((opV l o).2,⟨(opV l o).1⟩):=by
 have hop:=ho.page
 refine Ok.eq ?_
 unfold ZH opV
 rw[if_neg (by omega),if_neg (by omega),if_pos hk]
 refine Ok.join (fun y=>y=((),(l.Now,l.Config.Zones,l.Config.People,l.Config.Calendars,l.Config.Schedules,l.Book.Teams,l.Book.Policies,l.Owner,l.Fence,()),o,l.Pages,l.Seen,l.Calls,())∧o.Region=l.Owner∧o.Fence=l.Fence) (fun y hy=>?_) (fun J hJ=>Ok.ite (fun g=>Ok.s ?_) (fun g=>Ok.ite (fun g2=>Ok.s ?_) (fun g2=>hJ _ ⟨rfl,by simpa using g,by simpa using g2⟩)))
 ·obtain⟨rfl,g1,g2⟩:=hy
  try dsimp only
  rw[if_pos ⟨g1,g2⟩]
  refine Ok.oe (Qis (l:=l) h (by omega)) (Ok.ncnd (fun hh=>Ok.s ?_) (fun hh=>?_))
  ·rw[if_neg (by rw[show hasV _ l.Pages=false from hh];simp)]
  ·rw[if_pos hh]
   have hi:=(Vl hh).1
   refine Ok.natn (Ok.lt hi (Ok.get hi ?_))
   have hrun:=QlL h hpg hi
   obtain⟨pg,hpg2⟩:∃pg,nth l.Pages (posV o.Page l.Pages)=pg:=⟨_,rfl⟩
   rw[hpg2]
   have hw:Yz pg l.Now=((dueV pg).2 && decide ((dueV pg).1≤l.Now)):=rfl
   have hkk:(if pg.State=2 then(-1:Int)else pg.Next)=Qsc pg:=rfl
   rw[hkk]
   refine Ok.join (fun y=>y=((((posV o.Page l.Pages:Nat):Int),()),(l.Now,l.Config.Zones,l.Config.People,l.Config.Calendars,l.Config.Schedules,l.Book.Teams,l.Book.Policies,l.Owner,l.Fence,()),l.Pages,l.Seen,l.Calls,())∧Yz pg l.Now=true∧o.K=Qsc pg) (fun y hy=>?_) (fun J hJ=>?_)
   ·obtain⟨rfl,g3,g4⟩:=hy
    try dsimp only
    rw[if_pos ⟨g3,g4⟩]
    exact Ok.oe hrun (Ok.s rfl)
   ·refine Ok.oe Qj7 (Ok.cnd (fun g3=>Ok.ite (fun g4=>Ok.s ?_) (fun g4=>Ok.oe Qt8 (Ok.ite (fun g5=>Ok.s ?_) (fun g5=>hJ _ ⟨rfl,?_,?_⟩)))) (fun g3=>Ok.s ?_))
    ·rw[if_neg (fun hx=>by rw[hw,g3]at hx;have:=of_decide_eq_true (show decide ((dueV pg).1≤l.Now)=true by simpa using hx.1);omega)]
    ·rw[if_neg (fun hx=>g5 hx.2.symm)]
    ·rw[hw,g3];simp;omega
    ·exact(show Qsc pg=o.K by simpa using g5).symm
    ·rw[if_neg (fun hx=>by rw[hw,g3]at hx;simp at hx)]
 ·rw[if_neg (fun hx=>g hx.1)]
 ·rw[if_neg (fun hx=>g2 hx.2)]
theorem QsJ(h:Qe M n l)(hpg:l.Pages.length≤9)(hd:DecL l)(hk:o.Kind=4)(ha:YB o.Answer=true):ZA 1000 ⟨l⟩ o=some ((opV l o).2,⟨(opV l o).1⟩):=by
 have hcl:=h.callsLe hpg
 have hap:=(QnM ha).2
 refine Ok.eq ?_
 unfold ZA opV
 rw[if_neg (by omega),if_neg (by omega),if_neg (by omega),if_pos hk]
 refine Ok.oe (Qis (l:=l) h.w (by omega)) (Ok.ncnd (fun hh=>Ok.s ?_) (fun hh=>?_))
 ·rw[if_neg (by rw[show hasV _ l.Pages=false from hh];simp)]
 ·rw[if_pos hh]
  have hi:=Vl hh
  refine Ok.oe (QlL h.w hpg hi.1) ?_
  have h2:=h.run hi.1
  have hkp:=YZ (l:=l) (i:=posV o.Answer.Page l.Pages)
  obtain⟨i,hie⟩:∃i,posV o.Answer.Page l.Pages=i:=⟨_,rfl⟩
  rw[hie]at hi h2 hkp ⊢
  have hi2:i<(runI l i).Pages.length:=by omega
  have hcl2:=h2.callsLe (by omega)
  refine Ok.natn (Ok.lt hi2 (Ok.get hi2 ?_))
  have hpl2:=h2.plens _ (Qh hi2)
  have hde:(nth (runI l i).Pages i).Declined.length≤11:=by
   have:=((hd.run h hi.1) _ (Qh (hie ▸ hi2))).dlen (h2.at hi2).1.declined
   omega
  obtain⟨a,hae⟩:∃a:D.Answer,a=D.Answer.mk o.Answer.ID o.Answer.Page o.Answer.Person o.Answer.Kind o.Answer.Arg (runI l i).Now:=⟨_,rfl⟩
  have hae2:D.Answer.mk o.Answer.ID o.Answer.Page o.Answer.Person o.Answer.Kind o.Answer.Arg l.Now=a:=by rw[hae,hkp.1]
  rw[←hae]
  refine Ok.oe (QqZ h2.book hpl2 hde) ?_
  have hz:=QaM (b:=(runI l i).Book) (p:=nth (runI l i).Pages i) (a:=a)
  have hAl:=hpl2.answerV (a:=a) h2.book
  show Ok _ (·=((if (answerV l.Book (nth (runI l i).Pages i) (D.Answer.mk o.Answer.ID o.Answer.Page o.Answer.Person o.Answer.Kind o.Answer.Arg l.Now)).2=0 then(putV (runI l i) i (answerV l.Book (nth (runI l i).Pages i) (D.Answer.mk o.Answer.ID o.Answer.Page o.Answer.Person o.Answer.Kind o.Answer.Arg l.Now)).1,(0:Int))else(runI l i,(answerV l.Book (nth (runI l i).Pages i) (D.Answer.mk o.Answer.ID o.Answer.Page o.Answer.Person o.Answer.Kind o.Answer.Arg l.Now)).2)).2,(D.worker.mk (if (answerV l.Book (nth (runI l i).Pages i) (D.Answer.mk o.Answer.ID o.Answer.Page o.Answer.Person o.Answer.Kind o.Answer.Arg l.Now)).2=0 then(putV (runI l i) i (answerV l.Book (nth (runI l i).Pages i) (D.Answer.mk o.Answer.ID o.Answer.Page o.Answer.Person o.Answer.Kind o.Answer.Arg l.Now)).1,(0:Int))else(runI l i,(answerV l.Book (nth (runI l i).Pages i) (D.Answer.mk o.Answer.ID o.Answer.Page o.Answer.Person o.Answer.Kind o.Answer.Arg l.Now)).2)).1)))
  rw[hae2,←hkp.2.2.1]
  obtain⟨A,e,hA⟩:∃A e,answerV (runI l i).Book (nth (runI l i).Pages i) a=(A,e):=⟨_,_,rfl⟩
  rw[hA]at hz hAl ⊢
  try dsimp only at hz hAl ⊢
  by_cases he:e=0
  ·rw[if_pos he]
   have hq:=hz he
   have hext:Ext (nth (runI l i).Pages i) A:=by
    rcases hq with rfl|rfl
    ·exact Ext.refl _
    ·exact QeA
   refine Ok.n (fun g=>g he) (Ok.natn (Ok.lt hi2 (Ok.get hi2 (Ok.natn (Ok.lt hi2 (Ok.get hi2 ?_))))))
   exact Ok.oe (Qsu hi2 hAl hext (by omega)) (Ok.s rfl)
  ·rw[if_neg he]
   exact Ok.p he (Ok.s rfl)
end
end Go.Proofs.YtadlpefpehjcoaaGreat
/-
  Ledgers: what the program's operations, lists of operations and what waits compute.
-/
namespace Go.Proofs.YtadlpefpehjcoaaGreat
open Go AM
attribute [local irreducible] dueV stepV runV QQ answerV
section
variable {n:Nat} {c:D.Config} {b:D.Book} {p q:D.Page} {now M:Int} {l x:D.Ledger} {i:Nat} {o:D.Op} {ops:List D.Op}
theorem QtI{x:D.Edit}{s:Int}(h:Q3 n c)(hn:n<48)(hx:Qac x):WZ 1000 c s x=some (if 0≤s∧s<2 then(Qik c s x,0)else(cfg0,3)):=by
 have hsl:=h.slen
 have hpl:=h.plen
 obtain⟨off,hz,_⟩:=h.zone
 have hab:∃a b,c.Schedules=[a,b]:=by
  rcases hcs:c.Schedules with _|⟨a,_|⟨b,_|⟨d,r⟩⟩⟩
  ·rw[hcs]at hsl;simp at hsl
  ·rw[hcs]at hsl;simp at hsl
  ·exact⟨a,b,rfl⟩
  ·rw[hcs]at hsl;simp at hsl
 obtain⟨a,b,hab⟩:=hab
 have hpp:∃p1 p2 p3 p4,c.People=[p1,p2,p3,p4]:=by
  rcases hcs:c.People with _|⟨a,_|⟨b,_|⟨d,_|⟨e,_|⟨f,r⟩⟩⟩⟩⟩<;>rw[hcs]at hpl<;>simp at hpl
  exact⟨a,b,d,e,rfl⟩
 obtain⟨p1,p2,p3,p4,hpp⟩:=hpp
 have ha:=h.sched a (by rw[hab];simp)
 have hb:=h.sched b (by rw[hab];simp)
 obtain⟨la,hla,hla2⟩:=ha.layers
 obtain⟨lb,hlb,hlb2⟩:=hb.layers
 have hla3:=ha.len;have hlb3:=hb.len;have hla4:=hla2.len;have hlb4:=hlb2.len
 have hin:QjW 1000 ⟨bZ,off,[]⟩ [p1,p2,p3,p4] la lb a.Edits b.Edits:=by
  refine⟨by simp,fun p hp=>?_,by omega,by rw[hla2.win];simp,by omega,by rw[hlb2.win];simp,by omega,by omega⟩
  rcases(h.person p (by rw[hpp];exact hp)).quiet with g|⟨_,_,g,_⟩<;>rw[g]<;>simp
 refine Ok.eq ?_
 unfold WZ
 rw[hz,hpp,h.cal,hab]
 dsimp only
 rw[hla,hlb]
 dsimp only
 rw[if_pos hin]
 refine Ok.oe (Qhp h (by omega)) (Ok.NS (Ok.ite (fun hs=>?_) (fun g=>Ok.s ?_)))
 ·have hadd:addE c a b s x=Qik c s x:=by
   unfold addE Qik
   rw[hab]
   rcases(show s=0∨s=1 by omega)with rfl|rfl
   ·rfl
   ·rfl
  rw[if_pos hs,hadd]
  exact Ok.oe (Qhp (QkT h hx hs) (by omega)) (Ok.NS (Ok.s rfl))
 ·rw[if_neg g]
theorem QwQ{P:D.Page}{L:List D.Page}(hl:L.length≤64):QB 1000 L (posV P.ID L:Int) [P]=some (insP L P):=by
 have hp:=Qat (id:=P.ID) (l:=L)
 refine Ok.eq ?_
 unfold QB insP
 by_cases g:posV P.ID L=L.length
 ·rw[if_pos (by omega)]
  unfold Xd
  refine Ok.natn (Ok.lec hp (Ok.NS (Ok.P (Ok.LS (Ok.s ?_)))))
  rw[g,List.take_length,List.drop_length]
 ·rw[if_neg (by omega)]
  exact Ok.natn (Ok.E (Ok.L (Ok.s rfl)))
theorem Qud(h:Qe M n l)(hpg:l.Pages.length≤8)(ho:OpIn o)(hk:o.Kind=1):ZQ 1000 ⟨l⟩ o=some ((opV l o).2,⟨(opV l o).1⟩):=by
 have hnow:=h.now;have htop:=h.top;have hpl:=h.book.plen;have hop:=ho.page
 refine Ok.eq ?_
 unfold ZQ opV
 rw[if_pos hk]
 refine Ok.oe (Qis (l:=l) h.w (by omega)) (Ok.cnd (fun g=>Ok.s ?_) (fun g=>?_))
 ·rw[if_pos g]
 replace g:hasV o.Page l.Pages=false:=g
 rw[if_neg (by rw[g];simp)]
 refine Ok.n (by dsimp only;omega) ?_
 rw[if_neg (by omega)]
 refine Ok.oe (Qv2 h.book) ?_
 unfold newV
 by_cases g1:o.Page<1
 ·rw[if_pos g1,if_neg (fun hh=>by have:=QG.1 hh.1;omega)]
  exact Ok.PS (Ok.s rfl)
 rw[if_neg g1,if_pos ⟨QG.2 (by omega),QG.2 (by dsimp only;omega)⟩]
 by_cases g2:0≤o.Policy∧o.Policy<(l.Book.Policies.length:Int)
 ·rw[if_pos g2,if_pos (QG.2 (by dsimp only;omega))]
  try dsimp only
  refine Ok.NS ?_
  obtain⟨hi1,hi2,hi3⟩:=h.open (o:=o) g (by omega) g2 (by omega)
  have hP:(newP o.Page o.Policy l.Now).ID=o.Page:=rfl
  have hins:=QwQ (P:=newP o.Page o.Policy l.Now) (L:=l.Pages) h.len
  rw[hP]at hins
  refine Ok.oe hins ?_
  exact Ok.oe (QlL hi1.w (by show(insP l.Pages _).length≤9;rw[Qhv];omega) hi2) (Ok.s rfl)
 ·rw[if_neg g2,if_neg (fun hh=>g2 (by have:=QG.1 hh;dsimp only at this;omega))]
  exact Ok.PS (Ok.s rfl)
theorem QrE(h:Qe M n l)(hn:n<48)(hpg:l.Pages.length≤9)(ho:OpIn o)(hk:o.Kind=5):ZP 1000 ⟨l⟩ o=some ((opV l o).2,⟨(opV l o).1⟩):=by
 refine Ok.eq ?_
 unfold ZP opV
 rw[if_neg (by omega),if_neg (by omega),if_neg (by omega),if_neg (by omega)]
 refine Ok.run l.Pages.length (fun i=>((((l.Pages.length:Nat):Int),(i:Int),()),((Zj l i).Now,(Zj l i).Config.Zones,(Zj l i).Config.People,(Zj l i).Config.Calendars,(Zj l i).Config.Schedules,(Zj l i).Book.Teams,(Zj l i).Book.Policies,(Zj l i).Owner,(Zj l i).Fence,()),o,(Zj l i).Pages,(Zj l i).Seen,(Zj l i).Calls,())) rfl (by omega) (fun i hi k hk=>?_) (fun k=>?_)
 ·try dsimp only
  refine Ok.P (Ok.oe (Quo h hpg hi) ?_)
  try dsimp only
  rw[Qa (by omega)]
  exact hk
 ·try dsimp only
  have hki:=Yk (l:=l) (k:=l.Pages.length)
  obtain⟨L,hL⟩:∃L,Zj l l.Pages.length=L:=⟨_,rfl⟩
  rw[hL]at hki ⊢
  have hed:=QtI (c:=L.Config) (s:=o.Schedule) (by rw[hki.2.1];exact h.cfg) hn (ho.edit hk)
  refine Ok.N (Ok.oe hed ?_)
  by_cases hs:0≤o.Schedule∧o.Schedule<2
  ·rw[if_pos hs,if_pos hs,←hki.2.1]
   exact Ok.j (Ok.p rfl (Ok.s rfl))
  ·rw[if_neg hs,if_neg hs]
   exact Ok.j (Ok.NS (Ok.s rfl))
theorem OpIn.validE(ho:OpIn o):Qb8 1000 o=some true:=by
 refine Ok.eq ?_
 unfold Qb8
 refine Ok.oe oin (Ok.bt (QG.2 ho.id) (Ok.oe oin (Ok.bt (QG.2 ho.kind) (Ok.oe oin (Ok.bt (QG.2 ho.region) (Ok.oe oin (Ok.bt (QG.2 ho.fence) (Ok.oe oin (Ok.bt (QG.2 ho.at_) (Ok.oe oin (Ok.bt (QG.2 ho.page) (Ok.oe oin (Ok.bt (QG.2 ho.k) ?_)))))))))))))
 exact Ok.ite (fun g=>Ok.s rfl) (fun g=>Ok.oe QpN (Ok.bt (ho.answer (by omega)).1 (Ok.s rfl)))
theorem OkAt.apply(h:OkAt l o):Qca 1000 l o=some ((ZF l o).1,(ZF l o).2,true):=by
 obtain⟨M,n,h1,h2,h3⟩:=h.ok
 have hpg:=h.pg;have hsl:=h.len;have ho:=h.op;have hfe:=h1.fence
 refine Ok.eq ?_
 unfold Qca
 refine Ok.j (Ok.oe h.led.checkE (Ok.t (Ok.oe ho.validE (Ok.t ?_))))
 try dsimp only
 refine Ok.oe h.led.copyE (Ok.oe (QaN (by omega)) (Ok.cnd (fun g=>Ok.s ?_) (fun g=>?_)))
 ·unfold ZF;rw[if_pos g]
 rw[Qbn g]
 have hsee:=h1.see ho h3 g hsl
 have hsp:(seeV l o).Pages.length≤8:=hpg
 have hsf:0≤(seeV l o).Fence∧(seeV l o).Fence≤1048576:=by show 0≤l.Fence∧l.Fence≤1048576;omega
 have hsd:DecL (seeV l o):=h.dec
 have hkd:=ho.kind
 have key:∀r:Int×D.worker,r=((opV (seeV l o) o).2,⟨(opV (seeV l o) o).1⟩)→Ok (some (D.Ledger.mk r.2.Ledger.Now (D.Config.mk r.2.Ledger.Config.Zones r.2.Ledger.Config.People r.2.Ledger.Config.Calendars r.2.Ledger.Config.Schedules) (D.Book.mk r.2.Ledger.Book.Teams r.2.Ledger.Book.Policies) r.2.Ledger.Pages r.2.Ledger.Owner r.2.Ledger.Fence r.2.Ledger.Seen r.2.Ledger.Calls,r.1,true)) (·=((opV (seeV l o) o).1,(opV (seeV l o) o).2,true)):=fun r e=>by
  subst e
  obtain⟨L,e,hLe⟩:∃L e,opV (seeV l o) o=(L,e):=⟨_,_,rfl⟩
  rw[hLe]
  exact Ok.s rfl
 refine Ok.N (Ok.LS (Ok.j ?_))
 refine Ok.ite (fun k1=>?_) (fun k1=>Ok.ite (fun k2=>?_) (fun k2=>Ok.ite (fun k3=>?_) (fun k3=>Ok.ite (fun k4=>?_) (fun k4=>?_))))
 ·exact Ok.oe (Qud (l:=seeV l o) hsee hsp ho k1) (key _ rfl)
 ·exact Ok.oe (Qv9 (l:=seeV l o) hsf k2) (key _ rfl)
 ·exact Ok.oe (QsV (l:=seeV l o) hsee.w (by omega) ho k3) (key _ rfl)
 ·exact Ok.oe (QsJ (l:=seeV l o) hsee (by omega) hsd k4 (ho.answer k4).1) (key _ rfl)
 ·exact Ok.oe (QrE (l:=seeV l o) hsee h2 (by omega) ho (by omega)) (key _ rfl)
theorem OkAt.prog(h:OkAt l o):Qb7 1000 l o=some (ZF l o):=by
 refine Ok.eq ?_
 unfold Qb7
 exact Ok.oe h.apply (Ok.nt rfl (Ok.s rfl))
theorem Led.waiting{t:Int}(h:Led l):Qb9 1000 l t=some (QgM l.Pages t):=by
 have hpg:=h.pg
 refine Ok.eq ?_
 unfold Qb9
 refine Ok.oe h.checkE (Ok.nt rfl ?_)
 refine Ok.run l.Pages.length (fun i=>((t,l.Pages,((l.Pages.length:Nat):Int),(i:Int),()),QgM (l.Pages.take i) t,())) rfl (by omega) (fun i hi k hk=>?_) (fun k=>?_)
 ·try dsimp only
  have hs:=Qkx (t:=t) hi
  have hlen:=QnO (L:=l.Pages.take i) (t:=t)
  rw[List.length_take]at hlen
  try dsimp only at hk
  rw[hs]at hk
  refine Ok.P (Ok.j (Ok.atn hi (Ok.oe Qj7 (Ok.cnd (fun g=>Ok.ite (fun g2=>Ok.LS ?_) (fun g2=>?_)) (fun g=>?_)))))
  ·try dsimp only
   rw[Qa (by omega)]
   rw[if_pos (by unfold Yz;rw[g,decide_eq_true g2];rfl)]at hk;exact hk
  ·try dsimp only
   rw[Qa (by omega)]
   rw[if_neg (by unfold Yz;rw[decide_eq_false g2];simp),List.append_nil]at hk;exact hk
  ·try dsimp only
   rw[Qa (by omega)]
   rw[if_neg (by unfold Yz;rw[g];simp),List.append_nil]at hk;exact hk
 ·try dsimp only
  refine Ok.N (Ok.s ?_)
  rw[List.take_length]
end
end Go.Proofs.YtadlpefpehjcoaaGreat
/-
  Pages and calls that are equal are the same to the reference.
-/
namespace Go.Proofs.YtadlpefpehjcoaaGreat
open Go AM
attribute [local irreducible] dueV stepV runV QQ answerV
section
variable {n:Nat} {c:D.Config} {b:D.Book} {l:D.Ledger}
end
end Go.Proofs.YtadlpefpehjcoaaGreat
/-
  Made ledgers: what the laws about operations and owners begin with.
-/
namespace Go.Proofs.YtadlpefpehjcoaaGreat
open Go AM
attribute [local irreducible] dueV stepV runV QQ answerV opV ZF opsV Qp5
section
variable {n:Nat} {c:D.Config} {b:D.Book} {M:Int} {l x:D.Ledger} {o:D.Op} {ops:List D.Op} {L:List Int} {d:D.Dice}
theorem QwU{k:Nat}(hL:L.length≤500)(hd:ZJ L d)(hk:k≤9):
  Ok (WM 1000 d (k:Int)) fun r=>ZJ L r.2.2∧∃ops m,m≤k∧Behind ops m r.1:=by
 unfold WM
 refine Ok.opt (QvB hL hd (by omega)) fun⟨c,d1⟩ ⟨h1,hc⟩=>?_
 try dsimp only at h1 hc ⊢
 refine Ok.opt (Qvw hL h1 (by omega)) fun⟨b,d2⟩ ⟨h2,hb⟩=>?_
 try dsimp only at h2 hb ⊢
 refine Ok.oe (Qv3 hc (by omega) hb) ?_
 try dsimp only
 refine Ok.opt (QvP hL h2 hc hb hk) fun⟨l,ops,d⟩ ⟨g1,g2,g3,g4⟩=>Ok.s ⟨g1,ops,ops.length,g3,?_⟩
 dsimp only at g2 g3 g4 ⊢
 have:=Behind.fold hc hb g2 (by omega) (Nat.le_refl _)
 rw[List.take_length]at this
 rw[g4];exact this
end
end Go.Proofs.YtadlpefpehjcoaaGreat
/-
  Owners of ledgers, in plain Lean: takeovers, what an owner proposes, its calls, fences.
-/
namespace Go.Proofs.YtadlpefpehjcoaaGreat
open Go AM
attribute [local irreducible] dueV stepV runV QQ answerV opV ZF opsV Qp5
section
variable {n:Nat} {M:Int} {l x:D.Ledger} {o:D.Op} {i k:Nat} {t r id now:Int} {L:List Int}
theorem Goes.calls{Q:D.Start→Prop}{st k t h:Int}{l:List D.Start}(g:Goes Q st l k t h):∀s∈l,-1≤s.K∧st≤s.At∧s.At≤t∧∀x∈s.People,0≤x∧x≤31:=by
 induction g with
 |nil=>simp
 |step g h1 _ h3 _ ih=>
  intro s hs
  have hp:=g.pos
  rcases List.mem_append.1 hs with hs|hs
  ·have:=ih s hs;exact⟨this.1,this.2.1,by omega,this.2.2.2⟩
  ·rw[List.mem_singleton.1 hs]
   exact⟨by dsimp only;omega,by dsimp only;omega,Int.le_refl _,fun x hx=>by have:=(VE.1 h3).2 x hx;omega⟩
 |hand g h1 _ h0 h31 ih=>
  intro s hs
  have hp:=g.pos
  rcases List.mem_append.1 hs with hs|hs
  ·have:=ih s hs;exact⟨this.1,this.2.1,by omega,this.2.2.2⟩
  ·rw[List.mem_singleton.1 hs]
   exact⟨Int.le_refl _,by dsimp only;omega,Int.le_refl _,fun x hx=>by rw[List.mem_singleton.1 hx];exact⟨h0,h31⟩⟩
structure QjU (l:D.Ledger) (c:D.Call):Prop where
 page:1≤c.Page∧c.Page≤999999
 k : -1≤c.K
 pers:0≤c.Person∧c.Person≤31
 at_:0≤c.At∧c.At≤8589934592
 fence:0≤c.Fence∧c.Fence≤l.Fence
theorem LW.callIn(h:LW M n l){c:D.Call}(hc:c∈l.Calls):QjU l c:=by
 obtain⟨p,hp,e⟩:=h.all c hc
 obtain⟨g1,g2⟩:=h.page p hp
 have gt:=h.told p hp
 obtain⟨t,g3,g4,_⟩:=g1.goes
 have hm:c∈ownC p.ID l.Calls:=List.mem_filter.2 ⟨hc,decide_eq_true e.symm⟩
 have hu:unf c∈QA p.ID 0 p.Starts:=by rw[←gt.same];exact List.mem_map_of_mem hm
 unfold QA at hu
 obtain⟨s,hs,hu⟩:=List.mem_flatMap.1 hu
 obtain⟨x,hx,hu⟩:=List.mem_map.1 hu
 have hf:=gt.fit c hm
 obtain⟨k1,k2,k3,k4⟩:=Goes.calls g3 s hs
 have k5:=k4 x hx
 have hid:=g1.id;have hst:=g1.start;have htop:=g1.top;have hla:=g1.last
 obtain⟨c1,c2,c3,c4,c5⟩:=c
 simp only[unf,D.Call.mk.injEq]at hu
 obtain⟨u1,u2,u3,u4,_⟩:=hu
 dsimp only at e hf
 exact⟨by dsimp only;omega,by dsimp only;omega,by dsimp only;omega,by dsimp only;omega,hf⟩
def ans0:D.Answer:=D.Answer.mk 0 0 0 0 0 0
def edit0:D.Edit:=D.Edit.mk 0 0 0 0 0
def op0:D.Op:=D.Op.mk 0 0 0 0 0 0 0 0 0 ans0 edit0
def ownO(l:D.Ledger)(r id now:Int):D.Op:=D.Op.mk id 2 r (l.Fence+1) now 0 0 0 0 ans0 edit0
def Qey(r id now:Int):Prop:=(0≤r∧r≤4)∧(1≤id∧id≤1099511627776)∧0≤now∧now≤8589934592
theorem Qwc(h:Qe M n l)(hc:Qey r id now):OpIn (ownO l r id now):=by
 have hf:=h.fence;have hs:=h.seen.len
 obtain⟨h1,h2,h3⟩:=hc
 exact⟨h2,by simp only[ownO];omega,h1,by simp only[ownO];omega,h3,by simp only[ownO];omega,by simp only[ownO];omega,fun e=>absurd (show(2:Int)=4 from e) (by omega),fun e=>absurd (show(2:Int)=5 from e) (by omega)⟩
theorem Quf(h:Qe M n l)(hc:Qey r id now)(hn:now≤980000):Qti (ownO l r id now):=
 ⟨Qwc h hc,fun e=>absurd (show(2:Int)=1 from e) (by omega),hn,fun e=>absurd (show(2:Int)=4 from e) (by omega)⟩
theorem Qwb(hs:l.Seen.contains id=false):ZF l (ownO l r id now)=({ seeV l (ownO l r id now)with Owner:=r,Fence:=l.Fence+1 },0):=by
 rw[QpR (o:=ownO l r id now) hs rfl,if_pos (show(ownO l r id now).Fence=l.Fence+1 from rfl)]
 rfl
def Qbr(L:List Int):Int:=L.foldl (fun m x=>max m (x+1)) 1
theorem QuO:∀{L:List Int} {m:Int},m≤L.foldl (fun m x=>max m (x+1)) m∧(∀x∈L,x<L.foldl (fun m x=>max m (x+1)) m)∧∀k,m≤k+1→(∀x∈L,x≤k)→L.foldl (fun m x=>max m (x+1)) m≤k+1
 |[],m=>by simp
 |y::r,m=>by
  obtain⟨h1,h2,h3⟩:=QuO (L:=r) (m:=max m (y+1))
  simp only[List.foldl_cons]
  refine⟨by omega,fun x hx=>?_,fun k hm hx=>h3 k (by have:=hx y (by simp);omega) fun z hz=>hx z (by simp[hz])⟩
  rcases List.mem_cons.1 hx with rfl|hx
  ·omega
  ·exact h2 x hx
theorem QrM:1≤Qbr L∧L.contains (Qbr L)=false∧∀k,0≤k→(∀x∈L,x≤k)→Qbr L≤k+1:=by
 obtain⟨h1,h2,h3⟩:=QuO (L:=L) (m:=1)
 refine⟨h1,?_,fun k hk hx=>h3 k (by omega) hx⟩
 cases hc:L.contains (Qbr L)with
 |false=>rfl
 |true=>
  have:=h2 _ (List.contains_iff_mem.1 hc)
  unfold Qbr at this;omega
theorem Qoi(h:i<L.length):Qbr (L.take (i+1))=max (Qbr (L.take i)) (nth L i+1):=by
 unfold Qbr
 rw[←Qu h,List.foldl_append];rfl
theorem Qv6{α β:Type}[Inhabited α][Inhabited β]{l:List α}{f:α→β}(h:i<l.length):nth (l.map f) i=f (nth l i):=by
 simp[nth,List.getD_eq_getElem?_getD,List.getElem?_eq_getElem h]
def Qk9(l:D.Ledger):List D.Call:=l.Calls.filter fun c=>Qm2 l.Pages c.Page
def QfC(l:D.Ledger)(r f:Int):List D.Call:=if 0≤r∧r=l.Owner∧f=l.Fence then Qk9 l else[]
theorem Qqe(h:¬(0≤r∧r=l.Owner∧t=l.Fence)):QfC l r t=[]:=by unfold QfC;rw[if_neg h]
theorem Qr8(h:0≤l.Owner):QfC l l.Owner l.Fence=Qk9 l:=by unfold QfC;rw[if_pos ⟨h,rfl,rfl⟩]
theorem QmY{c:D.Call}(h:c∈Qk9 l):c∈l.Calls:=(List.mem_filter.1 h).1
theorem QmX:(Qk9 l).length≤l.Calls.length:=List.length_filter_le _ _
def QnK(p:D.Page):Nat:=(p.Starts.map fun s=>s.People.length).sum
theorem Qh3{id f:Int}:∀{L:List D.Start},(QA id f L).length=(L.map fun s=>s.People.length).sum
 |[]=>rfl
 |s::r=>by
  have:=Qh3 (id:=id) (f:=f) (L:=r)
  unfold QA at this ⊢
  rw[List.flatMap_cons,List.length_append,List.map_cons,List.sum_cons,this,List.length_map]
theorem Qr5(h:Qe M n l):(Qk9 l).length=sumC l.Pages fun p=>if p.State=0 then QnK p else 0:=by
 unfold Qk9
 rw[Qpz h.asc h.all]
 unfold sumC
 congr 1
 refine List.map_congr_left fun p hp=>?_
 rw[h.ownN hp]
 unfold QnK
 rw[Qh3]
end
end Go.Proofs.YtadlpefpehjcoaaGreat
/-
  Owners of ledgers: what the program and the reference compute.
-/
namespace Go.Proofs.YtadlpefpehjcoaaGreat
open Go AM
attribute [local irreducible] dueV stepV runV QQ answerV opV ZF opsV Qp5
section
variable {n:Nat} {M:Int} {l x:D.Ledger} {o:D.Op} {i k:Nat} {t r id now f:Int}
theorem dlin{fu:Nat}{x lo hi:Int}:Qaj fu x lo hi=some (inV x lo hi):=by
 unfold Qaj inV
 by_cases h1:lo≤x<;>by_cases h2:x≤hi<;>simp[cd,AM.cnd,h1,h2]
def Qo2(r id now:Int):Bool:=inV r 0 4 && (inV id 1 1099511627776 && inV now 0 8589934592)
theorem Qrr:Qo2 r id now=true↔Qey r id now:=by
 unfold Qo2 Qey
 simp only[bae,QG]
structure Own (l:D.Ledger):Prop where
 chkE:Xt 1000 l=some true
 chkR:Vx 1000 l=some true
 fence:0≤l.Fence∧l.Fence≤1048576
 waitE:∀t,Qb9 1000 l t=some (QgM l.Pages t)
 waitR:∀t,WS 1000 l t=some (QgM l.Pages t)
 findE:∀p∈l.Pages,Qby 1000 l p.ID=some (US l p.ID)
 findR:∀p∈l.Pages,QfR 1000 l p.ID=some (US l p.ID)
 asc:AscP l.Pages
 pg:l.Pages.length≤9
 cl:l.Calls.length≤900
 call:∀c∈l.Calls,QjU l c
 all:∀c∈l.Calls,∃p∈l.Pages,p.ID=c.Page
theorem Led.own(h:Led l):Own l:=by
 obtain⟨M,n,h1,h2⟩:=h.ok
 have hf:=h1.fence;have hs:=h1.seen.len;have hpg:=h.pg
 exact⟨h.checkE,h.check,by omega,fun t=>h.waiting,fun t=>QoW h1 hpg,fun p hp=>Qtf h1 (by have:=(h1.page p hp).1.id;omega),fun p hp=>QrK h1.plens h1.asc (by omega),h1.asc,hpg,by have:=h1.callsLe hpg;omega,fun c hc=>h1.callIn hc,h1.all⟩
def Qo3(l:D.Ledger)(r id now:Int):D.Op×Int:=if Qo2 r id now=true then(if l.Fence=1048576 then(op0,5)else(ownO l r id now,0))else(op0,1)
theorem Qrs(h:Own l):QfT 1000 l r id now=some (Qo3 l r id now):=by
 have hf:=h.fence
 refine Ok.eq ?_
 unfold QfT Qo3 Qo2
 refine Ok.j (Ok.oe h.chkR (Ok.nt rfl (Ok.oe rin (Ok.cnd (fun g1=>Ok.oe rin (Ok.cnd (fun g2=>Ok.oe rin (Ok.cnd (fun g3=>?_) (fun g3=>Ok.s ?_))) (fun g2=>Ok.s ?_))) (fun g1=>Ok.s ?_)))))
 ·rw[if_pos (by simp[g1,g2,g3])]
  refine Ok.ite (fun g4=>Ok.s ?_) (fun g4=>Ok.s ?_)
  ·rw[if_pos g4];rfl
  ·rw[if_neg g4,Qc (x:=l.Fence+1) (by omega)];rfl
 all_goals (rw[if_neg (by simp[*])];rfl)
theorem Qrt(h:Qey r id now)(hf:l.Fence≤1000):Qo3 l r id now=(ownO l r id now,0):=by
 unfold Qo3
 rw[if_pos (Qrr.2 h),if_neg (by omega)]
theorem Qog{α:Type}[Inhabited α]{L:List α}{q:α→Bool}(h:i<L.length):(L.take (i+1)).filter q=(L.take i).filter q++(if q (nth L i)=true then[nth L i]else[]):=by
 rw[←Qu h,List.filter_append]
 congr 1
 cases g:q (nth L i)<;>simp[g]
theorem Qqi{c:D.Call}:Qm2 l.Pages c.Page=((US l c.Page).2 && decide ((US l c.Page).1.State=0)):=by
 unfold Qm2 US
 by_cases g:hasV c.Page l.Pages=true
 ·rw[if_pos g,g]
 ·rw[if_neg g];simp at g;rw[g];rfl
theorem Qla(h:Own l):U8 1000 l r f=some (QfC l r f):=by
 have hcl:=h.cl
 refine Ok.eq ?_
 unfold U8 QfC
 refine Ok.j (Ok.ite (fun g=>Ok.s (by rw[if_neg (fun h=>by omega)])) (fun g=>Ok.oe h.chkE (Ok.t ?_)))
 have hown:WO 1000 (D.fence.mk r f) l=some (decide (r=l.Owner∧f=l.Fence)):=by
  unfold WO
  by_cases g1:r=l.Owner<;>by_cases g2:f=l.Fence<;>simp[cd,AM.cnd,g1,g2]
 refine Ok.oe hown (Ok.ite (fun g2=>?_) (fun g2=>Ok.s (by rw[if_neg (fun h=>g2 h.2)])))
 rw[if_pos ⟨by omega,g2⟩]
 try dsimp only
 unfold Qk9
 refine Ok.run l.Calls.length (fun k=>((l.Calls,((l.Calls.length:Nat):Int),(k:Int),()),l,(l.Calls.take k).filter (fun c=>Qm2 l.Pages c.Page),())) rfl (by omega) (fun k hk K hK=>?_) (fun K=>?_)
 ·try dsimp only
  have hfl:((l.Calls.take k).filter (fun c=>Qm2 l.Pages c.Page)).length≤k:=Nat.le_trans (List.length_filter_le _ _) (by simp;omega)
  try dsimp only at hK
  rw[Qog hk]at hK
  obtain⟨p,hp,e⟩:=h.all _ (Qh hk)
  refine Ok.P (Ok.j (Ok.atn hk ?_))
  have ef:=h.findE p hp
  rw[e]at ef
  refine Ok.oe ef ?_
  rw[Qqi]at hK
  obtain⟨q,b,hq⟩:∃q b,US l (nth l.Calls k).Page=(q,b):=⟨_,_,rfl⟩
  rw[hq]at hK ⊢
  try dsimp only at hK ⊢
  refine Ok.cnd (fun g3=>Ok.ite (fun g4=>Ok.LS ?_) (fun g4=>?_)) (fun g3=>?_)
  ·rw[Qa (by omega)]
   rw[if_pos (by simp[g3,g4])]at hK;exact hK
  ·rw[Qa (by omega)]
   rw[if_neg (by simp[g4]),List.append_nil]at hK;exact hK
  ·rw[Qa (by omega)]
   rw[if_neg (by simp[g3]),List.append_nil]at hK;exact hK
 ·try dsimp only
  exact Ok.N (Ok.s (by rw[List.take_length]))
def UM(c:D.Call):D.Contact:=D.Contact.mk c.Page c.K c.Person c.At 0 (-1)
theorem Qv1{c:D.Call}(h:QjU l c):QaO 1000 c.Page c.K c.Person c.At=some (UM c,0):=by
 have h1:=h.page;have h2:=h.k
 refine Ok.eq ?_
 unfold QaO
 refine Ok.oe (v:=true) (Ok.eq ?_) (Ok.nt rfl (Ok.s rfl))
 unfold Ut
 refine Ok.p (by dsimp only;omega) (Ok.p h2 (Ok.oe (v:=true) (Ok.eq ?_) (Ok.t (Ok.oe dlin (Ok.bt (QG.2 h.at_) (Ok.s rfl))))))
 unfold Qak
 exact Ok.oe dlin (Ok.s (QG.2 h.pers))
theorem Qv4{c:D.Call}(h:QjU l c):QlC 1000 c.Page c.K c.Person c.At=some (UM c,0):=by
 have h1:=h.page;have h2:=h.k
 refine Ok.eq ?_
 unfold QlC
 refine Ok.oe (v:=true) (Ok.eq ?_) (Ok.nt rfl (Ok.s rfl))
 unfold Qi7
 exact Ok.P (Ok.p h2 (Ok.oe rin (Ok.bt (QG.2 h.pers) (Ok.oe rin (Ok.bt (QG.2 h.at_) (Ok.s rfl))))))
theorem Qr7{c:D.Call}(h:c∈QfC l r f):c∈l.Calls:=by
 unfold QfC at h
 split at h
 ·exact QmY h
 ·simp at h
theorem Qr6:(QfC l r f).length≤l.Calls.length:=by
 unfold QfC
 split
 ·exact QmX
 ·simp
theorem Qmu(h:Own l):Ub 1000 l r f=some ((QfC l r f).map UM):=by
 have hcl:=h.cl;have hml:=Qr6 (l:=l) (r:=r) (f:=f)
 refine Ok.eq ?_
 unfold Ub
 refine Ok.oe (Qla h) ?_
 have hin:∀c∈QfC l r f,QjU l c:=fun c hc=>h.call c (Qr7 hc)
 obtain⟨m,hm⟩:∃m,QfC l r f=m:=⟨_,rfl⟩
 rw[hm]at hin hml ⊢
 refine Ok.run m.length (fun k=>((m,((m.length:Nat):Int),(k:Int),()),(m.take k).map UM,())) rfl (by omega) (fun k hk K hK=>?_) (fun K=>?_)
 ·try dsimp only
  try dsimp only at hK
  rw[←Qu hk,List.map_append]at hK
  refine Ok.P (Ok.atn hk (Ok.oe (Qv1 (hin _ (Qh hk))) (Ok.LS ?_)))
  rw[Qa (by omega)];exact hK
 ·try dsimp only
  exact Ok.N (Ok.s (by rw[List.take_length]))
end
end Go.Proofs.YtadlpefpehjcoaaGreat
/-
  Ledgers that a region has taken over, and what an owner proposes on them.
-/
namespace Go.Proofs.YtadlpefpehjcoaaGreat
open Go AM
attribute [local irreducible] dueV stepV runV QQ answerV opV ZF opsV Qp5
section
variable {n:Nat} {M:Int} {l x:D.Ledger} {o:D.Op} {i k:Nat} {t r id now f:Int} {L:List Int} {d:D.Dice}
theorem sane35:QdN 1000=some true:=by kernel_rfl
theorem Loose.own{k:Nat}(h:Loose k l)(hk:k≤46):Own l:=(h.led hk).own
structure Taken (k:Nat) (l:D.Ledger) (r id:Int) (x:D.Ledger):Prop where
 loose:Loose (k+1) x
 owner:x.Owner=r
 fence:x.Fence=l.Fence+1
 now:x.Now=l.Now
 pages:x.Pages=l.Pages
 calls:x.Calls=l.Calls
 seen:x.Seen=l.Seen++[id]
theorem Qsj(h:Loose k l)(hr:0≤r∧r≤4)(hid:1≤id∧id≤1000000):Qey r id l.Now∧Qti (ownO l r id l.Now):=by
 have hn:=h.inv.now
 have hc:Qey r id l.Now:=⟨hr,by omega,by omega⟩
 exact⟨hc,Quf h.inv hc (by omega)⟩
theorem Qsk(h:Loose k l)(hk:k≤40)(hr:0≤r∧r≤4)(hid:1≤id∧id≤1000000)(hs:l.Seen.contains id=false):Vw 1000 l (ownO l r id l.Now)=some ((ZF l (ownO l r id l.Now)).1,0)∧Taken k l r id (ZF l (ownO l r id l.Now)).1:=by
 obtain⟨hc,hf⟩:=Qsj h hr hid
 have e:=Qwb (r:=r) (now:=l.Now) hs
 have hok:=h.okAt (by omega) hf
 refine⟨by rw[hok.ref,e],⟨h.next (by omega) hf,?_,?_,?_,?_,?_,?_⟩⟩
 all_goals rw[e]
 ·show max l.Now l.Now=l.Now;omega
 ·rfl
 ·rfl
 ·rfl
def Qs1(l:D.Ledger)(r:Int):D.Ledger:=(ZF l (ownO l r (Qbr l.Seen) l.Now)).1
theorem Qux{m:Int}(h:Loose k l)(hk:k≤40)(hr:0≤r∧r≤4)(hm:0≤m∧m≤100000)(hs:∀x∈l.Seen,x≤m):
  Wl 1000 d l r=some (Qs1 l r)∧Taken k l r (Qbr l.Seen) (Qs1 l r)∧Qbr l.Seen≤m+1:=by
 obtain⟨f1,f2,f3⟩:=QrM (L:=l.Seen)
 have f4:=f3 m hm.1 hs
 obtain⟨hc,hf⟩:=Qsj (id:=Qbr l.Seen) h hr (by omega)
 obtain⟨g1,g2⟩:=Qsk h hk hr (by omega) f2
 have hsl:=h.seen;have hfe:=h.inv.fence
 refine⟨Ok.eq ?_,g2,f4⟩
 unfold Wl
 refine Ok.run l.Seen.length (fun i=>((r,Qbr (l.Seen.take i),(i:Int),()),l,({ Now:=0,Config:={ Zones:=[],People:=[],Calendars:=[],Schedules:=[] },Book:={ Teams:=[],Policies:=[] },Pages:=[],Owner:=0,Fence:=0,Seen:=[],Calls:=[] }:D.Ledger),d,())) rfl (by omega) (fun i hi K hK=>?_) (fun K=>?_)
 ·try dsimp only
  have hx:=(h.inv.seen.fit _ (Qh hi)).1
  have hx2:=hs _ (Qh hi)
  try dsimp only at hK
  rw[Qoi hi]at hK
  refine Ok.P (Ok.atn hi ?_)
  rw[Qc (x:=nth l.Seen i+1) (by omega),Qa (by omega)]
  exact hK
 ·try dsimp only
  rw[List.take_length]
  refine Ok.N (Ok.oe (Qrs (h.own (by omega))) ?_)
  rw[Qrt hc (by omega)]
  exact Ok.n (fun h=>h rfl) (Ok.oe g1 (Ok.sameC (Ok.s rfl)))
theorem QgJ{α:Type}{f:α→Nat}{m:Nat}:∀{L:List α},(∀s∈L,f s≤m)→(L.map f).sum≤m*L.length
 |[],_=>by simp
 |s::r,h=>by
  have:=QgJ (f:=f) (m:=m) (L:=r) fun s hs=>h s (by simp[hs])
  have h2:=h s (by simp)
  simp only[List.map_cons,List.sum_cons,List.length_cons,Nat.mul_succ];omega
end
end Go.Proofs.YtadlpefpehjcoaaGreat
/-
  The laws OwnerDrives, OwnerCalls and OwnerFences, of what is reckoned of their code.
-/
namespace Go.Proofs.YtadlpefpehjcoaaGreat
open Go AM
attribute [local irreducible] dueV stepV runV QQ answerV opV ZF opsV Qp5
theorem QiO(t:List Int):WJ 1000 t=some true:=by
 refine Ok.eq ?_
 unfold WJ
 refine Ok.oe Qt1 (Ok.ncnd (fun _=>Ok.oe sane35 (Ok.s rfl)) fun hl=>Ok.oe Qwl ?_)
 have hL:=Qr3 hl
 refine Ok.opt (QwU (k:=9) hL dice0 (by omega)) fun⟨l,z,d⟩ ⟨h1,ops,m,hm,hB⟩=>?_
 try dsimp only at h1 hB ⊢
 refine Ok.opt (nx hL h1 (by omega) (by omega)) fun⟨r,d2⟩ ⟨h2,l2,u2⟩=>?_
 try dsimp only at h2 l2 u2 ⊢
 obtain⟨a1,a2,a3⟩:=Qux (d:=d2) (r:=r) (m:=(m:Int)) hB.loose (by omega) (by omega) (by omega) hB.seen
 obtain⟨x,hx⟩:∃x,Qs1 l r=x:=⟨_,rfl⟩
 rw[hx]at a1 a2
 have xo:=a2.owner
 have hlo:=a2.loose
 have how:=hlo.own (by omega)
 have hcl:=how.cl;have hpg:=how.pg
 have hml:=QmX (l:=x)
 have hsum:=Qr5 hlo.inv
 have hin:∀c∈Qk9 x,QjU x c:=fun c hc=>how.call c (QmY hc)
 have hst:=fun p hp=>(hlo.inv.plens p hp).st
 have hpe:=fun p hp=>(hlo.inv.plens p hp).pe
 refine Ok.oe a1 ?_
 obtain⟨C,hC⟩:∃C,Qk9 x=C:=⟨_,rfl⟩
 have hmine:∀r,QfC x r x.Fence=if r=x.Owner then C else[]:=fun r=>by
  by_cases g:r=x.Owner
  ·rw[if_pos g,g,Qr8 (by omega),hC]
  ·rw[if_neg g,Qqe (fun h=>g h.2.1)]
 rw[hC]at hml hsum hin
 obtain⟨hv,hhv⟩:∃hv:Nat→Int,∀i,hv i=if x.Owner < -1+(i:Int)∧0<C.length then 1 else 0:=⟨fun i=>_,fun i=>rfl⟩
 refine Ok.run 7 (fun i=>((hv i,-1+(i:Int),()),x,())) (by rw[hhv,if_neg (by omega)];rfl) (by omega) (fun i hi K hK=>?_) (fun K=>?_)
 ·try dsimp only
  try dsimp only at hK
  have hw:IntKind.wrap .i64 (-1+(i:Int)+1) = -1+((i+1:Nat):Int):=by rw[Qc (by omega)];omega
  refine Ok.P (Ok.j (Ok.oe (Qla how) ?_))
  rw[hmine]
  by_cases g : -1+(i:Int)=x.Owner
  ·rw[if_pos g]
   refine Ok.j (Ok.ite (fun g2=>?_) (fun g2=>?_))
   ·try dsimp only
    refine Ok.n (fun h=>h g) ?_
    try dsimp only
    rw[hw,hhv i,if_neg (by omega)]
    rw[hhv (i+1),if_pos (by omega)]at hK
    exact hK
   ·try dsimp only
    refine Ok.n (fun h=>h g) ?_
    try dsimp only
    rw[hw,hhv i,if_neg (by omega)]
    rw[hhv (i+1),if_neg (by omega)]at hK
    exact hK
  ·rw[if_neg g]
   have e:hv (i+1)=hv i:=by
    rw[hhv,hhv]
    by_cases g2:x.Owner < -1+(i:Int)
    ·by_cases g3:0<C.length
     ·rw[if_pos ⟨by omega,g3⟩,if_pos ⟨g2,g3⟩]
     ·rw[if_neg (fun h=>g3 h.2),if_neg (fun h=>g3 h.2)]
    ·rw[if_neg (by omega),if_neg (by omega)]
   rw[e]at hK
   refine Ok.j (Ok.NS ?_)
   try dsimp only
   refine Ok.p g (Ok.NS ?_)
   try dsimp only
   rw[hw];exact hK
 ·try dsimp only
  refine Ok.N (Ok.oe (Qla how) ?_)
  rw[hmine,if_pos rfl]
  refine Ok.oe (Qmu how) ?_
  rw[hmine,if_pos rfl]
  have hv7:hv 7≤1:=by rw[hhv];split<;>omega
  have hsl:∀i,sumC (x.Pages.take i) (fun p=>if p.State=0 then QnK p else 0)≤12000*i:=fun i=>by
   have:=QlX (l:=x.Pages.take i) (f:=fun p=>if p.State=0 then QnK p else 0) (m:=12000) fun p hp=>by
    have h1:=hst p (List.mem_of_mem_take hp)
    have h2:=QgJ (L:=p.Starts) (f:=fun s=>s.People.length) (m:=40) fun s hs=>(hpe p (List.mem_of_mem_take hp) s hs).1
    show(if p.State=0 then QnK p else 0)≤12000
    unfold QnK
    split<;>omega
   refine Nat.le_trans this (Nat.mul_le_mul_left _ ?_)
   simp only[List.length_take];omega
  refine Ok.run x.Pages.length (fun i=>((hv 7,C,C.map UM,((sumC (x.Pages.take i) (fun p=>if p.State=0 then QnK p else 0):Nat):Int),x.Pages,((x.Pages.length:Nat):Int),(i:Int),()),())) rfl (by omega) (fun i hi K hK=>?_) (fun K=>?_)
  ·try dsimp only
   have hs1:=hsl i
   try dsimp only at hK
   rw[←Qu hi,Qjh]at hK
   refine Ok.P (Ok.j (Ok.atn hi ?_))
   have hpm:=Qh hi
   have hps:=hst _ hpm;have hpp:=hpe _ hpm
   obtain⟨p,hp⟩:∃p,nth x.Pages i=p:=⟨_,rfl⟩
   rw[hp]at hK hps hpp ⊢
   refine Ok.ite (fun g=>?_) (fun g=>?_)
   ·try dsimp only
    rw[Qa (by omega)]
    rw[if_neg g,Nat.add_zero]at hK;exact hK
   ·have g:p.State=0:=Decidable.not_not.1 g
    rw[if_pos g]at hK
    refine Ok.run p.Starts.length (fun j=>((hv 7,C,C.map UM,((sumC (x.Pages.take i) (fun p=>if p.State=0 then QnK p else 0)+((p.Starts.take j).map fun s=>s.People.length).sum:Nat):Int),x.Pages,((x.Pages.length:Nat):Int),(i:Int),p.Starts,((p.Starts.length:Nat):Int),(j:Int),()),())) rfl (by omega) (fun j hj K2 hK2=>?_) (fun K2=>?_)
    ·try dsimp only
     have hpj:=(hpp _ (Qh hj)).1
     have hsj:=QgJ (L:=p.Starts.take j) (f:=fun s=>s.People.length) (m:=40) fun s hs=>(hpp s (List.mem_of_mem_take hs)).1
     rw[List.length_take]at hsj
     try dsimp only at hK2
     rw[←Qu hj,List.map_append,List.sum_append,List.map_cons,List.map_nil,List.sum_cons,List.sum_nil,Nat.add_zero]at hK2
     refine Ok.P (Ok.atn hj ?_)
     rw[Qa (by omega),Qc (by omega)]
     rw[←Nat.add_assoc,Int.natCast_add]at hK2
     exact hK2
    ·try dsimp only
     refine Ok.N ?_
     rw[Qa (by omega),List.take_length]
     exact hK
  ·try dsimp only
   rw[List.take_length,←hsum]
   refine Ok.N (Ok.j (Ok.NS (Ok.NS (Ok.N ?_))))
   try dsimp only
   refine Ok.run C.length (fun i=>((C,C.map UM,((((C.map UM).length:Nat)):Int),(i:Int),()),())) rfl (by omega) (fun i hi K hK=>?_) (fun K=>?_)
   ·try dsimp only
    have hlm:(C.map UM).length=C.length:=List.length_map ..
    have hci:=hin _ (Qh hi)
    refine Ok.P (Ok.j (Ok.atn hi (Ok.atn hi (Ok.atn hi (Ok.atn hi (Ok.oe (Qv4 hci) (Ok.n (fun h=>h rfl) (Ok.A ?_))))))))
    rw[Qv6 hi]
    refine Ok.NS ?_
    try dsimp only
    rw[Qa (by omega)];exact hK
   ·try dsimp only
    exact Ok.NS (Ok.oe sane35 (Ok.s rfl))
end Go.Proofs.YtadlpefpehjcoaaGreat
