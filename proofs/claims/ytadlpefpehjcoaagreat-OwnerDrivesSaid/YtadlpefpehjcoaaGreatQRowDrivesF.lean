/-
  Ledgers: what the reference's check, search and runs compute.
-/
import Derived.Test.YtadlpefpehjcoaaGreatQRowDrivesE
set_option maxRecDepth 100000
set_option linter.unusedVariables false
set_option linter.unusedSimpArgs false
namespace Go.Proofs.YtadlpefpehjcoaaGreat
open Go AM
attribute [local irreducible] dueV stepV runV QQ answerV
section
variable {n:Nat} {c:D.Config} {b:D.Book} {p q:D.Page} {now M:Int} {l:D.Ledger} {i:Nat}
theorem LW.callsN(h:LW M n l):sumC l.Pages (fun p=>(ownC p.ID l.Calls).length)=l.Calls.length:=Qks h.asc h.all
theorem LW.ownN(h:LW M n l)(hp:p∈l.Pages):(ownC p.ID l.Calls).length=(QF p.ID 0 p.Starts).length:=by
 have:=(h.told p hp).same
 rw[←this,List.length_map]
theorem LW.callsLe(h:LW M n l)(hpg:l.Pages.length≤9):l.Calls.length≤468:=by
 rw[←h.callsN]
 have:=QoI (l:=l.Pages) (f:=fun p=>(ownC p.ID l.Calls).length) (m:=52) fun p hp=>by
  obtain⟨g1,g2⟩:=h.page p hp
  obtain⟨t,g3,_⟩:=g1.goes
  have h1:=Qah (id:=p.ID) (f:=0) (m:=4) (Goes.short (fun s hs=>hs) g3)
  have h2:=(g1.len h.book).1
  show(ownC p.ID l.Calls).length≤52
  rw[h.ownN hp];omega
 omega
theorem Qd.callsLe(h:Qd M n l)(hpg:l.Pages.length≤9):l.Calls.length≤468:=h.w.callsLe hpg
theorem Qny{l:List D.Page}{f:D.Page→Nat}:sumC (l++[p]) f=sumC l f+f p:=by simp[sumC]
theorem Un(h:LW M n l)(hpg:l.Pages.length≤9):Vz 1000 l=some true:=by
 have htop:=h.top;have hnow:=h.now;have how:=h.owner;have hfe:=h.fence;have hse:=h.seen.len;have hcl:=h.callsLe hpg
 refine Ok.eq ?_
 unfold Vz
 refine Ok.j (Ok.oe (Qmd h.cfg h.small h.book) (Ok.NS (Ok.oe rin (Ok.bt (QL.2 (by omega)) (Ok.N (Ok.oe rin (Ok.bt (QL.2 how) (Ok.oe rin (Ok.bt (QL.2 (by omega)) (Ok.N ?_))))))))))
 have hsle:∀i,sumC (l.Pages.take i) (fun p=>(ownC p.ID l.Calls).length)≤468*i:=fun i=>by
  have:=QoI (l:=l.Pages.take i) (f:=fun p=>(ownC p.ID l.Calls).length) (m:=468) fun p hp=>by
   show(ownC p.ID l.Calls).length≤468
   unfold ownC
   exact Nat.le_trans (List.length_filter_le _ _) hcl
  refine Nat.le_trans this (Nat.mul_le_mul_left _ ?_)
  simp only[List.length_take];omega
 refine Ok.run l.Pages.length (fun i=>((((sumC (l.Pages.take i) (fun p=>(ownC p.ID l.Calls).length):Nat):Int),(i:Int),()),l,())) rfl (by omega) (fun i hi k hk=>?_) (fun k=>?_)
 ·try dsimp only
  have hm:=Qi hi
  obtain⟨g1,g2⟩:=h.page _ hm
  have gt:=h.told _ hm
  have hown:=h.ownN hm
  have hs1:=hsle i
  have hs2:=hsle (i+1)
  refine Ok.P (Ok.atn hi ?_)
  have hasc:0<i→(nth l.Pages (i - 1)).ID<(nth l.Pages i).ID:=fun h0=>QbZ h.asc (by omega) hi
  try dsimp only at hk
  rw[←Qw hi,Qny]at hk
  obtain⟨p,hp⟩:∃p,nth l.Pages i=p:=⟨_,rfl⟩
  rw[hp]at g1 g2 gt hown hk hasc ⊢
  have hpl:=g1.plen h.book
  refine Ok.join (fun y=>y=((((sumC (l.Pages.take i) (fun p=>(ownC p.ID l.Calls).length):Nat):Int),(i:Int),()),l,p,())) (fun y hy=>?_) (fun J hJ=>?_)
  ·subst hy
   try dsimp only
   have hc:=QkJ (k:=0) (f:=0) hpl (Nat.zero_le _)
   rw[List.drop_zero]at hc
   refine Ok.oe hc ?_
   try dsimp only
   rw[Qb (by omega),←hown,Qc (by have:(ownC p.ID l.Calls).length≤468:=(by unfold ownC;exact Nat.le_trans (List.length_filter_le _ _) hcl);omega)]
   exact hk
  ·have tail:Ok (optc (Vy 1000 l.Book p) fun a13=>AM.cnd a13 (AM.cnd (decide (l.Now<p.Last)) (some false) (optc (Qd8 1000 l p) fun a14=>AM.cnd a14 (J ((((sumC (l.Pages.take i) (fun p=>(ownC p.ID l.Calls).length):Nat):Int),(i:Int),()),l,p,())) (some false))) (some false)) (·=true):=
    Ok.oe (QdI h.book hpl) (Ok.bt (g1.check h.book) (Ok.N (Ok.oe (Qwl hpl (by omega) gt) (Ok.t (hJ _ rfl)))))
   by_cases h0:0<i
   ·refine Ok.P ?_
    rw[show IntKind.wrap .i64 ((i:Int) - 1)=((i - 1:Nat):Int)by rw[Qc (by omega)];omega]
    have:=hasc h0
    exact Ok.A (Ok.N tail)
   ·exact Ok.N tail
 ·try dsimp only
  refine Ok.N ?_
  rw[List.take_length,h.callsN]
  refine Ok.run l.Seen.length (fun i=>((((l.Calls.length:Nat):Int),(i:Int),()),l,())) rfl (by omega) (fun i hi k hk=>?_) (fun k=>by dsimp only;exact Ok.N (Ok.s (decide_eq_true rfl)))
  try dsimp only
  have hx:=h.seen.fit _ (Qi hi)
  have hno:(l.Seen.take i).contains (nth l.Seen i)=false:=by
   cases hc:(l.Seen.take i).contains (nth l.Seen i)with
   |false=>rfl
   |true=>
    have:=QhI hi hc
    rw[decide_eq_true h.seen.nodup]at this;simp at this
  refine Ok.P (Ok.j (Ok.atn hi (Ok.oe rin (Ok.bt (QL.2 hx) (Ok.natn (Ok.L (Ok.atn hi (Ok.oe (Qb4 (by simp;omega)) (Ok.bf hno ?_)))))))))
  try dsimp only
  rw[Qb (by omega)];exact hk
abbrev lgA(l:D.Ledger):Int×List D.Zone×List D.Person×List D.Calendar×List D.Schedule×List D.Team×List D.Policy×Int×Int×Unit:=(l.Now,l.Config.Zones,l.Config.People,l.Config.Calendars,l.Config.Schedules,l.Book.Teams,l.Book.Policies,l.Owner,l.Fence,())
def Qbi(l:D.Ledger)(id:Int):D.Page×Bool:=if hasV id l.Pages=true then(nth l.Pages (posV id l.Pages),true)else(page0,false)
theorem QkW{id:Int}(ha:AscP l.Pages)(hi:i<l.Pages.length)(h:(nth l.Pages i).ID=id):Qbi l id=(nth l.Pages i,true):=by
 subst h
 unfold Qbi
 rw[if_pos (Qix ha hi),Qe3 ha hi]
theorem QrA{id:Int}(h:∀i,i<l.Pages.length→(nth l.Pages i).ID≠id):Qbi l id=(page0,false):=by
 unfold Qbi
 rw[if_neg]
 intro hh
 have:=Vn hh
 exact h _ this.1 this.2
theorem Qrz{id:Int}(hp:∀p∈l.Pages,Qz p)(ha:AscP l.Pages)(hl:l.Pages.length≤64):QfS 1000 l id=some (Qbi l id):=by
 refine Ok.eq ?_
 unfold QfS
 refine Ok.scan2 l.Pages.length (fun i=>(id,(i:Int),())) (fun i=>decide ((nth l.Pages i).ID=id)) rfl (by omega) (fun i hi hq _ k=>?_) (fun i hi hq k hk=>?_) (fun hq k=>?_)
 ·have hq:=of_decide_eq_true hq
  refine Ok.P (Ok.atn hi (Ok.p hq (Ok.atn hi (Ok.oe (Qbu (hp _ (Qi hi))) (Ok.s ?_)))))
  rw[QkW ha hi hq]
 ·have hq:=of_decide_eq_false hq
  refine Ok.P (Ok.atn hi (Ok.n hq ?_))
  try dsimp only
  rw[Qb (by omega)];exact hk
 ·refine Ok.N (Ok.s ?_)
  rw[QrA fun i hi=>of_decide_eq_false (hq i hi)];rfl
theorem Qft{id:Int}(hp:∀p∈l.Pages,Qz p)(ha:AscP l.Pages)(hl:l.Pages.length≤64):ZR 1000 l id=some (Qbi l id):=by
 refine Ok.eq ?_
 unfold ZR
 refine Ok.scan2 l.Pages.length (fun i=>(id,(i:Int),())) (fun i=>decide ((nth l.Pages i).ID=id)) rfl (by omega) (fun i hi hq _ k=>?_) (fun i hi hq k hk=>?_) (fun hq k=>?_)
 ·have hq:=of_decide_eq_true hq
  refine Ok.P (Ok.natn (Ok.lt hi (Ok.get hi (Ok.p hq (Ok.natn (Ok.lt hi (Ok.get hi (Ok.oe (Qbu (hp _ (Qi hi))) (Ok.sameC (Ok.sameC (Ok.sameC (Ok.s ?_))))))))))))
  rw[QkW ha hi hq]
 ·have hq:=of_decide_eq_false hq
  refine Ok.P (Ok.natn (Ok.lt hi (Ok.get hi (Ok.n hq ?_))))
  try dsimp only
  rw[Qb (by omega)];exact hk
 ·refine Ok.N (Ok.sameC (Ok.sameC (Ok.sameC (Ok.s ?_))))
  rw[QrA fun i hi=>of_decide_eq_false (hq i hi)];rfl
theorem LW.plens(h:LW M n l):∀p∈l.Pages,Qz p:=fun p hp=>(h.page p hp).1.plen h.book
theorem Qd.plens(h:Qd M n l):∀p∈l.Pages,Qz p:=h.w.plens
theorem QuM(ha:AscP l.Pages)(hl:l.Pages.length≤64)(hcl:l.Calls.length≤100000)(hi:i<l.Pages.length)(hid:p.ID=(nth l.Pages i).ID)(hpl:Qz p)(hle:(nth l.Pages i).Starts.length≤p.Starts.length):
  Xj 1000 l p=some (putV l i p):=by
 refine Ok.eq ?_
 unfold Xj
 refine Ok.run l.Pages.length (fun j=>(((j:Int),()),lgA l,p,({ Now:=0,Config:={ Zones:=[],People:=[],Calendars:=[],Schedules:=[] },Book:={ Teams:=[],Policies:=[] },Pages:=[],Owner:=0,Fence:=0,Seen:=[],Calls:=[] }:D.Ledger),(if j≤i then l.Pages else l.Pages.set i p),l.Seen,(if j≤i then l.Calls else l.Calls++QF p.ID l.Fence (p.Starts.drop (nth l.Pages i).Starts.length)),())) (by rw[if_pos (Nat.zero_le _),if_pos (Nat.zero_le _)];rfl) (by omega) (fun j hj k hk=>?_) (fun k=>?_)
 ·try dsimp only[lgA]at hk ⊢
  have hlen:(if j≤i then l.Pages else l.Pages.set i p).length=l.Pages.length:=by split<;>simp
  have hj':j<(if j≤i then l.Pages else l.Pages.set i p).length:=by omega
  have hnth:j≠i→nth (if j≤i then l.Pages else l.Pages.set i p) j=nth l.Pages j:=fun hne=>by
   split
   ·rfl
   ·exact U9 hne
  refine Ok.P (Ok.j (Ok.natn (Ok.lt hj' (Ok.get hj' ?_))))
  by_cases e:j=i
  ·subst e
   rw[if_pos (Nat.le_refl _),if_pos (Nat.le_refl _)]
   rw[if_neg (by omega),if_neg (by omega)]at hk
   have hc:=QkJ (k:=(nth l.Pages j).Starts.length) (f:=l.Fence) hpl hle
   have hcb:(QF p.ID l.Fence (p.Starts.drop (nth l.Pages j).Starts.length)).length≤40*(p.Starts.drop (nth l.Pages j).Starts.length).length:=Qah fun s hs=>(hpl.pe s (List.mem_of_mem_drop hs)).1
   have hst:=hpl.st
   rw[List.length_drop]at hcb
   refine Ok.p hid.symm (Ok.natn (Ok.lt hi (Ok.get hi (Ok.oe hc (Ok.L (Ok.natn (Ok.lt hi (Ok.get hi ?_))))))))
   try dsimp only
   rw[Qb (by omega)]
   exact hk
  ·rw[hnth e]
   have hne:(nth l.Pages j).ID≠p.ID:=by
    rw[hid]
    rcases Nat.lt_or_gt_of_ne e with h|h
    ·have:=QbZ ha h hi;omega
    ·have:=QbZ ha h hj;omega
   refine Ok.n hne ?_
   try dsimp only
   rw[Qb (by omega)]
   have e1:(j+1≤i)=(j≤i):=by apply propext;omega
   simp only[e1]at hk
   exact hk
 ·try dsimp only[lgA]
  rw[if_neg (by omega),if_neg (by omega)]
  refine Ok.NS (Ok.s ?_)
  rfl
theorem QlH{id:Int}(h:LW M n l)(hpg:l.Pages.length≤9):Z4 1000 l id l.Now=some (if hasV id l.Pages=true then runI l (posV id l.Pages)else l):=by
 have hcl:=h.callsLe hpg
 refine Ok.eq ?_
 unfold Z4
 refine Ok.oe (Qft h.plens h.asc (by omega)) ?_
 unfold Qbi
 by_cases hh:hasV id l.Pages=true
 ·rw[if_pos hh,if_pos hh]
  try dsimp only
  have hi:=Vn hh
  obtain⟨g1,g2⟩:=h.at hi.1
  obtain⟨q,r1,r2,r3,r4⟩:=Qsy (c:=l.Config) h.book QT.step g1 l.Now
  have hx:=QlJ (c:=l.Config) (now:=l.Now) h.book g1
  rw[r1]at hx
  refine Ok.f (Ok.oe (Qt9 h.cfg h.small h.book (g1.plen h.book)) ?_)
  rw[r1]
  try dsimp only
  refine Ok.NS (Ok.oe (QuM (i:=posV id l.Pages) h.asc (by omega) (by omega) hi.1 r4.id (r2.plen h.book) ?_) (Ok.s ?_))
  ·obtain⟨m,hm⟩:=hx
   try dsimp only at hm
   rw[hm];simp
  ·unfold runI
   rw[r1,if_neg (by simp)]
 ·rw[if_neg hh,if_neg hh]
  exact Ok.t (Ok.s rfl)
end
end Go.Proofs.YtadlpefpehjcoaaGreat
/-
  Ledgers: what the reference's operations compute.
-/
namespace Go.Proofs.YtadlpefpehjcoaaGreat
open Go AM
attribute [local irreducible] dueV stepV runV QQ answerV
section
variable {n:Nat} {c:D.Config} {b:D.Book} {p q:D.Page} {now M:Int} {l:D.Ledger} {i:Nat} {o:D.Op}
theorem Qtr(hp:∀p∈l.Pages,Qz p)(h1:l.Pages.length≤64)(h2:l.Seen.length≤1000)(h3:l.Calls.length≤100000):QhG 1000 l=some l:=by
 refine Ok.eq ?_
 unfold QhG
 refine Ok.run l.Pages.length (fun i=>(((i:Int),()),l,({ Now:=0,Config:={ Zones:=[],People:=[],Calendars:=[],Schedules:=[] },Book:={ Teams:=[],Policies:=[] },Pages:=[],Owner:=0,Fence:=0,Seen:=[],Calls:=[] }:D.Ledger),l.Pages.take i,())) rfl (by omega) (fun i hi k hk=>?_) (fun k=>?_)
 ·try dsimp only
  refine Ok.P (Ok.atn hi (Ok.oe (Qbu (hp _ (Qi hi))) (Ok.LS ?_)))
  try dsimp only
  rw[Qb (by omega),Qw hi]
  exact hk
 ·try dsimp only
  rw[List.take_length]
  exact Ok.N (Ok.L (Ok.L (Ok.s rfl)))
theorem Qum{α:Type}[Inhabited α]{L:List α}{k:Nat}{x:α}(h:k<L.length):(L.take (k+1)).set k x=L.take k++[x]:=by
 rw[←Qw h,List.set_append_right _ _ (by rw[List.length_take];omega)]
 simp[Nat.min_eq_left (Nat.le_of_lt h)]
theorem QtG{P:D.Page}{L:List D.Page}{k:Nat}(hk:k≤L.length):
  (List.take (k+1) (L++[P])++List.take ((L++[P]).length - (k+1)) (List.drop k (L++[P]))).set k P=L.take k++P::L.drop k:=by
 have hl:(L++[P]).length=L.length+1:=by simp
 rw[List.set_append_left _ _ (by rw[List.length_take,hl];omega),Qum (by rw[hl];omega),List.take_append_of_le_length hk,List.drop_append_of_le_length hk,hl,show L.length+1 - (k+1)=(L.drop k).length by simp,List.take_left,List.append_assoc]
 rfl
theorem Qv3{id:Int}{L:List D.Page}(ha:AscP L){k:Nat}(hk:k≤L.length)(h1:∀j,j<k→(nth L j).ID<id)(h2:k<L.length→id≤(nth L k).ID):posV id L=k:=by
 rcases Nat.lt_trichotomy (posV id L) k with h|h|h
 ·have:=QiW ha (id:=id) (Nat.le_refl _) (show posV id L<L.length by omega)
  have:=h1 _ h;omega
 ·exact h
 ·have:=QiX (l:=L) h
  have:=h2 (by have:=Qau (id:=id) (l:=L);omega);omega
theorem QvU(h:Qd M n l)(hpg:l.Pages.length≤8)(ho:OpIn o)(hk:o.Kind=1):XX 1000 l o l.Now (hasV o.Page l.Pages)=some (opV l o):=by
 have hnow:=h.now;have htop:=h.top;have hpl:=h.book.plen;have hop:=ho.page
 have hsl:=h.seen.len;have hcl:=h.callsLe (by omega)
 refine Ok.eq ?_
 unfold XX opV
 rw[if_pos hk]
 refine Ok.cnd (fun g=>Ok.s ?_) (fun g=>?_)
 ·rw[if_pos g]
 rw[if_neg (by rw[g];simp)]
 refine Ok.N ?_
 rw[if_neg (by omega)]
 refine Ok.oe (Qk9 h.book) ?_
 unfold newV
 by_cases g1:o.Page<1
 ·rw[if_pos g1,if_neg (fun hh=>by have:=QL.1 hh.1;omega)]
  exact Ok.PS (Ok.s rfl)
 rw[if_neg g1,if_pos ⟨QL.2 (by omega),QL.2 (by omega)⟩]
 by_cases g2:0≤o.Policy∧o.Policy<(l.Book.Policies.length:Int)
 ·rw[if_pos g2,if_pos (QL.2 (by omega))]
  try dsimp only
  refine Ok.NS ?_
  obtain⟨hi1,hi2,hi3⟩:=h.open (o:=o) g (by omega) g2 (by omega)
  have hple:=Qau (id:=o.Page) (l:=l.Pages)
  refine Ok.join (fun y=>y=((l.Now,((posV o.Page l.Pages:Nat):Int),()),lgA l,({ Now:=0,Config:={ Zones:=[],People:=[],Calendars:=[],Schedules:=[] },Book:={ Teams:=[],Policies:=[] },Pages:=[],Owner:=0,Fence:=0,Seen:=[],Calls:=[] }:D.Ledger),newP o.Page o.Policy l.Now,l.Pages,l.Seen,l.Calls,())) (fun y hy=>?_) (fun J hJ=>?_)
  ·subst hy
   try dsimp only[lgA]
   obtain⟨P,hP⟩:∃P,newP o.Page o.Policy l.Now=P:=⟨_,rfl⟩
   have hPid:P.ID=o.Page:=by subst hP;rfl
   rw[hP]at hi1 hi2 hi3 ⊢
   have hins:insP l.Pages P=l.Pages.take (posV o.Page l.Pages)++P::l.Pages.drop (posV o.Page l.Pages):=by unfold insP;rw[hPid]
   have hle1:(l.Pages++[P]).length=l.Pages.length+1:=by simp
   try dsimp only
   rw[Qb (by omega)]
   refine Ok.LS (Ok.natn (Ok.L (Ok.natn (Ok.L (Ok.ck rfl (Ok.ck rfl (Ok.L (Ok.L (Ok.natn (Ok.lt ?_ (Ok.get ?_ ?_)))))))))))
   ·simp only[List.length_append,List.length_take,List.length_drop,List.length_cons,List.length_nil];omega
   ·simp only[List.length_append,List.length_take,List.length_drop,List.length_cons,List.length_nil];omega
   rw[QtG hple,←hins]
   have hrun:=QlH (id:=P.ID) hi1.w (by show(insP l.Pages P).length≤9;rw[hins];simp;omega)
   have hpos:posV P.ID (insP l.Pages P)=posV o.Page l.Pages:=by
    have:=Qe3 hi1.asc hi2
    rw[hi3]at this;exact this
   have hhas:hasV P.ID (insP l.Pages P)=true:=by
    have:=Qix hi1.asc hi2
    rw[hi3]at this;exact this
   rw[if_pos hhas,hpos]at hrun
   exact Ok.oe hrun (Ok.s rfl)
  ·have hfound:∀k:Nat,k≤l.Pages.length→(∀j,j<k→(nth l.Pages j).ID<o.Page)→(k<l.Pages.length→o.Page≤(nth l.Pages k).ID)→Ok (J ((l.Now,(k:Int),()),lgA l,({ Now:=0,Config:={ Zones:=[],People:=[],Calendars:=[],Schedules:=[] },Book:={ Teams:=[],Policies:=[] },Pages:=[],Owner:=0,Fence:=0,Seen:=[],Calls:=[] }:D.Ledger),newP o.Page o.Policy l.Now,l.Pages,l.Seen,l.Calls,())) _:=fun k h1 h2 h3=>hJ _ (by rw[Qv3 h.asc h1 h2 h3])
   refine Ok.scan2 l.Pages.length (fun i=>(l.Now,(i:Int),())) (fun i=>!decide ((nth l.Pages i).ID<o.Page)) rfl (by omega) (fun i hi hq hj k=>?_) (fun i hi hq k hk=>?_) (fun hq k=>?_)
   ·refine Ok.j ?_
    dsimp only
    refine Ok.P (Ok.natn (Ok.lt hi (Ok.get hi (Ok.n ?_ (hfound i (by omega) (fun j hj'=>by simpa using hj j hj') (fun _=>by simpa using hq))))))
    have:¬(nth l.Pages i).ID<o.Page:=by simpa using hq
    exact this
   ·have hlt:(nth l.Pages i).ID<o.Page:=by simpa using hq
    refine Ok.j ?_
    dsimp only
    refine Ok.P (Ok.natn (Ok.lt hi (Ok.get hi (Ok.p hlt ?_))))
    try dsimp only
    rw[Qb (by omega)];exact hk
   ·refine Ok.j ?_
    dsimp only
    exact(Ok.N (hfound l.Pages.length (Nat.le_refl _) (fun j hj'=>by simpa using hq j hj') (fun hh=>absurd hh (Nat.lt_irrefl _))))
 ·rw[if_neg g2,if_neg (fun hh=>g2 (by have:=QL.1 hh;omega))]
  exact Ok.PS (Ok.s rfl)
theorem QaP{a:D.Answer}(h:(answerV b p a).2=0):(answerV b p a).1=p∨(answerV b p a).1=Y6 p a:=by
 revert h
 unfold answerV
 split
 ·intro h;simp at h
 ·split
  ·intro h;simp at h
  ·split
   ·intro _;exact .inl rfl
   ·split
    ·rename_i hr
     intro h;exact absurd h hr
    ·intro _;exact .inr rfl
theorem QoC(h:Qd M n l)(hi:i<l.Pages.length):(nth (runI l i).Pages i).ID=(nth l.Pages i).ID:=by
 rw[Qay h hi,if_pos rfl]
 exact(Qdx h.book QT.step (h.at hi).1).id
theorem Qt8(h:Qd M n l)(hpg:l.Pages.length≤9)(hk:o.Kind=4)(ha:YB o.Answer=true):Xx 1000 l o.Answer l.Now=some (opV l o):=by
 have hcl:=h.callsLe hpg
 refine Ok.eq ?_
 unfold Xx opV
 rw[if_neg (by omega),if_neg (by omega),if_neg (by omega),if_pos hk]
 refine Ok.oe (Qft h.plens h.asc (by omega)) ?_
 unfold Qbi
 by_cases hh:hasV o.Answer.Page l.Pages=true
 ·rw[if_pos hh,if_pos hh]
  try dsimp only
  have hi:=Vn hh
  have hrun:=QlH (id:=o.Answer.Page) h.w hpg
  rw[if_pos hh]at hrun
  refine Ok.f (Ok.oe hrun ?_)
  have h2:=h.run hi.1
  have hkp:=YI (l:=l) (i:=posV o.Answer.Page l.Pages)
  obtain⟨i,hie⟩:∃i,posV o.Answer.Page l.Pages=i:=⟨_,rfl⟩
  rw[hie]at hi h2 hkp ⊢
  have hid2:(nth (runI l i).Pages i).ID=o.Answer.Page:=(QoC h hi.1).trans hi.2
  have hi2:i<(runI l i).Pages.length:=by omega
  have hcl2:=h2.callsLe (by omega)
  refine Ok.oe (Qft h2.plens h2.asc (by omega)) ?_
  rw[QkW h2.asc hi2 hid2]
  try dsimp only
  obtain⟨a,hae⟩:∃a:D.Answer,a=D.Answer.mk o.Answer.ID o.Answer.Page o.Answer.Person o.Answer.Kind o.Answer.Arg l.Now:=⟨_,rfl⟩
  rw[←hae]
  have hpl2:=h2.plens _ (Qi hi2)
  refine Ok.oe (QnO h2.book hpl2) ?_
  rw[hkp.2.2.1]
  have hz:=QaP (b:=l.Book) (p:=nth (runI l i).Pages i) (a:=a)
  have hAl:=hpl2.answerV (a:=a) h.book
  obtain⟨A,e,hA⟩:∃A e,answerV l.Book (nth (runI l i).Pages i) a=(A,e):=⟨_,_,rfl⟩
  rw[hA]at hz hAl ⊢
  try dsimp only at hz hAl ⊢
  by_cases he:e=0
  ·rw[if_pos he]
   have hq:=hz he
   have hpid:A.ID=(nth (runI l i).Pages i).ID:=by
    rcases hq with rfl|rfl
    ·rfl
    ·exact Qga.1
   have hpst:(nth (runI l i).Pages i).Starts.length≤A.Starts.length:=by
    rcases hq with rfl|rfl
    ·exact Nat.le_refl _
    ·obtain⟨m,hm⟩:=QeF (p:=nth (runI l i).Pages i) (a:=a)
     rw[hm];simp
   refine Ok.N (Ok.oe (QuM (i:=i) h2.asc (by omega) (by omega) hi2 hpid hAl hpst) (Ok.s rfl))
  ·rw[if_neg he]
   exact Ok.p he (Ok.s rfl)
 ·rw[if_neg hh,if_neg hh]
  exact Ok.t (Ok.s rfl)
theorem Qvv{x:D.Edit}{s:Int}(h:Q3 n c)(hn:n<48)(hx:Qae x):Qdl 1000 c s x=some (if 0≤s∧s<2 then(Qik c s x,0)else({ Zones:=[],People:=[],Calendars:=[],Schedules:=[] },3)):=by
 have hsl:=h.slen
 refine Ok.eq ?_
 unfold Qdl
 refine Ok.j (Ok.oe (QcW h (by omega)) (Ok.NS (Ok.ite (fun g=>Ok.s ?_) (fun g=>Ok.ite (fun g2=>Ok.s ?_) (fun g2=>?_)))))
 ·rw[if_neg (by omega)]
 ·rw[if_neg (by omega)]
 ·rw[if_pos (by omega)]
  try dsimp only
  have hso:=h.sched _ (Qi (l:=c.Schedules) (i:=s.toNat) (by omega))
  have hlen:=hso.len
  refine Ok.at (by omega) (by omega) (Ok.L (Ok.LS (Ok.oe (v:=Qik c s x) ?_ (Ok.oe (QcW (QkR h hx (by omega)) (by omega)) (Ok.NS (Ok.s rfl))))))
  refine Ok.eq ?_
  unfold Qlu
  refine Ok.L (Ok.nat (by omega) (Ok.E (Ok.G (Ok.s ?_))))
  rfl
theorem apply0W(h:LW M n l)(hpg:l.Pages.length≤9)(hkd:o.Kind=2∨o.Kind=3)(hof:0≤o.Fence∧o.Fence≤1048576):Z3 1000 l o l.Now=some (opV l o):=by
 have hfe:=h.fence
 refine Ok.eq ?_
 unfold Z3
 refine Ok.oe (Qft h.plens h.asc (by omega)) ?_
 have hf2:(Qbi l o.Page).2=hasV o.Page l.Pages:=by
  unfold Qbi
  by_cases hh:hasV o.Page l.Pages=true
  ·rw[if_pos hh,hh]
  ·rw[if_neg hh];simpa using hh
 obtain⟨fp,fo,hfe2⟩:∃fp fo,Qbi l o.Page=(fp,fo):=⟨_,_,rfl⟩
 rw[hfe2]at hf2 ⊢
 try dsimp only at hf2 ⊢
 subst hf2
 refine Ok.j (Ok.N (Ok.ite (fun k2=>?_) (fun k2=>Ok.P ?_)))
 all_goals have k1:¬o.Kind=1:=by omega
 ·unfold opV
  rw[if_neg k1,if_pos k2,Qc (by omega)]
  refine Ok.ite (fun g=>Ok.s ?_) (fun g=>Ok.s ?_)
  ·rw[if_neg (by omega)]
  ·rw[if_pos (by omega)]
 ·have k3:o.Kind=3:=by omega
  unfold opV
  rw[if_neg k1,if_neg k2,if_pos k3]
  refine Ok.join (fun y=>y=((l.Now,hasV o.Page l.Pages,()),lgA l,o,({ Now:=0,Config:={ Zones:=[],People:=[],Calendars:=[],Schedules:=[] },Book:={ Teams:=[],Policies:=[] },Pages:=[],Owner:=0,Fence:=0,Seen:=[],Calls:=[] }:D.Ledger),fp,l.Pages,l.Seen,l.Calls,())∧o.Region=l.Owner∧o.Fence=l.Fence) (fun y hy=>?_) (fun J hJ=>Ok.ite (fun g=>Ok.s ?_) (fun g=>Ok.ite (fun g2=>Ok.s ?_) (fun g2=>hJ _ ⟨rfl,by omega,by omega⟩)))
  ·obtain⟨rfl,g1,g2⟩:=hy
   try dsimp only[lgA]
   rw[if_pos ⟨g1,g2⟩]
   refine Ok.ncnd (fun hh=>Ok.s ?_) (fun hh=>?_)
   ·rw[if_neg (by rw[hh];simp)]
   ·rw[if_pos hh]
    have hfp:fp=nth l.Pages (posV o.Page l.Pages):=by
     unfold Qbi at hfe2
     rw[if_pos hh]at hfe2
     exact(Prod.mk.inj hfe2).1.symm
    subst hfp
    have hrun:=QlH (id:=o.Page) h (by omega)
    rw[if_pos hh]at hrun
    refine Ok.oe QdK ?_
    obtain⟨pg,hpg2⟩:∃pg,nth l.Pages (posV o.Page l.Pages)=pg:=⟨_,rfl⟩
    rw[hpg2]
    obtain⟨kk,hkk⟩:∃kk:Int,(if pg.State=2 then(-1:Int)else pg.Next)=kk:=⟨_,rfl⟩
    rw[hkk]
    have hw:Yk pg l.Now=((dueV pg).2 && decide ((dueV pg).1≤l.Now)):=rfl
    refine Ok.join (fun y=>y=((l.Now,(dueV pg).1,(dueV pg).2,kk,()),lgA l,o,({ Now:=0,Config:={ Zones:=[],People:=[],Calendars:=[],Schedules:=[] },Book:={ Teams:=[],Policies:=[] },Pages:=[],Owner:=0,Fence:=0,Seen:=[],Calls:=[] }:D.Ledger),l.Pages,l.Seen,l.Calls,())) (fun y hy=>?_) (fun J hJ=>Ok.ite (fun g=>hJ _ (by rw[←hkk,if_pos g])) (fun g=>hJ _ (by rw[←hkk,if_neg g])))
    subst hy
    try dsimp only[lgA]
    refine Ok.j (Ok.cnd (fun g3=>Ok.ite (fun g4=>Ok.s ?_) (fun g4=>Ok.ite (fun g5=>Ok.s ?_) (fun g5=>Ok.oe hrun (Ok.s ?_)))) (fun g3=>Ok.s ?_))
    ·rw[if_neg (fun hx=>by rw[hw,g3]at hx;have:=of_decide_eq_true (show decide ((dueV pg).1≤l.Now)=true by simpa using hx.1);omega)]
    ·rw[if_neg (fun hx=>g5 hx.2.symm)]
    ·rw[if_pos ⟨by rw[hw,g3];simp;omega,by omega⟩]
    ·rw[if_neg (fun hx=>by rw[hw,g3]at hx;simp at hx)]
  ·rw[if_neg (by omega)]
  ·rw[if_neg (by omega)]
theorem QqQ(h:Qd M n l)(hn:n<48)(hpg:l.Pages.length≤8)(ho:OpIn o):Z3 1000 l o l.Now=some (opV l o):=by
 have hfe:=h.fence;have hse:=h.seen.len;have hkd:=ho.kind;have hof:=ho.fence
 by_cases hk23:o.Kind=2∨o.Kind=3
 ·exact apply0W h.w (by omega) hk23 hof
 refine Ok.eq ?_
 unfold Z3
 refine Ok.oe (Qft h.plens h.asc (by omega)) ?_
 have hf2:(Qbi l o.Page).2=hasV o.Page l.Pages:=by
  unfold Qbi
  by_cases hh:hasV o.Page l.Pages=true
  ·rw[if_pos hh,hh]
  ·rw[if_neg hh];simpa using hh
 obtain⟨fp,fo,hfe2⟩:∃fp fo,Qbi l o.Page=(fp,fo):=⟨_,_,rfl⟩
 rw[hfe2]at hf2 ⊢
 try dsimp only at hf2 ⊢
 subst hf2
 refine Ok.j (Ok.ite (fun k1=>?_) (fun k1=>Ok.ite (fun k2=>absurd (.inl k2) hk23) (fun k2=>Ok.ite (fun k3=>absurd (.inr k3) hk23) (fun k3=>Ok.ite (fun k4=>?_) (fun k4=>Ok.ite (fun k5=>?_) (fun k5=>absurd hkd (by omega)))))))
 ·exact Ok.oe (QvU h hpg ho k1) (Ok.s rfl)
 ·exact Ok.oe (Qt8 h (by omega) k4 (ho.answer k4).1) (Ok.s rfl)
 ·unfold opV
  rw[if_neg k1,if_neg k2,if_neg k3,if_neg k4]
  have hkeep:∀i,(Zk l i).Now=l.Now∧(Zk l i).Config=l.Config∧(Zk l i).Book=l.Book∧(Zk l i).Owner=l.Owner∧(Zk l i).Fence=l.Fence∧(Zk l i).Seen=l.Seen∧(Zk l i).Pages.length=l.Pages.length:=fun i=>Ym
  refine Ok.run l.Pages.length (fun i=>((l.Now,(i:Int),()),lgA (Zk l i),o,({ Now:=0,Config:={ Zones:=[],People:=[],Calendars:=[],Schedules:=[] },Book:={ Teams:=[],Policies:=[] },Pages:=[],Owner:=0,Fence:=0,Seen:=[],Calls:=[] }:D.Ledger),(Zk l i).Pages,(Zk l i).Seen,(Zk l i).Calls,())) rfl (by omega) (fun i hi k hk=>?_) (fun k=>?_)
  ·try dsimp only[lgA]
   have hki:=hkeep i
   have hi2:i<(Zk l i).Pages.length:=by omega
   have hL:=h.runs (k:=i) (by omega)
   have hrun:=QlH (id:=(nth (Zk l i).Pages i).ID) hL.w (by omega)
   rw[if_pos (Qix hL.asc hi2),Qe3 hL.asc hi2,hki.1]at hrun
   refine Ok.P (Ok.natn (Ok.lt hi2 (Ok.get hi2 (Ok.oe hrun ?_))))
   try dsimp only
   rw[Qb (by omega)]
   exact hk
  ·try dsimp only[lgA]
   have hki:=hkeep l.Pages.length
   refine Ok.N ?_
   have hed:=Qvv (c:=l.Config) (s:=o.Schedule) h.cfg hn (ho.edit k5)
   refine Ok.oe (v:=if 0≤o.Schedule∧o.Schedule<2 then(Qik l.Config o.Schedule o.Edit,0)else({ Zones:=[],People:=[],Calendars:=[],Schedules:=[] },3)) ?_ ?_
   ·rw[←hed]
    show Qdl 1000 (Zk l l.Pages.length).Config _ _=_
    rw[hki.2.1]
   ·by_cases hs:0≤o.Schedule∧o.Schedule<2
    ·rw[if_pos hs,if_pos hs]
     exact Ok.NS (Ok.s rfl)
    ·rw[if_neg hs,if_neg hs]
     exact Ok.PS (Ok.s rfl)
theorem OpIn.valid(ho:OpIn o):QfT 1000 o=some true:=by
 refine Ok.eq ?_
 unfold QfT
 refine Ok.oe rin (Ok.bt (QL.2 ho.id) (Ok.oe rin (Ok.bt (QL.2 ho.kind) (Ok.oe rin (Ok.bt (QL.2 ho.region) (Ok.oe rin (Ok.bt (QL.2 ho.fence) (Ok.oe rin (Ok.bt (QL.2 ho.at_) (Ok.oe rin (Ok.bt (QL.2 ho.page) (Ok.oe rin (Ok.bt (QL.2 ho.k) ?_)))))))))))))
 exact Ok.ite (fun g=>Ok.s rfl) (fun g=>Ok.oe Qku (Ok.bt (ho.answer (by omega)).1 (Ok.s rfl)))
theorem Ql6(h:Qd M n l)(hn:n<48)(hpg:l.Pages.length≤8)(ho:OpIn o)(ht:max l.Now o.At≤M - 20000)(hl:l.Seen.length<256):WI 1000 l o=some (Zb l o):=by
 have hcl:=h.callsLe (by omega)
 refine Ok.eq ?_
 unfold WI Zb
 refine Ok.j (Ok.oe (Un h.w (by omega)) (Ok.t (Ok.oe ho.valid (Ok.t ?_))))
 try dsimp only
 refine Ok.oe (Qtr h.plens (by omega) (by omega) (by omega)) (Ok.oe (Qb4 (by omega)) (Ok.cnd (fun g=>Ok.s ?_) (fun g=>?_)))
 ·rw[if_pos g]
 ·rw[if_neg (by rw[g];simp)]
  have h2:=h.see ho ht g hl
  refine Ok.N (Ok.LS (Ok.oe (QqQ (l:={ l with Now:=max l.Now o.At,Seen:=l.Seen++[o.ID] }) h2 hn hpg ho) (Ok.s rfl)))
end
end Go.Proofs.YtadlpefpehjcoaaGreat
/-
  Operations and ledgers that are made by dice.
-/
namespace Go.Proofs.YtadlpefpehjcoaaGreat
open Go AM
attribute [local irreducible] dueV stepV runV QQ answerV
section
variable {n:Nat} {c:D.Config} {b:D.Book} {p q:D.Page} {now M m:Int} {l:D.Ledger} {i:Nat} {o:D.Op} {L:List Int} {d:D.Dice}
def Ids(m:Int)(l:D.Ledger):Prop:=∀p∈l.Pages,p.ID≤m
theorem Ids.mono{k:Int}(h:Ids m l)(hk:m≤k):Ids k l:=fun p hp=>Int.le_trans (h p hp) hk
theorem QvH{L:List D.Page}(ha:AscP L){k:Nat}(h:∀p∈L,1≤p.ID∧p.ID≤(k:Int)):L.length≤k:=by
 have hlo:∀i,i<L.length→(i:Int)+1≤(nth L i).ID:=by
  intro i
  induction i with
  |zero=>intro hi;have:=(h _ (Qi hi)).1;omega
  |succ i ih=>
   intro hi
   have:=ih (by omega)
   have:=QbZ ha (show i<i+1 by omega) hi
   omega
 rcases Nat.lt_or_ge k L.length with h1|h1
 ·have h2:=hlo (L.length - 1) (by omega)
  have h3:=(h _ (Qi (l:=L) (i:=L.length - 1) (by omega))).2
  omega
 ·exact h1
theorem Qd.small3{k:Nat}(h:Qd M n l)(hi:Ids (k:Int) l):l.Pages.length≤k:=
 QvH h.asc fun p hp=>⟨(h.page p hp).1.id.1,hi p hp⟩
theorem Ids.put(h:Ids m l)(hi:i<l.Pages.length)(hp:p.ID=(nth l.Pages i).ID):Ids m (putV l i p):=fun q hq=>by
 rcases List.mem_or_eq_of_mem_set hq with hq|rfl
 ·exact h q hq
 ·rw[hp];exact h _ (Qi hi)
theorem Ids.run(h:Ids m l)(hl:Qd M n l)(hi:i<l.Pages.length):Ids m (runI l i):=by
 rw[hl.runEq hi]
 exact h.put hi (Qdx hl.book QT.step (hl.at hi).1).id
theorem Ids.runs(h:Ids m l)(hl:Qd M n l):∀{k:Nat},k≤l.Pages.length→Ids m (Zk l k)
 |0,_=>h
 |k+1,hk=>by
  rw[Zk]
  exact(Ids.runs h hl (k:=k) (by omega)).run (hl.runs (by omega)) (by have:=(Ym (l:=l) (k:=k)).2.2.2.2.2.2;omega)
theorem Ids.op(h:Ids m l)(hl:Qd M n l)(ho:OpIn o)(hp:o.Kind=1→o.Page≤m):Ids m (opV l o).1:=by
 unfold opV
 split
 ·rename_i k1
  split
  ·exact h
  ·rename_i hh
   split
   ·exact h
   ·split
    ·exact h
    ·split
     ·rename_i h1 h2 h3
      have hop:=ho.page
      have hi:=hl.open (o:=o) (by simpa using hh) (by omega) h3 (by have:=hl.len;omega)
      have hid:Ids m { l with Pages:=insP l.Pages (newP o.Page o.Policy l.Now) }:=fun q hq=>by
       rcases Qfy.1 hq with rfl|hq
       ·exact hp k1
       ·exact h q hq
      exact hid.run hi.1 hi.2.1
     ·exact h
 ·split
  ·split
   ·exact h
   ·exact h
  ·split
   ·split
    ·split
     ·rename_i hh
      generalize (if (nth l.Pages (posV o.Page l.Pages)).State=2 then(-1:Int)else(nth l.Pages (posV o.Page l.Pages)).Next)=kk
      split
      ·exact h.run hl (Vn hh).1
      ·exact h
     ·exact h
    ·exact h
   ·split
    ·split
     ·rename_i hh
      have hi:=(Vn hh).1
      split
      ·rename_i he
       have h2:=hl.run hi
       have hk:=YI (l:=l) (i:=posV o.Answer.Page l.Pages)
       refine(h.run hl hi).put (by omega) ?_
       rcases QaP he with e|e
       ·rw[e]
       ·rw[e];exact Qga.1
      ·exact h.run hl hi
     ·exact h
    ·split
     ·exact h.runs hl (Nat.le_refl _)
     ·exact h.runs hl (Nat.le_refl _)
theorem Ids.apply(h:Ids m l)(hl:Qd M n l)(ho:OpIn o)(ht:max l.Now o.At≤M - 20000)(hs:l.Seen.length<256)(hp:o.Kind=1→o.Page≤m):Ids m (Zb l o).1:=by
 unfold Zb
 split
 ·exact h
 ·rename_i hse
  exact Ids.op (l:={ l with Now:=max l.Now o.At,Seen:=l.Seen++[o.ID] }) h (hl.see ho ht (by simpa using hse) hs) ho hp
theorem Qhy:(opV l o).1.Now=l.Now∧(opV l o).1.Seen=l.Seen:=by
 unfold opV
 have h1:=fun i=>YI (l:=l) (i:=i)
 have h2:=fun k=>Ym (l:=l) (k:=k)
 split
 ·split
  ·exact⟨rfl,rfl⟩
  ·split
   ·exact⟨rfl,rfl⟩
   ·split
    ·exact⟨rfl,rfl⟩
    ·split
     ·exact⟨(YI (l:={ l with Pages:=insP l.Pages (newP o.Page o.Policy l.Now) })).1,(YI (l:={ l with Pages:=insP l.Pages (newP o.Page o.Policy l.Now) })).2.2.2.2.2.1⟩
     ·exact⟨rfl,rfl⟩
 ·split
  ·split<;>exact⟨rfl,rfl⟩
  ·split
   ·split
    ·split
     ·generalize (if (nth l.Pages (posV o.Page l.Pages)).State=2 then(-1:Int)else(nth l.Pages (posV o.Page l.Pages)).Next)=kk
      split
      ·exact⟨(h1 _).1,(h1 _).2.2.2.2.2.1⟩
      ·exact⟨rfl,rfl⟩
     ·exact⟨rfl,rfl⟩
    ·exact⟨rfl,rfl⟩
   ·split
    ·split
     ·split
      ·exact⟨(h1 _).1,(h1 _).2.2.2.2.2.1⟩
      ·exact⟨(h1 _).1,(h1 _).2.2.2.2.2.1⟩
     ·exact⟨rfl,rfl⟩
    ·split
     ·exact⟨(h2 _).1,(h2 _).2.2.2.2.2.1⟩
     ·exact⟨(h2 _).1,(h2 _).2.2.2.2.2.1⟩
theorem QhS:(Zb l o).1.Seen.length≤l.Seen.length+1∧((Zb l o).1.Now=l.Now∨(Zb l o).1.Now=max l.Now o.At):=by
 unfold Zb
 split
 ·exact⟨by dsimp only;omega,.inl rfl⟩
 ·have:=Qhy (l:={ l with Now:=max l.Now o.At,Seen:=l.Seen++[o.ID] }) (o:=o)
  exact⟨by rw[this.2];simp,.inr this.1⟩
theorem Qqu{t:Int}(h:Qd M n l)(hpg:l.Pages.length≤9):Ok (Xw 1000 l t) fun w=>w.length≤9∧∀s∈w,∃p∈l.Pages,s.K=p.ID:=by
 unfold Xw
 refine Ok.j ?_
 refine Ok.loop (fun m x=>∃(i:Nat) (w:List D.Start),x=((t,(i:Int),()),l,w,())∧i≤l.Pages.length∧w.length≤i∧(∀s∈w,∃p∈l.Pages,s.K=p.ID)∧m=l.Pages.length - i) (m:=l.Pages.length) (by omega) ⟨0,[],rfl,by omega,by simp,by simp,rfl⟩ ?_
 rintro m x ⟨i,w,rfl,i1,i2,i3,rfl⟩ K hK
 try dsimp only
 refine Ok.j (Ok.ite (fun hi=>?_) (fun hi=>Ok.s ⟨by omega,i3⟩))
 have hlt:i<l.Pages.length:=by omega
 refine Ok.oe (Un h.w hpg) (Ok.t ?_)
 try dsimp only
 have next:∀w:List D.Start,w.length≤i+1→(∀s∈w,∃p∈l.Pages,s.K=p.ID)→Ok (K ((t,IntKind.wrap .i64 ((i:Int)+1),()),l,w,())) fun w=>w.length≤9∧∀s∈w,∃p∈l.Pages,s.K=p.ID:=fun w h1 h2=>by
  try dsimp only
  rw[Qb (by omega)]
  exact hK _ _ (by omega) ⟨i+1,w,rfl,by omega,h1,h2,rfl⟩
 refine Ok.j (Ok.atn hlt (Ok.oe QdK (Ok.cnd (fun g=>Ok.ite (fun g2=>Ok.atn hlt (Ok.LS (next _ (by simp;omega) ?_))) (fun g2=>next w (by omega) i3)) (fun g=>next w (by omega) i3))))
 exact WQ i3 ⟨_,Qi hlt,rfl⟩
theorem QwN{id t:Int}(hL:L.length≤500)(hd:ZJ L d)(h:Qd M n l)(hids:Ids 3 l)(hid:1≤id∧id≤1000)(ht:0≤t∧t≤8589934592):
  Ok (QaV 1000 d l id t) fun r=>ZJ L r.2∧OpIn r.1∧r.1.ID=id∧r.1.At=t∧(r.1.Kind=1→1≤r.1.Page∧r.1.Page≤3)∧(r.1.Kind=4→r.1.Answer.Person<4):=by
 have hpl:=h.book.plen;have hfe:=h.fence;have hse:=h.seen.len;have how:=h.owner
 have hpg:=h.small3 (k:=3) hids
 unfold QaV
 refine Ok.opt (nx hL hd (by omega) (by omega)) fun⟨a0,d1⟩ ⟨h1,l1,u1⟩=>?_
 try dsimp only at h1 l1 u1 ⊢
 refine Ok.opt (nx hL h1 (by omega) (by omega)) fun⟨a2,d3⟩ ⟨h3,l3,u3⟩=>?_
 try dsimp only at h3 l3 u3 ⊢
 refine Ok.opt (nx hL h3 (by omega) (by omega)) fun⟨a4,d5⟩ ⟨h5,l5,u5⟩=>?_
 try dsimp only at h5 l5 u5 ⊢
 rw[Qc (x:=1+a0) (by omega),Qc (x:=1+a4) (by omega)]
 have noEdit:∀{P:Prop},¬(1+a0=5)→1+a0=5→P:=fun h1 h2=>absurd h2 h1
 refine Ok.j (Ok.ite (fun k1=>?_) (fun k1=>Ok.ite (fun k2=>?_) (fun k2=>Ok.ite (fun k3=>?_) (fun k3=>Ok.ite (fun k4=>?_) (fun k4=>Ok.ite (fun k5=>?_) (fun k5=>?_))))))
 ·refine Ok.opt (nx hL h5 (by omega) (by omega)) fun⟨a10,d11⟩ ⟨h11,l11,u11⟩=>?_
  try dsimp only at h11 l11 u11 ⊢
  rw[Qc (x:=((l.Book.Policies.length:Nat):Int)+1) (by omega),Qc (x:=((l.Book.Policies.length:Nat):Int)+1 - a10) (by omega)]
  refine Ok.opt (nx hL h11 (by omega) (by omega)) fun⟨a12,d13⟩ ⟨h13,l13,u13⟩=>Ok.s ⟨h13,?_,rfl,rfl,fun _=>by dsimp only;omega,fun e=>absurd (show 1+a0=4 from e) (by omega)⟩
  exact⟨by dsimp only;omega,by dsimp only;omega,by dsimp only;omega,by dsimp only;omega,ht,by dsimp only;omega,by dsimp only;omega,fun e=>absurd (show 1+a0=4 from e) (by omega),fun e=>absurd (show 1+a0=5 from e) (by omega)⟩
 ·refine Ok.opt (QbB hL h5 (by simp) (by simp)) fun⟨a14,d15⟩ ⟨h15,m15⟩=>?_
  try dsimp only at h15 m15 ⊢
  simp only[List.mem_cons,List.not_mem_nil,or_false]at m15
  try dsimp only
  rw[Qc (x:=l.Fence+a14) (by omega)]
  refine Ok.s ⟨h15,?_,rfl,rfl,fun e=>absurd (show 1+a0=1 from e) k1,fun e=>absurd (show 1+a0=4 from e) (by omega)⟩
  exact⟨by dsimp only;omega,by dsimp only;omega,by dsimp only;omega,by dsimp only;omega,ht,by dsimp only;omega,by dsimp only;omega,fun e=>absurd (show 1+a0=4 from e) (by omega),fun e=>absurd (show 1+a0=5 from e) (by omega)⟩
 ·-- a proposed start
  have hop:∀o:D.Op,OpIn o→o.ID=id→o.At=t→o.Kind=3→∀d,ZJ L d→Ok (some (o,d)) fun r=>ZJ L r.2∧OpIn r.1∧r.1.ID=id∧r.1.At=t∧(r.1.Kind=1→1≤r.1.Page∧r.1.Page≤3)∧(r.1.Kind=4→r.1.Answer.Person<4):=fun o h1 h2 h3 h4 d hd=>Ok.s ⟨hd,h1,h2,h3,fun e=>absurd (show o.Kind=1 from e) (by omega),fun e=>absurd (show o.Kind=4 from e) (by omega)⟩
  refine Ok.join (fun y=>∃(d:D.Dice) (z o:D.Op),y=((t,1+a4,()),d,l,z,o,())∧ZJ L d∧OpIn o∧o.ID=id∧o.At=t∧o.Kind=3) (fun y hy=>?_) (fun J hJ=>?_)
  ·obtain⟨d,z,o,rfl,j1,j2,j3,j4,j5⟩:=hy
   try dsimp only
   refine Ok.join (fun y=>∃(d:D.Dice) (z o:D.Op),y=((t,1+a4,()),d,l,z,o,())∧ZJ L d∧OpIn o∧o.ID=id∧o.At=t∧o.Kind=3) (fun y hy=>?_) (fun J hJ=>?_)
   ·obtain⟨d,z,o,rfl,j1,j2,j3,j4,j5⟩:=hy
    try dsimp only
    refine Ok.join (fun y=>∃(d:D.Dice) (z o:D.Op),y=((),l,z,o,d,())∧ZJ L d∧OpIn o∧o.ID=id∧o.At=t∧o.Kind=3) (fun y hy=>?_) (fun J hJ=>?_)
    ·obtain⟨d,z,o,rfl,j1,j2,j3,j4,j5⟩:=hy
     try dsimp only
     refine Ok.oe (Qrz h.plens h.asc (by omega)) ?_
     unfold Qbi
     by_cases hh:hasV o.Page l.Pages=true
     ·rw[if_pos hh]
      try dsimp only
      have hi:=Vn hh
      obtain⟨g1,_⟩:=h.at hi.1
      have hnx:=(ZW (g1.check h.book)).next
      have hcn:=Yd (g1.polOK h.book)
      refine Ok.t (Ok.ite (fun g=>Ok.s ⟨j1,?_,j3,j4,fun e=>absurd (show o.Kind=1 from e) (by omega),fun e=>absurd (show o.Kind=4 from e) (by omega)⟩) (fun g=>Ok.s ⟨j1,?_,j3,j4,fun e=>absurd (show o.Kind=1 from e) (by omega),fun e=>absurd (show o.Kind=4 from e) (by omega)⟩))
      ·exact⟨j2.id,j2.kind,j2.region,j2.fence,j2.at_,j2.page,by dsimp only;omega,j2.answer,j2.edit⟩
      ·exact⟨j2.id,j2.kind,j2.region,j2.fence,j2.at_,j2.page,by dsimp only;omega,j2.answer,j2.edit⟩
     ·rw[if_neg hh]
      exact Ok.f (hop _ j2 j3 j4 j5 _ j1)
    ·refine Ok.opt (Qqu h (by omega)) fun w ⟨w1,w2⟩=>?_
     refine Ok.ite (fun g=>?_) (fun g=>hJ _ ⟨_,_,_,rfl,j1,⟨j2.id,j2.kind,j2.region,j2.fence,j2.at_,by dsimp only;omega,j2.k,j2.answer,j2.edit⟩,j3,j4,j5⟩)
     refine Ok.opt (nx hL j1 (by omega) (by omega)) fun⟨a36,d37⟩ ⟨h37,l37,u37⟩=>?_
     try dsimp only at h37 l37 u37 ⊢
     refine Ok.at l37 u37 (hJ _ ⟨_,_,_,rfl,h37,⟨j2.id,j2.kind,j2.region,j2.fence,j2.at_,?_,j2.k,j2.answer,j2.edit⟩,j3,j4,j5⟩)
     obtain⟨p,hp,e⟩:=w2 _ (Qi (l:=w) (i:=a36.toNat) (by omega))
     have:=(h.page p hp).1.id
     try dsimp only
     omega
   ·refine Ok.opt (nx hL j1 (by omega) (by omega)) fun⟨a40,d41⟩ ⟨h41,_⟩=>Ok.ite (fun g=>?_) (fun g=>hJ _ ⟨_,_,_,rfl,h41,j2,j3,j4,j5⟩)
    try dsimp only at h41
    refine Ok.opt (nx hL h41 (by omega) (by omega)) fun⟨a42,d43⟩ ⟨h43,l43,u43⟩=>hJ _ ⟨_,_,_,rfl,h43,⟨j2.id,j2.kind,j2.region,?_,j2.at_,j2.page,j2.k,j2.answer,j2.edit⟩,j3,j4,j5⟩
    try dsimp only at l43 u43 ⊢
    omega
  ·refine Ok.opt (nx hL h5 (by omega) (by omega)) fun⟨a45,d46⟩ ⟨h46,_⟩=>Ok.ite (fun g=>?_) (fun g=>?_)
   ·try dsimp only at h46
    refine Ok.opt (nx hL h46 (by omega) (by omega)) fun⟨a47,d48⟩ ⟨h48,l48,u48⟩=>hJ _ ⟨_,_,_,rfl,h48,?_,rfl,rfl,k3⟩
    try dsimp only at l48 u48
    exact⟨by dsimp only;omega,by dsimp only;omega,by dsimp only;omega,by dsimp only;omega,ht,by dsimp only;omega,by dsimp only;omega,fun e=>absurd (show 1+a0=4 from e) (by omega),fun e=>absurd (show 1+a0=5 from e) (by omega)⟩
   ·refine hJ _ ⟨_,_,_,rfl,h46,?_,rfl,rfl,k3⟩
    exact⟨by dsimp only;omega,by dsimp only;omega,by dsimp only;omega,by dsimp only;omega,ht,by dsimp only;omega,by dsimp only;omega,fun e=>absurd (show 1+a0=4 from e) (by omega),fun e=>absurd (show 1+a0=5 from e) (by omega)⟩
 ·refine Ok.opt (nx hL h5 (by omega) (by omega)) fun⟨a49,d50⟩ ⟨h50,l50,u50⟩=>?_
  try dsimp only at h50 l50 u50 ⊢
  rw[Qc (x:=1+a49) (by omega)]
  refine Ok.opt (QqO hL h50) fun⟨a,d52⟩ ⟨h52,ha,e1,e2,e3⟩=>Ok.s ⟨h52,?_,rfl,rfl,fun e=>absurd (show 1+a0=1 from e) k1,fun _=>ha.pers.2⟩
  try dsimp only at ha e1 e2 e3
  exact⟨by dsimp only;omega,by dsimp only;omega,by dsimp only;omega,by dsimp only;omega,ht,by dsimp only;omega,by dsimp only;omega,fun _=>⟨ha.valid (by omega) (by omega) (by omega),fun e=>(ha.arg3 e).2⟩,fun e=>absurd (show 1+a0=5 from e) (by omega)⟩
 ·refine Ok.opt (nx hL h5 (by omega) (by omega)) fun⟨a53,d54⟩ ⟨h54,l54,u54⟩=>?_
  try dsimp only at h54 l54 u54 ⊢
  refine Ok.opt (QiN hL h54) fun⟨x,d56⟩ ⟨h56,hx⟩=>Ok.s ⟨h56,?_,rfl,rfl,fun e=>absurd (show 1+a0=1 from e) k1,fun e=>absurd (show 1+a0=4 from e) (by omega)⟩
  try dsimp only at hx
  exact⟨by dsimp only;omega,by dsimp only;omega,by dsimp only;omega,by dsimp only;omega,ht,by dsimp only;omega,by dsimp only;omega,fun e=>absurd (show 1+a0=4 from e) k4,fun _=>hx⟩
 ·omega
structure Qs4 (k:Nat) (l:D.Ledger):Prop where
 inv:Qd 1000000 (2+k) l
 ids:Ids 3 l
 seen:l.Seen.length≤k
 now:l.Now≤864000+700*(k:Int)
theorem Qp3(hc:Q3 2 c)(hb:QJ b):Qd 1000000 2 { Now:=0,Config:=c,Book:=b,Pages:=[],Owner:=-1,Fence:=0,Seen:=[],Calls:=[] }:=
 ⟨by omega,by dsimp only;omega,by omega,hc,hb,by simp,List.Pairwise.nil,by simp,by dsimp only;omega,by simp,⟨by simp,List.nodup_nil,by simp⟩,by simp,by simp⟩
theorem QvS(hc:Q3 n c)(hn:n≤48)(hb:QJ b):Qi9 1000 c b=some ({ Now:=0,Config:=c,Book:=b,Pages:=[],Owner:=-1,Fence:=0,Seen:=[],Calls:=[] },0):=by
 refine Ok.eq ?_
 unfold Qi9
 exact Ok.oe (Qmd hc hn hb) (Ok.NS (Ok.s rfl))
end
end Go.Proofs.YtadlpefpehjcoaaGreat
/-
  Plain laws of operations on ledgers: what a refused one leaves, what one that comes twice does, which pages one touches.
-/
namespace Go.Proofs.YtadlpefpehjcoaaGreat
open Go AM
attribute [local irreducible] dueV stepV runV QQ answerV
section
variable {n:Nat} {c:D.Config} {b:D.Book} {p q:D.Page} {now M:Int} {l:D.Ledger} {i:Nat} {o:D.Op}
def seeV(l:D.Ledger)(o:D.Op):D.Ledger:={ l with Now:=max l.Now o.At,Seen:=l.Seen++[o.ID] }
theorem VV(hs:l.Seen.contains o.ID=false):Zb l o=opV (seeV l o) o:=by
 unfold Zb;rw[hs];rfl
theorem QpD(hs:l.Seen.contains o.ID=false):(Zb l o).1.Now=max l.Now o.At:=by
 rw[VV hs,(Qhy).1];rfl
def ansP(c:D.Config)(b:D.Book)(p:D.Page)(a:D.Answer)(now:Int):D.Page:=
 if (answerV b (runV c b p now).1 { a with At:=now }).2=0 then(answerV b (runV c b p now).1 { a with At:=now }).1 else(runV c b p now).1
theorem Qp4(h:Qd M n l)(hk:o.Kind=4):(opV l o).1.Config=l.Config∧(opV l o).1.Book=l.Book∧
  (opV l o).1.Pages=if hasV o.Answer.Page l.Pages=true then l.Pages.set (posV o.Answer.Page l.Pages) (ansP l.Config l.Book (nth l.Pages (posV o.Answer.Page l.Pages)) o.Answer l.Now)else l.Pages:=by
 unfold opV
 rw[if_neg (by omega),if_neg (by omega),if_neg (by omega),if_pos hk]
 split
 ·rename_i g
  obtain⟨g1,g2⟩:=Vn g
  have hpg:=Qay h g1 (j:=posV o.Answer.Page l.Pages)
  rw[if_pos rfl]at hpg
  have hpages:(runI l (posV o.Answer.Page l.Pages)).Pages=l.Pages.set (posV o.Answer.Page l.Pages) (runV l.Config l.Book (nth l.Pages (posV o.Answer.Page l.Pages)) l.Now).1:=by
   rw[h.runEq g1];rfl
  split
  ·rename_i g3
   rw[hpg]at g3
   refine⟨YI.2.1,YI.2.2.1,?_⟩
   show List.set _ _ _=_
   rw[hpages,List.set_set,←hpages,hpg]
   unfold ansP
   rw[if_pos g3]
  ·rename_i g3
   rw[hpg]at g3
   refine⟨YI.2.1,YI.2.2.1,?_⟩
   show(runI l _).Pages=_
   rw[hpages]
   unfold ansP
   rw[if_neg g3]
 ·exact⟨rfl,rfl,rfl⟩
end
end Go.Proofs.YtadlpefpehjcoaaGreat
/-
  Ledgers looked at: what the program's check computes.
-/
namespace Go.Proofs.YtadlpefpehjcoaaGreat
open Go AM
attribute [local irreducible] dueV stepV runV QQ answerV
section
variable {n:Nat} {c:D.Config} {b:D.Book} {p q:D.Page} {now M:Int} {l:D.Ledger} {i:Nat}
theorem QvQ:∀i,i<2→U8 1000 (nth Qfk i)=some true:=forall2 (by kernel_rfl) (by kernel_rfl)
theorem QvP:∀i,i<3→U8 1000 (nth Qjt i)=some true:=forall3 (by kernel_rfl) (by kernel_rfl) (by kernel_rfl)
theorem Qrs(hb:QJ b){i:Nat}(hi:i<b.Teams.length):Zp 1000 (i:Int) b=some false:=by
 have htl:=hb.tlen
 have hone:∀j,j<b.Teams.length→WF 1000 (j:Int) b=some (nth Qfk j):=fun j hj=>by
  refine Ok.eq ?_
  unfold WF
  exact Ok.atn hj (Ok.sameC (Ok.s (hb.tnm hj)))
 refine Ok.eq ?_
 unfold Zp
 refine Ok.run2 i (fun k=>((i:Int),(i:Int),(k:Int),())) rfl (by omega) (fun k hk K hK=>?_) (fun K=>by dsimp only;exact Ok.N (Ok.sameC (Ok.s rfl)))
 try dsimp only
 refine Ok.P (Ok.oe (hone k (by omega)) (Ok.oe (hone i hi) (Ok.n (Qmc i (by omega) k hk) ?_)))
 try dsimp only
 rw[Qb (by omega)];exact hK
theorem Qrr(hb:QJ b){i:Nat}(hi:i<b.Policies.length):Zq 1000 (i:Int) b=some false:=by
 have htl:=hb.plen
 have hone:∀j,j<b.Policies.length→WG 1000 (j:Int) b=some (nth Qjt j):=fun j hj=>by
  refine Ok.eq ?_
  unfold WG
  exact Ok.atn hj (Ok.sameC (Ok.s (hb.pnm hj)))
 refine Ok.eq ?_
 unfold Zq
 refine Ok.run2 i (fun k=>((i:Int),(i:Int),(k:Int),())) rfl (by omega) (fun k hk K hK=>?_) (fun K=>by dsimp only;exact Ok.N (Ok.sameC (Ok.s rfl)))
 try dsimp only
 refine Ok.P (Ok.oe (hone k (by omega)) (Ok.oe (hone i hi) (Ok.n (QoP i (by omega) k hk) ?_)))
 try dsimp only
 rw[Qb (by omega)];exact hK
theorem Qwd{t:D.Team}(h:Q3 n c)(ht:Ql0 t):QdX 1000 c t.Members=some 0:=by
 have hpl:=h.plen;have hml:=ht.len
 refine Ok.eq ?_
 unfold QdX
 refine Ok.N (Ok.run2 (t.Members.length - 1) (fun k=>(t.Members,((k+1:Nat):Int),())) rfl (by omega) (fun k hk K hK=>?_) (fun K=>?_))
 ·try dsimp only
  have:=Qgb ht.asc (show k<k+1 by omega) (show k+1<t.Members.length by omega)
  refine Ok.P (Ok.A ?_)
  rw[show IntKind.wrap .i64 (((k+1:Nat):Int) - 1)=((k:Nat):Int)by rw[Qc (by omega)];omega]
  refine Ok.A (Ok.N ?_)
  try dsimp only
  rw[Qb (by omega)];exact hK
 ·try dsimp only
  rw[hpl]
  have h1:=ht.mem _ (Qi (l:=t.Members) (i:=0) (by omega))
  have h2:=ht.mem _ (Qi (l:=t.Members) (i:=t.Members.length - 1) (by omega))
  refine Ok.N (Ok.j (Ok.at (by omega) (by omega) ?_))
  rw[show IntKind.wrap .i64 (((4:Nat):Int) - 1)=3 from rfl,show IntKind.wrap .i64 (((t.Members.length:Nat):Int) - 1)=((t.Members.length - 1:Nat):Int)by rw[Qc (by omega)];omega]
  refine Ok.oe pIn (Ok.p ⟨h1.1,by have:=h1.2;show nth t.Members (0:Int).toNat≤3;simp only[Int.toNat_zero];omega⟩ (Ok.A (Ok.oe pIn (Ok.P (Ok.s rfl)))))
theorem Qui{s:D.PolicyStep}(h:Q3 n c)(hb:QJ b)(hs:StepOK' b.Teams.length s):Qcf 1000 c b s=some 0:=by
 have hpl:=h.plen;have hsl:=h.slen;have htl:=hb.tlen;have hw:=hs.wait;have htn:=hs.len
 have hsz:Wa 1000 c b=some ⟨4,2,((b.Teams.length:Nat):Int)⟩:=by unfold Wa;rw[hpl,hsl];rfl
 refine Ok.eq ?_
 unfold Qcf
 refine Ok.oe pIn (Ok.np (by omega) (Ok.N (Ok.oe hsz ?_)))
 try dsimp only
 refine Ok.run2 s.Targets.length (fun i=>(s.Targets,((s.Targets.length:Nat):Int),(i:Int),())) rfl (by omega) (fun i hi K hK=>?_) (fun K=>by dsimp only;exact Ok.N (Ok.s rfl))
 try dsimp only
 have hx:=hs.target _ (Qi hi)
 have h1:=hx.lo;have h2:=hx.person;have h3:=hx.sched;have h4:=hx.team
 refine Ok.P (Ok.j (Ok.atn hi (Ok.oe pIn (Ok.p (by have:=hx.kind;omega) ?_))))
 have next:Ok (K ((s.Targets,((s.Targets.length:Nat):Int),IntKind.wrap .i64 ((i:Int)+1),()),(4,2,((b.Teams.length:Nat):Int),()),())) (·=0):=by rw[Qb (by omega)];exact hK
 rcases hx.kind with hk|hk|hk
 ·have:=h2 hk
  refine Ok.P (Ok.oe pIn (Ok.p ⟨h1,by rw[Qc (by omega)];omega⟩ next))
 ·have:=h3 hk
  refine Ok.N (Ok.P (Ok.oe pIn (Ok.p ⟨h1,by rw[Qc (by omega)];omega⟩ next)))
 ·have:=h4 hk
  refine Ok.N (Ok.N (Ok.P (Ok.oe pIn (Ok.p ⟨h1,by rw[Qc (by omega)];omega⟩ next))))
theorem Qtl(h:Q3 n c)(hn:n≤48)(hb:QJ b):Qa2 1000 c b=some 0:=by
 have htl:=hb.tlen;have hpl:=hb.plen
 refine Ok.eq ?_
 unfold Qa2
 refine Ok.oe (Qhp h hn) (Ok.NS (Ok.j (Ok.N (Ok.N ?_))))
 refine Ok.run b.Teams.length (fun i=>((b.Teams,((b.Teams.length:Nat):Int),(i:Int),()),c,b,())) rfl (by omega) (fun i hi K hK=>?_) (fun K=>?_)
 ·try dsimp only
  have ht:=hb.team _ (Qi hi)
  refine Ok.P (Ok.atn hi (Ok.oe (by rw[hb.tnm hi];exact QvQ i (by omega)) (Ok.nt rfl (Ok.oe (Qrs hb hi) (Ok.f (Ok.oe (Qwd h ht) (Ok.NS ?_)))))))
  try dsimp only
  rw[Qb (by omega)];exact hK
 ·try dsimp only
  refine Ok.N (Ok.run b.Policies.length (fun i=>((((b.Policies.length:Nat):Int),(i:Int),()),c,b,())) rfl (by omega) (fun i hi K hK=>?_) (fun K=>by dsimp only;exact Ok.N (Ok.s rfl)))
  try dsimp only
  have ht:=hb.pol _ (Qi hi)
  have hml:=ht.len;have hrp:=ht.rep
  refine Ok.P (Ok.oe (v:=0) ?_ (Ok.NS ?_))
  ·refine Ok.eq ?_
   unfold Qdc
   refine Ok.atn hi (Ok.oe (by rw[hb.pnm hi];exact QvP i (by omega)) (Ok.nt rfl (Ok.oe (Qrr hb hi) (Ok.f (Ok.N (Ok.N (Ok.oe pIn (Ok.np (by omega) ?_))))))))
   refine Ok.run (nth b.Policies i).Steps.length (fun k=>(((nth b.Policies i).Steps,(((nth b.Policies i).Steps.length:Nat):Int),(k:Int),()),c,b,())) rfl (by omega) (fun k hk K2 hK2=>?_) (fun K2=>by dsimp only;exact Ok.N (Ok.s rfl))
   try dsimp only
   refine Ok.P (Ok.atn hk (Ok.oe (Qui h hb (ht.step _ (Qi hk))) (Ok.NS ?_)))
   try dsimp only
   rw[Qb (by omega)];exact hK2
  ·try dsimp only
   rw[Qb (by omega)];exact hK
theorem oin{fu:Nat}{x lo hi:Int}:Xv fu x lo hi=some (inV x lo hi):=by
 unfold Xv inV
 by_cases h1:lo≤x<;>by_cases h2:x≤hi<;>simp[cd,AM.cnd,h1,h2]
theorem Qud{L:List Int}(h:QjV L 256):QdS 1000 L=some true:=by
 have hl:=h.len
 refine Ok.eq ?_
 unfold QdS
 refine Ok.run L.length (fun i=>((L,L,((L.length:Nat):Int),(i:Int),()),())) rfl (by omega) (fun i hi k hk=>?_) (fun k=>by dsimp only;exact Ok.N (Ok.s (decide_eq_true (by omega))))
 try dsimp only
 have hx:=h.fit _ (Qi hi)
 have hno:(L.take i).contains (nth L i)=false:=by
  cases hc:(L.take i).contains (nth L i)with
  |false=>rfl
  |true=>
   have:=QhI hi hc
   rw[decide_eq_true h.nodup]at this;simp at this
 refine Ok.P (Ok.j (Ok.atn hi (Ok.oe oin (Ok.bt (QL.2 hx) (Ok.natn (Ok.L (Ok.oe (Qb0 (by simp;omega)) (Ok.bf hno ?_))))))))
 try dsimp only
 rw[Qb (by omega)];exact hk
structure DelC (p0:List D.Call) (q:D.Call→Bool) (w j:Nat) (a:List D.Call):Prop where
 len:a.length=p0.length
 wj:w≤j∧j≤p0.length
 done:a.take w=(p0.take j).filter q
 rest:∀k,j≤k→nth a k=nth p0 k
theorem Qir{L:List D.Call}{q:D.Call→Bool}{i:Nat}(hi:i≤L.length)(h:∀j,j<i→q (nth L j)=true):(L.take i).filter q=L.take i:=by
 refine List.filter_eq_self.2 fun x hx=>?_
 obtain⟨k,hk,rfl⟩:=List.getElem_of_mem hx
 rw[List.length_take]at hk
 have:=h k (by omega)
 simpa [nth,List.getD_eq_getElem?_getD,List.getElem?_eq_getElem (show k<L.length by omega)]using this
theorem Qpj{L:List D.Call}{j k:Nat}{x:D.Call}(hj:j<L.length):nth (L.set j x) k=if k=j then x else nth L k:=by
 by_cases e:k=j
 ·subst e;rw[if_pos rfl,Xq hj]
 ·rw[if_neg e,U9 e]
theorem QpQ{p0:List D.Call}{q:D.Call→Bool}{i:Nat}(hi:i<p0.length)(h:∀j,j<i→q (nth p0 j)=true)(hx:q (nth p0 i)=false):DelC p0 q i (i+1) p0:=by
 refine⟨rfl,by omega,?_,fun k _=>rfl⟩
 rw[←Qw hi,List.filter_append,Qir (by omega) h]
 simp[hx]
theorem Qrp{p0 a:List D.Call}{q:D.Call→Bool}{w j:Nat}(h:DelC p0 q w j a)(hj:j<p0.length)(hx:q (nth a j)=true):DelC p0 q (w+1) (j+1) (a.set w (nth a j)):=by
 have h1:=h.wj
 have h2:=h.len
 refine⟨by simp[h.len],by omega,?_,fun k hk=>?_⟩
 ·rw[h.rest j (Nat.le_refl _)]at hx ⊢
  rw[←Qw hj,List.filter_append,←h.done,←Qw (l:=a.set w (nth p0 j)) (by simp;omega),Qpj (by omega),if_pos rfl,List.take_set_of_le (by omega)]
  simp[hx]
 ·rw[Qpj (by omega),if_neg (by omega)];exact h.rest k (by omega)
theorem Qrq{p0 a:List D.Call}{q:D.Call→Bool}{w j:Nat}(h:DelC p0 q w j a)(hj:j<p0.length)(hx:q (nth a j)=false):DelC p0 q w (j+1) a:=by
 have h1:=h.wj
 refine⟨h.len,by omega,?_,fun k hk=>h.rest k (by omega)⟩
 rw[h.rest j (Nat.le_refl _)]at hx
 rw[←Qw hj,List.filter_append,←h.done]
 simp[hx]
theorem Qsb{x:D.Call}:Vu 1000 x p=some (decide (x.Page≠p.ID)):=by
 unfold Vu
 rw[We]
theorem QvX{L:List D.Call}(hl:L.length≤900):Ok (QO 1000 L p) fun r=>List.drop r.1 (List.take r.2.1 r.2.2)=ownC p.ID L:=by
 have hown:∀{x:D.Call},decide (x.Page≠p.ID)=!(decide (x.Page=p.ID)):=fun{x}=>by by_cases e:x.Page=p.ID<;>simp[e]
 unfold QO
 have hidx:Ok (QR 1000 L p) fun r=>(r = -1∧(∀j,j<L.length→decide ((nth L j).Page=p.ID)=true))∨∃i:Nat,r=(i:Int)∧i<L.length∧decide ((nth L i).Page=p.ID)=false∧∀j,j<i→decide ((nth L j).Page=p.ID)=true:=by
  unfold QR
  refine Ok.scan2 L.length (fun i=>(((L.length:Nat):Int),(i:Int),())) (fun i=>!decide ((nth L i).Page=p.ID)) rfl (by omega) (fun i hi hq hj k=>?_) (fun i hi hq k hk=>?_) (fun hq k=>?_)
  ·refine Ok.P (Ok.natn (Ok.lt hi (Ok.get hi (Ok.oe Qsb ?_))))
   rw[hown]
   exact Ok.bt hq (Ok.sameC (Ok.sameC (Ok.s (.inr ⟨i,rfl,hi,by simpa using hq,fun j hj'=>by simpa using hj j hj'⟩))))
  ·refine Ok.P (Ok.natn (Ok.lt hi (Ok.get hi (Ok.oe Qsb ?_))))
   rw[hown]
   refine Ok.bf hq ?_
   try dsimp only
   rw[Qb (by omega)];exact hk
  ·exact Ok.N (Ok.sameC (Ok.sameC (Ok.s (.inl ⟨rfl,fun j hj=>by simpa using hq j hj⟩))))
 refine Ok.opt hidx fun r hr=>?_
 rcases hr with⟨rfl,hall⟩|⟨i,rfl,hi,hx,hj⟩
 ·refine Ok.p rfl (Ok.sameC (Ok.s ?_))
  try dsimp only
  have:=Qir (q:=fun z=>decide (z.Page=p.ID)) (Nat.le_refl _) hall
  rw[List.take_length]at this ⊢
  rw[List.drop_zero]
  exact this.symm
 ·refine Ok.N ?_
  try dsimp only
  rw[Qb (by omega)]
  refine Ok.loop (fun q x=>∃(w j:Nat) (a:List D.Call),x=((((w:Nat):Int),((j:Nat):Int),()),p,a,())∧DelC L (fun z=>decide (z.Page=p.ID)) w j a∧q=L.length - j) (m:=L.length - (i+1)) (by omega) ⟨i,i+1,L,rfl,QpQ hi hj hx,rfl⟩ ?_
  rintro q x ⟨w,j,a,rfl,hinv,rfl⟩ K hK
  have h1:=hinv.wj
  have h2:=hinv.len
  try dsimp only
  refine Ok.ite (fun hlt=>?_) (fun hge=>?_)
  ·refine Ok.j (Ok.natn (Ok.E (Ok.G (Ok.oe Qsb ?_))))
   rw[hown,Bool.not_not]
   refine Ok.cnd (fun hq=>?_) (fun hq=>?_)
   ·refine Ok.natn (Ok.E (Ok.G ?_))
    try dsimp only
    rw[Qb (by omega),Qb (by omega)]
    exact hK _ _ (by omega) ⟨w+1,j+1,_,rfl,Qrp hinv (by omega) hq,rfl⟩
   ·try dsimp only
    rw[Qb (by omega)]
    exact hK _ _ (by omega) ⟨w,j+1,a,rfl,Qrq hinv (by omega) hq,rfl⟩
  ·have ej:j=L.length:=by omega
   have hd:=hinv.done
   rw[ej,List.take_length]at hd
   refine Ok.natn (Ok.L (Ok.L (Ok.L (Ok.natn (Ok.LS (Ok.sameC (Ok.s ?_)))))))
   try dsimp only
   rw[List.drop_zero,List.append_assoc,List.take_append_of_le_length (by simp;omega),List.take_take,Nat.min_self]
   exact hd
theorem Qke{α:Type}[Inhabited α]{A B:List α}{z:Nat}:nth (A++B) (A.length+z)=nth B z:=by
 simp[nth,List.getD_eq_getElem?_getD,List.getElem?_append_right]
theorem Qrf{C:List D.Call}{f:Int}(hpl:Qz p)(hC:C.length≤900)(h1:C.map unf=QF p.ID 0 p.Starts)(h2:C.Pairwise fun x y=>x.Fence≤y.Fence)(h3:∀c∈C,0≤c.Fence∧c.Fence≤f):Qcc 1000 p C f=some true:=by
 have hst:=hpl.st
 have hlen:C.length=(QF p.ID 0 p.Starts).length:=by rw[←h1,List.length_map]
 have hnth:∀k,k<C.length→unf (nth C k)=nth (QF p.ID 0 p.Starts) k:=fun k hk=>by
  rw[←h1]
  simp[nth,List.getD_eq_getElem?_getD,List.getElem?_eq_getElem hk]
 obtain⟨lf,hlf⟩:∃lf:Nat→Int,∀k,lf k=if k=0 then 0 else(nth C (k - 1)).Fence:=⟨fun k=>_,fun k=>rfl⟩
 have hlow:∀k,k<C.length→lf k≤(nth C k).Fence∧(nth C k).Fence≤f:=fun k hk=>by
  have hf:=h3 _ (Qi hk)
  refine⟨?_,hf.2⟩
  rw[hlf]
  split
  ·exact hf.1
  ·have:=List.pairwise_iff_getElem.1 h2 (k - 1) k (by omega) hk (by omega)
   simpa [nth,List.getD_eq_getElem?_getD,List.getElem?_eq_getElem hk,List.getElem?_eq_getElem (show k - 1<C.length by omega)]using this
 refine Ok.eq ?_
 unfold Qcc
 refine Ok.run p.Starts.length (fun j=>((C,f,(((QF p.ID 0 (p.Starts.take j)).length:Nat):Int),lf (QF p.ID 0 (p.Starts.take j)).length,p.Starts,((p.Starts.length:Nat):Int),(j:Int),()),p,())) (by rw[hlf];rfl) (by omega) (fun j hj k hk=>?_) (fun k=>?_)
 ·try dsimp only
  refine Ok.P (Ok.atn hj ?_)
  have hts:p.Starts.take (j+1)=p.Starts.take j++[nth p.Starts j]:=(Qw hj).symm
  have hsp:p.Starts=p.Starts.take j++(nth p.Starts j::p.Starts.drop (j+1)):=by rw[←QcZ hj,List.take_append_drop]
  have hpe:=(hpl.pe _ (Qi hj)).1
  obtain⟨s,hs⟩:∃s,nth p.Starts j=s:=⟨_,rfl⟩
  rw[hs]at hts hsp hpe ⊢
  obtain⟨base,hbase⟩:∃base,(QF p.ID 0 (p.Starts.take j)).length=base:=⟨_,rfl⟩
  have hall:QF p.ID 0 p.Starts=QF p.ID 0 (p.Starts.take j)++(s.People.map (fun x=>D.Call.mk p.ID s.K s.At x 0)++QF p.ID 0 (p.Starts.drop (j+1))):=by
   conv=>lhs;rw[hsp]
   rw[Qbf]
   rfl
  have hbl:base+s.People.length≤C.length:=by rw[hlen,hall,←hbase];simp
  have hat:∀z,z<s.People.length→nth (QF p.ID 0 p.Starts) (base+z)=D.Call.mk p.ID s.K s.At (nth s.People z) 0:=fun z hz=>by
   rw[hall,←hbase,Qke,Qda (by simpa using hz)]
   simp[nth,List.getD_eq_getElem?_getD,hz]
  try dsimp only at hk
  rw[hts,QcU,List.length_append,List.length_map,hbase]at hk
  rw[hbase]
  refine Ok.run s.People.length (fun z=>((C,f,((base+z:Nat):Int),lf (base+z),p.Starts,((p.Starts.length:Nat):Int),(j:Int),s.People,((s.People.length:Nat):Int),(z:Int),()),p,s,())) rfl (by omega) (fun z hz k2 hk2=>?_) (fun k2=>?_)
  ·try dsimp only
   have hlt:base+z<C.length:=by omega
   have hlw:=hlow _ hlt
   have hun:=hnth _ hlt
   rw[hat z hz]at hun
   refine Ok.P (Ok.atn hz (Ok.j (Ok.N (Ok.atn hlt (Ok.oe oin (Ok.bt (QL.2 hlw) (Ok.atn hlt (Ok.atn hlt (Ok.n ?_ ?_)))))))))
   ·obtain⟨cc,hcc⟩:∃cc,nth C (base+z)=cc:=⟨_,rfl⟩
    rw[hcc]at hun ⊢
    obtain⟨c1,c2,c3,c4,c5⟩:=cc
    simp only[unf,D.Call.mk.injEq]at hun
    obtain⟨u1,u2,u3,u4,_⟩:=hun
    simp[u1,u2,u3,u4]
   ·try dsimp only
    refine Ok.atn hlt ?_
    try dsimp only
    rw[Qb (by omega),Qb (by omega)]
    try dsimp only at hk2
    rw[hlf (base+(z+1)),if_neg (by omega),show base+(z+1) - 1=base+z by omega]at hk2
    exact hk2
  ·try dsimp only
   refine Ok.N ?_
   try dsimp only
   rw[Qb (by omega)]
   exact hk
 ·try dsimp only
  rw[List.take_length]
  exact Ok.N (Ok.s (decide_eq_true (by rw[hlen])))
theorem Qmk{L:List D.Call}(h:L.length≤1000):Xl 1000 L=some L:=by unfold Xl;exact Xc (by omega)
theorem Qk5(h:LW M n l)(hpg:l.Pages.length≤9):X4 1000 l=some true:=by
 have htop:=h.top;have hnow:=h.now;have how:=h.owner;have hfe:=h.fence;have hse:=h.seen.len;have hcl:=h.callsLe hpg
 refine Ok.eq ?_
 unfold X4
 refine Ok.j (Ok.oe oin (Ok.bt (QL.2 (by omega)) (Ok.N (Ok.oe oin (Ok.bt (QL.2 how) (Ok.oe oin (Ok.bt (QL.2 (by omega)) (Ok.oe (Qud h.seen) (Ok.t ?_)))))))))
 try dsimp only
 refine Ok.oe (Qtl h.cfg h.small h.book) (Ok.p rfl (Ok.oe (v:=true) ?_ (Ok.t (Ok.s rfl))))
 refine Ok.eq ?_
 unfold QeW
 have hsle:∀i,sumC (l.Pages.take i) (fun p=>(ownC p.ID l.Calls).length)≤468*i:=fun i=>by
  have:=QoI (l:=l.Pages.take i) (f:=fun p=>(ownC p.ID l.Calls).length) (m:=468) fun p hp=>by
   show(ownC p.ID l.Calls).length≤468
   unfold ownC
   exact Nat.le_trans (List.length_filter_le _ _) hcl
  refine Nat.le_trans this (Nat.mul_le_mul_left _ ?_)
  simp only[List.length_take];omega
 refine Ok.run l.Pages.length (fun i=>((((sumC (l.Pages.take i) (fun p=>(ownC p.ID l.Calls).length):Nat):Int),l.Pages,((l.Pages.length:Nat):Int),(i:Int),()),l,())) rfl (by omega) (fun i hi k hk=>?_) (fun k=>?_)
 ·try dsimp only
  have hm:=Qi hi
  obtain⟨g1,g2⟩:=h.page _ hm
  have gt:=h.told _ hm
  have hs1:=hsle i
  refine Ok.P (Ok.atn hi ?_)
  have hasc:0<i→(nth l.Pages (i - 1)).ID<(nth l.Pages i).ID:=fun h0=>QbZ h.asc (by omega) hi
  try dsimp only at hk
  rw[←Qw hi,Qny]at hk
  obtain⟨p,hp⟩:∃p,nth l.Pages i=p:=⟨_,rfl⟩
  rw[hp]at g1 g2 gt hk hasc ⊢
  have hpl:=g1.plen h.book
  have hol:(ownC p.ID l.Calls).length≤468:=by unfold ownC;exact Nat.le_trans (List.length_filter_le _ _) hcl
  refine Ok.join (fun y=>y=((((sumC (l.Pages.take i) (fun p=>(ownC p.ID l.Calls).length):Nat):Int),l.Pages,((l.Pages.length:Nat):Int),(i:Int),()),l,p,())) (fun y hy=>?_) (fun J hJ=>?_)
  ·subst hy
   try dsimp only
   refine Ok.oe (Qmk (by omega)) (Ok.opt (QvX (p:=p) (by omega)) fun⟨r0,r1,r2⟩ hr=>?_)
   try dsimp only at hr ⊢
   rw[hr]
   refine Ok.oe (Qrf hpl (by omega) gt.same gt.up gt.fit) (Ok.f ?_)
   try dsimp only
   rw[Qb (by omega),Qc (by omega)]
   exact hk
  ·have tail:Ok (optc (Z8 1000 l.Book p) fun a13=>AM.cnd a13 (AM.cnd (decide (l.Now<p.Last)) (some false) (J ((((sumC (l.Pages.take i) (fun p=>(ownC p.ID l.Calls).length):Nat):Int),l.Pages,((l.Pages.length:Nat):Int),(i:Int),()),l,p,()))) (some false)) (·=true):=
    Ok.oe (Qho h.book hpl) (Ok.bt (g1.check h.book) (Ok.N (hJ _ rfl)))
   by_cases h0:0<i
   ·refine Ok.P ?_
    rw[show IntKind.wrap .i64 ((i:Int) - 1)=((i - 1:Nat):Int)by rw[Qc (by omega)];omega]
    have:=hasc h0
    exact Ok.A (Ok.N tail)
   ·exact Ok.N tail
 ·try dsimp only
  rw[List.take_length,h.callsN]
  exact Ok.N (Ok.s (decide_eq_true rfl))
end
end Go.Proofs.YtadlpefpehjcoaaGreat
/-
  Plain laws of operations on ledgers: takeovers and proposed starts change nothing in the long run.
-/
namespace Go.Proofs.YtadlpefpehjcoaaGreat
open Go AM
attribute [local irreducible] dueV stepV runV QQ answerV
section
variable {n:Nat} {c:D.Config} {b:D.Book} {p q:D.Page} {now M:Int} {l x:D.Ledger} {i:Nat} {o:D.Op}
theorem Qlj{id:Int}:∀{L K:List D.Page},L.map D.Page.ID=K.map D.Page.ID→posV id L=posV id K
 |[],[],_=>rfl
 |[],_::_,h=>by simp at h
 |_::_,[],h=>by simp at h
 |y::r,z::s,h=>by
  simp only[List.map_cons,List.cons.injEq]at h
  simp only[posV,h.1,Qlj h.2]
theorem QuG{L K:List D.Page}(hl:L.length=K.length)(h:∀i,i<L.length→(nth L i).ID=(nth K i).ID):L.map D.Page.ID=K.map D.Page.ID:=by
 refine List.ext_getElem (by simpa using hl) fun i h1 h2=>?_
 simp only[List.length_map]at h1 h2
 have:=h i h1
 simpa [nth,List.getD_eq_getElem?_getD,List.getElem?_eq_getElem h1,List.getElem?_eq_getElem h2]using this
theorem QtA{id:Int}{L K:List D.Page}(hl:L.length=K.length)(h:∀i,i<L.length→(nth L i).ID=(nth K i).ID):hasV id L=hasV id K:=by
 have e:=Qlj (id:=id) (QuG hl h)
 unfold hasV
 rw[e,hl]
 by_cases g:posV id K<K.length
 ·rw[h _ (by omega)]
 ·have:∀q:Prop,¬(posV id K<K.length∧q):=fun q hq=>g hq.1
  rw[decide_eq_false (this _),decide_eq_false (this _)]
theorem Qpl{L:List D.Page}{p:D.Page}{j:Nat}:nth (insP L p) j=if j<posV p.ID L then nth L j else if j=posV p.ID L then p else nth L (j - 1):=by
 have hp:=Qau (id:=p.ID) (l:=L)
 have htl:(L.take (posV p.ID L)).length=posV p.ID L:=by simp;omega
 unfold insP
 split
 ·rename_i g
  rw[Qda (by omega),Qhx g]
 ·rename_i g
  obtain⟨k,rfl⟩:∃k,j=(L.take (posV p.ID L)).length+k:=⟨j - posV p.ID L,by omega⟩
  rw[Qke,htl]
  cases k with
  |zero=>rw[if_pos (by omega),Qb9]
  |succ k=>
   rw[if_neg (by omega),UY,Qpk]
   congr 1
structure Alike (M:Int) (n:Nat) (l x:D.Ledger):Prop where
 li:Qd M n l
 xi:Qd M n x
 cfg:x.Config=l.Config
 book:x.Book=l.Book
 now:x.Now≤l.Now
 len:x.Pages.length=l.Pages.length
 page:∀i,i<l.Pages.length→(nth x.Pages i).ID=(nth l.Pages i).ID∧(runV l.Config l.Book (nth x.Pages i) l.Now).1=(runV l.Config l.Book (nth l.Pages i) l.Now).1
theorem Alike.has(h:Alike M n l x){id:Int}:hasV id x.Pages=hasV id l.Pages∧posV id x.Pages=posV id l.Pages:=by
 have e:∀i,i<x.Pages.length→(nth x.Pages i).ID=(nth l.Pages i).ID:=fun i hi=>(h.page i (by rw[←h.len];exact hi)).1
 exact⟨QtA h.len e,Qlj (QuG h.len e)⟩
theorem Alike.wide(h:Alike M n l x)(hn:n<48):Alike M (n+1) l x:=⟨h.li.wide hn,h.xi.wide hn,h.cfg,h.book,h.now,h.len,h.page⟩
theorem QtY(hk:o.Kind=5):(opV l o).1.Pages=(Zk l l.Pages.length).Pages∧(opV l o).1.Book=l.Book∧(opV l o).1.Config=(if 0≤o.Schedule∧o.Schedule<2 then Qik l.Config o.Schedule o.Edit else l.Config):=by
 unfold opV
 rw[if_neg (by omega),if_neg (by omega),if_neg (by omega),if_neg (by omega)]
 split
 ·exact⟨rfl,Ym.2.2.1,rfl⟩
 ·exact⟨rfl,Ym.2.2.1,Ym.2.1⟩
theorem Alike.runL(h:Alike M n l x)(hi:i<l.Pages.length):Alike M n (runI l i) x:=by
 obtain⟨k1,k2,k3,k4,k5,k6,k7⟩:=YI (l:=l) (i:=i)
 refine⟨h.li.run hi,h.xi,by rw[k2];exact h.cfg,by rw[k3];exact h.book,by rw[k1];exact h.now,by rw[k7];exact h.len,fun j hj=>?_⟩
 rw[k7]at hj
 rw[k1,k2,k3]
 by_cases e:j=i
 ·subst e
  refine⟨by rw[QoC h.li hi];exact(h.page j hj).1,?_⟩
  rw[Qay h.li hi,if_pos rfl,Qko (c:=l.Config) h.li.book QT.step (Int.le_refl _) (h.li.at hi).1]
  exact(h.page j hj).2
 ·rw[Qay h.li hi,if_neg e]
  exact h.page j hj
theorem Alike.runR(h:Alike M n l x)(hi:i<l.Pages.length)(hnow:x.Now=l.Now):Alike M n l (runI x i):=by
 obtain⟨k1,k2,k3,k4,k5,k6,k7⟩:=YI (l:=x) (i:=i)
 have hx:i<x.Pages.length:=by rw[h.len];exact hi
 refine⟨h.li,h.xi.run hx,by rw[k2];exact h.cfg,by rw[k3];exact h.book,by rw[k1];exact h.now,by rw[k7];exact h.len,fun j hj=>?_⟩
 by_cases e:j=i
 ·subst e
  refine⟨by rw[QoC h.xi hx];exact(h.page j hj).1,?_⟩
  have hq:QH QT M l.Book (nth x.Pages j):=by
   have:=(h.xi.at hx).1
   rw[h.book]at this;exact this
  rw[Qay h.xi hx,if_pos rfl,h.cfg,h.book,hnow,Qko (c:=l.Config) h.li.book QT.step (Int.le_refl _) hq]
  exact(h.page j hj).2
 ·rw[Qay h.xi hx,if_neg e]
  exact h.page j hj
theorem Qhv{L:List D.Page}:(insP L p).length=L.length+1:=by
 have:=Qau (id:=p.ID) (l:=L)
 unfold insP;rw[List.length_append,List.length_cons,List.length_take,List.length_drop];omega
theorem Alike.open(h:Alike M n l x)(hn:n<48)(ho:OpIn o)(hk:o.Kind=1)(hnow:x.Now=l.Now):Alike M (n+1) (opV l o).1 (opV x o).1:=by
 have hw:=h.wide hn
 obtain⟨e1,e2⟩:=h.has (id:=o.Page)
 have same:∀e:Int,opV l o=(l,e)→opV x o=(x,e)→Alike M (n+1) (opV l o).1 (opV x o).1:=fun e g1 g2=>by rw[g1,g2];exact hw
 by_cases g1:hasV o.Page l.Pages=true
 ·exact same 4 (by unfold opV;rw[if_pos hk,if_pos g1]) (by unfold opV;rw[if_pos hk,e1,if_pos g1])
 by_cases g2:l.Pages.length=64
 ·exact same 5 (by unfold opV;rw[if_pos hk,if_neg g1,if_pos g2]) (by unfold opV;rw[if_pos hk,e1,if_neg g1,h.len,if_pos g2])
 by_cases g3:o.Page<1
 ·exact same 1 (by unfold opV;rw[if_pos hk,if_neg g1,if_neg g2,if_pos g3]) (by unfold opV;rw[if_pos hk,e1,if_neg g1,h.len,if_neg g2,if_pos g3])
 by_cases g4:0≤o.Policy∧o.Policy<(l.Book.Policies.length:Int)
 case neg=>exact same 3 (by unfold opV;rw[if_pos hk,if_neg g1,if_neg g2,if_neg g3,if_neg g4]) (by unfold opV;rw[if_pos hk,e1,if_neg g1,h.len,if_neg g2,if_neg g3,h.book,if_neg g4])
 have f1:opV l o=(runI { l with Pages:=insP l.Pages (newP o.Page o.Policy l.Now) } (posV o.Page l.Pages),0):=by unfold opV;rw[if_pos hk,if_neg g1,if_neg g2,if_neg g3,if_pos g4]
 have f2:opV x o=(runI { x with Pages:=insP x.Pages (newP o.Page o.Policy l.Now) } (posV o.Page l.Pages),0):=by unfold opV;rw[if_pos hk,e1,if_neg g1,h.len,if_neg g2,if_neg g3,h.book,if_pos g4,e2,hnow]
 have hlen:=h.li.len
 obtain⟨i1,i2,i3⟩:=h.li.open (o:=o) (by simpa using g1) ⟨by omega,ho.page.2⟩ g4 (by omega)
 have hx4:0≤o.Policy∧o.Policy<(x.Book.Policies.length:Int):=by rw[h.book];exact g4
 obtain⟨j1,j2,j3⟩:=h.xi.open (o:=o) (by rw[e1];simpa using g1) ⟨by omega,ho.page.2⟩ hx4 (by rw[h.len];omega)
 have eP:newP o.Page o.Policy x.Now=newP o.Page o.Policy l.Now:=by rw[hnow]
 rw[eP]at j1
 have hP:(newP o.Page o.Policy l.Now).ID=o.Page:=rfl
 have hA:Alike M n { l with Pages:=insP l.Pages (newP o.Page o.Policy l.Now) } { x with Pages:=insP x.Pages (newP o.Page o.Policy l.Now) }:=by
  refine⟨i1,j1,h.cfg,h.book,h.now,by show(insP _ _).length=(insP _ _).length;rw[Qhv,Qhv,h.len],fun i hi=>?_⟩
  replace hi:i<l.Pages.length+1:=by have:i<(insP l.Pages (newP o.Page o.Policy l.Now)).length:=hi;rw[Qhv]at this;exact this
  show(nth (insP x.Pages _) i).ID=(nth (insP l.Pages _) i).ID∧(runV l.Config l.Book (nth (insP x.Pages _) i) l.Now).1=(runV l.Config l.Book (nth (insP l.Pages _) i) l.Now).1
  have hpos:=Qau (id:=o.Page) (l:=l.Pages)
  rw[Qpl,Qpl,hP,e2]
  by_cases q1:i<posV o.Page l.Pages
  ·rw[if_pos q1,if_pos q1];exact h.page i (by omega)
  ·rw[if_neg q1,if_neg q1]
   by_cases q2:i=posV o.Page l.Pages
   ·rw[if_pos q2,if_pos q2];exact⟨rfl,rfl⟩
   ·rw[if_neg q2,if_neg q2];exact h.page (i - 1) (by omega)
 have hB:=hA.runR (i:=posV o.Page l.Pages) i2 hnow
 have hC:=hB.runL (i:=posV o.Page l.Pages) i2
 rw[f1,f2]
 exact hC.wide hn
end
end Go.Proofs.YtadlpefpehjcoaaGreat
/-
  Plain laws of operations on ledgers: an owner's starts drive all that waits.
-/
namespace Go.Proofs.YtadlpefpehjcoaaGreat
open Go AM
attribute [local irreducible] dueV stepV runV QQ answerV
section
variable {n:Nat} {c:D.Config} {b:D.Book} {p q:D.Page} {now M:Int} {l x:D.Ledger} {i:Nat} {o:D.Op}
def QeV(p:D.Page):Int:=if p.State=2 then -1 else p.Next
theorem QpR(h:Qd M n l)(hk:o.Kind=3)(hr:o.Region=l.Owner)(hf:o.Fence=l.Fence)(hi:i<l.Pages.length)(hp:o.Page=(nth l.Pages i).ID)(hw:Yk (nth l.Pages i) (max l.Now o.At)=true)(hK:o.K=QeV (nth l.Pages i))(hs:l.Seen.contains o.ID=false):Zb l o=(runI (seeV l o) i,0):=by
 have hpos:posV o.Page (seeV l o).Pages=i:=by rw[hp];exact Qe3 h.asc hi
 have hhas:hasV o.Page (seeV l o).Pages=true:=by rw[hp];exact Qix h.asc hi
 rw[VV hs]
 have g:Yk (nth (seeV l o).Pages (posV o.Page (seeV l o).Pages)) (seeV l o).Now=true∧o.K=(if (nth (seeV l o).Pages (posV o.Page (seeV l o).Pages)).State=2 then -1 else(nth (seeV l o).Pages (posV o.Page (seeV l o).Pages)).Next):=by
  rw[hpos];exact⟨hw,hK⟩
 have g0:o.Region=(seeV l o).Owner∧o.Fence=(seeV l o).Fence:=⟨hr,hf⟩
 unfold opV
 rw[if_neg (by omega),if_neg (by omega),if_pos hk,if_pos g0,if_pos hhas,if_pos g,hpos]
theorem Qqo(h:Qd M n l)(hi:i<l.Pages.length):(runI l i).Pages=l.Pages.set i (runV l.Config l.Book (nth l.Pages i) l.Now).1∧Yk (nth (runI l i).Pages i) l.Now=false:=by
 have e:(runI l i).Pages=l.Pages.set i (runV l.Config l.Book (nth l.Pages i) l.Now).1:=by rw[h.runEq hi];rfl
 refine⟨e,?_⟩
 rw[e,Xq hi]
 exact(Qco h.book QT.step (h.at hi).1).2.2
def Xb(l:D.Ledger)(now:Int):List Nat:=(List.range l.Pages.length).filter fun i=>Yk (nth l.Pages i) now
theorem Qjk{j:Nat}:j∈Xb l now↔j<l.Pages.length∧Yk (nth l.Pages j) now=true:=by
 unfold Xb;rw[List.mem_filter,List.mem_range]
theorem QoK:(Xb l now).Nodup:=(List.nodup_range).filter _
structure Driven (M:Int) (n:Nat) (l:D.Ledger) (now:Int) (k:Nat) (x:D.Ledger):Prop where
 inv:Qd M n x
 time:x.Now≤now∧(0<k→x.Now=now)
 len:x.Pages.length=l.Pages.length
 cfg:x.Config=l.Config∧x.Book=l.Book∧x.Owner=l.Owner∧x.Fence=l.Fence
 page:∀j,j<l.Pages.length→nth x.Pages j=if j∈(Xb l now).take k then(runV l.Config l.Book (nth l.Pages j) now).1 else nth l.Pages j
theorem Driven.step{k:Nat}(h:Driven M n l now k x)(hl:Qd M n l)(hn:n<48)(hk:k<(Xb l now).length)(ho:OpIn o)(ht:now≤M - 20000)(h3:o.Kind=3)(hr:o.Region=l.Owner)(hf:o.Fence=l.Fence)(hat:o.At=now)(hp:o.Page=(nth l.Pages (nth (Xb l now) k)).ID)(hK:o.K=QeV (nth l.Pages (nth (Xb l now) k)))(hs:x.Seen.contains o.ID=false)(hsl:x.Seen.length<256):(Zb x o).2=0∧Driven M (n+1) l now (k+1) (Zb x o).1:=by
 obtain⟨i,hi⟩:∃i,nth (Xb l now) k=i:=⟨_,rfl⟩
 have hmem:i∈Xb l now:=by rw[←hi];exact Qi hk
 obtain⟨hil,hiw⟩:=Qjk.1 hmem
 have hnot:i∉(Xb l now).take k:=fun hm=>by
  obtain⟨j,hj,e⟩:=QiH hm
  have hjk:j<k:=by have:=List.length_take_le k (Xb l now);omega
  rw[Qhx hjk,←hi]at e
  have hnd:=List.pairwise_iff_getElem.1 (QoK (l:=l) (now:=now)) j k (by omega) hk hjk
  apply hnd
  simpa [nth,List.getD_eq_getElem?_getD,List.getElem?_eq_getElem hk,List.getElem?_eq_getElem (show j<(Xb l now).length by omega)]using e
 have hxi:nth x.Pages i=nth l.Pages i:=by rw[h.page i hil,if_neg hnot]
 have hix:i<x.Pages.length:=by rw[h.len];exact hil
 have hnow:=h.time.1
 have hmax:max x.Now o.At=now:=by omega
 rw[hi]at hp hK
 have e:=QpR (l:=x) (o:=o) h.inv h3 (by rw[hr,h.cfg.2.2.1]) (by rw[hf,h.cfg.2.2.2]) hix (by rw[hxi];exact hp) (by rw[hxi,hmax];exact hiw) (by rw[hxi];exact hK) hs
 have hsee:Qd M n (seeV x o):=h.inv.see ho (by omega) hs hsl
 have hSn:(seeV x o).Now=now:=hmax
 obtain⟨k1,k2,k3,k4,k5,k6,k7⟩:=YI (l:=seeV x o) (i:=i)
 rw[e]
 refine⟨rfl,⟨(hsee.run hix).wide hn,⟨by rw[k1,hSn];exact Int.le_refl _,fun _=>by rw[k1,hSn]⟩,by rw[k7];exact h.len,⟨by rw[k2];exact h.cfg.1,by rw[k3];exact h.cfg.2.1,by rw[k4];exact h.cfg.2.2.1,by rw[k5];exact h.cfg.2.2.2⟩,fun j hj=>?_⟩⟩
 have htk:∀j,j∈(Xb l now).take (k+1)↔(j∈(Xb l now).take k∨j=i):=fun j=>by
  rw[←Qw hk,List.mem_append,List.mem_singleton,hi]
 rw[Qay hsee hix]
 by_cases q:j=i
 ·subst q
  rw[if_pos rfl,if_pos ((htk _).2 (.inr rfl))]
  show(runV x.Config x.Book (nth x.Pages j) (seeV x o).Now).1=_
  rw[h.cfg.1,h.cfg.2.1,hxi,hSn]
 ·rw[if_neg q]
  show nth x.Pages j=_
  rw[h.page j hj]
  by_cases q2:j∈(Xb l now).take k
  ·rw[if_pos q2,if_pos ((htk _).2 (.inl q2))]
  ·rw[if_neg q2,if_neg (fun hh=>((htk _).1 hh).elim q2 q)]
theorem Driven.done(h:Driven M n l now (Xb l now).length x)(hl:Qd M n l){j:Nat}(hj:j<x.Pages.length):Yk (nth x.Pages j) now=false:=by
 rw[h.len]at hj
 rw[h.page j hj,List.take_length]
 split
 ·exact(Qco hl.book QT.step (hl.at hj).1).2.2
 ·rename_i g
  cases hw:Yk (nth l.Pages j) now with
  |false=>rfl
  |true=>exact absurd (Qjk.2 ⟨hj,hw⟩) g
theorem QpE(hs:l.Seen.contains o.ID=false)(hk:o.Kind=2):Zb l o=if o.Fence=l.Fence+1 then({ seeV l o with Owner:=o.Region,Fence:=o.Fence },0)else(seeV l o,23):=by
 rw[VV hs]
 unfold opV
 rw[if_neg (by omega),if_pos hk]
 rfl
def Qcu(L:List D.Page)(t:Int):List D.Start:=(L.filter fun p=>Yk p t).map fun p=>⟨p.ID,(dueV p).1,[]⟩
theorem Qkv{L:List D.Page}{t:Int}(hi:i<L.length):Qcu (L.take (i+1)) t=Qcu (L.take i) t++(if Yk (nth L i) t=true then[⟨(nth L i).ID,(dueV (nth L i)).1,[]⟩]else[]):=by
 unfold Qcu
 rw[←Qw hi,List.filter_append,List.map_append]
 congr 1
 cases g:Yk (nth L i) t with
 |true=>simp[g]
 |false=>simp[g]
theorem Qjl{L:List D.Page}{t:Int}:(Qcu L t).length≤L.length:=by
 unfold Qcu;rw[List.length_map];exact List.length_filter_le ..
theorem QoL{t:Int}(h:LW M n l)(hpg:l.Pages.length≤9):Xw 1000 l t=some (Qcu l.Pages t):=by
 refine Ok.eq ?_
 unfold Xw
 refine Ok.j ?_
 refine Ok.run l.Pages.length (fun i=>((t,(i:Int),()),l,Qcu (l.Pages.take i) t,())) rfl (by omega) (fun i hi k hk=>?_) (fun k=>?_)
 ·try dsimp only
  have hs:=Qkv (t:=t) hi
  have hlen:=Qjl (L:=l.Pages.take i) (t:=t)
  rw[List.length_take]at hlen
  try dsimp only at hk
  rw[hs]at hk
  refine Ok.j (Ok.P (Ok.oe (Un h hpg) (Ok.t ?_)))
  refine Ok.j (Ok.atn hi (Ok.oe QdK (Ok.cnd (fun g=>Ok.ite (fun g2=>Ok.atn hi (Ok.LS ?_)) (fun g2=>?_)) (fun g=>?_))))
  ·try dsimp only
   rw[Qb (by omega)]
   rw[if_pos (by unfold Yk;rw[g,decide_eq_true g2];rfl)]at hk;exact hk
  ·try dsimp only
   rw[Qb (by omega)]
   rw[if_neg (by unfold Yk;rw[decide_eq_false g2];simp),List.append_nil]at hk;exact hk
  ·try dsimp only
   rw[Qb (by omega)]
   rw[if_neg (by unfold Yk;rw[g];simp),List.append_nil]at hk;exact hk
 ·try dsimp only
  refine Ok.j (Ok.N (Ok.s ?_))
  rw[List.take_length]
theorem Driven.none(h:Driven M n l now (Xb l now).length x)(hl:Qd M n l):Qcu x.Pages now=[]:=by
 unfold Qcu
 rw[List.map_eq_nil_iff,List.filter_eq_nil_iff]
 intro p hp
 obtain⟨j,hj,rfl⟩:=QiH hp
 rw[h.done hl hj];simp
end
end Go.Proofs.YtadlpefpehjcoaaGreat
/-
  Lists of operations as they are made: one after the other, with numbers and times that ascend; what they make of a new ledger.
-/
namespace Go.Proofs.YtadlpefpehjcoaaGreat
open Go AM
attribute [local irreducible] dueV stepV runV QQ answerV
section
variable {n:Nat} {c:D.Config} {b:D.Book} {p q:D.Page} {now M:Int} {l x:D.Ledger} {i:Nat} {o:D.Op} {L:List Int} {d:D.Dice} {ops:List D.Op}
def DecL(l:D.Ledger):Prop:=∀p∈l.Pages,PgX 1000000 p
theorem QnC{a:D.Answer}(h:YB a=true):(1≤a.ID∧a.ID≤1000000)∧0≤a.Page∧a.Page≤999999:=by
 unfold YB at h
 simp only[bae,QL]at h
 have h1:=h.1.1.1.1.1
 have h2:=h.1.1.1.1.2
 omega
theorem DecL.set(h:DecL l)(hp:PgX 1000000 p){L:List D.Page}(e:L=l.Pages.set i p):∀q∈L,PgX 1000000 q:=fun q hq=>by
 rw[e]at hq
 rcases List.mem_or_eq_of_mem_set hq with g|rfl
 ·exact h q g
 ·exact hp
theorem DecL.run(h:DecL l)(hl:Qd M n l)(hi:i<l.Pages.length):DecL (runI l i):=
 h.set ((h _ (Qi hi)).run hl.book QT.step (hl.at hi).1) (Qqo hl hi).1
theorem DecL.runs(h:DecL l)(hl:Qd M n l):∀{k:Nat},k≤l.Pages.length→DecL (Zk l k)
 |0,_=>h
 |k+1,hk=>(h.runs hl (by omega)).run (hl.runs (by omega)) (by rw[(Ym (l:=l) (k:=k)).2.2.2.2.2.2];exact hk)
theorem Qs9{a:D.Answer}(hb:QJ b)(h:QH QT M b p)(hd:PgX 1000000 p)(hv:YB a=true)(ha:a.Person<4):PgX 1000000 (ansP c b p a now):=by
 have hr:PgX 1000000 (runV c b p now).1:=hd.run hb QT.step h
 unfold ansP
 split
 ·rename_i g
  rcases QaP g with e|e
  ·rw[e];exact hr
  ·rw[e];exact hr.answer ha (QnC hv).1
 ·exact hr
theorem DecL.op(h:DecL l)(hl:Qd M n l)(ho:OpIn o)(hlt:l.Pages.length<64)(ha:o.Kind=4→o.Answer.Person<4):DecL (opV l o).1:=by
 have hk5:=ho.kind
 by_cases k1:o.Kind=1
 ·unfold opV
  rw[if_pos k1]
  split
  ·exact h
  ·rename_i g
   split
   ·exact h
   ·split
    ·exact h
    ·split
     ·rename_i g1 g2 g3
      obtain⟨i1,i2,i3⟩:=hl.open (o:=o) (by simpa using g) ⟨by omega,ho.page.2⟩ g3 hlt
      refine DecL.run (fun q hq=>?_) i1 i2
      rcases Qfy.1 hq with rfl|hq
      ·exact PgX.new
      ·exact h q hq
     ·exact h
 by_cases k2:o.Kind=2
 ·unfold opV
  rw[if_neg k1,if_pos k2]
  split<;>exact h
 by_cases k3:o.Kind=3
 ·unfold opV
  rw[if_neg k1,if_neg k2,if_pos k3]
  split
  ·split
   ·rename_i g
    generalize (if (nth l.Pages (posV o.Page l.Pages)).State=2 then(-1:Int)else(nth l.Pages (posV o.Page l.Pages)).Next)=kk
    split
    ·exact h.run hl (Vn g).1
    ·exact h
   ·exact h
  ·exact h
 by_cases k4:o.Kind=4
 ·obtain⟨_,_,e⟩:=Qp4 hl k4
  show ∀q∈(opV l o).1.Pages,_
  rw[e]
  split
  ·rename_i g
   have hi:=(Vn g).1
   exact h.set (Qs9 hl.book (hl.at hi).1 (h _ (Qi hi)) (ho.answer k4).1 (ha k4)) rfl
  ·exact h
 ·obtain⟨e,_⟩:=QtY (l:=l) (o:=o) (by omega)
  show ∀q∈(opV l o).1.Pages,_
  rw[e]
  exact h.runs hl (Nat.le_refl _)
theorem DecL.apply(h:DecL l)(hl:Qd M n l)(ho:OpIn o)(ht:max l.Now o.At≤M - 20000)(hs:l.Seen.length<256)(hlt:l.Pages.length<64)(ha:o.Kind=4→o.Answer.Person<4):DecL (Zb l o).1:=by
 cases g:l.Seen.contains o.ID with
 |true=>unfold Zb;rw[if_pos g];exact h
 |false=>rw[VV g];exact DecL.op (l:=seeV l o) h (hl.see ho ht g hs) ho hlt ha
def QaT(c:D.Config)(b:D.Book):D.Ledger:={ Now:=0,Config:=c,Book:=b,Pages:=[],Owner:=-1,Fence:=0,Seen:=[],Calls:=[] }
def opsV(l:D.Ledger):List D.Op→D.Ledger
 |[]=>l
 |o::r=>opsV (Zb l o).1 r
theorem Qpn:∀{a:List D.Op} {l:D.Ledger} {r:List D.Op},opsV l (a++r)=opsV (opsV l a) r
 |[],_,_=>rfl
 |o::a,l,r=>by simp only[List.cons_append,opsV,Qpn]
theorem QmU:opsV l (ops++[o])=(Zb (opsV l ops) o).1:=by rw[Qpn];rfl
theorem Qr4(h:i<ops.length):opsV l (ops.take (i+1))=(Zb (opsV l (ops.take i)) (nth ops i)).1:=by rw[←Qw h,QmU]
structure Qg5 (ops:List D.Op):Prop where
 op:∀j,j<ops.length→OpIn (nth ops j)∧(nth ops j).ID=(j:Int)+1∧((nth ops j).Kind=1→1≤(nth ops j).Page∧(nth ops j).Page≤3)∧((nth ops j).Kind=4→(nth ops j).Answer.Person<4)
 at_:∀j,j<ops.length→864000≤(nth ops j).At∧(nth ops j).At≤864000+700*((j:Int)+1)
 up:∀i j,i<j→j<ops.length→(nth ops i).At≤(nth ops j).At
theorem Qg5.nil:Qg5 []:=⟨fun j hj=>by simp at hj,fun j hj=>by simp at hj,fun i j _ hj=>by simp at hj⟩
theorem QfF{α:Type}[Inhabited α]{l:List α}{x:α}{j:Nat}:nth (l++[x]) j=if j<l.length then nth l j else if j=l.length then x else default:=by
 unfold nth
 simp only[List.getD_eq_getElem?_getD,List.getElem?_append]
 by_cases h:j<l.length
 ·rw[if_pos h,if_pos h]
 ·rw[if_neg h,if_neg h]
  by_cases e:j=l.length
  ·subst e;simp
  ·rw[if_neg e]
   have:¬(j - l.length=0):=by omega
   obtain⟨m,hm⟩:∃m,j - l.length=m+1:=⟨j - l.length - 1,by omega⟩
   rw[hm];simp
theorem Qg5.snoc(h:Qg5 ops)(ho:OpIn o)(hid:o.ID=(ops.length:Int)+1)(hk:o.Kind=1→1≤o.Page∧o.Page≤3)(hk4:o.Kind=4→o.Answer.Person<4)(h1:864000≤o.At∧o.At≤864000+700*((ops.length:Int)+1))(h2:∀j,j<ops.length→(nth ops j).At≤o.At):Qg5 (ops++[o]):=by
 have hl:(ops++[o]).length=ops.length+1:=by simp
 refine⟨fun j hj=>?_,fun j hj=>?_,fun i j hij hj=>?_⟩
 ·rw[hl]at hj
  rw[QfF]
  by_cases g:j<ops.length
  ·rw[if_pos g];exact h.op j g
  ·obtain rfl:j=ops.length:=by omega
   rw[if_neg g,if_pos rfl];exact⟨ho,hid,hk,hk4⟩
 ·rw[hl]at hj
  rw[QfF]
  by_cases g:j<ops.length
  ·rw[if_pos g];exact h.at_ j g
  ·obtain rfl:j=ops.length:=by omega
   rw[if_neg g,if_pos rfl];exact h1
 ·rw[hl]at hj
  rw[QfF,QfF,if_pos (by omega)]
  by_cases g:j<ops.length
  ·rw[if_pos g];exact h.up i j hij g
  ·obtain rfl:j=ops.length:=by omega
   rw[if_neg g,if_pos rfl];exact h2 i (by omega)
structure Behind (ops:List D.Op) (k:Nat) (l:D.Ledger):Prop where
 made:Qs4 k l
 dec:DecL l
 seen:∀x∈l.Seen,x≤(k:Int)
 last:l.Now≤0∨∃j,j<k∧l.Now≤(nth ops j).At
theorem Behind.first(hc:Q3 2 c)(hb:QJ b):Behind ops 0 (QaT c b):=
 ⟨⟨Qp3 hc hb,fun p hp=>by simp[QaT]at hp,Nat.le_refl _,by simp[QaT]⟩,fun p hp=>by simp[QaT]at hp,fun x hx=>by simp[QaT]at hx,.inl (by simp[QaT])⟩
theorem Behind.fresh{k:Nat}(h:Behind ops k l)(hi:o.ID=(k:Int)+1):l.Seen.contains o.ID=false:=by
 cases hc:l.Seen.contains o.ID with
 |false=>rfl
 |true=>
  have:=h.seen _ (List.contains_iff_mem.1 hc)
  omega
theorem Behind.le{k:Nat}(h:Behind ops k l)(ho:Qg5 ops)(hk:k<ops.length):l.Now≤(nth ops k).At:=by
 have:=(ho.at_ k hk).1
 rcases h.last with h|⟨j,h1,h2⟩
 ·omega
 ·have:=ho.up j k h1 hk;omega
theorem Qs4.next{k:Nat}(h:Qs4 k l)(hk:k≤11)(ho:OpIn o)(hp:o.Kind=1→o.Page≤3)(ht:o.At≤864000+700*((k:Int)+1)):Qs4 (k+1) (Zb l o).1:=by
 have hn:=h.now;have hs:=h.seen
 have hkp:=QhS (l:=l) (o:=o)
 exact⟨h.inv.apply (by omega) ho (by omega) (by omega),h.ids.apply h.inv ho (by omega) (by omega) hp,by omega,by rcases hkp.2 with e|e<;>omega⟩
theorem Behind.next{k:Nat}(h:Behind ops k l)(ho:Qg5 ops)(hk:k<ops.length)(hk9:k≤9):Behind ops (k+1) (Zb l (nth ops k)).1:=by
 obtain⟨g1,g2,g3,g4⟩:=ho.op k hk
 have hnew:=h.fresh g2
 have hat:=(ho.at_ k hk).2;have hnow:=h.made.now;have hsl:=h.made.seen
 have hp3:=h.made.inv.small3 (k:=3) h.made.ids
 refine⟨h.made.next (by omega) g1 (fun e=>(g3 e).2) hat,h.dec.apply h.made.inv g1 (by omega) (by omega) (by omega) g4,fun x hx=>?_,.inr ⟨k,by omega,?_⟩⟩
 ·rw[VV hnew,Qhy.2]at hx
  rcases List.mem_append.1 hx with hx|hx
  ·have:=h.seen x hx;omega
  ·rw[List.mem_singleton.1 hx,g2];omega
 ·rw[QpD hnew]
  have:=h.le ho hk
  omega
theorem Behind.fold(hc:Q3 2 c)(hb:QJ b)(ho:Qg5 ops)(h9:ops.length≤9):∀{k:Nat},k≤ops.length→Behind ops k (opsV (QaT c b) (ops.take k))
 |0,_=>by rw[List.take_zero];exact Behind.first hc hb
 |k+1,hk=>by
  rw[Qr4 (by omega)]
  exact(Behind.fold hc hb ho h9 (by omega)).next ho (by omega) (by omega)
theorem Qwf{t u:Int}(h:∀q,q<ops.length→(nth ops q).At≤t)(ht:t≤u)(ho:o.At≤u):∀q,q<(ops++[o]).length→(nth (ops++[o]) q).At≤u:=fun q hq=>by
 rw[QfF]
 by_cases g:q<ops.length
 ·rw[if_pos g];have:=h q g;omega
 ·have:q=ops.length:=by rw[List.length_append]at hq;simp at hq;omega
  rw[if_neg g,if_pos this];exact ho
theorem Qt0:opsV l []=l:=rfl
attribute [local irreducible] opsV Zb opV
theorem QvF{k:Nat}(hL:L.length≤500)(h2:ZJ L d)(hc:Q3 2 c)(hb:QJ b)(hk:k≤9):
  Ok (Ue 1000 d (QaT c b) (k:Int)) fun r=>ZJ L r.2.2∧Qg5 r.2.1∧r.2.1.length≤k∧r.1=opsV (QaT c b) r.2.1:=by
 unfold Ue QaT
 refine Ok.loop (fun m x=>x=(((k:Int),864000,1,0,()),d,{ Now:=0,Config:=c,Book:=b,Pages:=[],Owner:=-1,Fence:=0,Seen:=[],Calls:=[] },(0,0,0,()),())) (m:=0) (by omega) rfl ?_
 rintro m x rfl K hK
 try dsimp only
 refine Ok.NS ?_
 try dsimp only
 rw[Qc (x:=(k:Int)+1) (by omega)]
 refine Ok.opt (nx hL h2 (by omega) (by omega)) fun⟨a11,d12⟩ ⟨h12,l12,u12⟩=>?_
 try dsimp only at h12 l12 u12 ⊢
 refine Ok.loop (fun m x=>∃(j:Nat) (t i:Int) (d:D.Dice) (z:Int×Int×Int×Unit) (ops:List D.Op),x=((t,(j:Int)+1,i,()),d,opsV (QaT c b) ops,z,ops,())∧ZJ L d∧Qg5 ops∧ops.length=j∧(864000≤t∧t≤864000+700*(j:Int))∧(∀q,q<ops.length→(nth ops q).At≤t)∧0≤i∧(j:Int)+i≤(k:Int)∧m=i.toNat) (m:=a11.toNat) (by omega)
  ⟨0,864000,a11,d12,(0,0,0,()),[],by rw[Qt0];rfl,h12,Qg5.nil,rfl,by omega,fun q hq=>by simp at hq,l12,by omega,rfl⟩ ?_
 rintro m x ⟨j,t,i,d,z,ops,rfl,i1,io,il,i3,iu,i4,i5,rfl⟩ K2 hK2
 obtain⟨z1,z2,z3,⟨⟩⟩:=z
 have hB:=Behind.fold hc hb io (by omega) (Nat.le_refl _)
 rw[List.take_length,il]at hB
 have i2:=hB.made
 obtain⟨l,hl⟩:∃l,opsV (QaT c b) ops=l:=⟨_,rfl⟩
 rw[hl]at hB i2 ⊢
 try dsimp only
 refine Ok.ite (fun hi=>?_) (fun hi=>Ok.s ⟨i1,io,by dsimp only;omega,hl.symm⟩)
 refine Ok.opt (QbB hL i1 (by simp) (by simp)) fun⟨a23,d24⟩ ⟨h24,m24⟩=>?_
 try dsimp only at h24 m24 ⊢
 simp only[List.mem_cons,List.not_mem_nil,or_false]at m24
 try dsimp only
 rw[Qc (x:=t+a23) (by omega)]
 obtain⟨u,hu⟩:∃u,t+a23=u:=⟨_,rfl⟩
 rw[hu]
 have hnow:=i2.now;have hsl:=i2.seen
 refine Ok.opt (QwN hL h24 i2.inv i2.ids (by omega) (by omega)) fun⟨o,d26⟩ ⟨h26,ho,e1,e2,e3,e4⟩=>?_
 try dsimp only at h26 ho e1 e2 e3 e4 ⊢
 have hp3:=i2.inv.small3 (k:=3) i2.ids
 have happ:=Ql6 i2.inv (by omega) (by omega) ho (by omega) (by omega)
 have hnx:=i2.next (o:=o) (by omega) ho (fun e=>(e3 e).2) (by omega)
 have hp3':=hnx.inv.small3 (k:=3) hnx.ids
 have hio:Qg5 (ops++[o]):=io.snoc ho (by rw[e1,il]) e3 e4 (by rw[e2,il];omega) (fun q hq=>by have:=iu q hq;omega)
 have hsn:=Qwf (o:=o) (u:=u) iu (by omega) (by omega)
 have hln:(ops++[o]).length=j+1:=by simp;omega
 clear iu hB
 refine Ok.join (fun y=>y=((u,(j:Int)+2,i,()),d26,opsV (QaT c b) (ops++[o]),(z1,z2,z3,()),o,ops,())) (fun y hy=>?_) (fun J hJ=>?_)
 ·subst hy
  clear happ hnx hp3' hp3 hnow hsl i2 ho e1 e2 e3 e4
  try dsimp only
  rw[Qc (x:=i - 1) (by omega)]
  refine Ok.LS (hK2 (i - 1).toNat _ (by omega) ⟨j+1,u,i - 1,d26,(z1,z2,z3,()),ops++[o],?_,h26,hio,hln,?_,hsn,?_,?_,rfl⟩)
  ·simp only[Prod.mk.injEq,and_true,true_and]
   omega
  ·omega
  ·omega
  ·omega
 ·refine Ok.oe happ ?_
  have hf:opsV (QaT c b) (ops++[o])=(Zb l o).1:=by rw[QmU,hl]
  obtain⟨l',e,hle⟩:∃l' e,Zb l o=(l',e):=⟨_,_,rfl⟩
  rw[hle]at hnx hp3' hf ⊢
  try dsimp only at hnx hp3' hf ⊢
  rw[show IntKind.wrap .i64 ((j:Int)+1+1)=(j:Int)+2 by rw[Qc (by omega)];omega]
  refine Ok.oe (Un hnx.inv.w (by omega)) (Ok.t ?_)
  rw[←hf]
  exact hJ _ rfl
end
end Go.Proofs.YtadlpefpehjcoaaGreat
/-
  Ledgers behind lists of operations: what is asked of each, their errors, those of made lists.
-/
namespace Go.Proofs.YtadlpefpehjcoaaGreat
open Go AM
attribute [local irreducible] dueV stepV runV QQ answerV
section
variable {n:Nat} {c:D.Config} {b:D.Book} {p q:D.Page} {now M:Int} {l x:D.Ledger} {i:Nat} {o:D.Op} {L:List Int} {d:D.Dice} {ops:List D.Op}
def QpT(l:D.Ledger):List D.Op→List Int
 |[]=>[]
 |o::r=>(Zb l o).2::QpT (Zb l o).1 r
structure Led (l:D.Ledger):Prop where
 ok:∃M n,LW M n l∧n≤48
 pg:l.Pages.length≤9
structure OkAt (l:D.Ledger) (o:D.Op):Prop where
 ok:∃M n,Qd M n l∧n<48∧max l.Now o.At≤M - 20000
 pg:l.Pages.length≤8
 dec:DecL l
 op:OpIn o
 len:l.Seen.length<256
theorem OkAt.led(h:OkAt l o):Led l:=by
 obtain⟨M,n,h1,h2,_⟩:=h.ok
 exact⟨⟨M,n,h1.w,by omega⟩,by have:=h.pg;omega⟩
theorem OkAt.ref(h:OkAt l o):WI 1000 l o=some (Zb l o):=by
 obtain⟨M,n,h1,h2,h3⟩:=h.ok
 exact Ql6 h1 h2 h.pg h.op h3 h.len
theorem Led.check(h:Led l):Vz 1000 l=some true:=by
 obtain⟨M,n,h1,h2⟩:=h.ok
 exact Un h1 h.pg
theorem Led.checkE(h:Led l):X4 1000 l=some true:=by
 obtain⟨M,n,h1,h2⟩:=h.ok
 exact Qk5 h1 h.pg
structure Loose (k:Nat) (l:D.Ledger):Prop where
 inv:Qd 1000000 (2+k) l
 ids:Ids 3 l
 seen:l.Seen.length≤k
 dec:DecL l
def QqB(o:D.Op):Prop:=OpIn o∧(o.Kind=1→o.Page≤3)∧o.At≤980000∧(o.Kind=4→o.Answer.Person<4)
theorem Behind.loose{k:Nat}(h:Behind ops k l):Loose k l:=⟨h.made.inv,h.made.ids,h.made.seen,h.dec⟩
theorem Loose.okAt{k:Nat}(h:Loose k l)(hk:k≤45)(ho:QqB o):OkAt l o:=by
 have hn:=h.inv.now;have hs:=h.seen;have h2:=ho.2.2.1
 have hp3:=h.inv.small3 (k:=3) h.ids
 exact⟨⟨1000000,2+k,h.inv,by omega,by omega⟩,by omega,h.dec,ho.1,by omega⟩
theorem Loose.led{k:Nat}(h:Loose k l)(hk:k≤46):Led l:=⟨⟨1000000,2+k,h.inv.w,by omega⟩,by have:=h.inv.small3 (k:=3) h.ids;omega⟩
theorem Loose.next{k:Nat}(h:Loose k l)(hk:k≤45)(ho:QqB o):Loose (k+1) (Zb l o).1:=by
 have hn:=h.inv.now;have hs:=h.seen;have h2:=ho.2.2.1
 have hp3:=h.inv.small3 (k:=3) h.ids
 exact⟨h.inv.apply (by omega) ho.1 (by omega) (by omega),h.ids.apply h.inv ho.1 (by omega) (by omega) ho.2.1,by have:=(QhS (l:=l) (o:=o)).1;omega,h.dec.apply h.inv ho.1 (by omega) (by omega) (by omega) ho.2.2.2⟩
end
end Go.Proofs.YtadlpefpehjcoaaGreat
/-
  Ledgers: what the program's operations compute.
-/
namespace Go.Proofs.YtadlpefpehjcoaaGreat
open Go AM
attribute [local irreducible] dueV stepV runV QQ answerV
section
variable {n:Nat} {c:D.Config} {b:D.Book} {p q:D.Page} {now M:Int} {l x:D.Ledger} {i:Nat} {o:D.Op} {ops:List D.Op}
theorem mapE{T:Type}[Inhabited T]{f:Nat→T→Option T}{l:List T}(hf:∀x∈l,f 1000 x=some x)(hl:l.length≤900):
  Qj (X:=((Int×(Int×Unit))×(List T×Unit))) (fun L1 ((a2,(a3,_)),(a4,_))=>(AM.cnd (decide (a3<a2)) (natc a3 fun a5=>(ltc a5 (List.length a4) (optc (GetElem?.getElem? a4 a5) fun a6=>(optc (f 1000 a6) fun a7=>(natc a3 fun a8=>(ltc a8 (List.length a4) (optc (GetElem?.getElem? a4 a8) fun a9=>(L1 ((a2,((IntKind.wrap .i64 (a3+1)),())),((List.set a4 a8 a7),())))))))))) (some a4))) 1000 (((((List.length l):Nat):Int),(0,())),(l,()))=some l:=by
 refine Ok.eq ?_
 refine Ok.run l.length (fun i=>(((((List.length l):Nat):Int),((i:Nat):Int),()),l,())) rfl (by omega) (fun i hi k hk=>?_) (fun k=>?_)
 ·try dsimp only
  refine Ok.P (Ok.natn (Ok.lt hi (Ok.get hi (Ok.oe (hf _ (Qi hi)) (Ok.natn (Ok.lt hi (Ok.get hi ?_)))))))
  rw[Qb (by omega),QsC hi];exact hk
 ·try dsimp only
  exact Ok.N (Ok.s rfl)
theorem cl_w{l:List D.Window}(h:l.length≤900):Z6 1000 l=some l:=by unfold Z6;exact Xc (by omega)
theorem cl_i{l:List Int}(h:l.length≤900):Qx 1000 l=some l:=by unfold Qx;exact Xc (by omega)
theorem Qof{l:List D.Zone}(h:∀z∈l,z.Rules=[])(hl:l.length≤900):Zw 1000 l=some l:=by
 unfold Zw
 refine(Ws (show Xn 1000 l=some l by unfold Xn;exact Xc (by omega))).trans (mapE (f:=QdV) (fun z hz=>?_) hl)
 unfold QdV
 exact Ws (show Y2 1000 z.Rules=some z.Rules by rw[h z hz];rfl)
theorem Qk8{l:List D.Person}(h:∀z∈l,z.Quiet.length≤900)(hl:l.length≤900):Q6 1000 l=some l:=by
 unfold Q6
 refine(Ws (show YJ 1000 l=some l by unfold YJ;exact Xc (by omega))).trans (mapE (f:=QaZ) (fun z hz=>?_) hl)
 unfold QaZ
 exact Ws (cl_w (h z hz))
theorem QmM{l:List D.Layer}(h:∀z∈l,YE z)(hl:l.length≤900):Ze 1000 l=some l:=by
 unfold Ze
 refine(Ws (show Y0 1000 l=some l by unfold Y0;exact Xc (by omega))).trans (mapE (f:=Qce) (fun z hz=>?_) hl)
 have hz':=h z hz
 unfold Qce
 exact(Ws (cl_i (by have:=hz'.len;omega))).trans (Ws (cl_w (by rw[hz'.win];simp)))
theorem QmN{l:List D.Schedule}(h:∀z∈l,QcO n z)(hn:n≤48)(hl:l.length≤900):QU 1000 l=some l:=by
 unfold QU
 refine(Ws (show Yh 1000 l=some l by unfold Yh;exact Xc (by omega))).trans (mapE (f:=Ug) (fun z hz=>?_) hl)
 obtain⟨⟨y,hy,hy2⟩,h2,_⟩:=h z hz
 unfold Ug
 refine(Ws (QmM (l:=z.Layers) (fun w hw=>?_) (by rw[hy];simp))).trans (Ws (show Xm 1000 z.Edits=some z.Edits by unfold Xm;exact Xc (by omega)))
 rw[hy]at hw
 rw[List.mem_singleton.1 hw];exact hy2
theorem Qoe{l:List D.Team}(h:∀z∈l,Ql0 z)(hl:l.length≤900):Zv 1000 l=some l:=by
 unfold Zv
 refine(Ws (show Wq 1000 l=some l by unfold Wq;exact Xc (by omega))).trans (mapE (f:=QdU) (fun z hz=>?_) hl)
 unfold QdU
 exact Ws (cl_i (by have:=(h z hz).len;omega))
theorem Qod{m:Nat}{l:List D.PolicyStep}(h:∀z∈l,StepOK' m z)(hl:l.length≤900):Q1 1000 l=some l:=by
 unfold Q1
 refine(Ws (show Yx 1000 l=some l by unfold Yx;exact Xc (by omega))).trans (mapE (f:=QdT) (fun z hz=>?_) hl)
 unfold QdT
 exact Ws (show XB 1000 z.Targets=some z.Targets by unfold XB;exact Xc (by have:=(h z hz).len;omega))
theorem QpZ{m:Nat}{l:List D.Policy}(h:∀z∈l,Qbp m z)(hl:l.length≤900):Zo 1000 l=some l:=by
 unfold Zo
 refine(Ws (show XA 1000 l=some l by unfold XA;exact Xc (by omega))).trans (mapE (f:=QfH) (fun z hz=>?_) hl)
 unfold QfH
 exact Ws (Qod (h z hz).step (by have:=(h z hz).len;omega))
theorem Qpp(h:Qz p):Qaa 1000 p=some p:=by
 have h1:=h.st;have h2:=h.de;have h3:=h.se
 unfold Qaa
 refine(Ws (x:=p.Starts) ?_).trans ((Ws (cl_i (by omega))).trans (Ws (cl_i (by omega))))
 unfold ZO
 refine(Ws (Qml (by omega))).trans (mapE (f:=QaX) (fun z hz=>?_) (by omega))
 unfold QaX
 exact Ws (cl_i (by have:=(h.pe z hz).1;omega))
theorem Qoc{l:List D.Page}(h:∀z∈l,Qz z)(hl:l.length≤900):Zu 1000 l=some l:=by
 unfold Zu
 exact(Ws (show Wp 1000 l=some l by unfold Wp;exact Xc (by omega))).trans (mapE (f:=Qaa) (fun z hz=>Qpp (h z hz)) hl)
theorem Led.copyE(h:Led l):QaY 1000 l=some l:=by
 obtain⟨M,n,h1,h2⟩:=h.ok
 have hcl:=h1.callsLe h.pg;have hse:=h1.seen.len;have hpg:=h.pg;have hb:=h1.book;have hc:=h1.cfg
 have htl:=hb.tlen;have hpl:=hb.plen
 obtain⟨hz,_⟩:=hc.zones
 unfold QaY
 rw[Qof (by rw[hz];intro z hm;rw[List.mem_singleton.1 hm]) (by rw[hz];simp),ZK,Qk8 (fun z hm=>by rcases(hc.person z hm).quiet with e|⟨_,_,e,_⟩<;>rw[e]<;>simp) (by rw[hc.plen];omega),ZK,hc.cal]
 rw[show Zn 1000 []=some []by kernel_rfl,ZK,QmN hc.sched h2 (by rw[hc.slen];omega),ZK,Qoe hb.team (by omega),ZK,QpZ hb.pol (by omega),ZK,Qoc h1.plens (by omega),ZK,cl_i (by omega),ZK,Qmk (by omega),ZK]
 obtain⟨l1,⟨c1,c2,c3,c4⟩,l3,l4,l5,l6,l7,l8⟩:=l
 have hcal:=hc.cal
 dsimp only at hcal ⊢
 subst hcal
 rfl
theorem QrF{i j:Nat}(h:i+j<1000000):IntKind.wrap .i64 (Int.fdiv (IntKind.wrap .u64 (IntKind.wrap .i64 ((i:Int)+(j:Int)))) (HPow.hPow 2 (min 1 (Go.IntKind.bits Go.IntKind.u64))))=(((i+j) / 2:Nat):Int):=by
 rw[Qc (x:=(i:Int)+(j:Int)) (by omega)]
 have e:IntKind.u64.wrap ((i:Int)+(j:Int))=(i:Int)+(j:Int):=by
  simp only[IntKind.wrap,IntKind.bits,IntKind.signed]
  simp
  omega
 rw[e,show((HPow.hPow 2 (min 1 (Go.IntKind.bits Go.IntKind.u64)):Nat):Int)=2 from rfl,Int.fdiv_eq_ediv_of_nonneg _ (by omega),Qc (by omega)]
 omega
theorem QoS{id:Int}(h1:0≤p.ID∧p.ID≤999999)(h2 : -1≤id∧id≤1000000):X5 1000 p id=some (p.ID - id):=by
 unfold X5
 rw[Qc (by omega)]
theorem QwB{id:Int}{L:List D.Page}(ha:AscP L)(hl:L.length≤64)(hp:∀p∈L,0≤p.ID∧p.ID≤999999)(hid : -1≤id∧id≤1000000):
  QE 1000 L id=some ((posV id L:Int),hasV id L):=by
 have hple:=Qau (id:=id) (l:=L)
 refine Ok.eq ?_
 unfold QE
 refine Ok.loop (fun m x=>∃(i j:Nat),x=((id,((L.length:Nat):Int),(i:Int),(j:Int),()),L,())∧i≤posV id L∧posV id L≤j∧j≤L.length∧m=j - i) (m:=L.length) (by omega) ⟨0,L.length,rfl,by omega,by omega,by omega,by omega⟩ ?_
 rintro m x ⟨i,j,rfl,h1,h2,h3,rfl⟩ K hK
 try dsimp only
 refine Ok.ite (fun hij=>?_) (fun hij=>?_)
 ·refine Ok.nat (by omega) ?_
  rw[show(1:Int).toNat=1 from rfl,QrF (by omega)]
  have hh:(i+j) / 2<L.length:=by omega
  refine Ok.natn (Ok.lt hh (Ok.get hh (Ok.oe (QoS (hp _ (Qi hh)) hid) (Ok.ite (fun g=>?_) (fun g=>?_)))))
  ·try dsimp only
   rw[Qb (by omega)]
   refine hK _ _ (by omega) ⟨(i+j) / 2+1,j,rfl,?_,h2,h3,rfl⟩
   rcases Nat.lt_or_ge ((i+j) / 2) (posV id L)with g2|g2
   ·omega
   ·have:=QiW ha g2 hh
    omega
  ·refine hK _ _ (by omega) ⟨i,(i+j) / 2,rfl,h1,?_,by omega,rfl⟩
   rcases Nat.lt_or_ge ((i+j) / 2) (posV id L)with g2|g2
   ·have:=QiX g2
    omega
   ·exact g2
 ·have e:i=posV id L:=by omega
  subst e
  unfold hasV
  refine Ok.ite (fun g=>?_) (fun g=>?_)
  ·have hh:posV id L<L.length:=by omega
   refine Ok.natn (Ok.lt hh (Ok.get hh (Ok.oe (QoS (hp _ (Qi hh)) hid) (Ok.ite (fun g=>Ok.sameC (Ok.s ?_)) (fun g=>Ok.sameC (Ok.s ?_))))))
   ·rw[decide_eq_true ⟨hh,by omega⟩]
   ·rw[decide_eq_false (fun h=>g (by omega))]
  ·exact Ok.sameC (Ok.s (by rw[decide_eq_false (fun h=>g (by omega))]))
theorem Qw1{id:Int}{L:List D.Page}(ha:AscP L)(hl:L.length≤64)(hp:∀p∈L,0≤p.ID∧p.ID≤999999)(hid : -1≤id∧id≤1000000):
  QI 1000 L id=some ((posV id L:Int),hasV id L):=by
 have hple:=Qau (id:=id) (l:=L)
 refine Ok.eq ?_
 unfold QI
 refine Ok.loop (fun m x=>∃(i j:Nat),x=((L,id,((L.length:Nat):Int),(i:Int),(j:Int),()),())∧i≤posV id L∧posV id L≤j∧j≤L.length∧m=j - i) (m:=L.length) (by omega) ⟨0,L.length,rfl,by omega,by omega,by omega,by omega⟩ ?_
 rintro m x ⟨i,j,rfl,h1,h2,h3,rfl⟩ K hK
 try dsimp only
 refine Ok.ite (fun hij=>?_) (fun hij=>?_)
 ·refine Ok.nat (by omega) ?_
  rw[show(1:Int).toNat=1 from rfl,QrF (by omega)]
  have hh:(i+j) / 2<L.length:=by omega
  refine Ok.atn hh (Ok.oe (QoS (hp _ (Qi hh)) hid) (Ok.ite (fun g=>?_) (fun g=>?_)))
  ·try dsimp only
   rw[Qb (by omega)]
   refine hK _ _ (by omega) ⟨(i+j) / 2+1,j,rfl,?_,h2,h3,rfl⟩
   rcases Nat.lt_or_ge ((i+j) / 2) (posV id L)with g2|g2
   ·omega
   ·have:=QiW ha g2 hh
    omega
  ·refine hK _ _ (by omega) ⟨i,(i+j) / 2,rfl,h1,?_,by omega,rfl⟩
   rcases Nat.lt_or_ge ((i+j) / 2) (posV id L)with g2|g2
   ·have:=QiX g2
    omega
   ·exact g2
 ·have e:i=posV id L:=by omega
  subst e
  unfold hasV
  refine Ok.ite (fun g=>?_) (fun g=>?_)
  ·have hh:posV id L<L.length:=by omega
   refine Ok.atn hh (Ok.oe (QoS (hp _ (Qi hh)) hid) (Ok.ite (fun g=>Ok.s ?_) (fun g=>Ok.s ?_)))
   ·rw[decide_eq_true ⟨hh,by omega⟩]
   ·rw[decide_eq_false (fun h=>g (by omega))]
  ·exact Ok.s (by rw[decide_eq_false (fun h=>g (by omega))])
theorem LW.idsIn(h:LW M n l):∀p∈l.Pages,0≤p.ID∧p.ID≤999999:=fun p hp=>by
 have:=(h.page p hp).1.id;omega
theorem Qis{id:Int}(h:LW M n l)(hid : -1≤id∧id≤1000000):ZV 1000 l id=some ((posV id l.Pages:Int),hasV id l.Pages):=by
 unfold ZV
 rw[QwB h.asc h.len h.idsIn hid,ZK]
 dsimp only
 rw[We,We,We]
theorem Qs2{id:Int}(h:LW M n l)(hid : -1≤id∧id≤1000000):QbC 1000 l id=some (Qbi l id):=by
 refine Ok.eq ?_
 unfold QbC Qgv Qbi
 rw[Qw1 h.asc h.len h.idsIn hid]
 by_cases g:hasV id l.Pages=true
 ·rw[if_pos g]
  have:=(Vn g).1
  exact Ok.os (Ok.nt g (Ok.atn this (Ok.oe (Qpp (h.plens _ (Qi this))) (Ok.s rfl))))
 ·rw[if_neg g]
  exact Ok.os (Ok.nf (by simpa using g) (Ok.s rfl))
theorem QtV:QdR 1000 p=some (QeV p):=by
 unfold QdR QeV
 (try unfold cd);rw[QuB];split<;>rfl
theorem Qtn{k:Nat}(hi:i<l.Pages.length)(hp:Qz (nth l.Pages i))(hk:k≤(nth l.Pages i).Starts.length)(hcl:l.Calls.length≤20000):
  QZ 1000 ⟨l⟩ (i:Int) (k:Int)=some ⟨{ l with Calls:=l.Calls++QF (nth l.Pages i).ID l.Fence ((nth l.Pages i).Starts.drop k) }⟩:=by
 obtain⟨P,hP⟩:∃P,nth l.Pages i=P:=⟨_,rfl⟩
 have hst:=hp.st
 refine Ok.eq ?_
 unfold QZ
 refine Ok.natn (Ok.lt hi (Ok.get hi (Ok.natn (Ok.lec hk ?_))))
 rw[hP]at hp hk hst ⊢
 refine Ok.run (P.Starts.length - k) (fun j=>(((P.Starts.drop k),(((P.Starts.drop k).length:Nat):Int),(j:Int),()),(l.Now,l.Config.Zones,l.Config.People,l.Config.Calendars,l.Config.Schedules,l.Book.Teams,l.Book.Policies,l.Owner,l.Fence,()),P,l.Pages,l.Seen,l.Calls++QF P.ID l.Fence ((P.Starts.drop k).take j),())) (by rw[List.take_zero];simp[QF]) (by omega) (fun j hj kk hkk=>?_) (fun kk=>?_)
 ·try dsimp only
  have hdl:j<(P.Starts.drop k).length:=by simp;omega
  refine Ok.P (Ok.atn hdl ?_)
  have hpe:=(hp.pe _ (List.mem_of_mem_drop (Qi hdl))).1
  have hts:(P.Starts.drop k).take (j+1)=(P.Starts.drop k).take j++[nth (P.Starts.drop k) j]:=(Qw hdl).symm
  have hol:(QF P.ID l.Fence ((P.Starts.drop k).take j)).length≤40*((P.Starts.drop k).take j).length:=Qah (m:=40) fun s hs=>(hp.pe s (List.mem_of_mem_drop (List.mem_of_mem_take hs))).1
  rw[List.length_take,List.length_drop]at hol
  obtain⟨s,hs⟩:∃s,nth (P.Starts.drop k) j=s:=⟨_,rfl⟩
  rw[hs]at hpe hts ⊢
  refine Ok.run s.People.length (fun z=>(((P.Starts.drop k),(((P.Starts.drop k).length:Nat):Int),(j:Int),s.People,((s.People.length:Nat):Int),(z:Int),()),(l.Now,l.Config.Zones,l.Config.People,l.Config.Calendars,l.Config.Schedules,l.Book.Teams,l.Book.Policies,l.Owner,l.Fence,()),P,s,l.Pages,l.Seen,(l.Calls++QF P.ID l.Fence ((P.Starts.drop k).take j))++(s.People.take z).map (fun x=>D.Call.mk P.ID s.K s.At x l.Fence),())) (by rw[List.take_zero,List.map_nil,List.append_nil];rfl) (by omega) (fun z hz k2 hk2=>?_) (fun k2=>?_)
  ·try dsimp only
   refine Ok.P (Ok.atn hz (Ok.lec ?_ ?_))
   ·simp only[List.length_append,List.length_map,List.length_take,List.length_cons,List.length_nil];omega
   ·try dsimp only
    rw[Qb (by omega)]
    try dsimp only at hk2
    rw[←Qw hz,List.map_append,←List.append_assoc]at hk2
    exact hk2
  ·try dsimp only
   refine Ok.N ?_
   try dsimp only
   rw[Qb (by omega),List.take_length]
   try dsimp only at hkk
   rw[hts,QcU,←List.append_assoc]at hkk
   exact hkk
 ·try dsimp only
  refine Ok.NS (Ok.s ?_)
  rw[List.take_of_length_le (by simp)]
theorem Qsh{A:D.Page}(hi:i<l.Pages.length)(hA:Qz A)(hx:Ext (nth l.Pages i) A)(hcl:l.Calls.length≤20000):
  QZ 1000 ⟨⟨l.Now,l.Config,l.Book,l.Pages.set i A,l.Owner,l.Fence,l.Seen,l.Calls⟩⟩ (i:Int) (((nth l.Pages i).Starts.length:Nat):Int)=some ⟨putV l i A⟩:=by
 obtain⟨m,hm⟩:=hx
 have hset:nth (l.Pages.set i A) i=A:=Xq hi
 have hc:=Qtn (l:={ l with Pages:=l.Pages.set i A }) (i:=i) (k:=(nth l.Pages i).Starts.length) (by show i<(l.Pages.set i A).length;rw[List.length_set];exact hi) (by show Qz (nth (l.Pages.set i A) i);rw[hset];exact hA)
  (by show _≤(nth (l.Pages.set i A) i).Starts.length;rw[hset,hm];simp) hcl
 refine hc.trans ?_
 show some (D.worker.mk { l with Pages:=l.Pages.set i A,Calls:=l.Calls++QF (nth (l.Pages.set i A) i).ID l.Fence ((nth (l.Pages.set i A) i).Starts.drop (nth l.Pages i).Starts.length) })=_
 rw[hset];rfl
theorem QlG(h:LW M n l)(hpg:l.Pages.length≤9)(hi:i<l.Pages.length):QD 1000 ⟨l⟩ (i:Int)=some ⟨runI l i⟩:=by
 have hcl:=h.callsLe hpg
 have hat:=h.at hi
 have hpl:=hat.1.plen h.book
 refine Ok.eq ?_
 unfold QD
 refine Ok.natn (Ok.lt hi (Ok.get hi (Ok.oe (QwQ h.cfg h.small h.book hpl) ?_)))
 have hext:=QlJ (c:=l.Config) (now:=l.Now) h.book hat.1
 have hR:=hpl.runV (c:=l.Config) (now:=l.Now) h.book
 have hid:=(Qdx (c:=l.Config) (now:=l.Now) h.book QT.step hat.1).id
 have herr:=(Qco (c:=l.Config) (now:=l.Now) h.book QT.step hat.1).2.1
 rw[h.runEq hi]
 obtain⟨R,e,hRe⟩:∃R e,runV l.Config l.Book (nth l.Pages i) l.Now=(R,e):=⟨_,_,rfl⟩
 rw[hRe]at hext hR hid herr ⊢
 try dsimp only at hext hR hid herr ⊢
 subst herr
 refine Ok.NS (Ok.natn (Ok.lt hi (Ok.get hi (Ok.natn (Ok.lt hi (Ok.get hi ?_))))))
 exact Ok.oe (Qsh hi hR hext (by omega)) (Ok.s rfl)
theorem Quc(h:Qd M n l)(hpg:l.Pages.length≤9):∀{k:Nat},k<l.Pages.length→QD 1000 ⟨Zk l k⟩ (k:Int)=some ⟨Zk l (k+1)⟩:=fun{k} hk=>by
 have hr:=h.runs (k:=k) (by omega)
 have hl:=(Ym (l:=l) (k:=k)).2.2.2.2.2.2
 exact QlG hr.w (by rw[hl];exact hpg) (by rw[hl];exact hk)
theorem QvW(hf:0≤l.Fence∧l.Fence≤1048576)(hk:o.Kind=2):Z2 1000 ⟨l⟩ o=some ((opV l o).2,⟨(opV l o).1⟩):=by
 refine Ok.eq ?_
 unfold Z2 opV
 rw[if_neg (by omega),if_pos hk,Qc (by dsimp only;omega)]
 refine Ok.ite (fun g=>Ok.s ?_) (fun g=>Ok.s ?_)
 ·rw[if_neg (fun e=>g e)]
 ·rw[if_pos (by simpa using g)]
theorem QsH(h:LW M n l)(hpg:l.Pages.length≤9)(ho:OpIn o)(hk:o.Kind=3):ZH 1000 ⟨l⟩ o=some ((opV l o).2,⟨(opV l o).1⟩):=by
 have hop:=ho.page
 refine Ok.eq ?_
 unfold ZH opV
 rw[if_neg (by omega),if_neg (by omega),if_pos hk]
 refine Ok.join (fun y=>y=((),(l.Now,l.Config.Zones,l.Config.People,l.Config.Calendars,l.Config.Schedules,l.Book.Teams,l.Book.Policies,l.Owner,l.Fence,()),o,l.Pages,l.Seen,l.Calls,())∧o.Region=l.Owner∧o.Fence=l.Fence) (fun y hy=>?_) (fun J hJ=>Ok.ite (fun g=>Ok.s ?_) (fun g=>Ok.ite (fun g2=>Ok.s ?_) (fun g2=>hJ _ ⟨rfl,by simpa using g,by simpa using g2⟩)))
 ·obtain⟨rfl,g1,g2⟩:=hy
  try dsimp only
  rw[if_pos ⟨g1,g2⟩]
  refine Ok.oe (Qis (l:=l) h (by omega)) (Ok.ncnd (fun hh=>Ok.s ?_) (fun hh=>?_))
  ·rw[if_neg (by rw[show hasV _ l.Pages=false from hh];simp)]
  ·rw[if_pos hh]
   have hi:=(Vn hh).1
   refine Ok.natn (Ok.lt hi (Ok.get hi ?_))
   have hrun:=QlG h hpg hi
   obtain⟨pg,hpg2⟩:∃pg,nth l.Pages (posV o.Page l.Pages)=pg:=⟨_,rfl⟩
   rw[hpg2]
   have hw:Yk pg l.Now=((dueV pg).2 && decide ((dueV pg).1≤l.Now)):=rfl
   have hkk:(if pg.State=2 then(-1:Int)else pg.Next)=QeV pg:=rfl
   rw[hkk]
   refine Ok.join (fun y=>y=((((posV o.Page l.Pages:Nat):Int),()),(l.Now,l.Config.Zones,l.Config.People,l.Config.Calendars,l.Config.Schedules,l.Book.Teams,l.Book.Policies,l.Owner,l.Fence,()),l.Pages,l.Seen,l.Calls,())∧Yk pg l.Now=true∧o.K=QeV pg) (fun y hy=>?_) (fun J hJ=>?_)
   ·obtain⟨rfl,g3,g4⟩:=hy
    try dsimp only
    rw[if_pos ⟨g3,g4⟩]
    exact Ok.oe hrun (Ok.s rfl)
   ·refine Ok.oe Qj4 (Ok.cnd (fun g3=>Ok.ite (fun g4=>Ok.s ?_) (fun g4=>Ok.oe QtV (Ok.ite (fun g5=>Ok.s ?_) (fun g5=>hJ _ ⟨rfl,?_,?_⟩)))) (fun g3=>Ok.s ?_))
    ·rw[if_neg (fun hx=>by rw[hw,g3]at hx;have:=of_decide_eq_true (show decide ((dueV pg).1≤l.Now)=true by simpa using hx.1);omega)]
    ·rw[if_neg (fun hx=>g5 hx.2.symm)]
    ·rw[hw,g3];simp;omega
    ·exact(show QeV pg=o.K by simpa using g5).symm
    ·rw[if_neg (fun hx=>by rw[hw,g3]at hx;simp at hx)]
 ·rw[if_neg (fun hx=>g hx.1)]
 ·rw[if_neg (fun hx=>g2 hx.2)]
theorem Qsv(h:Qd M n l)(hpg:l.Pages.length≤9)(hd:DecL l)(hk:o.Kind=4)(ha:YB o.Answer=true):ZB 1000 ⟨l⟩ o=some ((opV l o).2,⟨(opV l o).1⟩):=by
 have hcl:=h.callsLe hpg
 have hap:=(QnC ha).2
 refine Ok.eq ?_
 unfold ZB opV
 rw[if_neg (by omega),if_neg (by omega),if_neg (by omega),if_pos hk]
 refine Ok.oe (Qis (l:=l) h.w (by omega)) (Ok.ncnd (fun hh=>Ok.s ?_) (fun hh=>?_))
 ·rw[if_neg (by rw[show hasV _ l.Pages=false from hh];simp)]
 ·rw[if_pos hh]
  have hi:=Vn hh
  refine Ok.oe (QlG h.w hpg hi.1) ?_
  have h2:=h.run hi.1
  have hkp:=YI (l:=l) (i:=posV o.Answer.Page l.Pages)
  obtain⟨i,hie⟩:∃i,posV o.Answer.Page l.Pages=i:=⟨_,rfl⟩
  rw[hie]at hi h2 hkp ⊢
  have hi2:i<(runI l i).Pages.length:=by omega
  have hcl2:=h2.callsLe (by omega)
  refine Ok.natn (Ok.lt hi2 (Ok.get hi2 ?_))
  have hpl2:=h2.plens _ (Qi hi2)
  have hde:(nth (runI l i).Pages i).Declined.length≤11:=by
   have:=((hd.run h hi.1) _ (Qi (hie ▸ hi2))).dlen (h2.at hi2).1.declined
   omega
  obtain⟨a,hae⟩:∃a:D.Answer,a=D.Answer.mk o.Answer.ID o.Answer.Page o.Answer.Person o.Answer.Kind o.Answer.Arg (runI l i).Now:=⟨_,rfl⟩
  have hae2:D.Answer.mk o.Answer.ID o.Answer.Page o.Answer.Person o.Answer.Kind o.Answer.Arg l.Now=a:=by rw[hae,hkp.1]
  rw[←hae]
  refine Ok.oe (QqN h2.book hpl2 hde) ?_
  have hz:=QaP (b:=(runI l i).Book) (p:=nth (runI l i).Pages i) (a:=a)
  have hAl:=hpl2.answerV (a:=a) h2.book
  show Ok _ (·=((if (answerV l.Book (nth (runI l i).Pages i) (D.Answer.mk o.Answer.ID o.Answer.Page o.Answer.Person o.Answer.Kind o.Answer.Arg l.Now)).2=0 then(putV (runI l i) i (answerV l.Book (nth (runI l i).Pages i) (D.Answer.mk o.Answer.ID o.Answer.Page o.Answer.Person o.Answer.Kind o.Answer.Arg l.Now)).1,(0:Int))else(runI l i,(answerV l.Book (nth (runI l i).Pages i) (D.Answer.mk o.Answer.ID o.Answer.Page o.Answer.Person o.Answer.Kind o.Answer.Arg l.Now)).2)).2,(D.worker.mk (if (answerV l.Book (nth (runI l i).Pages i) (D.Answer.mk o.Answer.ID o.Answer.Page o.Answer.Person o.Answer.Kind o.Answer.Arg l.Now)).2=0 then(putV (runI l i) i (answerV l.Book (nth (runI l i).Pages i) (D.Answer.mk o.Answer.ID o.Answer.Page o.Answer.Person o.Answer.Kind o.Answer.Arg l.Now)).1,(0:Int))else(runI l i,(answerV l.Book (nth (runI l i).Pages i) (D.Answer.mk o.Answer.ID o.Answer.Page o.Answer.Person o.Answer.Kind o.Answer.Arg l.Now)).2)).1)))
  rw[hae2,←hkp.2.2.1]
  obtain⟨A,e,hA⟩:∃A e,answerV (runI l i).Book (nth (runI l i).Pages i) a=(A,e):=⟨_,_,rfl⟩
  rw[hA]at hz hAl ⊢
  try dsimp only at hz hAl ⊢
  by_cases he:e=0
  ·rw[if_pos he]
   have hq:=hz he
   have hext:Ext (nth (runI l i).Pages i) A:=by
    rcases hq with rfl|rfl
    ·exact Ext.refl _
    ·exact QeF
   refine Ok.n (fun g=>g he) (Ok.natn (Ok.lt hi2 (Ok.get hi2 (Ok.natn (Ok.lt hi2 (Ok.get hi2 ?_))))))
   exact Ok.oe (Qsh hi2 hAl hext (by omega)) (Ok.s rfl)
  ·rw[if_neg he]
   exact Ok.p he (Ok.s rfl)
end
end Go.Proofs.YtadlpefpehjcoaaGreat
/-
  Ledgers: what the program's operations, lists of operations and what waits compute.
-/
namespace Go.Proofs.YtadlpefpehjcoaaGreat
open Go AM
attribute [local irreducible] dueV stepV runV QQ answerV
section
variable {n:Nat} {c:D.Config} {b:D.Book} {p q:D.Page} {now M:Int} {l x:D.Ledger} {i:Nat} {o:D.Op} {ops:List D.Op}
theorem Qtu{x:D.Edit}{s:Int}(h:Q3 n c)(hn:n<48)(hx:Qae x):W1 1000 c s x=some (if 0≤s∧s<2 then(Qik c s x,0)else(cfg0,3)):=by
 have hsl:=h.slen
 have hpl:=h.plen
 obtain⟨off,hz,_⟩:=h.zone
 have hab:∃a b,c.Schedules=[a,b]:=by
  rcases hcs:c.Schedules with _|⟨a,_|⟨b,_|⟨d,r⟩⟩⟩
  ·rw[hcs]at hsl;simp at hsl
  ·rw[hcs]at hsl;simp at hsl
  ·exact⟨a,b,rfl⟩
  ·rw[hcs]at hsl;simp at hsl
 obtain⟨a,b,hab⟩:=hab
 have hpp:∃p1 p2 p3 p4,c.People=[p1,p2,p3,p4]:=by
  rcases hcs:c.People with _|⟨a,_|⟨b,_|⟨d,_|⟨e,_|⟨f,r⟩⟩⟩⟩⟩<;>rw[hcs]at hpl<;>simp at hpl
  exact⟨a,b,d,e,rfl⟩
 obtain⟨p1,p2,p3,p4,hpp⟩:=hpp
 have ha:=h.sched a (by rw[hab];simp)
 have hb:=h.sched b (by rw[hab];simp)
 obtain⟨la,hla,hla2⟩:=ha.layers
 obtain⟨lb,hlb,hlb2⟩:=hb.layers
 have hla3:=ha.len;have hlb3:=hb.len;have hla4:=hla2.len;have hlb4:=hlb2.len
 have hin:QjT 1000 ⟨bZ,off,[]⟩ [p1,p2,p3,p4] la lb a.Edits b.Edits:=by
  refine⟨by simp,fun p hp=>?_,by omega,by rw[hla2.win];simp,by omega,by rw[hlb2.win];simp,by omega,by omega⟩
  rcases(h.person p (by rw[hpp];exact hp)).quiet with g|⟨_,_,g,_⟩<;>rw[g]<;>simp
 refine Ok.eq ?_
 unfold W1
 rw[hz,hpp,h.cal,hab]
 dsimp only
 rw[hla,hlb]
 dsimp only
 rw[if_pos hin]
 refine Ok.oe (Qhp h (by omega)) (Ok.NS (Ok.ite (fun hs=>?_) (fun g=>Ok.s ?_)))
 ·have hadd:addE c a b s x=Qik c s x:=by
   unfold addE Qik
   rw[hab]
   rcases(show s=0∨s=1 by omega)with rfl|rfl
   ·rfl
   ·rfl
  rw[if_pos hs,hadd]
  exact Ok.oe (Qhp (QkR h hx hs) (by omega)) (Ok.NS (Ok.s rfl))
 ·rw[if_neg g]
theorem QwD{P:D.Page}{L:List D.Page}(hl:L.length≤64):QA 1000 L (posV P.ID L:Int) [P]=some (insP L P):=by
 have hp:=Qau (id:=P.ID) (l:=L)
 refine Ok.eq ?_
 unfold QA insP
 by_cases g:posV P.ID L=L.length
 ·rw[if_pos (by omega)]
  unfold Xe
  refine Ok.natn (Ok.lec hp (Ok.NS (Ok.P (Ok.LS (Ok.s ?_)))))
  rw[g,List.take_length,List.drop_length]
 ·rw[if_neg (by omega)]
  exact Ok.natn (Ok.E (Ok.L (Ok.s rfl)))
theorem QtZ(h:Qd M n l)(hpg:l.Pages.length≤8)(ho:OpIn o)(hk:o.Kind=1):ZQ 1000 ⟨l⟩ o=some ((opV l o).2,⟨(opV l o).1⟩):=by
 have hnow:=h.now;have htop:=h.top;have hpl:=h.book.plen;have hop:=ho.page
 refine Ok.eq ?_
 unfold ZQ opV
 rw[if_pos hk]
 refine Ok.oe (Qis (l:=l) h.w (by omega)) (Ok.cnd (fun g=>Ok.s ?_) (fun g=>?_))
 ·rw[if_pos g]
 replace g:hasV o.Page l.Pages=false:=g
 rw[if_neg (by rw[g];simp)]
 refine Ok.n (by dsimp only;omega) ?_
 rw[if_neg (by omega)]
 refine Ok.oe (QvR h.book) ?_
 unfold newV
 by_cases g1:o.Page<1
 ·rw[if_pos g1,if_neg (fun hh=>by have:=QL.1 hh.1;omega)]
  exact Ok.PS (Ok.s rfl)
 rw[if_neg g1,if_pos ⟨QL.2 (by omega),QL.2 (by dsimp only;omega)⟩]
 by_cases g2:0≤o.Policy∧o.Policy<(l.Book.Policies.length:Int)
 ·rw[if_pos g2,if_pos (QL.2 (by dsimp only;omega))]
  try dsimp only
  refine Ok.NS ?_
  obtain⟨hi1,hi2,hi3⟩:=h.open (o:=o) g (by omega) g2 (by omega)
  have hP:(newP o.Page o.Policy l.Now).ID=o.Page:=rfl
  have hins:=QwD (P:=newP o.Page o.Policy l.Now) (L:=l.Pages) h.len
  rw[hP]at hins
  refine Ok.oe hins ?_
  exact Ok.oe (QlG hi1.w (by show(insP l.Pages _).length≤9;rw[Qhv];omega) hi2) (Ok.s rfl)
 ·rw[if_neg g2,if_neg (fun hh=>g2 (by have:=QL.1 hh;dsimp only at this;omega))]
  exact Ok.PS (Ok.s rfl)
theorem Qrt(h:Qd M n l)(hn:n<48)(hpg:l.Pages.length≤9)(ho:OpIn o)(hk:o.Kind=5):ZP 1000 ⟨l⟩ o=some ((opV l o).2,⟨(opV l o).1⟩):=by
 refine Ok.eq ?_
 unfold ZP opV
 rw[if_neg (by omega),if_neg (by omega),if_neg (by omega),if_neg (by omega)]
 refine Ok.run l.Pages.length (fun i=>((((l.Pages.length:Nat):Int),(i:Int),()),((Zk l i).Now,(Zk l i).Config.Zones,(Zk l i).Config.People,(Zk l i).Config.Calendars,(Zk l i).Config.Schedules,(Zk l i).Book.Teams,(Zk l i).Book.Policies,(Zk l i).Owner,(Zk l i).Fence,()),o,(Zk l i).Pages,(Zk l i).Seen,(Zk l i).Calls,())) rfl (by omega) (fun i hi k hk=>?_) (fun k=>?_)
 ·try dsimp only
  refine Ok.P (Ok.oe (Quc h hpg hi) ?_)
  try dsimp only
  rw[Qb (by omega)]
  exact hk
 ·try dsimp only
  have hki:=Ym (l:=l) (k:=l.Pages.length)
  obtain⟨L,hL⟩:∃L,Zk l l.Pages.length=L:=⟨_,rfl⟩
  rw[hL]at hki ⊢
  have hed:=Qtu (c:=L.Config) (s:=o.Schedule) (by rw[hki.2.1];exact h.cfg) hn (ho.edit hk)
  refine Ok.N (Ok.oe hed ?_)
  by_cases hs:0≤o.Schedule∧o.Schedule<2
  ·rw[if_pos hs,if_pos hs,←hki.2.1]
   exact Ok.j (Ok.p rfl (Ok.s rfl))
  ·rw[if_neg hs,if_neg hs]
   exact Ok.j (Ok.NS (Ok.s rfl))
theorem OpIn.validE(ho:OpIn o):Qca 1000 o=some true:=by
 refine Ok.eq ?_
 unfold Qca
 refine Ok.oe oin (Ok.bt (QL.2 ho.id) (Ok.oe oin (Ok.bt (QL.2 ho.kind) (Ok.oe oin (Ok.bt (QL.2 ho.region) (Ok.oe oin (Ok.bt (QL.2 ho.fence) (Ok.oe oin (Ok.bt (QL.2 ho.at_) (Ok.oe oin (Ok.bt (QL.2 ho.page) (Ok.oe oin (Ok.bt (QL.2 ho.k) ?_)))))))))))))
 exact Ok.ite (fun g=>Ok.s rfl) (fun g=>Ok.oe Qpz (Ok.bt (ho.answer (by omega)).1 (Ok.s rfl)))
theorem OkAt.apply(h:OkAt l o):Qcb 1000 l o=some ((Zb l o).1,(Zb l o).2,true):=by
 obtain⟨M,n,h1,h2,h3⟩:=h.ok
 have hpg:=h.pg;have hsl:=h.len;have ho:=h.op;have hfe:=h1.fence
 refine Ok.eq ?_
 unfold Qcb
 refine Ok.j (Ok.oe h.led.checkE (Ok.t (Ok.oe ho.validE (Ok.t ?_))))
 try dsimp only
 refine Ok.oe h.led.copyE (Ok.oe (QaQ (by omega)) (Ok.cnd (fun g=>Ok.s ?_) (fun g=>?_)))
 ·unfold Zb;rw[if_pos g]
 rw[VV g]
 have hsee:=h1.see ho h3 g hsl
 have hsp:(seeV l o).Pages.length≤8:=hpg
 have hsf:0≤(seeV l o).Fence∧(seeV l o).Fence≤1048576:=by show 0≤l.Fence∧l.Fence≤1048576;omega
 have hsd:DecL (seeV l o):=h.dec
 have hkd:=ho.kind
 have key:∀r:Int×D.worker,r=((opV (seeV l o) o).2,⟨(opV (seeV l o) o).1⟩)→Ok (some (D.Ledger.mk r.2.Ledger.Now (D.Config.mk r.2.Ledger.Config.Zones r.2.Ledger.Config.People r.2.Ledger.Config.Calendars r.2.Ledger.Config.Schedules) (D.Book.mk r.2.Ledger.Book.Teams r.2.Ledger.Book.Policies) r.2.Ledger.Pages r.2.Ledger.Owner r.2.Ledger.Fence r.2.Ledger.Seen r.2.Ledger.Calls,r.1,true)) (·=((opV (seeV l o) o).1,(opV (seeV l o) o).2,true)):=fun r e=>by
  subst e
  obtain⟨L,e,hLe⟩:∃L e,opV (seeV l o) o=(L,e):=⟨_,_,rfl⟩
  rw[hLe]
  exact Ok.s rfl
 refine Ok.N (Ok.LS (Ok.j ?_))
 refine Ok.ite (fun k1=>?_) (fun k1=>Ok.ite (fun k2=>?_) (fun k2=>Ok.ite (fun k3=>?_) (fun k3=>Ok.ite (fun k4=>?_) (fun k4=>?_))))
 ·exact Ok.oe (QtZ (l:=seeV l o) hsee hsp ho k1) (key _ rfl)
 ·exact Ok.oe (QvW (l:=seeV l o) hsf k2) (key _ rfl)
 ·exact Ok.oe (QsH (l:=seeV l o) hsee.w (by omega) ho k3) (key _ rfl)
 ·exact Ok.oe (Qsv (l:=seeV l o) hsee (by omega) hsd k4 (ho.answer k4).1) (key _ rfl)
 ·exact Ok.oe (Qrt (l:=seeV l o) hsee h2 (by omega) ho (by omega)) (key _ rfl)
theorem OkAt.prog(h:OkAt l o):Qap 1000 l o=some (Zb l o):=by
 refine Ok.eq ?_
 unfold Qap
 exact Ok.oe h.apply (Ok.nt rfl (Ok.s rfl))
theorem Led.waiting{t:Int}(h:Led l):Vq 1000 l t=some (Qcu l.Pages t):=by
 have hpg:=h.pg
 refine Ok.eq ?_
 unfold Vq
 refine Ok.oe h.checkE (Ok.nt rfl ?_)
 refine Ok.run l.Pages.length (fun i=>((t,l.Pages,((l.Pages.length:Nat):Int),(i:Int),()),Qcu (l.Pages.take i) t,())) rfl (by omega) (fun i hi k hk=>?_) (fun k=>?_)
 ·try dsimp only
  have hs:=Qkv (t:=t) hi
  have hlen:=Qjl (L:=l.Pages.take i) (t:=t)
  rw[List.length_take]at hlen
  try dsimp only at hk
  rw[hs]at hk
  refine Ok.P (Ok.j (Ok.atn hi (Ok.oe Qj4 (Ok.cnd (fun g=>Ok.ite (fun g2=>Ok.LS ?_) (fun g2=>?_)) (fun g=>?_)))))
  ·try dsimp only
   rw[Qb (by omega)]
   rw[if_pos (by unfold Yk;rw[g,decide_eq_true g2];rfl)]at hk;exact hk
  ·try dsimp only
   rw[Qb (by omega)]
   rw[if_neg (by unfold Yk;rw[decide_eq_false g2];simp),List.append_nil]at hk;exact hk
  ·try dsimp only
   rw[Qb (by omega)]
   rw[if_neg (by unfold Yk;rw[g];simp),List.append_nil]at hk;exact hk
 ·try dsimp only
  refine Ok.N (Ok.s ?_)
  rw[List.take_length]
end
end Go.Proofs.YtadlpefpehjcoaaGreat
/-
  Pages and calls that are equal are the same to the reference.
-/
namespace Go.Proofs.YtadlpefpehjcoaaGreat
open Go AM
attribute [local irreducible] dueV stepV runV QQ answerV
section
variable {n:Nat} {c:D.Config} {b:D.Book} {l:D.Ledger}
end
end Go.Proofs.YtadlpefpehjcoaaGreat
/-
  Made ledgers: what the laws about operations and owners begin with.
-/
namespace Go.Proofs.YtadlpefpehjcoaaGreat
open Go AM
attribute [local irreducible] dueV stepV runV QQ answerV opV Zb opsV QpT
section
variable {n:Nat} {c:D.Config} {b:D.Book} {M:Int} {l x:D.Ledger} {o:D.Op} {ops:List D.Op} {L:List Int} {d:D.Dice}
theorem QwH{k:Nat}(hL:L.length≤500)(hd:ZJ L d)(hk:k≤9):
  Ok (WP 1000 d (k:Int)) fun r=>ZJ L r.2.2∧∃ops m,m≤k∧Behind ops m r.1:=by
 unfold WP
 refine Ok.opt (Qvr hL hd (by omega)) fun⟨c,d1⟩ ⟨h1,hc⟩=>?_
 try dsimp only at h1 hc ⊢
 refine Ok.opt (Qvm hL h1 (by omega)) fun⟨b,d2⟩ ⟨h2,hb⟩=>?_
 try dsimp only at h2 hb ⊢
 refine Ok.oe (QvS hc (by omega) hb) ?_
 try dsimp only
 refine Ok.opt (QvF hL h2 hc hb hk) fun⟨l,ops,d⟩ ⟨g1,g2,g3,g4⟩=>Ok.s ⟨g1,ops,ops.length,g3,?_⟩
 dsimp only at g2 g3 g4 ⊢
 have:=Behind.fold hc hb g2 (by omega) (Nat.le_refl _)
 rw[List.take_length]at this
 rw[g4];exact this
theorem Qtz{k:Int}(h:∀x∈l.Seen,x≤k)(ho:k<o.ID):l.Seen.contains o.ID=false:=by
 cases hc:l.Seen.contains o.ID with
 |false=>rfl
 |true=>
  have:=h _ (List.contains_iff_mem.1 hc)
  omega
end
end Go.Proofs.YtadlpefpehjcoaaGreat
/-
  Owners of ledgers, in plain Lean: takeovers, what an owner proposes, its calls, fences.
-/
namespace Go.Proofs.YtadlpefpehjcoaaGreat
open Go AM
attribute [local irreducible] dueV stepV runV QQ answerV opV Zb opsV QpT
section
variable {n:Nat} {M:Int} {l x:D.Ledger} {o:D.Op} {i k:Nat} {t r id now:Int} {L:List Int}
theorem Goes.calls{Q:D.Start→Prop}{st k t h:Int}{l:List D.Start}(g:Goes Q st l k t h):∀s∈l,-1≤s.K∧st≤s.At∧s.At≤t∧∀x∈s.People,0≤x∧x≤31:=by
 induction g with
 |nil=>simp
 |step g h1 _ h3 _ ih=>
  intro s hs
  have hp:=g.pos
  rcases List.mem_append.1 hs with hs|hs
  ·have:=ih s hs;exact⟨this.1,this.2.1,by omega,this.2.2.2⟩
  ·rw[List.mem_singleton.1 hs]
   exact⟨by dsimp only;omega,by dsimp only;omega,Int.le_refl _,fun x hx=>by have:=(VG.1 h3).2 x hx;omega⟩
 |hand g h1 _ h0 h31 ih=>
  intro s hs
  have hp:=g.pos
  rcases List.mem_append.1 hs with hs|hs
  ·have:=ih s hs;exact⟨this.1,this.2.1,by omega,this.2.2.2⟩
  ·rw[List.mem_singleton.1 hs]
   exact⟨Int.le_refl _,by dsimp only;omega,Int.le_refl _,fun x hx=>by rw[List.mem_singleton.1 hx];exact⟨h0,h31⟩⟩
structure Qux (l:D.Ledger) (c:D.Call):Prop where
 page:1≤c.Page∧c.Page≤999999
 k : -1≤c.K
 pers:0≤c.Person∧c.Person≤31
 at_:0≤c.At∧c.At≤8589934592
 fence:0≤c.Fence∧c.Fence≤l.Fence
theorem LW.callIn(h:LW M n l){c:D.Call}(hc:c∈l.Calls):Qux l c:=by
 obtain⟨p,hp,e⟩:=h.all c hc
 obtain⟨g1,g2⟩:=h.page p hp
 have gt:=h.told p hp
 obtain⟨t,g3,g4,_⟩:=g1.goes
 have hm:c∈ownC p.ID l.Calls:=List.mem_filter.2 ⟨hc,decide_eq_true e.symm⟩
 have hu:unf c∈QF p.ID 0 p.Starts:=by rw[←gt.same];exact List.mem_map_of_mem hm
 unfold QF at hu
 obtain⟨s,hs,hu⟩:=List.mem_flatMap.1 hu
 obtain⟨x,hx,hu⟩:=List.mem_map.1 hu
 have hf:=gt.fit c hm
 obtain⟨k1,k2,k3,k4⟩:=Goes.calls g3 s hs
 have k5:=k4 x hx
 have hid:=g1.id;have hst:=g1.start;have htop:=g1.top;have hla:=g1.last
 obtain⟨c1,c2,c3,c4,c5⟩:=c
 simp only[unf,D.Call.mk.injEq]at hu
 obtain⟨u1,u2,u3,u4,_⟩:=hu
 dsimp only at e hf
 exact⟨by dsimp only;omega,by dsimp only;omega,by dsimp only;omega,by dsimp only;omega,hf⟩
def ans0:D.Answer:=D.Answer.mk 0 0 0 0 0 0
def edit0:D.Edit:=D.Edit.mk 0 0 0 0 0
def op0:D.Op:=D.Op.mk 0 0 0 0 0 0 0 0 0 ans0 edit0
def ownO(l:D.Ledger)(r id now:Int):D.Op:=D.Op.mk id 2 r (l.Fence+1) now 0 0 0 0 ans0 edit0
def QeD(r id now:Int):Prop:=(0≤r∧r≤4)∧(1≤id∧id≤1099511627776)∧0≤now∧now≤8589934592
theorem QvZ(h:Qd M n l)(hc:QeD r id now):OpIn (ownO l r id now):=by
 have hf:=h.fence;have hs:=h.seen.len
 obtain⟨h1,h2,h3⟩:=hc
 exact⟨h2,by simp only[ownO];omega,h1,by simp only[ownO];omega,h3,by simp only[ownO];omega,by simp only[ownO];omega,fun e=>absurd (show(2:Int)=4 from e) (by omega),fun e=>absurd (show(2:Int)=5 from e) (by omega)⟩
theorem Qt2(h:Qd M n l)(hc:QeD r id now)(hn:now≤980000):QqB (ownO l r id now):=
 ⟨QvZ h hc,fun e=>absurd (show(2:Int)=1 from e) (by omega),hn,fun e=>absurd (show(2:Int)=4 from e) (by omega)⟩
theorem QvY(hs:l.Seen.contains id=false):Zb l (ownO l r id now)=({ seeV l (ownO l r id now)with Owner:=r,Fence:=l.Fence+1 },0):=by
 rw[QpE (o:=ownO l r id now) hs rfl,if_pos (show(ownO l r id now).Fence=l.Fence+1 from rfl)]
 rfl
def Qbv(L:List Int):Int:=L.foldl (fun m x=>max m (x+1)) 1
theorem QuF:∀{L:List Int} {m:Int},m≤L.foldl (fun m x=>max m (x+1)) m∧(∀x∈L,x<L.foldl (fun m x=>max m (x+1)) m)∧∀k,m≤k+1→(∀x∈L,x≤k)→L.foldl (fun m x=>max m (x+1)) m≤k+1
 |[],m=>by simp
 |y::r,m=>by
  obtain⟨h1,h2,h3⟩:=QuF (L:=r) (m:=max m (y+1))
  simp only[List.foldl_cons]
  refine⟨by omega,fun x hx=>?_,fun k hm hx=>h3 k (by have:=hx y (by simp);omega) fun z hz=>hx z (by simp[hz])⟩
  rcases List.mem_cons.1 hx with rfl|hx
  ·omega
  ·exact h2 x hx
theorem QrC:1≤Qbv L∧L.contains (Qbv L)=false∧∀k,0≤k→(∀x∈L,x≤k)→Qbv L≤k+1:=by
 obtain⟨h1,h2,h3⟩:=QuF (L:=L) (m:=1)
 refine⟨h1,?_,fun k hk hx=>h3 k (by omega) hx⟩
 cases hc:L.contains (Qbv L)with
 |false=>rfl
 |true=>
  have:=h2 _ (List.contains_iff_mem.1 hc)
  unfold Qbv at this;omega
theorem Qn5(h:i<L.length):Qbv (L.take (i+1))=max (Qbv (L.take i)) (nth L i+1):=by
 unfold Qbv
 rw[←Qw h,List.foldl_append];rfl
theorem Qk7{α:Type}[Inhabited α]{l:List α}:(List.range l.length).map (nth l)=l:=by
 refine List.ext_getElem (by simp) fun i h1 h2=>?_
 simp only[List.getElem_map,List.getElem_range,nth,List.getD_eq_getElem?_getD,List.getElem?_eq_getElem h2,Option.getD_some]
theorem QsU:Qcu l.Pages t=(Xb l t).map fun i=>D.Start.mk (nth l.Pages i).ID (dueV (nth l.Pages i)).1 []:=by
 unfold Qcu Xb
 conv=>lhs;rw[←Qk7 (l:=l.Pages)]
 rw[List.filter_map,List.map_map]
 rfl
theorem Qf4:(Xb l t).length=(Qcu l.Pages t).length:=by rw[QsU,List.length_map]
theorem QpA:(Xb l t).length≤l.Pages.length:=by rw[Qf4];exact Qjl
theorem Qr1{α β:Type}[Inhabited α][Inhabited β]{l:List α}{f:α→β}(h:i<l.length):nth (l.map f) i=f (nth l i):=by
 simp[nth,List.getD_eq_getElem?_getD,List.getElem?_eq_getElem h]
theorem Qr2{n:Nat}(h:i<n):nth (List.range n) i=i:=by
 simp[nth,List.getD_eq_getElem?_getD,h]
def Qa0(l:D.Ledger)(now:Int)(k:Nat):D.Page:=nth l.Pages (nth (Xb l now) k)
theorem QiQ(h:k<(Xb l now).length):nth (Xb l now) k<l.Pages.length∧Yk (Qa0 l now k) now=true:=Qjk.1 (Qi h)
theorem QsV(h:k<(Xb l now).length):nth (Qcu l.Pages now) k=D.Start.mk (Qa0 l now k).ID (dueV (Qa0 l now k)).1 []:=by
 rw[QsU,Qr1 h];rfl
def VJ(l:D.Ledger)(id now:Int)(k:Nat):D.Op:=D.Op.mk (id+k) 3 l.Owner l.Fence now (Qa0 l now k).ID (QeV (Qa0 l now k)) 0 0 ans0 edit0
def V7(l:D.Ledger)(id now:Int):List D.Op:=(List.range (Xb l now).length).map (VJ l id now)
theorem QaB:(V7 l id now).length=(Xb l now).length:=by simp[V7]
theorem Qjh(h:k<(Xb l now).length):nth (V7 l id now) k=VJ l id now k:=by
 unfold V7;rw[Qr1 (by simpa using h),Qr2 h]
theorem Qnx(h:k<(Xb l now).length):(V7 l id now).take (k+1)=(V7 l id now).take k++[VJ l id now k]:=by
 rw[←Qjh h,Qw (by rw[QaB];exact h)]
theorem QsI(h:Qd M n l)(hk:k<(Xb l now).length)(hid:1≤id∧id+k≤1099511627776)(ho:0≤l.Owner)(hn:0≤now∧now≤8589934592):OpIn (VJ l id now k):=by
 have hf:=h.fence;have hs:=h.seen.len;have how:=h.owner
 obtain⟨h1,h2⟩:=QiQ hk
 obtain⟨g1,_⟩:=h.at h1
 have hnx:=(ZW (g1.check h.book)).next
 have hcn:=Yd (g1.polOK h.book)
 have hpid:=g1.id
 have hK : -1≤QeV (Qa0 l now k)∧QeV (Qa0 l now k)≤1000:=by
  show -1≤QeV (nth l.Pages (nth (Xb l now) k))∧QeV (nth l.Pages (nth (Xb l now) k))≤1000
  unfold QeV
  split<;>omega
 exact⟨by simp only[VJ];omega,by simp only[VJ];omega,by simp only[VJ];omega,by simp only[VJ];omega,hn,by simp only[VJ,Qa0];omega,hK,fun e=>absurd (show(3:Int)=4 from e) (by omega),fun e=>absurd (show(3:Int)=5 from e) (by omega)⟩
theorem Qqp(h:Qd M n l)(hk:k<(Xb l now).length)(hid:1≤id∧id+k≤1099511627776)(ho:0≤l.Owner)(hn:0≤now∧now≤980000):QqB (VJ l id now k):=
 ⟨QsI h hk hid ho (by omega),fun e=>absurd (show(3:Int)=1 from e) (by omega),hn.2,fun e=>absurd (show(3:Int)=4 from e) (by omega)⟩
end
end Go.Proofs.YtadlpefpehjcoaaGreat
/-
  Owners of ledgers: what the program and the reference compute.
-/
namespace Go.Proofs.YtadlpefpehjcoaaGreat
open Go AM
attribute [local irreducible] dueV stepV runV QQ answerV opV Zb opsV QpT
section
variable {n:Nat} {M:Int} {l x:D.Ledger} {o:D.Op} {i k:Nat} {t r id now f:Int}
theorem owin{fu:Nat}{x lo hi:Int}:QdW fu x lo hi=some (inV x lo hi):=by
 unfold QdW inV
 by_cases h1:lo≤x<;>by_cases h2:x≤hi<;>simp[cd,AM.cnd,h1,h2]
def QgS(r id now:Int):Bool:=inV r 0 4 && (inV id 1 1099511627776 && inV now 0 8589934592)
theorem Qh9:QgS r id now=true↔QeD r id now:=by
 unfold QgS QeD
 simp only[bae,QL]
structure Own (l:D.Ledger):Prop where
 chkE:X4 1000 l=some true
 chkR:Vz 1000 l=some true
 fence:0≤l.Fence∧l.Fence≤1048576
 waitE:∀t,Vq 1000 l t=some (Qcu l.Pages t)
 waitR:∀t,Xw 1000 l t=some (Qcu l.Pages t)
 findE:∀p∈l.Pages,QbC 1000 l p.ID=some (Qbi l p.ID)
 findR:∀p∈l.Pages,QfS 1000 l p.ID=some (Qbi l p.ID)
 asc:AscP l.Pages
 pg:l.Pages.length≤9
 cl:l.Calls.length≤900
 call:∀c∈l.Calls,Qux l c
 all:∀c∈l.Calls,∃p∈l.Pages,p.ID=c.Page
theorem Led.own(h:Led l):Own l:=by
 obtain⟨M,n,h1,h2⟩:=h.ok
 have hf:=h1.fence;have hs:=h1.seen.len;have hpg:=h.pg
 exact⟨h.checkE,h.check,by omega,fun t=>h.waiting,fun t=>QoL h1 hpg,fun p hp=>Qs2 h1 (by have:=(h1.page p hp).1.id;omega),fun p hp=>Qrz h1.plens h1.asc (by omega),h1.asc,hpg,by have:=h1.callsLe hpg;omega,fun c hc=>h1.callIn hc,h1.all⟩
theorem Qt1(h:Own l):Qaq 1000 l r id now=some (if QgS r id now=true then 0 else 1):=by
 refine Ok.eq ?_
 unfold Qaq QgS
 refine Ok.oe h.chkE (Ok.nt rfl (Ok.j (Ok.oe owin (Ok.cnd (fun g1=>Ok.oe owin (Ok.cnd (fun g2=>Ok.oe owin (Ok.cnd (fun g3=>Ok.s ?_) (fun g3=>Ok.s ?_))) (fun g2=>Ok.s ?_))) (fun g1=>Ok.s ?_)))))
 all_goals simp[*]
def QoR(l:D.Ledger)(r id now:Int):D.Op×Int:=if QgS r id now=true then(if l.Fence=1048576 then(op0,5)else(ownO l r id now,0))else(op0,1)
theorem Qrh(h:Own l):QfU 1000 l r id now=some (QoR l r id now):=by
 have hf:=h.fence
 refine Ok.eq ?_
 unfold QfU QoR QgS
 refine Ok.j (Ok.oe h.chkR (Ok.nt rfl (Ok.oe rin (Ok.cnd (fun g1=>Ok.oe rin (Ok.cnd (fun g2=>Ok.oe rin (Ok.cnd (fun g3=>?_) (fun g3=>Ok.s ?_))) (fun g2=>Ok.s ?_))) (fun g1=>Ok.s ?_)))))
 ·rw[if_pos (by simp[g1,g2,g3])]
  refine Ok.ite (fun g4=>Ok.s ?_) (fun g4=>Ok.s ?_)
  ·rw[if_pos g4];rfl
  ·rw[if_neg g4,Qc (x:=l.Fence+1) (by omega)];rfl
 all_goals (rw[if_neg (by simp[*])];rfl)
theorem Qri(h:QeD r id now)(hf:l.Fence≤1000):QoR l r id now=(ownO l r id now,0):=by
 unfold QoR
 rw[if_pos (Qh9.2 h),if_neg (by omega)]
def Qt3(l:D.Ledger)(r id now:Int):List D.Op:=if QgS r id now=true∧r=l.Owner∧id+(l.Pages.length:Int)≤1099511627776 then V7 l id now else[]
theorem QrB(h:Own l)(hk:k<(Xb l now).length):Qbi l (Qa0 l now k).ID=(Qa0 l now k,true):=QkW h.asc (QiQ hk).1 rfl
theorem Qp6(hk:k<(Xb l now).length):Qa0 l now k∈l.Pages:=Qi (QiQ hk).1
theorem Qkr(h:Own l):Us 1000 l r id now=some (Qt3 l r id now):=by
 have hpg:=h.pg
 have hwl:=Qf4 (l:=l) (t:=now);have hwe:=QpA (l:=l) (t:=now)
 refine Ok.eq ?_
 unfold Us Qt3
 refine Ok.j (Ok.oe (Qt1 h) ?_)
 by_cases g:QgS r id now=true
 ·obtain⟨c1,c2,c3⟩:=Qh9.1 g
  rw[if_pos g]
  refine Ok.NS (Ok.ite (fun g2=>Ok.s (by rw[if_neg (fun h=>g2 h.2.1)])) (fun g2=>?_))
  have g2:r=l.Owner:=Decidable.not_not.1 g2
  rw[Qc (x:=id+(l.Pages.length:Int)) (by omega)]
  refine Ok.ite (fun g3=>Ok.s (by rw[if_neg (fun h=>by omega)])) (fun g3=>?_)
  rw[if_pos ⟨g,g2,by omega⟩]
  try dsimp only
  refine Ok.oe (h.waitE now) ?_
  refine Ok.run (Xb l now).length (fun k=>((r,id,now,Qcu l.Pages now,(((Qcu l.Pages now).length:Nat):Int),(k:Int),()),l,(V7 l id now).take k,())) rfl (by omega) (fun k hk K hK=>?_) (fun K=>?_)
  ·try dsimp only
   have hl:((V7 l id now).take k).length≤9:=by rw[List.length_take,QaB];omega
   try dsimp only at hK
   rw[Qnx hk]at hK
   refine Ok.P (Ok.A ?_)
   rw[QsV hk]
   refine Ok.oe (h.findE _ (Qp6 hk)) ?_
   rw[QrB h hk]
   refine Ok.j ?_
   have hw:IntKind.wrap .i64 (id+(k:Int))=id+k:=Qc (by omega)
   refine Ok.ite (fun g4=>Ok.LS ?_) (fun g4=>Ok.LS ?_)
   ·try dsimp only at g4 ⊢
    rw[hw,Qb (by omega)]
    have e:VJ l id now k=D.Op.mk (id+k) 3 r l.Fence now (Qa0 l now k).ID (-1) 0 0 (D.Answer.mk 0 0 0 0 0 0) (D.Edit.mk 0 0 0 0 0):=by unfold VJ QeV;rw[if_pos g4,g2];rfl
    rw[←e];exact hK
   ·try dsimp only at g4 ⊢
    rw[hw,Qb (by omega)]
    have e:VJ l id now k=D.Op.mk (id+k) 3 r l.Fence now (Qa0 l now k).ID (Qa0 l now k).Next 0 0 (D.Answer.mk 0 0 0 0 0 0) (D.Edit.mk 0 0 0 0 0):=by unfold VJ QeV;rw[if_neg g4,g2];rfl
    rw[←e];exact hK
  ·try dsimp only
   exact Ok.N (Ok.s (List.take_of_length_le (by rw[QaB];omega)))
 ·rw[if_neg g];exact Ok.PS (Ok.s (by rw[if_neg (fun h=>g h.1)]))
end
end Go.Proofs.YtadlpefpehjcoaaGreat
/-
  Ledgers that a region has taken over, and what an owner proposes on them.
-/
namespace Go.Proofs.YtadlpefpehjcoaaGreat
open Go AM
attribute [local irreducible] dueV stepV runV QQ answerV opV Zb opsV QpT
section
variable {n:Nat} {M:Int} {l x:D.Ledger} {o:D.Op} {i k:Nat} {t r id now f:Int} {L:List Int} {d:D.Dice}
theorem sane35:QdO 1000=some true:=by kernel_rfl
theorem Loose.own{k:Nat}(h:Loose k l)(hk:k≤46):Own l:=(h.led hk).own
structure Taken (k:Nat) (l:D.Ledger) (r id:Int) (x:D.Ledger):Prop where
 loose:Loose (k+1) x
 owner:x.Owner=r
 fence:x.Fence=l.Fence+1
 now:x.Now=l.Now
 pages:x.Pages=l.Pages
 calls:x.Calls=l.Calls
 seen:x.Seen=l.Seen++[id]
theorem Qr6(h:Loose k l)(hr:0≤r∧r≤4)(hid:1≤id∧id≤1000000):QeD r id l.Now∧QqB (ownO l r id l.Now):=by
 have hn:=h.inv.now
 have hc:QeD r id l.Now:=⟨hr,by omega,by omega⟩
 exact⟨hc,Qt2 h.inv hc (by omega)⟩
theorem Qr7(h:Loose k l)(hk:k≤40)(hr:0≤r∧r≤4)(hid:1≤id∧id≤1000000)(hs:l.Seen.contains id=false):WI 1000 l (ownO l r id l.Now)=some ((Zb l (ownO l r id l.Now)).1,0)∧Taken k l r id (Zb l (ownO l r id l.Now)).1:=by
 obtain⟨hc,hf⟩:=Qr6 h hr hid
 have e:=QvY (r:=r) (now:=l.Now) hs
 have hok:=h.okAt (by omega) hf
 refine⟨by rw[hok.ref,e],⟨h.next (by omega) hf,?_,?_,?_,?_,?_,?_⟩⟩
 all_goals rw[e]
 ·show max l.Now l.Now=l.Now;omega
 ·rfl
 ·rfl
 ·rfl
def QsO(l:D.Ledger)(r:Int):D.Ledger:=(Zb l (ownO l r (Qbv l.Seen) l.Now)).1
theorem Qun{m:Int}(h:Loose k l)(hk:k≤40)(hr:0≤r∧r≤4)(hm:0≤m∧m≤100000)(hs:∀x∈l.Seen,x≤m):
  Wn 1000 d l r=some (QsO l r)∧Taken k l r (Qbv l.Seen) (QsO l r)∧Qbv l.Seen≤m+1:=by
 obtain⟨f1,f2,f3⟩:=QrC (L:=l.Seen)
 have f4:=f3 m hm.1 hs
 obtain⟨hc,hf⟩:=Qr6 (id:=Qbv l.Seen) h hr (by omega)
 obtain⟨g1,g2⟩:=Qr7 h hk hr (by omega) f2
 have hsl:=h.seen;have hfe:=h.inv.fence
 refine⟨Ok.eq ?_,g2,f4⟩
 unfold Wn
 refine Ok.run l.Seen.length (fun i=>((r,Qbv (l.Seen.take i),(i:Int),()),l,({ Now:=0,Config:={ Zones:=[],People:=[],Calendars:=[],Schedules:=[] },Book:={ Teams:=[],Policies:=[] },Pages:=[],Owner:=0,Fence:=0,Seen:=[],Calls:=[] }:D.Ledger),d,())) rfl (by omega) (fun i hi K hK=>?_) (fun K=>?_)
 ·try dsimp only
  have hx:=(h.inv.seen.fit _ (Qi hi)).1
  have hx2:=hs _ (Qi hi)
  try dsimp only at hK
  rw[Qn5 hi]at hK
  refine Ok.P (Ok.atn hi ?_)
  rw[Qc (x:=nth l.Seen i+1) (by omega),Qb (by omega)]
  exact hK
 ·try dsimp only
  rw[List.take_length]
  refine Ok.N (Ok.oe (Qrh (h.own (by omega))) ?_)
  rw[Qri hc (by omega)]
  exact Ok.n (fun h=>h rfl) (Ok.oe g1 (Ok.sameC (Ok.s rfl)))
theorem Taken.sees{m:Int}{id:Int}(h:Taken k l r id x)(hs:∀y∈l.Seen,y≤m)(hid:id≤m+1):∀y∈x.Seen,y≤m+1:=fun y hy=>by
 rw[h.seen]at hy
 rcases List.mem_append.1 hy with hy|hy
 ·have:=hs y hy;omega
 ·rw[List.mem_singleton.1 hy];exact hid
theorem Qd.wides(h:Qd M n l):∀{k:Nat},n+k≤48→Qd M (n+k) l
 |0,_=>h
 |k+1,hk=>(h.wides (k:=k) (by omega)).wide (by omega)
theorem Quh(h:OkAt l o)(hk:o.Kind=2∨o.Kind=3):V1 1000 l o=some (decide ((Zb l o).2=23)):=by
 refine Ok.eq ?_
 unfold V1
 have key:Ok (optc (Qap 1000 l o) fun x=>some (decide (x.2=23))) (·=decide ((Zb l o).2=23)):=Ok.oe h.prog (Ok.s rfl)
 rcases hk with hk|hk
 ·exact Ok.j (Ok.P (Ok.n (fun g=>g hk) key))
 ·exact Ok.j (Ok.n (fun g=>g hk) key)
theorem QmW(h:Loose k l)(hid:1≤id∧id≤1000000)(ho:0≤l.Owner)(hn:0≤now∧now≤980000):Qt3 l l.Owner id now=V7 l id now:=by
 have hp:=h.inv.small3 (k:=3) h.ids
 have how:=h.inv.owner
 unfold Qt3
 rw[if_pos ⟨Qh9.2 ⟨⟨ho,how.2⟩,by omega,by omega⟩,rfl,by omega⟩]
end
end Go.Proofs.YtadlpefpehjcoaaGreat
/-
  The laws OwnerDrives, OwnerCalls and OwnerFences, of what is reckoned of their code.
-/
namespace Go.Proofs.YtadlpefpehjcoaaGreat
open Go AM
attribute [local irreducible] dueV stepV runV QQ answerV opV Zb opsV QpT
theorem Qhe(t:List Int)(n:Int)(hn:0≤n∧n≤65535):Wm 1000 t n=some true:=by
 refine Ok.eq ?_
 unfold Wm
 refine Ok.oe QtO (Ok.ncnd (fun _=>Ok.oe sane35 (Ok.s rfl)) fun hl=>Ok.oe Qv8 ?_)
 have hL:=QrT hl
 refine Ok.opt (QwH (k:=8) hL dice0 (by omega)) fun⟨l,z,d⟩ ⟨h1,ops,m,hm,hB⟩=>?_
 try dsimp only at h1 hB ⊢
 refine Ok.opt (nx hL h1 (by omega) (by omega)) fun⟨r,d2⟩ ⟨h2,l2,u2⟩=>?_
 try dsimp only at h2 l2 u2 ⊢
 obtain⟨a1,a2,a3⟩:=Qun (d:=d2) (r:=r) (m:=(m:Int)) hB.loose (by omega) (by omega) (by omega) hB.seen
 obtain⟨x,hx⟩:∃x,QsO l r=x:=⟨_,rfl⟩
 rw[hx]at a1 a2
 have s1:=a2.sees hB.seen a3
 have hnow:=hB.made.now;have hn0:=hB.made.inv.now
 have xn:=a2.now;have xo:=a2.owner
 refine Ok.oe a1 (Ok.Z ?_)
 rw[Qc (x:=n) (by omega)]
 have hm1:=Int.tmod_nonneg (3000:Int) hn.1
 have hm2:=Int.tmod_lt_of_pos n (show(0:Int)<3000 by omega)
 rw[Qc (x:=x.Now+n.tmod 3000) (by omega)]
 obtain⟨now,hu⟩:∃now,x.Now+n.tmod 3000=now:=⟨_,rfl⟩
 rw[hu]
 have hlo:=a2.loose
 have how:=hlo.own (by omega)
 refine Ok.oe (Qkr how) ?_
 rw[QmW hlo (by omega) (by omega) (by omega)]
 refine Ok.oe (how.waitR now) ?_
 have hwl:=Qf4 (l:=x) (t:=now)
 have hwe:=QpA (l:=x) (t:=now)
 have hp3:=hlo.inv.small3 (k:=3) hlo.ids
 have hsl:=QaB (l:=x) (id:=900) (now:=now)
 refine Ok.N ?_
 refine Ok.loop (fun q s=>∃(k:Nat) (w:D.Ledger),s=((now,V7 x 900 now,(((V7 x 900 now).length:Nat):Int),(k:Int),()),w,())∧k≤(Xb x now).length∧Driven 1000000 (2+(m+1)+k) x now k w∧Loose (m+1+k) w∧(∀z∈w.Seen,z≤899+(k:Int))∧q=(Xb x now).length - k) (m:=(Xb x now).length) (by omega)
  ⟨0,x,rfl,by omega,⟨hlo.inv,⟨by omega,fun h=>by omega⟩,rfl,⟨rfl,rfl,rfl,rfl⟩,fun j hj=>by simp⟩,hlo,fun z hz=>by have:=s1 z hz;omega,rfl⟩ ?_
 rintro q s ⟨k,w,rfl,i1,i2,i3,i4,rfl⟩ K hK
 try dsimp only
 have hcf:=i2.cfg
 refine Ok.ite (fun hlt=>?_) (fun hge=>?_)
 ·have hi:k<(Xb x now).length:=by omega
  refine Ok.A ?_
  rw[Qjh hi]
  have hfit:=Qqp (id:=900) hlo.inv hi (by omega) (by omega) (by omega)
  have hok:=i3.okAt (by omega) hfit
  have hid:(VJ x 900 now k).ID=900+(k:Int):=rfl
  have hfr:w.Seen.contains (VJ x 900 now k).ID=false:=Qtz i4 (by rw[hid];omega)
  have hws:=i3.seen
  obtain⟨e1,e2⟩:=i2.step (o:=VJ x 900 now k) (hlo.inv.wides (by omega)) (by omega) hi hfit.1 (by omega) rfl rfl rfl rfl rfl rfl hfr (by omega)
  have hnx:=i3.next (by omega) hfit
  have hst:=Quh hok (.inr rfl)
  have hrf:=hok.ref
  have hsn:∀z∈(Zb w (VJ x 900 now k)).1.Seen,z≤899+((k+1:Nat):Int):=fun z hz=>by
   rw[VV hfr,Qhy.2]at hz
   rcases List.mem_append.1 hz with hz|hz
   ·have:=i4 z hz;omega
   ·rw[List.mem_singleton.1 hz,hid];omega
  obtain⟨w2,e,hw2⟩:∃w2 e,Zb w (VJ x 900 now k)=(w2,e):=⟨_,_,rfl⟩
  rw[hw2]at e1 e2 hnx hst hrf hsn
  dsimp only at e1 e2 hnx hst hsn
  subst e1
  refine Ok.j (Ok.n (by rw[hid,Qc (by omega)];omega) (Ok.oe hst (Ok.f (Ok.oe hrf ?_))))
  try dsimp only
  refine Ok.n (fun g=>g rfl) ?_
  rw[Qb (by omega)]
  exact hK ((Xb x now).length - (k+1)) _ (by omega) ⟨k+1,w2,rfl,by omega,e2,hnx,hsn,rfl⟩
 ·obtain rfl:k=(Xb x now).length:=by omega
  have hnone:=i2.none (hlo.inv.wides (by omega))
  have hw:=i3.own (by omega)
  refine Ok.oe (hw.waitR now) ?_
  rw[hnone]
  refine Ok.p rfl (Ok.oe (Qkr hw) ?_)
  rw[QmW i3 (by omega) (by omega) (by omega)]
  have:(V7 w 950 now).length=0:=by rw[QaB,Qf4,hnone];rfl
  exact Ok.P (Ok.oe sane35 (Ok.t (Ok.s rfl)))
end Go.Proofs.YtadlpefpehjcoaaGreat
