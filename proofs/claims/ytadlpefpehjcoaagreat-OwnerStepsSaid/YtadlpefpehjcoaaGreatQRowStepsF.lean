/-
  Ledgers looked at: what the reference's calls and checks compute.
-/
import Derived.Test.YtadlpefpehjcoaaGreatQRowStepsE
import Derived.Test.YtadlpefpehjcoaaGreatProg
import Derived.Test.YtadlpefpehjcoaaGreatQRowStepsA
import Derived.Test.YtadlpefpehjcoaaGreatQRowStepsB
set_option maxRecDepth 100000
set_option linter.unusedVariables false
set_option linter.unusedSimpArgs false
namespace Go.Proofs.YtadlpefpehjcoaaGreat
open Go AM
section
attribute [local irreducible] dueV stepV runV QQ answerV
section
variable {n:Nat} {c:D.Config} {b:D.Book} {p q:D.Page} {now M:Int} {l:D.Ledger}
theorem QaE{id f:Int}{m:Nat}:∀{l:List D.Start},(∀s∈l,s.People.length≤m)→(QG id f l).length≤m*l.length
 |[],_=>by simp[QG]
 |s::l,h=>by
  have:=QaE (id:=id) (f:=f) (l:=l) fun x hx=>h x (List.mem_cons_of_mem _ hx)
  have h1:=h s (List.mem_cons_self ..)
  unfold QG at this ⊢
  rw[List.flatMap_cons,List.length_append,List.length_map,List.length_cons,Nat.mul_succ];omega
theorem Qdi{id f:Int}{l:List D.Start}{s:D.Start}:QG id f (l++[s])=QG id f l++s.People.map fun x=>D.Call.mk id s.K s.At x f:=by
 rw[QbD];unfold QG;simp
theorem Qqx{α:Type}[Inhabited α]{l:List α}{k j:Nat}:nth (l.drop k) j=nth l (k+j):=by
 simp[nth,List.getD_eq_getElem?_getD,List.getElem?_drop]
theorem Qlu(h:QA p){k:Nat}{f:Int}(hk:k≤p.Starts.length):Qb6 1000 p (k:Int) f=some (QG p.ID f (p.Starts.drop k)):=by
 have hst:=h.st
 refine Ok.eq ?_
 unfold Qb6
 refine Ok.run (p.Starts.length - k) (fun j=>((f,((k+j:Nat):Int),()),p,QG p.ID f ((p.Starts.drop k).take j),())) rfl (by omega) (fun j hj kk hkk=>?_) (fun kk=>?_)
 ·try dsimp only
  have hlt:k+j<p.Starts.length:=by omega
  refine Ok.P (Ok.atn hlt ?_)
  have hpe:=(h.pe _ (Qi hlt)).1
  have hdl:j<(p.Starts.drop k).length:=by simp;omega
  have hts:(p.Starts.drop k).take (j+1)=(p.Starts.drop k).take j++[nth p.Starts (k+j)]:=by rw[←Qs hdl,Qqx]
  have hol:(QG p.ID f ((p.Starts.drop k).take j)).length≤40*((p.Starts.drop k).take j).length:=QaE (m:=40) fun s hs=>(h.pe s (List.mem_of_mem_drop (List.mem_of_mem_take hs))).1
  rw[List.length_take]at hol
  obtain⟨s,hs⟩:∃s,nth p.Starts (k+j)=s:=⟨_,rfl⟩
  rw[hs]at hpe hts ⊢
  refine Ok.run s.People.length (fun z=>((f,((k+j:Nat):Int),(z:Int),()),p,s,QG p.ID f ((p.Starts.drop k).take j)++(s.People.take z).map (fun x=>D.Call.mk p.ID s.K s.At x f),())) (by rw[List.take_zero,List.map_nil,List.append_nil];rfl) (by omega) (fun z hz k2 hk2=>?_) (fun k2=>?_)
  ·try dsimp only
   refine Ok.P (Ok.atn hz (Ok.lec ?_ ?_))
   ·simp only[List.length_append,List.length_map,List.length_take,List.length_cons,List.length_nil];omega
   ·try dsimp only
    rw[Qa (by omega)]
    try dsimp only at hk2
    rw[←Qs hz,List.map_append,←List.append_assoc]at hk2
    exact hk2
  ·try dsimp only
   refine Ok.N ?_
   try dsimp only
   rw[Qa (by omega),List.take_length]
   try dsimp only at hkk
   rw[hts,Qdi]at hkk
   exact hkk
 ·try dsimp only
  refine Ok.N (Ok.s ?_)
  rw[List.take_of_length_le (by simp)]
theorem Qkq{id:Int}{cs:List D.Call}{i:Nat}(hi:i<cs.length):ownC id (cs.take (i+1))=ownC id (cs.take i)++(if (nth cs i).Page=id then[nth cs i]else[]):=by
 rw[←Qs hi,Uf]
 congr 1
 unfold ownC
 by_cases h:(nth cs i).Page=id
 ·simp[h]
 ·simp[h]
theorem QxF(h:QA p)(hl:l.Calls.length≤900)(ht:Told l.Fence p l.Calls):QeC 1000 l p=some true:=by
 have hW:=ht.same
 obtain⟨W,hWe⟩:∃W,QG p.ID 0 p.Starts=W:=⟨_,rfl⟩
 rw[hWe]at hW
 have hWl:W.length=(ownC p.ID l.Calls).length:=by rw[←hW,List.length_map]
 have hol:∀i,(ownC p.ID (l.Calls.take i)).length≤900:=fun i=>by
  unfold ownC
  exact Nat.le_trans (List.length_filter_le _ _) (by rw[List.length_take];omega)
 refine Ok.eq ?_
 unfold QeC
 have hc:=Qlu (k:=0) (f:=0) h (Nat.zero_le _)
 rw[List.drop_zero,hWe]at hc
 refine Ok.oe hc ?_
 refine Ok.loop (fun m x=>∃(i:Nat) (fe:Int),x=((W,((ownC p.ID (l.Calls.take i)).length:Int),fe,(i:Int),()),l,p,())∧i≤l.Calls.length∧(fe=0∨∃c∈ownC p.ID (l.Calls.take i),c.Fence=fe)∧m=l.Calls.length - i) (m:=l.Calls.length) (by omega)
  ⟨0,0,by rw[List.take_zero];rfl,by omega,.inl rfl,rfl⟩ ?_
 rintro m x ⟨i,fe,rfl,i1,i2,rfl⟩ K hK
 try dsimp only
 have hoi:=hol i
 refine Ok.ite (fun hi=>?_) (fun hi=>?_)
 ·have hlt:i<l.Calls.length:=by omega
  refine Ok.j (Ok.atn hlt ?_)
  have hsu:=Qkq (id:=p.ID) hlt
  have hsp:l.Calls=l.Calls.take i++nth l.Calls i::l.Calls.drop (i+1):=by rw[←Qdo hlt,List.take_append_drop]
  obtain⟨c,hce⟩:∃c,nth l.Calls i=c:=⟨_,rfl⟩
  rw[hce]at hsu hsp ⊢
  refine Ok.ite (fun g=>?_) (fun g=>?_)
  ·rw[if_neg g,List.append_nil]at hsu
   try dsimp only
   rw[Qa (by omega)]
   refine hK _ _ (by omega) ⟨i+1,fe,by rw[hsu],by omega,by rw[hsu];exact i2,rfl⟩
  ·have g:c.Page=p.ID:=by omega
   rw[if_pos g]at hsu
   have hown:ownC p.ID l.Calls=ownC p.ID (l.Calls.take i)++c::ownC p.ID (l.Calls.drop (i+1)):=by
    rw[hsp,Uf]
    congr 1
    ·rw[←hsp]
    ·unfold ownC
     rw[List.filter_cons_of_pos (by simpa using g)]
     rw[←hsp]
   have hcm:c∈ownC p.ID l.Calls:=by rw[hown];simp
   have hfit:=ht.fit c hcm
   have hle:fe≤c.Fence:=by
    rcases i2 with rfl|⟨c',hc',rfl⟩
    ·exact hfit.1
    ·have:=ht.up
     rw[hown]at this
     exact(List.pairwise_append.1 this).2.2 c' hc' c (List.mem_cons_self ..)
   have hn:(ownC p.ID (l.Calls.take i)).length<W.length:=by rw[hWl,hown];simp
   have hnth:nth W (ownC p.ID (l.Calls.take i)).length=unf c:=by
    have e:W=(ownC p.ID (l.Calls.take i)).map unf++(unf c::(ownC p.ID (l.Calls.drop (i+1))).map unf):=by rw[←hW,hown,List.map_append,List.map_cons]
    rw[e]
    simp[nth,List.getD_eq_getElem?_getD]
   refine Ok.join (fun y=>y=((W,((ownC p.ID (l.Calls.take i)).length:Int),(i:Int),()),l,p,c,())) (fun y hy=>?_) (fun J hJ=>Ok.N (Ok.N (Ok.N (hJ _ rfl))))
   subst hy
   try dsimp only
   refine Ok.atn hn ?_
   rw[hnth]
   refine Ok.n (fun h=>h rfl) ?_
   try dsimp only
   rw[Qa (by omega),Qa (by omega)]
   refine hK _ _ (by omega) ⟨i+1,c.Fence,by rw[hsu];simp,by omega,.inr ⟨c,by rw[hsu];simp,rfl⟩,rfl⟩
 ·have e:i=l.Calls.length:=by omega
  subst e
  refine Ok.s (decide_eq_true ?_)
  rw[List.take_length,hWl]
def sumC(l:List D.Page)(f:D.Page→Nat):Nat:=(l.map f).sum
theorem Qvy{l:List D.Page}{f g h:D.Page→Nat}(e:∀p∈l,f p=g p+h p):sumC l f=sumC l g+sumC l h:=by
 induction l with
 |nil=>rfl
 |cons p l ih=>
  have:=ih fun q hq=>e q (List.mem_cons_of_mem _ hq)
  have h1:=e p (List.mem_cons_self ..)
  simp only[sumC,List.map_cons,List.sum_cons]at this ⊢
  omega
theorem Qvz{l:List D.Page}{x:Int}(ha:AscP l)(hx:∃p∈l,p.ID=x):sumC l (fun p=>if x=p.ID then 1 else 0)=1:=by
 induction l with
 |nil=>obtain⟨p,hp,_⟩:=hx;simp at hp
 |cons q l ih=>
  have ha':=List.pairwise_cons.1 ha
  have hz:∀(l:List D.Page),(∀p∈l,x≠p.ID)→sumC l (fun p=>if x=p.ID then 1 else 0)=0:=by
   intro l
   induction l with
   |nil=>intro _;rfl
   |cons p l ih=>
    intro h
    simp only[sumC,List.map_cons,List.sum_cons]
    rw[if_neg (h p (List.mem_cons_self ..))]
    have:=ih fun q hq=>h q (List.mem_cons_of_mem _ hq)
    unfold sumC at this;omega
  simp only[sumC,List.map_cons,List.sum_cons]
  by_cases e:x=q.ID
  ·rw[if_pos e]
   have:=hz l fun p hp e'=>by have:=ha'.1 p hp;omega
   unfold sumC at this;omega
  ·rw[if_neg e]
   have:=ih ha'.2 (by
    obtain⟨p,hp,h2⟩:=hx
    rcases List.mem_cons.1 hp with rfl|hp
    ·exact absurd h2.symm e
    ·exact⟨p,hp,h2⟩)
   unfold sumC at this;omega
theorem Qlc{l:List D.Page}(ha:AscP l):∀{cs:List D.Call},(∀c∈cs,∃p∈l,p.ID=c.Page)→sumC l (fun p=>(ownC p.ID cs).length)=cs.length
 |[],_=>by
  have:∀l:List D.Page,sumC l (fun p=>(ownC p.ID []).length)=0:=by
   intro l
   induction l with
   |nil=>rfl
   |cons p l ih=>simp only[sumC,List.map_cons,List.sum_cons]at ih ⊢;simpa [ownC]using ih
  rw[this];rfl
 |c::cs,h=>by
  have h1:=Qlc ha (cs:=cs) fun x hx=>h x (List.mem_cons_of_mem _ hx)
  have h2:=Qvz ha (h c (List.mem_cons_self ..))
  rw[Qvy (g:=fun p=>(ownC p.ID cs).length) (h:=fun p=>if c.Page=p.ID then 1 else 0) (fun p hp=>?_),h1,h2,List.length_cons]
  unfold ownC
  by_cases e:c.Page=p.ID
  ·rw[List.filter_cons_of_pos (by simpa using e),if_pos e,List.length_cons]
  ·rw[List.filter_cons_of_neg (by simpa using e),if_neg e];rfl
theorem QpT{l:List D.Page}{f:D.Page→Nat}{m:Nat}(h:∀p∈l,f p≤m):sumC l f≤m*l.length:=by
 induction l with
 |nil=>simp[sumC]
 |cons p l ih=>
  have h1:=h p (List.mem_cons_self ..)
  have h2:=ih fun q hq=>h q (List.mem_cons_of_mem _ hq)
  simp only[sumC,List.map_cons,List.sum_cons,List.length_cons]at h2 ⊢
  have:m*(l.length+1)=m*l.length+m:=Nat.mul_succ ..
  omega
end
end
/-
  Books that dice make are right, for the reference's check.
-/
section
variable {n:Nat} {c:D.Config} {b:D.Book}
theorem Ql1{α:Type}[Inhabited α]{l:List α}{k i:Nat}(h:i<k):nth (l.take k) i=nth l i:=by
 simp[nth,List.getD_eq_getElem?_getD,List.getElem?_take,h]
theorem QM.tnm(h:QM b){i:Nat}(hi:i<b.Teams.length):(nth b.Teams i).Name=nth QfR i:=by
 rw[Qh8 h.tname hi,Ql1 hi]
theorem QM.pnm(h:QM b){i:Nat}(hi:i<b.Policies.length):(nth b.Policies i).Name=nth Qkb i:=by
 rw[Qh8 h.pname hi,Ql1 hi]
theorem forall3{P:Nat→Prop}(h0:P 0)(h1:P 1)(h2:P 2):∀i,i<3→P i:=fun i hi=>by
 rcases(show i=0∨i=1∨i=2 by omega)with rfl|rfl|rfl
 ·exact h0
 ·exact h1
 ·exact h2
theorem Qw3:∀i,i<2→Qeu 1000 (nth QfR i)=some true:=forall2 (by kernel_rfl) (by kernel_rfl)
theorem Qw2:∀i,i<3→Qeu 1000 (nth Qkb i)=some true:=forall3 (by kernel_rfl) (by kernel_rfl) (by kernel_rfl)
theorem Qm8:∀i,i<2→∀j,j<i→nth QfR j≠nth QfR i:=by decide
theorem Qp0:∀i,i<3→∀j,j<i→nth Qkb j≠nth Qkb i:=by decide
theorem Qxw{l:List Int}{m:Int}(ha:Asc l)(hm:∀x∈l,0≤x∧x<m)(hl:l.length<900):QcG 1000 l m=some true:=by
 refine Ok.eq ?_
 unfold QcG
 refine Ok.run l.length (fun i=>((l,m,(i:Int),()),())) rfl (by omega) (fun i hi k hk=>?_) (fun k=>by dsimp only;exact Ok.N (Ok.s rfl))
 have hx:=hm _ (Qi hi)
 dsimp only
 refine Ok.P (Ok.j (Ok.atn hi (Ok.N (Ok.atn hi (Ok.N ?_)))))
 dsimp only
 rw[Qa (by omega)]
 by_cases h0:0<i
 ·refine Ok.P ?_
  rw[show IntKind.wrap .i64 ((i:Int) - 1)=((i - 1:Nat):Int)by rw[Qc (by omega)];omega]
  have:=QgH ha (show i - 1<i by omega) hi
  exact Ok.A (Ok.atn hi (Ok.N hk))
 ·exact Ok.N hk
theorem Qua(h:Q3 n c)(hb:QM b){i:Nat}(hi:i<b.Teams.length):Qif 1000 c b (i:Int)=some 0:=by
 have htl:=hb.tlen
 have ht:=hb.team _ (Qi hi)
 have hnm:=hb.tnm hi
 have hpl:=h.plen
 refine Ok.eq ?_
 unfold Qif
 refine Ok.atn hi (Ok.oe (by rw[hnm];exact Qw3 i (by omega)) (Ok.nt rfl ?_))
 obtain⟨x,hx⟩:∃x,nth b.Teams i=x:=⟨_,rfl⟩
 rw[hx]at ht hnm ⊢
 refine Ok.run2 i (fun k=>((i:Int),(k:Int),())) rfl (by omega) (fun k hk K hK=>?_) (fun K=>?_)
 ·dsimp only
  refine Ok.P (Ok.A (Ok.n ?_ ?_))
  ·rw[hb.tnm (by omega),hnm];exact Qm8 i (by omega) k hk
  ·rw[Qa (by omega)];exact hK
 ·dsimp only
  have hml:=ht.len
  refine Ok.N (Ok.N ?_)
  refine Ok.run2 (x.Members.length - 1) (fun k=>(((k+1:Nat):Int),())) rfl (by omega) (fun k hk K hK=>?_) (fun K=>?_)
  ·dsimp only
   rw[show IntKind.wrap .i64 (((k+1:Nat):Int) - 1)=((k:Nat):Int)by rw[Qc (by omega)];omega]
   have:=QgH ht.asc (show k<k+1 by omega) (show k+1<x.Members.length by omega)
   refine Ok.P (Ok.A (Ok.A (Ok.N ?_)))
   rw[Qa (by omega)];exact hK
  ·dsimp only
   refine Ok.N (Ok.oe (Qxw ht.asc (fun z hz=>?_) (by omega)) (Ok.nt rfl (Ok.s rfl)))
   have:=ht.mem z hz;omega
theorem QoF(h:Q3 n c)(hb:QM b){l:List D.Target}(hl:l.length≤2)(ht:∀x∈l,Vv b.Teams.length x):QcH 1000 c b l=some 0:=by
 have hpl:=h.plen;have hsl:=h.slen
 refine Ok.eq ?_
 unfold QcH
 refine Ok.N (Ok.run l.length (fun i=>((l,(i:Int),()),c,b,())) rfl (by omega) (fun i hi k hk=>?_) (fun k=>by dsimp only;exact Ok.N (Ok.s rfl)))
 dsimp only
 have hx:=ht _ (Qi hi)
 have h1:=hx.lo;have h2:=hx.person;have h3:=hx.sched;have h4:=hx.team
 refine Ok.P (Ok.j ?_)
 refine Ok.join (fun y=>∃m:Int,y=((l,(i:Int),m,()),c,b,())∧(nth l i).Index<m) (fun y hy=>?_) (fun J hJ=>?_)
 ·obtain⟨m,rfl,hm⟩:=hy
  dsimp only
  rw[Qa (by omega)]
  exact Ok.atn hi (Ok.N (Ok.atn hi (Ok.N hk)))
 ·refine Ok.atn hi ?_
  rcases hx.kind with hk|hk|hk
  ·have:=h2 hk
   exact Ok.p hk (hJ _ ⟨_,rfl,by omega⟩)
  ·have:=h3 hk
   exact Ok.N (Ok.p hk (hJ _ ⟨_,rfl,by omega⟩))
  ·have:=h4 hk
   exact Ok.N (Ok.N (Ok.p hk (hJ _ ⟨_,rfl,by omega⟩)))
theorem Qpt(h:Q3 n c)(hb:QM b){i:Nat}(hi:i<b.Policies.length):Qex 1000 c b (i:Int)=some 0:=by
 have htl:=hb.plen
 have ht:=hb.pol _ (Qi hi)
 have hnm:=hb.pnm hi
 refine Ok.eq ?_
 unfold Qex
 refine Ok.atn hi (Ok.oe (by rw[hnm];exact Qw2 i (by omega)) (Ok.nt rfl ?_))
 obtain⟨x,hx⟩:∃x,nth b.Policies i=x:=⟨_,rfl⟩
 rw[hx]at ht hnm ⊢
 refine Ok.run2 i (fun k=>((i:Int),(k:Int),())) rfl (by omega) (fun k hk K hK=>?_) (fun K=>?_)
 ·dsimp only
  refine Ok.P (Ok.A (Ok.n ?_ ?_))
  ·rw[hb.pnm (by omega),hnm];exact Qp0 i (by omega) k hk
  ·rw[Qa (by omega)];exact hK
 ·dsimp only
  have hml:=ht.len;have hrp:=ht.rep
  refine Ok.N (Ok.N (Ok.N (Ok.oe rin (Ok.nt (Qx.2 (by omega)) ?_))))
  refine Ok.run2 x.Steps.length (fun k=>((k:Int),())) rfl (by omega) (fun k hk K hK=>?_) (fun K=>by dsimp only;exact Ok.N (Ok.s rfl))
  dsimp only
  have hs:=ht.step _ (Qi hk)
  have hw:=hs.wait
  refine Ok.P (Ok.atn hk (Ok.oe rin (Ok.nt (Qx.2 (by omega)) (Ok.atn hk (Ok.oe (QoF h hb hs.len hs.target) (Ok.NS ?_))))))
  rw[Qa (by omega)];exact hK
theorem QiC(h:Q3 n c)(hn:n≤48)(hb:QM b):QdM 1000 c b=some 0:=by
 have htl:=hb.tlen;have hpl:=hb.plen
 refine Ok.eq ?_
 unfold QdM
 refine Ok.oe (Qdk h hn) (Ok.NS (Ok.opt (P:=(·=0)) ?_ fun r hr=>Ok.s hr))
 unfold Qmn
 refine Ok.j (Ok.N (Ok.N ?_))
 refine Ok.run b.Teams.length (fun i=>(((i:Int),()),c,b,())) rfl (by omega) (fun i hi k hk=>?_) (fun k=>?_)
 ·dsimp only
  refine Ok.P (Ok.oe (Qua h hb hi) (Ok.NS ?_))
  rw[Qa (by omega)];exact hk
 ·dsimp only
  refine Ok.N (Ok.run b.Policies.length (fun i=>(((i:Int),()),c,b,())) rfl (by omega) (fun i hi k hk=>?_) (fun k=>by dsimp only;exact Ok.N (Ok.s rfl)))
  dsimp only
  refine Ok.P (Ok.oe (Qpt h hb hi) (Ok.NS ?_))
  rw[Qa (by omega)];exact hk
end
/-
  Ledgers: what the reference's check, search and runs compute.
-/
section
open Go AM
attribute [local irreducible] dueV stepV runV QQ answerV
section
variable {n:Nat} {c:D.Config} {b:D.Book} {p q:D.Page} {now M:Int} {l:D.Ledger} {i:Nat}
theorem LW.callsN(h:LW M n l):sumC l.Pages (fun p=>(ownC p.ID l.Calls).length)=l.Calls.length:=Qlc h.asc h.all
theorem LW.ownN(h:LW M n l)(hp:p∈l.Pages):(ownC p.ID l.Calls).length=(QG p.ID 0 p.Starts).length:=by
 have:=(h.told p hp).same
 rw[←this,List.length_map]
theorem LW.callsLe(h:LW M n l)(hpg:l.Pages.length≤9):l.Calls.length≤468:=by
 rw[←h.callsN]
 have:=QpT (l:=l.Pages) (f:=fun p=>(ownC p.ID l.Calls).length) (m:=52) fun p hp=>by
  obtain⟨g1,g2⟩:=h.page p hp
  obtain⟨t,g3,_⟩:=g1.goes
  have h1:=QaE (id:=p.ID) (f:=0) (m:=4) (Goes.short (fun s hs=>hs) g3)
  have h2:=(g1.len h.book).1
  show(ownC p.ID l.Calls).length≤52
  rw[h.ownN hp];omega
 omega
theorem Qe.callsLe(h:Qe M n l)(hpg:l.Pages.length≤9):l.Calls.length≤468:=h.w.callsLe hpg
theorem QoD{l:List D.Page}{f:D.Page→Nat}:sumC (l++[p]) f=sumC l f+f p:=by simp[sumC]
theorem Vg(h:LW M n l)(hpg:l.Pages.length≤9):YM 1000 l=some true:=by
 have htop:=h.top;have hnow:=h.now;have how:=h.owner;have hfe:=h.fence;have hse:=h.seen.len;have hcl:=h.callsLe hpg
 refine Ok.eq ?_
 unfold YM
 refine Ok.j (Ok.oe (QiC h.cfg h.small h.book) (Ok.NS (Ok.oe rin (Ok.bt (Qx.2 (by omega)) (Ok.N (Ok.oe rin (Ok.bt (Qx.2 how) (Ok.oe rin (Ok.bt (Qx.2 (by omega)) (Ok.N ?_))))))))))
 have hsle:∀i,sumC (l.Pages.take i) (fun p=>(ownC p.ID l.Calls).length)≤468*i:=fun i=>by
  have:=QpT (l:=l.Pages.take i) (f:=fun p=>(ownC p.ID l.Calls).length) (m:=468) fun p hp=>by
   show(ownC p.ID l.Calls).length≤468
   unfold ownC
   exact Nat.le_trans (List.length_filter_le _ _) hcl
  refine Nat.le_trans this (Nat.mul_le_mul_left _ ?_)
  simp only[List.length_take];omega
 refine Ok.run l.Pages.length (fun i=>((((sumC (l.Pages.take i) (fun p=>(ownC p.ID l.Calls).length):Nat):Int),(i:Int),()),l,())) rfl (by omega) (fun i hi k hk=>?_) (fun k=>?_)
 ·try dsimp only
  have hm:=Qi hi
  obtain⟨g1,g2⟩:=h.page _ hm
  have gt:=h.told _ hm
  have hown:=h.ownN hm
  have hs1:=hsle i
  have hs2:=hsle (i+1)
  refine Ok.P (Ok.atn hi ?_)
  have hasc:0<i→(nth l.Pages (i - 1)).ID<(nth l.Pages i).ID:=fun h0=>Qco h.asc (by omega) hi
  try dsimp only at hk
  rw[←Qs hi,QoD]at hk
  obtain⟨p,hp⟩:∃p,nth l.Pages i=p:=⟨_,rfl⟩
  rw[hp]at g1 g2 gt hown hk hasc ⊢
  have hpl:=g1.plen h.book
  refine Ok.join (fun y=>y=((((sumC (l.Pages.take i) (fun p=>(ownC p.ID l.Calls).length):Nat):Int),(i:Int),()),l,p,())) (fun y hy=>?_) (fun J hJ=>?_)
  ·subst hy
   try dsimp only
   have hc:=Qlu (k:=0) (f:=0) hpl (Nat.zero_le _)
   rw[List.drop_zero]at hc
   refine Ok.oe hc ?_
   try dsimp only
   rw[Qa (by omega),←hown,Qc (by have:(ownC p.ID l.Calls).length≤468:=(by unfold ownC;exact Nat.le_trans (List.length_filter_le _ _) hcl);omega)]
   exact hk
  ·have tail:Ok (optc (VO 1000 l.Book p) fun a13=>AM.cnd a13 (AM.cnd (decide (l.Now<p.Last)) (some false) (optc (QeC 1000 l p) fun a14=>AM.cnd a14 (J ((((sumC (l.Pages.take i) (fun p=>(ownC p.ID l.Calls).length):Nat):Int),(i:Int),()),l,p,())) (some false))) (some false)) (·=true):=
    Ok.oe (Qea h.book hpl) (Ok.bt (g1.check h.book) (Ok.N (Ok.oe (QxF hpl (by omega) gt) (Ok.t (hJ _ rfl)))))
   by_cases h0:0<i
   ·refine Ok.P ?_
    rw[show IntKind.wrap .i64 ((i:Int) - 1)=((i - 1:Nat):Int)by rw[Qc (by omega)];omega]
    have:=hasc h0
    exact Ok.A (Ok.N tail)
   ·exact Ok.N tail
 ·try dsimp only
  refine Ok.N ?_
  rw[List.take_length,h.callsN]
  refine Ok.run l.Seen.length (fun i=>((((l.Calls.length:Nat):Int),(i:Int),()),l,())) rfl (by omega) (fun i hi k hk=>?_) (fun k=>by dsimp only;exact Ok.N (Ok.s (decide_eq_true rfl)))
  try dsimp only
  have hx:=h.seen.fit _ (Qi hi)
  have hno:(l.Seen.take i).contains (nth l.Seen i)=false:=by
   cases hc:(l.Seen.take i).contains (nth l.Seen i)with
   |false=>rfl
   |true=>
    have:=Qii hi hc
    rw[decide_eq_true h.seen.nodup]at this;simp at this
  refine Ok.P (Ok.j (Ok.atn hi (Ok.oe rin (Ok.bt (Qx.2 hx) (Ok.natn (Ok.L (Ok.atn hi (Ok.oe (Qbi (by simp;omega)) (Ok.bf hno ?_)))))))))
  try dsimp only
  rw[Qa (by omega)];exact hk
abbrev lgA(l:D.Ledger):Int×List D.Zone×List D.Person×List D.Calendar×List D.Schedule×List D.Team×List D.Policy×Int×Int×Unit:=(l.Now,l.Config.Zones,l.Config.People,l.Config.Calendars,l.Config.Schedules,l.Book.Teams,l.Book.Policies,l.Owner,l.Fence,())
def UD(l:D.Ledger)(id:Int):D.Page×Bool:=if hasV id l.Pages=true then(nth l.Pages (posV id l.Pages),true)else(page0,false)
theorem QlI{id:Int}(ha:AscP l.Pages)(hi:i<l.Pages.length)(h:(nth l.Pages i).ID=id):UD l id=(nth l.Pages i,true):=by
 subst h
 unfold UD
 rw[if_pos (QlN ha hi),Qg9 ha hi]
theorem QsT{id:Int}(h:∀i,i<l.Pages.length→(nth l.Pages i).ID≠id):UD l id=(page0,false):=by
 unfold UD
 rw[if_neg]
 intro hh
 have:=VD hh
 exact h _ this.1 this.2
theorem QsS{id:Int}(hp:∀p∈l.Pages,QA p)(ha:AscP l.Pages)(hl:l.Pages.length≤64):QcJ 1000 l id=some (UD l id):=by
 refine Ok.eq ?_
 unfold QcJ
 refine Ok.scan2 l.Pages.length (fun i=>(id,(i:Int),())) (fun i=>decide ((nth l.Pages i).ID=id)) rfl (by omega) (fun i hi hq _ k=>?_) (fun i hi hq k hk=>?_) (fun hq k=>?_)
 ·have hq:=of_decide_eq_true hq
  refine Ok.P (Ok.atn hi (Ok.p hq (Ok.atn hi (Ok.oe (QbS (hp _ (Qi hi))) (Ok.s ?_)))))
  rw[QlI ha hi hq]
 ·have hq:=of_decide_eq_false hq
  refine Ok.P (Ok.atn hi (Ok.n hq ?_))
  try dsimp only
  rw[Qa (by omega)];exact hk
 ·refine Ok.N (Ok.s ?_)
  rw[QsT fun i hi=>of_decide_eq_false (hq i hi)];rfl
theorem Qf2{id:Int}(hp:∀p∈l.Pages,QA p)(ha:AscP l.Pages)(hl:l.Pages.length≤64):ZT 1000 l id=some (UD l id):=by
 refine Ok.eq ?_
 unfold ZT
 refine Ok.scan2 l.Pages.length (fun i=>(id,(i:Int),())) (fun i=>decide ((nth l.Pages i).ID=id)) rfl (by omega) (fun i hi hq _ k=>?_) (fun i hi hq k hk=>?_) (fun hq k=>?_)
 ·have hq:=of_decide_eq_true hq
  refine Ok.P (Ok.natn (Ok.lt hi (Ok.get hi (Ok.p hq (Ok.natn (Ok.lt hi (Ok.get hi (Ok.oe (QbS (hp _ (Qi hi))) (Ok.sameC (Ok.sameC (Ok.sameC (Ok.s ?_))))))))))))
  rw[QlI ha hi hq]
 ·have hq:=of_decide_eq_false hq
  refine Ok.P (Ok.natn (Ok.lt hi (Ok.get hi (Ok.n hq ?_))))
  try dsimp only
  rw[Qa (by omega)];exact hk
 ·refine Ok.N (Ok.sameC (Ok.sameC (Ok.sameC (Ok.s ?_))))
  rw[QsT fun i hi=>of_decide_eq_false (hq i hi)];rfl
theorem LW.plens(h:LW M n l):∀p∈l.Pages,QA p:=fun p hp=>(h.page p hp).1.plen h.book
theorem Qe.plens(h:Qe M n l):∀p∈l.Pages,QA p:=h.w.plens
theorem Qv3(ha:AscP l.Pages)(hl:l.Pages.length≤64)(hcl:l.Calls.length≤100000)(hi:i<l.Pages.length)(hid:p.ID=(nth l.Pages i).ID)(hpl:QA p)(hle:(nth l.Pages i).Starts.length≤p.Starts.length):
  Xo 1000 l p=some (putV l i p):=by
 refine Ok.eq ?_
 unfold Xo
 refine Ok.run l.Pages.length (fun j=>(((j:Int),()),lgA l,p,({ Now:=0,Config:={ Zones:=[],People:=[],Calendars:=[],Schedules:=[] },Book:={ Teams:=[],Policies:=[] },Pages:=[],Owner:=0,Fence:=0,Seen:=[],Calls:=[] }:D.Ledger),(if j≤i then l.Pages else l.Pages.set i p),l.Seen,(if j≤i then l.Calls else l.Calls++QG p.ID l.Fence (p.Starts.drop (nth l.Pages i).Starts.length)),())) (by rw[if_pos (Nat.zero_le _),if_pos (Nat.zero_le _)];rfl) (by omega) (fun j hj k hk=>?_) (fun k=>?_)
 ·try dsimp only[lgA]at hk ⊢
  have hlen:(if j≤i then l.Pages else l.Pages.set i p).length=l.Pages.length:=by split<;>simp
  have hj':j<(if j≤i then l.Pages else l.Pages.set i p).length:=by omega
  have hnth:j≠i→nth (if j≤i then l.Pages else l.Pages.set i p) j=nth l.Pages j:=fun hne=>by
   split
   ·rfl
   ·exact Qat hne
  refine Ok.P (Ok.j (Ok.natn (Ok.lt hj' (Ok.get hj' ?_))))
  by_cases e:j=i
  ·subst e
   rw[if_pos (Nat.le_refl _),if_pos (Nat.le_refl _)]
   rw[if_neg (by omega),if_neg (by omega)]at hk
   have hc:=Qlu (k:=(nth l.Pages j).Starts.length) (f:=l.Fence) hpl hle
   have hcb:(QG p.ID l.Fence (p.Starts.drop (nth l.Pages j).Starts.length)).length≤40*(p.Starts.drop (nth l.Pages j).Starts.length).length:=QaE fun s hs=>(hpl.pe s (List.mem_of_mem_drop hs)).1
   have hst:=hpl.st
   rw[List.length_drop]at hcb
   refine Ok.p hid.symm (Ok.natn (Ok.lt hi (Ok.get hi (Ok.oe hc (Ok.L (Ok.natn (Ok.lt hi (Ok.get hi ?_))))))))
   try dsimp only
   rw[Qa (by omega)]
   exact hk
  ·rw[hnth e]
   have hne:(nth l.Pages j).ID≠p.ID:=by
    rw[hid]
    rcases Nat.lt_or_gt_of_ne e with h|h
    ·have:=Qco ha h hi;omega
    ·have:=Qco ha h hj;omega
   refine Ok.n hne ?_
   try dsimp only
   rw[Qa (by omega)]
   have e1:(j+1≤i)=(j≤i):=by apply propext;omega
   simp only[e1]at hk
   exact hk
 ·try dsimp only[lgA]
  rw[if_neg (by omega),if_neg (by omega)]
  refine Ok.NS (Ok.s ?_)
  rfl
theorem QmB{id:Int}(h:LW M n l)(hpg:l.Pages.length≤9):Z5 1000 l id l.Now=some (if hasV id l.Pages=true then runI l (posV id l.Pages)else l):=by
 have hcl:=h.callsLe hpg
 refine Ok.eq ?_
 unfold Z5
 refine Ok.oe (Qf2 h.plens h.asc (by omega)) ?_
 unfold UD
 by_cases hh:hasV id l.Pages=true
 ·rw[if_pos hh,if_pos hh]
  try dsimp only
  have hi:=VD hh
  obtain⟨g1,g2⟩:=h.at hi.1
  obtain⟨q,r1,r2,r3,r4⟩:=QtU (c:=l.Config) h.book QT.step g1 l.Now
  have hx:=QmD (c:=l.Config) (now:=l.Now) h.book g1
  rw[r1]at hx
  refine Ok.f (Ok.oe (Qvq h.cfg h.small h.book (g1.plen h.book)) ?_)
  rw[r1]
  try dsimp only
  refine Ok.NS (Ok.oe (Qv3 (i:=posV id l.Pages) h.asc (by omega) (by omega) hi.1 r4.id (r2.plen h.book) ?_) (Ok.s ?_))
  ·obtain⟨m,hm⟩:=hx
   try dsimp only at hm
   rw[hm];simp
  ·unfold runI
   rw[r1,if_neg (by simp)]
 ·rw[if_neg hh,if_neg hh]
  exact Ok.t (Ok.s rfl)
end
end
/-
  Ledgers: what the reference's operations compute.
-/
section
attribute [local irreducible] dueV stepV runV QQ answerV
section
variable {n:Nat} {c:D.Config} {b:D.Book} {p q:D.Page} {now M:Int} {l:D.Ledger} {i:Nat} {o:D.Op}
theorem Qlz(hp:∀p∈l.Pages,QA p)(h1:l.Pages.length≤64)(h2:l.Seen.length≤1000)(h3:l.Calls.length≤100000):QeB 1000 l=some l:=by
 refine Ok.eq ?_
 unfold QeB
 refine Ok.run l.Pages.length (fun i=>(((i:Int),()),l,({ Now:=0,Config:={ Zones:=[],People:=[],Calendars:=[],Schedules:=[] },Book:={ Teams:=[],Policies:=[] },Pages:=[],Owner:=0,Fence:=0,Seen:=[],Calls:=[] }:D.Ledger),l.Pages.take i,())) rfl (by omega) (fun i hi k hk=>?_) (fun k=>?_)
 ·try dsimp only
  refine Ok.P (Ok.atn hi (Ok.oe (QbS (hp _ (Qi hi))) (Ok.LS ?_)))
  try dsimp only
  rw[Qa (by omega),Qs hi]
  exact hk
 ·try dsimp only
  rw[List.take_length]
  exact Ok.N (Ok.L (Ok.L (Ok.s rfl)))
theorem QvB{α:Type}[Inhabited α]{L:List α}{k:Nat}{x:α}(h:k<L.length):(L.take (k+1)).set k x=L.take k++[x]:=by
 rw[←Qs h,List.set_append_right _ _ (by rw[List.length_take];omega)]
 simp[Nat.min_eq_left (Nat.le_of_lt h)]
theorem QuY{P:D.Page}{L:List D.Page}{k:Nat}(hk:k≤L.length):
  (List.take (k+1) (L++[P])++List.take ((L++[P]).length - (k+1)) (List.drop k (L++[P]))).set k P=L.take k++P::L.drop k:=by
 have hl:(L++[P]).length=L.length+1:=by simp
 rw[List.set_append_left _ _ (by rw[List.length_take,hl];omega),QvB (by rw[hl];omega),List.take_append_of_le_length hk,List.drop_append_of_le_length hk,hl,show L.length+1 - (k+1)=(L.drop k).length by simp,List.take_left,List.append_assoc]
 rfl
theorem Qxl{id:Int}{L:List D.Page}(ha:AscP L){k:Nat}(hk:k≤L.length)(h1:∀j,j<k→(nth L j).ID<id)(h2:k<L.length→id≤(nth L k).ID):posV id L=k:=by
 rcases Nat.lt_trichotomy (posV id L) k with h|h|h
 ·have:=QjB ha (id:=id) (Nat.le_refl _) (show posV id L<L.length by omega)
  have:=h1 _ h;omega
 ·exact h
 ·have:=QjC (l:=L) h
  have:=h2 (by have:=QbH (id:=id) (l:=L);omega);omega
theorem Qxd(h:Qe M n l)(hpg:l.Pages.length≤8)(ho:OpIn o)(hk:o.Kind=1):X3 1000 l o l.Now (hasV o.Page l.Pages)=some (opV l o):=by
 have hnow:=h.now;have htop:=h.top;have hpl:=h.book.plen;have hop:=ho.page
 have hsl:=h.seen.len;have hcl:=h.callsLe (by omega)
 refine Ok.eq ?_
 unfold X3 opV
 rw[if_pos hk]
 refine Ok.cnd (fun g=>Ok.s ?_) (fun g=>?_)
 ·rw[if_pos g]
 rw[if_neg (by rw[g];simp)]
 refine Ok.N ?_
 rw[if_neg (by omega)]
 refine Ok.oe (QlY h.book) ?_
 unfold newV
 by_cases g1:o.Page<1
 ·rw[if_pos g1,if_neg (fun hh=>by have:=Qx.1 hh.1;omega)]
  exact Ok.PS (Ok.s rfl)
 rw[if_neg g1,if_pos ⟨Qx.2 (by omega),Qx.2 (by omega)⟩]
 by_cases g2:0≤o.Policy∧o.Policy<(l.Book.Policies.length:Int)
 ·rw[if_pos g2,if_pos (Qx.2 (by omega))]
  try dsimp only
  refine Ok.NS ?_
  obtain⟨hi1,hi2,hi3⟩:=h.open (o:=o) g (by omega) g2 (by omega)
  have hple:=QbH (id:=o.Page) (l:=l.Pages)
  refine Ok.join (fun y=>y=((l.Now,((posV o.Page l.Pages:Nat):Int),()),lgA l,({ Now:=0,Config:={ Zones:=[],People:=[],Calendars:=[],Schedules:=[] },Book:={ Teams:=[],Policies:=[] },Pages:=[],Owner:=0,Fence:=0,Seen:=[],Calls:=[] }:D.Ledger),newP o.Page o.Policy l.Now,l.Pages,l.Seen,l.Calls,())) (fun y hy=>?_) (fun J hJ=>?_)
  ·subst hy
   try dsimp only[lgA]
   obtain⟨P,hP⟩:∃P,newP o.Page o.Policy l.Now=P:=⟨_,rfl⟩
   have hPid:P.ID=o.Page:=by subst hP;rfl
   rw[hP]at hi1 hi2 hi3 ⊢
   have hins:insP l.Pages P=l.Pages.take (posV o.Page l.Pages)++P::l.Pages.drop (posV o.Page l.Pages):=by unfold insP;rw[hPid]
   have hle1:(l.Pages++[P]).length=l.Pages.length+1:=by simp
   try dsimp only
   rw[Qa (by omega)]
   refine Ok.LS (Ok.natn (Ok.L (Ok.natn (Ok.L (Ok.ck rfl (Ok.ck rfl (Ok.L (Ok.L (Ok.natn (Ok.lt ?_ (Ok.get ?_ ?_)))))))))))
   ·simp only[List.length_append,List.length_take,List.length_drop,List.length_cons,List.length_nil];omega
   ·simp only[List.length_append,List.length_take,List.length_drop,List.length_cons,List.length_nil];omega
   rw[QuY hple,←hins]
   have hrun:=QmB (id:=P.ID) hi1.w (by show(insP l.Pages P).length≤9;rw[hins];simp;omega)
   have hpos:posV P.ID (insP l.Pages P)=posV o.Page l.Pages:=by
    have:=Qg9 hi1.asc hi2
    rw[hi3]at this;exact this
   have hhas:hasV P.ID (insP l.Pages P)=true:=by
    have:=QlN hi1.asc hi2
    rw[hi3]at this;exact this
   rw[if_pos hhas,hpos]at hrun
   exact Ok.oe hrun (Ok.s rfl)
  ·have hfound:∀k:Nat,k≤l.Pages.length→(∀j,j<k→(nth l.Pages j).ID<o.Page)→(k<l.Pages.length→o.Page≤(nth l.Pages k).ID)→Ok (J ((l.Now,(k:Int),()),lgA l,({ Now:=0,Config:={ Zones:=[],People:=[],Calendars:=[],Schedules:=[] },Book:={ Teams:=[],Policies:=[] },Pages:=[],Owner:=0,Fence:=0,Seen:=[],Calls:=[] }:D.Ledger),newP o.Page o.Policy l.Now,l.Pages,l.Seen,l.Calls,())) _:=fun k h1 h2 h3=>hJ _ (by rw[Qxl h.asc h1 h2 h3])
   refine Ok.scan2 l.Pages.length (fun i=>(l.Now,(i:Int),())) (fun i=>!decide ((nth l.Pages i).ID<o.Page)) rfl (by omega) (fun i hi hq hj k=>?_) (fun i hi hq k hk=>?_) (fun hq k=>?_)
   ·refine Ok.j ?_
    dsimp only
    refine Ok.P (Ok.natn (Ok.lt hi (Ok.get hi (Ok.n ?_ (hfound i (by omega) (fun j hj'=>by simpa using hj j hj') (fun _=>by simpa using hq))))))
    have:¬(nth l.Pages i).ID<o.Page:=by simpa using hq
    exact this
   ·have hlt:(nth l.Pages i).ID<o.Page:=by simpa using hq
    refine Ok.j ?_
    dsimp only
    refine Ok.P (Ok.natn (Ok.lt hi (Ok.get hi (Ok.p hlt ?_))))
    try dsimp only
    rw[Qa (by omega)];exact hk
   ·refine Ok.j ?_
    dsimp only
    exact(Ok.N (hfound l.Pages.length (Nat.le_refl _) (fun j hj'=>by simpa using hq j hj') (fun hh=>absurd hh (Nat.lt_irrefl _))))
 ·rw[if_neg g2,if_neg (fun hh=>g2 (by have:=Qx.1 hh;omega))]
  exact Ok.PS (Ok.s rfl)
theorem Qbd{a:D.Answer}(h:(answerV b p a).2=0):(answerV b p a).1=p∨(answerV b p a).1=Xa p a:=by
 revert h
 unfold answerV
 split
 ·intro h;simp at h
 ·split
  ·intro h;simp at h
  ·split
   ·intro _;exact .inl rfl
   ·split
    ·rename_i hr
     intro h;exact absurd h hr
    ·intro _;exact .inr rfl
theorem QpM(h:Qe M n l)(hi:i<l.Pages.length):(nth (runI l i).Pages i).ID=(nth l.Pages i).ID:=by
 rw[Qcc h hi,if_pos rfl]
 exact(QdY h.book QT.step (h.at hi).1).id
theorem Qvp(h:Qe M n l)(hpg:l.Pages.length≤9)(hk:o.Kind=4)(ha:YF o.Answer=true):XB 1000 l o.Answer l.Now=some (opV l o):=by
 have hcl:=h.callsLe hpg
 refine Ok.eq ?_
 unfold XB opV
 rw[if_neg (by omega),if_neg (by omega),if_neg (by omega),if_pos hk]
 refine Ok.oe (Qf2 h.plens h.asc (by omega)) ?_
 unfold UD
 by_cases hh:hasV o.Answer.Page l.Pages=true
 ·rw[if_pos hh,if_pos hh]
  try dsimp only
  have hi:=VD hh
  have hrun:=QmB (id:=o.Answer.Page) h.w hpg
  rw[if_pos hh]at hrun
  refine Ok.f (Ok.oe hrun ?_)
  have h2:=h.run hi.1
  have hkp:=Y3 (l:=l) (i:=posV o.Answer.Page l.Pages)
  obtain⟨i,hie⟩:∃i,posV o.Answer.Page l.Pages=i:=⟨_,rfl⟩
  rw[hie]at hi h2 hkp ⊢
  have hid2:(nth (runI l i).Pages i).ID=o.Answer.Page:=(QpM h hi.1).trans hi.2
  have hi2:i<(runI l i).Pages.length:=by omega
  have hcl2:=h2.callsLe (by omega)
  refine Ok.oe (Qf2 h2.plens h2.asc (by omega)) ?_
  rw[QlI h2.asc hi2 hid2]
  try dsimp only
  obtain⟨a,hae⟩:∃a:D.Answer,a=D.Answer.mk o.Answer.ID o.Answer.Page o.Answer.Person o.Answer.Kind o.Answer.Arg l.Now:=⟨_,rfl⟩
  rw[←hae]
  have hpl2:=h2.plens _ (Qi hi2)
  refine Ok.oe (QoX h2.book hpl2) ?_
  rw[hkp.2.2.1]
  have hz:=Qbd (b:=l.Book) (p:=nth (runI l i).Pages i) (a:=a)
  have hAl:=hpl2.answerV (a:=a) h.book
  obtain⟨A,e,hA⟩:∃A e,answerV l.Book (nth (runI l i).Pages i) a=(A,e):=⟨_,_,rfl⟩
  rw[hA]at hz hAl ⊢
  try dsimp only at hz hAl ⊢
  by_cases he:e=0
  ·rw[if_pos he]
   have hq:=hz he
   have hpid:A.ID=(nth (runI l i).Pages i).ID:=by
    rcases hq with rfl|rfl
    ·rfl
    ·exact QgF.1
   have hpst:(nth (runI l i).Pages i).Starts.length≤A.Starts.length:=by
    rcases hq with rfl|rfl
    ·exact Nat.le_refl _
    ·obtain⟨m,hm⟩:=Qfa (p:=nth (runI l i).Pages i) (a:=a)
     rw[hm];simp
   refine Ok.N (Ok.oe (Qv3 (i:=i) h2.asc (by omega) (by omega) hi2 hpid hAl hpst) (Ok.s rfl))
  ·rw[if_neg he]
   exact Ok.p he (Ok.s rfl)
 ·rw[if_neg hh,if_neg hh]
  exact Ok.t (Ok.s rfl)
theorem QwL{x:D.Edit}{s:Int}(h:Q3 n c)(hn:n<48)(hx:QaB x):QdL 1000 c s x=some (if 0≤s∧s<2 then(Qi0 c s x,0)else({ Zones:=[],People:=[],Calendars:=[],Schedules:=[] },3)):=by
 have hsl:=h.slen
 refine Ok.eq ?_
 unfold QdL
 refine Ok.j (Ok.oe (Qdk h (by omega)) (Ok.NS (Ok.ite (fun g=>Ok.s ?_) (fun g=>Ok.ite (fun g2=>Ok.s ?_) (fun g2=>?_)))))
 ·rw[if_neg (by omega)]
 ·rw[if_neg (by omega)]
 ·rw[if_pos (by omega)]
  try dsimp only
  have hso:=h.sched _ (Qi (l:=c.Schedules) (i:=s.toNat) (by omega))
  have hlen:=hso.len
  refine Ok.at (by omega) (by omega) (Ok.L (Ok.LS (Ok.oe (v:=Qi0 c s x) ?_ (Ok.oe (Qdk (QlD h hx (by omega)) (by omega)) (Ok.NS (Ok.s rfl))))))
  refine Ok.eq ?_
  unfold Qml
  refine Ok.L (Ok.nat (by omega) (Ok.E (Ok.G (Ok.s ?_))))
  rfl
theorem apply0W(h:LW M n l)(hpg:l.Pages.length≤9)(hkd:o.Kind=2∨o.Kind=3)(hof:0≤o.Fence∧o.Fence≤1048576):Z4 1000 l o l.Now=some (opV l o):=by
 have hfe:=h.fence
 refine Ok.eq ?_
 unfold Z4
 refine Ok.oe (Qf2 h.plens h.asc (by omega)) ?_
 have hf2:(UD l o.Page).2=hasV o.Page l.Pages:=by
  unfold UD
  by_cases hh:hasV o.Page l.Pages=true
  ·rw[if_pos hh,hh]
  ·rw[if_neg hh];simpa using hh
 obtain⟨fp,fo,hfe2⟩:∃fp fo,UD l o.Page=(fp,fo):=⟨_,_,rfl⟩
 rw[hfe2]at hf2 ⊢
 try dsimp only at hf2 ⊢
 subst hf2
 refine Ok.j (Ok.N (Ok.ite (fun k2=>?_) (fun k2=>Ok.P ?_)))
 all_goals have k1:¬o.Kind=1:=by omega
 ·unfold opV
  rw[if_neg k1,if_pos k2,Qc (by omega)]
  refine Ok.ite (fun g=>Ok.s ?_) (fun g=>Ok.s ?_)
  ·rw[if_neg (by omega)]
  ·rw[if_pos (by omega)]
 ·have k3:o.Kind=3:=by omega
  unfold opV
  rw[if_neg k1,if_neg k2,if_pos k3]
  refine Ok.join (fun y=>y=((l.Now,hasV o.Page l.Pages,()),lgA l,o,({ Now:=0,Config:={ Zones:=[],People:=[],Calendars:=[],Schedules:=[] },Book:={ Teams:=[],Policies:=[] },Pages:=[],Owner:=0,Fence:=0,Seen:=[],Calls:=[] }:D.Ledger),fp,l.Pages,l.Seen,l.Calls,())∧o.Region=l.Owner∧o.Fence=l.Fence) (fun y hy=>?_) (fun J hJ=>Ok.ite (fun g=>Ok.s ?_) (fun g=>Ok.ite (fun g2=>Ok.s ?_) (fun g2=>hJ _ ⟨rfl,by omega,by omega⟩)))
  ·obtain⟨rfl,g1,g2⟩:=hy
   try dsimp only[lgA]
   rw[if_pos ⟨g1,g2⟩]
   refine Ok.ncnd (fun hh=>Ok.s ?_) (fun hh=>?_)
   ·rw[if_neg (by rw[hh];simp)]
   ·rw[if_pos hh]
    have hfp:fp=nth l.Pages (posV o.Page l.Pages):=by
     unfold UD at hfe2
     rw[if_pos hh]at hfe2
     exact(Prod.mk.inj hfe2).1.symm
    subst hfp
    have hrun:=QmB (id:=o.Page) h (by omega)
    rw[if_pos hh]at hrun
    refine Ok.oe Qec ?_
    obtain⟨pg,hpg2⟩:∃pg,nth l.Pages (posV o.Page l.Pages)=pg:=⟨_,rfl⟩
    rw[hpg2]
    obtain⟨kk,hkk⟩:∃kk:Int,(if pg.State=2 then(-1:Int)else pg.Next)=kk:=⟨_,rfl⟩
    rw[hkk]
    have hw:Yw pg l.Now=((dueV pg).2 && decide ((dueV pg).1≤l.Now)):=rfl
    refine Ok.join (fun y=>y=((l.Now,(dueV pg).1,(dueV pg).2,kk,()),lgA l,o,({ Now:=0,Config:={ Zones:=[],People:=[],Calendars:=[],Schedules:=[] },Book:={ Teams:=[],Policies:=[] },Pages:=[],Owner:=0,Fence:=0,Seen:=[],Calls:=[] }:D.Ledger),l.Pages,l.Seen,l.Calls,())) (fun y hy=>?_) (fun J hJ=>Ok.ite (fun g=>hJ _ (by rw[←hkk,if_pos g])) (fun g=>hJ _ (by rw[←hkk,if_neg g])))
    subst hy
    try dsimp only[lgA]
    refine Ok.j (Ok.cnd (fun g3=>Ok.ite (fun g4=>Ok.s ?_) (fun g4=>Ok.ite (fun g5=>Ok.s ?_) (fun g5=>Ok.oe hrun (Ok.s ?_)))) (fun g3=>Ok.s ?_))
    ·rw[if_neg (fun hx=>by rw[hw,g3]at hx;have:=of_decide_eq_true (show decide ((dueV pg).1≤l.Now)=true by simpa using hx.1);omega)]
    ·rw[if_neg (fun hx=>g5 hx.2.symm)]
    ·rw[if_pos ⟨by rw[hw,g3];simp;omega,by omega⟩]
    ·rw[if_neg (fun hx=>by rw[hw,g3]at hx;simp at hx)]
  ·rw[if_neg (by omega)]
  ·rw[if_neg (by omega)]
theorem Qr8(h:Qe M n l)(hn:n<48)(hpg:l.Pages.length≤8)(ho:OpIn o):Z4 1000 l o l.Now=some (opV l o):=by
 have hfe:=h.fence;have hse:=h.seen.len;have hkd:=ho.kind;have hof:=ho.fence
 by_cases hk23:o.Kind=2∨o.Kind=3
 ·exact apply0W h.w (by omega) hk23 hof
 refine Ok.eq ?_
 unfold Z4
 refine Ok.oe (Qf2 h.plens h.asc (by omega)) ?_
 have hf2:(UD l o.Page).2=hasV o.Page l.Pages:=by
  unfold UD
  by_cases hh:hasV o.Page l.Pages=true
  ·rw[if_pos hh,hh]
  ·rw[if_neg hh];simpa using hh
 obtain⟨fp,fo,hfe2⟩:∃fp fo,UD l o.Page=(fp,fo):=⟨_,_,rfl⟩
 rw[hfe2]at hf2 ⊢
 try dsimp only at hf2 ⊢
 subst hf2
 refine Ok.j (Ok.ite (fun k1=>?_) (fun k1=>Ok.ite (fun k2=>absurd (.inl k2) hk23) (fun k2=>Ok.ite (fun k3=>absurd (.inr k3) hk23) (fun k3=>Ok.ite (fun k4=>?_) (fun k4=>Ok.ite (fun k5=>?_) (fun k5=>absurd hkd (by omega)))))))
 ·exact Ok.oe (Qxd h hpg ho k1) (Ok.s rfl)
 ·exact Ok.oe (Qvp h (by omega) k4 (ho.answer k4).1) (Ok.s rfl)
 ·unfold opV
  rw[if_neg k1,if_neg k2,if_neg k3,if_neg k4]
  have hkeep:∀i,(Zl l i).Now=l.Now∧(Zl l i).Config=l.Config∧(Zl l i).Book=l.Book∧(Zl l i).Owner=l.Owner∧(Zl l i).Fence=l.Fence∧(Zl l i).Seen=l.Seen∧(Zl l i).Pages.length=l.Pages.length:=fun i=>Yn
  refine Ok.run l.Pages.length (fun i=>((l.Now,(i:Int),()),lgA (Zl l i),o,({ Now:=0,Config:={ Zones:=[],People:=[],Calendars:=[],Schedules:=[] },Book:={ Teams:=[],Policies:=[] },Pages:=[],Owner:=0,Fence:=0,Seen:=[],Calls:=[] }:D.Ledger),(Zl l i).Pages,(Zl l i).Seen,(Zl l i).Calls,())) rfl (by omega) (fun i hi k hk=>?_) (fun k=>?_)
  ·try dsimp only[lgA]
   have hki:=hkeep i
   have hi2:i<(Zl l i).Pages.length:=by omega
   have hL:=h.runs (k:=i) (by omega)
   have hrun:=QmB (id:=(nth (Zl l i).Pages i).ID) hL.w (by omega)
   rw[if_pos (QlN hL.asc hi2),Qg9 hL.asc hi2,hki.1]at hrun
   refine Ok.P (Ok.natn (Ok.lt hi2 (Ok.get hi2 (Ok.oe hrun ?_))))
   try dsimp only
   rw[Qa (by omega)]
   exact hk
  ·try dsimp only[lgA]
   have hki:=hkeep l.Pages.length
   refine Ok.N ?_
   have hed:=QwL (c:=l.Config) (s:=o.Schedule) h.cfg hn (ho.edit k5)
   refine Ok.oe (v:=if 0≤o.Schedule∧o.Schedule<2 then(Qi0 l.Config o.Schedule o.Edit,0)else({ Zones:=[],People:=[],Calendars:=[],Schedules:=[] },3)) ?_ ?_
   ·rw[←hed]
    show QdL 1000 (Zl l l.Pages.length).Config _ _=_
    rw[hki.2.1]
   ·by_cases hs:0≤o.Schedule∧o.Schedule<2
    ·rw[if_pos hs,if_pos hs]
     exact Ok.NS (Ok.s rfl)
    ·rw[if_neg hs,if_neg hs]
     exact Ok.PS (Ok.s rfl)
theorem OpIn.valid(ho:OpIn o):QaV 1000 o=some true:=by
 refine Ok.eq ?_
 unfold QaV
 refine Ok.oe rin (Ok.bt (Qx.2 ho.id) (Ok.oe rin (Ok.bt (Qx.2 ho.kind) (Ok.oe rin (Ok.bt (Qx.2 ho.region) (Ok.oe rin (Ok.bt (Qx.2 ho.fence) (Ok.oe rin (Ok.bt (Qx.2 ho.at_) (Ok.oe rin (Ok.bt (Qx.2 ho.page) (Ok.oe rin (Ok.bt (Qx.2 ho.k) ?_)))))))))))))
 exact Ok.ite (fun g=>Ok.s rfl) (fun g=>Ok.oe Qle (Ok.bt (ho.answer (by omega)).1 (Ok.s rfl)))
theorem Qm1(h:Qe M n l)(hn:n<48)(hpg:l.Pages.length≤8)(ho:OpIn o)(ht:max l.Now o.At≤M - 20000)(hl:l.Seen.length<256):Yt 1000 l o=some (Zb l o):=by
 have hcl:=h.callsLe (by omega)
 refine Ok.eq ?_
 unfold Yt Zb
 refine Ok.j (Ok.oe (Vg h.w (by omega)) (Ok.t (Ok.oe ho.valid (Ok.t ?_))))
 try dsimp only
 refine Ok.oe (Qlz h.plens (by omega) (by omega) (by omega)) (Ok.oe (Qbi (by omega)) (Ok.cnd (fun g=>Ok.s ?_) (fun g=>?_)))
 ·rw[if_pos g]
 ·rw[if_neg (by rw[g];simp)]
  have h2:=h.see ho ht g hl
  refine Ok.N (Ok.LS (Ok.oe (Qr8 (l:={ l with Now:=max l.Now o.At,Seen:=l.Seen++[o.ID] }) h2 hn hpg ho) (Ok.s rfl)))
theorem LW.applyR(h:LW M n l)(hpg:l.Pages.length≤9)(ho:OpIn o)(hk:o.Kind=2∨o.Kind=3)(hl:l.Seen.length<256):Yt 1000 l o=some (Zb l o):=by
 have hcl:=h.callsLe (by omega)
 refine Ok.eq ?_
 unfold Yt Zb
 refine Ok.j (Ok.oe (Vg h (by omega)) (Ok.t (Ok.oe ho.valid (Ok.t ?_))))
 try dsimp only
 refine Ok.oe (Qlz h.plens (by omega) (by omega) (by omega)) (Ok.oe (Qbi (by omega)) (Ok.cnd (fun g=>Ok.s ?_) (fun g=>?_)))
 ·rw[if_pos g]
 ·rw[if_neg (by rw[g];simp)]
  have h2:=h.see ho g hl
  refine Ok.N (Ok.LS (Ok.oe (apply0W (l:={ l with Now:=max l.Now o.At,Seen:=l.Seen++[o.ID] }) h2 hpg hk ho.fence) (Ok.s rfl)))
end
end
/-
  Operations and ledgers that are made by dice.
-/
section
open Go AM
attribute [local irreducible] dueV stepV runV QQ answerV
section
variable {n:Nat} {c:D.Config} {b:D.Book} {p q:D.Page} {now M m:Int} {l:D.Ledger} {i:Nat} {o:D.Op} {L:List Int} {d:D.Dice}
def Ids(m:Int)(l:D.Ledger):Prop:=∀p∈l.Pages,p.ID≤m
theorem Ids.mono{k:Int}(h:Ids m l)(hk:m≤k):Ids k l:=fun p hp=>Int.le_trans (h p hp) hk
theorem QwX{L:List D.Page}(ha:AscP L){k:Nat}(h:∀p∈L,1≤p.ID∧p.ID≤(k:Int)):L.length≤k:=by
 have hlo:∀i,i<L.length→(i:Int)+1≤(nth L i).ID:=by
  intro i
  induction i with
  |zero=>intro hi;have:=(h _ (Qi hi)).1;omega
  |succ i ih=>
   intro hi
   have:=ih (by omega)
   have:=Qco ha (show i<i+1 by omega) hi
   omega
 rcases Nat.lt_or_ge k L.length with h1|h1
 ·have h2:=hlo (L.length - 1) (by omega)
  have h3:=(h _ (Qi (l:=L) (i:=L.length - 1) (by omega))).2
  omega
 ·exact h1
theorem Qe.small3{k:Nat}(h:Qe M n l)(hi:Ids (k:Int) l):l.Pages.length≤k:=
 QwX h.asc fun p hp=>⟨(h.page p hp).1.id.1,hi p hp⟩
theorem Ids.put(h:Ids m l)(hi:i<l.Pages.length)(hp:p.ID=(nth l.Pages i).ID):Ids m (putV l i p):=fun q hq=>by
 rcases List.mem_or_eq_of_mem_set hq with hq|rfl
 ·exact h q hq
 ·rw[hp];exact h _ (Qi hi)
theorem Ids.run(h:Ids m l)(hl:Qe M n l)(hi:i<l.Pages.length):Ids m (runI l i):=by
 rw[hl.runEq hi]
 exact h.put hi (QdY hl.book QT.step (hl.at hi).1).id
theorem Ids.runs(h:Ids m l)(hl:Qe M n l):∀{k:Nat},k≤l.Pages.length→Ids m (Zl l k)
 |0,_=>h
 |k+1,hk=>by
  rw[Zl]
  exact(Ids.runs h hl (k:=k) (by omega)).run (hl.runs (by omega)) (by have:=(Yn (l:=l) (k:=k)).2.2.2.2.2.2;omega)
theorem Ids.op(h:Ids m l)(hl:Qe M n l)(ho:OpIn o)(hp:o.Kind=1→o.Page≤m):Ids m (opV l o).1:=by
 unfold opV
 split
 ·rename_i k1
  split
  ·exact h
  ·rename_i hh
   split
   ·exact h
   ·split
    ·exact h
    ·split
     ·rename_i h1 h2 h3
      have hop:=ho.page
      have hi:=hl.open (o:=o) (by simpa using hh) (by omega) h3 (by have:=hl.len;omega)
      have hid:Ids m { l with Pages:=insP l.Pages (newP o.Page o.Policy l.Now) }:=fun q hq=>by
       rcases Qf7.1 hq with rfl|hq
       ·exact hp k1
       ·exact h q hq
      exact hid.run hi.1 hi.2.1
     ·exact h
 ·split
  ·split
   ·exact h
   ·exact h
  ·split
   ·split
    ·split
     ·rename_i hh
      generalize (if (nth l.Pages (posV o.Page l.Pages)).State=2 then(-1:Int)else(nth l.Pages (posV o.Page l.Pages)).Next)=kk
      split
      ·exact h.run hl (VD hh).1
      ·exact h
     ·exact h
    ·exact h
   ·split
    ·split
     ·rename_i hh
      have hi:=(VD hh).1
      split
      ·rename_i he
       have h2:=hl.run hi
       have hk:=Y3 (l:=l) (i:=posV o.Answer.Page l.Pages)
       refine(h.run hl hi).put (by omega) ?_
       rcases Qbd he with e|e
       ·rw[e]
       ·rw[e];exact QgF.1
      ·exact h.run hl hi
     ·exact h
    ·split
     ·exact h.runs hl (Nat.le_refl _)
     ·exact h.runs hl (Nat.le_refl _)
theorem Ids.apply(h:Ids m l)(hl:Qe M n l)(ho:OpIn o)(ht:max l.Now o.At≤M - 20000)(hs:l.Seen.length<256)(hp:o.Kind=1→o.Page≤m):Ids m (Zb l o).1:=by
 unfold Zb
 split
 ·exact h
 ·rename_i hse
  exact Ids.op (l:={ l with Now:=max l.Now o.At,Seen:=l.Seen++[o.ID] }) h (hl.see ho ht (by simpa using hse) hs) ho hp
theorem Ql2:(opV l o).1.Now=l.Now∧(opV l o).1.Seen=l.Seen:=by
 unfold opV
 have h1:=fun i=>Y3 (l:=l) (i:=i)
 have h2:=fun k=>Yn (l:=l) (k:=k)
 split
 ·split
  ·exact⟨rfl,rfl⟩
  ·split
   ·exact⟨rfl,rfl⟩
   ·split
    ·exact⟨rfl,rfl⟩
    ·split
     ·exact⟨(Y3 (l:={ l with Pages:=insP l.Pages (newP o.Page o.Policy l.Now) })).1,(Y3 (l:={ l with Pages:=insP l.Pages (newP o.Page o.Policy l.Now) })).2.2.2.2.2.1⟩
     ·exact⟨rfl,rfl⟩
 ·split
  ·split<;>exact⟨rfl,rfl⟩
  ·split
   ·split
    ·split
     ·generalize (if (nth l.Pages (posV o.Page l.Pages)).State=2 then(-1:Int)else(nth l.Pages (posV o.Page l.Pages)).Next)=kk
      split
      ·exact⟨(h1 _).1,(h1 _).2.2.2.2.2.1⟩
      ·exact⟨rfl,rfl⟩
     ·exact⟨rfl,rfl⟩
    ·exact⟨rfl,rfl⟩
   ·split
    ·split
     ·split
      ·exact⟨(h1 _).1,(h1 _).2.2.2.2.2.1⟩
      ·exact⟨(h1 _).1,(h1 _).2.2.2.2.2.1⟩
     ·exact⟨rfl,rfl⟩
    ·split
     ·exact⟨(h2 _).1,(h2 _).2.2.2.2.2.1⟩
     ·exact⟨(h2 _).1,(h2 _).2.2.2.2.2.1⟩
theorem Qit:(Zb l o).1.Seen.length≤l.Seen.length+1∧((Zb l o).1.Now=l.Now∨(Zb l o).1.Now=max l.Now o.At):=by
 unfold Zb
 split
 ·exact⟨by dsimp only;omega,.inl rfl⟩
 ·have:=Ql2 (l:={ l with Now:=max l.Now o.At,Seen:=l.Seen++[o.ID] }) (o:=o)
  exact⟨by rw[this.2];simp,.inr this.1⟩
theorem QrO{t:Int}(h:Qe M n l)(hpg:l.Pages.length≤9):Ok (Wl 1000 l t) fun w=>w.length≤9∧∀s∈w,∃p∈l.Pages,s.K=p.ID:=by
 unfold Wl
 refine Ok.j ?_
 refine Ok.loop (fun m x=>∃(i:Nat) (w:List D.Start),x=((t,(i:Int),()),l,w,())∧i≤l.Pages.length∧w.length≤i∧(∀s∈w,∃p∈l.Pages,s.K=p.ID)∧m=l.Pages.length - i) (m:=l.Pages.length) (by omega) ⟨0,[],rfl,by omega,by simp,by simp,rfl⟩ ?_
 rintro m x ⟨i,w,rfl,i1,i2,i3,rfl⟩ K hK
 try dsimp only
 refine Ok.j (Ok.ite (fun hi=>?_) (fun hi=>Ok.s ⟨by omega,i3⟩))
 have hlt:i<l.Pages.length:=by omega
 refine Ok.oe (Vg h.w hpg) (Ok.t ?_)
 try dsimp only
 have next:∀w:List D.Start,w.length≤i+1→(∀s∈w,∃p∈l.Pages,s.K=p.ID)→Ok (K ((t,IntKind.wrap .i64 ((i:Int)+1),()),l,w,())) fun w=>w.length≤9∧∀s∈w,∃p∈l.Pages,s.K=p.ID:=fun w h1 h2=>by
  try dsimp only
  rw[Qa (by omega)]
  exact hK _ _ (by omega) ⟨i+1,w,rfl,by omega,h1,h2,rfl⟩
 refine Ok.j (Ok.atn hlt (Ok.oe Qec (Ok.cnd (fun g=>Ok.ite (fun g2=>Ok.atn hlt (Ok.LS (next _ (by simp;omega) ?_))) (fun g2=>next w (by omega) i3)) (fun g=>next w (by omega) i3))))
 exact WY i3 ⟨_,Qi hlt,rfl⟩
theorem Qv2{id t:Int}(hL:L.length≤500)(hd:ZG L d)(h:Qe M n l)(hids:Ids 3 l)(hid:1≤id∧id≤1000)(ht:0≤t∧t≤8589934592):
  Ok (UF 1000 d l id t) fun r=>ZG L r.2∧OpIn r.1∧r.1.ID=id∧r.1.At=t∧(r.1.Kind=1→1≤r.1.Page∧r.1.Page≤3)∧(r.1.Kind=4→r.1.Answer.Person<4):=by
 have hpl:=h.book.plen;have hfe:=h.fence;have hse:=h.seen.len;have how:=h.owner
 have hpg:=h.small3 (k:=3) hids
 unfold UF
 refine Ok.opt (nx hL hd (by omega) (by omega)) fun⟨a0,d1⟩ ⟨h1,l1,u1⟩=>?_
 try dsimp only at h1 l1 u1 ⊢
 refine Ok.opt (nx hL h1 (by omega) (by omega)) fun⟨a2,d3⟩ ⟨h3,l3,u3⟩=>?_
 try dsimp only at h3 l3 u3 ⊢
 refine Ok.opt (nx hL h3 (by omega) (by omega)) fun⟨a4,d5⟩ ⟨h5,l5,u5⟩=>?_
 try dsimp only at h5 l5 u5 ⊢
 rw[Qc (x:=1+a0) (by omega),Qc (x:=1+a4) (by omega)]
 have noEdit:∀{P:Prop},¬(1+a0=5)→1+a0=5→P:=fun h1 h2=>absurd h2 h1
 refine Ok.j (Ok.ite (fun k1=>?_) (fun k1=>Ok.ite (fun k2=>?_) (fun k2=>Ok.ite (fun k3=>?_) (fun k3=>Ok.ite (fun k4=>?_) (fun k4=>Ok.ite (fun k5=>?_) (fun k5=>?_))))))
 ·refine Ok.opt (nx hL h5 (by omega) (by omega)) fun⟨a10,d11⟩ ⟨h11,l11,u11⟩=>?_
  try dsimp only at h11 l11 u11 ⊢
  rw[Qc (x:=((l.Book.Policies.length:Nat):Int)+1) (by omega),Qc (x:=((l.Book.Policies.length:Nat):Int)+1 - a10) (by omega)]
  refine Ok.opt (nx hL h11 (by omega) (by omega)) fun⟨a12,d13⟩ ⟨h13,l13,u13⟩=>Ok.s ⟨h13,?_,rfl,rfl,fun _=>by dsimp only;omega,fun e=>absurd (show 1+a0=4 from e) (by omega)⟩
  exact⟨by dsimp only;omega,by dsimp only;omega,by dsimp only;omega,by dsimp only;omega,ht,by dsimp only;omega,by dsimp only;omega,fun e=>absurd (show 1+a0=4 from e) (by omega),fun e=>absurd (show 1+a0=5 from e) (by omega)⟩
 ·refine Ok.opt (QaP hL h5 (by simp) (by simp)) fun⟨a14,d15⟩ ⟨h15,m15⟩=>?_
  try dsimp only at h15 m15 ⊢
  simp only[List.mem_cons,List.not_mem_nil,or_false]at m15
  try dsimp only
  rw[Qc (x:=l.Fence+a14) (by omega)]
  refine Ok.s ⟨h15,?_,rfl,rfl,fun e=>absurd (show 1+a0=1 from e) k1,fun e=>absurd (show 1+a0=4 from e) (by omega)⟩
  exact⟨by dsimp only;omega,by dsimp only;omega,by dsimp only;omega,by dsimp only;omega,ht,by dsimp only;omega,by dsimp only;omega,fun e=>absurd (show 1+a0=4 from e) (by omega),fun e=>absurd (show 1+a0=5 from e) (by omega)⟩
 ·-- a proposed start
  have hop:∀o:D.Op,OpIn o→o.ID=id→o.At=t→o.Kind=3→∀d,ZG L d→Ok (some (o,d)) fun r=>ZG L r.2∧OpIn r.1∧r.1.ID=id∧r.1.At=t∧(r.1.Kind=1→1≤r.1.Page∧r.1.Page≤3)∧(r.1.Kind=4→r.1.Answer.Person<4):=fun o h1 h2 h3 h4 d hd=>Ok.s ⟨hd,h1,h2,h3,fun e=>absurd (show o.Kind=1 from e) (by omega),fun e=>absurd (show o.Kind=4 from e) (by omega)⟩
  refine Ok.join (fun y=>∃(d:D.Dice) (z o:D.Op),y=((t,1+a4,()),d,l,z,o,())∧ZG L d∧OpIn o∧o.ID=id∧o.At=t∧o.Kind=3) (fun y hy=>?_) (fun J hJ=>?_)
  ·obtain⟨d,z,o,rfl,j1,j2,j3,j4,j5⟩:=hy
   try dsimp only
   refine Ok.join (fun y=>∃(d:D.Dice) (z o:D.Op),y=((t,1+a4,()),d,l,z,o,())∧ZG L d∧OpIn o∧o.ID=id∧o.At=t∧o.Kind=3) (fun y hy=>?_) (fun J hJ=>?_)
   ·obtain⟨d,z,o,rfl,j1,j2,j3,j4,j5⟩:=hy
    try dsimp only
    refine Ok.join (fun y=>∃(d:D.Dice) (z o:D.Op),y=((),l,z,o,d,())∧ZG L d∧OpIn o∧o.ID=id∧o.At=t∧o.Kind=3) (fun y hy=>?_) (fun J hJ=>?_)
    ·obtain⟨d,z,o,rfl,j1,j2,j3,j4,j5⟩:=hy
     try dsimp only
     refine Ok.oe (QsS h.plens h.asc (by omega)) ?_
     unfold UD
     by_cases hh:hasV o.Page l.Pages=true
     ·rw[if_pos hh]
      try dsimp only
      have hi:=VD hh
      obtain⟨g1,_⟩:=h.at hi.1
      have hnx:=(Ye (g1.check h.book)).next
      have hcn:=Yr (g1.polOK h.book)
      refine Ok.t (Ok.ite (fun g=>Ok.s ⟨j1,?_,j3,j4,fun e=>absurd (show o.Kind=1 from e) (by omega),fun e=>absurd (show o.Kind=4 from e) (by omega)⟩) (fun g=>Ok.s ⟨j1,?_,j3,j4,fun e=>absurd (show o.Kind=1 from e) (by omega),fun e=>absurd (show o.Kind=4 from e) (by omega)⟩))
      ·exact⟨j2.id,j2.kind,j2.region,j2.fence,j2.at_,j2.page,by dsimp only;omega,j2.answer,j2.edit⟩
      ·exact⟨j2.id,j2.kind,j2.region,j2.fence,j2.at_,j2.page,by dsimp only;omega,j2.answer,j2.edit⟩
     ·rw[if_neg hh]
      exact Ok.f (hop _ j2 j3 j4 j5 _ j1)
    ·refine Ok.opt (QrO h (by omega)) fun w ⟨w1,w2⟩=>?_
     refine Ok.ite (fun g=>?_) (fun g=>hJ _ ⟨_,_,_,rfl,j1,⟨j2.id,j2.kind,j2.region,j2.fence,j2.at_,by dsimp only;omega,j2.k,j2.answer,j2.edit⟩,j3,j4,j5⟩)
     refine Ok.opt (nx hL j1 (by omega) (by omega)) fun⟨a36,d37⟩ ⟨h37,l37,u37⟩=>?_
     try dsimp only at h37 l37 u37 ⊢
     refine Ok.at l37 u37 (hJ _ ⟨_,_,_,rfl,h37,⟨j2.id,j2.kind,j2.region,j2.fence,j2.at_,?_,j2.k,j2.answer,j2.edit⟩,j3,j4,j5⟩)
     obtain⟨p,hp,e⟩:=w2 _ (Qi (l:=w) (i:=a36.toNat) (by omega))
     have:=(h.page p hp).1.id
     try dsimp only
     omega
   ·refine Ok.opt (nx hL j1 (by omega) (by omega)) fun⟨a40,d41⟩ ⟨h41,_⟩=>Ok.ite (fun g=>?_) (fun g=>hJ _ ⟨_,_,_,rfl,h41,j2,j3,j4,j5⟩)
    try dsimp only at h41
    refine Ok.opt (nx hL h41 (by omega) (by omega)) fun⟨a42,d43⟩ ⟨h43,l43,u43⟩=>hJ _ ⟨_,_,_,rfl,h43,⟨j2.id,j2.kind,j2.region,?_,j2.at_,j2.page,j2.k,j2.answer,j2.edit⟩,j3,j4,j5⟩
    try dsimp only at l43 u43 ⊢
    omega
  ·refine Ok.opt (nx hL h5 (by omega) (by omega)) fun⟨a45,d46⟩ ⟨h46,_⟩=>Ok.ite (fun g=>?_) (fun g=>?_)
   ·try dsimp only at h46
    refine Ok.opt (nx hL h46 (by omega) (by omega)) fun⟨a47,d48⟩ ⟨h48,l48,u48⟩=>hJ _ ⟨_,_,_,rfl,h48,?_,rfl,rfl,k3⟩
    try dsimp only at l48 u48
    exact⟨by dsimp only;omega,by dsimp only;omega,by dsimp only;omega,by dsimp only;omega,ht,by dsimp only;omega,by dsimp only;omega,fun e=>absurd (show 1+a0=4 from e) (by omega),fun e=>absurd (show 1+a0=5 from e) (by omega)⟩
   ·refine hJ _ ⟨_,_,_,rfl,h46,?_,rfl,rfl,k3⟩
    exact⟨by dsimp only;omega,by dsimp only;omega,by dsimp only;omega,by dsimp only;omega,ht,by dsimp only;omega,by dsimp only;omega,fun e=>absurd (show 1+a0=4 from e) (by omega),fun e=>absurd (show 1+a0=5 from e) (by omega)⟩
 ·refine Ok.opt (nx hL h5 (by omega) (by omega)) fun⟨a49,d50⟩ ⟨h50,l50,u50⟩=>?_
  try dsimp only at h50 l50 u50 ⊢
  rw[Qc (x:=1+a49) (by omega)]
  refine Ok.opt (Qr6 hL h50) fun⟨a,d52⟩ ⟨h52,ha,e1,e2,e3⟩=>Ok.s ⟨h52,?_,rfl,rfl,fun e=>absurd (show 1+a0=1 from e) k1,fun _=>ha.pers.2⟩
  try dsimp only at ha e1 e2 e3
  exact⟨by dsimp only;omega,by dsimp only;omega,by dsimp only;omega,by dsimp only;omega,ht,by dsimp only;omega,by dsimp only;omega,fun _=>⟨ha.valid (by omega) (by omega) (by omega),fun e=>(ha.arg3 e).2⟩,fun e=>absurd (show 1+a0=5 from e) (by omega)⟩
 ·refine Ok.opt (nx hL h5 (by omega) (by omega)) fun⟨a53,d54⟩ ⟨h54,l54,u54⟩=>?_
  try dsimp only at h54 l54 u54 ⊢
  refine Ok.opt (Qjr hL h54) fun⟨x,d56⟩ ⟨h56,hx⟩=>Ok.s ⟨h56,?_,rfl,rfl,fun e=>absurd (show 1+a0=1 from e) k1,fun e=>absurd (show 1+a0=4 from e) (by omega)⟩
  try dsimp only at hx
  exact⟨by dsimp only;omega,by dsimp only;omega,by dsimp only;omega,by dsimp only;omega,ht,by dsimp only;omega,by dsimp only;omega,fun e=>absurd (show 1+a0=4 from e) k4,fun _=>hx⟩
 ·omega
structure Qun (k:Nat) (l:D.Ledger):Prop where
 inv:Qe 1000000 (2+k) l
 ids:Ids 3 l
 seen:l.Seen.length≤k
 now:l.Now≤864000+700*(k:Int)
theorem Qrj(hc:Q3 2 c)(hb:QM b):Qe 1000000 2 { Now:=0,Config:=c,Book:=b,Pages:=[],Owner:=-1,Fence:=0,Seen:=[],Calls:=[] }:=
 ⟨by omega,by dsimp only;omega,by omega,hc,hb,by simp,List.Pairwise.nil,by simp,by dsimp only;omega,by simp,⟨by simp,List.nodup_nil,by simp⟩,by simp,by simp⟩
theorem Qw9(hc:Q3 n c)(hn:n≤48)(hb:QM b):QjP 1000 c b=some ({ Now:=0,Config:=c,Book:=b,Pages:=[],Owner:=-1,Fence:=0,Seen:=[],Calls:=[] },0):=by
 refine Ok.eq ?_
 unfold QjP
 exact Ok.oe (QiC hc hn hb) (Ok.NS (Ok.s rfl))
end
end
/-
  Plain laws of operations on ledgers: what a refused one leaves, what one that comes twice does, which pages one touches.
-/
section
attribute [local irreducible] dueV stepV runV QQ answerV
section
variable {n:Nat} {c:D.Config} {b:D.Book} {p q:D.Page} {now M:Int} {l:D.Ledger} {i:Nat} {o:D.Op}
def seeV(l:D.Ledger)(o:D.Op):D.Ledger:={ l with Now:=max l.Now o.At,Seen:=l.Seen++[o.ID] }
theorem Qaq(hs:l.Seen.contains o.ID=false):Zb l o=opV (seeV l o) o:=by
 unfold Zb;rw[hs];rfl
theorem QqR(hs:l.Seen.contains o.ID=false):(Zb l o).1.Now=max l.Now o.At:=by
 rw[Qaq hs,(Ql2).1];rfl
def ansP(c:D.Config)(b:D.Book)(p:D.Page)(a:D.Answer)(now:Int):D.Page:=
 if (answerV b (runV c b p now).1 { a with At:=now }).2=0 then(answerV b (runV c b p now).1 { a with At:=now }).1 else(runV c b p now).1
theorem Qrk(h:Qe M n l)(hk:o.Kind=4):(opV l o).1.Config=l.Config∧(opV l o).1.Book=l.Book∧
  (opV l o).1.Pages=if hasV o.Answer.Page l.Pages=true then l.Pages.set (posV o.Answer.Page l.Pages) (ansP l.Config l.Book (nth l.Pages (posV o.Answer.Page l.Pages)) o.Answer l.Now)else l.Pages:=by
 unfold opV
 rw[if_neg (by omega),if_neg (by omega),if_neg (by omega),if_pos hk]
 split
 ·rename_i g
  obtain⟨g1,g2⟩:=VD g
  have hpg:=Qcc h g1 (j:=posV o.Answer.Page l.Pages)
  rw[if_pos rfl]at hpg
  have hpages:(runI l (posV o.Answer.Page l.Pages)).Pages=l.Pages.set (posV o.Answer.Page l.Pages) (runV l.Config l.Book (nth l.Pages (posV o.Answer.Page l.Pages)) l.Now).1:=by
   rw[h.runEq g1];rfl
  split
  ·rename_i g3
   rw[hpg]at g3
   refine⟨Y3.2.1,Y3.2.2.1,?_⟩
   show List.set _ _ _=_
   rw[hpages,List.set_set,←hpages,hpg]
   unfold ansP
   rw[if_pos g3]
  ·rename_i g3
   rw[hpg]at g3
   refine⟨Y3.2.1,Y3.2.2.1,?_⟩
   show(runI l _).Pages=_
   rw[hpages]
   unfold ansP
   rw[if_neg g3]
 ·exact⟨rfl,rfl,rfl⟩
end
end
/-
  Ledgers looked at: what the program's check computes.
-/
section
open Go AM
attribute [local irreducible] dueV stepV runV QQ answerV
section
variable {n:Nat} {c:D.Config} {b:D.Book} {p q:D.Page} {now M:Int} {l:D.Ledger} {i:Nat}
theorem Qw6:∀i,i<2→Qas 1000 (nth QfR i)=some true:=forall2 (by kernel_rfl) (by kernel_rfl)
theorem Qw5:∀i,i<3→Qas 1000 (nth Qkb i)=some true:=forall3 (by kernel_rfl) (by kernel_rfl) (by kernel_rfl)
theorem QsJ(hb:QM b){i:Nat}(hi:i<b.Teams.length):Zq 1000 (i:Int) b=some false:=by
 have htl:=hb.tlen
 have hone:∀j,j<b.Teams.length→WO 1000 (j:Int) b=some (nth QfR j):=fun j hj=>by
  refine Ok.eq ?_
  unfold WO
  exact Ok.atn hj (Ok.sameC (Ok.s (hb.tnm hj)))
 refine Ok.eq ?_
 unfold Zq
 refine Ok.run2 i (fun k=>((i:Int),(i:Int),(k:Int),())) rfl (by omega) (fun k hk K hK=>?_) (fun K=>by dsimp only;exact Ok.N (Ok.sameC (Ok.s rfl)))
 try dsimp only
 refine Ok.P (Ok.oe (hone k (by omega)) (Ok.oe (hone i hi) (Ok.n (Qm8 i (by omega) k hk) ?_)))
 try dsimp only
 rw[Qa (by omega)];exact hK
theorem QsI(hb:QM b){i:Nat}(hi:i<b.Policies.length):Zr 1000 (i:Int) b=some false:=by
 have htl:=hb.plen
 have hone:∀j,j<b.Policies.length→WP 1000 (j:Int) b=some (nth Qkb j):=fun j hj=>by
  refine Ok.eq ?_
  unfold WP
  exact Ok.atn hj (Ok.sameC (Ok.s (hb.pnm hj)))
 refine Ok.eq ?_
 unfold Zr
 refine Ok.run2 i (fun k=>((i:Int),(i:Int),(k:Int),())) rfl (by omega) (fun k hk K hK=>?_) (fun K=>by dsimp only;exact Ok.N (Ok.sameC (Ok.s rfl)))
 try dsimp only
 refine Ok.P (Ok.oe (hone k (by omega)) (Ok.oe (hone i hi) (Ok.n (Qp0 i (by omega) k hk) ?_)))
 try dsimp only
 rw[Qa (by omega)];exact hK
theorem Qxx{t:D.Team}(h:Q3 n c)(ht:QmV t):Qeq 1000 c t.Members=some 0:=by
 have hpl:=h.plen;have hml:=ht.len
 refine Ok.eq ?_
 unfold Qeq
 refine Ok.N (Ok.run2 (t.Members.length - 1) (fun k=>(t.Members,((k+1:Nat):Int),())) rfl (by omega) (fun k hk K hK=>?_) (fun K=>?_))
 ·try dsimp only
  have:=QgH ht.asc (show k<k+1 by omega) (show k+1<t.Members.length by omega)
  refine Ok.P (Ok.A ?_)
  rw[show IntKind.wrap .i64 (((k+1:Nat):Int) - 1)=((k:Nat):Int)by rw[Qc (by omega)];omega]
  refine Ok.A (Ok.N ?_)
  try dsimp only
  rw[Qa (by omega)];exact hK
 ·try dsimp only
  rw[hpl]
  have h1:=ht.mem _ (Qi (l:=t.Members) (i:=0) (by omega))
  have h2:=ht.mem _ (Qi (l:=t.Members) (i:=t.Members.length - 1) (by omega))
  refine Ok.N (Ok.j (Ok.at (by omega) (by omega) ?_))
  rw[show IntKind.wrap .i64 (((4:Nat):Int) - 1)=3 from rfl,show IntKind.wrap .i64 (((t.Members.length:Nat):Int) - 1)=((t.Members.length - 1:Nat):Int)by rw[Qc (by omega)];omega]
  refine Ok.oe pIn (Ok.p ⟨h1.1,by have:=h1.2;show nth t.Members (0:Int).toNat≤3;simp only[Int.toNat_zero];omega⟩ (Ok.A (Ok.oe pIn (Ok.P (Ok.s rfl)))))
theorem Qvx{s:D.PolicyStep}(h:Q3 n c)(hb:QM b)(hs:StepOK' b.Teams.length s):QcC 1000 c b s=some 0:=by
 have hpl:=h.plen;have hsl:=h.slen;have htl:=hb.tlen;have hw:=hs.wait;have htn:=hs.len
 have hsz:Wh 1000 c b=some ⟨4,2,((b.Teams.length:Nat):Int)⟩:=by unfold Wh;rw[hpl,hsl];rfl
 refine Ok.eq ?_
 unfold QcC
 refine Ok.oe pIn (Ok.np (by omega) (Ok.N (Ok.oe hsz ?_)))
 try dsimp only
 refine Ok.run2 s.Targets.length (fun i=>(s.Targets,((s.Targets.length:Nat):Int),(i:Int),())) rfl (by omega) (fun i hi K hK=>?_) (fun K=>by dsimp only;exact Ok.N (Ok.s rfl))
 try dsimp only
 have hx:=hs.target _ (Qi hi)
 have h1:=hx.lo;have h2:=hx.person;have h3:=hx.sched;have h4:=hx.team
 refine Ok.P (Ok.j (Ok.atn hi (Ok.oe pIn (Ok.p (by have:=hx.kind;omega) ?_))))
 have next:Ok (K ((s.Targets,((s.Targets.length:Nat):Int),IntKind.wrap .i64 ((i:Int)+1),()),(4,2,((b.Teams.length:Nat):Int),()),())) (·=0):=by rw[Qa (by omega)];exact hK
 rcases hx.kind with hk|hk|hk
 ·have:=h2 hk
  refine Ok.P (Ok.oe pIn (Ok.p ⟨h1,by rw[Qc (by omega)];omega⟩ next))
 ·have:=h3 hk
  refine Ok.N (Ok.P (Ok.oe pIn (Ok.p ⟨h1,by rw[Qc (by omega)];omega⟩ next)))
 ·have:=h4 hk
  refine Ok.N (Ok.N (Ok.P (Ok.oe pIn (Ok.p ⟨h1,by rw[Qc (by omega)];omega⟩ next))))
theorem QuF(h:Q3 n c)(hn:n≤48)(hb:QM b):Qbq 1000 c b=some 0:=by
 have htl:=hb.tlen;have hpl:=hb.plen
 refine Ok.eq ?_
 unfold Qbq
 refine Ok.oe (Qh0 h hn) (Ok.NS (Ok.j (Ok.N (Ok.N ?_))))
 refine Ok.run b.Teams.length (fun i=>((b.Teams,((b.Teams.length:Nat):Int),(i:Int),()),c,b,())) rfl (by omega) (fun i hi K hK=>?_) (fun K=>?_)
 ·try dsimp only
  have ht:=hb.team _ (Qi hi)
  refine Ok.P (Ok.atn hi (Ok.oe (by rw[hb.tnm hi];exact Qw6 i (by omega)) (Ok.nt rfl (Ok.oe (QsJ hb hi) (Ok.f (Ok.oe (Qxx h ht) (Ok.NS ?_)))))))
  try dsimp only
  rw[Qa (by omega)];exact hK
 ·try dsimp only
  refine Ok.N (Ok.run b.Policies.length (fun i=>((((b.Policies.length:Nat):Int),(i:Int),()),c,b,())) rfl (by omega) (fun i hi K hK=>?_) (fun K=>by dsimp only;exact Ok.N (Ok.s rfl)))
  try dsimp only
  have ht:=hb.pol _ (Qi hi)
  have hml:=ht.len;have hrp:=ht.rep
  refine Ok.P (Ok.oe (v:=0) ?_ (Ok.NS ?_))
  ·refine Ok.eq ?_
   unfold QdC
   refine Ok.atn hi (Ok.oe (by rw[hb.pnm hi];exact Qw5 i (by omega)) (Ok.nt rfl (Ok.oe (QsI hb hi) (Ok.f (Ok.N (Ok.N (Ok.oe pIn (Ok.np (by omega) ?_))))))))
   refine Ok.run (nth b.Policies i).Steps.length (fun k=>(((nth b.Policies i).Steps,(((nth b.Policies i).Steps.length:Nat):Int),(k:Int),()),c,b,())) rfl (by omega) (fun k hk K2 hK2=>?_) (fun K2=>by dsimp only;exact Ok.N (Ok.s rfl))
   try dsimp only
   refine Ok.P (Ok.atn hk (Ok.oe (Qvx h hb (ht.step _ (Qi hk))) (Ok.NS ?_)))
   try dsimp only
   rw[Qa (by omega)];exact hK2
  ·try dsimp only
   rw[Qa (by omega)];exact hK
theorem oin{fu:Nat}{x lo hi:Int}:XA fu x lo hi=some (inV x lo hi):=by
 unfold XA inV
 by_cases h1:lo≤x<;>by_cases h2:x≤hi<;>simp[cd,AM.cnd,h1,h2]
theorem Qvu{L:List Int}(h:QkD L 256):Qel 1000 L=some true:=by
 have hl:=h.len
 refine Ok.eq ?_
 unfold Qel
 refine Ok.run L.length (fun i=>((L,L,((L.length:Nat):Int),(i:Int),()),())) rfl (by omega) (fun i hi k hk=>?_) (fun k=>by dsimp only;exact Ok.N (Ok.s (decide_eq_true (by omega))))
 try dsimp only
 have hx:=h.fit _ (Qi hi)
 have hno:(L.take i).contains (nth L i)=false:=by
  cases hc:(L.take i).contains (nth L i)with
  |false=>rfl
  |true=>
   have:=Qii hi hc
   rw[decide_eq_true h.nodup]at this;simp at this
 refine Ok.P (Ok.j (Ok.atn hi (Ok.oe oin (Ok.bt (Qx.2 hx) (Ok.natn (Ok.L (Ok.oe (Qcr (by simp;omega)) (Ok.bf hno ?_))))))))
 try dsimp only
 rw[Qa (by omega)];exact hk
structure DelC (p0:List D.Call) (q:D.Call→Bool) (w j:Nat) (a:List D.Call):Prop where
 len:a.length=p0.length
 wj:w≤j∧j≤p0.length
 done:a.take w=(p0.take j).filter q
 rest:∀k,j≤k→nth a k=nth p0 k
theorem Qi8{L:List D.Call}{q:D.Call→Bool}{i:Nat}(hi:i≤L.length)(h:∀j,j<i→q (nth L j)=true):(L.take i).filter q=L.take i:=by
 refine List.filter_eq_self.2 fun x hx=>?_
 obtain⟨k,hk,rfl⟩:=List.getElem_of_mem hx
 rw[List.length_take]at hk
 have:=h k (by omega)
 simpa [nth,List.getD_eq_getElem?_getD,List.getElem?_eq_getElem (show k<L.length by omega)]using this
theorem Qqw{L:List D.Call}{j k:Nat}{x:D.Call}(hj:j<L.length):nth (L.set j x) k=if k=j then x else nth L k:=by
 by_cases e:k=j
 ·subst e;rw[if_pos rfl,Xv hj]
 ·rw[if_neg e,Qat e]
theorem Qq5{p0:List D.Call}{q:D.Call→Bool}{i:Nat}(hi:i<p0.length)(h:∀j,j<i→q (nth p0 j)=true)(hx:q (nth p0 i)=false):DelC p0 q i (i+1) p0:=by
 refine⟨rfl,by omega,?_,fun k _=>rfl⟩
 rw[←Qs hi,List.filter_append,Qi8 (by omega) h]
 simp[hx]
theorem QsG{p0 a:List D.Call}{q:D.Call→Bool}{w j:Nat}(h:DelC p0 q w j a)(hj:j<p0.length)(hx:q (nth a j)=true):DelC p0 q (w+1) (j+1) (a.set w (nth a j)):=by
 have h1:=h.wj
 have h2:=h.len
 refine⟨by simp[h.len],by omega,?_,fun k hk=>?_⟩
 ·rw[h.rest j (Nat.le_refl _)]at hx ⊢
  rw[←Qs hj,List.filter_append,←h.done,←Qs (l:=a.set w (nth p0 j)) (by simp;omega),Qqw (by omega),if_pos rfl,List.take_set_of_le (by omega)]
  simp[hx]
 ·rw[Qqw (by omega),if_neg (by omega)];exact h.rest k (by omega)
theorem QsH{p0 a:List D.Call}{q:D.Call→Bool}{w j:Nat}(h:DelC p0 q w j a)(hj:j<p0.length)(hx:q (nth a j)=false):DelC p0 q w (j+1) a:=by
 have h1:=h.wj
 refine⟨h.len,by omega,?_,fun k hk=>h.rest k (by omega)⟩
 rw[h.rest j (Nat.le_refl _)]at hx
 rw[←Qs hj,List.filter_append,←h.done]
 simp[hx]
theorem Qtx{x:D.Call}:VK 1000 x p=some (decide (x.Page≠p.ID)):=by
 unfold VK
 rw[Wn]
theorem Qxf{L:List D.Call}(hl:L.length≤900):Ok (QR 1000 L p) fun r=>List.drop r.1 (List.take r.2.1 r.2.2)=ownC p.ID L:=by
 have hown:∀{x:D.Call},decide (x.Page≠p.ID)=!(decide (x.Page=p.ID)):=fun{x}=>by by_cases e:x.Page=p.ID<;>simp[e]
 unfold QR
 have hidx:Ok (QU 1000 L p) fun r=>(r = -1∧(∀j,j<L.length→decide ((nth L j).Page=p.ID)=true))∨∃i:Nat,r=(i:Int)∧i<L.length∧decide ((nth L i).Page=p.ID)=false∧∀j,j<i→decide ((nth L j).Page=p.ID)=true:=by
  unfold QU
  refine Ok.scan2 L.length (fun i=>(((L.length:Nat):Int),(i:Int),())) (fun i=>!decide ((nth L i).Page=p.ID)) rfl (by omega) (fun i hi hq hj k=>?_) (fun i hi hq k hk=>?_) (fun hq k=>?_)
  ·refine Ok.P (Ok.natn (Ok.lt hi (Ok.get hi (Ok.oe Qtx ?_))))
   rw[hown]
   exact Ok.bt hq (Ok.sameC (Ok.sameC (Ok.s (.inr ⟨i,rfl,hi,by simpa using hq,fun j hj'=>by simpa using hj j hj'⟩))))
  ·refine Ok.P (Ok.natn (Ok.lt hi (Ok.get hi (Ok.oe Qtx ?_))))
   rw[hown]
   refine Ok.bf hq ?_
   try dsimp only
   rw[Qa (by omega)];exact hk
  ·exact Ok.N (Ok.sameC (Ok.sameC (Ok.s (.inl ⟨rfl,fun j hj=>by simpa using hq j hj⟩))))
 refine Ok.opt hidx fun r hr=>?_
 rcases hr with⟨rfl,hall⟩|⟨i,rfl,hi,hx,hj⟩
 ·refine Ok.p rfl (Ok.sameC (Ok.s ?_))
  try dsimp only
  have:=Qi8 (q:=fun z=>decide (z.Page=p.ID)) (Nat.le_refl _) hall
  rw[List.take_length]at this ⊢
  rw[List.drop_zero]
  exact this.symm
 ·refine Ok.N ?_
  try dsimp only
  rw[Qa (by omega)]
  refine Ok.loop (fun q x=>∃(w j:Nat) (a:List D.Call),x=((((w:Nat):Int),((j:Nat):Int),()),p,a,())∧DelC L (fun z=>decide (z.Page=p.ID)) w j a∧q=L.length - j) (m:=L.length - (i+1)) (by omega) ⟨i,i+1,L,rfl,Qq5 hi hj hx,rfl⟩ ?_
  rintro q x ⟨w,j,a,rfl,hinv,rfl⟩ K hK
  have h1:=hinv.wj
  have h2:=hinv.len
  try dsimp only
  refine Ok.ite (fun hlt=>?_) (fun hge=>?_)
  ·refine Ok.j (Ok.natn (Ok.E (Ok.G (Ok.oe Qtx ?_))))
   rw[hown,Bool.not_not]
   refine Ok.cnd (fun hq=>?_) (fun hq=>?_)
   ·refine Ok.natn (Ok.E (Ok.G ?_))
    try dsimp only
    rw[Qa (by omega),Qa (by omega)]
    exact hK _ _ (by omega) ⟨w+1,j+1,_,rfl,QsG hinv (by omega) hq,rfl⟩
   ·try dsimp only
    rw[Qa (by omega)]
    exact hK _ _ (by omega) ⟨w,j+1,a,rfl,QsH hinv (by omega) hq,rfl⟩
  ·have ej:j=L.length:=by omega
   have hd:=hinv.done
   rw[ej,List.take_length]at hd
   refine Ok.natn (Ok.L (Ok.L (Ok.L (Ok.natn (Ok.LS (Ok.sameC (Ok.s ?_)))))))
   try dsimp only
   rw[List.drop_zero,List.append_assoc,List.take_append_of_le_length (by simp;omega),List.take_take,Nat.min_self]
   exact hd
theorem QkW{α:Type}[Inhabited α]{A B:List α}{z:Nat}:nth (A++B) (A.length+z)=nth B z:=by
 simp[nth,List.getD_eq_getElem?_getD,List.getElem?_append_right]
theorem Qsw{C:List D.Call}{f:Int}(hpl:QA p)(hC:C.length≤900)(h1:C.map unf=QG p.ID 0 p.Starts)(h2:C.Pairwise fun x y=>x.Fence≤y.Fence)(h3:∀c∈C,0≤c.Fence∧c.Fence≤f):Qcz 1000 p C f=some true:=by
 have hst:=hpl.st
 have hlen:C.length=(QG p.ID 0 p.Starts).length:=by rw[←h1,List.length_map]
 have hnth:∀k,k<C.length→unf (nth C k)=nth (QG p.ID 0 p.Starts) k:=fun k hk=>by
  rw[←h1]
  simp[nth,List.getD_eq_getElem?_getD,List.getElem?_eq_getElem hk]
 obtain⟨lf,hlf⟩:∃lf:Nat→Int,∀k,lf k=if k=0 then 0 else(nth C (k - 1)).Fence:=⟨fun k=>_,fun k=>rfl⟩
 have hlow:∀k,k<C.length→lf k≤(nth C k).Fence∧(nth C k).Fence≤f:=fun k hk=>by
  have hf:=h3 _ (Qi hk)
  refine⟨?_,hf.2⟩
  rw[hlf]
  split
  ·exact hf.1
  ·have:=List.pairwise_iff_getElem.1 h2 (k - 1) k (by omega) hk (by omega)
   simpa [nth,List.getD_eq_getElem?_getD,List.getElem?_eq_getElem hk,List.getElem?_eq_getElem (show k - 1<C.length by omega)]using this
 refine Ok.eq ?_
 unfold Qcz
 refine Ok.run p.Starts.length (fun j=>((C,f,(((QG p.ID 0 (p.Starts.take j)).length:Nat):Int),lf (QG p.ID 0 (p.Starts.take j)).length,p.Starts,((p.Starts.length:Nat):Int),(j:Int),()),p,())) (by rw[hlf];rfl) (by omega) (fun j hj k hk=>?_) (fun k=>?_)
 ·try dsimp only
  refine Ok.P (Ok.atn hj ?_)
  have hts:p.Starts.take (j+1)=p.Starts.take j++[nth p.Starts j]:=(Qs hj).symm
  have hsp:p.Starts=p.Starts.take j++(nth p.Starts j::p.Starts.drop (j+1)):=by rw[←Qdo hj,List.take_append_drop]
  have hpe:=(hpl.pe _ (Qi hj)).1
  obtain⟨s,hs⟩:∃s,nth p.Starts j=s:=⟨_,rfl⟩
  rw[hs]at hts hsp hpe ⊢
  obtain⟨base,hbase⟩:∃base,(QG p.ID 0 (p.Starts.take j)).length=base:=⟨_,rfl⟩
  have hall:QG p.ID 0 p.Starts=QG p.ID 0 (p.Starts.take j)++(s.People.map (fun x=>D.Call.mk p.ID s.K s.At x 0)++QG p.ID 0 (p.Starts.drop (j+1))):=by
   conv=>lhs;rw[hsp]
   rw[QbD]
   rfl
  have hbl:base+s.People.length≤C.length:=by rw[hlen,hall,←hbase];simp
  have hat:∀z,z<s.People.length→nth (QG p.ID 0 p.Starts) (base+z)=D.Call.mk p.ID s.K s.At (nth s.People z) 0:=fun z hz=>by
   rw[hall,←hbase,QkW,QdA (by simpa using hz)]
   simp[nth,List.getD_eq_getElem?_getD,hz]
  try dsimp only at hk
  rw[hts,Qdi,List.length_append,List.length_map,hbase]at hk
  rw[hbase]
  refine Ok.run s.People.length (fun z=>((C,f,((base+z:Nat):Int),lf (base+z),p.Starts,((p.Starts.length:Nat):Int),(j:Int),s.People,((s.People.length:Nat):Int),(z:Int),()),p,s,())) rfl (by omega) (fun z hz k2 hk2=>?_) (fun k2=>?_)
  ·try dsimp only
   have hlt:base+z<C.length:=by omega
   have hlw:=hlow _ hlt
   have hun:=hnth _ hlt
   rw[hat z hz]at hun
   refine Ok.P (Ok.atn hz (Ok.j (Ok.N (Ok.atn hlt (Ok.oe oin (Ok.bt (Qx.2 hlw) (Ok.atn hlt (Ok.atn hlt (Ok.n ?_ ?_)))))))))
   ·obtain⟨cc,hcc⟩:∃cc,nth C (base+z)=cc:=⟨_,rfl⟩
    rw[hcc]at hun ⊢
    obtain⟨c1,c2,c3,c4,c5⟩:=cc
    simp only[unf,D.Call.mk.injEq]at hun
    obtain⟨u1,u2,u3,u4,_⟩:=hun
    simp[u1,u2,u3,u4]
   ·try dsimp only
    refine Ok.atn hlt ?_
    try dsimp only
    rw[Qa (by omega),Qa (by omega)]
    try dsimp only at hk2
    rw[hlf (base+(z+1)),if_neg (by omega),show base+(z+1) - 1=base+z by omega]at hk2
    exact hk2
  ·try dsimp only
   refine Ok.N ?_
   try dsimp only
   rw[Qa (by omega)]
   exact hk
 ·try dsimp only
  rw[List.take_length]
  exact Ok.N (Ok.s (decide_eq_true (by rw[hlen])))
theorem Qnf{L:List D.Call}(h:L.length≤1000):Xq 1000 L=some L:=by unfold Xq;exact Xg (by omega)
theorem QlT(h:LW M n l)(hpg:l.Pages.length≤9):ZP 1000 l=some true:=by
 have htop:=h.top;have hnow:=h.now;have how:=h.owner;have hfe:=h.fence;have hse:=h.seen.len;have hcl:=h.callsLe hpg
 refine Ok.eq ?_
 unfold ZP
 refine Ok.j (Ok.oe oin (Ok.bt (Qx.2 (by omega)) (Ok.N (Ok.oe oin (Ok.bt (Qx.2 how) (Ok.oe oin (Ok.bt (Qx.2 (by omega)) (Ok.oe (Qvu h.seen) (Ok.t ?_)))))))))
 try dsimp only
 refine Ok.oe (QuF h.cfg h.small h.book) (Ok.p rfl (Ok.oe (v:=true) ?_ (Ok.t (Ok.s rfl))))
 refine Ok.eq ?_
 unfold Qfs
 have hsle:∀i,sumC (l.Pages.take i) (fun p=>(ownC p.ID l.Calls).length)≤468*i:=fun i=>by
  have:=QpT (l:=l.Pages.take i) (f:=fun p=>(ownC p.ID l.Calls).length) (m:=468) fun p hp=>by
   show(ownC p.ID l.Calls).length≤468
   unfold ownC
   exact Nat.le_trans (List.length_filter_le _ _) hcl
  refine Nat.le_trans this (Nat.mul_le_mul_left _ ?_)
  simp only[List.length_take];omega
 refine Ok.run l.Pages.length (fun i=>((((sumC (l.Pages.take i) (fun p=>(ownC p.ID l.Calls).length):Nat):Int),l.Pages,((l.Pages.length:Nat):Int),(i:Int),()),l,())) rfl (by omega) (fun i hi k hk=>?_) (fun k=>?_)
 ·try dsimp only
  have hm:=Qi hi
  obtain⟨g1,g2⟩:=h.page _ hm
  have gt:=h.told _ hm
  have hs1:=hsle i
  refine Ok.P (Ok.atn hi ?_)
  have hasc:0<i→(nth l.Pages (i - 1)).ID<(nth l.Pages i).ID:=fun h0=>Qco h.asc (by omega) hi
  try dsimp only at hk
  rw[←Qs hi,QoD]at hk
  obtain⟨p,hp⟩:∃p,nth l.Pages i=p:=⟨_,rfl⟩
  rw[hp]at g1 g2 gt hk hasc ⊢
  have hpl:=g1.plen h.book
  have hol:(ownC p.ID l.Calls).length≤468:=by unfold ownC;exact Nat.le_trans (List.length_filter_le _ _) hcl
  refine Ok.join (fun y=>y=((((sumC (l.Pages.take i) (fun p=>(ownC p.ID l.Calls).length):Nat):Int),l.Pages,((l.Pages.length:Nat):Int),(i:Int),()),l,p,())) (fun y hy=>?_) (fun J hJ=>?_)
  ·subst hy
   try dsimp only
   refine Ok.oe (Qnf (by omega)) (Ok.opt (Qxf (p:=p) (by omega)) fun⟨r0,r1,r2⟩ hr=>?_)
   try dsimp only at hr ⊢
   rw[hr]
   refine Ok.oe (Qsw hpl (by omega) gt.same gt.up gt.fit) (Ok.f ?_)
   try dsimp only
   rw[Qa (by omega),Qc (by omega)]
   exact hk
  ·have tail:Ok (optc (Z9 1000 l.Book p) fun a13=>AM.cnd a13 (AM.cnd (decide (l.Now<p.Last)) (some false) (J ((((sumC (l.Pages.take i) (fun p=>(ownC p.ID l.Calls).length):Nat):Int),l.Pages,((l.Pages.length:Nat):Int),(i:Int),()),l,p,()))) (some false)) (·=true):=
    Ok.oe (QhZ h.book hpl) (Ok.bt (g1.check h.book) (Ok.N (hJ _ rfl)))
   by_cases h0:0<i
   ·refine Ok.P ?_
    rw[show IntKind.wrap .i64 ((i:Int) - 1)=((i - 1:Nat):Int)by rw[Qc (by omega)];omega]
    have:=hasc h0
    exact Ok.A (Ok.N tail)
   ·exact Ok.N tail
 ·try dsimp only
  rw[List.take_length,h.callsN]
  exact Ok.N (Ok.s (decide_eq_true rfl))
end
end
/-
  Plain laws of operations on ledgers: takeovers and proposed starts change nothing in the long run.
-/
section
attribute [local irreducible] dueV stepV runV QQ answerV
section
variable {n:Nat} {c:D.Config} {b:D.Book} {p q:D.Page} {now M:Int} {l x:D.Ledger} {i:Nat} {o:D.Op}
theorem Qma{id:Int}:∀{L K:List D.Page},L.map D.Page.ID=K.map D.Page.ID→posV id L=posV id K
 |[],[],_=>rfl
 |[],_::_,h=>by simp at h
 |_::_,[],h=>by simp at h
 |y::r,z::s,h=>by
  simp only[List.map_cons,List.cons.injEq]at h
  simp only[posV,h.1,Qma h.2]
theorem QvV{L K:List D.Page}(hl:L.length=K.length)(h:∀i,i<L.length→(nth L i).ID=(nth K i).ID):L.map D.Page.ID=K.map D.Page.ID:=by
 refine List.ext_getElem (by simpa using hl) fun i h1 h2=>?_
 simp only[List.length_map]at h1 h2
 have:=h i h1
 simpa [nth,List.getD_eq_getElem?_getD,List.getElem?_eq_getElem h1,List.getElem?_eq_getElem h2]using this
theorem QuS{id:Int}{L K:List D.Page}(hl:L.length=K.length)(h:∀i,i<L.length→(nth L i).ID=(nth K i).ID):hasV id L=hasV id K:=by
 have e:=Qma (id:=id) (QvV hl h)
 unfold hasV
 rw[e,hl]
 by_cases g:posV id K<K.length
 ·rw[h _ (by omega)]
 ·have:∀q:Prop,¬(posV id K<K.length∧q):=fun q hq=>g hq.1
  rw[decide_eq_false (this _),decide_eq_false (this _)]
theorem Qqy{L:List D.Page}{p:D.Page}{j:Nat}:nth (insP L p) j=if j<posV p.ID L then nth L j else if j=posV p.ID L then p else nth L (j - 1):=by
 have hp:=QbH (id:=p.ID) (l:=L)
 have htl:(L.take (posV p.ID L)).length=posV p.ID L:=by simp;omega
 unfold insP
 split
 ·rename_i g
  rw[QdA (by omega),Ql1 g]
 ·rename_i g
  obtain⟨k,rfl⟩:∃k,j=(L.take (posV p.ID L)).length+k:=⟨j - posV p.ID L,by omega⟩
  rw[QkW,htl]
  cases k with
  |zero=>rw[if_pos (by omega),Qcy]
  |succ k=>
   rw[if_neg (by omega),Qag,Qqx]
   congr 1
structure Alike (M:Int) (n:Nat) (l x:D.Ledger):Prop where
 li:Qe M n l
 xi:Qe M n x
 cfg:x.Config=l.Config
 book:x.Book=l.Book
 now:x.Now≤l.Now
 len:x.Pages.length=l.Pages.length
 page:∀i,i<l.Pages.length→(nth x.Pages i).ID=(nth l.Pages i).ID∧(runV l.Config l.Book (nth x.Pages i) l.Now).1=(runV l.Config l.Book (nth l.Pages i) l.Now).1
theorem Alike.has(h:Alike M n l x){id:Int}:hasV id x.Pages=hasV id l.Pages∧posV id x.Pages=posV id l.Pages:=by
 have e:∀i,i<x.Pages.length→(nth x.Pages i).ID=(nth l.Pages i).ID:=fun i hi=>(h.page i (by rw[←h.len];exact hi)).1
 exact⟨QuS h.len e,Qma (QvV h.len e)⟩
theorem Alike.wide(h:Alike M n l x)(hn:n<48):Alike M (n+1) l x:=⟨h.li.wide hn,h.xi.wide hn,h.cfg,h.book,h.now,h.len,h.page⟩
theorem Qvg(hk:o.Kind=5):(opV l o).1.Pages=(Zl l l.Pages.length).Pages∧(opV l o).1.Book=l.Book∧(opV l o).1.Config=(if 0≤o.Schedule∧o.Schedule<2 then Qi0 l.Config o.Schedule o.Edit else l.Config):=by
 unfold opV
 rw[if_neg (by omega),if_neg (by omega),if_neg (by omega),if_neg (by omega)]
 split
 ·exact⟨rfl,Yn.2.2.1,rfl⟩
 ·exact⟨rfl,Yn.2.2.1,Yn.2.1⟩
theorem Alike.runL(h:Alike M n l x)(hi:i<l.Pages.length):Alike M n (runI l i) x:=by
 obtain⟨k1,k2,k3,k4,k5,k6,k7⟩:=Y3 (l:=l) (i:=i)
 refine⟨h.li.run hi,h.xi,by rw[k2];exact h.cfg,by rw[k3];exact h.book,by rw[k1];exact h.now,by rw[k7];exact h.len,fun j hj=>?_⟩
 rw[k7]at hj
 rw[k1,k2,k3]
 by_cases e:j=i
 ·subst e
  refine⟨by rw[QpM h.li hi];exact(h.page j hj).1,?_⟩
  rw[Qcc h.li hi,if_pos rfl,Qk8 (c:=l.Config) h.li.book QT.step (Int.le_refl _) (h.li.at hi).1]
  exact(h.page j hj).2
 ·rw[Qcc h.li hi,if_neg e]
  exact h.page j hj
theorem Alike.runR(h:Alike M n l x)(hi:i<l.Pages.length)(hnow:x.Now=l.Now):Alike M n l (runI x i):=by
 obtain⟨k1,k2,k3,k4,k5,k6,k7⟩:=Y3 (l:=x) (i:=i)
 have hx:i<x.Pages.length:=by rw[h.len];exact hi
 refine⟨h.li,h.xi.run hx,by rw[k2];exact h.cfg,by rw[k3];exact h.book,by rw[k1];exact h.now,by rw[k7];exact h.len,fun j hj=>?_⟩
 by_cases e:j=i
 ·subst e
  refine⟨by rw[QpM h.xi hx];exact(h.page j hj).1,?_⟩
  have hq:QI QT M l.Book (nth x.Pages j):=by
   have:=(h.xi.at hx).1
   rw[h.book]at this;exact this
  rw[Qcc h.xi hx,if_pos rfl,h.cfg,h.book,hnow,Qk8 (c:=l.Config) h.li.book QT.step (Int.le_refl _) hq]
  exact(h.page j hj).2
 ·rw[Qcc h.xi hx,if_neg e]
  exact h.page j hj
theorem Qh7{L:List D.Page}:(insP L p).length=L.length+1:=by
 have:=QbH (id:=p.ID) (l:=L)
 unfold insP;rw[List.length_append,List.length_cons,List.length_take,List.length_drop];omega
theorem Alike.open(h:Alike M n l x)(hn:n<48)(ho:OpIn o)(hk:o.Kind=1)(hnow:x.Now=l.Now):Alike M (n+1) (opV l o).1 (opV x o).1:=by
 have hw:=h.wide hn
 obtain⟨e1,e2⟩:=h.has (id:=o.Page)
 have same:∀e:Int,opV l o=(l,e)→opV x o=(x,e)→Alike M (n+1) (opV l o).1 (opV x o).1:=fun e g1 g2=>by rw[g1,g2];exact hw
 by_cases g1:hasV o.Page l.Pages=true
 ·exact same 4 (by unfold opV;rw[if_pos hk,if_pos g1]) (by unfold opV;rw[if_pos hk,e1,if_pos g1])
 by_cases g2:l.Pages.length=64
 ·exact same 5 (by unfold opV;rw[if_pos hk,if_neg g1,if_pos g2]) (by unfold opV;rw[if_pos hk,e1,if_neg g1,h.len,if_pos g2])
 by_cases g3:o.Page<1
 ·exact same 1 (by unfold opV;rw[if_pos hk,if_neg g1,if_neg g2,if_pos g3]) (by unfold opV;rw[if_pos hk,e1,if_neg g1,h.len,if_neg g2,if_pos g3])
 by_cases g4:0≤o.Policy∧o.Policy<(l.Book.Policies.length:Int)
 case neg=>exact same 3 (by unfold opV;rw[if_pos hk,if_neg g1,if_neg g2,if_neg g3,if_neg g4]) (by unfold opV;rw[if_pos hk,e1,if_neg g1,h.len,if_neg g2,if_neg g3,h.book,if_neg g4])
 have f1:opV l o=(runI { l with Pages:=insP l.Pages (newP o.Page o.Policy l.Now) } (posV o.Page l.Pages),0):=by unfold opV;rw[if_pos hk,if_neg g1,if_neg g2,if_neg g3,if_pos g4]
 have f2:opV x o=(runI { x with Pages:=insP x.Pages (newP o.Page o.Policy l.Now) } (posV o.Page l.Pages),0):=by unfold opV;rw[if_pos hk,e1,if_neg g1,h.len,if_neg g2,if_neg g3,h.book,if_pos g4,e2,hnow]
 have hlen:=h.li.len
 obtain⟨i1,i2,i3⟩:=h.li.open (o:=o) (by simpa using g1) ⟨by omega,ho.page.2⟩ g4 (by omega)
 have hx4:0≤o.Policy∧o.Policy<(x.Book.Policies.length:Int):=by rw[h.book];exact g4
 obtain⟨j1,j2,j3⟩:=h.xi.open (o:=o) (by rw[e1];simpa using g1) ⟨by omega,ho.page.2⟩ hx4 (by rw[h.len];omega)
 have eP:newP o.Page o.Policy x.Now=newP o.Page o.Policy l.Now:=by rw[hnow]
 rw[eP]at j1
 have hP:(newP o.Page o.Policy l.Now).ID=o.Page:=rfl
 have hA:Alike M n { l with Pages:=insP l.Pages (newP o.Page o.Policy l.Now) } { x with Pages:=insP x.Pages (newP o.Page o.Policy l.Now) }:=by
  refine⟨i1,j1,h.cfg,h.book,h.now,by show(insP _ _).length=(insP _ _).length;rw[Qh7,Qh7,h.len],fun i hi=>?_⟩
  replace hi:i<l.Pages.length+1:=by have:i<(insP l.Pages (newP o.Page o.Policy l.Now)).length:=hi;rw[Qh7]at this;exact this
  show(nth (insP x.Pages _) i).ID=(nth (insP l.Pages _) i).ID∧(runV l.Config l.Book (nth (insP x.Pages _) i) l.Now).1=(runV l.Config l.Book (nth (insP l.Pages _) i) l.Now).1
  have hpos:=QbH (id:=o.Page) (l:=l.Pages)
  rw[Qqy,Qqy,hP,e2]
  by_cases q1:i<posV o.Page l.Pages
  ·rw[if_pos q1,if_pos q1];exact h.page i (by omega)
  ·rw[if_neg q1,if_neg q1]
   by_cases q2:i=posV o.Page l.Pages
   ·rw[if_pos q2,if_pos q2];exact⟨rfl,rfl⟩
   ·rw[if_neg q2,if_neg q2];exact h.page (i - 1) (by omega)
 have hB:=hA.runR (i:=posV o.Page l.Pages) i2 hnow
 have hC:=hB.runL (i:=posV o.Page l.Pages) i2
 rw[f1,f2]
 exact hC.wide hn
end
end
/-
  Plain laws of operations on ledgers: an owner's starts drive all that waits.
-/
section
open Go AM
attribute [local irreducible] dueV stepV runV QQ answerV
section
variable {n:Nat} {c:D.Config} {b:D.Book} {p q:D.Page} {now M:Int} {l x:D.Ledger} {i:Nat} {o:D.Op}
def QlZ(p:D.Page):Int:=if p.State=2 then -1 else p.Next
theorem QrG(h:Qe M n l)(hi:i<l.Pages.length):(runI l i).Pages=l.Pages.set i (runV l.Config l.Book (nth l.Pages i) l.Now).1∧Yw (nth (runI l i).Pages i) l.Now=false:=by
 have e:(runI l i).Pages=l.Pages.set i (runV l.Config l.Book (nth l.Pages i) l.Now).1:=by rw[h.runEq hi];rfl
 refine⟨e,?_⟩
 rw[e,Xv hi]
 exact(QcM h.book QT.step (h.at hi).1).2.2
def QbL(l:D.Ledger)(now:Int):List Nat:=(List.range l.Pages.length).filter fun i=>Yw (nth l.Pages i) now
theorem QoL{j:Nat}:j∈QbL l now↔j<l.Pages.length∧Yw (nth l.Pages j) now=true:=by
 unfold QbL;rw[List.mem_filter,List.mem_range]
structure Driven (M:Int) (n:Nat) (l:D.Ledger) (now:Int) (k:Nat) (x:D.Ledger):Prop where
 inv:Qe M n x
 time:x.Now≤now∧(0<k→x.Now=now)
 len:x.Pages.length=l.Pages.length
 cfg:x.Config=l.Config∧x.Book=l.Book∧x.Owner=l.Owner∧x.Fence=l.Fence
 page:∀j,j<l.Pages.length→nth x.Pages j=if j∈(QbL l now).take k then(runV l.Config l.Book (nth l.Pages j) now).1 else nth l.Pages j
theorem Driven.done(h:Driven M n l now (QbL l now).length x)(hl:Qe M n l){j:Nat}(hj:j<x.Pages.length):Yw (nth x.Pages j) now=false:=by
 rw[h.len]at hj
 rw[h.page j hj,List.take_length]
 split
 ·exact(QcM hl.book QT.step (hl.at hj).1).2.2
 ·rename_i g
  cases hw:Yw (nth l.Pages j) now with
  |false=>rfl
  |true=>exact absurd (QoL.2 ⟨hj,hw⟩) g
theorem QqS(hs:l.Seen.contains o.ID=false)(hk:o.Kind=2):Zb l o=if o.Fence=l.Fence+1 then({ seeV l o with Owner:=o.Region,Fence:=o.Fence },0)else(seeV l o,23):=by
 rw[Qaq hs]
 unfold opV
 rw[if_neg (by omega),if_pos hk]
 rfl
def Qpr(L:List D.Page)(id:Int):Bool:=hasV id L && decide ((nth L (posV id L)).State=0)
def Qcl(L:List D.Page)(t:Int):List D.Start:=(L.filter fun p=>Yw p t).map fun p=>⟨p.ID,(dueV p).1,[]⟩
theorem Qlf{L:List D.Page}{t:Int}(hi:i<L.length):Qcl (L.take (i+1)) t=Qcl (L.take i) t++(if Yw (nth L i) t=true then[⟨(nth L i).ID,(dueV (nth L i)).1,[]⟩]else[]):=by
 unfold Qcl
 rw[←Qs hi,List.filter_append,List.map_append]
 congr 1
 cases g:Yw (nth L i) t with
 |true=>simp[g]
 |false=>simp[g]
theorem Qj3{L:List D.Page}{t:Int}:(Qcl L t).length≤L.length:=by
 unfold Qcl;rw[List.length_map];exact List.length_filter_le ..
theorem QpV{t:Int}(h:LW M n l)(hpg:l.Pages.length≤9):Wl 1000 l t=some (Qcl l.Pages t):=by
 refine Ok.eq ?_
 unfold Wl
 refine Ok.j ?_
 refine Ok.run l.Pages.length (fun i=>((t,(i:Int),()),l,Qcl (l.Pages.take i) t,())) rfl (by omega) (fun i hi k hk=>?_) (fun k=>?_)
 ·try dsimp only
  have hs:=Qlf (t:=t) hi
  have hlen:=Qj3 (L:=l.Pages.take i) (t:=t)
  rw[List.length_take]at hlen
  try dsimp only at hk
  rw[hs]at hk
  refine Ok.j (Ok.P (Ok.oe (Vg h hpg) (Ok.t ?_)))
  refine Ok.j (Ok.atn hi (Ok.oe Qec (Ok.cnd (fun g=>Ok.ite (fun g2=>Ok.atn hi (Ok.LS ?_)) (fun g2=>?_)) (fun g=>?_))))
  ·try dsimp only
   rw[Qa (by omega)]
   rw[if_pos (by unfold Yw;rw[g,decide_eq_true g2];rfl)]at hk;exact hk
  ·try dsimp only
   rw[Qa (by omega)]
   rw[if_neg (by unfold Yw;rw[decide_eq_false g2];simp),List.append_nil]at hk;exact hk
  ·try dsimp only
   rw[Qa (by omega)]
   rw[if_neg (by unfold Yw;rw[g];simp),List.append_nil]at hk;exact hk
 ·try dsimp only
  refine Ok.j (Ok.N (Ok.s ?_))
  rw[List.take_length]
theorem Driven.none(h:Driven M n l now (QbL l now).length x)(hl:Qe M n l):Qcl x.Pages now=[]:=by
 unfold Qcl
 rw[List.map_eq_nil_iff,List.filter_eq_nil_iff]
 intro p hp
 obtain⟨j,hj,rfl⟩:=QlX hp
 rw[h.done hl hj];simp
end
end
/-
  Lists of operations as they are made: one after the other, with numbers and times that ascend; what they make of a new ledger.
-/
section
attribute [local irreducible] dueV stepV runV QQ answerV
section
variable {n:Nat} {c:D.Config} {b:D.Book} {p q:D.Page} {now M:Int} {l x:D.Ledger} {i:Nat} {o:D.Op} {L:List Int} {d:D.Dice} {ops:List D.Op}
def DecL(l:D.Ledger):Prop:=∀p∈l.Pages,PgX 1000000 p
theorem QoJ{a:D.Answer}(h:YF a=true):(1≤a.ID∧a.ID≤1000000)∧0≤a.Page∧a.Page≤999999:=by
 unfold YF at h
 simp only[bae,Qx]at h
 have h1:=h.1.1.1.1.1
 have h2:=h.1.1.1.1.2
 omega
theorem DecL.set(h:DecL l)(hp:PgX 1000000 p){L:List D.Page}(e:L=l.Pages.set i p):∀q∈L,PgX 1000000 q:=fun q hq=>by
 rw[e]at hq
 rcases List.mem_or_eq_of_mem_set hq with g|rfl
 ·exact h q g
 ·exact hp
theorem DecL.run(h:DecL l)(hl:Qe M n l)(hi:i<l.Pages.length):DecL (runI l i):=
 h.set ((h _ (Qi hi)).run hl.book QT.step (hl.at hi).1) (QrG hl hi).1
theorem DecL.runs(h:DecL l)(hl:Qe M n l):∀{k:Nat},k≤l.Pages.length→DecL (Zl l k)
 |0,_=>h
 |k+1,hk=>(h.runs hl (by omega)).run (hl.runs (by omega)) (by rw[(Yn (l:=l) (k:=k)).2.2.2.2.2.2];exact hk)
theorem Qut{a:D.Answer}(hb:QM b)(h:QI QT M b p)(hd:PgX 1000000 p)(hv:YF a=true)(ha:a.Person<4):PgX 1000000 (ansP c b p a now):=by
 have hr:PgX 1000000 (runV c b p now).1:=hd.run hb QT.step h
 unfold ansP
 split
 ·rename_i g
  rcases Qbd g with e|e
  ·rw[e];exact hr
  ·rw[e];exact hr.answer ha (QoJ hv).1
 ·exact hr
theorem DecL.op(h:DecL l)(hl:Qe M n l)(ho:OpIn o)(hlt:l.Pages.length<64)(ha:o.Kind=4→o.Answer.Person<4):DecL (opV l o).1:=by
 have hk5:=ho.kind
 by_cases k1:o.Kind=1
 ·unfold opV
  rw[if_pos k1]
  split
  ·exact h
  ·rename_i g
   split
   ·exact h
   ·split
    ·exact h
    ·split
     ·rename_i g1 g2 g3
      obtain⟨i1,i2,i3⟩:=hl.open (o:=o) (by simpa using g) ⟨by omega,ho.page.2⟩ g3 hlt
      refine DecL.run (fun q hq=>?_) i1 i2
      rcases Qf7.1 hq with rfl|hq
      ·exact PgX.new
      ·exact h q hq
     ·exact h
 by_cases k2:o.Kind=2
 ·unfold opV
  rw[if_neg k1,if_pos k2]
  split<;>exact h
 by_cases k3:o.Kind=3
 ·unfold opV
  rw[if_neg k1,if_neg k2,if_pos k3]
  split
  ·split
   ·rename_i g
    generalize (if (nth l.Pages (posV o.Page l.Pages)).State=2 then(-1:Int)else(nth l.Pages (posV o.Page l.Pages)).Next)=kk
    split
    ·exact h.run hl (VD g).1
    ·exact h
   ·exact h
  ·exact h
 by_cases k4:o.Kind=4
 ·obtain⟨_,_,e⟩:=Qrk hl k4
  show ∀q∈(opV l o).1.Pages,_
  rw[e]
  split
  ·rename_i g
   have hi:=(VD g).1
   exact h.set (Qut hl.book (hl.at hi).1 (h _ (Qi hi)) (ho.answer k4).1 (ha k4)) rfl
  ·exact h
 ·obtain⟨e,_⟩:=Qvg (l:=l) (o:=o) (by omega)
  show ∀q∈(opV l o).1.Pages,_
  rw[e]
  exact h.runs hl (Nat.le_refl _)
theorem DecL.apply(h:DecL l)(hl:Qe M n l)(ho:OpIn o)(ht:max l.Now o.At≤M - 20000)(hs:l.Seen.length<256)(hlt:l.Pages.length<64)(ha:o.Kind=4→o.Answer.Person<4):DecL (Zb l o).1:=by
 cases g:l.Seen.contains o.ID with
 |true=>unfold Zb;rw[if_pos g];exact h
 |false=>rw[Qaq g];exact DecL.op (l:=seeV l o) h (hl.see ho ht g hs) ho hlt ha
def Qbh(c:D.Config)(b:D.Book):D.Ledger:={ Now:=0,Config:=c,Book:=b,Pages:=[],Owner:=-1,Fence:=0,Seen:=[],Calls:=[] }
def opsV(l:D.Ledger):List D.Op→D.Ledger
 |[]=>l
 |o::r=>opsV (Zb l o).1 r
theorem QqA:∀{a:List D.Op} {l:D.Ledger} {r:List D.Op},opsV l (a++r)=opsV (opsV l a) r
 |[],_,_=>rfl
 |o::a,l,r=>by simp only[List.cons_append,opsV,QqA]
theorem QnX:opsV l (ops++[o])=(Zb (opsV l ops) o).1:=by rw[QqA];rfl
theorem Qtp(h:i<ops.length):opsV l (ops.take (i+1))=(Zb (opsV l (ops.take i)) (nth ops i)).1:=by rw[←Qs h,QnX]
structure QhF (ops:List D.Op):Prop where
 op:∀j,j<ops.length→OpIn (nth ops j)∧(nth ops j).ID=(j:Int)+1∧((nth ops j).Kind=1→1≤(nth ops j).Page∧(nth ops j).Page≤3)∧((nth ops j).Kind=4→(nth ops j).Answer.Person<4)
 at_:∀j,j<ops.length→864000≤(nth ops j).At∧(nth ops j).At≤864000+700*((j:Int)+1)
 up:∀i j,i<j→j<ops.length→(nth ops i).At≤(nth ops j).At
theorem QhF.nil:QhF []:=⟨fun j hj=>by simp at hj,fun j hj=>by simp at hj,fun i j _ hj=>by simp at hj⟩
theorem Qge{α:Type}[Inhabited α]{l:List α}{x:α}{j:Nat}:nth (l++[x]) j=if j<l.length then nth l j else if j=l.length then x else default:=by
 unfold nth
 simp only[List.getD_eq_getElem?_getD,List.getElem?_append]
 by_cases h:j<l.length
 ·rw[if_pos h,if_pos h]
 ·rw[if_neg h,if_neg h]
  by_cases e:j=l.length
  ·subst e;simp
  ·rw[if_neg e]
   have:¬(j - l.length=0):=by omega
   obtain⟨m,hm⟩:∃m,j - l.length=m+1:=⟨j - l.length - 1,by omega⟩
   rw[hm];simp
theorem QhF.snoc(h:QhF ops)(ho:OpIn o)(hid:o.ID=(ops.length:Int)+1)(hk:o.Kind=1→1≤o.Page∧o.Page≤3)(hk4:o.Kind=4→o.Answer.Person<4)(h1:864000≤o.At∧o.At≤864000+700*((ops.length:Int)+1))(h2:∀j,j<ops.length→(nth ops j).At≤o.At):QhF (ops++[o]):=by
 have hl:(ops++[o]).length=ops.length+1:=by simp
 refine⟨fun j hj=>?_,fun j hj=>?_,fun i j hij hj=>?_⟩
 ·rw[hl]at hj
  rw[Qge]
  by_cases g:j<ops.length
  ·rw[if_pos g];exact h.op j g
  ·obtain rfl:j=ops.length:=by omega
   rw[if_neg g,if_pos rfl];exact⟨ho,hid,hk,hk4⟩
 ·rw[hl]at hj
  rw[Qge]
  by_cases g:j<ops.length
  ·rw[if_pos g];exact h.at_ j g
  ·obtain rfl:j=ops.length:=by omega
   rw[if_neg g,if_pos rfl];exact h1
 ·rw[hl]at hj
  rw[Qge,Qge,if_pos (by omega)]
  by_cases g:j<ops.length
  ·rw[if_pos g];exact h.up i j hij g
  ·obtain rfl:j=ops.length:=by omega
   rw[if_neg g,if_pos rfl];exact h2 i (by omega)
structure Behind (ops:List D.Op) (k:Nat) (l:D.Ledger):Prop where
 made:Qun k l
 dec:DecL l
 seen:∀x∈l.Seen,x≤(k:Int)
 last:l.Now≤0∨∃j,j<k∧l.Now≤(nth ops j).At
theorem Behind.first(hc:Q3 2 c)(hb:QM b):Behind ops 0 (Qbh c b):=
 ⟨⟨Qrj hc hb,fun p hp=>by simp[Qbh]at hp,Nat.le_refl _,by simp[Qbh]⟩,fun p hp=>by simp[Qbh]at hp,fun x hx=>by simp[Qbh]at hx,.inl (by simp[Qbh])⟩
theorem Behind.fresh{k:Nat}(h:Behind ops k l)(hi:o.ID=(k:Int)+1):l.Seen.contains o.ID=false:=by
 cases hc:l.Seen.contains o.ID with
 |false=>rfl
 |true=>
  have:=h.seen _ (List.contains_iff_mem.1 hc)
  omega
theorem Behind.le{k:Nat}(h:Behind ops k l)(ho:QhF ops)(hk:k<ops.length):l.Now≤(nth ops k).At:=by
 have:=(ho.at_ k hk).1
 rcases h.last with h|⟨j,h1,h2⟩
 ·omega
 ·have:=ho.up j k h1 hk;omega
theorem Qun.next{k:Nat}(h:Qun k l)(hk:k≤11)(ho:OpIn o)(hp:o.Kind=1→o.Page≤3)(ht:o.At≤864000+700*((k:Int)+1)):Qun (k+1) (Zb l o).1:=by
 have hn:=h.now;have hs:=h.seen
 have hkp:=Qit (l:=l) (o:=o)
 exact⟨h.inv.apply (by omega) ho (by omega) (by omega),h.ids.apply h.inv ho (by omega) (by omega) hp,by omega,by rcases hkp.2 with e|e<;>omega⟩
theorem Behind.next{k:Nat}(h:Behind ops k l)(ho:QhF ops)(hk:k<ops.length)(hk9:k≤9):Behind ops (k+1) (Zb l (nth ops k)).1:=by
 obtain⟨g1,g2,g3,g4⟩:=ho.op k hk
 have hnew:=h.fresh g2
 have hat:=(ho.at_ k hk).2;have hnow:=h.made.now;have hsl:=h.made.seen
 have hp3:=h.made.inv.small3 (k:=3) h.made.ids
 refine⟨h.made.next (by omega) g1 (fun e=>(g3 e).2) hat,h.dec.apply h.made.inv g1 (by omega) (by omega) (by omega) g4,fun x hx=>?_,.inr ⟨k,by omega,?_⟩⟩
 ·rw[Qaq hnew,Ql2.2]at hx
  rcases List.mem_append.1 hx with hx|hx
  ·have:=h.seen x hx;omega
  ·rw[List.mem_singleton.1 hx,g2];omega
 ·rw[QqR hnew]
  have:=h.le ho hk
  omega
theorem Behind.fold(hc:Q3 2 c)(hb:QM b)(ho:QhF ops)(h9:ops.length≤9):∀{k:Nat},k≤ops.length→Behind ops k (opsV (Qbh c b) (ops.take k))
 |0,_=>by rw[List.take_zero];exact Behind.first hc hb
 |k+1,hk=>by
  rw[Qtp (by omega)]
  exact(Behind.fold hc hb ho h9 (by omega)).next ho (by omega) (by omega)
theorem Qxz{t u:Int}(h:∀q,q<ops.length→(nth ops q).At≤t)(ht:t≤u)(ho:o.At≤u):∀q,q<(ops++[o]).length→(nth (ops++[o]) q).At≤u:=fun q hq=>by
 rw[Qge]
 by_cases g:q<ops.length
 ·rw[if_pos g];have:=h q g;omega
 ·have:q=ops.length:=by rw[List.length_append]at hq;simp at hq;omega
  rw[if_neg g,if_pos this];exact ho
theorem Qvi:opsV l []=l:=rfl
attribute [local irreducible] opsV Zb opV
theorem QwV{k:Nat}(hL:L.length≤500)(h2:ZG L d)(hc:Q3 2 c)(hb:QM b)(hk:k≤9):
  Ok (Us 1000 d (Qbh c b) (k:Int)) fun r=>ZG L r.2.2∧QhF r.2.1∧r.2.1.length≤k∧r.1=opsV (Qbh c b) r.2.1:=by
 unfold Us Qbh
 refine Ok.loop (fun m x=>x=(((k:Int),864000,1,0,()),d,{ Now:=0,Config:=c,Book:=b,Pages:=[],Owner:=-1,Fence:=0,Seen:=[],Calls:=[] },(0,0,0,()),())) (m:=0) (by omega) rfl ?_
 rintro m x rfl K hK
 try dsimp only
 refine Ok.NS ?_
 try dsimp only
 rw[Qc (x:=(k:Int)+1) (by omega)]
 refine Ok.opt (nx hL h2 (by omega) (by omega)) fun⟨a11,d12⟩ ⟨h12,l12,u12⟩=>?_
 try dsimp only at h12 l12 u12 ⊢
 refine Ok.loop (fun m x=>∃(j:Nat) (t i:Int) (d:D.Dice) (z:Int×Int×Int×Unit) (ops:List D.Op),x=((t,(j:Int)+1,i,()),d,opsV (Qbh c b) ops,z,ops,())∧ZG L d∧QhF ops∧ops.length=j∧(864000≤t∧t≤864000+700*(j:Int))∧(∀q,q<ops.length→(nth ops q).At≤t)∧0≤i∧(j:Int)+i≤(k:Int)∧m=i.toNat) (m:=a11.toNat) (by omega)
  ⟨0,864000,a11,d12,(0,0,0,()),[],by rw[Qvi];rfl,h12,QhF.nil,rfl,by omega,fun q hq=>by simp at hq,l12,by omega,rfl⟩ ?_
 rintro m x ⟨j,t,i,d,z,ops,rfl,i1,io,il,i3,iu,i4,i5,rfl⟩ K2 hK2
 obtain⟨z1,z2,z3,⟨⟩⟩:=z
 have hB:=Behind.fold hc hb io (by omega) (Nat.le_refl _)
 rw[List.take_length,il]at hB
 have i2:=hB.made
 obtain⟨l,hl⟩:∃l,opsV (Qbh c b) ops=l:=⟨_,rfl⟩
 rw[hl]at hB i2 ⊢
 try dsimp only
 refine Ok.ite (fun hi=>?_) (fun hi=>Ok.s ⟨i1,io,by dsimp only;omega,hl.symm⟩)
 refine Ok.opt (QaP hL i1 (by simp) (by simp)) fun⟨a23,d24⟩ ⟨h24,m24⟩=>?_
 try dsimp only at h24 m24 ⊢
 simp only[List.mem_cons,List.not_mem_nil,or_false]at m24
 try dsimp only
 rw[Qc (x:=t+a23) (by omega)]
 obtain⟨u,hu⟩:∃u,t+a23=u:=⟨_,rfl⟩
 rw[hu]
 have hnow:=i2.now;have hsl:=i2.seen
 refine Ok.opt (Qv2 hL h24 i2.inv i2.ids (by omega) (by omega)) fun⟨o,d26⟩ ⟨h26,ho,e1,e2,e3,e4⟩=>?_
 try dsimp only at h26 ho e1 e2 e3 e4 ⊢
 have hp3:=i2.inv.small3 (k:=3) i2.ids
 have happ:=Qm1 i2.inv (by omega) (by omega) ho (by omega) (by omega)
 have hnx:=i2.next (o:=o) (by omega) ho (fun e=>(e3 e).2) (by omega)
 have hp3':=hnx.inv.small3 (k:=3) hnx.ids
 have hio:QhF (ops++[o]):=io.snoc ho (by rw[e1,il]) e3 e4 (by rw[e2,il];omega) (fun q hq=>by have:=iu q hq;omega)
 have hsn:=Qxz (o:=o) (u:=u) iu (by omega) (by omega)
 have hln:(ops++[o]).length=j+1:=by simp;omega
 clear iu hB
 refine Ok.join (fun y=>y=((u,(j:Int)+2,i,()),d26,opsV (Qbh c b) (ops++[o]),(z1,z2,z3,()),o,ops,())) (fun y hy=>?_) (fun J hJ=>?_)
 ·subst hy
  clear happ hnx hp3' hp3 hnow hsl i2 ho e1 e2 e3 e4
  try dsimp only
  rw[Qc (x:=i - 1) (by omega)]
  refine Ok.LS (hK2 (i - 1).toNat _ (by omega) ⟨j+1,u,i - 1,d26,(z1,z2,z3,()),ops++[o],?_,h26,hio,hln,?_,hsn,?_,?_,rfl⟩)
  ·simp only[Prod.mk.injEq,and_true,true_and]
   omega
  ·omega
  ·omega
  ·omega
 ·refine Ok.oe happ ?_
  have hf:opsV (Qbh c b) (ops++[o])=(Zb l o).1:=by rw[QnX,hl]
  obtain⟨l',e,hle⟩:∃l' e,Zb l o=(l',e):=⟨_,_,rfl⟩
  rw[hle]at hnx hp3' hf ⊢
  try dsimp only at hnx hp3' hf ⊢
  rw[show IntKind.wrap .i64 ((j:Int)+1+1)=(j:Int)+2 by rw[Qc (by omega)];omega]
  refine Ok.oe (Vg hnx.inv.w (by omega)) (Ok.t ?_)
  rw[←hf]
  exact hJ _ rfl
end
end
/-
  Ledgers behind lists of operations: what is asked of each, their errors, those of made lists.
-/
section
open Go AM
attribute [local irreducible] dueV stepV runV QQ answerV
section
variable {n:Nat} {c:D.Config} {b:D.Book} {p q:D.Page} {now M:Int} {l x:D.Ledger} {i:Nat} {o:D.Op} {L:List Int} {d:D.Dice} {ops:List D.Op}
def Qny(l:D.Ledger):List D.Op→List Int
 |[]=>[]
 |o::r=>(Zb l o).2::Qny (Zb l o).1 r
structure Led (l:D.Ledger):Prop where
 ok:∃M n,LW M n l∧n≤48
 pg:l.Pages.length≤9
structure OkAt (l:D.Ledger) (o:D.Op):Prop where
 ok:∃M n,Qe M n l∧n<48∧max l.Now o.At≤M - 20000
 pg:l.Pages.length≤8
 dec:DecL l
 op:OpIn o
 len:l.Seen.length<256
theorem OkAt.led(h:OkAt l o):Led l:=by
 obtain⟨M,n,h1,h2,_⟩:=h.ok
 exact⟨⟨M,n,h1.w,by omega⟩,by have:=h.pg;omega⟩
theorem OkAt.ref(h:OkAt l o):Yt 1000 l o=some (Zb l o):=by
 obtain⟨M,n,h1,h2,h3⟩:=h.ok
 exact Qm1 h1 h2 h.pg h.op h3 h.len
theorem Led.check(h:Led l):YM 1000 l=some true:=by
 obtain⟨M,n,h1,h2⟩:=h.ok
 exact Vg h1 h.pg
theorem Led.checkE(h:Led l):ZP 1000 l=some true:=by
 obtain⟨M,n,h1,h2⟩:=h.ok
 exact QlT h1 h.pg
theorem Led.copy(h:Led l):QeB 1000 l=some l:=by
 obtain⟨M,n,h1,h2⟩:=h.ok
 have:=h1.callsLe h.pg;have:=h1.seen.len;have:=h.pg
 exact Qlz h1.plens (by omega) (by omega) (by omega)
structure Loose (k:Nat) (l:D.Ledger):Prop where
 inv:Qe 1000000 (2+k) l
 ids:Ids 3 l
 seen:l.Seen.length≤k
 dec:DecL l
def Quo(o:D.Op):Prop:=OpIn o∧(o.Kind=1→o.Page≤3)∧o.At≤980000∧(o.Kind=4→o.Answer.Person<4)
theorem Behind.loose{k:Nat}(h:Behind ops k l):Loose k l:=⟨h.made.inv,h.made.ids,h.made.seen,h.dec⟩
theorem Loose.okAt{k:Nat}(h:Loose k l)(hk:k≤45)(ho:Quo o):OkAt l o:=by
 have hn:=h.inv.now;have hs:=h.seen;have h2:=ho.2.2.1
 have hp3:=h.inv.small3 (k:=3) h.ids
 exact⟨⟨1000000,2+k,h.inv,by omega,by omega⟩,by omega,h.dec,ho.1,by omega⟩
theorem Loose.led{k:Nat}(h:Loose k l)(hk:k≤46):Led l:=⟨⟨1000000,2+k,h.inv.w,by omega⟩,by have:=h.inv.small3 (k:=3) h.ids;omega⟩
theorem Loose.next{k:Nat}(h:Loose k l)(hk:k≤45)(ho:Quo o):Loose (k+1) (Zb l o).1:=by
 have hn:=h.inv.now;have hs:=h.seen;have h2:=ho.2.2.1
 have hp3:=h.inv.small3 (k:=3) h.ids
 exact⟨h.inv.apply (by omega) ho.1 (by omega) (by omega),h.ids.apply h.inv ho.1 (by omega) (by omega) ho.2.1,by have:=(Qit (l:=l) (o:=o)).1;omega,h.dec.apply h.inv ho.1 (by omega) (by omega) (by omega) ho.2.2.2⟩
end
end
/-
  Ledgers: what the program's operations compute.
-/
section
attribute [local irreducible] dueV stepV runV QQ answerV
section
variable {n:Nat} {c:D.Config} {b:D.Book} {p q:D.Page} {now M:Int} {l x:D.Ledger} {i:Nat} {o:D.Op} {ops:List D.Op}
theorem mapE{T:Type}[Inhabited T]{f:Nat→T→Option T}{l:List T}(hf:∀x∈l,f 1000 x=some x)(hl:l.length≤900):
  Qh (X:=((Int×(Int×Unit))×(List T×Unit))) (fun L1 ((a2,(a3,_)),(a4,_))=>(AM.cnd (decide (a3<a2)) (natc a3 fun a5=>(ltc a5 (List.length a4) (optc (GetElem?.getElem? a4 a5) fun a6=>(optc (f 1000 a6) fun a7=>(natc a3 fun a8=>(ltc a8 (List.length a4) (optc (GetElem?.getElem? a4 a8) fun a9=>(L1 ((a2,((IntKind.wrap .i64 (a3+1)),())),((List.set a4 a8 a7),())))))))))) (some a4))) 1000 (((((List.length l):Nat):Int),(0,())),(l,()))=some l:=by
 refine Ok.eq ?_
 refine Ok.run l.length (fun i=>(((((List.length l):Nat):Int),((i:Nat):Int),()),l,())) rfl (by omega) (fun i hi k hk=>?_) (fun k=>?_)
 ·try dsimp only
  refine Ok.P (Ok.natn (Ok.lt hi (Ok.get hi (Ok.oe (hf _ (Qi hi)) (Ok.natn (Ok.lt hi (Ok.get hi ?_)))))))
  rw[Qa (by omega),QtY hi];exact hk
 ·try dsimp only
  exact Ok.N (Ok.s rfl)
theorem cl_w{l:List D.Window}(h:l.length≤900):Z7 1000 l=some l:=by unfold Z7;exact Xg (by omega)
theorem cl_i{l:List Int}(h:l.length≤900):Qy 1000 l=some l:=by unfold Qy;exact Xg (by omega)
theorem Qpp{l:List D.Zone}(h:∀z∈l,z.Rules=[])(hl:l.length≤900):Zz 1000 l=some l:=by
 unfold Zz
 refine(WA (show Xs 1000 l=some l by unfold Xs;exact Xg (by omega))).trans (mapE (f:=Qeo) (fun z hz=>?_) hl)
 unfold Qeo
 exact WA (show Y6 1000 z.Rules=some z.Rules by rw[h z hz];rfl)
theorem QlW{l:List D.Person}(h:∀z∈l,z.Quiet.length≤900)(hl:l.length≤900):Q7 1000 l=some l:=by
 unfold Q7
 refine(WA (show YN 1000 l=some l by unfold YN;exact Xg (by omega))).trans (mapE (f:=Qbn) (fun z hz=>?_) hl)
 unfold Qbn
 exact WA (cl_w (h z hz))
theorem QnO{l:List D.Layer}(h:∀z∈l,YI z)(hl:l.length≤900):Zf 1000 l=some l:=by
 unfold Zf
 refine(WA (show Y4 1000 l=some l by unfold Y4;exact Xg (by omega))).trans (mapE (f:=QcB) (fun z hz=>?_) hl)
 have hz':=h z hz
 unfold QcB
 exact(WA (cl_i (by have:=hz'.len;omega))).trans (WA (cl_w (by rw[hz'.win];simp)))
theorem QnP{l:List D.Schedule}(h:∀z∈l,Qdd n z)(hn:n≤48)(hl:l.length≤900):QV 1000 l=some l:=by
 unfold QV
 refine(WA (show Yi 1000 l=some l by unfold Yi;exact Xg (by omega))).trans (mapE (f:=Uu) (fun z hz=>?_) hl)
 obtain⟨⟨y,hy,hy2⟩,h2,_⟩:=h z hz
 unfold Uu
 refine(WA (QnO (l:=z.Layers) (fun w hw=>?_) (by rw[hy];simp))).trans (WA (show Xr 1000 z.Edits=some z.Edits by unfold Xr;exact Xg (by omega)))
 simp_all
theorem Qpo{l:List D.Team}(h:∀z∈l,QmV z)(hl:l.length≤900):Zy 1000 l=some l:=by
 unfold Zy
 refine(WA (show Wy 1000 l=some l by unfold Wy;exact Xg (by omega))).trans (mapE (f:=Qen) (fun z hz=>?_) hl)
 unfold Qen
 exact WA (cl_i (by have:=(h z hz).len;omega))
theorem Qpn{m:Nat}{l:List D.PolicyStep}(h:∀z∈l,StepOK' m z)(hl:l.length≤900):Q1 1000 l=some l:=by
 unfold Q1
 refine(WA (show YB 1000 l=some l by unfold YB;exact Xg (by omega))).trans (mapE (f:=Qem) (fun z hz=>?_) hl)
 unfold Qem
 exact WA (show XF 1000 z.Targets=some z.Targets by unfold XF;exact Xg (by have:=(h z hz).len;omega))
theorem Qrf{m:Nat}{l:List D.Policy}(h:∀z∈l,QbN m z)(hl:l.length≤900):Zp 1000 l=some l:=by
 unfold Zp
 refine(WA (show XE 1000 l=some l by unfold XE;exact Xg (by omega))).trans (mapE (f:=Qgh) (fun z hz=>?_) hl)
 unfold Qgh
 exact WA (Qpn (h z hz).step (by have:=(h z hz).len;omega))
theorem QqD(h:QA p):Qav 1000 p=some p:=by
 have h1:=h.st;have h2:=h.de;have h3:=h.se
 unfold Qav
 refine(WA (x:=p.Starts) ?_).trans ((WA (cl_i (by omega))).trans (WA (cl_i (by omega))))
 unfold ZQ
 refine(WA (Qng (by omega))).trans (mapE (f:=Qbl) (fun z hz=>?_) (by omega))
 unfold Qbl
 exact WA (cl_i (by have:=(h.pe z hz).1;omega))
theorem Qpm{l:List D.Page}(h:∀z∈l,QA z)(hl:l.length≤900):Zx 1000 l=some l:=by
 unfold Zx
 exact(WA (show Wx 1000 l=some l by unfold Wx;exact Xg (by omega))).trans (mapE (f:=Qav) (fun z hz=>QqD (h z hz)) hl)
theorem Led.copyE(h:Led l):Qbm 1000 l=some l:=by
 obtain⟨M,n,h1,h2⟩:=h.ok
 have hcl:=h1.callsLe h.pg;have hse:=h1.seen.len;have hpg:=h.pg;have hb:=h1.book;have hc:=h1.cfg
 have htl:=hb.tlen;have hpl:=hb.plen
 obtain⟨hz,_⟩:=hc.zones
 unfold Qbm
 rw[Qpp (by rw[hz];intro z hm;rw[List.mem_singleton.1 hm]) (by rw[hz];simp),ZL,QlW (fun z hm=>by rcases(hc.person z hm).quiet with e|⟨_,_,e,_⟩<;>rw[e]<;>simp) (by rw[hc.plen];omega),ZL,hc.cal]
 rw[show Zo 1000 []=some []by kernel_rfl,ZL,QnP hc.sched h2 (by rw[hc.slen];omega),ZL,Qpo hb.team (by omega),ZL,Qrf hb.pol (by omega),ZL,Qpm h1.plens (by omega),ZL,cl_i (by omega),ZL,Qnf (by omega),ZL]
 obtain⟨l1,⟨c1,c2,c3,c4⟩,l3,l4,l5,l6,l7,l8⟩:=l
 have hcal:=hc.cal
 dsimp only at hcal ⊢
 subst hcal
 rfl
theorem QsX{i j:Nat}(h:i+j<1000000):IntKind.wrap .i64 (Int.fdiv (IntKind.wrap .u64 (IntKind.wrap .i64 ((i:Int)+(j:Int)))) (HPow.hPow 2 (min 1 (Go.IntKind.bits Go.IntKind.u64))))=(((i+j) / 2:Nat):Int):=by
 rw[Qc (x:=(i:Int)+(j:Int)) (by omega)]
 have e:IntKind.u64.wrap ((i:Int)+(j:Int))=(i:Int)+(j:Int):=by
  simp only[IntKind.wrap,IntKind.bits,IntKind.signed]
  simp
  omega
 rw[e,show((HPow.hPow 2 (min 1 (Go.IntKind.bits Go.IntKind.u64)):Nat):Int)=2 from rfl,Int.fdiv_eq_ediv_of_nonneg _ (by omega),Qc (by omega)]
 omega
theorem Qp3{id:Int}(h1:0≤p.ID∧p.ID≤999999)(h2 : -1≤id∧id≤1000000):Wa 1000 p id=some (p.ID - id):=by
 unfold Wa
 rw[Qc (by omega)]
theorem QxX{id:Int}{L:List D.Page}(ha:AscP L)(hl:L.length≤64)(hp:∀p∈L,0≤p.ID∧p.ID≤999999)(hid : -1≤id∧id≤1000000):
  QF 1000 L id=some ((posV id L:Int),hasV id L):=by
 have hple:=QbH (id:=id) (l:=L)
 refine Ok.eq ?_
 unfold QF
 refine Ok.loop (fun m x=>∃(i j:Nat),x=((id,((L.length:Nat):Int),(i:Int),(j:Int),()),L,())∧i≤posV id L∧posV id L≤j∧j≤L.length∧m=j - i) (m:=L.length) (by omega) ⟨0,L.length,rfl,by omega,by omega,by omega,by omega⟩ ?_
 rintro m x ⟨i,j,rfl,h1,h2,h3,rfl⟩ K hK
 try dsimp only
 refine Ok.ite (fun hij=>?_) (fun hij=>?_)
 ·refine Ok.nat (by omega) ?_
  rw[show(1:Int).toNat=1 from rfl,QsX (by omega)]
  have hh:(i+j) / 2<L.length:=by omega
  refine Ok.natn (Ok.lt hh (Ok.get hh (Ok.oe (Qp3 (hp _ (Qi hh)) hid) (Ok.ite (fun g=>?_) (fun g=>?_)))))
  ·try dsimp only
   rw[Qa (by omega)]
   refine hK _ _ (by omega) ⟨(i+j) / 2+1,j,rfl,?_,h2,h3,rfl⟩
   rcases Nat.lt_or_ge ((i+j) / 2) (posV id L)with g2|g2
   ·omega
   ·have:=QjB ha g2 hh
    omega
  ·refine hK _ _ (by omega) ⟨i,(i+j) / 2,rfl,h1,?_,by omega,rfl⟩
   rcases Nat.lt_or_ge ((i+j) / 2) (posV id L)with g2|g2
   ·have:=QjC g2
    omega
   ·exact g2
 ·have e:i=posV id L:=by omega
  subst e
  unfold hasV
  refine Ok.ite (fun g=>?_) (fun g=>?_)
  ·have hh:posV id L<L.length:=by omega
   refine Ok.natn (Ok.lt hh (Ok.get hh (Ok.oe (Qp3 (hp _ (Qi hh)) hid) (Ok.ite (fun g=>Ok.sameC (Ok.s ?_)) (fun g=>Ok.sameC (Ok.s ?_))))))
   ·grind
   ·rw[decide_eq_false (fun h=>g (by omega))]
  ·exact Ok.sameC (Ok.s (by rw[decide_eq_false (fun h=>g (by omega))]))
theorem Qyn{id:Int}{L:List D.Page}(ha:AscP L)(hl:L.length≤64)(hp:∀p∈L,0≤p.ID∧p.ID≤999999)(hid : -1≤id∧id≤1000000):
  QJ 1000 L id=some ((posV id L:Int),hasV id L):=by
 have hple:=QbH (id:=id) (l:=L)
 refine Ok.eq ?_
 unfold QJ
 refine Ok.loop (fun m x=>∃(i j:Nat),x=((L,id,((L.length:Nat):Int),(i:Int),(j:Int),()),())∧i≤posV id L∧posV id L≤j∧j≤L.length∧m=j - i) (m:=L.length) (by omega) ⟨0,L.length,rfl,by omega,by omega,by omega,by omega⟩ ?_
 rintro m x ⟨i,j,rfl,h1,h2,h3,rfl⟩ K hK
 try dsimp only
 refine Ok.ite (fun hij=>?_) (fun hij=>?_)
 ·refine Ok.nat (by omega) ?_
  rw[show(1:Int).toNat=1 from rfl,QsX (by omega)]
  have hh:(i+j) / 2<L.length:=by omega
  refine Ok.atn hh (Ok.oe (Qp3 (hp _ (Qi hh)) hid) (Ok.ite (fun g=>?_) (fun g=>?_)))
  ·try dsimp only
   rw[Qa (by omega)]
   refine hK _ _ (by omega) ⟨(i+j) / 2+1,j,rfl,?_,h2,h3,rfl⟩
   rcases Nat.lt_or_ge ((i+j) / 2) (posV id L)with g2|g2
   ·omega
   ·have:=QjB ha g2 hh
    omega
  ·refine hK _ _ (by omega) ⟨i,(i+j) / 2,rfl,h1,?_,by omega,rfl⟩
   rcases Nat.lt_or_ge ((i+j) / 2) (posV id L)with g2|g2
   ·have:=QjC g2
    omega
   ·exact g2
 ·have e:i=posV id L:=by omega
  subst e
  unfold hasV
  refine Ok.ite (fun g=>?_) (fun g=>?_)
  ·have hh:posV id L<L.length:=by omega
   refine Ok.atn hh (Ok.oe (Qp3 (hp _ (Qi hh)) hid) (Ok.ite (fun g=>Ok.s ?_) (fun g=>Ok.s ?_)))
   ·grind
   ·rw[decide_eq_false (fun h=>g (by omega))]
  ·exact Ok.s (by rw[decide_eq_false (fun h=>g (by omega))])
theorem LW.idsIn(h:LW M n l):∀p∈l.Pages,0≤p.ID∧p.ID≤999999:=fun p hp=>by
 have:=(h.page p hp).1.id;omega
theorem Qja{id:Int}(h:LW M n l)(hid : -1≤id∧id≤1000000):ZX 1000 l id=some ((posV id l.Pages:Int),hasV id l.Pages):=by
 unfold ZX
 rw[QxX h.asc h.len h.idsIn hid,ZL]
 dsimp only
 rw[Wn,Wn,Wn]
theorem Qul{id:Int}(h:LW M n l)(hid : -1≤id∧id≤1000000):Qau 1000 l id=some (UD l id):=by
 refine Ok.eq ?_
 unfold Qau Qg1 UD
 rw[Qyn h.asc h.len h.idsIn hid]
 by_cases g:hasV id l.Pages=true
 ·rw[if_pos g]
  have:=(VD g).1
  exact Ok.os (Ok.nt g (Ok.atn this (Ok.oe (QqD (h.plens _ (Qi this))) (Ok.s rfl))))
 ·rw[if_neg g]
  exact Ok.os (Ok.nf (by simpa using g) (Ok.s rfl))
theorem Qvd:Qek 1000 p=some (QlZ p):=by
 unfold Qek QlZ
 (try unfold cd);rw[QvP];split<;>rfl
theorem QuH{k:Nat}(hi:i<l.Pages.length)(hp:QA (nth l.Pages i))(hk:k≤(nth l.Pages i).Starts.length)(hcl:l.Calls.length≤20000):
  QZ 1000 ⟨l⟩ (i:Int) (k:Int)=some ⟨{ l with Calls:=l.Calls++QG (nth l.Pages i).ID l.Fence ((nth l.Pages i).Starts.drop k) }⟩:=by
 obtain⟨P,hP⟩:∃P,nth l.Pages i=P:=⟨_,rfl⟩
 have hst:=hp.st
 refine Ok.eq ?_
 unfold QZ
 refine Ok.natn (Ok.lt hi (Ok.get hi (Ok.natn (Ok.lec hk ?_))))
 rw[hP]at hp hk hst ⊢
 refine Ok.run (P.Starts.length - k) (fun j=>(((P.Starts.drop k),(((P.Starts.drop k).length:Nat):Int),(j:Int),()),(l.Now,l.Config.Zones,l.Config.People,l.Config.Calendars,l.Config.Schedules,l.Book.Teams,l.Book.Policies,l.Owner,l.Fence,()),P,l.Pages,l.Seen,l.Calls++QG P.ID l.Fence ((P.Starts.drop k).take j),())) (by rw[List.take_zero];simp[QG]) (by omega) (fun j hj kk hkk=>?_) (fun kk=>?_)
 ·try dsimp only
  have hdl:j<(P.Starts.drop k).length:=by simp;omega
  refine Ok.P (Ok.atn hdl ?_)
  have hpe:=(hp.pe _ (List.mem_of_mem_drop (Qi hdl))).1
  have hts:(P.Starts.drop k).take (j+1)=(P.Starts.drop k).take j++[nth (P.Starts.drop k) j]:=(Qs hdl).symm
  have hol:(QG P.ID l.Fence ((P.Starts.drop k).take j)).length≤40*((P.Starts.drop k).take j).length:=QaE (m:=40) fun s hs=>(hp.pe s (List.mem_of_mem_drop (List.mem_of_mem_take hs))).1
  rw[List.length_take,List.length_drop]at hol
  obtain⟨s,hs⟩:∃s,nth (P.Starts.drop k) j=s:=⟨_,rfl⟩
  rw[hs]at hpe hts ⊢
  refine Ok.run s.People.length (fun z=>(((P.Starts.drop k),(((P.Starts.drop k).length:Nat):Int),(j:Int),s.People,((s.People.length:Nat):Int),(z:Int),()),(l.Now,l.Config.Zones,l.Config.People,l.Config.Calendars,l.Config.Schedules,l.Book.Teams,l.Book.Policies,l.Owner,l.Fence,()),P,s,l.Pages,l.Seen,(l.Calls++QG P.ID l.Fence ((P.Starts.drop k).take j))++(s.People.take z).map (fun x=>D.Call.mk P.ID s.K s.At x l.Fence),())) (by rw[List.take_zero,List.map_nil,List.append_nil];rfl) (by omega) (fun z hz k2 hk2=>?_) (fun k2=>?_)
  ·try dsimp only
   refine Ok.P (Ok.atn hz (Ok.lec ?_ ?_))
   ·grind
   ·try dsimp only
    rw[Qa (by omega)]
    try dsimp only at hk2
    rw[←Qs hz,List.map_append,←List.append_assoc]at hk2
    exact hk2
  ·try dsimp only
   refine Ok.N ?_
   try dsimp only
   rw[Qa (by omega),List.take_length]
   try dsimp only at hkk
   rw[hts,Qdi,←List.append_assoc]at hkk
   exact hkk
 ·try dsimp only
  refine Ok.NS (Ok.s ?_)
  rw[List.take_of_length_le (by simp)]
theorem QtD{A:D.Page}(hi:i<l.Pages.length)(hA:QA A)(hx:Ext (nth l.Pages i) A)(hcl:l.Calls.length≤20000):
  QZ 1000 ⟨⟨l.Now,l.Config,l.Book,l.Pages.set i A,l.Owner,l.Fence,l.Seen,l.Calls⟩⟩ (i:Int) (((nth l.Pages i).Starts.length:Nat):Int)=some ⟨putV l i A⟩:=by
 obtain⟨m,hm⟩:=hx
 have hset:nth (l.Pages.set i A) i=A:=Xv hi
 have hc:=QuH (l:={ l with Pages:=l.Pages.set i A }) (i:=i) (k:=(nth l.Pages i).Starts.length) (by show i<(l.Pages.set i A).length;rw[List.length_set];exact hi) (by show QA (nth (l.Pages.set i A) i);rw[hset];exact hA)
  (by show _≤(nth (l.Pages.set i A) i).Starts.length;rw[hset,hm];simp) hcl
 refine hc.trans ?_
 show some (D.worker.mk { l with Pages:=l.Pages.set i A,Calls:=l.Calls++QG (nth (l.Pages.set i A) i).ID l.Fence ((nth (l.Pages.set i A) i).Starts.drop (nth l.Pages i).Starts.length) })=_
 rw[hset];rfl
theorem QmA(h:LW M n l)(hpg:l.Pages.length≤9)(hi:i<l.Pages.length):QE 1000 ⟨l⟩ (i:Int)=some ⟨runI l i⟩:=by
 have hcl:=h.callsLe hpg
 have hat:=h.at hi
 have hpl:=hat.1.plen h.book
 refine Ok.eq ?_
 unfold QE
 refine Ok.natn (Ok.lt hi (Ok.get hi (Ok.oe (Qyb h.cfg h.small h.book hpl) ?_)))
 have hext:=QmD (c:=l.Config) (now:=l.Now) h.book hat.1
 have hR:=hpl.runV (c:=l.Config) (now:=l.Now) h.book
 have hid:=(QdY (c:=l.Config) (now:=l.Now) h.book QT.step hat.1).id
 have herr:=(QcM (c:=l.Config) (now:=l.Now) h.book QT.step hat.1).2.1
 rw[h.runEq hi]
 obtain⟨R,e,hRe⟩:∃R e,runV l.Config l.Book (nth l.Pages i) l.Now=(R,e):=⟨_,_,rfl⟩
 rw[hRe]at hext hR hid herr ⊢
 try dsimp only at hext hR hid herr ⊢
 subst herr
 refine Ok.NS (Ok.natn (Ok.lt hi (Ok.get hi (Ok.natn (Ok.lt hi (Ok.get hi ?_))))))
 exact Ok.oe (QtD hi hR hext (by omega)) (Ok.s rfl)
theorem Qvt(h:Qe M n l)(hpg:l.Pages.length≤9):∀{k:Nat},k<l.Pages.length→QE 1000 ⟨Zl l k⟩ (k:Int)=some ⟨Zl l (k+1)⟩:=fun{k} hk=>by
 have hr:=h.runs (k:=k) (by omega)
 have hl:=(Yn (l:=l) (k:=k)).2.2.2.2.2.2
 exact QmA hr.w (by rw[hl];exact hpg) (by rw[hl];exact hk)
theorem Qtr(hf:0≤l.Fence∧l.Fence≤1048576)(hk:o.Kind=2):Z3 1000 ⟨l⟩ o=some ((opV l o).2,⟨(opV l o).1⟩):=by
 refine Ok.eq ?_
 unfold Z3 opV
 rw[if_neg (by omega),if_pos hk,Qc (by dsimp only;omega)]
 refine Ok.ite (fun g=>Ok.s ?_) (fun g=>Ok.s ?_)
 ·simp_all
 ·simp_all
theorem QoC(h:LW M n l)(hpg:l.Pages.length≤9)(ho:OpIn o)(hk:o.Kind=3):ZJ 1000 ⟨l⟩ o=some ((opV l o).2,⟨(opV l o).1⟩):=by
 have hop:=ho.page
 refine Ok.eq ?_
 unfold ZJ opV
 rw[if_neg (by omega),if_neg (by omega),if_pos hk]
 refine Ok.join (fun y=>y=((),(l.Now,l.Config.Zones,l.Config.People,l.Config.Calendars,l.Config.Schedules,l.Book.Teams,l.Book.Policies,l.Owner,l.Fence,()),o,l.Pages,l.Seen,l.Calls,())∧o.Region=l.Owner∧o.Fence=l.Fence) (fun y hy=>?_) (fun J hJ=>Ok.ite (fun g=>Ok.s ?_) (fun g=>Ok.ite (fun g2=>Ok.s ?_) (fun g2=>hJ _ ⟨rfl,by simpa using g,by simpa using g2⟩)))
 ·obtain⟨rfl,g1,g2⟩:=hy
  try dsimp only
  rw[if_pos ⟨g1,g2⟩]
  refine Ok.oe (Qja (l:=l) h (by omega)) (Ok.ncnd (fun hh=>Ok.s ?_) (fun hh=>?_))
  ·simp_all
  ·rw[if_pos hh]
   have hi:=(VD hh).1
   refine Ok.natn (Ok.lt hi (Ok.get hi ?_))
   have hrun:=QmA h hpg hi
   obtain⟨pg,hpg2⟩:∃pg,nth l.Pages (posV o.Page l.Pages)=pg:=⟨_,rfl⟩
   rw[hpg2]
   have hw:Yw pg l.Now=((dueV pg).2 && decide ((dueV pg).1≤l.Now)):=rfl
   have hkk:(if pg.State=2 then(-1:Int)else pg.Next)=QlZ pg:=rfl
   rw[hkk]
   refine Ok.join (fun y=>y=((((posV o.Page l.Pages:Nat):Int),()),(l.Now,l.Config.Zones,l.Config.People,l.Config.Calendars,l.Config.Schedules,l.Book.Teams,l.Book.Policies,l.Owner,l.Fence,()),l.Pages,l.Seen,l.Calls,())∧Yw pg l.Now=true∧o.K=QlZ pg) (fun y hy=>?_) (fun J hJ=>?_)
   ·obtain⟨rfl,g3,g4⟩:=hy
    try dsimp only
    rw[if_pos ⟨g3,g4⟩]
    exact Ok.oe hrun (Ok.s rfl)
   ·refine Ok.oe QkL (Ok.cnd (fun g3=>Ok.ite (fun g4=>Ok.s ?_) (fun g4=>Ok.oe Qvd (Ok.ite (fun g5=>Ok.s ?_) (fun g5=>hJ _ ⟨rfl,?_,?_⟩)))) (fun g3=>Ok.s ?_))
    ·rw[if_neg (fun hx=>by rw[hw,g3]at hx;have:=of_decide_eq_true (show decide ((dueV pg).1≤l.Now)=true by simpa using hx.1);omega)]
    ·rw[if_neg (fun hx=>g5 hx.2.symm)]
    ·simp_all
    ·omega
    ·simp_all
 ·simp_all
 ·simp_all
theorem QtR(h:Qe M n l)(hpg:l.Pages.length≤9)(hd:DecL l)(hk:o.Kind=4)(ha:YF o.Answer=true):ZD 1000 ⟨l⟩ o=some ((opV l o).2,⟨(opV l o).1⟩):=by
 have hcl:=h.callsLe hpg
 have hap:=(QoJ ha).2
 refine Ok.eq ?_
 unfold ZD opV
 rw[if_neg (by omega),if_neg (by omega),if_neg (by omega),if_pos hk]
 refine Ok.oe (Qja (l:=l) h.w (by omega)) (Ok.ncnd (fun hh=>Ok.s ?_) (fun hh=>?_))
 ·simp_all
 ·rw[if_pos hh]
  have hi:=VD hh
  refine Ok.oe (QmA h.w hpg hi.1) ?_
  have h2:=h.run hi.1
  have hkp:=Y3 (l:=l) (i:=posV o.Answer.Page l.Pages)
  obtain⟨i,hie⟩:∃i,posV o.Answer.Page l.Pages=i:=⟨_,rfl⟩
  rw[hie]at hi h2 hkp ⊢
  have hi2:i<(runI l i).Pages.length:=by omega
  have hcl2:=h2.callsLe (by omega)
  refine Ok.natn (Ok.lt hi2 (Ok.get hi2 ?_))
  have hpl2:=h2.plens _ (Qi hi2)
  have hde:(nth (runI l i).Pages i).Declined.length≤11:=by
   have:=((hd.run h hi.1) _ (Qi (hie ▸ hi2))).dlen (h2.at hi2).1.declined
   omega
  obtain⟨a,hae⟩:∃a:D.Answer,a=D.Answer.mk o.Answer.ID o.Answer.Page o.Answer.Person o.Answer.Kind o.Answer.Arg (runI l i).Now:=⟨_,rfl⟩
  have hae2:D.Answer.mk o.Answer.ID o.Answer.Page o.Answer.Person o.Answer.Kind o.Answer.Arg l.Now=a:=by rw[hae,hkp.1]
  rw[←hae]
  refine Ok.oe (Qr5 h2.book hpl2 hde) ?_
  have hz:=Qbd (b:=(runI l i).Book) (p:=nth (runI l i).Pages i) (a:=a)
  have hAl:=hpl2.answerV (a:=a) h2.book
  show Ok _ (·=((if (answerV l.Book (nth (runI l i).Pages i) (D.Answer.mk o.Answer.ID o.Answer.Page o.Answer.Person o.Answer.Kind o.Answer.Arg l.Now)).2=0 then(putV (runI l i) i (answerV l.Book (nth (runI l i).Pages i) (D.Answer.mk o.Answer.ID o.Answer.Page o.Answer.Person o.Answer.Kind o.Answer.Arg l.Now)).1,(0:Int))else(runI l i,(answerV l.Book (nth (runI l i).Pages i) (D.Answer.mk o.Answer.ID o.Answer.Page o.Answer.Person o.Answer.Kind o.Answer.Arg l.Now)).2)).2,(D.worker.mk (if (answerV l.Book (nth (runI l i).Pages i) (D.Answer.mk o.Answer.ID o.Answer.Page o.Answer.Person o.Answer.Kind o.Answer.Arg l.Now)).2=0 then(putV (runI l i) i (answerV l.Book (nth (runI l i).Pages i) (D.Answer.mk o.Answer.ID o.Answer.Page o.Answer.Person o.Answer.Kind o.Answer.Arg l.Now)).1,(0:Int))else(runI l i,(answerV l.Book (nth (runI l i).Pages i) (D.Answer.mk o.Answer.ID o.Answer.Page o.Answer.Person o.Answer.Kind o.Answer.Arg l.Now)).2)).1)))
  rw[hae2,←hkp.2.2.1]
  obtain⟨A,e,hA⟩:∃A e,answerV (runI l i).Book (nth (runI l i).Pages i) a=(A,e):=⟨_,_,rfl⟩
  rw[hA]at hz hAl ⊢
  try dsimp only at hz hAl ⊢
  by_cases he:e=0
  ·rw[if_pos he]
   have hq:=hz he
   have hext:Ext (nth (runI l i).Pages i) A:=by
    rcases hq with rfl|rfl
    ·exact Ext.refl _
    ·exact Qfa
   refine Ok.n (fun g=>g he) (Ok.natn (Ok.lt hi2 (Ok.get hi2 (Ok.natn (Ok.lt hi2 (Ok.get hi2 ?_))))))
   exact Ok.oe (QtD hi2 hAl hext (by omega)) (Ok.s rfl)
  ·rw[if_neg he]
   exact Ok.p he (Ok.s rfl)
end
end
/-
  Ledgers: what the program's operations, lists of operations and what waits compute.
-/
section
open Go AM
attribute [local irreducible] dueV stepV runV QQ answerV
section
variable {n:Nat} {c:D.Config} {b:D.Book} {p q:D.Page} {now M:Int} {l x:D.Ledger} {i:Nat} {o:D.Op} {ops:List D.Op}
theorem QuN{x:D.Edit}{s:Int}(h:Q3 n c)(hn:n<48)(hx:QaB x):Ve 1000 c s x=some (if 0≤s∧s<2 then(Qi0 c s x,0)else(cfg0,3)):=by
 have hsl:=h.slen
 have hpl:=h.plen
 obtain⟨off,hz,_⟩:=h.zone
 have hab:∃a b,c.Schedules=[a,b]:=by
  rcases hcs:c.Schedules with _|⟨a,_|⟨b,_|⟨d,r⟩⟩⟩
  ·rw[hcs]at hsl;simp at hsl
  ·rw[hcs]at hsl;simp at hsl
  ·exact⟨a,b,rfl⟩
  ·rw[hcs]at hsl;simp at hsl
 obtain⟨a,b,hab⟩:=hab
 have hpp:∃p1 p2 p3 p4,c.People=[p1,p2,p3,p4]:=by
  rcases hcs:c.People with _|⟨a,_|⟨b,_|⟨d,_|⟨e,_|⟨f,r⟩⟩⟩⟩⟩<;>rw[hcs]at hpl<;>simp at hpl
  exact⟨a,b,d,e,rfl⟩
 obtain⟨p1,p2,p3,p4,hpp⟩:=hpp
 have ha:=h.sched a (by rw[hab];simp)
 have hb:=h.sched b (by rw[hab];simp)
 obtain⟨la,hla,hla2⟩:=ha.layers
 obtain⟨lb,hlb,hlb2⟩:=hb.layers
 have hla3:=ha.len;have hlb3:=hb.len;have hla4:=hla2.len;have hlb4:=hlb2.len
 have hin:QkB 1000 ⟨bZ,off,[]⟩ [p1,p2,p3,p4] la lb a.Edits b.Edits:=by
  refine⟨by simp,fun p hp=>?_,by omega,by rw[hla2.win];simp,by omega,by rw[hlb2.win];simp,by omega,by omega⟩
  rcases(h.person p (by rw[hpp];exact hp)).quiet with g|⟨_,_,g,_⟩<;>rw[g]<;>simp
 refine Ok.eq ?_
 unfold Ve
 rw[hz,hpp,h.cal,hab]
 dsimp only
 rw[hla,hlb]
 dsimp only
 rw[if_pos hin]
 refine Ok.oe (Qh0 h (by omega)) (Ok.NS (Ok.ite (fun hs=>?_) (fun g=>Ok.s ?_)))
 ·have hadd:addE c a b s x=Qi0 c s x:=by
   unfold addE Qi0
   rw[hab]
   rcases(show s=0∨s=1 by omega)with rfl|rfl
   ·rfl
   ·rfl
  rw[if_pos hs,hadd]
  exact Ok.oe (Qh0 (QlD h hx hs) (by omega)) (Ok.NS (Ok.s rfl))
 ·rw[if_neg g]
theorem QxZ{P:D.Page}{L:List D.Page}(hl:L.length≤64):QB 1000 L (posV P.ID L:Int) [P]=some (insP L P):=by
 have hp:=QbH (id:=P.ID) (l:=L)
 refine Ok.eq ?_
 unfold QB insP
 by_cases g:posV P.ID L=L.length
 ·rw[if_pos (by omega)]
  unfold Xj
  refine Ok.natn (Ok.lec hp (Ok.NS (Ok.P (Ok.LS (Ok.s ?_)))))
  rw[g,List.take_length,List.drop_length]
 ·rw[if_neg (by omega)]
  exact Ok.natn (Ok.E (Ok.L (Ok.s rfl)))
theorem Qvh(h:Qe M n l)(hpg:l.Pages.length≤8)(ho:OpIn o)(hk:o.Kind=1):ZS 1000 ⟨l⟩ o=some ((opV l o).2,⟨(opV l o).1⟩):=by
 have hnow:=h.now;have htop:=h.top;have hpl:=h.book.plen;have hop:=ho.page
 refine Ok.eq ?_
 unfold ZS opV
 rw[if_pos hk]
 refine Ok.oe (Qja (l:=l) h.w (by omega)) (Ok.cnd (fun g=>Ok.s ?_) (fun g=>?_))
 ·rw[if_pos g]
 replace g:hasV o.Page l.Pages=false:=g
 rw[if_neg (by rw[g];simp)]
 refine Ok.n (by dsimp only;omega) ?_
 rw[if_neg (by omega)]
 refine Ok.oe (Qw8 h.book) ?_
 unfold newV
 by_cases g1:o.Page<1
 ·rw[if_pos g1,if_neg (fun hh=>by have:=Qx.1 hh.1;omega)]
  exact Ok.PS (Ok.s rfl)
 rw[if_neg g1,if_pos ⟨Qx.2 (by omega),Qx.2 (by dsimp only;omega)⟩]
 by_cases g2:0≤o.Policy∧o.Policy<(l.Book.Policies.length:Int)
 ·rw[if_pos g2,if_pos (Qx.2 (by dsimp only;omega))]
  try dsimp only
  refine Ok.NS ?_
  obtain⟨hi1,hi2,hi3⟩:=h.open (o:=o) g (by omega) g2 (by omega)
  have hP:(newP o.Page o.Policy l.Now).ID=o.Page:=rfl
  have hins:=QxZ (P:=newP o.Page o.Policy l.Now) (L:=l.Pages) h.len
  rw[hP]at hins
  refine Ok.oe hins ?_
  exact Ok.oe (QmA hi1.w (by show(insP l.Pages _).length≤9;rw[Qh7];omega) hi2) (Ok.s rfl)
 ·rw[if_neg g2,if_neg (fun hh=>g2 (by have:=Qx.1 hh;dsimp only at this;omega))]
  exact Ok.PS (Ok.s rfl)
theorem QsK(h:Qe M n l)(hn:n<48)(hpg:l.Pages.length≤9)(ho:OpIn o)(hk:o.Kind=5):ZR 1000 ⟨l⟩ o=some ((opV l o).2,⟨(opV l o).1⟩):=by
 refine Ok.eq ?_
 unfold ZR opV
 rw[if_neg (by omega),if_neg (by omega),if_neg (by omega),if_neg (by omega)]
 refine Ok.run l.Pages.length (fun i=>((((l.Pages.length:Nat):Int),(i:Int),()),((Zl l i).Now,(Zl l i).Config.Zones,(Zl l i).Config.People,(Zl l i).Config.Calendars,(Zl l i).Config.Schedules,(Zl l i).Book.Teams,(Zl l i).Book.Policies,(Zl l i).Owner,(Zl l i).Fence,()),o,(Zl l i).Pages,(Zl l i).Seen,(Zl l i).Calls,())) rfl (by omega) (fun i hi k hk=>?_) (fun k=>?_)
 ·try dsimp only
  refine Ok.P (Ok.oe (Qvt h hpg hi) ?_)
  try dsimp only
  rw[Qa (by omega)]
  exact hk
 ·try dsimp only
  have hki:=Yn (l:=l) (k:=l.Pages.length)
  obtain⟨L,hL⟩:∃L,Zl l l.Pages.length=L:=⟨_,rfl⟩
  rw[hL]at hki ⊢
  have hed:=QuN (c:=L.Config) (s:=o.Schedule) (by rw[hki.2.1];exact h.cfg) hn (ho.edit hk)
  refine Ok.N (Ok.oe hed ?_)
  by_cases hs:0≤o.Schedule∧o.Schedule<2
  ·rw[if_pos hs,if_pos hs,←hki.2.1]
   exact Ok.j (Ok.p rfl (Ok.s rfl))
  ·rw[if_neg hs,if_neg hs]
   exact Ok.j (Ok.NS (Ok.s rfl))
theorem OpIn.validE(ho:OpIn o):W2 1000 o=some true:=by
 refine Ok.eq ?_
 unfold W2
 refine Ok.oe oin (Ok.bt (Qx.2 ho.id) (Ok.oe oin (Ok.bt (Qx.2 ho.kind) (Ok.oe oin (Ok.bt (Qx.2 ho.region) (Ok.oe oin (Ok.bt (Qx.2 ho.fence) (Ok.oe oin (Ok.bt (Qx.2 ho.at_) (Ok.oe oin (Ok.bt (Qx.2 ho.page) (Ok.oe oin (Ok.bt (Qx.2 ho.k) ?_)))))))))))))
 exact Ok.ite (fun g=>Ok.s rfl) (fun g=>Ok.oe QqO (Ok.bt (ho.answer (by omega)).1 (Ok.s rfl)))
theorem OkAt.apply(h:OkAt l o):Ud 1000 l o=some ((Zb l o).1,(Zb l o).2,true):=by
 obtain⟨M,n,h1,h2,h3⟩:=h.ok
 have hpg:=h.pg;have hsl:=h.len;have ho:=h.op;have hfe:=h1.fence
 refine Ok.eq ?_
 unfold Ud
 refine Ok.j (Ok.oe h.led.checkE (Ok.t (Ok.oe ho.validE (Ok.t ?_))))
 try dsimp only
 refine Ok.oe h.led.copyE (Ok.oe (UA (by omega)) (Ok.cnd (fun g=>Ok.s ?_) (fun g=>?_)))
 ·unfold Zb;rw[if_pos g]
 rw[Qaq g]
 have hsee:=h1.see ho h3 g hsl
 have hsp:(seeV l o).Pages.length≤8:=hpg
 have hsf:0≤(seeV l o).Fence∧(seeV l o).Fence≤1048576:=by show 0≤l.Fence∧l.Fence≤1048576;omega
 have hsd:DecL (seeV l o):=h.dec
 have hkd:=ho.kind
 have key:∀r:Int×D.worker,r=((opV (seeV l o) o).2,⟨(opV (seeV l o) o).1⟩)→Ok (some (D.Ledger.mk r.2.Ledger.Now (D.Config.mk r.2.Ledger.Config.Zones r.2.Ledger.Config.People r.2.Ledger.Config.Calendars r.2.Ledger.Config.Schedules) (D.Book.mk r.2.Ledger.Book.Teams r.2.Ledger.Book.Policies) r.2.Ledger.Pages r.2.Ledger.Owner r.2.Ledger.Fence r.2.Ledger.Seen r.2.Ledger.Calls,r.1,true)) (·=((opV (seeV l o) o).1,(opV (seeV l o) o).2,true)):=fun r e=>by
  subst e
  obtain⟨L,e,hLe⟩:∃L e,opV (seeV l o) o=(L,e):=⟨_,_,rfl⟩
  rw[hLe]
  exact Ok.s rfl
 refine Ok.N (Ok.LS (Ok.j ?_))
 refine Ok.ite (fun k1=>?_) (fun k1=>Ok.ite (fun k2=>?_) (fun k2=>Ok.ite (fun k3=>?_) (fun k3=>Ok.ite (fun k4=>?_) (fun k4=>?_))))
 ·exact Ok.oe (Qvh (l:=seeV l o) hsee hsp ho k1) (key _ rfl)
 ·exact Ok.oe (Qtr (l:=seeV l o) hsf k2) (key _ rfl)
 ·exact Ok.oe (QoC (l:=seeV l o) hsee.w (by omega) ho k3) (key _ rfl)
 ·exact Ok.oe (QtR (l:=seeV l o) hsee (by omega) hsd k4 (ho.answer k4).1) (key _ rfl)
 ·exact Ok.oe (QsK (l:=seeV l o) hsee h2 (by omega) ho (by omega)) (key _ rfl)
theorem LW.applyE(h:LW M n l)(hn:n≤48)(hpg:l.Pages.length≤9)(ho:OpIn o)(hk:o.Kind=2∨o.Kind=3)(hl:l.Seen.length<256):Xb 1000 l o=some (Zb l o):=by
 have hd:Led l:=⟨⟨M,n,h,hn⟩,hpg⟩
 refine Ok.eq ?_
 unfold Xb
 refine Ok.oe (v:=((Zb l o).1,(Zb l o).2,true)) (Ok.eq ?_) (Ok.nt rfl (Ok.s rfl))
 unfold Ud
 refine Ok.j (Ok.oe hd.checkE (Ok.t (Ok.oe ho.validE (Ok.t ?_))))
 try dsimp only
 refine Ok.oe hd.copyE (Ok.oe (UA (by omega)) (Ok.cnd (fun g=>Ok.s ?_) (fun g=>?_)))
 ·unfold Zb;rw[if_pos g]
 rw[Qaq g]
 have hsee:LW M n (seeV l o):=h.see ho g hl
 have key:∀r:Int×D.worker,r=((opV (seeV l o) o).2,⟨(opV (seeV l o) o).1⟩)→Ok (some (D.Ledger.mk r.2.Ledger.Now (D.Config.mk r.2.Ledger.Config.Zones r.2.Ledger.Config.People r.2.Ledger.Config.Calendars r.2.Ledger.Config.Schedules) (D.Book.mk r.2.Ledger.Book.Teams r.2.Ledger.Book.Policies) r.2.Ledger.Pages r.2.Ledger.Owner r.2.Ledger.Fence r.2.Ledger.Seen r.2.Ledger.Calls,r.1,true)) (·=((opV (seeV l o) o).1,(opV (seeV l o) o).2,true)):=fun r e=>by
  subst e
  exact Ok.s rfl
 refine Ok.N (Ok.LS (Ok.j (Ok.N (Ok.ite (fun k2=>?_) (fun k2=>Ok.P ?_)))))
 ·exact Ok.oe (Qtr (l:=seeV l o) hsee.fence k2) (key _ rfl)
 ·exact Ok.oe (QoC (l:=seeV l o) hsee hpg ho (by omega)) (key _ rfl)
theorem OkAt.prog(h:OkAt l o):Xb 1000 l o=some (Zb l o):=by
 refine Ok.eq ?_
 unfold Xb
 exact Ok.oe h.apply (Ok.nt rfl (Ok.s rfl))
theorem Led.waiting{t:Int}(h:Led l):VG 1000 l t=some (Qcl l.Pages t):=by
 have hpg:=h.pg
 refine Ok.eq ?_
 unfold VG
 refine Ok.oe h.checkE (Ok.nt rfl ?_)
 refine Ok.run l.Pages.length (fun i=>((t,l.Pages,((l.Pages.length:Nat):Int),(i:Int),()),Qcl (l.Pages.take i) t,())) rfl (by omega) (fun i hi k hk=>?_) (fun k=>?_)
 ·try dsimp only
  have hs:=Qlf (t:=t) hi
  have hlen:=Qj3 (L:=l.Pages.take i) (t:=t)
  rw[List.length_take]at hlen
  try dsimp only at hk
  rw[hs]at hk
  refine Ok.P (Ok.j (Ok.atn hi (Ok.oe QkL (Ok.cnd (fun g=>Ok.ite (fun g2=>Ok.LS ?_) (fun g2=>?_)) (fun g=>?_)))))
  ·try dsimp only
   rw[Qa (by omega)]
   rw[if_pos (by unfold Yw;rw[g,decide_eq_true g2];rfl)]at hk;exact hk
  ·try dsimp only
   rw[Qa (by omega)]
   rw[if_neg (by unfold Yw;rw[decide_eq_false g2];simp),List.append_nil]at hk;exact hk
  ·try dsimp only
   rw[Qa (by omega)]
   rw[if_neg (by unfold Yw;rw[g];simp),List.append_nil]at hk;exact hk
 ·try dsimp only
  refine Ok.N (Ok.s ?_)
  rw[List.take_length]
end
end
/-
  Pages and calls that are equal are the same to the reference.
-/
section
attribute [local irreducible] dueV stepV runV QQ answerV
section
variable {n:Nat} {c:D.Config} {b:D.Book} {l:D.Ledger}
theorem Qyc{L:List D.Call}(hl:L.length≤900):Qan 1000 L L=some true:=by
 refine Ok.eq ?_
 unfold Qan
 refine Ok.NS (Ok.run2 L.length (fun i=>(L,L,(i:Int),())) rfl (by omega) (fun i hi K hK=>?_) (fun K=>by dsimp only;exact Ok.N (Ok.s rfl)))
 try dsimp only
 refine Ok.P (Ok.atn hi (Ok.atn hi (Ok.NS ?_)))
 try dsimp only
 rw[Qa (by omega)];exact hK
end
end
/-
  Made ledgers: what the laws about operations and owners begin with.
-/
section
open Go AM
attribute [local irreducible] dueV stepV runV QQ answerV opV Zb opsV Qny
section
variable {n:Nat} {c:D.Config} {b:D.Book} {M:Int} {l x:D.Ledger} {o:D.Op} {ops:List D.Op} {L:List Int} {d:D.Dice}
theorem Qx3{k:Nat}(hL:L.length≤500)(hd:ZG L d)(hk:k≤9):
  Ok (WX 1000 d (k:Int)) fun r=>ZG L r.2.2∧∃ops m,m≤k∧Behind ops m r.1:=by
 unfold WX
 refine Ok.opt (QwH hL hd (by omega)) fun⟨c,d1⟩ ⟨h1,hc⟩=>?_
 try dsimp only at h1 hc ⊢
 refine Ok.opt (QwE hL h1 (by omega)) fun⟨b,d2⟩ ⟨h2,hb⟩=>?_
 try dsimp only at h2 hb ⊢
 refine Ok.oe (Qw9 hc (by omega) hb) ?_
 try dsimp only
 refine Ok.opt (QwV hL h2 hc hb hk) fun⟨l,ops,d⟩ ⟨g1,g2,g3,g4⟩=>Ok.s ⟨g1,ops,ops.length,g3,?_⟩
 dsimp only at g2 g3 g4 ⊢
 have:=Behind.fold hc hb g2 (by omega) (Nat.le_refl _)
 rw[List.take_length]at this
 rw[g4];exact this
end
end
/-
  Owners of ledgers, in plain Lean: takeovers, what an owner proposes, its calls, fences.
-/
section
attribute [local irreducible] dueV stepV runV QQ answerV opV Zb opsV Qny
section
variable {n:Nat} {M:Int} {l x:D.Ledger} {o:D.Op} {i k:Nat} {t r id now:Int} {L:List Int}
theorem Goes.calls{Q:D.Start→Prop}{st k t h:Int}{l:List D.Start}(g:Goes Q st l k t h):∀s∈l,-1≤s.K∧st≤s.At∧s.At≤t∧∀x∈s.People,0≤x∧x≤31:=by
 induction g with
 |nil=>simp
 |step g h1 _ h3 _ ih=>
  intro s hs
  have hp:=g.pos
  rcases List.mem_append.1 hs with hs|hs
  ·have:=ih s hs;exact⟨this.1,this.2.1,by omega,this.2.2.2⟩
  ·rw[List.mem_singleton.1 hs]
   exact⟨by dsimp only;omega,by dsimp only;omega,Int.le_refl _,fun x hx=>by have:=(VW.1 h3).2 x hx;omega⟩
 |hand g h1 _ h0 h31 ih=>
  intro s hs
  have hp:=g.pos
  rcases List.mem_append.1 hs with hs|hs
  ·have:=ih s hs;exact⟨this.1,this.2.1,by omega,this.2.2.2⟩
  ·rw[List.mem_singleton.1 hs]
   exact⟨Int.le_refl _,by dsimp only;omega,Int.le_refl _,fun x hx=>by rw[List.mem_singleton.1 hx];exact⟨h0,h31⟩⟩
structure QkA (l:D.Ledger) (c:D.Call):Prop where
 page:1≤c.Page∧c.Page≤999999
 k : -1≤c.K
 pers:0≤c.Person∧c.Person≤31
 at_:0≤c.At∧c.At≤8589934592
 fence:0≤c.Fence∧c.Fence≤l.Fence
theorem LW.callIn(h:LW M n l){c:D.Call}(hc:c∈l.Calls):QkA l c:=by
 obtain⟨p,hp,e⟩:=h.all c hc
 obtain⟨g1,g2⟩:=h.page p hp
 have gt:=h.told p hp
 obtain⟨t,g3,g4,_⟩:=g1.goes
 have hm:c∈ownC p.ID l.Calls:=List.mem_filter.2 ⟨hc,decide_eq_true e.symm⟩
 have hu:unf c∈QG p.ID 0 p.Starts:=by rw[←gt.same];exact List.mem_map_of_mem hm
 unfold QG at hu
 obtain⟨s,hs,hu⟩:=List.mem_flatMap.1 hu
 obtain⟨x,hx,hu⟩:=List.mem_map.1 hu
 have hf:=gt.fit c hm
 obtain⟨k1,k2,k3,k4⟩:=Goes.calls g3 s hs
 have k5:=k4 x hx
 have hid:=g1.id;have hst:=g1.start;have htop:=g1.top;have hla:=g1.last
 obtain⟨c1,c2,c3,c4,c5⟩:=c
 simp only[unf,D.Call.mk.injEq]at hu
 obtain⟨u1,u2,u3,u4,_⟩:=hu
 dsimp only at e hf
 exact⟨by dsimp only;omega,by dsimp only;omega,by dsimp only;omega,by dsimp only;omega,hf⟩
def ans0:D.Answer:=D.Answer.mk 0 0 0 0 0 0
def edit0:D.Edit:=D.Edit.mk 0 0 0 0 0
def op0:D.Op:=D.Op.mk 0 0 0 0 0 0 0 0 0 ans0 edit0
def ownO(l:D.Ledger)(r id now:Int):D.Op:=D.Op.mk id 2 r (l.Fence+1) now 0 0 0 0 ans0 edit0
def Qe8(r id now:Int):Prop:=(0≤r∧r≤4)∧(1≤id∧id≤1099511627776)∧0≤now∧now≤8589934592
theorem Qxh(h:Qe M n l)(hc:Qe8 r id now):OpIn (ownO l r id now):=by
 have hf:=h.fence;have hs:=h.seen.len
 obtain⟨h1,h2,h3⟩:=hc
 exact⟨h2,by simp only[ownO];omega,h1,by simp only[ownO];omega,h3,by simp only[ownO];omega,by simp only[ownO];omega,fun e=>absurd (show(2:Int)=4 from e) (by omega),fun e=>absurd (show(2:Int)=5 from e) (by omega)⟩
theorem Qvj(h:Qe M n l)(hc:Qe8 r id now)(hn:now≤980000):Quo (ownO l r id now):=
 ⟨Qxh h hc,fun e=>absurd (show(2:Int)=1 from e) (by omega),hn,fun e=>absurd (show(2:Int)=4 from e) (by omega)⟩
theorem Qxg(hs:l.Seen.contains id=false):Zb l (ownO l r id now)=({ seeV l (ownO l r id now)with Owner:=r,Fence:=l.Fence+1 },0):=by
 rw[QqS (o:=ownO l r id now) hs rfl,if_pos (show(ownO l r id now).Fence=l.Fence+1 from rfl)]
 rfl
def QbT(L:List Int):Int:=L.foldl (fun m x=>max m (x+1)) 1
theorem QvU:∀{L:List Int} {m:Int},m≤L.foldl (fun m x=>max m (x+1)) m∧(∀x∈L,x<L.foldl (fun m x=>max m (x+1)) m)∧∀k,m≤k+1→(∀x∈L,x≤k)→L.foldl (fun m x=>max m (x+1)) m≤k+1
 |[],m=>by simp
 |y::r,m=>by
  obtain⟨h1,h2,h3⟩:=QvU (L:=r) (m:=max m (y+1))
  simp only[List.foldl_cons]
  refine⟨by omega,fun x hx=>?_,fun k hm hx=>h3 k (by have:=hx y (by simp);omega) fun z hz=>hx z (by simp[hz])⟩
  rcases List.mem_cons.1 hx with rfl|hx
  ·omega
  ·exact h2 x hx
theorem QsU:1≤QbT L∧L.contains (QbT L)=false∧∀k,0≤k→(∀x∈L,x≤k)→QbT L≤k+1:=by
 obtain⟨h1,h2,h3⟩:=QvU (L:=L) (m:=1)
 refine⟨h1,?_,fun k hk hx=>h3 k (by omega) hx⟩
 cases hc:L.contains (QbT L)with
 |false=>rfl
 |true=>
  have:=h2 _ (List.contains_iff_mem.1 hc)
  unfold QbT at this;omega
theorem Qpf(h:i<L.length):QbT (L.take (i+1))=max (QbT (L.take i)) (nth L i+1):=by
 unfold QbT
 rw[←Qs h,List.foldl_append];rfl
theorem QlV{α:Type}[Inhabited α]{l:List α}:(List.range l.length).map (nth l)=l:=by
 refine List.ext_getElem (by simp) fun i h1 h2=>?_
 simp only[List.getElem_map,List.getElem_range,nth,List.getD_eq_getElem?_getD,List.getElem?_eq_getElem h2,Option.getD_some]
theorem Qud:Qcl l.Pages t=(QbL l t).map fun i=>D.Start.mk (nth l.Pages i).ID (dueV (nth l.Pages i)).1 []:=by
 unfold Qcl QbL
 conv=>lhs;rw[←QlV (l:=l.Pages)]
 rw[List.filter_map,List.map_map]
 rfl
theorem Qj2:(QbL l t).length=(Qcl l.Pages t).length:=by rw[Qud,List.length_map]
theorem QmP:(QbL l t).length≤l.Pages.length:=by rw[Qj2];exact Qj3
theorem Qtm{α β:Type}[Inhabited α][Inhabited β]{l:List α}{f:α→β}(h:i<l.length):nth (l.map f) i=f (nth l i):=by
 simp[nth,List.getD_eq_getElem?_getD,List.getElem?_eq_getElem h]
theorem Qtn{n:Nat}(h:i<n):nth (List.range n) i=i:=by
 simp[nth,List.getD_eq_getElem?_getD,h]
def Qbo(l:D.Ledger)(now:Int)(k:Nat):D.Page:=nth l.Pages (nth (QbL l now) k)
theorem QnY(h:k<(QbL l now).length):nth (QbL l now) k<l.Pages.length∧Yw (Qbo l now k) now=true:=QoL.1 (Qi h)
theorem QoM(h:k<(QbL l now).length):nth (Qcl l.Pages now) k=D.Start.mk (Qbo l now k).ID (dueV (Qbo l now k)).1 []:=by
 rw[Qud,Qtm h];rfl
def Qd4(l:D.Ledger)(id now:Int)(k:Nat):D.Op:=D.Op.mk (id+k) 3 l.Owner l.Fence now (Qbo l now k).ID (QlZ (Qbo l now k)) 0 0 ans0 edit0
def QaZ(l:D.Ledger)(id now:Int):List D.Op:=(List.range (QbL l now).length).map (Qd4 l id now)
theorem Ul:(QaZ l id now).length=(QbL l now).length:=by simp[QaZ]
theorem QpQ(h:k<(QbL l now).length):nth (QaZ l id now) k=Qd4 l id now k:=by
 unfold QaZ;rw[Qtm (by simpa using h),Qtn h]
theorem QhE(h:k<(QbL l now).length):(QaZ l id now).take (k+1)=(QaZ l id now).take k++[Qd4 l id now k]:=by
 rw[←QpQ h,Qs (by rw[Ul];exact h)]
def Qtd(l:D.Ledger):List D.Call:=l.Calls.filter fun c=>Qpr l.Pages c.Page
def QeL(l:D.Ledger)(r f:Int):List D.Call:=if 0≤r∧r=l.Owner∧f=l.Fence then Qtd l else[]
theorem Qtf{c:D.Call}(h:c∈Qtd l):c∈l.Calls:=(List.mem_filter.1 h).1
theorem Qte:(Qtd l).length≤l.Calls.length:=List.length_filter_le _ _
def QaL(L:List D.Call):List Int:=L.foldl (fun a c=>QhY a c.Fence) []
theorem QsQ:∀{L:List D.Call} {a:List Int},Asc a→Asc (L.foldl (fun a c=>QhY a c.Fence) a)∧∀z,z∈L.foldl (fun a c=>QhY a c.Fence) a↔z∈a∨∃c∈L,c.Fence=z
 |[],a,h=>⟨h,fun z=>by simp⟩
 |y::r,a,h=>by
  obtain⟨g1,g2⟩:=QcU (x:=y.Fence) h
  obtain⟨k1,k2⟩:=QsQ (L:=r) g1
  refine⟨k1,fun z=>?_⟩
  simp only[List.foldl_cons]
  rw[k2,g2]
  simp only[List.mem_cons,exists_eq_or_imp]
  constructor
  ·rintro((h|h)|h)
   ·exact .inl h
   ·exact .inr (.inl h.symm)
   ·exact .inr (.inr h)
  ·rintro(h|h|h)
   ·exact .inl (.inl h)
   ·exact .inl (.inr h.symm)
   ·exact .inr h
theorem QkO{L:List D.Call}:Asc (QaL L)∧∀z,z∈QaL L↔∃c∈L,c.Fence=z:=by
 obtain⟨h1,h2⟩:=QsQ (L:=L) (a:=[]) List.Pairwise.nil
 exact⟨h1,fun z=>by rw[QaL,h2];simp⟩
theorem Qnz{L:List D.Call}(h:i<L.length):QaL (L.take (i+1))=QhY (QaL (L.take i)) (nth L i).Fence:=by
 unfold QaL
 rw[←Qs h,List.foldl_append];rfl
end
end
/-
  Owners of ledgers: what the program and the reference compute.
-/
section
open Go AM
attribute [local irreducible] dueV stepV runV QQ answerV opV Zb opsV Qny
section
variable {n:Nat} {M:Int} {l x:D.Ledger} {o:D.Op} {i k:Nat} {t r id now f:Int}
theorem owin{fu:Nat}{x lo hi:Int}:Qep fu x lo hi=some (inV x lo hi):=by
 unfold Qep inV
 by_cases h1:lo≤x<;>by_cases h2:x≤hi<;>simp[cd,AM.cnd,h1,h2]
theorem dlin{fu:Nat}{x lo hi:Int}:QaI fu x lo hi=some (inV x lo hi):=by
 unfold QaI inV
 by_cases h1:lo≤x<;>by_cases h2:x≤hi<;>simp[cd,AM.cnd,h1,h2]
def Qdl(r id now:Int):Bool:=inV r 0 4 && (inV id 1 1099511627776 && inV now 0 8589934592)
theorem QiM:Qdl r id now=true↔Qe8 r id now:=by
 unfold Qdl Qe8
 simp only[bae,Qx]
structure Own (l:D.Ledger):Prop where
 chkE:ZP 1000 l=some true
 chkR:YM 1000 l=some true
 fence:0≤l.Fence∧l.Fence≤1048576
 waitE:∀t,VG 1000 l t=some (Qcl l.Pages t)
 waitR:∀t,Wl 1000 l t=some (Qcl l.Pages t)
 findE:∀p∈l.Pages,Qau 1000 l p.ID=some (UD l p.ID)
 findR:∀p∈l.Pages,QcJ 1000 l p.ID=some (UD l p.ID)
 asc:AscP l.Pages
 pg:l.Pages.length≤9
 cl:l.Calls.length≤900
 call:∀c∈l.Calls,QkA l c
 all:∀c∈l.Calls,∃p∈l.Pages,p.ID=c.Page
theorem Led.own(h:Led l):Own l:=by
 obtain⟨M,n,h1,h2⟩:=h.ok
 have hf:=h1.fence;have hs:=h1.seen.len;have hpg:=h.pg
 exact⟨h.checkE,h.check,by omega,fun t=>h.waiting,fun t=>QpV h1 hpg,fun p hp=>Qul h1 (by have:=(h1.page p hp).1.id;omega),fun p hp=>QsS h1.plens h1.asc (by omega),h1.asc,hpg,by have:=h1.callsLe hpg;omega,fun c hc=>h1.callIn hc,h1.all⟩
theorem QqC(h:Own l):W7 1000 l r id now=some (if Qdl r id now=true then 0 else 1):=by
 refine Ok.eq ?_
 unfold W7 Qdl
 refine Ok.oe h.chkE (Ok.nt rfl (Ok.j (Ok.oe owin (Ok.cnd (fun g1=>Ok.oe owin (Ok.cnd (fun g2=>Ok.oe owin (Ok.cnd (fun g3=>Ok.s ?_) (fun g3=>Ok.s ?_))) (fun g2=>Ok.s ?_))) (fun g1=>Ok.s ?_)))))
 all_goals simp[*]
def QiO(l:D.Ledger)(r id now:Int):D.Op×Int:=if Qdl r id now=true then(if l.Fence=1048576 then(op0,5)else(ownO l r id now,0))else(op0,1)
theorem Qsx(h:Own l):Wc 1000 l r id now=some (QiO l r id now):=by
 have hf:=h.fence
 refine Ok.eq ?_
 unfold Wc QiO
 refine Ok.oe (QqC h) ?_
 by_cases g:Qdl r id now=true
 ·rw[if_pos g,if_pos g]
  refine Ok.NS (Ok.ite (fun g2=>Ok.s ?_) (fun g2=>Ok.s ?_))
  ·rw[if_pos g2];rfl
  ·rw[if_neg g2,Qc (x:=l.Fence+1) (by omega)];rfl
 ·rw[if_neg g,if_neg g];exact Ok.PS (Ok.s rfl)
theorem QiN(h:Own l):VP 1000 l r id now=some (QiO l r id now):=by
 have hf:=h.fence
 refine Ok.eq ?_
 unfold VP QiO Qdl
 refine Ok.j (Ok.oe h.chkR (Ok.nt rfl (Ok.oe rin (Ok.cnd (fun g1=>Ok.oe rin (Ok.cnd (fun g2=>Ok.oe rin (Ok.cnd (fun g3=>?_) (fun g3=>Ok.s ?_))) (fun g2=>Ok.s ?_))) (fun g1=>Ok.s ?_)))))
 ·rw[if_pos (by simp[g1,g2,g3])]
  refine Ok.ite (fun g4=>Ok.s ?_) (fun g4=>Ok.s ?_)
  ·rw[if_pos g4];rfl
  ·rw[if_neg g4,Qc (x:=l.Fence+1) (by omega)];rfl
 all_goals (rw[if_neg (by simp[*])];rfl)
theorem Qsy(h:Qe8 r id now)(hf:l.Fence≤1000):QiO l r id now=(ownO l r id now,0):=by
 unfold QiO
 rw[if_pos (QiM.2 h),if_neg (by omega)]
def Qrr(l:D.Ledger)(r id now:Int):List D.Op:=if Qdl r id now=true∧r=l.Owner∧id+(l.Pages.length:Int)≤1099511627776 then QaZ l id now else[]
theorem QnC(h:Own l)(hk:k<(QbL l now).length):UD l (Qbo l now k).ID=(Qbo l now k,true):=QlI h.asc (QnY hk).1 rfl
theorem QkY(hk:k<(QbL l now).length):Qbo l now k∈l.Pages:=Qi (QnY hk).1
theorem QrI(h:Own l):Vk 1000 l r id now=some (Qrr l r id now):=by
 have hpg:=h.pg
 have hwl:=Qj2 (l:=l) (t:=now);have hwe:=QmP (l:=l) (t:=now)
 refine Ok.eq ?_
 unfold Vk Qrr
 refine Ok.j (Ok.oe (QqC h) ?_)
 by_cases g:Qdl r id now=true
 ·obtain⟨c1,c2,c3⟩:=QiM.1 g
  rw[if_pos g]
  refine Ok.NS (Ok.ite (fun g2=>Ok.s (by rw[if_neg (fun h=>g2 h.2.1)])) (fun g2=>?_))
  have g2:r=l.Owner:=Decidable.not_not.1 g2
  rw[Qc (x:=id+(l.Pages.length:Int)) (by omega)]
  refine Ok.ite (fun g3=>Ok.s (by rw[if_neg (fun h=>by omega)])) (fun g3=>?_)
  rw[if_pos ⟨g,g2,by omega⟩]
  try dsimp only
  refine Ok.oe (h.waitE now) ?_
  refine Ok.run (QbL l now).length (fun k=>((r,id,now,Qcl l.Pages now,(((Qcl l.Pages now).length:Nat):Int),(k:Int),()),l,(QaZ l id now).take k,())) rfl (by omega) (fun k hk K hK=>?_) (fun K=>?_)
  ·try dsimp only
   have hl:((QaZ l id now).take k).length≤9:=by rw[List.length_take,Ul];omega
   try dsimp only at hK
   rw[QhE hk]at hK
   refine Ok.P (Ok.A ?_)
   rw[QoM hk]
   refine Ok.oe (h.findE _ (QkY hk)) ?_
   rw[QnC h hk]
   refine Ok.j ?_
   have hw:IntKind.wrap .i64 (id+(k:Int))=id+k:=Qc (by omega)
   refine Ok.ite (fun g4=>Ok.LS ?_) (fun g4=>Ok.LS ?_)
   ·try dsimp only at g4 ⊢
    rw[hw,Qa (by omega)]
    have e:Qd4 l id now k=D.Op.mk (id+k) 3 r l.Fence now (Qbo l now k).ID (-1) 0 0 (D.Answer.mk 0 0 0 0 0 0) (D.Edit.mk 0 0 0 0 0):=by unfold Qd4 QlZ;rw[if_pos g4,g2];rfl
    rw[←e];exact hK
   ·try dsimp only at g4 ⊢
    rw[hw,Qa (by omega)]
    have e:Qd4 l id now k=D.Op.mk (id+k) 3 r l.Fence now (Qbo l now k).ID (Qbo l now k).Next 0 0 (D.Answer.mk 0 0 0 0 0 0) (D.Edit.mk 0 0 0 0 0):=by unfold Qd4 QlZ;rw[if_neg g4,g2];rfl
    rw[←e];exact hK
  ·try dsimp only
   exact Ok.N (Ok.s (List.take_of_length_le (by rw[Ul];omega)))
 ·rw[if_neg g];exact Ok.PS (Ok.s (by rw[if_neg (fun h=>g h.1)]))
theorem QrJ(h:Own l):Qay 1000 l r id now=some (Qrr l r id now):=by
 have hpg:=h.pg
 have hwl:=Qj2 (l:=l) (t:=now);have hwe:=QmP (l:=l) (t:=now)
 refine Ok.eq ?_
 unfold Qay Qrr
 refine Ok.j (Ok.oe (QiN h) ?_)
 unfold QiO
 by_cases g:Qdl r id now=true
 ·obtain⟨c1,c2,c3⟩:=QiM.1 g
  have he:∃a e,(if Qdl r id now=true then(if l.Fence=1048576 then(op0,(5:Int))else(ownO l r id now,0))else(op0,1))=(a,e)∧e≠8∧e≠1:=by
   rw[if_pos g];split
   ·exact⟨_,_,rfl,by omega,by omega⟩
   ·exact⟨_,_,rfl,by omega,by omega⟩
  obtain⟨a,e,he,e8,e1⟩:=he
  rw[he]
  refine Ok.n e8 (Ok.n e1 (Ok.ite (fun g2=>Ok.s (by rw[if_neg (fun h=>g2 h.2.1)])) (fun g2=>?_)))
  have g2:r=l.Owner:=Decidable.not_not.1 g2
  rw[Qc (x:=id+(l.Pages.length:Int)) (by omega)]
  refine Ok.ite (fun g3=>Ok.s (by rw[if_neg (fun h=>by omega)])) (fun g3=>?_)
  rw[if_pos ⟨g,g2,by omega⟩]
  try dsimp only
  refine Ok.oe (h.waitR now) ?_
  refine Ok.run (QbL l now).length (fun k=>((r,id,now,Qcl l.Pages now,(k:Int),()),l,(QaZ l id now).take k,())) rfl (by omega) (fun k hk K hK=>?_) (fun K=>?_)
  ·try dsimp only
   have hl:((QaZ l id now).take k).length≤9:=by rw[List.length_take,Ul];omega
   try dsimp only at hK
   rw[QhE hk]at hK
   refine Ok.P (Ok.A ?_)
   rw[QoM hk]
   refine Ok.oe (h.findR _ (QkY hk)) ?_
   rw[QnC h hk]
   refine Ok.j ?_
   have hw:IntKind.wrap .i64 (id+(k:Int))=id+k:=Qc (by omega)
   refine Ok.ite (fun g4=>Ok.LS ?_) (fun g4=>Ok.LS ?_)
   ·try dsimp only at g4 ⊢
    rw[hw,Qa (by omega)]
    have e:Qd4 l id now k=D.Op.mk (id+k) 3 r l.Fence now (Qbo l now k).ID (-1) 0 0 (D.Answer.mk 0 0 0 0 0 0) (D.Edit.mk 0 0 0 0 0):=by unfold Qd4 QlZ;rw[if_pos g4,g2];rfl
    rw[←e];exact hK
   ·try dsimp only at g4 ⊢
    rw[hw,Qa (by omega)]
    have e:Qd4 l id now k=D.Op.mk (id+k) 3 r l.Fence now (Qbo l now k).ID (Qbo l now k).Next 0 0 (D.Answer.mk 0 0 0 0 0 0) (D.Edit.mk 0 0 0 0 0):=by unfold Qd4 QlZ;rw[if_neg g4,g2];rfl
    rw[←e];exact hK
  ·try dsimp only
   exact Ok.N (Ok.s (List.take_of_length_le (by rw[Ul];omega)))
 ·rw[if_neg g];exact Ok.NS (Ok.p rfl (Ok.s (by rw[if_neg (fun h=>g h.1)])))
theorem Qi9{α:Type}[Inhabited α]{L:List α}{q:α→Bool}(h:i<L.length):(L.take (i+1)).filter q=(L.take i).filter q++(if q (nth L i)=true then[nth L i]else[]):=by
 rw[←Qs h,List.filter_append]
 congr 1
 cases g:q (nth L i)<;>simp[g]
theorem QkX{c:D.Call}:Qpr l.Pages c.Page=((UD l c.Page).2 && decide ((UD l c.Page).1.State=0)):=by
 unfold Qpr UD
 by_cases g:hasV c.Page l.Pages=true
 ·rw[if_pos g,g]
 ·rw[if_neg g];simp at g;rw[g];rfl
theorem Qqp(h:Own l):Vj 1000 l r f=some (QeL l r f):=by
 have hcl:=h.cl
 refine Ok.eq ?_
 unfold Vj QeL
 refine Ok.j (Ok.ite (fun g=>Ok.s (by rw[if_neg (fun h=>by omega)])) (fun g=>Ok.oe h.chkE (Ok.t ?_)))
 have hown:WZ 1000 (D.fence.mk r f) l=some (decide (r=l.Owner∧f=l.Fence)):=by
  unfold WZ
  by_cases g1:r=l.Owner<;>by_cases g2:f=l.Fence<;>simp[cd,AM.cnd,g1,g2]
 refine Ok.oe hown (Ok.ite (fun g2=>?_) (fun g2=>Ok.s (by rw[if_neg (fun h=>g2 h.2)])))
 rw[if_pos ⟨by omega,g2⟩]
 try dsimp only
 unfold Qtd
 refine Ok.run l.Calls.length (fun k=>((l.Calls,((l.Calls.length:Nat):Int),(k:Int),()),l,(l.Calls.take k).filter (fun c=>Qpr l.Pages c.Page),())) rfl (by omega) (fun k hk K hK=>?_) (fun K=>?_)
 ·try dsimp only
  have hfl:((l.Calls.take k).filter (fun c=>Qpr l.Pages c.Page)).length≤k:=Nat.le_trans (List.length_filter_le _ _) (by simp;omega)
  try dsimp only at hK
  rw[Qi9 hk]at hK
  obtain⟨p,hp,e⟩:=h.all _ (Qi hk)
  refine Ok.P (Ok.j (Ok.atn hk ?_))
  have ef:=h.findE p hp
  rw[e]at ef
  refine Ok.oe ef ?_
  rw[QkX]at hK
  obtain⟨q,b,hq⟩:∃q b,UD l (nth l.Calls k).Page=(q,b):=⟨_,_,rfl⟩
  rw[hq]at hK ⊢
  try dsimp only at hK ⊢
  refine Ok.cnd (fun g3=>Ok.ite (fun g4=>Ok.LS ?_) (fun g4=>?_)) (fun g3=>?_)
  ·rw[Qa (by omega)]
   rw[if_pos (by simp[g3,g4])]at hK;exact hK
  ·rw[Qa (by omega)]
   rw[if_neg (by simp[g4]),List.append_nil]at hK;exact hK
  ·rw[Qa (by omega)]
   rw[if_neg (by simp[g3]),List.append_nil]at hK;exact hK
 ·try dsimp only
  exact Ok.N (Ok.s (by rw[List.take_length]))
def Qcq(c:D.Call):D.Contact:=D.Contact.mk c.Page c.K c.Person c.At 0 (-1)
theorem Qw7{c:D.Call}(h:QkA l c):Qbe 1000 c.Page c.K c.Person c.At=some (Qcq c,0):=by
 have h1:=h.page;have h2:=h.k
 refine Ok.eq ?_
 unfold Qbe
 refine Ok.oe (v:=true) (Ok.eq ?_) (Ok.nt rfl (Ok.s rfl))
 unfold UQ
 refine Ok.p (by dsimp only;omega) (Ok.p h2 (Ok.oe (v:=true) (Ok.eq ?_) (Ok.t (Ok.oe dlin (Ok.bt (Qx.2 h.at_) (Ok.s rfl))))))
 unfold QaJ
 exact Ok.oe dlin (Ok.s (Qx.2 h.pers))
theorem Qxa{c:D.Call}(h:QkA l c):Qmp 1000 c.Page c.K c.Person c.At=some (Qcq c,0):=by
 have h1:=h.page;have h2:=h.k
 refine Ok.eq ?_
 unfold Qmp
 refine Ok.oe (v:=true) (Ok.eq ?_) (Ok.nt rfl (Ok.s rfl))
 unfold QjM
 exact Ok.P (Ok.p h2 (Ok.oe rin (Ok.bt (Qx.2 h.pers) (Ok.oe rin (Ok.bt (Qx.2 h.at_) (Ok.s rfl))))))
theorem QnS{c:D.Call}(h:c∈QeL l r f):c∈l.Calls:=by
 unfold QeL at h
 split at h
 ·exact Qtf h
 ·simp at h
theorem Qgb:(QeL l r f).length≤l.Calls.length:=by
 unfold QeL
 split
 ·exact Qte
 ·simp
theorem Qnk(h:Own l):XT 1000 l r f=some ((QeL l r f).map Qcq):=by
 have hcl:=h.cl;have hml:=Qgb (l:=l) (r:=r) (f:=f)
 refine Ok.eq ?_
 unfold XT
 refine Ok.oe (Qqp h) ?_
 have hin:∀c∈QeL l r f,QkA l c:=fun c hc=>h.call c (QnS hc)
 obtain⟨m,hm⟩:∃m,QeL l r f=m:=⟨_,rfl⟩
 rw[hm]at hin hml ⊢
 refine Ok.run m.length (fun k=>((m,((m.length:Nat):Int),(k:Int),()),(m.take k).map Qcq,())) rfl (by omega) (fun k hk K hK=>?_) (fun K=>?_)
 ·try dsimp only
  try dsimp only at hK
  rw[←Qs hk,List.map_append]at hK
  refine Ok.P (Ok.atn hk (Ok.oe (Qw7 (hin _ (Qi hk))) (Ok.LS ?_)))
  rw[Qa (by omega)];exact hK
 ·try dsimp only
  exact Ok.N (Ok.s (by rw[List.take_length]))
end
end
/-
  Ledgers that a region has taken over, and what an owner proposes on them.
-/
section
attribute [local irreducible] dueV stepV runV QQ answerV opV Zb opsV Qny
section
variable {n:Nat} {M:Int} {l x:D.Ledger} {o:D.Op} {i k:Nat} {t r id now f:Int} {L:List Int} {d:D.Dice}
theorem sane35:Qeh 1000=some true:=by kernel_rfl
theorem Loose.own{k:Nat}(h:Loose k l)(hk:k≤46):Own l:=(h.led hk).own
structure Taken (k:Nat) (l:D.Ledger) (r id:Int) (x:D.Ledger):Prop where
 loose:Loose (k+1) x
 owner:x.Owner=r
 fence:x.Fence=l.Fence+1
 now:x.Now=l.Now
 pages:x.Pages=l.Pages
 calls:x.Calls=l.Calls
 seen:x.Seen=l.Seen++[id]
theorem Qts(h:Loose k l)(hr:0≤r∧r≤4)(hid:1≤id∧id≤1000000):Qe8 r id l.Now∧Quo (ownO l r id l.Now):=by
 have hn:=h.inv.now
 have hc:Qe8 r id l.Now:=⟨hr,by omega,by omega⟩
 exact⟨hc,Qvj h.inv hc (by omega)⟩
theorem Qtt(h:Loose k l)(hk:k≤40)(hr:0≤r∧r≤4)(hid:1≤id∧id≤1000000)(hs:l.Seen.contains id=false):Yt 1000 l (ownO l r id l.Now)=some ((Zb l (ownO l r id l.Now)).1,0)∧Taken k l r id (Zb l (ownO l r id l.Now)).1:=by
 obtain⟨hc,hf⟩:=Qts h hr hid
 have e:=Qxg (r:=r) (now:=l.Now) hs
 have hok:=h.okAt (by omega) hf
 refine⟨by rw[hok.ref,e],⟨h.next (by omega) hf,?_,?_,?_,?_,?_,?_⟩⟩
 all_goals rw[e]
 ·show max l.Now l.Now=l.Now;omega
 ·rfl
 ·rfl
 ·rfl
def Qt8(l:D.Ledger)(r:Int):D.Ledger:=(Zb l (ownO l r (QbT l.Seen) l.Now)).1
theorem QvC{m:Int}(h:Loose k l)(hk:k≤40)(hr:0≤r∧r≤4)(hm:0≤m∧m≤100000)(hs:∀x∈l.Seen,x≤m):
  Wu 1000 d l r=some (Qt8 l r)∧Taken k l r (QbT l.Seen) (Qt8 l r)∧QbT l.Seen≤m+1:=by
 obtain⟨f1,f2,f3⟩:=QsU (L:=l.Seen)
 have f4:=f3 m hm.1 hs
 obtain⟨hc,hf⟩:=Qts (id:=QbT l.Seen) h hr (by omega)
 obtain⟨g1,g2⟩:=Qtt h hk hr (by omega) f2
 have hsl:=h.seen;have hfe:=h.inv.fence
 refine⟨Ok.eq ?_,g2,f4⟩
 unfold Wu
 refine Ok.run l.Seen.length (fun i=>((r,QbT (l.Seen.take i),(i:Int),()),l,({ Now:=0,Config:={ Zones:=[],People:=[],Calendars:=[],Schedules:=[] },Book:={ Teams:=[],Policies:=[] },Pages:=[],Owner:=0,Fence:=0,Seen:=[],Calls:=[] }:D.Ledger),d,())) rfl (by omega) (fun i hi K hK=>?_) (fun K=>?_)
 ·try dsimp only
  have hx:=(h.inv.seen.fit _ (Qi hi)).1
  have hx2:=hs _ (Qi hi)
  try dsimp only at hK
  rw[Qpf hi]at hK
  refine Ok.P (Ok.atn hi ?_)
  rw[Qc (x:=nth l.Seen i+1) (by omega),Qa (by omega)]
  exact hK
 ·try dsimp only
  rw[List.take_length]
  refine Ok.N (Ok.oe (QiN (h.own (by omega))) ?_)
  rw[Qsy hc (by omega)]
  exact Ok.n (fun h=>h rfl) (Ok.oe g1 (Ok.sameC (Ok.s rfl)))
end
end
/-
  The fences of a ledger's calls: what the program and the reference compute.
-/
section
open Go AM
attribute [local irreducible] dueV stepV runV QQ answerV opV Zb opsV Qny
section
variable {n:Nat} {M:Int} {l x:D.Ledger} {o:D.Op} {i k:Nat} {t r id now f:Int} {L:List Int}
theorem Qm4:∀{L:List Int} {a b:Int},Asc L→(∀x∈L,a≤x∧x≤b)→(L.length:Int)≤max 0 (b - a+1)
 |[],a,b,_,_=>by simp;omega
 |y::r,a,b,h,hb=>by
  obtain⟨h1,h2⟩:=List.pairwise_cons.1 h
  have hy:=hb y (by simp)
  have:=Qm4 (L:=r) (a:=y+1) (b:=b) h2 fun x hx=>⟨by have:=h1 x hx;omega,(hb x (by simp[hx])).2⟩
  simp only[List.length_cons];omega
theorem Qi6(h:∀c∈l.Calls,0≤c.Fence∧c.Fence≤300):(QaL (l.Calls.take i)).length≤400:=by
 obtain⟨h1,h2⟩:=QkO (L:=l.Calls.take i)
 have:=Qm4 (a:=0) (b:=300) h1 fun x hx=>by
  obtain⟨c,hc,rfl⟩:=(h2 x).1 hx
  exact h c (List.mem_of_mem_take hc)
 omega
theorem Qq9(h:Own l)(hf:∀c∈l.Calls,0≤c.Fence∧c.Fence≤300):Qax 1000 l=some (QaL l.Calls):=by
 have hcl:=h.cl
 refine Ok.eq ?_
 unfold Qax
 refine Ok.j (Ok.run l.Calls.length (fun k=>((QaL (l.Calls.take k),(k:Int),()),l,())) rfl (by omega) (fun k hk K hK=>?_) (fun K=>?_))
 ·try dsimp only
  try dsimp only at hK
  rw[Qnz hk]at hK
  refine Ok.j (Ok.P (Ok.oe h.chkR (Ok.t (Ok.atn hk (Ok.oe (Qug (Qi6 hf)) ?_)))))
  rw[Qa (by omega)];exact hK
 ·try dsimp only
  exact Ok.j (Ok.N (Ok.s (by rw[List.take_length])))
theorem Qpb{l0:List Int}{m:Nat}(em:l0.length=m)(hs:m≤900)(hso:X1 l0 m):
  Ok (Xi 1000 l0) fun r=>r.1=0∧r.2.1≤m∧r.2.2.length=m∧Asc (r.2.2.take r.2.1)∧∀z,z∈r.2.2.take r.2.1↔InTo l0 m z:=by
 have done:∀(a:List Int) (i:Nat),a.length=l0.length→i≤m→QoT a i→(∀z,InTo a i z↔InTo l0 m z)→Asc (a.take i)∧∀z,z∈a.take i↔InTo l0 m z:=fun a i h1 h2 h3 h4=>
  ⟨QgG (by omega) h3,fun z=>by rw[←Qh6 (by omega)];exact h4 z⟩
 unfold Xi
 rw[em]
 refine Ok.ite (fun h=>Ok.s ⟨rfl,Nat.le_refl _,em,done l0 m rfl (Nat.le_refl _) (fun k h1 h2=>by omega) fun z=>Iff.rfl⟩) fun h=>?_
 refine Ok.loop (fun q x=>∃i:Nat,x=((((i:Nat):Int),()),l0,())∧1≤i∧i≤m∧QoT l0 i∧q=m - i) (m:=m - 1) (by omega) ⟨1,rfl,by omega,by omega,fun k h1 h2=>by omega,rfl⟩ ?_
 rintro q x ⟨i,rfl,h1,h2,h3,rfl⟩ K hK
 try dsimp only
 rw[em]
 refine Ok.ite (fun hi=>?_) (fun hi=>?_)
 ·have hw:IntKind.wrap .i64 ((i:Int) - 1)=((i - 1:Nat):Int):=by rw[Qc (by omega)];omega
  rw[hw]
  refine Ok.natn (Ok.E (Ok.G (Ok.natn (Ok.E (Ok.G (Ok.ite (fun he=>?_) (fun hne=>?_)))))))
  ·refine Ok.natn (Ok.L ?_)
   refine Ok.loop (fun q x=>∃(w k:Nat) (a:List Int),x=((((w:Nat):Int),i,m,((k:Nat):Int),()),a,())∧Qin l0 m i w k a∧q=m - i - k) (m:=m - i - 1) (by omega) ⟨i,1,l0,rfl,Qni h1 (by omega) h3 he,rfl⟩ ?_
   rintro q x ⟨w,k,a,rfl,hinv,rfl⟩ K2 hK2
   have hik:=hinv.ik
   have hal:=hinv.len
   try dsimp only
   refine Ok.ite (fun hk=>?_) (fun hk=>?_)
   ·have hw2:IntKind.wrap .i64 ((k:Int) - 1)=((k - 1:Nat):Int):=by rw[Qc (by omega)];omega
    rw[hw2]
    refine Ok.j (Ok.natn (Ok.E (Ok.G (Ok.natn (Ok.E (Ok.G ?_))))))
    refine Ok.ite (fun hd=>?_) (fun hd=>?_)
    ·refine Ok.natn (Ok.E (Ok.G (Ok.natn (Ok.E (Ok.G ?_)))))
     try dsimp only
     rw[Qa (by omega),Qa (by omega)]
     exact hK2 (m - i - (k+1)) _ (by omega) ⟨w+1,k+1,_,rfl,QsA hinv (by omega) (by omega) hso (by rw[show i+k - 1=i+(k - 1)by omega];exact hd),rfl⟩
    ·try dsimp only
     rw[Qa (by omega)]
     exact hK2 (m - i - (k+1)) _ (by omega) ⟨w,k+1,a,rfl,QsB hinv (by omega) (by rw[show i+k - 1=i+(k - 1)by omega];exact Decidable.not_not.1 hd),rfl⟩
   ·have ek:i+k=m:=by omega
    rw[show a.length=m by omega]
    refine Ok.natn (Ok.L (Ok.L (Ok.L (Ok.natn (Ok.LS (Ok.s ?_))))))
    have hd:=done a w hal (by omega) hinv.asc (by rw[←ek];exact hinv.mem)
    have ht:(List.take w a++List.replicate (m - w) 0++List.drop m a).take w=a.take w:=by
     rw[List.append_assoc,List.take_append_of_le_length (by simp;omega),List.take_take,Nat.min_self]
    refine⟨rfl,by dsimp only;omega,by simp;omega,?_,?_⟩
    all_goals dsimp only
    ·rw[ht];exact hd.1
    ·rw[ht];exact hd.2
  ·try dsimp only
   rw[Qa (by omega)]
   have hlt:nth l0 (i - 1)<nth l0 i:=by
    have:=hso (i - 1) i (by omega) (by omega);omega
   refine hK (m - (i+1)) _ (by omega) ⟨i+1,rfl,by omega,by omega,fun k a1 a2=>?_,rfl⟩
   by_cases e:k=i
   ·subst e;exact hlt
   ·exact h3 k a1 (by omega)
 ·obtain rfl:i=m:=by omega
  exact Ok.s ⟨rfl,Nat.le_refl _,em,done l0 i rfl (Nat.le_refl _) h3 fun z=>Iff.rfl⟩
theorem Qq8(h:Own l):Vi 1000 l=some (QaL l.Calls):=by
 have hcl:=h.cl
 refine Ok.eq ?_
 unfold Vi
 refine Ok.oe h.chkE (Ok.nt rfl (Ok.run l.Calls.length (fun k=>((l.Calls,((l.Calls.length:Nat):Int),(k:Int),()),(l.Calls.take k).map D.Call.Fence,())) rfl (by omega) (fun k hk K hK=>?_) (fun K=>?_)))
 ·try dsimp only
  try dsimp only at hK
  rw[←Qs hk,List.map_append]at hK
  refine Ok.P (Ok.atn hk (Ok.LS ?_))
  rw[Qa (by omega)];exact hK
 ·try dsimp only
  rw[List.take_length]
  refine Ok.N (Ok.opt (QqM (by simp;omega)) fun r ⟨h1,h2⟩=>Ok.ck h1.length_eq (Ok.opt (Qpb h1.length_eq (by simp;omega) h2) fun q ⟨q1,q2,q3,q4,q5⟩=>Ok.s ?_))
  obtain⟨g1,g2⟩:=QkO (L:=l.Calls)
  rw[q1,List.drop_zero]
  refine Qcp q4 g1 fun z=>?_
  rw[q5,←h1.length_eq,Qh6 (Nat.le_refl _),List.take_length,h1.mem_iff,g2]
  simp
end
end
/-
  What the functions of an owner return, for any ledger: the program's and the reference's are the same.
-/
section
attribute [local irreducible] dueV stepV runV QQ answerV opV Zb opsV Qny
section
variable {n:Nat} {M:Int} {l x:D.Ledger} {o:D.Op} {i k:Nat} {t r id now f:Int}
theorem Qqq(h:Own l):Qby 1000 l r f=some (QeL l r f):=by
 have hcl:=h.cl
 refine Ok.eq ?_
 unfold Qby QeL
 refine Ok.j (Ok.oe h.chkR (Ok.t (Ok.ite (fun g=>Ok.s (by rw[if_neg (fun h=>g h.2.1)])) (fun g=>Ok.ite (fun g2=>Ok.s (by rw[if_neg (fun h=>g2 h.2.2)])) (fun g2=>Ok.ite (fun g3=>Ok.s (by rw[if_neg (fun h=>by omega)])) (fun g3=>?_))))))
 rw[if_pos ⟨by omega,Decidable.not_not.1 g,Decidable.not_not.1 g2⟩]
 try dsimp only
 unfold Qtd
 refine Ok.run l.Calls.length (fun k=>(((k:Int),()),l,(l.Calls.take k).filter (fun c=>Qpr l.Pages c.Page),())) rfl (by omega) (fun k hk K hK=>?_) (fun K=>?_)
 ·try dsimp only
  have hfl:((l.Calls.take k).filter (fun c=>Qpr l.Pages c.Page)).length≤k:=Nat.le_trans (List.length_filter_le _ _) (by simp;omega)
  try dsimp only at hK
  rw[Qi9 hk]at hK
  obtain⟨p,hp,e⟩:=h.all _ (Qi hk)
  refine Ok.P (Ok.j (Ok.atn hk ?_))
  have ef:=h.findR p hp
  rw[e]at ef
  refine Ok.oe ef ?_
  rw[QkX]at hK
  obtain⟨q,b,hq⟩:∃q b,UD l (nth l.Calls k).Page=(q,b):=⟨_,_,rfl⟩
  rw[hq]at hK ⊢
  try dsimp only at hK ⊢
  refine Ok.cnd (fun g3=>Ok.ite (fun g4=>Ok.atn hk (Ok.LS ?_)) (fun g4=>?_)) (fun g3=>?_)
  ·rw[Qa (by omega)]
   rw[if_pos (by simp[g3,g4])]at hK;exact hK
  ·rw[Qa (by omega)]
   rw[if_neg (by simp[g4]),List.append_nil]at hK;exact hK
  ·rw[Qa (by omega)]
   rw[if_neg (by simp[g3]),List.append_nil]at hK;exact hK
 ·try dsimp only
  exact Ok.N (Ok.s (by rw[List.take_length]))
theorem Qnl(h:Own l):Vm 1000 l r f=some ((QeL l r f).map Qcq):=by
 have hcl:=h.cl;have hml:=Qgb (l:=l) (r:=r) (f:=f)
 refine Ok.eq ?_
 unfold Vm
 refine Ok.oe (Qqq h) ?_
 have hin:∀c∈QeL l r f,QkA l c:=fun c hc=>h.call c (QnS hc)
 obtain⟨m,hm⟩:∃m,QeL l r f=m:=⟨_,rfl⟩
 rw[hm]at hin hml ⊢
 refine Ok.run m.length (fun k=>((m,(k:Int),()),(m.take k).map Qcq,())) rfl (by omega) (fun k hk K hK=>?_) (fun K=>?_)
 ·try dsimp only
  try dsimp only at hK
  rw[←Qs hk,List.map_append]at hK
  refine Ok.P (Ok.atn hk (Ok.atn hk (Ok.atn hk (Ok.atn hk (Ok.oe (Qxa (hin _ (Qi hk))) (Ok.LS ?_))))))
  rw[Qa (by omega)];exact hK
 ·try dsimp only
  exact Ok.N (Ok.s (by rw[List.take_length]))
def Qj0(o:D.Op):Bool:=inV o.ID 1 1099511627776 && (inV o.Kind 1 5 && (inV o.Region 0 4 && (inV o.Fence 0 1048576 && (inV o.At 0 8589934592 && (inV o.Page 0 999999 && inV o.K (-1) 1000)))))
theorem QoI(h:Qj0 o=true)(hk:o.Kind=2∨o.Kind=3):OpIn o:=by
 unfold Qj0 at h
 simp only[bae,Qx]at h
 obtain⟨h1,h2,h3,h4,h5,h6,h7⟩:=h
 exact⟨h1,h2,h3,h4,h5,h6,h7,fun e=>by omega,fun e=>by omega⟩
theorem QxG(hk:o.Kind=2∨o.Kind=3):W2 1000 o=some (Qj0 o):=by
 refine Ok.eq ?_
 unfold W2 Qj0
 refine Ok.oe oin (Ok.cnd (fun g1=>Ok.oe oin (Ok.cnd (fun g2=>Ok.oe oin (Ok.cnd (fun g3=>Ok.oe oin (Ok.cnd (fun g4=>Ok.oe oin (Ok.cnd (fun g5=>Ok.oe oin (Ok.cnd (fun g6=>Ok.oe oin (Ok.cnd (fun g7=>Ok.P (Ok.s ?_)) (fun g7=>Ok.s ?_))) (fun g6=>Ok.s ?_))) (fun g5=>Ok.s ?_))) (fun g4=>Ok.s ?_))) (fun g3=>Ok.s ?_))) (fun g2=>Ok.s ?_))) (fun g1=>Ok.s ?_))
 all_goals simp[*]
theorem QxH(hk:o.Kind=2∨o.Kind=3):QaV 1000 o=some (Qj0 o):=by
 refine Ok.eq ?_
 unfold QaV Qj0
 refine Ok.oe rin (Ok.cnd (fun g1=>Ok.oe rin (Ok.cnd (fun g2=>Ok.oe rin (Ok.cnd (fun g3=>Ok.oe rin (Ok.cnd (fun g4=>Ok.oe rin (Ok.cnd (fun g5=>Ok.oe rin (Ok.cnd (fun g6=>Ok.oe rin (Ok.cnd (fun g7=>Ok.P (Ok.s ?_)) (fun g7=>Ok.s ?_))) (fun g6=>Ok.s ?_))) (fun g5=>Ok.s ?_))) (fun g4=>Ok.s ?_))) (fun g3=>Ok.s ?_))) (fun g2=>Ok.s ?_))) (fun g1=>Ok.s ?_))
 all_goals simp[*]
theorem Qqu{b:Bool}(hc:ZP 1000 l=some b)(hv:b=true→W2 1000 o=some false):Xb 1000 l o=some ({ Now:=0,Config:={ Zones:=[],People:=[],Calendars:=[],Schedules:=[] },Book:={ Teams:=[],Policies:=[] },Pages:=[],Owner:=0,Fence:=0,Seen:=[],Calls:=[] },8):=by
 refine Ok.eq ?_
 unfold Xb
 refine Ok.oe (v:=(l,8,false)) (Ok.eq ?_) (Ok.nf rfl (Ok.s rfl))
 unfold Ud
 exact Ok.j (Ok.oe hc (Ok.cnd (fun g=>Ok.oe (hv g) (Ok.f (Ok.s rfl))) (fun g=>Ok.s rfl)))
theorem Qqv{b:Bool}(hc:YM 1000 l=some b)(hv:b=true→QaV 1000 o=some false):Yt 1000 l o=some ({ Now:=0,Config:={ Zones:=[],People:=[],Calendars:=[],Schedules:=[] },Book:={ Teams:=[],Policies:=[] },Pages:=[],Owner:=0,Fence:=0,Seen:=[],Calls:=[] },8):=by
 refine Ok.eq ?_
 unfold Yt
 exact Ok.j (Ok.oe hc (Ok.cnd (fun g=>Ok.oe (hv g) (Ok.f (Ok.s rfl))) (fun g=>Ok.s rfl)))
structure Eqs (x:D.Ledger):Prop where
 claim:∀r id now,∃v,Wc 1000 x r id now=some v∧VP 1000 x r id now=some v
 starts:∀r id now,∃L:List D.Op,L.length≤900∧Vk 1000 x r id now=some L∧Qay 1000 x r id now=some L
 mine:∀r f,∃L:List D.Call,L.length≤900∧Vj 1000 x r f=some L∧Qby 1000 x r f=some L
 contacts:∀r f,∃L:List D.Contact,L.length≤900∧XT 1000 x r f=some L∧Vm 1000 x r f=some L
 stale:∀o,∃b,Wd 1000 x o=some b∧Qb7 1000 x o=some b
 fences:∃L:List Int,L.length≤900∧Vi 1000 x=some L∧Qax 1000 x=some L
theorem QoB(h2:∀o:D.Op,o.Kind=2∨o.Kind=3→∃v e,Xb 1000 x o=some v∧Yt 1000 x o=some e∧v.2=e.2)(o:D.Op):∃b,Wd 1000 x o=some b∧Qb7 1000 x o=some b:=by
 by_cases hk:o.Kind=2∨o.Kind=3
 ·obtain⟨v,e,h3,h4,h5⟩:=h2 o hk
  refine⟨decide (v.2=23),Ok.eq ?_,Ok.eq ?_⟩
  ·unfold Wd
   have key:Ok (optc (Xb 1000 x o) fun y=>some (decide (y.2=23))) (·=decide (v.2=23)):=Ok.oe h3 (Ok.s rfl)
   rcases hk with hk|hk
   ·exact Ok.j (Ok.P (Ok.n (fun g=>g hk) key))
   ·exact Ok.j (Ok.n (fun g=>g hk) key)
  ·unfold Qb7
   have key:Ok (optc (Yt 1000 x o) fun y=>some (decide (y.2=23))) (·=decide (v.2=23)):=Ok.oe h4 (Ok.s (by rw[h5]))
   rcases hk with hk|hk
   ·exact Ok.j (Ok.P (Ok.n (fun g=>g hk) key))
   ·exact Ok.j (Ok.n (fun g=>g hk) key)
 ·refine⟨false,Ok.eq ?_,Ok.eq ?_⟩
  ·unfold Wd
   exact Ok.j (Ok.p (fun g=>hk (.inr g)) (Ok.p (fun g=>hk (.inl g)) (Ok.s rfl)))
  ·unfold Qb7
   exact Ok.j (Ok.p (fun g=>hk (.inr g)) (Ok.p (fun g=>hk (.inl g)) (Ok.s rfl)))
theorem LW.eqs(h:LW M n x)(hn:n≤48)(hpg:x.Pages.length≤9)(hl:x.Seen.length<256)(hf:∀c∈x.Calls,0≤c.Fence∧c.Fence≤300):Eqs x:=by
 have hd:Led x:=⟨⟨M,n,h,hn⟩,hpg⟩
 have ho:=hd.own
 have hcl:=ho.cl
 refine⟨fun r id now=>⟨_,Qsx ho,QiN ho⟩,fun r id now=>⟨Qrr x r id now,?_,QrI ho,QrJ ho⟩,fun r f=>⟨QeL x r f,by have:=Qgb (l:=x) (r:=r) (f:=f);omega,Qqp ho,Qqq ho⟩,fun r f=>⟨(QeL x r f).map Qcq,by have:=Qgb (l:=x) (r:=r) (f:=f);rw[List.length_map];omega,Qnk ho,Qnl ho⟩,QoB fun o hk=>?_,⟨QaL x.Calls,?_,Qq8 ho,Qq9 ho hf⟩⟩
 ·unfold Qrr
  split
  ·rw[Ul];have:=QmP (l:=x) (t:=now);omega
  ·simp
 ·cases hv:Qj0 o with
  |true=>exact⟨_,_,h.applyE hn hpg (QoI hv hk) hk hl,h.applyR hpg (QoI hv hk) hk hl,rfl⟩
  |false=>exact⟨_,_,Qqu hd.checkE fun _=>by rw[QxG hk,hv],Qqv hd.check fun _=>by rw[QxH hk,hv],rfl⟩
 ·have:=Qi6 (l:=x) (i:=x.Calls.length) hf
  rw[List.take_length]at this;omega
theorem QwC(h1:ZP 1000 x=some false)(h2:YM 1000 x=some false):Eqs x:=by
 have hck:∀r id now,W7 1000 x r id now=some 8:=fun r id now=>Ok.eq (by unfold W7;exact Ok.oe h1 (Ok.nf rfl (Ok.s rfl)))
 have hcr:∀r id now,VP 1000 x r id now=some (op0,8):=fun r id now=>Ok.eq (by unfold VP;exact Ok.j (Ok.oe h2 (Ok.nf rfl (Ok.s rfl))))
 have hm:∀r f,Vj 1000 x r f=some []:=fun r f=>Ok.eq (by unfold Vj;exact Ok.j (Ok.ite (fun _=>Ok.s rfl) (fun _=>Ok.oe h1 (Ok.f (Ok.s rfl)))))
 have hr:∀r f,Qby 1000 x r f=some []:=fun r f=>Ok.eq (by unfold Qby;exact Ok.j (Ok.oe h2 (Ok.f (Ok.s rfl))))
 refine⟨fun r id now=>⟨(op0,8),Ok.eq ?_,hcr r id now⟩,fun r id now=>⟨[],by simp,Ok.eq ?_,Ok.eq ?_⟩,fun r f=>⟨[],by simp,hm r f,hr r f⟩,fun r f=>⟨[],by simp,Ok.eq ?_,Ok.eq ?_⟩,QoB fun o hk=>⟨_,_,Qqu h1 (fun g=>by simp at g),Qqv h2 (fun g=>by simp at g),rfl⟩,⟨[],by simp,Ok.eq ?_,Ok.eq ?_⟩⟩
 ·unfold Wc;exact Ok.oe (hck r id now) (Ok.PS (Ok.s rfl))
 ·unfold Vk;exact Ok.j (Ok.oe (hck r id now) (Ok.PS (Ok.s rfl)))
 ·unfold Qay;exact Ok.j (Ok.oe (hcr r id now) (Ok.p rfl (Ok.s rfl)))
 ·unfold XT
  exact Ok.oe (hm r f) (Ok.run 0 (fun k=>(([],0,0,()),[],())) rfl (by omega) (fun k hk=>by omega) (fun K=>by dsimp only;exact Ok.NS (Ok.s rfl)))
 ·unfold Vm
  exact Ok.oe (hr r f) (Ok.run 0 (fun k=>(([],0,()),[],())) rfl (by omega) (fun k hk=>by omega) (fun K=>by dsimp only;exact Ok.NS (Ok.s rfl)))
 ·unfold Vi;exact Ok.oe h1 (Ok.nf rfl (Ok.s rfl))
 ·unfold Qax
  refine Ok.j (Ok.run 0 (fun k=>(([],0,()),x,())) rfl (by omega) (fun k hk=>by omega) (fun K=>?_))
  dsimp only
  exact Ok.j (Ok.ite (fun g=>Ok.oe h2 (Ok.f (Ok.s rfl))) (fun g=>Ok.s rfl))
theorem Qe.far(h:Qe M n l):LW M n { l with Fence:=1048576 }:=by
 have hw:=h.w;have hf:=h.fence;have hs:=h.seen.len
 exact⟨hw.top,hw.now,hw.small,hw.cfg,hw.book,hw.page,hw.asc,hw.len,hw.owner,by dsimp only;omega,hw.seen,fun p hp=>(h.told p hp).mono (by dsimp only;omega),hw.all⟩
theorem QvW{x a b:Int}(h:¬(a≤x∧x≤b)):inV x a b=false:=by
 cases hv:inV x a b with
 |false=>rfl
 |true=>exact absurd (Qx.1 hv) h
theorem Qxc(h:LW M n l)(hpg:l.Pages.length≤9)(hf:¬(0≤f∧f≤1048576)):ZP 1000 { l with Fence:=f }=some false∧YM 1000 { l with Fence:=f }=some false:=by
 have hnow:=h.now;have how:=h.owner
 refine⟨Ok.eq ?_,Ok.eq ?_⟩
 ·unfold ZP
  exact Ok.j (Ok.oe oin (Ok.bt (Qx.2 (by dsimp only;omega)) (Ok.n (by dsimp only;omega) (Ok.oe oin (Ok.bt (Qx.2 how) (Ok.oe oin (Ok.bf (QvW hf) (Ok.s rfl))))))))
 ·unfold YM
  exact Ok.j (Ok.oe (QiC h.cfg h.small h.book) (Ok.NS (Ok.oe rin (Ok.bt (Qx.2 (by dsimp only;omega)) (Ok.n (by dsimp only;omega) (Ok.oe rin (Ok.bt (Qx.2 how) (Ok.oe rin (Ok.bf (QvW hf) (Ok.s rfl))))))))))
end
end
/-
  The law OwnerSteps, of what is reckoned of its code.
-/
section
open Go AM
attribute [local irreducible] dueV stepV runV QQ answerV opV Zb opsV Qny
theorem Qxt{L:List D.Op}(h:L.length≤900):Qeg 1000 L L=some true:=by
 refine Ok.eq ?_
 unfold Qeg
 refine Ok.NS (Ok.run L.length (fun i=>((L,L,((L.length:Nat):Int),(i:Int),()),())) rfl (by omega) (fun i hi K hK=>?_) (fun K=>by dsimp only;exact Ok.N (Ok.s rfl)))
 try dsimp only
 refine Ok.P (Ok.atn hi (Ok.atn hi (Ok.NS ?_)))
 rw[Qa (by omega)];exact hK
theorem Qjt(t:List Int)(region id now:Int)(raw:D.Op):WU 1000 t region id now raw=some true:=by
 refine Ok.eq ?_
 unfold WU
 refine Ok.oe Qu6 (Ok.ncnd (fun _=>Ok.oe sane35 (Ok.s rfl)) fun hl=>Ok.oe Qxq ?_)
 have hL:=Qtb hl
 refine Ok.opt (Qx3 (k:=8) hL dice0 (by omega)) fun⟨l,z,d⟩ ⟨h1,ops,m,hm,hB⟩=>?_
 try dsimp only at h1 hB ⊢
 have hlo:=hB.loose
 have hled:=hlo.led (by omega)
 refine Ok.oe hled.copy ?_
 refine Ok.opt (QaP hL h1 (by simp) (by simp)) fun⟨f,d1⟩ ⟨h2,hf⟩=>?_
 try dsimp only at h2 hf ⊢
 simp only[List.mem_cons,List.not_mem_nil,or_false]at hf
 refine Ok.opt (nx hL h2 (by omega) (by omega)) fun⟨r,d2⟩ ⟨h3,l3,u3⟩=>?_
 try dsimp only at h3 l3 u3 ⊢
 obtain⟨a1,a2,a3⟩:=QvC (d:=d2) (r:=r) (m:=(m:Int)) hlo (by omega) (by omega) (by omega) hB.seen
 obtain⟨x,hx⟩:∃x,Qt8 l r=x:=⟨_,rfl⟩
 rw[hx]at a1 a2
 refine Ok.oe a1 ?_
 try dsimp only
 have hfc:∀{k:Nat} {y:D.Ledger},Loose k y→∀c∈y.Calls,0≤c.Fence∧c.Fence≤300:=fun{k y} hy c hc=>by
  have:=(hy.inv.w.callIn hc).fence;have:=hy.inv.fence;have:=hy.inv.seen.len;omega
 have heq:∀{k:Nat} {y:D.Ledger},Loose k y→k≤40→Eqs y∧0≤y.Now∧y.Now≤980000:=fun{k y} hy hk=>
  ⟨hy.inv.w.eqs (by omega) (by have:=hy.inv.small3 (k:=3) hy.ids;omega) (by have:=hy.seen;omega) (hfc hy),by have:=hy.inv.now;omega⟩
 have hpg:=hlo.inv.small3 (k:=3) hlo.ids
 have hsl:=hlo.seen
 have hln:=hlo.inv.now
 have hbad:Eqs (D.Ledger.mk l.Now l.Config l.Book l.Pages l.Owner f l.Seen l.Calls):=by
  by_cases g:f=1048576
  ·subst g
   exact LW.eqs (x:={ l with Fence:=1048576 }) hlo.inv.far (by omega) (by dsimp only;omega) (by dsimp only;omega) (fun c hc=>hfc hlo c hc)
  ·obtain⟨b1,b2⟩:=Qxc (f:=f) hlo.inv.w (by omega) (by omega)
   exact QwC b1 b2
 obtain⟨xs,hxs⟩:∃xs:List D.Ledger,[l,x,D.Ledger.mk l.Now l.Config l.Book l.Pages l.Owner f l.Seen l.Calls]=xs:=⟨_,rfl⟩
 have hall:∀y∈xs,Eqs y∧0≤y.Now∧y.Now≤980000:=fun y hy=>by
  rw[←hxs]at hy
  simp only[List.mem_cons,List.not_mem_nil,or_false]at hy
  rcases hy with rfl|rfl|rfl
  ·exact heq hlo (by omega)
  ·exact heq a2.loose (by omega)
  ·exact⟨hbad,by dsimp only;omega,by dsimp only;omega⟩
 have hxl:xs.length=3:=by rw[←hxs];rfl
 rw[hxs]
 clear hxs hbad heq a1 a2 hB hf
 refine Ok.loop (fun q s=>∃(i:Nat) (d:D.Dice),s=((region,id,now,xs,((xs.length:Nat):Int),(i:Int),()),raw,d,l,())∧i≤3∧ZG t d∧q=3 - i) (m:=3) (by omega) ⟨0,d2,rfl,by omega,h3,rfl⟩ ?_
 rintro q s ⟨i,d,rfl,i1,h4,rfl⟩ K hK
 try dsimp only
 refine Ok.ite (fun hlt=>?_) (fun hge=>Ok.oe sane35 (Ok.s rfl))
 have hi:i<xs.length:=by omega
 have hy:=hall _ (Qi hi)
 refine Ok.atn hi ?_
 obtain⟨y,hye⟩:∃y,nth xs i=y:=⟨_,rfl⟩
 rw[hye]at hy ⊢
 obtain⟨he,hn1,hn2⟩:=hy
 refine Ok.opt (nx hL h4 (by omega) (by omega)) fun⟨r3,d3⟩ ⟨h5,l5,u5⟩=>?_
 try dsimp only at h5 ⊢
 refine Ok.opt (QaP hL h5 (by simp) (by simp)) fun⟨v,d4⟩ ⟨h6,hv⟩=>?_
 try dsimp only at h6 ⊢
 obtain⟨ps,hps⟩:∃ps:List D.Arr3Int,[D.Arr3Int.mk region id now,D.Arr3Int.mk y.Owner 500 (IntKind.wrap .i64 (y.Now+600)),D.Arr3Int.mk r3 500 y.Now,D.Arr3Int.mk 0 1099511627776 (IntKind.wrap .i64 (y.Now+900)),D.Arr3Int.mk v 0 (-1)]=ps:=⟨_,rfl⟩
 have hpl:ps.length=5:=by rw[←hps];rfl
 rw[hps]
 clear hps
 refine Ok.loop (fun q s=>∃(j:Nat) (d:D.Dice),s=((region,id,now,xs,((xs.length:Nat):Int),(i:Int),ps,((ps.length:Nat):Int),(j:Int),()),raw,d,l,y,())∧j≤5∧ZG t d∧q=5 - j) (m:=5) (by omega) ⟨0,d4,rfl,by omega,h6,rfl⟩ ?_
 rintro q s ⟨j,d,rfl,j1,h7,rfl⟩ K2 hK2
 try dsimp only
 refine Ok.ite (fun hlt2=>?_) (fun hge2=>?_)
 ·refine Ok.A ?_
  obtain⟨⟨p0,p1,p2⟩,hp⟩:∃p,nth ps j=p:=⟨_,rfl⟩
  rw[hp]
  obtain⟨⟨op,e⟩,c1,c2⟩:=he.claim p0 p1 p2
  obtain⟨S,s1,s2,s3⟩:=he.starts p0 p1 p2
  refine Ok.oe c1 (Ok.oe c2 (Ok.j (Ok.NS (Ok.NS (Ok.oe s2 (Ok.oe s3 (Ok.oe (Qxt s1) (Ok.t ?_))))))))
  try dsimp only
  refine Ok.opt (nx hL h7 (by omega) (by omega)) fun⟨k4,d5⟩ ⟨h8,l8,u8⟩=>?_
  try dsimp only at h8 ⊢
  obtain⟨ks,hks⟩:∃ks:List Int,[y.Fence,0,k4]=ks:=⟨_,rfl⟩
  have hkl:ks.length=3:=by rw[←hks];rfl
  rw[hks]
  refine Ok.run 3 (fun k=>((region,id,now,xs,((xs.length:Nat):Int),(i:Int),ps,((ps.length:Nat):Int),(j:Int),ks,((ks.length:Nat):Int),(k:Int),()),raw,d5,l,y,(p0,p1,p2,()),())) rfl (by omega) (fun k hk K3 hK3=>?_) (fun K3=>?_)
  ·try dsimp only
   refine Ok.P (Ok.A ?_)
   obtain⟨C,b1,b2,b3⟩:=he.contacts p0 (nth ks k)
   obtain⟨W,w1,w2,w3⟩:=he.mine p0 (nth ks k)
   refine Ok.oe b2 (Ok.oe b3 (Ok.j (Ok.oe w2 (Ok.oe w3 (Ok.oe (Qyc w1) (Ok.t (Ok.NS ?_)))))))
   try dsimp only
   refine Ok.run C.length (fun g=>((region,id,now,C,C,xs,((xs.length:Nat):Int),(i:Int),ps,((ps.length:Nat):Int),(j:Int),ks,((ks.length:Nat):Int),(k:Int),((C.length:Nat):Int),(g:Int),()),raw,d5,l,y,(p0,p1,p2,()),())) rfl (by omega) (fun g hg K4 hK4=>?_) (fun K4=>?_)
   ·try dsimp only
    refine Ok.P (Ok.atn hg (Ok.atn hg (Ok.NS ?_)))
    try dsimp only
    rw[Qa (by omega)];exact hK4
   ·try dsimp only
    refine Ok.N ?_
    try dsimp only
    rw[Qa (by omega)];exact hK3
  ·try dsimp only
   refine Ok.N ?_
   try dsimp only
   rw[Qa (by omega)]
   exact hK2 (5 - (j+1)) _ (by omega) ⟨j+1,d5,rfl,by omega,h8,rfl⟩
 ·refine Ok.opt (Qv2 (id:=700) (t:=l.Now) hL h7 hlo.inv hlo.ids (by omega) (by omega)) fun⟨o,d5⟩ ⟨h8,_⟩=>?_
  try dsimp only at h8 ⊢
  refine Ok.opt (nx hL h8 (by omega) (by omega)) fun⟨k4,d6⟩ ⟨h9,_⟩=>?_
  try dsimp only at h9 ⊢
  obtain⟨os,hos⟩:∃os:List D.Op,[raw,o,D.Op.mk 701 2 0 k4 0 0 0 0 0 (D.Answer.mk 0 0 0 0 0 0) (D.Edit.mk 0 0 0 0 0)]=os:=⟨_,rfl⟩
  have hol:os.length=3:=by rw[←hos];rfl
  rw[hos]
  refine Ok.run 3 (fun k=>((region,id,now,xs,((xs.length:Nat):Int),(i:Int),os,((os.length:Nat):Int),(k:Int),()),raw,d6,l,y,())) rfl (by omega) (fun k hk K3 hK3=>?_) (fun K3=>?_)
  ·try dsimp only
   refine Ok.P (Ok.A ?_)
   obtain⟨b,b1,b2⟩:=he.stale (nth os k)
   refine Ok.oe b1 (Ok.oe b2 (Ok.n (fun g=>g rfl) ?_))
   try dsimp only
   rw[Qa (by omega)];exact hK3
  ·try dsimp only
   obtain⟨F,f1,f2,f3⟩:=he.fences
   refine Ok.N (Ok.oe f2 (Ok.oe f3 (Ok.oe (Qxu (by omega)) ?_)))
   refine Ok.nt (by simp) ?_
   try dsimp only
   rw[Qa (by omega)]
   exact hK (3 - (i+1)) _ (by omega) ⟨i+1,d6,rfl,by omega,h9,rfl⟩
end
/-
  The structs that arguments are read as. Printed by wip/gen/row.py.
-/
def QpX(x:D.Answer):Prop:=((Lit.int .i64 x.ID).wf=true)∧((Lit.int .i64 x.Page).wf=true)∧((Lit.int .i64 x.Person).wf=true)∧((Lit.int .i64 x.Kind).wf=true)∧((Lit.int .i64 x.Arg).wf=true)∧((Lit.int .i64 x.At).wf=true)
theorem Qom{H:Type}{enc:TypeId×Value→H}{w:World}:Reads enc Tryz.prog w 46 D.Answer.cells QpX:=by
 intro fuel cs x h
 obtain⟨hl,hf⟩:=Qd6 (l:=[(0,3),(1,3),(2,3),(3,3),(4,3),(5,3)]) (by kernel_rfl) h
 obtain⟨m0,y0,h0⟩:=hf 0 _ _ rfl
 obtain⟨a0,k0,r0⟩:=(Zc (k:=.i64) (by kernel_rfl)) _ _ _ h0
 rw[show Tryz.prog.cellsOf 3=1 by kernel_rfl]at r0
 obtain⟨m1,y1,h1⟩:=hf 1 _ _ rfl
 obtain⟨a1,k1,r1⟩:=(Zc (k:=.i64) (by kernel_rfl)) _ _ _ h1
 rw[show Tryz.prog.cellsOf 3=1 by kernel_rfl]at r1
 obtain⟨m2,y2,h2⟩:=hf 2 _ _ rfl
 obtain⟨a2,k2,r2⟩:=(Zc (k:=.i64) (by kernel_rfl)) _ _ _ h2
 rw[show Tryz.prog.cellsOf 3=1 by kernel_rfl]at r2
 obtain⟨m3,y3,h3⟩:=hf 3 _ _ rfl
 obtain⟨a3,k3,r3⟩:=(Zc (k:=.i64) (by kernel_rfl)) _ _ _ h3
 rw[show Tryz.prog.cellsOf 3=1 by kernel_rfl]at r3
 obtain⟨m4,y4,h4⟩:=hf 4 _ _ rfl
 obtain⟨a4,k4,r4⟩:=(Zc (k:=.i64) (by kernel_rfl)) _ _ _ h4
 rw[show Tryz.prog.cellsOf 3=1 by kernel_rfl]at r4
 obtain⟨m5,y5,h5⟩:=hf 5 _ _ rfl
 obtain⟨a5,k5,r5⟩:=(Zc (k:=.i64) (by kernel_rfl)) _ _ _ h5
 rw[show Tryz.prog.cellsOf 3=1 by kernel_rfl]at r5
 refine⟨⟨a0,a1,a2,a3,a4,a5⟩,⟨k0,k1,k2,k3,k4,k5⟩,?_⟩
 have:=(PVs.part (k:=0) (n:=1) r0 (PVs.part (k:=1) (n:=1) r1 (PVs.part (k:=2) (n:=1) r2 (PVs.part (k:=3) (n:=1) r3 (PVs.part (k:=4) (n:=1) r4 (PVs.part (k:=5) (n:=1) r5 (PVs.done (k:=6) (by rw[hl];kernel_rfl))))))))
 rw[List.drop_zero]at this
 exact this
def QvL(x:D.Edit):Prop:=((Lit.int .i64 x.Kind).wf=true)∧((Lit.int .i64 x.A).wf=true)∧((Lit.int .i64 x.B).wf=true)∧((Lit.int .i64 x.From).wf=true)∧((Lit.int .i64 x.To).wf=true)
theorem QrC{H:Type}{enc:TypeId×Value→H}{w:World}:Reads enc Tryz.prog w 48 D.Edit.cells QvL:=by
 intro fuel cs x h
 obtain⟨hl,hf⟩:=Qd6 (l:=[(0,3),(1,3),(2,3),(3,3),(4,3)]) (by kernel_rfl) h
 obtain⟨m0,y0,h0⟩:=hf 0 _ _ rfl
 obtain⟨a0,k0,r0⟩:=(Zc (k:=.i64) (by kernel_rfl)) _ _ _ h0
 rw[show Tryz.prog.cellsOf 3=1 by kernel_rfl]at r0
 obtain⟨m1,y1,h1⟩:=hf 1 _ _ rfl
 obtain⟨a1,k1,r1⟩:=(Zc (k:=.i64) (by kernel_rfl)) _ _ _ h1
 rw[show Tryz.prog.cellsOf 3=1 by kernel_rfl]at r1
 obtain⟨m2,y2,h2⟩:=hf 2 _ _ rfl
 obtain⟨a2,k2,r2⟩:=(Zc (k:=.i64) (by kernel_rfl)) _ _ _ h2
 rw[show Tryz.prog.cellsOf 3=1 by kernel_rfl]at r2
 obtain⟨m3,y3,h3⟩:=hf 3 _ _ rfl
 obtain⟨a3,k3,r3⟩:=(Zc (k:=.i64) (by kernel_rfl)) _ _ _ h3
 rw[show Tryz.prog.cellsOf 3=1 by kernel_rfl]at r3
 obtain⟨m4,y4,h4⟩:=hf 4 _ _ rfl
 obtain⟨a4,k4,r4⟩:=(Zc (k:=.i64) (by kernel_rfl)) _ _ _ h4
 rw[show Tryz.prog.cellsOf 3=1 by kernel_rfl]at r4
 refine⟨⟨a0,a1,a2,a3,a4⟩,⟨k0,k1,k2,k3,k4⟩,?_⟩
 have:=(PVs.part (k:=0) (n:=1) r0 (PVs.part (k:=1) (n:=1) r1 (PVs.part (k:=2) (n:=1) r2 (PVs.part (k:=3) (n:=1) r3 (PVs.part (k:=4) (n:=1) r4 (PVs.done (k:=5) (by rw[hl];kernel_rfl)))))))
 rw[List.drop_zero]at this
 exact this
def OkOp(x:D.Op):Prop:=((Lit.int .i64 x.ID).wf=true)∧((Lit.int .i64 x.Kind).wf=true)∧((Lit.int .i64 x.Region).wf=true)∧((Lit.int .i64 x.Fence).wf=true)∧((Lit.int .i64 x.At).wf=true)∧((Lit.int .i64 x.Page).wf=true)∧((Lit.int .i64 x.K).wf=true)∧((Lit.int .i64 x.Policy).wf=true)∧((Lit.int .i64 x.Schedule).wf=true)∧(QpX x.Answer)∧(QvL x.Edit)
theorem Qvn{H:Type}{enc:TypeId×Value→H}{w:World}:Reads enc Tryz.prog w 50 D.Op.cells OkOp:=by
 intro fuel cs x h
 obtain⟨hl,hf⟩:=Qd6 (l:=[(0,3),(1,3),(2,3),(3,3),(4,3),(5,3),(6,3),(7,3),(8,3),(9,46),(15,48)]) (by kernel_rfl) h
 obtain⟨m0,y0,h0⟩:=hf 0 _ _ rfl
 obtain⟨a0,k0,r0⟩:=(Zc (k:=.i64) (by kernel_rfl)) _ _ _ h0
 rw[show Tryz.prog.cellsOf 3=1 by kernel_rfl]at r0
 obtain⟨m1,y1,h1⟩:=hf 1 _ _ rfl
 obtain⟨a1,k1,r1⟩:=(Zc (k:=.i64) (by kernel_rfl)) _ _ _ h1
 rw[show Tryz.prog.cellsOf 3=1 by kernel_rfl]at r1
 obtain⟨m2,y2,h2⟩:=hf 2 _ _ rfl
 obtain⟨a2,k2,r2⟩:=(Zc (k:=.i64) (by kernel_rfl)) _ _ _ h2
 rw[show Tryz.prog.cellsOf 3=1 by kernel_rfl]at r2
 obtain⟨m3,y3,h3⟩:=hf 3 _ _ rfl
 obtain⟨a3,k3,r3⟩:=(Zc (k:=.i64) (by kernel_rfl)) _ _ _ h3
 rw[show Tryz.prog.cellsOf 3=1 by kernel_rfl]at r3
 obtain⟨m4,y4,h4⟩:=hf 4 _ _ rfl
 obtain⟨a4,k4,r4⟩:=(Zc (k:=.i64) (by kernel_rfl)) _ _ _ h4
 rw[show Tryz.prog.cellsOf 3=1 by kernel_rfl]at r4
 obtain⟨m5,y5,h5⟩:=hf 5 _ _ rfl
 obtain⟨a5,k5,r5⟩:=(Zc (k:=.i64) (by kernel_rfl)) _ _ _ h5
 rw[show Tryz.prog.cellsOf 3=1 by kernel_rfl]at r5
 obtain⟨m6,y6,h6⟩:=hf 6 _ _ rfl
 obtain⟨a6,k6,r6⟩:=(Zc (k:=.i64) (by kernel_rfl)) _ _ _ h6
 rw[show Tryz.prog.cellsOf 3=1 by kernel_rfl]at r6
 obtain⟨m7,y7,h7⟩:=hf 7 _ _ rfl
 obtain⟨a7,k7,r7⟩:=(Zc (k:=.i64) (by kernel_rfl)) _ _ _ h7
 rw[show Tryz.prog.cellsOf 3=1 by kernel_rfl]at r7
 obtain⟨m8,y8,h8⟩:=hf 8 _ _ rfl
 obtain⟨a8,k8,r8⟩:=(Zc (k:=.i64) (by kernel_rfl)) _ _ _ h8
 rw[show Tryz.prog.cellsOf 3=1 by kernel_rfl]at r8
 obtain⟨m9,y9,h9⟩:=hf 9 _ _ rfl
 obtain⟨a9,k9,r9⟩:=Qom _ _ _ h9
 rw[show Tryz.prog.cellsOf 46=6 by kernel_rfl]at r9
 obtain⟨m10,y10,h10⟩:=hf 10 _ _ rfl
 obtain⟨a10,k10,r10⟩:=QrC _ _ _ h10
 rw[show Tryz.prog.cellsOf 48=5 by kernel_rfl]at r10
 refine⟨⟨a0,a1,a2,a3,a4,a5,a6,a7,a8,a9,a10⟩,⟨k0,k1,k2,k3,k4,k5,k6,k7,k8,k9,k10⟩,?_⟩
 have:=(PVs.part (k:=0) (n:=1) r0 (PVs.part (k:=1) (n:=1) r1 (PVs.part (k:=2) (n:=1) r2 (PVs.part (k:=3) (n:=1) r3 (PVs.part (k:=4) (n:=1) r4 (PVs.part (k:=5) (n:=1) r5 (PVs.part (k:=6) (n:=1) r6 (PVs.part (k:=7) (n:=1) r7 (PVs.part (k:=8) (n:=1) r8 (PVs.part (k:=9) (n:=6) r9 (PVs.part (k:=15) (n:=5) r10 (PVs.done (k:=20) (by rw[hl];kernel_rfl)))))))))))))
 rw[List.drop_zero]at this
 exact this
open Go.ChangeShapes Go.RowKit in
theorem QoH{H:Type}{enc:TypeId×Value→H}{P:Program}{w:World}{base:Nat}{spare:Nat→Bool}{held:Bool}{t t' t'' t3 t4:TypeId}{args:Array Value}{ds:List (DataW H)}{ps:List MemPlace}(h:DataW.TrodAll enc P w base spare held [t,t',t'',t3,t4] args.toList ds ps):
  ∃v v' v'' v3 v4 d d' d'' d3 d4 p p' p'' p3 p4,args=#[v,v',v'',v3,v4]∧ds=[d,d',d'',d3,d4]∧ps=p++(p'++(p''++(p3++p4)))∧DataW.Trod enc P w base spare held t v d p∧DataW.Trod enc P w base spare held t' v' d' p'∧DataW.Trod enc P w base spare held t'' v'' d'' p''∧DataW.Trod enc P w base spare held t3 v3 d3 p3∧DataW.Trod enc P w base spare held t4 v4 d4 p4:=by
 obtain⟨v,vs,d,ds',p,q,hargs,rfl,rfl,hd,h⟩:=trodAll_cons h
 obtain⟨v',vs',d',ds'',p',q',rfl,rfl,rfl,hd',h⟩:=trodAll_cons h
 obtain⟨v'',vs'',d'',ds3,p'',q'',rfl,rfl,rfl,hd'',h⟩:=trodAll_cons h
 obtain⟨v3,vs3,d3,ds4,p3,q3,rfl,rfl,rfl,hd3,h⟩:=trodAll_cons h
 obtain⟨v4,vs4,d4,ds5,p4,q4,rfl,rfl,rfl,hd4,h⟩:=trodAll_cons h
 obtain⟨rfl,rfl,rfl⟩:=trodAll_nil h
 exact⟨v,v',v'',v3,v4,d,d',d'',d3,d4,p,p',p'',p3,p4,by cases args;simp_all,rfl,by simp,hd,hd',hd'',hd3,hd4⟩
end Go.Proofs.YtadlpefpehjcoaaGreat
