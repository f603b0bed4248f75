/-
  edit.Apply: its contract, for configurations of two schedules of one layer.
-/
import Derived.Test.YtgokjdfkpnkekaaGreatQRowKeepsC
import Derived.Shelf.Spec.SlicesInsertGrow
set_option maxRecDepth 100000
set_option linter.unusedVariables false
set_option linter.unusedSimpArgs false
namespace Go.Proofs.YtgokjdfkpnkekaaGreat
open Go AM
noncomputable section
def cfg0:D.Config:={ Zones:=[],People:=[],Calendars:=[],Schedules:=[] }
def addE(c:D.Config)(a b:D.Schedule)(s:Int)(x:D.Edit):D.Config:=
 if s=0 then{ c with Schedules:=[{ a with Edits:=a.Edits++[x] },b] }else{ c with Schedules:=[a,{ b with Edits:=b.Edits++[x] }] }
open Classical in
def WD(fu:Nat)(p0:D.Config)(p1:Int)(p2:D.Edit):Option (D.Config×Int):=
 match p0.Zones,p0.People,p0.Calendars,p0.Schedules with
 |[z],[q1,q2,q3,q4],[],[a,b]=>match a.Layers,b.Layers with
  |[la],[lb]=>if Qh7 fu z [q1,q2,q3,q4] la lb a.Edits b.Edits then
    optc (QS fu p0) fun e=>cnd (decide (e≠0)) none (cnd (decide (0≤p1∧p1<2))
     (optc (QS fu (addE p0 a b p1 p2)) fun e=>cnd (decide (e≠0)) none (some (addE p0 a b p1 p2,0))) (some (cfg0,3)))else none
  |_,_=>none
 |_,_,_,_=>none
def Qkt(fu:Nat):Sig:=Qi [.st .Config,.one (.num .i64),.st .Edit] [] [.st .Config,.one (.num .i64)] [] [] (D.Config×Int) (fun q=>((q.1,q.2,()),())) (fun x y=>WD fu x.1 x.2.1 x.2.2.1)
section
variable {fu:Nat} {z:D.Zone} {p1 p2 p3 p4:D.Person} {na nb:ByteArray} {la lb:D.Layer} {ea eb:List D.Edit} {s e:Int} {x:D.Edit}
abbrev cfgD(z:D.Zone)(p1 p2 p3 p4:D.Person)(na nb:ByteArray)(la lb:D.Layer)(ea eb:List D.Edit):D.Config:=⟨[z],[p1,p2,p3,p4],[],[⟨na,[la],ea⟩,⟨nb,[lb],eb⟩]⟩
theorem QfO(he:QS fu (cfgD z p1 p2 p3 p4 na nb la lb ea eb)=some e):XH Tryz.prog 153 [.agg (cfgA z p1 p2 p3 p4 na nb la lb ea eb)] [] (vI e) []:=by
 obtain⟨L1,_,_,hs⟩:=(V1 fu).spec (cfgD z p1 p2 p3 p4 na nb la lb ea eb,()) () (e,()) () (by show optc (QS fu _) _=_;rw[he];rfl) (fun _ _=>0) (fun n t l v hn=>by change AM.look n []=_ at hn;simp[AM.look]at hn)
 exact hs
theorem QmI{q:Bool}(he:Wy fu (cfgD z p1 p2 p3 p4 na nb la lb ea eb) s=some q):XH Tryz.prog 219 [.agg (cfgA z p1 p2 p3 p4 na nb la lb ea eb),vI s] [] (vB q) []:=by
 obtain⟨L1,_,_,hs⟩:=(Qdg fu).spec (cfgD z p1 p2 p3 p4 na nb la lb ea eb,s,()) () (q,()) () (by show optc (Wy fu _ s) _=_;rw[he];rfl) (fun _ _=>0) (fun n t l v hn=>by change AM.look n []=_ at hn;simp[AM.look]at hn)
 exact hs
abbrev ownA:AV:=.agg [own 2011 1,own 2014 4,own 2017 0,own 2020 2]
abbrev QiY(z:D.Zone)(p1 p2 p3 p4:D.Person)(na nb:ByteArray)(la lb:D.Layer)(ea eb:List D.Edit)(r:Bool):List (Name×AO):=
 bif r then[(2011,.arr 3 [D.Zone.cells z]),(2014,.arr 6 [D.Person.cells p1,D.Person.cells p2,D.Person.cells p3,D.Person.cells p4]),(2017,.arr 3 []),(2020,.hole 3 [schR na la ea] [.p (.v (.string nb)),sl0 10 [D.Layer.cells lb],own 3001 (eb.map (tcells .Edit)).length] []),(3001,.arr 5 (eb.map (tcells .Edit)))]
   else[(2011,.arr 3 [D.Zone.cells z]),(2014,.arr 6 [D.Person.cells p1,D.Person.cells p2,D.Person.cells p3,D.Person.cells p4]),(2017,.arr 3 []),(2020,.hole 3 [] [.p (.v (.string na)),sl0 10 [D.Layer.cells la],own 3000 (ea.map (tcells .Edit)).length] [schR nb lb eb]),(3000,.arr 5 (ea.map (tcells .Edit)))]
abbrev newN(r:Bool):List Name:=bif r then[2011,2014,2017,2020,3001]else[2011,2014,2017,2020,3000]
theorem Qfj(h:Qh7 fu z [p1,p2,p3,p4] la lb ea eb)(hc:QS fu (cfgD z p1 p2 p3 p4 na nb la lb ea eb)=some 0)(r:Bool):
  XH Tryz.prog 172 [.agg (cfgA z p1 p2 p3 p4 na nb la lb ea eb),vI (bif r then 1 else 0)] [] (.tup [ownA,vI 0]) (QiY z p1 p2 p3 p4 na nb la lb ea eb r):=by
 have hK:=Qku (na:=na) (nb:=nb) h r _ rfl
 have hI:Wy fu (cfgD z p1 p2 p3 p4 na nb la lb ea eb) (bif r then 1 else 0)=some true:=by cases r<;>rfl
 refine Spec.intro Tryz.func172 rfl (by kernel_rfl) ?_
 intro Γ hGn hGk
 replace hGn:Γ.n=_:=hGn
 replace hGk:Γ.names=[]:=hGk
 let hA:Name×AO:=(1002,.box (cfgA z p1 p2 p3 p4 na nb la lb ea eb))
 refine AWp.xa hGn hGk 3 [(1,vI (bif r then 1 else 0)),(2,.ref 1002 0),(4,.ref 1004 0)] [hA,(1004,box0)] ?_
 refine AWp.seq ?_
 refine AWp.xr hGn hGk (sk 1 (.m (some 7) ⟨[(6,.agg (cfgA z p1 p2 p3 p4 na nb la lb ea eb))],[],vI 0,[],[]⟩::aa 1)) (.sk (.m (Qgq (QfO hc) rfl rfl rfl rfl (by kernel_rfl) (by rfl) (by kernel_rfl)) (Man.aa _ _)))
  [(1,vI (bif r then 1 else 0)),(2,.ref 1002 0),(4,.ref 1004 0),(8,vB false)] [hA,(1004,box0)] ?_
 refine AWp.cond_false rfl (AWp.skip (Qf ?_))
 refine AWp.seq ?_
 refine AWp.xr hGn hGk (sk 2 (.m (some 12) ⟨[(10,.agg (cfgA z p1 p2 p3 p4 na nb la lb ea eb)),(11,vI (bif r then 1 else 0))],[],vB true,[],[]⟩::aa 1)) (.sk (.m (Qgq (QmI hI) rfl rfl rfl rfl (by kernel_rfl) (by rfl) (by kernel_rfl)) (Man.aa _ _)))
  [(2,.ref 1002 0),(4,.ref 1004 0),(13,vB false)] [hA,(1004,box0)] ?_
 refine AWp.cond_false rfl (AWp.skip (Qf ?_))
 cases r
 ·refine AWp.xr hGn hGk (sk 1 (.m (some 16) ⟨[(15,.agg (cfgA z p1 p2 p3 p4 na nb la lb ea eb))],[],ownA,QiY z p1 p2 p3 p4 na nb la lb ea eb false,newN false⟩::aa 2)) (.sk (.m (Qgq hK rfl rfl rfl rfl (by kernel_rfl) (by rfl) (by kernel_rfl)) (Man.aa _ _)))
   [(4,.ref 1004 0),(5,vI 0)] ((1004,boxC)::QiY z p1 p2 p3 p4 na nb la lb ea eb false) ?_
  exact AWp.ret (Qfk (.inr rfl) (Res.many rfl (.cons (Res1.agg rfl rfl (by kernel_rfl) (by kernel_rfl)) (.cons (Res1.tmp rfl) .nil))) rfl rfl ⟨rfl,rfl⟩)
 ·refine AWp.xr hGn hGk (sk 1 (.m (some 16) ⟨[(15,.agg (cfgA z p1 p2 p3 p4 na nb la lb ea eb))],[],ownA,QiY z p1 p2 p3 p4 na nb la lb ea eb true,newN true⟩::aa 2)) (.sk (.m (Qgq hK rfl rfl rfl rfl (by kernel_rfl) (by rfl) (by kernel_rfl)) (Man.aa _ _)))
   [(4,.ref 1004 0),(5,vI 0)] ((1004,boxC)::QiY z p1 p2 p3 p4 na nb la lb ea eb true) ?_
  exact AWp.ret (Qfk (.inr rfl) (Res.many rfl (.cons (Res1.agg rfl rfl (by kernel_rfl) (by kernel_rfl)) (.cons (Res1.tmp rfl) .nil))) rfl rfl ⟨rfl,rfl⟩)
theorem Qkw(hc:QS fu (cfgD z p1 p2 p3 p4 na nb la lb ea eb)=some 0)(hs:¬(0≤s∧s<2)):
  XH Tryz.prog 172 [.agg (cfgA z p1 p2 p3 p4 na nb la lb ea eb),vI s] [] (.tup [.agg [nl,nl,nl,nl],vI 3]) []:=by
 have hI:Wy fu (cfgD z p1 p2 p3 p4 na nb la lb ea eb) s=some false:=by
  show cnd (decide (0≤s)) (cnd (decide (s<((2:Nat):Int))) (some true) (some false)) (some false)=some false
  by_cases h0:0≤s
  ·have h1:¬s<((2:Nat):Int):=by omega
   rw[decide_eq_true h0,decide_eq_false h1];rfl
  ·rw[decide_eq_false h0];rfl
 refine Spec.intro Tryz.func172 rfl (by kernel_rfl) ?_
 intro Γ hGn hGk
 replace hGn:Γ.n=_:=hGn
 replace hGk:Γ.names=[]:=hGk
 let hA:Name×AO:=(1002,.box (cfgA z p1 p2 p3 p4 na nb la lb ea eb))
 refine AWp.xa hGn hGk 3 [(1,vI s),(2,.ref 1002 0),(4,.ref 1004 0)] [hA,(1004,box0)] ?_
 refine AWp.seq ?_
 refine AWp.xr hGn hGk (sk 1 (.m (some 7) ⟨[(6,.agg (cfgA z p1 p2 p3 p4 na nb la lb ea eb))],[],vI 0,[],[]⟩::aa 1)) (.sk (.m (Qgq (QfO hc) rfl rfl rfl rfl (by kernel_rfl) (by rfl) (by kernel_rfl)) (Man.aa _ _)))
  [(1,vI s),(2,.ref 1002 0),(4,.ref 1004 0),(8,vB false)] [hA,(1004,box0)] ?_
 refine AWp.cond_false rfl (AWp.skip (Qf ?_))
 refine AWp.seq ?_
 refine AWp.xr hGn hGk (sk 2 (.m (some 12) ⟨[(10,.agg (cfgA z p1 p2 p3 p4 na nb la lb ea eb)),(11,vI s)],[],vB false,[],[]⟩::aa 1)) (.sk (.m (Qgq (QmI hI) rfl rfl rfl rfl (by kernel_rfl) (by rfl) (by kernel_rfl)) (Man.aa _ _)))
  [(2,.ref 1002 0),(4,.ref 1004 0),(13,vB true)] [hA,(1004,box0)] ?_
 refine AWp.cond_true rfl ?_
 refine AWp.xa hGn hGk 3 [(4,.ref 1004 0),(5,vI 3)] [(1004,box0)] ?_
 exact AWp.ret (QkR (Qfk (.inr rfl) (Res.many rfl (.cons (Res1.agg rfl rfl (by kernel_rfl) (by kernel_rfl)) (.cons (Res1.tmp rfl) .nil))) rfl rfl ⟨rfl,rfl⟩))
theorem Qi2(hc:QS fu (cfgD z p1 p2 p3 p4 na nb la lb ea eb)=some 0)(hs:¬(0≤s∧s<2)):
  XH Tryz.prog 119 [.agg (cfgA z p1 p2 p3 p4 na nb la lb ea eb),vI s,.agg ((D.Edit.cells x).map .p)] [] (.tup [.agg [sl0 3 [],sl0 6 [],sl0 3 [],sl0 3 []],vI 3]) []:=by
 have hO:=Qkw hc hs
 refine Spec.intro Tryz.func119 rfl (by kernel_rfl) ?_
 intro Γ hGn hGk
 replace hGn:Γ.n=_:=hGn
 replace hGk:Γ.names=[]:=hGk
 let hE:Name×AO:=(1005,.box ((D.Edit.cells x).map .p))
 refine AWp.xa hGn hGk 4 [(1,vI s),(3,.ref 1003 0),(5,.ref 1005 0),(6,.ref 1006 0)] [(1003,.box (cfgA z p1 p2 p3 p4 na nb la lb ea eb)),hE,(1006,box0)] ?_
 refine AWp.xr hGn hGk (sk 2 (.m (some 14) ⟨[(12,.agg (cfgA z p1 p2 p3 p4 na nb la lb ea eb)),(13,vI s)],[],.tup [.agg [nl,nl,nl,nl],vI 3],[],[]⟩::aa 5)) (.sk (.m (Qgq hO rfl rfl rfl rfl (by kernel_rfl) (by rfl) (by kernel_rfl)) (Man.aa _ _)))
  [(6,.ref 1006 0),(8,vI 3)] [(1006,box0)] ?_
 refine AWp.seq ?_
 refine AWp.xa hGn hGk 2 [(6,.ref 1006 0),(8,vI 3),(18,vB true)] [(1006,box0)] ?_
 refine AWp.cond_true rfl ?_
 refine AWp.xa hGn hGk 4 [(6,.ref 1006 0),(7,vI 3)] [(1006,box0)] ?_
 refine AWp.weaken (mk [(6,.ref 1006 0),(7,vI 3)] [(1006,.box [sl0 3 [],sl0 6 [],sl0 3 [],sl0 3 []])]) (Weak.le (TsLe.refl _) ⟨rfl,.box (.cons (.p (PVle.nil (by simp))) (.cons (.p (PVle.nil (by simp))) (.cons (.p (PVle.nil (by simp))) (.cons (.p (PVle.nil (by simp))) .nil)))),trivial⟩) ?_
 exact AWp.ret (QkR (Qfk (.inr rfl) (Res.many rfl (.cons (Res1.agg rfl rfl (by kernel_rfl) (by kernel_rfl)) (.cons (Res1.tmp rfl) .nil))) rfl rfl ⟨rfl,rfl⟩))
theorem Qkr(h:Qh7 fu z [p1,p2,p3,p4] la lb ea eb)(hc:QS fu (cfgD z p1 p2 p3 p4 na nb la lb ea eb)=some 0)(hc2:QS fu (cfgD z p1 p2 p3 p4 na nb la lb (ea++[x]) eb)=some 0):
  XH Tryz.prog 119 [.agg (cfgA z p1 p2 p3 p4 na nb la lb ea eb),vI 0,.agg ((D.Edit.cells x).map .p)] [] (.tup [.agg (cfgA z p1 p2 p3 p4 na nb la lb (ea++[x]) eb),vI 0]) []:=by
 have hO:=Qfj h hc false
 have hl:=h.ea
 refine Spec.intro Tryz.func119 rfl (by kernel_rfl) ?_
 intro Γ hGn hGk
 replace hGn:Γ.n=_:=hGn
 replace hGk:Γ.names=[]:=hGk
 let hE:Name×AO:=(1005,.box ((D.Edit.cells x).map .p))
 refine AWp.xa hGn hGk 4 [(1,vI 0),(3,.ref 1003 0),(5,.ref 1005 0),(6,.ref 1006 0)] [(1003,.box (cfgA z p1 p2 p3 p4 na nb la lb ea eb)),hE,(1006,box0)] ?_
 refine AWp.xr hGn hGk (sk 2 (.m (some 14) ⟨[(12,.agg (cfgA z p1 p2 p3 p4 na nb la lb ea eb)),(13,vI 0)],[],.tup [ownA,vI 0],QiY z p1 p2 p3 p4 na nb la lb ea eb false,newN false⟩::aa 5)) (.sk (.m (Qgq hO rfl rfl rfl rfl (by kernel_rfl) (by rfl) (by kernel_rfl)) (Man.aa _ _)))
  [(1,vI 0),(3,.ref 1003 0),(5,.ref 1005 0),(6,.ref 1006 0),(8,vI 0)] ((1003,boxC)::hE::(1006,box0)::QiY z p1 p2 p3 p4 na nb la lb ea eb false) ?_
 refine AWp.seq ?_
 refine AWp.xa hGn hGk 2 [(1,vI 0),(3,.ref 1003 0),(5,.ref 1005 0),(6,.ref 1006 0),(18,vB false)] [(1003,boxC),hE,(1006,box0),(2011,.arr 3 [D.Zone.cells z]),(2014,.arr 6 [D.Person.cells p1,D.Person.cells p2,D.Person.cells p3,D.Person.cells p4]),(2017,.arr 3 []),(2020,.hole 3 [] [.p (.v (.string na)),sl0 10 [D.Layer.cells la],own 3000 (ea.map (tcells .Edit)).length] [schR nb lb eb]),(3000,.arr 5 (ea.map (tcells .Edit)))] ?_
 refine AWp.cond_false rfl (AWp.skip (Qf ?_))
 refine AWp.xa hGn hGk 5 [(3,.ref 1003 0),(5,.ref 1005 0),(6,.ref 1006 0),(9,.aref 2020 2 0 0)] [(1003,boxC),hE,(1006,box0),(2011,.arr 3 [D.Zone.cells z]),(2014,.arr 6 [D.Person.cells p1,D.Person.cells p2,D.Person.cells p3,D.Person.cells p4]),(2017,.arr 3 []),(2020,.hole 3 [] [.p (.v (.string na)),sl0 10 [D.Layer.cells la],own 3000 (ea.map (tcells .Edit)).length] [schR nb lb eb]),(3000,.arr 5 (ea.map (tcells .Edit)))] ?_
 refine AWp.xd hGn hGk (sk 7 (.m (some 32) ⟨[(29,own 3000 (ea.map (tcells .Edit)).length),(31,.p (.sl true 5 [D.Edit.cells x]))],[(3000,.arr 5 (ea.map (tcells .Edit)))],own 3000 ((ea++[x]).map (tcells .Edit)).length,[(3000,.arr 5 ((ea++[x]).map (tcells .Edit)))],[]⟩::aa 3))
  (.sk (.m (Zy.p (o:=_) rfl rfl rfl (OpOK.appendOwn (T:=117) (e:=47) (bytes:=40) rfl rfl (by kernel_rfl) (by kernel_rfl) rfl (Nat.beq_refl _) rfl (by rw[List.map_append];rfl) rfl (by simp only[List.length_map,List.length_cons,List.length_nil];omega) (by simp only[List.length_map,List.length_cons,List.length_nil];omega))) (Man.aa _ _)))
  [(3,.ref 1003 0),(5,.ref 1005 0),(6,.ref 1006 0)] [(3000,.arr 5 ((ea++[x]).map (tcells .Edit))),(2020,.hole 3 [] [.p (.v (.string na)),sl0 10 [D.Layer.cells la],own 3000 ((ea++[x]).map (tcells .Edit)).length] [schR nb lb eb]),(1003,boxC),hE,(1006,box0),(2011,.arr 3 [D.Zone.cells z]),(2014,.arr 6 [D.Person.cells p1,D.Person.cells p2,D.Person.cells p3,D.Person.cells p4]),(2017,.arr 3 [])] ?_
 refine AWp.frz hGk rfl (.hole (.cons (.same rfl) (.cons (.same rfl) (.cons .own .nil)))) ?_
 refine AWp.unf (schR na la (ea++[x])) rfl ?_
 refine AWp.weaken (mk [(3,.ref 1003 0),(5,.ref 1005 0),(6,.ref 1006 0)] [(2011,.arr 3 [D.Zone.cells z]),(1003,.box [own 2011 1,own 2014 4,own 2017 0,own 2020 2]),hE,(1006,box0),(2014,.arr 6 [D.Person.cells p1,D.Person.cells p2,D.Person.cells p3,D.Person.cells p4]),(2017,.arr 3 []),(2020,.arr 3 [schR na la (ea++[x]),schR nb lb eb])]) (Weak.sub' hGk (by kernel_rfl)) ?_
 refine AWp.frz hGk rfl (.box (.cons .own (.cons (.same rfl) (.cons (.same rfl) (.cons (.same rfl) (.nil)))))) ?_
 refine AWp.weaken (mk [(3,.ref 1003 0),(5,.ref 1005 0),(6,.ref 1006 0)] [(2014,.arr 6 [D.Person.cells p1,D.Person.cells p2,D.Person.cells p3,D.Person.cells p4]),(1003,.box [sl0 3 [D.Zone.cells z],own 2014 4,own 2017 0,own 2020 2]),hE,(1006,box0),(2017,.arr 3 []),(2020,.arr 3 [schR na la (ea++[x]),schR nb lb eb])]) (Weak.sub' hGk (by kernel_rfl)) ?_
 refine AWp.frz hGk rfl (.box (.cons (.same rfl) (.cons .own (.cons (.same rfl) (.cons (.same rfl) (.nil)))))) ?_
 refine AWp.weaken (mk [(3,.ref 1003 0),(5,.ref 1005 0),(6,.ref 1006 0)] [(2017,.arr 3 []),(1003,.box [sl0 3 [D.Zone.cells z],sl0 6 [D.Person.cells p1,D.Person.cells p2,D.Person.cells p3,D.Person.cells p4],own 2017 0,own 2020 2]),hE,(1006,box0),(2020,.arr 3 [schR na la (ea++[x]),schR nb lb eb])]) (Weak.sub' hGk (by kernel_rfl)) ?_
 refine AWp.frz hGk rfl (.box (.cons (.same rfl) (.cons (.same rfl) (.cons .own (.cons (.same rfl) (.nil)))))) ?_
 refine AWp.weaken (mk [(3,.ref 1003 0),(5,.ref 1005 0),(6,.ref 1006 0)] [(2020,.arr 3 [schR na la (ea++[x]),schR nb lb eb]),(1003,.box [sl0 3 [D.Zone.cells z],sl0 6 [D.Person.cells p1,D.Person.cells p2,D.Person.cells p3,D.Person.cells p4],sl0 3 [],own 2020 2]),hE,(1006,box0)]) (Weak.sub' hGk (by kernel_rfl)) ?_
 refine AWp.frz hGk rfl (.box (.cons (.same rfl) (.cons (.same rfl) (.cons (.same rfl) (.cons .own (.nil)))))) ?_
 refine AWp.seq ?_
 refine AWp.xr hGn hGk (sk 1 (.m (some 36) ⟨[(35,.agg (cfgA z p1 p2 p3 p4 na nb la lb (ea++[x]) eb))],[],vI 0,[],[]⟩::aa 1)) (.sk (.m (Qgq (QfO hc2) rfl rfl rfl rfl (by kernel_rfl) (by rfl) (by kernel_rfl)) (Man.aa _ _)))
  [(3,.ref 1003 0),(6,.ref 1006 0),(10,vI 0)] [(1003,.box (cfgA z p1 p2 p3 p4 na nb la lb (ea++[x]) eb)),(1006,box0)] ?_
 refine AWp.xa hGn hGk 2 [(3,.ref 1003 0),(6,.ref 1006 0),(38,vB false)] [(1003,.box (cfgA z p1 p2 p3 p4 na nb la lb (ea++[x]) eb)),(1006,box0)] ?_
 refine AWp.cond_false rfl (AWp.skip (Qf ?_))
 refine AWp.xa hGn hGk 3 [(6,.ref 1006 0),(7,vI 0)] [(1006,.box (cfgA z p1 p2 p3 p4 na nb la lb (ea++[x]) eb))] ?_
 exact AWp.ret (Qfk (.inr rfl) (Res.many rfl (.cons (Res1.agg rfl rfl (by kernel_rfl) (by kernel_rfl)) (.cons (Res1.tmp rfl) .nil))) rfl rfl ⟨rfl,rfl⟩)
theorem Qks(h:Qh7 fu z [p1,p2,p3,p4] la lb ea eb)(hc:QS fu (cfgD z p1 p2 p3 p4 na nb la lb ea eb)=some 0)(hc2:QS fu (cfgD z p1 p2 p3 p4 na nb la lb ea (eb++[x]))=some 0):
  XH Tryz.prog 119 [.agg (cfgA z p1 p2 p3 p4 na nb la lb ea eb),vI 1,.agg ((D.Edit.cells x).map .p)] [] (.tup [.agg (cfgA z p1 p2 p3 p4 na nb la lb ea (eb++[x])),vI 0]) []:=by
 have hO:=Qfj h hc true
 have hl:=h.eb
 refine Spec.intro Tryz.func119 rfl (by kernel_rfl) ?_
 intro Γ hGn hGk
 replace hGn:Γ.n=_:=hGn
 replace hGk:Γ.names=[]:=hGk
 let hE:Name×AO:=(1005,.box ((D.Edit.cells x).map .p))
 refine AWp.xa hGn hGk 4 [(1,vI 1),(3,.ref 1003 0),(5,.ref 1005 0),(6,.ref 1006 0)] [(1003,.box (cfgA z p1 p2 p3 p4 na nb la lb ea eb)),hE,(1006,box0)] ?_
 refine AWp.xr hGn hGk (sk 2 (.m (some 14) ⟨[(12,.agg (cfgA z p1 p2 p3 p4 na nb la lb ea eb)),(13,vI 1)],[],.tup [ownA,vI 0],QiY z p1 p2 p3 p4 na nb la lb ea eb true,newN true⟩::aa 5)) (.sk (.m (Qgq hO rfl rfl rfl rfl (by kernel_rfl) (by rfl) (by kernel_rfl)) (Man.aa _ _)))
  [(1,vI 1),(3,.ref 1003 0),(5,.ref 1005 0),(6,.ref 1006 0),(8,vI 0)] ((1003,boxC)::hE::(1006,box0)::QiY z p1 p2 p3 p4 na nb la lb ea eb true) ?_
 refine AWp.seq ?_
 refine AWp.xa hGn hGk 2 [(1,vI 1),(3,.ref 1003 0),(5,.ref 1005 0),(6,.ref 1006 0),(18,vB false)] [(1003,boxC),hE,(1006,box0),(2011,.arr 3 [D.Zone.cells z]),(2014,.arr 6 [D.Person.cells p1,D.Person.cells p2,D.Person.cells p3,D.Person.cells p4]),(2017,.arr 3 []),(2020,.hole 3 [schR na la ea] [.p (.v (.string nb)),sl0 10 [D.Layer.cells lb],own 3001 (eb.map (tcells .Edit)).length] []),(3001,.arr 5 (eb.map (tcells .Edit)))] ?_
 refine AWp.cond_false rfl (AWp.skip (Qf ?_))
 refine AWp.xa hGn hGk 5 [(3,.ref 1003 0),(5,.ref 1005 0),(6,.ref 1006 0),(9,.aref 2020 2 1 0)] [(1003,boxC),hE,(1006,box0),(2011,.arr 3 [D.Zone.cells z]),(2014,.arr 6 [D.Person.cells p1,D.Person.cells p2,D.Person.cells p3,D.Person.cells p4]),(2017,.arr 3 []),(2020,.hole 3 [schR na la ea] [.p (.v (.string nb)),sl0 10 [D.Layer.cells lb],own 3001 (eb.map (tcells .Edit)).length] []),(3001,.arr 5 (eb.map (tcells .Edit)))] ?_
 refine AWp.xd hGn hGk (sk 7 (.m (some 32) ⟨[(29,own 3001 (eb.map (tcells .Edit)).length),(31,.p (.sl true 5 [D.Edit.cells x]))],[(3001,.arr 5 (eb.map (tcells .Edit)))],own 3001 ((eb++[x]).map (tcells .Edit)).length,[(3001,.arr 5 ((eb++[x]).map (tcells .Edit)))],[]⟩::aa 3))
  (.sk (.m (Zy.p (o:=_) rfl rfl rfl (OpOK.appendOwn (T:=117) (e:=47) (bytes:=40) rfl rfl (by kernel_rfl) (by kernel_rfl) rfl (Nat.beq_refl _) rfl (by rw[List.map_append];rfl) rfl (by simp only[List.length_map,List.length_cons,List.length_nil];omega) (by simp only[List.length_map,List.length_cons,List.length_nil];omega))) (Man.aa _ _)))
  [(3,.ref 1003 0),(5,.ref 1005 0),(6,.ref 1006 0)] [(3001,.arr 5 ((eb++[x]).map (tcells .Edit))),(2020,.hole 3 [schR na la ea] [.p (.v (.string nb)),sl0 10 [D.Layer.cells lb],own 3001 ((eb++[x]).map (tcells .Edit)).length] []),(1003,boxC),hE,(1006,box0),(2011,.arr 3 [D.Zone.cells z]),(2014,.arr 6 [D.Person.cells p1,D.Person.cells p2,D.Person.cells p3,D.Person.cells p4]),(2017,.arr 3 [])] ?_
 refine AWp.frz hGk rfl (.hole (.cons (.same rfl) (.cons (.same rfl) (.cons .own .nil)))) ?_
 refine AWp.unf (schR nb lb (eb++[x])) rfl ?_
 refine AWp.weaken (mk [(3,.ref 1003 0),(5,.ref 1005 0),(6,.ref 1006 0)] [(2011,.arr 3 [D.Zone.cells z]),(1003,.box [own 2011 1,own 2014 4,own 2017 0,own 2020 2]),hE,(1006,box0),(2014,.arr 6 [D.Person.cells p1,D.Person.cells p2,D.Person.cells p3,D.Person.cells p4]),(2017,.arr 3 []),(2020,.arr 3 [schR na la ea,schR nb lb (eb++[x])])]) (Weak.sub' hGk (by kernel_rfl)) ?_
 refine AWp.frz hGk rfl (.box (.cons .own (.cons (.same rfl) (.cons (.same rfl) (.cons (.same rfl) (.nil)))))) ?_
 refine AWp.weaken (mk [(3,.ref 1003 0),(5,.ref 1005 0),(6,.ref 1006 0)] [(2014,.arr 6 [D.Person.cells p1,D.Person.cells p2,D.Person.cells p3,D.Person.cells p4]),(1003,.box [sl0 3 [D.Zone.cells z],own 2014 4,own 2017 0,own 2020 2]),hE,(1006,box0),(2017,.arr 3 []),(2020,.arr 3 [schR na la ea,schR nb lb (eb++[x])])]) (Weak.sub' hGk (by kernel_rfl)) ?_
 refine AWp.frz hGk rfl (.box (.cons (.same rfl) (.cons .own (.cons (.same rfl) (.cons (.same rfl) (.nil)))))) ?_
 refine AWp.weaken (mk [(3,.ref 1003 0),(5,.ref 1005 0),(6,.ref 1006 0)] [(2017,.arr 3 []),(1003,.box [sl0 3 [D.Zone.cells z],sl0 6 [D.Person.cells p1,D.Person.cells p2,D.Person.cells p3,D.Person.cells p4],own 2017 0,own 2020 2]),hE,(1006,box0),(2020,.arr 3 [schR na la ea,schR nb lb (eb++[x])])]) (Weak.sub' hGk (by kernel_rfl)) ?_
 refine AWp.frz hGk rfl (.box (.cons (.same rfl) (.cons (.same rfl) (.cons .own (.cons (.same rfl) (.nil)))))) ?_
 refine AWp.weaken (mk [(3,.ref 1003 0),(5,.ref 1005 0),(6,.ref 1006 0)] [(2020,.arr 3 [schR na la ea,schR nb lb (eb++[x])]),(1003,.box [sl0 3 [D.Zone.cells z],sl0 6 [D.Person.cells p1,D.Person.cells p2,D.Person.cells p3,D.Person.cells p4],sl0 3 [],own 2020 2]),hE,(1006,box0)]) (Weak.sub' hGk (by kernel_rfl)) ?_
 refine AWp.frz hGk rfl (.box (.cons (.same rfl) (.cons (.same rfl) (.cons (.same rfl) (.cons .own (.nil)))))) ?_
 refine AWp.seq ?_
 refine AWp.xr hGn hGk (sk 1 (.m (some 36) ⟨[(35,.agg (cfgA z p1 p2 p3 p4 na nb la lb ea (eb++[x])))],[],vI 0,[],[]⟩::aa 1)) (.sk (.m (Qgq (QfO hc2) rfl rfl rfl rfl (by kernel_rfl) (by rfl) (by kernel_rfl)) (Man.aa _ _)))
  [(3,.ref 1003 0),(6,.ref 1006 0),(10,vI 0)] [(1003,.box (cfgA z p1 p2 p3 p4 na nb la lb ea (eb++[x]))),(1006,box0)] ?_
 refine AWp.xa hGn hGk 2 [(3,.ref 1003 0),(6,.ref 1006 0),(38,vB false)] [(1003,.box (cfgA z p1 p2 p3 p4 na nb la lb ea (eb++[x]))),(1006,box0)] ?_
 refine AWp.cond_false rfl (AWp.skip (Qf ?_))
 refine AWp.xa hGn hGk 3 [(6,.ref 1006 0),(7,vI 0)] [(1006,.box (cfgA z p1 p2 p3 p4 na nb la lb ea (eb++[x])))] ?_
 exact AWp.ret (Qfk (.inr rfl) (Res.many rfl (.cons (Res1.agg rfl rfl (by kernel_rfl) (by kernel_rfl)) (.cons (Res1.tmp rfl) .nil))) rfl rfl ⟨rfl,rfl⟩)
end
theorem Qi3(fu:Nat):FnOK Tryz.prog 119 (Qkt fu):=by
 refine⟨fun R x y K r h=>?_,fun x y a b h L0 _=>⟨L0,fun _ _=>rfl,fun n t l v hn=>by change AM.look n []=_ at hn;simp[AM.look]at hn,?_⟩⟩
 ·obtain⟨c,s,e,⟨⟩⟩:=x
  obtain⟨q,hq,h⟩:=Yw h
  change WD fu c s e=some q at hq
  refine⟨(q.1,q.2,()),(),?_,h⟩
  show optc (WD fu c s e) (fun q=>some ((q.1,q.2,()),()))=_
  rw[hq];rfl
 ·obtain⟨c,s,x,⟨⟩⟩:=x
  obtain⟨q,hq,hab⟩:=Yw h
  change WD fu c s x=some q at hq
  have hab':((q.1,q.2,()),())=(a,b):=Option.some.inj hab
  obtain⟨rfl,rfl⟩:=Prod.mk.inj hab'
  obtain⟨zs,ps,cs,ss⟩:=c
  unfold WD at hq
  dsimp only at hq
  split at hq
  case h_2=>simp at hq
  rename_i z p1 p2 p3 p4 a b
  split at hq
  case h_2=>simp at hq
  rename_i la lb hla hlb
  obtain⟨na,las,ea⟩:=a
  obtain⟨nb,lbs,eb⟩:=b
  dsimp only at hla hlb
  subst hla hlb
  split at hq
  case isFalse=>simp at hq
  rename_i hin
  obtain⟨e1,he1,hq⟩:=Yw hq
  have h1:e1=0:=by
   by_cases h:e1=0
   ·exact h
   ·rw[decide_eq_true h]at hq;simp[cnd]at hq
  subst h1
  replace hq:cnd (decide (0≤s∧s<2)) _ _=some q:=hq
  by_cases hs:0≤s∧s<2
  ·rw[decide_eq_true hs]at hq
   obtain⟨e2,he2,hq⟩:=Yw hq
   have h2:e2=0:=by
    by_cases h:e2=0
    ·exact h
    ·rw[decide_eq_true h]at hq;simp[cnd]at hq
   subst h2
   have hq2:=Option.some.inj hq
   subst hq2
   rcases(show s=0∨s=1 by omega)with rfl|rfl
   ·exact Qkr hin he1 he2
   ·exact Qks hin he1 he2
  ·rw[decide_eq_false hs]at hq
   have hq2:=Option.some.inj hq
   subst hq2
   exact Qi2 he1 hs
end
end Go.Proofs.YtgokjdfkpnkekaaGreat
/-
  What functions do, reckoned from their code, and their contracts. Printed by wip/gen/brun.py.
-/
namespace Go.Proofs.YtgokjdfkpnkekaaGreat
open Go AM IntKind
noncomputable section
variable (fu:Nat)
def Y1(fu:Nat)(p0:List D.Page)(p1:Int)(p2:List D.Page):Option (List D.Page):=natc p1 fun a0=>lec a0 p0.length (cd (((p2.length:Nat):Int)=0) (some p0) (cd (p1=((p0.length:Nat):Int)) (lec (p0.length+p2.length) 34359738368 (some (p0++p2))) none))
theorem Qbr:FO 114 (Qi [.one (.own 101),nI,.one (.lst .Page)] [ar 101 .Page] [.one (.own 101)] [ar 101 .Page] [] (List D.Page) (fun q=>((),q,())) (fun x y=>Y1 fu y.1 x.1 x.2.1)):=fI fu .go (fun a b=>b.1) eN Tryz.func114
end
end Go.Proofs.YtgokjdfkpnkekaaGreat
/-
  slices.Insert of one page into an array of ours: its contract. Where the page comes behind all others the printed contract serves (it is an append); the other two roads (there is room; there is none) are walked here.
-/
namespace Go.Proofs.YtgokjdfkpnkekaaGreat
open Go Go.RowKit Go.Shelf Go.Proofs AM
section
variable {P:Program}
theorem QfP(W:World)(T e ty:TypeId)(es:Nat)(hT:P.underlying T=some (.slice e))(hz:Zr P e=some es)(b o l1 c1:Nat)(a2:Addr)(l2 c2 m:Nat)(cur:Array Value)(t:TypeId)(vs:List Value)(hg:W.heap[b]?=some (.cells cur t (0,0)))(hm:Nat.min l2 l1=m)(hn:vs.length=m*es)(hsrc:∀j v,vs[j]?=some v→W.cell? (a2.add j)=some v)(hfit:o+vs.length≤cur.size)(h1:∀v∈vs,v.oneCell'=true):
  (Builtin.copy_ #[T,T] ty #[.slice (some ⟨b,o,none⟩) l1 c1,.slice (some a2) l2 c2]).run P W=.ok (goInt ((m:Nat):Int)) (W.setRow b (Qu cur.toList o vs).toArray):=by
 have hsz:=AM.run_sizeOf (P:=P) (w:=W) hz
 have hload:=run_loadCells_list (P:=P) W a2 vs hsrc
 have hstore:=run_storeCells_at (P:=P) b o t vs 0 cur W hg (by omega) h1
 rw[hn]at hload
 have hw:(Qu cur.toList o vs).toArray=(cur.toList.take (o+0)++vs++cur.toList.drop (o+0+vs.length)).toArray:=by unfold Qu;rfl
 simp[Builtin.copy_,run_underlying hT,Builtin.lenOf,Builtin.firstCells,hsz,hm,hload,Result.andThen]
 rw[hstore,hw]
theorem QhT(w:World)(tS tR e:TypeId)(ht:P.underlying tS=some (.slice e))(size:Nat)(hz:∀w,(Go.sizeOf e).run P w=.ok size w)(a b:Addr)(la ca lb cb:Nat)(hne:a.block≠b.block){csA cs:Array Value}{tA t:TypeId}{fA:Nat×Nat}(ha:w.heap[a.block]?=some (.cells csA tA fA))(hb:w.heap[b.block]?=some (.cells cs t (0,0)))(hk:cs.size≠0)(hkA:csA.size≠0):
  (Extern.SlicesOverlaps.overlaps #[tS,tS] #[tR] #[.slice (some a) la ca,.slice (some b) lb cb]).run P w=.ok (.bool false) w:=by
 have hnb:(a.block != b.block)=true:=by simpa using hne
 have hnb':(a.block == b.block)=false:=by simpa using hne
 have hsa:w.shape? a.block=some (tA,csA.size):=by simp[World.shape?,ha]
 have hsb:w.shape? b.block=some (t,cs.size):=by simp[World.shape?,hb]
 have hfb:∀o s,w.frozen? { block:=b.block,off:=o,spot:=s }=false:=fun o s=>by simp[World.frozen?,hb]
 have hfb':w.frozen? b=false:=by simp[World.frozen?,hb]
 obtain⟨f1,hf1⟩:∃f1,w.frozen? a=f1:=⟨_,rfl⟩
 obtain⟨f2,hf2⟩:∃f2,w.frozen? { block:=a.block,off:=csA.size }=f2:=⟨_,rfl⟩
 change Sem.run P (α:=Value) (do
  let some t:=(#[tS,tS]:Array TypeId)[0]?|stuck "slices.overlaps: no parameter types"
  let .slice elem ←underlying t|stuck "slices.overlaps: slice type expected"
  let size ←sizeOf elem
  match (some a:Option Addr),(some b:Option Addr)with
  |some a,some b=>
   if la=0∨lb=0∨size=0 then pure (Value.bool false)
   else if a.block != b.block && (←frozen a) && (←frozen b)then unsupported .addressObserved
   else do
    if a.block != b.block then do
     noView a;noView b
     if ←mayBeOne a b then return Value.bool ((←choose (.extern "sameAddr.stringBytes" 2)) == 1)
    pure (Value.bool (a.block == b.block && a.off<b.off+lb*size && b.off<a.off+la*size))
  |_,_=>pure (Value.bool false)) w=_
 by_cases h0:la=0∨lb=0∨size=0
 ·simp[run_underlying ht,hz,h0]
 ·obtain⟨kB,hkB⟩:∃kB,cs.size=kB+1:=⟨cs.size - 1,by omega⟩
  rw[hkB]at hsb
  obtain⟨kA,hkA'⟩:∃kA,csA.size=kA+1:=⟨csA.size - 1,by omega⟩
  rw[hkA']at hsa hf2
  cases f1<;>cases f2<;>
   simp[run_underlying ht,hz,h0,hnb,hnb',frozen,noView,viewAt,mayBeOne,stringish,shape,Sem.run,hsa,hsb,hfb,hfb',hf1,hf2]
end
theorem QiF{α:Type}{l vs:List α}{k:Nat}(h:k≤l.length):(Qu l k vs).take (k+vs.length)=l.take k++vs:=by
 unfold Qu
 rw[List.take_append_of_le_length (by simp;omega)]
 exact List.take_of_length_le (by simp;omega)
set_option maxHeartbeats 4000000 in
theorem Qpa(b n c i vb voff vc:Nat)(cs csv:Array Value)(t tv:TypeId)(fv:Nat×Nat)(v:List Value)(w:World)(hi:i<n)(hroom:n+1≤c)(hbig:n≤10000000)(hvb:vb≠b)(hb:w.heap[b]?=some (.cells cs t (0,0)))(hsz:cs.size=c*14)(hv:v.length=14)(hvw:w.heap[vb]?=some (.cells csv tv fv))(hvz:csv.size≠0)(hvs:∀j x,v[j]?=some x→w.cell? ⟨vb,voff+j,none⟩=some x)(h1c:∀x∈(cs.toList.drop (i*14)).take ((n - i)*14),x.oneCell'=true)(h1v:∀x∈v,x.oneCell'=true):
  Calls Tryz.prog 114 #[.slice (some ⟨b,0,none⟩) n c,.int .i64 i,.slice (some ⟨vb,voff,none⟩) 1 vc] w fun e w'=>
   e=.returned (.slice (some ⟨b,0,none⟩) (n+1) c)∧w'=(w.drew.setRow b (Qu cs.toList ((i+1)*14) ((cs.toList.drop (i*14)).take ((n - i)*14))).toArray).setRow b (Qu (Qu cs.toList ((i+1)*14) ((cs.toList.drop (i*14)).take ((n - i)*14))) (i*14) v).toArray:=by
 have hmix:Tryz.prog.follows .mixedOrders=true:=by kernel_rfl
 have hT:Tryz.prog.underlying 37=some (.slice 68):=by kernel_rfl
 have hz:Zr Tryz.prog 68=some 14:=by kernel_rfl
 have hsize:∀w,(Go.sizeOf 68).run Tryz.prog w=.ok 14 w:=fun w=>AM.run_sizeOf hz w
 have hle:(n+1)*14≤cs.size:=by rw[hsz];exact Nat.mul_le_mul_right 14 hroom
 obtain⟨vs,hvs1⟩:∃vs,(cs.toList.drop (i*14)).take ((n - i)*14)=vs:=⟨_,rfl⟩
 have hvl:vs.length=(n - i)*14:=by rw[←hvs1];simp;omega
 obtain⟨A1,hA1⟩:∃A1,(Qu cs.toList ((i+1)*14) vs).toArray=A1:=⟨_,rfl⟩
 have hA1s:A1.size=cs.size:=by rw[←hA1];simp[Qu,hvl];omega
 rw[hvs1]at h1c ⊢
 have hA1l:Qu cs.toList ((i+1)*14) vs=A1.toList:=by rw[←hA1]
 rw[hA1l,Array.toArray_toList]
 have hov:∀o lb cb,(callFunc 166 #[.slice (some ⟨vb,voff,none⟩) 1 vc,.slice (some ⟨b,o,none⟩) lb cb]).run Tryz.prog w=.ok (.value (.bool false)) w:=fun o lb cb=>by
  rw[run_callFunc_extern Tryz.func166 (by kernel_rfl) (by kernel_rfl) (by kernel_rfl) (e:=Extern.SlicesOverlaps.overlaps #[37,37] #[4]) (by kernel_rfl),QhT w 37 4 68 hT 14 hsize ⟨vb,voff,none⟩ ⟨b,o,none⟩ 1 vc lb cb hvb hvw hb (by omega) hvz]
  rfl
 have hold:∀q,w.cell? ⟨b,q,none⟩=cs.toList[q]?:=fun q=>by simp[World.cell?,hb]
 have hcp1:∀ty c1 c2,(Builtin.copy_ #[37,37] ty #[.slice (some ⟨b,(i+1)*14,none⟩) (n - i) c1,.slice (some ⟨b,i*14,none⟩) (n+1 - i) c2]).run Tryz.prog w.drew=.ok (goInt ((n - i:Nat):Int)) (w.drew.setRow b A1):=fun ty c1 c2=>by
  rw[←hA1]
  exact QfP w.drew 37 68 ty 14 hT hz b _ (n - i) c1 ⟨b,i*14,none⟩ (n+1 - i) c2 (n - i) cs t vs hb (Nat.min_eq_right (by omega)) hvl (fun j x hj=>by
   have hj':j<(n - i)*14:=by rw[←hvl];exact(List.getElem?_eq_some_iff.1 hj).1
   rw[Addr.add_lit]
   rw[←hvs1,List.getElem?_take,if_pos hj',List.getElem?_drop]at hj
   exact(hold _).trans hj) (by rw[hvl];omega) h1c
 have hcp2:∀(W:World),W.heap=(w.drew.setRow b A1).heap→∀ty c1,(Builtin.copy_ #[37,37] ty #[.slice (some ⟨b,i*14,none⟩) (n+1 - i) c1,.slice (some ⟨vb,voff,none⟩) 1 vc]).run Tryz.prog W=.ok (goInt ((1:Nat):Int)) (W.setRow b (Qu A1.toList (i*14) v).toArray):=fun W hW ty c1=>by
  have hWb:W.heap[b]?=some (.cells A1 t (0,0)):=by rw[hW];exact setRow_heap w.drew b cs A1 t (0,0) hb
  exact QfP W 37 68 ty 14 hT hz b _ (n+1 - i) c1 ⟨vb,voff,none⟩ 1 vc 1 A1 t v hWb (Nat.min_eq_left (by omega)) (by rw[hv]) (fun j x hj=>by
   rw[Addr.add_lit]
   have:=hvs j x hj
   unfold World.cell? at this ⊢
   dsimp only at this ⊢
   rw[hW,setRow_other w.drew b vb A1 hvb]
   exact this) (by rw[hv,hA1s];omega) h1v
 have hcp3:=hcp2 (w.drew.setRow b A1).drew rfl
 have hcp4:=hcp2 (w.drew.setRow b A1) rfl
 have hz2:¬((i:Int)=(n:Int)):=by omega
 have hw1:IntKind.i64.wrap ((i:Int)+1)=(i:Int)+1:=by rw[IntKind.wrap_i64];omega
 have hw2:IntKind.i64.wrap ((n:Int)+1)=(n:Int)+1:=by rw[IntKind.wrap_i64];omega
 have hb1:(0:Int)≤(i:Int)+1:=by omega
 have hin:i≤n:=by omega
 have htn:((i:Int)+1).toNat=i+1:=by omega
 have htn2:((n:Int)+1).toNat=n+1:=by omega
 have hb2:¬(c=i+1):=by omega
 have hb3:(i:Int)≤(n:Int)+1:=by omega
 have hb4:¬(c=i):=by omega
 go_enter Tryz.func114,Tryz.ntmps114
 go_wp2_with (simp only[hov])
 go_region_law_o (refine step_copy_runI rfl _ _ 37 37 rfl _ _ (by simp[Act.eval,Act.put]) (by simp[Act.eval,Act.put]) (hcp1 _ _ _) ?_)
 go_wp2
 go_ret
 first|exact⟨rfl,rfl⟩|exact⟨rfl,by rw[Array.toArray_toList]⟩
set_option maxHeartbeats 4000000 in
theorem QqZ(b n c i vb voff vc:Nat)(cs csv:Array Value)(t tv:TypeId)(fv:Nat×Nat)(v:List Value)(w:World)(hi:i<n)(hnc:n≤c)(hroom:c<n+1)(hbig:n≤10000000)(hb:w.heap[b]?=some (.cells cs t (0,0)))(hsz:cs.size=c*14)(hv:v.length=14)(hvw:w.heap[vb]?=some (.cells csv tv fv))(hvs:∀j x,v[j]?=some x→w.cell? ⟨vb,voff+j,none⟩=some x)(h1c:∀x∈(cs.toList.drop (i*14)).take ((n - i)*14),x.oneCell'=true)(h1v:∀x∈v,x.oneCell'=true):
  Calls Tryz.prog 114 #[.slice (some ⟨b,0,none⟩) n c,.int .i64 i,.slice (some ⟨vb,voff,none⟩) 1 vc] w fun e w'=>
   ∃(G:Nat) (A:Array Value),e=.returned (.slice (some ⟨w.heap.size,0,none⟩) (n+1) G)∧n+1≤G∧A.size=G*14∧A.toList.take ((n+1)*14)=cs.toList.take (i*14)++v++(cs.toList.drop (i*14)).take ((n - i)*14)∧
    w'.heap[w.heap.size]?=some (.cells A 68 (0,0))∧Ext (fun _=>False) w w':=by
 have hmix:Tryz.prog.follows .mixedOrders=true:=by kernel_rfl
 have hT:Tryz.prog.underlying 37=some (.slice 68):=by kernel_rfl
 have hT3:Tryz.prog.underlying 3=some (.int .i64):=by kernel_rfl
 have hz:Zr Tryz.prog 68=some 14:=by kernel_rfl
 obtain⟨i0,z,hi0,hz0,hzs,hzb,hzc⟩:=Qdq (P:=Tryz.prog) (e:=68) (es:=14) (bytes:=160) (by kernel_rfl)
 have hbw:b<w.heap.size:=(Array.getElem?_eq_some_iff.1 hb).1
 have hvw':vb<w.heap.size:=(Array.getElem?_eq_some_iff.1 hvw).1
 have hle:n*14≤cs.size:=by rw[hsz];exact Nat.mul_le_mul_right 14 hnc
 have hold:∀q,w.cell? ⟨b,q,none⟩=cs.toList[q]?:=fun q=>by simp[World.cell?,hb]
 obtain⟨vs,hvs1⟩:∃vs,(cs.toList.drop (i*14)).take ((n - i)*14)=vs:=⟨_,rfl⟩
 have hvl:vs.length=(n - i)*14:=by rw[←hvs1];simp;omega
 rw[hvs1]at h1c ⊢
 have hold0:(Builtin.firstCells i0.size i (.slice (some ⟨b,0,none⟩) i c)).run Tryz.prog w.drew=.ok (cs.toList.take (i*14)).toArray w.drew:=by
  rw[hzs]
  exact run_firstCells_some w.drew 14 i ⟨b,0,none⟩ i c (cs.toList.take (i*14)) (by rw[List.length_take];simp;omega) (fun j x hj=>by
   rw[Addr.add_lit,Nat.zero_add]
   rw[List.getElem?_take]at hj
   split at hj
   ·exact(hold _).trans hj
   ·cases hj)
 obtain⟨G,hG⟩:∃G,G=grownCap w (n+1) c 68:=⟨_,rfl⟩
 obtain⟨ROW,hROW⟩:∃ROW:Array Value,ROW=(cs.toList.take (i*14)).toArray++Builtin.zeroCells z.cells (n+1 - i)++Builtin.zeroCells z.cells (G - (n+1)):=⟨_,rfl⟩
 have hGn:n+1≤G:=by rw[hG];exact grownCap_ge w _ _ _
 have hG63:G≤9223372036854775807:=by
  have:=grownCap_le_maxLen w (n+1) c 68 (by unfold maxLen;omega)
  rw[←hG]at this
  unfold maxLen at this
  omega
 have hik:i+(n+1 - i)=n+1:=by omega
 have hrz:∀ty,(Builtin.append_ #[37,3] ty #[.slice (some ⟨b,0,none⟩) i c,.int .i64 ((n:Int)+1 - (i:Int))]).run Tryz.prog w =
   .ok (.slice (some ⟨w.heap.size,0,none⟩) (n+1) G) (w.drew.alloc (.cells ROW 68)):=fun ty=>by
  have h:=Lib.run_append_grow_zeros w 37 3 ty 68 i0 _ .i64 .i64 hT hT3 hi0 hz0 (some ⟨b,0,none⟩) i c (cs.toList.take (i*14)) hold0 (n+1 - i) (by omega) (by omega) (by omega) (by omega) (by rw[hzb];omega) (by rw[hzb,hik];exact growslice_fits hroom (by omega))
  rw[hik,←hG,←hROW]at h
  rw[show(n:Int)+1 - (i:Int)=((n+1 - i:Nat):Int)by omega]
  exact h
 have hRs:ROW.size=G*14:=by
  rw[hROW]
  simp only[Array.size_append,US,hzc,List.size_toArray,List.length_take,Array.length_toList]
  omega
 have hNb:(w.drew.alloc (.cells ROW 68)).heap[w.heap.size]?=some (.cells ROW 68 (0,0)):=Yq w.drew _
 have hOth:∀k,k<w.heap.size→(w.drew.alloc (.cells ROW 68)).heap[k]?=w.heap[k]?:=fun k hk=>Below.heap_alloc w.drew _ k hk
 obtain⟨A1,hA1⟩:∃A1,(Qu ROW.toList (i*14) v).toArray=A1:=⟨_,rfl⟩
 have hA1s:A1.size=ROW.size:=by rw[←hA1];simp[Qu,hv];omega
 obtain⟨A2,hA2⟩:∃A2,(Qu A1.toList ((i+1)*14) vs).toArray=A2:=⟨_,rfl⟩
 have hA2s:A2.size=ROW.size:=by rw[←hA2,←hA1s];simp[Qu,hvl];omega
 have hfin:A2.toList.take ((n+1)*14)=cs.toList.take (i*14)++v++vs:=by
  have e1:A1.toList.take ((i+1)*14)=cs.toList.take (i*14)++v:=by
   rw[←hA1,show(i+1)*14=i*14+v.length by omega,List.toList_toArray,QiF (by simp;omega),hROW]
   congr 1
   simp only[Array.toList_append,List.toList_toArray,List.append_assoc]
   rw[List.take_append_of_le_length (by simp;omega),List.take_take,Nat.min_self]
  rw[←hA2,show(n+1)*14=(i+1)*14+vs.length by omega,List.toList_toArray,QiF (by simp;omega),e1]
 have hcpA:∀(W:World),W.heap=(w.drew.alloc (.cells ROW 68)).heap→∀ty c1,(Builtin.copy_ #[37,37] ty #[.slice (some ⟨w.heap.size,i*14,none⟩) (n+1 - i) c1,.slice (some ⟨vb,voff,none⟩) 1 vc]).run Tryz.prog W=.ok (goInt ((1:Nat):Int)) (W.setRow w.heap.size A1):=fun W hW ty c1=>by
  rw[←hA1]
  exact QfP W 37 68 ty 14 hT hz _ _ (n+1 - i) c1 ⟨vb,voff,none⟩ 1 vc 1 ROW 68 v (by rw[hW];exact hNb) (Nat.min_eq_left (by omega)) (by rw[hv]) (fun j x hj=>by
   rw[Addr.add_lit]
   have:=hvs j x hj
   unfold World.cell? at this ⊢
   dsimp only at this ⊢
   rw[hW,hOth vb hvw']
   exact this) (by rw[hv];omega) h1v
 have hcpB:∀(W:World),W.heap=((w.drew.alloc (.cells ROW 68)).setRow w.heap.size A1).heap→∀ty c1 c2,(Builtin.copy_ #[37,37] ty #[.slice (some ⟨w.heap.size,(i+1)*14,none⟩) (n - i) c1,.slice (some ⟨b,i*14,none⟩) (n - i) c2]).run Tryz.prog W=.ok (goInt ((n - i:Nat):Int)) (W.setRow w.heap.size A2):=fun W hW ty c1 c2=>by
  rw[←hA2]
  exact QfP W 37 68 ty 14 hT hz _ _ (n - i) c1 ⟨b,i*14,none⟩ (n - i) c2 (n - i) A1 68 vs (by rw[hW];exact setRow_heap _ _ ROW A1 68 (0,0) hNb) (Nat.min_self _) hvl (fun j x hj=>by
   have hj':j<(n - i)*14:=by rw[←hvl];exact(List.getElem?_eq_some_iff.1 hj).1
   rw[Addr.add_lit]
   rw[←hvs1,List.getElem?_take,if_pos hj',List.getElem?_drop]at hj
   have:=(hold (i*14+j)).trans hj
   unfold World.cell? at this ⊢
   dsimp only at this ⊢
   rw[hW,setRow_other _ _ _ A1 (by omega),hOth b hbw]
   exact this) (by rw[hvl];omega) h1c
 have hz2:¬((i:Int)=(n:Int)):=by omega
 have hz3:(c:Int)<(n:Int)+1:=by omega
 have hw1:IntKind.i64.wrap ((i:Int)+1)=(i:Int)+1:=by rw[IntKind.wrap_i64];omega
 have hw2:IntKind.i64.wrap ((n:Int)+1)=(n:Int)+1:=by rw[IntKind.wrap_i64];omega
 have hw3:IntKind.i64.wrap ((n:Int)+1 - (i:Int))=(n:Int)+1 - (i:Int):=by rw[IntKind.wrap_i64];omega
 have hb1:(0:Int)≤(i:Int)+1:=by omega
 have hin:i≤n:=by omega
 have htn:((i:Int)+1).toNat=i+1:=by omega
 have hb3:(i:Int)≤(n:Int)+1:=by omega
 have hb4:¬(c=i):=by omega
 have hGi:¬(G=i):=by omega
 have hGim:¬(G=i+1):=by omega
 have hcpA1:=hcpA (w.drew.alloc (.cells ROW 68)) rfl
 have hcpA2:=hcpA ((w.alloc (.cells ROW 68)).drew) rfl
 have hcpB1:=hcpB (((w.alloc (.cells ROW 68)).drew.setRow w.heap.size A1).drew) rfl
 clear hG hROW hold0 hik hA1 hA2
 go_enter Tryz.func114,Tryz.ntmps114
 go_wp2_with (at_builtin;refine Lib.wpList_append_run _ rfl _ _ _ _ rfl _ _ rfl rfl _ _ (hrz _) ?_)
 go_region_law_o (refine step_copy_runI rfl _ _ 37 37 rfl _ _ (by simp[Act.eval,Act.put]) (by simp[Act.eval,Act.put]) (hcpB _ rfl _ _ _) ?_)
 go_wp2
 go_ret
 refine⟨G,A2,rfl,hGn,by rw[hA2s,hRs],hfin,?_,?_⟩
 ·exact setRow_heap _ _ A1 A2 68 (0,0) (setRow_heap _ _ ROW A1 68 (0,0) hNb)
 ·refine⟨by simp[World.setRow],fun k hk _=>?_,rfl,rfl⟩
  exact(setRow_other _ _ _ A2 (by omega)).trans ((setRow_other _ _ _ A1 (by omega)).trans (hOth k hk))
theorem Qq0{rows:List (List PV)}{row:List PV}{i:Nat}{ρ:Name→AM.Loc}{H:Heap}{M:Nat→Prop}{w:World}{cr:List (List Value)}{c:List Value}(h:RR ρ H M w rows cr)(h2:AV.Rs ρ H M w (pcells row) c):
  RR ρ H M w (rows.take i++row::rows.drop i) (cr.take i++c::cr.drop i):=by
 have htake:∀{rows:List (List PV)} {cr:List (List Value)} (i:Nat),RR ρ H M w rows cr→RR ρ H M w (rows.take i) (cr.take i)∧RR ρ H M w (rows.drop i) (cr.drop i):=by
  intro rows
  induction rows with
  |nil=>intro cr i h;simp only[RR]at h;subst h;simp[RR]
  |cons r rs ih=>
   intro cr i h
   cases i with
   |zero=>exact⟨by simp[RR],by simpa using h⟩
   |succ i=>
    simp only[RR]at h
    obtain⟨c0,cr',rfl,g1,g2⟩:=h
    obtain⟨k1,k2⟩:=ih i g2
    simp only[List.take_succ_cons,List.drop_succ_cons,RR]
    exact⟨⟨c0,_,rfl,g1,k1⟩,k2⟩
 obtain⟨k1,k2⟩:=htake i h
 refine k1.append ?_
 simp only[RR]
 exact⟨c,_,rfl,h2,k2⟩
theorem Qq1{rows:List (List PV)}{row:List PV}{i:Nat}(f:Bool)(hi:i<rows.length)(hl:rows.length≤10000000)(hrow:row.length=14):
  XH Tryz.prog 114 [.own 101 rows.length,.p (.v (.int .i64 i)),.p (.sl f 14 [row])] [(101,.arr 14 rows)] (.own 101 (rows.length+1)) [(101,.arr 14 (rows.take i++row::rows.drop i))]:=by
 intro G ρ M w us hG hM hargs hobj hinj
 simp only[AV.Ts]at hargs
 obtain⟨u0,_,rfl,a0,u1,_,rfl,a1,u2,_,rfl,a2,rfl⟩:=hargs
 simp only[AV.R,PV.R]at a0 a1 a2
 have hob:=hobj 101 _ (show AM.look 101 [(101,AO.arr 14 rows)]=some (.arr 14 rows)from rfl)
 have hu0:=(a0.2 (.arr 14 rows) 14 rows.length rfl rfl).2 rfl
 obtain⟨hes,hcap,hobj'⟩:=hob
 obtain⟨ad,vc,rfl,hvc,_,hnone,hsome⟩:=a2
 have hvc':1≤vc:=by simpa using hvc
 cases ad with
 |none=>exact absurd (hnone rfl) (by omega)
 |some ad=>
 obtain⟨hspot,hMad,hadw,hrows⟩:=hsome ad rfl (by omega)
 obtain⟨vb,voff,sp⟩:=ad
 dsimp only at hspot hMad hadw hrows
 subst hspot
 rcases hobj' with h0|⟨b,T,cs,h3,h4,h5,h6,h7⟩
 ·exact absurd hcap (by rw[h0];omega)
 simp only[PV.Rows]at hrows
 obtain⟨_,hcells,_⟩:=hrows
 obtain⟨cv,cv1,cv2⟩:=UD (ρ:=ρ) (H:=Y7 [(101,AO.arr 14 rows)]) hcells
 obtain⟨cr,m1,m2,m3⟩:=RR.of_Rows (ρ:=ρ) (H:=Y7 [(101,AO.arr 14 rows)]) h7
 have hcvl:cv.length=14:=by rw[cv1.length];simp[pcells,hrow]
 have hcrl:=m1.length
 have hlen:=m1.len m2
 have hflat:cr.flatten.length=rows.length*14:=by rw[Wp hlen,hcrl]
 have hcsl:rows.length*14≤cs.size:=by rw[h6];exact Nat.mul_le_mul_right 14 hcap
 have hcs:cs.toList.take (rows.length*14)=cr.flatten:=by
  refine List.ext_getElem? fun j=>?_
  rw[List.getElem?_take]
  split
  ·rename_i hj
   have:=m3 j (cr.flatten[j]'(by omega)) (List.getElem?_eq_getElem (by omega))
   rw[Nat.zero_add]at this
   rw[List.getElem?_eq_getElem (l:=cr.flatten) (by omega),←this]
   simp[World.cell?,h5]
  ·rw[List.getElem?_eq_none (by omega)]
 have hmid:(cs.toList.drop (i*14)).take ((rows.length - i)*14)=(cr.drop i).flatten:=by
  rw[←Qd2 i hlen,←hcs,List.drop_take,Nat.sub_mul]
 have hpre:cs.toList.take (i*14)=(cr.take i).flatten:=by
  rw[←QgQ i hlen,←hcs,List.take_take,Nat.min_eq_left (Nat.mul_le_mul_right 14 (by omega))]
 have hvb:vb≠b:=fun e=>hMad (by rw[e];exact h4)
 have hvblk:∃csv tv fv,w.heap[vb]?=some (.cells csv tv fv)∧csv.size≠0:=by
  have hc:=cv2 0 (cv[0]'(by omega)) (List.getElem?_eq_getElem (by omega))
  simp only[World.cell?]at hc
  split at hc
  ·rename_i csv tv fv hh
   refine⟨csv,tv,fv,hh,fun e=>?_⟩
   have:csv=#[]:=Array.eq_empty_of_size_eq_zero e
   subst this;simp at hc
  all_goals simp at hc
 obtain⟨csv,tv,fv,hvw,hvz⟩:=hvblk
 have h1c:∀x∈(cs.toList.drop (i*14)).take ((rows.length - i)*14),x.oneCell'=true:=by
  rw[hmid]
  intro x hx
  refine m1.one x ?_
  rw[←List.take_append_drop i cr,List.flatten_append]
  exact List.mem_append_right _ hx
 have h1v:∀x∈cv,x.oneCell'=true:=Qh8 cv1
 have hfl2:(cr.take i++cv::cr.drop i).flatten=(cr.take i).flatten++cv++(cr.drop i).flatten:=by simp
 have hrl:(rows.take i++row::rows.drop i).length=rows.length+1:=by simp;omega
 have hr14:∀r∈rows.take i++row::rows.drop i,r.length=14:=by
  intro r hr
  rcases List.mem_append.1 hr with hr|hr
  ·exact m2 r (List.mem_of_mem_take hr)
  ·rcases List.mem_cons.1 hr with rfl|hr
   ·exact hrow
   ·exact m2 r (List.mem_of_mem_drop hr)
 have hall:=Qq0 (i:=i) m1 cv1
 have hfl3:(cr.take i++cv::cr.drop i).flatten.length=(rows.length+1)*14:=by rw[Wp (hall.len hr14),hall.length,hrl]
 rw[hu0,h3,a1.1]
 have hblk:(ρ 101).blk=some b:=by
  have:(ρ 101).cap≠0:=by omega
  simp[Loc.blk,this,h3]
 have hown:∀(n:Name) (o:AO),AM.look n [(101,AO.arr 14 (rows.take i++row::rows.drop i))]=some o→n=101∧o=.arr 14 (rows.take i++row::rows.drop i):=fun n o hn=>by
  simp only[AM.look]at hn
  split at hn
  ·rename_i e;cases hn;exact⟨e.symm,rfl⟩
  ·simp at hn
 have fin:∀(ρ':Name→AM.Loc) (w':World) (u:Value) (b':Nat) (T':TypeId) (A:Array Value),(ρ' 101).base=some ⟨b',0,none⟩→rows.length+1≤(ρ' 101).cap→A.size=(ρ' 101).cap*14→w'.heap[b']?=some (.cells A T' (0,0))→
   A.toList.take ((rows.length+1)*14)=(cr.take i++cv::cr.drop i).flatten→(∀b1,b1<w.heap.size→newM M ρ' [(101,AO.arr 14 (rows.take i++row::rows.drop i))] b1→M b1)→Ext (fun b1=>b1=b) w w'→
   ((ρ' 101).blk=some b→(ρ 101).blk=some b∨w.heap.size≤b)→(∀b1,(ρ' 101).blk=some b1→b1=b∨w.heap.size≤b1)→u=.slice (ρ' 101).base (rows.length+1) (ρ' 101).cap→
   After ρ M w [(101,AO.arr 14 rows)] u (.own 101 (rows.length+1)) [(101,AO.arr 14 (rows.take i++row::rows.drop i))] ρ' w':=fun ρ' w' u b' T' A e1 e2 e3 e4 e5 e6 e7 _ e9 e10=>by
  have hst:=hall.step (ρ':=ρ') (H':=Y7 [(101,AO.arr 14 (rows.take i++row::rows.drop i))]) (M':=newM M ρ' [(101,AO.arr 14 (rows.take i++row::rows.drop i))]) e7 (fun b1 hb1=>by rw[hb1];exact h4) e6
  refine⟨?_,?_,?_,?_,?_,?_⟩
  ·simp only[AV.R]
   refine⟨by rw[e10];rfl,fun o es k hn hs=>?_⟩
   obtain⟨_,rfl⟩:=hown _ _ hn
   cases hs
   exact⟨by omega,fun _=>e10⟩
  ·intro n o hn
   obtain⟨rfl,rfl⟩:=hown _ _ hn
   refine⟨by omega,by rw[hrl];exact e2,.inr ⟨b',T',A,e1,.inr ⟨101,_,rfl,?_⟩,e4,e3,?_⟩⟩
   ·have:(ρ' 101).cap≠0:=by omega
    simp[Loc.blk,this,e1]
   ·refine Qau hst hr14 fun j x hj=>?_
    have hj':j<(rows.length+1)*14:=by rw[←hfl3];exact(List.getElem?_eq_some_iff.1 hj).1
    rw[←e5,List.getElem?_take,if_pos hj']at hj
    simpa [World.cell?,e4]using hj
  ·intro n m o o' b1 hn hm _ _
   rw[(hown _ _ hn).1,(hown _ _ hm).1]
  ·intro n o b1 hn hb1
   obtain⟨rfl,rfl⟩:=hown _ _ hn
   rcases e9 b1 hb1 with rfl|h
   ·exact .inl ⟨_,rfl,hblk⟩
   ·exact .inr h
  ·exact e7.weaken fun b1 _ hb1=>⟨101,_,rfl,by rw[hb1];exact hblk⟩
  ·intro n o hn
   have hn':n=101∧o=.arr 14 rows:=by
    simp only[AM.look]at hn
    split at hn
    ·rename_i e;cases hn;exact⟨e.symm,rfl⟩
    ·simp at hn
   obtain⟨rfl,rfl⟩:=hn'
   exact⟨_,rfl,rfl,by rw[hrl];omega,fun e=>by rw[hrl]at e;omega⟩
 by_cases hroom:rows.length+1≤(ρ 101).cap
 ·refine(Qpa b rows.length (ρ 101).cap i vb voff vc cs csv T tv fv cv w hi hroom hl hvb h5 h6 hcvl hvw hvz cv2 h1c h1v).mono ?_
  rintro e w' ⟨rfl,rfl⟩
  rw[hmid]
  have hml:(cr.drop i).flatten.length=(rows.length - i)*14:=by rw[Wp fun r hr=>hlen r (List.mem_of_mem_drop hr),List.length_drop,hcrl]
  have hs1:(Qu cs.toList ((i+1)*14) (cr.drop i).flatten).toArray.size=cs.size:=by simp[Qu,hml];omega
  have hb1:=setRow_heap w.drew b cs (Qu cs.toList ((i+1)*14) (cr.drop i).flatten).toArray T (0,0) h5
  have hb2:=setRow_heap _ b _ (Qu (Qu cs.toList ((i+1)*14) (cr.drop i).flatten) (i*14) cv).toArray T (0,0) hb1
  refine⟨_,_,_,ρ,rfl,⟨rfl,rfl⟩,fin ρ _ _ b T _ h3 hroom ?_ hb2 ?_ ?_ ?_ (fun h=>.inl h) (fun b1 h=>.inl (by rw[hblk]at h;exact(Option.some.inj h).symm)) (by rw[h3])⟩
  ·rw[←h6];simp[Qu,hml,hcvl];omega
  ·rw[List.toList_toArray,hfl2]
   have e1:(Qu cs.toList ((i+1)*14) (cr.drop i).flatten).take (i*14)=(cr.take i).flatten:=by
    unfold Qu
    rw[List.append_assoc,List.take_append_of_le_length (by simp;omega),List.take_take,Nat.min_eq_left (by omega),hpre]
   have e2:(Qu cs.toList ((i+1)*14) (cr.drop i).flatten).drop (i*14+cv.length)=(cr.drop i).flatten++cs.toList.drop ((i+1)*14+(cr.drop i).flatten.length):=by
    unfold Qu
    rw[List.append_assoc,show i*14+cv.length=(cs.toList.take ((i+1)*14)).length by simp;omega,List.drop_left]
   show(List.take (i*14) _++cv++List.drop (i*14+cv.length) _).take _=_
   rw[e1,e2,←List.append_assoc,List.take_append_of_le_length (by simp only[List.length_append,hml,hcvl];rw[←hpre];simp;omega),List.take_of_length_le (by simp only[List.length_append,hml,hcvl];rw[←hpre];simp;omega)]
  ·rintro b1 _ (h|⟨n,o,hn,h⟩)
   ·exact h
   ·obtain⟨rfl,_⟩:=hown _ _ hn
    rw[hblk]at h
    rw[←Option.some.inj h];exact h4
  ·refine⟨by simp[World.setRow],fun b1 _ hne=>?_,rfl,rfl⟩
   exact(setRow_other _ b b1 _ hne).trans (setRow_other _ b b1 _ hne)
 ·refine(QqZ b rows.length (ρ 101).cap i vb voff vc cs csv T tv fv cv w hi hcap (by omega) hl h5 h6 hcvl hvw cv2 h1c h1v).mono ?_
  rintro e w' ⟨G',A,rfl,g1,g2,g3,g4,g5⟩
  have hcap':(G':Nat)≠0:=by omega
  refine⟨_,_,_,(fun m=>if m=101 then⟨some ⟨w.heap.size,0,none⟩,G'⟩else ρ m),rfl,⟨rfl,rfl⟩,fin _ _ _ w.heap.size 68 A rfl g1 g2 g4 ?_ ?_ ?_ ?_ ?_ rfl⟩
  ·rw[g3,hfl2,hpre,hmid]
  ·rintro b1 hb1 (h|⟨n,o,hn,h⟩)
   ·exact h
   ·obtain⟨rfl,_⟩:=hown _ _ hn
    have:w.heap.size=b1:=by simpa [Loc.blk,hcap']using h
    omega
  ·exact g5.weaken fun b1 _ h=>h.elim
  ·intro h
   have:w.heap.size=b:=by simpa [Loc.blk,hcap']using h
   exact .inr (by omega)
  ·intro b1 h
   have:w.heap.size=b1:=by simpa [Loc.blk,hcap']using h
   exact .inr (by omega)
noncomputable section
def Qy(fu:Nat)(p0:List D.Page)(p1:Int)(p2:List D.Page):Option (List D.Page):=
 if p1=(p0.length:Int)then Y1 fu p0 p1 p2 else natc p1 fun i=>ltc i p0.length (lec p0.length 10000000 (match p2 with|[x]=>some (p0.take i++x::p0.drop i)|_=>none))
def Qbs(fu:Nat):Sig:=Qi [.one (.own 101),.one (.num .i64),.one (.lst .Page)] [(101,.arr .Page)] [.one (.own 101)] [(101,.arr .Page)] [] (List D.Page) (fun q=>((),(q,()))) (fun x y=>Qy fu y.1 x.1 x.2.1)
theorem QaR(fu:Nat):FnOK Tryz.prog 114 (Qbs fu):=by
 refine⟨fun R x y K r h=>?_,fun x y a b h L0 hL0=>?_⟩
 ·obtain⟨q,hq,h⟩:=Yw h
  obtain⟨h',hle⟩:=Qb3 h
  refine⟨_,_,?_,h'⟩
  show optc (Qy fu y.1 x.1 x.2.1) _=_
  rw[show Qy fu y.1 x.1 x.2.1=some q from hq]
  exact Qa7 h
 ·obtain⟨j,vl,⟨⟩⟩:=x
  obtain⟨l,⟨⟩⟩:=y
  change List D.Page at l
  change List D.Page at vl
  change Int at j
  by_cases hj:j=(l.length:Int)
  ·refine(Qbr fu).spec (j,vl,()) (l,()) a b ?_ L0 hL0
   have e:Qy fu l j vl=Y1 fu l j vl:=by unfold Qy;rw[if_pos hj]
   have h':(optc (Qy fu l j vl) fun q=>lenB [(101,OSh.arr .Page)] (l,()) [(101,OSh.arr .Page)] (q,()) (some ((),(q,()))))=some (a,b):=h
   rw[e]at h'
   exact h'
  ·obtain⟨q,hq,h⟩:=Yw h
   obtain⟨h',_⟩:=Qb3 h
   obtain⟨rfl,rfl⟩:=Prod.mk.inj (Option.some.inj h')
   replace hq:Qy fu l j vl=some q:=hq
   unfold Qy at hq
   rw[if_neg hj]at hq
   obtain⟨i,rfl,hq⟩:=UM hq
   obtain⟨hi,hq⟩:=Qd7 hq
   obtain⟨hl,hq⟩:=YK hq
   have hvl:∃x,vl=[x]:=by
    rcases vl with _|⟨x,_|⟨x2,r⟩⟩
    ·exact absurd hq (by simp)
    ·exact⟨x,rfl⟩
    ·exact absurd hq (by simp)
   obtain⟨x,rfl⟩:=hvl
   replace hi:i<l.length:=hi
   replace hq:some (l.take i++x::l.drop i)=some q:=hq
   have hq:=Option.some.inj hq
   have e0:L0 101 0=l.length:=hL0 101 _ _ 0 rfl
   have hlm:(l.map (tcells .Page)).length=l.length:=List.length_map ..
   have hs:=Qq1 (rows:=l.map (tcells .Page)) (row:=tcells .Page x) (i:=i) false (hlm ▸ hi) (hlm ▸ hl) rfl
   have e1:(l.map (tcells .Page)).take i++tcells .Page x::(l.map (tcells .Page)).drop i=q.map (tcells .Page):=by rw[←hq];simp
   have e2:(l.map (tcells .Page)).length+1=q.length:=by rw[←hq];simp;omega
   rw[e1,e2,hlm,←e0]at hs
   refine⟨fun m u=>if m=101∧u=1 then q.length else L0 m u,fun n hn=>?_,fun n t l' v hn=>?_,?_⟩
   ·show(if n=101∧(0:Nat)=1 then q.length else L0 n 0)=L0 n 0
    rw[if_neg (by simp)]
   ·change AM.look n [(101,BO.arr .Page q 1)]=_ at hn
    simp only[AM.look]at hn
    split at hn
    ·rename_i e;cases hn;exact if_pos ⟨e.symm,rfl⟩
    ·simp at hn
   ·exact hs
end
end Go.Proofs.YtgokjdfkpnkekaaGreat
/-
  What functions do, reckoned from their code, and their contracts. Printed by wip/gen/brun.py.
-/
namespace Go.Proofs.YtgokjdfkpnkekaaGreat
open Go AM IntKind
noncomputable section
abbrev bG0:List Sh:=[kI,kI,kI,kI,kI,kI,kI,kI,kI,kI,kI,.own 101,.lst .int,.own 103]
abbrev bG1:List Sh:=[kI,kI,kI,kI,kI,kI,kI,kI,kI,kI,kI,.own 103,.own 104,.own 105]
abbrev bG2:List Sh:=[kI,kI,kI,kI,kI,kI,kI,kI,kI,kI,kI,.own 104,.own 105,.own 106]
abbrev bG3:List Sh:=[kI,kI,kI,kI,kI,kI,kI,kI,kI,kI,kI,.own 101,.own 102,.own 103]
abbrev bG4:List Sh:=[kI,kI,kI,kI,kI,kI,kI,kI,kI,kI,kI,.own 102,.own 103,.own 104]
variable (fu:Nat)
def QeP(fu:Nat)(p0:List Int):Option Bool:=some (decide (((p0.length:Nat):Int)≤500))
theorem Qjf:FO 10 (sB [lI] fun x=>QeP fu x.1):=fI fu .go (fun a b=>a.1) eN Tryz.func10
def X6(fu:Nat)(p0:List D.Team):Option (List D.Team):=nilC p0 (both (some []) (lec p0.length 34359738368 (some p0))) (lec p0.length 34359738368 (some p0))
theorem Qc3:FO 148 (Qi [.one (.lst .Team)] [] [.one (.own 1007)] [ar 1007 .Team] [] (List D.Team) (fun q=>((),q,())) (fun x y=>X6 fu x.1)):=fI fu .go (fun a b=>b.1) eN Tryz.func148
def Xm(fu:Nat)(p0:List D.Policy):Option (List D.Policy):=nilC p0 (both (some []) (lec p0.length 34359738368 (some p0))) (lec p0.length 34359738368 (some p0))
theorem QbH:FO 149 (Qi [.one (.lst .Policy)] [] [.one (.own 1007)] [ar 1007 .Policy] [] (List D.Policy) (fun q=>((),q,())) (fun x y=>Xm fu x.1)):=fI fu .go (fun a b=>b.1) eN Tryz.func149
def X5(fu:Nat)(p0:List D.Page):Option (List D.Page):=nilC p0 (both (some []) (lec p0.length 34359738368 (some p0))) (lec p0.length 34359738368 (some p0))
theorem Qc2:FO 152 (Qi [.one (.lst .Page)] [] [.one (.own 1007)] [ar 1007 .Page] [] (List D.Page) (fun q=>((),q,())) (fun x y=>X5 fu x.1)):=fI fu .go (fun a b=>b.1) eN Tryz.func152
def Xa(fu:Nat)(p0:List D.Call):Option (List D.Call):=nilC p0 (both (some []) (lec p0.length 34359738368 (some p0))) (lec p0.length 34359738368 (some p0))
theorem V8:FO 102 (Qi [.one (.lst .Call)] [] [.one (.own 1007)] [ar 1007 .Call] [] (List D.Call) (fun q=>((),q,())) (fun x y=>Xa fu x.1)):=fI fu .go (fun a b=>b.1) eN Tryz.func102
def QcK(p0:D.Zone):Option D.Zone:=optc (YR fu p0.Rules) fun a0=>some (D.Zone.mk p0.Name p0.Offset a0)
theorem Qjq:FO 89 (Qi [.st .Zone] [] [.st .Zone] [] [] D.Zone (fun q=>((q,()),())) (fun x y=>QcK fu x.1)):=fI fu .go (fun a b=>a.1) (eC (WK fu) eN) Tryz.func89
def Zq(p0:List D.Zone):Option (List D.Zone):=optc (Xc fu p0) fun a0=>Qk (X:=((Int×Int×Unit)×List D.Zone×Unit)) (fun L1 ((a2,a3,_),a4,_)=>cd (a3<a2) (natc a3 fun a5=>ltc a5 a4.length (optc (GetElem?.getElem? a4 a5) fun a6=>optc (QcK fu a6) fun a7=>natc a3 fun a8=>ltc a8 a4.length (optc (GetElem?.getElem? a4 a8) fun a9=>L1 ((a2,(wrap .i64 (a3+1)),()),(List.set a4 a8 a7),())))) (some a4)) fu ((((a0.length:Nat):Int),0,()),a0,())
theorem WY:FO 88 (Qi [.one (.lst .Zone),.one (.fv 89)] [] [.one (.lst .Zone)] [] [] (List D.Zone) (fun q=>((q,()),())) (fun x y=>Zq fu x.1)):=fI fu (gs 2 (lp [(1,.one (.fv 89)),(5,.one (.own 1009007)),ni 10,ni 11] [ar 1009007 .Zone] .go)) (fun a b=>a.1) (eC (Qjq fu) (eC (Ua fu) eN)) Tryz.func88
def Qad(p0:D.Person):Option D.Person:=optc (ZW fu p0.Quiet) fun a0=>some (D.Person.mk p0.Name p0.Zone a0 p0.MaxWeek p0.MinRest p0.Consent)
theorem Qg8:FO 91 (Qi [.st .Person] [] [.st .Person] [] [] D.Person (fun q=>((q,()),())) (fun x y=>Qad fu x.1)):=fI fu .go (fun a b=>a.1) (eC (XE fu) eN) Tryz.func91
def Q1(p0:List D.Person):Option (List D.Person):=optc (Yx fu p0) fun a0=>Qk (X:=((Int×Int×Unit)×List D.Person×Unit)) (fun L1 ((a2,a3,_),a4,_)=>cd (a3<a2) (natc a3 fun a5=>ltc a5 a4.length (optc (GetElem?.getElem? a4 a5) fun a6=>optc (Qad fu a6) fun a7=>natc a3 fun a8=>ltc a8 a4.length (optc (GetElem?.getElem? a4 a8) fun a9=>L1 ((a2,(wrap .i64 (a3+1)),()),(List.set a4 a8 a7),())))) (some a4)) fu ((((a0.length:Nat):Int),0,()),a0,())
theorem We:FO 90 (Qi [.one (.lst .Person),.one (.fv 91)] [] [.one (.lst .Person)] [] [] (List D.Person) (fun q=>((q,()),())) (fun x y=>Q1 fu x.1)):=fI fu (gs 2 (lp [(1,.one (.fv 91)),(5,.one (.own 1009007)),ni 10,ni 11] [ar 1009007 .Person] .go)) (fun a b=>a.1) (eC (Qg8 fu) (eC (Vl fu) eN)) Tryz.func90
def Qdc(p0:D.Calendar):Option D.Calendar:=optc (Qw fu p0.Days) fun a0=>some (D.Calendar.mk p0.Name p0.Zone a0)
theorem QeT:FO 93 (Qi [.st .Calendar] [] [.st .Calendar] [] [] D.Calendar (fun q=>((q,()),())) (fun x y=>Qdc fu x.1)):=fI fu .go (fun a b=>a.1) (eC (QZ fu) eN) Tryz.func93
def Zf(p0:List D.Calendar):Option (List D.Calendar):=optc (XY fu p0) fun a0=>Qk (X:=((Int×Int×Unit)×List D.Calendar×Unit)) (fun L1 ((a2,a3,_),a4,_)=>cd (a3<a2) (natc a3 fun a5=>ltc a5 a4.length (optc (GetElem?.getElem? a4 a5) fun a6=>optc (Qdc fu a6) fun a7=>natc a3 fun a8=>ltc a8 a4.length (optc (GetElem?.getElem? a4 a8) fun a9=>L1 ((a2,(wrap .i64 (a3+1)),()),(List.set a4 a8 a7),())))) (some a4)) fu ((((a0.length:Nat):Int),0,()),a0,())
theorem XC:FO 92 (Qi [.one (.lst .Calendar),.one (.fv 93)] [] [.one (.lst .Calendar)] [] [] (List D.Calendar) (fun q=>((q,()),())) (fun x y=>Zf fu x.1)):=fI fu (gs 2 (lp [(1,.one (.fv 93)),(5,.one (.own 1009007)),ni 10,ni 11] [ar 1009007 .Calendar] .go)) (fun a b=>a.1) (eC (QeT fu) (eC (WI fu) eN)) Tryz.func92
def Qbg(p0:D.Layer):Option D.Layer:=optc (Qw fu p0.Members) fun a0=>optc (ZW fu p0.Windows) fun a1=>some (D.Layer.mk p0.Name p0.Zone p0.Start p0.Unit p0.Every a0 a1 p0.Calendar p0.Mode)
theorem QhR:FO 146 (Qi [.st .Layer] [] [.st .Layer] [] [] D.Layer (fun q=>((q,()),())) (fun x y=>Qbg fu x.1)):=fI fu .go (fun a b=>a.1) (eC (QZ fu) (eC (XE fu) eN)) Tryz.func146
def Q8(p0:List D.Layer):Option (List D.Layer):=optc (YP fu p0) fun a0=>Qk (X:=((Int×Int×Unit)×List D.Layer×Unit)) (fun L1 ((a2,a3,_),a4,_)=>cd (a3<a2) (natc a3 fun a5=>ltc a5 a4.length (optc (GetElem?.getElem? a4 a5) fun a6=>optc (Qbg fu a6) fun a7=>natc a3 fun a8=>ltc a8 a4.length (optc (GetElem?.getElem? a4 a8) fun a9=>L1 ((a2,(wrap .i64 (a3+1)),()),(List.set a4 a8 a7),())))) (some a4)) fu ((((a0.length:Nat):Int),0,()),a0,())
theorem Ww:FO 145 (Qi [.one (.lst .Layer),.one (.fv 146)] [] [.one (.lst .Layer)] [] [] (List D.Layer) (fun q=>((q,()),())) (fun x y=>Q8 fu x.1)):=fI fu (gs 2 (lp [(1,.one (.fv 146)),(5,.one (.own 1009007)),ni 10,ni 11] [ar 1009007 .Layer] .go)) (fun a b=>a.1) (eC (QhR fu) (eC (VU fu) eN)) Tryz.func145
def VF(p0:D.Schedule):Option D.Schedule:=optc (Q8 fu p0.Layers) fun a0=>optc (Xb fu p0.Edits) fun a1=>some (D.Schedule.mk p0.Name a0 a1)
theorem QeU:FO 95 (Qi [.st .Schedule] [] [.st .Schedule] [] [] D.Schedule (fun q=>((q,()),())) (fun x y=>VF fu x.1)):=fI fu .go (fun a b=>a.1) (eC (Ww fu) (eC (V9 fu) eN)) Tryz.func95
def QN(p0:List D.Schedule):Option (List D.Schedule):=optc (Z6 fu p0) fun a0=>Qk (X:=((Int×Int×Unit)×List D.Schedule×Unit)) (fun L1 ((a2,a3,_),a4,_)=>cd (a3<a2) (natc a3 fun a5=>ltc a5 a4.length (optc (GetElem?.getElem? a4 a5) fun a6=>optc (VF fu a6) fun a7=>natc a3 fun a8=>ltc a8 a4.length (optc (GetElem?.getElem? a4 a8) fun a9=>L1 ((a2,(wrap .i64 (a3+1)),()),(List.set a4 a8 a7),())))) (some a4)) fu ((((a0.length:Nat):Int),0,()),a0,())
theorem XD:FO 94 (Qi [.one (.lst .Schedule),.one (.fv 95)] [] [.one (.lst .Schedule)] [] [] (List D.Schedule) (fun q=>((q,()),())) (fun x y=>QN fu x.1)):=fI fu (gs 2 (lp [(1,.one (.fv 95)),(5,.one (.own 1009007)),ni 10,ni 11] [ar 1009007 .Schedule] .go)) (fun a b=>a.1) (eC (QeU fu) (eC (WJ fu) eN)) Tryz.func94
def QcJ(p0:D.Team):Option D.Team:=optc (Qw fu p0.Members) fun a0=>some (D.Team.mk p0.Name a0)
theorem Qjp:FO 97 (Qi [.st .Team] [] [.st .Team] [] [] D.Team (fun q=>((q,()),())) (fun x y=>QcJ fu x.1)):=fI fu .go (fun a b=>a.1) (eC (QZ fu) eN) Tryz.func97
def Zp(p0:List D.Team):Option (List D.Team):=optc (X6 fu p0) fun a0=>Qk (X:=((Int×Int×Unit)×List D.Team×Unit)) (fun L1 ((a2,a3,_),a4,_)=>cd (a3<a2) (natc a3 fun a5=>ltc a5 a4.length (optc (GetElem?.getElem? a4 a5) fun a6=>optc (QcJ fu a6) fun a7=>natc a3 fun a8=>ltc a8 a4.length (optc (GetElem?.getElem? a4 a8) fun a9=>L1 ((a2,(wrap .i64 (a3+1)),()),(List.set a4 a8 a7),())))) (some a4)) fu ((((a0.length:Nat):Int),0,()),a0,())
theorem WX:FO 96 (Qi [.one (.lst .Team),.one (.fv 97)] [] [.one (.lst .Team)] [] [] (List D.Team) (fun q=>((q,()),())) (fun x y=>Zp fu x.1)):=fI fu (gs 2 (lp [(1,.one (.fv 97)),(5,.one (.own 1009007)),ni 10,ni 11] [ar 1009007 .Team] .go)) (fun a b=>a.1) (eC (Qjp fu) (eC (Qc3 fu) eN)) Tryz.func96
def Ym(fu:Nat)(p0:List D.PolicyStep):Option (List D.PolicyStep):=nilC p0 (both (some []) (lec p0.length 34359738368 (some p0))) (lec p0.length 34359738368 (some p0))
theorem U5:FO 184 (Qi [.one (.lst .PolicyStep)] [] [.one (.own 1007)] [ar 1007 .PolicyStep] [] (List D.PolicyStep) (fun q=>((),q,())) (fun x y=>Ym fu x.1)):=fI fu .go (fun a b=>b.1) eN Tryz.func184
def Xn(fu:Nat)(p0:List D.Target):Option (List D.Target):=nilC p0 (both (some []) (lec p0.length 34359738368 (some p0))) (lec p0.length 34359738368 (some p0))
theorem QbI:FO 185 (Qi [.one (.lst .Target)] [] [.one (.own 1007)] [ar 1007 .Target] [] (List D.Target) (fun q=>((),q,())) (fun x y=>Xn fu x.1)):=fI fu .go (fun a b=>b.1) eN Tryz.func185
def QcI(p0:D.PolicyStep):Option D.PolicyStep:=optc (Xn fu p0.Targets) fun a0=>some (D.PolicyStep.mk p0.Wait p0.Urgent a0)
theorem Qjo:FO 151 (Qi [.st .PolicyStep] [] [.st .PolicyStep] [] [] D.PolicyStep (fun q=>((q,()),())) (fun x y=>QcI fu x.1)):=fI fu .go (fun a b=>a.1) (eC (QbI fu) eN) Tryz.func151
def QX(p0:List D.PolicyStep):Option (List D.PolicyStep):=optc (Ym fu p0) fun a0=>Qk (X:=((Int×Int×Unit)×List D.PolicyStep×Unit)) (fun L1 ((a2,a3,_),a4,_)=>cd (a3<a2) (natc a3 fun a5=>ltc a5 a4.length (optc (GetElem?.getElem? a4 a5) fun a6=>optc (QcI fu a6) fun a7=>natc a3 fun a8=>ltc a8 a4.length (optc (GetElem?.getElem? a4 a8) fun a9=>L1 ((a2,(wrap .i64 (a3+1)),()),(List.set a4 a8 a7),())))) (some a4)) fu ((((a0.length:Nat):Int),0,()),a0,())
theorem XR:FO 150 (Qi [.one (.lst .PolicyStep),.one (.fv 151)] [] [.one (.lst .PolicyStep)] [] [] (List D.PolicyStep) (fun q=>((q,()),())) (fun x y=>QX fu x.1)):=fI fu (gs 2 (lp [(1,.one (.fv 151)),(5,.one (.own 1009007)),ni 10,ni 11] [ar 1009007 .PolicyStep] .go)) (fun a b=>a.1) (eC (Qjo fu) (eC (U5 fu) eN)) Tryz.func150
def Qed(p0:D.Policy):Option D.Policy:=optc (QX fu p0.Steps) fun a0=>some (D.Policy.mk p0.Name a0 p0.Repeat)
theorem QkS:FO 99 (Qi [.st .Policy] [] [.st .Policy] [] [] D.Policy (fun q=>((q,()),())) (fun x y=>Qed fu x.1)):=fI fu .go (fun a b=>a.1) (eC (XR fu) eN) Tryz.func99
def Zg(p0:List D.Policy):Option (List D.Policy):=optc (Xm fu p0) fun a0=>Qk (X:=((Int×Int×Unit)×List D.Policy×Unit)) (fun L1 ((a2,a3,_),a4,_)=>cd (a3<a2) (natc a3 fun a5=>ltc a5 a4.length (optc (GetElem?.getElem? a4 a5) fun a6=>optc (Qed fu a6) fun a7=>natc a3 fun a8=>ltc a8 a4.length (optc (GetElem?.getElem? a4 a8) fun a9=>L1 ((a2,(wrap .i64 (a3+1)),()),(List.set a4 a8 a7),())))) (some a4)) fu ((((a0.length:Nat):Int),0,()),a0,())
theorem WM:FO 98 (Qi [.one (.lst .Policy),.one (.fv 99)] [] [.one (.lst .Policy)] [] [] (List D.Policy) (fun q=>((q,()),())) (fun x y=>Zg fu x.1)):=fI fu (gs 2 (lp [(1,.one (.fv 99)),(5,.one (.own 1009007)),ni 10,ni 11] [ar 1009007 .Policy] .go)) (fun a b=>a.1) (eC (QkS fu) (eC (QbH fu) eN)) Tryz.func98
def YQ(fu:Nat)(p0:List D.Start):Option (List D.Start):=nilC p0 (both (some []) (lec p0.length 34359738368 (some p0))) (lec p0.length 34359738368 (some p0))
theorem VV:FO 163 (Qi [.one (.lst .Start)] [] [.one (.own 1007)] [ar 1007 .Start] [] (List D.Start) (fun q=>((),q,())) (fun x y=>YQ fu x.1)):=fI fu .go (fun a b=>b.1) eN Tryz.func163
def Qab(p0:D.Start):Option D.Start:=optc (Qw fu p0.People) fun a0=>some (D.Start.mk p0.K p0.At a0)
theorem Qg6:FO 110 (Qi [.st .Start] [] [.st .Start] [] [] D.Start (fun q=>((q,()),())) (fun x y=>Qab fu x.1)):=fI fu .go (fun a b=>a.1) (eC (QZ fu) eN) Tryz.func110
def ZI(p0:List D.Start):Option (List D.Start):=optc (YQ fu p0) fun a0=>Qk (X:=((Int×Int×Unit)×List D.Start×Unit)) (fun L1 ((a2,a3,_),a4,_)=>cd (a3<a2) (natc a3 fun a5=>ltc a5 a4.length (optc (GetElem?.getElem? a4 a5) fun a6=>optc (Qab fu a6) fun a7=>natc a3 fun a8=>ltc a8 a4.length (optc (GetElem?.getElem? a4 a8) fun a9=>L1 ((a2,(wrap .i64 (a3+1)),()),(List.set a4 a8 a7),())))) (some a4)) fu ((((a0.length:Nat):Int),0,()),a0,())
theorem Wi:FO 109 (Qi [.one (.lst .Start),.one (.fv 110)] [] [.one (.lst .Start)] [] [] (List D.Start) (fun q=>((q,()),())) (fun x y=>ZI fu x.1)):=fI fu (gs 2 (lp [(1,.one (.fv 110)),(5,.one (.own 1009007)),ni 10,ni 11] [ar 1009007 .Start] .go)) (fun a b=>a.1) (eC (Qg6 fu) (eC (VV fu) eN)) Tryz.func109
def Uz(p0:D.Page):Option D.Page:=optc (ZI fu p0.Starts) fun a0=>optc (Qw fu p0.Declined) fun a1=>optc (Qw fu p0.Seen) fun a2=>some (D.Page.mk p0.ID p0.Policy p0.Start p0.Next p0.Due p0.State p0.By p0.Until p0.Last p0.Snoozes p0.Hands a0 a1 a2)
theorem Qec:FO 65 (Qi [.st .Page] [] [.st .Page] [] [] D.Page (fun q=>((q,()),())) (fun x y=>Uz fu x.1)):=fI fu .go (fun a b=>a.1) (eC (QZ fu) (eC (Wi fu) eN)) Tryz.func65
def Zo(p0:List D.Page):Option (List D.Page):=optc (X5 fu p0) fun a0=>Qk (X:=((Int×Int×Unit)×List D.Page×Unit)) (fun L1 ((a2,a3,_),a4,_)=>cd (a3<a2) (natc a3 fun a5=>ltc a5 a4.length (optc (GetElem?.getElem? a4 a5) fun a6=>optc (Uz fu a6) fun a7=>natc a3 fun a8=>ltc a8 a4.length (optc (GetElem?.getElem? a4 a8) fun a9=>L1 ((a2,(wrap .i64 (a3+1)),()),(List.set a4 a8 a7),())))) (some a4)) fu ((((a0.length:Nat):Int),0,()),a0,())
theorem WW:FO 100 (Qi [.one (.lst .Page),.one (.fv 65)] [] [.one (.own 1009007)] [ar 1009007 .Page] [] (List D.Page) (fun q=>((),q,())) (fun x y=>Zo fu x.1)):=fI fu (gs 2 (lp [(1,.one (.fv 65)),(5,.one (.own 1009007)),ni 10,ni 11] [ar 1009007 .Page] .go)) (fun a b=>b.1) (eC (Qec fu) (eC (Qc2 fu) eN)) Tryz.func100
def Qac(p0:D.Ledger):Option D.Ledger:=optc (Zq fu p0.Config.Zones) fun a0=>optc (Q1 fu p0.Config.People) fun a1=>optc (Zf fu p0.Config.Calendars) fun a2=>optc (QN fu p0.Config.Schedules) fun a3=>optc (Zp fu p0.Book.Teams) fun a4=>optc (Zg fu p0.Book.Policies) fun a5=>optc (Zo fu p0.Pages) fun a6=>optc (Qw fu p0.Seen) fun a7=>optc (Xa fu p0.Calls) fun a8=>some (D.Ledger.mk p0.Now (D.Config.mk a0 a1 a2 a3) (D.Book.mk a4 a5) a6 p0.Owner p0.Fence a7 a8)
theorem Qg7:FO 60 (Qi [.st .Ledger] [] [.agg [kI,.lst .Zone,.lst .Person,.lst .Calendar,.lst .Schedule,.lst .Team,.lst .Policy,.own 2060007,kI,kI,.own 1055007,.own 1058007]] [ar 2060007 .Page,ar 1055007 .int,ar 1058007 .Call] [] D.Ledger (fun q=>(((q.Now,q.Config.Zones,q.Config.People,q.Config.Calendars,q.Config.Schedules,q.Book.Teams,q.Book.Policies,q.Owner,q.Fence,()),()),q.Pages,q.Seen,q.Calls,())) (fun x y=>Qac fu x.1)):=fI fu .go (fun a b=>D.Ledger.mk a.1.1 (D.Config.mk a.1.2.1 a.1.2.2.1 a.1.2.2.2.1 a.1.2.2.2.2.1) (D.Book.mk a.1.2.2.2.2.2.1 a.1.2.2.2.2.2.2.1) b.1 a.1.2.2.2.2.2.2.2.1 a.1.2.2.2.2.2.2.2.2.1 b.2.1 b.2.2.1) (eC (WY fu) (eC (We fu) (eC (XC fu) (eC (XD fu) (eC (WX fu) (eC (WM fu) (eC (WW fu) (eC (QZ fu) (eC (V8 fu) eN))))))))) Tryz.func60
def Xk(fu:Nat)(p0:Int)(p1:Int)(p2:Int):Option Bool:=cd (p1≤p0) (cd (p0≤p2) sT sF) sF
theorem Qbf:FO 103 (sB [nI,nI,nI] fun x=>Xk fu x.1 x.2.1 x.2.2.1):=fI fu .go (fun a b=>a.1) eN Tryz.func103
def V4(p0:List Int)(p1:Int):Option Int:=Qk (X:=((List Int×Int×Int×Int×Unit)×Unit)) (fun L0 ((a1,a2,a3,a4,_),_)=>cd (a4<a3) (atc a1 a4 fun a5=>cd (a2=a5) (some a4) (L0 ((a1,a2,a3,(wrap .i64 (a4+1)),()),()))) (some (-1))) fu ((p0,p1,((p0.length:Nat):Int),0,()),())
theorem QdK:FO 112 (sI [lI,nI] fun x=>V4 fu x.1 x.2.1):=fI fu (.two .go (lp [(0,lI),ni 1,ni 7,ni 8] [] .go)) (fun a b=>a.1) eN Tryz.func112
def ZX(p0:List Int)(p1:Int):Option Bool:=optc (V4 fu p0 p1) fun a0=>some (decide (0≤a0))
theorem XF:FO 67 (sB [lI,nI] fun x=>ZX fu x.1 x.2.1):=fI fu .go (fun a b=>a.1) (eC (QdK fu) eN) Tryz.func67
def QcH(p0:List Int):Option Bool:=Qk (X:=((List Int×List Int×Int×Int×Unit)×Unit)) (fun L0 ((a1,a2,a3,a4,_),_)=>cd (a4<a3) (join (Y:=((List Int×List Int×Int×Int×Unit)×Unit)) (fun((a5,a6,a7,a8,_),_)=>L0 ((a5,a6,a7,(wrap .i64 (a8+1)),()),())) fun J9=>atc a2 a4 fun a10=>optc (Xk fu a10 1 1099511627776) fun a11=>cnd a11 (natc a4 fun a12=>lec a12 a1.length (optc (ZX fu (List.take a12 a1) a10) fun a13=>cnd a13 sF (J9 ((a1,a2,a3,a4,()),())))) sF) (some (decide (((a1.length:Nat):Int)≤256)))) fu ((p0,p0,((p0.length:Nat):Int),0,()),())
theorem Qjn:FO 104 (sB [lI] fun x=>QcH fu x.1):=fI fu (.two .go (lp [(0,lI),(5,lI),ni 6,ni 7] [] (gs 2 (.two (.join [(0,lI),(5,lI),ni 6,ni 7] [] .go) .go)))) (fun a b=>a.1) (eC (XF fu) (eC (Qbf fu) eN)) Tryz.func104
def Z5(fu:Nat)(p0:Int)(p1:Int)(p2:Int):Option Bool:=cd (p1≤p0) (cd (p0≤p2) sT sF) sF
theorem XU:FO 201 (sB [nI,nI,nI] fun x=>Z5 fu x.1 x.2.1 x.2.2.1):=fI fu .go (fun a b=>a.1) eN Tryz.func201
def QcM(p0:D.Config)(p1:List Int):Option Int:=cd (((p1.length:Nat):Int)=0) (some 7) (Qk (X:=((List Int×Int×Unit)×D.Config×Unit)) (fun L0 ((a1,a2,_),a3,_)=>cd (a2<((a1.length:Nat):Int)) (atc a1 a2 fun a4=>atc a1 (wrap .i64 (a2 - 1)) fun a5=>cd (a4≤a5) (some 6) (L0 ((a1,(wrap .i64 (a2+1)),()),a3,()))) (join (Y:=(Unit×Unit)) (fun(_,_)=>some 0) fun J6=>atc a1 0 fun a7=>optc (Z5 fu a7 0 (wrap .i64 (((a3.People.length:Nat):Int) - 1))) fun a8=>cnd a8 (atc a1 (wrap .i64 (((a1.length:Nat):Int) - 1)) fun a9=>optc (Z5 fu a9 0 (wrap .i64 (((a3.People.length:Nat):Int) - 1))) fun a10=>cnd a10 (J6 ((),())) (some 3)) (some 3))) fu ((p1,1,()),p0,()))
theorem Qjr:FO 157 (sI [.st .Config,lI] fun x=>QcM fu x.1 x.2.1):=fI fu (gs 2 (.two (.two .go (.one (.loop [(1,lI),rf 2,ni 5] [bx 1002 .Config] .go))) (.two (.join [] [] .go) .go))) (fun a b=>a.1) (eC (XU fu) eN) Tryz.func157
def XV(fu:Nat)(p0:D.Config)(p1:D.Book):Option D.Arr3Int:=some (D.Arr3Int.mk ((p0.People.length:Nat):Int) ((p0.Schedules.length:Nat):Int) ((p1.Teams.length:Nat):Int))
theorem Qb9:FO 244 (Qi [.st .Config,.st .Book] [] [.st .Arr3Int] [] [] D.Arr3Int (fun q=>((q,()),())) (fun x y=>XV fu x.1 x.2.1)):=fI fu .go (fun a b=>a.1) eN Tryz.func244
def Qbh(p0:D.Config)(p1:D.Book)(p2:D.PolicyStep):Option Int:=optc (Z5 fu p2.Wait 0 86400) fun a0=>cnd (!a0) (some 1) (cd (6<((p2.Targets.length:Nat):Int)) (some 5) (optc (XV fu p0 p1) fun a1=>Qk (X:=((List D.Target×Int×Int×Unit)×P3×Unit)) (fun L2 ((a3,a4,a5,_),(a6,a7,a8,_),_)=>cd (a5<a4) (join (Y:=((List D.Target×Int×Int×Unit)×P3×Unit)) (fun((a9,a10,a11,_),(a12,a13,a14,_),_)=>L2 ((a9,a10,(wrap .i64 (a11+1)),()),(a12,a13,a14,()),())) fun J15=>atc a3 a5 fun a16=>optc (Z5 fu a16.Kind 0 2) fun a17=>cnd a17 (cd (a16.Kind=((0:Nat):Int)) (optc (Z5 fu a16.Index 0 (wrap .i64 (a6 - 1))) fun a18=>cnd a18 (J15 ((a3,a4,a5,()),(a6,a7,a8,()),())) (some 3)) (cd (a16.Kind=(((0+1):Nat):Int)) (optc (Z5 fu a16.Index 0 (wrap .i64 (a7 - 1))) fun a19=>cnd a19 (J15 ((a3,a4,a5,()),(a6,a7,a8,()),())) (some 3)) (cd (a16.Kind=((((0+1)+1):Nat):Int)) (optc (Z5 fu a16.Index 0 (wrap .i64 (a8 - 1))) fun a20=>cnd a20 (J15 ((a3,a4,a5,()),(a6,a7,a8,()),())) (some 3)) none))) (some 3)) (some 0)) fu ((p2.Targets,((p2.Targets.length:Nat):Int),0,()),(a1.a0,a1.a1,a1.a2,()),())))
theorem QhW:FO 203 (sI [.st .Config,.st .Book,.st .PolicyStep] fun x=>Qbh fu x.1 x.2.1 x.2.2.1):=fI fu (gs 4 (lp [rf 7,li 22 .Target,ni 23,ni 24] [(1007,.box [kI,kI,kI])] (gs 2 (.two (.join [rf 7,li 22 .Target,ni 23,ni 24] [(1007,.box [kI,kI,kI])] .go) .go)))) (fun a b=>a.1) (eC (XU fu) (eC (Qb9 fu) eN)) Tryz.func203
def Wk(fu:Nat)(p0:Int)(p1:D.Book):Option ByteArray:=atc p1.Policies p0 fun a0=>sameC p1 p1 (some a0.Name)
theorem QeX:FO 202 (Qi [nI,.one (.ref 101)] [bx 101 .Book] [.one .str] [] [101] ByteArray (fun q=>((q,()),())) (fun x y=>Wk fu x.1 y.1)):=fI fu .go (fun a b=>a.1) eN Tryz.func202
def Zi(p0:Int)(c101:D.Book):Option Bool:=Qk (X:=(P3×D.Book×Unit)) (fun L0 ((a1,a2,a3,_),a4,_)=>cd (a3<a2) (optc (Wk fu a3 a4) fun a5=>optc (Wk fu a1 a4) fun a6=>cd (a5=a6) (sameC a4 c101 sT) (L0 ((a1,a2,(wrap .i64 (a3+1)),()),a4,()))) (sameC a4 c101 sF)) fu ((p0,p0,0,()),c101,())
theorem WO:FO 155 (Qi [nI,.one (.clo 202 [101])] [bx 101 .Book] [.one .boo] [] [101] Bool (fun q=>((q,()),())) (fun x y=>Zi fu x.1 y.1)):=fI fu (.two .go (lp [ni 0,(1,.one (.clo 202 [101])),ni 6,ni 7] [bx 101 .Book] .go)) (fun a b=>a.1) (eC (QeX fu) eN) Tryz.func155
def Qb8(p0:D.Config)(p1:D.Book)(p2:Int):Option Int:=atc p1.Policies p2 fun a0=>optc (Uy fu a0.Name) fun a1=>cnd (!a1) (some 8) (optc (Zi fu p2 p1) fun a2=>cnd a2 (some 4) (cd (((a0.Steps.length:Nat):Int)=0) (some 7) (cd (8<((a0.Steps.length:Nat):Int)) (some 5) (optc (Z5 fu a0.Repeat 0 8) fun a3=>cnd (!a3) (some 1) (Qk (X:=((List D.PolicyStep×Int×Int×Unit)×D.Config×D.Book×Unit)) (fun L4 ((a5,a6,a7,_),a8,a9,_)=>cd (a7<a6) (atc a5 a7 fun a10=>optc (Qbh fu a8 a9 a10) fun a11=>cd (a11≠0) (some a11) (L4 ((a5,a6,(wrap .i64 (a7+1)),()),a8,a9,()))) (some 0)) fu ((a0.Steps,((a0.Steps.length:Nat):Int),0,()),p0,p1,()))))))
theorem Qhg:FO 158 (sI [.st .Config,.st .Book,nI] fun x=>Qb8 fu x.1 x.2.1 x.2.2.1):=fI fu (gs 3 (lp [rf 3,rf 4,li 41 .PolicyStep,ni 42,ni 43] [bx 1003 .Config,bx 1004 .Book] .go)) (fun a b=>a.1) (eC (Qa8 fu) (eC (WO fu) (eC (XU fu) (eC (QhW fu) eN)))) Tryz.func158
def Wj(fu:Nat)(p0:Int)(p1:D.Book):Option ByteArray:=atc p1.Teams p0 fun a0=>sameC p1 p1 (some a0.Name)
theorem QeW:FO 156 (Qi [nI,.one (.ref 101)] [bx 101 .Book] [.one .str] [] [101] ByteArray (fun q=>((q,()),())) (fun x y=>Wj fu x.1 y.1)):=fI fu .go (fun a b=>a.1) eN Tryz.func156
def Zh(p0:Int)(c101:D.Book):Option Bool:=Qk (X:=(P3×D.Book×Unit)) (fun L0 ((a1,a2,a3,_),a4,_)=>cd (a3<a2) (optc (Wj fu a3 a4) fun a5=>optc (Wj fu a1 a4) fun a6=>cd (a5=a6) (sameC a4 c101 sT) (L0 ((a1,a2,(wrap .i64 (a3+1)),()),a4,()))) (sameC a4 c101 sF)) fu ((p0,p0,0,()),c101,())
theorem WN:FO 155 (Qi [nI,.one (.clo 156 [101])] [bx 101 .Book] [.one .boo] [] [101] Bool (fun q=>((q,()),())) (fun x y=>Zh fu x.1 y.1)):=fI fu (.two .go (lp [ni 0,(1,.one (.clo 156 [101])),ni 6,ni 7] [bx 101 .Book] .go)) (fun a b=>a.1) (eC (QeW fu) eN) Tryz.func155
def Qae(p0:D.Config)(p1:D.Book):Option Int:=optc (QS fu p0) fun a0=>cd (a0≠0) (some 8) (join (Y:=(Unit×D.Config×D.Book×Unit)) (fun(_,a1,a2,_)=>Qk (X:=((List D.Team×Int×Int×Unit)×D.Config×D.Book×Unit)) (fun L3 ((a4,a5,a6,_),a7,a8,_)=>cd (a6<a5) (atc a4 a6 fun a9=>optc (Uy fu a9.Name) fun a10=>cnd (!a10) (some 8) (optc (Zh fu a6 a8) fun a11=>cnd a11 (some 4) (optc (QcM fu a7 a9.Members) fun a12=>cd (a12≠0) (some a12) (L3 ((a4,a5,(wrap .i64 (a6+1)),()),a7,a8,()))))) (Qk (X:=((Int×Int×Unit)×D.Config×D.Book×Unit)) (fun L13 ((a14,a15,_),a16,a17,_)=>cd (a15<a14) (optc (Qb8 fu a16 a17 a15) fun a18=>cd (a18≠0) (some a18) (L13 ((a14,(wrap .i64 (a15+1)),()),a16,a17,()))) (some 0)) fu ((((a8.Policies.length:Nat):Int),0,()),a7,a8,()))) fu ((a2.Teams,((a2.Teams.length:Nat):Int),0,()),a1,a2,())) fun J19=>cd (8<((p1.Teams.length:Nat):Int)) (some 5) (cd (12<((p1.Policies.length:Nat):Int)) (some 5) (J19 ((),p0,p1,()))))
theorem Qhf:FO 105 (sI [.st .Config,.st .Book] fun x=>Qae fu x.1 x.2.1):=fI fu (gs 2 (.two (.join [rf 2,rf 3] [bx 1002 .Config,bx 1003 .Book] .go) (.two (.two .go (.one (.loop [rf 2,rf 3,li 24 .Team,ni 25,ni 26] [bx 1002 .Config,bx 1003 .Book] .go))) (lp [rf 2,rf 3,ni 48,ni 49] [bx 1002 .Config,bx 1003 .Book] .go)))) (fun a b=>a.1) (eC (V1 fu) (eC (Qa8 fu) (eC (WN fu) (eC (Qjr fu) (eC (Qhg fu) eN))))) Tryz.func105
def QU(fu:Nat)(p0:Int)(p1:Int)(p2:Int):Option Bool:=cd (p1≤p0) (cd (p0≤p2) sT sF) sF
theorem Xz:FO 165 (sB [nI,nI,nI] fun x=>QU fu x.1 x.2.1 x.2.2.1):=fI fu .go (fun a b=>a.1) eN Tryz.func165
def XS(p0:D.Policy):Option Int:=join (Y:=(Unit×D.Policy×Unit)) (fun(_,a0,_)=>some (wrap .i64 (((a0.Steps.length:Nat):Int)*(wrap .i64 (a0.Repeat+1))))) fun J1=>optc (Z5 fu p0.Repeat 0 8) fun a2=>cnd a2 (cd (8<((p0.Steps.length:Nat):Int)) (some 0) (J1 ((),p0,()))) (some 0)
theorem UO:FO 206 (sI [.st .Policy] fun x=>XS fu x.1):=fI fu (.two .go (.two (.join [rf 1] [bx 1001 .Policy] .go) .go)) (fun a b=>a.1) (eC (XU fu) eN) Tryz.func206
def VB(p0:D.Page):Option Bool:=optc (QU fu p0.Last p0.Start 17179869184) fun a0=>cnd a0 (optc (QU fu p0.Due 0 17179869184) fun a1=>cnd a1 (optc (QU fu p0.Until 0 17179869184) fun a2=>cnd a2 (optc (QU fu p0.Snoozes 0 4) fun a3=>cnd a3 (optc (QU fu p0.Hands 0 4) fun a4=>cnd a4 sT sF) sF) sF) sF) sF
theorem QeF:FO 207 (sB [.st .Page] fun x=>VB fu x.1):=fI fu .go (fun a b=>a.1) (eC (Xz fu) eN) Tryz.func207
def VO(p0:List Int):Option Bool:=Qk (X:=((List Int×List Int×Int×Int×Unit)×Unit)) (fun L0 ((a1,a2,a3,a4,_),_)=>cd (a4<a3) (join (Y:=((List Int×List Int×Int×Int×Unit)×Unit)) (fun((a5,a6,a7,a8,_),_)=>L0 ((a5,a6,a7,(wrap .i64 (a8+1)),()),())) fun J9=>atc a2 a4 fun a10=>optc (QU fu a10 0 31) fun a11=>cnd a11 (cd (0<a4) (atc a1 (wrap .i64 (a4 - 1)) fun a12=>cd (a10≤a12) sF (J9 ((a1,a2,a3,a4,()),()))) (J9 ((a1,a2,a3,a4,()),()))) sF) sT) fu ((p0,p0,((p0.length:Nat):Int),0,()),())
theorem QbY:FO 209 (sB [lI] fun x=>VO fu x.1):=fI fu (.two .go (lp [(0,lI),(5,lI),ni 6,ni 7] [] (gs 2 (.two (.join [(0,lI),(5,lI),ni 6,ni 7] [] .go) .go)))) (fun a b=>a.1) (eC (Xz fu) eN) Tryz.func209
def Wo(p0:D.Page):Option Bool:=Qk (X:=((Int×Int×List D.Start×Int×Int×Unit)×D.Page×Unit)) (fun L0 ((a1,a2,a3,a4,a5,_),a6,_)=>cd (a5<a4) (atc a3 a5 fun a7=>join (Y:=((Int×List D.Start×Int×Int×Unit)×D.Page×D.Start×Unit)) (fun((a8,a9,a10,a11,_),a12,a13,_)=>L0 ((a13.At,(max a8 a13.K),a9,a10,(wrap .i64 (a11+1)),()),a12,())) fun J14=>cd (a7.At<a1) sF (optc (VO fu a7.People) fun a15=>cnd a15 (cd (a7.K≠(-1)) (optc (QU fu a7.K (wrap .i64 (a2+1)) (wrap .i64 (a6.Next - 1))) fun a16=>cnd a16 (J14 ((a2,a3,a4,a5,()),a6,a7,())) sF) (J14 ((a2,a3,a4,a5,()),a6,a7,()))) sF)) (some (decide (((a6.Starts.length:Nat):Int)≤200)))) fu ((p0.Start,(-1),p0.Starts,((p0.Starts.length:Nat):Int),0,()),p0,())
theorem Qds:FO 208 (sB [.st .Page] fun x=>Wo fu x.1):=fI fu (gs 2 (lp [rf 1,ni 3,ni 4,li 10 .Start,ni 11,ni 12] [bx 1001 .Page] (gs 2 (.two (.one (.two .go (.two (.join [rf 1,ni 4,rf 6,li 10 .Start,ni 11,ni 12] [bx 1001 .Page,bx 1006 .Start] .go) .go))) .go)))) (fun a b=>a.1) (eC (Xz fu) (eC (QbY fu) eN)) Tryz.func208
def Ui(p0:List Int):Option Bool:=Qk (X:=((List Int×List Int×Int×Int×Unit)×Unit)) (fun L0 ((a1,a2,a3,a4,_),_)=>cd (a4<a3) (atc a2 a4 fun a5=>natc a4 fun a6=>lec a6 a1.length (optc (ZX fu (List.take a6 a1) a5) fun a7=>cnd a7 sF (L0 ((a1,a2,a3,(wrap .i64 (a4+1)),()),())))) (some (decide (((a1.length:Nat):Int)≤64)))) fu ((p0,p0,((p0.length:Nat):Int),0,()),())
theorem Qfy:FO 210 (sB [lI] fun x=>Ui fu x.1):=fI fu (.two .go (lp [(0,lI),(5,lI),ni 6,ni 7] [] .go)) (fun a b=>a.1) (eC (XF fu) eN) Tryz.func210
def VY(p0:D.PolicyStep):Option Bool:=optc (QU fu p0.Wait 0 86400) fun a0=>some (!a0)
theorem Qdr:FO 205 (sB [.st .PolicyStep] fun x=>VY fu x.1):=fI fu .go (fun a b=>a.1) (eC (Xz fu) eN) Tryz.func205
def QP(p0:List D.PolicyStep):Option Int:=Qk (X:=((List D.PolicyStep×Int×Int×Unit)×Unit)) (fun L0 ((a1,a2,a3,_),_)=>cd (a3<a2) (atc a1 a3 fun a4=>optc (VY fu a4) fun a5=>cnd a5 (some a3) (L0 ((a1,a2,(wrap .i64 (a3+1)),()),()))) (some (-1))) fu ((p0,((p0.length:Nat):Int),0,()),())
theorem YD:FO 245 (sI [.one (.lst .PolicyStep),.one (.fv 205)] fun x=>QP fu x.1):=fI fu (.two .go (lp [li 0 .PolicyStep,(1,.one (.fv 205)),ni 7,ni 8] [] .go)) (fun a b=>a.1) (eC (Qdr fu) eN) Tryz.func245
def Qo(p0:List D.PolicyStep):Option Bool:=optc (QP fu p0) fun a0=>some (decide (0≤a0))
theorem Yr:FO 204 (sB [.one (.lst .PolicyStep),.one (.fv 205)] fun x=>Qo fu x.1):=fI fu .go (fun a b=>a.1) (eC (YD fu) eN) Tryz.func204
def ZZ(p0:D.Book)(p1:D.Page):Option Bool:=join (Y:=(Unit×D.Book×D.Page×Unit)) (fun(_,a0,a1,_)=>atc a0.Policies a1.Policy fun a2=>join (Y:=(Unit×D.Page×Unit)) (fun(_,a3,_)=>optc (QU fu a3.State 0 4) fun a4=>cnd a4 (optc (QU fu a3.By (-1) 31) fun a5=>cnd a5 (optc (VB fu a3) fun a6=>cnd a6 (optc (Wo fu a3) fun a7=>cnd a7 (optc (VO fu a3.Declined) fun a8=>cnd a8 (optc (Ui fu a3.Seen) fun a9=>cnd a9 sT sF) sF) sF) sF) sF) sF) fun J10=>optc (Qo fu a2.Steps) fun a11=>cnd a11 sF (optc (XS fu a2) fun a12=>optc (QU fu a1.Next 0 a12) fun a13=>cnd a13 (J10 ((),a1,())) sF)) fun J14=>optc (QU fu p1.ID 1 999999) fun a15=>cnd a15 (optc (QU fu p1.Policy 0 (wrap .i64 (((p0.Policies.length:Nat):Int) - 1))) fun a16=>cnd a16 (optc (QU fu p1.Start 0 8589934592) fun a17=>cnd a17 (J14 ((),p0,p1,())) sF) sF) sF
theorem X1:FO 159 (sB [.st .Book,.st .Page] fun x=>ZZ fu x.1 x.2.1):=fI fu (.two .go (.two (.join [rf 2,rf 3] [bx 1002 .Book,bx 1003 .Page] .go) (.two .go (.two (.join [rf 3] [bx 1003 .Page] .go) .go)))) (fun a b=>a.1) (eC (Xz fu) (eC (Yr fu) (eC (UO fu) (eC (QeF fu) (eC (Qds fu) (eC (QbY fu) (eC (Qfy fu) eN))))))) Tryz.func159
def Qbe(p0:D.Page)(p1:List D.Call)(p2:Int):Option Bool:=Qk (X:=((List D.Call×Int×Int×Int×List D.Start×Int×Int×Unit)×D.Page×Unit)) (fun L0 ((a1,a2,a3,a4,a5,a6,a7,_),a8,_)=>cd (a7<a6) (atc a5 a7 fun a9=>Qk (X:=((List D.Call×Int×Int×Int×List D.Start×Int×Int×List Int×Int×Int×Unit)×D.Page×D.Start×Unit)) (fun L10 ((a11,a12,a13,a14,a15,a16,a17,a18,a19,a20,_),a21,a22,_)=>cd (a20<a19) (atc a18 a20 fun a23=>join (Y:=((List D.Call×Int×Int×List D.Start×Int×Int×List Int×Int×Int×Unit)×D.Page×D.Start×Unit)) (fun((a24,a25,a26,a27,a28,a29,a30,a31,a32,_),a33,a34,_)=>atc a24 a26 fun a35=>L10 ((a24,a25,(wrap .i64 (a26+1)),a35.Fence,a27,a28,a29,a30,a31,(wrap .i64 (a32+1)),()),a33,a34,())) fun J36=>cd (a13=((a11.length:Nat):Int)) sF (atc a11 a13 fun a37=>optc (Xk fu a37.Fence a14 a12) fun a38=>cnd a38 (atc a11 a13 fun a39=>atc a11 a13 fun a40=>cd ((a39.Page::(a39.K::(a39.At::(a39.Person::(a39.Fence::[])))))≠(a21.ID::(a22.K::(a22.At::(a23::(a40.Fence::[])))))) sF (J36 ((a11,a12,a13,a15,a16,a17,a18,a19,a20,()),a21,a22,()))) sF)) (L0 ((a11,a12,a13,a14,a15,a16,(wrap .i64 (a17+1)),()),a21,()))) fu ((a1,a2,a3,a4,a5,a6,a7,a9.People,((a9.People.length:Nat):Int),0,()),a8,a9,())) (some (decide (a3=((a1.length:Nat):Int))))) fu ((p1,p2,0,0,p0.Starts,((p0.Starts.length:Nat):Int),0,()),p0,())
theorem QhQ:FO 162 (sB [.st .Page,.one (.lst .Call),nI] fun x=>Qbe fu x.1 x.2.1 x.2.2.1):=fI fu (gs 2 (lp [li 1 .Call,ni 2,rf 3,ni 7,ni 8,li 14 .Start,ni 15,ni 16] [bx 1003 .Page] (gs 2 (.two (.one (gs 2 (.one (.loop [li 1 .Call,ni 2,rf 3,ni 7,ni 8,rf 10,li 14 .Start,ni 15,ni 16,(21,lI),ni 22,ni 23] [bx 1003 .Page,bx 1010 .Start] (gs 2 (.two (.one (.two .go (.two (.join [li 1 .Call,ni 2,rf 3,ni 7,rf 10,li 14 .Start,ni 15,ni 16,(21,lI),ni 22,ni 23] [bx 1003 .Page,bx 1010 .Start] .go) .go))) .go)))))) .go)))) (fun a b=>a.1) (eC (Qbf fu) eN) Tryz.func162
def WZ(fu:Nat)(p0:D.Call)(p1:D.Page):Option Bool:=sameC p1 p1 (some (decide (p0.Page≠p1.ID)))
theorem QbB:FO 161 (Qi [.st .Call,.one (.ref 101)] [bx 101 .Page] [.one .boo] [] [101] Bool (fun q=>((q,()),())) (fun x y=>WZ fu x.1 y.1)):=fI fu .go (fun a b=>a.1) eN Tryz.func161
def QM(p0:List D.Call)(c102:D.Page):Option Int:=Qk (X:=((Int×Int×Unit)×D.Page×List D.Call×Unit)) (fun L0 ((a1,a2,_),a3,a4,_)=>cd (a2<a1) (natc a2 fun a5=>ltc a5 a4.length (optc (GetElem?.getElem? a4 a5) fun a6=>optc (WZ fu a6 a3) fun a7=>cnd a7 (sameC a4 p0 (sameC a3 c102 (some a2))) (L0 ((a1,(wrap .i64 (a2+1)),()),a3,a4,())))) (sameC a4 p0 (sameC a3 c102 (some (-1))))) fu ((((p0.length:Nat):Int),0,()),c102,p0,())
theorem Xw:FO 211 (Qi [.one (.own 101),.one (.clo 161 [102])] [ar 101 .Call,bx 102 .Page] [nI] [] [101,102] Int (fun q=>((q,()),())) (fun x y=>QM fu y.1 y.2.1)):=fI fu (.two .go (lp [(0,.one (.own 101)),(1,.one (.clo 161 [102])),ni 7,ni 8] [bx 102 .Page,ar 101 .Call] .go)) (fun a b=>a.1) (eC (QbB fu) eN) Tryz.func211
def QI(p0:List D.Call)(c102:D.Page):Option (Nat×Nat×List D.Call):=optc (QM fu p0 c102) fun a0=>cd (a0=(-1)) (sameC c102 c102 (some (0,p0.length,p0))) (Qk (X:=((Int×Int×Unit)×D.Page×List D.Call×Unit)) (fun L1 ((a2,a3,_),a4,a5,_)=>cd (a3<((a5.length:Nat):Int)) (join (Y:=((Int×Int×Unit)×D.Page×List D.Call×Unit)) (fun((a6,a7,_),a8,a9,_)=>L1 ((a6,(wrap .i64 (a7+1)),()),a8,a9,())) fun J10=>natc a3 fun a11=>ltc a11 a5.length (optc (GetElem?.getElem? a5 a11) fun a12=>optc (WZ fu a12 a4) fun a13=>cnd (!a13) (natc a2 fun a14=>ltc a14 a5.length (optc (GetElem?.getElem? a5 a14) fun a15=>J10 (((wrap .i64 (a2+1)),a3,()),a4,(List.set a5 a14 a12),()))) (J10 ((a2,a3,()),a4,a5,())))) (natc a2 fun a16=>lec a16 a5.length (lec a16 a5.length (lec a5.length a5.length (natc a2 fun a17=>lec a17 (List.length (((List.take a16 a5)++(List.replicate (a5.length - a16) (D.Call.mk 0 0 0 0 0)))++(List.drop a5.length a5))) (sameC a4 c102 (some (0,a17,(((List.take a16 a5)++(List.replicate (a5.length - a16) (D.Call.mk 0 0 0 0 0)))++(List.drop a5.length a5)))))))))) fu ((a0,(wrap .i64 (a0+1)),()),c102,p0,()))
theorem Xo:FO 160 (Qi [.one (.own 101),.one (.clo 161 [102])] [ar 101 .Call,bx 102 .Page] [.one (.view 101)] [ar 101 .Call] [102] (Nat×Nat×List D.Call) (fun q=>((q.1,q.2.1,()),q.2.2,())) (fun x y=>QI fu y.1 y.2.1)):=fI fu (gs 3 (lp [(0,.one (.own 101)),(1,.one (.clo 161 [102])),ni 5,ni 6] [bx 102 .Page,ar 101 .Call] (.two .go (.two (.join [(0,.one (.own 101)),(1,.one (.clo 161 [102])),ni 5,ni 6] [bx 102 .Page,ar 101 .Call] .go) .go)))) (fun a b=>(a.1,a.2.1,b.1)) (eC (QbB fu) (eC (Xw fu) eN)) Tryz.func160
def QdA(p0:D.Ledger):Option Bool:=Qk (X:=((Int×List D.Page×Int×Int×Unit)×D.Ledger×Unit)) (fun L0 ((a1,a2,a3,a4,_),a5,_)=>cd (a4<a3) (atc a2 a4 fun a6=>join (Y:=((Int×List D.Page×Int×Int×Unit)×D.Ledger×D.Page×Unit)) (fun((a7,a8,a9,a10,_),a11,a12,_)=>optc (Xa fu a11.Calls) fun a13=>optc (QI fu a13 a12) fun(a14,a15,a16)=>optc (Qbe fu a12 (List.drop a14 (List.take a15 a16)) a11.Fence) fun a17=>cnd (!a17) sF (L0 (((wrap .i64 (a7+(((List.length (List.drop a14 (List.take a15 a16))):Nat):Int))),a8,a9,(wrap .i64 (a10+1)),()),a11,()))) fun J18=>cd (0<a4) (atc a5.Pages (wrap .i64 (a4 - 1)) fun a19=>cd (a6.ID≤a19.ID) sF (optc (ZZ fu a5.Book a6) fun a20=>cnd a20 (cd (a5.Now<a6.Last) sF (J18 ((a1,a2,a3,a4,()),a5,a6,()))) sF)) (optc (ZZ fu a5.Book a6) fun a21=>cnd a21 (cd (a5.Now<a6.Last) sF (J18 ((a1,a2,a3,a4,()),a5,a6,()))) sF)) (some (decide (a1=((a5.Calls.length:Nat):Int))))) fu ((0,p0.Pages,((p0.Pages.length:Nat):Int),0,()),p0,())
theorem QhS:FO 106 (sB [.st .Ledger] fun x=>QdA fu x.1):=fI fu (gs 2 (lp [rf 1,ni 3,li 8 .Page,ni 9,ni 10] [bx 1001 .Ledger] (gs 2 (.two (.one (.two .go (.two (.join [rf 1,ni 3,rf 5,li 8 .Page,ni 9,ni 10] [bx 1001 .Ledger,bx 1005 .Page] .go) .go))) .go)))) (fun a b=>a.1) (eC (V8 fu) (eC (X1 fu) (eC (Xo fu) (eC (QhQ fu) eN)))) Tryz.func106
def UN(p0:D.Ledger):Option Bool:=join (Y:=(Unit×D.Ledger×Unit)) (fun(_,a0,_)=>optc (Qae fu a0.Config a0.Book) fun a1=>cd (a1=0) (optc (QdA fu a0) fun a2=>cnd a2 sT sF) sF) fun J3=>optc (Xk fu p0.Now 0 8589934592) fun a4=>cnd a4 (cd (64<((p0.Pages.length:Nat):Int)) sF (optc (Xk fu p0.Owner (-1) 4) fun a5=>cnd a5 (optc (Xk fu p0.Fence 0 1048576) fun a6=>cnd a6 (optc (QcH fu p0.Seen) fun a7=>cnd a7 (J3 ((),p0,())) sF) sF) sF)) sF
theorem QhN:FO 61 (sB [.st .Ledger] fun x=>UN fu x.1):=fI fu (.two .go (.two (.join [rf 1] [bx 1001 .Ledger] .go) .go)) (fun a b=>a.1) (eC (Qbf fu) (eC (Qjn fu) (eC (Qhf fu) (eC (QhS fu) eN)))) Tryz.func61
def WP(fu:Nat)(p0:Int)(p1:Int)(p2:Int):Option Bool:=cd (p1≤p0) (cd (p0≤p2) sT sF) sF
theorem Qj0:FO 164 (sB [nI,nI,nI] fun x=>WP fu x.1 x.2.1 x.2.2.1):=fI fu .go (fun a b=>a.1) eN Tryz.func164
def VK(p0:D.Answer):Option Bool:=join (Y:=((Int×Int×Unit)×D.Answer×Unit)) (fun((a0,a1,_),a2,_)=>optc (WP fu a2.ID 1 999999) fun a3=>cnd a3 (optc (WP fu a2.Page 1 999999) fun a4=>cnd a4 (optc (WP fu a2.Person (-1) 31) fun a5=>cnd a5 (optc (WP fu a2.At 0 8589934592) fun a6=>cnd a6 (optc (WP fu a2.Kind 1 5) fun a7=>cnd a7 (optc (WP fu a2.Arg a0 a1) fun a8=>cnd a8 sT sF) sF) sF) sF) sF) sF) fun J9=>cd (p0.Kind=3) (J9 ((1,86400,()),p0,())) (cd (p0.Kind=4) (J9 ((0,31,()),p0,())) (J9 ((0,0,()),p0,())))
theorem QbP:FO 111 (sB [.st .Answer] fun x=>VK fu x.1):=fI fu (gs 2 (.two (.join [rf 1,ni 3,ni 4] [bx 1001 .Answer] .go) .go)) (fun a b=>a.1) (eC (Qj0 fu) eN) Tryz.func111
def Qbc(p0:D.Op):Option Bool:=optc (Xk fu p0.ID 1 1099511627776) fun a0=>cnd a0 (optc (Xk fu p0.Kind 1 5) fun a1=>cnd a1 (optc (Xk fu p0.Region 0 4) fun a2=>cnd a2 (optc (Xk fu p0.Fence 0 1048576) fun a3=>cnd a3 (optc (Xk fu p0.At 0 8589934592) fun a4=>cnd a4 (optc (Xk fu p0.Page 0 999999) fun a5=>cnd a5 (optc (Xk fu p0.K (-1) 1000) fun a6=>cnd a6 (cd (p0.Kind≠4) sT (optc (VK fu p0.Answer) fun a7=>cnd a7 sT sF)) sF) sF) sF) sF) sF) sF) sF
theorem QhO:FO 66 (sB [.st .Op] fun x=>Qbc fu x.1):=fI fu .go (fun a b=>a.1) (eC (Qbf fu) (eC (QbP fu) eN)) Tryz.func66
def XQ(fu:Nat)(p0:D.Page)(p1:Int):Option Int:=some (wrap .i64 (p0.ID - p1))
theorem Qb6:FO 108 (sI [.st .Page,nI] fun x=>XQ fu x.1 x.2.1):=fI fu .go (fun a b=>a.1) eN Tryz.func108
def ZP(p0:List D.Page)(p1:Int):Option (Int×Bool):=Qk (X:=((List D.Page×Int×Int×Int×Int×Unit)×Unit)) (fun L0 ((a1,a2,a3,a4,a5,_),_)=>cd (a4<a5) (natc 1 fun a6=>atc a1 (wrap .i64 (Int.fdiv (IntKind.wrap .u64 (wrap .i64 (a4+a5))) (HPow.hPow 2 (min a6 (Go.IntKind.bits Go.IntKind.u64))))) fun a7=>optc (XQ fu a7 a2) fun a8=>cd (a8<0) (L0 ((a1,a2,a3,(wrap .i64 ((wrap .i64 (Int.fdiv (IntKind.wrap .u64 (wrap .i64 (a4+a5))) (HPow.hPow 2 (min a6 (Go.IntKind.bits Go.IntKind.u64)))))+1)),a5,()),())) (L0 ((a1,a2,a3,a4,(wrap .i64 (Int.fdiv (IntKind.wrap .u64 (wrap .i64 (a4+a5))) (HPow.hPow 2 (min a6 (Go.IntKind.bits Go.IntKind.u64))))),()),()))) (cd (a4<a3) (atc a1 a4 fun a9=>optc (XQ fu a9 a2) fun a10=>cd (a10=0) (some (a4,true)) (some (a4,false))) (some (a4,false)))) fu ((p0,p1,((p0.length:Nat):Int),0,((p0.length:Nat):Int),()),())
theorem Y9:FO 107 (Qi [.one (.lst .Page),nI,.one (.fv 108)] [] [nI,.one .boo] [] [] (Int×Bool) (fun q=>((q.1,q.2,()),())) (fun x y=>ZP fu x.1 x.2.1)):=fI fu (gs 3 (.two (.one (.loop [li 0 .Page,ni 1,(2,.one (.fv 108)),ni 8,ni 9,ni 10] [] .go)) .go)) (fun a b=>(a.1,a.2.1)) (eC (Qb6 fu) eN) Tryz.func107
def Qir(p0:D.Ledger)(p1:Int):Option (Int×Bool):=optc (ZP fu p0.Pages p1) fun(a0,a1)=>some (a0,a1)
theorem Qjl:FO 64 (Qi [.st .Ledger,nI] [] [nI,.one .boo] [] [] (Int×Bool) (fun q=>((q.1,q.2,()),())) (fun x y=>Qir fu x.1 x.2.1)):=fI fu .go (fun a b=>(a.1,a.2.1)) (eC (Y9 fu) eN) Tryz.func64
def QbX(p0:D.Book)(p1:Int)(p2:Int)(p3:Int):Option (D.Page×Int):=join (Y:=(P3×D.Book×D.Page×Unit)) (fun((a0,a1,a2,_),a3,a4,_)=>optc (QU fu a1 0 (wrap .i64 (((a3.Policies.length:Nat):Int) - 1))) fun a5=>cnd (!a5) (some ((D.Page.mk 0 0 0 0 0 0 0 0 0 0 0 [] [] []),3)) (some ((D.Page.mk a0 a1 a2 0 a2 0 (-1) 0 a2 0 0 [] [] []),0))) fun J6=>optc (QU fu p1 1 999999) fun a7=>cnd a7 (optc (QU fu p3 0 8589934592) fun a8=>cnd a8 (J6 ((p1,p2,p3,()),p0,(D.Page.mk 0 0 0 0 0 0 0 0 0 0 0 [] [] []),())) (some ((D.Page.mk 0 0 0 0 0 0 0 0 0 0 0 [] [] []),1))) (some ((D.Page.mk 0 0 0 0 0 0 0 0 0 0 0 [] [] []),1))
theorem QgH:FO 113 (Qi [.st .Book,nI,nI,nI] [] [.st .Page,nI] [] [] (D.Page×Int) (fun q=>((q.1,q.2,()),())) (fun x y=>QbX fu x.1 x.2.1 x.2.2.1 x.2.2.2.1)):=fI fu (.two .go (.two (.join [ni 1,ni 2,ni 3,rf 4,rf 8] [bx 1004 .Book,bx 1008 .Page] .go) .go)) (fun a b=>(a.1,a.2.1)) (eC (Xz fu) eN) Tryz.func113
def XK(fu:Nat)(p0:List Int):Option (List Int):=nilC p0 (both (some []) (lec p0.length 34359738368 (some p0))) (lec p0.length 34359738368 (some p0))
theorem Qcr:FO 101 (Qi [lI] [] [lI] [] [] (List Int) (fun q=>((q,()),())) (fun x y=>XK fu x.1)):=fI fu .go (fun a b=>a.1) eN Tryz.func101
def Y6(p0:D.Page):Option D.Page:=optc (YQ fu p0.Starts) fun a0=>Qk (X:=((Int×Int×Unit)×(Int×Int×Int×Int×Int×Int×Int×Int×Int×Int×Int×List Int×List Int×Unit)×D.Page×List D.Start×Unit)) (fun L1 ((a2,a3,_),(a4,a5,a6,a7,a8,a9,a10,a11,a12,a13,a14,a15,a16,_),a17,a18,_)=>cd (a3<a2) (natc a3 fun a19=>ltc a19 a18.length (optc (GetElem?.getElem? a18 a19) fun a20=>optc (XK fu a20.People) fun a21=>natc a3 fun a22=>ltc a22 a18.length (optc (GetElem?.getElem? a18 a22) fun a23=>L1 ((a2,(wrap .i64 (a3+1)),()),(a4,a5,a6,a7,a8,a9,a10,a11,a12,a13,a14,a15,a16,()),a17,(List.set a18 a22 (D.Start.mk a23.K a23.At a21)),())))) (optc (Qw fu a15) fun a24=>optc (Qw fu a16) fun a25=>some (D.Page.mk a4 a5 a6 a7 a8 a9 a10 a11 a12 a13 a14 a18 a24 a25))) fu ((((a0.length:Nat):Int),0,()),(p0.ID,p0.Policy,p0.Start,p0.Next,p0.Due,p0.State,p0.By,p0.Until,p0.Last,p0.Snoozes,p0.Hands,p0.Declined,p0.Seen,()),(D.Page.mk 0 0 0 0 0 0 0 0 0 0 0 [] [] []),a0,())
theorem WU:FO 169 (Qi [.st .Page] [] [.agg [kI,kI,kI,kI,kI,kI,kI,kI,kI,kI,kI,.own 1007007,.own 1030007,.own 1033007]] [ar 1007007 .Start,ar 1030007 .int,ar 1033007 .int] [] D.Page (fun q=>(((q.ID,q.Policy,q.Start,q.Next,q.Due,q.State,q.By,q.Until,q.Last,q.Snoozes,q.Hands,()),()),q.Starts,q.Declined,q.Seen,())) (fun x y=>Y6 fu x.1)):=fI fu (gs 2 (lp [rf 1,rf 2,ni 10,ni 11] [(1001,.box [kI,kI,kI,kI,kI,kI,kI,kI,kI,kI,kI,.own 1007007,.lst .int,.lst .int]),bx 1002 .Page,ar 1007007 .Start] .go)) (fun a b=>D.Page.mk a.1.1 a.1.2.1 a.1.2.2.1 a.1.2.2.2.1 a.1.2.2.2.2.1 a.1.2.2.2.2.2.1 a.1.2.2.2.2.2.2.1 a.1.2.2.2.2.2.2.2.1 a.1.2.2.2.2.2.2.2.2.1 a.1.2.2.2.2.2.2.2.2.2.1 a.1.2.2.2.2.2.2.2.2.2.2.1 b.1 b.2.1 b.2.2.1) (eD 24 (Qcr fu) (eC (QZ fu) (eC (VV fu) eN))) Tryz.func169
def WE(fu:Nat)(p0:D.Page):Option (Int×Bool):=cd (p0.State=0) (some (p0.Due,true)) (cd (p0.State=2) (some (p0.Until,true)) (some (0,false)))
theorem UJ:FO 62 (Qi [.st .Page] [] [nI,.one .boo] [] [] (Int×Bool) (fun q=>((q.1,q.2,()),())) (fun x y=>WE fu x.1)):=fI fu .go (fun a b=>(a.1,a.2.1)) eN Tryz.func62
def VC(p0:D.Page)(p1:Int):Option Bool:=optc (WE fu p0) fun(a0,a1)=>cnd a1 (cd (a0≤p1) sT sF) sF
theorem QeG:FO 213 (sB [.st .Page,nI] fun x=>VC fu x.1 x.2.1):=fI fu .go (fun a b=>a.1) (eC (UJ fu) eN) Tryz.func213
def UP(p0:D.Policy)(p1:Int):Option (Int×Int×Bool):=optc (XS fu p0) fun a0=>optc (Z5 fu p1 0 (wrap .i64 (a0 - 1))) fun a1=>cnd (!a1) (some (0,0,false)) (nzc ((p0.Steps.length:Nat):Int) (nzc ((p0.Steps.length:Nat):Int) (some ((Int.tmod p1 ((p0.Steps.length:Nat):Int)),(wrap .i64 (Int.tdiv p1 ((p0.Steps.length:Nat):Int))),true))))
theorem QhV:FO 262 (Qi [.st .Policy,nI] [] [nI,nI,.one .boo] [] [] (Int×Int×Bool) (fun q=>((q.1,q.2.1,q.2.2,()),())) (fun x y=>UP fu x.1 x.2.1)):=fI fu .go (fun a b=>(a.1,a.2.1,a.2.2.1)) (eC (XU fu) (eC (UO fu) eN)) Tryz.func262
def Qb4(fu:Nat)(p0:Int):Option Int:=join (Y:=((Int×Int×Unit)×Unit)) (fun((a0,a1,_),_)=>join (Y:=((Int×Int×Unit)×Unit)) (fun((a2,a3,_),_)=>join (Y:=((Int×Int×Unit)×Unit)) (fun((a4,a5,_),_)=>natc (IntKind.wrap .u8 a4) fun a6=>ltc a6 (ByteArray.size (ByteArray.mk (List.toArray (List.append (List.append (0::(1::(2::(2::(3::(3::(3::(3::(4::(4::(4::(4::(4::(4::(4::(4::(5::(5::(5::(5::(5::(5::(5::(5::(5::(5::(5::(5::(5::(5::(5::(5::(6::(6::(6::(6::(6::(6::(6::(6::(6::(6::(6::(6::(6::(6::(6::(6::(6::(6::(6::(6::(6::(6::(6::(6::(6::(6::(6::(6::(6::(6::(6::(6::[])))))))))))))))))))))))))))))))))))))))))))))))))))))))))))))))) (7::(7::(7::(7::(7::(7::(7::(7::(7::(7::(7::(7::(7::(7::(7::(7::(7::(7::(7::(7::(7::(7::(7::(7::(7::(7::(7::(7::(7::(7::(7::(7::(7::(7::(7::(7::(7::(7::(7::(7::(7::(7::(7::(7::(7::(7::(7::(7::(7::(7::(7::(7::(7::(7::(7::(7::(7::(7::(7::(7::(7::(7::(7::(7::[]))))))))))))))))))))))))))))))))))))))))))))))))))))))))))))))))) (List.append (8::(8::(8::(8::(8::(8::(8::(8::(8::(8::(8::(8::(8::(8::(8::(8::(8::(8::(8::(8::(8::(8::(8::(8::(8::(8::(8::(8::(8::(8::(8::(8::(8::(8::(8::(8::(8::(8::(8::(8::(8::(8::(8::(8::(8::(8::(8::(8::(8::(8::(8::(8::(8::(8::(8::(8::(8::(8::(8::(8::(8::(8::(8::(8::[])))))))))))))))))))))))))))))))))))))))))))))))))))))))))))))))) (8::(8::(8::(8::(8::(8::(8::(8::(8::(8::(8::(8::(8::(8::(8::(8::(8::(8::(8::(8::(8::(8::(8::(8::(8::(8::(8::(8::(8::(8::(8::(8::(8::(8::(8::(8::(8::(8::(8::(8::(8::(8::(8::(8::(8::(8::(8::(8::(8::(8::(8::(8::(8::(8::(8::(8::(8::(8::(8::(8::(8::(8::(8::(8::[]))))))))))))))))))))))))))))))))))))))))))))))))))))))))))))))))))))) (some (wrap .i64 (a5+(wrap .i64 (((bAt (ByteArray.mk (List.toArray (List.append (List.append (0::(1::(2::(2::(3::(3::(3::(3::(4::(4::(4::(4::(4::(4::(4::(4::(5::(5::(5::(5::(5::(5::(5::(5::(5::(5::(5::(5::(5::(5::(5::(5::(6::(6::(6::(6::(6::(6::(6::(6::(6::(6::(6::(6::(6::(6::(6::(6::(6::(6::(6::(6::(6::(6::(6::(6::(6::(6::(6::(6::(6::(6::(6::(6::[])))))))))))))))))))))))))))))))))))))))))))))))))))))))))))))))) (7::(7::(7::(7::(7::(7::(7::(7::(7::(7::(7::(7::(7::(7::(7::(7::(7::(7::(7::(7::(7::(7::(7::(7::(7::(7::(7::(7::(7::(7::(7::(7::(7::(7::(7::(7::(7::(7::(7::(7::(7::(7::(7::(7::(7::(7::(7::(7::(7::(7::(7::(7::(7::(7::(7::(7::(7::(7::(7::(7::(7::(7::(7::(7::[]))))))))))))))))))))))))))))))))))))))))))))))))))))))))))))))))) (List.append (8::(8::(8::(8::(8::(8::(8::(8::(8::(8::(8::(8::(8::(8::(8::(8::(8::(8::(8::(8::(8::(8::(8::(8::(8::(8::(8::(8::(8::(8::(8::(8::(8::(8::(8::(8::(8::(8::(8::(8::(8::(8::(8::(8::(8::(8::(8::(8::(8::(8::(8::(8::(8::(8::(8::(8::(8::(8::(8::(8::(8::(8::(8::(8::[])))))))))))))))))))))))))))))))))))))))))))))))))))))))))))))))) (8::(8::(8::(8::(8::(8::(8::(8::(8::(8::(8::(8::(8::(8::(8::(8::(8::(8::(8::(8::(8::(8::(8::(8::(8::(8::(8::(8::(8::(8::(8::(8::(8::(8::(8::(8::(8::(8::(8::(8::(8::(8::(8::(8::(8::(8::(8::(8::(8::(8::(8::(8::(8::(8::(8::(8::(8::(8::(8::(8::(8::(8::(8::(8::[])))))))))))))))))))))))))))))))))))))))))))))))))))))))))))))))))))) a6):Nat):Int)))))) fun J7=>cd (256≤a2) (natc 8 fun a8=>J7 (((Int.fdiv a2 (HPow.hPow 2 (min a8 (Go.IntKind.bits Go.IntKind.u64)))),(wrap .i64 (a3+8)),()),())) (J7 ((a2,a3,()),()))) fun J9=>cd (65536≤a0) (natc 16 fun a10=>J9 (((Int.fdiv a0 (HPow.hPow 2 (min a10 (Go.IntKind.bits Go.IntKind.u64)))),(wrap .i64 (a1+16)),()),())) (J9 ((a0,a1,()),()))) fun J11=>cd (4294967296≤p0) (natc 32 fun a12=>J11 (((Int.fdiv p0 (HPow.hPow 2 (min a12 (Go.IntKind.bits Go.IntKind.u64)))),32,()),())) (J11 ((p0,0,()),()))
theorem Qd9:FO 277 (sI [.one (.num .u64)] fun x=>Qb4 fu x.1):=fI fu (.two .go (.two (.join [(0,.one (.num .u64)),ni 2] [] .go) (.two (.join [(0,.one (.num .u64)),ni 2] [] .go) (.two (.join [(0,.one (.num .u64)),ni 2] [] .go) .go)))) (fun a b=>a.1) eN Tryz.func277
def Um(p0:Int):Option Int:=optc (Qb4 fu p0) fun a0=>some a0
theorem QbA:FO 249 (sI [.one (.num .u64)] fun x=>Um fu x.1):=fI fu .go (fun a b=>a.1) (eC (Qd9 fu) eN) Tryz.func249
def Qqk(p0:D.Zone):Option (D.Table×Int):=optc (V6 fu p0) fun(a0,a1)=>some ((D.Table.mk p0.Offset a0),a1)
theorem Qn2:FO 339 (Qi [.st .Zone] [] [.st .Table,nI] [] [] (D.Table×Int) (fun q=>((q.1,q.2,()),())) (fun x y=>Qqk fu x.1)):=fI fu .go (fun a b=>(a.1,a.2.1)) (eC (UW fu) eN) Tryz.func339
def QdP(p0:List D.Zone):Option (List D.Table):=Qk (X:=((List D.Zone×Int×Int×Unit)×List D.Table×Unit)) (fun L0 ((a1,a2,a3,_),a4,_)=>cd (a3<a2) (atc a1 a3 fun a5=>optc (Qqk fu a5) fun(a6,a7)=>lec (a4.length+(List.length (a6::[]))) 34359738368 (L0 ((a1,a2,(wrap .i64 (a3+1)),()),(a4++(a6::[])),()))) (some a4)) fu ((p0,((p0.length:Nat):Int),0,()),[],())
theorem Qh4:FO 331 (Qi [.one (.lst .Zone)] [] [.one (.lst .Table)] [] [] (List D.Table) (fun q=>((q,()),())) (fun x y=>QdP fu x.1)):=fI fu (gs 2 (lp [(3,.one (.own 1022)),li 8 .Zone,ni 9,ni 10] [ar 1022 .Table] .go)) (fun a b=>a.1) (eC (Qn2 fu) eN) Tryz.func331
def QgE(p0:D.Config):Option D.View:=optc (QdP fu p0.Zones) fun a0=>some (D.View.mk p0 a0)
theorem Qkp:FO 323 (Qi [.st .Config] [] [.st .View] [] [] D.View (fun q=>((q,()),())) (fun x y=>QgE fu x.1)):=fI fu .go (fun a b=>a.1) (eC (Qh4 fu) eN) Tryz.func323
def QgC(p0:D.Config):Option (D.View×Bool):=optc (QS fu p0) fun a0=>cd (a0≠0) (some ((D.View.mk (D.Config.mk [] [] [] []) []),false)) (optc (QgE fu p0) fun a1=>some (a1,true))
theorem Qih:FO 312 (Qi [.st .Config] [] [.st .View,.one .boo] [] [] (D.View×Bool) (fun q=>((q.1,q.2,()),())) (fun x y=>QgC fu x.1)):=fI fu .go (fun a b=>(a.1,a.2.1)) (eC (V1 fu) (eC (Qkp fu) eN)) Tryz.func312
def Qdp(fu:Nat)(p0:D.Edit)(p1:Int):Option Bool:=cd (p0.From≤p1) (cd (p1<p0.To) sT sF) sF
theorem QhH:FO 345 (sB [.st .Edit,nI] fun x=>Qdp fu x.1 x.2.1):=fI fu .go (fun a b=>a.1) eN Tryz.func345
def QdX(p0:List D.Edit)(p1:Int)(p2:Int):Option Int:=Qk (X:=((Int×Int×List D.Edit×Int×Int×Unit)×Unit)) (fun L0 ((a1,a2,a3,a4,a5,_),_)=>cd (a5<a4) (join (Y:=((Int×Int×List D.Edit×Int×Int×Unit)×Unit)) (fun((a6,a7,a8,a9,a10,_),_)=>L0 ((a6,a7,a8,a9,(wrap .i64 (a10+1)),()),())) fun J11=>atc a3 a5 fun a12=>optc (Qdp fu a12 a2) fun a13=>cnd a13 (cd (a12.Kind=0) (J11 ((a1,a2,a3,a4,a5,()),())) (cd (a12.Kind=1) (J11 ((a12.A,a2,a3,a4,a5,()),())) (cd (a12.Kind≠2) (J11 ((a1,a2,a3,a4,a5,()),())) (cd (a1=a12.A) (J11 ((a12.B,a2,a3,a4,a5,()),())) (cd (a1=a12.B) (J11 ((a12.A,a2,a3,a4,a5,()),())) (J11 ((a1,a2,a3,a4,a5,()),()))))))) (J11 ((a1,a2,a3,a4,a5,()),()))) (some a1)) fu ((p1,p2,p0,((p0.length:Nat):Int),0,()),())
theorem Qkv:FO 338 (sI [.one (.lst .Edit),nI,nI] fun x=>QdX fu x.1 x.2.1 x.2.2.1):=fI fu (.two .go (lp [ni 1,ni 2,li 9 .Edit,ni 10,ni 11] [] (gs 2 (.two (.join [ni 1,ni 2,li 9 .Edit,ni 10,ni 11] [] .go) .go)))) (fun a b=>a.1) (eC (QhH fu) eN) Tryz.func338
def QcA(p0:D.View)(p1:D.Schedule)(p2:Int):Option Int:=join (Y:=((Int×Unit)×D.View×D.Schedule×Unit)) (fun((a0,_),a1,a2,_)=>optc (YT fu a1 a2 a0) fun(a3,a4)=>optc (QdX fu a2.Edits a4 a0) fun a5=>some a5) fun J6=>cd (p2<0) (some (-1)) (cd (8589934592<p2) (some (-1)) (J6 ((p2,()),p0,p1,())))
theorem Qi4:FO 330 (sI [.st .View,.st .Schedule,nI] fun x=>QcA fu x.1 x.2.1 x.2.2.1):=fI fu (.two .go (.two (.join [ni 2,rf 3,rf 4] [bx 1003 .View,bx 1004 .Schedule] .go) .go)) (fun a b=>a.1) (eC (QfJ fu) (eC (Qkv fu) eN)) Tryz.func330
def QfQ(p0:D.Config)(p1:Int)(p2:Int):Option Int:=optc (QgC fu p0) fun(a0,a1)=>join (Y:=((Int×Int×Unit)×D.Config×D.View×Unit)) (fun((a2,a3,_),a4,a5,_)=>atc a4.Schedules a2 fun a6=>optc (QcA fu a5 a6 a3) fun a7=>some a7) fun J8=>cnd a1 (optc (Wy fu p0 p1) fun a9=>cnd a9 (J8 ((p1,p2,()),p0,a0,())) (some (-1))) (some (-1))
theorem QlQ:FO 322 (sI [.st .Config,nI,nI] fun x=>QfQ fu x.1 x.2.1 x.2.2.1):=fI fu (gs 2 (.two (.join [ni 1,ni 2,rf 3,rf 7] [bx 1003 .Config,bx 1007 .View] .go) .go)) (fun a b=>a.1) (eC (Qdg fu) (eC (Qih fu) (eC (Qi4 fu) eN))) Tryz.func322
def QcT(p0:D.Config)(p1:Int)(p2:Int):Option Int:=optc (QfQ fu p0 p1 p2) fun a0=>some a0
theorem QjD:FO 311 (sI [.st .Config,nI,nI] fun x=>QcT fu x.1 x.2.1 x.2.2.1):=fI fu .go (fun a b=>a.1) (eC (QlQ fu) eN) Tryz.func311
def Qag(p0:D.Config)(p1:D.Book)(p2:D.Target)(p3:Int):Option (List Int):=join (Y:=((Int×Unit)×D.Config×D.Book×D.Target×Unit)) (fun((a0,_),a1,a2,a3,_)=>cd (a3.Kind=1) (optc (QcT fu a1 a3.Index a0) fun a4=>some (a4::[])) (cd (a3.Kind=2) (atc a2.Teams a3.Index fun a5=>some a5.Members) (some (a3.Index::[])))) fun J6=>optc (Z5 fu p2.Kind 0 2) fun a7=>cnd a7 (optc (XV fu p0 p1) fun a8=>cd (p2.Kind=((0:Nat):Int)) (optc (Z5 fu p2.Index 0 (wrap .i64 (a8.a0 - 1))) fun a9=>cnd a9 (J6 ((p3,()),p0,p1,p2,())) (some [])) (cd (p2.Kind=(((0+1):Nat):Int)) (optc (Z5 fu p2.Index 0 (wrap .i64 (a8.a1 - 1))) fun a10=>cnd a10 (J6 ((p3,()),p0,p1,p2,())) (some [])) (cd (p2.Kind=((((0+1)+1):Nat):Int)) (optc (Z5 fu p2.Index 0 (wrap .i64 (a8.a2 - 1))) fun a11=>cnd a11 (J6 ((p3,()),p0,p1,p2,())) (some [])) none))) (some [])
theorem Qhh:FO 288 (Qi [.st .Config,.st .Book,.st .Target,nI] [] [lI] [] [] (List Int) (fun q=>((q,()),())) (fun x y=>Qag fu x.1 x.2.1 x.2.2.1 x.2.2.2.1)):=fI fu (.two .go (.two (.join [ni 3,rf 4,rf 5,rf 6] [bx 1004 .Config,bx 1005 .Book,bx 1006 .Target] .go) .go)) (fun a b=>a.1) (eC (XU fu) (eC (Qb9 fu) (eC (QjD fu) eN))) Tryz.func288
def XT(p0:Int)(p1:D.Config):Option Bool:=optc (Z5 fu p0 0 (wrap .i64 (((p1.People.length:Nat):Int) - 1))) fun a0=>sameC p1 p1 (some (!a0))
theorem Qaf:FO 289 (Qi [nI,.one (.ref 101)] [bx 101 .Config] [.one .boo] [] [101] Bool (fun q=>((q,()),())) (fun x y=>XT fu x.1 y.1)):=fI fu .go (fun a b=>a.1) (eC (XU fu) eN) Tryz.func289
def QJ(p0:List Int)(c102:D.Config):Option Int:=Qk (X:=((Int×Int×Unit)×D.Config×List Int×Unit)) (fun L0 ((a1,a2,_),a3,a4,_)=>cd (a2<a1) (natc a2 fun a5=>ltc a5 a4.length (optc (GetElem?.getElem? a4 a5) fun a6=>optc (XT fu a6 a3) fun a7=>cnd a7 (sameC a4 p0 (sameC a3 c102 (some a2))) (L0 ((a1,(wrap .i64 (a2+1)),()),a3,a4,())))) (sameC a4 p0 (sameC a3 c102 (some (-1))))) fu ((((p0.length:Nat):Int),0,()),c102,p0,())
theorem Xp:FO 250 (Qi [.one (.own 101),.one (.clo 289 [102])] [ar 101 .int,bx 102 .Config] [nI] [] [101,102] Int (fun q=>((q,()),())) (fun x y=>QJ fu y.1 y.2.1)):=fI fu (.two .go (lp [(0,.one (.own 101)),(1,.one (.clo 289 [102])),ni 7,ni 8] [bx 102 .Config,ar 101 .int] .go)) (fun a b=>a.1) (eC (Qaf fu) eN) Tryz.func250
def QF(p0:List Int)(c102:D.Config):Option (Nat×Nat×List Int):=optc (QJ fu p0 c102) fun a0=>cd (a0=(-1)) (sameC c102 c102 (some (0,p0.length,p0))) (Qk (X:=((Int×Int×Unit)×D.Config×List Int×Unit)) (fun L1 ((a2,a3,_),a4,a5,_)=>cd (a3<((a5.length:Nat):Int)) (join (Y:=((Int×Int×Unit)×D.Config×List Int×Unit)) (fun((a6,a7,_),a8,a9,_)=>L1 ((a6,(wrap .i64 (a7+1)),()),a8,a9,())) fun J10=>natc a3 fun a11=>ltc a11 a5.length (optc (GetElem?.getElem? a5 a11) fun a12=>optc (XT fu a12 a4) fun a13=>cnd (!a13) (natc a2 fun a14=>ltc a14 a5.length (optc (GetElem?.getElem? a5 a14) fun a15=>J10 (((wrap .i64 (a2+1)),a3,()),a4,(List.set a5 a14 a12),()))) (J10 ((a2,a3,()),a4,a5,())))) (natc a2 fun a16=>lec a16 a5.length (lec a16 a5.length (lec a5.length a5.length (natc a2 fun a17=>lec a17 (List.length (((List.take a16 a5)++(List.replicate (a5.length - a16) 0))++(List.drop a5.length a5))) (sameC a4 c102 (some (0,a17,(((List.take a16 a5)++(List.replicate (a5.length - a16) 0))++(List.drop a5.length a5)))))))))) fu ((a0,(wrap .i64 (a0+1)),()),c102,p0,()))
theorem Xd:FO 263 (Qi [.one (.own 101),.one (.clo 289 [102])] [ar 101 .int,bx 102 .Config] [.one (.view 101)] [ar 101 .int] [102] (Nat×Nat×List Int) (fun q=>((q.1,q.2.1,()),q.2.2,())) (fun x y=>QF fu y.1 y.2.1)):=fI fu (gs 3 (lp [(0,.one (.own 101)),(1,.one (.clo 289 [102])),ni 5,ni 6] [bx 102 .Config,ar 101 .int] (.two .go (.two (.join [(0,.one (.own 101)),(1,.one (.clo 289 [102])),ni 5,ni 6] [bx 102 .Config,ar 101 .int] .go) .go)))) (fun a b=>(a.1,a.2.1,b.1)) (eC (Xp fu) (eC (Qaf fu) eN)) Tryz.func263
def Q2(l0:Nat)(h0:Nat)(p0:List Int)(p1:Int)(p2:Int):Option (List Int):=Qk (X:=((Nat×Nat×Int×Int×Int×Unit)×List Int×Unit)) (fun L0 ((a1,a2,a3,a4,a5,_),a6,_)=>cd (a5<a4) (join (Y:=((Nat×Nat×Int×Int×Int×Unit)×List Int×Unit)) (fun((a7,a8,a9,a10,a11,_),a12,_)=>L0 ((a7,a8,a9,a10,(wrap .i64 (a11+1)),()),a12,())) fun J13=>Qk (X:=((Nat×Nat×Int×Int×Int×Int×Unit)×List Int×Unit)) (fun L14 ((a15,a16,a17,a18,a19,a20,_),a21,_)=>join (Y:=((Nat×Nat×Int×Int×Int×Int×Unit)×List Int×Unit)) (fun((a22,a23,a24,a25,a26,a27,_),a28,_)=>natc (wrap .i64 (a27 - 1)) fun a29=>ltc a29 (a23 - a22) (optc (GetElem?.getElem? a28 (a22+a29)) fun a30=>natc a27 fun a31=>ltc a31 (a23 - a22) (optc (GetElem?.getElem? a28 (a22+a31)) fun a32=>natc a27 fun a33=>ltc a33 (a23 - a22) (optc (GetElem?.getElem? a28 (a22+a33)) fun a34=>natc (wrap .i64 (a27 - 1)) fun a35=>ltc a35 (a23 - a22) (optc (GetElem?.getElem? (List.set a28 (a22+a33) a30) (a22+a35)) fun a36=>L14 ((a22,a23,a24,a25,a26,(wrap .i64 (a27 - 1)),()),(List.set (List.set a28 (a22+a33) a30) (a22+a35) a32),())))))) fun J37=>cd (a17<a20) (natc a20 fun a38=>ltc a38 (a16 - a15) (optc (GetElem?.getElem? a21 (a15+a38)) fun a39=>natc (wrap .i64 (a20 - 1)) fun a40=>ltc a40 (a16 - a15) (optc (GetElem?.getElem? a21 (a15+a40)) fun a41=>optc (WC fu a39 a41) fun a42=>cnd a42 (J37 ((a15,a16,a17,a18,a19,a20,()),a21,())) (J13 ((a15,a16,a17,a18,a19,()),a21,()))))) (J13 ((a15,a16,a17,a18,a19,()),a21,()))) fu ((a1,a2,a3,a4,a5,a5,()),a6,())) (some a6)) fu ((l0,h0,p1,p2,(wrap .i64 (p1+1)),()),p0,())
theorem Wf:FO 267 (Qi [.one (.view 101),nI,nI] [ar 101 .int] [] [(101,.arrs .int)] [] (List Int) (fun q=>((),q,())) (fun x y=>Q2 fu x.1 x.2.1 y.1 x.2.2.1 x.2.2.2.1)):=fI fu (.two .go (.one (.loop [(0,.one (.view 101)),ni 1,ni 2,ni 6] [ar 101 .int] (.two .go (.two (.join [(0,.one (.view 101)),ni 1,ni 2,ni 6] [ar 101 .int] (.one (.two .go (.one (.loop [(0,.one (.view 101)),ni 1,ni 2,ni 6,ni 7] [ar 101 .int] (.two (.join [(0,.one (.view 101)),ni 1,ni 2,ni 6,ni 7] [ar 101 .int] .go) .go)))))) .go))))) (fun a b=>b.1) (eC (UI fu) eN) Tryz.func267
def Yo(l0:Nat)(h0:Nat)(p0:List Int)(p1:Int)(p2:Int)(p3:Int):Option (List Int):=Qk (X:=((Nat×Nat×Int×Int×Int×Bool×Bool×Unit)×List Int×Unit)) (fun L0 ((a1,a2,a3,a4,a5,a6,a7,_),a8,_)=>cd ((wrap .i64 (a4 - a3))≤12) (optc (Q2 fu a1 a2 a8 a3 a4) fun a9=>chk a9.length a8.length (some a9)) (cd (a5=0) none (cnd (!a6) none none))) fu ((l0,h0,p1,p2,p3,true,true,()),p0,())
theorem Vu:FO 248 (Qi [.one (.view 101),nI,nI,nI] [ar 101 .int] [] [(101,.arrs .int)] [] (List Int) (fun q=>((),q,())) (fun x y=>Yo fu x.1 x.2.1 y.1 x.2.2.1 x.2.2.2.1 x.2.2.2.2.1)):=fI fu (gs 2 (.one (.loop [(0,.one (.view 101)),ni 1,ni 2,ni 3,(8,.one .boo),(9,.one .boo)] [ar 101 .int] .go))) (fun a b=>b.1) (eC (Wf fu) eN) Tryz.func248
def XL(l0:Nat)(h0:Nat)(p0:List Int):Option (List Int):=optc (Um fu (IntKind.wrap .u64 (((h0 - l0):Nat):Int))) fun a0=>optc (Yo fu l0 h0 p0 0 (((h0 - l0):Nat):Int) a0) fun a1=>chk a1.length p0.length (some a1)
theorem Qct:FO 216 (Qi [.one (.view 101)] [ar 101 .int] [] [(101,.arrs .int)] [] (List Int) (fun q=>((),q,())) (fun x y=>XL fu x.1 x.2.1 y.1)):=fI fu .go (fun a b=>b.1) (eC (Vu fu) (eC (QbA fu) eN)) Tryz.func216
def YS(l0:Nat)(h0:Nat)(p0:List Int):Option (Nat×Nat×List Int):=cd ((((h0 - l0):Nat):Int)<2) (some (l0,h0,p0)) (Qk (X:=((Nat×Nat×Int×Unit)×List Int×Unit)) (fun L0 ((a1,a2,a3,_),a4,_)=>cd (a3<(((a2 - a1):Nat):Int)) (natc a3 fun a5=>ltc a5 (a2 - a1) (optc (GetElem?.getElem? a4 (a1+a5)) fun a6=>natc (wrap .i64 (a3 - 1)) fun a7=>ltc a7 (a2 - a1) (optc (GetElem?.getElem? a4 (a1+a7)) fun a8=>cd (a6=a8) (natc a3 fun a9=>ltc a9 (a2 - a1) (Qk (X:=((Nat×Nat×Int×Nat×Nat×Int×Unit)×List Int×Unit)) (fun L10 ((a11,a12,a13,a14,a15,a16,_),a17,_)=>cd (a16<(((a15 - a14):Nat):Int)) (join (Y:=((Nat×Nat×Int×Nat×Nat×Int×Unit)×List Int×Unit)) (fun((a18,a19,a20,a21,a22,a23,_),a24,_)=>L10 ((a18,a19,a20,a21,a22,(wrap .i64 (a23+1)),()),a24,())) fun J25=>natc a16 fun a26=>ltc a26 (a15 - a14) (optc (GetElem?.getElem? a17 (a14+a26)) fun a27=>natc (wrap .i64 (a16 - 1)) fun a28=>ltc a28 (a15 - a14) (optc (GetElem?.getElem? a17 (a14+a28)) fun a29=>cd (a27≠a29) (natc a16 fun a30=>ltc a30 (a15 - a14) (optc (GetElem?.getElem? a17 (a14+a30)) fun a31=>natc a13 fun a32=>ltc a32 (a12 - a11) (optc (GetElem?.getElem? a17 (a11+a32)) fun a33=>J25 ((a11,a12,(wrap .i64 (a13+1)),a14,a15,a16,()),(List.set a17 (a11+a32) a31),())))) (J25 ((a11,a12,a13,a14,a15,a16,()),a17,()))))) (natc a13 fun a34=>ltc a34 (a12 - a11) (lec (a11+a34) (a11+(a12 - a11)) (lec (a11+(a12 - a11)) a17.length (natc a13 fun a35=>lec a35 (a12 - a11) (some ((a11+0),(a11+a35),(((List.take (a11+a34) a17)++(List.replicate ((a11+(a12 - a11)) - (a11+a34)) 0))++(List.drop (a11+(a12 - a11)) a17))))))))) fu ((a1,a2,a3,(a1+a9),(a1+(a2 - a1)),1,()),a4,()))) (L0 ((a1,a2,(wrap .i64 (a3+1)),()),a4,()))))) (some (a1,a2,a4))) fu ((l0,h0,1,()),p0,()))
theorem QaQ:FO 290 (Qi [.one (.view 101)] [ar 101 .int] [.one (.view 101)] [ar 101 .int] [] (Nat×Nat×List Int) (fun q=>((q.1,q.2.1,()),q.2.2,())) (fun x y=>YS fu x.1 x.2.1 y.1)):=fI fu (gs 2 (lp [(0,.one (.view 101)),ni 3] [ar 101 .int] (.two .go (.two (.one (.two .go (.two (.two .go (lp [(0,.one (.view 101)),ni 3,(4,.one (.view 101)),ni 5] [ar 101 .int] (.two .go (.two (.join [(0,.one (.view 101)),ni 3,(4,.one (.view 101)),ni 5] [ar 101 .int] .go) .go)))) .go))) .go)))) (fun a b=>(a.1,a.2.1,b.1)) eN Tryz.func290
def Up(p0:D.Config)(p1:D.Book)(p2:List D.Target)(p3:Int):Option (Nat×Nat×List Int):=Qk (X:=((Int×List D.Target×Int×Int×Unit)×D.Config×D.Book×List Int×Unit)) (fun L0 ((a1,a2,a3,a4,_),a5,a6,a7,_)=>cd (a4<a3) (atc a2 a4 fun a8=>optc (Qag fu a5 a6 a8 a1) fun a9=>lec (a7.length+a9.length) 34359738368 (L0 ((a1,a2,a3,(wrap .i64 (a4+1)),()),a5,a6,(a7++a9),()))) (optc (QF fu a7 a5) fun(a10,a11,a12)=>optc (XL fu a10 a11 a12) fun a13=>chk a13.length a12.length (optc (YS fu a10 a11 a13) fun(a14,a15,a16)=>some (a14,a15,a16)))) fu ((p3,p2,((p2.length:Nat):Int),0,()),p0,p1,[],())
theorem QfB:FO 264 (Qi [.st .Config,.st .Book,.one (.lst .Target),nI] [] [.one (.view 1024)] [ar 1024 .int] [] (Nat×Nat×List Int) (fun q=>((q.1,q.2.1,()),q.2.2,())) (fun x y=>Up fu x.1 x.2.1 x.2.2.1 x.2.2.2.1)):=fI fu (gs 2 (lp [ni 3,rf 4,rf 5,(9,.one (.own 1024)),li 12 .Target,ni 13,ni 14] [bx 1004 .Config,bx 1005 .Book,ar 1024 .int] .go)) (fun a b=>(a.1,a.2.1,b.1)) (eC (Qct fu) (eC (Xd fu) (eC (Qhh fu) (eC (QaQ fu) eN)))) Tryz.func264
def QeD(fu:Nat)(p0:Int)(p1:Int):Option Bool:=cd (0≤p0) (cd (p0≤8589934592) (cd (p0≤p1) (cd (p1≤8589934592) (cd ((wrap .i64 (p1 - p0))≤34560000) sT sF) sF) sF) sF) sF
theorem Qi0:FO 313 (sB [nI,nI] fun x=>QeD fu x.1 x.2.1):=fI fu .go (fun a b=>a.1) eN Tryz.func313
def Qa9(p0:D.Config)(p1:Int)(p2:Int)(p3:Int):Option (D.View×Int):=optc (QgC fu p0) fun(a0,a1)=>join (Y:=(Unit×D.View×D.View×Unit)) (fun(_,a2,a3,_)=>some (a3,0)) fun J4=>cnd (!a1) (some (a0,8)) (cd (p1<0) (some (a0,3)) (cd (((p0.People.length:Nat):Int)≤p1) (some (a0,3)) (optc (QeD fu p2 p3) fun a5=>cnd (!a5) (some (a0,1)) (J4 ((),(D.View.mk (D.Config.mk [] [] [] []) []),a0,())))))
theorem QhM:FO 291 (Qi [.st .Config,nI,nI,nI] [] [.st .View,nI] [] [] (D.View×Int) (fun q=>((q.1,q.2,()),())) (fun x y=>Qa9 fu x.1 x.2.1 x.2.2.1 x.2.2.2.1)):=fI fu (gs 2 (.two (.join [rf 8,rf 10] [bx 1008 .View,bx 1010 .View] .go) .go)) (fun a b=>(a.1,a.2.1)) (eC (Qih fu) (eC (Qi0 fu) eN)) Tryz.func291
def Y4(fu:Nat)(p0:D.View)(p1:Int):Option D.Table:=atc p0.tables p1 fun a0=>some a0
theorem QdW:FO 294 (Qi [.st .View,nI] [] [.st .Table] [] [] D.Table (fun q=>((q,()),())) (fun x y=>Y4 fu x.1 x.2.1)):=fI fu .go (fun a b=>a.1) eN Tryz.func294
def Wr(p0:D.Config)(p1:Int)(p2:Int)(p3:Bool):Option Bool:=optc (Qa9 fu p0 p1 p2 p2) fun(a0,a1)=>cd (a1≠0) sF (atc p0.People p1 fun a2=>cnd p3 (cnd a2.Consent sT (optc (Y4 fu a0 a2.Zone) fun a3=>optc (Zx fu a3 p2) fun a4=>optc (Xq fu a4) fun a5=>optc (Qbu fu a2.Quiet a5) fun a6=>cnd a6 sF sT)) (optc (Y4 fu a0 a2.Zone) fun a7=>optc (Zx fu a7 p2) fun a8=>optc (Xq fu a8) fun a9=>optc (Qbu fu a2.Quiet a9) fun a10=>cnd a10 sF sT))
theorem Qdx:FO 266 (sB [.st .Config,nI,nI,.one .boo] fun x=>Wr fu x.1 x.2.1 x.2.2.1 x.2.2.2.1):=fI fu .go (fun a b=>a.1) (eC (QhM fu) (eC (QhA fu) (eC (QbC fu) (eC (QdW fu) (eC (Wz fu) eN))))) Tryz.func266
def Zj(p0:Int)(p1:D.Config)(p2:D.Page)(p3:D.PolicyStep):Option (Bool×D.Page):=optc (Wr fu p1 p0 p2.Due p3.Urgent) fun a0=>sameC p1 p1 (sameC p3 p3 (some ((!a0),p2)))
theorem Xs:FO 265 (Qi [nI,.one (.ref 101),.one (.ref 102),.one (.ref 106)] [bx 101 .Config,(102,.box bG1),ar 103 .Start,ar 104 .int,ar 105 .int,bx 106 .PolicyStep] [.one .boo] [(102,.box bG1),ar 103 .Start,ar 104 .int,ar 105 .int] [101,106] (Bool×D.Page) (fun q=>((q.1,()),(q.2.ID,q.2.Policy,q.2.Start,q.2.Next,q.2.Due,q.2.State,q.2.By,q.2.Until,q.2.Last,q.2.Snoozes,q.2.Hands,()),q.2.Starts,q.2.Declined,q.2.Seen,())) (fun x y=>Zj fu x.1 y.1 (D.Page.mk y.2.1.1 y.2.1.2.1 y.2.1.2.2.1 y.2.1.2.2.2.1 y.2.1.2.2.2.2.1 y.2.1.2.2.2.2.2.1 y.2.1.2.2.2.2.2.2.1 y.2.1.2.2.2.2.2.2.2.1 y.2.1.2.2.2.2.2.2.2.2.1 y.2.1.2.2.2.2.2.2.2.2.2.1 y.2.1.2.2.2.2.2.2.2.2.2.2.1 y.2.2.1 y.2.2.2.1 y.2.2.2.2.1) y.2.2.2.2.2.1)):=fI fu .go (fun a b=>(a.1,(D.Page.mk b.1.1 b.1.2.1 b.1.2.2.1 b.1.2.2.2.1 b.1.2.2.2.2.1 b.1.2.2.2.2.2.1 b.1.2.2.2.2.2.2.1 b.1.2.2.2.2.2.2.2.1 b.1.2.2.2.2.2.2.2.2.1 b.1.2.2.2.2.2.2.2.2.2.1 b.1.2.2.2.2.2.2.2.2.2.2.1 b.2.1 b.2.2.1 b.2.2.2.1))) (eC (Qdx fu) eN) Tryz.func265
def Qt(l0:Nat)(h0:Nat)(p0:List Int)(c102:D.Config)(c103:D.Page)(c107:D.PolicyStep):Option (Int×D.Page):=Qk (X:=((Nat×Nat×Int×Int×Unit)×D.Config×P11×D.PolicyStep×List Int×List D.Start×List Int×List Int×Unit)) (fun L0 ((a1,a2,a3,a4,_),a5,(a6,a7,a8,a9,a10,a11,a12,a13,a14,a15,a16,_),a17,a18,a19,a20,a21,_)=>cd (a4<a3) (natc a4 fun a22=>ltc a22 (a2 - a1) (optc (GetElem?.getElem? a18 (a1+a22)) fun a23=>optc (Zj fu a23 a5 (D.Page.mk a6 a7 a8 a9 a10 a11 a12 a13 a14 a15 a16 a19 a20 a21) a17) fun(a24,a25)=>cnd a24 (sameC a18 p0 (sameC a5 c102 (sameC a17 c107 (some (a4,a25))))) (L0 ((a1,a2,a3,(wrap .i64 (a4+1)),()),a5,(a25.ID,a25.Policy,a25.Start,a25.Next,a25.Due,a25.State,a25.By,a25.Until,a25.Last,a25.Snoozes,a25.Hands,()),a17,a18,a25.Starts,a25.Declined,a25.Seen,())))) (sameC a18 p0 (sameC a5 c102 (sameC a17 c107 (some ((-1),(D.Page.mk a6 a7 a8 a9 a10 a11 a12 a13 a14 a15 a16 a19 a20 a21))))))) fu ((l0,h0,(((h0 - l0):Nat):Int),0,()),c102,((D.Page.ID c103),(D.Page.Policy c103),(D.Page.Start c103),(D.Page.Next c103),(D.Page.Due c103),(D.Page.State c103),(D.Page.By c103),(D.Page.Until c103),(D.Page.Last c103),(D.Page.Snoozes c103),(D.Page.Hands c103),()),c107,p0,(D.Page.Starts c103),(D.Page.Declined c103),(D.Page.Seen c103),())
theorem Yg:FO 250 (Qi [.one (.view 101),.one (.clo 265 [102,103,107])] [ar 101 .int,bx 102 .Config,(103,.box bG2),ar 104 .Start,ar 105 .int,ar 106 .int,bx 107 .PolicyStep] [nI] [(103,.box bG2),ar 104 .Start,ar 105 .int,ar 106 .int] [101,102,107] (Int×D.Page) (fun q=>((q.1,()),(q.2.ID,q.2.Policy,q.2.Start,q.2.Next,q.2.Due,q.2.State,q.2.By,q.2.Until,q.2.Last,q.2.Snoozes,q.2.Hands,()),q.2.Starts,q.2.Declined,q.2.Seen,())) (fun x y=>Qt fu x.1 x.2.1 y.1 y.2.1 (D.Page.mk y.2.2.1.1 y.2.2.1.2.1 y.2.2.1.2.2.1 y.2.2.1.2.2.2.1 y.2.2.1.2.2.2.2.1 y.2.2.1.2.2.2.2.2.1 y.2.2.1.2.2.2.2.2.2.1 y.2.2.1.2.2.2.2.2.2.2.1 y.2.2.1.2.2.2.2.2.2.2.2.1 y.2.2.1.2.2.2.2.2.2.2.2.2.1 y.2.2.1.2.2.2.2.2.2.2.2.2.2.1 y.2.2.2.1 y.2.2.2.2.1 y.2.2.2.2.2.1) y.2.2.2.2.2.2.1)):=fI fu (.two .go (lp [(0,.one (.view 101)),(1,.one (.clo 265 [102,103,107])),ni 7,ni 8] [bx 102 .Config,(103,.box bG2),bx 107 .PolicyStep,ar 101 .int,ar 104 .Start,ar 105 .int,ar 106 .int] .go)) (fun a b=>(a.1,(D.Page.mk b.1.1 b.1.2.1 b.1.2.2.1 b.1.2.2.2.1 b.1.2.2.2.2.1 b.1.2.2.2.2.2.1 b.1.2.2.2.2.2.2.1 b.1.2.2.2.2.2.2.2.1 b.1.2.2.2.2.2.2.2.2.1 b.1.2.2.2.2.2.2.2.2.2.1 b.1.2.2.2.2.2.2.2.2.2.2.1 b.2.1 b.2.2.1 b.2.2.2.1))) (eC (Xs fu) eN) Tryz.func250
def Qs(l0:Nat)(h0:Nat)(p0:List Int)(c102:D.Config)(c103:D.Page)(c107:D.PolicyStep):Option (Nat×Nat×D.Page×List Int):=optc (Qt fu l0 h0 p0 c102 c103 c107) fun(a0,a1)=>cd (a0=(-1)) (sameC c102 c102 (sameC c107 c107 (some (l0,h0,a1,p0)))) (Qk (X:=((Nat×Nat×Int×Int×Unit)×D.Config×P11×D.PolicyStep×List Int×List D.Start×List Int×List Int×Unit)) (fun L2 ((a3,a4,a5,a6,_),a7,(a8,a9,a10,a11,a12,a13,a14,a15,a16,a17,a18,_),a19,a20,a21,a22,a23,_)=>cd (a6<(((a4 - a3):Nat):Int)) (join (Y:=((Nat×Nat×Int×Int×Unit)×D.Config×P11×D.PolicyStep×List Int×List D.Start×List Int×List Int×Unit)) (fun((a24,a25,a26,a27,_),a28,(a29,a30,a31,a32,a33,a34,a35,a36,a37,a38,a39,_),a40,a41,a42,a43,a44,_)=>L2 ((a24,a25,a26,(wrap .i64 (a27+1)),()),a28,(a29,a30,a31,a32,a33,a34,a35,a36,a37,a38,a39,()),a40,a41,a42,a43,a44,())) fun J45=>natc a6 fun a46=>ltc a46 (a4 - a3) (optc (GetElem?.getElem? a20 (a3+a46)) fun a47=>optc (Zj fu a47 a7 (D.Page.mk a8 a9 a10 a11 a12 a13 a14 a15 a16 a17 a18 a21 a22 a23) a19) fun(a48,a49)=>cnd (!a48) (natc a5 fun a50=>ltc a50 (a4 - a3) (optc (GetElem?.getElem? a20 (a3+a50)) fun a51=>J45 ((a3,a4,(wrap .i64 (a5+1)),a6,()),a7,(a49.ID,a49.Policy,a49.Start,a49.Next,a49.Due,a49.State,a49.By,a49.Until,a49.Last,a49.Snoozes,a49.Hands,()),a19,(List.set a20 (a3+a50) a47),a49.Starts,a49.Declined,a49.Seen,()))) (J45 ((a3,a4,a5,a6,()),a7,(a49.ID,a49.Policy,a49.Start,a49.Next,a49.Due,a49.State,a49.By,a49.Until,a49.Last,a49.Snoozes,a49.Hands,()),a19,a20,a49.Starts,a49.Declined,a49.Seen,())))) (natc a5 fun a52=>ltc a52 (a4 - a3) (lec (a3+a52) (a3+(a4 - a3)) (lec (a3+(a4 - a3)) a20.length (natc a5 fun a53=>lec a53 (a4 - a3) (sameC a7 c102 (sameC a19 c107 (some ((a3+0),(a3+a53),(D.Page.mk a8 a9 a10 a11 a12 a13 a14 a15 a16 a17 a18 a21 a22 a23),(((List.take (a3+a52) a20)++(List.replicate ((a3+(a4 - a3)) - (a3+a52)) 0))++(List.drop (a3+(a4 - a3)) a20))))))))))) fu ((l0,h0,a0,(wrap .i64 (a0+1)),()),c102,(a1.ID,a1.Policy,a1.Start,a1.Next,a1.Due,a1.State,a1.By,a1.Until,a1.Last,a1.Snoozes,a1.Hands,()),c107,p0,a1.Starts,a1.Declined,a1.Seen,()))
theorem Yb:FO 263 (Qi [.one (.view 101),.one (.clo 265 [102,103,107])] [ar 101 .int,bx 102 .Config,(103,.box bG2),ar 104 .Start,ar 105 .int,ar 106 .int,bx 107 .PolicyStep] [.one (.view 101)] [(103,.box bG2),ar 104 .Start,ar 105 .int,ar 106 .int,ar 101 .int] [102,107] (Nat×Nat×D.Page×List Int) (fun q=>((q.1,q.2.1,()),(q.2.2.1.ID,q.2.2.1.Policy,q.2.2.1.Start,q.2.2.1.Next,q.2.2.1.Due,q.2.2.1.State,q.2.2.1.By,q.2.2.1.Until,q.2.2.1.Last,q.2.2.1.Snoozes,q.2.2.1.Hands,()),q.2.2.1.Starts,q.2.2.1.Declined,q.2.2.1.Seen,q.2.2.2,())) (fun x y=>Qs fu x.1 x.2.1 y.1 y.2.1 (D.Page.mk y.2.2.1.1 y.2.2.1.2.1 y.2.2.1.2.2.1 y.2.2.1.2.2.2.1 y.2.2.1.2.2.2.2.1 y.2.2.1.2.2.2.2.2.1 y.2.2.1.2.2.2.2.2.2.1 y.2.2.1.2.2.2.2.2.2.2.1 y.2.2.1.2.2.2.2.2.2.2.2.1 y.2.2.1.2.2.2.2.2.2.2.2.2.1 y.2.2.1.2.2.2.2.2.2.2.2.2.2.1 y.2.2.2.1 y.2.2.2.2.1 y.2.2.2.2.2.1) y.2.2.2.2.2.2.1)):=fI fu (gs 3 (lp [(0,.one (.view 101)),(1,.one (.clo 265 [102,103,107])),ni 5,ni 6] [bx 102 .Config,(103,.box bG2),bx 107 .PolicyStep,ar 101 .int,ar 104 .Start,ar 105 .int,ar 106 .int] (.two .go (.two (.join [(0,.one (.view 101)),(1,.one (.clo 265 [102,103,107])),ni 5,ni 6] [bx 102 .Config,(103,.box bG2),bx 107 .PolicyStep,ar 101 .int,ar 104 .Start,ar 105 .int,ar 106 .int] .go) .go)))) (fun a b=>(a.1,a.2.1,(D.Page.mk b.1.1 b.1.2.1 b.1.2.2.1 b.1.2.2.2.1 b.1.2.2.2.2.1 b.1.2.2.2.2.2.1 b.1.2.2.2.2.2.2.1 b.1.2.2.2.2.2.2.2.1 b.1.2.2.2.2.2.2.2.2.1 b.1.2.2.2.2.2.2.2.2.2.1 b.1.2.2.2.2.2.2.2.2.2.2.1 b.2.1 b.2.2.1 b.2.2.2.1),b.2.2.2.2.1)) (eC (Yg fu) (eC (Xs fu) eN)) Tryz.func263
def Z0(p0:D.Config)(p1:D.Book)(p2:D.Page):Option (D.Page×List Int):=atc p1.Policies p2.Policy fun a0=>optc (UP fu a0 p2.Next) fun(a1,a2,a3)=>atc a0.Steps a1 fun a4=>optc (Up fu p0 p1 a4.Targets p2.Due) fun(a5,a6,a7)=>optc (Qs fu a5 a6 a7 p0 p2 a4) fun(a8,a9,a10,a11)=>lec (a10.Starts.length+(List.length ((D.Start.mk a10.Next a10.Due (List.drop a8 (List.take a9 a11)))::[]))) 34359738368 (join (Y:=(Unit×(Int×Int×Int×Int×Int×Int×Int×Int×Int×Int×Int×List Int×Unit)×D.Page×List D.Start×List Int×List Int×Unit)) (fun(_,(a12,a13,a14,a15,a16,a17,a18,a19,a20,a21,a22,a23,_),a24,a25,a26,a27,_)=>some ((D.Page.mk a12 a13 a14 a15 a16 a17 a18 a19 a20 a21 a22 a25 a23 a26),a27)) fun J28=>cd (0<(((List.length (List.drop a8 (List.take a9 a11))):Nat):Int)) (J28 ((),(a10.ID,a10.Policy,a10.Start,(wrap .i64 (a10.Next+1)),(wrap .i64 (a10.Due+a4.Wait)),a10.State,a10.By,a10.Until,a10.Last,a10.Snoozes,a10.Hands,[],()),(D.Page.mk 0 0 0 0 0 0 0 0 0 0 0 [] [] []),(a10.Starts++((D.Start.mk a10.Next a10.Due (List.drop a8 (List.take a9 a11)))::[])),a10.Seen,a10.Declined,())) (J28 ((),(a10.ID,a10.Policy,a10.Start,(wrap .i64 (a10.Next+1)),a10.Due,a10.State,a10.By,a10.Until,a10.Last,a10.Snoozes,a10.Hands,[],()),(D.Page.mk 0 0 0 0 0 0 0 0 0 0 0 [] [] []),(a10.Starts++((D.Start.mk a10.Next a10.Due (List.drop a8 (List.take a9 a11)))::[])),a10.Seen,a10.Declined,())))
theorem Uh:FO 247 (Qi [.st .Config,.st .Book,.agg bG3] [ar 101 .Start,ar 102 .int,ar 103 .int] [.agg bG0] [ar 101 .Start,ar 102 .int,ar 103 .int] [] (D.Page×List Int) (fun q=>(((q.1.ID,q.1.Policy,q.1.Start,q.1.Next,q.1.Due,q.1.State,q.1.By,q.1.Until,q.1.Last,q.1.Snoozes,q.1.Hands,q.1.Declined,()),()),q.1.Starts,q.2,q.1.Seen,())) (fun x y=>Z0 fu x.1 x.2.1 (D.Page.mk x.2.2.1.1 x.2.2.1.2.1 x.2.2.1.2.2.1 x.2.2.1.2.2.2.1 x.2.2.1.2.2.2.2.1 x.2.2.1.2.2.2.2.2.1 x.2.2.1.2.2.2.2.2.2.1 x.2.2.1.2.2.2.2.2.2.2.1 x.2.2.1.2.2.2.2.2.2.2.2.1 x.2.2.1.2.2.2.2.2.2.2.2.2.1 x.2.2.1.2.2.2.2.2.2.2.2.2.2.1 y.1 y.2.1 y.2.2.1))):=fI fu (gs 8 (.two (.join [rf 5,rf 6] [(1005,.box bG0),bx 1006 .Page,ar 101 .Start,ar 103 .int,ar 102 .int] .go) .go)) (fun a b=>((D.Page.mk a.1.1 a.1.2.1 a.1.2.2.1 a.1.2.2.2.1 a.1.2.2.2.2.1 a.1.2.2.2.2.2.1 a.1.2.2.2.2.2.2.1 a.1.2.2.2.2.2.2.2.1 a.1.2.2.2.2.2.2.2.2.1 a.1.2.2.2.2.2.2.2.2.2.1 a.1.2.2.2.2.2.2.2.2.2.2.1 b.1 a.1.2.2.2.2.2.2.2.2.2.2.2.1 b.2.2.1),b.2.1)) (eC (QhV fu) (eC (Yb fu) (eC (QfB fu) eN))) Tryz.func247
def Ug(p0:D.Config)(p1:D.Book)(p2:D.Page):Option (D.Page×Int):=optc (WE fu p2) fun(a0,a1)=>optc (ZZ fu p1 p2) fun a2=>cnd (!a2) (some ((D.Page.mk 0 0 0 0 0 0 0 0 0 0 0 [] [] []),8)) (cnd (!a1) (some ((D.Page.mk 0 0 0 0 0 0 0 0 0 0 0 [] [] []),9)) (cd (((p2.Starts.length:Nat):Int)=200) (some ((D.Page.mk 0 0 0 0 0 0 0 0 0 0 0 [] [] []),5)) (optc (Y6 fu p2) fun a3=>join (Y:=(Unit×(Int×Int×Int×Int×Int×Int×Int×Int×Int×Int×Int×List Int×Unit)×D.Page×List D.Start×List Int×Unit)) (fun(_,(a4,a5,a6,a7,a8,a9,a10,a11,a12,a13,a14,a15,_),a16,a17,a18,_)=>some ((D.Page.mk a4 a5 a6 a7 a8 a9 a10 a11 a12 a13 a14 a17 a15 a18),0)) fun J19=>cd (a3.State=2) (J19 ((),(a3.ID,a3.Policy,a3.Start,a3.Next,a0,0,a3.By,a3.Until,(max a3.Last a0),a3.Snoozes,a3.Hands,a3.Declined,()),(D.Page.mk 0 0 0 0 0 0 0 0 0 0 0 [] [] []),a3.Starts,a3.Seen,())) (atc p1.Policies a3.Policy fun a20=>optc (XS fu a20) fun a21=>cd (a3.Next=a21) (J19 ((),(a3.ID,a3.Policy,a3.Start,a3.Next,a3.Due,3,a3.By,a3.Until,(max a3.Last a0),a3.Snoozes,a3.Hands,a3.Declined,()),(D.Page.mk 0 0 0 0 0 0 0 0 0 0 0 [] [] []),a3.Starts,a3.Seen,())) (optc (Z0 fu p0 p1 (D.Page.mk a3.ID a3.Policy a3.Start a3.Next a3.Due a3.State a3.By a3.Until (max a3.Last a0) a3.Snoozes a3.Hands a3.Starts a3.Declined a3.Seen)) fun(a22,a23)=>J19 ((),(a22.ID,a22.Policy,a22.Start,a22.Next,a22.Due,a22.State,a22.By,a22.Until,a22.Last,a22.Snoozes,a22.Hands,a22.Declined,()),(D.Page.mk 0 0 0 0 0 0 0 0 0 0 0 [] [] []),a22.Starts,a22.Seen,()))))))
theorem Qfx:FO 214 (Qi [.st .Config,.st .Book,.st .Page] [] [.st .Page,nI] [] [] (D.Page×Int) (fun q=>((q.1,q.2,()),())) (fun x y=>Ug fu x.1 x.2.1 x.2.2.1)):=fI fu (gs 5 (.two (.join [rf 5,rf 6] [(1005,.box [kI,kI,kI,kI,kI,kI,kI,kI,kI,kI,kI,.own 2039007,.lst .int,.own 2065007]),bx 1006 .Page,ar 2039007 .Start,ar 2065007 .int] .go) .go)) (fun a b=>(a.1,a.2.1)) (eC (UJ fu) (eC (X1 fu) (eC (WU fu) (eC (UO fu) (eC (Uh fu) eN))))) Tryz.func214
def U8(p0:D.Config)(p1:D.Book)(p2:D.Page)(p3:Int):Option (D.Page×Int):=optc (ZZ fu p1 p2) fun a0=>cnd (!a0) (some ((D.Page.mk 0 0 0 0 0 0 0 0 0 0 0 [] [] []),8)) (optc (Y6 fu p2) fun a1=>Qk (X:=((Int×Unit)×D.Config×D.Book×D.Page×D.Page×Unit)) (fun L2 ((a3,_),a4,a5,a6,a7,_)=>optc (VC fu a6 a3) fun a8=>cnd a8 (optc (Ug fu a4 a5 a6) fun(a9,a10)=>cd (a10≠0) (some ((D.Page.mk 0 0 0 0 0 0 0 0 0 0 0 [] [] []),a10)) (L2 ((a3,()),a4,a5,a9,a7,()))) (some (a6,0))) fu ((p3,()),p0,p1,a1,(D.Page.mk 0 0 0 0 0 0 0 0 0 0 0 [] [] []),()))
theorem QgI:FO 168 (Qi [.st .Config,.st .Book,.st .Page,nI] [] [.st .Page,nI] [] [] (D.Page×Int) (fun q=>((q.1,q.2,()),())) (fun x y=>U8 fu x.1 x.2.1 x.2.2.1 x.2.2.2.1)):=fI fu (gs 3 (lp [ni 3,rf 4,rf 5,rf 6,rf 8] [bx 1004 .Config,bx 1005 .Book,bx 1006 .Page,bx 1008 .Page] .go)) (fun a b=>(a.1,a.2.1)) (eC (X1 fu) (eC (WU fu) (eC (QeG fu) (eC (Qfx fu) eN)))) Tryz.func168
def QcG(fu:Nat)(p0:D.Page):Option Int:=cd (p0.State=2) (some (-1)) (some p0.Next)
theorem Qjm:FO 116 (sI [.st .Page] fun x=>QcG fu x.1):=fI fu .go (fun a b=>a.1) eN Tryz.func116
def Vd(p0:List Int)(p1:Int):Option Int:=Qk (X:=(P3×List Int×Unit)) (fun L0 ((a1,a2,a3,_),a4,_)=>cd (a3<a2) (natc a3 fun a5=>ltc a5 a4.length (optc (GetElem?.getElem? a4 a5) fun a6=>cd (a1=a6) (sameC a4 p0 (some a3)) (L0 ((a1,a2,(wrap .i64 (a3+1)),()),a4,())))) (sameC a4 p0 (some (-1)))) fu ((p1,((p0.length:Nat):Int),0,()),p0,())
theorem Qcs:FO 112 (Qi [.one (.own 101),nI] [ar 101 .int] [nI] [] [101] Int (fun q=>((q,()),())) (fun x y=>Vd fu y.1 x.1)):=fI fu (.two .go (lp [(0,.one (.own 101)),ni 1,ni 7,ni 8] [ar 101 .int] .go)) (fun a b=>a.1) eN Tryz.func112
def Zc(p0:List Int)(p1:Int):Option Bool:=optc (Vd fu p0 p1) fun a0=>sameC p0 p0 (some (decide (0≤a0)))
theorem Z9:FO 67 (Qi [.one (.own 101),nI] [ar 101 .int] [.one .boo] [] [101] Bool (fun q=>((q,()),())) (fun x y=>Zc fu y.1 x.1)):=fI fu .go (fun a b=>a.1) (eC (Qcs fu) eN) Tryz.func67
def Yj(fu:Nat)(p0:D.Page):Option (Int×Bool):=cd (p0.State=0) (sameC p0.Starts p0.Starts (sameC p0.Declined p0.Declined (sameC p0.Seen p0.Seen (some (p0.Due,true))))) (cd (p0.State=2) (sameC p0.Starts p0.Starts (sameC p0.Declined p0.Declined (sameC p0.Seen p0.Seen (some (p0.Until,true))))) (sameC p0.Starts p0.Starts (sameC p0.Declined p0.Declined (sameC p0.Seen p0.Seen (some (0,false))))))
theorem UZ:FO 62 (Qi [.agg bG3] [ar 101 .Start,ar 102 .int,ar 103 .int] [nI,.one .boo] [] [101,102,103] (Int×Bool) (fun q=>((q.1,q.2,()),())) (fun x y=>Yj fu (D.Page.mk x.1.1 x.1.2.1 x.1.2.2.1 x.1.2.2.2.1 x.1.2.2.2.2.1 x.1.2.2.2.2.2.1 x.1.2.2.2.2.2.2.1 x.1.2.2.2.2.2.2.2.1 x.1.2.2.2.2.2.2.2.2.1 x.1.2.2.2.2.2.2.2.2.2.1 x.1.2.2.2.2.2.2.2.2.2.2.1 y.1 y.2.1 y.2.2.1))):=fI fu .go (fun a b=>(a.1,a.2.1)) eN Tryz.func62
def Z1(p0:D.Page)(p1:Int):Option Bool:=optc (Yj fu p0) fun(a0,a1)=>cnd a1 (cd (a0≤p1) (sameC p0.Starts p0.Starts (sameC p0.Declined p0.Declined (sameC p0.Seen p0.Seen sT))) (sameC p0.Starts p0.Starts (sameC p0.Declined p0.Declined (sameC p0.Seen p0.Seen sF)))) (sameC p0.Starts p0.Starts (sameC p0.Declined p0.Declined (sameC p0.Seen p0.Seen sF)))
theorem Uj:FO 213 (Qi [.agg bG3,nI] [ar 101 .Start,ar 102 .int,ar 103 .int] [.one .boo] [] [101,102,103] Bool (fun q=>((q,()),())) (fun x y=>Z1 fu (D.Page.mk x.1.1 x.1.2.1 x.1.2.2.1 x.1.2.2.2.1 x.1.2.2.2.2.1 x.1.2.2.2.2.2.1 x.1.2.2.2.2.2.2.1 x.1.2.2.2.2.2.2.2.1 x.1.2.2.2.2.2.2.2.2.1 x.1.2.2.2.2.2.2.2.2.2.1 x.1.2.2.2.2.2.2.2.2.2.2.1 y.1 y.2.1 y.2.2.1) x.2.1)):=fI fu .go (fun a b=>a.1) (eC (UZ fu) eN) Tryz.func213
def ZH(p0:D.Page)(p1:D.Answer):Option Int:=join (Y:=((Bool×Unit)×P11×D.Answer×List D.Start×List Int×List Int×Unit)) (fun((a0,_),(a1,a2,a3,a4,a5,a6,a7,a8,a9,a10,a11,_),a12,a13,a14,a15,_)=>join (Y:=(Unit×List D.Start×List Int×List Int×Unit)) (fun(_,a16,a17,a18,_)=>sameC a16 p0.Starts (sameC a17 p0.Declined (sameC a18 p0.Seen (some 0)))) fun J19=>cd (a12.At<a9) (sameC a13 p0.Starts (sameC a14 p0.Declined (sameC a15 p0.Seen (some 6)))) (optc (Z1 fu (D.Page.mk a1 a2 a3 a4 a5 a6 a7 a8 a9 a10 a11 a13 a14 a15) a12.At) fun a20=>cnd a20 (sameC a13 p0.Starts (sameC a14 p0.Declined (sameC a15 p0.Seen (some 6)))) (join (Y:=((Bool×Bool×Unit)×P11×List D.Start×List Int×List Int×Unit)) (fun((a21,a22,_),(a23,a24,a25,a26,a27,a28,a29,a30,a31,a32,a33,_),a34,a35,a36,_)=>cnd a22 (sameC a34 p0.Starts (sameC a35 p0.Declined (sameC a36 p0.Seen (some 9)))) (cd (((a36.length:Nat):Int)=64) (sameC a34 p0.Starts (sameC a35 p0.Declined (sameC a36 p0.Seen (some 5)))) (cnd a21 (sameC a34 p0.Starts (sameC a35 p0.Declined (sameC a36 p0.Seen (some 5)))) (J19 ((),a34,a35,a36,()))))) fun J37=>cd (a6=4) (J37 ((a0,(decide (a6=4)),()),(a1,a2,a3,a4,a5,a6,a7,a8,a9,a10,a11,()),a13,a14,a15,())) (cd (a6=3) (cd (a12.Kind≠5) (J37 ((a0,true,()),(a1,a2,a3,a4,a5,a6,a7,a8,a9,a10,a11,()),a13,a14,a15,())) (cd (a6=1) (cd (a12.Kind=2) (J37 ((a0,true,()),(a1,a2,a3,a4,a5,a6,a7,a8,a9,a10,a11,()),a13,a14,a15,())) (J37 ((a0,false,()),(a1,a2,a3,a4,a5,a6,a7,a8,a9,a10,a11,()),a13,a14,a15,()))) (J37 ((a0,false,()),(a1,a2,a3,a4,a5,a6,a7,a8,a9,a10,a11,()),a13,a14,a15,())))) (cd (a6=1) (cd (a12.Kind=2) (J37 ((a0,true,()),(a1,a2,a3,a4,a5,a6,a7,a8,a9,a10,a11,()),a13,a14,a15,())) (J37 ((a0,false,()),(a1,a2,a3,a4,a5,a6,a7,a8,a9,a10,a11,()),a13,a14,a15,()))) (J37 ((a0,false,()),(a1,a2,a3,a4,a5,a6,a7,a8,a9,a10,a11,()),a13,a14,a15,()))))))) fun J38=>cd (p1.Kind=3) (cd (p0.Snoozes=4) (J38 ((true,()),(p0.ID,p0.Policy,p0.Start,p0.Next,p0.Due,p0.State,p0.By,p0.Until,p0.Last,p0.Snoozes,p0.Hands,()),p1,p0.Starts,p0.Declined,p0.Seen,())) (cd (p1.Kind=4) (cd (p0.Hands=4) (J38 ((true,()),(p0.ID,p0.Policy,p0.Start,p0.Next,p0.Due,p0.State,p0.By,p0.Until,p0.Last,p0.Snoozes,p0.Hands,()),p1,p0.Starts,p0.Declined,p0.Seen,())) (cd (((p0.Starts.length:Nat):Int)=200) (J38 ((true,()),(p0.ID,p0.Policy,p0.Start,p0.Next,p0.Due,p0.State,p0.By,p0.Until,p0.Last,p0.Snoozes,p0.Hands,()),p1,p0.Starts,p0.Declined,p0.Seen,())) (J38 ((false,()),(p0.ID,p0.Policy,p0.Start,p0.Next,p0.Due,p0.State,p0.By,p0.Until,p0.Last,p0.Snoozes,p0.Hands,()),p1,p0.Starts,p0.Declined,p0.Seen,())))) (J38 ((false,()),(p0.ID,p0.Policy,p0.Start,p0.Next,p0.Due,p0.State,p0.By,p0.Until,p0.Last,p0.Snoozes,p0.Hands,()),p1,p0.Starts,p0.Declined,p0.Seen,())))) (cd (p1.Kind=4) (cd (p0.Hands=4) (J38 ((true,()),(p0.ID,p0.Policy,p0.Start,p0.Next,p0.Due,p0.State,p0.By,p0.Until,p0.Last,p0.Snoozes,p0.Hands,()),p1,p0.Starts,p0.Declined,p0.Seen,())) (cd (((p0.Starts.length:Nat):Int)=200) (J38 ((true,()),(p0.ID,p0.Policy,p0.Start,p0.Next,p0.Due,p0.State,p0.By,p0.Until,p0.Last,p0.Snoozes,p0.Hands,()),p1,p0.Starts,p0.Declined,p0.Seen,())) (J38 ((false,()),(p0.ID,p0.Policy,p0.Start,p0.Next,p0.Due,p0.State,p0.By,p0.Until,p0.Last,p0.Snoozes,p0.Hands,()),p1,p0.Starts,p0.Declined,p0.Seen,())))) (J38 ((false,()),(p0.ID,p0.Policy,p0.Start,p0.Next,p0.Due,p0.State,p0.By,p0.Until,p0.Last,p0.Snoozes,p0.Hands,()),p1,p0.Starts,p0.Declined,p0.Seen,())))
theorem VN:FO 170 (Qi [.agg bG3,.st .Answer] [ar 101 .Start,ar 102 .int,ar 103 .int] [nI] [] [101,102,103] Int (fun q=>((q,()),())) (fun x y=>ZH fu (D.Page.mk x.1.1 x.1.2.1 x.1.2.2.1 x.1.2.2.2.1 x.1.2.2.2.2.1 x.1.2.2.2.2.2.1 x.1.2.2.2.2.2.2.1 x.1.2.2.2.2.2.2.2.1 x.1.2.2.2.2.2.2.2.2.1 x.1.2.2.2.2.2.2.2.2.2.1 x.1.2.2.2.2.2.2.2.2.2.2.1 y.1 y.2.1 y.2.2.1) x.2.1)):=fI fu (.two .go (.two (.join [rf 2,rf 3,(5,.one .boo)] [(1002,.box bG3),bx 1003 .Answer,ar 101 .Start,ar 102 .int,ar 103 .int] .go) (.two (.join [] [ar 101 .Start,ar 102 .int,ar 103 .int] (.one (gs 2 (.two (.join [rf 2,(5,.one .boo),(42,.one .boo)] [(1002,.box bG3),ar 101 .Start,ar 102 .int,ar 103 .int] .go) .go)))) .go))) (fun a b=>a.1) (eC (Uj fu) eN) Tryz.func170
def ZS(p0:D.Page):Option (List Int):=cd (((p0.Starts.length:Nat):Int)=0) (sameC p0.Starts p0.Starts (sameC p0.Declined p0.Declined (sameC p0.Seen p0.Seen (some [])))) (natc (wrap .i64 (((p0.Starts.length:Nat):Int) - 1)) fun a0=>ltc a0 p0.Starts.length (optc (GetElem?.getElem? p0.Starts a0) fun a1=>optc (Qw fu a1.People) fun a2=>sameC p0.Starts p0.Starts (sameC p0.Declined p0.Declined (sameC p0.Seen p0.Seen (some a2)))))
theorem VX:FO 215 (Qi [.agg bG3] [ar 101 .Start,ar 102 .int,ar 103 .int] [lI] [] [101,102,103] (List Int) (fun q=>((q,()),())) (fun x y=>ZS fu (D.Page.mk x.1.1 x.1.2.1 x.1.2.2.1 x.1.2.2.2.1 x.1.2.2.2.2.1 x.1.2.2.2.2.2.1 x.1.2.2.2.2.2.2.1 x.1.2.2.2.2.2.2.2.1 x.1.2.2.2.2.2.2.2.2.1 x.1.2.2.2.2.2.2.2.2.2.1 x.1.2.2.2.2.2.2.2.2.2.2.1 y.1 y.2.1 y.2.2.1))):=fI fu .go (fun a b=>a.1) (eC (QZ fu) eN) Tryz.func215
def Q5(p0:List Int)(p1:Int)(p2:Int):Option (List Int):=Qk (X:=(P3×List Int×Unit)) (fun L0 ((a1,a2,a3,_),a4,_)=>cd (a3<a2) (join (Y:=(P3×List Int×Unit)) (fun((a5,a6,a7,_),a8,_)=>L0 ((a5,a6,(wrap .i64 (a7+1)),()),a8,())) fun J9=>Qk (X:=(P4×List Int×Unit)) (fun L10 ((a11,a12,a13,a14,_),a15,_)=>join (Y:=(P4×List Int×Unit)) (fun((a16,a17,a18,a19,_),a20,_)=>natc (wrap .i64 (a19 - 1)) fun a21=>ltc a21 a20.length (optc (GetElem?.getElem? a20 a21) fun a22=>natc a19 fun a23=>ltc a23 a20.length (optc (GetElem?.getElem? a20 a23) fun a24=>natc a19 fun a25=>ltc a25 a20.length (optc (GetElem?.getElem? a20 a25) fun a26=>natc (wrap .i64 (a19 - 1)) fun a27=>ltc a27 (List.length (List.set a20 a25 a22)) (optc (GetElem?.getElem? (List.set a20 a25 a22) a27) fun a28=>L10 ((a16,a17,a18,(wrap .i64 (a19 - 1)),()),(List.set (List.set a20 a25 a22) a27 a24),())))))) fun J29=>cd (a11<a14) (natc a14 fun a30=>ltc a30 a15.length (optc (GetElem?.getElem? a15 a30) fun a31=>natc (wrap .i64 (a14 - 1)) fun a32=>ltc a32 a15.length (optc (GetElem?.getElem? a15 a32) fun a33=>optc (WC fu a31 a33) fun a34=>cnd a34 (J29 ((a11,a12,a13,a14,()),a15,())) (J9 ((a11,a12,a13,()),a15,()))))) (J9 ((a11,a12,a13,()),a15,()))) fu ((a1,a2,a3,a3,()),a4,())) (some a4)) fu ((p1,p2,(wrap .i64 (p1+1)),()),p0,())
theorem Wm:FO 267 (Qi [.one (.own 101),nI,nI] [ar 101 .int] [] [(101,.arrs .int)] [] (List Int) (fun q=>((),q,())) (fun x y=>Q5 fu y.1 x.1 x.2.1)):=fI fu (.two .go (.one (.loop [(0,.one (.own 101)),ni 1,ni 2,ni 6] [ar 101 .int] (.two .go (.two (.join [(0,.one (.own 101)),ni 1,ni 2,ni 6] [ar 101 .int] (.one (.two .go (.one (.loop [(0,.one (.own 101)),ni 1,ni 2,ni 6,ni 7] [ar 101 .int] (.two (.join [(0,.one (.own 101)),ni 1,ni 2,ni 6,ni 7] [ar 101 .int] .go) .go)))))) .go))))) (fun a b=>b.1) (eC (UI fu) eN) Tryz.func267
def Yy(p0:List Int)(p1:Int)(p2:Int)(p3:Int):Option (List Int):=Qk (X:=((Int×Int×Int×Bool×Bool×Unit)×List Int×Unit)) (fun L0 ((a1,a2,a3,a4,a5,_),a6,_)=>cd ((wrap .i64 (a2 - a1))≤12) (optc (Q5 fu a6 a1 a2) fun a7=>chk a7.length a6.length (some a7)) (cd (a3=0) none (cnd (!a4) none none))) fu ((p1,p2,p3,true,true,()),p0,())
theorem VW:FO 248 (Qi [.one (.own 101),nI,nI,nI] [ar 101 .int] [] [(101,.arrs .int)] [] (List Int) (fun q=>((),q,())) (fun x y=>Yy fu y.1 x.1 x.2.1 x.2.2.1)):=fI fu (gs 2 (.one (.loop [(0,.one (.own 101)),ni 1,ni 2,ni 3,(8,.one .boo),(9,.one .boo)] [ar 101 .int] .go))) (fun a b=>b.1) (eC (Wm fu) eN) Tryz.func248
def X7(p0:List Int):Option (List Int):=optc (Um fu (IntKind.wrap .u64 ((p0.length:Nat):Int))) fun a0=>optc (Yy fu p0 0 ((p0.length:Nat):Int) a0) fun a1=>chk a1.length p0.length (some a1)
theorem Qc4:FO 216 (Qi [.one (.own 101)] [ar 101 .int] [] [(101,.arrs .int)] [] (List Int) (fun q=>((),q,())) (fun x y=>X7 fu y.1)):=fI fu .go (fun a b=>b.1) (eC (VW fu) (eC (QbA fu) eN)) Tryz.func216
def Zu(p0:Int)(p1:D.Page):Option (Bool×D.Page):=optc (Zc fu p1.Declined p0) fun a0=>some ((!a0),p1)
theorem Vg:FO 218 (Qi [nI,.one (.ref 101)] [(101,.box bG4),ar 102 .Start,ar 103 .int,ar 104 .int] [.one .boo] [(101,.box bG4),ar 102 .Start,ar 103 .int,ar 104 .int] [] (Bool×D.Page) (fun q=>((q.1,()),(q.2.ID,q.2.Policy,q.2.Start,q.2.Next,q.2.Due,q.2.State,q.2.By,q.2.Until,q.2.Last,q.2.Snoozes,q.2.Hands,()),q.2.Starts,q.2.Declined,q.2.Seen,())) (fun x y=>Zu fu x.1 (D.Page.mk y.1.1 y.1.2.1 y.1.2.2.1 y.1.2.2.2.1 y.1.2.2.2.2.1 y.1.2.2.2.2.2.1 y.1.2.2.2.2.2.2.1 y.1.2.2.2.2.2.2.2.1 y.1.2.2.2.2.2.2.2.2.1 y.1.2.2.2.2.2.2.2.2.2.1 y.1.2.2.2.2.2.2.2.2.2.2.1 y.2.1 y.2.2.1 y.2.2.2.1))):=fI fu .go (fun a b=>(a.1,(D.Page.mk b.1.1 b.1.2.1 b.1.2.2.1 b.1.2.2.2.1 b.1.2.2.2.2.1 b.1.2.2.2.2.2.1 b.1.2.2.2.2.2.2.1 b.1.2.2.2.2.2.2.2.1 b.1.2.2.2.2.2.2.2.2.1 b.1.2.2.2.2.2.2.2.2.2.1 b.1.2.2.2.2.2.2.2.2.2.2.1 b.2.1 b.2.2.1 b.2.2.2.1))) (eC (Z9 fu) eN) Tryz.func218
def QE(p0:List Int)(c101:D.Page):Option (Int×D.Page):=Qk (X:=((List Int×Int×Int×Unit)×P11×List D.Start×List Int×List Int×Unit)) (fun L0 ((a1,a2,a3,_),(a4,a5,a6,a7,a8,a9,a10,a11,a12,a13,a14,_),a15,a16,a17,_)=>cd (a3<a2) (atc a1 a3 fun a18=>optc (Zu fu a18 (D.Page.mk a4 a5 a6 a7 a8 a9 a10 a11 a12 a13 a14 a15 a16 a17)) fun(a19,a20)=>cnd a19 (some (a3,a20)) (L0 ((a1,a2,(wrap .i64 (a3+1)),()),(a20.ID,a20.Policy,a20.Start,a20.Next,a20.Due,a20.State,a20.By,a20.Until,a20.Last,a20.Snoozes,a20.Hands,()),a20.Starts,a20.Declined,a20.Seen,()))) (some ((-1),(D.Page.mk a4 a5 a6 a7 a8 a9 a10 a11 a12 a13 a14 a15 a16 a17)))) fu ((p0,((p0.length:Nat):Int),0,()),((D.Page.ID c101),(D.Page.Policy c101),(D.Page.Start c101),(D.Page.Next c101),(D.Page.Due c101),(D.Page.State c101),(D.Page.By c101),(D.Page.Until c101),(D.Page.Last c101),(D.Page.Snoozes c101),(D.Page.Hands c101),()),(D.Page.Starts c101),(D.Page.Declined c101),(D.Page.Seen c101),())
theorem Yh:FO 250 (Qi [lI,.one (.clo 218 [101])] [(101,.box bG4),ar 102 .Start,ar 103 .int,ar 104 .int] [nI] [(101,.box bG4),ar 102 .Start,ar 103 .int,ar 104 .int] [] (Int×D.Page) (fun q=>((q.1,()),(q.2.ID,q.2.Policy,q.2.Start,q.2.Next,q.2.Due,q.2.State,q.2.By,q.2.Until,q.2.Last,q.2.Snoozes,q.2.Hands,()),q.2.Starts,q.2.Declined,q.2.Seen,())) (fun x y=>QE fu x.1 (D.Page.mk y.1.1 y.1.2.1 y.1.2.2.1 y.1.2.2.2.1 y.1.2.2.2.2.1 y.1.2.2.2.2.2.1 y.1.2.2.2.2.2.2.1 y.1.2.2.2.2.2.2.2.1 y.1.2.2.2.2.2.2.2.2.1 y.1.2.2.2.2.2.2.2.2.2.1 y.1.2.2.2.2.2.2.2.2.2.2.1 y.2.1 y.2.2.1 y.2.2.2.1))):=fI fu (.two .go (lp [(0,lI),(1,.one (.clo 218 [101])),ni 7,ni 8] [(101,.box bG4),ar 102 .Start,ar 103 .int,ar 104 .int] .go)) (fun a b=>(a.1,(D.Page.mk b.1.1 b.1.2.1 b.1.2.2.1 b.1.2.2.2.1 b.1.2.2.2.2.1 b.1.2.2.2.2.2.1 b.1.2.2.2.2.2.2.1 b.1.2.2.2.2.2.2.2.1 b.1.2.2.2.2.2.2.2.2.1 b.1.2.2.2.2.2.2.2.2.2.1 b.1.2.2.2.2.2.2.2.2.2.2.1 b.2.1 b.2.2.1 b.2.2.2.1))) (eC (Vg fu) eN) Tryz.func250
def Qr(p0:List Int)(c101:D.Page):Option (Bool×D.Page):=optc (QE fu p0 c101) fun(a0,a1)=>some ((decide (0≤a0)),a1)
theorem Z7:FO 217 (Qi [lI,.one (.clo 218 [101])] [(101,.box bG4),ar 102 .Start,ar 103 .int,ar 104 .int] [.one .boo] [(101,.box bG4),ar 102 .Start,ar 103 .int,ar 104 .int] [] (Bool×D.Page) (fun q=>((q.1,()),(q.2.ID,q.2.Policy,q.2.Start,q.2.Next,q.2.Due,q.2.State,q.2.By,q.2.Until,q.2.Last,q.2.Snoozes,q.2.Hands,()),q.2.Starts,q.2.Declined,q.2.Seen,())) (fun x y=>Qr fu x.1 (D.Page.mk y.1.1 y.1.2.1 y.1.2.2.1 y.1.2.2.2.1 y.1.2.2.2.2.1 y.1.2.2.2.2.2.1 y.1.2.2.2.2.2.2.1 y.1.2.2.2.2.2.2.2.1 y.1.2.2.2.2.2.2.2.2.1 y.1.2.2.2.2.2.2.2.2.2.1 y.1.2.2.2.2.2.2.2.2.2.2.1 y.2.1 y.2.2.1 y.2.2.2.1))):=fI fu .go (fun a b=>(a.1,(D.Page.mk b.1.1 b.1.2.1 b.1.2.2.1 b.1.2.2.2.1 b.1.2.2.2.2.1 b.1.2.2.2.2.2.1 b.1.2.2.2.2.2.2.1 b.1.2.2.2.2.2.2.2.1 b.1.2.2.2.2.2.2.2.2.1 b.1.2.2.2.2.2.2.2.2.2.1 b.1.2.2.2.2.2.2.2.2.2.2.1 b.2.1 b.2.2.1 b.2.2.2.1))) (eC (Yh fu) eN) Tryz.func217
end
end Go.Proofs.YtgokjdfkpnkekaaGreat
/-
  What functions do, reckoned from their code, and their contracts. Printed by wip/gen/brun.py.
-/
namespace Go.Proofs.YtgokjdfkpnkekaaGreat
open Go AM IntKind
noncomputable section
abbrev bH0:List Sh:=[kI,.lst .Zone,.lst .Person,.lst .Calendar,.lst .Schedule,.lst .Team,.lst .Policy,.own 102,kI,kI,.own 103,.own 104]
abbrev bH1:List Sh:=[kI,kI,kI,kI,kI,kI,kI,kI,kI,kI,kI,.own 2035007,.own 2058007,.own 2061007]
abbrev bH2:List Sh:=[kI,kI,kI,kI,kI,kI,kI,kI,kI,kI,kI,.own 101,.own 102,.own 103]
variable (fu:Nat)
def ZB(p0:D.Page)(p1:D.Answer):Option D.Page:=optc (ZS fu p0) fun a0=>join (Y:=((List Int×Unit)×P11×D.Answer×D.Page×List D.Start×List Int×List Int×Unit)) (fun((a1,_),(a2,a3,a4,a5,a6,a7,a8,a9,a10,a11,a12,_),a13,a14,a15,a16,a17,_)=>join (Y:=(Unit×P11×D.Page×List D.Start×List Int×List Int×Unit)) (fun(_,(a18,a19,a20,a21,a22,a23,a24,a25,a26,a27,a28,_),a29,a30,a31,a32,_)=>some (D.Page.mk a18 a19 a20 a21 a22 a23 a24 a25 a26 a27 a28 a30 a31 a32)) fun J33=>cd (a7=0) (cd (0<((a1.length:Nat):Int)) (optc (Qr fu a1 (D.Page.mk a2 a3 a4 a5 a6 a7 a8 a9 a10 a11 a12 a15 a16 a17)) fun(a34,a35)=>cnd a34 (J33 ((),(a35.ID,a35.Policy,a35.Start,a35.Next,a35.Due,a35.State,a35.By,a35.Until,a35.Last,a35.Snoozes,a35.Hands,()),a14,a35.Starts,a35.Declined,a35.Seen,())) (J33 ((),(a35.ID,a35.Policy,a35.Start,a35.Next,a13.At,a35.State,a35.By,a35.Until,a35.Last,a35.Snoozes,a35.Hands,()),a14,a35.Starts,a35.Declined,a35.Seen,()))) (J33 ((),(a2,a3,a4,a5,a6,a7,a8,a9,a10,a11,a12,()),a14,a15,a16,a17,()))) (J33 ((),(a2,a3,a4,a5,a6,a7,a8,a9,a10,a11,a12,()),a14,a15,a16,a17,()))) fun J36=>optc (ZX fu a0 p1.Person) fun a37=>cnd a37 (optc (Zc fu p0.Declined p1.Person) fun a38=>cnd a38 (J36 ((a0,()),(p0.ID,p0.Policy,p0.Start,p0.Next,p0.Due,p0.State,p0.By,p0.Until,p0.Last,p0.Snoozes,p0.Hands,()),p1,(D.Page.mk 0 0 0 0 0 0 0 0 0 0 0 [] [] []),p0.Starts,p0.Declined,p0.Seen,())) (lec (p0.Declined.length+(List.length (p1.Person::[]))) 34359738368 (optc (X7 fu (p0.Declined++(p1.Person::[]))) fun a39=>chk a39.length (List.length (p0.Declined++(p1.Person::[]))) (J36 ((a0,()),(p0.ID,p0.Policy,p0.Start,p0.Next,p0.Due,p0.State,p0.By,p0.Until,p0.Last,p0.Snoozes,p0.Hands,()),p1,(D.Page.mk 0 0 0 0 0 0 0 0 0 0 0 [] [] []),p0.Starts,a39,p0.Seen,()))))) (J36 ((a0,()),(p0.ID,p0.Policy,p0.Start,p0.Next,p0.Due,p0.State,p0.By,p0.Until,p0.Last,p0.Snoozes,p0.Hands,()),p1,(D.Page.mk 0 0 0 0 0 0 0 0 0 0 0 [] [] []),p0.Starts,p0.Declined,p0.Seen,()))
theorem Vp:FO 171 (Qi [.agg bH2,.st .Answer] [ar 101 .Start,ar 102 .int,ar 103 .int] [.agg bH2] [ar 101 .Start,ar 102 .int,ar 103 .int] [] D.Page (fun q=>(((q.ID,q.Policy,q.Start,q.Next,q.Due,q.State,q.By,q.Until,q.Last,q.Snoozes,q.Hands,()),()),q.Starts,q.Declined,q.Seen,())) (fun x y=>ZB fu (D.Page.mk x.1.1 x.1.2.1 x.1.2.2.1 x.1.2.2.2.1 x.1.2.2.2.2.1 x.1.2.2.2.2.2.1 x.1.2.2.2.2.2.2.1 x.1.2.2.2.2.2.2.2.1 x.1.2.2.2.2.2.2.2.2.1 x.1.2.2.2.2.2.2.2.2.2.1 x.1.2.2.2.2.2.2.2.2.2.2.1 y.1 y.2.1 y.2.2.1) x.2.1)):=fI fu (gs 2 (.two (.join [rf 2,rf 3,rf 4,(5,lI)] [(1002,.box bH2),bx 1003 .Answer,bx 1004 .Page,ar 101 .Start,ar 102 .int,ar 103 .int] .go) (.two (.join [rf 2,rf 4] [(1002,.box bH2),bx 1004 .Page,ar 101 .Start,ar 102 .int,ar 103 .int] .go) .go))) (fun a b=>D.Page.mk a.1.1 a.1.2.1 a.1.2.2.1 a.1.2.2.2.1 a.1.2.2.2.2.1 a.1.2.2.2.2.2.1 a.1.2.2.2.2.2.2.1 a.1.2.2.2.2.2.2.2.1 a.1.2.2.2.2.2.2.2.2.1 a.1.2.2.2.2.2.2.2.2.2.1 a.1.2.2.2.2.2.2.2.2.2.2.1 b.1 b.2.1 b.2.2.1) (eC (Z9 fu) (eC (XF fu) (eC (VX fu) (eC (Qc4 fu) (eC (Z7 fu) eN))))) Tryz.func171
def WT(p0:D.Config)(p1:D.Book)(p2:D.Page)(p3:D.Answer):Option (D.Page×Int):=join (Y:=(Unit×D.Page×D.Answer×D.Page×Unit)) (fun(_,a0,a1,a2,_)=>cd (a1.Page≠a0.ID) (some ((D.Page.mk 0 0 0 0 0 0 0 0 0 0 0 [] [] []),3)) (optc (Y6 fu a0) fun a3=>optc (Zc fu a3.Seen a1.ID) fun a4=>cnd a4 (some (a3,0)) (optc (ZH fu a3 a1) fun a5=>cd (a5≠0) (some ((D.Page.mk 0 0 0 0 0 0 0 0 0 0 0 [] [] []),a5)) (lec (a3.Seen.length+(List.length (a1.ID::[]))) 34359738368 (join (Y:=(Unit×P11×D.Answer×D.Page×List D.Start×List Int×List Int×Unit)) (fun(_,(a6,a7,a8,a9,a10,a11,a12,a13,a14,a15,a16,_),a17,a18,a19,a20,a21,_)=>join (Y:=(Unit×P11×D.Page×List D.Start×List Int×List Int×Unit)) (fun(_,(a22,a23,a24,a25,a26,a27,a28,a29,a30,a31,a32,_),a33,a34,a35,a36,_)=>some ((D.Page.mk a22 a23 a24 a25 a26 a27 a28 a29 a30 a31 a32 a34 a35 a36),0)) fun J37=>cd (a17.Kind=1) (J37 ((),(a6,a7,a8,a9,a10,1,a17.Person,a13,a17.At,a15,a16,()),a18,a19,a20,a21,())) (cd (a17.Kind=2) (optc (ZB fu (D.Page.mk a6 a7 a8 a9 a10 a11 a12 a13 a17.At a15 a16 a19 a20 a21) a17) fun a38=>J37 ((),(a38.ID,a38.Policy,a38.Start,a38.Next,a38.Due,a38.State,a38.By,a38.Until,a38.Last,a38.Snoozes,a38.Hands,()),a18,a38.Starts,a38.Declined,a38.Seen,())) (cd (a17.Kind=3) (J37 ((),(a6,a7,a8,a9,a10,2,a17.Person,(wrap .i64 (a17.At+a17.Arg)),a17.At,(wrap .i64 (a15+1)),a16,()),a18,a19,a20,a21,())) (cd (a17.Kind=4) (lec (a19.length+(List.length ((D.Start.mk (-1) a17.At (a17.Arg::[]))::[]))) 34359738368 (J37 ((),(a6,a7,a8,a9,(wrap .i64 (a17.At+600)),0,a12,a13,a17.At,a15,(wrap .i64 (a16+1)),()),a18,(a19++((D.Start.mk (-1) a17.At (a17.Arg::[]))::[])),[],a21,()))) (cd (a17.Kind=5) (J37 ((),(a6,a7,a8,a9,a10,4,a17.Person,a13,a17.At,a15,a16,()),a18,a19,a20,a21,())) (J37 ((),(a6,a7,a8,a9,a10,a11,a12,a13,a17.At,a15,a16,()),a18,a19,a20,a21,()))))))) fun J39=>cd (a1.Kind=1) (cd (a3.State=1) (some ((D.Page.mk a3.ID a3.Policy a3.Start a3.Next a3.Due a3.State a3.By a3.Until a3.Last a3.Snoozes a3.Hands a3.Starts a3.Declined (a3.Seen++(a1.ID::[]))),0)) (J39 ((),(a3.ID,a3.Policy,a3.Start,a3.Next,a3.Due,a3.State,a3.By,a3.Until,a3.Last,a3.Snoozes,a3.Hands,()),a1,a2,a3.Starts,a3.Declined,(a3.Seen++(a1.ID::[])),()))) (J39 ((),(a3.ID,a3.Policy,a3.Start,a3.Next,a3.Due,a3.State,a3.By,a3.Until,a3.Last,a3.Snoozes,a3.Hands,()),a1,a2,a3.Starts,a3.Declined,(a3.Seen++(a1.ID::[])),()))))))) fun J40=>optc (ZZ fu p1 p2) fun a41=>cnd a41 (optc (VK fu p3) fun a42=>cnd a42 (J40 ((),p2,p3,(D.Page.mk 0 0 0 0 0 0 0 0 0 0 0 [] [] []),())) (some ((D.Page.mk 0 0 0 0 0 0 0 0 0 0 0 [] [] []),8))) (some ((D.Page.mk 0 0 0 0 0 0 0 0 0 0 0 [] [] []),8))
theorem QdZ:FO 117 (Qi [.st .Config,.st .Book,.st .Page,.st .Answer] [] [.st .Page,nI] [] [] (D.Page×Int) (fun q=>((q.1,q.2,()),())) (fun x y=>WT fu x.1 x.2.1 x.2.2.1 x.2.2.2.1)):=fI fu (.two .go (.two (.join [rf 6,rf 7,rf 8] [bx 1006 .Page,bx 1007 .Answer,bx 1008 .Page] .go) (gs 5 (.two (.join [rf 6,rf 7,rf 8] [(1006,.box bH1),bx 1007 .Answer,bx 1008 .Page,ar 2035007 .Start,ar 2058007 .int,ar 2061007 .int] .go) (.two .go (.two (.join [rf 6,rf 8] [(1006,.box bH1),bx 1008 .Page,ar 2035007 .Start,ar 2058007 .int,ar 2061007 .int] .go) .go)))))) (fun a b=>(a.1,a.2.1)) (eC (Z9 fu) (eC (QbP fu) (eC (X1 fu) (eC (WU fu) (eC (VN fu) (eC (Vp fu) eN)))))) Tryz.func117
def QC(p0:List D.Page)(p1:Int):Option (Int×Bool):=Qk (X:=(P4×List D.Page×Unit)) (fun L0 ((a1,a2,a3,a4,_),a5,_)=>cd (a3<a4) (natc 1 fun a6=>natc (wrap .i64 (Int.fdiv (IntKind.wrap .u64 (wrap .i64 (a3+a4))) (HPow.hPow 2 (min a6 (Go.IntKind.bits Go.IntKind.u64))))) fun a7=>ltc a7 a5.length (optc (GetElem?.getElem? a5 a7) fun a8=>optc (XQ fu a8 a1) fun a9=>cd (a9<0) (L0 ((a1,a2,(wrap .i64 ((wrap .i64 (Int.fdiv (IntKind.wrap .u64 (wrap .i64 (a3+a4))) (HPow.hPow 2 (min a6 (Go.IntKind.bits Go.IntKind.u64)))))+1)),a4,()),a5,())) (L0 ((a1,a2,a3,(wrap .i64 (Int.fdiv (IntKind.wrap .u64 (wrap .i64 (a3+a4))) (HPow.hPow 2 (min a6 (Go.IntKind.bits Go.IntKind.u64))))),()),a5,())))) (cd (a3<a2) (natc a3 fun a10=>ltc a10 a5.length (optc (GetElem?.getElem? a5 a10) fun a11=>optc (XQ fu a11 a1) fun a12=>cd (a12=0) (sameC a5 p0 (some (a3,true))) (sameC a5 p0 (some (a3,false))))) (sameC a5 p0 (some (a3,false))))) fu ((p1,((p0.length:Nat):Int),0,((p0.length:Nat):Int),()),p0,())
theorem YV:FO 107 (Qi [.one (.own 101),nI,.one (.fv 108)] [ar 101 .Page] [nI,.one .boo] [] [101] (Int×Bool) (fun q=>((q.1,q.2,()),())) (fun x y=>QC fu y.1 x.1)):=fI fu (gs 3 (.two (.one (.loop [(0,.one (.own 101)),ni 1,(2,.one (.fv 108)),ni 8,ni 9,ni 10] [ar 101 .Page] .go)) .go)) (fun a b=>(a.1,a.2.1)) (eC (Qb6 fu) eN) Tryz.func107
def ZN(p0:D.Ledger)(p1:Int):Option (Int×Bool):=optc (QC fu p0.Pages p1) fun(a0,a1)=>sameC p0.Pages p0.Pages (sameC p0.Seen p0.Seen (sameC p0.Calls p0.Calls (some (a0,a1))))
theorem Xj:FO 64 (Qi [.agg [kI,.lst .Zone,.lst .Person,.lst .Calendar,.lst .Schedule,.lst .Team,.lst .Policy,.own 101,kI,kI,.own 102,.own 103],nI] [ar 101 .Page,ar 102 .int,ar 103 .Call] [nI,.one .boo] [] [101,102,103] (Int×Bool) (fun q=>((q.1,q.2,()),())) (fun x y=>ZN fu (D.Ledger.mk x.1.1 (D.Config.mk x.1.2.1 x.1.2.2.1 x.1.2.2.2.1 x.1.2.2.2.2.1) (D.Book.mk x.1.2.2.2.2.2.1 x.1.2.2.2.2.2.2.1) y.1 x.1.2.2.2.2.2.2.2.1 x.1.2.2.2.2.2.2.2.2.1 y.2.1 y.2.2.1) x.2.1)):=fI fu .go (fun a b=>(a.1,a.2.1)) (eC (YV fu) eN) Tryz.func64
def QV(p0:D.worker)(p1:Int)(p2:Int):Option D.worker:=natc p1 fun a0=>ltc a0 p0.Ledger.Pages.length (optc (GetElem?.getElem? p0.Ledger.Pages a0) fun a1=>natc p2 fun a2=>lec a2 a1.Starts.length (Qk (X:=((List D.Start×Int×Int×Unit)×(Int×List D.Zone×List D.Person×List D.Calendar×List D.Schedule×List D.Team×List D.Policy×Int×Int×Unit)×D.Page×List D.Page×List Int×List D.Call×Unit)) (fun L3 ((a4,a5,a6,_),(a7,a8,a9,a10,a11,a12,a13,a14,a15,_),a16,a17,a18,a19,_)=>cd (a6<a5) (atc a4 a6 fun a20=>Qk (X:=((List D.Start×Int×Int×List Int×Int×Int×Unit)×(Int×List D.Zone×List D.Person×List D.Calendar×List D.Schedule×List D.Team×List D.Policy×Int×Int×Unit)×D.Page×D.Start×List D.Page×List Int×List D.Call×Unit)) (fun L21 ((a22,a23,a24,a25,a26,a27,_),(a28,a29,a30,a31,a32,a33,a34,a35,a36,_),a37,a38,a39,a40,a41,_)=>cd (a27<a26) (atc a25 a27 fun a42=>lec (a41.length+(List.length ((D.Call.mk a37.ID a38.K a38.At a42 a36)::[]))) 34359738368 (L21 ((a22,a23,a24,a25,a26,(wrap .i64 (a27+1)),()),(a28,a29,a30,a31,a32,a33,a34,a35,a36,()),a37,a38,a39,a40,(a41++((D.Call.mk a37.ID a38.K a38.At a42 a36)::[])),()))) (L3 ((a22,a23,(wrap .i64 (a24+1)),()),(a28,a29,a30,a31,a32,a33,a34,a35,a36,()),a37,a39,a40,a41,()))) fu ((a4,a5,a6,a20.People,((a20.People.length:Nat):Int),0,()),(a7,a8,a9,a10,a11,a12,a13,a14,a15,()),a16,a20,a17,a18,a19,())) (some (D.worker.mk (D.Ledger.mk a7 (D.Config.mk a8 a9 a10 a11) (D.Book.mk a12 a13) a17 a14 a15 a18 a19)))) fu (((List.drop a2 a1.Starts),(((List.length (List.drop a2 a1.Starts)):Nat):Int),0,()),(p0.Ledger.Now,p0.Ledger.Config.Zones,p0.Ledger.Config.People,p0.Ledger.Config.Calendars,p0.Ledger.Config.Schedules,p0.Ledger.Book.Teams,p0.Ledger.Book.Policies,p0.Ledger.Owner,p0.Ledger.Fence,()),a1,p0.Ledger.Pages,p0.Ledger.Seen,p0.Ledger.Calls,())))
theorem Xh:FO 118 (Qi [.one (.ref 101),nI,nI] [(101,.box bH0),ar 102 .Page,ar 103 .int,ar 104 .Call] [] [(101,.box bH0),ar 102 .Page,ar 103 .int,ar 104 .Call] [] D.worker (fun q=>((),(q.Ledger.Now,q.Ledger.Config.Zones,q.Ledger.Config.People,q.Ledger.Config.Calendars,q.Ledger.Config.Schedules,q.Ledger.Book.Teams,q.Ledger.Book.Policies,q.Ledger.Owner,q.Ledger.Fence,()),q.Ledger.Pages,q.Ledger.Seen,q.Ledger.Calls,())) (fun x y=>QV fu (D.worker.mk (D.Ledger.mk y.1.1 (D.Config.mk y.1.2.1 y.1.2.2.1 y.1.2.2.2.1 y.1.2.2.2.2.1) (D.Book.mk y.1.2.2.2.2.2.1 y.1.2.2.2.2.2.2.1) y.2.1 y.1.2.2.2.2.2.2.2.1 y.1.2.2.2.2.2.2.2.2.1 y.2.2.1 y.2.2.2.1)) x.1 x.2.1)):=fI fu (gs 2 (.one (.loop [(0,.one (.ref 101)),rf 6,li 22 .Start,ni 23,ni 24] [(101,.box bH0),bx 1006 .Page,ar 102 .Page,ar 103 .int,ar 104 .Call] (gs 2 (.two (.one (gs 2 (.one (.loop [(0,.one (.ref 101)),rf 6,rf 8,li 22 .Start,ni 23,ni 24,(29,lI),ni 30,ni 31] [(101,.box bH0),bx 1006 .Page,bx 1008 .Start,ar 102 .Page,ar 103 .int,ar 104 .Call] .go)))) .go))))) (fun a b=>D.worker.mk (D.Ledger.mk b.1.1 (D.Config.mk b.1.2.1 b.1.2.2.1 b.1.2.2.2.1 b.1.2.2.2.2.1) (D.Book.mk b.1.2.2.2.2.2.1 b.1.2.2.2.2.2.2.1) b.2.1 b.1.2.2.2.2.2.2.2.1 b.1.2.2.2.2.2.2.2.2.1 b.2.2.1 b.2.2.2.1)) eN Tryz.func118
def QB(p0:D.worker)(p1:Int):Option D.worker:=natc p1 fun a0=>ltc a0 p0.Ledger.Pages.length (optc (GetElem?.getElem? p0.Ledger.Pages a0) fun a1=>optc (U8 fu p0.Ledger.Config p0.Ledger.Book a1 p0.Ledger.Now) fun(a2,a3)=>cd (a3≠0) (some p0) (natc p1 fun a4=>ltc a4 p0.Ledger.Pages.length (optc (GetElem?.getElem? p0.Ledger.Pages a4) fun a5=>natc p1 fun a6=>ltc a6 p0.Ledger.Pages.length (optc (GetElem?.getElem? p0.Ledger.Pages a6) fun a7=>optc (QV fu (D.worker.mk (D.Ledger.mk p0.Ledger.Now p0.Ledger.Config p0.Ledger.Book (List.set p0.Ledger.Pages a6 a2) p0.Ledger.Owner p0.Ledger.Fence p0.Ledger.Seen p0.Ledger.Calls)) p1 ((a5.Starts.length:Nat):Int)) fun a8=>some a8))))
theorem Zw:FO 115 (Qi [.one (.ref 101),nI] [(101,.box bH0),ar 102 .Page,ar 103 .int,ar 104 .Call] [] [(101,.box bH0),ar 102 .Page,ar 103 .int,ar 104 .Call] [] D.worker (fun q=>((),(q.Ledger.Now,q.Ledger.Config.Zones,q.Ledger.Config.People,q.Ledger.Config.Calendars,q.Ledger.Config.Schedules,q.Ledger.Book.Teams,q.Ledger.Book.Policies,q.Ledger.Owner,q.Ledger.Fence,()),q.Ledger.Pages,q.Ledger.Seen,q.Ledger.Calls,())) (fun x y=>QB fu (D.worker.mk (D.Ledger.mk y.1.1 (D.Config.mk y.1.2.1 y.1.2.2.1 y.1.2.2.2.1 y.1.2.2.2.2.1) (D.Book.mk y.1.2.2.2.2.2.1 y.1.2.2.2.2.2.2.1) y.2.1 y.1.2.2.2.2.2.2.2.1 y.1.2.2.2.2.2.2.2.2.1 y.2.2.1 y.2.2.2.1)) x.1)):=fI fu .go (fun a b=>D.worker.mk (D.Ledger.mk b.1.1 (D.Config.mk b.1.2.1 b.1.2.2.1 b.1.2.2.2.1 b.1.2.2.2.2.1) (D.Book.mk b.1.2.2.2.2.2.1 b.1.2.2.2.2.2.2.1) b.2.1 b.1.2.2.2.2.2.2.2.1 b.1.2.2.2.2.2.2.2.2.1 b.2.2.1 b.2.2.2.1)) (eC (Xh fu) (eC (QgI fu) eN)) Tryz.func115
def ZK(p0:D.worker)(p1:D.Op):Option (Int×D.worker):=optc (ZN fu p0.Ledger p1.Page) fun(a0,a1)=>cnd a1 (some (4,p0)) (cd (((p0.Ledger.Pages.length:Nat):Int)=64) (some (5,p0)) (optc (QbX fu p0.Ledger.Book p1.Page p1.Policy p0.Ledger.Now) fun(a2,a3)=>cd (a3≠0) (some (a3,p0)) (optc (Qy fu p0.Ledger.Pages a0 (a2::[])) fun a4=>optc (QB fu (D.worker.mk (D.Ledger.mk p0.Ledger.Now p0.Ledger.Config p0.Ledger.Book a4 p0.Ledger.Owner p0.Ledger.Fence p0.Ledger.Seen p0.Ledger.Calls)) a0) fun a5=>some (0,a5))))
theorem VR:FO 68 (Qi [.one (.ref 101),.st .Op] [(101,.box bH0),ar 102 .Page,ar 103 .int,ar 104 .Call] [nI] [(101,.box bH0),ar 102 .Page,ar 103 .int,ar 104 .Call] [] (Int×D.worker) (fun q=>((q.1,()),(q.2.Ledger.Now,q.2.Ledger.Config.Zones,q.2.Ledger.Config.People,q.2.Ledger.Config.Calendars,q.2.Ledger.Config.Schedules,q.2.Ledger.Book.Teams,q.2.Ledger.Book.Policies,q.2.Ledger.Owner,q.2.Ledger.Fence,()),q.2.Ledger.Pages,q.2.Ledger.Seen,q.2.Ledger.Calls,())) (fun x y=>ZK fu (D.worker.mk (D.Ledger.mk y.1.1 (D.Config.mk y.1.2.1 y.1.2.2.1 y.1.2.2.2.1 y.1.2.2.2.2.1) (D.Book.mk y.1.2.2.2.2.2.1 y.1.2.2.2.2.2.2.1) y.2.1 y.1.2.2.2.2.2.2.2.1 y.1.2.2.2.2.2.2.2.2.1 y.2.2.1 y.2.2.2.1)) x.1)):=fI fu .go (fun a b=>(a.1,(D.worker.mk (D.Ledger.mk b.1.1 (D.Config.mk b.1.2.1 b.1.2.2.1 b.1.2.2.2.1 b.1.2.2.2.2.1) (D.Book.mk b.1.2.2.2.2.2.1 b.1.2.2.2.2.2.2.1) b.2.1 b.1.2.2.2.2.2.2.2.1 b.1.2.2.2.2.2.2.2.2.1 b.2.2.1 b.2.2.2.1)))) (eC (Xj fu) (eC (QgH fu) (eC (QaR fu) (eC (Zw fu) eN)))) Tryz.func68
def ZU(fu:Nat)(p0:D.worker)(p1:D.Op):Option (Int×D.worker):=cd (p1.Fence≠(wrap .i64 (p0.Ledger.Fence+1))) (some (23,p0)) (some (0,(D.worker.mk (D.Ledger.mk p0.Ledger.Now p0.Ledger.Config p0.Ledger.Book p0.Ledger.Pages p1.Region p1.Fence p0.Ledger.Seen p0.Ledger.Calls))))
theorem V0:FO 69 (Qi [.one (.ref 101),.st .Op] [(101,.box bH0),ar 102 .Page,ar 103 .int,ar 104 .Call] [nI] [(101,.box bH0),ar 102 .Page,ar 103 .int,ar 104 .Call] [] (Int×D.worker) (fun q=>((q.1,()),(q.2.Ledger.Now,q.2.Ledger.Config.Zones,q.2.Ledger.Config.People,q.2.Ledger.Config.Calendars,q.2.Ledger.Config.Schedules,q.2.Ledger.Book.Teams,q.2.Ledger.Book.Policies,q.2.Ledger.Owner,q.2.Ledger.Fence,()),q.2.Ledger.Pages,q.2.Ledger.Seen,q.2.Ledger.Calls,())) (fun x y=>ZU fu (D.worker.mk (D.Ledger.mk y.1.1 (D.Config.mk y.1.2.1 y.1.2.2.1 y.1.2.2.2.1 y.1.2.2.2.2.1) (D.Book.mk y.1.2.2.2.2.2.1 y.1.2.2.2.2.2.2.1) y.2.1 y.1.2.2.2.2.2.2.2.1 y.1.2.2.2.2.2.2.2.2.1 y.2.2.1 y.2.2.2.1)) x.1)):=fI fu .go (fun a b=>(a.1,(D.worker.mk (D.Ledger.mk b.1.1 (D.Config.mk b.1.2.1 b.1.2.2.1 b.1.2.2.2.1 b.1.2.2.2.2.1) (D.Book.mk b.1.2.2.2.2.2.1 b.1.2.2.2.2.2.2.1) b.2.1 b.1.2.2.2.2.2.2.2.1 b.1.2.2.2.2.2.2.2.2.1 b.2.2.1 b.2.2.2.1)))) eN Tryz.func69
def ZC(p0:D.worker)(p1:D.Op):Option (Int×D.worker):=join (Y:=(Unit×(Int×List D.Zone×List D.Person×List D.Calendar×List D.Schedule×List D.Team×List D.Policy×Int×Int×Unit)×D.Op×List D.Page×List Int×List D.Call×Unit)) (fun(_,(a0,a1,a2,a3,a4,a5,a6,a7,a8,_),a9,a10,a11,a12,_)=>optc (ZN fu (D.Ledger.mk a0 (D.Config.mk a1 a2 a3 a4) (D.Book.mk a5 a6) a10 a7 a8 a11 a12) a9.Page) fun(a13,a14)=>cnd (!a14) (some (3,(D.worker.mk (D.Ledger.mk a0 (D.Config.mk a1 a2 a3 a4) (D.Book.mk a5 a6) a10 a7 a8 a11 a12)))) (natc a13 fun a15=>ltc a15 a10.length (optc (GetElem?.getElem? a10 a15) fun a16=>join (Y:=((Int×Unit)×(Int×List D.Zone×List D.Person×List D.Calendar×List D.Schedule×List D.Team×List D.Policy×Int×Int×Unit)×List D.Page×List Int×List D.Call×Unit)) (fun((a17,_),(a18,a19,a20,a21,a22,a23,a24,a25,a26,_),a27,a28,a29,_)=>optc (QB fu (D.worker.mk (D.Ledger.mk a18 (D.Config.mk a19 a20 a21 a22) (D.Book.mk a23 a24) a27 a25 a26 a28 a29)) a17) fun a30=>some (0,a30)) fun J31=>optc (WE fu a16) fun(a32,a33)=>cnd a33 (cd (a0<a32) (some (9,(D.worker.mk (D.Ledger.mk a0 (D.Config.mk a1 a2 a3 a4) (D.Book.mk a5 a6) a10 a7 a8 a11 a12)))) (optc (QcG fu a16) fun a34=>cd (a34≠a9.K) (some (9,(D.worker.mk (D.Ledger.mk a0 (D.Config.mk a1 a2 a3 a4) (D.Book.mk a5 a6) a10 a7 a8 a11 a12)))) (J31 ((a13,()),(a0,a1,a2,a3,a4,a5,a6,a7,a8,()),a10,a11,a12,())))) (some (9,(D.worker.mk (D.Ledger.mk a0 (D.Config.mk a1 a2 a3 a4) (D.Book.mk a5 a6) a10 a7 a8 a11 a12))))))) fun J35=>cd (p1.Region≠p0.Ledger.Owner) (some (23,p0)) (cd (p1.Fence≠p0.Ledger.Fence) (some (23,p0)) (J35 ((),(p0.Ledger.Now,p0.Ledger.Config.Zones,p0.Ledger.Config.People,p0.Ledger.Config.Calendars,p0.Ledger.Config.Schedules,p0.Ledger.Book.Teams,p0.Ledger.Book.Policies,p0.Ledger.Owner,p0.Ledger.Fence,()),p1,p0.Ledger.Pages,p0.Ledger.Seen,p0.Ledger.Calls,())))
theorem Vq:FO 70 (Qi [.one (.ref 101),.st .Op] [(101,.box bH0),ar 102 .Page,ar 103 .int,ar 104 .Call] [nI] [(101,.box bH0),ar 102 .Page,ar 103 .int,ar 104 .Call] [] (Int×D.worker) (fun q=>((q.1,()),(q.2.Ledger.Now,q.2.Ledger.Config.Zones,q.2.Ledger.Config.People,q.2.Ledger.Config.Calendars,q.2.Ledger.Config.Schedules,q.2.Ledger.Book.Teams,q.2.Ledger.Book.Policies,q.2.Ledger.Owner,q.2.Ledger.Fence,()),q.2.Ledger.Pages,q.2.Ledger.Seen,q.2.Ledger.Calls,())) (fun x y=>ZC fu (D.worker.mk (D.Ledger.mk y.1.1 (D.Config.mk y.1.2.1 y.1.2.2.1 y.1.2.2.2.1 y.1.2.2.2.2.1) (D.Book.mk y.1.2.2.2.2.2.1 y.1.2.2.2.2.2.2.1) y.2.1 y.1.2.2.2.2.2.2.2.1 y.1.2.2.2.2.2.2.2.2.1 y.2.2.1 y.2.2.2.1)) x.1)):=fI fu (.two .go (.two (.join [(0,.one (.ref 101)),rf 3] [(101,.box bH0),bx 1003 .Op,ar 102 .Page,ar 103 .int,ar 104 .Call] .go) (gs 3 (.two (.join [(0,.one (.ref 101)),ni 5] [(101,.box bH0),ar 102 .Page,ar 103 .int,ar 104 .Call] .go) .go)))) (fun a b=>(a.1,(D.worker.mk (D.Ledger.mk b.1.1 (D.Config.mk b.1.2.1 b.1.2.2.1 b.1.2.2.2.1 b.1.2.2.2.2.1) (D.Book.mk b.1.2.2.2.2.2.1 b.1.2.2.2.2.2.2.1) b.2.1 b.1.2.2.2.2.2.2.2.1 b.1.2.2.2.2.2.2.2.2.1 b.2.2.1 b.2.2.2.1)))) (eC (UJ fu) (eC (Xj fu) (eC (Zw fu) (eC (Qjm fu) eN)))) Tryz.func70
def Zv(p0:D.worker)(p1:D.Op):Option (Int×D.worker):=optc (ZN fu p0.Ledger p1.Answer.Page) fun(a0,a1)=>cnd (!a1) (some (3,p0)) (optc (QB fu p0 a0) fun a2=>natc a0 fun a3=>ltc a3 a2.Ledger.Pages.length (optc (GetElem?.getElem? a2.Ledger.Pages a3) fun a4=>optc (WT fu a2.Ledger.Config a2.Ledger.Book a4 (D.Answer.mk p1.Answer.ID p1.Answer.Page p1.Answer.Person p1.Answer.Kind p1.Answer.Arg a2.Ledger.Now)) fun(a5,a6)=>cd (a6≠0) (some (a6,a2)) (natc a0 fun a7=>ltc a7 a2.Ledger.Pages.length (optc (GetElem?.getElem? a2.Ledger.Pages a7) fun a8=>natc a0 fun a9=>ltc a9 a2.Ledger.Pages.length (optc (GetElem?.getElem? a2.Ledger.Pages a9) fun a10=>optc (QV fu (D.worker.mk (D.Ledger.mk a2.Ledger.Now a2.Ledger.Config a2.Ledger.Book (List.set a2.Ledger.Pages a9 a5) a2.Ledger.Owner a2.Ledger.Fence a2.Ledger.Seen a2.Ledger.Calls)) a0 ((a8.Starts.length:Nat):Int)) fun a11=>some (0,a11))))))
theorem Vh:FO 71 (Qi [.one (.ref 101),.st .Op] [(101,.box bH0),ar 102 .Page,ar 103 .int,ar 104 .Call] [nI] [(101,.box bH0),ar 102 .Page,ar 103 .int,ar 104 .Call] [] (Int×D.worker) (fun q=>((q.1,()),(q.2.Ledger.Now,q.2.Ledger.Config.Zones,q.2.Ledger.Config.People,q.2.Ledger.Config.Calendars,q.2.Ledger.Config.Schedules,q.2.Ledger.Book.Teams,q.2.Ledger.Book.Policies,q.2.Ledger.Owner,q.2.Ledger.Fence,()),q.2.Ledger.Pages,q.2.Ledger.Seen,q.2.Ledger.Calls,())) (fun x y=>Zv fu (D.worker.mk (D.Ledger.mk y.1.1 (D.Config.mk y.1.2.1 y.1.2.2.1 y.1.2.2.2.1 y.1.2.2.2.2.1) (D.Book.mk y.1.2.2.2.2.2.1 y.1.2.2.2.2.2.2.1) y.2.1 y.1.2.2.2.2.2.2.2.1 y.1.2.2.2.2.2.2.2.2.1 y.2.2.1 y.2.2.2.1)) x.1)):=fI fu .go (fun a b=>(a.1,(D.worker.mk (D.Ledger.mk b.1.1 (D.Config.mk b.1.2.1 b.1.2.2.1 b.1.2.2.2.1 b.1.2.2.2.2.1) (D.Book.mk b.1.2.2.2.2.2.1 b.1.2.2.2.2.2.2.1) b.2.1 b.1.2.2.2.2.2.2.2.1 b.1.2.2.2.2.2.2.2.2.1 b.2.2.1 b.2.2.2.1)))) (eC (Xj fu) (eC (Zw fu) (eC (QdZ fu) (eC (Xh fu) eN)))) Tryz.func71
def ZJ(p0:D.worker)(p1:D.Op):Option (Int×D.worker):=Qk (X:=((Int×Int×Unit)×(Int×List D.Zone×List D.Person×List D.Calendar×List D.Schedule×List D.Team×List D.Policy×Int×Int×Unit)×D.Op×List D.Page×List Int×List D.Call×Unit)) (fun L0 ((a1,a2,_),(a3,a4,a5,a6,a7,a8,a9,a10,a11,_),a12,a13,a14,a15,_)=>cd (a2<a1) (optc (QB fu (D.worker.mk (D.Ledger.mk a3 (D.Config.mk a4 a5 a6 a7) (D.Book.mk a8 a9) a13 a10 a11 a14 a15)) a2) fun a16=>L0 ((a1,(wrap .i64 (a2+1)),()),(a16.Ledger.Now,a16.Ledger.Config.Zones,a16.Ledger.Config.People,a16.Ledger.Config.Calendars,a16.Ledger.Config.Schedules,a16.Ledger.Book.Teams,a16.Ledger.Book.Policies,a16.Ledger.Owner,a16.Ledger.Fence,()),a12,a16.Ledger.Pages,a16.Ledger.Seen,a16.Ledger.Calls,())) (optc (WD fu (D.Config.mk a4 a5 a6 a7) a12.Schedule a12.Edit) fun(a17,a18)=>join (Y:=((Int×Unit)×(Int×List D.Zone×List D.Person×List D.Calendar×List D.Schedule×List D.Team×List D.Policy×Int×Int×Unit)×List D.Page×List Int×List D.Call×Unit)) (fun((a19,_),(a20,a21,a22,a23,a24,a25,a26,a27,a28,_),a29,a30,a31,_)=>some (a19,(D.worker.mk (D.Ledger.mk a20 (D.Config.mk a21 a22 a23 a24) (D.Book.mk a25 a26) a29 a27 a28 a30 a31)))) fun J32=>cd (a18=0) (J32 ((a18,()),(a3,a17.Zones,a17.People,a17.Calendars,a17.Schedules,a8,a9,a10,a11,()),a13,a14,a15,())) (J32 ((a18,()),(a3,a4,a5,a6,a7,a8,a9,a10,a11,()),a13,a14,a15,())))) fu ((((p0.Ledger.Pages.length:Nat):Int),0,()),(p0.Ledger.Now,p0.Ledger.Config.Zones,p0.Ledger.Config.People,p0.Ledger.Config.Calendars,p0.Ledger.Config.Schedules,p0.Ledger.Book.Teams,p0.Ledger.Book.Policies,p0.Ledger.Owner,p0.Ledger.Fence,()),p1,p0.Ledger.Pages,p0.Ledger.Seen,p0.Ledger.Calls,())
theorem VQ:FO 72 (Qi [.one (.ref 101),.st .Op] [(101,.box bH0),ar 102 .Page,ar 103 .int,ar 104 .Call] [nI] [(101,.box bH0),ar 102 .Page,ar 103 .int,ar 104 .Call] [] (Int×D.worker) (fun q=>((q.1,()),(q.2.Ledger.Now,q.2.Ledger.Config.Zones,q.2.Ledger.Config.People,q.2.Ledger.Config.Calendars,q.2.Ledger.Config.Schedules,q.2.Ledger.Book.Teams,q.2.Ledger.Book.Policies,q.2.Ledger.Owner,q.2.Ledger.Fence,()),q.2.Ledger.Pages,q.2.Ledger.Seen,q.2.Ledger.Calls,())) (fun x y=>ZJ fu (D.worker.mk (D.Ledger.mk y.1.1 (D.Config.mk y.1.2.1 y.1.2.2.1 y.1.2.2.2.1 y.1.2.2.2.2.1) (D.Book.mk y.1.2.2.2.2.2.1 y.1.2.2.2.2.2.2.1) y.2.1 y.1.2.2.2.2.2.2.2.1 y.1.2.2.2.2.2.2.2.2.1 y.2.2.1 y.2.2.2.1)) x.1)):=fI fu (.two .go (.two (.two .go (.one (.loop [(0,.one (.ref 101)),rf 3,ni 13,ni 14] [(101,.box bH0),bx 1003 .Op,ar 102 .Page,ar 103 .int,ar 104 .Call] .go))) (.two .go (.two (.join [ni 7] [(101,.box bH0),ar 102 .Page,ar 103 .int,ar 104 .Call] .go) .go)))) (fun a b=>(a.1,(D.worker.mk (D.Ledger.mk b.1.1 (D.Config.mk b.1.2.1 b.1.2.2.1 b.1.2.2.2.1 b.1.2.2.2.2.1) (D.Book.mk b.1.2.2.2.2.2.1 b.1.2.2.2.2.2.2.1) b.2.1 b.1.2.2.2.2.2.2.2.1 b.1.2.2.2.2.2.2.2.2.1 b.2.2.1 b.2.2.2.1)))) (eC (Zw fu) (eC (Qi3 fu) eN)) Tryz.func72
def Qbd(p0:D.Ledger)(p1:D.Op):Option (D.Ledger×Int×Bool):=join (Y:=(Unit×D.Ledger×D.Op×D.Ledger×Unit)) (fun(_,a0,a1,a2,_)=>optc (Qac fu a0) fun a3=>optc (Zc fu a3.Seen a1.ID) fun a4=>cnd a4 (some (a3,0,true)) (cd (((a3.Seen.length:Nat):Int)=256) (some (a0,5,false)) (lec (a3.Seen.length+(List.length (a1.ID::[]))) 34359738368 (join (Y:=((Int×Unit)×D.Ledger×(Int×List D.Zone×List D.Person×List D.Calendar×List D.Schedule×List D.Team×List D.Policy×Int×Int×Unit)×List D.Page×List Int×List D.Call×Unit)) (fun((a5,_),a6,(a7,a8,a9,a10,a11,a12,a13,a14,a15,_),a16,a17,a18,_)=>some ((D.Ledger.mk a7 (D.Config.mk a8 a9 a10 a11) (D.Book.mk a12 a13) a16 a14 a15 a17 a18),a5,true)) fun J19=>cd (a1.Kind=1) (optc (ZK fu (D.worker.mk (D.Ledger.mk (max a3.Now a1.At) a3.Config a3.Book a3.Pages a3.Owner a3.Fence (a3.Seen++(a1.ID::[])) a3.Calls)) a1) fun(a20,a21)=>J19 ((a20,()),a2,(a21.Ledger.Now,a21.Ledger.Config.Zones,a21.Ledger.Config.People,a21.Ledger.Config.Calendars,a21.Ledger.Config.Schedules,a21.Ledger.Book.Teams,a21.Ledger.Book.Policies,a21.Ledger.Owner,a21.Ledger.Fence,()),a21.Ledger.Pages,a21.Ledger.Seen,a21.Ledger.Calls,())) (cd (a1.Kind=2) (optc (ZU fu (D.worker.mk (D.Ledger.mk (max a3.Now a1.At) a3.Config a3.Book a3.Pages a3.Owner a3.Fence (a3.Seen++(a1.ID::[])) a3.Calls)) a1) fun(a22,a23)=>J19 ((a22,()),a2,(a23.Ledger.Now,a23.Ledger.Config.Zones,a23.Ledger.Config.People,a23.Ledger.Config.Calendars,a23.Ledger.Config.Schedules,a23.Ledger.Book.Teams,a23.Ledger.Book.Policies,a23.Ledger.Owner,a23.Ledger.Fence,()),a23.Ledger.Pages,a23.Ledger.Seen,a23.Ledger.Calls,())) (cd (a1.Kind=3) (optc (ZC fu (D.worker.mk (D.Ledger.mk (max a3.Now a1.At) a3.Config a3.Book a3.Pages a3.Owner a3.Fence (a3.Seen++(a1.ID::[])) a3.Calls)) a1) fun(a24,a25)=>J19 ((a24,()),a2,(a25.Ledger.Now,a25.Ledger.Config.Zones,a25.Ledger.Config.People,a25.Ledger.Config.Calendars,a25.Ledger.Config.Schedules,a25.Ledger.Book.Teams,a25.Ledger.Book.Policies,a25.Ledger.Owner,a25.Ledger.Fence,()),a25.Ledger.Pages,a25.Ledger.Seen,a25.Ledger.Calls,())) (cd (a1.Kind=4) (optc (Zv fu (D.worker.mk (D.Ledger.mk (max a3.Now a1.At) a3.Config a3.Book a3.Pages a3.Owner a3.Fence (a3.Seen++(a1.ID::[])) a3.Calls)) a1) fun(a26,a27)=>J19 ((a26,()),a2,(a27.Ledger.Now,a27.Ledger.Config.Zones,a27.Ledger.Config.People,a27.Ledger.Config.Calendars,a27.Ledger.Config.Schedules,a27.Ledger.Book.Teams,a27.Ledger.Book.Policies,a27.Ledger.Owner,a27.Ledger.Fence,()),a27.Ledger.Pages,a27.Ledger.Seen,a27.Ledger.Calls,())) (optc (ZJ fu (D.worker.mk (D.Ledger.mk (max a3.Now a1.At) a3.Config a3.Book a3.Pages a3.Owner a3.Fence (a3.Seen++(a1.ID::[])) a3.Calls)) a1) fun(a28,a29)=>J19 ((a28,()),a2,(a29.Ledger.Now,a29.Ledger.Config.Zones,a29.Ledger.Config.People,a29.Ledger.Config.Calendars,a29.Ledger.Config.Schedules,a29.Ledger.Book.Teams,a29.Ledger.Book.Policies,a29.Ledger.Owner,a29.Ledger.Fence,()),a29.Ledger.Pages,a29.Ledger.Seen,a29.Ledger.Calls,()))))))))) fun J30=>optc (UN fu p0) fun a31=>cnd a31 (optc (Qbc fu p1) fun a32=>cnd a32 (J30 ((),p0,p1,(D.Ledger.mk 0 (D.Config.mk [] [] [] []) (D.Book.mk [] []) [] 0 0 [] []),())) (some (p0,8,false))) (some (p0,8,false))
theorem QhP:FO 41 (Qi [.st .Ledger,.st .Op] [] [.st .Ledger,nI,.one .boo] [] [] (D.Ledger×Int×Bool) (fun q=>((q.1,q.2.1,q.2.2,()),())) (fun x y=>Qbd fu x.1 x.2.1)):=fI fu (.two .go (.two (.join [rf 2,rf 3,rf 4] [bx 1002 .Ledger,bx 1003 .Op,bx 1004 .Ledger] .go) (gs 5 (.two (.join [rf 4,(7,.one (.ref 1021)),ni 8] [bx 1004 .Ledger,(1021,.box [kI,.lst .Zone,.lst .Person,.lst .Calendar,.lst .Schedule,.lst .Team,.lst .Policy,.own 3079007,kI,kI,.own 2074007,.own 2077007]),ar 3079007 .Page,ar 2074007 .int,ar 2077007 .Call] .go) .go)))) (fun a b=>(a.1,a.2.1,a.2.2.1)) (eC (Qg7 fu) (eC (QhN fu) (eC (QhO fu) (eC (Z9 fu) (eC (VR fu) (eC (V0 fu) (eC (Vq fu) (eC (Vh fu) (eC (VQ fu) eN))))))))) Tryz.func41
def Wv(p0:D.Ledger)(p1:D.Op):Option (D.Ledger×Int):=optc (Qbd fu p0 p1) fun(a0,a1,a2)=>cnd (!a2) (some ((D.Ledger.mk 0 (D.Config.mk [] [] [] []) (D.Book.mk [] []) [] 0 0 [] []),a1)) (some (a0,a1))
theorem Qdb:FO 16 (Qi [.st .Ledger,.st .Op] [] [.st .Ledger,nI] [] [] (D.Ledger×Int) (fun q=>((q.1,q.2,()),())) (fun x y=>Wv fu x.1 x.2.1)):=fI fu .go (fun a b=>(a.1,a.2.1)) (eC (QhP fu) eN) Tryz.func16
def Qd8(fu:Nat)(p0:List Int):Option D.Dice:=some (D.Dice.mk p0 0)
theorem Qfm:FO 12 (Qi [lI] [] [.one (.ref 1005)] [bx 1005 .Dice] [] D.Dice (fun q=>((),q,())) (fun x y=>Qd8 fu x.1)):=fI fu .go (fun a b=>b.1) eN Tryz.func12
def Qhm(fu:Nat)(p0:Int):Option Bool:=cd (48≤p0) (cd (p0≤57) sT sF) sF
theorem Qk1:FO 221 (sB [.one (.num .u8)] fun x=>Qhm fu x.1):=fI fu .go (fun a b=>a.1) eN Tryz.func221
def QcN(p0:ByteArray):Option Bool:=join (Y:=((ByteArray×Unit)×Unit)) (fun((a0,_),_)=>Qk (X:=((ByteArray×Int×Unit)×Unit)) (fun L1 ((a2,a3,_),_)=>cd (a3<(((ByteArray.size a2):Nat):Int)) (join (Y:=((ByteArray×Int×Unit)×Unit)) (fun((a4,a5,_),_)=>L1 ((a4,(wrap .i64 (a5+1)),()),())) fun J6=>natc a3 fun a7=>ltc a7 (ByteArray.size a2) (cd ((((bAt a2 a7):Nat):Int)<97) (natc a3 fun a8=>ltc a8 (ByteArray.size a2) (optc (Qhm fu (((bAt a2 a8):Nat):Int)) fun a9=>cnd a9 (J6 ((a2,a3,()),())) (natc a3 fun a10=>ltc a10 (ByteArray.size a2) (cd ((((bAt a2 a10):Nat):Int)≠95) (natc a3 fun a11=>ltc a11 (ByteArray.size a2) (cd ((((bAt a2 a11):Nat):Int)≠45) sF (J6 ((a2,a3,()),())))) (J6 ((a2,a3,()),())))))) (natc a3 fun a12=>ltc a12 (ByteArray.size a2) (cd (122<(((bAt a2 a12):Nat):Int)) (natc a3 fun a13=>ltc a13 (ByteArray.size a2) (optc (Qhm fu (((bAt a2 a13):Nat):Int)) fun a14=>cnd a14 (J6 ((a2,a3,()),())) (natc a3 fun a15=>ltc a15 (ByteArray.size a2) (cd ((((bAt a2 a15):Nat):Int)≠95) (natc a3 fun a16=>ltc a16 (ByteArray.size a2) (cd ((((bAt a2 a16):Nat):Int)≠45) sF (J6 ((a2,a3,()),())))) (J6 ((a2,a3,()),())))))) (J6 ((a2,a3,()),())))))) sT) fu ((a0,0,()),())) fun J17=>cd ((((ByteArray.size p0):Nat):Int)<1) sF (cd (24<(((ByteArray.size p0):Nat):Int)) sF (natc 0 fun a18=>ltc a18 (ByteArray.size p0) (cd ((((bAt p0 a18):Nat):Int)<97) sF (natc 0 fun a19=>ltc a19 (ByteArray.size p0) (cd (122<(((bAt p0 a19):Nat):Int)) sF (J17 ((p0,()),())))))))
theorem QdF:FO 173 (sB [.one .str] fun x=>QcN fu x.1):=fI fu (.two .go (.two (.join [(0,.one .str)] [] .go) (lp [(0,.one .str),ni 3] [] (.two .go (.two (.join [(0,.one .str),ni 3] [] .go) .go))))) (fun a b=>a.1) (eC (Qk1 fu) eN) Tryz.func173
def Qcc(fu:Nat)(p0:Int)(p1:Int)(p2:Int):Option Bool:=cd (p1≤p0) (cd (p0≤p2) sT sF) sF
theorem QkY:FO 222 (sB [nI,nI,nI] fun x=>Qcc fu x.1 x.2.1 x.2.2.1):=fI fu .go (fun a b=>a.1) eN Tryz.func222
def QkZ(p0:D.YearRule):Option Bool:=optc (Qcc fu p0.From 1970 2240) fun a0=>cnd a0 (optc (Qcc fu p0.To p0.From 2240) fun a1=>cnd a1 (optc (Qcc fu p0.Month 1 12) fun a2=>cnd a2 (optc (Qcc fu p0.Week 1 5) fun a3=>cnd a3 (optc (Qcc fu p0.Weekday 0 6) fun a4=>cnd a4 (optc (Qcc fu p0.Second 0 86399) fun a5=>cnd a5 (optc (Qcc fu p0.Offset (-64800) 64800) fun a6=>cnd a6 sT sF) sF) sF) sF) sF) sF) sF
theorem Qk0:FO 223 (sB [.st .YearRule] fun x=>QkZ fu x.1):=fI fu .go (fun a b=>a.1) (eC (QkY fu) eN) Tryz.func223
def Qbj(fu:Nat)(p0:Int):Option Int:=nzc 7 (nzc 7 (some (Int.tmod (wrap .i64 ((Int.tmod p0 7)+10)) 7)))
theorem QhX:FO 256 (sI [nI] fun x=>Qbj fu x.1):=fI fu .go (fun a b=>a.1) eN Tryz.func256
def Qjw(fu:Nat)(p0:Int):Option Int:=nzc 4 (nzc 100 (nzc 400 (some (wrap .i64 ((wrap .i64 ((wrap .i64 ((wrap .i64 ((wrap .i64 (p0 - 1970))*365))+(wrap .i64 (Int.tdiv (wrap .i64 (p0 - 1969)) 4)))) - (wrap .i64 (Int.tdiv (wrap .i64 (p0 - 1901)) 100))))+(wrap .i64 (Int.tdiv (wrap .i64 (p0 - 1601)) 400)))))))
theorem Qhk:FO 176 (sI [nI] fun x=>Qjw fu x.1):=fI fu .go (fun a b=>a.1) eN Tryz.func176
def Qm2(fu:Nat)(p0:Int):Option Bool:=nzc 4 (cd ((Int.tmod p0 4)=0) (nzc 100 (cd ((Int.tmod p0 100)≠0) sT (nzc 400 (cd ((Int.tmod p0 400)=0) sT sF)))) sF)
theorem Ql7:FO 303 (sB [nI] fun x=>Qm2 fu x.1):=fI fu .go (fun a b=>a.1) eN Tryz.func303
def QfX(p0:Int)(p1:Int):Option Int:=join (Y:=((Int×Int×Bool×Unit)×Unit)) (fun((a0,a1,a2,_),_)=>cnd a2 (some 31) (join (Y:=((Int×Int×Bool×Unit)×Unit)) (fun((a3,a4,a5,_),_)=>cnd a5 (some 30) (cd (a4=2) (optc (Qm2 fu a3) fun a6=>cnd a6 (some 29) (some 28)) (some 0))) fun J7=>cd (a1=4) (J7 ((a0,a1,(decide (a1=4)),()),())) (cd (a1=6) (J7 ((a0,a1,(decide (a1=6)),()),())) (cd (a1=9) (J7 ((a0,a1,(decide (a1=9)),()),())) (J7 ((a0,a1,(decide (a1=11)),()),())))))) fun J8=>cd (p1=1) (J8 ((p0,p1,(decide (p1=1)),()),())) (cd (p1=3) (J8 ((p0,p1,(decide (p1=3)),()),())) (cd (p1=5) (J8 ((p0,p1,(decide (p1=5)),()),())) (cd (p1=7) (J8 ((p0,p1,(decide (p1=7)),()),())) (cd (p1=8) (J8 ((p0,p1,(decide (p1=8)),()),())) (cd (p1=10) (J8 ((p0,p1,(decide (p1=10)),()),())) (J8 ((p0,p1,(decide (p1=12)),()),())))))))
theorem QdE:FO 279 (sI [nI,nI] fun x=>QfX fu x.1 x.2.1):=fI fu (.two .go (.two (.two .go (.one (.two (.join [ni 0,ni 5,(6,.one .boo)] [] .go) (.two .go (.two (.join [ni 0,ni 5,(14,.one .boo)] [] .go) .go))))) .go)) (fun a b=>a.1) (eC (Ql7 fu) eN) Tryz.func279
def QkV(p0:D.Date):Option Bool:=cd (1970≤p0.Year) (cd (p0.Year≤2240) (cd (1≤p0.Month) (cd (p0.Month≤12) (cd (1≤p0.Day) (optc (QfX fu p0.Year p0.Month) fun a0=>cd (p0.Day≤a0) sT sF) sF) sF) sF) sF) sF
theorem QkW:FO 302 (sB [.st .Date] fun x=>QkV fu x.1):=fI fu .go (fun a b=>a.1) (eC (QdE fu) eN) Tryz.func302
def QpI(p0:D.Date):Option (Int×Int):=optc (QkV fu p0) fun a0=>cnd (!a0) (some (0,1)) (optc (Qjw fu p0.Year) fun a1=>Qk (X:=((Int×Int×Unit)×D.Date×Unit)) (fun L2 ((a3,a4,_),a5,_)=>cd (a4<a5.Month) (optc (QfX fu a5.Year a4) fun a6=>L2 (((wrap .i64 (a3+a6)),(wrap .i64 (a4+1)),()),a5,())) (some ((wrap .i64 ((wrap .i64 (a3+a5.Day)) - 1)),0))) fu ((a1,1,()),p0,()))
theorem QnK:FO 278 (Qi [.st .Date] [] [nI,nI] [] [] (Int×Int) (fun q=>((q.1,q.2,()),())) (fun x y=>QpI fu x.1)):=fI fu (gs 3 (lp [rf 1,ni 4,ni 5] [bx 1001 .Date] .go)) (fun a b=>(a.1,a.2.1)) (eC (Qhk fu) (eC (QdE fu) (eC (QkW fu) eN))) Tryz.func278
def QpJ(p0:Int)(p1:Int)(p2:Int)(p3:Int):Option (Int×Int):=optc (QpI fu (D.Date.mk p0 p1 1)) fun(a0,a1)=>join (Y:=(P5×Unit)) (fun((a2,a3,a4,a5,a6,_),_)=>Qk (X:=(P6×Unit)) (fun L7 ((a8,a9,a10,a11,a12,a13,_),_)=>optc (Qbj fu a13) fun a14=>cd (a14≠a11) (L7 ((a8,a9,a10,a11,a12,(wrap .i64 (a13+1)),()),())) (cd (a10<5) (some ((wrap .i64 (a13+(wrap .i64 (7*(wrap .i64 (a10 - 1)))))),0)) (Qk (X:=(P4×Unit)) (fun L15 ((a16,a17,a18,a19,_),_)=>optc (QfX fu a16 a17) fun a20=>cd ((wrap .i64 (a19+7))<(wrap .i64 (a18+a20))) (L15 ((a16,a17,a18,(wrap .i64 (a19+7)),()),())) (some (a19,0))) fu ((a8,a9,a12,a13,()),())))) fu ((a2,a3,a4,a5,a6,a6,()),())) fun J21=>cd (a1≠0) (some (0,1)) (cd (p2<1) (some (0,1)) (cd (5<p2) (some (0,1)) (cd (p3<0) (some (0,1)) (cd (6<p3) (some (0,1)) (J21 ((p0,p1,p2,p3,a0,()),()))))))
theorem QnL:FO 251 (Qi [nI,nI,nI,nI] [] [nI,nI] [] [] (Int×Int) (fun q=>((q.1,q.2,()),())) (fun x y=>QpJ fu x.1 x.2.1 x.2.2.1 x.2.2.2.1)):=fI fu (gs 2 (.two (.join [ni 0,ni 1,ni 2,ni 3,ni 10] [] .go) (.two .go (.two (.one (.loop [ni 0,ni 1,ni 2,ni 3,ni 10,ni 12] [] .go)) (.two .go (.two (.one (.loop [ni 0,ni 1,ni 10,ni 12] [] .go)) .go)))))) (fun a b=>(a.1,a.2.1)) (eC (QhX fu) (eC (QnK fu) (eC (QdE fu) eN))) Tryz.func251
def Qcd(p0:List D.YearRule):Option (List D.Occurrence):=Qk (X:=((List D.YearRule×Int×Unit)×List D.Occurrence×Unit)) (fun L0 ((a1,a2,_),a3,_)=>cd (a2<((a1.length:Nat):Int)) (atc a1 a2 fun a4=>Qk (X:=((List D.YearRule×Int×Int×Unit)×List D.Occurrence×Unit)) (fun L5 ((a6,a7,a8,_),a9,_)=>atc a6 a7 fun a10=>cd (a8≤a10.To) (atc a6 a7 fun a11=>atc a6 a7 fun a12=>atc a6 a7 fun a13=>optc (QpJ fu a8 a11.Month a12.Week a13.Weekday) fun(a14,a15)=>atc a6 a7 fun a16=>atc a6 a7 fun a17=>join (Y:=((List D.YearRule×Int×Int×Int×Unit)×D.Occurrence×List D.Occurrence×Unit)) (fun((a18,a19,a20,a21,_),a22,a23,_)=>lec (a23.length+(List.length (a22::[]))) 34359738368 (natc (wrap .i64 (a21+1)) fun a24=>lec a24 (List.length (a23++(a22::[]))) (natc a21 fun a25=>lec a25 (List.length (a23++(a22::[]))) (chk (List.length (a23++(a22::[]))) (List.length (a23++(a22::[]))) (chk (List.length (a23++(a22::[]))) (List.length (a23++(a22::[]))) (lec a24 (List.length (a23++(a22::[]))) (lec a25 a24 (natc a21 fun a26=>ltc a26 (List.length ((List.take a24 (a23++(a22::[])))++(List.take ((List.length (a23++(a22::[]))) - a24) (List.drop a25 (a23++(a22::[])))))) (optc (GetElem?.getElem? ((List.take a24 (a23++(a22::[])))++(List.take ((List.length (a23++(a22::[]))) - a24) (List.drop a25 (a23++(a22::[]))))) a26) fun a27=>L5 ((a18,a19,(wrap .i64 (a20+1)),()),(List.set ((List.take a24 (a23++(a22::[])))++(List.take ((List.length (a23++(a22::[]))) - a24) (List.drop a25 (a23++(a22::[]))))) a26 a22),())))))))))) fun J28=>Qk (X:=((List D.YearRule×Int×Int×Int×Unit)×D.Occurrence×List D.Occurrence×Unit)) (fun L29 ((a30,a31,a32,a33,_),a34,a35,_)=>join (Y:=((List D.YearRule×Int×Int×Int×Unit)×D.Occurrence×List D.Occurrence×Unit)) (fun((a36,a37,a38,a39,_),a40,a41,_)=>L29 ((a36,a37,a38,(wrap .i64 (a39 - 1)),()),a40,a41,())) fun J42=>cd (0<a33) (natc (wrap .i64 (a33 - 1)) fun a43=>ltc a43 a35.length (optc (GetElem?.getElem? a35 a43) fun a44=>cd (a34.At<a44.At) (J42 ((a30,a31,a32,a33,()),a34,a35,())) (J28 ((a30,a31,a32,a33,()),a34,a35,())))) (J28 ((a30,a31,a32,a33,()),a34,a35,()))) fu ((a6,a7,a8,((a9.length:Nat):Int),()),(D.Occurrence.mk (wrap .i64 ((wrap .i64 (a14*86400))+a16.Second)) a17.Offset),a9,())) (L0 ((a6,(wrap .i64 (a7+1)),()),a9,()))) fu ((a1,a2,a4.From,()),a3,())) (some a3)) fu ((p0,0,()),[],())
theorem Qef:FO 224 (Qi [.one (.lst .YearRule)] [] [.one (.lst .Occurrence)] [] [] (List D.Occurrence) (fun q=>((q,()),())) (fun x y=>Qcd fu x.1)):=fI fu (gs 2 (lp [li 0 .YearRule,(3,.one (.own 1084)),ni 4] [ar 1084 .Occurrence] (.two .go (.two (.one (.two .go (.one (.loop [li 0 .YearRule,(3,.one (.own 1084)),ni 4,ni 5] [ar 1084 .Occurrence] (.two .go (.two (.one (gs 3 (.two (.join [li 0 .YearRule,(3,.one (.own 1084)),ni 4,ni 5,rf 8,ni 9] [bx 1008 .Occurrence,ar 1084 .Occurrence] (.one (.loop [li 0 .YearRule,(3,.one (.own 1084)),ni 4,ni 5,rf 8,ni 9] [bx 1008 .Occurrence,ar 1084 .Occurrence] (.two (.join [li 0 .YearRule,(3,.one (.own 1084)),ni 4,ni 5,rf 8,ni 9] [bx 1008 .Occurrence,ar 1084 .Occurrence] .go) .go)))) .go))) .go)))))) .go)))) (fun a b=>a.1) (eC (QnL fu) eN) Tryz.func224
def Qcb(p0:D.Zone):Option (List D.Transition×Int):=optc (Qcc fu p0.Offset (-64800) 64800) fun a0=>cnd (!a0) (some ([],1)) (cd (16<((p0.Rules.length:Nat):Int)) (some ([],5)) (Qk (X:=((Int×Int×Unit)×D.Zone×Unit)) (fun L1 ((a2,a3,_),a4,_)=>cd (a3<((a4.Rules.length:Nat):Int)) (atc a4.Rules a3 fun a5=>optc (QkZ fu a5) fun a6=>cnd (!a6) (some ([],1)) (atc a4.Rules a3 fun a7=>atc a4.Rules a3 fun a8=>L1 (((wrap .i64 (a2+(wrap .i64 ((wrap .i64 (a7.To - a8.From))+1)))),(wrap .i64 (a3+1)),()),a4,()))) (cd (640<a2) (some ([],5)) (optc (Qcd fu a4.Rules) fun a9=>Qk (X:=((List D.Occurrence×Int×Int×Unit)×List D.Transition×Unit)) (fun L10 ((a11,a12,a13,_),a14,_)=>cd (a13<((a11.length:Nat):Int)) (join (Y:=((List D.Occurrence×Int×Int×Unit)×List D.Transition×Unit)) (fun((a15,a16,a17,_),a18,_)=>L10 ((a15,a16,(wrap .i64 (a17+1)),()),a18,())) fun J19=>atc a11 a13 fun a20=>cd (a20.Offset=a12) (J19 ((a11,a12,a13,()),a14,())) (atc a11 a13 fun a21=>atc a11 a13 fun a22=>join (Y:=((List D.Occurrence×Int×Unit)×D.Transition×List D.Transition×Unit)) (fun((a23,a24,_),a25,a26,_)=>lec (a26.length+(List.length (a25::[]))) 34359738368 (J19 ((a23,a25.Offset,a24,()),(a26++(a25::[])),()))) fun J27=>optc (Qcc fu (wrap .i64 (a22.Offset - a12)) (-86399) 86399) fun a28=>cnd a28 (optc (Qcc fu (wrap .i64 (a21.At - a12)) 0 8589934592) fun a29=>cnd a29 (cd (0<((a14.length:Nat):Int)) (natc (wrap .i64 (((a14.length:Nat):Int) - 1)) fun a30=>ltc a30 a14.length (optc (GetElem?.getElem? a14 a30) fun a31=>cd ((wrap .i64 ((wrap .i64 (a21.At - a12)) - a31.At))<604800) (some ([],6)) (J27 ((a11,a13,()),(D.Transition.mk (wrap .i64 (a21.At - a12)) a22.Offset),a14,())))) (J27 ((a11,a13,()),(D.Transition.mk (wrap .i64 (a21.At - a12)) a22.Offset),a14,()))) (some ([],6))) (some ([],6)))) (some (a14,0))) fu ((a9,a4.Offset,0,()),[],())))) fu ((0,0,()),p0,())))
theorem Qee:FO 175 (Qi [.st .Zone] [] [.one (.lst .Transition),nI] [] [] (List D.Transition×Int) (fun q=>((q.1,q.2,()),())) (fun x y=>Qcb fu x.1)):=fI fu (gs 4 (.two (.two .go (.one (.loop [rf 1,ni 4,ni 5] [bx 1001 .Zone] .go))) (gs 4 (lp [(6,.one (.own 1115)),li 7 .Occurrence,ni 8,ni 9] [ar 1115 .Transition] (.two .go (.two (.join [(6,.one (.own 1115)),li 7 .Occurrence,ni 8,ni 9] [ar 1115 .Transition] (.one (gs 2 (.two (.join [(6,.one (.own 1115)),li 7 .Occurrence,ni 9,rf 10] [bx 1010 .Transition,ar 1115 .Transition] .go) .go)))) .go)))))) (fun a b=>(a.1,a.2.1)) (eC (QkY fu) (eC (Qk0 fu) (eC (Qef fu) eN))) Tryz.func175
def Qhl(p0:D.Zone):Option Int:=optc (Qcb fu p0) fun(a0,a1)=>some a1
theorem QkX:FO 123 (sI [.st .Zone] fun x=>Qhl fu x.1):=fI fu .go (fun a b=>a.1) (eC (Qee fu) eN) Tryz.func123
def QdG(p0:D.Zone):Option Bool:=nzc 60 (Qk (X:=((Bool×Int×Unit)×D.Zone×Unit)) (fun L0 ((a1,a2,_),a3,_)=>cd (a2<((a3.Rules.length:Nat):Int)) (join (Y:=((Bool×Int×Unit)×D.Zone×Unit)) (fun((a4,a5,_),a6,_)=>L0 ((a4,(wrap .i64 (a5+1)),()),a6,())) fun J7=>cnd a1 (atc a3.Rules a2 fun a8=>nzc 60 (cd ((Int.tmod a8.Offset 60)=0) (J7 ((true,a2,()),a3,())) (J7 ((false,a2,()),a3,())))) (J7 ((false,a2,()),a3,()))) (some a1)) fu (((decide ((Int.tmod p0.Offset 60)=0)),0,()),p0,()))
theorem QhY:FO 124 (sB [.st .Zone] fun x=>QdG fu x.1):=fI fu (gs 2 (lp [rf 1,(3,.one .boo),ni 4] [bx 1001 .Zone] (.two .go (.two (.join [rf 1,(3,.one .boo),ni 4] [bx 1001 .Zone] .go) .go)))) (fun a b=>a.1) eN Tryz.func124
def XA(p0:List ByteArray)(p1:Int):Option Int:=natc p1 fun a0=>ltc a0 p0.length (optc (GetElem?.getElem? p0 a0) fun a1=>optc (QcN fu a1) fun a2=>cnd (!a2) (sameC p0 p0 (some 2)) (Qk (X:=((Int×Int×Unit)×List ByteArray×Unit)) (fun L3 ((a4,a5,_),a6,_)=>cd (a5<a4) (natc a5 fun a7=>ltc a7 a6.length (optc (GetElem?.getElem? a6 a7) fun a8=>natc a4 fun a9=>ltc a9 a6.length (optc (GetElem?.getElem? a6 a9) fun a10=>cd (a8=a10) (sameC a6 p0 (some 4)) (L3 ((a4,(wrap .i64 (a5+1)),()),a6,()))))) (sameC a6 p0 (some 0))) fu ((p1,0,()),p0,())))
theorem Ur:FO 122 (Qi [.one (.own 101),nI] [ar 101 .str] [nI] [] [101] Int (fun q=>((q,()),())) (fun x y=>XA fu y.1 x.1)):=fI fu (gs 2 (lp [(0,.one (.own 101)),ni 1,ni 5] [ar 101 .str] .go)) (fun a b=>a.1) (eC (QdF fu) eN) Tryz.func122
def Qeh(p0:D.Config):Option Int:=Qk (X:=((Int×Unit)×D.Config×List ByteArray×Unit)) (fun L0 ((a1,_),a2,a3,_)=>cd (a1<((a2.Zones.length:Nat):Int)) (join (Y:=((Int×Unit)×D.Config×List ByteArray×Unit)) (fun((a4,_),a5,a6,_)=>L0 (((wrap .i64 (a4+1)),()),a5,a6,())) fun J7=>atc a2.Zones a1 fun a8=>lec (a3.length+(List.length (a8.Name::[]))) 34359738368 (optc (XA fu (a3++(a8.Name::[])) a1) fun a9=>cd (a9≠0) (some a9) (atc a2.Zones a1 fun a10=>optc (Qhl fu a10) fun a11=>cd (a11≠0) (some 8) (atc a2.Zones a1 fun a12=>optc (QdG fu a12) fun a13=>cnd a13 (J7 ((a1,()),a2,(a3++(a8.Name::[])),())) (some 8))))) (some 0)) fu ((0,()),p0,[],())
theorem Qk5:FO 79 (sI [.st .Config] fun x=>Qeh fu x.1):=fI fu (gs 2 (lp [rf 1,(3,.one (.own 1021)),ni 4] [bx 1001 .Config,ar 1021 .str] (.two .go (.two (.join [rf 1,(3,.one (.own 1021)),ni 4] [bx 1001 .Config,ar 1021 .str] .go) .go)))) (fun a b=>a.1) (eC (Ur fu) (eC (QkX fu) (eC (QhY fu) eN))) Tryz.func79
def W1(fu:Nat)(p0:Int)(p1:Int)(p2:Int):Option Bool:=cd (p1≤p0) (cd (p0≤p2) sT sF) sF
theorem Qce:FO 125 (sB [nI,nI,nI] fun x=>W1 fu x.1 x.2.1 x.2.2.1):=fI fu .go (fun a b=>a.1) eN Tryz.func125
def QaF(p0:List D.Window):Option Int:=cd (14<((p0.length:Nat):Int)) (some 5) (Qk (X:=((List D.Window×Int×Unit)×Unit)) (fun L0 ((a1,a2,_),_)=>cd (a2<((a1.length:Nat):Int)) (join (Y:=((List D.Window×Int×Unit)×Unit)) (fun((a3,a4,_),_)=>L0 ((a3,(wrap .i64 (a4+1)),()),())) fun J5=>join (Y:=((List D.Window×Int×Unit)×Unit)) (fun((a6,a7,_),_)=>cd (0<a7) (atc a6 a7 fun a8=>atc a6 (wrap .i64 (a7 - 1)) fun a9=>cd (a8.From<a9.To) (some 6) (J5 ((a6,a7,()),()))) (J5 ((a6,a7,()),()))) fun J10=>atc a1 a2 fun a11=>cd (a11.From<0) (some 1) (atc a1 a2 fun a12=>atc a1 a2 fun a13=>cd (a13.To≤a12.From) (some 1) (atc a1 a2 fun a14=>cd (604800<a14.To) (some 1) (J10 ((a1,a2,()),()))))) (some 0)) fu ((p0,0,()),()))
theorem Qfp:FO 126 (sI [.one (.lst .Window)] fun x=>QaF fu x.1):=fI fu (gs 2 (lp [li 0 .Window,ni 3] [] (.two .go (.two (.join [li 0 .Window,ni 3] [] (.one (.two (.join [li 0 .Window,ni 3] [] .go) .go))) .go)))) (fun a b=>a.1) eN Tryz.func126
def QaG(p0:Int):Option Bool:=optc (W1 fu p0 0 604800) fun a0=>cnd a0 (nzc 3600 (cd ((Int.tmod p0 3600)=0) sT sF)) sF
theorem Qk3:FO 127 (sB [nI] fun x=>QaG fu x.1):=fI fu .go (fun a b=>a.1) (eC (Qce fu) eN) Tryz.func127
def QcO(p0:D.Config):Option Int:=Qk (X:=((Int×Unit)×D.Config×List ByteArray×Unit)) (fun L0 ((a1,_),a2,a3,_)=>cd (a1<((a2.People.length:Nat):Int)) (join (Y:=((Int×Unit)×D.Config×List ByteArray×Unit)) (fun((a4,_),a5,a6,_)=>L0 (((wrap .i64 (a4+1)),()),a5,a6,())) fun J7=>atc a2.People a1 fun a8=>lec (a3.length+(List.length (a8.Name::[]))) 34359738368 (cd (a8.Name=(ByteArray.mk (List.toArray (110::(111::(98::(111::(100::(121::[]))))))))) (some 2) (optc (XA fu (a3++(a8.Name::[])) a1) fun a9=>cd (a9≠0) (some a9) (optc (W1 fu a8.Zone 0 (wrap .i64 (((a2.Zones.length:Nat):Int) - 1))) fun a10=>cnd (!a10) (some 3) (optc (QaF fu a8.Quiet) fun a11=>cd (a11≠0) (some 8) (optc (QaG fu a8.MaxWeek) fun a12=>cnd a12 (optc (QaG fu a8.MinRest) fun a13=>cnd a13 (J7 ((a1,()),a2,(a3++(a8.Name::[])),())) (some 1)) (some 1))))))) (some 0)) fu ((0,()),p0,[],())
theorem Qjx:FO 80 (sI [.st .Config] fun x=>QcO fu x.1):=fI fu (gs 2 (lp [rf 1,(3,.one (.own 1023)),ni 4] [bx 1001 .Config,ar 1023 .str] (.two .go (.two (.join [rf 1,(3,.one (.own 1023)),ni 4] [bx 1001 .Config,ar 1023 .str] .go) .go)))) (fun a b=>a.1) (eC (Ur fu) (eC (Qce fu) (eC (Qfp fu) (eC (Qk3 fu) eN)))) Tryz.func80
def Q6:Option Int:=optc (Qjw fu 2241) fun a0=>some (wrap .i64 (a0 - 1))
theorem Qbi:FO 128 (sI [] fun x=>Q6 fu):=fI fu .go (fun a b=>a.1) (eC (Qhk fu) eN) Tryz.func128
def Uq(p0:D.Config):Option Int:=Qk (X:=((Int×Unit)×D.Config×List ByteArray×Unit)) (fun L0 ((a1,_),a2,a3,_)=>cd (a1<((a2.Calendars.length:Nat):Int)) (atc a2.Calendars a1 fun a4=>lec (a3.length+(List.length (a4.Name::[]))) 34359738368 (optc (XA fu (a3++(a4.Name::[])) a1) fun a5=>cd (a5≠0) (some a5) (optc (W1 fu a4.Zone 0 (wrap .i64 (((a2.Zones.length:Nat):Int) - 1))) fun a6=>cnd (!a6) (some 3) (cd (64<((a4.Days.length:Nat):Int)) (some 5) (Qk (X:=((Int×Int×Unit)×D.Config×D.Calendar×List ByteArray×Unit)) (fun L7 ((a8,a9,_),a10,a11,a12,_)=>cd (a9<((a11.Days.length:Nat):Int)) (atc a11.Days a9 fun a13=>optc (Q6 fu) fun a14=>optc (W1 fu a13 0 a14) fun a15=>cnd (!a15) (some 1) (L7 ((a8,(wrap .i64 (a9+1)),()),a10,a11,a12,()))) (Qk (X:=((Int×Int×Unit)×D.Config×D.Calendar×List ByteArray×Unit)) (fun L16 ((a17,a18,_),a19,a20,a21,_)=>cd (a18<((a20.Days.length:Nat):Int)) (atc a20.Days a18 fun a22=>atc a20.Days (wrap .i64 (a18 - 1)) fun a23=>cd (a22≤a23) (some 6) (L16 ((a17,(wrap .i64 (a18+1)),()),a19,a20,a21,()))) (L0 (((wrap .i64 (a17+1)),()),a19,a21,()))) fu ((a8,1,()),a10,a11,a12,()))) fu ((a1,0,()),a2,a4,(a3++(a4.Name::[])),())))))) (some 0)) fu ((0,()),p0,[],())
theorem QfC:FO 81 (sI [.st .Config] fun x=>Uq fu x.1):=fI fu (gs 2 (lp [rf 1,(3,.one (.own 1025)),ni 4] [bx 1001 .Config,ar 1025 .str] (.two .go (.two (.one (gs 5 (.two (.two .go (.one (.loop [rf 1,(3,.one (.own 1025)),ni 4,rf 5,ni 7] [bx 1001 .Config,bx 1005 .Calendar,ar 1025 .str] .go))) (.two .go (.one (.loop [rf 1,(3,.one (.own 1025)),ni 4,rf 5,ni 8] [bx 1001 .Config,bx 1005 .Calendar,ar 1025 .str] .go)))))) .go)))) (fun a b=>a.1) (eC (Ur fu) (eC (Qce fu) (eC (Qbi fu) eN))) Tryz.func81
def Qcf(p0:D.Config)(p1:D.Layer):Option Int:=join (Y:=(Unit×D.Config×D.Layer×Unit)) (fun(_,a0,a1,_)=>Qk (X:=((Int×Unit)×D.Config×D.Layer×Unit)) (fun L2 ((a3,_),a4,a5,_)=>cd (a3<((a5.Members.length:Nat):Int)) (atc a5.Members a3 fun a6=>optc (W1 fu a6 0 (wrap .i64 (((a4.People.length:Nat):Int) - 1))) fun a7=>cnd (!a7) (some 3) (L2 (((wrap .i64 (a3+1)),()),a4,a5,()))) (join (Y:=(Unit×Unit)) (fun(_,_)=>some 0) fun J8=>optc (QaF fu a5.Windows) fun a9=>cd (a9≠0) (some 8) (optc (W1 fu a5.Mode 0 2) fun a10=>cnd (!a10) (some 1) (cd (a5.Mode≠0) (optc (W1 fu a5.Calendar 0 (wrap .i64 (((a4.Calendars.length:Nat):Int) - 1))) fun a11=>cnd a11 (cd (a5.Mode=0) (cd (a5.Calendar≠0) (some 1) (J8 ((),()))) (J8 ((),()))) (some 3)) (cd (a5.Mode=0) (cd (a5.Calendar≠0) (some 1) (J8 ((),()))) (J8 ((),()))))))) fu ((0,()),a0,a1,())) fun J12=>optc (W1 fu p1.Zone 0 (wrap .i64 (((p0.Zones.length:Nat):Int) - 1))) fun a13=>cnd (!a13) (some 3) (optc (Q6 fu) fun a14=>optc (W1 fu p1.Start.Day 1 a14) fun a15=>cnd a15 (optc (W1 fu p1.Start.Second 0 86399) fun a16=>cnd a16 (optc (W1 fu p1.Unit 0 2) fun a17=>cnd a17 (optc (W1 fu p1.Every 1 400) fun a18=>cnd a18 (cd (((p1.Members.length:Nat):Int)=0) (some 7) (cd (12<((p1.Members.length:Nat):Int)) (some 5) (J12 ((),p0,p1,())))) (some 1)) (some 1)) (some 1)) (some 1))
theorem Qk4:FO 129 (sI [.st .Config,.st .Layer] fun x=>Qcf fu x.1 x.2.1):=fI fu (.two .go (.two (.join [rf 2,rf 3] [bx 1002 .Config,bx 1003 .Layer] .go) (.two (.two .go (.one (.loop [rf 2,rf 3,ni 5] [bx 1002 .Config,bx 1003 .Layer] .go))) (.two (.join [] [] .go) .go)))) (fun a b=>a.1) (eC (Qce fu) (eC (Qfp fu) (eC (Qbi fu) eN))) Tryz.func129
def QfY(p0:D.Config)(p1:D.Edit):Option Int:=join (Y:=(Unit×Unit)) (fun(_,_)=>some 0) fun J0=>optc (W1 fu p1.Kind 0 2) fun a1=>cnd (!a1) (some 1) (optc (W1 fu p1.A 0 (wrap .i64 (((p0.People.length:Nat):Int) - 1))) fun a2=>cnd a2 (cd (p1.Kind=2) (optc (W1 fu p1.B 0 (wrap .i64 (((p0.People.length:Nat):Int) - 1))) fun a3=>cnd a3 (cd (p1.Kind≠2) (cd (p1.B≠0) (some 1) (cd (p1.Kind=2) (cd (p1.A=p1.B) (some 4) (cd (p1.From<0) (some 1) (cd (p1.To<0) (some 1) (nzc 86400 (optc (Q6 fu) fun a4=>cd (a4<(wrap .i64 (Int.tdiv p1.To 86400))) (some 1) (cd (p1.To≤p1.From) (some 6) (J0 ((),())))))))) (cd (p1.From<0) (some 1) (cd (p1.To<0) (some 1) (nzc 86400 (optc (Q6 fu) fun a5=>cd (a5<(wrap .i64 (Int.tdiv p1.To 86400))) (some 1) (cd (p1.To≤p1.From) (some 6) (J0 ((),()))))))))) (cd (p1.Kind=2) (cd (p1.A=p1.B) (some 4) (cd (p1.From<0) (some 1) (cd (p1.To<0) (some 1) (nzc 86400 (optc (Q6 fu) fun a6=>cd (a6<(wrap .i64 (Int.tdiv p1.To 86400))) (some 1) (cd (p1.To≤p1.From) (some 6) (J0 ((),())))))))) (cd (p1.From<0) (some 1) (cd (p1.To<0) (some 1) (nzc 86400 (optc (Q6 fu) fun a7=>cd (a7<(wrap .i64 (Int.tdiv p1.To 86400))) (some 1) (cd (p1.To≤p1.From) (some 6) (J0 ((),()))))))))) (some 3)) (cd (p1.Kind≠2) (cd (p1.B≠0) (some 1) (cd (p1.Kind=2) (cd (p1.A=p1.B) (some 4) (cd (p1.From<0) (some 1) (cd (p1.To<0) (some 1) (nzc 86400 (optc (Q6 fu) fun a8=>cd (a8<(wrap .i64 (Int.tdiv p1.To 86400))) (some 1) (cd (p1.To≤p1.From) (some 6) (J0 ((),())))))))) (cd (p1.From<0) (some 1) (cd (p1.To<0) (some 1) (nzc 86400 (optc (Q6 fu) fun a9=>cd (a9<(wrap .i64 (Int.tdiv p1.To 86400))) (some 1) (cd (p1.To≤p1.From) (some 6) (J0 ((),()))))))))) (cd (p1.Kind=2) (cd (p1.A=p1.B) (some 4) (cd (p1.From<0) (some 1) (cd (p1.To<0) (some 1) (nzc 86400 (optc (Q6 fu) fun a10=>cd (a10<(wrap .i64 (Int.tdiv p1.To 86400))) (some 1) (cd (p1.To≤p1.From) (some 6) (J0 ((),())))))))) (cd (p1.From<0) (some 1) (cd (p1.To<0) (some 1) (nzc 86400 (optc (Q6 fu) fun a11=>cd (a11<(wrap .i64 (Int.tdiv p1.To 86400))) (some 1) (cd (p1.To≤p1.From) (some 6) (J0 ((),())))))))))) (cd (p1.Kind≠1) (some 3) (cd (p1.A≠(-1)) (some 3) (cd (p1.Kind=2) (optc (W1 fu p1.B 0 (wrap .i64 (((p0.People.length:Nat):Int) - 1))) fun a12=>cnd a12 (cd (p1.Kind≠2) (cd (p1.B≠0) (some 1) (cd (p1.Kind=2) (cd (p1.A=p1.B) (some 4) (cd (p1.From<0) (some 1) (cd (p1.To<0) (some 1) (nzc 86400 (optc (Q6 fu) fun a13=>cd (a13<(wrap .i64 (Int.tdiv p1.To 86400))) (some 1) (cd (p1.To≤p1.From) (some 6) (J0 ((),())))))))) (cd (p1.From<0) (some 1) (cd (p1.To<0) (some 1) (nzc 86400 (optc (Q6 fu) fun a14=>cd (a14<(wrap .i64 (Int.tdiv p1.To 86400))) (some 1) (cd (p1.To≤p1.From) (some 6) (J0 ((),()))))))))) (cd (p1.Kind=2) (cd (p1.A=p1.B) (some 4) (cd (p1.From<0) (some 1) (cd (p1.To<0) (some 1) (nzc 86400 (optc (Q6 fu) fun a15=>cd (a15<(wrap .i64 (Int.tdiv p1.To 86400))) (some 1) (cd (p1.To≤p1.From) (some 6) (J0 ((),())))))))) (cd (p1.From<0) (some 1) (cd (p1.To<0) (some 1) (nzc 86400 (optc (Q6 fu) fun a16=>cd (a16<(wrap .i64 (Int.tdiv p1.To 86400))) (some 1) (cd (p1.To≤p1.From) (some 6) (J0 ((),()))))))))) (some 3)) (cd (p1.Kind≠2) (cd (p1.B≠0) (some 1) (cd (p1.Kind=2) (cd (p1.A=p1.B) (some 4) (cd (p1.From<0) (some 1) (cd (p1.To<0) (some 1) (nzc 86400 (optc (Q6 fu) fun a17=>cd (a17<(wrap .i64 (Int.tdiv p1.To 86400))) (some 1) (cd (p1.To≤p1.From) (some 6) (J0 ((),())))))))) (cd (p1.From<0) (some 1) (cd (p1.To<0) (some 1) (nzc 86400 (optc (Q6 fu) fun a18=>cd (a18<(wrap .i64 (Int.tdiv p1.To 86400))) (some 1) (cd (p1.To≤p1.From) (some 6) (J0 ((),()))))))))) (cd (p1.Kind=2) (cd (p1.A=p1.B) (some 4) (cd (p1.From<0) (some 1) (cd (p1.To<0) (some 1) (nzc 86400 (optc (Q6 fu) fun a19=>cd (a19<(wrap .i64 (Int.tdiv p1.To 86400))) (some 1) (cd (p1.To≤p1.From) (some 6) (J0 ((),())))))))) (cd (p1.From<0) (some 1) (cd (p1.To<0) (some 1) (nzc 86400 (optc (Q6 fu) fun a20=>cd (a20<(wrap .i64 (Int.tdiv p1.To 86400))) (some 1) (cd (p1.To≤p1.From) (some 6) (J0 ((),())))))))))))))
theorem Ql8:FO 130 (sI [.st .Config,.st .Edit] fun x=>QfY fu x.1 x.2.1):=fI fu (gs 2 (.two (.join [] [] .go) .go)) (fun a b=>a.1) (eC (Qce fu) (eC (Qbi fu) eN)) Tryz.func130
def Us(p0:D.Config):Option Int:=Qk (X:=((Int×Unit)×D.Config×List ByteArray×Unit)) (fun L0 ((a1,_),a2,a3,_)=>cd (a1<((a2.Schedules.length:Nat):Int)) (atc a2.Schedules a1 fun a4=>lec (a3.length+(List.length (a4.Name::[]))) 34359738368 (optc (XA fu (a3++(a4.Name::[])) a1) fun a5=>cd (a5≠0) (some a5) (join (Y:=((Int×Unit)×D.Config×D.Schedule×List ByteArray×Unit)) (fun((a6,_),a7,a8,a9,_)=>Qk (X:=((Int×Int×Unit)×D.Config×D.Schedule×List ByteArray×List ByteArray×Unit)) (fun L10 ((a11,a12,_),a13,a14,a15,a16,_)=>cd (a12<((a14.Layers.length:Nat):Int)) (atc a14.Layers a12 fun a17=>lec (a16.length+(List.length (a17.Name::[]))) 34359738368 (optc (XA fu (a16++(a17.Name::[])) a12) fun a18=>cd (a18≠0) (some a18) (atc a14.Layers a12 fun a19=>optc (Qcf fu a13 a19) fun a20=>cd (a20≠0) (some a20) (L10 ((a11,(wrap .i64 (a12+1)),()),a13,a14,a15,(a16++(a17.Name::[])),()))))) (Qk (X:=((Int×Int×Unit)×D.Config×D.Schedule×List ByteArray×Unit)) (fun L21 ((a22,a23,_),a24,a25,a26,_)=>cd (a23<((a25.Edits.length:Nat):Int)) (atc a25.Edits a23 fun a27=>optc (QfY fu a24 a27) fun a28=>cd (a28≠0) (some a28) (L21 ((a22,(wrap .i64 (a23+1)),()),a24,a25,a26,()))) (L0 (((wrap .i64 (a22+1)),()),a24,a26,()))) fu ((a11,0,()),a13,a14,a15,()))) fu ((a6,0,()),a7,a8,a9,[],())) fun J29=>cd (6<((a4.Layers.length:Nat):Int)) (some 5) (cd (48<((a4.Edits.length:Nat):Int)) (some 5) (J29 ((a1,()),a2,a4,(a3++(a4.Name::[])),())))))) (some 0)) fu ((0,()),p0,[],())
theorem QfD:FO 82 (sI [.st .Config] fun x=>Us fu x.1):=fI fu (gs 2 (lp [rf 1,(3,.one (.own 1029)),ni 4] [bx 1001 .Config,ar 1029 .str] (.two .go (.two (.one (gs 3 (.two (.join [rf 1,(3,.one (.own 1029)),ni 4,rf 5] [bx 1001 .Config,bx 1005 .Schedule,ar 1029 .str] .go) (.two .go (.two (.two .go (.one (.loop [rf 1,(3,.one (.own 1029)),ni 4,rf 5,(7,.one (.own 1061)),ni 8] [bx 1001 .Config,bx 1005 .Schedule,ar 1029 .str,ar 1061 .str] .go))) (.two .go (.one (.loop [rf 1,(3,.one (.own 1029)),ni 4,rf 5,ni 11] [bx 1001 .Config,bx 1005 .Schedule,ar 1029 .str] .go)))))))) .go)))) (fun a b=>a.1) (eC (Ur fu) (eC (Qk4 fu) (eC (Ql8 fu) eN))) Tryz.func82
def Qeg(p0:D.Config):Option Int:=join (Y:=(Unit×D.Config×Unit)) (fun(_,a0,_)=>optc (Qeh fu a0) fun a1=>cd (a1≠0) (some a1) (optc (QcO fu a0) fun a2=>cd (a2≠0) (some a2) (optc (Uq fu a0) fun a3=>cd (a3≠0) (some a3) (optc (Us fu a0) fun a4=>some a4)))) fun J5=>cd (16<((p0.Zones.length:Nat):Int)) (some 5) (cd (32<((p0.People.length:Nat):Int)) (some 5) (cd (8<((p0.Calendars.length:Nat):Int)) (some 5) (cd (12<((p0.Schedules.length:Nat):Int)) (some 5) (J5 ((),p0,())))))
theorem Qk2:FO 52 (sI [.st .Config] fun x=>Qeg fu x.1):=fI fu (.two .go (.two (.join [rf 1] [bx 1001 .Config] .go) .go)) (fun a b=>a.1) (eC (Qk5 fu) (eC (Qjx fu) (eC (QfC fu) (eC (QfD fu) eN)))) Tryz.func52
def Qbk(p0:List Int)(p1:Int):Option Bool:=Qk (X:=((List Int×Int×Int×Unit)×Unit)) (fun L0 ((a1,a2,a3,_),_)=>cd (a3<((a1.length:Nat):Int)) (join (Y:=((List Int×Int×Int×Unit)×Unit)) (fun((a4,a5,a6,_),_)=>L0 ((a4,a5,(wrap .i64 (a6+1)),()),())) fun J7=>atc a1 a3 fun a8=>cd (a8<0) sF (atc a1 a3 fun a9=>cd (a2≤a9) sF (cd (0<a3) (atc a1 (wrap .i64 (a3 - 1)) fun a10=>atc a1 a3 fun a11=>cd (a11≤a10) sF (J7 ((a1,a2,a3,()),()))) (J7 ((a1,a2,a3,()),()))))) sT) fu ((p0,p1,0,()),())
theorem Qe1:FO 78 (sB [lI,nI] fun x=>Qbk fu x.1 x.2.1):=fI fu (.two .go (lp [(0,lI),ni 1,ni 5] [] (.two .go (.two (.join [(0,lI),ni 1,ni 5] [] .go) .go)))) (fun a b=>a.1) eN Tryz.func78
def QfZ(p0:D.Config)(p1:D.Book)(p2:Int):Option Int:=atc p1.Teams p2 fun a0=>optc (QcN fu a0.Name) fun a1=>cnd (!a1) (some 8) (Qk (X:=((Int×Int×Unit)×D.Config×D.Book×D.Team×Unit)) (fun L2 ((a3,a4,_),a5,a6,a7,_)=>cd (a4<a3) (atc a6.Teams a4 fun a8=>cd (a8.Name=a7.Name) (some 4) (L2 ((a3,(wrap .i64 (a4+1)),()),a5,a6,a7,()))) (cd (((a7.Members.length:Nat):Int)=0) (some 7) (Qk (X:=((Int×Unit)×D.Config×D.Team×Unit)) (fun L9 ((a10,_),a11,a12,_)=>cd (a10<((a12.Members.length:Nat):Int)) (atc a12.Members (wrap .i64 (a10 - 1)) fun a13=>atc a12.Members a10 fun a14=>cd (a14≤a13) (some 6) (L9 (((wrap .i64 (a10+1)),()),a11,a12,()))) (optc (Qbk fu a12.Members ((a11.People.length:Nat):Int)) fun a15=>cnd (!a15) (some 3) (some 0))) fu ((1,()),a5,a7,())))) fu ((p2,0,()),p0,p1,a0,()))
theorem Qma:FO 120 (sI [.st .Config,.st .Book,nI] fun x=>QfZ fu x.1 x.2.1 x.2.2.1):=fI fu (gs 3 (.two (.two .go (.one (.loop [ni 2,rf 3,rf 4,rf 7,ni 8] [bx 1003 .Config,bx 1004 .Book,bx 1007 .Team] .go))) (.two .go (lp [rf 3,rf 7,ni 9] [bx 1003 .Config,bx 1007 .Team] .go)))) (fun a b=>a.1) (eC (Qe1 fu) (eC (QdF fu) eN)) Tryz.func120
def Wb(fu:Nat)(p0:Int)(p1:Int)(p2:Int):Option Bool:=cd (p1≤p0) (cd (p0≤p2) sT sF) sF
theorem QaH:FO 43 (sB [nI,nI,nI] fun x=>Wb fu x.1 x.2.1 x.2.2.1):=fI fu .go (fun a b=>a.1) eN Tryz.func43
def Qbl(p0:D.Config)(p1:D.Book)(p2:List D.Target):Option Int:=cd (6<((p2.length:Nat):Int)) (some 5) (Qk (X:=((List D.Target×Int×Unit)×D.Config×D.Book×Unit)) (fun L0 ((a1,a2,_),a3,a4,_)=>cd (a2<((a1.length:Nat):Int)) (join (Y:=((List D.Target×Int×Unit)×D.Config×D.Book×Unit)) (fun((a5,a6,_),a7,a8,_)=>L0 ((a5,(wrap .i64 (a6+1)),()),a7,a8,())) fun J9=>join (Y:=((List D.Target×Int×Int×Unit)×D.Config×D.Book×Unit)) (fun((a10,a11,a12,_),a13,a14,_)=>atc a10 a11 fun a15=>cd (a15.Index<0) (some 3) (atc a10 a11 fun a16=>cd (a12≤a16.Index) (some 3) (J9 ((a10,a11,()),a13,a14,())))) fun J17=>atc a1 a2 fun a18=>cd (a18.Kind=0) (J17 ((a1,a2,((a3.People.length:Nat):Int),()),a3,a4,())) (cd (a18.Kind=1) (J17 ((a1,a2,((a3.Schedules.length:Nat):Int),()),a3,a4,())) (cd (a18.Kind=2) (J17 ((a1,a2,((a4.Teams.length:Nat):Int),()),a3,a4,())) (J17 ((a1,a2,(-1),()),a3,a4,()))))) (some 0)) fu ((p2,0,()),p0,p1,()))
theorem QhZ:FO 174 (sI [.st .Config,.st .Book,.one (.lst .Target)] fun x=>Qbl fu x.1 x.2.1 x.2.2.1):=fI fu (gs 2 (lp [li 2 .Target,rf 3,rf 4,ni 7] [bx 1003 .Config,bx 1004 .Book] (.two .go (.two (.join [li 2 .Target,rf 3,rf 4,ni 7] [bx 1003 .Config,bx 1004 .Book] (.one (.two .go (.two (.join [li 2 .Target,rf 3,rf 4,ni 7,ni 8] [bx 1003 .Config,bx 1004 .Book] .go) .go)))) .go)))) (fun a b=>a.1) eN Tryz.func174
def QcP(p0:D.Config)(p1:D.Book)(p2:Int):Option Int:=atc p1.Policies p2 fun a0=>optc (QcN fu a0.Name) fun a1=>cnd (!a1) (some 8) (Qk (X:=((Int×Int×Unit)×D.Config×D.Book×D.Policy×Unit)) (fun L2 ((a3,a4,_),a5,a6,a7,_)=>cd (a4<a3) (atc a6.Policies a4 fun a8=>cd (a8.Name=a7.Name) (some 4) (L2 ((a3,(wrap .i64 (a4+1)),()),a5,a6,a7,()))) (cd (((a7.Steps.length:Nat):Int)=0) (some 7) (cd (8<((a7.Steps.length:Nat):Int)) (some 5) (optc (Wb fu a7.Repeat 0 8) fun a9=>cnd (!a9) (some 1) (Qk (X:=((Int×Unit)×D.Config×D.Book×D.Policy×Unit)) (fun L10 ((a11,_),a12,a13,a14,_)=>cd (a11<((a14.Steps.length:Nat):Int)) (atc a14.Steps a11 fun a15=>optc (Wb fu a15.Wait 0 86400) fun a16=>cnd (!a16) (some 1) (atc a14.Steps a11 fun a17=>optc (Qbl fu a12 a13 a17.Targets) fun a18=>cd (a18≠0) (some a18) (L10 (((wrap .i64 (a11+1)),()),a12,a13,a14,())))) (some 0)) fu ((0,()),a5,a6,a7,())))))) fu ((p2,0,()),p0,p1,a0,()))
theorem Qjz:FO 121 (sI [.st .Config,.st .Book,nI] fun x=>QcP fu x.1 x.2.1 x.2.2.1):=fI fu (gs 3 (.two (.two .go (.one (.loop [ni 2,rf 3,rf 4,rf 7,ni 8] [bx 1003 .Config,bx 1004 .Book,bx 1007 .Policy] .go))) (.two .go (lp [rf 3,rf 4,rf 7,ni 9] [bx 1003 .Config,bx 1004 .Book,bx 1007 .Policy] .go)))) (fun a b=>a.1) (eC (QaH fu) (eC (QdF fu) (eC (QhZ fu) eN))) Tryz.func121
def Qjy(p0:D.Config)(p1:D.Book):Option Int:=join (Y:=(Unit×D.Config×D.Book×Unit)) (fun(_,a0,a1,_)=>Qk (X:=((Int×Unit)×D.Config×D.Book×Unit)) (fun L2 ((a3,_),a4,a5,_)=>cd (a3<((a5.Teams.length:Nat):Int)) (optc (QfZ fu a4 a5 a3) fun a6=>cd (a6≠0) (some a6) (L2 (((wrap .i64 (a3+1)),()),a4,a5,()))) (Qk (X:=((Int×Unit)×D.Config×D.Book×Unit)) (fun L7 ((a8,_),a9,a10,_)=>cd (a8<((a10.Policies.length:Nat):Int)) (optc (QcP fu a9 a10 a8) fun a11=>cd (a11≠0) (some a11) (L7 (((wrap .i64 (a8+1)),()),a9,a10,()))) (some 0)) fu ((0,()),a4,a5,()))) fu ((0,()),a0,a1,())) fun J12=>cd (8<((p1.Teams.length:Nat):Int)) (some 5) (cd (12<((p1.Policies.length:Nat):Int)) (some 5) (J12 ((),p0,p1,())))
theorem Ql9:FO 73 (sI [.st .Config,.st .Book] fun x=>Qjy fu x.1 x.2.1):=fI fu (.two .go (.two (.join [rf 2,rf 3] [bx 1002 .Config,bx 1003 .Book] .go) (.two (.two .go (.one (.loop [rf 2,rf 3,ni 5] [bx 1002 .Config,bx 1003 .Book] .go))) (lp [rf 2,rf 3,ni 7] [bx 1002 .Config,bx 1003 .Book] .go)))) (fun a b=>a.1) (eC (Qma fu) (eC (Qjz fu) eN)) Tryz.func73
def Qcg(p0:D.Config)(p1:D.Book):Option Int:=optc (Qeg fu p0) fun a0=>cd (a0≠0) (some 8) (optc (Qjy fu p0 p1) fun a1=>some a1)
theorem Qfq:FO 42 (sI [.st .Config,.st .Book] fun x=>Qcg fu x.1 x.2.1):=fI fu .go (fun a b=>a.1) (eC (Qk2 fu) (eC (Ql9 fu) eN)) Tryz.func42
def Qho(p0:D.Config)(p1:D.Book):Option (D.Ledger×Int):=optc (Qcg fu p0 p1) fun a0=>cd (a0≠0) (some ((D.Ledger.mk 0 (D.Config.mk [] [] [] []) (D.Book.mk [] []) [] 0 0 [] []),a0)) (some ((D.Ledger.mk 0 p0 p1 [] (-1) 0 [] []),0))
theorem Qiu:FO 20 (Qi [.st .Config,.st .Book] [] [.st .Ledger,nI] [] [] (D.Ledger×Int) (fun q=>((q.1,q.2,()),())) (fun x y=>Qho fu x.1 x.2.1)):=fI fu .go (fun a b=>(a.1,a.2.1)) (eC (Qfq fu) eN) Tryz.func20
def Qd(fu:Nat)(p0:D.Dice)(p1:Int):Option (Int×D.Dice):=join (Y:=((Int×Unit)×D.Dice×Unit)) (fun((a0,_),a1,_)=>atc a1.L a1.At fun a2=>nzc a0 (join (Y:=((Int×Unit)×D.Dice×Unit)) (fun((a3,_),a4,_)=>some (a3,a4)) fun J5=>cd ((Int.tmod a2 a0)<0) (J5 (((wrap .i64 ((Int.tmod a2 a0)+a0)),()),(D.Dice.mk a1.L (wrap .i64 (a1.At+1))),())) (J5 (((Int.tmod a2 a0),()),(D.Dice.mk a1.L (wrap .i64 (a1.At+1))),())))) fun J6=>cd (((p0.L.length:Nat):Int)≤p0.At) (some (0,p0)) (cd (p1<1) (some (0,p0)) (J6 ((p1,()),p0,())))
theorem ZA:FO 15 (Qi [.one (.ref 1),nI] [bx 1 .Dice] [nI] [bx 1 .Dice] [] (Int×D.Dice) (fun q=>((q.1,()),q.2,())) (fun x y=>Qd fu y.1 x.1)):=fI fu (.two .go (.two (.join [(0,.one (.ref 1)),ni 1] [bx 1 .Dice] .go) (gs 2 (.two (.join [ni 5] [bx 1 .Dice] .go) .go)))) (fun a b=>(a.1,b.1)) eN Tryz.func15
def QR(p0:D.Dice)(p1:List Int):Option (Int×D.Dice):=optc (Qd fu p0 ((p1.length:Nat):Int)) fun(a0,a1)=>atc p1 a0 fun a2=>some (a2,a1)
theorem YF:FO 23 (Qi [.one (.ref 1),lI] [bx 1 .Dice] [nI] [bx 1 .Dice] [] (Int×D.Dice) (fun q=>((q.1,()),q.2,())) (fun x y=>QR fu y.1 x.1)):=fI fu .go (fun a b=>(a.1,b.1)) (eC (ZA fu) eN) Tryz.func23
def YL(p0:D.Dice):Option (D.Edit×D.Dice):=optc (QR fu p0 (0::(300::(1200::(3600::[]))))) fun(a0,a1)=>optc (Qd fu a1 3) fun(a2,a3)=>optc (Qd fu a3 4) fun(a4,a5)=>optc (QR fu a5 (300::(1800::(7200::[])))) fun(a6,a7)=>join (Y:=(Unit×D.Edit×D.Edit×D.Dice×Unit)) (fun(_,a8,a9,a10,_)=>some (a9,a10)) fun J11=>cd (a2=2) (optc (Qd fu a7 3) fun(a12,a13)=>nzc 4 (J11 ((),(D.Edit.mk 0 0 0 0 0),(D.Edit.mk a2 a4 (Int.tmod (wrap .i64 ((wrap .i64 (a4+1))+a12)) 4) (wrap .i64 (864000+a0)) (wrap .i64 ((wrap .i64 (864000+a0))+a6))),a13,()))) (cd (a2=1) (optc (Qd fu a7 5) fun(a14,a15)=>J11 ((),(D.Edit.mk 0 0 0 0 0),(D.Edit.mk a2 (wrap .i64 (a14 - 1)) 0 (wrap .i64 (864000+a0)) (wrap .i64 ((wrap .i64 (864000+a0))+a6))),a15,())) (J11 ((),(D.Edit.mk 0 0 0 0 0),(D.Edit.mk a2 a4 0 (wrap .i64 (864000+a0)) (wrap .i64 ((wrap .i64 (864000+a0))+a6))),a7,())))
theorem VP:FO 25 (Qi [.one (.ref 1)] [bx 1 .Dice] [.st .Edit] [bx 1 .Dice] [] (D.Edit×D.Dice) (fun q=>((q.1,()),q.2,())) (fun x y=>YL fu y.1)):=fI fu (gs 3 (.two (.join [rf 2,rf 4] [bx 1002 .Edit,bx 1004 .Edit,bx 1 .Dice] .go) .go)) (fun a b=>(a.1,b.1)) (eC (ZA fu) (eC (YF fu) eN)) Tryz.func25
def Wh(p0:D.Dice):Option (D.Config×D.Dice):=optc (QR fu p0 (0::(3600::((-7200)::[])))) fun(a0,a1)=>Qk (X:=((List ByteArray×Int×Unit)×D.Dice×Unit×(List D.Zone×Unit)×List D.Person×Unit)) (fun L2 ((a3,a4,_),a5,_,(a6,_),a7,_)=>cd (a4<4) (atc a3 a4 fun a8=>optc (Qd fu a5 2) fun(a9,a10)=>join (Y:=((List ByteArray×Int×Unit)×D.Dice×Unit×(List D.Zone×Unit)×D.Person×List D.Person×Unit)) (fun((a11,a12,_),a13,_,(a14,_),a15,a16,_)=>lec (a16.length+(List.length (a15::[]))) 34359738368 (L2 ((a11,(wrap .i64 (a12+1)),()),a13,(),(a14,()),(a16++(a15::[])),()))) fun J17=>optc (Qd fu a10 4) fun(a18,a19)=>cd (a18=0) (optc (QR fu a19 (0::(3600::[]))) fun(a20,a21)=>optc (QR fu a21 (7200::(86400::(604800::[])))) fun(a22,a23)=>J17 ((a3,a4,()),a23,(),(a6,()),(D.Person.mk a8 0 ((D.Window.mk a20 a22)::[]) 0 0 (decide (a9=0))),a7,())) (J17 ((a3,a4,()),a19,(),(a6,()),(D.Person.mk a8 0 [] 0 0 (decide (a9=0))),a7,()))) (Qk (X:=((Int×Unit)×D.Dice×Unit×(List D.Zone×Unit)×List D.Person×List D.Schedule×Unit)) (fun L24 ((a25,_),a26,_,(a27,_),a28,a29,_)=>cd (a25<2) (optc (QR fu a26 (1::(9::(10::[])))) fun(a30,a31)=>optc (QR fu a31 (0::(1800::(43200::[])))) fun(a32,a33)=>optc (QR fu a33 (0::(0::(1::[])))) fun(a34,a35)=>optc (Qd fu a35 3) fun(a36,a37)=>optc (Qd fu a37 3) fun(a38,a39)=>Qk (X:=((Int×Int×Unit)×D.Dice×Unit×(List D.Zone×Unit)×(ByteArray×Int×Int×Int×Int×Int×Int×Int×Unit)×List D.Person×List D.Schedule×List Int×Unit)) (fun L40 ((a41,a42,_),a43,_,(a44,_),(a45,a46,a47,a48,a49,a50,a51,a52,_),a53,a54,a55,_)=>cd (0<a42) (optc (Qd fu a43 4) fun(a56,a57)=>lec (a55.length+(List.length (a56::[]))) 34359738368 (L40 ((a41,(wrap .i64 (a42 - 1)),()),a57,(),(a44,()),(a45,a46,a47,a48,a49,a50,a51,a52,()),a53,a54,(a55++(a56::[])),()))) (atc ((ByteArray.mk (List.toArray (102::(105::(114::(115::(116::[])))))))::((ByteArray.mk (List.toArray (115::(101::(99::(111::(110::(100::[]))))))))::[])) a41 fun a58=>optc (Qd fu a43 3) fun(a59,a60)=>Qk (X:=((Int×Int×Unit)×D.Dice×Unit×(List D.Zone×Unit)×(ByteArray×List D.Layer×Unit)×List D.Person×List D.Schedule×List D.Edit×Unit)) (fun L61 ((a62,a63,_),a64,_,(a65,_),(a66,a67,_),a68,a69,a70,_)=>cd (0<a63) (optc (YL fu a64) fun(a71,a72)=>lec (a70.length+(List.length (a71::[]))) 34359738368 (L61 ((a62,(wrap .i64 (a63 - 1)),()),a72,(),(a65,()),(a66,a67,()),a68,a69,(a70++(a71::[])),()))) (lec (a69.length+(List.length ((D.Schedule.mk a66 a67 a70)::[]))) 34359738368 (L24 (((wrap .i64 (a62+1)),()),a64,(),(a65,()),a68,(a69++((D.Schedule.mk a66 a67 a70)::[])),())))) fu ((a41,a59,()),a60,(),(a44,()),(a58,((D.Layer.mk a45 a46 (D.Local.mk a47 a48) a49 a50 a55 [] a51 a52)::[]),()),a53,a54,[],()))) fu ((a25,(wrap .i64 (1+a38)),()),a39,(),(a27,()),((ByteArray.mk (List.toArray (108::[]))),0,a30,a32,a34,(wrap .i64 (1+a36)),0,0,()),a28,a29,[],())) (some ((D.Config.mk a27 a28 [] a29),a26))) fu ((0,()),a5,(),(a6,()),a7,[],()))) fu ((((ByteArray.mk (List.toArray (97::(110::(110::[])))))::((ByteArray.mk (List.toArray (98::(111::(98::[])))))::((ByteArray.mk (List.toArray (99::(97::(116::[])))))::((ByteArray.mk (List.toArray (100::(97::(110::[])))))::[])))),0,()),a1,(),(((D.Zone.mk (ByteArray.mk (List.toArray (122::[]))) a0 [])::[]),()),[],())
theorem QaA:FO 21 (Qi [.one (.ref 1)] [bx 1 .Dice] [.st .Config] [bx 1 .Dice] [] (D.Config×D.Dice) (fun q=>((q.1,()),q.2,())) (fun x y=>Wh fu y.1)):=fI fu (gs 3 (.two (.two .go (.one (.loop [(0,.one (.ref 1)),rf 2,rf 3,li 4 .str,ni 5] [bx 1 .Dice,(1002,.box [.nul,.nul,.nul,.nul]),(1003,.box [.lst .Zone,.own 1047,.nul,.nul]),ar 1047 .Person] (.two .go (.two (.one (.two .go (.two (.join [(0,.one (.ref 1)),rf 2,rf 3,li 4 .str,ni 5,rf 6] [bx 1 .Dice,(1002,.box [.nul,.nul,.nul,.nul]),(1003,.box [.lst .Zone,.own 1047,.nul,.nul]),bx 1006 .Person,ar 1047 .Person] .go) .go))) .go))))) (lp [(0,.one (.ref 1)),rf 2,rf 3,ni 7] [bx 1 .Dice,(1002,.box [.nul,.nul,.nul,.nul]),(1003,.box [.lst .Zone,.own 1047,.nul,.own 1105]),ar 1047 .Person,ar 1105 .Schedule] (.two .go (.two (.one (.two .go (.two (.two .go (.one (.loop [(0,.one (.ref 1)),rf 2,rf 3,ni 7,rf 8,ni 9] [bx 1 .Dice,(1002,.box [.nul,.nul,.nul,.nul]),(1003,.box [.lst .Zone,.own 1047,.nul,.own 1105]),(1008,.box [.str,kI,kI,kI,kI,kI,.own 1079,.nul,kI,kI]),ar 1047 .Person,ar 1105 .Schedule,ar 1079 .int] .go))) (.two (.frz [1079] .go) (lp [(0,.one (.ref 1)),rf 2,rf 3,ni 7,rf 10,ni 11] [bx 1 .Dice,(1002,.box [.nul,.nul,.nul,.nul]),(1003,.box [.lst .Zone,.own 1047,.nul,.own 1105]),(1010,.box [.str,.lst .Layer,.own 1099]),ar 1047 .Person,ar 1105 .Schedule,ar 1099 .Edit] .go))))) .go))))) (fun a b=>(a.1,b.1)) (eC (ZA fu) (eC (YF fu) (eC (VP fu) eN))) Tryz.func21
def Qa6(fu:Nat)(p0:Int)(p1:Int):Option D.PolicyStep:=some (D.PolicyStep.mk p1 true ((D.Target.mk 0 p0)::[]))
theorem Qfz:FO 63 (Qi [nI,nI] [] [.st .PolicyStep] [] [] D.PolicyStep (fun q=>((q,()),())) (fun x y=>Qa6 fu x.1 x.2.1)):=fI fu .go (fun a b=>a.1) eN Tryz.func63
def QgY:Option D.Ledger:=optc (Qd8 fu (0::(0::(1::(0::(1::(0::(1::(0::(1::[])))))))))) fun a0=>optc (Wh fu a0) fun(a1,a2)=>optc (Qa6 fu 0 300) fun a3=>optc (Qa6 fu 1 600) fun a4=>optc (Qho fu a1 (D.Book.mk [] ((D.Policy.mk (ByteArray.mk (List.toArray (112::[]))) (a3::(a4::[])) 0)::[]))) fun(a5,a6)=>some a5
theorem QhI:FO 37 (Qi [] [] [.st .Ledger] [] [] D.Ledger (fun q=>((q,()),())) (fun x y=>QgY fu)):=fI fu .go (fun a b=>a.1) (eC (Qfm fu) (eC (Qiu fu) (eC (QaA fu) (eC (Qfz fu) eN)))) Tryz.func37
def Qiq(p0:D.Ledger)(p1:Int):Option (D.Page×Bool):=optc (Qir fu p0 p1) fun(a0,a1)=>cnd (!a1) (some ((D.Page.mk 0 0 0 0 0 0 0 0 0 0 0 [] [] []),false)) (atc p0.Pages a0 fun a2=>optc (Uz fu a2) fun a3=>some (a3,true))
theorem Qjk:FO 38 (Qi [.st .Ledger,nI] [] [.st .Page,.one .boo] [] [] (D.Page×Bool) (fun q=>((q.1,q.2,()),())) (fun x y=>Qiq fu x.1 x.2.1)):=fI fu .go (fun a b=>(a.1,a.2.1)) (eC (Qjl fu) (eC (Qec fu) eN)) Tryz.func38
def QcD:Option Bool:=optc (QgY fu) fun a0=>optc (Wv fu a0 (D.Op.mk 1 1 0 0 865000 1 0 0 0 (D.Answer.mk 0 0 0 0 0 0) (D.Edit.mk 0 0 0 0 0))) fun(a1,a2)=>optc (Wv fu a1 (D.Op.mk 2 4 0 0 865400 0 0 0 0 (D.Answer.mk 1 1 0 1 0 0) (D.Edit.mk 0 0 0 0 0))) fun(a3,a4)=>optc (Qiq fu a3 1) fun(a5,a6)=>cd (a2=0) (cd (a4=0) (cnd a6 (cd (((a5.Starts.length:Nat):Int)=2) (atc a5.Starts 1 fun a7=>cd (a7.At=865300) (cd (a5.State=1) (cd (((a3.Calls.length:Nat):Int)=2) sT sF) sF) sF) sF) sF) sF) sF
theorem Qjc:FO 11 (sB [] fun x=>QcD fu):=fI fu .go (fun a b=>a.1) (eC (Qdb fu) (eC (QhI fu) (eC (Qjk fu) eN))) Tryz.func11
def QcZ(p0:D.Dice)(p1:D.Book):Option (D.Target×D.Dice):=optc (Qd fu p0 3) fun(a0,a1)=>join (Y:=((Int×Unit)×D.Dice×(List D.Policy×Unit)×D.Target×List D.Team×Unit)) (fun((a2,_),a3,(a4,_),a5,a6,_)=>atc (4::(2::(((a6.length:Nat):Int)::[]))) a2 fun a7=>optc (Qd fu a3 a7) fun(a8,a9)=>sameC a6 p1.Teams (some ((D.Target.mk a2 a8),a9))) fun J10=>cd (a0=2) (cd (((p1.Teams.length:Nat):Int)=0) (J10 ((0,()),a1,(p1.Policies,()),(D.Target.mk 0 0),p1.Teams,())) (J10 ((a0,()),a1,(p1.Policies,()),(D.Target.mk 0 0),p1.Teams,()))) (J10 ((a0,()),a1,(p1.Policies,()),(D.Target.mk 0 0),p1.Teams,()))
theorem Qba:FO 51 (Qi [.one (.ref 1),.agg [.own 101,.lst .Policy]] [bx 1 .Dice,ar 101 .Team] [.st .Target] [bx 1 .Dice] [101] (D.Target×D.Dice) (fun q=>((q.1,()),q.2,())) (fun x y=>QcZ fu y.1 (D.Book.mk y.2.1 x.1.1))):=fI fu (gs 2 (.two (.join [(0,.one (.ref 1)),rf 3,rf 4,ni 5] [bx 1 .Dice,(1003,.box [.own 101,.lst .Policy]),bx 1004 .Target,ar 101 .Team] .go) .go)) (fun a b=>(a.1,b.1)) (eC (ZA fu) eN) Tryz.func51
def Yz(p0:D.Dice)(p1:D.Book):Option (D.Target×D.Dice):=optc (Qd fu p0 3) fun(a0,a1)=>join (Y:=((Int×Unit)×D.Dice×Unit×D.Target×List D.Team×List D.Policy×Unit)) (fun((a2,_),a3,_,a4,a5,a6,_)=>atc (4::(2::(((a5.length:Nat):Int)::[]))) a2 fun a7=>optc (Qd fu a3 a7) fun(a8,a9)=>sameC a5 p1.Teams (sameC a6 p1.Policies (some ((D.Target.mk a2 a8),a9)))) fun J10=>cd (a0=2) (cd (((p1.Teams.length:Nat):Int)=0) (J10 ((0,()),a1,(),(D.Target.mk 0 0),p1.Teams,p1.Policies,())) (J10 ((a0,()),a1,(),(D.Target.mk 0 0),p1.Teams,p1.Policies,()))) (J10 ((a0,()),a1,(),(D.Target.mk 0 0),p1.Teams,p1.Policies,()))
theorem Qaq:FO 51 (Qi [.one (.ref 1),.agg [.own 101,.own 102]] [bx 1 .Dice,ar 101 .Team,ar 102 .Policy] [.st .Target] [bx 1 .Dice] [101,102] (D.Target×D.Dice) (fun q=>((q.1,()),q.2,())) (fun x y=>Yz fu y.1 (D.Book.mk y.2.1 y.2.2.1))):=fI fu (gs 2 (.two (.join [(0,.one (.ref 1)),rf 3,rf 4,ni 5] [bx 1 .Dice,(1003,.box [.own 101,.own 102]),bx 1004 .Target,ar 101 .Team,ar 102 .Policy] .go) .go)) (fun a b=>(a.1,b.1)) (eC (ZA fu) eN) Tryz.func51
def VD(p0:D.Dice):Option (D.Book×D.Dice):=optc (Qd fu p0 3) fun(a0,a1)=>Qk (X:=((Int×Unit)×D.Dice×Unit×Unit×List D.Team×Unit)) (fun L2 ((a3,_),a4,_,_,a5,_)=>cd (0<a3) (atc ((ByteArray.mk (List.toArray (99::(111::(114::(101::[]))))))::((ByteArray.mk (List.toArray (119::(101::(98::[])))))::[])) ((a5.length:Nat):Int) fun a6=>optc (Qd fu a4 2) fun(a7,a8)=>join (Y:=((Int×Unit)×D.Dice×Unit×Unit×D.Team×List D.Team×Unit)) (fun((a9,_),a10,_,_,a11,a12,_)=>lec (a12.length+(List.length (a11::[]))) 34359738368 (L2 (((wrap .i64 (a9 - 1)),()),a10,(),(),(a12++(a11::[])),()))) fun J13=>optc (Qd fu a8 2) fun(a14,a15)=>cd (a14=0) (optc (Qd fu a15 2) fun(a16,a17)=>lec ((List.length (a7::[]))+(List.length ((wrap .i64 (2+a16))::[]))) 34359738368 (J13 ((a3,()),a17,(),(),(D.Team.mk a6 ((a7::[])++((wrap .i64 (2+a16))::[]))),a5,()))) (J13 ((a3,()),a15,(),(),(D.Team.mk a6 (a7::[])),a5,()))) (optc (Qd fu a4 3) fun(a18,a19)=>Qk (X:=((Int×Unit)×D.Dice×Unit×Unit×List D.Team×List D.Policy×Unit)) (fun L20 ((a21,_),a22,_,_,a23,a24,_)=>cd (0<a21) (atc ((ByteArray.mk (List.toArray (112::[])))::((ByteArray.mk (List.toArray (113::[])))::((ByteArray.mk (List.toArray (114::[])))::[]))) ((a24.length:Nat):Int) fun a25=>optc (QR fu a22 (0::(0::(1::(2::[]))))) fun(a26,a27)=>optc (Qd fu a27 3) fun(a28,a29)=>Qk (X:=((Int×Int×Unit)×D.Dice×Unit×Unit×(ByteArray×Int×Unit)×List D.Team×List D.Policy×List D.PolicyStep×Unit)) (fun L30 ((a31,a32,_),a33,_,_,(a34,a35,_),a36,a37,a38,_)=>cd (0<a32) (optc (QR fu a33 (0::(60::(300::(600::(900::[])))))) fun(a39,a40)=>optc (Qd fu a40 2) fun(a41,a42)=>optc (Qd fu a42 3) fun(a43,a44)=>Qk (X:=(P3×D.Dice×Unit×Unit×(ByteArray×Int×Unit)×(Int×Bool×Unit)×List D.Team×List D.Policy×List D.PolicyStep×List D.Target×Unit)) (fun L45 ((a46,a47,a48,_),a49,_,_,(a50,a51,_),(a52,a53,_),a54,a55,a56,a57,_)=>cd (0<a48) (optc (Yz fu a49 (D.Book.mk a54 a55)) fun(a58,a59)=>lec (a57.length+(List.length (a58::[]))) 34359738368 (L45 ((a46,a47,(wrap .i64 (a48 - 1)),()),a59,(),(),(a50,a51,()),(a52,a53,()),a54,a55,a56,(a57++(a58::[])),()))) (lec (a56.length+(List.length ((D.PolicyStep.mk a52 a53 a57)::[]))) 34359738368 (L30 ((a46,(wrap .i64 (a47 - 1)),()),a49,(),(),(a50,a51,()),a54,a55,(a56++((D.PolicyStep.mk a52 a53 a57)::[])),())))) fu ((a31,a32,a43,()),a44,(),(),(a34,a35,()),(a39,(decide (a41=0)),()),a36,a37,a38,[],())) (lec (a37.length+(List.length ((D.Policy.mk a34 a38 a35)::[]))) 34359738368 (L20 (((wrap .i64 (a31 - 1)),()),a33,(),(),a36,(a37++((D.Policy.mk a34 a38 a35)::[])),())))) fu ((a21,(wrap .i64 (1+a28)),()),a29,(),(),(a25,a26,()),a23,a24,[],())) (some ((D.Book.mk a23 a24),a22))) fu (((wrap .i64 (1+a18)),()),a19,(),(),a5,[],()))) fu ((a0,()),a1,(),(),[],())
theorem QeO:FO 22 (Qi [.one (.ref 1)] [bx 1 .Dice] [.st .Book] [bx 1 .Dice] [] (D.Book×D.Dice) (fun q=>((q.1,()),q.2,())) (fun x y=>VD fu y.1)):=fI fu (gs 2 (.two (.two .go (.one (.loop [(0,.one (.ref 1)),rf 2,rf 3,ni 4] [bx 1 .Dice,(1002,.box [.nul,.nul]),(1003,.box [.own 1042,.nul]),ar 1042 .Team] (.two .go (.two (.one (.two .go (.two (.join [(0,.one (.ref 1)),rf 2,rf 3,ni 4,rf 5] [bx 1 .Dice,(1002,.box [.nul,.nul]),(1003,.box [.own 1042,.nul]),bx 1005 .Team,ar 1042 .Team] .go) .go))) .go))))) (lp [(0,.one (.ref 1)),rf 2,rf 3,ni 6] [bx 1 .Dice,(1002,.box [.nul,.nul]),(1003,.box [.own 1042,.own 1099]),ar 1042 .Team,ar 1099 .Policy] (.two .go (.two (.one (.two .go (lp [(0,.one (.ref 1)),rf 2,rf 3,ni 6,rf 7,ni 8] [bx 1 .Dice,(1002,.box [.nul,.nul]),(1003,.box [.own 1042,.own 1099]),(1007,.box [.str,.own 1093,kI]),ar 1042 .Team,ar 1099 .Policy,ar 1093 .PolicyStep] (.two .go (.two (.one (.two .go (lp [(0,.one (.ref 1)),rf 2,rf 3,ni 6,rf 7,ni 8,rf 9,ni 10] [bx 1 .Dice,(1002,.box [.nul,.nul]),(1003,.box [.own 1042,.own 1099]),(1007,.box [.str,.own 1093,kI]),(1009,.box [kI,.boo,.own 1087]),ar 1042 .Team,ar 1099 .Policy,ar 1093 .PolicyStep,ar 1087 .Target] .go))) .go))))) .go))))) (fun a b=>(a.1,b.1)) (eC (ZA fu) (eC (YF fu) (eC (Qaq fu) (eC (Qba fu) eN)))) Tryz.func22
def Ws(p0:D.Dice)(p1:Int)(p2:Int)(p3:Int):Option (D.Answer×D.Dice):=optc (Qd fu p0 5) fun(a0,a1)=>optc (Qd fu a1 5) fun(a2,a3)=>join (Y:=(Unit×D.Answer×D.Answer×D.Dice×Unit)) (fun(_,a4,a5,a6,_)=>some (a5,a6)) fun J7=>cd ((wrap .i64 (1+a2))=3) (optc (QR fu a3 (1::(60::(600::(5000::[]))))) fun(a8,a9)=>J7 ((),(D.Answer.mk 0 0 0 0 0 0),(D.Answer.mk p1 p2 (wrap .i64 (a0 - 1)) (wrap .i64 (1+a2)) a8 p3),a9,())) (cd ((wrap .i64 (1+a2))=4) (optc (Qd fu a3 4) fun(a10,a11)=>J7 ((),(D.Answer.mk 0 0 0 0 0 0),(D.Answer.mk p1 p2 (wrap .i64 (a0 - 1)) (wrap .i64 (1+a2)) a10 p3),a11,())) (J7 ((),(D.Answer.mk 0 0 0 0 0 0),(D.Answer.mk p1 p2 (wrap .i64 (a0 - 1)) (wrap .i64 (1+a2)) 0 p3),a3,())))
theorem Qdy:FO 33 (Qi [.one (.ref 1),nI,nI,nI] [bx 1 .Dice] [.st .Answer] [bx 1 .Dice] [] (D.Answer×D.Dice) (fun q=>((q.1,()),q.2,())) (fun x y=>Ws fu y.1 x.1 x.2.1 x.2.2.1)):=fI fu (gs 2 (.two (.join [rf 8,rf 9] [bx 1008 .Answer,bx 1009 .Answer,bx 1 .Dice] .go) .go)) (fun a b=>(a.1,b.1)) (eC (ZA fu) (eC (YF fu) eN)) Tryz.func33
def QeZ(p0:List Int)(p1:Int):Option Bool:=Qk (X:=((List Int×Int×Int×Unit)×Unit)) (fun L0 ((a1,a2,a3,_),_)=>cd (a3<((a1.length:Nat):Int)) (atc a1 a3 fun a4=>cd (a4=a2) sT (L0 ((a1,a2,(wrap .i64 (a3+1)),()),()))) sF) fu ((p0,p1,0,()),())
theorem Qe0:FO 24 (sB [lI,nI] fun x=>QeZ fu x.1 x.2.1):=fI fu (.two .go (lp [(0,lI),ni 1,ni 5] [] .go)) (fun a b=>a.1) eN Tryz.func24
def QjA(p0:D.Book)(p1:Int)(p2:Int)(p3:Int):Option (D.Page×Int):=join (Y:=(P3×D.Book×D.Page×Unit)) (fun((a0,a1,a2,_),a3,a4,_)=>optc (Wb fu a1 0 (wrap .i64 (((a3.Policies.length:Nat):Int) - 1))) fun a5=>cnd (!a5) (some ((D.Page.mk 0 0 0 0 0 0 0 0 0 0 0 [] [] []),3)) (some ((D.Page.mk a0 a1 a2 0 a2 0 (-1) 0 a2 0 0 [] [] []),0))) fun J6=>optc (Wb fu p1 1 999999) fun a7=>cnd a7 (optc (Wb fu p3 0 8589934592) fun a8=>cnd a8 (J6 ((p1,p2,p3,()),p0,(D.Page.mk 0 0 0 0 0 0 0 0 0 0 0 [] [] []),())) (some ((D.Page.mk 0 0 0 0 0 0 0 0 0 0 0 [] [] []),1))) (some ((D.Page.mk 0 0 0 0 0 0 0 0 0 0 0 [] [] []),1))
theorem QnN:FO 74 (Qi [.st .Book,nI,nI,nI] [] [.st .Page,nI] [] [] (D.Page×Int) (fun q=>((q.1,q.2,()),())) (fun x y=>QjA fu x.1 x.2.1 x.2.2.1 x.2.2.2.1)):=fI fu (.two .go (.two (.join [ni 1,ni 2,ni 3,rf 4,rf 8] [bx 1004 .Book,bx 1008 .Page] .go) .go)) (fun a b=>(a.1,a.2.1)) (eC (QaH fu) eN) Tryz.func74
def Qci(p0:D.Policy):Option Bool:=Qk (X:=((Int×Unit)×D.Policy×Unit)) (fun L0 ((a1,_),a2,_)=>cd (a1<((a2.Steps.length:Nat):Int)) (atc a2.Steps a1 fun a3=>optc (Wb fu a3.Wait 0 86400) fun a4=>cnd (!a4) sF (L0 (((wrap .i64 (a1+1)),()),a2,()))) sT) fu ((0,()),p0,())
theorem Qk7:FO 75 (sB [.st .Policy] fun x=>Qci fu x.1):=fI fu (.two .go (lp [rf 1,ni 3] [bx 1001 .Policy] .go)) (fun a b=>a.1) (eC (QaH fu) eN) Tryz.func75
def Qch(p0:D.Policy):Option Int:=join (Y:=(Unit×D.Policy×Unit)) (fun(_,a0,_)=>some (wrap .i64 (((a0.Steps.length:Nat):Int)*(wrap .i64 (a0.Repeat+1))))) fun J1=>optc (Wb fu p0.Repeat 0 8) fun a2=>cnd a2 (cd (8<((p0.Steps.length:Nat):Int)) (some 0) (J1 ((),p0,()))) (some 0)
theorem Qk6:FO 76 (sI [.st .Policy] fun x=>Qch fu x.1):=fI fu (.two .go (.two (.join [rf 1] [bx 1001 .Policy] .go) .go)) (fun a b=>a.1) (eC (QaH fu) eN) Tryz.func76
def QcQ(p0:D.Page):Option Bool:=Qk (X:=(P3×D.Page×Unit)) (fun L0 ((a1,a2,a3,_),a4,_)=>cd (a3<((a4.Starts.length:Nat):Int)) (join (Y:=(P3×D.Page×Unit)) (fun((a5,a6,a7,_),a8,_)=>L0 ((a5,a6,(wrap .i64 (a7+1)),()),a8,())) fun J9=>atc a4.Starts a3 fun a10=>join (Y:=((Int×Int×Unit)×D.Page×D.Start×Unit)) (fun((a11,a12,_),a13,a14,_)=>cd (0≤a14.K) (J9 ((a14.K,a14.At,a12,()),a13,())) (J9 ((a11,a14.At,a12,()),a13,()))) fun J15=>cd (a10.At<a2) sF (cd (a10.K<(-1)) sF (cd (0≤a10.K) (cd (a10.K≤a1) sF (cd (a4.Next≤a10.K) sF (optc (Qbk fu a10.People 32) fun a16=>cnd a16 (J15 ((a1,a3,()),a4,a10,())) sF))) (optc (Qbk fu a10.People 32) fun a17=>cnd a17 (J15 ((a1,a3,()),a4,a10,())) sF)))) (some (decide (((a4.Starts.length:Nat):Int)≤200)))) fu (((-1),p0.Start,0,()),p0,())
theorem QjB:FO 77 (sB [.st .Page] fun x=>QcQ fu x.1):=fI fu (gs 2 (lp [rf 1,ni 3,ni 4,ni 5] [bx 1001 .Page] (.two .go (.two (.join [rf 1,ni 3,ni 4,ni 5] [bx 1001 .Page] (.one (.two .go (.two (.join [rf 1,ni 3,ni 5,rf 6] [bx 1001 .Page,bx 1006 .Start] .go) .go)))) .go)))) (fun a b=>a.1) (eC (Qe1 fu) eN) Tryz.func77
def QaI(p0:D.Book)(p1:D.Page):Option Bool:=join (Y:=(Unit×D.Page×Unit)) (fun(_,a0,_)=>join (Y:=(Unit×D.Page×Unit)) (fun(_,a1,_)=>join (Y:=(Unit×D.Page×Unit)) (fun(_,a2,_)=>Qk (X:=((Int×Unit)×D.Page×Unit)) (fun L3 ((a4,_),a5,_)=>cd (a4<((a5.Seen.length:Nat):Int)) (natc a4 fun a6=>lec a6 a5.Seen.length (atc a5.Seen a4 fun a7=>optc (QeZ fu (List.take a6 a5.Seen) a7) fun a8=>cnd a8 sF (L3 (((wrap .i64 (a4+1)),()),a5,())))) sT) fu ((0,()),a2,())) fun J9=>optc (Wb fu a1.Snoozes 0 4) fun a10=>cnd a10 (optc (Wb fu a1.Hands 0 4) fun a11=>cnd a11 (optc (QcQ fu a1) fun a12=>cnd a12 (optc (Qbk fu a1.Declined 32) fun a13=>cnd a13 (cd (64<((a1.Seen.length:Nat):Int)) sF (J9 ((),a1,()))) sF) sF) sF) sF) fun J14=>optc (Wb fu a0.State 0 4) fun a15=>cnd a15 (optc (Wb fu a0.By (-1) 31) fun a16=>cnd a16 (optc (Wb fu a0.Last a0.Start 17179869184) fun a17=>cnd a17 (optc (Wb fu a0.Due 0 17179869184) fun a18=>cnd a18 (optc (Wb fu a0.Until 0 17179869184) fun a19=>cnd a19 (J14 ((),a0,())) sF) sF) sF) sF) sF) fun J20=>optc (QjA fu p0 p1.ID p1.Policy p1.Start) fun(a21,a22)=>cd (a22≠0) sF (atc p0.Policies p1.Policy fun a23=>optc (Qci fu a23) fun a24=>cnd a24 (atc p0.Policies p1.Policy fun a25=>optc (Qch fu a25) fun a26=>optc (Wb fu p1.Next 0 a26) fun a27=>cnd a27 (J20 ((),p1,())) sF) sF)
theorem Qk8:FO 44 (sB [.st .Book,.st .Page] fun x=>QaI fu x.1 x.2.1):=fI fu (.two .go (.two (.join [rf 3] [bx 1003 .Page] .go) (.two (.join [rf 3] [bx 1003 .Page] .go) (.two (.join [rf 3] [bx 1003 .Page] .go) (lp [rf 3,ni 7] [bx 1003 .Page] .go))))) (fun a b=>a.1) (eC (Qe0 fu) (eC (QaH fu) (eC (QnN fu) (eC (Qk7 fu) (eC (Qk6 fu) (eC (QjB fu) (eC (Qe1 fu) eN))))))) Tryz.func44
def Qcj(p0:D.Page)(p1:Int)(p2:Int):Option (List D.Call):=Qk (X:=((Int×Int×Unit)×D.Page×List D.Call×Unit)) (fun L0 ((a1,a2,_),a3,a4,_)=>cd (a2<((a3.Starts.length:Nat):Int)) (atc a3.Starts a2 fun a5=>Qk (X:=(P3×D.Page×D.Start×List D.Call×Unit)) (fun L6 ((a7,a8,a9,_),a10,a11,a12,_)=>cd (a9<((a11.People.length:Nat):Int)) (atc a11.People a9 fun a13=>lec (a12.length+(List.length ((D.Call.mk a10.ID a11.K a11.At a13 a7)::[]))) 34359738368 (L6 ((a7,a8,(wrap .i64 (a9+1)),()),a10,a11,(a12++((D.Call.mk a10.ID a11.K a11.At a13 a7)::[])),()))) (L0 ((a7,(wrap .i64 (a8+1)),()),a10,a12,()))) fu ((a1,a2,0,()),a3,a5,a4,())) (some a4)) fu ((p2,p1,()),p0,[],())
theorem Qfs:FO 46 (Qi [.st .Page,nI,nI] [] [.one (.lst .Call)] [] [] (List D.Call) (fun q=>((q,()),())) (fun x y=>Qcj fu x.1 x.2.1 x.2.2.1)):=fI fu (gs 2 (lp [ni 2,rf 3,(7,.one (.own 1046)),ni 8] [bx 1003 .Page,ar 1046 .Call] (.two .go (.two (.one (gs 2 (.one (.loop [ni 2,rf 3,(7,.one (.own 1046)),ni 8,rf 9,ni 10] [bx 1003 .Page,bx 1009 .Start,ar 1046 .Call] .go)))) .go)))) (fun a b=>a.1) eN Tryz.func46
def QcR(p0:D.Ledger)(p1:D.Page):Option Bool:=optc (Qcj fu p1 0 0) fun a0=>Qk (X:=((List D.Call×Int×Int×Int×Unit)×D.Ledger×D.Page×Unit)) (fun L1 ((a2,a3,a4,a5,_),a6,a7,_)=>cd (a5<((a6.Calls.length:Nat):Int)) (join (Y:=((List D.Call×Int×Int×Int×Unit)×D.Ledger×D.Page×Unit)) (fun((a8,a9,a10,a11,_),a12,a13,_)=>L1 ((a8,a9,a10,(wrap .i64 (a11+1)),()),a12,a13,())) fun J14=>atc a6.Calls a5 fun a15=>cd (a15.Page≠a7.ID) (J14 ((a2,a3,a4,a5,()),a6,a7,())) (join (Y:=((List D.Call×Int×Int×Unit)×D.Ledger×D.Page×D.Call×Unit)) (fun((a16,a17,a18,_),a19,a20,a21,_)=>atc a16 a17 fun a22=>cd ((a21.Page::(a21.K::(a21.At::(a21.Person::(0::[])))))≠(a22.Page::(a22.K::(a22.At::(a22.Person::(a22.Fence::[])))))) sF (J14 ((a16,(wrap .i64 (a17+1)),a21.Fence,a18,()),a19,a20,()))) fun J23=>cd (((a2.length:Nat):Int)≤a3) sF (cd (a15.Fence<a4) sF (cd (a6.Fence<a15.Fence) sF (J23 ((a2,a3,a5,()),a6,a7,a15,())))))) (some (decide (a3=((a2.length:Nat):Int))))) fu ((a0,0,0,0,()),p0,p1,())
theorem Qmg:FO 45 (sB [.st .Ledger,.st .Page] fun x=>QcR fu x.1 x.2.1):=fI fu (gs 3 (lp [rf 2,rf 3,li 5 .Call,ni 6,ni 7,ni 8] [bx 1002 .Ledger,bx 1003 .Page] (.two .go (.two (.join [rf 2,rf 3,li 5 .Call,ni 6,ni 7,ni 8] [bx 1002 .Ledger,bx 1003 .Page] (.one (gs 2 (.two (.join [rf 2,rf 3,li 5 .Call,ni 6,ni 8,rf 9] [bx 1002 .Ledger,bx 1003 .Page,bx 1009 .Call] .go) .go)))) .go)))) (fun a b=>a.1) (eC (Qfs fu) eN) Tryz.func45
def QaJ(p0:D.Ledger):Option Bool:=join (Y:=(Unit×D.Ledger×Unit)) (fun(_,a0,_)=>Qk (X:=((Int×Int×Unit)×D.Ledger×Unit)) (fun L1 ((a2,a3,_),a4,_)=>cd (a3<((a4.Pages.length:Nat):Int)) (atc a4.Pages a3 fun a5=>join (Y:=((Int×Int×Unit)×D.Ledger×D.Page×Unit)) (fun((a6,a7,_),a8,a9,_)=>optc (Qcj fu a9 0 0) fun a10=>L1 (((wrap .i64 (a6+((a10.length:Nat):Int))),(wrap .i64 (a7+1)),()),a8,())) fun J11=>cd (0<a3) (atc a4.Pages (wrap .i64 (a3 - 1)) fun a12=>cd (a5.ID≤a12.ID) sF (optc (QaI fu a4.Book a5) fun a13=>cnd a13 (cd (a4.Now<a5.Last) sF (optc (QcR fu a4 a5) fun a14=>cnd a14 (J11 ((a2,a3,()),a4,a5,())) sF)) sF)) (optc (QaI fu a4.Book a5) fun a15=>cnd a15 (cd (a4.Now<a5.Last) sF (optc (QcR fu a4 a5) fun a16=>cnd a16 (J11 ((a2,a3,()),a4,a5,())) sF)) sF)) (Qk (X:=((Int×Int×Unit)×D.Ledger×Unit)) (fun L17 ((a18,a19,_),a20,_)=>cd (a19<((a20.Seen.length:Nat):Int)) (join (Y:=((Int×Int×Unit)×D.Ledger×Unit)) (fun((a21,a22,_),a23,_)=>L17 ((a21,(wrap .i64 (a22+1)),()),a23,())) fun J24=>atc a20.Seen a19 fun a25=>optc (Wb fu a25 1 1099511627776) fun a26=>cnd a26 (natc a19 fun a27=>lec a27 a20.Seen.length (atc a20.Seen a19 fun a28=>optc (QeZ fu (List.take a27 a20.Seen) a28) fun a29=>cnd a29 sF (J24 ((a18,a19,()),a20,())))) sF) (some (decide (a18=((a20.Calls.length:Nat):Int))))) fu ((a2,0,()),a4,()))) fu ((0,0,()),a0,())) fun J30=>optc (Qcg fu p0.Config p0.Book) fun a31=>cd (a31≠0) sF (optc (Wb fu p0.Now 0 8589934592) fun a32=>cnd a32 (cd (64<((p0.Pages.length:Nat):Int)) sF (optc (Wb fu p0.Owner (-1) 4) fun a33=>cnd a33 (optc (Wb fu p0.Fence 0 1048576) fun a34=>cnd a34 (cd (256<((p0.Seen.length:Nat):Int)) sF (J30 ((),p0,()))) sF) sF)) sF)
theorem Qfr:FO 17 (sB [.st .Ledger] fun x=>QaJ fu x.1):=fI fu (.two .go (.two (.join [rf 1] [bx 1001 .Ledger] .go) (.two .go (.two (.two .go (.one (.loop [rf 1,ni 3,ni 4] [bx 1001 .Ledger] (.two .go (.two (.one (.two .go (.two (.join [rf 1,ni 3,ni 4,rf 5] [bx 1001 .Ledger,bx 1005 .Page] .go) .go))) .go))))) (lp [rf 1,ni 3,ni 6] [bx 1001 .Ledger] (.two .go (.two (.join [rf 1,ni 3,ni 6] [bx 1001 .Ledger] .go) .go))))))) (fun a b=>a.1) (eC (Qe0 fu) (eC (Qfq fu) (eC (QaH fu) (eC (Qk8 fu) (eC (Qmg fu) (eC (Qfs fu) eN)))))) Tryz.func17
def Qmc(fu:Nat)(p0:D.Page):Option (Int×Bool):=cd (p0.State=0) (some (p0.Due,true)) (cd (p0.State=2) (some (p0.Until,true)) (some (0,false)))
theorem QnM:FO 36 (Qi [.st .Page] [] [nI,.one .boo] [] [] (Int×Bool) (fun q=>((q.1,q.2,()),())) (fun x y=>Qmc fu x.1)):=fI fu .go (fun a b=>(a.1,a.2.1)) eN Tryz.func36
def Qbm(p0:D.Ledger)(p1:Int):Option (List D.Start):=join (Y:=(Unit×List D.Start×Unit)) (fun(_,a0,_)=>some a0) fun J1=>Qk (X:=((Int×Int×Unit)×D.Ledger×List D.Start×Unit)) (fun L2 ((a3,a4,_),a5,a6,_)=>join (Y:=((Int×Int×Unit)×D.Ledger×List D.Start×Unit)) (fun((a7,a8,_),a9,a10,_)=>join (Y:=((Int×Int×Unit)×D.Ledger×List D.Start×Unit)) (fun((a11,a12,_),a13,a14,_)=>L2 ((a11,(wrap .i64 (a12+1)),()),a13,a14,())) fun J15=>atc a9.Pages a8 fun a16=>optc (Qmc fu a16) fun(a17,a18)=>cnd a18 (cd (a17≤a7) (atc a9.Pages a8 fun a19=>lec (a10.length+(List.length ((D.Start.mk a19.ID a17 [])::[]))) 34359738368 (J15 ((a7,a8,()),a9,(a10++((D.Start.mk a19.ID a17 [])::[])),()))) (J15 ((a7,a8,()),a9,a10,()))) (J15 ((a7,a8,()),a9,a10,()))) fun J20=>cd (a4<((a5.Pages.length:Nat):Int)) (optc (QaJ fu a5) fun a21=>cnd a21 (J20 ((a3,a4,()),a5,a6,())) (J1 ((),a6,()))) (J1 ((),a6,()))) fu ((p1,0,()),p0,[],())
theorem Qh0:FO 39 (Qi [.st .Ledger,nI] [] [.one (.lst .Start)] [] [] (List D.Start) (fun q=>((q,()),())) (fun x y=>Qbm fu x.1 x.2.1)):=fI fu (gs 2 (.two (.join [(5,.one (.own 1045))] [ar 1045 .Start] (.two .go (.one (.loop [ni 1,rf 2,(5,.one (.own 1045)),ni 6] [bx 1002 .Ledger,ar 1045 .Start] (.two (.join [ni 1,rf 2,(5,.one (.own 1045)),ni 6] [bx 1002 .Ledger,ar 1045 .Start] .go) (.two (.join [ni 1,rf 2,(5,.one (.own 1045)),ni 6] [bx 1002 .Ledger,ar 1045 .Start] .go) .go)))))) .go)) (fun a b=>a.1) (eC (Qfr fu) (eC (QnM fu) eN)) Tryz.func39
def Qf0(p0:D.Page):Option D.Page:=Qk (X:=((Int×Unit)×D.Page×D.Page×List D.Start×Unit)) (fun L0 ((a1,_),a2,a3,a4,_)=>cd (a1<((a2.Starts.length:Nat):Int)) (atc a2.Starts a1 fun a5=>lec a5.People.length 34359738368 (lec (a4.length+(List.length (a5::[]))) 34359738368 (L0 (((wrap .i64 (a1+1)),()),a2,a3,(a4++(a5::[])),())))) (lec a2.Declined.length 34359738368 (lec a2.Seen.length 34359738368 (some (D.Page.mk a2.ID a2.Policy a2.Start a2.Next a2.Due a2.State a2.By a2.Until a2.Last a2.Snoozes a2.Hands a4 a2.Declined a2.Seen))))) fu ((0,()),p0,(D.Page.mk 0 0 0 0 0 0 0 0 0 0 0 [] [] []),[],())
theorem Qmb:FO 47 (Qi [.st .Page] [] [.agg [kI,kI,kI,kI,kI,kI,kI,kI,kI,kI,kI,.own 1025,.own 1030,.own 1033]] [ar 1025 .Start,ar 1030 .int,ar 1033 .int] [] D.Page (fun q=>(((q.ID,q.Policy,q.Start,q.Next,q.Due,q.State,q.By,q.Until,q.Last,q.Snoozes,q.Hands,()),()),q.Starts,q.Declined,q.Seen,())) (fun x y=>Qf0 fu x.1)):=fI fu (gs 2 (lp [rf 1,rf 2,(3,.one (.own 1025)),ni 4] [bx 1001 .Page,bx 1002 .Page,ar 1025 .Start] .go)) (fun a b=>D.Page.mk a.1.1 a.1.2.1 a.1.2.2.1 a.1.2.2.2.1 a.1.2.2.2.2.1 a.1.2.2.2.2.2.1 a.1.2.2.2.2.2.2.1 a.1.2.2.2.2.2.2.2.1 a.1.2.2.2.2.2.2.2.2.1 a.1.2.2.2.2.2.2.2.2.2.1 a.1.2.2.2.2.2.2.2.2.2.2.1 b.1 b.2.1 b.2.2.1) eN Tryz.func47
def Qf2(p0:D.Ledger)(p1:Int):Option (D.Page×Bool):=Qk (X:=((Int×Int×Unit)×D.Ledger×D.Page×Unit)) (fun L0 ((a1,a2,_),a3,a4,_)=>cd (a2<((a3.Pages.length:Nat):Int)) (atc a3.Pages a2 fun a5=>cd (a5.ID=a1) (atc a3.Pages a2 fun a6=>optc (Qf0 fu a6) fun a7=>some (a7,true)) (L0 ((a1,(wrap .i64 (a2+1)),()),a3,a4,()))) (some ((D.Page.mk 0 0 0 0 0 0 0 0 0 0 0 [] [] []),false))) fu ((p1,0,()),p0,(D.Page.mk 0 0 0 0 0 0 0 0 0 0 0 [] [] []),())
theorem Qme:FO 40 (Qi [.st .Ledger,nI] [] [.st .Page,.one .boo] [] [] (D.Page×Bool) (fun q=>((q.1,q.2,()),())) (fun x y=>Qf2 fu x.1 x.2.1)):=fI fu (.two .go (lp [ni 1,rf 2,rf 4,ni 6] [bx 1002 .Ledger,bx 1004 .Page] .go)) (fun a b=>(a.1,a.2.1)) (eC (Qmb fu) eN) Tryz.func40
def U9(p0:D.Dice)(p1:D.Ledger)(p2:Int)(p3:Int):Option (D.Op×D.Dice):=optc (Qd fu p0 5) fun(a0,a1)=>optc (Qd fu a1 3) fun(a2,a3)=>optc (Qd fu a3 3) fun(a4,a5)=>join (Y:=(Unit×D.Op×D.Op×D.Dice×Unit)) (fun(_,a6,a7,a8,_)=>some (a7,a8)) fun J9=>cd ((wrap .i64 (1+a0))=1) (optc (Qd fu a5 2) fun(a10,a11)=>optc (Qd fu a11 (wrap .i64 ((wrap .i64 (((p1.Book.Policies.length:Nat):Int)+1)) - a10))) fun(a12,a13)=>J9 ((),(D.Op.mk 0 0 0 0 0 0 0 0 0 (D.Answer.mk 0 0 0 0 0 0) (D.Edit.mk 0 0 0 0 0)),(D.Op.mk p2 (wrap .i64 (1+a0)) a2 p1.Fence p3 (wrap .i64 (1+a4)) 0 a12 0 (D.Answer.mk 0 0 0 0 0 0) (D.Edit.mk 0 0 0 0 0)),a13,())) (cd ((wrap .i64 (1+a0))=2) (optc (QR fu a5 (1::(1::(1::(0::[]))))) fun(a14,a15)=>J9 ((),(D.Op.mk 0 0 0 0 0 0 0 0 0 (D.Answer.mk 0 0 0 0 0 0) (D.Edit.mk 0 0 0 0 0)),(D.Op.mk p2 (wrap .i64 (1+a0)) a2 (wrap .i64 (p1.Fence+a14)) p3 0 0 0 0 (D.Answer.mk 0 0 0 0 0 0) (D.Edit.mk 0 0 0 0 0)),a15,())) (cd ((wrap .i64 (1+a0))=3) (join (Y:=((Int×Int×Unit)×D.Dice×D.Ledger×D.Op×D.Op×Unit)) (fun((a16,a17,_),a18,a19,a20,a21,_)=>join (Y:=((Int×Int×Unit)×D.Dice×D.Ledger×D.Op×D.Op×Unit)) (fun((a22,a23,_),a24,a25,a26,a27,_)=>join (Y:=(Unit×D.Ledger×D.Op×D.Op×D.Dice×Unit)) (fun(_,a28,a29,a30,a31,_)=>optc (Qf2 fu a28 a30.Page) fun(a32,a33)=>cnd a33 (cd (a32.State=2) (J9 ((),a29,(D.Op.mk a30.ID a30.Kind a30.Region a30.Fence a30.At a30.Page (-1) a30.Policy a30.Schedule a30.Answer a30.Edit),a31,())) (J9 ((),a29,(D.Op.mk a30.ID a30.Kind a30.Region a30.Fence a30.At a30.Page a32.Next a30.Policy a30.Schedule a30.Answer a30.Edit),a31,()))) (J9 ((),a29,a30,a31,()))) fun J34=>optc (Qbm fu a25 a22) fun a35=>cd (0<((a35.length:Nat):Int)) (optc (Qd fu a24 ((a35.length:Nat):Int)) fun(a36,a37)=>atc a35 a36 fun a38=>J34 ((),a25,a26,(D.Op.mk a27.ID a27.Kind a27.Region a27.Fence a27.At a38.K a27.K a27.Policy a27.Schedule a27.Answer a27.Edit),a37,())) (J34 ((),a25,a26,(D.Op.mk a27.ID a27.Kind a27.Region a27.Fence a27.At a23 a27.K a27.Policy a27.Schedule a27.Answer a27.Edit),a24,()))) fun J39=>optc (Qd fu a18 8) fun(a40,a41)=>cd (a40=0) (optc (Qd fu a41 3) fun(a42,a43)=>J39 ((a16,a17,()),a43,a19,a20,(D.Op.mk a21.ID a21.Kind a21.Region a42 a21.At a21.Page a21.K a21.Policy a21.Schedule a21.Answer a21.Edit),())) (J39 ((a16,a17,()),a41,a19,a20,a21,()))) fun J44=>optc (Qd fu a5 6) fun(a45,a46)=>cd (a45=0) (optc (Qd fu a46 3) fun(a47,a48)=>J44 ((p3,(wrap .i64 (1+a4)),()),a48,p1,(D.Op.mk 0 0 0 0 0 0 0 0 0 (D.Answer.mk 0 0 0 0 0 0) (D.Edit.mk 0 0 0 0 0)),(D.Op.mk p2 (wrap .i64 (1+a0)) a47 p1.Fence p3 0 0 0 0 (D.Answer.mk 0 0 0 0 0 0) (D.Edit.mk 0 0 0 0 0)),())) (J44 ((p3,(wrap .i64 (1+a4)),()),a46,p1,(D.Op.mk 0 0 0 0 0 0 0 0 0 (D.Answer.mk 0 0 0 0 0 0) (D.Edit.mk 0 0 0 0 0)),(D.Op.mk p2 (wrap .i64 (1+a0)) (max p1.Owner 0) p1.Fence p3 0 0 0 0 (D.Answer.mk 0 0 0 0 0 0) (D.Edit.mk 0 0 0 0 0)),()))) (cd ((wrap .i64 (1+a0))=4) (optc (Qd fu a5 30) fun(a49,a50)=>optc (Ws fu a50 (wrap .i64 (1+a49)) (wrap .i64 (1+a4)) p3) fun(a51,a52)=>J9 ((),(D.Op.mk 0 0 0 0 0 0 0 0 0 (D.Answer.mk 0 0 0 0 0 0) (D.Edit.mk 0 0 0 0 0)),(D.Op.mk p2 (wrap .i64 (1+a0)) a2 p1.Fence p3 0 0 0 0 a51 (D.Edit.mk 0 0 0 0 0)),a52,())) (cd ((wrap .i64 (1+a0))=5) (optc (Qd fu a5 3) fun(a53,a54)=>optc (YL fu a54) fun(a55,a56)=>J9 ((),(D.Op.mk 0 0 0 0 0 0 0 0 0 (D.Answer.mk 0 0 0 0 0 0) (D.Edit.mk 0 0 0 0 0)),(D.Op.mk p2 (wrap .i64 (1+a0)) a2 p1.Fence p3 0 0 0 a53 (D.Answer.mk 0 0 0 0 0 0) a55),a56,())) (J9 ((),(D.Op.mk 0 0 0 0 0 0 0 0 0 (D.Answer.mk 0 0 0 0 0 0) (D.Edit.mk 0 0 0 0 0)),(D.Op.mk p2 (wrap .i64 (1+a0)) a2 p1.Fence p3 0 0 0 0 (D.Answer.mk 0 0 0 0 0 0) (D.Edit.mk 0 0 0 0 0)),a5,()))))))
theorem Qg2:FO 14 (Qi [.one (.ref 1),.st .Ledger,nI,nI] [bx 1 .Dice] [.st .Op] [bx 1 .Dice] [] (D.Op×D.Dice) (fun q=>((q.1,()),q.2,())) (fun x y=>U9 fu y.1 x.1 x.2.1 x.2.2.1)):=fI fu (gs 3 (.two (.join [rf 8,rf 9] [bx 1008 .Op,bx 1009 .Op,bx 1 .Dice] (.two .go (.one (gs 5 (.two (.two .go (.two (.join [(0,.one (.ref 1)),ni 3,rf 5,rf 8,rf 9,ni 10] [bx 1 .Dice,bx 1005 .Ledger,bx 1008 .Op,bx 1009 .Op] .go) (.two (.join [(0,.one (.ref 1)),ni 3,rf 5,rf 8,rf 9,ni 10] [bx 1 .Dice,bx 1005 .Ledger,bx 1008 .Op,bx 1009 .Op] .go) (.two .go (.two (.join [rf 5,rf 8,rf 9] [bx 1005 .Ledger,bx 1008 .Op,bx 1009 .Op,bx 1 .Dice] .go) .go))))) .go))))) .go)) (fun a b=>(a.1,b.1)) (eC (ZA fu) (eC (YF fu) (eC (VP fu) (eC (Qdy fu) (eC (Qh0 fu) (eC (Qme fu) eN)))))) Tryz.func14
end
end Go.Proofs.YtgokjdfkpnkekaaGreat
/-
  What functions do, reckoned from their code, and their contracts. Printed by wip/gen/brun.py.
-/
namespace Go.Proofs.YtgokjdfkpnkekaaGreat
open Go AM IntKind
noncomputable section
variable (fu:Nat)
def Qit(p0:D.Local):Option Int:=optc (Qbj fu p0.Day) fun a0=>some (wrap .i64 ((wrap .i64 (a0*86400))+p0.Second))
def QpK(fu:Nat)(p0:Int)(p1:Int):Option Bool:=cd (0≤p0) (cd (p0≤8589934592) (cd (p0≤p1) (cd (p1≤8589934592) (cd ((wrap .i64 (p1 - p0))≤34560000) sT sF) sF) sF) sF) sF
def W2(p0:List Int)(p1:List Int):Option Bool:=cd (((p0.length:Nat):Int)≠((p1.length:Nat):Int)) sF (Qk (X:=((List Int×List Int×Int×Unit)×Unit)) (fun L0 ((a1,a2,a3,_),_)=>cd (a3<((a1.length:Nat):Int)) (atc a1 a3 fun a4=>atc a2 a3 fun a5=>cd (a4≠a5) sF (L0 ((a1,a2,(wrap .i64 (a3+1)),()),()))) sT) fu ((p0,p1,0,()),()))
theorem Vs:FO 49 (sB [lI,lI] fun x=>W2 fu x.1 x.2.1):=fI fu (gs 2 (lp [(0,lI),(1,lI),ni 5] [] .go)) (fun a b=>a.1) eN Tryz.func49
def Qej(p0:D.Zone)(p1:D.Zone):Option Bool:=join (Y:=(Unit×D.Zone×D.Zone×Unit)) (fun(_,a0,a1,_)=>Qk (X:=((Int×Unit)×D.Zone×D.Zone×Unit)) (fun L2 ((a3,_),a4,a5,_)=>cd (a3<((a4.Rules.length:Nat):Int)) (atc a4.Rules a3 fun a6=>atc a5.Rules a3 fun a7=>cd ((a6.From::(a6.To::(a6.Month::(a6.Week::(a6.Weekday::(a6.Second::(a6.Offset::[])))))))≠(a7.From::(a7.To::(a7.Month::(a7.Week::(a7.Weekday::(a7.Second::(a7.Offset::[])))))))) sF (L2 (((wrap .i64 (a3+1)),()),a4,a5,()))) sT) fu ((0,()),a0,a1,())) fun J8=>cd (p0.Name≠p1.Name) sF (cd (p0.Offset≠p1.Offset) sF (cd (((p0.Rules.length:Nat):Int)≠((p1.Rules.length:Nat):Int)) sF (J8 ((),p0,p1,()))))
theorem Qla:FO 56 (sB [.st .Zone,.st .Zone] fun x=>Qej fu x.1 x.2.1):=fI fu (.two .go (.two (.join [rf 2,rf 3] [bx 1002 .Zone,bx 1003 .Zone] .go) (lp [rf 2,rf 3,ni 5] [bx 1002 .Zone,bx 1003 .Zone] .go))) (fun a b=>a.1) eN Tryz.func56
def Vt(p0:List D.Window)(p1:List D.Window):Option Bool:=cd (((p0.length:Nat):Int)≠((p1.length:Nat):Int)) sF (Qk (X:=((List D.Window×List D.Window×Int×Unit)×Unit)) (fun L0 ((a1,a2,a3,_),_)=>cd (a3<((a1.length:Nat):Int)) (atc a1 a3 fun a4=>atc a2 a3 fun a5=>cd ((a4.From::(a4.To::[]))≠(a5.From::(a5.To::[]))) sF (L0 ((a1,a2,(wrap .i64 (a3+1)),()),()))) sT) fu ((p0,p1,0,()),()))
theorem Qdd:FO 57 (sB [.one (.lst .Window),.one (.lst .Window)] fun x=>Vt fu x.1 x.2.1):=fI fu (gs 2 (lp [li 0 .Window,li 1 .Window,ni 5] [] .go)) (fun a b=>a.1) eN Tryz.func57
def Qei(p0:D.Schedule)(p1:D.Schedule):Option Bool:=join (Y:=(Unit×D.Schedule×D.Schedule×Unit)) (fun(_,a0,a1,_)=>Qk (X:=((Int×Unit)×D.Schedule×D.Schedule×Unit)) (fun L2 ((a3,_),a4,a5,_)=>cd (a3<((a4.Edits.length:Nat):Int)) (atc a4.Edits a3 fun a6=>atc a5.Edits a3 fun a7=>cd ((a6.Kind::(a6.A::(a6.B::(a6.From::(a6.To::[])))))≠(a7.Kind::(a7.A::(a7.B::(a7.From::(a7.To::[])))))) sF (L2 (((wrap .i64 (a3+1)),()),a4,a5,()))) (Qk (X:=((Int×Unit)×D.Schedule×D.Schedule×Unit)) (fun L8 ((a9,_),a10,a11,_)=>cd (a9<((a10.Layers.length:Nat):Int)) (join (Y:=((Int×Unit)×D.Schedule×D.Schedule×Unit)) (fun((a12,_),a13,a14,_)=>L8 (((wrap .i64 (a12+1)),()),a13,a14,())) fun J15=>atc a10.Layers a9 fun a16=>atc a11.Layers a9 fun a17=>cd (a16.Name≠a17.Name) sF (cd (a16.Zone≠a17.Zone) sF (cd ((a16.Start.Day::(a16.Start.Second::[]))≠(a17.Start.Day::(a17.Start.Second::[]))) sF (cd (a16.Unit≠a17.Unit) sF (cd (a16.Every≠a17.Every) sF (cd (a16.Calendar≠a17.Calendar) sF (cd (a16.Mode≠a17.Mode) sF (optc (W2 fu a16.Members a17.Members) fun a18=>cnd a18 (optc (Vt fu a16.Windows a17.Windows) fun a19=>cnd a19 (J15 ((a9,()),a10,a11,())) sF) sF)))))))) sT) fu ((0,()),a4,a5,()))) fu ((0,()),a0,a1,())) fun J20=>cd (p0.Name≠p1.Name) sF (cd (((p0.Layers.length:Nat):Int)≠((p1.Layers.length:Nat):Int)) sF (cd (((p0.Edits.length:Nat):Int)≠((p1.Edits.length:Nat):Int)) sF (J20 ((),p0,p1,()))))
theorem Qk9:FO 58 (sB [.st .Schedule,.st .Schedule] fun x=>Qei fu x.1 x.2.1):=fI fu (.two .go (.two (.join [rf 2,rf 3] [bx 1002 .Schedule,bx 1003 .Schedule] .go) (.two (.two .go (.one (.loop [rf 2,rf 3,ni 5] [bx 1002 .Schedule,bx 1003 .Schedule] .go))) (lp [rf 2,rf 3,ni 6] [bx 1002 .Schedule,bx 1003 .Schedule] (.two .go (.two (.join [rf 2,rf 3,ni 6] [bx 1002 .Schedule,bx 1003 .Schedule] .go) .go)))))) (fun a b=>a.1) (eC (Vs fu) (eC (Qdd fu) eN)) Tryz.func58
def VI(p0:D.Config)(p1:D.Config):Option Bool:=join (Y:=(Unit×D.Config×D.Config×Unit)) (fun(_,a0,a1,_)=>Qk (X:=((Int×Unit)×D.Config×D.Config×Unit)) (fun L2 ((a3,_),a4,a5,_)=>cd (a3<((a4.Zones.length:Nat):Int)) (atc a4.Zones a3 fun a6=>atc a5.Zones a3 fun a7=>optc (Qej fu a6 a7) fun a8=>cnd (!a8) sF (L2 (((wrap .i64 (a3+1)),()),a4,a5,()))) (Qk (X:=((Int×Unit)×D.Config×D.Config×Unit)) (fun L9 ((a10,_),a11,a12,_)=>cd (a10<((a11.People.length:Nat):Int)) (join (Y:=((Int×Unit)×D.Config×D.Config×Unit)) (fun((a13,_),a14,a15,_)=>L9 (((wrap .i64 (a13+1)),()),a14,a15,())) fun J16=>atc a11.People a10 fun a17=>atc a12.People a10 fun a18=>cd (a17.Name≠a18.Name) sF (cd (a17.Zone≠a18.Zone) sF (cd (a17.MaxWeek≠a18.MaxWeek) sF (cd (a17.MinRest≠a18.MinRest) sF (cnd a17.Consent (cnd a18.Consent (optc (Vt fu a17.Quiet a18.Quiet) fun a19=>cnd a19 (J16 ((a10,()),a11,a12,())) sF) sF) (cnd a18.Consent sF (optc (Vt fu a17.Quiet a18.Quiet) fun a20=>cnd a20 (J16 ((a10,()),a11,a12,())) sF))))))) (Qk (X:=((Int×Unit)×D.Config×D.Config×Unit)) (fun L21 ((a22,_),a23,a24,_)=>cd (a22<((a23.Calendars.length:Nat):Int)) (join (Y:=((Int×Unit)×D.Config×D.Config×Unit)) (fun((a25,_),a26,a27,_)=>L21 (((wrap .i64 (a25+1)),()),a26,a27,())) fun J28=>atc a23.Calendars a22 fun a29=>atc a24.Calendars a22 fun a30=>cd (a29.Name≠a30.Name) sF (atc a23.Calendars a22 fun a31=>atc a24.Calendars a22 fun a32=>cd (a31.Zone≠a32.Zone) sF (atc a23.Calendars a22 fun a33=>atc a24.Calendars a22 fun a34=>optc (W2 fu a33.Days a34.Days) fun a35=>cnd a35 (J28 ((a22,()),a23,a24,())) sF))) (Qk (X:=((Int×Unit)×D.Config×D.Config×Unit)) (fun L36 ((a37,_),a38,a39,_)=>cd (a37<((a38.Schedules.length:Nat):Int)) (atc a38.Schedules a37 fun a40=>atc a39.Schedules a37 fun a41=>optc (Qei fu a40 a41) fun a42=>cnd (!a42) sF (L36 (((wrap .i64 (a37+1)),()),a38,a39,()))) sT) fu ((0,()),a23,a24,()))) fu ((0,()),a11,a12,()))) fu ((0,()),a4,a5,()))) fu ((0,()),a0,a1,())) fun J43=>cd (((p0.Zones.length:Nat):Int)≠((p1.Zones.length:Nat):Int)) sF (cd (((p0.People.length:Nat):Int)≠((p1.People.length:Nat):Int)) sF (cd (((p0.Calendars.length:Nat):Int)≠((p1.Calendars.length:Nat):Int)) sF (cd (((p0.Schedules.length:Nat):Int)≠((p1.Schedules.length:Nat):Int)) sF (J43 ((),p0,p1,())))))
theorem Qe3:FO 29 (sB [.st .Config,.st .Config] fun x=>VI fu x.1 x.2.1):=fI fu (.two .go (.two (.join [rf 2,rf 3] [bx 1002 .Config,bx 1003 .Config] .go) (.two (.two .go (.one (.loop [rf 2,rf 3,ni 5] [bx 1002 .Config,bx 1003 .Config] .go))) (.two (.two .go (.one (.loop [rf 2,rf 3,ni 6] [bx 1002 .Config,bx 1003 .Config] (.two .go (.two (.join [rf 2,rf 3,ni 6] [bx 1002 .Config,bx 1003 .Config] .go) .go))))) (.two (.two .go (.one (.loop [rf 2,rf 3,ni 9] [bx 1002 .Config,bx 1003 .Config] (.two .go (.two (.join [rf 2,rf 3,ni 9] [bx 1002 .Config,bx 1003 .Config] .go) .go))))) (lp [rf 2,rf 3,ni 10] [bx 1002 .Config,bx 1003 .Config] .go)))))) (fun a b=>a.1) (eC (Vs fu) (eC (Qla fu) (eC (Qdd fu) (eC (Qk9 fu) eN)))) Tryz.func29
def VH(p0:List D.Start)(p1:List D.Start):Option Bool:=cd (((p0.length:Nat):Int)≠((p1.length:Nat):Int)) sF (Qk (X:=((List D.Start×List D.Start×Int×Unit)×Unit)) (fun L0 ((a1,a2,a3,_),_)=>cd (a3<((a1.length:Nat):Int)) (join (Y:=((List D.Start×List D.Start×Int×Unit)×Unit)) (fun((a4,a5,a6,_),_)=>L0 ((a4,a5,(wrap .i64 (a6+1)),()),())) fun J7=>atc a1 a3 fun a8=>atc a2 a3 fun a9=>cd (a8.K≠a9.K) sF (atc a1 a3 fun a10=>atc a2 a3 fun a11=>cd (a10.At≠a11.At) sF (atc a1 a3 fun a12=>atc a2 a3 fun a13=>optc (W2 fu a12.People a13.People) fun a14=>cnd a14 (J7 ((a1,a2,a3,()),())) sF))) sT) fu ((p0,p1,0,()),()))
theorem Qe2:FO 55 (sB [.one (.lst .Start),.one (.lst .Start)] fun x=>VH fu x.1 x.2.1):=fI fu (gs 2 (lp [li 0 .Start,li 1 .Start,ni 5] [] (.two .go (.two (.join [li 0 .Start,li 1 .Start,ni 5] [] .go) .go)))) (fun a b=>a.1) (eC (Vs fu) eN) Tryz.func55
def Qf1(p0:D.Page)(p1:D.Page):Option Bool:=cd (p0.ID=p1.ID) (cd (p0.Policy=p1.Policy) (cd (p0.Start=p1.Start) (cd (p0.Next=p1.Next) (cd (p0.Due=p1.Due) (cd (p0.State=p1.State) (cd (p0.By=p1.By) (cd (p0.Until=p1.Until) (cd (p0.Last=p1.Last) (cd (p0.Snoozes=p1.Snoozes) (cd (p0.Hands=p1.Hands) (optc (VH fu p0.Starts p1.Starts) fun a0=>cnd a0 (optc (W2 fu p0.Declined p1.Declined) fun a1=>cnd a1 (optc (W2 fu p0.Seen p1.Seen) fun a2=>cnd a2 sT sF) sF) sF) sF) sF) sF) sF) sF) sF) sF) sF) sF) sF) sF
theorem Qmd:FO 28 (sB [.st .Page,.st .Page] fun x=>Qf1 fu x.1 x.2.1):=fI fu .go (fun a b=>a.1) (eC (Vs fu) (eC (Qe2 fu) eN)) Tryz.func28
def Uu(p0:List D.Page)(p1:List D.Page):Option Bool:=cd (((p0.length:Nat):Int)≠((p1.length:Nat):Int)) sF (Qk (X:=((List D.Page×List D.Page×Int×Unit)×Unit)) (fun L0 ((a1,a2,a3,_),_)=>cd (a3<((a1.length:Nat):Int)) (atc a1 a3 fun a4=>atc a2 a3 fun a5=>optc (Qf1 fu a4 a5) fun a6=>cnd (!a6) sF (L0 ((a1,a2,(wrap .i64 (a3+1)),()),()))) sT) fu ((p0,p1,0,()),()))
theorem QfF:FO 34 (sB [.one (.lst .Page),.one (.lst .Page)] fun x=>Uu fu x.1 x.2.1):=fI fu (gs 2 (lp [li 0 .Page,li 1 .Page,ni 5] [] .go)) (fun a b=>a.1) (eC (Qmd fu) eN) Tryz.func34
def Qah(p0:D.Book)(p1:D.Book):Option Bool:=join (Y:=(Unit×D.Book×D.Book×Unit)) (fun(_,a0,a1,_)=>Qk (X:=((Int×Unit)×D.Book×D.Book×Unit)) (fun L2 ((a3,_),a4,a5,_)=>cd (a3<((a4.Teams.length:Nat):Int)) (join (Y:=((Int×Unit)×D.Book×D.Book×Unit)) (fun((a6,_),a7,a8,_)=>L2 (((wrap .i64 (a6+1)),()),a7,a8,())) fun J9=>atc a4.Teams a3 fun a10=>atc a5.Teams a3 fun a11=>cd (a10.Name≠a11.Name) sF (atc a4.Teams a3 fun a12=>atc a5.Teams a3 fun a13=>optc (W2 fu a12.Members a13.Members) fun a14=>cnd a14 (J9 ((a3,()),a4,a5,())) sF)) (Qk (X:=((Int×Unit)×D.Book×D.Book×Unit)) (fun L15 ((a16,_),a17,a18,_)=>cd (a16<((a17.Policies.length:Nat):Int)) (atc a17.Policies a16 fun a19=>atc a18.Policies a16 fun a20=>join (Y:=((Int×Unit)×D.Book×D.Book×D.Policy×D.Policy×Unit)) (fun((a21,_),a22,a23,a24,a25,_)=>Qk (X:=((Int×Int×Unit)×D.Book×D.Book×D.Policy×D.Policy×Unit)) (fun L26 ((a27,a28,_),a29,a30,a31,a32,_)=>cd (a28<((a31.Steps.length:Nat):Int)) (atc a31.Steps a28 fun a33=>atc a32.Steps a28 fun a34=>join (Y:=((Int×Int×Unit)×D.Book×D.Book×D.Policy×D.Policy×D.PolicyStep×D.PolicyStep×Unit)) (fun((a35,a36,_),a37,a38,a39,a40,a41,a42,_)=>Qk (X:=(P3×D.Book×D.Book×D.Policy×D.Policy×D.PolicyStep×D.PolicyStep×Unit)) (fun L43 ((a44,a45,a46,_),a47,a48,a49,a50,a51,a52,_)=>cd (a46<((a51.Targets.length:Nat):Int)) (atc a51.Targets a46 fun a53=>atc a52.Targets a46 fun a54=>cd ((a53.Kind::(a53.Index::[]))≠(a54.Kind::(a54.Index::[]))) sF (L43 ((a44,a45,(wrap .i64 (a46+1)),()),a47,a48,a49,a50,a51,a52,()))) (L26 ((a44,(wrap .i64 (a45+1)),()),a47,a48,a49,a50,()))) fu ((a35,a36,0,()),a37,a38,a39,a40,a41,a42,())) fun J55=>cd (a33.Wait≠a34.Wait) sF (cnd a33.Urgent (cnd a34.Urgent (cd (((a33.Targets.length:Nat):Int)≠((a34.Targets.length:Nat):Int)) sF (J55 ((a27,a28,()),a29,a30,a31,a32,a33,a34,()))) sF) (cnd a34.Urgent sF (cd (((a33.Targets.length:Nat):Int)≠((a34.Targets.length:Nat):Int)) sF (J55 ((a27,a28,()),a29,a30,a31,a32,a33,a34,())))))) (L15 (((wrap .i64 (a27+1)),()),a29,a30,()))) fu ((a21,0,()),a22,a23,a24,a25,())) fun J56=>cd (a19.Name≠a20.Name) sF (cd (a19.Repeat≠a20.Repeat) sF (cd (((a19.Steps.length:Nat):Int)≠((a20.Steps.length:Nat):Int)) sF (J56 ((a16,()),a17,a18,a19,a20,()))))) sT) fu ((0,()),a4,a5,()))) fu ((0,()),a0,a1,())) fun J57=>cd (((p0.Teams.length:Nat):Int)≠((p1.Teams.length:Nat):Int)) sF (cd (((p0.Policies.length:Nat):Int)≠((p1.Policies.length:Nat):Int)) sF (J57 ((),p0,p1,())))
theorem Qhn:FO 48 (sB [.st .Book,.st .Book] fun x=>Qah fu x.1 x.2.1):=fI fu (.two .go (.two (.join [rf 2,rf 3] [bx 1002 .Book,bx 1003 .Book] .go) (.two (.two .go (.one (.loop [rf 2,rf 3,ni 5] [bx 1002 .Book,bx 1003 .Book] (.two .go (.two (.join [rf 2,rf 3,ni 5] [bx 1002 .Book,bx 1003 .Book] .go) .go))))) (lp [rf 2,rf 3,ni 6] [bx 1002 .Book,bx 1003 .Book] (.two .go (.two (.one (.two .go (.two (.join [rf 2,rf 3,ni 6,rf 7,rf 8] [bx 1002 .Book,bx 1003 .Book,bx 1007 .Policy,bx 1008 .Policy] .go) (.two .go (.one (.loop [rf 2,rf 3,ni 6,rf 7,rf 8,ni 9] [bx 1002 .Book,bx 1003 .Book,bx 1007 .Policy,bx 1008 .Policy] (.two .go (.two (.one (.two .go (.two (.join [rf 2,rf 3,ni 6,rf 7,rf 8,ni 9,rf 10,rf 11] [bx 1002 .Book,bx 1003 .Book,bx 1007 .Policy,bx 1008 .Policy,bx 1010 .PolicyStep,bx 1011 .PolicyStep] .go) (.two .go (.one (.loop [rf 2,rf 3,ni 6,rf 7,rf 8,ni 9,rf 10,rf 11,ni 12] [bx 1002 .Book,bx 1003 .Book,bx 1007 .Policy,bx 1008 .Policy,bx 1010 .PolicyStep,bx 1011 .PolicyStep] .go)))))) .go)))))))) .go)))))) (fun a b=>a.1) (eC (Vs fu) eN) Tryz.func48
def Ut(p0:List D.Call)(p1:List D.Call):Option Bool:=cd (((p0.length:Nat):Int)≠((p1.length:Nat):Int)) sF (Qk (X:=((List D.Call×List D.Call×Int×Unit)×Unit)) (fun L0 ((a1,a2,a3,_),_)=>cd (a3<((a1.length:Nat):Int)) (atc a1 a3 fun a4=>atc a2 a3 fun a5=>cd ((a4.Page::(a4.K::(a4.At::(a4.Person::(a4.Fence::[])))))≠(a5.Page::(a5.K::(a5.At::(a5.Person::(a5.Fence::[])))))) sF (L0 ((a1,a2,(wrap .i64 (a3+1)),()),()))) sT) fu ((p0,p1,0,()),()))
theorem QfE:FO 50 (sB [.one (.lst .Call),.one (.lst .Call)] fun x=>Ut fu x.1 x.2.1):=fI fu (gs 2 (lp [li 0 .Call,li 1 .Call,ni 5] [] .go)) (fun a b=>a.1) eN Tryz.func50
def Qf3(p0:D.Ledger)(p1:D.Ledger):Option Bool:=cd (p0.Now=p1.Now) (optc (VI fu p0.Config p1.Config) fun a0=>cnd a0 (optc (Qah fu p0.Book p1.Book) fun a1=>cnd a1 (optc (Uu fu p0.Pages p1.Pages) fun a2=>cnd a2 (cd (p0.Owner=p1.Owner) (cd (p0.Fence=p1.Fence) (optc (W2 fu p0.Seen p1.Seen) fun a3=>cnd a3 (optc (Ut fu p0.Calls p1.Calls) fun a4=>cnd a4 sT sF) sF) sF) sF) sF) sF) sF) sF
theorem Qmf:FO 19 (sB [.st .Ledger,.st .Ledger] fun x=>Qf3 fu x.1 x.2.1):=fI fu .go (fun a b=>a.1) (eC (Qe3 fu) (eC (QfF fu) (eC (Qhn fu) (eC (Vs fu) (eC (QfE fu) eN))))) Tryz.func19
def Wq(p0:List Int):Option Bool:=optc (QeP fu p0) fun a0=>cnd (!a0) (optc (QcD fu) fun a1=>some a1) (optc (Qd8 fu p0) fun a2=>optc (Wh fu a2) fun(a3,a4)=>optc (VD fu a4) fun(a5,a6)=>optc (Qho fu a3 a5) fun(a7,a8)=>Qk (X:=((Int×Unit)×D.Dice×D.Ledger×Unit)) (fun L9 ((a10,_),a11,a12,_)=>cd (a10<9) (optc (QR fu a11 (0::(60::(300::(700::[]))))) fun(a13,a14)=>optc (U9 fu a14 a12 a10 (wrap .i64 ((max a12.Now 864000)+a13))) fun(a15,a16)=>optc (Wv fu a12 a15) fun(a17,a18)=>join (Y:=((Int×Unit)×D.Dice×D.Ledger×D.Op×D.Ledger×Unit)) (fun((a19,_),a20,a21,a22,a23,_)=>optc (Wv fu a23 a22) fun(a24,a25)=>join (Y:=((Int×Unit)×D.Dice×D.Ledger×D.Ledger×Unit)) (fun((a26,_),a27,a28,a29,_)=>L9 (((wrap .i64 (a26+1)),()),a27,a29,())) fun J30=>cd (a25≠0) sF (optc (Qf3 fu a23 a24) fun a31=>cnd a31 (cd (a23.Fence<a21.Fence) sF (J30 ((a19,()),a20,a21,a23,()))) sF)) fun J32=>cd (a18=8) sF (optc (QaJ fu a17) fun a33=>cnd a33 (cd (a17.Now<a12.Now) sF (cd (a17.Now<a15.At) sF (optc (QeZ fu a17.Seen a10) fun a34=>cnd a34 (J32 ((a10,()),a16,a12,a15,a17,())) sF))) sF)) (optc (QcD fu) fun a35=>some a35)) fu ((1,()),a6,a7,()))
theorem Qdv:FO 4 (sB [lI] fun x=>Wq fu x.1):=fI fu (gs 4 (lp [(3,.one (.ref 1018005)),rf 4,ni 6] [bx 1018005 .Dice,bx 1004 .Ledger] (.two .go (.two (.one (gs 2 (.two (.join [(3,.one (.ref 1018005)),rf 4,ni 6,rf 7,rf 8] [bx 1018005 .Dice,bx 1004 .Ledger,bx 1007 .Op,bx 1008 .Ledger] .go) (.two .go (.two (.join [(3,.one (.ref 1018005)),rf 4,ni 6,rf 8] [bx 1018005 .Dice,bx 1004 .Ledger,bx 1008 .Ledger] .go) .go))))) .go)))) (fun a b=>a.1) (eC (Qjf fu) (eC (Qjc fu) (eC (Qfm fu) (eC (Qg2 fu) (eC (Qdb fu) (eC (Qfr fu) (eC (Qmf fu) (eC (Qiu fu) (eC (QaA fu) (eC (QeO fu) (eC (YF fu) (eC (Qe0 fu) eN)))))))))))) Tryz.func4
end
end Go.Proofs.YtgokjdfkpnkekaaGreat
/-
  What functions do: all parts.
-/
/-
  What package pagewatchmade makes (dice, targets, books, crews, answers), of what is reckoned of its code.
-/
namespace Go.Proofs.YtgokjdfkpnkekaaGreat
open Go AM
theorem Qhw{a n:Int}(hn:1≤n): -n<a.tmod n∧a.tmod n<n:=by
 rcases(show a<0∨0≤a by omega)with h|h
 ·have e:a.tmod n = - ((-a).tmod n):=by rw[Int.neg_tmod,Int.neg_neg]
  rw[e,Int.tmod_eq_emod_of_nonneg (by omega)]
  have h1:=Int.emod_lt_of_pos (-a) (b:=n) (by omega)
  have h2:=Int.emod_nonneg (-a) (b:=n) (by omega)
  omega
 ·rw[Int.tmod_eq_emod_of_nonneg h]
  have h1:=Int.emod_lt_of_pos a (b:=n) (by omega)
  have h2:=Int.emod_nonneg a (b:=n) (by omega)
  omega
structure ZY (L:List Int) (d:D.Dice):Prop where
 l:d.L=L
 lo:0≤d.At
 hi:d.At≤(L.length:Int)
variable {fu:Nat} {L:List Int}
theorem Qps{d:D.Dice}{n:Int}(hL:L.length≤500)(hd:ZY L d)(hn:n≤1000000):
  Ok (Qd fu d n) fun r=>ZY L r.2∧0≤r.1∧(1≤n→r.1<n)∧(n<1→r.1=0):=by
 unfold Qd AM.join
 have h0:=hd.lo
 have h1:=hd.hi
 have hl:((d.L.length:Nat):Int)=(L.length:Int):=by rw[hd.l]
 refine Ok.ite (fun h=>Ok.s ⟨hd,Int.le_refl _,fun h=>by show(0:Int)<n;omega,fun _=>rfl⟩) fun h2=>Ok.ite (fun h=>Ok.s ⟨hd,Int.le_refl _,fun h=>by show(0:Int)<n;omega,fun _=>rfl⟩) fun h3=>?_
 dsimp only
 refine Ok.at hd.lo (by omega) (Ok.nzc (by omega) ?_)
 have ht:=Qhw (a:=nth d.L d.At.toNat) (n:=n) (by omega)
 rw[Qev (x:=d.At+1) (by omega) (by omega)]
 refine Ok.ite (fun h4=>?_) (fun h4=>?_)
 ·rw[Qev (by omega) (by omega)]
  exact Ok.s ⟨⟨hd.l,by show 0≤d.At+1;omega,by show d.At+1≤_;omega⟩,by dsimp only;omega,fun _=>by dsimp only;omega,fun h=>by omega⟩
 ·exact Ok.s ⟨⟨hd.l,by show 0≤d.At+1;omega,by show d.At+1≤_;omega⟩,by dsimp only;omega,fun _=>by dsimp only;omega,fun h=>by omega⟩
theorem nx{d:D.Dice}{n:Int}(hL:L.length≤500)(hd:ZY L d)(h1:1≤n)(hn:n≤1000000):
  Ok (Qd fu d n) fun r=>ZY L r.2∧0≤r.1∧r.1<n:=(Qps hL hd hn).mono fun r h=>⟨h.1,h.2.1,h.2.2.1 h1⟩
theorem QaD{d:D.Dice}{l:List Int}(hL:L.length≤500)(hd:ZY L d)(hl:1≤l.length)(hl2:l.length≤1000):
  Ok (QR fu d l) fun r=>ZY L r.2∧r.1∈l:=by
 unfold QR
 refine Ok.opt (Qps hL hd (by omega)) fun⟨v,d1⟩ ⟨h1,h2,h3,_⟩=>?_
 have h4:=h3 (by omega)
 dsimp only at h2 h4 ⊢
 exact Ok.at h2 h4 (Ok.s ⟨h1,Ql (by omega)⟩)
theorem Qg9{d:D.Dice}(hL:L.length≤500)(hd:ZY L d):Ok (YL fu d) fun r=>ZY L r.2∧Qbv r.1:=by
 unfold YL
 refine Ok.opt (QaD hL hd (by simp) (by simp)) fun⟨a0,d1⟩ ⟨h1,m1⟩=>?_
 dsimp only at h1 m1 ⊢
 refine Ok.opt (nx hL h1 (by omega) (by omega)) fun⟨a2,d2⟩ ⟨h2,l2,u2⟩=>?_
 dsimp only at h2 l2 u2 ⊢
 refine Ok.opt (nx hL h2 (by omega) (by omega)) fun⟨a4,d3⟩ ⟨h3,l3,u3⟩=>?_
 dsimp only at h3 l3 u3 ⊢
 refine Ok.opt (QaD hL h3 (by simp) (by simp)) fun⟨a6,d4⟩ ⟨h4,m4⟩=>?_
 dsimp only at h4 m4 ⊢
 simp only[List.mem_cons,List.not_mem_nil,or_false]at m1 m4
 rw[Qe (x:=864000+a0) (by omega),Qe (x:=864000+a0+a6) (by omega)]
 refine Ok.j (Ok.ite (fun h=>?_) (fun h=>Ok.ite (fun h'=>?_) (fun h'=>?_)))
 ·refine Ok.opt (nx hL h4 (by omega) (by omega)) fun⟨a7,d5⟩ ⟨h5,l5,u5⟩=>?_
  dsimp only at h5 l5 u5 ⊢
  rw[Qe (x:=a4+1) (by omega),Qe (x:=a4+1+a7) (by omega),Int.tmod_eq_emod_of_nonneg (by omega)]
  exact Ok.nzc (by omega) (Ok.s ⟨h5,⟨by dsimp only;omega,.inl (by dsimp only;omega),fun _=>by dsimp only;omega,fun h=>by dsimp only at h;omega,by dsimp only;omega⟩⟩)
 ·refine Ok.opt (nx hL h4 (by omega) (by omega)) fun⟨a7,d5⟩ ⟨h5,l5,u5⟩=>?_
  dsimp only at h5 l5 u5 ⊢
  rw[Qe (x:=a7 - 1) (by omega)]
  exact Ok.s ⟨h5,⟨by dsimp only;omega,by dsimp only;omega,fun h=>by dsimp only at h;omega,fun _=>rfl,by dsimp only;omega⟩⟩
 ·exact Ok.s ⟨h4,⟨by dsimp only;omega,.inl (by dsimp only;omega),fun h=>by dsimp only at h;omega,fun _=>rfl,by dsimp only;omega⟩⟩
theorem Q3{α:Type}[Inhabited α]{l:List α}{i:Nat}(h:i<l.length):l.take i++[nth l i]=l.take (i+1):=by
 rw[List.take_succ_eq_append_getElem h]
 simp[nth,List.getD_eq_getElem?_getD,List.getElem?_eq_getElem h]
theorem Wt{α:Type}{P:α→Prop}{l:List α}{x:α}(h:∀y∈l,P y)(hx:P x):∀y∈l++[x],P y:=fun y hy=>by
 rcases List.mem_append.1 hy with hy|hy
 ·exact h y hy
 ·rw[List.mem_singleton.1 hy];exact hx
theorem Qsx{d:D.Dice}(hL:L.length≤500)(hd:ZY L d)(hf:10≤fu):Ok (Wh fu d) fun r=>ZY L r.2∧Zl 2 r.1:=by
 unfold Wh
 refine Ok.opt (QaD hL hd (by simp) (by simp)) fun⟨a0,d1⟩ ⟨h1,m1⟩=>?_
 dsimp only at h1 m1 ⊢
 simp only[List.mem_cons,List.not_mem_nil,or_false]at m1
 refine Ok.loop (fun m x=>x.1.1=Z4∧0≤x.1.2.1∧x.1.2.1≤4∧ZY L x.2.1∧x.2.2.2.1.1=[⟨bZ,a0,[]⟩]∧x.2.2.2.2.1.map (·.Name)=Z4.take x.1.2.1.toNat∧(∀p∈x.2.2.2.2.1,Vz p)∧(4 - x.1.2.1).toNat=m) (m:=4) (by omega)
  ⟨rfl,by dsimp only;omega,by dsimp only;omega,h1,rfl,rfl,by simp,rfl⟩ ?_
 rintro m ⟨⟨a3,a4,⟨⟩⟩,a5,⟨⟩,⟨a6,⟨⟩⟩,a7,⟨⟩⟩ ⟨i1,i2,i3,i4,i5,i6,i7,i8⟩ k hk
 dsimp only at i1 i2 i3 i4 i5 i6 i7 i8 ⊢
 subst i1;subst i5
 refine Ok.ite (fun h4=>?_) (fun h4=>?_)
 ·have hlen:Z4.length=4:=rfl
  have hal:a7.length=a4.toNat:=by have:=congrArg List.length i6;rw[List.length_map,List.length_take,hlen]at this;omega
  refine Ok.at (by omega) (by omega) ?_
  refine Ok.opt (nx hL i4 (by omega) (by omega)) fun⟨a9,d2⟩ ⟨h2,_⟩=>?_
  dsimp only at h2 ⊢
  refine Ok.join (fun y=>y.1.1=Z4∧y.1.2.1=a4∧ZY L y.2.1∧y.2.2.2.1.1=[⟨bZ,a0,[]⟩]∧y.2.2.2.2.1.Name=nth Z4 a4.toNat∧Vz y.2.2.2.2.1∧y.2.2.2.2.2.1=a7) (fun y hy=>?_) (fun J hJ=>?_)
  ·obtain⟨⟨a11,a12,⟨⟩⟩,a13,⟨⟩,⟨a14,⟨⟩⟩,a15,a16,⟨⟩⟩:=y
   obtain⟨g1,g2,g3,g4,g5,g6,g7⟩:=hy
   dsimp only at g1 g2 g3 g4 g5 g6 g7 ⊢
   subst g1;subst g2;subst g4;subst g7
   refine Ok.lec (by simp;omega) ?_
   rw[Qe (by omega)]
   refine hk (4 - (a12+1)).toNat _ (by omega) ⟨rfl,by dsimp only;omega,by dsimp only;omega,g3,rfl,?_,Wt i7 g6,rfl⟩
   dsimp only
   rw[List.map_append,i6,List.map_cons,List.map_nil,g5,Q3 (by rw[hlen];omega),show(a12+1).toNat=a12.toNat+1 by omega]
  ·refine Ok.opt (nx hL h2 (by omega) (by omega)) fun⟨a18,d3⟩ ⟨h3,_⟩=>?_
   dsimp only at h3 ⊢
   refine Ok.ite (fun h5=>?_) (fun h5=>hJ _ ⟨rfl,rfl,h3,rfl,rfl,⟨rfl,⟨rfl,rfl⟩,.inl rfl⟩,rfl⟩)
   refine Ok.opt (QaD hL h3 (by simp) (by simp)) fun⟨a20,d4⟩ ⟨h6,m6⟩=>?_
   dsimp only at h6 m6 ⊢
   refine Ok.opt (QaD hL h6 (by simp) (by simp)) fun⟨a22,d5⟩ ⟨h7,m7⟩=>?_
   dsimp only at h7 m7 ⊢
   simp only[List.mem_cons,List.not_mem_nil,or_false]at m6 m7
   exact hJ _ ⟨rfl,rfl,h7,rfl,rfl,⟨rfl,⟨rfl,rfl⟩,.inr ⟨a20,a22,rfl,m6,m7⟩⟩,rfl⟩
 ·have e4:a4=4:=by omega
  subst e4
  refine Ok.loop (fun m x=>0≤x.1.1∧x.1.1≤2∧ZY L x.2.1∧x.2.2.2.1.1=[⟨bZ,a0,[]⟩]∧x.2.2.2.2.1=a7∧x.2.2.2.2.2.1.map (·.Name)=Yl.take x.1.1.toNat∧(∀s∈x.2.2.2.2.2.1,QbM 2 s)∧(2 - x.1.1).toNat=m) (m:=2) (by omega)
   ⟨by dsimp only;omega,by dsimp only;omega,i4,rfl,rfl,rfl,by simp,rfl⟩ ?_
  rintro m2 ⟨⟨a25,⟨⟩⟩,a26,⟨⟩,⟨a27,⟨⟩⟩,a28,a29,⟨⟩⟩ ⟨j1,j2,j3,j4,j5,j6,j7,j8⟩ k2 hk2
  dsimp only at j1 j2 j3 j4 j5 j6 j7 j8 ⊢
  subst j4;subst j5
  refine Ok.ite (fun h5=>?_) (fun h5=>?_)
  ·have hlen:Yl.length=2:=rfl
   have hal:a29.length=a25.toNat:=by have:=congrArg List.length j6;rw[List.length_map,List.length_take,hlen]at this;omega
   refine Ok.opt (QaD hL j3 (by simp) (by simp)) fun⟨a30,d2⟩ ⟨h2,m2⟩=>?_
   dsimp only at h2 m2 ⊢
   refine Ok.opt (QaD hL h2 (by simp) (by simp)) fun⟨a32,d3⟩ ⟨h3,m3⟩=>?_
   dsimp only at h3 m3 ⊢
   refine Ok.opt (QaD hL h3 (by simp) (by simp)) fun⟨a34,d4⟩ ⟨h4',m4⟩=>?_
   dsimp only at h4' m4 ⊢
   refine Ok.opt (nx hL h4' (by omega) (by omega)) fun⟨a36,d5⟩ ⟨h6,l6,u6⟩=>?_
   dsimp only at h6 l6 u6 ⊢
   refine Ok.opt (nx hL h6 (by omega) (by omega)) fun⟨a38,d6⟩ ⟨h7,l7,u7⟩=>?_
   dsimp only at h7 l7 u7 ⊢
   simp only[List.mem_cons,List.not_mem_nil,or_false]at m2 m3 m4
   rw[Qe (x:=1+a36) (by omega),Qe (x:=1+a38) (by omega)]
   refine Ok.loop (fun m x=>x.1.1=a25∧0≤x.1.2.1∧ZY L x.2.1∧x.2.2.2.1.1=[⟨bZ,a0,[]⟩]∧x.2.2.2.2.1=(ByteArray.mk #[108],0,a30,a32,a34,1+a36,0,0,())∧x.2.2.2.2.2.1=a28∧x.2.2.2.2.2.2.1=a29∧
    (∀z∈x.2.2.2.2.2.2.2.1,0≤z∧z<4)∧x.1.2.1+(x.2.2.2.2.2.2.2.1.length:Int)=1+a38∧x.1.2.1.toNat=m) (m:=(1+a38).toNat) (by omega) ⟨rfl,by dsimp only;omega,h7,rfl,rfl,rfl,rfl,by simp,by dsimp only;simp,rfl⟩ ?_
   rintro m3' ⟨⟨a41,a42,⟨⟩⟩,a43,⟨⟩,⟨a44,⟨⟩⟩,⟨a45,a46,a47,a48,a49,a50,a51,a52,⟨⟩⟩,a53,a54,a55,⟨⟩⟩ ⟨n1,n2,n3,n4,n5,n6,n7,n8,n9,n10⟩ k3 hk3
   dsimp only at n1 n2 n3 n4 n5 n6 n7 n8 n9 n10 ⊢
   cases n5;subst n1;subst n4;subst n6;subst n7
   refine Ok.ite (fun h8=>?_) (fun h8=>?_)
   ·refine Ok.opt (nx hL n3 (by omega) (by omega)) fun⟨a56,d7⟩ ⟨h9,l9,u9⟩=>?_
    dsimp only at h9 l9 u9 ⊢
    refine Ok.lec (by simp;omega) ?_
    rw[Qe (by omega)]
    exact hk3 (a42 - 1).toNat _ (by omega) ⟨rfl,by dsimp only;omega,h9,rfl,rfl,rfl,rfl,Wt n8 ⟨l9,u9⟩,by dsimp only;rw[List.length_append];simp only[List.length_cons,List.length_nil];omega,rfl⟩
   ·refine Ok.at (by omega) (by simp only[List.length_cons,List.length_nil];omega) ?_
    refine Ok.opt (nx hL n3 (by omega) (by omega)) fun⟨a59,d7⟩ ⟨h9,l9,u9⟩=>?_
    dsimp only at h9 l9 u9 ⊢
    refine Ok.loop (fun m x=>x.1.1=a41∧0≤x.1.2.1∧ZY L x.2.1∧x.2.2.2.1.1=[⟨bZ,a0,[]⟩]∧x.2.2.2.2.1=(nth Yl a41.toNat,[(⟨ByteArray.mk #[108],0,⟨a30,a32⟩,a34,1+a36,a55,[],0,0⟩:D.Layer)],())∧x.2.2.2.2.2.1=a53∧x.2.2.2.2.2.2.1=a54∧
     (∀z∈x.2.2.2.2.2.2.2.1,Qbv z)∧x.1.2.1+(x.2.2.2.2.2.2.2.1.length:Int)=a59∧x.1.2.1.toNat=m) (m:=a59.toNat) (by omega) ⟨rfl,by dsimp only;omega,h9,rfl,rfl,rfl,rfl,by simp,by dsimp only;simp,rfl⟩ ?_
    rintro m4' ⟨⟨a62,a63,⟨⟩⟩,a64,⟨⟩,⟨a65,⟨⟩⟩,⟨a66,a67,⟨⟩⟩,a68,a69,a70,⟨⟩⟩ ⟨p1,p2,p3,p4,p5,p6,p7,p8,p9,p10⟩ k4 hk4
    dsimp only at p1 p2 p3 p4 p5 p6 p7 p8 p9 p10 ⊢
    cases p5;subst p1;subst p4;subst p6;subst p7
    refine Ok.ite (fun h10=>?_) (fun h10=>?_)
    ·refine Ok.opt (Qg9 hL p3) fun⟨a71,d8⟩ ⟨h11,e11⟩=>?_
     dsimp only at h11 e11 ⊢
     refine Ok.lec (by simp;omega) ?_
     rw[Qe (by omega)]
     exact hk4 (a63 - 1).toNat _ (by omega) ⟨rfl,by dsimp only;omega,h11,rfl,rfl,rfl,rfl,Wt p8 e11,by dsimp only;rw[List.length_append];simp only[List.length_cons,List.length_nil];omega,rfl⟩
    ·refine Ok.lec (by simp;omega) ?_
     rw[Qe (by omega)]
     refine hk2 (2 - (a62+1)).toNat _ (by omega) ⟨by dsimp only;omega,by dsimp only;omega,p3,rfl,rfl,?_,Wt j7 ⟨⟨_,rfl,⟨rfl,rfl,m2,by dsimp only;omega,by dsimp only;omega,by dsimp only;omega,by dsimp only;omega,n8,rfl,⟨rfl,rfl⟩⟩⟩,by dsimp only;omega,p8⟩,rfl⟩
     dsimp only
     rw[List.map_append,j6,List.map_cons,List.map_nil,Q3 (by rw[hlen];omega),show(a62+1).toNat=a62.toNat+1 by omega]
  ·have e2:a25=2:=by omega
   subst e2
   exact Ok.s ⟨j3,⟨⟨a0,rfl,m1⟩,i6,i7,rfl,j6,j7⟩⟩
theorem Qqb{d:D.Dice}{b:D.Book}(hL:L.length≤500)(hd:ZY L d)(hb:b.Teams.length≤100):
  Ok (Yz fu d b) fun r=>ZY L r.2∧VA b.Teams.length r.1:=by
 unfold Yz
 refine Ok.opt (nx hL hd (by omega) (by omega)) fun⟨v,d1⟩ ⟨h1,h2,h4⟩=>?_
 dsimp only at h1 h2 h4 ⊢
 refine Ok.join (fun y=>0≤y.1.1∧y.1.1<3∧(y.1.1=2→1≤b.Teams.length)∧ZY L y.2.1∧y.2.2.2.2.1=b.Teams∧y.2.2.2.2.2.1=b.Policies) (fun y hy=>?_) (fun J hJ=>?_)
 ·obtain⟨⟨a2,⟨⟩⟩,d2,⟨⟩,tg,ts,ps,⟨⟩⟩:=y
  obtain⟨g1,g2,g0,g3,g4,g5⟩:=hy
  dsimp only at g1 g2 g0 g3 g4 g5 ⊢
  subst g4;subst g5
  refine Ok.at g1 (by simp;omega) ?_
  have h3:a2=0∨a2=1∨a2=2:=by omega
  have e:nth [4,2,((b.Teams.length:Nat):Int)] a2.toNat=if a2=0 then 4 else if a2=1 then 2 else((b.Teams.length:Nat):Int):=by rcases h3 with h3|h3|h3<;>subst h3<;>rfl
  rw[e]
  refine Ok.opt (nx hL g3 (by(repeat' split)<;>omega) (by(repeat' split)<;>omega)) fun⟨v2,d3⟩ ⟨k1,k2,k3⟩=>?_
  dsimp only at k1 k2 k3 ⊢
  refine Ok.sameC (Ok.sameC (Ok.s ⟨k1,⟨h3,k2,fun h=>?_,fun h=>?_,fun h=>?_⟩⟩))<;>dsimp only at h⊢<;>subst h<;>simpa using k3
 ·refine Ok.ite (fun h5=>Ok.ite (fun h6=>hJ _ ⟨by dsimp only;omega,by dsimp only;omega,fun h=>by dsimp only at h;omega,h1,rfl,rfl⟩) (fun h6=>hJ _ ⟨h2,h4,fun h=>by omega,h1,rfl,rfl⟩)) (fun h5=>hJ _ ⟨h2,h4,fun h=>absurd h h5,h1,rfl,rfl⟩)
theorem Qss{d:D.Dice}(hL:L.length≤500)(hd:ZY L d)(hf:10≤fu):
  Ok (VD fu d) fun r=>ZY L r.2∧QQ r.1:=by
 unfold VD
 refine Ok.opt (nx hL hd (by omega) (by omega)) fun⟨v,d1⟩ ⟨h1,h2,h4⟩=>?_
 dsimp only at h1 h2 h4 ⊢
 refine Ok.loop (fun m x=>ZY L x.2.1∧0≤x.1.1∧x.1.1+(x.2.2.2.2.1.length:Int)≤2∧x.2.2.2.2.1.map (·.Name)=QdS.take x.2.2.2.2.1.length∧(∀t∈x.2.2.2.2.1,QjX t)∧x.1.1.toNat=m) (m:=v.toNat) (by omega) ⟨h1,h2,by dsimp only;simp;omega,rfl,by simp,rfl⟩ ?_
 rintro m ⟨⟨a3,⟨⟩⟩,d2,⟨⟩,⟨⟩,ts,⟨⟩⟩ ⟨i1,i2,i3,i5,i6,i4⟩ k hk
 dsimp only at i1 i2 i3 i5 i6 i4 ⊢
 refine Ok.ite (fun h5=>?_) (fun h5=>?_)
 ·refine Ok.at (by omega) (by simp only[List.length_cons,List.length_nil];omega) ?_
  refine Ok.opt (nx hL i1 (by omega) (by omega)) fun⟨v2,d3⟩ ⟨j1,j2,j3⟩=>?_
  dsimp only at j1 j2 j3 ⊢
  refine Ok.join (fun y=>ZY L y.2.1∧y.1.1=a3∧y.2.2.2.2.2.1=ts∧y.2.2.2.2.1.Name=nth QdS ts.length∧QjX y.2.2.2.2.1) (fun y hy=>?_) (fun J hJ=>?_)
  ·obtain⟨⟨a9,⟨⟩⟩,d4,⟨⟩,⟨⟩,tm,ts2,⟨⟩⟩:=y
   obtain⟨q1,q2,q3,q4,q5⟩:=hy
   dsimp only at q1 q2 q3 q4 q5 ⊢
   subst q2;subst q3
   refine Ok.lec (by simp;omega) ?_
   rw[Qev (by omega) (by omega)]
   refine hk (a9 - 1).toNat _ (by omega) ⟨q1,by dsimp only;omega,by dsimp only;rw[List.length_append];simp only[List.length_cons,List.length_nil];omega,?_,Wt i6 q5,rfl⟩
   dsimp only
   rw[List.map_append,i5,List.map_cons,List.map_nil,q4,Q3 (by show _<2;omega),List.length_append];rfl
  ·refine Ok.opt (nx hL j1 (by omega) (by omega)) fun⟨v3,d4⟩ ⟨k1,_⟩=>?_
   dsimp only at k1 ⊢
   refine Ok.ite (fun _=>?_) (fun _=>hJ _ ⟨k1,rfl,rfl,rfl,⟨by simp[Asc],by simp,by simp;omega⟩⟩)
   refine Ok.opt (nx hL k1 (by omega) (by omega)) fun⟨v4,d5⟩ ⟨l1,l2,l3⟩=>?_
   dsimp only at l1 l2 l3 ⊢
   rw[Qe (by omega)]
   exact Ok.lec (by simp) (hJ _ ⟨l1,rfl,rfl,rfl,⟨by simp[Asc];omega,by simp,by simp;omega⟩⟩)
 ·refine Ok.opt (nx hL i1 (by omega) (by omega)) fun⟨v2,d3⟩ ⟨j1,j2,j4⟩=>?_
  dsimp only at j1 j2 j4 ⊢
  rw[Qev (by omega) (by omega)]
  refine Ok.loop (fun m x=>ZY L x.2.1∧0≤x.1.1∧x.2.2.2.2.1=ts∧x.1.1+(x.2.2.2.2.2.1.length:Int)=1+v2∧x.2.2.2.2.2.1.map (·.Name)=QhE.take x.2.2.2.2.2.1.length∧(∀p∈x.2.2.2.2.2.1,QaY ts.length p)∧x.1.1.toNat=m) (m:=(1+v2).toNat) (by omega) ⟨j1,by dsimp only;omega,rfl,by dsimp only;simp,rfl,by simp,rfl⟩ ?_
  rintro m ⟨⟨a21,⟨⟩⟩,d4,⟨⟩,⟨⟩,ts2,ps,⟨⟩⟩ ⟨n1,n2,n3,n4,n6,n7,n5⟩ k2 hk2
  dsimp only at n1 n2 n3 n4 n5 n6 n7 ⊢
  subst n3
  refine Ok.ite (fun h6=>?_) (fun h6=>Ok.s ⟨n1,⟨by dsimp only;omega,i5,i6,by dsimp only;omega,n6,n7⟩⟩)
  refine Ok.at (by omega) (by simp only[List.length_cons,List.length_nil];omega) ?_
  refine Ok.opt (QaD hL n1 (by simp) (by simp)) fun⟨v3,d5⟩ ⟨o1,r1⟩=>?_
  dsimp only at o1 r1 ⊢
  refine Ok.opt (nx hL o1 (by omega) (by omega)) fun⟨v4,d6⟩ ⟨o2,o3,o5⟩=>?_
  dsimp only at o2 o3 o5 ⊢
  simp only[List.mem_cons,List.not_mem_nil,or_false]at r1
  rw[Qev (x:=1+v4) (by omega) (by omega)]
  refine Ok.loop (fun m x=>ZY L x.2.1∧x.1.1=a21∧0≤x.1.2.1∧x.2.2.2.2.1=(nth QhE ps.length,v3,())∧x.2.2.2.2.2.1=ts2∧x.2.2.2.2.2.2.1=ps∧x.1.2.1+(x.2.2.2.2.2.2.2.1.length:Int)=1+v4∧(∀s∈x.2.2.2.2.2.2.2.1,StepOK' ts2.length s)∧x.1.2.1.toNat=m) (m:=(1+v4).toNat) (by omega) ⟨o2,rfl,by dsimp only;omega,rfl,rfl,rfl,by dsimp only;simp,by simp,rfl⟩ ?_
  rintro m3 ⟨⟨a31,a32,⟨⟩⟩,d7,⟨⟩,⟨⟩,⟨nm,rp,⟨⟩⟩,ts3,ps3,ss,⟨⟩⟩ ⟨p1,p2,p3,p0,p4,p5,p6,p8,p7⟩ k3 hk3
  dsimp only at p1 p2 p3 p0 p4 p5 p6 p7 p8 ⊢
  cases p0
  subst p2;subst p4;subst p5
  refine Ok.ite (fun h7=>?_) (fun h7=>?_)
  ·refine Ok.opt (QaD hL p1 (by simp) (by simp)) fun⟨v5,d8⟩ ⟨s1,s2⟩=>?_
   dsimp only at s1 s2 ⊢
   refine Ok.opt (nx hL s1 (by omega) (by omega)) fun⟨v6,d9⟩ ⟨r2,_⟩=>?_
   dsimp only at r2 ⊢
   refine Ok.opt (nx hL r2 (by omega) (by omega)) fun⟨v7,d10⟩ ⟨r3,r4,r6⟩=>?_
   dsimp only at r3 r4 r6 ⊢
   simp only[List.mem_cons,List.not_mem_nil,or_false]at s2
   refine Ok.loop (fun m x=>ZY L x.2.1∧x.1.1=a31∧x.1.2.1=a32∧0≤x.1.2.2.1∧x.2.2.2.2.1=(nth QhE ps3.length,v3,())∧x.2.2.2.2.2.1=(v5,decide (v6=0),())∧x.2.2.2.2.2.2.1=ts3∧x.2.2.2.2.2.2.2.1=ps3∧x.2.2.2.2.2.2.2.2.1=ss∧x.1.2.2.1+(x.2.2.2.2.2.2.2.2.2.1.length:Int)≤2∧(∀t∈x.2.2.2.2.2.2.2.2.2.1,VA ts3.length t)∧x.1.2.2.1.toNat=m) (m:=v7.toNat) (by omega) ⟨r3,rfl,rfl,by dsimp only;omega,rfl,rfl,rfl,rfl,rfl,by dsimp only;simp;omega,by simp,rfl⟩ ?_
   rintro m4 ⟨⟨a46,a47,a48,⟨⟩⟩,d11,⟨⟩,⟨⟩,⟨nm2,rp2,⟨⟩⟩,⟨wt,ur,⟨⟩⟩,ts4,ps4,ss4,tg,⟨⟩⟩ ⟨u1,u2,u3,u4,w1,w2,u5,u6,u7,u8,w3,u9⟩ k4 hk4
   dsimp only at u1 u2 u3 u4 u5 u6 u7 u8 u9 w1 w2 w3 ⊢
   cases w1;cases w2
   subst u2;subst u3;subst u5;subst u6;subst u7
   refine Ok.ite (fun h8=>?_) (fun h8=>?_)
   ·refine Ok.opt (Qqb hL u1 (by dsimp only;omega)) fun⟨v8,d12⟩ ⟨x1,x2⟩=>?_
    dsimp only at x1 x2 ⊢
    refine Ok.lec (by simp;omega) ?_
    rw[Qev (by omega) (by omega)]
    exact hk4 (a48 - 1).toNat _ (by omega) ⟨x1,rfl,rfl,by dsimp only;omega,rfl,rfl,rfl,rfl,rfl,by dsimp only;rw[List.length_append];simp only[List.length_cons,List.length_nil];omega,Wt w3 x2,rfl⟩
   ·refine Ok.lec (by simp;omega) ?_
    rw[Qev (by omega) (by omega)]
    exact hk3 (a47 - 1).toNat _ (by omega) ⟨u1,rfl,by dsimp only;omega,rfl,rfl,rfl,by dsimp only;rw[List.length_append];simp only[List.length_cons,List.length_nil];omega,Wt p8 ⟨by dsimp only;omega,by dsimp only;omega,w3⟩,rfl⟩
  ·refine Ok.lec (by simp;omega) ?_
   rw[Qev (by omega) (by omega)]
   refine hk2 (a31 - 1).toNat _ (by omega) ⟨p1,by dsimp only;omega,rfl,by dsimp only;rw[List.length_append];simp only[List.length_cons,List.length_nil];omega,?_,Wt n7 ⟨by dsimp only;omega,by dsimp only;omega,p8⟩,rfl⟩
   dsimp only
   rw[List.map_append,n6,List.map_cons,List.map_nil,Q3 (by show _<3;omega),List.length_append];rfl
end Go.Proofs.YtgokjdfkpnkekaaGreat
