/-
  edit.Copy: a deep copy of a configuration of two schedules of one layer; the edits of one of them stay an array of ours.
-/
import Derived.Test.YtadlpefpehjcoaaGreatQRowCallsC
import Derived.Shelf.Spec.SlicesInsertGrow
import Derived.Shelf.Sort.Plain
import Derived.Sort.OwnSortedInts
set_option maxRecDepth 100000
set_option linter.unusedVariables false
set_option linter.unusedSimpArgs false
namespace Go.Proofs.YtadlpefpehjcoaaGreat
open Go AM
theorem clone0{α:Type}[DecidableEq α]{l:List α}(h:l.length≤34359738368):nilC l (both (some []) (lec l.length 34359738368 (some l))) (lec l.length 34359738368 (some l))=some l:=by
 cases l<;>simp[nilC,both,lec]at h ⊢
 exact h
abbrev nl:AV:=.p (.sl true 0 [])
abbrev sl0(es:Nat)(rows:List (List PV)):AV:=.p (.sl false es rows)
abbrev own(n k:Nat):AV:=.own n k
abbrev schR(n:ByteArray)(l:D.Layer)(e:List D.Edit):List PV:=[.v (.string n),.sl false 10 [D.Layer.cells l],.sl false 5 (e.map D.Edit.cells)]
structure QjW (fu:Nat) (z:D.Zone) (ps:List D.Person) (la lb:D.Layer) (ea eb:List D.Edit):Prop where
 rules:z.Rules.length≤1000000
 quiet:∀p∈ps,p.Quiet.length≤1000000
 lam:la.Members.length≤1000000
 law:la.Windows.length≤1000000
 lbm:lb.Members.length≤1000000
 lbw:lb.Windows.length≤1000000
 ea:ea.length≤1000000
 eb:eb.length≤1000000
section
variable {fu:Nat} {z:D.Zone} {p1 p2 p3 p4:D.Person} {na nb:ByteArray} {la lb:D.Layer} {ea eb:List D.Edit}
abbrev cfgA(z:D.Zone)(p1 p2 p3 p4:D.Person)(na nb:ByteArray)(la lb:D.Layer)(ea eb:List D.Edit):List AV:=
 [sl0 3 [D.Zone.cells z],sl0 6 [D.Person.cells p1,D.Person.cells p2,D.Person.cells p3,D.Person.cells p4],sl0 3 [],sl0 3 [schR na la ea,schR nb lb eb]]
abbrev boxC:AO:=.box [own 2011 1,own 2014 4,own 2017 0,own 2020 2]
abbrev box0:AO:=.box [nl,nl,nl,nl]
theorem QmC(h:QjW fu z [p1,p2,p3,p4] la lb ea eb)(r:Bool)(h':List (Name×AO))(hh:h'=bif r then[(2011,.arr 3 [D.Zone.cells z]),(2014,.arr 6 [D.Person.cells p1,D.Person.cells p2,D.Person.cells p3,D.Person.cells p4]),(2017,.arr 3 []),(2020,.hole 3 [schR na la ea] [.p (.v (.string nb)),sl0 10 [D.Layer.cells lb],own 3001 (eb.map (tcells .Edit)).length] []),(3001,.arr 5 (eb.map (tcells .Edit)))]
   else[(2011,.arr 3 [D.Zone.cells z]),(2014,.arr 6 [D.Person.cells p1,D.Person.cells p2,D.Person.cells p3,D.Person.cells p4]),(2017,.arr 3 []),(2020,.hole 3 [] [.p (.v (.string na)),sl0 10 [D.Layer.cells la],own 3000 (ea.map (tcells .Edit)).length] [schR nb lb eb]),(3000,.arr 5 (ea.map (tcells .Edit)))]):
  XE Tryz.prog 266 [.agg (cfgA z p1 p2 p3 p4 na nb la lb ea eb)] [] (.agg [own 2011 1,own 2014 4,own 2017 0,own 2020 2]) h':=by
 have cZ:∀l:List D.Zone,l.length≤1000000→Qab Tryz.prog 213 .Zone l:=fun l hl=>Wi (t:=.Zone) (F:=Xm fu) (UG fu) (clone0 (α:=D.Zone) (Nat.le_trans hl (by decide)))
 have cY:∀l:List D.YearRule,l.length≤1000000→Qab Tryz.prog 214 .YearRule l:=fun l hl=>Wi (t:=.YearRule) (F:=Y2 fu) (W9 fu) (clone0 (α:=D.YearRule) (Nat.le_trans hl (by decide)))
 have cP:∀l:List D.Person,l.length≤1000000→Qab Tryz.prog 215 .Person l:=fun l hl=>Wi (t:=.Person) (F:=YI fu) (VP fu) (clone0 (α:=D.Person) (Nat.le_trans hl (by decide)))
 have cC:∀l:List D.Calendar,l.length≤1000000→Qab Tryz.prog 217 .Calendar l:=fun l hl=>Wi (t:=.Calendar) (F:=We fu) (W7 fu) (clone0 (α:=D.Calendar) (Nat.le_trans hl (by decide)))
 have cS:∀l:List D.Schedule,l.length≤1000000→Qab Tryz.prog 218 .Schedule l:=fun l hl=>Wi (t:=.Schedule) (F:=Yg fu) (W8 fu) (clone0 (α:=D.Schedule) (Nat.le_trans hl (by decide)))
 have cW:∀l:List D.Window,l.length≤1000000→Qab Tryz.prog 216 .Window l:=fun l hl=>Wi (t:=.Window) (F:=Z5 fu) (XS fu) (clone0 (α:=D.Window) (Nat.le_trans hl (by decide)))
 have cL:∀l:List D.Layer,l.length≤1000000→Qab Tryz.prog 257 .Layer l:=fun l hl=>Wi (t:=.Layer) (F:=Y0 fu) (Up fu) (clone0 (α:=D.Layer) (Nat.le_trans hl (by decide)))
 have cE:∀l:List D.Edit,l.length≤1000000→Qab Tryz.prog 221 .Edit l:=fun l hl=>Wi (t:=.Edit) (F:=Xl fu) (UF fu) (clone0 (α:=D.Edit) (Nat.le_trans hl (by decide)))
 have cI:∀l:List Int,l.length≤1000000→Qab Tryz.prog 130 .int l:=fun l hl=>Wi (t:=.int) (F:=Qx fu) (Q4 fu) (clone0 (α:=Int) (Nat.le_trans hl (by decide)))
 refine Spec.intro Tryz.func266 rfl (by kernel_rfl) ?_
 intro Γ hGn hGk
 replace hGn:Γ.n=_:=hGn
 replace hGk:Γ.names=[]:=hGk
 refine AWp.xa hGn hGk 2 [(1,.ref 1001 0),(2,.ref 1002 0)] [(1001,.box (cfgA z p1 p2 p3 p4 na nb la lb ea eb)),(1002,box0)] ?_
 refine AWp.xd hGn hGk [.a,.a,clI 11 10 2011 .Zone [z],.a,.a,clI 14 13 2014 .Person [p1,p2,p3,p4],.a,.a,clI 17 16 2017 .Calendar [],.a,.a,clI 20 19 2020 .Schedule [⟨na,[la],ea⟩,⟨nb,[lb],eb⟩],.a,.a,.a,.a,.a,.a,.a,.a]
  ⟨Uf (cZ _ (by simp)) rfl rfl rfl rfl rfl (by kernel_rfl),Uf (cP _ (by simp)) rfl rfl rfl rfl rfl (by kernel_rfl),Uf (cC _ (by simp)) rfl rfl rfl rfl rfl (by kernel_rfl),Uf (cS _ (by simp)) rfl rfl rfl rfl rfl (by kernel_rfl),trivial⟩
  [(1,.ref 1001 0),(2,.ref 1002 0)] [(2011,.arr 3 [D.Zone.cells z]),(2014,.arr 6 [D.Person.cells p1,D.Person.cells p2,D.Person.cells p3,D.Person.cells p4]),(2017,.arr 3 []),(2020,.arr 3 [schR na la ea,schR nb lb eb]),(1001,boxC),(1002,box0)] ?_
 let hZ:Name×AO:=(2011,.arr 3 [D.Zone.cells z])
 let hP:Name×AO:=(2014,.arr 6 [D.Person.cells p1,D.Person.cells p2,D.Person.cells p3,D.Person.cells p4])
 let hC:Name×AO:=(2017,.arr 3 [])
 let hS:Name×AO:=(2020,.arr 3 [schR na la ea,schR nb lb eb])
 let hB:Name×AO:=(1001,boxC)
 let hO:Name×AO:=(1002,box0)
 let a1:Nat×AV:=(1,.ref 1001 0)
 let a2:Nat×AV:=(2,.ref 1002 0)
 let o1:Name×AO:=(2098,.arr 10 [D.Layer.cells lb])
 let o2:Name×AO:=(3000,.arr 5 (ea.map (tcells .Edit)))
 let o3:Name×AO:=(3001,.arr 5 (eb.map (tcells .Edit)))
 let o4:Name×AO:=(2143,.arr 2 (la.Windows.map (tcells .Window)))
 let o5:Name×AO:=(2143,.arr 2 (lb.Windows.map (tcells .Window)))
 let o6:Value→Name×AO:=fun x0=>(3100,.fact (own 3000 (ea.map (tcells .Edit)).length) x0)
 let o7:Value→Name×AO:=fun x1=>(3101,.fact (own 3001 (eb.map (tcells .Edit)).length) x1)
 let o8:Value→Name×AO:=fun x0=>(2020,.arr 3 [[.v (.string na),.sl false 10 [D.Layer.cells la],.v x0],schR nb lb eb])
 let o9:Value→Name×AO:=fun x0=>(2020,.hole 3 [] [.p (.v (.string na)),sl0 10 [D.Layer.cells la],.p (.v x0)] [schR nb lb eb])
 let o10:Name×AO:=(2020,.hole 3 [] [.p (.v (.string na)),own 2098 1,own 3000 (ea.map (tcells .Edit)).length] [schR nb lb eb])
 let o11:Value→Value→Name×AO:=fun x0 x1=>(2020,.arr 3 [[.v (.string na),.sl false 10 [D.Layer.cells la],.v x0],[.v (.string nb),.sl false 10 [D.Layer.cells lb],.v x1]])
 let o12:Value→Value→Name×AO:=fun x0 x1=>(2020,.hole 3 [[.v (.string na),.sl false 10 [D.Layer.cells la],.v x0]] [.p (.v (.string nb)),sl0 10 [D.Layer.cells lb],.p (.v x1)] [])
 let o13:Value→Name×AO:=fun x0=>(2020,.hole 3 [[.v (.string na),.sl false 10 [D.Layer.cells la],.v x0]] [.p (.v (.string nb)),own 2098 1,own 3001 (eb.map (tcells .Edit)).length] [])
 let s1:List (Nat×AV):=[a1,a2,(84,vI 2),(85,vI 0),(7,.aref 2020 2 0 0)]
 let s2:List (Nat×AV):=[a1,a2,(84,vI 2),(85,vI 1),(7,.aref 2020 2 1 0)]
 let s3:List (Name×AO):=[(2020,.arr 3 [schR na la ea,schR nb lb eb]),hZ,hP,hC,hB,hO]
 let s4:List (Nat×AV):=[a1,a2,(84,vI 2),(85,vI 0),(7,.aref 2020 2 0 0),(112,vI 1),(113,vI 0)]
 let s5:List (Nat×AV):=[a1,a2,(84,vI 2),(85,vI 1),(7,.aref 2020 2 1 0),(112,vI 1),(113,vI 0)]
 let s6:List (Name×AO):=[(2098,.arr 10 [D.Layer.cells la]),o10,hZ,hP,hC,hB,hO,o2]
 refine AWp.seq (AWp.seq ?_)
 refine AWp.xa' hGn hGk 4 [a1,a2,(27,vI 1),(28,vI 0)] [hZ,hP,hC,hS,hB,hO] ?_
 refine Qg (AWp.block ?_)
 refine AWp.loop (fun m s=>∃i:Nat,i+m=1∧s=mk [a1,a2,(27,vI 1),(28,vI (i:Int))] [hZ,hP,hC,hS,hB,hO]) ⟨1,0,rfl,rfl⟩ ?_
 rintro m s ⟨i,hi,rfl⟩
 have hc:i=0∨i=1:=by omega
 rcases hc with rfl|rfl
 ·skip
  refine AWp.xa hGn hGk 1 [a1,a2,(27,vI 1),(28,vI 0),(29,vB true)] [hZ,hP,hC,hS,hB,hO] ?_
  refine AWp.seq (AWp.cond_true rfl (AWp.skip (Qg ?_)))
  refine AWp.seq (AWp.block ?_)
  refine AWp.xa hGn hGk 2 [a1,a2,(27,vI 1),(28,vI 0),(3,vI 0)] [hZ,hP,hC,hS,hB,hO] ?_
  refine AWp.foc [] [] (D.Zone.cells z) rfl ?_
  refine AWp.xd' hGn hGk (sk 9 (clI 40 39 2040 .YearRule z.Rules::aa 3)) (.sk (.m (Uf (cY _ h.rules) rfl rfl rfl rfl rfl (by kernel_rfl)) (Man.aa _ _)))
   [a1,a2,(27,vI 1),(28,vI 0)] [(2040,.arr 7 (z.Rules.map (tcells .YearRule))),(2011,.hole 3 [] [.p (.v (.string z.Name)),.p (.v (.int .i64 z.Offset)),own 2040 (z.Rules.map (tcells .YearRule)).length] []),hP,hC,hS,hB,hO] ?_
  refine Ys (Qg ?_)
  refine AWp.frz hGk rfl (.hole (.cons (.same rfl) (.cons (.same rfl) (.cons .own .nil)))) ?_
  refine AWp.unf (D.Zone.cells z) rfl ?_
  refine AWp.xa' hGn hGk 2 [a1,a2,(27,vI 1),(28,vI 1)] [hZ,hP,hC,hS,hB,hO] ?_
  exact Qg ⟨0,by omega,1,rfl,rfl⟩
 refine AWp.xa hGn hGk 1 [a1,a2,(29,vB false)] [hZ,hP,hC,hS,hB,hO] ?_
 refine AWp.seq (AWp.cond_false rfl (AWp.exit ?_))
 refine YU (YU (VS (Qg ?_)))
 refine AWp.seq (AWp.seq ?_)
 refine AWp.xa' hGn hGk 4 [a1,a2,(46,vI 4),(47,vI 0)] [hP,hZ,hC,hS,hB,hO] ?_
 refine Qg (AWp.block ?_)
 refine AWp.loop (fun m s=>∃i:Nat,i+m=4∧s=mk [a1,a2,(46,vI 4),(47,vI (i:Int))] [hP,hZ,hC,hS,hB,hO]) ⟨4,0,rfl,rfl⟩ ?_
 rintro m s ⟨i,hi,rfl⟩
 have hc:i=0∨i=1∨i=2∨i=3∨i=4:=by omega
 rcases hc with rfl|rfl|rfl|rfl|rfl
 ·skip
  refine AWp.xa hGn hGk 1 [a1,a2,(46,vI 4),(47,vI 0),(48,vB true)] [hP,hZ,hC,hS,hB,hO] ?_
  refine AWp.seq (AWp.cond_true rfl (AWp.skip (Qg ?_)))
  refine AWp.seq (AWp.block ?_)
  refine AWp.xa hGn hGk 2 [a1,a2,(46,vI 4),(47,vI 0),(4,vI 0)] [hP,hZ,hC,hS,hB,hO] ?_
  refine AWp.foc [] [D.Person.cells p2,D.Person.cells p3,D.Person.cells p4] (D.Person.cells p1) rfl ?_
  refine AWp.xd' hGn hGk (sk 9 (clI 59 58 2059 .Window p1.Quiet::aa 3)) (.sk (.m (Uf (cW _ (h.quiet _ (by simp))) rfl rfl rfl rfl rfl (by kernel_rfl)) (Man.aa _ _)))
   [a1,a2,(46,vI 4),(47,vI 0)] [(2059,.arr 2 (p1.Quiet.map (tcells .Window))),(2014,.hole 6 [] [.p (.v (.string p1.Name)),.p (.v (.int .i64 p1.Zone)),own 2059 (p1.Quiet.map (tcells .Window)).length,.p (.v (.int .i64 p1.MaxWeek)),.p (.v (.int .i64 p1.MinRest)),.p (.v (.bool p1.Consent))] [D.Person.cells p2,D.Person.cells p3,D.Person.cells p4]),hZ,hC,hS,hB,hO] ?_
  refine Ys (Qg ?_)
  refine AWp.frz hGk rfl (.hole (.cons (.same rfl) (.cons (.same rfl) (.cons .own (.cons (.same rfl) (.cons (.same rfl) (.cons (.same rfl) .nil))))))) ?_
  refine AWp.unf (D.Person.cells p1) rfl ?_
  refine AWp.xa' hGn hGk 2 [a1,a2,(46,vI 4),(47,vI 1)] [hP,hZ,hC,hS,hB,hO] ?_
  exact Qg ⟨3,by omega,1,rfl,rfl⟩
 ·skip
  refine AWp.xa hGn hGk 1 [a1,a2,(46,vI 4),(47,vI 1),(48,vB true)] [hP,hZ,hC,hS,hB,hO] ?_
  refine AWp.seq (AWp.cond_true rfl (AWp.skip (Qg ?_)))
  refine AWp.seq (AWp.block ?_)
  refine AWp.xa hGn hGk 2 [a1,a2,(46,vI 4),(47,vI 1),(4,vI 1)] [hP,hZ,hC,hS,hB,hO] ?_
  refine AWp.foc [D.Person.cells p1] [D.Person.cells p3,D.Person.cells p4] (D.Person.cells p2) rfl ?_
  refine AWp.xd' hGn hGk (sk 9 (clI 59 58 2059 .Window p2.Quiet::aa 3)) (.sk (.m (Uf (cW _ (h.quiet _ (by simp))) rfl rfl rfl rfl rfl (by kernel_rfl)) (Man.aa _ _)))
   [a1,a2,(46,vI 4),(47,vI 1)] [(2059,.arr 2 (p2.Quiet.map (tcells .Window))),(2014,.hole 6 [D.Person.cells p1] [.p (.v (.string p2.Name)),.p (.v (.int .i64 p2.Zone)),own 2059 (p2.Quiet.map (tcells .Window)).length,.p (.v (.int .i64 p2.MaxWeek)),.p (.v (.int .i64 p2.MinRest)),.p (.v (.bool p2.Consent))] [D.Person.cells p3,D.Person.cells p4]),hZ,hC,hS,hB,hO] ?_
  refine Ys (Qg ?_)
  refine AWp.frz hGk rfl (.hole (.cons (.same rfl) (.cons (.same rfl) (.cons .own (.cons (.same rfl) (.cons (.same rfl) (.cons (.same rfl) .nil))))))) ?_
  refine AWp.unf (D.Person.cells p2) rfl ?_
  refine AWp.xa' hGn hGk 2 [a1,a2,(46,vI 4),(47,vI 2)] [hP,hZ,hC,hS,hB,hO] ?_
  exact Qg ⟨2,by omega,2,rfl,rfl⟩
 ·skip
  refine AWp.xa hGn hGk 1 [a1,a2,(46,vI 4),(47,vI 2),(48,vB true)] [hP,hZ,hC,hS,hB,hO] ?_
  refine AWp.seq (AWp.cond_true rfl (AWp.skip (Qg ?_)))
  refine AWp.seq (AWp.block ?_)
  refine AWp.xa hGn hGk 2 [a1,a2,(46,vI 4),(47,vI 2),(4,vI 2)] [hP,hZ,hC,hS,hB,hO] ?_
  refine AWp.foc [D.Person.cells p1,D.Person.cells p2] [D.Person.cells p4] (D.Person.cells p3) rfl ?_
  refine AWp.xd' hGn hGk (sk 9 (clI 59 58 2059 .Window p3.Quiet::aa 3)) (.sk (.m (Uf (cW _ (h.quiet _ (by simp))) rfl rfl rfl rfl rfl (by kernel_rfl)) (Man.aa _ _)))
   [a1,a2,(46,vI 4),(47,vI 2)] [(2059,.arr 2 (p3.Quiet.map (tcells .Window))),(2014,.hole 6 [D.Person.cells p1,D.Person.cells p2] [.p (.v (.string p3.Name)),.p (.v (.int .i64 p3.Zone)),own 2059 (p3.Quiet.map (tcells .Window)).length,.p (.v (.int .i64 p3.MaxWeek)),.p (.v (.int .i64 p3.MinRest)),.p (.v (.bool p3.Consent))] [D.Person.cells p4]),hZ,hC,hS,hB,hO] ?_
  refine Ys (Qg ?_)
  refine AWp.frz hGk rfl (.hole (.cons (.same rfl) (.cons (.same rfl) (.cons .own (.cons (.same rfl) (.cons (.same rfl) (.cons (.same rfl) .nil))))))) ?_
  refine AWp.unf (D.Person.cells p3) rfl ?_
  refine AWp.xa' hGn hGk 2 [a1,a2,(46,vI 4),(47,vI 3)] [hP,hZ,hC,hS,hB,hO] ?_
  exact Qg ⟨1,by omega,3,rfl,rfl⟩
 ·skip
  refine AWp.xa hGn hGk 1 [a1,a2,(46,vI 4),(47,vI 3),(48,vB true)] [hP,hZ,hC,hS,hB,hO] ?_
  refine AWp.seq (AWp.cond_true rfl (AWp.skip (Qg ?_)))
  refine AWp.seq (AWp.block ?_)
  refine AWp.xa hGn hGk 2 [a1,a2,(46,vI 4),(47,vI 3),(4,vI 3)] [hP,hZ,hC,hS,hB,hO] ?_
  refine AWp.foc [D.Person.cells p1,D.Person.cells p2,D.Person.cells p3] [] (D.Person.cells p4) rfl ?_
  refine AWp.xd' hGn hGk (sk 9 (clI 59 58 2059 .Window p4.Quiet::aa 3)) (.sk (.m (Uf (cW _ (h.quiet _ (by simp))) rfl rfl rfl rfl rfl (by kernel_rfl)) (Man.aa _ _)))
   [a1,a2,(46,vI 4),(47,vI 3)] [(2059,.arr 2 (p4.Quiet.map (tcells .Window))),(2014,.hole 6 [D.Person.cells p1,D.Person.cells p2,D.Person.cells p3] [.p (.v (.string p4.Name)),.p (.v (.int .i64 p4.Zone)),own 2059 (p4.Quiet.map (tcells .Window)).length,.p (.v (.int .i64 p4.MaxWeek)),.p (.v (.int .i64 p4.MinRest)),.p (.v (.bool p4.Consent))] []),hZ,hC,hS,hB,hO] ?_
  refine Ys (Qg ?_)
  refine AWp.frz hGk rfl (.hole (.cons (.same rfl) (.cons (.same rfl) (.cons .own (.cons (.same rfl) (.cons (.same rfl) (.cons (.same rfl) .nil))))))) ?_
  refine AWp.unf (D.Person.cells p4) rfl ?_
  refine AWp.xa' hGn hGk 2 [a1,a2,(46,vI 4),(47,vI 4)] [hP,hZ,hC,hS,hB,hO] ?_
  exact Qg ⟨0,by omega,4,rfl,rfl⟩
 refine AWp.xa hGn hGk 1 [a1,a2,(48,vB false)] [hP,hZ,hC,hS,hB,hO] ?_
 refine AWp.seq (AWp.cond_false rfl (AWp.exit ?_))
 refine YU (YU (VS (Qg ?_)))
 refine AWp.seq (AWp.seq ?_)
 refine AWp.xa' hGn hGk 4 [a1,a2,(65,vI 0),(66,vI 0)] [hZ,hP,hC,hS,hB,hO] ?_
 refine Qg (AWp.block ?_)
 refine AWp.loop (fun m s=>∃i:Nat,i+m=0∧s=mk [a1,a2,(65,vI 0),(66,vI (i:Int))] [hZ,hP,hC,hS,hB,hO]) ⟨0,0,rfl,rfl⟩ ?_
 rintro m s ⟨i,hi,rfl⟩
 obtain rfl:i=0:=by omega
 refine AWp.xa hGn hGk 1 [a1,a2,(67,vB false)] [hZ,hP,hC,hS,hB,hO] ?_
 refine AWp.seq (AWp.cond_false rfl (AWp.exit ?_))
 refine YU (YU (VS (Qg ?_)))
 refine AWp.seq (AWp.seq ?_)
 refine AWp.xa' hGn hGk 4 [a1,a2,(84,vI 2),(85,vI 0)] s3 ?_
 refine Qg (AWp.block ?_)
 refine AWp.loop (fun m s=>(m=2∧s=mk [a1,a2,(84,vI 2),(85,vI 0)] s3)∨(∃x0:Value,m=1∧s=mk [a1,a2,(84,vI 2),(85,vI 1)] [(o8 x0),hZ,hP,hC,hB,hO,(o6 x0),o2])∨(∃x0 x1:Value,m=0∧s=mk [a1,a2,(84,vI 2),(85,vI 2)] [(o11 x0 x1),hZ,hP,hC,hB,hO,(o6 x0),o2,(o7 x1),o3])) ⟨2,.inl ⟨rfl,rfl⟩⟩ ?_
 rintro m s (⟨rfl,rfl⟩|⟨x0,rfl,rfl⟩|⟨x0,x1,rfl,rfl⟩)
 ·skip
  refine AWp.xa hGn hGk 1 [a1,a2,(84,vI 2),(85,vI 0),(86,vB true)] s3 ?_
  refine AWp.seq (AWp.cond_true rfl (AWp.skip (Qg ?_)))
  refine AWp.seq (AWp.block ?_)
  refine AWp.xa hGn hGk 2 [a1,a2,(84,vI 2),(85,vI 0),(6,vI 0)] s3 ?_
  refine AWp.foc [] [schR nb lb eb] (schR na la ea) rfl ?_
  refine AWp.xa hGn hGk 5 s1 [(2020,.hole 3 [] [.p (.v (.string na)),sl0 10 [D.Layer.cells la],sl0 5 (ea.map D.Edit.cells)] [schR nb lb eb]),hZ,hP,hC,hB,hO] ?_
  refine AWp.xd hGn hGk (sk 6 (clI 98 97 2098 .Layer [la]::sk 4 (clI 103 102 3000 .Edit ea::aa 6))) (.sk (.m (Uf (cL _ (by simp)) rfl rfl rfl rfl rfl (by kernel_rfl)) (.sk (.m (Uf (cE _ h.ea) rfl rfl rfl rfl rfl (by kernel_rfl)) (Man.aa _ _)))))
   s1 s6 ?_
  refine AWp.xa hGn hGk 6 s4 s6 ?_
  refine AWp.block ?_
  refine AWp.loop (fun m s=>∃j:Nat,j+m=1∧s=mk [a1,a2,(84,vI 2),(85,vI 0),(7,.aref 2020 2 0 0),(112,vI 1),(113,vI (j:Int))] s6) ⟨1,0,rfl,rfl⟩ ?_
  rintro m s ⟨j,hj,rfl⟩
  have hc:j=0∨j=1:=by omega
  rcases hc with rfl|rfl
  ·skip
   refine AWp.xa hGn hGk 1 [a1,a2,(84,vI 2),(85,vI 0),(7,.aref 2020 2 0 0),(112,vI 1),(113,vI 0),(114,vB true)] s6 ?_
   refine AWp.seq (AWp.cond_true rfl (AWp.skip (Qg ?_)))
   refine AWp.seq (AWp.block ?_)
   refine AWp.xa hGn hGk 2 [a1,a2,(84,vI 2),(85,vI 0),(7,.aref 2020 2 0 0),(112,vI 1),(113,vI 0),(8,vI 0)] s6 ?_
   refine AWp.foc [] [] (D.Layer.cells la) rfl ?_
   refine AWp.xd' hGn hGk (sk 18 (clI 134 133 2134 .int la.Members::sk 8 (clI 143 142 2143 .Window la.Windows::aa 6))) (.sk (.m (Uf (cI _ h.lam) rfl rfl rfl rfl rfl (by kernel_rfl)) (.sk (.m (Uf (cW _ h.law) rfl rfl rfl rfl rfl (by kernel_rfl)) (Man.aa _ _)))))
    s4 [(2134,.arr 1 (la.Members.map (tcells .int))),(2098,.hole 10 [] [.p (.v (.string la.Name)),.p (.v (.int .i64 la.Zone)),.p (.v (.int .i64 la.Start.Day)),.p (.v (.int .i64 la.Start.Second)),.p (.v (.int .i64 la.Unit)),.p (.v (.int .i64 la.Every)),own 2134 (la.Members.map (tcells .int)).length,own 2143 (la.Windows.map (tcells .Window)).length,.p (.v (.int .i64 la.Calendar)),.p (.v (.int .i64 la.Mode))] []),o4,o10,hZ,hP,hC,hB,hO,o2] ?_
   refine Ys (Qg ?_)
   refine AWp.frz hGk rfl (.hole (.cons (.same rfl) (.cons (.same rfl) (.cons (.same rfl) (.cons (.same rfl) (.cons (.same rfl) (.cons (.same rfl) (.cons .own (.cons (.same rfl) (.cons (.same rfl) (.cons (.same rfl) (.nil)))))))))))) ?_
   refine AWp.weaken (mk s4 [o4,(2098,.hole 10 [] [.p (.v (.string la.Name)),.p (.v (.int .i64 la.Zone)),.p (.v (.int .i64 la.Start.Day)),.p (.v (.int .i64 la.Start.Second)),.p (.v (.int .i64 la.Unit)),.p (.v (.int .i64 la.Every)),sl0 1 (la.Members.map (tcells .int)),own 2143 (la.Windows.map (tcells .Window)).length,.p (.v (.int .i64 la.Calendar)),.p (.v (.int .i64 la.Mode))] []),o10,hZ,hP,hC,hB,hO,o2]) (Weak.sub' hGk (by kernel_rfl)) ?_
   refine AWp.frz hGk rfl (.hole (.cons (.same rfl) (.cons (.same rfl) (.cons (.same rfl) (.cons (.same rfl) (.cons (.same rfl) (.cons (.same rfl) (.cons (.same rfl) (.cons .own (.cons (.same rfl) (.cons (.same rfl) (.nil)))))))))))) ?_
   refine AWp.unf (D.Layer.cells la) rfl ?_
   refine AWp.xa' hGn hGk 2 [a1,a2,(84,vI 2),(85,vI 0),(7,.aref 2020 2 0 0),(112,vI 1),(113,vI 1)] s6 ?_
   exact Qg ⟨0,by omega,1,rfl,rfl⟩
  refine AWp.xa hGn hGk 1 [a1,a2,(84,vI 2),(85,vI 0),(114,vB false)] s6 ?_
  refine AWp.seq (AWp.cond_false rfl (AWp.exit ?_))
  refine YU (YU (VS (Ys (Qg ?_))))
  refine AWp.frz hGk rfl (.hole (.cons (.same rfl) (.cons .own (.cons (.same rfl) .nil)))) ?_
  refine AWp.nameH (n:=3000) (n0:=3100) 2020 2 (by rw[hGk];exact List.not_mem_nil) rfl rfl (by decide) rfl rfl (fun x0=>?_)
  refine AWp.pinH rfl rfl rfl (.cons (.same _) (.cons (.same _) (.cons .pin .nil))) ?_
  refine AWp.weaken (mk [a1,a2,(84,vI 2),(85,vI 0)] [(o9 x0),hZ,hP,hC,hB,hO,o2,(o6 x0)]) (Weak.sub' hGk (by kernel_rfl)) ?_
  refine AWp.unf [.v (.string na),.sl false 10 [D.Layer.cells la],.v x0] rfl ?_
  refine AWp.xa' hGn hGk 2 [a1,a2,(84,vI 2),(85,vI 1)] [(o8 x0),hZ,hP,hC,hB,hO,(o6 x0),o2] ?_
  exact Qg ⟨1,by omega,.inr (.inl ⟨x0,rfl,rfl⟩)⟩
 ·skip
  refine AWp.xa hGn hGk 1 [a1,a2,(84,vI 2),(85,vI 1),(86,vB true)] [(o8 x0),hZ,hP,hC,hB,hO,(o6 x0),o2] ?_
  refine AWp.seq (AWp.cond_true rfl (AWp.skip (Qg ?_)))
  refine AWp.seq (AWp.block ?_)
  refine AWp.xa hGn hGk 2 [a1,a2,(84,vI 2),(85,vI 1),(6,vI 1)] [(o8 x0),hZ,hP,hC,hB,hO,(o6 x0),o2] ?_
  refine AWp.foc [[.v (.string na),.sl false 10 [D.Layer.cells la],.v x0]] [] (schR nb lb eb) rfl ?_
  refine AWp.xa hGn hGk 5 s2 [(2020,.hole 3 [[.v (.string na),.sl false 10 [D.Layer.cells la],.v x0]] [.p (.v (.string nb)),sl0 10 [D.Layer.cells lb],sl0 5 (eb.map D.Edit.cells)] []),hZ,hP,hC,hB,hO,(o6 x0),o2] ?_
  refine AWp.xd hGn hGk (sk 6 (clI 98 97 2098 .Layer [lb]::sk 4 (clI 103 102 3001 .Edit eb::aa 6))) (.sk (.m (Uf (cL _ (by simp)) rfl rfl rfl rfl rfl (by kernel_rfl)) (.sk (.m (Uf (cE _ h.eb) rfl rfl rfl rfl rfl (by kernel_rfl)) (Man.aa _ _)))))
   s2 [o1,(o13 x0),hZ,hP,hC,hB,hO,(o6 x0),o2,o3] ?_
  refine AWp.xa hGn hGk 6 s5 [o1,(o13 x0),hZ,hP,hC,hB,hO,(o6 x0),o2,o3] ?_
  refine AWp.block ?_
  refine AWp.loop (fun m s=>∃j:Nat,j+m=1∧s=mk [a1,a2,(84,vI 2),(85,vI 1),(7,.aref 2020 2 1 0),(112,vI 1),(113,vI (j:Int))] [o1,(o13 x0),hZ,hP,hC,hB,hO,(o6 x0),o2,o3]) ⟨1,0,rfl,rfl⟩ ?_
  rintro m s ⟨j,hj,rfl⟩
  have hc:j=0∨j=1:=by omega
  rcases hc with rfl|rfl
  ·skip
   refine AWp.xa hGn hGk 1 [a1,a2,(84,vI 2),(85,vI 1),(7,.aref 2020 2 1 0),(112,vI 1),(113,vI 0),(114,vB true)] [o1,(o13 x0),hZ,hP,hC,hB,hO,(o6 x0),o2,o3] ?_
   refine AWp.seq (AWp.cond_true rfl (AWp.skip (Qg ?_)))
   refine AWp.seq (AWp.block ?_)
   refine AWp.xa hGn hGk 2 [a1,a2,(84,vI 2),(85,vI 1),(7,.aref 2020 2 1 0),(112,vI 1),(113,vI 0),(8,vI 0)] [o1,(o13 x0),hZ,hP,hC,hB,hO,(o6 x0),o2,o3] ?_
   refine AWp.foc [] [] (D.Layer.cells lb) rfl ?_
   refine AWp.xd' hGn hGk (sk 18 (clI 134 133 2134 .int lb.Members::sk 8 (clI 143 142 2143 .Window lb.Windows::aa 6))) (.sk (.m (Uf (cI _ h.lbm) rfl rfl rfl rfl rfl (by kernel_rfl)) (.sk (.m (Uf (cW _ h.lbw) rfl rfl rfl rfl rfl (by kernel_rfl)) (Man.aa _ _)))))
    s5 [(2134,.arr 1 (lb.Members.map (tcells .int))),(2098,.hole 10 [] [.p (.v (.string lb.Name)),.p (.v (.int .i64 lb.Zone)),.p (.v (.int .i64 lb.Start.Day)),.p (.v (.int .i64 lb.Start.Second)),.p (.v (.int .i64 lb.Unit)),.p (.v (.int .i64 lb.Every)),own 2134 (lb.Members.map (tcells .int)).length,own 2143 (lb.Windows.map (tcells .Window)).length,.p (.v (.int .i64 lb.Calendar)),.p (.v (.int .i64 lb.Mode))] []),o5,(o13 x0),hZ,hP,hC,hB,hO,(o6 x0),o2,o3] ?_
   refine Ys (Qg ?_)
   refine AWp.frz hGk rfl (.hole (.cons (.same rfl) (.cons (.same rfl) (.cons (.same rfl) (.cons (.same rfl) (.cons (.same rfl) (.cons (.same rfl) (.cons .own (.cons (.same rfl) (.cons (.same rfl) (.cons (.same rfl) (.nil)))))))))))) ?_
   refine AWp.weaken (mk s5 [o5,(2098,.hole 10 [] [.p (.v (.string lb.Name)),.p (.v (.int .i64 lb.Zone)),.p (.v (.int .i64 lb.Start.Day)),.p (.v (.int .i64 lb.Start.Second)),.p (.v (.int .i64 lb.Unit)),.p (.v (.int .i64 lb.Every)),sl0 1 (lb.Members.map (tcells .int)),own 2143 (lb.Windows.map (tcells .Window)).length,.p (.v (.int .i64 lb.Calendar)),.p (.v (.int .i64 lb.Mode))] []),(o13 x0),hZ,hP,hC,hB,hO,(o6 x0),o2,o3]) (Weak.sub' hGk (by kernel_rfl)) ?_
   refine AWp.frz hGk rfl (.hole (.cons (.same rfl) (.cons (.same rfl) (.cons (.same rfl) (.cons (.same rfl) (.cons (.same rfl) (.cons (.same rfl) (.cons (.same rfl) (.cons .own (.cons (.same rfl) (.cons (.same rfl) (.nil)))))))))))) ?_
   refine AWp.unf (D.Layer.cells lb) rfl ?_
   refine AWp.xa' hGn hGk 2 [a1,a2,(84,vI 2),(85,vI 1),(7,.aref 2020 2 1 0),(112,vI 1),(113,vI 1)] [o1,(o13 x0),hZ,hP,hC,hB,hO,(o6 x0),o2,o3] ?_
   exact Qg ⟨0,by omega,1,rfl,rfl⟩
  refine AWp.xa hGn hGk 1 [a1,a2,(84,vI 2),(85,vI 1),(114,vB false)] [o1,(o13 x0),hZ,hP,hC,hB,hO,(o6 x0),o2,o3] ?_
  refine AWp.seq (AWp.cond_false rfl (AWp.exit ?_))
  refine YU (YU (VS (Ys (Qg ?_))))
  refine AWp.frz hGk rfl (.hole (.cons (.same rfl) (.cons .own (.cons (.same rfl) .nil)))) ?_
  refine AWp.nameH (n:=3001) (n0:=3101) 2020 2 (by rw[hGk];exact List.not_mem_nil) rfl rfl (by decide) rfl rfl (fun x1=>?_)
  refine AWp.pinH rfl rfl rfl (.cons (.same _) (.cons (.same _) (.cons .pin .nil))) ?_
  refine AWp.weaken (mk [a1,a2,(84,vI 2),(85,vI 1)] [(o12 x0 x1),hZ,hP,hC,hB,hO,(o6 x0),o2,o3,(o7 x1)]) (Weak.sub' hGk (by kernel_rfl)) ?_
  refine AWp.unf [.v (.string nb),.sl false 10 [D.Layer.cells lb],.v x1] rfl ?_
  refine AWp.xa' hGn hGk 2 [a1,a2,(84,vI 2),(85,vI 2)] [(o11 x0 x1),hZ,hP,hC,hB,hO,(o6 x0),o2,(o7 x1),o3] ?_
  exact Qg ⟨0,by omega,.inr (.inr ⟨x0,x1,rfl,rfl⟩)⟩
 refine AWp.xa hGn hGk 1 [a1,a2,(86,vB false)] [(o11 x0 x1),hZ,hP,hC,hB,hO,(o6 x0),o2,(o7 x1),o3] ?_
 refine AWp.seq (AWp.cond_false rfl (AWp.exit ?_))
 refine YU (YU (VS (Qg ?_)))
 subst hh
 cases r
 ·skip
  refine AWp.weaken (mk [a1,a2] [(o11 x0 x1),hZ,hP,hC,hB,hO,(o6 x0),o2,(o7 x1),o3]) (Weak.sub' hGk (by kernel_rfl)) ?_
  refine AWp.foc [[.v (.string na),.sl false 10 [D.Layer.cells la],.v x0]] [] ([.v (.string nb),.sl false 10 [D.Layer.cells lb],.v x1]) rfl ?_
  refine AWp.weaken (mk [a1,a2] [o3,(o7 x1),(o12 x0 x1),hZ,hP,hC,hB,hO,(o6 x0),o2]) (Weak.sub' hGk (by kernel_rfl)) ?_
  refine AWp.frzP hGk rfl (.hole (.cons (.same rfl) (.cons (.same rfl) (.cons (.pin rfl) .nil)))) ?_
  refine AWp.unf (schR nb lb eb) rfl ?_
  refine AWp.foc [] [schR nb lb eb] ([.v (.string na),.sl false 10 [D.Layer.cells la],.v x0]) rfl ?_
  refine AWp.weaken (mk [a1,a2] [(o6 x0),(o9 x0),hZ,hP,hC,hB,hO,o2]) (Weak.sub' hGk (by kernel_rfl)) ?_
  refine AWp.pinH rfl rfl rfl (.cons (.same _) (.cons (.same _) (.cons .unpin .nil))) ?_
  refine AWp.xa hGn hGk 2 [a2] [(1002,boxC),hZ,hP,hC,(2020,.hole 3 [] [.p (.v (.string na)),sl0 10 [D.Layer.cells la],own 3000 (ea.map (tcells .Edit)).length] [schR nb lb eb]),o2] ?_
  refine AWp.ret (QgX (.inr rfl) (Res.agg rfl rfl rfl (by kernel_rfl) (by kernel_rfl)) rfl rfl ⟨rfl,rfl⟩)
 ·skip
  refine AWp.weaken (mk [a1,a2] [(o11 x0 x1),hZ,hP,hC,hB,hO,(o6 x0),o2,(o7 x1),o3]) (Weak.sub' hGk (by kernel_rfl)) ?_
  refine AWp.foc [] [[.v (.string nb),.sl false 10 [D.Layer.cells lb],.v x1]] ([.v (.string na),.sl false 10 [D.Layer.cells la],.v x0]) rfl ?_
  refine AWp.weaken (mk [a1,a2] [o2,(o6 x0),(2020,.hole 3 [] [.p (.v (.string na)),sl0 10 [D.Layer.cells la],.p (.v x0)] [[.v (.string nb),.sl false 10 [D.Layer.cells lb],.v x1]]),hZ,hP,hC,hB,hO,(o7 x1),o3]) (Weak.sub' hGk (by kernel_rfl)) ?_
  refine AWp.frzP hGk rfl (.hole (.cons (.same rfl) (.cons (.same rfl) (.cons (.pin rfl) .nil)))) ?_
  refine AWp.unf (schR na la ea) rfl ?_
  refine AWp.foc [schR na la ea] [] ([.v (.string nb),.sl false 10 [D.Layer.cells lb],.v x1]) rfl ?_
  refine AWp.weaken (mk [a1,a2] [(o7 x1),(2020,.hole 3 [schR na la ea] [.p (.v (.string nb)),sl0 10 [D.Layer.cells lb],.p (.v x1)] []),hZ,hP,hC,hB,hO,o3]) (Weak.sub' hGk (by kernel_rfl)) ?_
  refine AWp.pinH rfl rfl rfl (.cons (.same _) (.cons (.same _) (.cons .unpin .nil))) ?_
  refine AWp.xa hGn hGk 2 [a2] [(1002,boxC),hZ,hP,hC,(2020,.hole 3 [schR na la ea] [.p (.v (.string nb)),sl0 10 [D.Layer.cells lb],own 3001 (eb.map (tcells .Edit)).length] []),o3] ?_
  refine AWp.ret (QgX (.inr rfl) (Res.agg rfl rfl rfl (by kernel_rfl) (by kernel_rfl)) rfl rfl ⟨rfl,rfl⟩)
end
end Go.Proofs.YtadlpefpehjcoaaGreat
/-
  edit.Apply: its contract, for configurations of two schedules of one layer.
-/
namespace Go.Proofs.YtadlpefpehjcoaaGreat
open Go AM
noncomputable section
def cfg0:D.Config:={ Zones:=[],People:=[],Calendars:=[],Schedules:=[] }
def addE(c:D.Config)(a b:D.Schedule)(s:Int)(x:D.Edit):D.Config:=
 if s=0 then{ c with Schedules:=[{ a with Edits:=a.Edits++[x] },b] }else{ c with Schedules:=[a,{ b with Edits:=b.Edits++[x] }] }
open Classical in
def WZ(fu:Nat)(p0:D.Config)(p1:Int)(p2:D.Edit):Option (D.Config×Int):=
 match p0.Zones,p0.People,p0.Calendars,p0.Schedules with
 |[z],[q1,q2,q3,q4],[],[a,b]=>match a.Layers,b.Layers with
  |[la],[lb]=>if QjW fu z [q1,q2,q3,q4] la lb a.Edits b.Edits then
    optc (QX fu p0) fun e=>cnd (decide (e≠0)) none (cnd (decide (0≤p1∧p1<2))
     (optc (QX fu (addE p0 a b p1 p2)) fun e=>cnd (decide (e≠0)) none (some (addE p0 a b p1 p2,0))) (some (cfg0,3)))else none
  |_,_=>none
 |_,_,_,_=>none
def QmB(fu:Nat):Sig:=Qf [.st .Config,.one (.num .i64),.st .Edit] [] [.st .Config,.one (.num .i64)] [] [] (D.Config×Int) (fun q=>((q.1,q.2,()),())) (fun x y=>WZ fu x.1 x.2.1 x.2.2.1)
section
variable {fu:Nat} {z:D.Zone} {p1 p2 p3 p4:D.Person} {na nb:ByteArray} {la lb:D.Layer} {ea eb:List D.Edit} {s e:Int} {x:D.Edit}
abbrev cfgD(z:D.Zone)(p1 p2 p3 p4:D.Person)(na nb:ByteArray)(la lb:D.Layer)(ea eb:List D.Edit):D.Config:=⟨[z],[p1,p2,p3,p4],[],[⟨na,[la],ea⟩,⟨nb,[lb],eb⟩]⟩
theorem Qhq(he:QX fu (cfgD z p1 p2 p3 p4 na nb la lb ea eb)=some e):XE Tryz.prog 104 [.agg (cfgA z p1 p2 p3 p4 na nb la lb ea eb)] [] (vI e) []:=by
 obtain⟨L1,_,_,hs⟩:=(Ux fu).spec (cfgD z p1 p2 p3 p4 na nb la lb ea eb,()) () (e,()) () (by show optc (QX fu _) _=_;rw[he];rfl) (fun _ _=>0) (fun n t l v hn=>by change AM.look n []=_ at hn;simp[AM.look]at hn)
 exact hs
theorem Qpk{q:Bool}(he:WU fu (cfgD z p1 p2 p3 p4 na nb la lb ea eb) s=some q):XE Tryz.prog 265 [.agg (cfgA z p1 p2 p3 p4 na nb la lb ea eb),vI s] [] (vB q) []:=by
 obtain⟨L1,_,_,hs⟩:=(Qew fu).spec (cfgD z p1 p2 p3 p4 na nb la lb ea eb,s,()) () (q,()) () (by show optc (WU fu _ s) _=_;rw[he];rfl) (fun _ _=>0) (fun n t l v hn=>by change AM.look n []=_ at hn;simp[AM.look]at hn)
 exact hs
abbrev ownA:AV:=.agg [own 2011 1,own 2014 4,own 2017 0,own 2020 2]
abbrev QkP(z:D.Zone)(p1 p2 p3 p4:D.Person)(na nb:ByteArray)(la lb:D.Layer)(ea eb:List D.Edit)(r:Bool):List (Name×AO):=
 bif r then[(2011,.arr 3 [D.Zone.cells z]),(2014,.arr 6 [D.Person.cells p1,D.Person.cells p2,D.Person.cells p3,D.Person.cells p4]),(2017,.arr 3 []),(2020,.hole 3 [schR na la ea] [.p (.v (.string nb)),sl0 10 [D.Layer.cells lb],own 3001 (eb.map (tcells .Edit)).length] []),(3001,.arr 5 (eb.map (tcells .Edit)))]
   else[(2011,.arr 3 [D.Zone.cells z]),(2014,.arr 6 [D.Person.cells p1,D.Person.cells p2,D.Person.cells p3,D.Person.cells p4]),(2017,.arr 3 []),(2020,.hole 3 [] [.p (.v (.string na)),sl0 10 [D.Layer.cells la],own 3000 (ea.map (tcells .Edit)).length] [schR nb lb eb]),(3000,.arr 5 (ea.map (tcells .Edit)))]
abbrev newN(r:Bool):List Name:=bif r then[2011,2014,2017,2020,3001]else[2011,2014,2017,2020,3000]
theorem QgW(h:QjW fu z [p1,p2,p3,p4] la lb ea eb)(hc:QX fu (cfgD z p1 p2 p3 p4 na nb la lb ea eb)=some 0)(r:Bool):
  XE Tryz.prog 233 [.agg (cfgA z p1 p2 p3 p4 na nb la lb ea eb),vI (bif r then 1 else 0)] [] (.tup [ownA,vI 0]) (QkP z p1 p2 p3 p4 na nb la lb ea eb r):=by
 have hK:=QmC (na:=na) (nb:=nb) h r _ rfl
 have hI:WU fu (cfgD z p1 p2 p3 p4 na nb la lb ea eb) (bif r then 1 else 0)=some true:=by cases r<;>rfl
 refine Spec.intro Tryz.func233 rfl (by kernel_rfl) ?_
 intro Γ hGn hGk
 replace hGn:Γ.n=_:=hGn
 replace hGk:Γ.names=[]:=hGk
 let hA:Name×AO:=(1002,.box (cfgA z p1 p2 p3 p4 na nb la lb ea eb))
 refine AWp.xa hGn hGk 3 [(1,vI (bif r then 1 else 0)),(2,.ref 1002 0),(4,.ref 1004 0)] [hA,(1004,box0)] ?_
 refine AWp.seq ?_
 refine AWp.xr hGn hGk (sk 1 (.m (some 7) ⟨[(6,.agg (cfgA z p1 p2 p3 p4 na nb la lb ea eb))],[],vI 0,[],[]⟩::aa 1)) (.sk (.m (Qh1 (Qhq hc) rfl rfl rfl rfl (by kernel_rfl) (by rfl) (by kernel_rfl)) (Man.aa _ _)))
  [(1,vI (bif r then 1 else 0)),(2,.ref 1002 0),(4,.ref 1004 0),(8,vB false)] [hA,(1004,box0)] ?_
 refine AWp.cond_false rfl (AWp.skip (Qg ?_))
 refine AWp.seq ?_
 refine AWp.xr hGn hGk (sk 2 (.m (some 12) ⟨[(10,.agg (cfgA z p1 p2 p3 p4 na nb la lb ea eb)),(11,vI (bif r then 1 else 0))],[],vB true,[],[]⟩::aa 1)) (.sk (.m (Qh1 (Qpk hI) rfl rfl rfl rfl (by kernel_rfl) (by rfl) (by kernel_rfl)) (Man.aa _ _)))
  [(2,.ref 1002 0),(4,.ref 1004 0),(13,vB false)] [hA,(1004,box0)] ?_
 refine AWp.cond_false rfl (AWp.skip (Qg ?_))
 cases r
 ·refine AWp.xr hGn hGk (sk 1 (.m (some 16) ⟨[(15,.agg (cfgA z p1 p2 p3 p4 na nb la lb ea eb))],[],ownA,QkP z p1 p2 p3 p4 na nb la lb ea eb false,newN false⟩::aa 2)) (.sk (.m (Qh1 hK rfl rfl rfl rfl (by kernel_rfl) (by rfl) (by kernel_rfl)) (Man.aa _ _)))
   [(4,.ref 1004 0),(5,vI 0)] ((1004,boxC)::QkP z p1 p2 p3 p4 na nb la lb ea eb false) ?_
  exact AWp.ret (QgX (.inr rfl) (Res.many rfl (.cons (Res1.agg rfl rfl (by kernel_rfl) (by kernel_rfl)) (.cons (Res1.tmp rfl) .nil))) rfl rfl ⟨rfl,rfl⟩)
 ·refine AWp.xr hGn hGk (sk 1 (.m (some 16) ⟨[(15,.agg (cfgA z p1 p2 p3 p4 na nb la lb ea eb))],[],ownA,QkP z p1 p2 p3 p4 na nb la lb ea eb true,newN true⟩::aa 2)) (.sk (.m (Qh1 hK rfl rfl rfl rfl (by kernel_rfl) (by rfl) (by kernel_rfl)) (Man.aa _ _)))
   [(4,.ref 1004 0),(5,vI 0)] ((1004,boxC)::QkP z p1 p2 p3 p4 na nb la lb ea eb true) ?_
  exact AWp.ret (QgX (.inr rfl) (Res.many rfl (.cons (Res1.agg rfl rfl (by kernel_rfl) (by kernel_rfl)) (.cons (Res1.tmp rfl) .nil))) rfl rfl ⟨rfl,rfl⟩)
theorem QmE(hc:QX fu (cfgD z p1 p2 p3 p4 na nb la lb ea eb)=some 0)(hs:¬(0≤s∧s<2)):
  XE Tryz.prog 233 [.agg (cfgA z p1 p2 p3 p4 na nb la lb ea eb),vI s] [] (.tup [.agg [nl,nl,nl,nl],vI 3]) []:=by
 have hI:WU fu (cfgD z p1 p2 p3 p4 na nb la lb ea eb) s=some false:=by
  show cnd (decide (0≤s)) (cnd (decide (s<((2:Nat):Int))) (some true) (some false)) (some false)=some false
  by_cases h0:0≤s
  ·have h1:¬s<((2:Nat):Int):=by omega
   rw[decide_eq_true h0,decide_eq_false h1];rfl
  ·rw[decide_eq_false h0];rfl
 refine Spec.intro Tryz.func233 rfl (by kernel_rfl) ?_
 intro Γ hGn hGk
 replace hGn:Γ.n=_:=hGn
 replace hGk:Γ.names=[]:=hGk
 let hA:Name×AO:=(1002,.box (cfgA z p1 p2 p3 p4 na nb la lb ea eb))
 refine AWp.xa hGn hGk 3 [(1,vI s),(2,.ref 1002 0),(4,.ref 1004 0)] [hA,(1004,box0)] ?_
 refine AWp.seq ?_
 refine AWp.xr hGn hGk (sk 1 (.m (some 7) ⟨[(6,.agg (cfgA z p1 p2 p3 p4 na nb la lb ea eb))],[],vI 0,[],[]⟩::aa 1)) (.sk (.m (Qh1 (Qhq hc) rfl rfl rfl rfl (by kernel_rfl) (by rfl) (by kernel_rfl)) (Man.aa _ _)))
  [(1,vI s),(2,.ref 1002 0),(4,.ref 1004 0),(8,vB false)] [hA,(1004,box0)] ?_
 refine AWp.cond_false rfl (AWp.skip (Qg ?_))
 refine AWp.seq ?_
 refine AWp.xr hGn hGk (sk 2 (.m (some 12) ⟨[(10,.agg (cfgA z p1 p2 p3 p4 na nb la lb ea eb)),(11,vI s)],[],vB false,[],[]⟩::aa 1)) (.sk (.m (Qh1 (Qpk hI) rfl rfl rfl rfl (by kernel_rfl) (by rfl) (by kernel_rfl)) (Man.aa _ _)))
  [(2,.ref 1002 0),(4,.ref 1004 0),(13,vB true)] [hA,(1004,box0)] ?_
 refine AWp.cond_true rfl ?_
 refine AWp.xa hGn hGk 3 [(4,.ref 1004 0),(5,vI 3)] [(1004,box0)] ?_
 exact AWp.ret (Qm1 (QgX (.inr rfl) (Res.many rfl (.cons (Res1.agg rfl rfl (by kernel_rfl) (by kernel_rfl)) (.cons (Res1.tmp rfl) .nil))) rfl rfl ⟨rfl,rfl⟩))
theorem QkU(hc:QX fu (cfgD z p1 p2 p3 p4 na nb la lb ea eb)=some 0)(hs:¬(0≤s∧s<2)):
  XE Tryz.prog 163 [.agg (cfgA z p1 p2 p3 p4 na nb la lb ea eb),vI s,.agg ((D.Edit.cells x).map .p)] [] (.tup [.agg [sl0 3 [],sl0 6 [],sl0 3 [],sl0 3 []],vI 3]) []:=by
 have hO:=QmE hc hs
 refine Spec.intro Tryz.func163 rfl (by kernel_rfl) ?_
 intro Γ hGn hGk
 replace hGn:Γ.n=_:=hGn
 replace hGk:Γ.names=[]:=hGk
 let hE:Name×AO:=(1005,.box ((D.Edit.cells x).map .p))
 refine AWp.xa hGn hGk 4 [(1,vI s),(3,.ref 1003 0),(5,.ref 1005 0),(6,.ref 1006 0)] [(1003,.box (cfgA z p1 p2 p3 p4 na nb la lb ea eb)),hE,(1006,box0)] ?_
 refine AWp.xr hGn hGk (sk 2 (.m (some 14) ⟨[(12,.agg (cfgA z p1 p2 p3 p4 na nb la lb ea eb)),(13,vI s)],[],.tup [.agg [nl,nl,nl,nl],vI 3],[],[]⟩::aa 5)) (.sk (.m (Qh1 hO rfl rfl rfl rfl (by kernel_rfl) (by rfl) (by kernel_rfl)) (Man.aa _ _)))
  [(6,.ref 1006 0),(8,vI 3)] [(1006,box0)] ?_
 refine AWp.seq ?_
 refine AWp.xa hGn hGk 2 [(6,.ref 1006 0),(8,vI 3),(18,vB true)] [(1006,box0)] ?_
 refine AWp.cond_true rfl ?_
 refine AWp.xa hGn hGk 4 [(6,.ref 1006 0),(7,vI 3)] [(1006,box0)] ?_
 refine AWp.weaken (mk [(6,.ref 1006 0),(7,vI 3)] [(1006,.box [sl0 3 [],sl0 6 [],sl0 3 [],sl0 3 []])]) (Weak.le (TsLe.refl _) ⟨rfl,.box (.cons (.p (PVle.nil (by simp))) (.cons (.p (PVle.nil (by simp))) (.cons (.p (PVle.nil (by simp))) (.cons (.p (PVle.nil (by simp))) .nil)))),trivial⟩) ?_
 exact AWp.ret (Qm1 (QgX (.inr rfl) (Res.many rfl (.cons (Res1.agg rfl rfl (by kernel_rfl) (by kernel_rfl)) (.cons (Res1.tmp rfl) .nil))) rfl rfl ⟨rfl,rfl⟩))
theorem Qmz(h:QjW fu z [p1,p2,p3,p4] la lb ea eb)(hc:QX fu (cfgD z p1 p2 p3 p4 na nb la lb ea eb)=some 0)(hc2:QX fu (cfgD z p1 p2 p3 p4 na nb la lb (ea++[x]) eb)=some 0):
  XE Tryz.prog 163 [.agg (cfgA z p1 p2 p3 p4 na nb la lb ea eb),vI 0,.agg ((D.Edit.cells x).map .p)] [] (.tup [.agg (cfgA z p1 p2 p3 p4 na nb la lb (ea++[x]) eb),vI 0]) []:=by
 have hO:=QgW h hc false
 have hl:=h.ea
 refine Spec.intro Tryz.func163 rfl (by kernel_rfl) ?_
 intro Γ hGn hGk
 replace hGn:Γ.n=_:=hGn
 replace hGk:Γ.names=[]:=hGk
 let hE:Name×AO:=(1005,.box ((D.Edit.cells x).map .p))
 refine AWp.xa hGn hGk 4 [(1,vI 0),(3,.ref 1003 0),(5,.ref 1005 0),(6,.ref 1006 0)] [(1003,.box (cfgA z p1 p2 p3 p4 na nb la lb ea eb)),hE,(1006,box0)] ?_
 refine AWp.xr hGn hGk (sk 2 (.m (some 14) ⟨[(12,.agg (cfgA z p1 p2 p3 p4 na nb la lb ea eb)),(13,vI 0)],[],.tup [ownA,vI 0],QkP z p1 p2 p3 p4 na nb la lb ea eb false,newN false⟩::aa 5)) (.sk (.m (Qh1 hO rfl rfl rfl rfl (by kernel_rfl) (by rfl) (by kernel_rfl)) (Man.aa _ _)))
  [(1,vI 0),(3,.ref 1003 0),(5,.ref 1005 0),(6,.ref 1006 0),(8,vI 0)] ((1003,boxC)::hE::(1006,box0)::QkP z p1 p2 p3 p4 na nb la lb ea eb false) ?_
 refine AWp.seq ?_
 refine AWp.xa hGn hGk 2 [(1,vI 0),(3,.ref 1003 0),(5,.ref 1005 0),(6,.ref 1006 0),(18,vB false)] [(1003,boxC),hE,(1006,box0),(2011,.arr 3 [D.Zone.cells z]),(2014,.arr 6 [D.Person.cells p1,D.Person.cells p2,D.Person.cells p3,D.Person.cells p4]),(2017,.arr 3 []),(2020,.hole 3 [] [.p (.v (.string na)),sl0 10 [D.Layer.cells la],own 3000 (ea.map (tcells .Edit)).length] [schR nb lb eb]),(3000,.arr 5 (ea.map (tcells .Edit)))] ?_
 refine AWp.cond_false rfl (AWp.skip (Qg ?_))
 refine AWp.xa hGn hGk 5 [(3,.ref 1003 0),(5,.ref 1005 0),(6,.ref 1006 0),(9,.aref 2020 2 0 0)] [(1003,boxC),hE,(1006,box0),(2011,.arr 3 [D.Zone.cells z]),(2014,.arr 6 [D.Person.cells p1,D.Person.cells p2,D.Person.cells p3,D.Person.cells p4]),(2017,.arr 3 []),(2020,.hole 3 [] [.p (.v (.string na)),sl0 10 [D.Layer.cells la],own 3000 (ea.map (tcells .Edit)).length] [schR nb lb eb]),(3000,.arr 5 (ea.map (tcells .Edit)))] ?_
 refine AWp.xd hGn hGk (sk 7 (.m (some 32) ⟨[(29,own 3000 (ea.map (tcells .Edit)).length),(31,.p (.sl true 5 [D.Edit.cells x]))],[(3000,.arr 5 (ea.map (tcells .Edit)))],own 3000 ((ea++[x]).map (tcells .Edit)).length,[(3000,.arr 5 ((ea++[x]).map (tcells .Edit)))],[]⟩::aa 3))
  (.sk (.m (ZD.p (o:=_) rfl rfl rfl (OpOK.appendOwn (T:=129) (e:=48) (bytes:=40) rfl rfl (by kernel_rfl) (by kernel_rfl) rfl (Nat.beq_refl _) rfl (by rw[List.map_append];rfl) rfl (by simp only[List.length_map,List.length_cons,List.length_nil];omega) (by simp only[List.length_map,List.length_cons,List.length_nil];omega))) (Man.aa _ _)))
  [(3,.ref 1003 0),(5,.ref 1005 0),(6,.ref 1006 0)] [(3000,.arr 5 ((ea++[x]).map (tcells .Edit))),(2020,.hole 3 [] [.p (.v (.string na)),sl0 10 [D.Layer.cells la],own 3000 ((ea++[x]).map (tcells .Edit)).length] [schR nb lb eb]),(1003,boxC),hE,(1006,box0),(2011,.arr 3 [D.Zone.cells z]),(2014,.arr 6 [D.Person.cells p1,D.Person.cells p2,D.Person.cells p3,D.Person.cells p4]),(2017,.arr 3 [])] ?_
 refine AWp.frz hGk rfl (.hole (.cons (.same rfl) (.cons (.same rfl) (.cons .own .nil)))) ?_
 refine AWp.unf (schR na la (ea++[x])) rfl ?_
 refine AWp.weaken (mk [(3,.ref 1003 0),(5,.ref 1005 0),(6,.ref 1006 0)] [(2011,.arr 3 [D.Zone.cells z]),(1003,.box [own 2011 1,own 2014 4,own 2017 0,own 2020 2]),hE,(1006,box0),(2014,.arr 6 [D.Person.cells p1,D.Person.cells p2,D.Person.cells p3,D.Person.cells p4]),(2017,.arr 3 []),(2020,.arr 3 [schR na la (ea++[x]),schR nb lb eb])]) (Weak.sub' hGk (by kernel_rfl)) ?_
 refine AWp.frz hGk rfl (.box (.cons .own (.cons (.same rfl) (.cons (.same rfl) (.cons (.same rfl) (.nil)))))) ?_
 refine AWp.weaken (mk [(3,.ref 1003 0),(5,.ref 1005 0),(6,.ref 1006 0)] [(2014,.arr 6 [D.Person.cells p1,D.Person.cells p2,D.Person.cells p3,D.Person.cells p4]),(1003,.box [sl0 3 [D.Zone.cells z],own 2014 4,own 2017 0,own 2020 2]),hE,(1006,box0),(2017,.arr 3 []),(2020,.arr 3 [schR na la (ea++[x]),schR nb lb eb])]) (Weak.sub' hGk (by kernel_rfl)) ?_
 refine AWp.frz hGk rfl (.box (.cons (.same rfl) (.cons .own (.cons (.same rfl) (.cons (.same rfl) (.nil)))))) ?_
 refine AWp.weaken (mk [(3,.ref 1003 0),(5,.ref 1005 0),(6,.ref 1006 0)] [(2017,.arr 3 []),(1003,.box [sl0 3 [D.Zone.cells z],sl0 6 [D.Person.cells p1,D.Person.cells p2,D.Person.cells p3,D.Person.cells p4],own 2017 0,own 2020 2]),hE,(1006,box0),(2020,.arr 3 [schR na la (ea++[x]),schR nb lb eb])]) (Weak.sub' hGk (by kernel_rfl)) ?_
 refine AWp.frz hGk rfl (.box (.cons (.same rfl) (.cons (.same rfl) (.cons .own (.cons (.same rfl) (.nil)))))) ?_
 refine AWp.weaken (mk [(3,.ref 1003 0),(5,.ref 1005 0),(6,.ref 1006 0)] [(2020,.arr 3 [schR na la (ea++[x]),schR nb lb eb]),(1003,.box [sl0 3 [D.Zone.cells z],sl0 6 [D.Person.cells p1,D.Person.cells p2,D.Person.cells p3,D.Person.cells p4],sl0 3 [],own 2020 2]),hE,(1006,box0)]) (Weak.sub' hGk (by kernel_rfl)) ?_
 refine AWp.frz hGk rfl (.box (.cons (.same rfl) (.cons (.same rfl) (.cons (.same rfl) (.cons .own (.nil)))))) ?_
 refine AWp.seq ?_
 refine AWp.xr hGn hGk (sk 1 (.m (some 36) ⟨[(35,.agg (cfgA z p1 p2 p3 p4 na nb la lb (ea++[x]) eb))],[],vI 0,[],[]⟩::aa 1)) (.sk (.m (Qh1 (Qhq hc2) rfl rfl rfl rfl (by kernel_rfl) (by rfl) (by kernel_rfl)) (Man.aa _ _)))
  [(3,.ref 1003 0),(6,.ref 1006 0),(10,vI 0)] [(1003,.box (cfgA z p1 p2 p3 p4 na nb la lb (ea++[x]) eb)),(1006,box0)] ?_
 refine AWp.xa hGn hGk 2 [(3,.ref 1003 0),(6,.ref 1006 0),(38,vB false)] [(1003,.box (cfgA z p1 p2 p3 p4 na nb la lb (ea++[x]) eb)),(1006,box0)] ?_
 refine AWp.cond_false rfl (AWp.skip (Qg ?_))
 refine AWp.xa hGn hGk 3 [(6,.ref 1006 0),(7,vI 0)] [(1006,.box (cfgA z p1 p2 p3 p4 na nb la lb (ea++[x]) eb))] ?_
 exact AWp.ret (QgX (.inr rfl) (Res.many rfl (.cons (Res1.agg rfl rfl (by kernel_rfl) (by kernel_rfl)) (.cons (Res1.tmp rfl) .nil))) rfl rfl ⟨rfl,rfl⟩)
theorem QmA(h:QjW fu z [p1,p2,p3,p4] la lb ea eb)(hc:QX fu (cfgD z p1 p2 p3 p4 na nb la lb ea eb)=some 0)(hc2:QX fu (cfgD z p1 p2 p3 p4 na nb la lb ea (eb++[x]))=some 0):
  XE Tryz.prog 163 [.agg (cfgA z p1 p2 p3 p4 na nb la lb ea eb),vI 1,.agg ((D.Edit.cells x).map .p)] [] (.tup [.agg (cfgA z p1 p2 p3 p4 na nb la lb ea (eb++[x])),vI 0]) []:=by
 have hO:=QgW h hc true
 have hl:=h.eb
 refine Spec.intro Tryz.func163 rfl (by kernel_rfl) ?_
 intro Γ hGn hGk
 replace hGn:Γ.n=_:=hGn
 replace hGk:Γ.names=[]:=hGk
 let hE:Name×AO:=(1005,.box ((D.Edit.cells x).map .p))
 refine AWp.xa hGn hGk 4 [(1,vI 1),(3,.ref 1003 0),(5,.ref 1005 0),(6,.ref 1006 0)] [(1003,.box (cfgA z p1 p2 p3 p4 na nb la lb ea eb)),hE,(1006,box0)] ?_
 refine AWp.xr hGn hGk (sk 2 (.m (some 14) ⟨[(12,.agg (cfgA z p1 p2 p3 p4 na nb la lb ea eb)),(13,vI 1)],[],.tup [ownA,vI 0],QkP z p1 p2 p3 p4 na nb la lb ea eb true,newN true⟩::aa 5)) (.sk (.m (Qh1 hO rfl rfl rfl rfl (by kernel_rfl) (by rfl) (by kernel_rfl)) (Man.aa _ _)))
  [(1,vI 1),(3,.ref 1003 0),(5,.ref 1005 0),(6,.ref 1006 0),(8,vI 0)] ((1003,boxC)::hE::(1006,box0)::QkP z p1 p2 p3 p4 na nb la lb ea eb true) ?_
 refine AWp.seq ?_
 refine AWp.xa hGn hGk 2 [(1,vI 1),(3,.ref 1003 0),(5,.ref 1005 0),(6,.ref 1006 0),(18,vB false)] [(1003,boxC),hE,(1006,box0),(2011,.arr 3 [D.Zone.cells z]),(2014,.arr 6 [D.Person.cells p1,D.Person.cells p2,D.Person.cells p3,D.Person.cells p4]),(2017,.arr 3 []),(2020,.hole 3 [schR na la ea] [.p (.v (.string nb)),sl0 10 [D.Layer.cells lb],own 3001 (eb.map (tcells .Edit)).length] []),(3001,.arr 5 (eb.map (tcells .Edit)))] ?_
 refine AWp.cond_false rfl (AWp.skip (Qg ?_))
 refine AWp.xa hGn hGk 5 [(3,.ref 1003 0),(5,.ref 1005 0),(6,.ref 1006 0),(9,.aref 2020 2 1 0)] [(1003,boxC),hE,(1006,box0),(2011,.arr 3 [D.Zone.cells z]),(2014,.arr 6 [D.Person.cells p1,D.Person.cells p2,D.Person.cells p3,D.Person.cells p4]),(2017,.arr 3 []),(2020,.hole 3 [schR na la ea] [.p (.v (.string nb)),sl0 10 [D.Layer.cells lb],own 3001 (eb.map (tcells .Edit)).length] []),(3001,.arr 5 (eb.map (tcells .Edit)))] ?_
 refine AWp.xd hGn hGk (sk 7 (.m (some 32) ⟨[(29,own 3001 (eb.map (tcells .Edit)).length),(31,.p (.sl true 5 [D.Edit.cells x]))],[(3001,.arr 5 (eb.map (tcells .Edit)))],own 3001 ((eb++[x]).map (tcells .Edit)).length,[(3001,.arr 5 ((eb++[x]).map (tcells .Edit)))],[]⟩::aa 3))
  (.sk (.m (ZD.p (o:=_) rfl rfl rfl (OpOK.appendOwn (T:=129) (e:=48) (bytes:=40) rfl rfl (by kernel_rfl) (by kernel_rfl) rfl (Nat.beq_refl _) rfl (by rw[List.map_append];rfl) rfl (by simp only[List.length_map,List.length_cons,List.length_nil];omega) (by simp only[List.length_map,List.length_cons,List.length_nil];omega))) (Man.aa _ _)))
  [(3,.ref 1003 0),(5,.ref 1005 0),(6,.ref 1006 0)] [(3001,.arr 5 ((eb++[x]).map (tcells .Edit))),(2020,.hole 3 [schR na la ea] [.p (.v (.string nb)),sl0 10 [D.Layer.cells lb],own 3001 ((eb++[x]).map (tcells .Edit)).length] []),(1003,boxC),hE,(1006,box0),(2011,.arr 3 [D.Zone.cells z]),(2014,.arr 6 [D.Person.cells p1,D.Person.cells p2,D.Person.cells p3,D.Person.cells p4]),(2017,.arr 3 [])] ?_
 refine AWp.frz hGk rfl (.hole (.cons (.same rfl) (.cons (.same rfl) (.cons .own .nil)))) ?_
 refine AWp.unf (schR nb lb (eb++[x])) rfl ?_
 refine AWp.weaken (mk [(3,.ref 1003 0),(5,.ref 1005 0),(6,.ref 1006 0)] [(2011,.arr 3 [D.Zone.cells z]),(1003,.box [own 2011 1,own 2014 4,own 2017 0,own 2020 2]),hE,(1006,box0),(2014,.arr 6 [D.Person.cells p1,D.Person.cells p2,D.Person.cells p3,D.Person.cells p4]),(2017,.arr 3 []),(2020,.arr 3 [schR na la ea,schR nb lb (eb++[x])])]) (Weak.sub' hGk (by kernel_rfl)) ?_
 refine AWp.frz hGk rfl (.box (.cons .own (.cons (.same rfl) (.cons (.same rfl) (.cons (.same rfl) (.nil)))))) ?_
 refine AWp.weaken (mk [(3,.ref 1003 0),(5,.ref 1005 0),(6,.ref 1006 0)] [(2014,.arr 6 [D.Person.cells p1,D.Person.cells p2,D.Person.cells p3,D.Person.cells p4]),(1003,.box [sl0 3 [D.Zone.cells z],own 2014 4,own 2017 0,own 2020 2]),hE,(1006,box0),(2017,.arr 3 []),(2020,.arr 3 [schR na la ea,schR nb lb (eb++[x])])]) (Weak.sub' hGk (by kernel_rfl)) ?_
 refine AWp.frz hGk rfl (.box (.cons (.same rfl) (.cons .own (.cons (.same rfl) (.cons (.same rfl) (.nil)))))) ?_
 refine AWp.weaken (mk [(3,.ref 1003 0),(5,.ref 1005 0),(6,.ref 1006 0)] [(2017,.arr 3 []),(1003,.box [sl0 3 [D.Zone.cells z],sl0 6 [D.Person.cells p1,D.Person.cells p2,D.Person.cells p3,D.Person.cells p4],own 2017 0,own 2020 2]),hE,(1006,box0),(2020,.arr 3 [schR na la ea,schR nb lb (eb++[x])])]) (Weak.sub' hGk (by kernel_rfl)) ?_
 refine AWp.frz hGk rfl (.box (.cons (.same rfl) (.cons (.same rfl) (.cons .own (.cons (.same rfl) (.nil)))))) ?_
 refine AWp.weaken (mk [(3,.ref 1003 0),(5,.ref 1005 0),(6,.ref 1006 0)] [(2020,.arr 3 [schR na la ea,schR nb lb (eb++[x])]),(1003,.box [sl0 3 [D.Zone.cells z],sl0 6 [D.Person.cells p1,D.Person.cells p2,D.Person.cells p3,D.Person.cells p4],sl0 3 [],own 2020 2]),hE,(1006,box0)]) (Weak.sub' hGk (by kernel_rfl)) ?_
 refine AWp.frz hGk rfl (.box (.cons (.same rfl) (.cons (.same rfl) (.cons (.same rfl) (.cons .own (.nil)))))) ?_
 refine AWp.seq ?_
 refine AWp.xr hGn hGk (sk 1 (.m (some 36) ⟨[(35,.agg (cfgA z p1 p2 p3 p4 na nb la lb ea (eb++[x])))],[],vI 0,[],[]⟩::aa 1)) (.sk (.m (Qh1 (Qhq hc2) rfl rfl rfl rfl (by kernel_rfl) (by rfl) (by kernel_rfl)) (Man.aa _ _)))
  [(3,.ref 1003 0),(6,.ref 1006 0),(10,vI 0)] [(1003,.box (cfgA z p1 p2 p3 p4 na nb la lb ea (eb++[x]))),(1006,box0)] ?_
 refine AWp.xa hGn hGk 2 [(3,.ref 1003 0),(6,.ref 1006 0),(38,vB false)] [(1003,.box (cfgA z p1 p2 p3 p4 na nb la lb ea (eb++[x]))),(1006,box0)] ?_
 refine AWp.cond_false rfl (AWp.skip (Qg ?_))
 refine AWp.xa hGn hGk 3 [(6,.ref 1006 0),(7,vI 0)] [(1006,.box (cfgA z p1 p2 p3 p4 na nb la lb ea (eb++[x])))] ?_
 exact AWp.ret (QgX (.inr rfl) (Res.many rfl (.cons (Res1.agg rfl rfl (by kernel_rfl) (by kernel_rfl)) (.cons (Res1.tmp rfl) .nil))) rfl rfl ⟨rfl,rfl⟩)
end
theorem QkV(fu:Nat):FnOK Tryz.prog 163 (QmB fu):=by
 refine⟨fun R x y K r h=>?_,fun x y a b h L0 _=>⟨L0,fun _ _=>rfl,fun n t l v hn=>by change AM.look n []=_ at hn;simp[AM.look]at hn,?_⟩⟩
 ·obtain⟨c,s,e,⟨⟩⟩:=x
  obtain⟨q,hq,h⟩:=Ye h
  change WZ fu c s e=some q at hq
  refine⟨(q.1,q.2,()),(),?_,h⟩
  show optc (WZ fu c s e) (fun q=>some ((q.1,q.2,()),()))=_
  rw[hq];rfl
 ·obtain⟨c,s,x,⟨⟩⟩:=x
  obtain⟨q,hq,hab⟩:=Ye h
  change WZ fu c s x=some q at hq
  have hab':((q.1,q.2,()),())=(a,b):=Option.some.inj hab
  obtain⟨rfl,rfl⟩:=Prod.mk.inj hab'
  obtain⟨zs,ps,cs,ss⟩:=c
  unfold WZ at hq
  dsimp only at hq
  split at hq
  case h_2=>simp at hq
  rename_i z p1 p2 p3 p4 a b
  split at hq
  case h_2=>simp at hq
  rename_i la lb hla hlb
  obtain⟨na,las,ea⟩:=a
  obtain⟨nb,lbs,eb⟩:=b
  dsimp only at hla hlb
  subst hla hlb
  split at hq
  case isFalse=>simp at hq
  rename_i hin
  obtain⟨e1,he1,hq⟩:=Ye hq
  have h1:e1=0:=by
   by_cases h:e1=0
   ·exact h
   ·rw[decide_eq_true h]at hq;simp[cnd]at hq
  subst h1
  replace hq:cnd (decide (0≤s∧s<2)) _ _=some q:=hq
  by_cases hs:0≤s∧s<2
  ·rw[decide_eq_true hs]at hq
   obtain⟨e2,he2,hq⟩:=Ye hq
   have h2:e2=0:=by
    by_cases h:e2=0
    ·exact h
    ·rw[decide_eq_true h]at hq;simp[cnd]at hq
   subst h2
   have hq2:=Option.some.inj hq
   subst hq2
   rcases(show s=0∨s=1 by omega)with rfl|rfl
   ·exact Qmz hin he1 he2
   ·exact QmA hin he1 he2
  ·rw[decide_eq_false hs]at hq
   have hq2:=Option.some.inj hq
   subst hq2
   exact QkU he1 hs
end
end Go.Proofs.YtadlpefpehjcoaaGreat
/-
  What functions do, reckoned from their code, and their contracts. Printed by wip/gen/brun.py.
-/
namespace Go.Proofs.YtadlpefpehjcoaaGreat
open Go AM IntKind
noncomputable section
variable (fu:Nat)
def Xd(fu:Nat)(p0:List D.Page)(p1:Int)(p2:List D.Page):Option (List D.Page):=natc p1 fun a0=>lec a0 p0.length (cd (((p2.length:Nat):Int)=0) (some p0) (cd (p1=((p0.length:Nat):Int)) (lec (p0.length+p2.length) 34359738368 (some (p0++p2))) none))
theorem Qcq:FO 158 (Qf [.one (.own 101),nI,.one (.lst .Page)] [ar 101 .Page] [.one (.own 101)] [ar 101 .Page] [] (List D.Page) kz8 (fun x y=>Xd fu y.1 x.1 x.2.1)):=fI fu .go kz12 eN Tryz.func158
end
end Go.Proofs.YtadlpefpehjcoaaGreat
/-
  slices.Insert of one page into an array of ours: its contract. Where the page comes behind all others the printed contract serves (it is an append); the other two roads (there is room; there is none) are walked here.
-/
namespace Go.Proofs.YtadlpefpehjcoaaGreat
open Go Go.RowKit Go.Shelf Go.Proofs AM
section
variable {P:Program}
theorem Qhr(W:World)(T e ty:TypeId)(es:Nat)(hT:P.underlying T=some (.slice e))(hz:Zw P e=some es)(b o l1 c1:Nat)(a2:Addr)(l2 c2 m:Nat)(cur:Array Value)(t:TypeId)(vs:List Value)(hg:W.heap[b]?=some (.cells cur t (0,0)))(hm:Nat.min l2 l1=m)(hn:vs.length=m*es)(hsrc:∀j v,vs[j]?=some v→W.cell? (a2.add j)=some v)(hfit:o+vs.length≤cur.size)(h1:∀v∈vs,v.oneCell'=true):
  (Builtin.copy_ #[T,T] ty #[.slice (some ⟨b,o,none⟩) l1 c1,.slice (some a2) l2 c2]).run P W=.ok (goInt ((m:Nat):Int)) (W.setRow b (Qv cur.toList o vs).toArray):=by
 have hsz:=AM.run_sizeOf (P:=P) (w:=W) hz
 have hload:=run_loadCells_list (P:=P) W a2 vs hsrc
 have hstore:=run_storeCells_at (P:=P) b o t vs 0 cur W hg (by omega) h1
 rw[hn]at hload
 have hw:(Qv cur.toList o vs).toArray=(cur.toList.take (o+0)++vs++cur.toList.drop (o+0+vs.length)).toArray:=by unfold Qv;rfl
 simp[Builtin.copy_,run_underlying hT,Builtin.lenOf,Builtin.firstCells,hsz,hm,hload,Result.andThen]
 rw[hstore,hw]
theorem QjF(w:World)(tS tR e:TypeId)(ht:P.underlying tS=some (.slice e))(size:Nat)(hz:∀w,(Go.sizeOf e).run P w=.ok size w)(a b:Addr)(la ca lb cb:Nat)(hne:a.block≠b.block){csA cs:Array Value}{tA t:TypeId}{fA:Nat×Nat}(ha:w.heap[a.block]?=some (.cells csA tA fA))(hb:w.heap[b.block]?=some (.cells cs t (0,0)))(hk:cs.size≠0)(hkA:csA.size≠0):
  (Extern.SlicesOverlaps.overlaps #[tS,tS] #[tR] #[.slice (some a) la ca,.slice (some b) lb cb]).run P w=.ok (.bool false) w:=by
 have hnb:(a.block != b.block)=true:=by simpa using hne
 have hnb':(a.block == b.block)=false:=by simpa using hne
 have hsa:w.shape? a.block=some (tA,csA.size):=by simp[World.shape?,ha]
 have hsb:w.shape? b.block=some (t,cs.size):=by simp[World.shape?,hb]
 have hfb:∀o s,w.frozen? { block:=b.block,off:=o,spot:=s }=false:=fun o s=>by simp[World.frozen?,hb]
 have hfb':w.frozen? b=false:=by simp[World.frozen?,hb]
 obtain⟨f1,hf1⟩:∃f1,w.frozen? a=f1:=⟨_,rfl⟩
 obtain⟨f2,hf2⟩:∃f2,w.frozen? { block:=a.block,off:=csA.size }=f2:=⟨_,rfl⟩
 change Sem.run P (α:=Value) (do
  let some t:=(#[tS,tS]:Array TypeId)[0]?|stuck "slices.overlaps: no parameter types"
  let .slice elem ←underlying t|stuck "slices.overlaps: slice type expected"
  let size ←sizeOf elem
  match (some a:Option Addr),(some b:Option Addr)with
  |some a,some b=>
   if la=0∨lb=0∨size=0 then pure (Value.bool false)
   else if a.block != b.block && (←frozen a) && (←frozen b)then unsupported .addressObserved
   else do
    if a.block != b.block then do
     noView a;noView b
     if ←mayBeOne a b then return Value.bool ((←choose (.extern "sameAddr.stringBytes" 2)) == 1)
    pure (Value.bool (a.block == b.block && a.off<b.off+lb*size && b.off<a.off+la*size))
  |_,_=>pure (Value.bool false)) w=_
 by_cases h0:la=0∨lb=0∨size=0
 ·simp[run_underlying ht,hz,h0]
 ·obtain⟨kB,hkB⟩:∃kB,cs.size=kB+1:=⟨cs.size - 1,by omega⟩
  rw[hkB]at hsb
  obtain⟨kA,hkA'⟩:∃kA,csA.size=kA+1:=⟨csA.size - 1,by omega⟩
  rw[hkA']at hsa hf2
  cases f1<;>cases f2<;>
   simp[run_underlying ht,hz,h0,hnb,hnb',frozen,noView,viewAt,mayBeOne,stringish,shape,Sem.run,hsa,hsb,hfb,hfb',hf1,hf2]
end
theorem Qkv{α:Type}{l vs:List α}{k:Nat}(h:k≤l.length):(Qv l k vs).take (k+vs.length)=l.take k++vs:=by
 unfold Qv
 rw[List.take_append_of_le_length (by simp;omega)]
 exact List.take_of_length_le (by simp;omega)
set_option maxHeartbeats 4000000 in
theorem QrT(b n c i vb voff vc:Nat)(cs csv:Array Value)(t tv:TypeId)(fv:Nat×Nat)(v:List Value)(w:World)(hi:i<n)(hroom:n+1≤c)(hbig:n≤10000000)(hvb:vb≠b)(hb:w.heap[b]?=some (.cells cs t (0,0)))(hsz:cs.size=c*14)(hv:v.length=14)(hvw:w.heap[vb]?=some (.cells csv tv fv))(hvz:csv.size≠0)(hvs:∀j x,v[j]?=some x→w.cell? ⟨vb,voff+j,none⟩=some x)(h1c:∀x∈(cs.toList.drop (i*14)).take ((n - i)*14),x.oneCell'=true)(h1v:∀x∈v,x.oneCell'=true):
  Calls Tryz.prog 158 #[.slice (some ⟨b,0,none⟩) n c,.int .i64 i,.slice (some ⟨vb,voff,none⟩) 1 vc] w fun e w'=>
   e=.returned (.slice (some ⟨b,0,none⟩) (n+1) c)∧w'=(w.drew.setRow b (Qv cs.toList ((i+1)*14) ((cs.toList.drop (i*14)).take ((n - i)*14))).toArray).setRow b (Qv (Qv cs.toList ((i+1)*14) ((cs.toList.drop (i*14)).take ((n - i)*14))) (i*14) v).toArray:=by
 have hmix:Tryz.prog.follows .mixedOrders=true:=by kernel_rfl
 have hT:Tryz.prog.underlying 37=some (.slice 71):=by kernel_rfl
 have hz:Zw Tryz.prog 71=some 14:=by kernel_rfl
 have hsize:∀w,(Go.sizeOf 71).run Tryz.prog w=.ok 14 w:=fun w=>AM.run_sizeOf hz w
 have hle:(n+1)*14≤cs.size:=by rw[hsz];exact Nat.mul_le_mul_right 14 hroom
 obtain⟨vs,hvs1⟩:∃vs,(cs.toList.drop (i*14)).take ((n - i)*14)=vs:=⟨_,rfl⟩
 have hvl:vs.length=(n - i)*14:=by rw[←hvs1];simp;omega
 obtain⟨A1,hA1⟩:∃A1,(Qv cs.toList ((i+1)*14) vs).toArray=A1:=⟨_,rfl⟩
 have hA1s:A1.size=cs.size:=by rw[←hA1];simp[Qv,hvl];omega
 rw[hvs1]at h1c ⊢
 have hA1l:Qv cs.toList ((i+1)*14) vs=A1.toList:=by rw[←hA1]
 rw[hA1l,Array.toArray_toList]
 have hov:∀o lb cb,(callFunc 227 #[.slice (some ⟨vb,voff,none⟩) 1 vc,.slice (some ⟨b,o,none⟩) lb cb]).run Tryz.prog w=.ok (.value (.bool false)) w:=fun o lb cb=>by
  rw[run_callFunc_extern Tryz.func227 (by kernel_rfl) (by kernel_rfl) (by kernel_rfl) (e:=Extern.SlicesOverlaps.overlaps #[37,37] #[4]) (by kernel_rfl),QjF w 37 4 71 hT 14 hsize ⟨vb,voff,none⟩ ⟨b,o,none⟩ 1 vc lb cb hvb hvw hb (by omega) hvz]
  rfl
 have hold:∀q,w.cell? ⟨b,q,none⟩=cs.toList[q]?:=fun q=>by simp[World.cell?,hb]
 have hcp1:∀ty c1 c2,(Builtin.copy_ #[37,37] ty #[.slice (some ⟨b,(i+1)*14,none⟩) (n - i) c1,.slice (some ⟨b,i*14,none⟩) (n+1 - i) c2]).run Tryz.prog w.drew=.ok (goInt ((n - i:Nat):Int)) (w.drew.setRow b A1):=fun ty c1 c2=>by
  rw[←hA1]
  exact Qhr w.drew 37 71 ty 14 hT hz b _ (n - i) c1 ⟨b,i*14,none⟩ (n+1 - i) c2 (n - i) cs t vs hb (Nat.min_eq_right (by omega)) hvl (fun j x hj=>by
   have hj':j<(n - i)*14:=by rw[←hvl];exact(List.getElem?_eq_some_iff.1 hj).1
   rw[Addr.add_lit]
   rw[←hvs1,List.getElem?_take,if_pos hj',List.getElem?_drop]at hj
   exact(hold _).trans hj) (by rw[hvl];omega) h1c
 have hcp2:∀(W:World),W.heap=(w.drew.setRow b A1).heap→∀ty c1,(Builtin.copy_ #[37,37] ty #[.slice (some ⟨b,i*14,none⟩) (n+1 - i) c1,.slice (some ⟨vb,voff,none⟩) 1 vc]).run Tryz.prog W=.ok (goInt ((1:Nat):Int)) (W.setRow b (Qv A1.toList (i*14) v).toArray):=fun W hW ty c1=>by
  have hWb:W.heap[b]?=some (.cells A1 t (0,0)):=by rw[hW];exact setRow_heap w.drew b cs A1 t (0,0) hb
  exact Qhr W 37 71 ty 14 hT hz b _ (n+1 - i) c1 ⟨vb,voff,none⟩ 1 vc 1 A1 t v hWb (Nat.min_eq_left (by omega)) (by rw[hv]) (fun j x hj=>by
   rw[Addr.add_lit]
   have:=hvs j x hj
   unfold World.cell? at this ⊢
   dsimp only at this ⊢
   rw[hW,setRow_other w.drew b vb A1 hvb]
   exact this) (by rw[hv,hA1s];omega) h1v
 have hcp3:=hcp2 (w.drew.setRow b A1).drew rfl
 have hcp4:=hcp2 (w.drew.setRow b A1) rfl
 have hz2:¬((i:Int)=(n:Int)):=by omega
 have hw1:IntKind.i64.wrap ((i:Int)+1)=(i:Int)+1:=by rw[IntKind.wrap_i64];omega
 have hw2:IntKind.i64.wrap ((n:Int)+1)=(n:Int)+1:=by rw[IntKind.wrap_i64];omega
 have hb1:(0:Int)≤(i:Int)+1:=by omega
 have hin:i≤n:=by omega
 have htn:((i:Int)+1).toNat=i+1:=by omega
 have htn2:((n:Int)+1).toNat=n+1:=by omega
 have hb2:¬(c=i+1):=by omega
 have hb3:(i:Int)≤(n:Int)+1:=by omega
 have hb4:¬(c=i):=by omega
 go_enter Tryz.func158,Tryz.ntmps158
 go_wp2_with (simp only[hov])
 go_region_law_o (refine step_copy_runI rfl _ _ 37 37 rfl _ _ (by simp[Act.eval,Act.put]) (by simp[Act.eval,Act.put]) (hcp1 _ _ _) ?_)
 go_wp2
 go_ret
 first|exact⟨rfl,rfl⟩|exact⟨rfl,by rw[Array.toArray_toList]⟩
set_option maxHeartbeats 4000000 in
theorem QtS(b n c i vb voff vc:Nat)(cs csv:Array Value)(t tv:TypeId)(fv:Nat×Nat)(v:List Value)(w:World)(hi:i<n)(hnc:n≤c)(hroom:c<n+1)(hbig:n≤10000000)(hb:w.heap[b]?=some (.cells cs t (0,0)))(hsz:cs.size=c*14)(hv:v.length=14)(hvw:w.heap[vb]?=some (.cells csv tv fv))(hvs:∀j x,v[j]?=some x→w.cell? ⟨vb,voff+j,none⟩=some x)(h1c:∀x∈(cs.toList.drop (i*14)).take ((n - i)*14),x.oneCell'=true)(h1v:∀x∈v,x.oneCell'=true):
  Calls Tryz.prog 158 #[.slice (some ⟨b,0,none⟩) n c,.int .i64 i,.slice (some ⟨vb,voff,none⟩) 1 vc] w fun e w'=>
   ∃(G:Nat) (A:Array Value),e=.returned (.slice (some ⟨w.heap.size,0,none⟩) (n+1) G)∧n+1≤G∧A.size=G*14∧A.toList.take ((n+1)*14)=cs.toList.take (i*14)++v++(cs.toList.drop (i*14)).take ((n - i)*14)∧
    w'.heap[w.heap.size]?=some (.cells A 71 (0,0))∧Ext (fun _=>False) w w':=by
 have hmix:Tryz.prog.follows .mixedOrders=true:=by kernel_rfl
 have hT:Tryz.prog.underlying 37=some (.slice 71):=by kernel_rfl
 have hT3:Tryz.prog.underlying 3=some (.int .i64):=by kernel_rfl
 have hz:Zw Tryz.prog 71=some 14:=by kernel_rfl
 obtain⟨i0,z,hi0,hz0,hzs,hzb,hzc⟩:=QeH (P:=Tryz.prog) (e:=71) (es:=14) (bytes:=160) (by kernel_rfl)
 have hbw:b<w.heap.size:=(Array.getElem?_eq_some_iff.1 hb).1
 have hvw':vb<w.heap.size:=(Array.getElem?_eq_some_iff.1 hvw).1
 have hle:n*14≤cs.size:=by rw[hsz];exact Nat.mul_le_mul_right 14 hnc
 have hold:∀q,w.cell? ⟨b,q,none⟩=cs.toList[q]?:=fun q=>by simp[World.cell?,hb]
 obtain⟨vs,hvs1⟩:∃vs,(cs.toList.drop (i*14)).take ((n - i)*14)=vs:=⟨_,rfl⟩
 have hvl:vs.length=(n - i)*14:=by rw[←hvs1];simp;omega
 rw[hvs1]at h1c ⊢
 have hold0:(Builtin.firstCells i0.size i (.slice (some ⟨b,0,none⟩) i c)).run Tryz.prog w.drew=.ok (cs.toList.take (i*14)).toArray w.drew:=by
  rw[hzs]
  exact run_firstCells_some w.drew 14 i ⟨b,0,none⟩ i c (cs.toList.take (i*14)) (by rw[List.length_take];simp;omega) (fun j x hj=>by
   rw[Addr.add_lit,Nat.zero_add]
   rw[List.getElem?_take]at hj
   split at hj
   ·exact(hold _).trans hj
   ·cases hj)
 obtain⟨G,hG⟩:∃G,G=grownCap w (n+1) c 71:=⟨_,rfl⟩
 obtain⟨ROW,hROW⟩:∃ROW:Array Value,ROW=(cs.toList.take (i*14)).toArray++Builtin.zeroCells z.cells (n+1 - i)++Builtin.zeroCells z.cells (G - (n+1)):=⟨_,rfl⟩
 have hGn:n+1≤G:=by rw[hG];exact grownCap_ge w _ _ _
 have hG63:G≤9223372036854775807:=by
  have:=grownCap_le_maxLen w (n+1) c 71 (by unfold maxLen;omega)
  rw[←hG]at this
  unfold maxLen at this
  omega
 have hik:i+(n+1 - i)=n+1:=by omega
 have hrz:∀ty,(Builtin.append_ #[37,3] ty #[.slice (some ⟨b,0,none⟩) i c,.int .i64 ((n:Int)+1 - (i:Int))]).run Tryz.prog w =
   .ok (.slice (some ⟨w.heap.size,0,none⟩) (n+1) G) (w.drew.alloc (.cells ROW 71)):=fun ty=>by
  have h:=Lib.run_append_grow_zeros w 37 3 ty 71 i0 _ .i64 .i64 hT hT3 hi0 hz0 (some ⟨b,0,none⟩) i c (cs.toList.take (i*14)) hold0 (n+1 - i) (by omega) (by omega) (by omega) (by omega) (by rw[hzb];omega) (by rw[hzb,hik];exact growslice_fits hroom (by omega))
  rw[hik,←hG,←hROW]at h
  rw[show(n:Int)+1 - (i:Int)=((n+1 - i:Nat):Int)by omega]
  exact h
 have hRs:ROW.size=G*14:=by
  rw[hROW]
  simp only[Array.size_append,Qay,hzc,List.size_toArray,List.length_take,Array.length_toList]
  omega
 have hNb:(w.drew.alloc (.cells ROW 71)).heap[w.heap.size]?=some (.cells ROW 71 (0,0)):=YA w.drew _
 have hOth:∀k,k<w.heap.size→(w.drew.alloc (.cells ROW 71)).heap[k]?=w.heap[k]?:=fun k hk=>Below.heap_alloc w.drew _ k hk
 obtain⟨A1,hA1⟩:∃A1,(Qv ROW.toList (i*14) v).toArray=A1:=⟨_,rfl⟩
 have hA1s:A1.size=ROW.size:=by rw[←hA1];simp[Qv,hv];omega
 obtain⟨A2,hA2⟩:∃A2,(Qv A1.toList ((i+1)*14) vs).toArray=A2:=⟨_,rfl⟩
 have hA2s:A2.size=ROW.size:=by rw[←hA2,←hA1s];simp[Qv,hvl];omega
 have hfin:A2.toList.take ((n+1)*14)=cs.toList.take (i*14)++v++vs:=by
  have e1:A1.toList.take ((i+1)*14)=cs.toList.take (i*14)++v:=by
   rw[←hA1,show(i+1)*14=i*14+v.length by omega,List.toList_toArray,Qkv (by simp;omega),hROW]
   congr 1
   simp only[Array.toList_append,List.toList_toArray,List.append_assoc]
   rw[List.take_append_of_le_length (by simp;omega),List.take_take,Nat.min_self]
  rw[←hA2,show(n+1)*14=(i+1)*14+vs.length by omega,List.toList_toArray,Qkv (by simp;omega),e1]
 have hcpA:∀(W:World),W.heap=(w.drew.alloc (.cells ROW 71)).heap→∀ty c1,(Builtin.copy_ #[37,37] ty #[.slice (some ⟨w.heap.size,i*14,none⟩) (n+1 - i) c1,.slice (some ⟨vb,voff,none⟩) 1 vc]).run Tryz.prog W=.ok (goInt ((1:Nat):Int)) (W.setRow w.heap.size A1):=fun W hW ty c1=>by
  rw[←hA1]
  exact Qhr W 37 71 ty 14 hT hz _ _ (n+1 - i) c1 ⟨vb,voff,none⟩ 1 vc 1 ROW 71 v (by rw[hW];exact hNb) (Nat.min_eq_left (by omega)) (by rw[hv]) (fun j x hj=>by
   rw[Addr.add_lit]
   have:=hvs j x hj
   unfold World.cell? at this ⊢
   dsimp only at this ⊢
   rw[hW,hOth vb hvw']
   exact this) (by rw[hv];omega) h1v
 have hcpB:∀(W:World),W.heap=((w.drew.alloc (.cells ROW 71)).setRow w.heap.size A1).heap→∀ty c1 c2,(Builtin.copy_ #[37,37] ty #[.slice (some ⟨w.heap.size,(i+1)*14,none⟩) (n - i) c1,.slice (some ⟨b,i*14,none⟩) (n - i) c2]).run Tryz.prog W=.ok (goInt ((n - i:Nat):Int)) (W.setRow w.heap.size A2):=fun W hW ty c1 c2=>by
  rw[←hA2]
  exact Qhr W 37 71 ty 14 hT hz _ _ (n - i) c1 ⟨b,i*14,none⟩ (n - i) c2 (n - i) A1 71 vs (by rw[hW];exact setRow_heap _ _ ROW A1 71 (0,0) hNb) (Nat.min_self _) hvl (fun j x hj=>by
   have hj':j<(n - i)*14:=by rw[←hvl];exact(List.getElem?_eq_some_iff.1 hj).1
   rw[Addr.add_lit]
   rw[←hvs1,List.getElem?_take,if_pos hj',List.getElem?_drop]at hj
   have:=(hold (i*14+j)).trans hj
   unfold World.cell? at this ⊢
   dsimp only at this ⊢
   rw[hW,setRow_other _ _ _ A1 (by omega),hOth b hbw]
   exact this) (by rw[hvl];omega) h1c
 have hz2:¬((i:Int)=(n:Int)):=by omega
 have hz3:(c:Int)<(n:Int)+1:=by omega
 have hw1:IntKind.i64.wrap ((i:Int)+1)=(i:Int)+1:=by rw[IntKind.wrap_i64];omega
 have hw2:IntKind.i64.wrap ((n:Int)+1)=(n:Int)+1:=by rw[IntKind.wrap_i64];omega
 have hw3:IntKind.i64.wrap ((n:Int)+1 - (i:Int))=(n:Int)+1 - (i:Int):=by rw[IntKind.wrap_i64];omega
 have hb1:(0:Int)≤(i:Int)+1:=by omega
 have hin:i≤n:=by omega
 have htn:((i:Int)+1).toNat=i+1:=by omega
 have hb3:(i:Int)≤(n:Int)+1:=by omega
 have hb4:¬(c=i):=by omega
 have hGi:¬(G=i):=by omega
 have hGim:¬(G=i+1):=by omega
 have hcpA1:=hcpA (w.drew.alloc (.cells ROW 71)) rfl
 have hcpA2:=hcpA ((w.alloc (.cells ROW 71)).drew) rfl
 have hcpB1:=hcpB (((w.alloc (.cells ROW 71)).drew.setRow w.heap.size A1).drew) rfl
 clear hG hROW hold0 hik hA1 hA2
 go_enter Tryz.func158,Tryz.ntmps158
 go_wp2_with (at_builtin;refine Lib.wpList_append_run _ rfl _ _ _ _ rfl _ _ rfl rfl _ _ (hrz _) ?_)
 go_region_law_o (refine step_copy_runI rfl _ _ 37 37 rfl _ _ (by simp[Act.eval,Act.put]) (by simp[Act.eval,Act.put]) (hcpB _ rfl _ _ _) ?_)
 go_wp2
 go_ret
 refine⟨G,A2,rfl,hGn,by rw[hA2s,hRs],hfin,?_,?_⟩
 ·exact setRow_heap _ _ A1 A2 71 (0,0) (setRow_heap _ _ ROW A1 71 (0,0) hNb)
 ·refine⟨by simp[World.setRow],fun k hk _=>?_,rfl,rfl⟩
  exact(setRow_other _ _ _ A2 (by omega)).trans ((setRow_other _ _ _ A1 (by omega)).trans (hOth k hk))
theorem QtU{rows:List (List PV)}{row:List PV}{i:Nat}{ρ:Name→AM.Loc}{H:Heap}{M:Nat→Prop}{w:World}{cr:List (List Value)}{c:List Value}(h:RR ρ H M w rows cr)(h2:AV.Rs ρ H M w (pcells row) c):
  RR ρ H M w (rows.take i++row::rows.drop i) (cr.take i++c::cr.drop i):=by
 have htake:∀{rows:List (List PV)} {cr:List (List Value)} (i:Nat),RR ρ H M w rows cr→RR ρ H M w (rows.take i) (cr.take i)∧RR ρ H M w (rows.drop i) (cr.drop i):=by
  intro rows
  induction rows with
  |nil=>intro cr i h;simp only[RR]at h;subst h;simp[RR]
  |cons r rs ih=>
   intro cr i h
   cases i with
   |zero=>exact⟨by simp[RR],by simpa using h⟩
   |succ i=>
    simp only[RR]at h
    obtain⟨c0,cr',rfl,g1,g2⟩:=h
    obtain⟨k1,k2⟩:=ih i g2
    simp only[List.take_succ_cons,List.drop_succ_cons,RR]
    exact⟨⟨c0,_,rfl,g1,k1⟩,k2⟩
 obtain⟨k1,k2⟩:=htake i h
 refine k1.append ?_
 simp only[RR]
 exact⟨c,_,rfl,h2,k2⟩
theorem QtV{rows:List (List PV)}{row:List PV}{i:Nat}(f:Bool)(hi:i<rows.length)(hl:rows.length≤10000000)(hrow:row.length=14):
  XE Tryz.prog 158 [.own 101 rows.length,.p (.v (.int .i64 i)),.p (.sl f 14 [row])] [(101,.arr 14 rows)] (.own 101 (rows.length+1)) [(101,.arr 14 (rows.take i++row::rows.drop i))]:=by
 intro G ρ M w us hG hM hargs hobj hinj
 simp only[AV.Ts]at hargs
 obtain⟨u0,_,rfl,a0,u1,_,rfl,a1,u2,_,rfl,a2,rfl⟩:=hargs
 simp only[AV.R,PV.R]at a0 a1 a2
 have hob:=hobj 101 _ (show AM.look 101 [(101,AO.arr 14 rows)]=some (.arr 14 rows)from rfl)
 have hu0:=(a0.2 (.arr 14 rows) 14 rows.length rfl rfl).2 rfl
 obtain⟨hes,hcap,hobj'⟩:=hob
 obtain⟨ad,vc,rfl,hvc,_,hnone,hsome⟩:=a2
 have hvc':1≤vc:=by simpa using hvc
 cases ad with
 |none=>exact absurd (hnone rfl) (by omega)
 |some ad=>
 obtain⟨hspot,hMad,hadw,hrows⟩:=hsome ad rfl (by omega)
 obtain⟨vb,voff,sp⟩:=ad
 dsimp only at hspot hMad hadw hrows
 subst hspot
 rcases hobj' with h0|⟨b,T,cs,h3,h4,h5,h6,h7⟩
 ·exact absurd hcap (by rw[h0];omega)
 simp only[PV.Rows]at hrows
 obtain⟨_,hcells,_⟩:=hrows
 obtain⟨cv,cv1,cv2⟩:=Qad (ρ:=ρ) (H:=Xh [(101,AO.arr 14 rows)]) hcells
 obtain⟨cr,m1,m2,m3⟩:=RR.of_Rows (ρ:=ρ) (H:=Xh [(101,AO.arr 14 rows)]) h7
 have hcvl:cv.length=14:=by rw[cv1.length];simp[pcells,hrow]
 have hcrl:=m1.length
 have hlen:=m1.len m2
 have hflat:cr.flatten.length=rows.length*14:=by rw[WI hlen,hcrl]
 have hcsl:rows.length*14≤cs.size:=by rw[h6];exact Nat.mul_le_mul_right 14 hcap
 have hcs:cs.toList.take (rows.length*14)=cr.flatten:=by
  refine List.ext_getElem? fun j=>?_
  rw[List.getElem?_take]
  split
  ·rename_i hj
   have:=m3 j (cr.flatten[j]'(by omega)) (List.getElem?_eq_getElem (by omega))
   rw[Nat.zero_add]at this
   rw[List.getElem?_eq_getElem (l:=cr.flatten) (by omega),←this]
   simp[World.cell?,h5]
  ·rw[List.getElem?_eq_none (by omega)]
 have hmid:(cs.toList.drop (i*14)).take ((rows.length - i)*14)=(cr.drop i).flatten:=by
  rw[←Qfu i hlen,←hcs,List.drop_take,Nat.sub_mul]
 have hpre:cs.toList.take (i*14)=(cr.take i).flatten:=by
  rw[←Qit i hlen,←hcs,List.take_take,Nat.min_eq_left (Nat.mul_le_mul_right 14 (by omega))]
 have hvb:vb≠b:=fun e=>hMad (by rw[e];exact h4)
 have hvblk:∃csv tv fv,w.heap[vb]?=some (.cells csv tv fv)∧csv.size≠0:=by
  have hc:=cv2 0 (cv[0]'(by omega)) (List.getElem?_eq_getElem (by omega))
  simp only[World.cell?]at hc
  split at hc
  ·rename_i csv tv fv hh
   refine⟨csv,tv,fv,hh,fun e=>?_⟩
   have:csv=#[]:=Array.eq_empty_of_size_eq_zero e
   subst this;simp at hc
  all_goals simp at hc
 obtain⟨csv,tv,fv,hvw,hvz⟩:=hvblk
 have h1c:∀x∈(cs.toList.drop (i*14)).take ((rows.length - i)*14),x.oneCell'=true:=by
  rw[hmid]
  intro x hx
  refine m1.one x ?_
  rw[←List.take_append_drop i cr,List.flatten_append]
  exact List.mem_append_right _ hx
 have h1v:∀x∈cv,x.oneCell'=true:=QjX cv1
 have hfl2:(cr.take i++cv::cr.drop i).flatten=(cr.take i).flatten++cv++(cr.drop i).flatten:=by simp
 have hrl:(rows.take i++row::rows.drop i).length=rows.length+1:=by simp;omega
 have hr14:∀r∈rows.take i++row::rows.drop i,r.length=14:=by
  intro r hr
  rcases List.mem_append.1 hr with hr|hr
  ·exact m2 r (List.mem_of_mem_take hr)
  ·rcases List.mem_cons.1 hr with rfl|hr
   ·exact hrow
   ·exact m2 r (List.mem_of_mem_drop hr)
 have hall:=QtU (i:=i) m1 cv1
 have hfl3:(cr.take i++cv::cr.drop i).flatten.length=(rows.length+1)*14:=by rw[WI (hall.len hr14),hall.length,hrl]
 rw[hu0,h3,a1.1]
 have hblk:(ρ 101).blk=some b:=by
  have:(ρ 101).cap≠0:=by omega
  simp[Loc.blk,this,h3]
 have hown:∀(n:Name) (o:AO),AM.look n [(101,AO.arr 14 (rows.take i++row::rows.drop i))]=some o→n=101∧o=.arr 14 (rows.take i++row::rows.drop i):=fun n o hn=>by
  simp only[AM.look]at hn
  split at hn
  ·rename_i e;cases hn;exact⟨e.symm,rfl⟩
  ·simp at hn
 have fin:∀(ρ':Name→AM.Loc) (w':World) (u:Value) (b':Nat) (T':TypeId) (A:Array Value),(ρ' 101).base=some ⟨b',0,none⟩→rows.length+1≤(ρ' 101).cap→A.size=(ρ' 101).cap*14→w'.heap[b']?=some (.cells A T' (0,0))→
   A.toList.take ((rows.length+1)*14)=(cr.take i++cv::cr.drop i).flatten→(∀b1,b1<w.heap.size→newM M ρ' [(101,AO.arr 14 (rows.take i++row::rows.drop i))] b1→M b1)→Ext (fun b1=>b1=b) w w'→
   ((ρ' 101).blk=some b→(ρ 101).blk=some b∨w.heap.size≤b)→(∀b1,(ρ' 101).blk=some b1→b1=b∨w.heap.size≤b1)→u=.slice (ρ' 101).base (rows.length+1) (ρ' 101).cap→
   After ρ M w [(101,AO.arr 14 rows)] u (.own 101 (rows.length+1)) [(101,AO.arr 14 (rows.take i++row::rows.drop i))] ρ' w':=fun ρ' w' u b' T' A e1 e2 e3 e4 e5 e6 e7 _ e9 e10=>by
  have hst:=hall.step (ρ':=ρ') (H':=Xh [(101,AO.arr 14 (rows.take i++row::rows.drop i))]) (M':=newM M ρ' [(101,AO.arr 14 (rows.take i++row::rows.drop i))]) e7 (fun b1 hb1=>by rw[hb1];exact h4) e6
  refine⟨?_,?_,?_,?_,?_,?_⟩
  ·simp only[AV.R]
   refine⟨by rw[e10];rfl,fun o es k hn hs=>?_⟩
   obtain⟨_,rfl⟩:=hown _ _ hn
   cases hs
   exact⟨by omega,fun _=>e10⟩
  ·intro n o hn
   obtain⟨rfl,rfl⟩:=hown _ _ hn
   refine⟨by omega,by rw[hrl];exact e2,.inr ⟨b',T',A,e1,.inr ⟨101,_,rfl,?_⟩,e4,e3,?_⟩⟩
   ·have:(ρ' 101).cap≠0:=by omega
    simp[Loc.blk,this,e1]
   ·refine Qbl hst hr14 fun j x hj=>?_
    have hj':j<(rows.length+1)*14:=by rw[←hfl3];exact(List.getElem?_eq_some_iff.1 hj).1
    rw[←e5,List.getElem?_take,if_pos hj']at hj
    simpa [World.cell?,e4]using hj
  ·intro n m o o' b1 hn hm _ _
   rw[(hown _ _ hn).1,(hown _ _ hm).1]
  ·intro n o b1 hn hb1
   obtain⟨rfl,rfl⟩:=hown _ _ hn
   rcases e9 b1 hb1 with rfl|h
   ·exact .inl ⟨_,rfl,hblk⟩
   ·exact .inr h
  ·exact e7.weaken fun b1 _ hb1=>⟨101,_,rfl,by rw[hb1];exact hblk⟩
  ·intro n o hn
   have hn':n=101∧o=.arr 14 rows:=by
    simp only[AM.look]at hn
    split at hn
    ·rename_i e;cases hn;exact⟨e.symm,rfl⟩
    ·simp at hn
   obtain⟨rfl,rfl⟩:=hn'
   exact⟨_,rfl,rfl,by rw[hrl];omega,fun e=>by rw[hrl]at e;omega⟩
 by_cases hroom:rows.length+1≤(ρ 101).cap
 ·refine(QrT b rows.length (ρ 101).cap i vb voff vc cs csv T tv fv cv w hi hroom hl hvb h5 h6 hcvl hvw hvz cv2 h1c h1v).mono ?_
  rintro e w' ⟨rfl,rfl⟩
  rw[hmid]
  have hml:(cr.drop i).flatten.length=(rows.length - i)*14:=by rw[WI fun r hr=>hlen r (List.mem_of_mem_drop hr),List.length_drop,hcrl]
  have hs1:(Qv cs.toList ((i+1)*14) (cr.drop i).flatten).toArray.size=cs.size:=by simp[Qv,hml];omega
  have hb1:=setRow_heap w.drew b cs (Qv cs.toList ((i+1)*14) (cr.drop i).flatten).toArray T (0,0) h5
  have hb2:=setRow_heap _ b _ (Qv (Qv cs.toList ((i+1)*14) (cr.drop i).flatten) (i*14) cv).toArray T (0,0) hb1
  refine⟨_,_,_,ρ,rfl,⟨rfl,rfl⟩,fin ρ _ _ b T _ h3 hroom ?_ hb2 ?_ ?_ ?_ (fun h=>.inl h) (fun b1 h=>.inl (by rw[hblk]at h;exact(Option.some.inj h).symm)) (by rw[h3])⟩
  ·rw[←h6];simp[Qv,hml,hcvl];omega
  ·rw[List.toList_toArray,hfl2]
   have e1:(Qv cs.toList ((i+1)*14) (cr.drop i).flatten).take (i*14)=(cr.take i).flatten:=by
    unfold Qv
    rw[List.append_assoc,List.take_append_of_le_length (by simp;omega),List.take_take,Nat.min_eq_left (by omega),hpre]
   have e2:(Qv cs.toList ((i+1)*14) (cr.drop i).flatten).drop (i*14+cv.length)=(cr.drop i).flatten++cs.toList.drop ((i+1)*14+(cr.drop i).flatten.length):=by
    unfold Qv
    rw[List.append_assoc,show i*14+cv.length=(cs.toList.take ((i+1)*14)).length by simp;omega,List.drop_left]
   show(List.take (i*14) _++cv++List.drop (i*14+cv.length) _).take _=_
   rw[e1,e2,←List.append_assoc,List.take_append_of_le_length (by simp only[List.length_append,hml,hcvl];rw[←hpre];simp;omega),List.take_of_length_le (by simp only[List.length_append,hml,hcvl];rw[←hpre];simp;omega)]
  ·rintro b1 _ (h|⟨n,o,hn,h⟩)
   ·exact h
   ·obtain⟨rfl,_⟩:=hown _ _ hn
    rw[hblk]at h
    rw[←Option.some.inj h];exact h4
  ·refine⟨by simp[World.setRow],fun b1 _ hne=>?_,rfl,rfl⟩
   exact(setRow_other _ b b1 _ hne).trans (setRow_other _ b b1 _ hne)
 ·refine(QtS b rows.length (ρ 101).cap i vb voff vc cs csv T tv fv cv w hi hcap (by omega) hl h5 h6 hcvl hvw cv2 h1c h1v).mono ?_
  rintro e w' ⟨G',A,rfl,g1,g2,g3,g4,g5⟩
  have hcap':(G':Nat)≠0:=by omega
  refine⟨_,_,_,(fun m=>if m=101 then⟨some ⟨w.heap.size,0,none⟩,G'⟩else ρ m),rfl,⟨rfl,rfl⟩,fin _ _ _ w.heap.size 71 A rfl g1 g2 g4 ?_ ?_ ?_ ?_ ?_ rfl⟩
  ·rw[g3,hfl2,hpre,hmid]
  ·rintro b1 hb1 (h|⟨n,o,hn,h⟩)
   ·exact h
   ·obtain⟨rfl,_⟩:=hown _ _ hn
    have:w.heap.size=b1:=by simpa [Loc.blk,hcap']using h
    omega
  ·exact g5.weaken fun b1 _ h=>h.elim
  ·intro h
   have:w.heap.size=b:=by simpa [Loc.blk,hcap']using h
   exact .inr (by omega)
  ·intro b1 h
   have:w.heap.size=b1:=by simpa [Loc.blk,hcap']using h
   exact .inr (by omega)
noncomputable section
def QB(fu:Nat)(p0:List D.Page)(p1:Int)(p2:List D.Page):Option (List D.Page):=
 if p1=(p0.length:Int)then Xd fu p0 p1 p2 else natc p1 fun i=>ltc i p0.length (lec p0.length 10000000 (match p2 with|[x]=>some (p0.take i++x::p0.drop i)|_=>none))
def Qcr(fu:Nat):Sig:=Qf [.one (.own 101),.one (.num .i64),.one (.lst .Page)] [(101,.arr .Page)] [.one (.own 101)] [(101,.arr .Page)] [] (List D.Page) (fun q=>((),(q,()))) (fun x y=>QB fu y.1 x.1 x.2.1)
theorem QbO(fu:Nat):FnOK Tryz.prog 158 (Qcr fu):=by
 refine⟨fun R x y K r h=>?_,fun x y a b h L0 hL0=>?_⟩
 ·obtain⟨q,hq,h⟩:=Ye h
  obtain⟨h',hle⟩:=Qan h
  refine⟨_,_,?_,h'⟩
  show optc (QB fu y.1 x.1 x.2.1) _=_
  rw[show QB fu y.1 x.1 x.2.1=some q from hq]
  exact QaS h
 ·obtain⟨j,vl,⟨⟩⟩:=x
  obtain⟨l,⟨⟩⟩:=y
  change List D.Page at l
  change List D.Page at vl
  change Int at j
  by_cases hj:j=(l.length:Int)
  ·refine(Qcq fu).spec (j,vl,()) (l,()) a b ?_ L0 hL0
   have e:QB fu l j vl=Xd fu l j vl:=by unfold QB;rw[if_pos hj]
   have h':(optc (QB fu l j vl) fun q=>lenB [(101,OSh.arr .Page)] (l,()) [(101,OSh.arr .Page)] (q,()) (some ((),(q,()))))=some (a,b):=h
   rw[e]at h'
   exact h'
  ·obtain⟨q,hq,h⟩:=Ye h
   obtain⟨h',_⟩:=Qan h
   obtain⟨rfl,rfl⟩:=Prod.mk.inj (Option.some.inj h')
   replace hq:QB fu l j vl=some q:=hq
   unfold QB at hq
   rw[if_neg hj]at hq
   obtain⟨i,rfl,hq⟩:=Qap hq
   obtain⟨hi,hq⟩:=QfA hq
   obtain⟨hl,hq⟩:=YJ hq
   have hvl:∃x,vl=[x]:=by
    rcases vl with _|⟨x,_|⟨x2,r⟩⟩
    ·exact absurd hq (by simp)
    ·exact⟨x,rfl⟩
    ·exact absurd hq (by simp)
   obtain⟨x,rfl⟩:=hvl
   replace hi:i<l.length:=hi
   replace hq:some (l.take i++x::l.drop i)=some q:=hq
   have hq:=Option.some.inj hq
   have e0:L0 101 0=l.length:=hL0 101 _ _ 0 rfl
   have hlm:(l.map (tcells .Page)).length=l.length:=List.length_map ..
   have hs:=QtV (rows:=l.map (tcells .Page)) (row:=tcells .Page x) (i:=i) false (hlm ▸ hi) (hlm ▸ hl) rfl
   have e1:(l.map (tcells .Page)).take i++tcells .Page x::(l.map (tcells .Page)).drop i=q.map (tcells .Page):=by rw[←hq];simp
   have e2:(l.map (tcells .Page)).length+1=q.length:=by rw[←hq];simp;omega
   rw[e1,e2,hlm,←e0]at hs
   refine⟨fun m u=>if m=101∧u=1 then q.length else L0 m u,fun n hn=>?_,fun n t l' v hn=>?_,?_⟩
   ·show(if n=101∧(0:Nat)=1 then q.length else L0 n 0)=L0 n 0
    rw[if_neg (by simp)]
   ·change AM.look n [(101,BO.arr .Page q 1)]=_ at hn
    simp only[AM.look]at hn
    split at hn
    ·rename_i e;cases hn;exact if_pos ⟨e.symm,rfl⟩
    ·simp at hn
   ·exact hs
end
end Go.Proofs.YtadlpefpehjcoaaGreat
/-
  What functions do, reckoned from their code, and their contracts. Printed by wip/gen/brun.py.
-/
namespace Go.Proofs.YtadlpefpehjcoaaGreat
open Go AM IntKind
noncomputable section
variable (fu:Nat)
def Qc7(fu:Nat)(p0:Int):Option Int:=join (Y:=((Int×Int×Unit)×Unit)) (fun((a0,a1,_),_)=>join (Y:=((Int×Int×Unit)×Unit)) (fun((a2,a3,_),_)=>join (Y:=((Int×Int×Unit)×Unit)) (fun((a4,a5,_),_)=>natc (IntKind.wrap .u8 a4) fun a6=>ltc a6 (ByteArray.size (ByteArray.mk (List.toArray (List.append (List.append (0::(1::(2::(2::(3::(3::(3::(3::(4::(4::(4::(4::(4::(4::(4::(4::(5::(5::(5::(5::(5::(5::(5::(5::(5::(5::(5::(5::(5::(5::(5::(5::(6::(6::(6::(6::(6::(6::(6::(6::(6::(6::(6::(6::(6::(6::(6::(6::(6::(6::(6::(6::(6::(6::(6::(6::(6::(6::(6::(6::(6::(6::(6::(6::[])))))))))))))))))))))))))))))))))))))))))))))))))))))))))))))))) (7::(7::(7::(7::(7::(7::(7::(7::(7::(7::(7::(7::(7::(7::(7::(7::(7::(7::(7::(7::(7::(7::(7::(7::(7::(7::(7::(7::(7::(7::(7::(7::(7::(7::(7::(7::(7::(7::(7::(7::(7::(7::(7::(7::(7::(7::(7::(7::(7::(7::(7::(7::(7::(7::(7::(7::(7::(7::(7::(7::(7::(7::(7::(7::[]))))))))))))))))))))))))))))))))))))))))))))))))))))))))))))))))) (List.append (8::(8::(8::(8::(8::(8::(8::(8::(8::(8::(8::(8::(8::(8::(8::(8::(8::(8::(8::(8::(8::(8::(8::(8::(8::(8::(8::(8::(8::(8::(8::(8::(8::(8::(8::(8::(8::(8::(8::(8::(8::(8::(8::(8::(8::(8::(8::(8::(8::(8::(8::(8::(8::(8::(8::(8::(8::(8::(8::(8::(8::(8::(8::(8::[])))))))))))))))))))))))))))))))))))))))))))))))))))))))))))))))) (8::(8::(8::(8::(8::(8::(8::(8::(8::(8::(8::(8::(8::(8::(8::(8::(8::(8::(8::(8::(8::(8::(8::(8::(8::(8::(8::(8::(8::(8::(8::(8::(8::(8::(8::(8::(8::(8::(8::(8::(8::(8::(8::(8::(8::(8::(8::(8::(8::(8::(8::(8::(8::(8::(8::(8::(8::(8::(8::(8::(8::(8::(8::(8::[]))))))))))))))))))))))))))))))))))))))))))))))))))))))))))))))))))))) (some (wrap .i64 (a5+(wrap .i64 (((bAt (ByteArray.mk (List.toArray (List.append (List.append (0::(1::(2::(2::(3::(3::(3::(3::(4::(4::(4::(4::(4::(4::(4::(4::(5::(5::(5::(5::(5::(5::(5::(5::(5::(5::(5::(5::(5::(5::(5::(5::(6::(6::(6::(6::(6::(6::(6::(6::(6::(6::(6::(6::(6::(6::(6::(6::(6::(6::(6::(6::(6::(6::(6::(6::(6::(6::(6::(6::(6::(6::(6::(6::[])))))))))))))))))))))))))))))))))))))))))))))))))))))))))))))))) (7::(7::(7::(7::(7::(7::(7::(7::(7::(7::(7::(7::(7::(7::(7::(7::(7::(7::(7::(7::(7::(7::(7::(7::(7::(7::(7::(7::(7::(7::(7::(7::(7::(7::(7::(7::(7::(7::(7::(7::(7::(7::(7::(7::(7::(7::(7::(7::(7::(7::(7::(7::(7::(7::(7::(7::(7::(7::(7::(7::(7::(7::(7::(7::[]))))))))))))))))))))))))))))))))))))))))))))))))))))))))))))))))) (List.append (8::(8::(8::(8::(8::(8::(8::(8::(8::(8::(8::(8::(8::(8::(8::(8::(8::(8::(8::(8::(8::(8::(8::(8::(8::(8::(8::(8::(8::(8::(8::(8::(8::(8::(8::(8::(8::(8::(8::(8::(8::(8::(8::(8::(8::(8::(8::(8::(8::(8::(8::(8::(8::(8::(8::(8::(8::(8::(8::(8::(8::(8::(8::(8::[])))))))))))))))))))))))))))))))))))))))))))))))))))))))))))))))) (8::(8::(8::(8::(8::(8::(8::(8::(8::(8::(8::(8::(8::(8::(8::(8::(8::(8::(8::(8::(8::(8::(8::(8::(8::(8::(8::(8::(8::(8::(8::(8::(8::(8::(8::(8::(8::(8::(8::(8::(8::(8::(8::(8::(8::(8::(8::(8::(8::(8::(8::(8::(8::(8::(8::(8::(8::(8::(8::(8::(8::(8::(8::(8::[])))))))))))))))))))))))))))))))))))))))))))))))))))))))))))))))))))) a6):Nat):Int)))))) fun J7=>cd (256≤a2) (natc 8 fun a8=>J7 (((Int.fdiv a2 (HPow.hPow 2 (min a8 (Go.IntKind.bits Go.IntKind.u64)))),(wrap .i64 (a3+8)),()),())) (J7 ((a2,a3,()),()))) fun J9=>cd (65536≤a0) (natc 16 fun a10=>J9 (((Int.fdiv a0 (HPow.hPow 2 (min a10 (Go.IntKind.bits Go.IntKind.u64)))),(wrap .i64 (a1+16)),()),())) (J9 ((a0,a1,()),()))) fun J11=>cd (4294967296≤p0) (natc 32 fun a12=>J11 (((Int.fdiv p0 (HPow.hPow 2 (min a12 (Go.IntKind.bits Go.IntKind.u64)))),32,()),())) (J11 ((p0,0,()),()))
theorem QfB:FO 125 (sI [.one (.num .u64)] fun x=>Qc7 fu x.1):=fI fu (.two .go (.two (.join [(0,.one (.num .u64)),ni 2] [] .go) (.two (.join [(0,.one (.num .u64)),ni 2] [] .go) (.two (.join [(0,.one (.num .u64)),ni 2] [] .go) .go)))) kz0 eN Tryz.func125
def UU(p0:Int):Option Int:=optc (Qc7 fu p0) fun a0=>some a0
theorem Qcy:FO 79 (sI [.one (.num .u64)] fun x=>UU fu x.1):=fI fu .go kz0 (eC (QfB fu) eN) Tryz.func79
def Y4(p0:List Int)(p1:Int)(p2:Int):Option (List Int):=Qj (X:=(P3×List Int×Unit)) (fun L0 ((a1,a2,a3,_),a4,_)=>cd (a3<a2) (join (Y:=(P3×List Int×Unit)) (fun((a5,a6,a7,_),a8,_)=>L0 ((a5,a6,(wrap .i64 (a7+1)),()),a8,())) fun J9=>Qj (X:=(P4×List Int×Unit)) (fun L10 ((a11,a12,a13,a14,_),a15,_)=>join (Y:=(P4×List Int×Unit)) (fun((a16,a17,a18,a19,_),a20,_)=>natc (wrap .i64 (a19 - 1)) fun a21=>ltc a21 a20.length (optc (GetElem?.getElem? a20 a21) fun a22=>natc a19 fun a23=>ltc a23 a20.length (optc (GetElem?.getElem? a20 a23) fun a24=>natc a19 fun a25=>ltc a25 a20.length (optc (GetElem?.getElem? a20 a25) fun a26=>natc (wrap .i64 (a19 - 1)) fun a27=>ltc a27 (List.length (List.set a20 a25 a22)) (optc (GetElem?.getElem? (List.set a20 a25 a22) a27) fun a28=>L10 ((a16,a17,a18,(wrap .i64 (a19 - 1)),()),(List.set (List.set a20 a25 a22) a27 a24),())))))) fun J29=>cd (a11<a14) (natc a14 fun a30=>ltc a30 a15.length (optc (GetElem?.getElem? a15 a30) fun a31=>natc (wrap .i64 (a14 - 1)) fun a32=>ltc a32 a15.length (optc (GetElem?.getElem? a15 a32) fun a33=>optc (WY fu a31 a33) fun a34=>cnd a34 (J29 ((a11,a12,a13,a14,()),a15,())) (J9 ((a11,a12,a13,()),a15,()))))) (J9 ((a11,a12,a13,()),a15,()))) fu ((a1,a2,a3,a3,()),a4,())) (some a4)) fu ((p1,p2,(wrap .i64 (p1+1)),()),p0,())
theorem WG:FO 115 (Qf [.one (.own 101),nI,nI] [ar 101 .int] [] [(101,.arrs .int)] [] (List Int) kz8 (fun x y=>Y4 fu y.1 x.1 x.2.1)):=fI fu (.two .go (.one (.loop [(0,.one (.own 101)),ni 1,ni 2,ni 6] [ar 101 .int] (.two .go (.two (.join [(0,.one (.own 101)),ni 1,ni 2,ni 6] [ar 101 .int] (.one (.two .go (.one (.loop [(0,.one (.own 101)),ni 1,ni 2,ni 6,ni 7] [ar 101 .int] (.two (.join [(0,.one (.own 101)),ni 1,ni 2,ni 6,ni 7] [ar 101 .int] .go) .go)))))) .go))))) kz12 (eC (Qai fu) eN) Tryz.func115
def Wg(p0:List Int)(p1:Int)(p2:Int)(p3:Int):Option (List Int):=Qj (X:=((Int×Int×Int×Bool×Bool×Unit)×List Int×Unit)) (fun L0 ((a1,a2,a3,a4,a5,_),a6,_)=>cd ((wrap .i64 (a2 - a1))≤12) (optc (Y4 fu a6 a1 a2) fun a7=>chk a7.length a6.length (some a7)) (cd (a3=0) none (cnd (!a4) none none))) fu ((p1,p2,p3,true,true,()),p0,())
theorem Ur:FO 78 (Qf [.one (.own 101),nI,nI,nI] [ar 101 .int] [] [(101,.arrs .int)] [] (List Int) kz8 (fun x y=>Wg fu y.1 x.1 x.2.1 x.2.2.1)):=fI fu (gs 2 (.one (.loop [(0,.one (.own 101)),ni 1,ni 2,ni 3,(8,.one .boo),(9,.one .boo)] [ar 101 .int] .go))) kz12 (eC (WG fu) eN) Tryz.func78
def VZ(p0:List Int):Option (List Int):=optc (UU fu (IntKind.wrap .u64 ((p0.length:Nat):Int))) fun a0=>optc (Wg fu p0 0 ((p0.length:Nat):Int) a0) fun a1=>chk a1.length p0.length (some a1)
theorem Qej:FO 47 (Qf [.one (.own 101)] [ar 101 .int] [] [(101,.arrs .int)] [] (List Int) kz8 (fun x y=>VZ fu y.1)):=fI fu .go kz12 (eC (Ur fu) (eC (Qcy fu) eN)) Tryz.func47
end
end Go.Proofs.YtadlpefpehjcoaaGreat
/-
  slices.Sort of numbers in an array of ours: its contract, by the kit's.
-/
namespace Go.Proofs.YtadlpefpehjcoaaGreat
open Go Go.RowKit Go.Shelf Go.Proofs AM
def Qdv(zs:List Int):List (List PV):=zs.map fun z=>[PV.v (.int .i64 z)]
theorem Qe7{M:Nat→Prop}{w:World}{b:Nat}:∀{zs:List Int} {off:Nat},PV.Rows M w b 1 off (Qdv zs)↔∀j z,zs[j]?=some z→w.cell? ⟨b,off+j,none⟩=some (.int .i64 z)
 |[],off=>by simp[Qdv,PV.Rows]
 |y::r,off=>by
  have ih:=Qe7 (M:=M) (w:=w) (b:=b) (zs:=r) (off:=off+1)
  show PV.Rows M w b 1 off ([PV.v (.int .i64 y)]::Qdv r)↔_
  simp only[PV.Rows,PV.Cells,PV.R,ih]
  constructor
  ·rintro⟨_,⟨⟨u,h1,rfl,_⟩,_⟩,h2⟩ j z hj
   cases j with
   |zero=>simp at hj;subst hj;exact h1
   |succ j=>have:=h2 j z (by simpa using hj);rwa [Nat.add_assoc,Nat.add_comm 1 j]at this
  ·intro h
   refine⟨rfl,⟨⟨_,h 0 y (by simp),rfl,rfl⟩,trivial⟩,fun j z hj=>?_⟩
   have:=h (j+1) z (by simpa using hj)
   rwa [Nat.add_assoc,Nat.add_comm 1 j]
theorem QsU{zs:List Int}(h0:0<zs.length)(hl:zs.length≤10000000):
  XE Tryz.prog 47 [.own 101 zs.length] [(101,.arr 1 (Qdv zs))] (.tup []) [(101,.arr 1 (Qdv (zs.mergeSort fun x y=>decide (x≤y))))]:=by
 intro G ρ M w us hG hM hargs hobj hinj
 have hrl:(Qdv zs).length=zs.length:=List.length_map ..
 simp only[AV.Ts]at hargs
 obtain⟨u0,_,rfl,a0,rfl⟩:=hargs
 simp only[AV.R]at a0
 obtain⟨hes,hcap,hob⟩:=hobj 101 _ (show AM.look 101 [(101,AO.arr 1 (Qdv zs))]=some (.arr 1 (Qdv zs))from rfl)
 have hu0:=(a0.2 (.arr 1 (Qdv zs)) 1 (Qdv zs).length rfl rfl).2 hrl.symm
 rw[hrl]at hcap
 rcases hob with hz|⟨b,T,cs,h3,h4,h5,h6,h7⟩
 ·omega
 have hc:=Qe7.1 h7
 have ht:cs.toList.take zs.length=zs.map (Value.int .i64):=by
  refine List.ext_getElem? fun j=>?_
  by_cases hj:j<zs.length
  ·have:=hc j zs[j] (List.getElem?_eq_getElem hj)
   rw[List.getElem?_take_of_lt hj,List.getElem?_map,List.getElem?_eq_getElem hj,Option.map_some,←this]
   simp[World.cell?,h5]
  ·rw[List.getElem?_take_eq_none (by omega),List.getElem?_eq_none (by simp;omega)]
 have hH:=holds_of_blockI h5 ht
 rw[hu0,h3]
 refine(Any.slices_Sort_int lays189 b 0 (ρ 101).cap zs w hH (hM b h4) (by omega)).mono ?_
 rintro e w' ⟨rfl,nn,os,rfl⟩
 obtain⟨S,hS⟩:∃S,(zs.mergeSort fun x y=>decide (x≤y))=S:=⟨_,rfl⟩
 have hSl:S.length=zs.length:=by rw[←hS];exact List.length_mergeSort zs
 rw[hS]
 have hb':=heap_sortedI (n:=nn) (os:=os) S.toArray h5
 obtain⟨q1,q2,q3,q4,q5⟩:=grownBy_sortedI (w:=w) (g:=b) (n:=nn) (os:=os) S.toArray
 have hown:∀(n:Name) (o:AO) (X:List Int),AM.look n [(101,AO.arr 1 (Qdv X))]=some o→n=101∧o=.arr 1 (Qdv X):=fun n o X hn=>by
  simp only[AM.look]at hn
  split at hn
  ·rename_i e;cases hn;exact⟨e.symm,rfl⟩
  ·simp at hn
 have hblk:(ρ 101).blk=some b:=by
  have:(ρ 101).cap≠0:=by omega
  simp[Loc.blk,this,h3]
 refine⟨_,_,_,ρ,rfl,⟨rfl,rfl⟩,?_,?_,?_,?_,?_,?_⟩
 ·simp only[AV.R,AV.Ts]
  exact⟨#[],rfl,rfl⟩
 ·intro n o hn
  obtain⟨rfl,rfl⟩:=hown _ _ _ hn
  refine⟨by omega,by show(Qdv S).length≤_;unfold Qdv;rw[List.length_map,hSl];exact hcap,.inr ⟨b,T,_,h3,.inr ⟨101,_,rfl,hblk⟩,hb',by simp[Sort.putCells,h6],Qe7.2 fun j z hj=>?_⟩⟩
  have hj':j<S.length:=(List.getElem?_eq_some_iff.1 hj).1
  have htk:=take_putCellsI cs S (by omega)
  have:((Sort.putCells (Value.int .i64) 0 S.toArray cs).toList.take S.length)[j]?=some (.int .i64 z):=by rw[htk,List.getElem?_map,hj];rfl
  rw[List.getElem?_take_of_lt hj']at this
  rw[Nat.zero_add]
  simpa [World.cell?,hb']using this
 ·intro n m o o' b1 hn hm _ _
  rw[(hown _ _ _ hn).1,(hown _ _ _ hm).1]
 ·intro n o b1 hn hb1
  obtain⟨rfl,rfl⟩:=hown _ _ _ hn
  exact .inl ⟨_,rfl,hb1⟩
 ·refine⟨q4,fun k hk hne=>q5 k hk fun e=>hne ⟨101,_,rfl,?_⟩,q1,q3⟩
  rw[hblk];first|exact e|exact e.symm
 ·intro n o hn
  obtain⟨rfl,rfl⟩:=hown _ _ _ hn
  exact⟨_,rfl,rfl,by show(Qdv zs).length≤(Qdv S).length;unfold Qdv;simp[hSl],fun e=>by simp⟩
noncomputable section
def QS(fu:Nat)(p0:List Int):Option (List Int):=if p0.length=0 then VZ fu p0 else lec p0.length 10000000 (some (p0.mergeSort fun x y=>decide (x≤y)))
def Qek(fu:Nat):Sig:=Qf [.one (.own 101)] [(101,.arr .int)] [] [(101,.arrs .int)] [] (List Int) (fun q=>((),(q,()))) (fun x y=>QS fu y.1)
theorem QdC(fu:Nat):FnOK Tryz.prog 47 (Qek fu):=by
 refine⟨fun R x y K r h=>?_,fun x y a b h L0 hL0=>?_⟩
 ·obtain⟨q,hq,h⟩:=Ye h
  obtain⟨h',hle⟩:=Qan h
  refine⟨_,_,?_,h'⟩
  show optc (QS fu y.1) _=_
  rw[show QS fu y.1=some q from hq]
  exact QaS h
 ·obtain⟨l,⟨⟩⟩:=y
  change List Int at l
  by_cases hj:l.length=0
  ·refine(Qej fu).spec () (l,()) a b ?_ L0 hL0
   have e:QS fu l=VZ fu l:=by unfold QS;rw[if_pos hj]
   have h':(optc (QS fu l) fun q=>lenB [(101,OSh.arr .int)] (l,()) [(101,OSh.arrs .int)] (q,()) (some ((),(q,()))))=some (a,b):=h
   rw[e]at h'
   exact h'
  ·obtain⟨q,hq,h⟩:=Ye h
   obtain⟨h',_⟩:=Qan h
   obtain⟨rfl,rfl⟩:=Prod.mk.inj (Option.some.inj h')
   replace hq:QS fu l=some q:=hq
   unfold QS at hq
   rw[if_neg hj]at hq
   obtain⟨hl,hq⟩:=YJ hq
   have hq:=Option.some.inj hq
   have e0:L0 101 0=l.length:=hL0 101 _ _ 0 rfl
   have hs:=QsU (zs:=l) (by omega) hl
   rw[hq,←e0]at hs
   have hql:q.length=l.length:=by rw[←hq];exact List.length_mergeSort l
   refine⟨L0,fun n hn=>rfl,fun n t l' v hn=>?_,?_⟩
   ·change AM.look n [(101,BO.arr .int q 0)]=_ at hn
    simp only[AM.look]at hn
    split at hn
    ·rename_i e;cases hn;rw[←e,e0,hql]
    ·simp at hn
   ·exact hs
end
end Go.Proofs.YtadlpefpehjcoaaGreat
/-
  What functions do, reckoned from their code, and their contracts. Printed by wip/gen/brun.py.
-/
namespace Go.Proofs.YtadlpefpehjcoaaGreat
open Go AM IntKind
noncomputable section
abbrev bI0:List Sh:=[kI,kI,kI,kI,kI,kI,kI,kI,kI,kI,kI,.own 1038025,.own 1038030,.own 1038033]
variable (fu:Nat)
def Qgq(fu:Nat)(p0:List Int):Option Bool:=some (decide (((p0.length:Nat):Int)≤500))
theorem Qk7:FO 8 (sB [lI] fun x=>Qgq fu x.1):=fI fu .go kz0 eN Tryz.func8
def Qc6(fu:Nat)(p0:List Int):Option D.Dice:=some (D.Dice.mk p0 0)
theorem QgY:FO 10 (Qf [lI] [] [.one (.ref 1005)] [bx 1005 .Dice] [] D.Dice kz8 (fun x y=>Qc6 fu x.1)):=fI fu .go kz12 eN Tryz.func10
def Xv(fu:Nat)(p0:Int)(p1:Int)(p2:Int):Option Bool:=cd (p1≤p0) (cd (p0≤p2) sT sF) sF
theorem Qcc:FO 74 (sB [nI,nI,nI] fun x=>Xv fu x.1 x.2.1 x.2.2.1):=fI fu .go kz0 eN Tryz.func74
def Uz(p0:List Int)(p1:Int):Option Int:=Qj (X:=((List Int×Int×Int×Int×Unit)×Unit)) (fun L0 ((a1,a2,a3,a4,_),_)=>cd (a4<a3) (atc a1 a4 fun a5=>cd (a2=a5) (some a4) (L0 ((a1,a2,a3,(wrap .i64 (a4+1)),()),()))) (some (-1))) fu ((p0,p1,((p0.length:Nat):Int),0,()),())
theorem Qfa:FO 156 (sI [lI,nI] fun x=>Uz fu x.1 x.2.1):=fI fu (.two .go (lp [(0,lI),ni 1,ni 7,ni 8] [] .go)) kz0 eN Tryz.func156
def Z6(p0:List Int)(p1:Int):Option Bool:=optc (Uz fu p0 p1) fun a0=>some (decide (0≤a0))
theorem XT:FO 98 (sB [lI,nI] fun x=>Z6 fu x.1 x.2.1):=fI fu .go kz0 (eC (Qfa fu) eN) Tryz.func98
def QdR(p0:List Int):Option Bool:=Qj (X:=((List Int×List Int×Int×Int×Unit)×Unit)) (fun L0 ((a1,a2,a3,a4,_),_)=>cd (a4<a3) (join (Y:=((List Int×List Int×Int×Int×Unit)×Unit)) (fun((a5,a6,a7,a8,_),_)=>L0 ((a5,a6,a7,(wrap .i64 (a8+1)),()),())) fun J9=>atc a2 a4 fun a10=>optc (Xv fu a10 1 1099511627776) fun a11=>cnd a11 (natc a4 fun a12=>lec a12 a1.length (optc (Z6 fu (List.take a12 a1) a10) fun a13=>cnd a13 sF (J9 ((a1,a2,a3,a4,()),())))) sF) (some (decide (((a1.length:Nat):Int)≤256)))) fu ((p0,p0,((p0.length:Nat):Int),0,()),())
theorem Qli:FO 75 (sB [lI] fun x=>QdR fu x.1):=fI fu (.two .go (lp [(0,lI),(5,lI),ni 6,ni 7] [] (gs 2 (.two (.join [(0,lI),(5,lI),ni 6,ni 7] [] .go) .go)))) kz0 (eC (Qcc fu) (eC (XT fu) eN)) Tryz.func75
def Yf(fu:Nat)(p0:Int)(p1:Int)(p2:Int):Option Bool:=cd (p1≤p0) (cd (p0≤p2) sT sF) sF
theorem X7:FO 179 (sB [nI,nI,nI] fun x=>Yf fu x.1 x.2.1 x.2.2.1):=fI fu .go kz0 eN Tryz.func179
def QdV(p0:D.Config)(p1:List Int):Option Int:=cd (((p1.length:Nat):Int)=0) (some 7) (Qj (X:=((List Int×Int×Unit)×D.Config×Unit)) (fun L0 ((a1,a2,_),a3,_)=>cd (a2<((a1.length:Nat):Int)) (atc a1 a2 fun a4=>atc a1 (wrap .i64 (a2 - 1)) fun a5=>cd (a4≤a5) (some 6) (L0 ((a1,(wrap .i64 (a2+1)),()),a3,()))) (join (Y:=(Unit×Unit)) (fun(_,_)=>some 0) fun J6=>atc a1 0 fun a7=>optc (Yf fu a7 0 (wrap .i64 (((a3.People.length:Nat):Int) - 1))) fun a8=>cnd a8 (atc a1 (wrap .i64 (((a1.length:Nat):Int) - 1)) fun a9=>optc (Yf fu a9 0 (wrap .i64 (((a3.People.length:Nat):Int) - 1))) fun a10=>cnd a10 (J6 ((),())) (some 3)) (some 3))) fu ((p1,1,()),p0,()))
theorem Qlm:FO 108 (sI [.st .Config,lI] fun x=>QdV fu x.1 x.2.1):=fI fu (gs 2 (.two (.two .go (.one (.loop [(1,lI),rf 2,ni 5] [bx 1002 .Config] .go))) (.two (.join [] [] .go) .go))) kz0 (eC (X7 fu) eN) Tryz.func108
def X8(fu:Nat)(p0:D.Config)(p1:D.Book):Option D.Arr3Int:=some (D.Arr3Int.mk ((p0.People.length:Nat):Int) ((p0.Schedules.length:Nat):Int) ((p1.Teams.length:Nat):Int))
theorem Qdb:FO 248 (Qf [.st .Config,.st .Book] [] [.st .Arr3Int] [] [] D.Arr3Int kz1 (fun x y=>X8 fu x.1 x.2.1)):=fI fu .go kz0 eN Tryz.func248
def Qce(p0:D.Config)(p1:D.Book)(p2:D.PolicyStep):Option Int:=optc (Yf fu p2.Wait 0 86400) fun a0=>cnd (!a0) (some 1) (cd (6<((p2.Targets.length:Nat):Int)) (some 5) (optc (X8 fu p0 p1) fun a1=>Qj (X:=((List D.Target×Int×Int×Unit)×P3×Unit)) (fun L2 ((a3,a4,a5,_),(a6,a7,a8,_),_)=>cd (a5<a4) (join (Y:=((List D.Target×Int×Int×Unit)×P3×Unit)) (fun((a9,a10,a11,_),(a12,a13,a14,_),_)=>L2 ((a9,a10,(wrap .i64 (a11+1)),()),(a12,a13,a14,()),())) fun J15=>atc a3 a5 fun a16=>optc (Yf fu a16.Kind 0 2) fun a17=>cnd a17 (cd (a16.Kind=((0:Nat):Int)) (optc (Yf fu a16.Index 0 (wrap .i64 (a6 - 1))) fun a18=>cnd a18 (J15 ((a3,a4,a5,()),(a6,a7,a8,()),())) (some 3)) (cd (a16.Kind=(((0+1):Nat):Int)) (optc (Yf fu a16.Index 0 (wrap .i64 (a7 - 1))) fun a19=>cnd a19 (J15 ((a3,a4,a5,()),(a6,a7,a8,()),())) (some 3)) (cd (a16.Kind=((((0+1)+1):Nat):Int)) (optc (Yf fu a16.Index 0 (wrap .i64 (a8 - 1))) fun a20=>cnd a20 (J15 ((a3,a4,a5,()),(a6,a7,a8,()),())) (some 3)) none))) (some 3)) (some 0)) fu ((p2.Targets,((p2.Targets.length:Nat):Int),0,()),(a1.a0,a1.a1,a1.a2,()),())))
theorem QjL:FO 181 (sI [.st .Config,.st .Book,.st .PolicyStep] fun x=>Qce fu x.1 x.2.1 x.2.2.1):=fI fu (gs 4 (lp [rf 7,li 22 .Target,ni 23,ni 24] [(1007,.box [kI,kI,kI])] (gs 2 (.two (.join [rf 7,li 22 .Target,ni 23,ni 24] [(1007,.box [kI,kI,kI])] .go) .go)))) kz0 (eC (X7 fu) (eC (Qdb fu) eN)) Tryz.func181
def WE(fu:Nat)(p0:Int)(p1:D.Book):Option ByteArray:=atc p1.Policies p0 fun a0=>sameC p1 p1 (some a0.Name)
theorem QgA:FO 180 (Qf [nI,.one (.ref 101)] [bx 101 .Book] [.one .str] [] [101] ByteArray kz1 (fun x y=>WE fu x.1 y.1)):=fI fu .go kz0 eN Tryz.func180
def Zp(p0:Int)(c101:D.Book):Option Bool:=Qj (X:=(P3×D.Book×Unit)) (fun L0 ((a1,a2,a3,_),a4,_)=>cd (a3<a2) (optc (WE fu a3 a4) fun a5=>optc (WE fu a1 a4) fun a6=>cd (a5=a6) (sameC a4 c101 sT) (L0 ((a1,a2,(wrap .i64 (a3+1)),()),a4,()))) (sameC a4 c101 sF)) fu ((p0,p0,0,()),c101,())
theorem Vd:FO 106 (Qf [nI,.one (.clo 180 [101])] [bx 101 .Book] [.one .boo] [] [101] Bool kz1 (fun x y=>Zp fu x.1 y.1)):=fI fu (.two .go (lp [ni 0,(1,.one (.clo 180 [101])),ni 6,ni 7] [bx 101 .Book] .go)) kz0 (eC (QgA fu) eN) Tryz.func106
def Qda(p0:D.Config)(p1:D.Book)(p2:Int):Option Int:=atc p1.Policies p2 fun a0=>optc (U5 fu a0.Name) fun a1=>cnd (!a1) (some 8) (optc (Zp fu p2 p1) fun a2=>cnd a2 (some 4) (cd (((a0.Steps.length:Nat):Int)=0) (some 7) (cd (8<((a0.Steps.length:Nat):Int)) (some 5) (optc (Yf fu a0.Repeat 0 8) fun a3=>cnd (!a3) (some 1) (Qj (X:=((List D.PolicyStep×Int×Int×Unit)×D.Config×D.Book×Unit)) (fun L4 ((a5,a6,a7,_),a8,a9,_)=>cd (a7<a6) (atc a5 a7 fun a10=>optc (Qce fu a8 a9 a10) fun a11=>cd (a11≠0) (some a11) (L4 ((a5,a6,(wrap .i64 (a7+1)),()),a8,a9,()))) (some 0)) fu ((a0.Steps,((a0.Steps.length:Nat):Int),0,()),p0,p1,()))))))
theorem QiS:FO 109 (sI [.st .Config,.st .Book,nI] fun x=>Qda fu x.1 x.2.1 x.2.2.1):=fI fu (gs 3 (lp [rf 3,rf 4,li 41 .PolicyStep,ni 42,ni 43] [bx 1003 .Config,bx 1004 .Book] .go)) kz0 (eC (Qb3 fu) (eC (Vd fu) (eC (X7 fu) (eC (QjL fu) eN)))) Tryz.func109
def WD(fu:Nat)(p0:Int)(p1:D.Book):Option ByteArray:=atc p1.Teams p0 fun a0=>sameC p1 p1 (some a0.Name)
theorem Qgz:FO 107 (Qf [nI,.one (.ref 101)] [bx 101 .Book] [.one .str] [] [101] ByteArray kz1 (fun x y=>WD fu x.1 y.1)):=fI fu .go kz0 eN Tryz.func107
def Zo(p0:Int)(c101:D.Book):Option Bool:=Qj (X:=(P3×D.Book×Unit)) (fun L0 ((a1,a2,a3,_),a4,_)=>cd (a3<a2) (optc (WD fu a3 a4) fun a5=>optc (WD fu a1 a4) fun a6=>cd (a5=a6) (sameC a4 c101 sT) (L0 ((a1,a2,(wrap .i64 (a3+1)),()),a4,()))) (sameC a4 c101 sF)) fu ((p0,p0,0,()),c101,())
theorem Vc:FO 106 (Qf [nI,.one (.clo 107 [101])] [bx 101 .Book] [.one .boo] [] [101] Bool kz1 (fun x y=>Zo fu x.1 y.1)):=fI fu (.two .go (lp [ni 0,(1,.one (.clo 107 [101])),ni 6,ni 7] [bx 101 .Book] .go)) kz0 (eC (Qgz fu) eN) Tryz.func106
def QaZ(p0:D.Config)(p1:D.Book):Option Int:=optc (QX fu p0) fun a0=>cd (a0≠0) (some 8) (join (Y:=(Unit×D.Config×D.Book×Unit)) (fun(_,a1,a2,_)=>Qj (X:=((List D.Team×Int×Int×Unit)×D.Config×D.Book×Unit)) (fun L3 ((a4,a5,a6,_),a7,a8,_)=>cd (a6<a5) (atc a4 a6 fun a9=>optc (U5 fu a9.Name) fun a10=>cnd (!a10) (some 8) (optc (Zo fu a6 a8) fun a11=>cnd a11 (some 4) (optc (QdV fu a7 a9.Members) fun a12=>cd (a12≠0) (some a12) (L3 ((a4,a5,(wrap .i64 (a6+1)),()),a7,a8,()))))) (Qj (X:=((Int×Int×Unit)×D.Config×D.Book×Unit)) (fun L13 ((a14,a15,_),a16,a17,_)=>cd (a15<a14) (optc (Qda fu a16 a17 a15) fun a18=>cd (a18≠0) (some a18) (L13 ((a14,(wrap .i64 (a15+1)),()),a16,a17,()))) (some 0)) fu ((((a8.Policies.length:Nat):Int),0,()),a7,a8,()))) fu ((a2.Teams,((a2.Teams.length:Nat):Int),0,()),a1,a2,())) fun J19=>cd (8<((p1.Teams.length:Nat):Int)) (some 5) (cd (12<((p1.Policies.length:Nat):Int)) (some 5) (J19 ((),p0,p1,()))))
theorem QiR:FO 76 (sI [.st .Config,.st .Book] fun x=>QaZ fu x.1 x.2.1):=fI fu (gs 2 (.two (.join [rf 2,rf 3] [bx 1002 .Config,bx 1003 .Book] .go) (.two (.two .go (.one (.loop [rf 2,rf 3,li 24 .Team,ni 25,ni 26] [bx 1002 .Config,bx 1003 .Book] .go))) (lp [rf 2,rf 3,ni 48,ni 49] [bx 1002 .Config,bx 1003 .Book] .go)))) kz0 (eC (Ux fu) (eC (Qb3 fu) (eC (Vc fu) (eC (Qlm fu) (eC (QiS fu) eN))))) Tryz.func76
def QY(fu:Nat)(p0:Int)(p1:Int)(p2:Int):Option Bool:=cd (p1≤p0) (cd (p0≤p2) sT sF) sF
theorem XN:FO 182 (sB [nI,nI,nI] fun x=>QY fu x.1 x.2.1 x.2.2.1):=fI fu .go kz0 eN Tryz.func182
def X5(p0:D.Policy):Option Int:=join (Y:=(Unit×D.Policy×Unit)) (fun(_,a0,_)=>some (wrap .i64 (((a0.Steps.length:Nat):Int)*(wrap .i64 (a0.Repeat+1))))) fun J1=>optc (Yf fu p0.Repeat 0 8) fun a2=>cnd a2 (cd (8<((p0.Steps.length:Nat):Int)) (some 0) (J1 ((),p0,()))) (some 0)
theorem Qar:FO 185 (sI [.st .Policy] fun x=>X5 fu x.1):=fI fu (.two .go (.two (.join [rf 1] [bx 1001 .Policy] .go) .go)) kz0 (eC (X7 fu) eN) Tryz.func185
def V6(p0:D.Page):Option Bool:=optc (QY fu p0.Last p0.Start 17179869184) fun a0=>cnd a0 (optc (QY fu p0.Due 0 17179869184) fun a1=>cnd a1 (optc (QY fu p0.Until 0 17179869184) fun a2=>cnd a2 (optc (QY fu p0.Snoozes 0 4) fun a3=>cnd a3 (optc (QY fu p0.Hands 0 4) fun a4=>cnd a4 sT sF) sF) sF) sF) sF
theorem Qgg:FO 186 (sB [.st .Page] fun x=>V6 fu x.1):=fI fu .go kz0 (eC (XN fu) eN) Tryz.func186
def Uh(p0:List Int):Option Bool:=Qj (X:=((List Int×List Int×Int×Int×Unit)×Unit)) (fun L0 ((a1,a2,a3,a4,_),_)=>cd (a4<a3) (join (Y:=((List Int×List Int×Int×Int×Unit)×Unit)) (fun((a5,a6,a7,a8,_),_)=>L0 ((a5,a6,a7,(wrap .i64 (a8+1)),()),())) fun J9=>atc a2 a4 fun a10=>optc (QY fu a10 0 31) fun a11=>cnd a11 (cd (0<a4) (atc a1 (wrap .i64 (a4 - 1)) fun a12=>cd (a10≤a12) sF (J9 ((a1,a2,a3,a4,()),()))) (J9 ((a1,a2,a3,a4,()),()))) sF) sT) fu ((p0,p0,((p0.length:Nat):Int),0,()),())
theorem Qc1:FO 188 (sB [lI] fun x=>Uh fu x.1):=fI fu (.two .go (lp [(0,lI),(5,lI),ni 6,ni 7] [] (gs 2 (.two (.join [(0,lI),(5,lI),ni 6,ni 7] [] .go) .go)))) kz0 (eC (XN fu) eN) Tryz.func188
def WH(p0:D.Page):Option Bool:=Qj (X:=((Int×Int×List D.Start×Int×Int×Unit)×D.Page×Unit)) (fun L0 ((a1,a2,a3,a4,a5,_),a6,_)=>cd (a5<a4) (atc a3 a5 fun a7=>join (Y:=((Int×List D.Start×Int×Int×Unit)×D.Page×D.Start×Unit)) (fun((a8,a9,a10,a11,_),a12,a13,_)=>L0 ((a13.At,(max a8 a13.K),a9,a10,(wrap .i64 (a11+1)),()),a12,())) fun J14=>cd (a7.At<a1) sF (optc (Uh fu a7.People) fun a15=>cnd a15 (cd (a7.K≠(-1)) (optc (QY fu a7.K (wrap .i64 (a2+1)) (wrap .i64 (a6.Next - 1))) fun a16=>cnd a16 (J14 ((a2,a3,a4,a5,()),a6,a7,())) sF) (J14 ((a2,a3,a4,a5,()),a6,a7,()))) sF)) (some (decide (((a6.Starts.length:Nat):Int)≤200)))) fu ((p0.Start,(-1),p0.Starts,((p0.Starts.length:Nat):Int),0,()),p0,())
theorem QeJ:FO 187 (sB [.st .Page] fun x=>WH fu x.1):=fI fu (gs 2 (lp [rf 1,ni 3,ni 4,li 10 .Start,ni 11,ni 12] [bx 1001 .Page] (gs 2 (.two (.one (.two .go (.two (.join [rf 1,ni 4,rf 6,li 10 .Start,ni 11,ni 12] [bx 1001 .Page,bx 1006 .Start] .go) .go))) .go)))) kz0 (eC (XN fu) (eC (Qc1 fu) eN)) Tryz.func187
def UP(p0:List Int):Option Bool:=Qj (X:=((List Int×List Int×Int×Int×Unit)×Unit)) (fun L0 ((a1,a2,a3,a4,_),_)=>cd (a4<a3) (atc a2 a4 fun a5=>natc a4 fun a6=>lec a6 a1.length (optc (Z6 fu (List.take a6 a1) a5) fun a7=>cnd a7 sF (L0 ((a1,a2,a3,(wrap .i64 (a4+1)),()),())))) (some (decide (((a1.length:Nat):Int)≤64)))) fu ((p0,p0,((p0.length:Nat):Int),0,()),())
theorem Qhd:FO 189 (sB [lI] fun x=>UP fu x.1):=fI fu (.two .go (lp [(0,lI),(5,lI),ni 6,ni 7] [] .go)) kz0 (eC (XT fu) eN) Tryz.func189
def Uv(p0:D.PolicyStep):Option Bool:=optc (QY fu p0.Wait 0 86400) fun a0=>some (!a0)
theorem QeI:FO 184 (sB [.st .PolicyStep] fun x=>Uv fu x.1):=fI fu .go kz0 (eC (XN fu) eN) Tryz.func184
def QV(p0:List D.PolicyStep):Option Int:=Qj (X:=((List D.PolicyStep×Int×Int×Unit)×Unit)) (fun L0 ((a1,a2,a3,_),_)=>cd (a3<a2) (atc a1 a3 fun a4=>optc (Uv fu a4) fun a5=>cnd a5 (some a3) (L0 ((a1,a2,(wrap .i64 (a3+1)),()),()))) (some (-1))) fu ((p0,((p0.length:Nat):Int),0,()),())
theorem YQ:FO 249 (sI [.one (.lst .PolicyStep),.one (.fv 184)] fun x=>QV fu x.1):=fI fu (.two .go (lp [li 0 .PolicyStep,(1,.one (.fv 184)),ni 7,ni 8] [] .go)) kz0 (eC (QeI fu) eN) Tryz.func249
def Qo(p0:List D.PolicyStep):Option Bool:=optc (QV fu p0) fun a0=>some (decide (0≤a0))
theorem YC:FO 183 (sB [.one (.lst .PolicyStep),.one (.fv 184)] fun x=>Qo fu x.1):=fI fu .go kz0 (eC (YQ fu) eN) Tryz.func183
def Z7(p0:D.Book)(p1:D.Page):Option Bool:=join (Y:=(Unit×D.Book×D.Page×Unit)) (fun(_,a0,a1,_)=>atc a0.Policies a1.Policy fun a2=>join (Y:=(Unit×D.Page×Unit)) (fun(_,a3,_)=>optc (QY fu a3.State 0 4) fun a4=>cnd a4 (optc (QY fu a3.By (-1) 31) fun a5=>cnd a5 (optc (V6 fu a3) fun a6=>cnd a6 (optc (WH fu a3) fun a7=>cnd a7 (optc (Uh fu a3.Declined) fun a8=>cnd a8 (optc (UP fu a3.Seen) fun a9=>cnd a9 sT sF) sF) sF) sF) sF) sF) fun J10=>optc (Qo fu a2.Steps) fun a11=>cnd a11 sF (optc (X5 fu a2) fun a12=>optc (QY fu a1.Next 0 a12) fun a13=>cnd a13 (J10 ((),a1,())) sF)) fun J14=>optc (QY fu p1.ID 1 999999) fun a15=>cnd a15 (optc (QY fu p1.Policy 0 (wrap .i64 (((p0.Policies.length:Nat):Int) - 1))) fun a16=>cnd a16 (optc (QY fu p1.Start 0 8589934592) fun a17=>cnd a17 (J14 ((),p0,p1,())) sF) sF) sF
theorem Wj:FO 110 (sB [.st .Book,.st .Page] fun x=>Z7 fu x.1 x.2.1):=fI fu (.two .go (.two (.join [rf 2,rf 3] [bx 1002 .Book,bx 1003 .Page] .go) (.two .go (.two (.join [rf 3] [bx 1003 .Page] .go) .go)))) kz0 (eC (XN fu) (eC (YC fu) (eC (Qar fu) (eC (Qgg fu) (eC (QeJ fu) (eC (Qc1 fu) (eC (Qhd fu) eN))))))) Tryz.func110
def Xk(fu:Nat)(p0:List D.Call):Option (List D.Call):=nilC p0 (both (some []) (lec p0.length 34359738368 (some p0))) (lec p0.length 34359738368 (some p0))
theorem UE:FO 112 (Qf [.one (.lst .Call)] [] [.one (.own 1007)] [ar 1007 .Call] [] (List D.Call) kz8 (fun x y=>Xk fu x.1)):=fI fu .go kz12 eN Tryz.func112
def Qcb(p0:D.Page)(p1:List D.Call)(p2:Int):Option Bool:=Qj (X:=((List D.Call×Int×Int×Int×List D.Start×Int×Int×Unit)×D.Page×Unit)) (fun L0 ((a1,a2,a3,a4,a5,a6,a7,_),a8,_)=>cd (a7<a6) (atc a5 a7 fun a9=>Qj (X:=((List D.Call×Int×Int×Int×List D.Start×Int×Int×List Int×Int×Int×Unit)×D.Page×D.Start×Unit)) (fun L10 ((a11,a12,a13,a14,a15,a16,a17,a18,a19,a20,_),a21,a22,_)=>cd (a20<a19) (atc a18 a20 fun a23=>join (Y:=((List D.Call×Int×Int×List D.Start×Int×Int×List Int×Int×Int×Unit)×D.Page×D.Start×Unit)) (fun((a24,a25,a26,a27,a28,a29,a30,a31,a32,_),a33,a34,_)=>atc a24 a26 fun a35=>L10 ((a24,a25,(wrap .i64 (a26+1)),a35.Fence,a27,a28,a29,a30,a31,(wrap .i64 (a32+1)),()),a33,a34,())) fun J36=>cd (a13=((a11.length:Nat):Int)) sF (atc a11 a13 fun a37=>optc (Xv fu a37.Fence a14 a12) fun a38=>cnd a38 (atc a11 a13 fun a39=>atc a11 a13 fun a40=>cd ((a39.Page::(a39.K::(a39.At::(a39.Person::(a39.Fence::[])))))≠(a21.ID::(a22.K::(a22.At::(a23::(a40.Fence::[])))))) sF (J36 ((a11,a12,a13,a15,a16,a17,a18,a19,a20,()),a21,a22,()))) sF)) (L0 ((a11,a12,a13,a14,a15,a16,(wrap .i64 (a17+1)),()),a21,()))) fu ((a1,a2,a3,a4,a5,a6,a7,a9.People,((a9.People.length:Nat):Int),0,()),a8,a9,())) (some (decide (a3=((a1.length:Nat):Int))))) fu ((p1,p2,0,0,p0.Starts,((p0.Starts.length:Nat):Int),0,()),p0,())
theorem QjC:FO 114 (sB [.st .Page,.one (.lst .Call),nI] fun x=>Qcb fu x.1 x.2.1 x.2.2.1):=fI fu (gs 2 (lp [li 1 .Call,ni 2,rf 3,ni 7,ni 8,li 14 .Start,ni 15,ni 16] [bx 1003 .Page] (gs 2 (.two (.one (gs 2 (.one (.loop [li 1 .Call,ni 2,rf 3,ni 7,ni 8,rf 10,li 14 .Start,ni 15,ni 16,(21,lI),ni 22,ni 23] [bx 1003 .Page,bx 1010 .Start] (gs 2 (.two (.one (.two .go (.two (.join [li 1 .Call,ni 2,rf 3,ni 7,rf 10,li 14 .Start,ni 15,ni 16,(21,lI),ni 22,ni 23] [bx 1003 .Page,bx 1010 .Start] .go) .go))) .go)))))) .go)))) kz0 (eC (Qcc fu) eN) Tryz.func114
def Vr(fu:Nat)(p0:D.Call)(p1:D.Page):Option Bool:=sameC p1 p1 (some (decide (p0.Page≠p1.ID)))
theorem Qcz:FO 113 (Qf [.st .Call,.one (.ref 101)] [bx 101 .Page] [.one .boo] [] [101] Bool kz1 (fun x y=>Vr fu x.1 y.1)):=fI fu .go kz0 eN Tryz.func113
def QR(p0:List D.Call)(c102:D.Page):Option Int:=Qj (X:=((Int×Int×Unit)×D.Page×List D.Call×Unit)) (fun L0 ((a1,a2,_),a3,a4,_)=>cd (a2<a1) (natc a2 fun a5=>ltc a5 a4.length (optc (GetElem?.getElem? a4 a5) fun a6=>optc (Vr fu a6 a3) fun a7=>cnd a7 (sameC a4 p0 (sameC a3 c102 (some a2))) (L0 ((a1,(wrap .i64 (a2+1)),()),a3,a4,())))) (sameC a4 p0 (sameC a3 c102 (some (-1))))) fu ((((p0.length:Nat):Int),0,()),c102,p0,())
theorem XK:FO 190 (Qf [.one (.own 101),.one (.clo 113 [102])] [ar 101 .Call,bx 102 .Page] [nI] [] [101,102] Int kz1 (fun x y=>QR fu y.1 y.2.1)):=fI fu (.two .go (lp [(0,.one (.own 101)),(1,.one (.clo 113 [102])),ni 7,ni 8] [bx 102 .Page,ar 101 .Call] .go)) kz0 (eC (Qcz fu) eN) Tryz.func190
def QO(p0:List D.Call)(c102:D.Page):Option (Nat×Nat×List D.Call):=optc (QR fu p0 c102) fun a0=>cd (a0=(-1)) (sameC c102 c102 (some (0,p0.length,p0))) (Qj (X:=((Int×Int×Unit)×D.Page×List D.Call×Unit)) (fun L1 ((a2,a3,_),a4,a5,_)=>cd (a3<((a5.length:Nat):Int)) (join (Y:=((Int×Int×Unit)×D.Page×List D.Call×Unit)) (fun((a6,a7,_),a8,a9,_)=>L1 ((a6,(wrap .i64 (a7+1)),()),a8,a9,())) fun J10=>natc a3 fun a11=>ltc a11 a5.length (optc (GetElem?.getElem? a5 a11) fun a12=>optc (Vr fu a12 a4) fun a13=>cnd (!a13) (natc a2 fun a14=>ltc a14 a5.length (optc (GetElem?.getElem? a5 a14) fun a15=>J10 (((wrap .i64 (a2+1)),a3,()),a4,(List.set a5 a14 a12),()))) (J10 ((a2,a3,()),a4,a5,())))) (natc a2 fun a16=>lec a16 a5.length (lec a16 a5.length (lec a5.length a5.length (natc a2 fun a17=>lec a17 (List.length (((List.take a16 a5)++(List.replicate (a5.length - a16) (D.Call.mk 0 0 0 0 0)))++(List.drop a5.length a5))) (sameC a4 c102 (some (0,a17,(((List.take a16 a5)++(List.replicate (a5.length - a16) (D.Call.mk 0 0 0 0 0)))++(List.drop a5.length a5)))))))))) fu ((a0,(wrap .i64 (a0+1)),()),c102,p0,()))
theorem XB:FO 111 (Qf [.one (.own 101),.one (.clo 113 [102])] [ar 101 .Call,bx 102 .Page] [.one (.view 101)] [ar 101 .Call] [102] (Nat×Nat×List D.Call) kz18 (fun x y=>QO fu y.1 y.2.1)):=fI fu (gs 3 (lp [(0,.one (.own 101)),(1,.one (.clo 113 [102])),ni 5,ni 6] [bx 102 .Page,ar 101 .Call] (.two .go (.two (.join [(0,.one (.own 101)),(1,.one (.clo 113 [102])),ni 5,ni 6] [bx 102 .Page,ar 101 .Call] .go) .go)))) kz20 (eC (Qcz fu) (eC (XK fu) eN)) Tryz.func111
def QeS(p0:D.Ledger):Option Bool:=Qj (X:=((Int×List D.Page×Int×Int×Unit)×D.Ledger×Unit)) (fun L0 ((a1,a2,a3,a4,_),a5,_)=>cd (a4<a3) (atc a2 a4 fun a6=>join (Y:=((Int×List D.Page×Int×Int×Unit)×D.Ledger×D.Page×Unit)) (fun((a7,a8,a9,a10,_),a11,a12,_)=>optc (Xk fu a11.Calls) fun a13=>optc (QO fu a13 a12) fun(a14,a15,a16)=>optc (Qcb fu a12 (List.drop a14 (List.take a15 a16)) a11.Fence) fun a17=>cnd (!a17) sF (L0 (((wrap .i64 (a7+(((List.length (List.drop a14 (List.take a15 a16))):Nat):Int))),a8,a9,(wrap .i64 (a10+1)),()),a11,()))) fun J18=>cd (0<a4) (atc a5.Pages (wrap .i64 (a4 - 1)) fun a19=>cd (a6.ID≤a19.ID) sF (optc (Z7 fu a5.Book a6) fun a20=>cnd a20 (cd (a5.Now<a6.Last) sF (J18 ((a1,a2,a3,a4,()),a5,a6,()))) sF)) (optc (Z7 fu a5.Book a6) fun a21=>cnd a21 (cd (a5.Now<a6.Last) sF (J18 ((a1,a2,a3,a4,()),a5,a6,()))) sF)) (some (decide (a1=((a5.Calls.length:Nat):Int))))) fu ((0,p0.Pages,((p0.Pages.length:Nat):Int),0,()),p0,())
theorem QjE:FO 77 (sB [.st .Ledger] fun x=>QeS fu x.1):=fI fu (gs 2 (lp [rf 1,ni 3,li 8 .Page,ni 9,ni 10] [bx 1001 .Ledger] (gs 2 (.two (.one (.two .go (.two (.join [rf 1,ni 3,rf 5,li 8 .Page,ni 9,ni 10] [bx 1001 .Ledger,bx 1005 .Page] .go) .go))) .go)))) kz0 (eC (Wj fu) (eC (XB fu) (eC (UE fu) (eC (QjC fu) eN)))) Tryz.func77
def Xt(p0:D.Ledger):Option Bool:=join (Y:=(Unit×D.Ledger×Unit)) (fun(_,a0,_)=>optc (QaZ fu a0.Config a0.Book) fun a1=>cd (a1=0) (optc (QeS fu a0) fun a2=>cnd a2 sT sF) sF) fun J3=>optc (Xv fu p0.Now 0 8589934592) fun a4=>cnd a4 (cd (64<((p0.Pages.length:Nat):Int)) sF (optc (Xv fu p0.Owner (-1) 4) fun a5=>cnd a5 (optc (Xv fu p0.Fence 0 1048576) fun a6=>cnd a6 (optc (QdR fu p0.Seen) fun a7=>cnd a7 (J3 ((),p0,())) sF) sF) sF)) sF
theorem Qbf:FO 46 (sB [.st .Ledger] fun x=>Xt fu x.1):=fI fu (.two .go (.two (.join [rf 1] [bx 1001 .Ledger] .go) .go)) kz0 (eC (Qcc fu) (eC (Qli fu) (eC (QiR fu) (eC (QjE fu) eN)))) Tryz.func46
def Qhx(fu:Nat)(p0:Int)(p1:Int)(p2:Int):Option Bool:=cd (p1≤p0) (cd (p0≤p2) sT sF) sF
theorem Qou:FO 64 (sB [nI,nI,nI] fun x=>Qhx fu x.1 x.2.1 x.2.2.1):=fI fu .go kz0 eN Tryz.func64
def QiP(p0:D.Ledger)(p1:Int)(p2:Int)(p3:Int):Option Int:=optc (Xt fu p0) fun a0=>cnd (!a0) (some 8) (join (Y:=(Unit×Unit)) (fun(_,_)=>some 0) fun J1=>optc (Qhx fu p1 0 4) fun a2=>cnd a2 (optc (Qhx fu p2 1 1099511627776) fun a3=>cnd a3 (optc (Qhx fu p3 0 8589934592) fun a4=>cnd a4 (J1 ((),())) (some 1)) (some 1)) (some 1))
theorem QjJ:FO 41 (sI [.st .Ledger,nI,nI,nI] fun x=>QiP fu x.1 x.2.1 x.2.2.1 x.2.2.2.1):=fI fu (gs 2 (.two (.join [] [] .go) .go)) kz0 (eC (Qbf fu) (eC (Qou fu) eN)) Tryz.func41
def QeU(p0:D.Ledger)(p1:Int)(p2:Int)(p3:Int):Option (D.Op×Int):=optc (QiP fu p0 p1 p2 p3) fun a0=>cd (a0≠0) (some ((D.Op.mk 0 0 0 0 0 0 0 0 0 (D.Answer.mk 0 0 0 0 0 0) (D.Edit.mk 0 0 0 0 0)),a0)) (cd (p0.Fence=1048576) (some ((D.Op.mk 0 0 0 0 0 0 0 0 0 (D.Answer.mk 0 0 0 0 0 0) (D.Edit.mk 0 0 0 0 0)),5)) (some ((D.Op.mk p2 2 p1 (wrap .i64 (p0.Fence+1)) p3 0 0 0 0 (D.Answer.mk 0 0 0 0 0 0) (D.Edit.mk 0 0 0 0 0)),0)))
theorem QjH:FO 13 (Qf [.st .Ledger,nI,nI,nI] [] [.st .Op,nI] [] [] (D.Op×Int) kz3 (fun x y=>QeU fu x.1 x.2.1 x.2.2.1 x.2.2.2.1)):=fI fu .go kz4 (eC (QjJ fu) eN) Tryz.func13
def Qch(p0:List Int)(p1:Int):Option Bool:=Qj (X:=((List Int×Int×Int×Unit)×Unit)) (fun L0 ((a1,a2,a3,_),_)=>cd (a3<((a1.length:Nat):Int)) (atc a1 a3 fun a4=>cd (a4=a2) sT (L0 ((a1,a2,(wrap .i64 (a3+1)),()),()))) sF) fu ((p0,p1,0,()),())
theorem Qd1:FO 17 (sB [lI,nI] fun x=>Qch fu x.1 x.2.1):=fI fu (.two .go (lp [(0,lI),ni 1,ni 5] [] .go)) kz0 eN Tryz.func17
def U1(p0:D.Page):Option D.Page:=Qj (X:=((Int×Unit)×D.Page×D.Page×List D.Start×Unit)) (fun L0 ((a1,_),a2,a3,a4,_)=>cd (a1<((a2.Starts.length:Nat):Int)) (atc a2.Starts a1 fun a5=>lec a5.People.length 34359738368 (lec (a4.length+(List.length (a5::[]))) 34359738368 (L0 (((wrap .i64 (a1+1)),()),a2,a3,(a4++(a5::[])),())))) (lec a2.Declined.length 34359738368 (lec a2.Seen.length 34359738368 (some (D.Page.mk a2.ID a2.Policy a2.Start a2.Next a2.Due a2.State a2.By a2.Until a2.Last a2.Snoozes a2.Hands a4 a2.Declined a2.Seen))))) fu ((0,()),p0,(D.Page.mk 0 0 0 0 0 0 0 0 0 0 0 [] [] []),[],())
theorem VY:FO 56 (Qf [.st .Page] [] [.agg [kI,kI,kI,kI,kI,kI,kI,kI,kI,kI,kI,.own 1025,.own 1030,.own 1033]] [ar 1025 .Start,ar 1030 .int,ar 1033 .int] [] D.Page kz13 (fun x y=>U1 fu x.1)):=fI fu (gs 2 (lp [rf 1,rf 2,(3,.one (.own 1025)),ni 4] [bx 1001 .Page,bx 1002 .Page,ar 1025 .Start] .go)) (fun a b=>D.Page.mk a.1.1 a.1.2.1 a.1.2.2.1 a.1.2.2.2.1 a.1.2.2.2.2.1 a.1.2.2.2.2.2.1 a.1.2.2.2.2.2.2.1 a.1.2.2.2.2.2.2.2.1 a.1.2.2.2.2.2.2.2.2.1 a.1.2.2.2.2.2.2.2.2.2.1 a.1.2.2.2.2.2.2.2.2.2.2.1 b.1 b.2.1 b.2.2.1) eN Tryz.func56
def QhF(p0:D.Ledger):Option D.Ledger:=Qj (X:=((Int×Unit)×D.Ledger×D.Ledger×List D.Page×Unit)) (fun L0 ((a1,_),a2,a3,a4,_)=>cd (a1<((a2.Pages.length:Nat):Int)) (atc a2.Pages a1 fun a5=>optc (U1 fu a5) fun a6=>lec (a4.length+(List.length (a6::[]))) 34359738368 (L0 (((wrap .i64 (a1+1)),()),a2,a3,(a4++(a6::[])),()))) (lec a2.Seen.length 34359738368 (lec a2.Calls.length 34359738368 (some (D.Ledger.mk a2.Now a2.Config a2.Book a4 a2.Owner a2.Fence a2.Seen a2.Calls))))) fu ((0,()),p0,(D.Ledger.mk 0 (D.Config.mk [] [] [] []) (D.Book.mk [] []) [] 0 0 [] []),[],())
theorem QoI:FO 26 (Qf [.st .Ledger] [] [.agg [kI,.lst .Zone,.lst .Person,.lst .Calendar,.lst .Schedule,.lst .Team,.lst .Policy,.own 1020,kI,kI,.own 1025,.own 1028]] [ar 1020 .Page,ar 1025 .int,ar 1028 .Call] [] D.Ledger kz7 (fun x y=>QhF fu x.1)):=fI fu (gs 2 (lp [rf 1,rf 2,(3,.one (.own 1020)),ni 4] [bx 1001 .Ledger,bx 1002 .Ledger,ar 1020 .Page] .go)) (fun a b=>D.Ledger.mk a.1.1 (D.Config.mk a.1.2.1 a.1.2.2.1 a.1.2.2.2.1 a.1.2.2.2.2.1) (D.Book.mk a.1.2.2.2.2.2.1 a.1.2.2.2.2.2.2.1) b.1 a.1.2.2.2.2.2.2.2.1 a.1.2.2.2.2.2.2.2.2.1 b.2.1 b.2.2.1) (eC (VY fu) eN) Tryz.func26
def Q5(fu:Nat)(p0:Int)(p1:Int)(p2:Int):Option Bool:=cd (p1≤p0) (cd (p0≤p2) sT sF) sF
theorem Wa:FO 57 (sB [nI,nI,nI] fun x=>Q5 fu x.1 x.2.1 x.2.2.1):=fI fu .go kz0 eN Tryz.func57
def Qi2(fu:Nat)(p0:Int):Option Bool:=cd (48≤p0) (cd (p0≤57) sT sF) sF
theorem Qnf:FO 253 (sB [.one (.num .u8)] fun x=>Qi2 fu x.1):=fI fu .go kz0 eN Tryz.func253
def QdZ(p0:ByteArray):Option Bool:=join (Y:=((ByteArray×Unit)×Unit)) (fun((a0,_),_)=>Qj (X:=((ByteArray×Int×Unit)×Unit)) (fun L1 ((a2,a3,_),_)=>cd (a3<(((ByteArray.size a2):Nat):Int)) (join (Y:=((ByteArray×Int×Unit)×Unit)) (fun((a4,a5,_),_)=>L1 ((a4,(wrap .i64 (a5+1)),()),())) fun J6=>natc a3 fun a7=>ltc a7 (ByteArray.size a2) (cd ((((bAt a2 a7):Nat):Int)<97) (natc a3 fun a8=>ltc a8 (ByteArray.size a2) (optc (Qi2 fu (((bAt a2 a8):Nat):Int)) fun a9=>cnd a9 (J6 ((a2,a3,()),())) (natc a3 fun a10=>ltc a10 (ByteArray.size a2) (cd ((((bAt a2 a10):Nat):Int)≠95) (natc a3 fun a11=>ltc a11 (ByteArray.size a2) (cd ((((bAt a2 a11):Nat):Int)≠45) sF (J6 ((a2,a3,()),())))) (J6 ((a2,a3,()),())))))) (natc a3 fun a12=>ltc a12 (ByteArray.size a2) (cd (122<(((bAt a2 a12):Nat):Int)) (natc a3 fun a13=>ltc a13 (ByteArray.size a2) (optc (Qi2 fu (((bAt a2 a13):Nat):Int)) fun a14=>cnd a14 (J6 ((a2,a3,()),())) (natc a3 fun a15=>ltc a15 (ByteArray.size a2) (cd ((((bAt a2 a15):Nat):Int)≠95) (natc a3 fun a16=>ltc a16 (ByteArray.size a2) (cd ((((bAt a2 a16):Nat):Int)≠45) sF (J6 ((a2,a3,()),())))) (J6 ((a2,a3,()),())))))) (J6 ((a2,a3,()),())))))) sT) fu ((a0,0,()),())) fun J17=>cd ((((ByteArray.size p0):Nat):Int)<1) sF (cd (24<(((ByteArray.size p0):Nat):Int)) sF (natc 0 fun a18=>ltc a18 (ByteArray.size p0) (cd ((((bAt p0 a18):Nat):Int)<97) sF (natc 0 fun a19=>ltc a19 (ByteArray.size p0) (cd (122<(((bAt p0 a19):Nat):Int)) sF (J17 ((p0,()),())))))))
theorem Qe3:FO 207 (sB [.one .str] fun x=>QdZ fu x.1):=fI fu (.two .go (.two (.join [(0,.one .str)] [] .go) (lp [(0,.one .str),ni 3] [] (.two .go (.two (.join [(0,.one .str),ni 3] [] .go) .go))))) kz0 (eC (Qnf fu) eN) Tryz.func207
def Qau(fu:Nat)(p0:Int)(p1:Int)(p2:Int):Option Bool:=cd (p1≤p0) (cd (p0≤p2) sT sF) sF
theorem Qdd:FO 273 (sB [nI,nI,nI] fun x=>Qau fu x.1 x.2.1 x.2.2.1):=fI fu .go kz0 eN Tryz.func273
def Qna(p0:D.YearRule):Option Bool:=optc (Qau fu p0.From 1970 2240) fun a0=>cnd a0 (optc (Qau fu p0.To p0.From 2240) fun a1=>cnd a1 (optc (Qau fu p0.Month 1 12) fun a2=>cnd a2 (optc (Qau fu p0.Week 1 5) fun a3=>cnd a3 (optc (Qau fu p0.Weekday 0 6) fun a4=>cnd a4 (optc (Qau fu p0.Second 0 86399) fun a5=>cnd a5 (optc (Qau fu p0.Offset (-64800) 64800) fun a6=>cnd a6 sT sF) sF) sF) sF) sF) sF) sF
theorem Qnb:FO 274 (sB [.st .YearRule] fun x=>Qna fu x.1):=fI fu .go kz0 (eC (Qdd fu) eN) Tryz.func274
def Qlq(fu:Nat)(p0:Int):Option Int:=nzc 4 (nzc 100 (nzc 400 (some (wrap .i64 ((wrap .i64 ((wrap .i64 ((wrap .i64 ((wrap .i64 (p0 - 1970))*365))+(wrap .i64 (Int.tdiv (wrap .i64 (p0 - 1969)) 4)))) - (wrap .i64 (Int.tdiv (wrap .i64 (p0 - 1901)) 100))))+(wrap .i64 (Int.tdiv (wrap .i64 (p0 - 1601)) 400)))))))
theorem QiY:FO 252 (sI [nI] fun x=>Qlq fu x.1):=fI fu .go kz0 eN Tryz.func252
def QpF(fu:Nat)(p0:Int):Option Bool:=nzc 4 (cd ((Int.tmod p0 4)=0) (nzc 100 (cd ((Int.tmod p0 100)≠0) sT (nzc 400 (cd ((Int.tmod p0 400)=0) sT sF)))) sF)
theorem Qox:FO 322 (sB [nI] fun x=>QpF fu x.1):=fI fu .go kz0 eN Tryz.func322
def Qhy(p0:Int)(p1:Int):Option Int:=join (Y:=((Int×Int×Bool×Unit)×Unit)) (fun((a0,a1,a2,_),_)=>cnd a2 (some 31) (join (Y:=((Int×Int×Bool×Unit)×Unit)) (fun((a3,a4,a5,_),_)=>cnd a5 (some 30) (cd (a4=2) (optc (QpF fu a3) fun a6=>cnd a6 (some 29) (some 28)) (some 0))) fun J7=>cd (a1=4) (J7 ((a0,a1,(decide (a1=4)),()),())) (cd (a1=6) (J7 ((a0,a1,(decide (a1=6)),()),())) (cd (a1=9) (J7 ((a0,a1,(decide (a1=9)),()),())) (J7 ((a0,a1,(decide (a1=11)),()),())))))) fun J8=>cd (p1=1) (J8 ((p0,p1,(decide (p1=1)),()),())) (cd (p1=3) (J8 ((p0,p1,(decide (p1=3)),()),())) (cd (p1=5) (J8 ((p0,p1,(decide (p1=5)),()),())) (cd (p1=7) (J8 ((p0,p1,(decide (p1=7)),()),())) (cd (p1=8) (J8 ((p0,p1,(decide (p1=8)),()),())) (cd (p1=10) (J8 ((p0,p1,(decide (p1=10)),()),())) (J8 ((p0,p1,(decide (p1=12)),()),())))))))
theorem Qe2:FO 305 (sI [nI,nI] fun x=>Qhy fu x.1 x.2.1):=fI fu (.two .go (.two (.two .go (.one (.two (.join [ni 0,ni 5,(6,.one .boo)] [] .go) (.two .go (.two (.join [ni 0,ni 5,(14,.one .boo)] [] .go) .go))))) .go)) kz0 (eC (Qox fu) eN) Tryz.func305
def Qm7(p0:D.Date):Option Bool:=cd (1970≤p0.Year) (cd (p0.Year≤2240) (cd (1≤p0.Month) (cd (p0.Month≤12) (cd (1≤p0.Day) (optc (Qhy fu p0.Year p0.Month) fun a0=>cd (p0.Day≤a0) sT sF) sF) sF) sF) sF) sF
theorem Qm8:FO 321 (sB [.st .Date] fun x=>Qm7 fu x.1):=fI fu .go kz0 (eC (Qe2 fu) eN) Tryz.func321
def Qsy(p0:D.Date):Option (Int×Int):=optc (Qm7 fu p0) fun a0=>cnd (!a0) (some (0,1)) (optc (Qlq fu p0.Year) fun a1=>Qj (X:=((Int×Int×Unit)×D.Date×Unit)) (fun L2 ((a3,a4,_),a5,_)=>cd (a4<a5.Month) (optc (Qhy fu a5.Year a4) fun a6=>L2 (((wrap .i64 (a3+a6)),(wrap .i64 (a4+1)),()),a5,())) (some ((wrap .i64 ((wrap .i64 (a3+a5.Day)) - 1)),0))) fu ((a1,1,()),p0,()))
theorem Qqq:FO 303 (Qf [.st .Date] [] [nI,nI] [] [] (Int×Int) kz3 (fun x y=>Qsy fu x.1)):=fI fu (gs 3 (lp [rf 1,ni 4,ni 5] [bx 1001 .Date] .go)) kz4 (eC (QiY fu) (eC (Qe2 fu) (eC (Qm8 fu) eN))) Tryz.func303
def Qcg(fu:Nat)(p0:Int):Option Int:=nzc 7 (nzc 7 (some (Int.tmod (wrap .i64 ((Int.tmod p0 7)+10)) 7)))
theorem Qet:FO 304 (sI [nI] fun x=>Qcg fu x.1):=fI fu .go kz0 eN Tryz.func304
def Qsz(p0:Int)(p1:Int)(p2:Int)(p3:Int):Option (Int×Int):=optc (Qsy fu (D.Date.mk p0 p1 1)) fun(a0,a1)=>join (Y:=(P5×Unit)) (fun((a2,a3,a4,a5,a6,_),_)=>Qj (X:=(P6×Unit)) (fun L7 ((a8,a9,a10,a11,a12,a13,_),_)=>optc (Qcg fu a13) fun a14=>cd (a14≠a11) (L7 ((a8,a9,a10,a11,a12,(wrap .i64 (a13+1)),()),())) (cd (a10<5) (some ((wrap .i64 (a13+(wrap .i64 (7*(wrap .i64 (a10 - 1)))))),0)) (Qj (X:=(P4×Unit)) (fun L15 ((a16,a17,a18,a19,_),_)=>optc (Qhy fu a16 a17) fun a20=>cd ((wrap .i64 (a19+7))<(wrap .i64 (a18+a20))) (L15 ((a16,a17,a18,(wrap .i64 (a19+7)),()),())) (some (a19,0))) fu ((a8,a9,a12,a13,()),())))) fu ((a2,a3,a4,a5,a6,a6,()),())) fun J21=>cd (a1≠0) (some (0,1)) (cd (p2<1) (some (0,1)) (cd (5<p2) (some (0,1)) (cd (p3<0) (some (0,1)) (cd (6<p3) (some (0,1)) (J21 ((p0,p1,p2,p3,a0,()),()))))))
theorem Qqr:FO 287 (Qf [nI,nI,nI,nI] [] [nI,nI] [] [] (Int×Int) kz3 (fun x y=>Qsz fu x.1 x.2.1 x.2.2.1 x.2.2.2.1)):=fI fu (gs 2 (.two (.join [ni 0,ni 1,ni 2,ni 3,ni 10] [] .go) (.two .go (.two (.one (.loop [ni 0,ni 1,ni 2,ni 3,ni 10,ni 12] [] .go)) (.two .go (.two (.one (.loop [ni 0,ni 1,ni 10,ni 12] [] .go)) .go)))))) kz4 (eC (Qqq fu) (eC (Qet fu) (eC (Qe2 fu) eN))) Tryz.func287
def Qde(p0:List D.YearRule):Option (List D.Occurrence):=Qj (X:=((List D.YearRule×Int×Unit)×List D.Occurrence×Unit)) (fun L0 ((a1,a2,_),a3,_)=>cd (a2<((a1.length:Nat):Int)) (atc a1 a2 fun a4=>Qj (X:=((List D.YearRule×Int×Int×Unit)×List D.Occurrence×Unit)) (fun L5 ((a6,a7,a8,_),a9,_)=>atc a6 a7 fun a10=>cd (a8≤a10.To) (atc a6 a7 fun a11=>atc a6 a7 fun a12=>atc a6 a7 fun a13=>optc (Qsz fu a8 a11.Month a12.Week a13.Weekday) fun(a14,a15)=>atc a6 a7 fun a16=>atc a6 a7 fun a17=>join (Y:=((List D.YearRule×Int×Int×Int×Unit)×D.Occurrence×List D.Occurrence×Unit)) (fun((a18,a19,a20,a21,_),a22,a23,_)=>lec (a23.length+(List.length (a22::[]))) 34359738368 (natc (wrap .i64 (a21+1)) fun a24=>lec a24 (List.length (a23++(a22::[]))) (natc a21 fun a25=>lec a25 (List.length (a23++(a22::[]))) (chk (List.length (a23++(a22::[]))) (List.length (a23++(a22::[]))) (chk (List.length (a23++(a22::[]))) (List.length (a23++(a22::[]))) (lec a24 (List.length (a23++(a22::[]))) (lec a25 a24 (natc a21 fun a26=>ltc a26 (List.length ((List.take a24 (a23++(a22::[])))++(List.take ((List.length (a23++(a22::[]))) - a24) (List.drop a25 (a23++(a22::[])))))) (optc (GetElem?.getElem? ((List.take a24 (a23++(a22::[])))++(List.take ((List.length (a23++(a22::[]))) - a24) (List.drop a25 (a23++(a22::[]))))) a26) fun a27=>L5 ((a18,a19,(wrap .i64 (a20+1)),()),(List.set ((List.take a24 (a23++(a22::[])))++(List.take ((List.length (a23++(a22::[]))) - a24) (List.drop a25 (a23++(a22::[]))))) a26 a22),())))))))))) fun J28=>Qj (X:=((List D.YearRule×Int×Int×Int×Unit)×D.Occurrence×List D.Occurrence×Unit)) (fun L29 ((a30,a31,a32,a33,_),a34,a35,_)=>join (Y:=((List D.YearRule×Int×Int×Int×Unit)×D.Occurrence×List D.Occurrence×Unit)) (fun((a36,a37,a38,a39,_),a40,a41,_)=>L29 ((a36,a37,a38,(wrap .i64 (a39 - 1)),()),a40,a41,())) fun J42=>cd (0<a33) (natc (wrap .i64 (a33 - 1)) fun a43=>ltc a43 a35.length (optc (GetElem?.getElem? a35 a43) fun a44=>cd (a34.At<a44.At) (J42 ((a30,a31,a32,a33,()),a34,a35,())) (J28 ((a30,a31,a32,a33,()),a34,a35,())))) (J28 ((a30,a31,a32,a33,()),a34,a35,()))) fu ((a6,a7,a8,((a9.length:Nat):Int),()),(D.Occurrence.mk (wrap .i64 ((wrap .i64 (a14*86400))+a16.Second)) a17.Offset),a9,())) (L0 ((a6,(wrap .i64 (a7+1)),()),a9,()))) fu ((a1,a2,a4.From,()),a3,())) (some a3)) fu ((p0,0,()),[],())
theorem QfK:FO 275 (Qf [.one (.lst .YearRule)] [] [.one (.lst .Occurrence)] [] [] (List D.Occurrence) kz1 (fun x y=>Qde fu x.1)):=fI fu (gs 2 (lp [li 0 .YearRule,(3,.one (.own 1084)),ni 4] [ar 1084 .Occurrence] (.two .go (.two (.one (.two .go (.one (.loop [li 0 .YearRule,(3,.one (.own 1084)),ni 4,ni 5] [ar 1084 .Occurrence] (.two .go (.two (.one (gs 3 (.two (.join [li 0 .YearRule,(3,.one (.own 1084)),ni 4,ni 5,rf 8,ni 9] [bx 1008 .Occurrence,ar 1084 .Occurrence] (.one (.loop [li 0 .YearRule,(3,.one (.own 1084)),ni 4,ni 5,rf 8,ni 9] [bx 1008 .Occurrence,ar 1084 .Occurrence] (.two (.join [li 0 .YearRule,(3,.one (.own 1084)),ni 4,ni 5,rf 8,ni 9] [bx 1008 .Occurrence,ar 1084 .Occurrence] .go) .go)))) .go))) .go)))))) .go)))) kz0 (eC (Qqr fu) eN) Tryz.func275
def X9(p0:D.Zone):Option (List D.Transition×Int):=optc (Qau fu p0.Offset (-64800) 64800) fun a0=>cnd (!a0) (some ([],1)) (cd (16<((p0.Rules.length:Nat):Int)) (some ([],5)) (Qj (X:=((Int×Int×Unit)×D.Zone×Unit)) (fun L1 ((a2,a3,_),a4,_)=>cd (a3<((a4.Rules.length:Nat):Int)) (atc a4.Rules a3 fun a5=>optc (Qna fu a5) fun a6=>cnd (!a6) (some ([],1)) (atc a4.Rules a3 fun a7=>atc a4.Rules a3 fun a8=>L1 (((wrap .i64 (a2+(wrap .i64 ((wrap .i64 (a7.To - a8.From))+1)))),(wrap .i64 (a3+1)),()),a4,()))) (cd (640<a2) (some ([],5)) (optc (Qde fu a4.Rules) fun a9=>Qj (X:=((List D.Occurrence×Int×Int×Unit)×List D.Transition×Unit)) (fun L10 ((a11,a12,a13,_),a14,_)=>cd (a13<((a11.length:Nat):Int)) (join (Y:=((List D.Occurrence×Int×Int×Unit)×List D.Transition×Unit)) (fun((a15,a16,a17,_),a18,_)=>L10 ((a15,a16,(wrap .i64 (a17+1)),()),a18,())) fun J19=>atc a11 a13 fun a20=>cd (a20.Offset=a12) (J19 ((a11,a12,a13,()),a14,())) (atc a11 a13 fun a21=>atc a11 a13 fun a22=>join (Y:=((List D.Occurrence×Int×Unit)×D.Transition×List D.Transition×Unit)) (fun((a23,a24,_),a25,a26,_)=>lec (a26.length+(List.length (a25::[]))) 34359738368 (J19 ((a23,a25.Offset,a24,()),(a26++(a25::[])),()))) fun J27=>optc (Qau fu (wrap .i64 (a22.Offset - a12)) (-86399) 86399) fun a28=>cnd a28 (optc (Qau fu (wrap .i64 (a21.At - a12)) 0 8589934592) fun a29=>cnd a29 (cd (0<((a14.length:Nat):Int)) (natc (wrap .i64 (((a14.length:Nat):Int) - 1)) fun a30=>ltc a30 a14.length (optc (GetElem?.getElem? a14 a30) fun a31=>cd ((wrap .i64 ((wrap .i64 (a21.At - a12)) - a31.At))<604800) (some ([],6)) (J27 ((a11,a13,()),(D.Transition.mk (wrap .i64 (a21.At - a12)) a22.Offset),a14,())))) (J27 ((a11,a13,()),(D.Transition.mk (wrap .i64 (a21.At - a12)) a22.Offset),a14,()))) (some ([],6))) (some ([],6)))) (some (a14,0))) fu ((a9,a4.Offset,0,()),[],())))) fu ((0,0,()),p0,())))
theorem Vs:FO 251 (Qf [.st .Zone] [] [.one (.lst .Transition),nI] [] [] (List D.Transition×Int) kz3 (fun x y=>X9 fu x.1)):=fI fu (gs 4 (.two (.two .go (.one (.loop [rf 1,ni 4,ni 5] [bx 1001 .Zone] .go))) (gs 4 (lp [(6,.one (.own 1115)),li 7 .Occurrence,ni 8,ni 9] [ar 1115 .Transition] (.two .go (.two (.join [(6,.one (.own 1115)),li 7 .Occurrence,ni 8,ni 9] [ar 1115 .Transition] (.one (gs 2 (.two (.join [(6,.one (.own 1115)),li 7 .Occurrence,ni 9,rf 10] [bx 1010 .Transition,ar 1115 .Transition] .go) .go)))) .go)))))) kz4 (eC (Qdd fu) (eC (Qnb fu) (eC (QfK fu) eN))) Tryz.func251
def QbA(p0:D.Zone):Option Int:=optc (X9 fu p0) fun(a0,a1)=>some a1
theorem Qg1:FO 199 (sI [.st .Zone] fun x=>QbA fu x.1):=fI fu .go kz0 (eC (Vs fu) eN) Tryz.func199
def Qe4(p0:D.Zone):Option Bool:=nzc 60 (Qj (X:=((Bool×Int×Unit)×D.Zone×Unit)) (fun L0 ((a1,a2,_),a3,_)=>cd (a2<((a3.Rules.length:Nat):Int)) (join (Y:=((Bool×Int×Unit)×D.Zone×Unit)) (fun((a4,a5,_),a6,_)=>L0 ((a4,(wrap .i64 (a5+1)),()),a6,())) fun J7=>cnd a1 (atc a3.Rules a2 fun a8=>nzc 60 (cd ((Int.tmod a8.Offset 60)=0) (J7 ((true,a2,()),a3,())) (J7 ((false,a2,()),a3,())))) (J7 ((false,a2,()),a3,()))) (some a1)) fu (((decide ((Int.tmod p0.Offset 60)=0)),0,()),p0,()))
theorem QjM:FO 200 (sB [.st .Zone] fun x=>Qe4 fu x.1):=fI fu (gs 2 (lp [rf 1,(3,.one .boo),ni 4] [bx 1001 .Zone] (.two .go (.two (.join [rf 1,(3,.one .boo),ni 4] [bx 1001 .Zone] .go) .go)))) kz0 eN Tryz.func200
def XO(p0:List ByteArray)(p1:Int):Option Int:=natc p1 fun a0=>ltc a0 p0.length (optc (GetElem?.getElem? p0 a0) fun a1=>optc (QdZ fu a1) fun a2=>cnd (!a2) (sameC p0 p0 (some 2)) (Qj (X:=((Int×Int×Unit)×List ByteArray×Unit)) (fun L3 ((a4,a5,_),a6,_)=>cd (a5<a4) (natc a5 fun a7=>ltc a7 a6.length (optc (GetElem?.getElem? a6 a7) fun a8=>natc a4 fun a9=>ltc a9 a6.length (optc (GetElem?.getElem? a6 a9) fun a10=>cd (a8=a10) (sameC a6 p0 (some 4)) (L3 ((a4,(wrap .i64 (a5+1)),()),a6,()))))) (sameC a6 p0 (some 0))) fu ((p1,0,()),p0,())))
theorem UY:FO 198 (Qf [.one (.own 101),nI] [ar 101 .str] [nI] [] [101] Int kz1 (fun x y=>XO fu y.1 x.1)):=fI fu (gs 2 (lp [(0,.one (.own 101)),ni 1,ni 5] [ar 101 .str] .go)) kz0 (eC (Qe3 fu) eN) Tryz.func198
def QfM(p0:D.Config):Option Int:=Qj (X:=((Int×Unit)×D.Config×List ByteArray×Unit)) (fun L0 ((a1,_),a2,a3,_)=>cd (a1<((a2.Zones.length:Nat):Int)) (join (Y:=((Int×Unit)×D.Config×List ByteArray×Unit)) (fun((a4,_),a5,a6,_)=>L0 (((wrap .i64 (a4+1)),()),a5,a6,())) fun J7=>atc a2.Zones a1 fun a8=>lec (a3.length+(List.length (a8.Name::[]))) 34359738368 (optc (XO fu (a3++(a8.Name::[])) a1) fun a9=>cd (a9≠0) (some a9) (atc a2.Zones a1 fun a10=>optc (QbA fu a10) fun a11=>cd (a11≠0) (some 8) (atc a2.Zones a1 fun a12=>optc (Qe4 fu a12) fun a13=>cnd a13 (J7 ((a1,()),a2,(a3++(a8.Name::[])),())) (some 8))))) (some 0)) fu ((0,()),p0,[],())
theorem Qni:FO 133 (sI [.st .Config] fun x=>QfM fu x.1):=fI fu (gs 2 (lp [rf 1,(3,.one (.own 1021)),ni 4] [bx 1001 .Config,ar 1021 .str] (.two .go (.two (.join [rf 1,(3,.one (.own 1021)),ni 4] [bx 1001 .Config,ar 1021 .str] .go) .go)))) kz0 (eC (UY fu) (eC (Qg1 fu) (eC (QjM fu) eN))) Tryz.func133
def Vu(fu:Nat)(p0:Int)(p1:Int)(p2:Int):Option Bool:=cd (p1≤p0) (cd (p0≤p2) sT sF) sF
theorem Qdg:FO 201 (sB [nI,nI,nI] fun x=>Vu fu x.1 x.2.1 x.2.2.1):=fI fu .go kz0 eN Tryz.func201
def Qav(p0:List D.Window):Option Int:=cd (14<((p0.length:Nat):Int)) (some 5) (Qj (X:=((List D.Window×Int×Unit)×Unit)) (fun L0 ((a1,a2,_),_)=>cd (a2<((a1.length:Nat):Int)) (join (Y:=((List D.Window×Int×Unit)×Unit)) (fun((a3,a4,_),_)=>L0 ((a3,(wrap .i64 (a4+1)),()),())) fun J5=>join (Y:=((List D.Window×Int×Unit)×Unit)) (fun((a6,a7,_),_)=>cd (0<a7) (atc a6 a7 fun a8=>atc a6 (wrap .i64 (a7 - 1)) fun a9=>cd (a8.From<a9.To) (some 6) (J5 ((a6,a7,()),()))) (J5 ((a6,a7,()),()))) fun J10=>atc a1 a2 fun a11=>cd (a11.From<0) (some 1) (atc a1 a2 fun a12=>atc a1 a2 fun a13=>cd (a13.To≤a12.From) (some 1) (atc a1 a2 fun a14=>cd (604800<a14.To) (some 1) (J10 ((a1,a2,()),()))))) (some 0)) fu ((p0,0,()),()))
theorem Qdf:FO 202 (sI [.one (.lst .Window)] fun x=>Qav fu x.1):=fI fu (gs 2 (lp [li 0 .Window,ni 3] [] (.two .go (.two (.join [li 0 .Window,ni 3] [] (.one (.two (.join [li 0 .Window,ni 3] [] .go) .go))) .go)))) kz0 eN Tryz.func202
def QbC(p0:Int):Option Bool:=optc (Vu fu p0 0 604800) fun a0=>cnd a0 (nzc 3600 (cd ((Int.tmod p0 3600)=0) sT sF)) sF
theorem Qng:FO 203 (sB [nI] fun x=>QbC fu x.1):=fI fu .go kz0 (eC (Qdg fu) eN) Tryz.func203
def Qd0(p0:D.Config):Option Int:=Qj (X:=((Int×Unit)×D.Config×List ByteArray×Unit)) (fun L0 ((a1,_),a2,a3,_)=>cd (a1<((a2.People.length:Nat):Int)) (join (Y:=((Int×Unit)×D.Config×List ByteArray×Unit)) (fun((a4,_),a5,a6,_)=>L0 (((wrap .i64 (a4+1)),()),a5,a6,())) fun J7=>atc a2.People a1 fun a8=>lec (a3.length+(List.length (a8.Name::[]))) 34359738368 (cd (a8.Name=(ByteArray.mk (List.toArray (110::(111::(98::(111::(100::(121::[]))))))))) (some 2) (optc (XO fu (a3++(a8.Name::[])) a1) fun a9=>cd (a9≠0) (some a9) (optc (Vu fu a8.Zone 0 (wrap .i64 (((a2.Zones.length:Nat):Int) - 1))) fun a10=>cnd (!a10) (some 3) (optc (Qav fu a8.Quiet) fun a11=>cd (a11≠0) (some 8) (optc (QbC fu a8.MaxWeek) fun a12=>cnd a12 (optc (QbC fu a8.MinRest) fun a13=>cnd a13 (J7 ((a1,()),a2,(a3++(a8.Name::[])),())) (some 1)) (some 1))))))) (some 0)) fu ((0,()),p0,[],())
theorem Qlv:FO 134 (sI [.st .Config] fun x=>Qd0 fu x.1):=fI fu (gs 2 (lp [rf 1,(3,.one (.own 1023)),ni 4] [bx 1001 .Config,ar 1023 .str] (.two .go (.two (.join [rf 1,(3,.one (.own 1023)),ni 4] [bx 1001 .Config,ar 1023 .str] .go) .go)))) kz0 (eC (UY fu) (eC (Qdg fu) (eC (Qdf fu) (eC (Qng fu) eN)))) Tryz.func134
def Zb:Option Int:=optc (Qlq fu 2241) fun a0=>some (wrap .i64 (a0 - 1))
theorem Qcf:FO 204 (sI [] fun x=>Zb fu):=fI fu .go kz0 (eC (QiY fu) eN) Tryz.func204
def UX(p0:D.Config):Option Int:=Qj (X:=((Int×Unit)×D.Config×List ByteArray×Unit)) (fun L0 ((a1,_),a2,a3,_)=>cd (a1<((a2.Calendars.length:Nat):Int)) (atc a2.Calendars a1 fun a4=>lec (a3.length+(List.length (a4.Name::[]))) 34359738368 (optc (XO fu (a3++(a4.Name::[])) a1) fun a5=>cd (a5≠0) (some a5) (optc (Vu fu a4.Zone 0 (wrap .i64 (((a2.Zones.length:Nat):Int) - 1))) fun a6=>cnd (!a6) (some 3) (cd (64<((a4.Days.length:Nat):Int)) (some 5) (Qj (X:=((Int×Int×Unit)×D.Config×D.Calendar×List ByteArray×Unit)) (fun L7 ((a8,a9,_),a10,a11,a12,_)=>cd (a9<((a11.Days.length:Nat):Int)) (atc a11.Days a9 fun a13=>optc (Zb fu) fun a14=>optc (Vu fu a13 0 a14) fun a15=>cnd (!a15) (some 1) (L7 ((a8,(wrap .i64 (a9+1)),()),a10,a11,a12,()))) (Qj (X:=((Int×Int×Unit)×D.Config×D.Calendar×List ByteArray×Unit)) (fun L16 ((a17,a18,_),a19,a20,a21,_)=>cd (a18<((a20.Days.length:Nat):Int)) (atc a20.Days a18 fun a22=>atc a20.Days (wrap .i64 (a18 - 1)) fun a23=>cd (a22≤a23) (some 6) (L16 ((a17,(wrap .i64 (a18+1)),()),a19,a20,a21,()))) (L0 (((wrap .i64 (a17+1)),()),a19,a21,()))) fu ((a8,1,()),a10,a11,a12,()))) fu ((a1,0,()),a2,a4,(a3++(a4.Name::[])),())))))) (some 0)) fu ((0,()),p0,[],())
theorem Qhg:FO 135 (sI [.st .Config] fun x=>UX fu x.1):=fI fu (gs 2 (lp [rf 1,(3,.one (.own 1025)),ni 4] [bx 1001 .Config,ar 1025 .str] (.two .go (.two (.one (gs 5 (.two (.two .go (.one (.loop [rf 1,(3,.one (.own 1025)),ni 4,rf 5,ni 7] [bx 1001 .Config,bx 1005 .Calendar,ar 1025 .str] .go))) (.two .go (.one (.loop [rf 1,(3,.one (.own 1025)),ni 4,rf 5,ni 8] [bx 1001 .Config,bx 1005 .Calendar,ar 1025 .str] .go)))))) .go)))) kz0 (eC (UY fu) (eC (Qdg fu) (eC (Qcf fu) eN))) Tryz.func135
def Qdh(p0:D.Config)(p1:D.Layer):Option Int:=join (Y:=(Unit×D.Config×D.Layer×Unit)) (fun(_,a0,a1,_)=>Qj (X:=((Int×Unit)×D.Config×D.Layer×Unit)) (fun L2 ((a3,_),a4,a5,_)=>cd (a3<((a5.Members.length:Nat):Int)) (atc a5.Members a3 fun a6=>optc (Vu fu a6 0 (wrap .i64 (((a4.People.length:Nat):Int) - 1))) fun a7=>cnd (!a7) (some 3) (L2 (((wrap .i64 (a3+1)),()),a4,a5,()))) (join (Y:=(Unit×Unit)) (fun(_,_)=>some 0) fun J8=>optc (Qav fu a5.Windows) fun a9=>cd (a9≠0) (some 8) (optc (Vu fu a5.Mode 0 2) fun a10=>cnd (!a10) (some 1) (cd (a5.Mode≠0) (optc (Vu fu a5.Calendar 0 (wrap .i64 (((a4.Calendars.length:Nat):Int) - 1))) fun a11=>cnd a11 (cd (a5.Mode=0) (cd (a5.Calendar≠0) (some 1) (J8 ((),()))) (J8 ((),()))) (some 3)) (cd (a5.Mode=0) (cd (a5.Calendar≠0) (some 1) (J8 ((),()))) (J8 ((),()))))))) fu ((0,()),a0,a1,())) fun J12=>optc (Vu fu p1.Zone 0 (wrap .i64 (((p0.Zones.length:Nat):Int) - 1))) fun a13=>cnd (!a13) (some 3) (optc (Zb fu) fun a14=>optc (Vu fu p1.Start.Day 1 a14) fun a15=>cnd a15 (optc (Vu fu p1.Start.Second 0 86399) fun a16=>cnd a16 (optc (Vu fu p1.Unit 0 2) fun a17=>cnd a17 (optc (Vu fu p1.Every 1 400) fun a18=>cnd a18 (cd (((p1.Members.length:Nat):Int)=0) (some 7) (cd (12<((p1.Members.length:Nat):Int)) (some 5) (J12 ((),p0,p1,())))) (some 1)) (some 1)) (some 1)) (some 1))
theorem Qnh:FO 205 (sI [.st .Config,.st .Layer] fun x=>Qdh fu x.1 x.2.1):=fI fu (.two .go (.two (.join [rf 2,rf 3] [bx 1002 .Config,bx 1003 .Layer] .go) (.two (.two .go (.one (.loop [rf 2,rf 3,ni 5] [bx 1002 .Config,bx 1003 .Layer] .go))) (.two (.join [] [] .go) .go)))) kz0 (eC (Qdg fu) (eC (Qdf fu) (eC (Qcf fu) eN))) Tryz.func205
def Qhz(p0:D.Config)(p1:D.Edit):Option Int:=join (Y:=(Unit×Unit)) (fun(_,_)=>some 0) fun J0=>optc (Vu fu p1.Kind 0 2) fun a1=>cnd (!a1) (some 1) (optc (Vu fu p1.A 0 (wrap .i64 (((p0.People.length:Nat):Int) - 1))) fun a2=>cnd a2 (cd (p1.Kind=2) (optc (Vu fu p1.B 0 (wrap .i64 (((p0.People.length:Nat):Int) - 1))) fun a3=>cnd a3 (cd (p1.Kind≠2) (cd (p1.B≠0) (some 1) (cd (p1.Kind=2) (cd (p1.A=p1.B) (some 4) (cd (p1.From<0) (some 1) (cd (p1.To<0) (some 1) (nzc 86400 (optc (Zb fu) fun a4=>cd (a4<(wrap .i64 (Int.tdiv p1.To 86400))) (some 1) (cd (p1.To≤p1.From) (some 6) (J0 ((),())))))))) (cd (p1.From<0) (some 1) (cd (p1.To<0) (some 1) (nzc 86400 (optc (Zb fu) fun a5=>cd (a5<(wrap .i64 (Int.tdiv p1.To 86400))) (some 1) (cd (p1.To≤p1.From) (some 6) (J0 ((),()))))))))) (cd (p1.Kind=2) (cd (p1.A=p1.B) (some 4) (cd (p1.From<0) (some 1) (cd (p1.To<0) (some 1) (nzc 86400 (optc (Zb fu) fun a6=>cd (a6<(wrap .i64 (Int.tdiv p1.To 86400))) (some 1) (cd (p1.To≤p1.From) (some 6) (J0 ((),())))))))) (cd (p1.From<0) (some 1) (cd (p1.To<0) (some 1) (nzc 86400 (optc (Zb fu) fun a7=>cd (a7<(wrap .i64 (Int.tdiv p1.To 86400))) (some 1) (cd (p1.To≤p1.From) (some 6) (J0 ((),()))))))))) (some 3)) (cd (p1.Kind≠2) (cd (p1.B≠0) (some 1) (cd (p1.Kind=2) (cd (p1.A=p1.B) (some 4) (cd (p1.From<0) (some 1) (cd (p1.To<0) (some 1) (nzc 86400 (optc (Zb fu) fun a8=>cd (a8<(wrap .i64 (Int.tdiv p1.To 86400))) (some 1) (cd (p1.To≤p1.From) (some 6) (J0 ((),())))))))) (cd (p1.From<0) (some 1) (cd (p1.To<0) (some 1) (nzc 86400 (optc (Zb fu) fun a9=>cd (a9<(wrap .i64 (Int.tdiv p1.To 86400))) (some 1) (cd (p1.To≤p1.From) (some 6) (J0 ((),()))))))))) (cd (p1.Kind=2) (cd (p1.A=p1.B) (some 4) (cd (p1.From<0) (some 1) (cd (p1.To<0) (some 1) (nzc 86400 (optc (Zb fu) fun a10=>cd (a10<(wrap .i64 (Int.tdiv p1.To 86400))) (some 1) (cd (p1.To≤p1.From) (some 6) (J0 ((),())))))))) (cd (p1.From<0) (some 1) (cd (p1.To<0) (some 1) (nzc 86400 (optc (Zb fu) fun a11=>cd (a11<(wrap .i64 (Int.tdiv p1.To 86400))) (some 1) (cd (p1.To≤p1.From) (some 6) (J0 ((),())))))))))) (cd (p1.Kind≠1) (some 3) (cd (p1.A≠(-1)) (some 3) (cd (p1.Kind=2) (optc (Vu fu p1.B 0 (wrap .i64 (((p0.People.length:Nat):Int) - 1))) fun a12=>cnd a12 (cd (p1.Kind≠2) (cd (p1.B≠0) (some 1) (cd (p1.Kind=2) (cd (p1.A=p1.B) (some 4) (cd (p1.From<0) (some 1) (cd (p1.To<0) (some 1) (nzc 86400 (optc (Zb fu) fun a13=>cd (a13<(wrap .i64 (Int.tdiv p1.To 86400))) (some 1) (cd (p1.To≤p1.From) (some 6) (J0 ((),())))))))) (cd (p1.From<0) (some 1) (cd (p1.To<0) (some 1) (nzc 86400 (optc (Zb fu) fun a14=>cd (a14<(wrap .i64 (Int.tdiv p1.To 86400))) (some 1) (cd (p1.To≤p1.From) (some 6) (J0 ((),()))))))))) (cd (p1.Kind=2) (cd (p1.A=p1.B) (some 4) (cd (p1.From<0) (some 1) (cd (p1.To<0) (some 1) (nzc 86400 (optc (Zb fu) fun a15=>cd (a15<(wrap .i64 (Int.tdiv p1.To 86400))) (some 1) (cd (p1.To≤p1.From) (some 6) (J0 ((),())))))))) (cd (p1.From<0) (some 1) (cd (p1.To<0) (some 1) (nzc 86400 (optc (Zb fu) fun a16=>cd (a16<(wrap .i64 (Int.tdiv p1.To 86400))) (some 1) (cd (p1.To≤p1.From) (some 6) (J0 ((),()))))))))) (some 3)) (cd (p1.Kind≠2) (cd (p1.B≠0) (some 1) (cd (p1.Kind=2) (cd (p1.A=p1.B) (some 4) (cd (p1.From<0) (some 1) (cd (p1.To<0) (some 1) (nzc 86400 (optc (Zb fu) fun a17=>cd (a17<(wrap .i64 (Int.tdiv p1.To 86400))) (some 1) (cd (p1.To≤p1.From) (some 6) (J0 ((),())))))))) (cd (p1.From<0) (some 1) (cd (p1.To<0) (some 1) (nzc 86400 (optc (Zb fu) fun a18=>cd (a18<(wrap .i64 (Int.tdiv p1.To 86400))) (some 1) (cd (p1.To≤p1.From) (some 6) (J0 ((),()))))))))) (cd (p1.Kind=2) (cd (p1.A=p1.B) (some 4) (cd (p1.From<0) (some 1) (cd (p1.To<0) (some 1) (nzc 86400 (optc (Zb fu) fun a19=>cd (a19<(wrap .i64 (Int.tdiv p1.To 86400))) (some 1) (cd (p1.To≤p1.From) (some 6) (J0 ((),())))))))) (cd (p1.From<0) (some 1) (cd (p1.To<0) (some 1) (nzc 86400 (optc (Zb fu) fun a20=>cd (a20<(wrap .i64 (Int.tdiv p1.To 86400))) (some 1) (cd (p1.To≤p1.From) (some 6) (J0 ((),())))))))))))))
theorem Qoy:FO 206 (sI [.st .Config,.st .Edit] fun x=>Qhz fu x.1 x.2.1):=fI fu (gs 2 (.two (.join [] [] .go) .go)) kz0 (eC (Qdg fu) (eC (Qcf fu) eN)) Tryz.func206
def UZ(p0:D.Config):Option Int:=Qj (X:=((Int×Unit)×D.Config×List ByteArray×Unit)) (fun L0 ((a1,_),a2,a3,_)=>cd (a1<((a2.Schedules.length:Nat):Int)) (atc a2.Schedules a1 fun a4=>lec (a3.length+(List.length (a4.Name::[]))) 34359738368 (optc (XO fu (a3++(a4.Name::[])) a1) fun a5=>cd (a5≠0) (some a5) (join (Y:=((Int×Unit)×D.Config×D.Schedule×List ByteArray×Unit)) (fun((a6,_),a7,a8,a9,_)=>Qj (X:=((Int×Int×Unit)×D.Config×D.Schedule×List ByteArray×List ByteArray×Unit)) (fun L10 ((a11,a12,_),a13,a14,a15,a16,_)=>cd (a12<((a14.Layers.length:Nat):Int)) (atc a14.Layers a12 fun a17=>lec (a16.length+(List.length (a17.Name::[]))) 34359738368 (optc (XO fu (a16++(a17.Name::[])) a12) fun a18=>cd (a18≠0) (some a18) (atc a14.Layers a12 fun a19=>optc (Qdh fu a13 a19) fun a20=>cd (a20≠0) (some a20) (L10 ((a11,(wrap .i64 (a12+1)),()),a13,a14,a15,(a16++(a17.Name::[])),()))))) (Qj (X:=((Int×Int×Unit)×D.Config×D.Schedule×List ByteArray×Unit)) (fun L21 ((a22,a23,_),a24,a25,a26,_)=>cd (a23<((a25.Edits.length:Nat):Int)) (atc a25.Edits a23 fun a27=>optc (Qhz fu a24 a27) fun a28=>cd (a28≠0) (some a28) (L21 ((a22,(wrap .i64 (a23+1)),()),a24,a25,a26,()))) (L0 (((wrap .i64 (a22+1)),()),a24,a26,()))) fu ((a11,0,()),a13,a14,a15,()))) fu ((a6,0,()),a7,a8,a9,[],())) fun J29=>cd (6<((a4.Layers.length:Nat):Int)) (some 5) (cd (48<((a4.Edits.length:Nat):Int)) (some 5) (J29 ((a1,()),a2,a4,(a3++(a4.Name::[])),())))))) (some 0)) fu ((0,()),p0,[],())
theorem Qhh:FO 136 (sI [.st .Config] fun x=>UZ fu x.1):=fI fu (gs 2 (lp [rf 1,(3,.one (.own 1029)),ni 4] [bx 1001 .Config,ar 1029 .str] (.two .go (.two (.one (gs 3 (.two (.join [rf 1,(3,.one (.own 1029)),ni 4,rf 5] [bx 1001 .Config,bx 1005 .Schedule,ar 1029 .str] .go) (.two .go (.two (.two .go (.one (.loop [rf 1,(3,.one (.own 1029)),ni 4,rf 5,(7,.one (.own 1061)),ni 8] [bx 1001 .Config,bx 1005 .Schedule,ar 1029 .str,ar 1061 .str] .go))) (.two .go (.one (.loop [rf 1,(3,.one (.own 1029)),ni 4,rf 5,ni 11] [bx 1001 .Config,bx 1005 .Schedule,ar 1029 .str] .go)))))))) .go)))) kz0 (eC (UY fu) (eC (Qnh fu) (eC (Qoy fu) eN))) Tryz.func136
def Vt(p0:D.Config):Option Int:=join (Y:=(Unit×D.Config×Unit)) (fun(_,a0,_)=>optc (QfM fu a0) fun a1=>cd (a1≠0) (some a1) (optc (Qd0 fu a0) fun a2=>cd (a2≠0) (some a2) (optc (UX fu a0) fun a3=>cd (a3≠0) (some a3) (optc (UZ fu a0) fun a4=>some a4)))) fun J5=>cd (16<((p0.Zones.length:Nat):Int)) (some 5) (cd (32<((p0.People.length:Nat):Int)) (some 5) (cd (8<((p0.Calendars.length:Nat):Int)) (some 5) (cd (12<((p0.Schedules.length:Nat):Int)) (some 5) (J5 ((),p0,())))))
theorem Qa3:FO 85 (sI [.st .Config] fun x=>Vt fu x.1):=fI fu (.two .go (.two (.join [rf 1] [bx 1001 .Config] .go) .go)) kz0 (eC (Qni fu) (eC (Qlv fu) (eC (Qhg fu) (eC (Qhh fu) eN)))) Tryz.func85
def Qci(p0:List Int)(p1:Int):Option Bool:=Qj (X:=((List Int×Int×Int×Unit)×Unit)) (fun L0 ((a1,a2,a3,_),_)=>cd (a3<((a1.length:Nat):Int)) (join (Y:=((List Int×Int×Int×Unit)×Unit)) (fun((a4,a5,a6,_),_)=>L0 ((a4,a5,(wrap .i64 (a6+1)),()),())) fun J7=>atc a1 a3 fun a8=>cd (a8<0) sF (atc a1 a3 fun a9=>cd (a2≤a9) sF (cd (0<a3) (atc a1 (wrap .i64 (a3 - 1)) fun a10=>atc a1 a3 fun a11=>cd (a11≤a10) sF (J7 ((a1,a2,a3,()),()))) (J7 ((a1,a2,a3,()),()))))) sT) fu ((p0,p1,0,()),())
theorem QgD:FO 91 (sB [lI,nI] fun x=>Qci fu x.1 x.2.1):=fI fu (.two .go (lp [(0,lI),ni 1,ni 5] [] (.two .go (.two (.join [(0,lI),ni 1,ni 5] [] .go) .go)))) kz0 eN Tryz.func91
def QhD(p0:D.Config)(p1:D.Book)(p2:Int):Option Int:=atc p1.Teams p2 fun a0=>optc (QdZ fu a0.Name) fun a1=>cnd (!a1) (some 8) (Qj (X:=((Int×Int×Unit)×D.Config×D.Book×D.Team×Unit)) (fun L2 ((a3,a4,_),a5,a6,a7,_)=>cd (a4<a3) (atc a6.Teams a4 fun a8=>cd (a8.Name=a7.Name) (some 4) (L2 ((a3,(wrap .i64 (a4+1)),()),a5,a6,a7,()))) (cd (((a7.Members.length:Nat):Int)=0) (some 7) (Qj (X:=((Int×Unit)×D.Config×D.Team×Unit)) (fun L9 ((a10,_),a11,a12,_)=>cd (a10<((a12.Members.length:Nat):Int)) (atc a12.Members (wrap .i64 (a10 - 1)) fun a13=>atc a12.Members a10 fun a14=>cd (a14≤a13) (some 6) (L9 (((wrap .i64 (a10+1)),()),a11,a12,()))) (optc (Qci fu a12.Members ((a11.People.length:Nat):Int)) fun a15=>cnd (!a15) (some 3) (some 0))) fu ((1,()),a5,a7,())))) fu ((p2,0,()),p0,p1,a0,()))
theorem QoG:FO 137 (sI [.st .Config,.st .Book,nI] fun x=>QhD fu x.1 x.2.1 x.2.2.1):=fI fu (gs 3 (.two (.two .go (.one (.loop [ni 2,rf 3,rf 4,rf 7,ni 8] [bx 1003 .Config,bx 1004 .Book,bx 1007 .Team] .go))) (.two .go (lp [rf 3,rf 7,ni 9] [bx 1003 .Config,bx 1007 .Team] .go)))) kz0 (eC (QgD fu) (eC (Qe3 fu) eN)) Tryz.func137
def Qcj(p0:D.Config)(p1:D.Book)(p2:List D.Target):Option Int:=cd (6<((p2.length:Nat):Int)) (some 5) (Qj (X:=((List D.Target×Int×Unit)×D.Config×D.Book×Unit)) (fun L0 ((a1,a2,_),a3,a4,_)=>cd (a2<((a1.length:Nat):Int)) (join (Y:=((List D.Target×Int×Unit)×D.Config×D.Book×Unit)) (fun((a5,a6,_),a7,a8,_)=>L0 ((a5,(wrap .i64 (a6+1)),()),a7,a8,())) fun J9=>join (Y:=((List D.Target×Int×Int×Unit)×D.Config×D.Book×Unit)) (fun((a10,a11,a12,_),a13,a14,_)=>atc a10 a11 fun a15=>cd (a15.Index<0) (some 3) (atc a10 a11 fun a16=>cd (a12≤a16.Index) (some 3) (J9 ((a10,a11,()),a13,a14,())))) fun J17=>atc a1 a2 fun a18=>cd (a18.Kind=0) (J17 ((a1,a2,((a3.People.length:Nat):Int),()),a3,a4,())) (cd (a18.Kind=1) (J17 ((a1,a2,((a3.Schedules.length:Nat):Int),()),a3,a4,())) (cd (a18.Kind=2) (J17 ((a1,a2,((a4.Teams.length:Nat):Int),()),a3,a4,())) (J17 ((a1,a2,(-1),()),a3,a4,()))))) (some 0)) fu ((p2,0,()),p0,p1,()))
theorem QjN:FO 208 (sI [.st .Config,.st .Book,.one (.lst .Target)] fun x=>Qcj fu x.1 x.2.1 x.2.2.1):=fI fu (gs 2 (lp [li 2 .Target,rf 3,rf 4,ni 7] [bx 1003 .Config,bx 1004 .Book] (.two .go (.two (.join [li 2 .Target,rf 3,rf 4,ni 7] [bx 1003 .Config,bx 1004 .Book] (.one (.two .go (.two (.join [li 2 .Target,rf 3,rf 4,ni 7,ni 8] [bx 1003 .Config,bx 1004 .Book] .go) .go)))) .go)))) kz0 eN Tryz.func208
def Qd2(p0:D.Config)(p1:D.Book)(p2:Int):Option Int:=atc p1.Policies p2 fun a0=>optc (QdZ fu a0.Name) fun a1=>cnd (!a1) (some 8) (Qj (X:=((Int×Int×Unit)×D.Config×D.Book×D.Policy×Unit)) (fun L2 ((a3,a4,_),a5,a6,a7,_)=>cd (a4<a3) (atc a6.Policies a4 fun a8=>cd (a8.Name=a7.Name) (some 4) (L2 ((a3,(wrap .i64 (a4+1)),()),a5,a6,a7,()))) (cd (((a7.Steps.length:Nat):Int)=0) (some 7) (cd (8<((a7.Steps.length:Nat):Int)) (some 5) (optc (Q5 fu a7.Repeat 0 8) fun a9=>cnd (!a9) (some 1) (Qj (X:=((Int×Unit)×D.Config×D.Book×D.Policy×Unit)) (fun L10 ((a11,_),a12,a13,a14,_)=>cd (a11<((a14.Steps.length:Nat):Int)) (atc a14.Steps a11 fun a15=>optc (Q5 fu a15.Wait 0 86400) fun a16=>cnd (!a16) (some 1) (atc a14.Steps a11 fun a17=>optc (Qcj fu a12 a13 a17.Targets) fun a18=>cd (a18≠0) (some a18) (L10 (((wrap .i64 (a11+1)),()),a12,a13,a14,())))) (some 0)) fu ((0,()),a5,a6,a7,())))))) fu ((p2,0,()),p0,p1,a0,()))
theorem QlB:FO 138 (sI [.st .Config,.st .Book,nI] fun x=>Qd2 fu x.1 x.2.1 x.2.2.1):=fI fu (gs 3 (.two (.two .go (.one (.loop [ni 2,rf 3,rf 4,rf 7,ni 8] [bx 1003 .Config,bx 1004 .Book,bx 1007 .Policy] .go))) (.two .go (lp [rf 3,rf 4,rf 7,ni 9] [bx 1003 .Config,bx 1004 .Book,bx 1007 .Policy] .go)))) kz0 (eC (Wa fu) (eC (Qe3 fu) (eC (QjN fu) eN))) Tryz.func138
def QlA(p0:D.Config)(p1:D.Book):Option Int:=join (Y:=(Unit×D.Config×D.Book×Unit)) (fun(_,a0,a1,_)=>Qj (X:=((Int×Unit)×D.Config×D.Book×Unit)) (fun L2 ((a3,_),a4,a5,_)=>cd (a3<((a5.Teams.length:Nat):Int)) (optc (QhD fu a4 a5 a3) fun a6=>cd (a6≠0) (some a6) (L2 (((wrap .i64 (a3+1)),()),a4,a5,()))) (Qj (X:=((Int×Unit)×D.Config×D.Book×Unit)) (fun L7 ((a8,_),a9,a10,_)=>cd (a8<((a10.Policies.length:Nat):Int)) (optc (Qd2 fu a9 a10 a8) fun a11=>cd (a11≠0) (some a11) (L7 (((wrap .i64 (a8+1)),()),a9,a10,()))) (some 0)) fu ((0,()),a4,a5,()))) fu ((0,()),a0,a1,())) fun J12=>cd (8<((p1.Teams.length:Nat):Int)) (some 5) (cd (12<((p1.Policies.length:Nat):Int)) (some 5) (J12 ((),p0,p1,())))
theorem QoF:FO 86 (sI [.st .Config,.st .Book] fun x=>QlA fu x.1 x.2.1):=fI fu (.two .go (.two (.join [rf 2,rf 3] [bx 1002 .Config,bx 1003 .Book] .go) (.two (.two .go (.one (.loop [rf 2,rf 3,ni 5] [bx 1002 .Config,bx 1003 .Book] .go))) (lp [rf 2,rf 3,ni 7] [bx 1002 .Config,bx 1003 .Book] .go)))) kz0 (eC (QoG fu) (eC (QlB fu) eN)) Tryz.func86
def Qdk(p0:D.Config)(p1:D.Book):Option Int:=optc (Vt fu p0) fun a0=>cd (a0≠0) (some 8) (optc (QlA fu p0 p1) fun a1=>some a1)
theorem Qg3:FO 62 (sI [.st .Config,.st .Book] fun x=>Qdk fu x.1 x.2.1):=fI fu .go kz0 (eC (Qa3 fu) (eC (QoF fu) eN)) Tryz.func62
def Qi8(p0:D.Book)(p1:Int)(p2:Int)(p3:Int):Option (D.Page×Int):=join (Y:=(P3×D.Book×D.Page×Unit)) (fun((a0,a1,a2,_),a3,a4,_)=>optc (Q5 fu a1 0 (wrap .i64 (((a3.Policies.length:Nat):Int) - 1))) fun a5=>cnd (!a5) (some ((D.Page.mk 0 0 0 0 0 0 0 0 0 0 0 [] [] []),3)) (some ((D.Page.mk a0 a1 a2 0 a2 0 (-1) 0 a2 0 0 [] [] []),0))) fun J6=>optc (Q5 fu p1 1 999999) fun a7=>cnd a7 (optc (Q5 fu p3 0 8589934592) fun a8=>cnd a8 (J6 ((p1,p2,p3,()),p0,(D.Page.mk 0 0 0 0 0 0 0 0 0 0 0 [] [] []),())) (some ((D.Page.mk 0 0 0 0 0 0 0 0 0 0 0 [] [] []),1))) (some ((D.Page.mk 0 0 0 0 0 0 0 0 0 0 0 [] [] []),1))
theorem Qkk:FO 87 (Qf [.st .Book,nI,nI,nI] [] [.st .Page,nI] [] [] (D.Page×Int) kz3 (fun x y=>Qi8 fu x.1 x.2.1 x.2.2.1 x.2.2.2.1)):=fI fu (.two .go (.two (.join [ni 1,ni 2,ni 3,rf 4,rf 8] [bx 1004 .Book,bx 1008 .Page] .go) .go)) kz4 (eC (Wa fu) eN) Tryz.func87
def Qdl(p0:D.Policy):Option Bool:=Qj (X:=((Int×Unit)×D.Policy×Unit)) (fun L0 ((a1,_),a2,_)=>cd (a1<((a2.Steps.length:Nat):Int)) (atc a2.Steps a1 fun a3=>optc (Q5 fu a3.Wait 0 86400) fun a4=>cnd (!a4) sF (L0 (((wrap .i64 (a1+1)),()),a2,()))) sT) fu ((0,()),p0,())
theorem Qno:FO 88 (sB [.st .Policy] fun x=>Qdl fu x.1):=fI fu (.two .go (lp [rf 1,ni 3] [bx 1001 .Policy] .go)) kz0 (eC (Wa fu) eN) Tryz.func88
def QbD(p0:D.Policy):Option Int:=join (Y:=(Unit×D.Policy×Unit)) (fun(_,a0,_)=>some (wrap .i64 (((a0.Steps.length:Nat):Int)*(wrap .i64 (a0.Repeat+1))))) fun J1=>optc (Q5 fu p0.Repeat 0 8) fun a2=>cnd a2 (cd (8<((p0.Steps.length:Nat):Int)) (some 0) (J1 ((),p0,()))) (some 0)
theorem Qg4:FO 89 (sI [.st .Policy] fun x=>QbD fu x.1):=fI fu (.two .go (.two (.join [rf 1] [bx 1001 .Policy] .go) .go)) kz0 (eC (Wa fu) eN) Tryz.func89
def Qd5(p0:D.Page):Option Bool:=Qj (X:=(P3×D.Page×Unit)) (fun L0 ((a1,a2,a3,_),a4,_)=>cd (a3<((a4.Starts.length:Nat):Int)) (join (Y:=(P3×D.Page×Unit)) (fun((a5,a6,a7,_),a8,_)=>L0 ((a5,a6,(wrap .i64 (a7+1)),()),a8,())) fun J9=>atc a4.Starts a3 fun a10=>join (Y:=((Int×Int×Unit)×D.Page×D.Start×Unit)) (fun((a11,a12,_),a13,a14,_)=>cd (0≤a14.K) (J9 ((a14.K,a14.At,a12,()),a13,())) (J9 ((a11,a14.At,a12,()),a13,()))) fun J15=>cd (a10.At<a2) sF (cd (a10.K<(-1)) sF (cd (0≤a10.K) (cd (a10.K≤a1) sF (cd (a4.Next≤a10.K) sF (optc (Qci fu a10.People 32) fun a16=>cnd a16 (J15 ((a1,a3,()),a4,a10,())) sF))) (optc (Qci fu a10.People 32) fun a17=>cnd a17 (J15 ((a1,a3,()),a4,a10,())) sF)))) (some (decide (((a4.Starts.length:Nat):Int)≤200)))) fu (((-1),p0.Start,0,()),p0,())
theorem QlG:FO 90 (sB [.st .Page] fun x=>Qd5 fu x.1):=fI fu (gs 2 (lp [rf 1,ni 3,ni 4,ni 5] [bx 1001 .Page] (.two .go (.two (.join [rf 1,ni 3,ni 4,ni 5] [bx 1001 .Page] (.one (.two .go (.two (.join [rf 1,ni 3,ni 5,rf 6] [bx 1001 .Page,bx 1006 .Start] .go) .go)))) .go)))) kz0 (eC (QgD fu) eN) Tryz.func90
def Vv(p0:D.Book)(p1:D.Page):Option Bool:=join (Y:=(Unit×D.Page×Unit)) (fun(_,a0,_)=>join (Y:=(Unit×D.Page×Unit)) (fun(_,a1,_)=>join (Y:=(Unit×D.Page×Unit)) (fun(_,a2,_)=>Qj (X:=((Int×Unit)×D.Page×Unit)) (fun L3 ((a4,_),a5,_)=>cd (a4<((a5.Seen.length:Nat):Int)) (natc a4 fun a6=>lec a6 a5.Seen.length (atc a5.Seen a4 fun a7=>optc (Qch fu (List.take a6 a5.Seen) a7) fun a8=>cnd a8 sF (L3 (((wrap .i64 (a4+1)),()),a5,())))) sT) fu ((0,()),a2,())) fun J9=>optc (Q5 fu a1.Snoozes 0 4) fun a10=>cnd a10 (optc (Q5 fu a1.Hands 0 4) fun a11=>cnd a11 (optc (Qd5 fu a1) fun a12=>cnd a12 (optc (Qci fu a1.Declined 32) fun a13=>cnd a13 (cd (64<((a1.Seen.length:Nat):Int)) sF (J9 ((),a1,()))) sF) sF) sF) sF) fun J14=>optc (Q5 fu a0.State 0 4) fun a15=>cnd a15 (optc (Q5 fu a0.By (-1) 31) fun a16=>cnd a16 (optc (Q5 fu a0.Last a0.Start 17179869184) fun a17=>cnd a17 (optc (Q5 fu a0.Due 0 17179869184) fun a18=>cnd a18 (optc (Q5 fu a0.Until 0 17179869184) fun a19=>cnd a19 (J14 ((),a0,())) sF) sF) sF) sF) sF) fun J20=>optc (Qi8 fu p0 p1.ID p1.Policy p1.Start) fun(a21,a22)=>cd (a22≠0) sF (atc p0.Policies p1.Policy fun a23=>optc (Qdl fu a23) fun a24=>cnd a24 (atc p0.Policies p1.Policy fun a25=>optc (QbD fu a25) fun a26=>optc (Q5 fu p1.Next 0 a26) fun a27=>cnd a27 (J20 ((),p1,())) sF) sF)
theorem Qa5:FO 65 (sB [.st .Book,.st .Page] fun x=>Vv fu x.1 x.2.1):=fI fu (.two .go (.two (.join [rf 3] [bx 1003 .Page] .go) (.two (.join [rf 3] [bx 1003 .Page] .go) (.two (.join [rf 3] [bx 1003 .Page] .go) (lp [rf 3,ni 7] [bx 1003 .Page] .go))))) kz0 (eC (Qd1 fu) (eC (Wa fu) (eC (Qkk fu) (eC (Qno fu) (eC (Qg4 fu) (eC (QlG fu) (eC (QgD fu) eN))))))) Tryz.func65
def QbG(p0:D.Page)(p1:Int)(p2:Int):Option (List D.Call):=Qj (X:=((Int×Int×Unit)×D.Page×List D.Call×Unit)) (fun L0 ((a1,a2,_),a3,a4,_)=>cd (a2<((a3.Starts.length:Nat):Int)) (atc a3.Starts a2 fun a5=>Qj (X:=(P3×D.Page×D.Start×List D.Call×Unit)) (fun L6 ((a7,a8,a9,_),a10,a11,a12,_)=>cd (a9<((a11.People.length:Nat):Int)) (atc a11.People a9 fun a13=>lec (a12.length+(List.length ((D.Call.mk a10.ID a11.K a11.At a13 a7)::[]))) 34359738368 (L6 ((a7,a8,(wrap .i64 (a9+1)),()),a10,a11,(a12++((D.Call.mk a10.ID a11.K a11.At a13 a7)::[])),()))) (L0 ((a7,(wrap .i64 (a8+1)),()),a10,a12,()))) fu ((a1,a2,0,()),a3,a5,a4,())) (some a4)) fu ((p2,p1,()),p0,[],())
theorem Qdo:FO 67 (Qf [.st .Page,nI,nI] [] [.one (.lst .Call)] [] [] (List D.Call) kz1 (fun x y=>QbG fu x.1 x.2.1 x.2.2.1)):=fI fu (gs 2 (lp [ni 2,rf 3,(7,.one (.own 1046)),ni 8] [bx 1003 .Page,ar 1046 .Call] (.two .go (.two (.one (gs 2 (.one (.loop [ni 2,rf 3,(7,.one (.own 1046)),ni 8,rf 9,ni 10] [bx 1003 .Page,bx 1009 .Start,ar 1046 .Call] .go)))) .go)))) kz0 eN Tryz.func67
def Qd6(p0:D.Ledger)(p1:D.Page):Option Bool:=optc (QbG fu p1 0 0) fun a0=>Qj (X:=((List D.Call×Int×Int×Int×Unit)×D.Ledger×D.Page×Unit)) (fun L1 ((a2,a3,a4,a5,_),a6,a7,_)=>cd (a5<((a6.Calls.length:Nat):Int)) (join (Y:=((List D.Call×Int×Int×Int×Unit)×D.Ledger×D.Page×Unit)) (fun((a8,a9,a10,a11,_),a12,a13,_)=>L1 ((a8,a9,a10,(wrap .i64 (a11+1)),()),a12,a13,())) fun J14=>atc a6.Calls a5 fun a15=>cd (a15.Page≠a7.ID) (J14 ((a2,a3,a4,a5,()),a6,a7,())) (join (Y:=((List D.Call×Int×Int×Unit)×D.Ledger×D.Page×D.Call×Unit)) (fun((a16,a17,a18,_),a19,a20,a21,_)=>atc a16 a17 fun a22=>cd ((a21.Page::(a21.K::(a21.At::(a21.Person::(0::[])))))≠(a22.Page::(a22.K::(a22.At::(a22.Person::(a22.Fence::[])))))) sF (J14 ((a16,(wrap .i64 (a17+1)),a21.Fence,a18,()),a19,a20,()))) fun J23=>cd (((a2.length:Nat):Int)≤a3) sF (cd (a15.Fence<a4) sF (cd (a6.Fence<a15.Fence) sF (J23 ((a2,a3,a5,()),a6,a7,a15,())))))) (some (decide (a3=((a2.length:Nat):Int))))) fu ((a0,0,0,0,()),p0,p1,())
theorem QoK:FO 66 (sB [.st .Ledger,.st .Page] fun x=>Qd6 fu x.1 x.2.1):=fI fu (gs 3 (lp [rf 2,rf 3,li 5 .Call,ni 6,ni 7,ni 8] [bx 1002 .Ledger,bx 1003 .Page] (.two .go (.two (.join [rf 2,rf 3,li 5 .Call,ni 6,ni 7,ni 8] [bx 1002 .Ledger,bx 1003 .Page] (.one (gs 2 (.two (.join [rf 2,rf 3,li 5 .Call,ni 6,ni 8,rf 9] [bx 1002 .Ledger,bx 1003 .Page,bx 1009 .Call] .go) .go)))) .go)))) kz0 (eC (Qdo fu) eN) Tryz.func66
def Vx(p0:D.Ledger):Option Bool:=join (Y:=(Unit×D.Ledger×Unit)) (fun(_,a0,_)=>Qj (X:=((Int×Int×Unit)×D.Ledger×Unit)) (fun L1 ((a2,a3,_),a4,_)=>cd (a3<((a4.Pages.length:Nat):Int)) (atc a4.Pages a3 fun a5=>join (Y:=((Int×Int×Unit)×D.Ledger×D.Page×Unit)) (fun((a6,a7,_),a8,a9,_)=>optc (QbG fu a9 0 0) fun a10=>L1 (((wrap .i64 (a6+((a10.length:Nat):Int))),(wrap .i64 (a7+1)),()),a8,())) fun J11=>cd (0<a3) (atc a4.Pages (wrap .i64 (a3 - 1)) fun a12=>cd (a5.ID≤a12.ID) sF (optc (Vv fu a4.Book a5) fun a13=>cnd a13 (cd (a4.Now<a5.Last) sF (optc (Qd6 fu a4 a5) fun a14=>cnd a14 (J11 ((a2,a3,()),a4,a5,())) sF)) sF)) (optc (Vv fu a4.Book a5) fun a15=>cnd a15 (cd (a4.Now<a5.Last) sF (optc (Qd6 fu a4 a5) fun a16=>cnd a16 (J11 ((a2,a3,()),a4,a5,())) sF)) sF)) (Qj (X:=((Int×Int×Unit)×D.Ledger×Unit)) (fun L17 ((a18,a19,_),a20,_)=>cd (a19<((a20.Seen.length:Nat):Int)) (join (Y:=((Int×Int×Unit)×D.Ledger×Unit)) (fun((a21,a22,_),a23,_)=>L17 ((a21,(wrap .i64 (a22+1)),()),a23,())) fun J24=>atc a20.Seen a19 fun a25=>optc (Q5 fu a25 1 1099511627776) fun a26=>cnd a26 (natc a19 fun a27=>lec a27 a20.Seen.length (atc a20.Seen a19 fun a28=>optc (Qch fu (List.take a27 a20.Seen) a28) fun a29=>cnd a29 sF (J24 ((a18,a19,()),a20,())))) sF) (some (decide (a18=((a20.Calls.length:Nat):Int))))) fu ((a2,0,()),a4,()))) fu ((0,0,()),a0,())) fun J30=>optc (Qdk fu p0.Config p0.Book) fun a31=>cd (a31≠0) sF (optc (Q5 fu p0.Now 0 8589934592) fun a32=>cnd a32 (cd (64<((p0.Pages.length:Nat):Int)) sF (optc (Q5 fu p0.Owner (-1) 4) fun a33=>cnd a33 (optc (Q5 fu p0.Fence 0 1048576) fun a34=>cnd a34 (cd (256<((p0.Seen.length:Nat):Int)) sF (J30 ((),p0,()))) sF) sF)) sF)
theorem Qa6:FO 42 (sB [.st .Ledger] fun x=>Vx fu x.1):=fI fu (.two .go (.two (.join [rf 1] [bx 1001 .Ledger] .go) (.two .go (.two (.two .go (.one (.loop [rf 1,ni 3,ni 4] [bx 1001 .Ledger] (.two .go (.two (.one (.two .go (.two (.join [rf 1,ni 3,ni 4,rf 5] [bx 1001 .Ledger,bx 1005 .Page] .go) .go))) .go))))) (lp [rf 1,ni 3,ni 6] [bx 1001 .Ledger] (.two .go (.two (.join [rf 1,ni 3,ni 6] [bx 1001 .Ledger] .go) .go))))))) kz0 (eC (Qd1 fu) (eC (Wa fu) (eC (Qg3 fu) (eC (Qa5 fu) (eC (QoK fu) (eC (Qdo fu) eN)))))) Tryz.func42
def Qdm(p0:D.Answer):Option Bool:=join (Y:=(Unit×D.Answer×Unit)) (fun(_,a0,_)=>join (Y:=((Int×Bool×Unit)×D.Answer×Unit)) (fun((a1,a2,_),a3,_)=>cnd a2 (some (decide (a3.Arg=0))) (cd (a1=3) (optc (Q5 fu a3.Arg 1 86400) fun a4=>some a4) (cd (a1=4) (optc (Q5 fu a3.Arg 0 31) fun a5=>some a5) sF))) fun J6=>cd (a0.Kind=1) (J6 ((a0.Kind,(decide (a0.Kind=1)),()),a0,())) (cd (a0.Kind=2) (J6 ((a0.Kind,(decide (a0.Kind=2)),()),a0,())) (J6 ((a0.Kind,(decide (a0.Kind=5)),()),a0,())))) fun J7=>optc (Q5 fu p0.ID 1 999999) fun a8=>cnd a8 (optc (Q5 fu p0.Page 1 999999) fun a9=>cnd a9 (optc (Q5 fu p0.Person (-1) 31) fun a10=>cnd a10 (optc (Q5 fu p0.At 0 8589934592) fun a11=>cnd a11 (J7 ((),p0,())) sF) sF) sF) sF
theorem Qg5:FO 68 (sB [.st .Answer] fun x=>Qdm fu x.1):=fI fu (.two .go (.two (.join [rf 1] [bx 1001 .Answer] .go) (.two (.two .go (.one (.two (.join [rf 1,ni 26,(27,.one .boo)] [bx 1001 .Answer] .go) .go))) .go))) kz0 (eC (Wa fu) eN) Tryz.func68
def QfS(p0:D.Op):Option Bool:=optc (Q5 fu p0.ID 1 1099511627776) fun a0=>cnd a0 (optc (Q5 fu p0.Kind 1 5) fun a1=>cnd a1 (optc (Q5 fu p0.Region 0 4) fun a2=>cnd a2 (optc (Q5 fu p0.Fence 0 1048576) fun a3=>cnd a3 (optc (Q5 fu p0.At 0 8589934592) fun a4=>cnd a4 (optc (Q5 fu p0.Page 0 999999) fun a5=>cnd a5 (optc (Q5 fu p0.K (-1) 1000) fun a6=>cnd a6 (cd (p0.Kind≠4) sT (optc (Qdm fu p0.Answer) fun a7=>cnd a7 sT sF)) sF) sF) sF) sF) sF) sF) sF
theorem Qnq:FO 43 (sB [.st .Op] fun x=>QfS fu x.1):=fI fu .go kz0 (eC (Wa fu) (eC (Qg5 fu) eN)) Tryz.func43
def Qe5(fu:Nat)(p0:D.Page):Option (Int×Bool):=cd (p0.State=0) (some (p0.Due,true)) (cd (p0.State=2) (some (p0.Until,true)) (some (0,false)))
theorem QbF:FO 51 (Qf [.st .Page] [] [nI,.one .boo] [] [] (Int×Bool) kz3 (fun x y=>Qe5 fu x.1)):=fI fu .go kz4 eN Tryz.func51
def QfR(p0:D.Ledger)(p1:Int):Option (D.Page×Bool):=Qj (X:=((Int×Int×Unit)×D.Ledger×D.Page×Unit)) (fun L0 ((a1,a2,_),a3,a4,_)=>cd (a2<((a3.Pages.length:Nat):Int)) (atc a3.Pages a2 fun a5=>cd (a5.ID=a1) (atc a3.Pages a2 fun a6=>optc (U1 fu a6) fun a7=>some (a7,true)) (L0 ((a1,(wrap .i64 (a2+1)),()),a3,a4,()))) (some ((D.Page.mk 0 0 0 0 0 0 0 0 0 0 0 [] [] []),false))) fu ((p1,0,()),p0,(D.Page.mk 0 0 0 0 0 0 0 0 0 0 0 [] [] []),())
theorem QoJ:FO 58 (Qf [.st .Ledger,nI] [] [.st .Page,.one .boo] [] [] (D.Page×Bool) kz3 (fun x y=>QfR fu x.1 x.2.1)):=fI fu (.two .go (lp [ni 1,rf 2,rf 4,ni 6] [bx 1002 .Ledger,bx 1004 .Page] .go)) kz4 (eC (VY fu) eN) Tryz.func58
def QfQ(p0:D.Policy)(p1:Int):Option (Int×Int×Bool):=join (Y:=((Int×Unit)×D.Policy×Unit)) (fun((a0,_),a1,_)=>nzc ((a1.Steps.length:Nat):Int) (nzc ((a1.Steps.length:Nat):Int) (some ((Int.tmod a0 ((a1.Steps.length:Nat):Int)),(wrap .i64 (Int.tdiv a0 ((a1.Steps.length:Nat):Int))),true)))) fun J2=>cd (p1<0) (some (0,0,false)) (optc (QbD fu p0) fun a3=>cd (a3≤p1) (some (0,0,false)) (J2 ((p1,()),p0,())))
theorem QoE:FO 209 (Qf [.st .Policy,nI] [] [nI,nI,.one .boo] [] [] (Int×Int×Bool) kz21 (fun x y=>QfQ fu x.1 x.2.1)):=fI fu (.two .go (.two (.join [ni 1,rf 2] [bx 1002 .Policy] .go) .go)) (fun a b=>(a.1,a.2.1,a.2.2.1)) (eC (Qg4 fu) eN) Tryz.func209
def WP(p0:List Int)(p1:Int):Option (List Int):=Qj (X:=((List Int×Int×Bool×Int×Unit)×List Int×Unit)) (fun L0 ((a1,a2,a3,a4,_),a5,_)=>cd (a4<((a1.length:Nat):Int)) (join (Y:=((List Int×Int×Bool×Int×Unit)×List Int×Unit)) (fun((a6,a7,a8,a9,_),a10,_)=>L0 ((a6,a7,a8,(wrap .i64 (a9+1)),()),a10,())) fun J11=>join (Y:=((List Int×Int×Bool×Int×Unit)×List Int×Unit)) (fun((a12,a13,a14,a15,_),a16,_)=>atc a12 a15 fun a17=>cd (a17≠a13) (atc a12 a15 fun a18=>lec (a16.length+(List.length (a18::[]))) 34359738368 (J11 ((a12,a13,a14,a15,()),(a16++(a18::[])),()))) (J11 ((a12,a13,a14,a15,()),a16,()))) fun J19=>cnd a3 (J19 ((a1,a2,a3,a4,()),a5,())) (atc a1 a4 fun a20=>cd (a2≤a20) (lec (a5.length+(List.length (a2::[]))) 34359738368 (J19 ((a1,a2,true,a4,()),(a5++(a2::[])),()))) (J19 ((a1,a2,a3,a4,()),a5,())))) (join (Y:=(Unit×List Int×Unit)) (fun(_,a21,_)=>some a21) fun J22=>cnd (!a3) (lec (a5.length+(List.length (a2::[]))) 34359738368 (J22 ((),(a5++(a2::[])),()))) (J22 ((),a5,())))) fu ((p0,p1,false,0,()),[],())
theorem Qi6:FO 61 (Qf [lI,nI] [] [lI] [] [] (List Int) kz1 (fun x y=>WP fu x.1 x.2.1)):=fI fu (gs 3 (.two (.two .go (.one (.loop [(0,lI),ni 1,(5,.one (.own 1027)),(6,.one .boo),ni 7] [ar 1027 .int] (.two .go (.two (.join [(0,lI),ni 1,(5,.one (.own 1027)),(6,.one .boo),ni 7] [ar 1027 .int] (.one (.two (.join [(0,lI),ni 1,(5,.one (.own 1027)),(6,.one .boo),ni 7] [ar 1027 .int] .go) .go))) .go))))) (.two (.join [(5,.one (.own 1027))] [ar 1027 .int] .go) .go))) kz0 eN Tryz.func61
def QsA(p0:D.Config)(p1:Int)(p2:Int):Option Bool:=cd (0≤p1) (cd (p1<((p0.Schedules.length:Nat):Int)) (cd (0≤p2) (cd (p2≤8589934592) (optc (Vt fu p0) fun a0=>cd (a0=0) sT sF) sF) sF) sF) sF
theorem QsB:FO 288 (sB [.st .Config,nI,nI] fun x=>QsA fu x.1 x.2.1 x.2.2.1):=fI fu .go kz0 (eC (Qa3 fu) eN) Tryz.func288
def QdW(p0:D.Zone)(p1:List D.Transition)(p2:Int):Option Int:=join (Y:=((Int×Unit)×Unit)) (fun((a0,_),_)=>some a0) fun J1=>Qj (X:=((List D.Transition×Int×Int×Int×Unit)×Unit)) (fun L2 ((a3,a4,a5,a6,_),_)=>join (Y:=((List D.Transition×Int×Int×Unit)×Unit)) (fun((a7,a8,a9,_),_)=>atc a7 a9 fun a10=>L2 ((a7,a8,a10.Offset,(wrap .i64 (a9+1)),()),())) fun J11=>cd (a6<((a3.length:Nat):Int)) (atc a3 a6 fun a12=>cd (a12.At≤a4) (J11 ((a3,a4,a6,()),())) (J1 ((a5,()),()))) (J1 ((a5,()),()))) fu ((p1,p2,p0.Offset,0,()),())
theorem Qlr:FO 325 (sI [.st .Zone,.one (.lst .Transition),nI] fun x=>QdW fu x.1 x.2.1 x.2.2.1):=fI fu (gs 2 (.two (.join [ni 7] [] (.two .go (.one (.loop [li 1 .Transition,ni 2,ni 7,ni 8] [] (.two (.join [li 1 .Transition,ni 2,ni 8] [] .go) .go))))) .go)) kz0 eN Tryz.func325
def Qa2(p0:D.Zone)(p1:Int):Option (Int×Int):=optc (X9 fu p0) fun(a0,a1)=>cd (a1≠0) (some (0,8)) (optc (Qau fu p1 0 8589934592) fun a2=>cnd (!a2) (some (0,1)) (optc (QdW fu p0 a0 p1) fun a3=>some (a3,0)))
theorem QiZ:FO 308 (Qf [.st .Zone,nI] [] [nI,nI] [] [] (Int×Int) kz3 (fun x y=>Qa2 fu x.1 x.2.1)):=fI fu .go kz4 (eC (Vs fu) (eC (Qdd fu) (eC (Qlr fu) eN))) Tryz.func308
def Qi0(fu:Nat)(p0:Int)(p1:Int):Option D.Local:=nzc 86400 (nzc 86400 (some (D.Local.mk (wrap .i64 ((wrap .i64 (Int.tdiv (wrap .i64 ((wrap .i64 (p0+p1))+864000)) 86400)) - 10)) (Int.tmod (wrap .i64 ((wrap .i64 (p0+p1))+864000)) 86400))))
theorem Qm9:FO 309 (Qf [nI,nI] [] [.st .Local] [] [] D.Local kz1 (fun x y=>Qi0 fu x.1 x.2.1)):=fI fu .go kz0 eN Tryz.func309
def VX(p0:D.Zone)(p1:Int):Option (D.Local×Int):=optc (Qa2 fu p0 p1) fun(a0,a1)=>cd (a1≠0) (some ((D.Local.mk 0 0),a1)) (optc (Qi0 fu p1 a0) fun a2=>some (a2,0))
theorem Qbh:FO 290 (Qf [.st .Zone,nI] [] [.st .Local,nI] [] [] (D.Local×Int) kz3 (fun x y=>VX fu x.1 x.2.1)):=fI fu .go kz4 (eC (QiZ fu) (eC (Qm9 fu) eN)) Tryz.func290
def QdY(p0:D.Local):Option Int:=optc (Qcg fu p0.Day) fun a0=>some (wrap .i64 ((wrap .i64 (a0*86400))+p0.Second))
theorem Qlu:FO 291 (sI [.st .Local] fun x=>QdY fu x.1):=fI fu .go kz0 (eC (Qet fu) eN) Tryz.func291
def QgC(p0:D.Zone)(p1:Int):Option (Int×Int):=optc (VX fu p0 p1) fun(a0,a1)=>cd (a1≠0) (some (0,a1)) (optc (QdY fu a0) fun a2=>some (a2,0))
theorem Qls:FO 278 (Qf [.st .Zone,nI] [] [nI,nI] [] [] (Int×Int) kz3 (fun x y=>QgC fu x.1 x.2.1)):=fI fu .go kz4 (eC (Qbh fu) (eC (Qlu fu) eN)) Tryz.func278
def QdX(p0:List D.Window)(p1:Int):Option Bool:=Qj (X:=((List D.Window×Int×Int×Unit)×Unit)) (fun L0 ((a1,a2,a3,_),_)=>cd (a3<((a1.length:Nat):Int)) (join (Y:=((List D.Window×Int×Int×Unit)×Unit)) (fun((a4,a5,a6,_),_)=>L0 ((a4,a5,(wrap .i64 (a6+1)),()),())) fun J7=>atc a1 a3 fun a8=>cd (a8.From≤a2) (atc a1 a3 fun a9=>cd (a2<a9.To) sT (J7 ((a1,a2,a3,()),()))) (J7 ((a1,a2,a3,()),()))) sF) fu ((p0,p1,0,()),())
theorem Qlt:FO 279 (sB [.one (.lst .Window),nI] fun x=>QdX fu x.1 x.2.1):=fI fu (.two .go (lp [li 0 .Window,ni 1,ni 5] [] (.two .go (.two (.join [li 0 .Window,ni 1,ni 5] [] .go) .go)))) kz0 eN Tryz.func279
def Qkj(p0:D.Zone)(p1:List D.Window)(p2:Int):Option Bool:=optc (QgC fu p0 p2) fun(a0,a1)=>cd (a1=0) (optc (Qav fu p1) fun a2=>cd (a2=0) (optc (QdX fu p1 a0) fun a3=>cnd a3 sT sF) sF) sF
theorem Qnd:FO 256 (sB [.st .Zone,.one (.lst .Window),nI] fun x=>Qkj fu x.1 x.2.1 x.2.2.1):=fI fu .go kz0 (eC (Qdf fu) (eC (Qls fu) (eC (Qlt fu) eN))) Tryz.func256
def QfN(p0:D.Zone)(p1:D.Layer):Option Int:=join (Y:=(Unit×Unit)) (fun(_,_)=>some 0) fun J0=>optc (QbA fu p0) fun a1=>cd (a1≠0) (some 8) (cd (p1.Start.Day<1) (some 8) (cd (100000<p1.Start.Day) (some 8) (cd (p1.Start.Second<0) (some 8) (cd (86400≤p1.Start.Second) (some 8) (cd (p1.Unit<0) (some 8) (cd (2<p1.Unit) (some 8) (cd (p1.Every<1) (some 8) (cd (400<p1.Every) (some 8) (cd (((p1.Members.length:Nat):Int)=0) (some 8) (J0 ((),())))))))))))
theorem Qnj:FO 345 (sI [.st .Zone,.st .Layer] fun x=>QfN fu x.1 x.2.1):=fI fu (.two .go (.two (.join [] [] .go) .go)) kz0 (eC (Qg1 fu) eN) Tryz.func345
def QfL(p0:Int):Option Bool:=optc (Qau fu p0 (-2) 99422) fun a0=>some a0
theorem Qnc:FO 356 (sB [nI] fun x=>QfL fu x.1):=fI fu .go kz0 (eC (Qdd fu) eN) Tryz.func356
def QbB(p0:D.Zone)(p1:D.Local):Option (Int×Int):=optc (X9 fu p0) fun(a0,a1)=>cd (a1≠0) (some (0,8)) (optc (Qau fu p1.Second 0 86399) fun a2=>cnd (!a2) (some (0,1)) (cd (p1.Day<(-2)) (some (0,0)) (optc (QfL fu p1.Day) fun a3=>cnd (!a3) (some (0,10)) (Qj (X:=((List D.Transition×Int×Unit)×D.Zone×D.Local×Unit)) (fun L4 ((a5,a6,_),a7,a8,_)=>cd (a6<((a5.length:Nat):Int)) (join (Y:=((List D.Transition×Int×Int×Int×Int×Unit)×D.Zone×D.Local×Unit)) (fun((a9,a10,a11,a12,a13,_),a14,a15,_)=>join (Y:=((List D.Transition×Int×Int×Int×Int×Unit)×D.Zone×D.Local×Unit)) (fun((a16,a17,a18,a19,a20,_),a21,a22,_)=>cd ((max a19 (wrap .i64 ((wrap .i64 ((wrap .i64 (a22.Day*86400))+a22.Second)) - a18)))<a20) (some ((max a19 (wrap .i64 ((wrap .i64 ((wrap .i64 (a22.Day*86400))+a22.Second)) - a18))),0)) (L4 ((a16,(wrap .i64 (a17+1)),()),a21,a22,()))) fun J23=>cd ((wrap .i64 (a10+1))<((a9.length:Nat):Int)) (atc a9 (wrap .i64 (a10+1)) fun a24=>J23 ((a9,a10,a11,a12,a24.At,()),a14,a15,())) (J23 ((a9,a10,a11,a12,a13,()),a14,a15,()))) fun J25=>cd (0≤a6) (atc a5 a6 fun a26=>atc a5 a6 fun a27=>J25 ((a5,a6,a26.Offset,a27.At,8589934593,()),a7,a8,())) (J25 ((a5,a6,a7.Offset,0,8589934593,()),a7,a8,()))) (some (0,10))) fu ((a0,(-1),()),p0,p1,())))))
theorem Qg2:FO 350 (Qf [.st .Zone,.st .Local] [] [nI,nI] [] [] (Int×Int) kz3 (fun x y=>QbB fu x.1 x.2.1)):=fI fu (gs 6 (lp [rf 2,rf 3,li 6 .Transition,ni 8] [bx 1002 .Zone,bx 1003 .Local] (.two .go (.two (.one (.two .go (.two (.join [rf 2,rf 3,li 6 .Transition,ni 8,ni 9,ni 10,ni 11] [bx 1002 .Zone,bx 1003 .Local] .go) (.two (.join [rf 2,rf 3,li 6 .Transition,ni 8,ni 9,ni 10,ni 11] [bx 1002 .Zone,bx 1003 .Local] .go) .go)))) .go)))) kz4 (eC (Vs fu) (eC (Qdd fu) (eC (Qnc fu) eN))) Tryz.func350
def Qa4(p0:D.Zone)(p1:D.Layer)(p2:Int):Option (Int×Bool):=cd (p1.Unit=0) (optc (QbB fu p0 p1.Start) fun(a0,a1)=>cd (a1=0) (cd ((wrap .i64 (a0+(wrap .i64 ((wrap .i64 (p2*p1.Every))*3600))))≤8589934592) (some ((wrap .i64 (a0+(wrap .i64 ((wrap .i64 (p2*p1.Every))*3600)))),true)) (some ((wrap .i64 (a0+(wrap .i64 ((wrap .i64 (p2*p1.Every))*3600)))),false))) (some ((wrap .i64 (a0+(wrap .i64 ((wrap .i64 (p2*p1.Every))*3600)))),false))) (join (Y:=((Int×Unit)×D.Zone×D.Layer×Unit)) (fun((a2,_),a3,a4,_)=>optc (QbB fu a3 (D.Local.mk (wrap .i64 (a4.Start.Day+a2)) a4.Start.Second)) fun(a5,a6)=>some (a5,(decide (a6=0)))) fun J7=>cd (p1.Unit=2) (J7 (((wrap .i64 ((wrap .i64 (p2*p1.Every))*7)),()),p0,p1,())) (J7 (((wrap .i64 (p2*p1.Every)),()),p0,p1,())))
theorem Qi3:FO 351 (Qf [.st .Zone,.st .Layer,nI] [] [nI,.one .boo] [] [] (Int×Bool) kz3 (fun x y=>Qa4 fu x.1 x.2.1 x.2.2.1)):=fI fu (gs 3 (.two (.join [rf 3,rf 4,ni 11] [bx 1003 .Zone,bx 1004 .Layer] .go) .go)) kz4 (eC (Qg2 fu) eN) Tryz.func351
def QfO(p0:D.Zone)(p1:D.Layer)(p2:Int):Option Int:=cd (p1.Unit=0) (join (Y:=((Int×Unit)×Unit)) (fun((a0,_),_)=>some a0) fun J1=>optc (QbB fu p0 p1.Start) fun(a2,a3)=>cd (a3=0) (cd (a2≤p2) (nzc (wrap .i64 (3600*p1.Every)) (J1 (((wrap .i64 (Int.tdiv (wrap .i64 (p2 - a2)) (wrap .i64 (3600*p1.Every)))),()),()))) (J1 (((-1),()),()))) (J1 (((-1),()),()))) (optc (VX fu p0 p2) fun(a4,a5)=>join (Y:=((Int×Int×Unit)×D.Zone×D.Layer×D.Local×Unit)) (fun((a6,a7,_),a8,a9,a10,_)=>join (Y:=((Int×Unit)×Unit)) (fun((a11,_),_)=>some a11) fun J12=>nzc a7 (Qj (X:=((Int×Int×Unit)×D.Zone×D.Layer×Unit)) (fun L13 ((a14,a15,_),a16,a17,_)=>cd (0≤a15) (join (Y:=((Int×Int×Unit)×D.Zone×D.Layer×Unit)) (fun((a18,a19,_),a20,a21,_)=>L13 ((a18,(wrap .i64 (a19 - 1)),()),a20,a21,())) fun J22=>optc (Qa4 fu a16 a17 a15) fun(a23,a24)=>cnd a24 (cd (a23≤a14) (J12 ((a15,()),())) (J22 ((a14,a15,()),a16,a17,()))) (J22 ((a14,a15,()),a16,a17,()))) (J12 ((a15,()),()))) fu ((a6,(wrap .i64 (Int.tdiv (max (wrap .i64 ((wrap .i64 (a10.Day+2)) - a9.Start.Day)) 0) a7)),()),a8,a9,()))) fun J25=>cd (p1.Unit=2) (J25 ((p2,(wrap .i64 (p1.Every*7)),()),p0,p1,a4,())) (J25 ((p2,p1.Every,()),p0,p1,a4,())))
theorem Qnl:FO 346 (sI [.st .Zone,.st .Layer,nI] fun x=>QfO fu x.1 x.2.1 x.2.2.1):=fI fu (gs 2 (.two (.two .go (.two (.two (.join [ni 7] [] .go) .go) .go)) (gs 2 (.two (.join [ni 2,rf 3,rf 4,rf 10,ni 12] [bx 1003 .Zone,bx 1004 .Layer,bx 1010 .Local] .go) (.two (.join [ni 7] [] (.two .go (.one (.loop [ni 2,rf 3,rf 4,ni 7] [bx 1003 .Zone,bx 1004 .Layer] (.two .go (.two (.join [ni 2,rf 3,rf 4,ni 7] [bx 1003 .Zone,bx 1004 .Layer] .go) .go)))))) .go))))) kz0 (eC (Qbh fu) (eC (Qg2 fu) (eC (Qi3 fu) eN))) Tryz.func346
def Qdi(p0:D.Zone)(p1:D.Layer)(p2:Int):Option (Int×Int):=optc (QfN fu p0 p1) fun a0=>cd (a0≠0) (some (0,8)) (join (Y:=((Int×Unit)×D.Zone×D.Layer×Unit)) (fun((a1,_),a2,a3,_)=>optc (QfO fu a2 a3 a1) fun a4=>some (a4,0)) fun J5=>cd (p2<0) (some (0,1)) (cd (8589934592<p2) (some (0,1)) (J5 ((p2,()),p0,p1,()))))
theorem Qnk:FO 339 (Qf [.st .Zone,.st .Layer,nI] [] [nI,nI] [] [] (Int×Int) kz3 (fun x y=>Qdi fu x.1 x.2.1 x.2.2.1)):=fI fu (gs 2 (.two (.join [ni 2,rf 3,rf 4] [bx 1003 .Zone,bx 1004 .Layer] .go) .go)) kz4 (eC (Qnj fu) (eC (Qnl fu) eN)) Tryz.func339
def QhA(p0:D.Config)(p1:D.Layer)(p2:Int):Option (Int×Bool):=atc p0.Zones p1.Zone fun a0=>optc (Qdi fu a0 p1 p2) fun(a1,a2)=>join (Y:=((Int×Int×Unit)×D.Config×D.Layer×Unit)) (fun((a3,a4,_),a5,a6,_)=>cd (a6.Mode=0) (some (a4,true)) (atc a5.Calendars a6.Calendar fun a7=>atc a5.Zones a7.Zone fun a8=>optc (VX fu a8 a3) fun(a9,a10)=>Qj (X:=((Int×Bool×Int×Unit)×D.Layer×D.Calendar×D.Local×Unit)) (fun L11 ((a12,a13,a14,_),a15,a16,a17,_)=>cd (a14<((a16.Days.length:Nat):Int)) (join (Y:=((Int×Bool×Int×Unit)×D.Layer×D.Calendar×D.Local×Unit)) (fun((a18,a19,a20,_),a21,a22,a23,_)=>L11 ((a18,a19,(wrap .i64 (a20+1)),()),a21,a22,a23,())) fun J24=>cnd a13 (J24 ((a12,true,a14,()),a15,a16,a17,())) (atc a16.Days a14 fun a25=>cd (a25=a17.Day) (J24 ((a12,true,a14,()),a15,a16,a17,())) (J24 ((a12,false,a14,()),a15,a16,a17,())))) (some (a12,(decide (a13=(decide (a15.Mode=2))))))) fu ((a4,false,0,()),a6,a7,a9,()))) fun J26=>cd (a2≠0) (some (0,false)) (cd (a1<0) (some (0,false)) (cd (0<((p1.Windows.length:Nat):Int)) (optc (Qkj fu a0 p1.Windows p2) fun a27=>cnd a27 (J26 ((p2,a1,()),p0,p1,())) (some (0,false))) (J26 ((p2,a1,()),p0,p1,()))))
theorem Qoz:FO 333 (Qf [.st .Config,.st .Layer,nI] [] [nI,.one .boo] [] [] (Int×Bool) kz3 (fun x y=>QhA fu x.1 x.2.1 x.2.2.1)):=fI fu (gs 3 (.two (.join [ni 2,rf 3,rf 4,ni 9] [bx 1003 .Config,bx 1004 .Layer] .go) (gs 4 (lp [rf 4,ni 9,rf 11,rf 12,(14,.one .boo),ni 15] [bx 1004 .Layer,bx 1011 .Calendar,bx 1012 .Local] (.two .go (.two (.join [rf 4,ni 9,rf 11,rf 12,(14,.one .boo),ni 15] [bx 1004 .Layer,bx 1011 .Calendar,bx 1012 .Local] .go) .go)))))) kz4 (eC (Qnd fu) (eC (Qbh fu) (eC (Qnk fu) eN))) Tryz.func333
def Qi4(p0:D.Config)(p1:D.Layer)(p2:Int):Option Int:=optc (QhA fu p0 p1 p2) fun(a0,a1)=>cnd (!a1) (some (-1)) (nzc ((p1.Members.length:Nat):Int) (atc p1.Members (Int.tmod a0 ((p1.Members.length:Nat):Int)) fun a2=>some a2))
theorem Qqs:FO 323 (sI [.st .Config,.st .Layer,nI] fun x=>Qi4 fu x.1 x.2.1 x.2.2.1):=fI fu .go kz0 (eC (Qoz fu) eN) Tryz.func323
def QhB(p0:D.Schedule)(p1:Int)(p2:Int):Option Bool:=Qj (X:=(P3×D.Schedule×Unit)) (fun L0 ((a1,a2,a3,_),a4,_)=>cd (a3<((a4.Edits.length:Nat):Int)) (join (Y:=(P3×D.Schedule×Unit)) (fun((a5,a6,a7,_),a8,_)=>L0 ((a5,a6,(wrap .i64 (a7+1)),()),a8,())) fun J9=>atc a4.Edits a3 fun a10=>cd (a10.Kind=0) (cd (a10.A=a1) (cd (a10.From≤a2) (cd (a2<a10.To) sT (J9 ((a1,a2,a3,()),a4,()))) (J9 ((a1,a2,a3,()),a4,()))) (J9 ((a1,a2,a3,()),a4,()))) (J9 ((a1,a2,a3,()),a4,()))) sF) fu ((p1,p2,0,()),p0,())
theorem QoA:FO 324 (sB [.st .Schedule,nI,nI] fun x=>QhB fu x.1 x.2.1 x.2.2.1):=fI fu (.two .go (lp [ni 1,ni 2,rf 3,ni 7] [bx 1003 .Schedule] (.two .go (.two (.join [ni 1,ni 2,rf 3,ni 7] [bx 1003 .Schedule] .go) .go)))) kz0 eN Tryz.func324
def Qlw(p0:D.Config)(p1:Int)(p2:Int):Option (Int×Int):=atc p0.Schedules p1 fun a0=>Qj (X:=((Int×Int×Unit)×D.Config×D.Schedule×Unit)) (fun L1 ((a2,a3,_),a4,a5,_)=>cd (0≤a3) (join (Y:=((Int×Int×Unit)×D.Config×D.Schedule×Unit)) (fun((a6,a7,_),a8,a9,_)=>L1 ((a6,(wrap .i64 (a7 - 1)),()),a8,a9,())) fun J10=>atc a5.Layers a3 fun a11=>optc (Qi4 fu a4 a11 a2) fun a12=>cd (0≤a12) (optc (QhB fu a5 a12 a2) fun a13=>cnd a13 (J10 ((a2,a3,()),a4,a5,())) (some (a3,a12))) (J10 ((a2,a3,()),a4,a5,()))) (some ((-1),(-1)))) fu ((p2,(wrap .i64 (((a0.Layers.length:Nat):Int) - 1)),()),p0,a0,())
theorem Qqt:FO 306 (Qf [.st .Config,nI,nI] [] [nI,nI] [] [] (Int×Int) kz3 (fun x y=>Qlw fu x.1 x.2.1 x.2.2.1)):=fI fu (gs 2 (lp [ni 2,rf 3,rf 8,ni 9] [bx 1003 .Config,bx 1008 .Schedule] (.two .go (.two (.join [ni 2,rf 3,rf 8,ni 9] [bx 1003 .Config,bx 1008 .Schedule] .go) .go)))) kz4 (eC (Qqs fu) (eC (QoA fu) eN)) Tryz.func306
def QhC(p0:List D.Edit)(p1:Int)(p2:Int):Option Int:=Qj (X:=((List D.Edit×Int×Int×Int×Unit)×Unit)) (fun L0 ((a1,a2,a3,a4,_),_)=>cd (a4<((a1.length:Nat):Int)) (join (Y:=((List D.Edit×Int×Int×Int×Unit)×Unit)) (fun((a5,a6,a7,a8,_),_)=>L0 ((a5,a6,a7,(wrap .i64 (a8+1)),()),())) fun J9=>atc a1 a4 fun a10=>cd (a3<a10.From) (J9 ((a1,a2,a3,a4,()),())) (cd (a10.To≤a3) (J9 ((a1,a2,a3,a4,()),())) (cd (a10.Kind=1) (J9 ((a1,a10.A,a3,a4,()),())) (cd (a10.Kind=2) (cd (a2=a10.A) (J9 ((a1,a10.B,a3,a4,()),())) (cd (a10.Kind=2) (cd (a2=a10.B) (J9 ((a1,a10.A,a3,a4,()),())) (J9 ((a1,a2,a3,a4,()),()))) (J9 ((a1,a2,a3,a4,()),())))) (cd (a10.Kind=2) (cd (a2=a10.B) (J9 ((a1,a10.A,a3,a4,()),())) (J9 ((a1,a2,a3,a4,()),()))) (J9 ((a1,a2,a3,a4,()),()))))))) (some a2)) fu ((p0,p1,p2,0,()),())
theorem QoB:FO 307 (sI [.one (.lst .Edit),nI,nI] fun x=>QhC fu x.1 x.2.1 x.2.2.1):=fI fu (.two .go (lp [li 0 .Edit,ni 1,ni 2,ni 7] [] (.two .go (.two (.join [li 0 .Edit,ni 1,ni 2,ni 7] [] .go) .go)))) kz0 eN Tryz.func307
def QoC(p0:D.Config)(p1:Int)(p2:Int):Option Int:=optc (Qlw fu p0 p1 p2) fun(a0,a1)=>atc p0.Schedules p1 fun a2=>optc (QhC fu a2.Edits a1 p2) fun a3=>some a3
theorem Qqu:FO 289 (sI [.st .Config,nI,nI] fun x=>QoC fu x.1 x.2.1 x.2.2.1):=fI fu .go kz0 (eC (Qqt fu) (eC (QoB fu) eN)) Tryz.func289
def Qlx(p0:D.Config)(p1:Int)(p2:Int):Option Int:=optc (QsA fu p0 p1 p2) fun a0=>cnd (!a0) (some (-1)) (optc (QoC fu p0 p1 p2) fun a1=>some a1)
theorem Qqv:FO 276 (sI [.st .Config,nI,nI] fun x=>Qlx fu x.1 x.2.1 x.2.2.1):=fI fu .go kz0 (eC (QsB fu) (eC (Qqu fu) eN)) Tryz.func276
def Qi5(p0:D.Config)(p1:Int)(p2:Int):Option Int:=optc (Qlx fu p0 p1 p2) fun a0=>some a0
theorem Qqw:FO 254 (sI [.st .Config,nI,nI] fun x=>Qi5 fu x.1 x.2.1 x.2.2.1):=fI fu .go kz0 (eC (Qqv fu) eN) Tryz.func254
def QbE(p0:D.Config)(p1:D.Book)(p2:List D.Target)(p3:Int):Option (List Int):=Qj (X:=((List D.Target×Int×List Int×Int×Unit)×D.Config×D.Book×Unit)) (fun L0 ((a1,a2,a3,a4,_),a5,a6,_)=>cd (a4<((a1.length:Nat):Int)) (join (Y:=((List D.Target×Int×List Int×Int×Unit)×D.Config×D.Book×Unit)) (fun((a7,a8,a9,a10,_),a11,a12,_)=>L0 ((a7,a8,a9,(wrap .i64 (a10+1)),()),a11,a12,())) fun J13=>atc a1 a4 fun a14=>cd (a14.Kind=0) (optc (Q5 fu a14.Index 0 (wrap .i64 (((a5.People.length:Nat):Int) - 1))) fun a15=>cnd a15 (optc (WP fu a3 a14.Index) fun a16=>J13 ((a1,a2,a16,a4,()),a5,a6,())) (cd (a14.Kind=1) (optc (Q5 fu a14.Index 0 (wrap .i64 (((a5.Schedules.length:Nat):Int) - 1))) fun a17=>cnd a17 (optc (Qi5 fu a5 a14.Index a2) fun a18=>cd (0≤a18) (optc (WP fu a3 a18) fun a19=>J13 ((a1,a2,a19,a4,()),a5,a6,())) (J13 ((a1,a2,a3,a4,()),a5,a6,()))) (cd (a14.Kind=2) (optc (Q5 fu a14.Index 0 (wrap .i64 (((a6.Teams.length:Nat):Int) - 1))) fun a20=>cnd a20 (Qj (X:=((List D.Target×Int×List Int×Int×Int×Unit)×D.Config×D.Book×D.Target×Unit)) (fun L21 ((a22,a23,a24,a25,a26,_),a27,a28,a29,_)=>atc a28.Teams a29.Index fun a30=>cd (a26<((a30.Members.length:Nat):Int)) (join (Y:=((List D.Target×Int×List Int×Int×Int×Unit)×D.Config×D.Book×D.Target×Unit)) (fun((a31,a32,a33,a34,a35,_),a36,a37,a38,_)=>L21 ((a31,a32,a33,a34,(wrap .i64 (a35+1)),()),a36,a37,a38,())) fun J39=>atc a28.Teams a29.Index fun a40=>atc a40.Members a26 fun a41=>optc (Q5 fu a41 0 (wrap .i64 (((a27.People.length:Nat):Int) - 1))) fun a42=>cnd a42 (atc a28.Teams a29.Index fun a43=>atc a43.Members a26 fun a44=>optc (WP fu a24 a44) fun a45=>J39 ((a22,a23,a45,a25,a26,()),a27,a28,a29,())) (J39 ((a22,a23,a24,a25,a26,()),a27,a28,a29,()))) (J13 ((a22,a23,a24,a25,()),a27,a28,()))) fu ((a1,a2,a3,a4,0,()),a5,a6,a14,())) (J13 ((a1,a2,a3,a4,()),a5,a6,()))) (J13 ((a1,a2,a3,a4,()),a5,a6,())))) (cd (a14.Kind=2) (optc (Q5 fu a14.Index 0 (wrap .i64 (((a6.Teams.length:Nat):Int) - 1))) fun a46=>cnd a46 (Qj (X:=((List D.Target×Int×List Int×Int×Int×Unit)×D.Config×D.Book×D.Target×Unit)) (fun L47 ((a48,a49,a50,a51,a52,_),a53,a54,a55,_)=>atc a54.Teams a55.Index fun a56=>cd (a52<((a56.Members.length:Nat):Int)) (join (Y:=((List D.Target×Int×List Int×Int×Int×Unit)×D.Config×D.Book×D.Target×Unit)) (fun((a57,a58,a59,a60,a61,_),a62,a63,a64,_)=>L47 ((a57,a58,a59,a60,(wrap .i64 (a61+1)),()),a62,a63,a64,())) fun J65=>atc a54.Teams a55.Index fun a66=>atc a66.Members a52 fun a67=>optc (Q5 fu a67 0 (wrap .i64 (((a53.People.length:Nat):Int) - 1))) fun a68=>cnd a68 (atc a54.Teams a55.Index fun a69=>atc a69.Members a52 fun a70=>optc (WP fu a50 a70) fun a71=>J65 ((a48,a49,a71,a51,a52,()),a53,a54,a55,())) (J65 ((a48,a49,a50,a51,a52,()),a53,a54,a55,()))) (J13 ((a48,a49,a50,a51,()),a53,a54,()))) fu ((a1,a2,a3,a4,0,()),a5,a6,a14,())) (J13 ((a1,a2,a3,a4,()),a5,a6,()))) (J13 ((a1,a2,a3,a4,()),a5,a6,()))))) (cd (a14.Kind=1) (optc (Q5 fu a14.Index 0 (wrap .i64 (((a5.Schedules.length:Nat):Int) - 1))) fun a72=>cnd a72 (optc (Qi5 fu a5 a14.Index a2) fun a73=>cd (0≤a73) (optc (WP fu a3 a73) fun a74=>J13 ((a1,a2,a74,a4,()),a5,a6,())) (J13 ((a1,a2,a3,a4,()),a5,a6,()))) (cd (a14.Kind=2) (optc (Q5 fu a14.Index 0 (wrap .i64 (((a6.Teams.length:Nat):Int) - 1))) fun a75=>cnd a75 (Qj (X:=((List D.Target×Int×List Int×Int×Int×Unit)×D.Config×D.Book×D.Target×Unit)) (fun L76 ((a77,a78,a79,a80,a81,_),a82,a83,a84,_)=>atc a83.Teams a84.Index fun a85=>cd (a81<((a85.Members.length:Nat):Int)) (join (Y:=((List D.Target×Int×List Int×Int×Int×Unit)×D.Config×D.Book×D.Target×Unit)) (fun((a86,a87,a88,a89,a90,_),a91,a92,a93,_)=>L76 ((a86,a87,a88,a89,(wrap .i64 (a90+1)),()),a91,a92,a93,())) fun J94=>atc a83.Teams a84.Index fun a95=>atc a95.Members a81 fun a96=>optc (Q5 fu a96 0 (wrap .i64 (((a82.People.length:Nat):Int) - 1))) fun a97=>cnd a97 (atc a83.Teams a84.Index fun a98=>atc a98.Members a81 fun a99=>optc (WP fu a79 a99) fun a100=>J94 ((a77,a78,a100,a80,a81,()),a82,a83,a84,())) (J94 ((a77,a78,a79,a80,a81,()),a82,a83,a84,()))) (J13 ((a77,a78,a79,a80,()),a82,a83,()))) fu ((a1,a2,a3,a4,0,()),a5,a6,a14,())) (J13 ((a1,a2,a3,a4,()),a5,a6,()))) (J13 ((a1,a2,a3,a4,()),a5,a6,())))) (cd (a14.Kind=2) (optc (Q5 fu a14.Index 0 (wrap .i64 (((a6.Teams.length:Nat):Int) - 1))) fun a101=>cnd a101 (Qj (X:=((List D.Target×Int×List Int×Int×Int×Unit)×D.Config×D.Book×D.Target×Unit)) (fun L102 ((a103,a104,a105,a106,a107,_),a108,a109,a110,_)=>atc a109.Teams a110.Index fun a111=>cd (a107<((a111.Members.length:Nat):Int)) (join (Y:=((List D.Target×Int×List Int×Int×Int×Unit)×D.Config×D.Book×D.Target×Unit)) (fun((a112,a113,a114,a115,a116,_),a117,a118,a119,_)=>L102 ((a112,a113,a114,a115,(wrap .i64 (a116+1)),()),a117,a118,a119,())) fun J120=>atc a109.Teams a110.Index fun a121=>atc a121.Members a107 fun a122=>optc (Q5 fu a122 0 (wrap .i64 (((a108.People.length:Nat):Int) - 1))) fun a123=>cnd a123 (atc a109.Teams a110.Index fun a124=>atc a124.Members a107 fun a125=>optc (WP fu a105 a125) fun a126=>J120 ((a103,a104,a126,a106,a107,()),a108,a109,a110,())) (J120 ((a103,a104,a105,a106,a107,()),a108,a109,a110,()))) (J13 ((a103,a104,a105,a106,()),a108,a109,()))) fu ((a1,a2,a3,a4,0,()),a5,a6,a14,())) (J13 ((a1,a2,a3,a4,()),a5,a6,()))) (J13 ((a1,a2,a3,a4,()),a5,a6,()))))) (some a3)) fu ((p2,p3,[],0,()),p0,p1,())
theorem Qlz:FO 210 (Qf [.st .Config,.st .Book,.one (.lst .Target),nI] [] [lI] [] [] (List Int) kz1 (fun x y=>QbE fu x.1 x.2.1 x.2.2.1 x.2.2.2.1)):=fI fu (gs 2 (lp [li 2 .Target,ni 3,rf 4,rf 5,(9,lI),ni 10] [bx 1004 .Config,bx 1005 .Book] (.two .go (.two (.join [li 2 .Target,ni 3,rf 4,rf 5,(9,lI),ni 10] [bx 1004 .Config,bx 1005 .Book] (.one (.two .go (.one (gs 5 (lp [li 2 .Target,ni 3,rf 4,rf 5,(9,lI),ni 10,rf 11,ni 13] [bx 1004 .Config,bx 1005 .Book,bx 1011 .Target] (.two .go (.two (.join [li 2 .Target,ni 3,rf 4,rf 5,(9,lI),ni 10,rf 11,ni 13] [bx 1004 .Config,bx 1005 .Book,bx 1011 .Target] .go) .go)))))))) .go)))) kz0 (eC (Wa fu) (eC (Qi6 fu) (eC (Qqw fu) eN))) Tryz.func210
def Qi1(fu:Nat)(p0:Int)(p1:Int):Option Bool:=cd (0≤p0) (cd (p0≤8589934592) (cd (p0≤p1) (cd (p1≤8589934592) (cd ((wrap .i64 (p1 - p0))≤34560000) sT sF) sF) sF) sF) sF
theorem Qne:FO 277 (sB [nI,nI] fun x=>Qi1 fu x.1 x.2.1):=fI fu .go kz0 eN Tryz.func277
def QfP(p0:D.Config)(p1:Int)(p2:Int)(p3:Int):Option Int:=join (Y:=(Unit×Unit)) (fun(_,_)=>some 0) fun J0=>optc (Vt fu p0) fun a1=>cd (a1≠0) (some 8) (cd (p1<0) (some 3) (cd (((p0.People.length:Nat):Int)≤p1) (some 3) (optc (Qi1 fu p2 p3) fun a2=>cnd (!a2) (some 1) (J0 ((),())))))
theorem Qnn:FO 255 (sI [.st .Config,nI,nI,nI] fun x=>QfP fu x.1 x.2.1 x.2.2.1 x.2.2.2.1):=fI fu (.two .go (.two (.join [] [] .go) .go)) kz0 (eC (Qa3 fu) (eC (Qne fu) eN)) Tryz.func255
def U0(p0:D.Config)(p1:Int)(p2:Int)(p3:Bool):Option Bool:=optc (QfP fu p0 p1 p2 p2) fun a0=>cd (a0≠0) sF (atc p0.People p1 fun a1=>atc p0.Zones a1.Zone fun a2=>optc (Qkj fu a2 a1.Quiet p2) fun a3=>cnd a3 (cnd p3 (cnd a1.Consent sT sF) sF) sT)
theorem Qhi:FO 211 (sB [.st .Config,nI,nI,.one .boo] fun x=>U0 fu x.1 x.2.1 x.2.2.1 x.2.2.2.1):=fI fu .go kz0 (eC (Qnn fu) (eC (Qnd fu) eN)) Tryz.func211
def QhE(p0:D.Config)(p1:D.Book)(p2:D.Page):Option (D.Page×Int):=optc (Vv fu p1 p2) fun a0=>cnd (!a0) (some ((D.Page.mk 0 0 0 0 0 0 0 0 0 0 0 [] [] []),8)) (optc (Qe5 fu p2) fun(a1,a2)=>cnd (!a2) (some ((D.Page.mk 0 0 0 0 0 0 0 0 0 0 0 [] [] []),9)) (cd (200≤((p2.Starts.length:Nat):Int)) (some ((D.Page.mk 0 0 0 0 0 0 0 0 0 0 0 [] [] []),5)) (optc (U1 fu p2) fun a3=>cd (p2.State=2) (some ((D.Page.mk a3.ID a3.Policy a3.Start a3.Next a1 0 a3.By a3.Until (max a1 p2.Last) a3.Snoozes a3.Hands a3.Starts a3.Declined a3.Seen),0)) (atc p1.Policies p2.Policy fun a4=>optc (QfQ fu a4 p2.Next) fun(a5,a6,a7)=>cnd (!a7) (some ((D.Page.mk a3.ID a3.Policy a3.Start a3.Next a3.Due 3 a3.By a3.Until (max a1 p2.Last) a3.Snoozes a3.Hands a3.Starts a3.Declined a3.Seen),0)) (atc a4.Steps a5 fun a8=>optc (QbE fu p0 p1 a8.Targets a1) fun a9=>Qj (X:=((Int×Int×List Int×Int×Unit)×D.Config×D.Page×D.Page×P11×D.Policy×(Int×Int×Unit)×List D.Start×List Int×List Int×List Int×Unit)) (fun L10 ((a11,a12,a13,a14,_),a15,a16,a17,(a18,a19,a20,a21,a22,a23,a24,a25,a26,a27,a28,_),a29,(a30,a31,_),a32,a33,a34,a35,_)=>cd (a14<((a13.length:Nat):Int)) (join (Y:=((Int×Int×List Int×Int×Unit)×D.Config×D.Page×D.Page×P11×D.Policy×(Int×Int×Unit)×List D.Start×List Int×List Int×List Int×Unit)) (fun((a36,a37,a38,a39,_),a40,a41,a42,(a43,a44,a45,a46,a47,a48,a49,a50,a51,a52,a53,_),a54,(a55,a56,_),a57,a58,a59,a60,_)=>L10 ((a36,a37,a38,(wrap .i64 (a39+1)),()),a40,a41,a42,(a43,a44,a45,a46,a47,a48,a49,a50,a51,a52,a53,()),a54,(a55,a56,()),a57,a58,a59,a60,())) fun J61=>atc a13 a14 fun a62=>atc a29.Steps a12 fun a63=>optc (U0 fu a15 a62 a11 a63.Urgent) fun a64=>cnd a64 (atc a13 a14 fun a65=>lec (a35.length+(List.length (a65::[]))) 34359738368 (J61 ((a11,a12,a13,a14,()),a15,a16,a17,(a18,a19,a20,a21,a22,a23,a24,a25,a26,a27,a28,()),a29,(a30,a31,()),a32,a33,a34,(a35++(a65::[])),()))) (J61 ((a11,a12,a13,a14,()),a15,a16,a17,(a18,a19,a20,a21,a22,a23,a24,a25,a26,a27,a28,()),a29,(a30,a31,()),a32,a33,a34,a35,()))) (lec (a32.length+(List.length ((D.Start.mk a30 a31 a35)::[]))) 34359738368 (join (Y:=(Unit×D.Page×(Int×Int×Int×Int×Int×Int×Int×Int×Int×Int×Int×List Int×Unit)×List D.Start×List Int×Unit)) (fun(_,a66,(a67,a68,a69,a70,a71,a72,a73,a74,a75,a76,a77,a78,_),a79,a80,_)=>some ((D.Page.mk a67 a68 a69 a70 a71 a72 a73 a74 a75 a76 a77 a79 a78 a80),0)) fun J81=>cd (0<((a35.length:Nat):Int)) (atc a29.Steps a12 fun a82=>J81 ((),a17,(a18,a19,a20,(wrap .i64 (a16.Next+1)),(wrap .i64 (a22+a82.Wait)),a23,a24,a25,a26,a27,a28,[],()),(a32++((D.Start.mk a30 a31 a35)::[])),a34,())) (J81 ((),a17,(a18,a19,a20,(wrap .i64 (a16.Next+1)),a22,a23,a24,a25,a26,a27,a28,[],()),(a32++((D.Start.mk a30 a31 a35)::[])),a34,()))))) fu ((a1,a5,a9,0,()),p0,p2,(D.Page.mk 0 0 0 0 0 0 0 0 0 0 0 [] [] []),(a3.ID,a3.Policy,a3.Start,a3.Next,a3.Due,a3.State,a3.By,a3.Until,(max a1 p2.Last),a3.Snoozes,a3.Hands,()),a4,(p2.Next,a1,()),a3.Starts,a3.Declined,a3.Seen,[],()))))))
theorem QoH:FO 139 (Qf [.st .Config,.st .Book,.st .Page] [] [.st .Page,nI] [] [] (D.Page×Int) kz3 (fun x y=>QhE fu x.1 x.2.1 x.2.2.1)):=fI fu (gs 13 (.two (.two .go (.one (.loop [rf 3,rf 5,rf 6,ni 8,rf 10,rf 11,ni 12,rf 15,(16,lI),ni 17] [bx 1003 .Config,bx 1005 .Page,bx 1006 .Page,(1010,.box bI0),bx 1011 .Policy,(1015,.box [kI,kI,.own 1108]),ar 1038025 .Start,ar 1038030 .int,ar 1038033 .int,ar 1108 .int] (.two .go (.two (.join [rf 3,rf 5,rf 6,ni 8,rf 10,rf 11,ni 12,rf 15,(16,lI),ni 17] [bx 1003 .Config,bx 1005 .Page,bx 1006 .Page,(1010,.box bI0),bx 1011 .Policy,(1015,.box [kI,kI,.own 1108]),ar 1038025 .Start,ar 1038030 .int,ar 1038033 .int,ar 1108 .int] .go) .go))))) (.two (.frz [1108] .go) (.two (.join [rf 6,rf 10] [bx 1006 .Page,(1010,.box [kI,kI,kI,kI,kI,kI,kI,kI,kI,kI,kI,.own 1038025,.lst .int,.own 1038033]),ar 1038025 .Start,ar 1038033 .int] .go) .go)))) kz4 (eC (QbF fu) (eC (VY fu) (eC (Qa5 fu) (eC (QoE fu) (eC (Qlz fu) (eC (Qhi fu) eN)))))) Tryz.func139
def QlF(p0:D.Config)(p1:D.Book)(p2:D.Page)(p3:Int):Option (D.Page×Int):=optc (Vv fu p1 p2) fun a0=>cnd (!a0) (some ((D.Page.mk 0 0 0 0 0 0 0 0 0 0 0 [] [] []),8)) (optc (U1 fu p2) fun a1=>Qj (X:=((Int×Unit)×D.Config×D.Book×D.Page×D.Page×Unit)) (fun L2 ((a3,_),a4,a5,a6,a7,_)=>optc (Qe5 fu a6) fun(a8,a9)=>join (Y:=((Int×Unit)×D.Config×D.Book×D.Page×D.Page×Unit)) (fun((a10,_),a11,a12,a13,a14,_)=>optc (QhE fu a11 a12 a13) fun(a15,a16)=>cd (a16≠0) (some ((D.Page.mk 0 0 0 0 0 0 0 0 0 0 0 [] [] []),a16)) (L2 ((a10,()),a11,a12,a15,a14,()))) fun J17=>cnd a9 (cd (a3<a8) (some (a6,0)) (J17 ((a3,()),a4,a5,a6,a7,()))) (some (a6,0))) fu ((p3,()),p0,p1,a1,(D.Page.mk 0 0 0 0 0 0 0 0 0 0 0 [] [] []),()))
theorem Qqy:FO 92 (Qf [.st .Config,.st .Book,.st .Page,nI] [] [.st .Page,nI] [] [] (D.Page×Int) kz3 (fun x y=>QlF fu x.1 x.2.1 x.2.2.1 x.2.2.2.1)):=fI fu (gs 3 (.one (.loop [ni 3,rf 4,rf 5,rf 6,rf 8] [bx 1004 .Config,bx 1005 .Book,bx 1006 .Page,bx 1008 .Page] (.one (.two .go (.two (.join [ni 3,rf 4,rf 5,rf 6,rf 8] [bx 1004 .Config,bx 1005 .Book,bx 1006 .Page,bx 1008 .Page] .go) .go)))))) kz4 (eC (QbF fu) (eC (VY fu) (eC (Qa5 fu) (eC (QoH fu) eN)))) Tryz.func92
def Qck(p0:D.Page)(p1:D.Answer):Option Int:=optc (Qe5 fu p0) fun(a0,a1)=>join (Y:=(Unit×Unit)) (fun(_,_)=>some 0) fun J2=>cd (p1.At<p0.Last) (some 6) (cnd a1 (cd (a0≤p1.At) (some 6) (join (Y:=((Bool×Unit)×D.Page×D.Answer×Unit)) (fun((a3,_),a4,a5,_)=>cnd a3 (some 9) (join (Y:=((Bool×Unit)×Unit)) (fun((a6,_),_)=>cnd a6 (some 5) (J2 ((),()))) fun J7=>cd (64≤((a4.Seen.length:Nat):Int)) (J7 (((decide (64≤((a4.Seen.length:Nat):Int))),()),())) (cd (a5.Kind=3) (cd (4≤a4.Snoozes) (J7 ((true,()),())) (cd (a5.Kind=4) (cd (4≤a4.Hands) (J7 ((true,()),())) (cd (200≤((a4.Starts.length:Nat):Int)) (J7 ((true,()),())) (J7 ((false,()),())))) (J7 ((false,()),())))) (cd (a5.Kind=4) (cd (4≤a4.Hands) (J7 ((true,()),())) (cd (200≤((a4.Starts.length:Nat):Int)) (J7 ((true,()),())) (J7 ((false,()),())))) (J7 ((false,()),())))))) fun J8=>cd (p0.State=4) (J8 (((decide (p0.State=4)),()),p0,p1,())) (cd (p0.State=3) (cd (p1.Kind≠5) (J8 ((true,()),p0,p1,())) (cd (p0.State=1) (cd (p1.Kind=2) (J8 ((true,()),p0,p1,())) (J8 ((false,()),p0,p1,()))) (J8 ((false,()),p0,p1,())))) (cd (p0.State=1) (cd (p1.Kind=2) (J8 ((true,()),p0,p1,())) (J8 ((false,()),p0,p1,()))) (J8 ((false,()),p0,p1,())))))) (join (Y:=((Bool×Unit)×D.Page×D.Answer×Unit)) (fun((a9,_),a10,a11,_)=>cnd a9 (some 9) (join (Y:=((Bool×Unit)×Unit)) (fun((a12,_),_)=>cnd a12 (some 5) (J2 ((),()))) fun J13=>cd (64≤((a10.Seen.length:Nat):Int)) (J13 (((decide (64≤((a10.Seen.length:Nat):Int))),()),())) (cd (a11.Kind=3) (cd (4≤a10.Snoozes) (J13 ((true,()),())) (cd (a11.Kind=4) (cd (4≤a10.Hands) (J13 ((true,()),())) (cd (200≤((a10.Starts.length:Nat):Int)) (J13 ((true,()),())) (J13 ((false,()),())))) (J13 ((false,()),())))) (cd (a11.Kind=4) (cd (4≤a10.Hands) (J13 ((true,()),())) (cd (200≤((a10.Starts.length:Nat):Int)) (J13 ((true,()),())) (J13 ((false,()),())))) (J13 ((false,()),())))))) fun J14=>cd (p0.State=4) (J14 (((decide (p0.State=4)),()),p0,p1,())) (cd (p0.State=3) (cd (p1.Kind≠5) (J14 ((true,()),p0,p1,())) (cd (p0.State=1) (cd (p1.Kind=2) (J14 ((true,()),p0,p1,())) (J14 ((false,()),p0,p1,()))) (J14 ((false,()),p0,p1,())))) (cd (p0.State=1) (cd (p1.Kind=2) (J14 ((true,()),p0,p1,())) (J14 ((false,()),p0,p1,()))) (J14 ((false,()),p0,p1,()))))))
theorem QjO:FO 140 (sI [.st .Page,.st .Answer] fun x=>Qck fu x.1 x.2.1):=fI fu (gs 2 (.two (.join [] [] (.one (gs 2 (.two (.join [rf 2,rf 3,(27,.one .boo)] [bx 1002 .Page,bx 1003 .Answer] .go) (.two .go (.two (.join [(47,.one .boo)] [] .go) .go)))))) .go)) kz0 (eC (QbF fu) eN) Tryz.func140
end
end Go.Proofs.YtadlpefpehjcoaaGreat
/-
  What functions do, reckoned from their code, and their contracts. Printed by wip/gen/brun.py.
-/
namespace Go.Proofs.YtadlpefpehjcoaaGreat
open Go AM IntKind
noncomputable section
abbrev bJ0:List Sh:=[kI,.lst .Zone,.lst .Person,.lst .Calendar,.lst .Schedule,.lst .Team,.lst .Policy,.own 101,kI,kI,.own 102,.own 103]
abbrev bJ1:List Sh:=[kI,kI,kI,kI,kI,kI,kI,kI,kI,kI,kI,.own 1033025,.lst .int,.own 1033033]
abbrev bJ2:List Sh:=[kI,kI,kI,kI,kI,kI,kI,kI,kI,kI,kI,.own 101,.lst .int,.own 103]
abbrev bJ3:List Sh:=[kI,kI,kI,kI,kI,kI,kI,kI,kI,kI,kI,.own 103,.own 104,.own 105]
abbrev bJ4:List Sh:=[kI,kI,kI,kI,kI,kI,kI,kI,kI,kI,kI,.own 104,.own 105,.own 106]
abbrev bJ5:List Sh:=[kI,kI,kI,kI,kI,kI,kI,kI,kI,kI,kI,.own 101,.own 102,.own 103]
abbrev bJ6:List Sh:=[kI,kI,kI,kI,kI,kI,kI,kI,kI,kI,kI,.own 102,.own 103,.own 104]
variable (fu:Nat)
def Qd4(fu:Nat)(p0:D.Page):Option (List Int):=cd (((p0.Starts.length:Nat):Int)=0) (some []) (atc p0.Starts (wrap .i64 (((p0.Starts.length:Nat):Int) - 1)) fun a0=>lec a0.People.length 34359738368 (some a0.People))
theorem QlE:FO 141 (Qf [.st .Page] [] [lI] [] [] (List Int) kz1 (fun x y=>Qd4 fu x.1)):=fI fu .go kz0 eN Tryz.func141
def Qd3(p0:D.Config)(p1:D.Book)(p2:D.Page)(p3:D.Answer):Option (D.Page×Int):=join (Y:=(Unit×D.Page×D.Answer×D.Page×Unit)) (fun(_,a0,a1,a2,_)=>cd (a1.Page≠a0.ID) (some ((D.Page.mk 0 0 0 0 0 0 0 0 0 0 0 [] [] []),3)) (optc (U1 fu a0) fun a3=>optc (Qch fu a0.Seen a1.ID) fun a4=>cnd a4 (some (a3,0)) (optc (Qck fu a0 a1) fun a5=>cd (a5≠0) (some ((D.Page.mk 0 0 0 0 0 0 0 0 0 0 0 [] [] []),a5)) (lec (a3.Seen.length+(List.length (a1.ID::[]))) 34359738368 (join (Y:=(Unit×D.Page×(Int×Int×Int×Int×Int×Int×Int×Int×Int×Int×Int×List Int×Unit)×List D.Start×List Int×Unit)) (fun(_,a6,(a7,a8,a9,a10,a11,a12,a13,a14,a15,a16,a17,a18,_),a19,a20,_)=>some ((D.Page.mk a7 a8 a9 a10 a11 a12 a13 a14 a15 a16 a17 a19 a18 a20),0)) fun J21=>cd (a1.Kind=1) (cd (a0.State=1) (J21 ((),a2,(a3.ID,a3.Policy,a3.Start,a3.Next,a3.Due,a3.State,a3.By,a3.Until,a0.Last,a3.Snoozes,a3.Hands,a3.Declined,()),a3.Starts,(a3.Seen++(a1.ID::[])),())) (J21 ((),a2,(a3.ID,a3.Policy,a3.Start,a3.Next,a3.Due,1,a1.Person,a3.Until,a1.At,a3.Snoozes,a3.Hands,a3.Declined,()),a3.Starts,(a3.Seen++(a1.ID::[])),()))) (cd (a1.Kind=2) (optc (Qd4 fu a0) fun a22=>join (Y:=((List Int×Unit)×D.Page×D.Answer×D.Page×(Int×Int×Int×Int×Int×Int×Int×Int×Int×Int×Int×List Int×Unit)×List D.Start×List Int×Unit)) (fun((a23,_),a24,a25,a26,(a27,a28,a29,a30,a31,a32,a33,a34,a35,a36,a37,a38,_),a39,a40,_)=>Qj (X:=((List Int×Bool×Int×Unit)×D.Page×D.Answer×D.Page×(Int×Int×Int×Int×Int×Int×Int×Int×Int×Int×Int×List Int×Unit)×List D.Start×List Int×Unit)) (fun L41 ((a42,a43,a44,_),a45,a46,a47,(a48,a49,a50,a51,a52,a53,a54,a55,a56,a57,a58,a59,_),a60,a61,_)=>cd (a44<((a42.length:Nat):Int)) (join (Y:=((List Int×Bool×Int×Unit)×D.Page×D.Answer×D.Page×(Int×Int×Int×Int×Int×Int×Int×Int×Int×Int×Int×List Int×Unit)×List D.Start×List Int×Unit)) (fun((a62,a63,a64,_),a65,a66,a67,(a68,a69,a70,a71,a72,a73,a74,a75,a76,a77,a78,a79,_),a80,a81,_)=>L41 ((a62,a63,(wrap .i64 (a64+1)),()),a65,a66,a67,(a68,a69,a70,a71,a72,a73,a74,a75,a76,a77,a78,a79,()),a80,a81,())) fun J82=>cnd a43 (atc a42 a44 fun a83=>optc (Qch fu a59 a83) fun a84=>cnd a84 (J82 ((a42,true,a44,()),a45,a46,a47,(a48,a49,a50,a51,a52,a53,a54,a55,a56,a57,a58,a59,()),a60,a61,())) (J82 ((a42,false,a44,()),a45,a46,a47,(a48,a49,a50,a51,a52,a53,a54,a55,a56,a57,a58,a59,()),a60,a61,()))) (J82 ((a42,false,a44,()),a45,a46,a47,(a48,a49,a50,a51,a52,a53,a54,a55,a56,a57,a58,a59,()),a60,a61,()))) (cnd a43 (cd (a45.State=0) (J21 ((),a47,(a48,a49,a50,a51,a46.At,a53,a54,a55,a56,a57,a58,a59,()),a60,a61,())) (J21 ((),a47,(a48,a49,a50,a51,a52,a53,a54,a55,a56,a57,a58,a59,()),a60,a61,()))) (J21 ((),a47,(a48,a49,a50,a51,a52,a53,a54,a55,a56,a57,a58,a59,()),a60,a61,())))) fu ((a23,(decide (0<((a23.length:Nat):Int))),0,()),a24,a25,a26,(a27,a28,a29,a30,a31,a32,a33,a34,a35,a36,a37,a38,()),a39,a40,())) fun J85=>optc (Qch fu a22 a1.Person) fun a86=>cnd a86 (optc (WP fu a3.Declined a1.Person) fun a87=>J85 ((a22,()),a0,a1,a2,(a3.ID,a3.Policy,a3.Start,a3.Next,a3.Due,a3.State,a3.By,a3.Until,a1.At,a3.Snoozes,a3.Hands,a87,()),a3.Starts,(a3.Seen++(a1.ID::[])),())) (J85 ((a22,()),a0,a1,a2,(a3.ID,a3.Policy,a3.Start,a3.Next,a3.Due,a3.State,a3.By,a3.Until,a1.At,a3.Snoozes,a3.Hands,a3.Declined,()),a3.Starts,(a3.Seen++(a1.ID::[])),()))) (cd (a1.Kind=3) (J21 ((),a2,(a3.ID,a3.Policy,a3.Start,a3.Next,a3.Due,2,a1.Person,(wrap .i64 (a1.At+a1.Arg)),a1.At,(wrap .i64 (a0.Snoozes+1)),a3.Hands,a3.Declined,()),a3.Starts,(a3.Seen++(a1.ID::[])),())) (cd (a1.Kind=4) (lec (a3.Starts.length+(List.length ((D.Start.mk (-1) a1.At (a1.Arg::[]))::[]))) 34359738368 (J21 ((),a2,(a3.ID,a3.Policy,a3.Start,a3.Next,(wrap .i64 (a1.At+600)),0,a3.By,a3.Until,a1.At,a3.Snoozes,(wrap .i64 (a0.Hands+1)),[],()),(a3.Starts++((D.Start.mk (-1) a1.At (a1.Arg::[]))::[])),(a3.Seen++(a1.ID::[])),()))) (cd (a1.Kind=5) (J21 ((),a2,(a3.ID,a3.Policy,a3.Start,a3.Next,a3.Due,4,a1.Person,a3.Until,a1.At,a3.Snoozes,a3.Hands,a3.Declined,()),a3.Starts,(a3.Seen++(a1.ID::[])),())) (J21 ((),a2,(a3.ID,a3.Policy,a3.Start,a3.Next,a3.Due,a3.State,a3.By,a3.Until,a1.At,a3.Snoozes,a3.Hands,a3.Declined,()),a3.Starts,(a3.Seen++(a1.ID::[])),()))))))))))) fun J88=>optc (Vv fu p1 p2) fun a89=>cnd a89 (optc (Qdm fu p3) fun a90=>cnd a90 (J88 ((),p2,p3,(D.Page.mk 0 0 0 0 0 0 0 0 0 0 0 [] [] []),())) (some ((D.Page.mk 0 0 0 0 0 0 0 0 0 0 0 [] [] []),8))) (some ((D.Page.mk 0 0 0 0 0 0 0 0 0 0 0 [] [] []),8))
theorem QlD:FO 94 (Qf [.st .Config,.st .Book,.st .Page,.st .Answer] [] [.st .Page,nI] [] [] (D.Page×Int) kz3 (fun x y=>Qd3 fu x.1 x.2.1 x.2.2.1 x.2.2.2.1)):=fI fu (.two .go (.two (.join [rf 6,rf 7,rf 8] [bx 1006 .Page,bx 1007 .Answer,bx 1008 .Page] .go) (gs 5 (.two (.join [rf 8,rf 10] [bx 1008 .Page,(1010,.box bJ1),ar 1033025 .Start,ar 1033033 .int] (.two .go (.one (gs 3 (.two (.two .go (.two (.join [rf 6,rf 7,rf 8,rf 10,(12,lI)] [bx 1006 .Page,bx 1007 .Answer,bx 1008 .Page,(1010,.box bJ1),ar 1033025 .Start,ar 1033033 .int] .go) (.two .go (lp [rf 6,rf 7,rf 8,rf 10,(12,lI),(13,.one .boo),ni 14] [bx 1006 .Page,bx 1007 .Answer,bx 1008 .Page,(1010,.box bJ1),ar 1033025 .Start,ar 1033033 .int] (.two .go (.two (.join [rf 6,rf 7,rf 8,rf 10,(12,lI),(13,.one .boo),ni 14] [bx 1006 .Page,bx 1007 .Answer,bx 1008 .Page,(1010,.box bJ1),ar 1033025 .Start,ar 1033033 .int] .go) .go)))))) .go))))) .go)))) kz4 (eC (Qd1 fu) (eC (VY fu) (eC (Qi6 fu) (eC (Qa5 fu) (eC (Qg5 fu) (eC (QjO fu) (eC (QlE fu) eN))))))) Tryz.func94
def Qly(fu:Nat)(p0:D.Config)(p1:Int)(p2:List D.Edit):Option D.Config:=lec p0.Schedules.length 34359738368 (natc p1 fun a0=>ltc a0 p0.Schedules.length (optc (GetElem?.getElem? p0.Schedules a0) fun a1=>some (D.Config.mk p0.Zones p0.People p0.Calendars (List.set p0.Schedules a0 (D.Schedule.mk a1.Name a1.Layers p2)))))
theorem QoD:FO 95 (Qf [.st .Config,nI,.one (.lst .Edit)] [] [.st .Config] [] [] D.Config kz1 (fun x y=>Qly fu x.1 x.2.1 x.2.2.1)):=fI fu .go kz0 eN Tryz.func95
def Qdj(p0:D.Config)(p1:Int)(p2:D.Edit):Option (D.Config×Int):=join (Y:=((Int×Unit)×D.Config×D.Edit×D.Config×Unit)) (fun((a0,_),a1,a2,a3,_)=>atc a1.Schedules a0 fun a4=>lec a4.Edits.length 34359738368 (lec (a4.Edits.length+(List.length (a2::[]))) 34359738368 (optc (Qly fu a1 a0 (a4.Edits++(a2::[]))) fun a5=>optc (Vt fu a5) fun a6=>cd (a6≠0) (some ((D.Config.mk [] [] [] []),a6)) (some (a5,0))))) fun J7=>optc (Vt fu p0) fun a8=>cd (a8≠0) (some ((D.Config.mk [] [] [] []),8)) (cd (p1<0) (some ((D.Config.mk [] [] [] []),3)) (cd (((p0.Schedules.length:Nat):Int)≤p1) (some ((D.Config.mk [] [] [] []),3)) (J7 ((p1,()),p0,p2,(D.Config.mk [] [] [] []),()))))
theorem Qnm:FO 72 (Qf [.st .Config,nI,.st .Edit] [] [.st .Config,nI] [] [] (D.Config×Int) kz3 (fun x y=>Qdj fu x.1 x.2.1 x.2.2.1)):=fI fu (.two .go (.two (.join [ni 1,rf 3,rf 5,rf 6] [bx 1003 .Config,bx 1005 .Edit,bx 1006 .Config] .go) .go)) kz4 (eC (Qa3 fu) (eC (QoD fu) eN)) Tryz.func72
def ZR(p0:D.Ledger)(p1:Int):Option (D.Page×Bool):=Qj (X:=((Int×Int×Unit)×(Int×List D.Zone×List D.Person×List D.Calendar×List D.Schedule×List D.Team×List D.Policy×Int×Int×Unit)×D.Page×List D.Page×List Int×List D.Call×Unit)) (fun L0 ((a1,a2,_),(a3,a4,a5,a6,a7,a8,a9,a10,a11,_),a12,a13,a14,a15,_)=>cd (a2<((a13.length:Nat):Int)) (natc a2 fun a16=>ltc a16 a13.length (optc (GetElem?.getElem? a13 a16) fun a17=>cd (a17.ID=a1) (natc a2 fun a18=>ltc a18 a13.length (optc (GetElem?.getElem? a13 a18) fun a19=>optc (U1 fu a19) fun a20=>sameC a13 p0.Pages (sameC a14 p0.Seen (sameC a15 p0.Calls (some (a20,true)))))) (L0 ((a1,(wrap .i64 (a2+1)),()),(a3,a4,a5,a6,a7,a8,a9,a10,a11,()),a12,a13,a14,a15,())))) (sameC a13 p0.Pages (sameC a14 p0.Seen (sameC a15 p0.Calls (some ((D.Page.mk 0 0 0 0 0 0 0 0 0 0 0 [] [] []),false)))))) fu ((p1,0,()),(p0.Now,p0.Config.Zones,p0.Config.People,p0.Config.Calendars,p0.Config.Schedules,p0.Book.Teams,p0.Book.Policies,p0.Owner,p0.Fence,()),(D.Page.mk 0 0 0 0 0 0 0 0 0 0 0 [] [] []),p0.Pages,p0.Seen,p0.Calls,())
theorem Wb:FO 58 (Qf [.agg bJ0,nI] [ar 101 .Page,ar 102 .int,ar 103 .Call] [.st .Page,.one .boo] [] [101,102,103] (D.Page×Bool) kz3 (fun x y=>ZR fu (D.Ledger.mk x.1.1 (D.Config.mk x.1.2.1 x.1.2.2.1 x.1.2.2.2.1 x.1.2.2.2.2.1) (D.Book.mk x.1.2.2.2.2.2.1 x.1.2.2.2.2.2.2.1) y.1 x.1.2.2.2.2.2.2.2.1 x.1.2.2.2.2.2.2.2.2.1 y.2.1 y.2.2.1) x.2.1)):=fI fu (.two .go (lp [ni 1,rf 2,rf 4,ni 6] [(1002,.box bJ0),bx 1004 .Page,ar 101 .Page,ar 102 .int,ar 103 .Call] .go)) kz4 (eC (VY fu) eN) Tryz.func58
def Xi(p0:D.Ledger)(p1:D.Page):Option D.Ledger:=Qj (X:=((Int×Unit)×(Int×List D.Zone×List D.Person×List D.Calendar×List D.Schedule×List D.Team×List D.Policy×Int×Int×Unit)×D.Page×D.Ledger×List D.Page×List Int×List D.Call×Unit)) (fun L0 ((a1,_),(a2,a3,a4,a5,a6,a7,a8,a9,a10,_),a11,a12,a13,a14,a15,_)=>cd (a1<((a13.length:Nat):Int)) (join (Y:=((Int×Unit)×(Int×List D.Zone×List D.Person×List D.Calendar×List D.Schedule×List D.Team×List D.Policy×Int×Int×Unit)×D.Page×D.Ledger×List D.Page×List Int×List D.Call×Unit)) (fun((a16,_),(a17,a18,a19,a20,a21,a22,a23,a24,a25,_),a26,a27,a28,a29,a30,_)=>L0 (((wrap .i64 (a16+1)),()),(a17,a18,a19,a20,a21,a22,a23,a24,a25,()),a26,a27,a28,a29,a30,())) fun J31=>natc a1 fun a32=>ltc a32 a13.length (optc (GetElem?.getElem? a13 a32) fun a33=>cd (a33.ID=a11.ID) (natc a1 fun a34=>ltc a34 a13.length (optc (GetElem?.getElem? a13 a34) fun a35=>optc (QbG fu a11 ((a35.Starts.length:Nat):Int) a10) fun a36=>lec (a15.length+a36.length) 34359738368 (natc a1 fun a37=>ltc a37 a13.length (optc (GetElem?.getElem? a13 a37) fun a38=>J31 ((a1,()),(a2,a3,a4,a5,a6,a7,a8,a9,a10,()),a11,a12,(List.set a13 a37 a11),a14,(a15++a36),()))))) (J31 ((a1,()),(a2,a3,a4,a5,a6,a7,a8,a9,a10,()),a11,a12,a13,a14,a15,())))) (some (D.Ledger.mk a2 (D.Config.mk a3 a4 a5 a6) (D.Book.mk a7 a8) a13 a9 a10 a14 a15))) fu ((0,()),(p0.Now,p0.Config.Zones,p0.Config.People,p0.Config.Calendars,p0.Config.Schedules,p0.Book.Teams,p0.Book.Policies,p0.Owner,p0.Fence,()),p1,(D.Ledger.mk 0 (D.Config.mk [] [] [] []) (D.Book.mk [] []) [] 0 0 [] []),p0.Pages,p0.Seen,p0.Calls,())
theorem UD:FO 93 (Qf [.agg bJ0,.st .Page] [ar 101 .Page,ar 102 .int,ar 103 .Call] [.agg bJ0] [ar 101 .Page,ar 102 .int,ar 103 .Call] [] D.Ledger kz7 (fun x y=>Xi fu (D.Ledger.mk x.1.1 (D.Config.mk x.1.2.1 x.1.2.2.1 x.1.2.2.2.1 x.1.2.2.2.2.1) (D.Book.mk x.1.2.2.2.2.2.1 x.1.2.2.2.2.2.2.1) y.1 x.1.2.2.2.2.2.2.2.1 x.1.2.2.2.2.2.2.2.2.1 y.2.1 y.2.2.1) x.2.1)):=fI fu (.two .go (lp [rf 2,rf 3,rf 4,ni 5] [(1002,.box bJ0),bx 1003 .Page,bx 1004 .Ledger,ar 101 .Page,ar 102 .int,ar 103 .Call] (.two .go (.two (.join [rf 2,rf 3,rf 4,ni 5] [(1002,.box bJ0),bx 1003 .Page,bx 1004 .Ledger,ar 101 .Page,ar 102 .int,ar 103 .Call] .go) .go)))) kz15 (eC (Qdo fu) eN) Tryz.func93
def Z3(p0:D.Ledger)(p1:Int)(p2:Int):Option D.Ledger:=optc (ZR fu p0 p1) fun(a0,a1)=>cnd (!a1) (some p0) (optc (QlF fu p0.Config p0.Book a0 p2) fun(a2,a3)=>cd (a3≠0) (some p0) (optc (Xi fu p0 a2) fun a4=>some a4))
theorem Ww:FO 70 (Qf [.agg bJ0,nI,nI] [ar 101 .Page,ar 102 .int,ar 103 .Call] [.agg bJ0] [ar 101 .Page,ar 102 .int,ar 103 .Call] [] D.Ledger kz7 (fun x y=>Z3 fu (D.Ledger.mk x.1.1 (D.Config.mk x.1.2.1 x.1.2.2.1 x.1.2.2.2.1 x.1.2.2.2.2.1) (D.Book.mk x.1.2.2.2.2.2.1 x.1.2.2.2.2.2.2.1) y.1 x.1.2.2.2.2.2.2.2.1 x.1.2.2.2.2.2.2.2.2.1 y.2.1 y.2.2.1) x.2.1 x.2.2.1)):=fI fu .go kz15 (eC (Wb fu) (eC (Qqy fu) (eC (UD fu) eN))) Tryz.func70
def XW(p0:D.Ledger)(p1:D.Op)(p2:Int)(p3:Bool):Option (D.Ledger×Int):=cnd p3 (some (p0,4)) (cd (64≤((p0.Pages.length:Nat):Int)) (some (p0,5)) (optc (Qi8 fu p0.Book p1.Page p1.Policy p2) fun(a0,a1)=>cd (a1≠0) (some (p0,a1)) (join (Y:=((Int×Int×Unit)×(Int×List D.Zone×List D.Person×List D.Calendar×List D.Schedule×List D.Team×List D.Policy×Int×Int×Unit)×D.Ledger×D.Page×List D.Page×List Int×List D.Call×Unit)) (fun((a2,a3,_),(a4,a5,a6,a7,a8,a9,a10,a11,a12,_),a13,a14,a15,a16,a17,_)=>lec (a15.length+(List.length (a14::[]))) 34359738368 (natc (wrap .i64 (a3+1)) fun a18=>lec a18 (List.length (a15++(a14::[]))) (natc a3 fun a19=>lec a19 (List.length (a15++(a14::[]))) (chk (List.length (a15++(a14::[]))) (List.length (a15++(a14::[]))) (chk (List.length (a15++(a14::[]))) (List.length (a15++(a14::[]))) (lec a18 (List.length (a15++(a14::[]))) (lec a19 a18 (natc a3 fun a20=>ltc a20 (List.length ((List.take a18 (a15++(a14::[])))++(List.take ((List.length (a15++(a14::[]))) - a18) (List.drop a19 (a15++(a14::[])))))) (optc (GetElem?.getElem? ((List.take a18 (a15++(a14::[])))++(List.take ((List.length (a15++(a14::[]))) - a18) (List.drop a19 (a15++(a14::[]))))) a20) fun a21=>optc (Z3 fu (D.Ledger.mk a4 (D.Config.mk a5 a6 a7 a8) (D.Book.mk a9 a10) (List.set ((List.take a18 (a15++(a14::[])))++(List.take ((List.length (a15++(a14::[]))) - a18) (List.drop a19 (a15++(a14::[]))))) a20 a14) a11 a12 a16 a17) a14.ID a2) fun a22=>some (a22,0)))))))))) fun J23=>Qj (X:=((Int×Int×Unit)×(Int×List D.Zone×List D.Person×List D.Calendar×List D.Schedule×List D.Team×List D.Policy×Int×Int×Unit)×D.Ledger×D.Page×List D.Page×List Int×List D.Call×Unit)) (fun L24 ((a25,a26,_),(a27,a28,a29,a30,a31,a32,a33,a34,a35,_),a36,a37,a38,a39,a40,_)=>join (Y:=((Int×Int×Unit)×(Int×List D.Zone×List D.Person×List D.Calendar×List D.Schedule×List D.Team×List D.Policy×Int×Int×Unit)×D.Ledger×D.Page×List D.Page×List Int×List D.Call×Unit)) (fun((a41,a42,_),(a43,a44,a45,a46,a47,a48,a49,a50,a51,_),a52,a53,a54,a55,a56,_)=>L24 ((a41,(wrap .i64 (a42+1)),()),(a43,a44,a45,a46,a47,a48,a49,a50,a51,()),a52,a53,a54,a55,a56,())) fun J57=>cd (a26<((a38.length:Nat):Int)) (natc a26 fun a58=>ltc a58 a38.length (optc (GetElem?.getElem? a38 a58) fun a59=>cd (a59.ID<a37.ID) (J57 ((a25,a26,()),(a27,a28,a29,a30,a31,a32,a33,a34,a35,()),a36,a37,a38,a39,a40,())) (J23 ((a25,a26,()),(a27,a28,a29,a30,a31,a32,a33,a34,a35,()),a36,a37,a38,a39,a40,())))) (J23 ((a25,a26,()),(a27,a28,a29,a30,a31,a32,a33,a34,a35,()),a36,a37,a38,a39,a40,()))) fu ((p2,0,()),(p0.Now,p0.Config.Zones,p0.Config.People,p0.Config.Calendars,p0.Config.Schedules,p0.Book.Teams,p0.Book.Policies,p0.Owner,p0.Fence,()),(D.Ledger.mk 0 (D.Config.mk [] [] [] []) (D.Book.mk [] []) [] 0 0 [] []),a0,p0.Pages,p0.Seen,p0.Calls,()))))
theorem Qdp:FO 69 (Qf [.agg bJ0,.st .Op,nI,.one .boo] [ar 101 .Page,ar 102 .int,ar 103 .Call] [.agg bJ0,nI] [ar 101 .Page,ar 102 .int,ar 103 .Call] [] (D.Ledger×Int) kz6 (fun x y=>XW fu (D.Ledger.mk x.1.1 (D.Config.mk x.1.2.1 x.1.2.2.1 x.1.2.2.2.1 x.1.2.2.2.2.1) (D.Book.mk x.1.2.2.2.2.2.1 x.1.2.2.2.2.2.2.1) y.1 x.1.2.2.2.2.2.2.2.1 x.1.2.2.2.2.2.2.2.2.1 y.2.1 y.2.2.1) x.2.1 x.2.2.1 x.2.2.2.1)):=fI fu (gs 6 (.two (.join [ni 2,rf 4,rf 8,rf 10,ni 12] [(1004,.box bJ0),bx 1008 .Ledger,bx 1010 .Page,ar 101 .Page,ar 102 .int,ar 103 .Call] (.one (.loop [ni 2,rf 4,rf 8,rf 10,ni 12] [(1004,.box bJ0),bx 1008 .Ledger,bx 1010 .Page,ar 101 .Page,ar 102 .int,ar 103 .Call] (.two (.join [ni 2,rf 4,rf 8,rf 10,ni 12] [(1004,.box bJ0),bx 1008 .Ledger,bx 1010 .Page,ar 101 .Page,ar 102 .int,ar 103 .Call] .go) .go)))) .go)) kz9 (eC (Ww fu) (eC (Qkk fu) eN)) Tryz.func69
def Xw(p0:D.Ledger)(p1:D.Answer)(p2:Int):Option (D.Ledger×Int):=optc (ZR fu p0 p1.Page) fun(a0,a1)=>cnd (!a1) (some (p0,3)) (optc (Z3 fu p0 p1.Page p2) fun a2=>optc (ZR fu a2 p1.Page) fun(a3,a4)=>optc (Qd3 fu a2.Config a2.Book a3 (D.Answer.mk p1.ID p1.Page p1.Person p1.Kind p1.Arg p2)) fun(a5,a6)=>cd (a6≠0) (some (a2,a6)) (optc (Xi fu a2 a5) fun a7=>some (a7,0)))
theorem QcE:FO 71 (Qf [.agg bJ0,.st .Answer,nI] [ar 101 .Page,ar 102 .int,ar 103 .Call] [.agg bJ0,nI] [ar 101 .Page,ar 102 .int,ar 103 .Call] [] (D.Ledger×Int) kz6 (fun x y=>Xw fu (D.Ledger.mk x.1.1 (D.Config.mk x.1.2.1 x.1.2.2.1 x.1.2.2.2.1 x.1.2.2.2.2.1) (D.Book.mk x.1.2.2.2.2.2.1 x.1.2.2.2.2.2.2.1) y.1 x.1.2.2.2.2.2.2.2.1 x.1.2.2.2.2.2.2.2.2.1 y.2.1 y.2.2.1) x.2.1 x.2.2.1)):=fI fu .go kz9 (eC (Wb fu) (eC (Ww fu) (eC (UD fu) (eC (QlD fu) eN)))) Tryz.func71
def Z2(p0:D.Ledger)(p1:D.Op)(p2:Int):Option (D.Ledger×Int):=optc (ZR fu p0 p1.Page) fun(a0,a1)=>join (Y:=(Unit×(Int×List D.Zone×List D.Person×List D.Calendar×List D.Schedule×List D.Team×List D.Policy×Int×Int×Unit)×D.Ledger×List D.Page×List Int×List D.Call×Unit)) (fun(_,(a2,a3,a4,a5,a6,a7,a8,a9,a10,_),a11,a12,a13,a14,_)=>some ((D.Ledger.mk a2 (D.Config.mk a3 a4 a5 a6) (D.Book.mk a7 a8) a12 a9 a10 a13 a14),0)) fun J15=>cd (p1.Kind=1) (optc (XW fu p0 p1 p2 a1) fun(a16,a17)=>some (a16,a17)) (cd (p1.Kind=2) (cd (p1.Fence≠(wrap .i64 (p0.Fence+1))) (some (p0,23)) (J15 ((),(p0.Now,p0.Config.Zones,p0.Config.People,p0.Config.Calendars,p0.Config.Schedules,p0.Book.Teams,p0.Book.Policies,p1.Region,p1.Fence,()),(D.Ledger.mk 0 (D.Config.mk [] [] [] []) (D.Book.mk [] []) [] 0 0 [] []),p0.Pages,p0.Seen,p0.Calls,()))) (cd (p1.Kind=3) (join (Y:=((Int×Bool×Unit)×(Int×List D.Zone×List D.Person×List D.Calendar×List D.Schedule×List D.Team×List D.Policy×Int×Int×Unit)×D.Op×D.Ledger×D.Page×List D.Page×List Int×List D.Call×Unit)) (fun((a18,a19,_),(a20,a21,a22,a23,a24,a25,a26,a27,a28,_),a29,a30,a31,a32,a33,a34,_)=>cnd (!a19) (some ((D.Ledger.mk a20 (D.Config.mk a21 a22 a23 a24) (D.Book.mk a25 a26) a32 a27 a28 a33 a34),3)) (optc (Qe5 fu a31) fun(a35,a36)=>join (Y:=((Int×Int×Bool×Int×Unit)×(Int×List D.Zone×List D.Person×List D.Calendar×List D.Schedule×List D.Team×List D.Policy×Int×Int×Unit)×D.Op×D.Ledger×List D.Page×List Int×List D.Call×Unit)) (fun((a37,a38,a39,a40,_),(a41,a42,a43,a44,a45,a46,a47,a48,a49,_),a50,a51,a52,a53,a54,_)=>join (Y:=((Int×Unit)×(Int×List D.Zone×List D.Person×List D.Calendar×List D.Schedule×List D.Team×List D.Policy×Int×Int×Unit)×D.Op×D.Ledger×List D.Page×List Int×List D.Call×Unit)) (fun((a55,_),(a56,a57,a58,a59,a60,a61,a62,a63,a64,_),a65,a66,a67,a68,a69,_)=>optc (Z3 fu (D.Ledger.mk a56 (D.Config.mk a57 a58 a59 a60) (D.Book.mk a61 a62) a67 a63 a64 a68 a69) a65.Page a55) fun a70=>some (a70,0)) fun J71=>cnd a39 (cd (a37<a38) (some ((D.Ledger.mk a41 (D.Config.mk a42 a43 a44 a45) (D.Book.mk a46 a47) a52 a48 a49 a53 a54),9)) (cd (a40≠a50.K) (some ((D.Ledger.mk a41 (D.Config.mk a42 a43 a44 a45) (D.Book.mk a46 a47) a52 a48 a49 a53 a54),9)) (J71 ((a37,()),(a41,a42,a43,a44,a45,a46,a47,a48,a49,()),a50,a51,a52,a53,a54,())))) (some ((D.Ledger.mk a41 (D.Config.mk a42 a43 a44 a45) (D.Book.mk a46 a47) a52 a48 a49 a53 a54),9))) fun J72=>cd (a31.State=2) (J72 ((a18,a35,a36,(-1),()),(a20,a21,a22,a23,a24,a25,a26,a27,a28,()),a29,a30,a32,a33,a34,())) (J72 ((a18,a35,a36,a31.Next,()),(a20,a21,a22,a23,a24,a25,a26,a27,a28,()),a29,a30,a32,a33,a34,())))) fun J73=>cd (p1.Region≠p0.Owner) (some (p0,23)) (cd (p1.Fence≠p0.Fence) (some (p0,23)) (J73 ((p2,a1,()),(p0.Now,p0.Config.Zones,p0.Config.People,p0.Config.Calendars,p0.Config.Schedules,p0.Book.Teams,p0.Book.Policies,p0.Owner,p0.Fence,()),p1,(D.Ledger.mk 0 (D.Config.mk [] [] [] []) (D.Book.mk [] []) [] 0 0 [] []),a0,p0.Pages,p0.Seen,p0.Calls,())))) (cd (p1.Kind=4) (optc (Xw fu p0 p1.Answer p2) fun(a74,a75)=>some (a74,a75)) (cd (p1.Kind=5) (Qj (X:=((Int×Int×Unit)×(Int×List D.Zone×List D.Person×List D.Calendar×List D.Schedule×List D.Team×List D.Policy×Int×Int×Unit)×D.Op×D.Ledger×List D.Page×List Int×List D.Call×Unit)) (fun L76 ((a77,a78,_),(a79,a80,a81,a82,a83,a84,a85,a86,a87,_),a88,a89,a90,a91,a92,_)=>cd (a78<((a90.length:Nat):Int)) (natc a78 fun a93=>ltc a93 a90.length (optc (GetElem?.getElem? a90 a93) fun a94=>optc (Z3 fu (D.Ledger.mk a79 (D.Config.mk a80 a81 a82 a83) (D.Book.mk a84 a85) a90 a86 a87 a91 a92) a94.ID a77) fun a95=>L76 ((a77,(wrap .i64 (a78+1)),()),(a95.Now,a95.Config.Zones,a95.Config.People,a95.Config.Calendars,a95.Config.Schedules,a95.Book.Teams,a95.Book.Policies,a95.Owner,a95.Fence,()),a88,a89,a95.Pages,a95.Seen,a95.Calls,()))) (optc (Qdj fu (D.Config.mk a80 a81 a82 a83) a88.Schedule a88.Edit) fun(a96,a97)=>cd (a97≠0) (some ((D.Ledger.mk a79 (D.Config.mk a80 a81 a82 a83) (D.Book.mk a84 a85) a90 a86 a87 a91 a92),a97)) (J15 ((),(a79,a96.Zones,a96.People,a96.Calendars,a96.Schedules,a84,a85,a86,a87,()),a89,a90,a91,a92,())))) fu ((p2,0,()),(p0.Now,p0.Config.Zones,p0.Config.People,p0.Config.Calendars,p0.Config.Schedules,p0.Book.Teams,p0.Book.Policies,p0.Owner,p0.Fence,()),p1,(D.Ledger.mk 0 (D.Config.mk [] [] [] []) (D.Book.mk [] []) [] 0 0 [] []),p0.Pages,p0.Seen,p0.Calls,())) (J15 ((),(p0.Now,p0.Config.Zones,p0.Config.People,p0.Config.Calendars,p0.Config.Schedules,p0.Book.Teams,p0.Book.Policies,p0.Owner,p0.Fence,()),(D.Ledger.mk 0 (D.Config.mk [] [] [] []) (D.Book.mk [] []) [] 0 0 [] []),p0.Pages,p0.Seen,p0.Calls,()))))))
theorem QcD:FO 44 (Qf [.agg bJ0,.st .Op,nI] [ar 101 .Page,ar 102 .int,ar 103 .Call] [.agg bJ0,nI] [ar 101 .Page,ar 102 .int,ar 103 .Call] [] (D.Ledger×Int) kz6 (fun x y=>Z2 fu (D.Ledger.mk x.1.1 (D.Config.mk x.1.2.1 x.1.2.2.1 x.1.2.2.2.1 x.1.2.2.2.2.1) (D.Book.mk x.1.2.2.2.2.2.1 x.1.2.2.2.2.2.2.1) y.1 x.1.2.2.2.2.2.2.2.1 x.1.2.2.2.2.2.2.2.2.1 y.2.1 y.2.2.1) x.2.1 x.2.2.1)):=fI fu (gs 2 (.two (.join [rf 3,rf 6] [(1003,.box bJ0),bx 1006 .Ledger,ar 101 .Page,ar 102 .int,ar 103 .Call] (.two .go (.one (gs 5 (.two (.two (.join [ni 2,rf 3,rf 4,rf 6,rf 8,(9,.one .boo)] [(1003,.box bJ0),bx 1004 .Op,bx 1006 .Ledger,bx 1008 .Page,ar 101 .Page,ar 102 .int,ar 103 .Call] .go) (gs 3 (.two (.join [ni 2,rf 3,rf 4,rf 6,ni 10,(11,.one .boo),ni 12] [(1003,.box bJ0),bx 1004 .Op,bx 1006 .Ledger,ar 101 .Page,ar 102 .int,ar 103 .Call] .go) (.two (.join [ni 2,rf 3,rf 4,rf 6] [(1003,.box bJ0),bx 1004 .Op,bx 1006 .Ledger,ar 101 .Page,ar 102 .int,ar 103 .Call] .go) .go)))) (gs 3 (.two (lp [ni 2,rf 3,rf 4,rf 6,ni 13] [(1003,.box bJ0),bx 1004 .Op,bx 1006 .Ledger,ar 101 .Page,ar 102 .int,ar 103 .Call] .go) .go))))))) .go)) kz9 (eC (QbF fu) (eC (Wb fu) (eC (Qdp fu) (eC (Ww fu) (eC (QcE fu) (eC (Qnm fu) eN)))))) Tryz.func44
def Vw(p0:D.Ledger)(p1:D.Op):Option (D.Ledger×Int):=join (Y:=(Unit×D.Ledger×D.Op×D.Ledger×Unit)) (fun(_,a0,a1,a2,_)=>optc (QhF fu a0) fun a3=>optc (Qch fu a0.Seen a1.ID) fun a4=>cnd a4 (some (a3,0)) (cd (256≤((a0.Seen.length:Nat):Int)) none (lec (a3.Seen.length+(List.length (a1.ID::[]))) 34359738368 (optc (Z2 fu (D.Ledger.mk (max a0.Now a1.At) a3.Config a3.Book a3.Pages a3.Owner a3.Fence (a3.Seen++(a1.ID::[])) a3.Calls) a1 (max a0.Now a1.At)) fun(a5,a6)=>some (a5,a6))))) fun J7=>optc (Vx fu p0) fun a8=>cnd a8 (optc (QfS fu p1) fun a9=>cnd a9 (J7 ((),p0,p1,(D.Ledger.mk 0 (D.Config.mk [] [] [] []) (D.Book.mk [] []) [] 0 0 [] []),())) none) none
theorem Qdn:FO 14 (Qf [.st .Ledger,.st .Op] [] [.agg [kI,.lst .Zone,.lst .Person,.lst .Calendar,.lst .Schedule,.lst .Team,.lst .Policy,.own 1018020,kI,kI,.own 1018025,.own 1018028],nI] [ar 1018020 .Page,ar 1018025 .int,ar 1018028 .Call] [] (D.Ledger×Int) kz6 (fun x y=>Vw fu x.1 x.2.1)):=fI fu (.two .go (.two (.join [rf 2,rf 3,rf 4] [bx 1002 .Ledger,bx 1003 .Op,bx 1004 .Ledger] .go) .go)) (fun a b=>((D.Ledger.mk a.1.1 (D.Config.mk a.1.2.1 a.1.2.2.1 a.1.2.2.2.1 a.1.2.2.2.2.1) (D.Book.mk a.1.2.2.2.2.2.1 a.1.2.2.2.2.2.2.1) b.1 a.1.2.2.2.2.2.2.2.1 a.1.2.2.2.2.2.2.2.2.1 b.2.1 b.2.2.1),a.2.1)) (eC (Qd1 fu) (eC (QoI fu) (eC (Qa6 fu) (eC (Qnq fu) (eC (QcD fu) eN))))) Tryz.func14
def Vf(fu:Nat)(p0:Int)(p1:Int)(p2:Int):Option Bool:=cd (p1≤p0) (cd (p0≤p2) sT sF) sF
theorem Ql9:FO 212 (sB [nI,nI,nI] fun x=>Vf fu x.1 x.2.1 x.2.2.1):=fI fu .go kz0 eN Tryz.func212
def Ud(p0:D.Answer):Option Bool:=join (Y:=((Int×Int×Unit)×D.Answer×Unit)) (fun((a0,a1,_),a2,_)=>optc (Vf fu a2.ID 1 999999) fun a3=>cnd a3 (optc (Vf fu a2.Page 1 999999) fun a4=>cnd a4 (optc (Vf fu a2.Person (-1) 31) fun a5=>cnd a5 (optc (Vf fu a2.At 0 8589934592) fun a6=>cnd a6 (optc (Vf fu a2.Kind 1 5) fun a7=>cnd a7 (optc (Vf fu a2.Arg a0 a1) fun a8=>cnd a8 sT sF) sF) sF) sF) sF) sF) fun J9=>cd (p0.Kind=3) (J9 ((1,86400,()),p0,())) (cd (p0.Kind=4) (J9 ((0,31,()),p0,())) (J9 ((0,0,()),p0,())))
theorem QcO:FO 142 (sB [.st .Answer] fun x=>Ud fu x.1):=fI fu (gs 2 (.two (.join [rf 1,ni 3,ni 4] [bx 1001 .Answer] .go) .go)) kz0 (eC (Ql9 fu) eN) Tryz.func142
def Qb8(p0:D.Op):Option Bool:=optc (Xv fu p0.ID 1 1099511627776) fun a0=>cnd a0 (optc (Xv fu p0.Kind 1 5) fun a1=>cnd a1 (optc (Xv fu p0.Region 0 4) fun a2=>cnd a2 (optc (Xv fu p0.Fence 0 1048576) fun a3=>cnd a3 (optc (Xv fu p0.At 0 8589934592) fun a4=>cnd a4 (optc (Xv fu p0.Page 0 999999) fun a5=>cnd a5 (optc (Xv fu p0.K (-1) 1000) fun a6=>cnd a6 (cd (p0.Kind≠4) sT (optc (Ud fu p0.Answer) fun a7=>cnd a7 sT sF)) sF) sF) sF) sF) sF) sF) sF
theorem QjA:FO 96 (sB [.st .Op] fun x=>Qb8 fu x.1):=fI fu .go kz0 (eC (Qcc fu) (eC (QcO fu) eN)) Tryz.func96
def Wo(fu:Nat)(p0:List D.Team):Option (List D.Team):=nilC p0 (both (some []) (lec p0.length 34359738368 (some p0))) (lec p0.length 34359738368 (some p0))
theorem Qei:FO 222 (Qf [.one (.lst .Team)] [] [.one (.own 1007)] [ar 1007 .Team] [] (List D.Team) kz8 (fun x y=>Wo fu x.1)):=fI fu .go kz12 eN Tryz.func222
def Xz(fu:Nat)(p0:List D.Policy):Option (List D.Policy):=nilC p0 (both (some []) (lec p0.length 34359738368 (some p0))) (lec p0.length 34359738368 (some p0))
theorem QcH:FO 223 (Qf [.one (.lst .Policy)] [] [.one (.own 1007)] [ar 1007 .Policy] [] (List D.Policy) kz8 (fun x y=>Xz fu x.1)):=fI fu .go kz12 eN Tryz.func223
def Wn(fu:Nat)(p0:List D.Page):Option (List D.Page):=nilC p0 (both (some []) (lec p0.length 34359738368 (some p0))) (lec p0.length 34359738368 (some p0))
theorem Qeh:FO 226 (Qf [.one (.lst .Page)] [] [.one (.own 1007)] [ar 1007 .Page] [] (List D.Page) kz8 (fun x y=>Wn fu x.1)):=fI fu .go kz12 eN Tryz.func226
def QdU(p0:D.Zone):Option D.Zone:=optc (Y2 fu p0.Rules) fun a0=>some (D.Zone.mk p0.Name p0.Offset a0)
theorem Qll:FO 144 (Qf [.st .Zone] [] [.st .Zone] [] [] D.Zone kz1 (fun x y=>QdU fu x.1)):=fI fu .go kz0 (eC (W9 fu) eN) Tryz.func144
def Zv(p0:List D.Zone):Option (List D.Zone):=optc (Xm fu p0) fun a0=>Qj (X:=((Int×Int×Unit)×List D.Zone×Unit)) (fun L1 ((a2,a3,_),a4,_)=>cd (a3<a2) (natc a3 fun a5=>ltc a5 a4.length (optc (GetElem?.getElem? a4 a5) fun a6=>optc (QdU fu a6) fun a7=>natc a3 fun a8=>ltc a8 a4.length (optc (GetElem?.getElem? a4 a8) fun a9=>L1 ((a2,(wrap .i64 (a3+1)),()),(List.set a4 a8 a7),())))) (some a4)) fu ((((a0.length:Nat):Int),0,()),a0,())
theorem Vq:FO 143 (Qf [.one (.lst .Zone),.one (.fv 144)] [] [.one (.lst .Zone)] [] [] (List D.Zone) kz1 (fun x y=>Zv fu x.1)):=fI fu (gs 2 (lp [(1,.one (.fv 144)),(5,.one (.own 1009007)),ni 10,ni 11] [ar 1009007 .Zone] .go)) kz0 (eC (Qll fu) (eC (UG fu) eN)) Tryz.func143
def QaX(p0:D.Person):Option D.Person:=optc (Z5 fu p0.Quiet) fun a0=>some (D.Person.mk p0.Name p0.Zone a0 p0.MaxWeek p0.MinRest p0.Consent)
theorem QiL:FO 146 (Qf [.st .Person] [] [.st .Person] [] [] D.Person kz1 (fun x y=>QaX fu x.1)):=fI fu .go kz0 (eC (XS fu) eN) Tryz.func146
def Q7(p0:List D.Person):Option (List D.Person):=optc (YI fu p0) fun a0=>Qj (X:=((Int×Int×Unit)×List D.Person×Unit)) (fun L1 ((a2,a3,_),a4,_)=>cd (a3<a2) (natc a3 fun a5=>ltc a5 a4.length (optc (GetElem?.getElem? a4 a5) fun a6=>optc (QaX fu a6) fun a7=>natc a3 fun a8=>ltc a8 a4.length (optc (GetElem?.getElem? a4 a8) fun a9=>L1 ((a2,(wrap .i64 (a3+1)),()),(List.set a4 a8 a7),())))) (some a4)) fu ((((a0.length:Nat):Int),0,()),a0,())
theorem Wu:FO 145 (Qf [.one (.lst .Person),.one (.fv 146)] [] [.one (.lst .Person)] [] [] (List D.Person) kz1 (fun x y=>Q7 fu x.1)):=fI fu (gs 2 (lp [(1,.one (.fv 146)),(5,.one (.own 1009007)),ni 10,ni 11] [ar 1009007 .Person] .go)) kz0 (eC (QiL fu) (eC (VP fu) eN)) Tryz.func145
def Qes(p0:D.Calendar):Option D.Calendar:=optc (Qx fu p0.Days) fun a0=>some (D.Calendar.mk p0.Name p0.Zone a0)
theorem Qgs:FO 148 (Qf [.st .Calendar] [] [.st .Calendar] [] [] D.Calendar kz1 (fun x y=>Qes fu x.1)):=fI fu .go kz0 (eC (Q4 fu) eN) Tryz.func148
def Zm(p0:List D.Calendar):Option (List D.Calendar):=optc (We fu p0) fun a0=>Qj (X:=((Int×Int×Unit)×List D.Calendar×Unit)) (fun L1 ((a2,a3,_),a4,_)=>cd (a3<a2) (natc a3 fun a5=>ltc a5 a4.length (optc (GetElem?.getElem? a4 a5) fun a6=>optc (Qes fu a6) fun a7=>natc a3 fun a8=>ltc a8 a4.length (optc (GetElem?.getElem? a4 a8) fun a9=>L1 ((a2,(wrap .i64 (a3+1)),()),(List.set a4 a8 a7),())))) (some a4)) fu ((((a0.length:Nat):Int),0,()),a0,())
theorem XQ:FO 147 (Qf [.one (.lst .Calendar),.one (.fv 148)] [] [.one (.lst .Calendar)] [] [] (List D.Calendar) kz1 (fun x y=>Zm fu x.1)):=fI fu (gs 2 (lp [(1,.one (.fv 148)),(5,.one (.own 1009007)),ni 10,ni 11] [ar 1009007 .Calendar] .go)) kz0 (eC (Qgs fu) (eC (W7 fu) eN)) Tryz.func147
def Qcd(p0:D.Layer):Option D.Layer:=optc (Qx fu p0.Members) fun a0=>optc (Z5 fu p0.Windows) fun a1=>some (D.Layer.mk p0.Name p0.Zone p0.Start p0.Unit p0.Every a0 a1 p0.Calendar p0.Mode)
theorem QjD:FO 220 (Qf [.st .Layer] [] [.st .Layer] [] [] D.Layer kz1 (fun x y=>Qcd fu x.1)):=fI fu .go kz0 (eC (Q4 fu) (eC (XS fu) eN)) Tryz.func220
def Zd(p0:List D.Layer):Option (List D.Layer):=optc (Y0 fu p0) fun a0=>Qj (X:=((Int×Int×Unit)×List D.Layer×Unit)) (fun L1 ((a2,a3,_),a4,_)=>cd (a3<a2) (natc a3 fun a5=>ltc a5 a4.length (optc (GetElem?.getElem? a4 a5) fun a6=>optc (Qcd fu a6) fun a7=>natc a3 fun a8=>ltc a8 a4.length (optc (GetElem?.getElem? a4 a8) fun a9=>L1 ((a2,(wrap .i64 (a3+1)),()),(List.set a4 a8 a7),())))) (some a4)) fu ((((a0.length:Nat):Int),0,()),a0,())
theorem WR:FO 219 (Qf [.one (.lst .Layer),.one (.fv 220)] [] [.one (.lst .Layer)] [] [] (List D.Layer) kz1 (fun x y=>Zd fu x.1)):=fI fu (gs 2 (lp [(1,.one (.fv 220)),(5,.one (.own 1009007)),ni 10,ni 11] [ar 1009007 .Layer] .go)) kz0 (eC (QjD fu) (eC (Up fu) eN)) Tryz.func219
def Ua(p0:D.Schedule):Option D.Schedule:=optc (Zd fu p0.Layers) fun a0=>optc (Xl fu p0.Edits) fun a1=>some (D.Schedule.mk p0.Name a0 a1)
theorem Qgu:FO 150 (Qf [.st .Schedule] [] [.st .Schedule] [] [] D.Schedule kz1 (fun x y=>Ua fu x.1)):=fI fu .go kz0 (eC (WR fu) (eC (UF fu) eN)) Tryz.func150
def QU(p0:List D.Schedule):Option (List D.Schedule):=optc (Yg fu p0) fun a0=>Qj (X:=((Int×Int×Unit)×List D.Schedule×Unit)) (fun L1 ((a2,a3,_),a4,_)=>cd (a3<a2) (natc a3 fun a5=>ltc a5 a4.length (optc (GetElem?.getElem? a4 a5) fun a6=>optc (Ua fu a6) fun a7=>natc a3 fun a8=>ltc a8 a4.length (optc (GetElem?.getElem? a4 a8) fun a9=>L1 ((a2,(wrap .i64 (a3+1)),()),(List.set a4 a8 a7),())))) (some a4)) fu ((((a0.length:Nat):Int),0,()),a0,())
theorem XR:FO 149 (Qf [.one (.lst .Schedule),.one (.fv 150)] [] [.one (.lst .Schedule)] [] [] (List D.Schedule) kz1 (fun x y=>QU fu x.1)):=fI fu (gs 2 (lp [(1,.one (.fv 150)),(5,.one (.own 1009007)),ni 10,ni 11] [ar 1009007 .Schedule] .go)) kz0 (eC (Qgu fu) (eC (W8 fu) eN)) Tryz.func149
def QdT(p0:D.Team):Option D.Team:=optc (Qx fu p0.Members) fun a0=>some (D.Team.mk p0.Name a0)
theorem Qlk:FO 152 (Qf [.st .Team] [] [.st .Team] [] [] D.Team kz1 (fun x y=>QdT fu x.1)):=fI fu .go kz0 (eC (Q4 fu) eN) Tryz.func152
def Zu(p0:List D.Team):Option (List D.Team):=optc (Wo fu p0) fun a0=>Qj (X:=((Int×Int×Unit)×List D.Team×Unit)) (fun L1 ((a2,a3,_),a4,_)=>cd (a3<a2) (natc a3 fun a5=>ltc a5 a4.length (optc (GetElem?.getElem? a4 a5) fun a6=>optc (QdT fu a6) fun a7=>natc a3 fun a8=>ltc a8 a4.length (optc (GetElem?.getElem? a4 a8) fun a9=>L1 ((a2,(wrap .i64 (a3+1)),()),(List.set a4 a8 a7),())))) (some a4)) fu ((((a0.length:Nat):Int),0,()),a0,())
theorem Vp:FO 151 (Qf [.one (.lst .Team),.one (.fv 152)] [] [.one (.lst .Team)] [] [] (List D.Team) kz1 (fun x y=>Zu fu x.1)):=fI fu (gs 2 (lp [(1,.one (.fv 152)),(5,.one (.own 1009007)),ni 10,ni 11] [ar 1009007 .Team] .go)) kz0 (eC (Qlk fu) (eC (Qei fu) eN)) Tryz.func151
def Yw(fu:Nat)(p0:List D.PolicyStep):Option (List D.PolicyStep):=nilC p0 (both (some []) (lec p0.length 34359738368 (some p0))) (lec p0.length 34359738368 (some p0))
theorem QaL:FO 258 (Qf [.one (.lst .PolicyStep)] [] [.one (.own 1007)] [ar 1007 .PolicyStep] [] (List D.PolicyStep) kz8 (fun x y=>Yw fu x.1)):=fI fu .go kz12 eN Tryz.func258
def XA(fu:Nat)(p0:List D.Target):Option (List D.Target):=nilC p0 (both (some []) (lec p0.length 34359738368 (some p0))) (lec p0.length 34359738368 (some p0))
theorem QcI:FO 259 (Qf [.one (.lst .Target)] [] [.one (.own 1007)] [ar 1007 .Target] [] (List D.Target) kz8 (fun x y=>XA fu x.1)):=fI fu .go kz12 eN Tryz.func259
def QdS(p0:D.PolicyStep):Option D.PolicyStep:=optc (XA fu p0.Targets) fun a0=>some (D.PolicyStep.mk p0.Wait p0.Urgent a0)
theorem Qlj:FO 225 (Qf [.st .PolicyStep] [] [.st .PolicyStep] [] [] D.PolicyStep kz1 (fun x y=>QdS fu x.1)):=fI fu .go kz0 (eC (QcI fu) eN) Tryz.func225
def Q1(p0:List D.PolicyStep):Option (List D.PolicyStep):=optc (Yw fu p0) fun a0=>Qj (X:=((Int×Int×Unit)×List D.PolicyStep×Unit)) (fun L1 ((a2,a3,_),a4,_)=>cd (a3<a2) (natc a3 fun a5=>ltc a5 a4.length (optc (GetElem?.getElem? a4 a5) fun a6=>optc (QdS fu a6) fun a7=>natc a3 fun a8=>ltc a8 a4.length (optc (GetElem?.getElem? a4 a8) fun a9=>L1 ((a2,(wrap .i64 (a3+1)),()),(List.set a4 a8 a7),())))) (some a4)) fu ((((a0.length:Nat):Int),0,()),a0,())
theorem X4:FO 224 (Qf [.one (.lst .PolicyStep),.one (.fv 225)] [] [.one (.lst .PolicyStep)] [] [] (List D.PolicyStep) kz1 (fun x y=>Q1 fu x.1)):=fI fu (gs 2 (lp [(1,.one (.fv 225)),(5,.one (.own 1009007)),ni 10,ni 11] [ar 1009007 .PolicyStep] .go)) kz0 (eC (Qlj fu) (eC (QaL fu) eN)) Tryz.func224
def QfH(p0:D.Policy):Option D.Policy:=optc (Q1 fu p0.Steps) fun a0=>some (D.Policy.mk p0.Name a0 p0.Repeat)
theorem Qm3:FO 154 (Qf [.st .Policy] [] [.st .Policy] [] [] D.Policy kz1 (fun x y=>QfH fu x.1)):=fI fu .go kz0 (eC (X4 fu) eN) Tryz.func154
def Zn(p0:List D.Policy):Option (List D.Policy):=optc (Xz fu p0) fun a0=>Qj (X:=((Int×Int×Unit)×List D.Policy×Unit)) (fun L1 ((a2,a3,_),a4,_)=>cd (a3<a2) (natc a3 fun a5=>ltc a5 a4.length (optc (GetElem?.getElem? a4 a5) fun a6=>optc (QfH fu a6) fun a7=>natc a3 fun a8=>ltc a8 a4.length (optc (GetElem?.getElem? a4 a8) fun a9=>L1 ((a2,(wrap .i64 (a3+1)),()),(List.set a4 a8 a7),())))) (some a4)) fu ((((a0.length:Nat):Int),0,()),a0,())
theorem Vb:FO 153 (Qf [.one (.lst .Policy),.one (.fv 154)] [] [.one (.lst .Policy)] [] [] (List D.Policy) kz1 (fun x y=>Zn fu x.1)):=fI fu (gs 2 (lp [(1,.one (.fv 154)),(5,.one (.own 1009007)),ni 10,ni 11] [ar 1009007 .Policy] .go)) kz0 (eC (Qm3 fu) (eC (QcH fu) eN)) Tryz.func153
def Y1(fu:Nat)(p0:List D.Start):Option (List D.Start):=nilC p0 (both (some []) (lec p0.length 34359738368 (some p0))) (lec p0.length 34359738368 (some p0))
theorem Uq:FO 197 (Qf [.one (.lst .Start)] [] [.one (.own 1007)] [ar 1007 .Start] [] (List D.Start) kz8 (fun x y=>Y1 fu x.1)):=fI fu .go kz12 eN Tryz.func197
def QaV(p0:D.Start):Option D.Start:=optc (Qx fu p0.People) fun a0=>some (D.Start.mk p0.K p0.At a0)
theorem QiJ:FO 129 (Qf [.st .Start] [] [.st .Start] [] [] D.Start kz1 (fun x y=>QaV fu x.1)):=fI fu .go kz0 (eC (Q4 fu) eN) Tryz.func129
def ZO(p0:List D.Start):Option (List D.Start):=optc (Y1 fu p0) fun a0=>Qj (X:=((Int×Int×Unit)×List D.Start×Unit)) (fun L1 ((a2,a3,_),a4,_)=>cd (a3<a2) (natc a3 fun a5=>ltc a5 a4.length (optc (GetElem?.getElem? a4 a5) fun a6=>optc (QaV fu a6) fun a7=>natc a3 fun a8=>ltc a8 a4.length (optc (GetElem?.getElem? a4 a8) fun a9=>L1 ((a2,(wrap .i64 (a3+1)),()),(List.set a4 a8 a7),())))) (some a4)) fu ((((a0.length:Nat):Int),0,()),a0,())
theorem WC:FO 128 (Qf [.one (.lst .Start),.one (.fv 129)] [] [.one (.lst .Start)] [] [] (List D.Start) kz1 (fun x y=>ZO fu x.1)):=fI fu (gs 2 (lp [(1,.one (.fv 129)),(5,.one (.own 1009007)),ni 10,ni 11] [ar 1009007 .Start] .go)) kz0 (eC (QiJ fu) (eC (Uq fu) eN)) Tryz.func128
def U7(p0:D.Page):Option D.Page:=optc (ZO fu p0.Starts) fun a0=>optc (Qx fu p0.Declined) fun a1=>optc (Qx fu p0.Seen) fun a2=>some (D.Page.mk p0.ID p0.Policy p0.Start p0.Next p0.Due p0.State p0.By p0.Until p0.Last p0.Snoozes p0.Hands a0 a1 a2)
theorem QfG:FO 82 (Qf [.st .Page] [] [.st .Page] [] [] D.Page kz1 (fun x y=>U7 fu x.1)):=fI fu .go kz0 (eC (WC fu) (eC (Q4 fu) eN)) Tryz.func82
def Zt(p0:List D.Page):Option (List D.Page):=optc (Wn fu p0) fun a0=>Qj (X:=((Int×Int×Unit)×List D.Page×Unit)) (fun L1 ((a2,a3,_),a4,_)=>cd (a3<a2) (natc a3 fun a5=>ltc a5 a4.length (optc (GetElem?.getElem? a4 a5) fun a6=>optc (U7 fu a6) fun a7=>natc a3 fun a8=>ltc a8 a4.length (optc (GetElem?.getElem? a4 a8) fun a9=>L1 ((a2,(wrap .i64 (a3+1)),()),(List.set a4 a8 a7),())))) (some a4)) fu ((((a0.length:Nat):Int),0,()),a0,())
theorem Vo:FO 155 (Qf [.one (.lst .Page),.one (.fv 82)] [] [.one (.own 1009007)] [ar 1009007 .Page] [] (List D.Page) kz8 (fun x y=>Zt fu x.1)):=fI fu (gs 2 (lp [(1,.one (.fv 82)),(5,.one (.own 1009007)),ni 10,ni 11] [ar 1009007 .Page] .go)) kz12 (eC (QfG fu) (eC (Qeh fu) eN)) Tryz.func155
def QaW(p0:D.Ledger):Option D.Ledger:=optc (Zv fu p0.Config.Zones) fun a0=>optc (Q7 fu p0.Config.People) fun a1=>optc (Zm fu p0.Config.Calendars) fun a2=>optc (QU fu p0.Config.Schedules) fun a3=>optc (Zu fu p0.Book.Teams) fun a4=>optc (Zn fu p0.Book.Policies) fun a5=>optc (Zt fu p0.Pages) fun a6=>optc (Qx fu p0.Seen) fun a7=>optc (Xk fu p0.Calls) fun a8=>some (D.Ledger.mk p0.Now (D.Config.mk a0 a1 a2 a3) (D.Book.mk a4 a5) a6 p0.Owner p0.Fence a7 a8)
theorem QiK:FO 97 (Qf [.st .Ledger] [] [.agg [kI,.lst .Zone,.lst .Person,.lst .Calendar,.lst .Schedule,.lst .Team,.lst .Policy,.own 2060007,kI,kI,.own 1055007,.own 1058007]] [ar 2060007 .Page,ar 1055007 .int,ar 1058007 .Call] [] D.Ledger kz7 (fun x y=>QaW fu x.1)):=fI fu .go (fun a b=>D.Ledger.mk a.1.1 (D.Config.mk a.1.2.1 a.1.2.2.1 a.1.2.2.2.1 a.1.2.2.2.2.1) (D.Book.mk a.1.2.2.2.2.2.1 a.1.2.2.2.2.2.2.1) b.1 a.1.2.2.2.2.2.2.2.1 a.1.2.2.2.2.2.2.2.2.1 b.2.1 b.2.2.1) (eC (UE fu) (eC (Q4 fu) (eC (Vq fu) (eC (Wu fu) (eC (XQ fu) (eC (XR fu) (eC (Vp fu) (eC (Vb fu) (eC (Vo fu) eN))))))))) Tryz.func97
def X3(fu:Nat)(p0:D.Page)(p1:Int):Option Int:=some (wrap .i64 (p0.ID - p1))
theorem Qc9:FO 127 (sI [.st .Page,nI] fun x=>X3 fu x.1 x.2.1):=fI fu .go kz0 eN Tryz.func127
def QJ(p0:List D.Page)(p1:Int):Option (Int×Bool):=Qj (X:=((List D.Page×Int×Int×Int×Int×Unit)×Unit)) (fun L0 ((a1,a2,a3,a4,a5,_),_)=>cd (a4<a5) (natc 1 fun a6=>atc a1 (wrap .i64 (Int.fdiv (IntKind.wrap .u64 (wrap .i64 (a4+a5))) (HPow.hPow 2 (min a6 (Go.IntKind.bits Go.IntKind.u64))))) fun a7=>optc (X3 fu a7 a2) fun a8=>cd (a8<0) (L0 ((a1,a2,a3,(wrap .i64 ((wrap .i64 (Int.fdiv (IntKind.wrap .u64 (wrap .i64 (a4+a5))) (HPow.hPow 2 (min a6 (Go.IntKind.bits Go.IntKind.u64)))))+1)),a5,()),())) (L0 ((a1,a2,a3,a4,(wrap .i64 (Int.fdiv (IntKind.wrap .u64 (wrap .i64 (a4+a5))) (HPow.hPow 2 (min a6 (Go.IntKind.bits Go.IntKind.u64))))),()),()))) (cd (a4<a3) (atc a1 a4 fun a9=>optc (X3 fu a9 a2) fun a10=>cd (a10=0) (some (a4,true)) (some (a4,false))) (some (a4,false)))) fu ((p0,p1,((p0.length:Nat):Int),0,((p0.length:Nat):Int),()),())
theorem Xj:FO 126 (Qf [.one (.lst .Page),nI,.one (.fv 127)] [] [nI,.one .boo] [] [] (Int×Bool) kz3 (fun x y=>QJ fu x.1 x.2.1)):=fI fu (gs 3 (.two (.one (.loop [li 0 .Page,ni 1,(2,.one (.fv 127)),ni 8,ni 9,ni 10] [] .go)) .go)) kz4 (eC (Qc9 fu) eN) Tryz.func126
def Qgt(p0:D.Ledger)(p1:Int):Option (Int×Bool):=optc (QJ fu p0.Pages p1) fun(a0,a1)=>some (a0,a1)
theorem Qlg:FO 81 (Qf [.st .Ledger,nI] [] [nI,.one .boo] [] [] (Int×Bool) kz3 (fun x y=>Qgt fu x.1 x.2.1)):=fI fu .go kz4 (eC (Xj fu) eN) Tryz.func81
def Qc0(p0:D.Book)(p1:Int)(p2:Int)(p3:Int):Option (D.Page×Int):=join (Y:=(P3×D.Book×D.Page×Unit)) (fun((a0,a1,a2,_),a3,a4,_)=>optc (QY fu a1 0 (wrap .i64 (((a3.Policies.length:Nat):Int) - 1))) fun a5=>cnd (!a5) (some ((D.Page.mk 0 0 0 0 0 0 0 0 0 0 0 [] [] []),3)) (some ((D.Page.mk a0 a1 a2 0 a2 0 (-1) 0 a2 0 0 [] [] []),0))) fun J6=>optc (QY fu p1 1 999999) fun a7=>cnd a7 (optc (QY fu p3 0 8589934592) fun a8=>cnd a8 (J6 ((p1,p2,p3,()),p0,(D.Page.mk 0 0 0 0 0 0 0 0 0 0 0 [] [] []),())) (some ((D.Page.mk 0 0 0 0 0 0 0 0 0 0 0 [] [] []),1))) (some ((D.Page.mk 0 0 0 0 0 0 0 0 0 0 0 [] [] []),1))
theorem Qim:FO 157 (Qf [.st .Book,nI,nI,nI] [] [.st .Page,nI] [] [] (D.Page×Int) kz3 (fun x y=>Qc0 fu x.1 x.2.1 x.2.2.1 x.2.2.2.1)):=fI fu (.two .go (.two (.join [ni 1,ni 2,ni 3,rf 4,rf 8] [bx 1004 .Book,bx 1008 .Page] .go) .go)) kz4 (eC (XN fu) eN) Tryz.func157
def XY(fu:Nat)(p0:List Int):Option (List Int):=nilC p0 (both (some []) (lec p0.length 34359738368 (some p0))) (lec p0.length 34359738368 (some p0))
theorem Qdz:FO 130 (Qf [lI] [] [lI] [] [] (List Int) kz1 (fun x y=>XY fu x.1)):=fI fu .go kz0 eN Tryz.func130
def Xg(p0:D.Page):Option D.Page:=optc (Y1 fu p0.Starts) fun a0=>Qj (X:=((Int×Int×Unit)×(Int×Int×Int×Int×Int×Int×Int×Int×Int×Int×Int×List Int×List Int×Unit)×D.Page×List D.Start×Unit)) (fun L1 ((a2,a3,_),(a4,a5,a6,a7,a8,a9,a10,a11,a12,a13,a14,a15,a16,_),a17,a18,_)=>cd (a3<a2) (natc a3 fun a19=>ltc a19 a18.length (optc (GetElem?.getElem? a18 a19) fun a20=>optc (XY fu a20.People) fun a21=>natc a3 fun a22=>ltc a22 a18.length (optc (GetElem?.getElem? a18 a22) fun a23=>L1 ((a2,(wrap .i64 (a3+1)),()),(a4,a5,a6,a7,a8,a9,a10,a11,a12,a13,a14,a15,a16,()),a17,(List.set a18 a22 (D.Start.mk a23.K a23.At a21)),())))) (optc (Qx fu a15) fun a24=>optc (Qx fu a16) fun a25=>some (D.Page.mk a4 a5 a6 a7 a8 a9 a10 a11 a12 a13 a14 a18 a24 a25))) fu ((((a0.length:Nat):Int),0,()),(p0.ID,p0.Policy,p0.Start,p0.Next,p0.Due,p0.State,p0.By,p0.Until,p0.Last,p0.Snoozes,p0.Hands,p0.Declined,p0.Seen,()),(D.Page.mk 0 0 0 0 0 0 0 0 0 0 0 [] [] []),a0,())
theorem Vk:FO 230 (Qf [.st .Page] [] [.agg [kI,kI,kI,kI,kI,kI,kI,kI,kI,kI,kI,.own 1007007,.own 1030007,.own 1033007]] [ar 1007007 .Start,ar 1030007 .int,ar 1033007 .int] [] D.Page kz13 (fun x y=>Xg fu x.1)):=fI fu (gs 2 (lp [rf 1,rf 2,ni 10,ni 11] [(1001,.box [kI,kI,kI,kI,kI,kI,kI,kI,kI,kI,kI,.own 1007007,.lst .int,.lst .int]),bx 1002 .Page,ar 1007007 .Start] .go)) (fun a b=>D.Page.mk a.1.1 a.1.2.1 a.1.2.2.1 a.1.2.2.2.1 a.1.2.2.2.2.1 a.1.2.2.2.2.2.1 a.1.2.2.2.2.2.2.1 a.1.2.2.2.2.2.2.2.1 a.1.2.2.2.2.2.2.2.2.1 a.1.2.2.2.2.2.2.2.2.2.1 a.1.2.2.2.2.2.2.2.2.2.2.1 b.1 b.2.1 b.2.2.1) (eD 24 (Qdz fu) (eC (Q4 fu) (eC (Uq fu) eN))) Tryz.func230
def X2(fu:Nat)(p0:D.Page):Option (Int×Bool):=cd (p0.State=0) (some (p0.Due,true)) (cd (p0.State=2) (some (p0.Until,true)) (some (0,false)))
theorem Qal:FO 80 (Qf [.st .Page] [] [nI,.one .boo] [] [] (Int×Bool) kz3 (fun x y=>X2 fu x.1)):=fI fu .go kz4 eN Tryz.func80
def V7(p0:D.Page)(p1:Int):Option Bool:=optc (X2 fu p0) fun(a0,a1)=>cnd a1 (cd (a0≤p1) sT sF) sF
theorem Qgh:FO 261 (sB [.st .Page,nI] fun x=>V7 fu x.1 x.2.1):=fI fu .go kz0 (eC (Qal fu) eN) Tryz.func261
def Qas(p0:D.Policy)(p1:Int):Option (Int×Int×Bool):=optc (X5 fu p0) fun a0=>optc (Yf fu p1 0 (wrap .i64 (a0 - 1))) fun a1=>cnd (!a1) (some (0,0,false)) (nzc ((p0.Steps.length:Nat):Int) (nzc ((p0.Steps.length:Nat):Int) (some ((Int.tmod p1 ((p0.Steps.length:Nat):Int)),(wrap .i64 (Int.tdiv p1 ((p0.Steps.length:Nat):Int))),true))))
theorem QjK:FO 292 (Qf [.st .Policy,nI] [] [nI,nI,.one .boo] [] [] (Int×Int×Bool) kz21 (fun x y=>Qas fu x.1 x.2.1)):=fI fu .go (fun a b=>(a.1,a.2.1,a.2.2.1)) (eC (X7 fu) (eC (Qar fu) eN)) Tryz.func292
def Qtd(p0:D.Zone):Option (D.Table×Int):=optc (UB fu p0) fun(a0,a1)=>some ((D.Table.mk p0.Offset a0),a1)
theorem QqL:FO 349 (Qf [.st .Zone] [] [.st .Table,nI] [] [] (D.Table×Int) kz3 (fun x y=>Qtd fu x.1)):=fI fu .go kz4 (eC (QaB fu) eN) Tryz.func349
def Qfg(p0:List D.Zone):Option (List D.Table):=Qj (X:=((List D.Zone×Int×Int×Unit)×List D.Table×Unit)) (fun L0 ((a1,a2,a3,_),a4,_)=>cd (a3<a2) (atc a1 a3 fun a5=>optc (Qtd fu a5) fun(a6,a7)=>lec (a4.length+(List.length (a6::[]))) 34359738368 (L0 ((a1,a2,(wrap .i64 (a3+1)),()),(a4++(a6::[])),()))) (some a4)) fu ((p0,((p0.length:Nat):Int),0,()),[],())
theorem QjT:FO 341 (Qf [.one (.lst .Zone)] [] [.one (.lst .Table)] [] [] (List D.Table) kz1 (fun x y=>Qfg fu x.1)):=fI fu (gs 2 (lp [(3,.one (.own 1022)),li 8 .Zone,ni 9,ni 10] [ar 1022 .Table] .go)) kz0 (eC (QqL fu) eN) Tryz.func341
def Qii(p0:D.Config):Option D.View:=optc (Qfg fu p0.Zones) fun a0=>some (D.View.mk p0 a0)
theorem Qmy:FO 335 (Qf [.st .Config] [] [.st .View] [] [] D.View kz1 (fun x y=>Qii fu x.1)):=fI fu .go kz0 (eC (QjT fu) eN) Tryz.func335
def Qig(p0:D.Config):Option (D.View×Bool):=optc (QX fu p0) fun a0=>cd (a0≠0) (some ((D.View.mk (D.Config.mk [] [] [] []) []),false)) (optc (Qii fu p0) fun a1=>some (a1,true))
theorem Qj8:FO 327 (Qf [.st .Config] [] [.st .View,.one .boo] [] [] (D.View×Bool) kz3 (fun x y=>Qig fu x.1)):=fI fu .go kz4 (eC (Ux fu) (eC (Qmy fu) eN)) Tryz.func327
def QeG(fu:Nat)(p0:D.Edit)(p1:Int):Option Bool:=cd (p0.From≤p1) (cd (p1<p0.To) sT sF) sF
theorem Qju:FO 355 (sB [.st .Edit,nI] fun x=>QeG fu x.1 x.2.1):=fI fu .go kz0 eN Tryz.func355
def Qfn(p0:List D.Edit)(p1:Int)(p2:Int):Option Int:=Qj (X:=((Int×Int×List D.Edit×Int×Int×Unit)×Unit)) (fun L0 ((a1,a2,a3,a4,a5,_),_)=>cd (a5<a4) (join (Y:=((Int×Int×List D.Edit×Int×Int×Unit)×Unit)) (fun((a6,a7,a8,a9,a10,_),_)=>L0 ((a6,a7,a8,a9,(wrap .i64 (a10+1)),()),())) fun J11=>atc a3 a5 fun a12=>optc (QeG fu a12 a2) fun a13=>cnd a13 (cd (a12.Kind=0) (J11 ((a1,a2,a3,a4,a5,()),())) (cd (a12.Kind=1) (J11 ((a12.A,a2,a3,a4,a5,()),())) (cd (a12.Kind≠2) (J11 ((a1,a2,a3,a4,a5,()),())) (cd (a1=a12.A) (J11 ((a12.B,a2,a3,a4,a5,()),())) (cd (a1=a12.B) (J11 ((a12.A,a2,a3,a4,a5,()),())) (J11 ((a1,a2,a3,a4,a5,()),()))))))) (J11 ((a1,a2,a3,a4,a5,()),()))) (some a1)) fu ((p1,p2,p0,((p0.length:Nat):Int),0,()),())
theorem QmD:FO 348 (sI [.one (.lst .Edit),nI,nI] fun x=>Qfn fu x.1 x.2.1 x.2.2.1):=fI fu (.two .go (lp [ni 1,ni 2,li 9 .Edit,ni 10,ni 11] [] (gs 2 (.two (.join [ni 1,ni 2,li 9 .Edit,ni 10,ni 11] [] .go) .go)))) kz0 (eC (Qju fu) eN) Tryz.func348
def QdK(p0:D.View)(p1:D.Schedule)(p2:Int):Option Int:=join (Y:=((Int×Unit)×D.View×D.Schedule×Unit)) (fun((a0,_),a1,a2,_)=>optc (Y5 fu a1 a2 a0) fun(a3,a4)=>optc (Qfn fu a2.Edits a4 a0) fun a5=>some a5) fun J6=>cd (p2<0) (some (-1)) (cd (8589934592<p2) (some (-1)) (J6 ((p2,()),p0,p1,())))
theorem QkW:FO 340 (sI [.st .View,.st .Schedule,nI] fun x=>QdK fu x.1 x.2.1 x.2.2.1):=fI fu (.two .go (.two (.join [ni 2,rf 3,rf 4] [bx 1003 .View,bx 1004 .Schedule] .go) .go)) kz0 (eC (Qhm fu) (eC (QmD fu) eN)) Tryz.func340
def Qhs(p0:D.Config)(p1:Int)(p2:Int):Option Int:=optc (Qig fu p0) fun(a0,a1)=>join (Y:=((Int×Int×Unit)×D.Config×D.View×Unit)) (fun((a2,a3,_),a4,a5,_)=>atc a4.Schedules a2 fun a6=>optc (QdK fu a5 a6 a3) fun a7=>some a7) fun J8=>cnd a1 (optc (WU fu p0 p1) fun a9=>cnd a9 (J8 ((p1,p2,()),p0,a0,())) (some (-1))) (some (-1))
theorem Qoe:FO 334 (sI [.st .Config,nI,nI] fun x=>Qhs fu x.1 x.2.1 x.2.2.1):=fI fu (gs 2 (.two (.join [ni 1,ni 2,rf 3,rf 7] [bx 1003 .Config,bx 1007 .View] .go) .go)) kz0 (eC (Qew fu) (eC (Qj8 fu) (eC (QkW fu) eN))) Tryz.func334
def Qd8(p0:D.Config)(p1:Int)(p2:Int):Option Int:=optc (Qhs fu p0 p1 p2) fun a0=>some a0
theorem QlI:FO 326 (sI [.st .Config,nI,nI] fun x=>Qd8 fu x.1 x.2.1 x.2.2.1):=fI fu .go kz0 (eC (Qoe fu) eN) Tryz.func326
def Qa1(p0:D.Config)(p1:D.Book)(p2:D.Target)(p3:Int):Option (List Int):=join (Y:=((Int×Unit)×D.Config×D.Book×D.Target×Unit)) (fun((a0,_),a1,a2,a3,_)=>cd (a3.Kind=1) (optc (Qd8 fu a1 a3.Index a0) fun a4=>some (a4::[])) (cd (a3.Kind=2) (atc a2.Teams a3.Index fun a5=>some a5.Members) (some (a3.Index::[])))) fun J6=>optc (Yf fu p2.Kind 0 2) fun a7=>cnd a7 (optc (X8 fu p0 p1) fun a8=>cd (p2.Kind=((0:Nat):Int)) (optc (Yf fu p2.Index 0 (wrap .i64 (a8.a0 - 1))) fun a9=>cnd a9 (J6 ((p3,()),p0,p1,p2,())) (some [])) (cd (p2.Kind=(((0+1):Nat):Int)) (optc (Yf fu p2.Index 0 (wrap .i64 (a8.a1 - 1))) fun a10=>cnd a10 (J6 ((p3,()),p0,p1,p2,())) (some [])) (cd (p2.Kind=((((0+1)+1):Nat):Int)) (optc (Yf fu p2.Index 0 (wrap .i64 (a8.a2 - 1))) fun a11=>cnd a11 (J6 ((p3,()),p0,p1,p2,())) (some [])) none))) (some [])
theorem QiT:FO 310 (Qf [.st .Config,.st .Book,.st .Target,nI] [] [lI] [] [] (List Int) kz1 (fun x y=>Qa1 fu x.1 x.2.1 x.2.2.1 x.2.2.2.1)):=fI fu (.two .go (.two (.join [ni 3,rf 4,rf 5,rf 6] [bx 1004 .Config,bx 1005 .Book,bx 1006 .Target] .go) .go)) kz0 (eC (X7 fu) (eC (Qdb fu) (eC (QlI fu) eN))) Tryz.func310
def X6(p0:Int)(p1:D.Config):Option Bool:=optc (Yf fu p0 0 (wrap .i64 (((p1.People.length:Nat):Int) - 1))) fun a0=>sameC p1 p1 (some (!a0))
theorem Qa0:FO 311 (Qf [nI,.one (.ref 101)] [bx 101 .Config] [.one .boo] [] [101] Bool kz1 (fun x y=>X6 fu x.1 y.1)):=fI fu .go kz0 (eC (X7 fu) eN) Tryz.func311
def QP(p0:List Int)(c102:D.Config):Option Int:=Qj (X:=((Int×Int×Unit)×D.Config×List Int×Unit)) (fun L0 ((a1,a2,_),a3,a4,_)=>cd (a2<a1) (natc a2 fun a5=>ltc a5 a4.length (optc (GetElem?.getElem? a4 a5) fun a6=>optc (X6 fu a6 a3) fun a7=>cnd a7 (sameC a4 p0 (sameC a3 c102 (some a2))) (L0 ((a1,(wrap .i64 (a2+1)),()),a3,a4,())))) (sameC a4 p0 (sameC a3 c102 (some (-1))))) fu ((((p0.length:Nat):Int),0,()),c102,p0,())
theorem XC:FO 270 (Qf [.one (.own 101),.one (.clo 311 [102])] [ar 101 .int,bx 102 .Config] [nI] [] [101,102] Int kz1 (fun x y=>QP fu y.1 y.2.1)):=fI fu (.two .go (lp [(0,.one (.own 101)),(1,.one (.clo 311 [102])),ni 7,ni 8] [bx 102 .Config,ar 101 .int] .go)) kz0 (eC (Qa0 fu) eN) Tryz.func270
def QN(p0:List Int)(c102:D.Config):Option (Nat×Nat×List Int):=optc (QP fu p0 c102) fun a0=>cd (a0=(-1)) (sameC c102 c102 (some (0,p0.length,p0))) (Qj (X:=((Int×Int×Unit)×D.Config×List Int×Unit)) (fun L1 ((a2,a3,_),a4,a5,_)=>cd (a3<((a5.length:Nat):Int)) (join (Y:=((Int×Int×Unit)×D.Config×List Int×Unit)) (fun((a6,a7,_),a8,a9,_)=>L1 ((a6,(wrap .i64 (a7+1)),()),a8,a9,())) fun J10=>natc a3 fun a11=>ltc a11 a5.length (optc (GetElem?.getElem? a5 a11) fun a12=>optc (X6 fu a12 a4) fun a13=>cnd (!a13) (natc a2 fun a14=>ltc a14 a5.length (optc (GetElem?.getElem? a5 a14) fun a15=>J10 (((wrap .i64 (a2+1)),a3,()),a4,(List.set a5 a14 a12),()))) (J10 ((a2,a3,()),a4,a5,())))) (natc a2 fun a16=>lec a16 a5.length (lec a16 a5.length (lec a5.length a5.length (natc a2 fun a17=>lec a17 (List.length (((List.take a16 a5)++(List.replicate (a5.length - a16) 0))++(List.drop a5.length a5))) (sameC a4 c102 (some (0,a17,(((List.take a16 a5)++(List.replicate (a5.length - a16) 0))++(List.drop a5.length a5)))))))))) fu ((a0,(wrap .i64 (a0+1)),()),c102,p0,()))
theorem Xn:FO 293 (Qf [.one (.own 101),.one (.clo 311 [102])] [ar 101 .int,bx 102 .Config] [.one (.view 101)] [ar 101 .int] [102] (Nat×Nat×List Int) kz18 (fun x y=>QN fu y.1 y.2.1)):=fI fu (gs 3 (lp [(0,.one (.own 101)),(1,.one (.clo 311 [102])),ni 5,ni 6] [bx 102 .Config,ar 101 .int] (.two .go (.two (.join [(0,.one (.own 101)),(1,.one (.clo 311 [102])),ni 5,ni 6] [bx 102 .Config,ar 101 .int] .go) .go)))) kz20 (eC (XC fu) (eC (Qa0 fu) eN)) Tryz.func293
def Q8(l0:Nat)(h0:Nat)(p0:List Int)(p1:Int)(p2:Int):Option (List Int):=Qj (X:=((Nat×Nat×Int×Int×Int×Unit)×List Int×Unit)) (fun L0 ((a1,a2,a3,a4,a5,_),a6,_)=>cd (a5<a4) (join (Y:=((Nat×Nat×Int×Int×Int×Unit)×List Int×Unit)) (fun((a7,a8,a9,a10,a11,_),a12,_)=>L0 ((a7,a8,a9,a10,(wrap .i64 (a11+1)),()),a12,())) fun J13=>Qj (X:=((Nat×Nat×Int×Int×Int×Int×Unit)×List Int×Unit)) (fun L14 ((a15,a16,a17,a18,a19,a20,_),a21,_)=>join (Y:=((Nat×Nat×Int×Int×Int×Int×Unit)×List Int×Unit)) (fun((a22,a23,a24,a25,a26,a27,_),a28,_)=>natc (wrap .i64 (a27 - 1)) fun a29=>ltc a29 (a23 - a22) (optc (GetElem?.getElem? a28 (a22+a29)) fun a30=>natc a27 fun a31=>ltc a31 (a23 - a22) (optc (GetElem?.getElem? a28 (a22+a31)) fun a32=>natc a27 fun a33=>ltc a33 (a23 - a22) (optc (GetElem?.getElem? a28 (a22+a33)) fun a34=>natc (wrap .i64 (a27 - 1)) fun a35=>ltc a35 (a23 - a22) (optc (GetElem?.getElem? (List.set a28 (a22+a33) a30) (a22+a35)) fun a36=>L14 ((a22,a23,a24,a25,a26,(wrap .i64 (a27 - 1)),()),(List.set (List.set a28 (a22+a33) a30) (a22+a35) a32),())))))) fun J37=>cd (a17<a20) (natc a20 fun a38=>ltc a38 (a16 - a15) (optc (GetElem?.getElem? a21 (a15+a38)) fun a39=>natc (wrap .i64 (a20 - 1)) fun a40=>ltc a40 (a16 - a15) (optc (GetElem?.getElem? a21 (a15+a40)) fun a41=>optc (WY fu a39 a41) fun a42=>cnd a42 (J37 ((a15,a16,a17,a18,a19,a20,()),a21,())) (J13 ((a15,a16,a17,a18,a19,()),a21,()))))) (J13 ((a15,a16,a17,a18,a19,()),a21,()))) fu ((a1,a2,a3,a4,a5,a5,()),a6,())) (some a6)) fu ((l0,h0,p1,p2,(wrap .i64 (p1+1)),()),p0,())
theorem Wx:FO 115 (Qf [.one (.view 101),nI,nI] [ar 101 .int] [] [(101,.arrs .int)] [] (List Int) kz8 (fun x y=>Q8 fu x.1 x.2.1 y.1 x.2.2.1 x.2.2.2.1)):=fI fu (.two .go (.one (.loop [(0,.one (.view 101)),ni 1,ni 2,ni 6] [ar 101 .int] (.two .go (.two (.join [(0,.one (.view 101)),ni 1,ni 2,ni 6] [ar 101 .int] (.one (.two .go (.one (.loop [(0,.one (.view 101)),ni 1,ni 2,ni 6,ni 7] [ar 101 .int] (.two (.join [(0,.one (.view 101)),ni 1,ni 2,ni 6,ni 7] [ar 101 .int] .go) .go)))))) .go))))) kz12 (eC (Qai fu) eN) Tryz.func115
def Yy(l0:Nat)(h0:Nat)(p0:List Int)(p1:Int)(p2:Int)(p3:Int):Option (List Int):=Qj (X:=((Nat×Nat×Int×Int×Int×Bool×Bool×Unit)×List Int×Unit)) (fun L0 ((a1,a2,a3,a4,a5,a6,a7,_),a8,_)=>cd ((wrap .i64 (a4 - a3))≤12) (optc (Q8 fu a1 a2 a8 a3 a4) fun a9=>chk a9.length a8.length (some a9)) (cd (a5=0) none (cnd (!a6) none none))) fu ((l0,h0,p1,p2,p3,true,true,()),p0,())
theorem V0:FO 78 (Qf [.one (.view 101),nI,nI,nI] [ar 101 .int] [] [(101,.arrs .int)] [] (List Int) kz8 (fun x y=>Yy fu x.1 x.2.1 y.1 x.2.2.1 x.2.2.2.1 x.2.2.2.2.1)):=fI fu (gs 2 (.one (.loop [(0,.one (.view 101)),ni 1,ni 2,ni 3,(8,.one .boo),(9,.one .boo)] [ar 101 .int] .go))) kz12 (eC (Wx fu) eN) Tryz.func78
def XZ(l0:Nat)(h0:Nat)(p0:List Int):Option (List Int):=optc (UU fu (IntKind.wrap .u64 (((h0 - l0):Nat):Int))) fun a0=>optc (Yy fu l0 h0 p0 0 (((h0 - l0):Nat):Int) a0) fun a1=>chk a1.length p0.length (some a1)
theorem QdB:FO 47 (Qf [.one (.view 101)] [ar 101 .int] [] [(101,.arrs .int)] [] (List Int) kz8 (fun x y=>XZ fu x.1 x.2.1 y.1)):=fI fu .go kz12 (eC (V0 fu) (eC (Qcy fu) eN)) Tryz.func47
def Y3(l0:Nat)(h0:Nat)(p0:List Int):Option (Nat×Nat×List Int):=cd ((((h0 - l0):Nat):Int)<2) (some (l0,h0,p0)) (Qj (X:=((Nat×Nat×Int×Unit)×List Int×Unit)) (fun L0 ((a1,a2,a3,_),a4,_)=>cd (a3<(((a2 - a1):Nat):Int)) (natc a3 fun a5=>ltc a5 (a2 - a1) (optc (GetElem?.getElem? a4 (a1+a5)) fun a6=>natc (wrap .i64 (a3 - 1)) fun a7=>ltc a7 (a2 - a1) (optc (GetElem?.getElem? a4 (a1+a7)) fun a8=>cd (a6=a8) (natc a3 fun a9=>ltc a9 (a2 - a1) (Qj (X:=((Nat×Nat×Int×Nat×Nat×Int×Unit)×List Int×Unit)) (fun L10 ((a11,a12,a13,a14,a15,a16,_),a17,_)=>cd (a16<(((a15 - a14):Nat):Int)) (join (Y:=((Nat×Nat×Int×Nat×Nat×Int×Unit)×List Int×Unit)) (fun((a18,a19,a20,a21,a22,a23,_),a24,_)=>L10 ((a18,a19,a20,a21,a22,(wrap .i64 (a23+1)),()),a24,())) fun J25=>natc a16 fun a26=>ltc a26 (a15 - a14) (optc (GetElem?.getElem? a17 (a14+a26)) fun a27=>natc (wrap .i64 (a16 - 1)) fun a28=>ltc a28 (a15 - a14) (optc (GetElem?.getElem? a17 (a14+a28)) fun a29=>cd (a27≠a29) (natc a16 fun a30=>ltc a30 (a15 - a14) (optc (GetElem?.getElem? a17 (a14+a30)) fun a31=>natc a13 fun a32=>ltc a32 (a12 - a11) (optc (GetElem?.getElem? a17 (a11+a32)) fun a33=>J25 ((a11,a12,(wrap .i64 (a13+1)),a14,a15,a16,()),(List.set a17 (a11+a32) a31),())))) (J25 ((a11,a12,a13,a14,a15,a16,()),a17,()))))) (natc a13 fun a34=>ltc a34 (a12 - a11) (lec (a11+a34) (a11+(a12 - a11)) (lec (a11+(a12 - a11)) a17.length (natc a13 fun a35=>lec a35 (a12 - a11) (some ((a11+0),(a11+a35),(((List.take (a11+a34) a17)++(List.replicate ((a11+(a12 - a11)) - (a11+a34)) 0))++(List.drop (a11+(a12 - a11)) a17))))))))) fu ((a1,a2,a3,(a1+a9),(a1+(a2 - a1)),1,()),a4,()))) (L0 ((a1,a2,(wrap .i64 (a3+1)),()),a4,()))))) (some (a1,a2,a4))) fu ((l0,h0,1,()),p0,()))
theorem QbN:FO 48 (Qf [.one (.view 101)] [ar 101 .int] [.one (.view 101)] [ar 101 .int] [] (Nat×Nat×List Int) kz18 (fun x y=>Y3 fu x.1 x.2.1 y.1)):=fI fu (gs 2 (lp [(0,.one (.view 101)),ni 3] [ar 101 .int] (.two .go (.two (.one (.two .go (.two (.two .go (lp [(0,.one (.view 101)),ni 3,(4,.one (.view 101)),ni 5] [ar 101 .int] (.two .go (.two (.join [(0,.one (.view 101)),ni 3,(4,.one (.view 101)),ni 5] [ar 101 .int] .go) .go)))) .go))) .go)))) kz20 eN Tryz.func48
def UW(p0:D.Config)(p1:D.Book)(p2:List D.Target)(p3:Int):Option (Nat×Nat×List Int):=Qj (X:=((Int×List D.Target×Int×Int×Unit)×D.Config×D.Book×List Int×Unit)) (fun L0 ((a1,a2,a3,a4,_),a5,a6,a7,_)=>cd (a4<a3) (atc a2 a4 fun a8=>optc (Qa1 fu a5 a6 a8 a1) fun a9=>lec (a7.length+a9.length) 34359738368 (L0 ((a1,a2,a3,(wrap .i64 (a4+1)),()),a5,a6,(a7++a9),()))) (optc (QN fu a7 a5) fun(a10,a11,a12)=>optc (XZ fu a10 a11 a12) fun a13=>chk a13.length a12.length (optc (Y3 fu a10 a11 a13) fun(a14,a15,a16)=>some (a14,a15,a16)))) fu ((p3,p2,((p2.length:Nat):Int),0,()),p0,p1,[],())
theorem Qhf:FO 294 (Qf [.st .Config,.st .Book,.one (.lst .Target),nI] [] [.one (.view 1024)] [ar 1024 .int] [] (Nat×Nat×List Int) kz18 (fun x y=>UW fu x.1 x.2.1 x.2.2.1 x.2.2.2.1)):=fI fu (gs 2 (lp [ni 3,rf 4,rf 5,(9,.one (.own 1024)),li 12 .Target,ni 13,ni 14] [bx 1004 .Config,bx 1005 .Book,ar 1024 .int] .go)) kz20 (eC (QdB fu) (eC (QbN fu) (eC (Xn fu) (eC (QiT fu) eN)))) Tryz.func294
def Qge(fu:Nat)(p0:Int)(p1:Int):Option Bool:=cd (0≤p0) (cd (p0≤8589934592) (cd (p0≤p1) (cd (p1≤8589934592) (cd ((wrap .i64 (p1 - p0))≤34560000) sT sF) sF) sF) sF) sF
theorem QkR:FO 328 (sB [nI,nI] fun x=>Qge fu x.1 x.2.1):=fI fu .go kz0 eN Tryz.func328
def Qb4(p0:D.Config)(p1:Int)(p2:Int)(p3:Int):Option (D.View×Int):=optc (Qig fu p0) fun(a0,a1)=>join (Y:=(Unit×D.View×D.View×Unit)) (fun(_,a2,a3,_)=>some (a3,0)) fun J4=>cnd (!a1) (some (a0,8)) (cd (p1<0) (some (a0,3)) (cd (((p0.People.length:Nat):Int)≤p1) (some (a0,3)) (optc (Qge fu p2 p3) fun a5=>cnd (!a5) (some (a0,1)) (J4 ((),(D.View.mk (D.Config.mk [] [] [] []) []),a0,())))))
theorem Qjy:FO 312 (Qf [.st .Config,nI,nI,nI] [] [.st .View,nI] [] [] (D.View×Int) kz3 (fun x y=>Qb4 fu x.1 x.2.1 x.2.2.1 x.2.2.2.1)):=fI fu (gs 2 (.two (.join [rf 8,rf 10] [bx 1008 .View,bx 1010 .View] .go) .go)) kz4 (eC (Qj8 fu) (eC (QkR fu) eN)) Tryz.func312
def Xe(fu:Nat)(p0:D.View)(p1:Int):Option D.Table:=atc p0.tables p1 fun a0=>some a0
theorem Qfm:FO 315 (Qf [.st .View,nI] [] [.st .Table] [] [] D.Table kz1 (fun x y=>Xe fu x.1 x.2.1)):=fI fu .go kz0 eN Tryz.func315
def WK(p0:D.Config)(p1:Int)(p2:Int)(p3:Bool):Option Bool:=optc (Qb4 fu p0 p1 p2 p2) fun(a0,a1)=>cd (a1≠0) sF (atc p0.People p1 fun a2=>cnd p3 (cnd a2.Consent sT (optc (Xe fu a0 a2.Zone) fun a3=>optc (ZC fu a3 p2) fun a4=>optc (XD fu a4) fun a5=>optc (Qct fu a2.Quiet a5) fun a6=>cnd a6 sF sT)) (optc (Xe fu a0 a2.Zone) fun a7=>optc (ZC fu a7 p2) fun a8=>optc (XD fu a8) fun a9=>optc (Qct fu a2.Quiet a9) fun a10=>cnd a10 sF sT))
theorem QeO:FO 296 (sB [.st .Config,nI,nI,.one .boo] fun x=>WK fu x.1 x.2.1 x.2.2.1 x.2.2.2.1):=fI fu .go kz0 (eC (Qjy fu) (eC (Qjm fu) (eC (QcA fu) (eC (Qfm fu) (eC (WV fu) eN))))) Tryz.func296
def Zq(p0:Int)(p1:D.Config)(p2:D.Page)(p3:D.PolicyStep):Option (Bool×D.Page):=optc (WK fu p1 p0 p2.Due p3.Urgent) fun a0=>sameC p1 p1 (sameC p3 p3 (some ((!a0),p2)))
theorem XG:FO 295 (Qf [nI,.one (.ref 101),.one (.ref 102),.one (.ref 106)] [bx 101 .Config,(102,.box bJ3),ar 103 .Start,ar 104 .int,ar 105 .int,bx 106 .PolicyStep] [.one .boo] [(102,.box bJ3),ar 103 .Start,ar 104 .int,ar 105 .int] [101,106] (Bool×D.Page) kz10 (fun x y=>Zq fu x.1 y.1 (D.Page.mk y.2.1.1 y.2.1.2.1 y.2.1.2.2.1 y.2.1.2.2.2.1 y.2.1.2.2.2.2.1 y.2.1.2.2.2.2.2.1 y.2.1.2.2.2.2.2.2.1 y.2.1.2.2.2.2.2.2.2.1 y.2.1.2.2.2.2.2.2.2.2.1 y.2.1.2.2.2.2.2.2.2.2.2.1 y.2.1.2.2.2.2.2.2.2.2.2.2.1 y.2.2.1 y.2.2.2.1 y.2.2.2.2.1) y.2.2.2.2.2.1)):=fI fu .go (fun a b=>(a.1,(D.Page.mk b.1.1 b.1.2.1 b.1.2.2.1 b.1.2.2.2.1 b.1.2.2.2.2.1 b.1.2.2.2.2.2.1 b.1.2.2.2.2.2.2.1 b.1.2.2.2.2.2.2.2.1 b.1.2.2.2.2.2.2.2.2.1 b.1.2.2.2.2.2.2.2.2.2.1 b.1.2.2.2.2.2.2.2.2.2.2.1 b.2.1 b.2.2.1 b.2.2.2.1))) (eC (QeO fu) eN) Tryz.func295
def Qt(l0:Nat)(h0:Nat)(p0:List Int)(c102:D.Config)(c103:D.Page)(c107:D.PolicyStep):Option (Int×D.Page):=Qj (X:=((Nat×Nat×Int×Int×Unit)×D.Config×P11×D.PolicyStep×List Int×List D.Start×List Int×List Int×Unit)) (fun L0 ((a1,a2,a3,a4,_),a5,(a6,a7,a8,a9,a10,a11,a12,a13,a14,a15,a16,_),a17,a18,a19,a20,a21,_)=>cd (a4<a3) (natc a4 fun a22=>ltc a22 (a2 - a1) (optc (GetElem?.getElem? a18 (a1+a22)) fun a23=>optc (Zq fu a23 a5 (D.Page.mk a6 a7 a8 a9 a10 a11 a12 a13 a14 a15 a16 a19 a20 a21) a17) fun(a24,a25)=>cnd a24 (sameC a18 p0 (sameC a5 c102 (sameC a17 c107 (some (a4,a25))))) (L0 ((a1,a2,a3,(wrap .i64 (a4+1)),()),a5,(a25.ID,a25.Policy,a25.Start,a25.Next,a25.Due,a25.State,a25.By,a25.Until,a25.Last,a25.Snoozes,a25.Hands,()),a17,a18,a25.Starts,a25.Declined,a25.Seen,())))) (sameC a18 p0 (sameC a5 c102 (sameC a17 c107 (some ((-1),(D.Page.mk a6 a7 a8 a9 a10 a11 a12 a13 a14 a15 a16 a19 a20 a21))))))) fu ((l0,h0,(((h0 - l0):Nat):Int),0,()),c102,((D.Page.ID c103),(D.Page.Policy c103),(D.Page.Start c103),(D.Page.Next c103),(D.Page.Due c103),(D.Page.State c103),(D.Page.By c103),(D.Page.Until c103),(D.Page.Last c103),(D.Page.Snoozes c103),(D.Page.Hands c103),()),c107,p0,(D.Page.Starts c103),(D.Page.Declined c103),(D.Page.Seen c103),())
theorem Yq:FO 270 (Qf [.one (.view 101),.one (.clo 295 [102,103,107])] [ar 101 .int,bx 102 .Config,(103,.box bJ4),ar 104 .Start,ar 105 .int,ar 106 .int,bx 107 .PolicyStep] [nI] [(103,.box bJ4),ar 104 .Start,ar 105 .int,ar 106 .int] [101,102,107] (Int×D.Page) kz16 (fun x y=>Qt fu x.1 x.2.1 y.1 y.2.1 (D.Page.mk y.2.2.1.1 y.2.2.1.2.1 y.2.2.1.2.2.1 y.2.2.1.2.2.2.1 y.2.2.1.2.2.2.2.1 y.2.2.1.2.2.2.2.2.1 y.2.2.1.2.2.2.2.2.2.1 y.2.2.1.2.2.2.2.2.2.2.1 y.2.2.1.2.2.2.2.2.2.2.2.1 y.2.2.1.2.2.2.2.2.2.2.2.2.1 y.2.2.1.2.2.2.2.2.2.2.2.2.2.1 y.2.2.2.1 y.2.2.2.2.1 y.2.2.2.2.2.1) y.2.2.2.2.2.2.1)):=fI fu (.two .go (lp [(0,.one (.view 101)),(1,.one (.clo 295 [102,103,107])),ni 7,ni 8] [bx 102 .Config,(103,.box bJ4),bx 107 .PolicyStep,ar 101 .int,ar 104 .Start,ar 105 .int,ar 106 .int] .go)) (fun a b=>(a.1,(D.Page.mk b.1.1 b.1.2.1 b.1.2.2.1 b.1.2.2.2.1 b.1.2.2.2.2.1 b.1.2.2.2.2.2.1 b.1.2.2.2.2.2.2.1 b.1.2.2.2.2.2.2.2.1 b.1.2.2.2.2.2.2.2.2.1 b.1.2.2.2.2.2.2.2.2.2.1 b.1.2.2.2.2.2.2.2.2.2.2.1 b.2.1 b.2.2.1 b.2.2.2.1))) (eC (XG fu) eN) Tryz.func270
def Qs(l0:Nat)(h0:Nat)(p0:List Int)(c102:D.Config)(c103:D.Page)(c107:D.PolicyStep):Option (Nat×Nat×D.Page×List Int):=optc (Qt fu l0 h0 p0 c102 c103 c107) fun(a0,a1)=>cd (a0=(-1)) (sameC c102 c102 (sameC c107 c107 (some (l0,h0,a1,p0)))) (Qj (X:=((Nat×Nat×Int×Int×Unit)×D.Config×P11×D.PolicyStep×List Int×List D.Start×List Int×List Int×Unit)) (fun L2 ((a3,a4,a5,a6,_),a7,(a8,a9,a10,a11,a12,a13,a14,a15,a16,a17,a18,_),a19,a20,a21,a22,a23,_)=>cd (a6<(((a4 - a3):Nat):Int)) (join (Y:=((Nat×Nat×Int×Int×Unit)×D.Config×P11×D.PolicyStep×List Int×List D.Start×List Int×List Int×Unit)) (fun((a24,a25,a26,a27,_),a28,(a29,a30,a31,a32,a33,a34,a35,a36,a37,a38,a39,_),a40,a41,a42,a43,a44,_)=>L2 ((a24,a25,a26,(wrap .i64 (a27+1)),()),a28,(a29,a30,a31,a32,a33,a34,a35,a36,a37,a38,a39,()),a40,a41,a42,a43,a44,())) fun J45=>natc a6 fun a46=>ltc a46 (a4 - a3) (optc (GetElem?.getElem? a20 (a3+a46)) fun a47=>optc (Zq fu a47 a7 (D.Page.mk a8 a9 a10 a11 a12 a13 a14 a15 a16 a17 a18 a21 a22 a23) a19) fun(a48,a49)=>cnd (!a48) (natc a5 fun a50=>ltc a50 (a4 - a3) (optc (GetElem?.getElem? a20 (a3+a50)) fun a51=>J45 ((a3,a4,(wrap .i64 (a5+1)),a6,()),a7,(a49.ID,a49.Policy,a49.Start,a49.Next,a49.Due,a49.State,a49.By,a49.Until,a49.Last,a49.Snoozes,a49.Hands,()),a19,(List.set a20 (a3+a50) a47),a49.Starts,a49.Declined,a49.Seen,()))) (J45 ((a3,a4,a5,a6,()),a7,(a49.ID,a49.Policy,a49.Start,a49.Next,a49.Due,a49.State,a49.By,a49.Until,a49.Last,a49.Snoozes,a49.Hands,()),a19,a20,a49.Starts,a49.Declined,a49.Seen,())))) (natc a5 fun a52=>ltc a52 (a4 - a3) (lec (a3+a52) (a3+(a4 - a3)) (lec (a3+(a4 - a3)) a20.length (natc a5 fun a53=>lec a53 (a4 - a3) (sameC a7 c102 (sameC a19 c107 (some ((a3+0),(a3+a53),(D.Page.mk a8 a9 a10 a11 a12 a13 a14 a15 a16 a17 a18 a21 a22 a23),(((List.take (a3+a52) a20)++(List.replicate ((a3+(a4 - a3)) - (a3+a52)) 0))++(List.drop (a3+(a4 - a3)) a20))))))))))) fu ((l0,h0,a0,(wrap .i64 (a0+1)),()),c102,(a1.ID,a1.Policy,a1.Start,a1.Next,a1.Due,a1.State,a1.By,a1.Until,a1.Last,a1.Snoozes,a1.Hands,()),c107,p0,a1.Starts,a1.Declined,a1.Seen,()))
theorem Yl:FO 293 (Qf [.one (.view 101),.one (.clo 295 [102,103,107])] [ar 101 .int,bx 102 .Config,(103,.box bJ4),ar 104 .Start,ar 105 .int,ar 106 .int,bx 107 .PolicyStep] [.one (.view 101)] [(103,.box bJ4),ar 104 .Start,ar 105 .int,ar 106 .int,ar 101 .int] [102,107] (Nat×Nat×D.Page×List Int) (fun q=>((q.1,q.2.1,()),(q.2.2.1.ID,q.2.2.1.Policy,q.2.2.1.Start,q.2.2.1.Next,q.2.2.1.Due,q.2.2.1.State,q.2.2.1.By,q.2.2.1.Until,q.2.2.1.Last,q.2.2.1.Snoozes,q.2.2.1.Hands,()),q.2.2.1.Starts,q.2.2.1.Declined,q.2.2.1.Seen,q.2.2.2,())) (fun x y=>Qs fu x.1 x.2.1 y.1 y.2.1 (D.Page.mk y.2.2.1.1 y.2.2.1.2.1 y.2.2.1.2.2.1 y.2.2.1.2.2.2.1 y.2.2.1.2.2.2.2.1 y.2.2.1.2.2.2.2.2.1 y.2.2.1.2.2.2.2.2.2.1 y.2.2.1.2.2.2.2.2.2.2.1 y.2.2.1.2.2.2.2.2.2.2.2.1 y.2.2.1.2.2.2.2.2.2.2.2.2.1 y.2.2.1.2.2.2.2.2.2.2.2.2.2.1 y.2.2.2.1 y.2.2.2.2.1 y.2.2.2.2.2.1) y.2.2.2.2.2.2.1)):=fI fu (gs 3 (lp [(0,.one (.view 101)),(1,.one (.clo 295 [102,103,107])),ni 5,ni 6] [bx 102 .Config,(103,.box bJ4),bx 107 .PolicyStep,ar 101 .int,ar 104 .Start,ar 105 .int,ar 106 .int] (.two .go (.two (.join [(0,.one (.view 101)),(1,.one (.clo 295 [102,103,107])),ni 5,ni 6] [bx 102 .Config,(103,.box bJ4),bx 107 .PolicyStep,ar 101 .int,ar 104 .Start,ar 105 .int,ar 106 .int] .go) .go)))) (fun a b=>(a.1,a.2.1,(D.Page.mk b.1.1 b.1.2.1 b.1.2.2.1 b.1.2.2.2.1 b.1.2.2.2.2.1 b.1.2.2.2.2.2.1 b.1.2.2.2.2.2.2.1 b.1.2.2.2.2.2.2.2.1 b.1.2.2.2.2.2.2.2.2.1 b.1.2.2.2.2.2.2.2.2.2.1 b.1.2.2.2.2.2.2.2.2.2.2.1 b.2.1 b.2.2.1 b.2.2.2.1),b.2.2.2.2.1)) (eC (Yq fu) (eC (XG fu) eN)) Tryz.func293
def Z8(p0:D.Config)(p1:D.Book)(p2:D.Page):Option (D.Page×List Int):=atc p1.Policies p2.Policy fun a0=>optc (Qas fu a0 p2.Next) fun(a1,a2,a3)=>atc a0.Steps a1 fun a4=>optc (UW fu p0 p1 a4.Targets p2.Due) fun(a5,a6,a7)=>optc (Qs fu a5 a6 a7 p0 p2 a4) fun(a8,a9,a10,a11)=>lec (a10.Starts.length+(List.length ((D.Start.mk a10.Next a10.Due (List.drop a8 (List.take a9 a11)))::[]))) 34359738368 (join (Y:=(Unit×(Int×Int×Int×Int×Int×Int×Int×Int×Int×Int×Int×List Int×Unit)×D.Page×List D.Start×List Int×List Int×Unit)) (fun(_,(a12,a13,a14,a15,a16,a17,a18,a19,a20,a21,a22,a23,_),a24,a25,a26,a27,_)=>some ((D.Page.mk a12 a13 a14 a15 a16 a17 a18 a19 a20 a21 a22 a25 a23 a26),a27)) fun J28=>cd (0<(((List.length (List.drop a8 (List.take a9 a11))):Nat):Int)) (J28 ((),(a10.ID,a10.Policy,a10.Start,(wrap .i64 (a10.Next+1)),(wrap .i64 (a10.Due+a4.Wait)),a10.State,a10.By,a10.Until,a10.Last,a10.Snoozes,a10.Hands,[],()),(D.Page.mk 0 0 0 0 0 0 0 0 0 0 0 [] [] []),(a10.Starts++((D.Start.mk a10.Next a10.Due (List.drop a8 (List.take a9 a11)))::[])),a10.Seen,a10.Declined,())) (J28 ((),(a10.ID,a10.Policy,a10.Start,(wrap .i64 (a10.Next+1)),a10.Due,a10.State,a10.By,a10.Until,a10.Last,a10.Snoozes,a10.Hands,[],()),(D.Page.mk 0 0 0 0 0 0 0 0 0 0 0 [] [] []),(a10.Starts++((D.Start.mk a10.Next a10.Due (List.drop a8 (List.take a9 a11)))::[])),a10.Seen,a10.Declined,())))
theorem UO:FO 281 (Qf [.st .Config,.st .Book,.agg bJ5] [ar 101 .Start,ar 102 .int,ar 103 .int] [.agg bJ2] [ar 101 .Start,ar 102 .int,ar 103 .int] [] (D.Page×List Int) (fun q=>(((q.1.ID,q.1.Policy,q.1.Start,q.1.Next,q.1.Due,q.1.State,q.1.By,q.1.Until,q.1.Last,q.1.Snoozes,q.1.Hands,q.1.Declined,()),()),q.1.Starts,q.2,q.1.Seen,())) (fun x y=>Z8 fu x.1 x.2.1 (D.Page.mk x.2.2.1.1 x.2.2.1.2.1 x.2.2.1.2.2.1 x.2.2.1.2.2.2.1 x.2.2.1.2.2.2.2.1 x.2.2.1.2.2.2.2.2.1 x.2.2.1.2.2.2.2.2.2.1 x.2.2.1.2.2.2.2.2.2.2.1 x.2.2.1.2.2.2.2.2.2.2.2.1 x.2.2.1.2.2.2.2.2.2.2.2.2.1 x.2.2.1.2.2.2.2.2.2.2.2.2.2.1 y.1 y.2.1 y.2.2.1))):=fI fu (gs 8 (.two (.join [rf 5,rf 6] [(1005,.box bJ2),bx 1006 .Page,ar 101 .Start,ar 103 .int,ar 102 .int] .go) .go)) (fun a b=>((D.Page.mk a.1.1 a.1.2.1 a.1.2.2.1 a.1.2.2.2.1 a.1.2.2.2.2.1 a.1.2.2.2.2.2.1 a.1.2.2.2.2.2.2.1 a.1.2.2.2.2.2.2.2.1 a.1.2.2.2.2.2.2.2.2.1 a.1.2.2.2.2.2.2.2.2.2.1 a.1.2.2.2.2.2.2.2.2.2.2.1 b.1 a.1.2.2.2.2.2.2.2.2.2.2.2.1 b.2.2.1),b.2.1)) (eC (QjK fu) (eC (Yl fu) (eC (Qhf fu) eN))) Tryz.func281
def UN(p0:D.Config)(p1:D.Book)(p2:D.Page):Option (D.Page×Int):=optc (X2 fu p2) fun(a0,a1)=>optc (Z7 fu p1 p2) fun a2=>cnd (!a2) (some ((D.Page.mk 0 0 0 0 0 0 0 0 0 0 0 [] [] []),8)) (cnd (!a1) (some ((D.Page.mk 0 0 0 0 0 0 0 0 0 0 0 [] [] []),9)) (cd (((p2.Starts.length:Nat):Int)=200) (some ((D.Page.mk 0 0 0 0 0 0 0 0 0 0 0 [] [] []),5)) (optc (Xg fu p2) fun a3=>join (Y:=(Unit×(Int×Int×Int×Int×Int×Int×Int×Int×Int×Int×Int×List Int×Unit)×D.Page×List D.Start×List Int×Unit)) (fun(_,(a4,a5,a6,a7,a8,a9,a10,a11,a12,a13,a14,a15,_),a16,a17,a18,_)=>some ((D.Page.mk a4 a5 a6 a7 a8 a9 a10 a11 a12 a13 a14 a17 a15 a18),0)) fun J19=>cd (a3.State=2) (J19 ((),(a3.ID,a3.Policy,a3.Start,a3.Next,a0,0,a3.By,a3.Until,(max a3.Last a0),a3.Snoozes,a3.Hands,a3.Declined,()),(D.Page.mk 0 0 0 0 0 0 0 0 0 0 0 [] [] []),a3.Starts,a3.Seen,())) (atc p1.Policies a3.Policy fun a20=>optc (X5 fu a20) fun a21=>cd (a3.Next=a21) (J19 ((),(a3.ID,a3.Policy,a3.Start,a3.Next,a3.Due,3,a3.By,a3.Until,(max a3.Last a0),a3.Snoozes,a3.Hands,a3.Declined,()),(D.Page.mk 0 0 0 0 0 0 0 0 0 0 0 [] [] []),a3.Starts,a3.Seen,())) (optc (Z8 fu p0 p1 (D.Page.mk a3.ID a3.Policy a3.Start a3.Next a3.Due a3.State a3.By a3.Until (max a3.Last a0) a3.Snoozes a3.Hands a3.Starts a3.Declined a3.Seen)) fun(a22,a23)=>J19 ((),(a22.ID,a22.Policy,a22.Start,a22.Next,a22.Due,a22.State,a22.By,a22.Until,a22.Last,a22.Snoozes,a22.Hands,a22.Declined,()),(D.Page.mk 0 0 0 0 0 0 0 0 0 0 0 [] [] []),a22.Starts,a22.Seen,()))))))
theorem Qhc:FO 262 (Qf [.st .Config,.st .Book,.st .Page] [] [.st .Page,nI] [] [] (D.Page×Int) kz3 (fun x y=>UN fu x.1 x.2.1 x.2.2.1)):=fI fu (gs 5 (.two (.join [rf 5,rf 6] [(1005,.box [kI,kI,kI,kI,kI,kI,kI,kI,kI,kI,kI,.own 2039007,.lst .int,.own 2065007]),bx 1006 .Page,ar 2039007 .Start,ar 2065007 .int] .go) .go)) kz4 (eC (Qal fu) (eC (Wj fu) (eC (Qar fu) (eC (Vk fu) (eC (UO fu) eN))))) Tryz.func262
def QaQ(p0:D.Config)(p1:D.Book)(p2:D.Page)(p3:Int):Option (D.Page×Int):=optc (Z7 fu p1 p2) fun a0=>cnd (!a0) (some ((D.Page.mk 0 0 0 0 0 0 0 0 0 0 0 [] [] []),8)) (optc (Xg fu p2) fun a1=>Qj (X:=((Int×Unit)×D.Config×D.Book×D.Page×D.Page×Unit)) (fun L2 ((a3,_),a4,a5,a6,a7,_)=>optc (V7 fu a6 a3) fun a8=>cnd a8 (optc (UN fu a4 a5 a6) fun(a9,a10)=>cd (a10≠0) (some ((D.Page.mk 0 0 0 0 0 0 0 0 0 0 0 [] [] []),a10)) (L2 ((a3,()),a4,a5,a9,a7,()))) (some (a6,0))) fu ((p3,()),p0,p1,a1,(D.Page.mk 0 0 0 0 0 0 0 0 0 0 0 [] [] []),()))
theorem Qin:FO 229 (Qf [.st .Config,.st .Book,.st .Page,nI] [] [.st .Page,nI] [] [] (D.Page×Int) kz3 (fun x y=>QaQ fu x.1 x.2.1 x.2.2.1 x.2.2.2.1)):=fI fu (gs 3 (lp [ni 3,rf 4,rf 5,rf 6,rf 8] [bx 1004 .Config,bx 1005 .Book,bx 1006 .Page,bx 1008 .Page] .go)) kz4 (eC (Wj fu) (eC (Vk fu) (eC (Qgh fu) (eC (Qhc fu) eN)))) Tryz.func229
def QdQ(fu:Nat)(p0:D.Page):Option Int:=cd (p0.State=2) (some (-1)) (some p0.Next)
theorem Qlh:FO 160 (sI [.st .Page] fun x=>QdQ fu x.1):=fI fu .go kz0 eN Tryz.func160
def VG(p0:List Int)(p1:Int):Option Int:=Qj (X:=(P3×List Int×Unit)) (fun L0 ((a1,a2,a3,_),a4,_)=>cd (a3<a2) (natc a3 fun a5=>ltc a5 a4.length (optc (GetElem?.getElem? a4 a5) fun a6=>cd (a1=a6) (sameC a4 p0 (some a3)) (L0 ((a1,a2,(wrap .i64 (a3+1)),()),a4,())))) (sameC a4 p0 (some (-1)))) fu ((p1,((p0.length:Nat):Int),0,()),p0,())
theorem QdA:FO 156 (Qf [.one (.own 101),nI] [ar 101 .int] [nI] [] [101] Int kz1 (fun x y=>VG fu y.1 x.1)):=fI fu (.two .go (lp [(0,.one (.own 101)),ni 1,ni 7,ni 8] [ar 101 .int] .go)) kz0 eN Tryz.func156
def Zh(p0:List Int)(p1:Int):Option Bool:=optc (VG fu p0 p1) fun a0=>sameC p0 p0 (some (decide (0≤a0)))
theorem Yj:FO 98 (Qf [.one (.own 101),nI] [ar 101 .int] [.one .boo] [] [101] Bool kz1 (fun x y=>Zh fu y.1 x.1)):=fI fu .go kz0 (eC (QdA fu) eN) Tryz.func98
def Yt(fu:Nat)(p0:D.Page):Option (Int×Bool):=cd (p0.State=0) (sameC p0.Starts p0.Starts (sameC p0.Declined p0.Declined (sameC p0.Seen p0.Seen (some (p0.Due,true))))) (cd (p0.State=2) (sameC p0.Starts p0.Starts (sameC p0.Declined p0.Declined (sameC p0.Seen p0.Seen (some (p0.Until,true))))) (sameC p0.Starts p0.Starts (sameC p0.Declined p0.Declined (sameC p0.Seen p0.Seen (some (0,false))))))
theorem QaF:FO 80 (Qf [.agg bJ5] [ar 101 .Start,ar 102 .int,ar 103 .int] [nI,.one .boo] [] [101,102,103] (Int×Bool) kz3 (fun x y=>Yt fu (D.Page.mk x.1.1 x.1.2.1 x.1.2.2.1 x.1.2.2.2.1 x.1.2.2.2.2.1 x.1.2.2.2.2.2.1 x.1.2.2.2.2.2.2.1 x.1.2.2.2.2.2.2.2.1 x.1.2.2.2.2.2.2.2.2.1 x.1.2.2.2.2.2.2.2.2.2.1 x.1.2.2.2.2.2.2.2.2.2.2.1 y.1 y.2.1 y.2.2.1))):=fI fu .go kz4 eN Tryz.func80
def Z9(p0:D.Page)(p1:Int):Option Bool:=optc (Yt fu p0) fun(a0,a1)=>cnd a1 (cd (a0≤p1) (sameC p0.Starts p0.Starts (sameC p0.Declined p0.Declined (sameC p0.Seen p0.Seen sT))) (sameC p0.Starts p0.Starts (sameC p0.Declined p0.Declined (sameC p0.Seen p0.Seen sF)))) (sameC p0.Starts p0.Starts (sameC p0.Declined p0.Declined (sameC p0.Seen p0.Seen sF)))
theorem UQ:FO 261 (Qf [.agg bJ5,nI] [ar 101 .Start,ar 102 .int,ar 103 .int] [.one .boo] [] [101,102,103] Bool kz1 (fun x y=>Z9 fu (D.Page.mk x.1.1 x.1.2.1 x.1.2.2.1 x.1.2.2.2.1 x.1.2.2.2.2.1 x.1.2.2.2.2.2.1 x.1.2.2.2.2.2.2.1 x.1.2.2.2.2.2.2.2.1 x.1.2.2.2.2.2.2.2.2.1 x.1.2.2.2.2.2.2.2.2.2.1 x.1.2.2.2.2.2.2.2.2.2.2.1 y.1 y.2.1 y.2.2.1) x.2.1)):=fI fu .go kz0 (eC (QaF fu) eN) Tryz.func261
def ZN(p0:D.Page)(p1:D.Answer):Option Int:=join (Y:=((Bool×Unit)×P11×D.Answer×List D.Start×List Int×List Int×Unit)) (fun((a0,_),(a1,a2,a3,a4,a5,a6,a7,a8,a9,a10,a11,_),a12,a13,a14,a15,_)=>join (Y:=(Unit×List D.Start×List Int×List Int×Unit)) (fun(_,a16,a17,a18,_)=>sameC a16 p0.Starts (sameC a17 p0.Declined (sameC a18 p0.Seen (some 0)))) fun J19=>cd (a12.At<a9) (sameC a13 p0.Starts (sameC a14 p0.Declined (sameC a15 p0.Seen (some 6)))) (optc (Z9 fu (D.Page.mk a1 a2 a3 a4 a5 a6 a7 a8 a9 a10 a11 a13 a14 a15) a12.At) fun a20=>cnd a20 (sameC a13 p0.Starts (sameC a14 p0.Declined (sameC a15 p0.Seen (some 6)))) (join (Y:=((Bool×Bool×Unit)×P11×List D.Start×List Int×List Int×Unit)) (fun((a21,a22,_),(a23,a24,a25,a26,a27,a28,a29,a30,a31,a32,a33,_),a34,a35,a36,_)=>cnd a22 (sameC a34 p0.Starts (sameC a35 p0.Declined (sameC a36 p0.Seen (some 9)))) (cd (((a36.length:Nat):Int)=64) (sameC a34 p0.Starts (sameC a35 p0.Declined (sameC a36 p0.Seen (some 5)))) (cnd a21 (sameC a34 p0.Starts (sameC a35 p0.Declined (sameC a36 p0.Seen (some 5)))) (J19 ((),a34,a35,a36,()))))) fun J37=>cd (a6=4) (J37 ((a0,(decide (a6=4)),()),(a1,a2,a3,a4,a5,a6,a7,a8,a9,a10,a11,()),a13,a14,a15,())) (cd (a6=3) (cd (a12.Kind≠5) (J37 ((a0,true,()),(a1,a2,a3,a4,a5,a6,a7,a8,a9,a10,a11,()),a13,a14,a15,())) (cd (a6=1) (cd (a12.Kind=2) (J37 ((a0,true,()),(a1,a2,a3,a4,a5,a6,a7,a8,a9,a10,a11,()),a13,a14,a15,())) (J37 ((a0,false,()),(a1,a2,a3,a4,a5,a6,a7,a8,a9,a10,a11,()),a13,a14,a15,()))) (J37 ((a0,false,()),(a1,a2,a3,a4,a5,a6,a7,a8,a9,a10,a11,()),a13,a14,a15,())))) (cd (a6=1) (cd (a12.Kind=2) (J37 ((a0,true,()),(a1,a2,a3,a4,a5,a6,a7,a8,a9,a10,a11,()),a13,a14,a15,())) (J37 ((a0,false,()),(a1,a2,a3,a4,a5,a6,a7,a8,a9,a10,a11,()),a13,a14,a15,()))) (J37 ((a0,false,()),(a1,a2,a3,a4,a5,a6,a7,a8,a9,a10,a11,()),a13,a14,a15,()))))))) fun J38=>cd (p1.Kind=3) (cd (p0.Snoozes=4) (J38 ((true,()),(p0.ID,p0.Policy,p0.Start,p0.Next,p0.Due,p0.State,p0.By,p0.Until,p0.Last,p0.Snoozes,p0.Hands,()),p1,p0.Starts,p0.Declined,p0.Seen,())) (cd (p1.Kind=4) (cd (p0.Hands=4) (J38 ((true,()),(p0.ID,p0.Policy,p0.Start,p0.Next,p0.Due,p0.State,p0.By,p0.Until,p0.Last,p0.Snoozes,p0.Hands,()),p1,p0.Starts,p0.Declined,p0.Seen,())) (cd (((p0.Starts.length:Nat):Int)=200) (J38 ((true,()),(p0.ID,p0.Policy,p0.Start,p0.Next,p0.Due,p0.State,p0.By,p0.Until,p0.Last,p0.Snoozes,p0.Hands,()),p1,p0.Starts,p0.Declined,p0.Seen,())) (J38 ((false,()),(p0.ID,p0.Policy,p0.Start,p0.Next,p0.Due,p0.State,p0.By,p0.Until,p0.Last,p0.Snoozes,p0.Hands,()),p1,p0.Starts,p0.Declined,p0.Seen,())))) (J38 ((false,()),(p0.ID,p0.Policy,p0.Start,p0.Next,p0.Due,p0.State,p0.By,p0.Until,p0.Last,p0.Snoozes,p0.Hands,()),p1,p0.Starts,p0.Declined,p0.Seen,())))) (cd (p1.Kind=4) (cd (p0.Hands=4) (J38 ((true,()),(p0.ID,p0.Policy,p0.Start,p0.Next,p0.Due,p0.State,p0.By,p0.Until,p0.Last,p0.Snoozes,p0.Hands,()),p1,p0.Starts,p0.Declined,p0.Seen,())) (cd (((p0.Starts.length:Nat):Int)=200) (J38 ((true,()),(p0.ID,p0.Policy,p0.Start,p0.Next,p0.Due,p0.State,p0.By,p0.Until,p0.Last,p0.Snoozes,p0.Hands,()),p1,p0.Starts,p0.Declined,p0.Seen,())) (J38 ((false,()),(p0.ID,p0.Policy,p0.Start,p0.Next,p0.Due,p0.State,p0.By,p0.Until,p0.Last,p0.Snoozes,p0.Hands,()),p1,p0.Starts,p0.Declined,p0.Seen,())))) (J38 ((false,()),(p0.ID,p0.Policy,p0.Start,p0.Next,p0.Due,p0.State,p0.By,p0.Until,p0.Last,p0.Snoozes,p0.Hands,()),p1,p0.Starts,p0.Declined,p0.Seen,())))
theorem Ug:FO 231 (Qf [.agg bJ5,.st .Answer] [ar 101 .Start,ar 102 .int,ar 103 .int] [nI] [] [101,102,103] Int kz1 (fun x y=>ZN fu (D.Page.mk x.1.1 x.1.2.1 x.1.2.2.1 x.1.2.2.2.1 x.1.2.2.2.2.1 x.1.2.2.2.2.2.1 x.1.2.2.2.2.2.2.1 x.1.2.2.2.2.2.2.2.1 x.1.2.2.2.2.2.2.2.2.1 x.1.2.2.2.2.2.2.2.2.2.1 x.1.2.2.2.2.2.2.2.2.2.2.1 y.1 y.2.1 y.2.2.1) x.2.1)):=fI fu (.two .go (.two (.join [rf 2,rf 3,(5,.one .boo)] [(1002,.box bJ5),bx 1003 .Answer,ar 101 .Start,ar 102 .int,ar 103 .int] .go) (.two (.join [] [ar 101 .Start,ar 102 .int,ar 103 .int] (.one (gs 2 (.two (.join [rf 2,(5,.one .boo),(42,.one .boo)] [(1002,.box bJ5),ar 101 .Start,ar 102 .int,ar 103 .int] .go) .go)))) .go))) kz0 (eC (UQ fu) eN) Tryz.func231
def ZZ(p0:D.Page):Option (List Int):=cd (((p0.Starts.length:Nat):Int)=0) (sameC p0.Starts p0.Starts (sameC p0.Declined p0.Declined (sameC p0.Seen p0.Seen (some [])))) (natc (wrap .i64 (((p0.Starts.length:Nat):Int) - 1)) fun a0=>ltc a0 p0.Starts.length (optc (GetElem?.getElem? p0.Starts a0) fun a1=>optc (Qx fu a1.People) fun a2=>sameC p0.Starts p0.Starts (sameC p0.Declined p0.Declined (sameC p0.Seen p0.Seen (some a2)))))
theorem Uu:FO 263 (Qf [.agg bJ5] [ar 101 .Start,ar 102 .int,ar 103 .int] [lI] [] [101,102,103] (List Int) kz1 (fun x y=>ZZ fu (D.Page.mk x.1.1 x.1.2.1 x.1.2.2.1 x.1.2.2.2.1 x.1.2.2.2.2.1 x.1.2.2.2.2.2.1 x.1.2.2.2.2.2.2.1 x.1.2.2.2.2.2.2.2.1 x.1.2.2.2.2.2.2.2.2.1 x.1.2.2.2.2.2.2.2.2.2.1 x.1.2.2.2.2.2.2.2.2.2.2.1 y.1 y.2.1 y.2.2.1))):=fI fu .go kz0 (eC (Q4 fu) eN) Tryz.func263
def Zz(p0:Int)(p1:D.Page):Option (Bool×D.Page):=optc (Zh fu p1.Declined p0) fun a0=>some ((!a0),p1)
theorem VK:FO 264 (Qf [nI,.one (.ref 101)] [(101,.box bJ6),ar 102 .Start,ar 103 .int,ar 104 .int] [.one .boo] [(101,.box bJ6),ar 102 .Start,ar 103 .int,ar 104 .int] [] (Bool×D.Page) kz10 (fun x y=>Zz fu x.1 (D.Page.mk y.1.1 y.1.2.1 y.1.2.2.1 y.1.2.2.2.1 y.1.2.2.2.2.1 y.1.2.2.2.2.2.1 y.1.2.2.2.2.2.2.1 y.1.2.2.2.2.2.2.2.1 y.1.2.2.2.2.2.2.2.2.1 y.1.2.2.2.2.2.2.2.2.2.1 y.1.2.2.2.2.2.2.2.2.2.2.1 y.2.1 y.2.2.1 y.2.2.2.1))):=fI fu .go (fun a b=>(a.1,(D.Page.mk b.1.1 b.1.2.1 b.1.2.2.1 b.1.2.2.2.1 b.1.2.2.2.2.1 b.1.2.2.2.2.2.1 b.1.2.2.2.2.2.2.1 b.1.2.2.2.2.2.2.2.1 b.1.2.2.2.2.2.2.2.2.1 b.1.2.2.2.2.2.2.2.2.2.1 b.1.2.2.2.2.2.2.2.2.2.2.1 b.2.1 b.2.2.1 b.2.2.2.1))) (eC (Yj fu) eN) Tryz.func264
end
end Go.Proofs.YtadlpefpehjcoaaGreat
