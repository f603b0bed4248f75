/-
  edit.Copy: a deep copy of a configuration of two schedules of one layer; the edits of one of them stay an array of ours.
-/
import Derived.Test.YtadlpefpehjcoaaGreatQRowStepsC
import Derived.Shelf.Spec.SlicesInsertGrow
import Derived.Shelf.Sort.Plain
import Derived.Sort.OwnSortedInts
set_option maxRecDepth 100000
set_option linter.unusedVariables false
set_option linter.unusedSimpArgs false
namespace Go.Proofs.YtadlpefpehjcoaaGreat
open Go AM
section
theorem clone0{α:Type}[DecidableEq α]{l:List α}(h:l.length≤34359738368):nilC l (both (some []) (lec l.length 34359738368 (some l))) (lec l.length 34359738368 (some l))=some l:=by
 cases l<;>simp[nilC,both,lec]at h ⊢
 exact h
abbrev nl:AV:=.p (.sl true 0 [])
abbrev sl0(es:Nat)(rows:List (List PV)):AV:=.p (.sl false es rows)
abbrev own(n k:Nat):AV:=.own n k
abbrev schR(n:ByteArray)(l:D.Layer)(e:List D.Edit):List PV:=[.v (.string n),.sl false 10 [D.Layer.cells l],.sl false 5 (e.map D.Edit.cells)]
structure QkB (fu:Nat) (z:D.Zone) (ps:List D.Person) (la lb:D.Layer) (ea eb:List D.Edit):Prop where
 rules:z.Rules.length≤1000000
 quiet:∀p∈ps,p.Quiet.length≤1000000
 lam:la.Members.length≤1000000
 law:la.Windows.length≤1000000
 lbm:lb.Members.length≤1000000
 lbw:lb.Windows.length≤1000000
 ea:ea.length≤1000000
 eb:eb.length≤1000000
section
variable {fu:Nat} {z:D.Zone} {p1 p2 p3 p4:D.Person} {na nb:ByteArray} {la lb:D.Layer} {ea eb:List D.Edit}
abbrev cfgA(z:D.Zone)(p1 p2 p3 p4:D.Person)(na nb:ByteArray)(la lb:D.Layer)(ea eb:List D.Edit):List AV:=
 [sl0 3 [D.Zone.cells z],sl0 6 [D.Person.cells p1,D.Person.cells p2,D.Person.cells p3,D.Person.cells p4],sl0 3 [],sl0 3 [schR na la ea,schR nb lb eb]]
abbrev boxC:AO:=.box [own 2011 1,own 2014 4,own 2017 0,own 2020 2]
abbrev box0:AO:=.box [nl,nl,nl,nl]
theorem Qnt(h:QkB fu z [p1,p2,p3,p4] la lb ea eb)(r:Bool)(h':List (Name×AO))(hh:h'=bif r then[(2011,.arr 3 [D.Zone.cells z]),(2014,.arr 6 [D.Person.cells p1,D.Person.cells p2,D.Person.cells p3,D.Person.cells p4]),(2017,.arr 3 []),(2020,.hole 3 [schR na la ea] [.p (.v (.string nb)),sl0 10 [D.Layer.cells lb],own 3001 (eb.map (tcells .Edit)).length] []),(3001,.arr 5 (eb.map (tcells .Edit)))]
   else[(2011,.arr 3 [D.Zone.cells z]),(2014,.arr 6 [D.Person.cells p1,D.Person.cells p2,D.Person.cells p3,D.Person.cells p4]),(2017,.arr 3 []),(2020,.hole 3 [] [.p (.v (.string na)),sl0 10 [D.Layer.cells la],own 3000 (ea.map (tcells .Edit)).length] [schR nb lb eb]),(3000,.arr 5 (ea.map (tcells .Edit)))]):
  XJ Tryz.prog 266 [.agg (cfgA z p1 p2 p3 p4 na nb la lb ea eb)] [] (.agg [own 2011 1,own 2014 4,own 2017 0,own 2020 2]) h':=by
 have cZ:∀l:List D.Zone,l.length≤1000000→QaA Tryz.prog 213 .Zone l:=fun l hl=>Wr (t:=.Zone) (F:=Xs fu) (U3 fu) (clone0 (α:=D.Zone) (Nat.le_trans hl (by decide)))
 have cY:∀l:List D.YearRule,l.length≤1000000→QaA Tryz.prog 214 .YearRule l:=fun l hl=>Wr (t:=.YearRule) (F:=Y6 fu) (Vq fu) (clone0 (α:=D.YearRule) (Nat.le_trans hl (by decide)))
 have cP:∀l:List D.Person,l.length≤1000000→QaA Tryz.prog 215 .Person l:=fun l hl=>Wr (t:=.Person) (F:=YN fu) (V7 fu) (clone0 (α:=D.Person) (Nat.le_trans hl (by decide)))
 have cC:∀l:List D.Calendar,l.length≤1000000→QaA Tryz.prog 217 .Calendar l:=fun l hl=>Wr (t:=.Calendar) (F:=Wo fu) (Vo fu) (clone0 (α:=D.Calendar) (Nat.le_trans hl (by decide)))
 have cS:∀l:List D.Schedule,l.length≤1000000→QaA Tryz.prog 218 .Schedule l:=fun l hl=>Wr (t:=.Schedule) (F:=Yi fu) (Vp fu) (clone0 (α:=D.Schedule) (Nat.le_trans hl (by decide)))
 have cW:∀l:List D.Window,l.length≤1000000→QaA Tryz.prog 216 .Window l:=fun l hl=>Wr (t:=.Window) (F:=Z7 fu) (XY fu) (clone0 (α:=D.Window) (Nat.le_trans hl (by decide)))
 have cL:∀l:List D.Layer,l.length≤1000000→QaA Tryz.prog 257 .Layer l:=fun l hl=>Wr (t:=.Layer) (F:=Y4 fu) (UL fu) (clone0 (α:=D.Layer) (Nat.le_trans hl (by decide)))
 have cE:∀l:List D.Edit,l.length≤1000000→QaA Tryz.prog 221 .Edit l:=fun l hl=>Wr (t:=.Edit) (F:=Xr fu) (U2 fu) (clone0 (α:=D.Edit) (Nat.le_trans hl (by decide)))
 have cI:∀l:List Int,l.length≤1000000→QaA Tryz.prog 130 .int l:=fun l hl=>Wr (t:=.int) (F:=Qy fu) (Q4 fu) (clone0 (α:=Int) (Nat.le_trans hl (by decide)))
 refine Spec.intro Tryz.func266 rfl (by kernel_rfl) ?_
 intro Γ hGn hGk
 replace hGn:Γ.n=_:=hGn
 replace hGk:Γ.names=[]:=hGk
 refine AWp.xa hGn hGk 2 [(1,.ref 1001 0),(2,.ref 1002 0)] [(1001,.box (cfgA z p1 p2 p3 p4 na nb la lb ea eb)),(1002,box0)] ?_
 refine AWp.xd hGn hGk [.a,.a,clI 11 10 2011 .Zone [z],.a,.a,clI 14 13 2014 .Person [p1,p2,p3,p4],.a,.a,clI 17 16 2017 .Calendar [],.a,.a,clI 20 19 2020 .Schedule [⟨na,[la],ea⟩,⟨nb,[lb],eb⟩],.a,.a,.a,.a,.a,.a,.a,.a]
  ⟨Uz (cZ _ (by simp)) rfl rfl rfl rfl rfl (by kernel_rfl),Uz (cP _ (by simp)) rfl rfl rfl rfl rfl (by kernel_rfl),Uz (cC _ (by simp)) rfl rfl rfl rfl rfl (by kernel_rfl),Uz (cS _ (by simp)) rfl rfl rfl rfl rfl (by kernel_rfl),trivial⟩
  [(1,.ref 1001 0),(2,.ref 1002 0)] [(2011,.arr 3 [D.Zone.cells z]),(2014,.arr 6 [D.Person.cells p1,D.Person.cells p2,D.Person.cells p3,D.Person.cells p4]),(2017,.arr 3 []),(2020,.arr 3 [schR na la ea,schR nb lb eb]),(1001,boxC),(1002,box0)] ?_
 let hZ:Name×AO:=(2011,.arr 3 [D.Zone.cells z])
 let hP:Name×AO:=(2014,.arr 6 [D.Person.cells p1,D.Person.cells p2,D.Person.cells p3,D.Person.cells p4])
 let hC:Name×AO:=(2017,.arr 3 [])
 let hS:Name×AO:=(2020,.arr 3 [schR na la ea,schR nb lb eb])
 let hB:Name×AO:=(1001,boxC)
 let hO:Name×AO:=(1002,box0)
 let a1:Nat×AV:=(1,.ref 1001 0)
 let a2:Nat×AV:=(2,.ref 1002 0)
 let o1:Name×AO:=(2098,.arr 10 [D.Layer.cells lb])
 let o2:Name×AO:=(3000,.arr 5 (ea.map (tcells .Edit)))
 let o3:Name×AO:=(3001,.arr 5 (eb.map (tcells .Edit)))
 let o4:Name×AO:=(2143,.arr 2 (la.Windows.map (tcells .Window)))
 let o5:Name×AO:=(2143,.arr 2 (lb.Windows.map (tcells .Window)))
 let o6:Value→Name×AO:=fun x0=>(3100,.fact (own 3000 (ea.map (tcells .Edit)).length) x0)
 let o7:Value→Name×AO:=fun x1=>(3101,.fact (own 3001 (eb.map (tcells .Edit)).length) x1)
 let o8:Value→Name×AO:=fun x0=>(2020,.arr 3 [[.v (.string na),.sl false 10 [D.Layer.cells la],.v x0],schR nb lb eb])
 let o9:Value→Name×AO:=fun x0=>(2020,.hole 3 [] [.p (.v (.string na)),sl0 10 [D.Layer.cells la],.p (.v x0)] [schR nb lb eb])
 let o10:Name×AO:=(2020,.hole 3 [] [.p (.v (.string na)),own 2098 1,own 3000 (ea.map (tcells .Edit)).length] [schR nb lb eb])
 let o11:Value→Value→Name×AO:=fun x0 x1=>(2020,.arr 3 [[.v (.string na),.sl false 10 [D.Layer.cells la],.v x0],[.v (.string nb),.sl false 10 [D.Layer.cells lb],.v x1]])
 let o12:Value→Value→Name×AO:=fun x0 x1=>(2020,.hole 3 [[.v (.string na),.sl false 10 [D.Layer.cells la],.v x0]] [.p (.v (.string nb)),sl0 10 [D.Layer.cells lb],.p (.v x1)] [])
 let o13:Value→Name×AO:=fun x0=>(2020,.hole 3 [[.v (.string na),.sl false 10 [D.Layer.cells la],.v x0]] [.p (.v (.string nb)),own 2098 1,own 3001 (eb.map (tcells .Edit)).length] [])
 let s1:List (Nat×AV):=[a1,a2,(84,vI 2),(85,vI 0),(7,.aref 2020 2 0 0)]
 let s2:List (Nat×AV):=[a1,a2,(84,vI 2),(85,vI 1),(7,.aref 2020 2 1 0)]
 let s3:List (Name×AO):=[(2020,.arr 3 [schR na la ea,schR nb lb eb]),hZ,hP,hC,hB,hO]
 let s4:List (Nat×AV):=[a1,a2,(84,vI 2),(85,vI 0),(7,.aref 2020 2 0 0),(112,vI 1),(113,vI 0)]
 let s5:List (Nat×AV):=[a1,a2,(84,vI 2),(85,vI 1),(7,.aref 2020 2 1 0),(112,vI 1),(113,vI 0)]
 let s6:List (Name×AO):=[(2098,.arr 10 [D.Layer.cells la]),o10,hZ,hP,hC,hB,hO,o2]
 refine AWp.seq (AWp.seq ?_)
 refine AWp.xa' hGn hGk 4 [a1,a2,(27,vI 1),(28,vI 0)] [hZ,hP,hC,hS,hB,hO] ?_
 refine Qg (AWp.block ?_)
 refine AWp.loop (fun m s=>∃i:Nat,i+m=1∧s=mk [a1,a2,(27,vI 1),(28,vI (i:Int))] [hZ,hP,hC,hS,hB,hO]) ⟨1,0,rfl,rfl⟩ ?_
 rintro m s ⟨i,hi,rfl⟩
 have hc:i=0∨i=1:=by omega
 rcases hc with rfl|rfl
 ·skip
  refine AWp.xa hGn hGk 1 [a1,a2,(27,vI 1),(28,vI 0),(29,vB true)] [hZ,hP,hC,hS,hB,hO] ?_
  refine AWp.seq (AWp.cond_true rfl (AWp.skip (Qg ?_)))
  refine AWp.seq (AWp.block ?_)
  refine AWp.xa hGn hGk 2 [a1,a2,(27,vI 1),(28,vI 0),(3,vI 0)] [hZ,hP,hC,hS,hB,hO] ?_
  refine AWp.foc [] [] (D.Zone.cells z) rfl ?_
  refine AWp.xd' hGn hGk (sk 9 (clI 40 39 2040 .YearRule z.Rules::aa 3)) (.sk (.m (Uz (cY _ h.rules) rfl rfl rfl rfl rfl (by kernel_rfl)) (Man.aa _ _)))
   [a1,a2,(27,vI 1),(28,vI 0)] [(2040,.arr 7 (z.Rules.map (tcells .YearRule))),(2011,.hole 3 [] [.p (.v (.string z.Name)),.p (.v (.int .i64 z.Offset)),own 2040 (z.Rules.map (tcells .YearRule)).length] []),hP,hC,hS,hB,hO] ?_
  refine Yx (Qg ?_)
  refine AWp.frz hGk rfl (.hole (.cons (.same rfl) (.cons (.same rfl) (.cons .own .nil)))) ?_
  refine AWp.unf (D.Zone.cells z) rfl ?_
  refine AWp.xa' hGn hGk 2 [a1,a2,(27,vI 1),(28,vI 1)] [hZ,hP,hC,hS,hB,hO] ?_
  exact Qg ⟨0,by omega,1,rfl,rfl⟩
 refine AWp.xa hGn hGk 1 [a1,a2,(29,vB false)] [hZ,hP,hC,hS,hB,hO] ?_
 refine AWp.seq (AWp.cond_false rfl (AWp.exit ?_))
 refine YY (YY (Ua (Qg ?_)))
 refine AWp.seq (AWp.seq ?_)
 refine AWp.xa' hGn hGk 4 [a1,a2,(46,vI 4),(47,vI 0)] [hP,hZ,hC,hS,hB,hO] ?_
 refine Qg (AWp.block ?_)
 refine AWp.loop (fun m s=>∃i:Nat,i+m=4∧s=mk [a1,a2,(46,vI 4),(47,vI (i:Int))] [hP,hZ,hC,hS,hB,hO]) ⟨4,0,rfl,rfl⟩ ?_
 rintro m s ⟨i,hi,rfl⟩
 have hc:i=0∨i=1∨i=2∨i=3∨i=4:=by omega
 rcases hc with rfl|rfl|rfl|rfl|rfl
 ·skip
  refine AWp.xa hGn hGk 1 [a1,a2,(46,vI 4),(47,vI 0),(48,vB true)] [hP,hZ,hC,hS,hB,hO] ?_
  refine AWp.seq (AWp.cond_true rfl (AWp.skip (Qg ?_)))
  refine AWp.seq (AWp.block ?_)
  refine AWp.xa hGn hGk 2 [a1,a2,(46,vI 4),(47,vI 0),(4,vI 0)] [hP,hZ,hC,hS,hB,hO] ?_
  refine AWp.foc [] [D.Person.cells p2,D.Person.cells p3,D.Person.cells p4] (D.Person.cells p1) rfl ?_
  refine AWp.xd' hGn hGk (sk 9 (clI 59 58 2059 .Window p1.Quiet::aa 3)) (.sk (.m (Uz (cW _ (h.quiet _ (by simp))) rfl rfl rfl rfl rfl (by kernel_rfl)) (Man.aa _ _)))
   [a1,a2,(46,vI 4),(47,vI 0)] [(2059,.arr 2 (p1.Quiet.map (tcells .Window))),(2014,.hole 6 [] [.p (.v (.string p1.Name)),.p (.v (.int .i64 p1.Zone)),own 2059 (p1.Quiet.map (tcells .Window)).length,.p (.v (.int .i64 p1.MaxWeek)),.p (.v (.int .i64 p1.MinRest)),.p (.v (.bool p1.Consent))] [D.Person.cells p2,D.Person.cells p3,D.Person.cells p4]),hZ,hC,hS,hB,hO] ?_
  refine Yx (Qg ?_)
  refine AWp.frz hGk rfl (.hole (.cons (.same rfl) (.cons (.same rfl) (.cons .own (.cons (.same rfl) (.cons (.same rfl) (.cons (.same rfl) .nil))))))) ?_
  refine AWp.unf (D.Person.cells p1) rfl ?_
  refine AWp.xa' hGn hGk 2 [a1,a2,(46,vI 4),(47,vI 1)] [hP,hZ,hC,hS,hB,hO] ?_
  exact Qg ⟨3,by omega,1,rfl,rfl⟩
 ·skip
  refine AWp.xa hGn hGk 1 [a1,a2,(46,vI 4),(47,vI 1),(48,vB true)] [hP,hZ,hC,hS,hB,hO] ?_
  refine AWp.seq (AWp.cond_true rfl (AWp.skip (Qg ?_)))
  refine AWp.seq (AWp.block ?_)
  refine AWp.xa hGn hGk 2 [a1,a2,(46,vI 4),(47,vI 1),(4,vI 1)] [hP,hZ,hC,hS,hB,hO] ?_
  refine AWp.foc [D.Person.cells p1] [D.Person.cells p3,D.Person.cells p4] (D.Person.cells p2) rfl ?_
  refine AWp.xd' hGn hGk (sk 9 (clI 59 58 2059 .Window p2.Quiet::aa 3)) (.sk (.m (Uz (cW _ (h.quiet _ (by simp))) rfl rfl rfl rfl rfl (by kernel_rfl)) (Man.aa _ _)))
   [a1,a2,(46,vI 4),(47,vI 1)] [(2059,.arr 2 (p2.Quiet.map (tcells .Window))),(2014,.hole 6 [D.Person.cells p1] [.p (.v (.string p2.Name)),.p (.v (.int .i64 p2.Zone)),own 2059 (p2.Quiet.map (tcells .Window)).length,.p (.v (.int .i64 p2.MaxWeek)),.p (.v (.int .i64 p2.MinRest)),.p (.v (.bool p2.Consent))] [D.Person.cells p3,D.Person.cells p4]),hZ,hC,hS,hB,hO] ?_
  refine Yx (Qg ?_)
  refine AWp.frz hGk rfl (.hole (.cons (.same rfl) (.cons (.same rfl) (.cons .own (.cons (.same rfl) (.cons (.same rfl) (.cons (.same rfl) .nil))))))) ?_
  refine AWp.unf (D.Person.cells p2) rfl ?_
  refine AWp.xa' hGn hGk 2 [a1,a2,(46,vI 4),(47,vI 2)] [hP,hZ,hC,hS,hB,hO] ?_
  exact Qg ⟨2,by omega,2,rfl,rfl⟩
 ·skip
  refine AWp.xa hGn hGk 1 [a1,a2,(46,vI 4),(47,vI 2),(48,vB true)] [hP,hZ,hC,hS,hB,hO] ?_
  refine AWp.seq (AWp.cond_true rfl (AWp.skip (Qg ?_)))
  refine AWp.seq (AWp.block ?_)
  refine AWp.xa hGn hGk 2 [a1,a2,(46,vI 4),(47,vI 2),(4,vI 2)] [hP,hZ,hC,hS,hB,hO] ?_
  refine AWp.foc [D.Person.cells p1,D.Person.cells p2] [D.Person.cells p4] (D.Person.cells p3) rfl ?_
  refine AWp.xd' hGn hGk (sk 9 (clI 59 58 2059 .Window p3.Quiet::aa 3)) (.sk (.m (Uz (cW _ (h.quiet _ (by simp))) rfl rfl rfl rfl rfl (by kernel_rfl)) (Man.aa _ _)))
   [a1,a2,(46,vI 4),(47,vI 2)] [(2059,.arr 2 (p3.Quiet.map (tcells .Window))),(2014,.hole 6 [D.Person.cells p1,D.Person.cells p2] [.p (.v (.string p3.Name)),.p (.v (.int .i64 p3.Zone)),own 2059 (p3.Quiet.map (tcells .Window)).length,.p (.v (.int .i64 p3.MaxWeek)),.p (.v (.int .i64 p3.MinRest)),.p (.v (.bool p3.Consent))] [D.Person.cells p4]),hZ,hC,hS,hB,hO] ?_
  refine Yx (Qg ?_)
  refine AWp.frz hGk rfl (.hole (.cons (.same rfl) (.cons (.same rfl) (.cons .own (.cons (.same rfl) (.cons (.same rfl) (.cons (.same rfl) .nil))))))) ?_
  refine AWp.unf (D.Person.cells p3) rfl ?_
  refine AWp.xa' hGn hGk 2 [a1,a2,(46,vI 4),(47,vI 3)] [hP,hZ,hC,hS,hB,hO] ?_
  exact Qg ⟨1,by omega,3,rfl,rfl⟩
 ·skip
  refine AWp.xa hGn hGk 1 [a1,a2,(46,vI 4),(47,vI 3),(48,vB true)] [hP,hZ,hC,hS,hB,hO] ?_
  refine AWp.seq (AWp.cond_true rfl (AWp.skip (Qg ?_)))
  refine AWp.seq (AWp.block ?_)
  refine AWp.xa hGn hGk 2 [a1,a2,(46,vI 4),(47,vI 3),(4,vI 3)] [hP,hZ,hC,hS,hB,hO] ?_
  refine AWp.foc [D.Person.cells p1,D.Person.cells p2,D.Person.cells p3] [] (D.Person.cells p4) rfl ?_
  refine AWp.xd' hGn hGk (sk 9 (clI 59 58 2059 .Window p4.Quiet::aa 3)) (.sk (.m (Uz (cW _ (h.quiet _ (by simp))) rfl rfl rfl rfl rfl (by kernel_rfl)) (Man.aa _ _)))
   [a1,a2,(46,vI 4),(47,vI 3)] [(2059,.arr 2 (p4.Quiet.map (tcells .Window))),(2014,.hole 6 [D.Person.cells p1,D.Person.cells p2,D.Person.cells p3] [.p (.v (.string p4.Name)),.p (.v (.int .i64 p4.Zone)),own 2059 (p4.Quiet.map (tcells .Window)).length,.p (.v (.int .i64 p4.MaxWeek)),.p (.v (.int .i64 p4.MinRest)),.p (.v (.bool p4.Consent))] []),hZ,hC,hS,hB,hO] ?_
  refine Yx (Qg ?_)
  refine AWp.frz hGk rfl (.hole (.cons (.same rfl) (.cons (.same rfl) (.cons .own (.cons (.same rfl) (.cons (.same rfl) (.cons (.same rfl) .nil))))))) ?_
  refine AWp.unf (D.Person.cells p4) rfl ?_
  refine AWp.xa' hGn hGk 2 [a1,a2,(46,vI 4),(47,vI 4)] [hP,hZ,hC,hS,hB,hO] ?_
  exact Qg ⟨0,by omega,4,rfl,rfl⟩
 refine AWp.xa hGn hGk 1 [a1,a2,(48,vB false)] [hP,hZ,hC,hS,hB,hO] ?_
 refine AWp.seq (AWp.cond_false rfl (AWp.exit ?_))
 refine YY (YY (Ua (Qg ?_)))
 refine AWp.seq (AWp.seq ?_)
 refine AWp.xa' hGn hGk 4 [a1,a2,(65,vI 0),(66,vI 0)] [hZ,hP,hC,hS,hB,hO] ?_
 refine Qg (AWp.block ?_)
 refine AWp.loop (fun m s=>∃i:Nat,i+m=0∧s=mk [a1,a2,(65,vI 0),(66,vI (i:Int))] [hZ,hP,hC,hS,hB,hO]) ⟨0,0,rfl,rfl⟩ ?_
 rintro m s ⟨i,hi,rfl⟩
 obtain rfl:i=0:=by omega
 refine AWp.xa hGn hGk 1 [a1,a2,(67,vB false)] [hZ,hP,hC,hS,hB,hO] ?_
 refine AWp.seq (AWp.cond_false rfl (AWp.exit ?_))
 refine YY (YY (Ua (Qg ?_)))
 refine AWp.seq (AWp.seq ?_)
 refine AWp.xa' hGn hGk 4 [a1,a2,(84,vI 2),(85,vI 0)] s3 ?_
 refine Qg (AWp.block ?_)
 refine AWp.loop (fun m s=>(m=2∧s=mk [a1,a2,(84,vI 2),(85,vI 0)] s3)∨(∃x0:Value,m=1∧s=mk [a1,a2,(84,vI 2),(85,vI 1)] [(o8 x0),hZ,hP,hC,hB,hO,(o6 x0),o2])∨(∃x0 x1:Value,m=0∧s=mk [a1,a2,(84,vI 2),(85,vI 2)] [(o11 x0 x1),hZ,hP,hC,hB,hO,(o6 x0),o2,(o7 x1),o3])) ⟨2,.inl ⟨rfl,rfl⟩⟩ ?_
 rintro m s (⟨rfl,rfl⟩|⟨x0,rfl,rfl⟩|⟨x0,x1,rfl,rfl⟩)
 ·skip
  refine AWp.xa hGn hGk 1 [a1,a2,(84,vI 2),(85,vI 0),(86,vB true)] s3 ?_
  refine AWp.seq (AWp.cond_true rfl (AWp.skip (Qg ?_)))
  refine AWp.seq (AWp.block ?_)
  refine AWp.xa hGn hGk 2 [a1,a2,(84,vI 2),(85,vI 0),(6,vI 0)] s3 ?_
  refine AWp.foc [] [schR nb lb eb] (schR na la ea) rfl ?_
  refine AWp.xa hGn hGk 5 s1 [(2020,.hole 3 [] [.p (.v (.string na)),sl0 10 [D.Layer.cells la],sl0 5 (ea.map D.Edit.cells)] [schR nb lb eb]),hZ,hP,hC,hB,hO] ?_
  refine AWp.xd hGn hGk (sk 6 (clI 98 97 2098 .Layer [la]::sk 4 (clI 103 102 3000 .Edit ea::aa 6))) (.sk (.m (Uz (cL _ (by simp)) rfl rfl rfl rfl rfl (by kernel_rfl)) (.sk (.m (Uz (cE _ h.ea) rfl rfl rfl rfl rfl (by kernel_rfl)) (Man.aa _ _)))))
   s1 s6 ?_
  refine AWp.xa hGn hGk 6 s4 s6 ?_
  refine AWp.block ?_
  refine AWp.loop (fun m s=>∃j:Nat,j+m=1∧s=mk [a1,a2,(84,vI 2),(85,vI 0),(7,.aref 2020 2 0 0),(112,vI 1),(113,vI (j:Int))] s6) ⟨1,0,rfl,rfl⟩ ?_
  rintro m s ⟨j,hj,rfl⟩
  have hc:j=0∨j=1:=by omega
  rcases hc with rfl|rfl
  ·skip
   refine AWp.xa hGn hGk 1 [a1,a2,(84,vI 2),(85,vI 0),(7,.aref 2020 2 0 0),(112,vI 1),(113,vI 0),(114,vB true)] s6 ?_
   refine AWp.seq (AWp.cond_true rfl (AWp.skip (Qg ?_)))
   refine AWp.seq (AWp.block ?_)
   refine AWp.xa hGn hGk 2 [a1,a2,(84,vI 2),(85,vI 0),(7,.aref 2020 2 0 0),(112,vI 1),(113,vI 0),(8,vI 0)] s6 ?_
   refine AWp.foc [] [] (D.Layer.cells la) rfl ?_
   refine AWp.xd' hGn hGk (sk 18 (clI 134 133 2134 .int la.Members::sk 8 (clI 143 142 2143 .Window la.Windows::aa 6))) (.sk (.m (Uz (cI _ h.lam) rfl rfl rfl rfl rfl (by kernel_rfl)) (.sk (.m (Uz (cW _ h.law) rfl rfl rfl rfl rfl (by kernel_rfl)) (Man.aa _ _)))))
    s4 [(2134,.arr 1 (la.Members.map (tcells .int))),(2098,.hole 10 [] [.p (.v (.string la.Name)),.p (.v (.int .i64 la.Zone)),.p (.v (.int .i64 la.Start.Day)),.p (.v (.int .i64 la.Start.Second)),.p (.v (.int .i64 la.Unit)),.p (.v (.int .i64 la.Every)),own 2134 (la.Members.map (tcells .int)).length,own 2143 (la.Windows.map (tcells .Window)).length,.p (.v (.int .i64 la.Calendar)),.p (.v (.int .i64 la.Mode))] []),o4,o10,hZ,hP,hC,hB,hO,o2] ?_
   refine Yx (Qg ?_)
   refine AWp.frz hGk rfl (.hole (.cons (.same rfl) (.cons (.same rfl) (.cons (.same rfl) (.cons (.same rfl) (.cons (.same rfl) (.cons (.same rfl) (.cons .own (.cons (.same rfl) (.cons (.same rfl) (.cons (.same rfl) (.nil)))))))))))) ?_
   refine AWp.weaken (mk s4 [o4,(2098,.hole 10 [] [.p (.v (.string la.Name)),.p (.v (.int .i64 la.Zone)),.p (.v (.int .i64 la.Start.Day)),.p (.v (.int .i64 la.Start.Second)),.p (.v (.int .i64 la.Unit)),.p (.v (.int .i64 la.Every)),sl0 1 (la.Members.map (tcells .int)),own 2143 (la.Windows.map (tcells .Window)).length,.p (.v (.int .i64 la.Calendar)),.p (.v (.int .i64 la.Mode))] []),o10,hZ,hP,hC,hB,hO,o2]) (Weak.sub' hGk (by kernel_rfl)) ?_
   refine AWp.frz hGk rfl (.hole (.cons (.same rfl) (.cons (.same rfl) (.cons (.same rfl) (.cons (.same rfl) (.cons (.same rfl) (.cons (.same rfl) (.cons (.same rfl) (.cons .own (.cons (.same rfl) (.cons (.same rfl) (.nil)))))))))))) ?_
   refine AWp.unf (D.Layer.cells la) rfl ?_
   refine AWp.xa' hGn hGk 2 [a1,a2,(84,vI 2),(85,vI 0),(7,.aref 2020 2 0 0),(112,vI 1),(113,vI 1)] s6 ?_
   exact Qg ⟨0,by omega,1,rfl,rfl⟩
  refine AWp.xa hGn hGk 1 [a1,a2,(84,vI 2),(85,vI 0),(114,vB false)] s6 ?_
  refine AWp.seq (AWp.cond_false rfl (AWp.exit ?_))
  refine YY (YY (Ua (Yx (Qg ?_))))
  refine AWp.frz hGk rfl (.hole (.cons (.same rfl) (.cons .own (.cons (.same rfl) .nil)))) ?_
  refine AWp.nameH (n:=3000) (n0:=3100) 2020 2 (by rw[hGk];exact List.not_mem_nil) rfl rfl (by decide) rfl rfl (fun x0=>?_)
  refine AWp.pinH rfl rfl rfl (.cons (.same _) (.cons (.same _) (.cons .pin .nil))) ?_
  refine AWp.weaken (mk [a1,a2,(84,vI 2),(85,vI 0)] [(o9 x0),hZ,hP,hC,hB,hO,o2,(o6 x0)]) (Weak.sub' hGk (by kernel_rfl)) ?_
  refine AWp.unf [.v (.string na),.sl false 10 [D.Layer.cells la],.v x0] rfl ?_
  refine AWp.xa' hGn hGk 2 [a1,a2,(84,vI 2),(85,vI 1)] [(o8 x0),hZ,hP,hC,hB,hO,(o6 x0),o2] ?_
  exact Qg ⟨1,by omega,.inr (.inl ⟨x0,rfl,rfl⟩)⟩
 ·skip
  refine AWp.xa hGn hGk 1 [a1,a2,(84,vI 2),(85,vI 1),(86,vB true)] [(o8 x0),hZ,hP,hC,hB,hO,(o6 x0),o2] ?_
  refine AWp.seq (AWp.cond_true rfl (AWp.skip (Qg ?_)))
  refine AWp.seq (AWp.block ?_)
  refine AWp.xa hGn hGk 2 [a1,a2,(84,vI 2),(85,vI 1),(6,vI 1)] [(o8 x0),hZ,hP,hC,hB,hO,(o6 x0),o2] ?_
  refine AWp.foc [[.v (.string na),.sl false 10 [D.Layer.cells la],.v x0]] [] (schR nb lb eb) rfl ?_
  refine AWp.xa hGn hGk 5 s2 [(2020,.hole 3 [[.v (.string na),.sl false 10 [D.Layer.cells la],.v x0]] [.p (.v (.string nb)),sl0 10 [D.Layer.cells lb],sl0 5 (eb.map D.Edit.cells)] []),hZ,hP,hC,hB,hO,(o6 x0),o2] ?_
  refine AWp.xd hGn hGk (sk 6 (clI 98 97 2098 .Layer [lb]::sk 4 (clI 103 102 3001 .Edit eb::aa 6))) (.sk (.m (Uz (cL _ (by simp)) rfl rfl rfl rfl rfl (by kernel_rfl)) (.sk (.m (Uz (cE _ h.eb) rfl rfl rfl rfl rfl (by kernel_rfl)) (Man.aa _ _)))))
   s2 [o1,(o13 x0),hZ,hP,hC,hB,hO,(o6 x0),o2,o3] ?_
  refine AWp.xa hGn hGk 6 s5 [o1,(o13 x0),hZ,hP,hC,hB,hO,(o6 x0),o2,o3] ?_
  refine AWp.block ?_
  refine AWp.loop (fun m s=>∃j:Nat,j+m=1∧s=mk [a1,a2,(84,vI 2),(85,vI 1),(7,.aref 2020 2 1 0),(112,vI 1),(113,vI (j:Int))] [o1,(o13 x0),hZ,hP,hC,hB,hO,(o6 x0),o2,o3]) ⟨1,0,rfl,rfl⟩ ?_
  rintro m s ⟨j,hj,rfl⟩
  have hc:j=0∨j=1:=by omega
  rcases hc with rfl|rfl
  ·skip
   refine AWp.xa hGn hGk 1 [a1,a2,(84,vI 2),(85,vI 1),(7,.aref 2020 2 1 0),(112,vI 1),(113,vI 0),(114,vB true)] [o1,(o13 x0),hZ,hP,hC,hB,hO,(o6 x0),o2,o3] ?_
   refine AWp.seq (AWp.cond_true rfl (AWp.skip (Qg ?_)))
   refine AWp.seq (AWp.block ?_)
   refine AWp.xa hGn hGk 2 [a1,a2,(84,vI 2),(85,vI 1),(7,.aref 2020 2 1 0),(112,vI 1),(113,vI 0),(8,vI 0)] [o1,(o13 x0),hZ,hP,hC,hB,hO,(o6 x0),o2,o3] ?_
   refine AWp.foc [] [] (D.Layer.cells lb) rfl ?_
   refine AWp.xd' hGn hGk (sk 18 (clI 134 133 2134 .int lb.Members::sk 8 (clI 143 142 2143 .Window lb.Windows::aa 6))) (.sk (.m (Uz (cI _ h.lbm) rfl rfl rfl rfl rfl (by kernel_rfl)) (.sk (.m (Uz (cW _ h.lbw) rfl rfl rfl rfl rfl (by kernel_rfl)) (Man.aa _ _)))))
    s5 [(2134,.arr 1 (lb.Members.map (tcells .int))),(2098,.hole 10 [] [.p (.v (.string lb.Name)),.p (.v (.int .i64 lb.Zone)),.p (.v (.int .i64 lb.Start.Day)),.p (.v (.int .i64 lb.Start.Second)),.p (.v (.int .i64 lb.Unit)),.p (.v (.int .i64 lb.Every)),own 2134 (lb.Members.map (tcells .int)).length,own 2143 (lb.Windows.map (tcells .Window)).length,.p (.v (.int .i64 lb.Calendar)),.p (.v (.int .i64 lb.Mode))] []),o5,(o13 x0),hZ,hP,hC,hB,hO,(o6 x0),o2,o3] ?_
   refine Yx (Qg ?_)
   refine AWp.frz hGk rfl (.hole (.cons (.same rfl) (.cons (.same rfl) (.cons (.same rfl) (.cons (.same rfl) (.cons (.same rfl) (.cons (.same rfl) (.cons .own (.cons (.same rfl) (.cons (.same rfl) (.cons (.same rfl) (.nil)))))))))))) ?_
   refine AWp.weaken (mk s5 [o5,(2098,.hole 10 [] [.p (.v (.string lb.Name)),.p (.v (.int .i64 lb.Zone)),.p (.v (.int .i64 lb.Start.Day)),.p (.v (.int .i64 lb.Start.Second)),.p (.v (.int .i64 lb.Unit)),.p (.v (.int .i64 lb.Every)),sl0 1 (lb.Members.map (tcells .int)),own 2143 (lb.Windows.map (tcells .Window)).length,.p (.v (.int .i64 lb.Calendar)),.p (.v (.int .i64 lb.Mode))] []),(o13 x0),hZ,hP,hC,hB,hO,(o6 x0),o2,o3]) (Weak.sub' hGk (by kernel_rfl)) ?_
   refine AWp.frz hGk rfl (.hole (.cons (.same rfl) (.cons (.same rfl) (.cons (.same rfl) (.cons (.same rfl) (.cons (.same rfl) (.cons (.same rfl) (.cons (.same rfl) (.cons .own (.cons (.same rfl) (.cons (.same rfl) (.nil)))))))))))) ?_
   refine AWp.unf (D.Layer.cells lb) rfl ?_
   refine AWp.xa' hGn hGk 2 [a1,a2,(84,vI 2),(85,vI 1),(7,.aref 2020 2 1 0),(112,vI 1),(113,vI 1)] [o1,(o13 x0),hZ,hP,hC,hB,hO,(o6 x0),o2,o3] ?_
   exact Qg ⟨0,by omega,1,rfl,rfl⟩
  refine AWp.xa hGn hGk 1 [a1,a2,(84,vI 2),(85,vI 1),(114,vB false)] [o1,(o13 x0),hZ,hP,hC,hB,hO,(o6 x0),o2,o3] ?_
  refine AWp.seq (AWp.cond_false rfl (AWp.exit ?_))
  refine YY (YY (Ua (Yx (Qg ?_))))
  refine AWp.frz hGk rfl (.hole (.cons (.same rfl) (.cons .own (.cons (.same rfl) .nil)))) ?_
  refine AWp.nameH (n:=3001) (n0:=3101) 2020 2 (by rw[hGk];exact List.not_mem_nil) rfl rfl (by decide) rfl rfl (fun x1=>?_)
  refine AWp.pinH rfl rfl rfl (.cons (.same _) (.cons (.same _) (.cons .pin .nil))) ?_
  refine AWp.weaken (mk [a1,a2,(84,vI 2),(85,vI 1)] [(o12 x0 x1),hZ,hP,hC,hB,hO,(o6 x0),o2,o3,(o7 x1)]) (Weak.sub' hGk (by kernel_rfl)) ?_
  refine AWp.unf [.v (.string nb),.sl false 10 [D.Layer.cells lb],.v x1] rfl ?_
  refine AWp.xa' hGn hGk 2 [a1,a2,(84,vI 2),(85,vI 2)] [(o11 x0 x1),hZ,hP,hC,hB,hO,(o6 x0),o2,(o7 x1),o3] ?_
  exact Qg ⟨0,by omega,.inr (.inr ⟨x0,x1,rfl,rfl⟩)⟩
 refine AWp.xa hGn hGk 1 [a1,a2,(86,vB false)] [(o11 x0 x1),hZ,hP,hC,hB,hO,(o6 x0),o2,(o7 x1),o3] ?_
 refine AWp.seq (AWp.cond_false rfl (AWp.exit ?_))
 refine YY (YY (Ua (Qg ?_)))
 subst hh
 cases r
 ·skip
  refine AWp.weaken (mk [a1,a2] [(o11 x0 x1),hZ,hP,hC,hB,hO,(o6 x0),o2,(o7 x1),o3]) (Weak.sub' hGk (by kernel_rfl)) ?_
  refine AWp.foc [[.v (.string na),.sl false 10 [D.Layer.cells la],.v x0]] [] ([.v (.string nb),.sl false 10 [D.Layer.cells lb],.v x1]) rfl ?_
  refine AWp.weaken (mk [a1,a2] [o3,(o7 x1),(o12 x0 x1),hZ,hP,hC,hB,hO,(o6 x0),o2]) (Weak.sub' hGk (by kernel_rfl)) ?_
  refine AWp.frzP hGk rfl (.hole (.cons (.same rfl) (.cons (.same rfl) (.cons (.pin rfl) .nil)))) ?_
  refine AWp.unf (schR nb lb eb) rfl ?_
  refine AWp.foc [] [schR nb lb eb] ([.v (.string na),.sl false 10 [D.Layer.cells la],.v x0]) rfl ?_
  refine AWp.weaken (mk [a1,a2] [(o6 x0),(o9 x0),hZ,hP,hC,hB,hO,o2]) (Weak.sub' hGk (by kernel_rfl)) ?_
  refine AWp.pinH rfl rfl rfl (.cons (.same _) (.cons (.same _) (.cons .unpin .nil))) ?_
  refine AWp.xa hGn hGk 2 [a2] [(1002,boxC),hZ,hP,hC,(2020,.hole 3 [] [.p (.v (.string na)),sl0 10 [D.Layer.cells la],own 3000 (ea.map (tcells .Edit)).length] [schR nb lb eb]),o2] ?_
  refine AWp.ret (Qht (.inr rfl) (Res.agg rfl rfl rfl (by kernel_rfl) (by kernel_rfl)) rfl rfl ⟨rfl,rfl⟩)
 ·skip
  refine AWp.weaken (mk [a1,a2] [(o11 x0 x1),hZ,hP,hC,hB,hO,(o6 x0),o2,(o7 x1),o3]) (Weak.sub' hGk (by kernel_rfl)) ?_
  refine AWp.foc [] [[.v (.string nb),.sl false 10 [D.Layer.cells lb],.v x1]] ([.v (.string na),.sl false 10 [D.Layer.cells la],.v x0]) rfl ?_
  refine AWp.weaken (mk [a1,a2] [o2,(o6 x0),(2020,.hole 3 [] [.p (.v (.string na)),sl0 10 [D.Layer.cells la],.p (.v x0)] [[.v (.string nb),.sl false 10 [D.Layer.cells lb],.v x1]]),hZ,hP,hC,hB,hO,(o7 x1),o3]) (Weak.sub' hGk (by kernel_rfl)) ?_
  refine AWp.frzP hGk rfl (.hole (.cons (.same rfl) (.cons (.same rfl) (.cons (.pin rfl) .nil)))) ?_
  refine AWp.unf (schR na la ea) rfl ?_
  refine AWp.foc [schR na la ea] [] ([.v (.string nb),.sl false 10 [D.Layer.cells lb],.v x1]) rfl ?_
  refine AWp.weaken (mk [a1,a2] [(o7 x1),(2020,.hole 3 [schR na la ea] [.p (.v (.string nb)),sl0 10 [D.Layer.cells lb],.p (.v x1)] []),hZ,hP,hC,hB,hO,o3]) (Weak.sub' hGk (by kernel_rfl)) ?_
  refine AWp.pinH rfl rfl rfl (.cons (.same _) (.cons (.same _) (.cons .unpin .nil))) ?_
  refine AWp.xa hGn hGk 2 [a2] [(1002,boxC),hZ,hP,hC,(2020,.hole 3 [schR na la ea] [.p (.v (.string nb)),sl0 10 [D.Layer.cells lb],own 3001 (eb.map (tcells .Edit)).length] []),o3] ?_
  refine AWp.ret (Qht (.inr rfl) (Res.agg rfl rfl rfl (by kernel_rfl) (by kernel_rfl)) rfl rfl ⟨rfl,rfl⟩)
end
end
/-
  edit.Apply: its contract, for configurations of two schedules of one layer.
-/
noncomputable section
def cfg0:D.Config:={ Zones:=[],People:=[],Calendars:=[],Schedules:=[] }
def addE(c:D.Config)(a b:D.Schedule)(s:Int)(x:D.Edit):D.Config:=
 if s=0 then{ c with Schedules:=[{ a with Edits:=a.Edits++[x] },b] }else{ c with Schedules:=[a,{ b with Edits:=b.Edits++[x] }] }
open Classical in
def Ve(fu:Nat)(p0:D.Config)(p1:Int)(p2:D.Edit):Option (D.Config×Int):=
 match p0.Zones,p0.People,p0.Calendars,p0.Schedules with
 |[z],[q1,q2,q3,q4],[],[a,b]=>match a.Layers,b.Layers with
  |[la],[lb]=>if QkB fu z [q1,q2,q3,q4] la lb a.Edits b.Edits then
    optc (QX fu p0) fun e=>cnd (decide (e≠0)) none (cnd (decide (0≤p1∧p1<2))
     (optc (QX fu (addE p0 a b p1 p2)) fun e=>cnd (decide (e≠0)) none (some (addE p0 a b p1 p2,0))) (some (cfg0,3)))else none
  |_,_=>none
 |_,_,_,_=>none
def Qns(fu:Nat):Sig:=Qf [.st .Config,.one (.num .i64),.st .Edit] [] [.st .Config,.one (.num .i64)] [] [] (D.Config×Int) (fun q=>((q.1,q.2,()),())) (fun x y=>Ve fu x.1 x.2.1 x.2.2.1)
section
variable {fu:Nat} {z:D.Zone} {p1 p2 p3 p4:D.Person} {na nb:ByteArray} {la lb:D.Layer} {ea eb:List D.Edit} {s e:Int} {x:D.Edit}
abbrev cfgD(z:D.Zone)(p1 p2 p3 p4:D.Person)(na nb:ByteArray)(la lb:D.Layer)(ea eb:List D.Edit):D.Config:=⟨[z],[p1,p2,p3,p4],[],[⟨na,[la],ea⟩,⟨nb,[lb],eb⟩]⟩
theorem Qh1(he:QX fu (cfgD z p1 p2 p3 p4 na nb la lb ea eb)=some e):XJ Tryz.prog 104 [.agg (cfgA z p1 p2 p3 p4 na nb la lb ea eb)] [] (vI e) []:=by
 obtain⟨L1,_,_,hs⟩:=(UU fu).spec (cfgD z p1 p2 p3 p4 na nb la lb ea eb,()) () (e,()) () (by show optc (QX fu _) _=_;rw[he];rfl) (fun _ _=>0) (fun n t l v hn=>by change AM.look n []=_ at hn;simp[AM.look]at hn)
 exact hs
theorem Qqj{q:Bool}(he:W9 fu (cfgD z p1 p2 p3 p4 na nb la lb ea eb) s=some q):XJ Tryz.prog 265 [.agg (cfgA z p1 p2 p3 p4 na nb la lb ea eb),vI s] [] (vB q) []:=by
 obtain⟨L1,_,_,hs⟩:=(Qe6 fu).spec (cfgD z p1 p2 p3 p4 na nb la lb ea eb,s,()) () (q,()) () (by show optc (W9 fu _ s) _=_;rw[he];rfl) (fun _ _=>0) (fun n t l v hn=>by change AM.look n []=_ at hn;simp[AM.look]at hn)
 exact hs
abbrev ownA:AV:=.agg [own 2011 1,own 2014 4,own 2017 0,own 2020 2]
abbrev Qly(z:D.Zone)(p1 p2 p3 p4:D.Person)(na nb:ByteArray)(la lb:D.Layer)(ea eb:List D.Edit)(r:Bool):List (Name×AO):=
 bif r then[(2011,.arr 3 [D.Zone.cells z]),(2014,.arr 6 [D.Person.cells p1,D.Person.cells p2,D.Person.cells p3,D.Person.cells p4]),(2017,.arr 3 []),(2020,.hole 3 [schR na la ea] [.p (.v (.string nb)),sl0 10 [D.Layer.cells lb],own 3001 (eb.map (tcells .Edit)).length] []),(3001,.arr 5 (eb.map (tcells .Edit)))]
   else[(2011,.arr 3 [D.Zone.cells z]),(2014,.arr 6 [D.Person.cells p1,D.Person.cells p2,D.Person.cells p3,D.Person.cells p4]),(2017,.arr 3 []),(2020,.hole 3 [] [.p (.v (.string na)),sl0 10 [D.Layer.cells la],own 3000 (ea.map (tcells .Edit)).length] [schR nb lb eb]),(3000,.arr 5 (ea.map (tcells .Edit)))]
abbrev newN(r:Bool):List Name:=bif r then[2011,2014,2017,2020,3001]else[2011,2014,2017,2020,3000]
theorem Qhs(h:QkB fu z [p1,p2,p3,p4] la lb ea eb)(hc:QX fu (cfgD z p1 p2 p3 p4 na nb la lb ea eb)=some 0)(r:Bool):
  XJ Tryz.prog 233 [.agg (cfgA z p1 p2 p3 p4 na nb la lb ea eb),vI (bif r then 1 else 0)] [] (.tup [ownA,vI 0]) (Qly z p1 p2 p3 p4 na nb la lb ea eb r):=by
 have hK:=Qnt (na:=na) (nb:=nb) h r _ rfl
 have hI:W9 fu (cfgD z p1 p2 p3 p4 na nb la lb ea eb) (bif r then 1 else 0)=some true:=by cases r<;>rfl
 refine Spec.intro Tryz.func233 rfl (by kernel_rfl) ?_
 intro Γ hGn hGk
 replace hGn:Γ.n=_:=hGn
 replace hGk:Γ.names=[]:=hGk
 let hA:Name×AO:=(1002,.box (cfgA z p1 p2 p3 p4 na nb la lb ea eb))
 refine AWp.xa hGn hGk 3 [(1,vI (bif r then 1 else 0)),(2,.ref 1002 0),(4,.ref 1004 0)] [hA,(1004,box0)] ?_
 refine AWp.seq ?_
 refine AWp.xr hGn hGk (sk 1 (.m (some 7) ⟨[(6,.agg (cfgA z p1 p2 p3 p4 na nb la lb ea eb))],[],vI 0,[],[]⟩::aa 1)) (.sk (.m (QiE (Qh1 hc) rfl rfl rfl rfl (by kernel_rfl) (by rfl) (by kernel_rfl)) (Man.aa _ _)))
  [(1,vI (bif r then 1 else 0)),(2,.ref 1002 0),(4,.ref 1004 0),(8,vB false)] [hA,(1004,box0)] ?_
 refine AWp.cond_false rfl (AWp.skip (Qg ?_))
 refine AWp.seq ?_
 refine AWp.xr hGn hGk (sk 2 (.m (some 12) ⟨[(10,.agg (cfgA z p1 p2 p3 p4 na nb la lb ea eb)),(11,vI (bif r then 1 else 0))],[],vB true,[],[]⟩::aa 1)) (.sk (.m (QiE (Qqj hI) rfl rfl rfl rfl (by kernel_rfl) (by rfl) (by kernel_rfl)) (Man.aa _ _)))
  [(2,.ref 1002 0),(4,.ref 1004 0),(13,vB false)] [hA,(1004,box0)] ?_
 refine AWp.cond_false rfl (AWp.skip (Qg ?_))
 cases r
 ·refine AWp.xr hGn hGk (sk 1 (.m (some 16) ⟨[(15,.agg (cfgA z p1 p2 p3 p4 na nb la lb ea eb))],[],ownA,Qly z p1 p2 p3 p4 na nb la lb ea eb false,newN false⟩::aa 2)) (.sk (.m (QiE hK rfl rfl rfl rfl (by kernel_rfl) (by rfl) (by kernel_rfl)) (Man.aa _ _)))
   [(4,.ref 1004 0),(5,vI 0)] ((1004,boxC)::Qly z p1 p2 p3 p4 na nb la lb ea eb false) ?_
  exact AWp.ret (Qht (.inr rfl) (Res.many rfl (.cons (Res1.agg rfl rfl (by kernel_rfl) (by kernel_rfl)) (.cons (Res1.tmp rfl) .nil))) rfl rfl ⟨rfl,rfl⟩)
 ·refine AWp.xr hGn hGk (sk 1 (.m (some 16) ⟨[(15,.agg (cfgA z p1 p2 p3 p4 na nb la lb ea eb))],[],ownA,Qly z p1 p2 p3 p4 na nb la lb ea eb true,newN true⟩::aa 2)) (.sk (.m (QiE hK rfl rfl rfl rfl (by kernel_rfl) (by rfl) (by kernel_rfl)) (Man.aa _ _)))
   [(4,.ref 1004 0),(5,vI 0)] ((1004,boxC)::Qly z p1 p2 p3 p4 na nb la lb ea eb true) ?_
  exact AWp.ret (Qht (.inr rfl) (Res.many rfl (.cons (Res1.agg rfl rfl (by kernel_rfl) (by kernel_rfl)) (.cons (Res1.tmp rfl) .nil))) rfl rfl ⟨rfl,rfl⟩)
theorem Qnv(hc:QX fu (cfgD z p1 p2 p3 p4 na nb la lb ea eb)=some 0)(hs:¬(0≤s∧s<2)):
  XJ Tryz.prog 233 [.agg (cfgA z p1 p2 p3 p4 na nb la lb ea eb),vI s] [] (.tup [.agg [nl,nl,nl,nl],vI 3]) []:=by
 have hI:W9 fu (cfgD z p1 p2 p3 p4 na nb la lb ea eb) s=some false:=by
  show cnd (decide (0≤s)) (cnd (decide (s<((2:Nat):Int))) (some true) (some false)) (some false)=some false
  by_cases h0:0≤s
  ·have h1:¬s<((2:Nat):Int):=by omega
   rw[decide_eq_true h0,decide_eq_false h1];rfl
  ·rw[decide_eq_false h0];rfl
 refine Spec.intro Tryz.func233 rfl (by kernel_rfl) ?_
 intro Γ hGn hGk
 replace hGn:Γ.n=_:=hGn
 replace hGk:Γ.names=[]:=hGk
 let hA:Name×AO:=(1002,.box (cfgA z p1 p2 p3 p4 na nb la lb ea eb))
 refine AWp.xa hGn hGk 3 [(1,vI s),(2,.ref 1002 0),(4,.ref 1004 0)] [hA,(1004,box0)] ?_
 refine AWp.seq ?_
 refine AWp.xr hGn hGk (sk 1 (.m (some 7) ⟨[(6,.agg (cfgA z p1 p2 p3 p4 na nb la lb ea eb))],[],vI 0,[],[]⟩::aa 1)) (.sk (.m (QiE (Qh1 hc) rfl rfl rfl rfl (by kernel_rfl) (by rfl) (by kernel_rfl)) (Man.aa _ _)))
  [(1,vI s),(2,.ref 1002 0),(4,.ref 1004 0),(8,vB false)] [hA,(1004,box0)] ?_
 refine AWp.cond_false rfl (AWp.skip (Qg ?_))
 refine AWp.seq ?_
 refine AWp.xr hGn hGk (sk 2 (.m (some 12) ⟨[(10,.agg (cfgA z p1 p2 p3 p4 na nb la lb ea eb)),(11,vI s)],[],vB false,[],[]⟩::aa 1)) (.sk (.m (QiE (Qqj hI) rfl rfl rfl rfl (by kernel_rfl) (by rfl) (by kernel_rfl)) (Man.aa _ _)))
  [(2,.ref 1002 0),(4,.ref 1004 0),(13,vB true)] [hA,(1004,box0)] ?_
 refine AWp.cond_true rfl ?_
 refine AWp.xa hGn hGk 3 [(4,.ref 1004 0),(5,vI 3)] [(1004,box0)] ?_
 exact AWp.ret (QnV (Qht (.inr rfl) (Res.many rfl (.cons (Res1.agg rfl rfl (by kernel_rfl) (by kernel_rfl)) (.cons (Res1.tmp rfl) .nil))) rfl rfl ⟨rfl,rfl⟩))
theorem QlE(hc:QX fu (cfgD z p1 p2 p3 p4 na nb la lb ea eb)=some 0)(hs:¬(0≤s∧s<2)):
  XJ Tryz.prog 163 [.agg (cfgA z p1 p2 p3 p4 na nb la lb ea eb),vI s,.agg ((D.Edit.cells x).map .p)] [] (.tup [.agg [sl0 3 [],sl0 6 [],sl0 3 [],sl0 3 []],vI 3]) []:=by
 have hO:=Qnv hc hs
 refine Spec.intro Tryz.func163 rfl (by kernel_rfl) ?_
 intro Γ hGn hGk
 replace hGn:Γ.n=_:=hGn
 replace hGk:Γ.names=[]:=hGk
 let hE:Name×AO:=(1005,.box ((D.Edit.cells x).map .p))
 refine AWp.xa hGn hGk 4 [(1,vI s),(3,.ref 1003 0),(5,.ref 1005 0),(6,.ref 1006 0)] [(1003,.box (cfgA z p1 p2 p3 p4 na nb la lb ea eb)),hE,(1006,box0)] ?_
 refine AWp.xr hGn hGk (sk 2 (.m (some 14) ⟨[(12,.agg (cfgA z p1 p2 p3 p4 na nb la lb ea eb)),(13,vI s)],[],.tup [.agg [nl,nl,nl,nl],vI 3],[],[]⟩::aa 5)) (.sk (.m (QiE hO rfl rfl rfl rfl (by kernel_rfl) (by rfl) (by kernel_rfl)) (Man.aa _ _)))
  [(6,.ref 1006 0),(8,vI 3)] [(1006,box0)] ?_
 refine AWp.seq ?_
 refine AWp.xa hGn hGk 2 [(6,.ref 1006 0),(8,vI 3),(18,vB true)] [(1006,box0)] ?_
 refine AWp.cond_true rfl ?_
 refine AWp.xa hGn hGk 4 [(6,.ref 1006 0),(7,vI 3)] [(1006,box0)] ?_
 refine AWp.weaken (mk [(6,.ref 1006 0),(7,vI 3)] [(1006,.box [sl0 3 [],sl0 6 [],sl0 3 [],sl0 3 []])]) (Weak.le (TsLe.refl _) ⟨rfl,.box (.cons (.p (PVle.nil (by simp))) (.cons (.p (PVle.nil (by simp))) (.cons (.p (PVle.nil (by simp))) (.cons (.p (PVle.nil (by simp))) .nil)))),trivial⟩) ?_
 exact AWp.ret (QnV (Qht (.inr rfl) (Res.many rfl (.cons (Res1.agg rfl rfl (by kernel_rfl) (by kernel_rfl)) (.cons (Res1.tmp rfl) .nil))) rfl rfl ⟨rfl,rfl⟩))
theorem Qnq(h:QkB fu z [p1,p2,p3,p4] la lb ea eb)(hc:QX fu (cfgD z p1 p2 p3 p4 na nb la lb ea eb)=some 0)(hc2:QX fu (cfgD z p1 p2 p3 p4 na nb la lb (ea++[x]) eb)=some 0):
  XJ Tryz.prog 163 [.agg (cfgA z p1 p2 p3 p4 na nb la lb ea eb),vI 0,.agg ((D.Edit.cells x).map .p)] [] (.tup [.agg (cfgA z p1 p2 p3 p4 na nb la lb (ea++[x]) eb),vI 0]) []:=by
 have hO:=Qhs h hc false
 have hl:=h.ea
 refine Spec.intro Tryz.func163 rfl (by kernel_rfl) ?_
 intro Γ hGn hGk
 replace hGn:Γ.n=_:=hGn
 replace hGk:Γ.names=[]:=hGk
 let hE:Name×AO:=(1005,.box ((D.Edit.cells x).map .p))
 refine AWp.xa hGn hGk 4 [(1,vI 0),(3,.ref 1003 0),(5,.ref 1005 0),(6,.ref 1006 0)] [(1003,.box (cfgA z p1 p2 p3 p4 na nb la lb ea eb)),hE,(1006,box0)] ?_
 refine AWp.xr hGn hGk (sk 2 (.m (some 14) ⟨[(12,.agg (cfgA z p1 p2 p3 p4 na nb la lb ea eb)),(13,vI 0)],[],.tup [ownA,vI 0],Qly z p1 p2 p3 p4 na nb la lb ea eb false,newN false⟩::aa 5)) (.sk (.m (QiE hO rfl rfl rfl rfl (by kernel_rfl) (by rfl) (by kernel_rfl)) (Man.aa _ _)))
  [(1,vI 0),(3,.ref 1003 0),(5,.ref 1005 0),(6,.ref 1006 0),(8,vI 0)] ((1003,boxC)::hE::(1006,box0)::Qly z p1 p2 p3 p4 na nb la lb ea eb false) ?_
 refine AWp.seq ?_
 refine AWp.xa hGn hGk 2 [(1,vI 0),(3,.ref 1003 0),(5,.ref 1005 0),(6,.ref 1006 0),(18,vB false)] [(1003,boxC),hE,(1006,box0),(2011,.arr 3 [D.Zone.cells z]),(2014,.arr 6 [D.Person.cells p1,D.Person.cells p2,D.Person.cells p3,D.Person.cells p4]),(2017,.arr 3 []),(2020,.hole 3 [] [.p (.v (.string na)),sl0 10 [D.Layer.cells la],own 3000 (ea.map (tcells .Edit)).length] [schR nb lb eb]),(3000,.arr 5 (ea.map (tcells .Edit)))] ?_
 refine AWp.cond_false rfl (AWp.skip (Qg ?_))
 refine AWp.xa hGn hGk 5 [(3,.ref 1003 0),(5,.ref 1005 0),(6,.ref 1006 0),(9,.aref 2020 2 0 0)] [(1003,boxC),hE,(1006,box0),(2011,.arr 3 [D.Zone.cells z]),(2014,.arr 6 [D.Person.cells p1,D.Person.cells p2,D.Person.cells p3,D.Person.cells p4]),(2017,.arr 3 []),(2020,.hole 3 [] [.p (.v (.string na)),sl0 10 [D.Layer.cells la],own 3000 (ea.map (tcells .Edit)).length] [schR nb lb eb]),(3000,.arr 5 (ea.map (tcells .Edit)))] ?_
 refine AWp.xd hGn hGk (sk 7 (.m (some 32) ⟨[(29,own 3000 (ea.map (tcells .Edit)).length),(31,.p (.sl true 5 [D.Edit.cells x]))],[(3000,.arr 5 (ea.map (tcells .Edit)))],own 3000 ((ea++[x]).map (tcells .Edit)).length,[(3000,.arr 5 ((ea++[x]).map (tcells .Edit)))],[]⟩::aa 3))
  (.sk (.m (Zs.p (o:=_) rfl rfl rfl (OpOK.appendOwn (T:=129) (e:=48) (bytes:=40) rfl rfl (by kernel_rfl) (by kernel_rfl) rfl (Nat.beq_refl _) rfl (by rw[List.map_append];rfl) rfl (by simp only[List.length_map,List.length_cons,List.length_nil];omega) (by simp only[List.length_map,List.length_cons,List.length_nil];omega))) (Man.aa _ _)))
  [(3,.ref 1003 0),(5,.ref 1005 0),(6,.ref 1006 0)] [(3000,.arr 5 ((ea++[x]).map (tcells .Edit))),(2020,.hole 3 [] [.p (.v (.string na)),sl0 10 [D.Layer.cells la],own 3000 ((ea++[x]).map (tcells .Edit)).length] [schR nb lb eb]),(1003,boxC),hE,(1006,box0),(2011,.arr 3 [D.Zone.cells z]),(2014,.arr 6 [D.Person.cells p1,D.Person.cells p2,D.Person.cells p3,D.Person.cells p4]),(2017,.arr 3 [])] ?_
 refine AWp.frz hGk rfl (.hole (.cons (.same rfl) (.cons (.same rfl) (.cons .own .nil)))) ?_
 refine AWp.unf (schR na la (ea++[x])) rfl ?_
 refine AWp.weaken (mk [(3,.ref 1003 0),(5,.ref 1005 0),(6,.ref 1006 0)] [(2011,.arr 3 [D.Zone.cells z]),(1003,.box [own 2011 1,own 2014 4,own 2017 0,own 2020 2]),hE,(1006,box0),(2014,.arr 6 [D.Person.cells p1,D.Person.cells p2,D.Person.cells p3,D.Person.cells p4]),(2017,.arr 3 []),(2020,.arr 3 [schR na la (ea++[x]),schR nb lb eb])]) (Weak.sub' hGk (by kernel_rfl)) ?_
 refine AWp.frz hGk rfl (.box (.cons .own (.cons (.same rfl) (.cons (.same rfl) (.cons (.same rfl) (.nil)))))) ?_
 refine AWp.weaken (mk [(3,.ref 1003 0),(5,.ref 1005 0),(6,.ref 1006 0)] [(2014,.arr 6 [D.Person.cells p1,D.Person.cells p2,D.Person.cells p3,D.Person.cells p4]),(1003,.box [sl0 3 [D.Zone.cells z],own 2014 4,own 2017 0,own 2020 2]),hE,(1006,box0),(2017,.arr 3 []),(2020,.arr 3 [schR na la (ea++[x]),schR nb lb eb])]) (Weak.sub' hGk (by kernel_rfl)) ?_
 refine AWp.frz hGk rfl (.box (.cons (.same rfl) (.cons .own (.cons (.same rfl) (.cons (.same rfl) (.nil)))))) ?_
 refine AWp.weaken (mk [(3,.ref 1003 0),(5,.ref 1005 0),(6,.ref 1006 0)] [(2017,.arr 3 []),(1003,.box [sl0 3 [D.Zone.cells z],sl0 6 [D.Person.cells p1,D.Person.cells p2,D.Person.cells p3,D.Person.cells p4],own 2017 0,own 2020 2]),hE,(1006,box0),(2020,.arr 3 [schR na la (ea++[x]),schR nb lb eb])]) (Weak.sub' hGk (by kernel_rfl)) ?_
 refine AWp.frz hGk rfl (.box (.cons (.same rfl) (.cons (.same rfl) (.cons .own (.cons (.same rfl) (.nil)))))) ?_
 refine AWp.weaken (mk [(3,.ref 1003 0),(5,.ref 1005 0),(6,.ref 1006 0)] [(2020,.arr 3 [schR na la (ea++[x]),schR nb lb eb]),(1003,.box [sl0 3 [D.Zone.cells z],sl0 6 [D.Person.cells p1,D.Person.cells p2,D.Person.cells p3,D.Person.cells p4],sl0 3 [],own 2020 2]),hE,(1006,box0)]) (Weak.sub' hGk (by kernel_rfl)) ?_
 refine AWp.frz hGk rfl (.box (.cons (.same rfl) (.cons (.same rfl) (.cons (.same rfl) (.cons .own (.nil)))))) ?_
 refine AWp.seq ?_
 refine AWp.xr hGn hGk (sk 1 (.m (some 36) ⟨[(35,.agg (cfgA z p1 p2 p3 p4 na nb la lb (ea++[x]) eb))],[],vI 0,[],[]⟩::aa 1)) (.sk (.m (QiE (Qh1 hc2) rfl rfl rfl rfl (by kernel_rfl) (by rfl) (by kernel_rfl)) (Man.aa _ _)))
  [(3,.ref 1003 0),(6,.ref 1006 0),(10,vI 0)] [(1003,.box (cfgA z p1 p2 p3 p4 na nb la lb (ea++[x]) eb)),(1006,box0)] ?_
 refine AWp.xa hGn hGk 2 [(3,.ref 1003 0),(6,.ref 1006 0),(38,vB false)] [(1003,.box (cfgA z p1 p2 p3 p4 na nb la lb (ea++[x]) eb)),(1006,box0)] ?_
 refine AWp.cond_false rfl (AWp.skip (Qg ?_))
 refine AWp.xa hGn hGk 3 [(6,.ref 1006 0),(7,vI 0)] [(1006,.box (cfgA z p1 p2 p3 p4 na nb la lb (ea++[x]) eb))] ?_
 exact AWp.ret (Qht (.inr rfl) (Res.many rfl (.cons (Res1.agg rfl rfl (by kernel_rfl) (by kernel_rfl)) (.cons (Res1.tmp rfl) .nil))) rfl rfl ⟨rfl,rfl⟩)
theorem Qnr(h:QkB fu z [p1,p2,p3,p4] la lb ea eb)(hc:QX fu (cfgD z p1 p2 p3 p4 na nb la lb ea eb)=some 0)(hc2:QX fu (cfgD z p1 p2 p3 p4 na nb la lb ea (eb++[x]))=some 0):
  XJ Tryz.prog 163 [.agg (cfgA z p1 p2 p3 p4 na nb la lb ea eb),vI 1,.agg ((D.Edit.cells x).map .p)] [] (.tup [.agg (cfgA z p1 p2 p3 p4 na nb la lb ea (eb++[x])),vI 0]) []:=by
 have hO:=Qhs h hc true
 have hl:=h.eb
 refine Spec.intro Tryz.func163 rfl (by kernel_rfl) ?_
 intro Γ hGn hGk
 replace hGn:Γ.n=_:=hGn
 replace hGk:Γ.names=[]:=hGk
 let hE:Name×AO:=(1005,.box ((D.Edit.cells x).map .p))
 refine AWp.xa hGn hGk 4 [(1,vI 1),(3,.ref 1003 0),(5,.ref 1005 0),(6,.ref 1006 0)] [(1003,.box (cfgA z p1 p2 p3 p4 na nb la lb ea eb)),hE,(1006,box0)] ?_
 refine AWp.xr hGn hGk (sk 2 (.m (some 14) ⟨[(12,.agg (cfgA z p1 p2 p3 p4 na nb la lb ea eb)),(13,vI 1)],[],.tup [ownA,vI 0],Qly z p1 p2 p3 p4 na nb la lb ea eb true,newN true⟩::aa 5)) (.sk (.m (QiE hO rfl rfl rfl rfl (by kernel_rfl) (by rfl) (by kernel_rfl)) (Man.aa _ _)))
  [(1,vI 1),(3,.ref 1003 0),(5,.ref 1005 0),(6,.ref 1006 0),(8,vI 0)] ((1003,boxC)::hE::(1006,box0)::Qly z p1 p2 p3 p4 na nb la lb ea eb true) ?_
 refine AWp.seq ?_
 refine AWp.xa hGn hGk 2 [(1,vI 1),(3,.ref 1003 0),(5,.ref 1005 0),(6,.ref 1006 0),(18,vB false)] [(1003,boxC),hE,(1006,box0),(2011,.arr 3 [D.Zone.cells z]),(2014,.arr 6 [D.Person.cells p1,D.Person.cells p2,D.Person.cells p3,D.Person.cells p4]),(2017,.arr 3 []),(2020,.hole 3 [schR na la ea] [.p (.v (.string nb)),sl0 10 [D.Layer.cells lb],own 3001 (eb.map (tcells .Edit)).length] []),(3001,.arr 5 (eb.map (tcells .Edit)))] ?_
 refine AWp.cond_false rfl (AWp.skip (Qg ?_))
 refine AWp.xa hGn hGk 5 [(3,.ref 1003 0),(5,.ref 1005 0),(6,.ref 1006 0),(9,.aref 2020 2 1 0)] [(1003,boxC),hE,(1006,box0),(2011,.arr 3 [D.Zone.cells z]),(2014,.arr 6 [D.Person.cells p1,D.Person.cells p2,D.Person.cells p3,D.Person.cells p4]),(2017,.arr 3 []),(2020,.hole 3 [schR na la ea] [.p (.v (.string nb)),sl0 10 [D.Layer.cells lb],own 3001 (eb.map (tcells .Edit)).length] []),(3001,.arr 5 (eb.map (tcells .Edit)))] ?_
 refine AWp.xd hGn hGk (sk 7 (.m (some 32) ⟨[(29,own 3001 (eb.map (tcells .Edit)).length),(31,.p (.sl true 5 [D.Edit.cells x]))],[(3001,.arr 5 (eb.map (tcells .Edit)))],own 3001 ((eb++[x]).map (tcells .Edit)).length,[(3001,.arr 5 ((eb++[x]).map (tcells .Edit)))],[]⟩::aa 3))
  (.sk (.m (Zs.p (o:=_) rfl rfl rfl (OpOK.appendOwn (T:=129) (e:=48) (bytes:=40) rfl rfl (by kernel_rfl) (by kernel_rfl) rfl (Nat.beq_refl _) rfl (by rw[List.map_append];rfl) rfl (by simp only[List.length_map,List.length_cons,List.length_nil];omega) (by simp only[List.length_map,List.length_cons,List.length_nil];omega))) (Man.aa _ _)))
  [(3,.ref 1003 0),(5,.ref 1005 0),(6,.ref 1006 0)] [(3001,.arr 5 ((eb++[x]).map (tcells .Edit))),(2020,.hole 3 [schR na la ea] [.p (.v (.string nb)),sl0 10 [D.Layer.cells lb],own 3001 ((eb++[x]).map (tcells .Edit)).length] []),(1003,boxC),hE,(1006,box0),(2011,.arr 3 [D.Zone.cells z]),(2014,.arr 6 [D.Person.cells p1,D.Person.cells p2,D.Person.cells p3,D.Person.cells p4]),(2017,.arr 3 [])] ?_
 refine AWp.frz hGk rfl (.hole (.cons (.same rfl) (.cons (.same rfl) (.cons .own .nil)))) ?_
 refine AWp.unf (schR nb lb (eb++[x])) rfl ?_
 refine AWp.weaken (mk [(3,.ref 1003 0),(5,.ref 1005 0),(6,.ref 1006 0)] [(2011,.arr 3 [D.Zone.cells z]),(1003,.box [own 2011 1,own 2014 4,own 2017 0,own 2020 2]),hE,(1006,box0),(2014,.arr 6 [D.Person.cells p1,D.Person.cells p2,D.Person.cells p3,D.Person.cells p4]),(2017,.arr 3 []),(2020,.arr 3 [schR na la ea,schR nb lb (eb++[x])])]) (Weak.sub' hGk (by kernel_rfl)) ?_
 refine AWp.frz hGk rfl (.box (.cons .own (.cons (.same rfl) (.cons (.same rfl) (.cons (.same rfl) (.nil)))))) ?_
 refine AWp.weaken (mk [(3,.ref 1003 0),(5,.ref 1005 0),(6,.ref 1006 0)] [(2014,.arr 6 [D.Person.cells p1,D.Person.cells p2,D.Person.cells p3,D.Person.cells p4]),(1003,.box [sl0 3 [D.Zone.cells z],own 2014 4,own 2017 0,own 2020 2]),hE,(1006,box0),(2017,.arr 3 []),(2020,.arr 3 [schR na la ea,schR nb lb (eb++[x])])]) (Weak.sub' hGk (by kernel_rfl)) ?_
 refine AWp.frz hGk rfl (.box (.cons (.same rfl) (.cons .own (.cons (.same rfl) (.cons (.same rfl) (.nil)))))) ?_
 refine AWp.weaken (mk [(3,.ref 1003 0),(5,.ref 1005 0),(6,.ref 1006 0)] [(2017,.arr 3 []),(1003,.box [sl0 3 [D.Zone.cells z],sl0 6 [D.Person.cells p1,D.Person.cells p2,D.Person.cells p3,D.Person.cells p4],own 2017 0,own 2020 2]),hE,(1006,box0),(2020,.arr 3 [schR na la ea,schR nb lb (eb++[x])])]) (Weak.sub' hGk (by kernel_rfl)) ?_
 refine AWp.frz hGk rfl (.box (.cons (.same rfl) (.cons (.same rfl) (.cons .own (.cons (.same rfl) (.nil)))))) ?_
 refine AWp.weaken (mk [(3,.ref 1003 0),(5,.ref 1005 0),(6,.ref 1006 0)] [(2020,.arr 3 [schR na la ea,schR nb lb (eb++[x])]),(1003,.box [sl0 3 [D.Zone.cells z],sl0 6 [D.Person.cells p1,D.Person.cells p2,D.Person.cells p3,D.Person.cells p4],sl0 3 [],own 2020 2]),hE,(1006,box0)]) (Weak.sub' hGk (by kernel_rfl)) ?_
 refine AWp.frz hGk rfl (.box (.cons (.same rfl) (.cons (.same rfl) (.cons (.same rfl) (.cons .own (.nil)))))) ?_
 refine AWp.seq ?_
 refine AWp.xr hGn hGk (sk 1 (.m (some 36) ⟨[(35,.agg (cfgA z p1 p2 p3 p4 na nb la lb ea (eb++[x])))],[],vI 0,[],[]⟩::aa 1)) (.sk (.m (QiE (Qh1 hc2) rfl rfl rfl rfl (by kernel_rfl) (by rfl) (by kernel_rfl)) (Man.aa _ _)))
  [(3,.ref 1003 0),(6,.ref 1006 0),(10,vI 0)] [(1003,.box (cfgA z p1 p2 p3 p4 na nb la lb ea (eb++[x]))),(1006,box0)] ?_
 refine AWp.xa hGn hGk 2 [(3,.ref 1003 0),(6,.ref 1006 0),(38,vB false)] [(1003,.box (cfgA z p1 p2 p3 p4 na nb la lb ea (eb++[x]))),(1006,box0)] ?_
 refine AWp.cond_false rfl (AWp.skip (Qg ?_))
 refine AWp.xa hGn hGk 3 [(6,.ref 1006 0),(7,vI 0)] [(1006,.box (cfgA z p1 p2 p3 p4 na nb la lb ea (eb++[x])))] ?_
 exact AWp.ret (Qht (.inr rfl) (Res.many rfl (.cons (Res1.agg rfl rfl (by kernel_rfl) (by kernel_rfl)) (.cons (Res1.tmp rfl) .nil))) rfl rfl ⟨rfl,rfl⟩)
end
theorem QlF(fu:Nat):FnOK Tryz.prog 163 (Qns fu):=by
 refine⟨fun R x y K r h=>?_,fun x y a b h L0 _=>⟨L0,fun _ _=>rfl,fun n t l v hn=>by change AM.look n []=_ at hn;simp[AM.look]at hn,?_⟩⟩
 ·obtain⟨c,s,e,⟨⟩⟩:=x
  obtain⟨q,hq,h⟩:=Yg h
  change Ve fu c s e=some q at hq
  refine⟨(q.1,q.2,()),(),?_,h⟩
  show optc (Ve fu c s e) (fun q=>some ((q.1,q.2,()),()))=_
  rw[hq];rfl
 ·obtain⟨c,s,x,⟨⟩⟩:=x
  obtain⟨q,hq,hab⟩:=Yg h
  change Ve fu c s x=some q at hq
  have hab':((q.1,q.2,()),())=(a,b):=Option.some.inj hab
  obtain⟨rfl,rfl⟩:=Prod.mk.inj hab'
  obtain⟨zs,ps,cs,ss⟩:=c
  unfold Ve at hq
  dsimp only at hq
  split at hq
  case h_2=>simp at hq
  rename_i z p1 p2 p3 p4 a b
  split at hq
  case h_2=>simp at hq
  rename_i la lb hla hlb
  obtain⟨na,las,ea⟩:=a
  obtain⟨nb,lbs,eb⟩:=b
  dsimp only at hla hlb
  subst hla hlb
  split at hq
  case isFalse=>simp at hq
  rename_i hin
  obtain⟨e1,he1,hq⟩:=Yg hq
  have h1:e1=0:=by
   by_cases h:e1=0
   ·exact h
   ·rw[decide_eq_true h]at hq;simp[cnd]at hq
  subst h1
  replace hq:cnd (decide (0≤s∧s<2)) _ _=some q:=hq
  by_cases hs:0≤s∧s<2
  ·rw[decide_eq_true hs]at hq
   obtain⟨e2,he2,hq⟩:=Yg hq
   have h2:e2=0:=by
    by_cases h:e2=0
    ·exact h
    ·rw[decide_eq_true h]at hq;simp[cnd]at hq
   subst h2
   have hq2:=Option.some.inj hq
   subst hq2
   rcases(show s=0∨s=1 by omega)with rfl|rfl
   ·exact Qnq hin he1 he2
   ·exact Qnr hin he1 he2
  ·rw[decide_eq_false hs]at hq
   have hq2:=Option.some.inj hq
   subst hq2
   exact QlE he1 hs
end
/-
  What functions do, reckoned from their code, and their contracts. Printed by wip/gen/brun.py.
-/
open Go AM IntKind
noncomputable section
variable (u:Nat)
def Xj(u:Nat)(a:List D.Page)(c:Int)(b:List D.Page):Option (List D.Page):=natc c fun e=>lec e a.length (cd ((b.length:Int)=0) (some a) (cd (c=(a.length:Int)) (lec (a.length+b.length) 34359738368 (some (a++b))) none))
theorem QcQ:FO 158 (Qf [.one (.own 101),nI,.one (.lst .Page)] [ar 101 .Page] [.one (.own 101)] [ar 101 .Page] [] (List D.Page) kz8 (fun x y=>Xj u y.1 x.1 x.2.1)):=fI u .go kz12 eN Tryz.func158
end
/-
  slices.Insert of one page into an array of ours: its contract. Where the page comes behind all others the printed contract serves (it is an append); the other two roads (there is room; there is none) are walked here.
-/
open Go Go.RowKit Go.Shelf Go.Proofs AM
section
variable {P:Program}
theorem Qh2(W:World)(T e ty:TypeId)(es:Nat)(hT:P.underlying T=some (.slice e))(hz:Zv P e=some es)(b o l1 c1:Nat)(a2:Addr)(l2 c2 m:Nat)(cur:Array Value)(t:TypeId)(vs:List Value)(hg:W.heap[b]?=some (.cells cur t (0,0)))(hm:Nat.min l2 l1=m)(hn:vs.length=m*es)(hsrc:∀j v,vs[j]?=some v→W.cell? (a2.add j)=some v)(hfit:o+vs.length≤cur.size)(h1:∀v∈vs,v.oneCell'=true):
  (Builtin.copy_ #[T,T] ty #[.slice (some ⟨b,o,none⟩) l1 c1,.slice (some a2) l2 c2]).run P W=.ok (goInt ((m:Nat):Int)) (W.setRow b (Qv cur.toList o vs).toArray):=by
 have hsz:=AM.run_sizeOf (P:=P) (w:=W) hz
 have hload:=run_loadCells_list (P:=P) W a2 vs hsrc
 have hstore:=run_storeCells_at (P:=P) b o t vs 0 cur W hg (by omega) h1
 rw[hn]at hload
 have hw:(Qv cur.toList o vs).toArray=(cur.toList.take (o+0)++vs++cur.toList.drop (o+0+vs.length)).toArray:=by unfold Qv;rfl
 simp[Builtin.copy_,run_underlying hT,Builtin.lenOf,Builtin.firstCells,hsz,hm,hload,Result.andThen]
 rw[hstore,hw]
theorem Qkp(w:World)(tS tR e:TypeId)(ht:P.underlying tS=some (.slice e))(size:Nat)(hz:∀w,(Go.sizeOf e).run P w=.ok size w)(a b:Addr)(la ca lb cb:Nat)(hne:a.block≠b.block){csA cs:Array Value}{tA t:TypeId}{fA:Nat×Nat}(ha:w.heap[a.block]?=some (.cells csA tA fA))(hb:w.heap[b.block]?=some (.cells cs t (0,0)))(hk:cs.size≠0)(hkA:csA.size≠0):
  (Extern.SlicesOverlaps.overlaps #[tS,tS] #[tR] #[.slice (some a) la ca,.slice (some b) lb cb]).run P w=.ok (.bool false) w:=by
 have hnb:(a.block != b.block)=true:=by simpa using hne
 have hnb':(a.block == b.block)=false:=by simpa using hne
 have hsa:w.shape? a.block=some (tA,csA.size):=by simp[World.shape?,ha]
 have hsb:w.shape? b.block=some (t,cs.size):=by simp[World.shape?,hb]
 have hfb:∀o s,w.frozen? { block:=b.block,off:=o,spot:=s }=false:=fun o s=>by simp[World.frozen?,hb]
 have hfb':w.frozen? b=false:=by simp[World.frozen?,hb]
 obtain⟨f1,hf1⟩:∃f1,w.frozen? a=f1:=⟨_,rfl⟩
 obtain⟨f2,hf2⟩:∃f2,w.frozen? { block:=a.block,off:=csA.size }=f2:=⟨_,rfl⟩
 change Sem.run P (α:=Value) (do
  let some t:=(#[tS,tS]:Array TypeId)[0]?|stuck "slices.overlaps: no parameter types"
  let .slice elem ←underlying t|stuck "slices.overlaps: slice type expected"
  let size ←sizeOf elem
  match (some a:Option Addr),(some b:Option Addr)with
  |some a,some b=>
   if la=0∨lb=0∨size=0 then pure (Value.bool false)
   else if a.block != b.block && (←frozen a) && (←frozen b)then unsupported .addressObserved
   else do
    if a.block != b.block then do
     noView a;noView b
     if ←mayBeOne a b then return Value.bool ((←choose (.extern "sameAddr.stringBytes" 2)) == 1)
    pure (Value.bool (a.block == b.block && a.off<b.off+lb*size && b.off<a.off+la*size))
  |_,_=>pure (Value.bool false)) w=_
 by_cases h0:la=0∨lb=0∨size=0
 ·simp[run_underlying ht,hz,h0]
 ·obtain⟨kB,hkB⟩:∃kB,cs.size=kB+1:=⟨cs.size - 1,by omega⟩
  rw[hkB]at hsb
  obtain⟨kA,hkA'⟩:∃kA,csA.size=kA+1:=⟨csA.size - 1,by omega⟩
  rw[hkA']at hsa hf2
  cases f1<;>cases f2<;>
   simp[run_underlying ht,hz,h0,hnb,hnb',frozen,noView,viewAt,mayBeOne,stringish,shape,Sem.run,hsa,hsb,hfb,hfb',hf1,hf2]
end
theorem Qld{α:Type}{l vs:List α}{k:Nat}(h:k≤l.length):(Qv l k vs).take (k+vs.length)=l.take k++vs:=by
 unfold Qv
 rw[List.take_append_of_le_length (by simp;omega)]
 exact List.take_of_length_le (by simp;omega)
set_option maxHeartbeats 4000000 in
theorem Qs1(b n c i vb voff vc:Nat)(cs csv:Array Value)(t tv:TypeId)(fv:Nat×Nat)(v:List Value)(w:World)(hi:i<n)(hroom:n+1≤c)(hbig:n≤10000000)(hvb:vb≠b)(hb:w.heap[b]?=some (.cells cs t (0,0)))(hsz:cs.size=c*14)(hv:v.length=14)(hvw:w.heap[vb]?=some (.cells csv tv fv))(hvz:csv.size≠0)(hvs:∀j x,v[j]?=some x→w.cell? ⟨vb,voff+j,none⟩=some x)(h1c:∀x∈(cs.toList.drop (i*14)).take ((n - i)*14),x.oneCell'=true)(h1v:∀x∈v,x.oneCell'=true):
  Calls Tryz.prog 158 #[.slice (some ⟨b,0,none⟩) n c,.int .i64 i,.slice (some ⟨vb,voff,none⟩) 1 vc] w fun e w'=>
   e=.returned (.slice (some ⟨b,0,none⟩) (n+1) c)∧w'=(w.drew.setRow b (Qv cs.toList ((i+1)*14) ((cs.toList.drop (i*14)).take ((n - i)*14))).toArray).setRow b (Qv (Qv cs.toList ((i+1)*14) ((cs.toList.drop (i*14)).take ((n - i)*14))) (i*14) v).toArray:=by
 have hmix:Tryz.prog.follows .mixedOrders=true:=by kernel_rfl
 have hT:Tryz.prog.underlying 37=some (.slice 71):=by kernel_rfl
 have hz:Zv Tryz.prog 71=some 14:=by kernel_rfl
 have hsize:∀w,(Go.sizeOf 71).run Tryz.prog w=.ok 14 w:=fun w=>AM.run_sizeOf hz w
 have hle:(n+1)*14≤cs.size:=by rw[hsz];exact Nat.mul_le_mul_right 14 hroom
 obtain⟨vs,hvs1⟩:∃vs,(cs.toList.drop (i*14)).take ((n - i)*14)=vs:=⟨_,rfl⟩
 have hvl:vs.length=(n - i)*14:=by rw[←hvs1];simp;omega
 obtain⟨A1,hA1⟩:∃A1,(Qv cs.toList ((i+1)*14) vs).toArray=A1:=⟨_,rfl⟩
 have hA1s:A1.size=cs.size:=by rw[←hA1];simp[Qv,hvl];omega
 rw[hvs1]at h1c ⊢
 have hA1l:Qv cs.toList ((i+1)*14) vs=A1.toList:=by rw[←hA1]
 rw[hA1l,Array.toArray_toList]
 have hov:∀o lb cb,(callFunc 227 #[.slice (some ⟨vb,voff,none⟩) 1 vc,.slice (some ⟨b,o,none⟩) lb cb]).run Tryz.prog w=.ok (.value (.bool false)) w:=fun o lb cb=>by
  rw[run_callFunc_extern Tryz.func227 (by kernel_rfl) (by kernel_rfl) (by kernel_rfl) (e:=Extern.SlicesOverlaps.overlaps #[37,37] #[4]) (by kernel_rfl),Qkp w 37 4 71 hT 14 hsize ⟨vb,voff,none⟩ ⟨b,o,none⟩ 1 vc lb cb hvb hvw hb (by omega) hvz]
  rfl
 have hold:∀q,w.cell? ⟨b,q,none⟩=cs.toList[q]?:=fun q=>by simp[World.cell?,hb]
 have hcp1:∀ty c1 c2,(Builtin.copy_ #[37,37] ty #[.slice (some ⟨b,(i+1)*14,none⟩) (n - i) c1,.slice (some ⟨b,i*14,none⟩) (n+1 - i) c2]).run Tryz.prog w.drew=.ok (goInt ((n - i:Nat):Int)) (w.drew.setRow b A1):=fun ty c1 c2=>by
  rw[←hA1]
  exact Qh2 w.drew 37 71 ty 14 hT hz b _ (n - i) c1 ⟨b,i*14,none⟩ (n+1 - i) c2 (n - i) cs t vs hb (Nat.min_eq_right (by omega)) hvl (fun j x hj=>by
   have hj':j<(n - i)*14:=by rw[←hvl];exact(List.getElem?_eq_some_iff.1 hj).1
   rw[Addr.add_lit]
   rw[←hvs1,List.getElem?_take,if_pos hj',List.getElem?_drop]at hj
   exact(hold _).trans hj) (by rw[hvl];omega) h1c
 have hcp2:∀(W:World),W.heap=(w.drew.setRow b A1).heap→∀ty c1,(Builtin.copy_ #[37,37] ty #[.slice (some ⟨b,i*14,none⟩) (n+1 - i) c1,.slice (some ⟨vb,voff,none⟩) 1 vc]).run Tryz.prog W=.ok (goInt ((1:Nat):Int)) (W.setRow b (Qv A1.toList (i*14) v).toArray):=fun W hW ty c1=>by
  have hWb:W.heap[b]?=some (.cells A1 t (0,0)):=by rw[hW];exact setRow_heap w.drew b cs A1 t (0,0) hb
  exact Qh2 W 37 71 ty 14 hT hz b _ (n+1 - i) c1 ⟨vb,voff,none⟩ 1 vc 1 A1 t v hWb (Nat.min_eq_left (by omega)) (by rw[hv]) (fun j x hj=>by
   rw[Addr.add_lit]
   have:=hvs j x hj
   unfold World.cell? at this ⊢
   dsimp only at this ⊢
   rw[hW,setRow_other w.drew b vb A1 hvb]
   exact this) (by rw[hv,hA1s];omega) h1v
 have hcp3:=hcp2 (w.drew.setRow b A1).drew rfl
 have hcp4:=hcp2 (w.drew.setRow b A1) rfl
 have hz2:¬((i:Int)=(n:Int)):=by omega
 have hw1:IntKind.i64.wrap ((i:Int)+1)=(i:Int)+1:=by rw[IntKind.wrap_i64];omega
 have hw2:IntKind.i64.wrap ((n:Int)+1)=(n:Int)+1:=by rw[IntKind.wrap_i64];omega
 have hb1:(0:Int)≤(i:Int)+1:=by omega
 have hin:i≤n:=by omega
 have htn:((i:Int)+1).toNat=i+1:=by omega
 have htn2:((n:Int)+1).toNat=n+1:=by omega
 have hb2:¬(c=i+1):=by omega
 have hb3:(i:Int)≤(n:Int)+1:=by omega
 have hb4:¬(c=i):=by omega
 go_enter Tryz.func158,Tryz.ntmps158
 go_wp2_with (simp only[hov])
 go_region_law_o (refine step_copy_runI rfl _ _ 37 37 rfl _ _ (by simp[Act.eval,Act.put]) (by simp[Act.eval,Act.put]) (hcp1 _ _ _) ?_)
 go_wp2
 go_ret
 first|exact⟨rfl,rfl⟩|exact⟨rfl,by rw[Array.toArray_toList]⟩
set_option maxHeartbeats 4000000 in
theorem QuX(b n c i vb voff vc:Nat)(cs csv:Array Value)(t tv:TypeId)(fv:Nat×Nat)(v:List Value)(w:World)(hi:i<n)(hnc:n≤c)(hroom:c<n+1)(hbig:n≤10000000)(hb:w.heap[b]?=some (.cells cs t (0,0)))(hsz:cs.size=c*14)(hv:v.length=14)(hvw:w.heap[vb]?=some (.cells csv tv fv))(hvs:∀j x,v[j]?=some x→w.cell? ⟨vb,voff+j,none⟩=some x)(h1c:∀x∈(cs.toList.drop (i*14)).take ((n - i)*14),x.oneCell'=true)(h1v:∀x∈v,x.oneCell'=true):
  Calls Tryz.prog 158 #[.slice (some ⟨b,0,none⟩) n c,.int .i64 i,.slice (some ⟨vb,voff,none⟩) 1 vc] w fun e w'=>
   ∃(G:Nat) (A:Array Value),e=.returned (.slice (some ⟨w.heap.size,0,none⟩) (n+1) G)∧n+1≤G∧A.size=G*14∧A.toList.take ((n+1)*14)=cs.toList.take (i*14)++v++(cs.toList.drop (i*14)).take ((n - i)*14)∧
    w'.heap[w.heap.size]?=some (.cells A 71 (0,0))∧Ext (fun _=>False) w w':=by
 have hmix:Tryz.prog.follows .mixedOrders=true:=by kernel_rfl
 have hT:Tryz.prog.underlying 37=some (.slice 71):=by kernel_rfl
 have hT3:Tryz.prog.underlying 3=some (.int .i64):=by kernel_rfl
 have hz:Zv Tryz.prog 71=some 14:=by kernel_rfl
 obtain⟨i0,z,hi0,hz0,hzs,hzb,hzc⟩:=Qfh (P:=Tryz.prog) (e:=71) (es:=14) (bytes:=160) (by kernel_rfl)
 have hbw:b<w.heap.size:=(Array.getElem?_eq_some_iff.1 hb).1
 have hvw':vb<w.heap.size:=(Array.getElem?_eq_some_iff.1 hvw).1
 have hle:n*14≤cs.size:=by rw[hsz];exact Nat.mul_le_mul_right 14 hnc
 have hold:∀q,w.cell? ⟨b,q,none⟩=cs.toList[q]?:=fun q=>by simp[World.cell?,hb]
 obtain⟨vs,hvs1⟩:∃vs,(cs.toList.drop (i*14)).take ((n - i)*14)=vs:=⟨_,rfl⟩
 have hvl:vs.length=(n - i)*14:=by rw[←hvs1];simp;omega
 rw[hvs1]at h1c ⊢
 have hold0:(Builtin.firstCells i0.size i (.slice (some ⟨b,0,none⟩) i c)).run Tryz.prog w.drew=.ok (cs.toList.take (i*14)).toArray w.drew:=by
  rw[hzs]
  exact run_firstCells_some w.drew 14 i ⟨b,0,none⟩ i c (cs.toList.take (i*14)) (by rw[List.length_take];simp;omega) (fun j x hj=>by
   rw[Addr.add_lit,Nat.zero_add]
   rw[List.getElem?_take]at hj
   split at hj
   ·exact(hold _).trans hj
   ·cases hj)
 obtain⟨G,hG⟩:∃G,G=grownCap w (n+1) c 71:=⟨_,rfl⟩
 obtain⟨ROW,hROW⟩:∃ROW:Array Value,ROW=(cs.toList.take (i*14)).toArray++Builtin.zeroCells z.cells (n+1 - i)++Builtin.zeroCells z.cells (G - (n+1)):=⟨_,rfl⟩
 have hGn:n+1≤G:=by rw[hG];exact grownCap_ge w _ _ _
 have hG63:G≤9223372036854775807:=by
  have:=grownCap_le_maxLen w (n+1) c 71 (by unfold maxLen;omega)
  rw[←hG]at this
  unfold maxLen at this
  omega
 have hik:i+(n+1 - i)=n+1:=by omega
 have hrz:∀ty,(Builtin.append_ #[37,3] ty #[.slice (some ⟨b,0,none⟩) i c,.int .i64 ((n:Int)+1 - (i:Int))]).run Tryz.prog w =
   .ok (.slice (some ⟨w.heap.size,0,none⟩) (n+1) G) (w.drew.alloc (.cells ROW 71)):=fun ty=>by
  have h:=Lib.run_append_grow_zeros w 37 3 ty 71 i0 _ .i64 .i64 hT hT3 hi0 hz0 (some ⟨b,0,none⟩) i c (cs.toList.take (i*14)) hold0 (n+1 - i) (by omega) (by omega) (by omega) (by omega) (by rw[hzb];omega) (by rw[hzb,hik];exact growslice_fits hroom (by omega))
  rw[hik,←hG,←hROW]at h
  rw[show(n:Int)+1 - (i:Int)=((n+1 - i:Nat):Int)by omega]
  exact h
 have hRs:ROW.size=G*14:=by
  rw[hROW]
  simp only[Array.size_append,QaY,hzc,List.size_toArray,List.length_take,Array.length_toList]
  omega
 have hNb:(w.drew.alloc (.cells ROW 71)).heap[w.heap.size]?=some (.cells ROW 71 (0,0)):=YE w.drew _
 have hOth:∀k,k<w.heap.size→(w.drew.alloc (.cells ROW 71)).heap[k]?=w.heap[k]?:=fun k hk=>Below.heap_alloc w.drew _ k hk
 obtain⟨A1,hA1⟩:∃A1,(Qv ROW.toList (i*14) v).toArray=A1:=⟨_,rfl⟩
 have hA1s:A1.size=ROW.size:=by rw[←hA1];simp[Qv,hv];omega
 obtain⟨A2,hA2⟩:∃A2,(Qv A1.toList ((i+1)*14) vs).toArray=A2:=⟨_,rfl⟩
 have hA2s:A2.size=ROW.size:=by rw[←hA2,←hA1s];simp[Qv,hvl];omega
 have hfin:A2.toList.take ((n+1)*14)=cs.toList.take (i*14)++v++vs:=by
  have e1:A1.toList.take ((i+1)*14)=cs.toList.take (i*14)++v:=by
   rw[←hA1,show(i+1)*14=i*14+v.length by omega,List.toList_toArray,Qld (by simp;omega),hROW]
   congr 1
   simp only[Array.toList_append,List.toList_toArray,List.append_assoc]
   rw[List.take_append_of_le_length (by simp;omega),List.take_take,Nat.min_self]
  rw[←hA2,show(n+1)*14=(i+1)*14+vs.length by omega,List.toList_toArray,Qld (by simp;omega),e1]
 have hcpA:∀(W:World),W.heap=(w.drew.alloc (.cells ROW 71)).heap→∀ty c1,(Builtin.copy_ #[37,37] ty #[.slice (some ⟨w.heap.size,i*14,none⟩) (n+1 - i) c1,.slice (some ⟨vb,voff,none⟩) 1 vc]).run Tryz.prog W=.ok (goInt ((1:Nat):Int)) (W.setRow w.heap.size A1):=fun W hW ty c1=>by
  rw[←hA1]
  exact Qh2 W 37 71 ty 14 hT hz _ _ (n+1 - i) c1 ⟨vb,voff,none⟩ 1 vc 1 ROW 71 v (by rw[hW];exact hNb) (Nat.min_eq_left (by omega)) (by rw[hv]) (fun j x hj=>by
   rw[Addr.add_lit]
   have:=hvs j x hj
   unfold World.cell? at this ⊢
   dsimp only at this ⊢
   rw[hW,hOth vb hvw']
   exact this) (by rw[hv];omega) h1v
 have hcpB:∀(W:World),W.heap=((w.drew.alloc (.cells ROW 71)).setRow w.heap.size A1).heap→∀ty c1 c2,(Builtin.copy_ #[37,37] ty #[.slice (some ⟨w.heap.size,(i+1)*14,none⟩) (n - i) c1,.slice (some ⟨b,i*14,none⟩) (n - i) c2]).run Tryz.prog W=.ok (goInt ((n - i:Nat):Int)) (W.setRow w.heap.size A2):=fun W hW ty c1 c2=>by
  rw[←hA2]
  exact Qh2 W 37 71 ty 14 hT hz _ _ (n - i) c1 ⟨b,i*14,none⟩ (n - i) c2 (n - i) A1 71 vs (by rw[hW];exact setRow_heap _ _ ROW A1 71 (0,0) hNb) (Nat.min_self _) hvl (fun j x hj=>by
   have hj':j<(n - i)*14:=by rw[←hvl];exact(List.getElem?_eq_some_iff.1 hj).1
   rw[Addr.add_lit]
   rw[←hvs1,List.getElem?_take,if_pos hj',List.getElem?_drop]at hj
   have:=(hold (i*14+j)).trans hj
   unfold World.cell? at this ⊢
   dsimp only at this ⊢
   rw[hW,setRow_other _ _ _ A1 (by omega),hOth b hbw]
   exact this) (by rw[hvl];omega) h1c
 have hz2:¬((i:Int)=(n:Int)):=by omega
 have hz3:(c:Int)<(n:Int)+1:=by omega
 have hw1:IntKind.i64.wrap ((i:Int)+1)=(i:Int)+1:=by rw[IntKind.wrap_i64];omega
 have hw2:IntKind.i64.wrap ((n:Int)+1)=(n:Int)+1:=by rw[IntKind.wrap_i64];omega
 have hw3:IntKind.i64.wrap ((n:Int)+1 - (i:Int))=(n:Int)+1 - (i:Int):=by rw[IntKind.wrap_i64];omega
 have hb1:(0:Int)≤(i:Int)+1:=by omega
 have hin:i≤n:=by omega
 have htn:((i:Int)+1).toNat=i+1:=by omega
 have hb3:(i:Int)≤(n:Int)+1:=by omega
 have hb4:¬(c=i):=by omega
 have hGi:¬(G=i):=by omega
 have hGim:¬(G=i+1):=by omega
 have hcpA1:=hcpA (w.drew.alloc (.cells ROW 71)) rfl
 have hcpA2:=hcpA ((w.alloc (.cells ROW 71)).drew) rfl
 have hcpB1:=hcpB (((w.alloc (.cells ROW 71)).drew.setRow w.heap.size A1).drew) rfl
 clear hG hROW hold0 hik hA1 hA2
 go_enter Tryz.func158,Tryz.ntmps158
 go_wp2_with (at_builtin;refine Lib.wpList_append_run _ rfl _ _ _ _ rfl _ _ rfl rfl _ _ (hrz _) ?_)
 go_region_law_o (refine step_copy_runI rfl _ _ 37 37 rfl _ _ (by simp[Act.eval,Act.put]) (by simp[Act.eval,Act.put]) (hcpB _ rfl _ _ _) ?_)
 go_wp2
 go_ret
 refine⟨G,A2,rfl,hGn,by rw[hA2s,hRs],hfin,?_,?_⟩
 ·exact setRow_heap _ _ A1 A2 71 (0,0) (setRow_heap _ _ ROW A1 71 (0,0) hNb)
 ·refine⟨by simp[World.setRow],fun k hk _=>?_,rfl,rfl⟩
  exact(setRow_other _ _ _ A2 (by omega)).trans ((setRow_other _ _ _ A1 (by omega)).trans (hOth k hk))
theorem QuZ{rows:List (List PV)}{row:List PV}{i:Nat}{ρ:Name→AM.Loc}{H:Heap}{M:Nat→Prop}{w:World}{cr:List (List Value)}{c:List Value}(h:RR ρ H M w rows cr)(h2:AV.Rs ρ H M w (pcells row) c):
  RR ρ H M w (rows.take i++row::rows.drop i) (cr.take i++c::cr.drop i):=by
 have htake:∀{rows:List (List PV)} {cr:List (List Value)} (i:Nat),RR ρ H M w rows cr→RR ρ H M w (rows.take i) (cr.take i)∧RR ρ H M w (rows.drop i) (cr.drop i):=by
  intro rows
  induction rows with
  |nil=>intro cr i h;simp only[RR]at h;subst h;simp[RR]
  |cons r rs ih=>
   intro cr i h
   cases i with
   |zero=>exact⟨by simp[RR],by simpa using h⟩
   |succ i=>
    simp only[RR]at h
    obtain⟨c0,cr',rfl,g1,g2⟩:=h
    obtain⟨k1,k2⟩:=ih i g2
    simp only[List.take_succ_cons,List.drop_succ_cons,RR]
    exact⟨⟨c0,_,rfl,g1,k1⟩,k2⟩
 obtain⟨k1,k2⟩:=htake i h
 refine k1.append ?_
 simp only[RR]
 exact⟨c,_,rfl,h2,k2⟩
theorem Qu0{rows:List (List PV)}{row:List PV}{i:Nat}(f:Bool)(hi:i<rows.length)(hl:rows.length≤10000000)(hrow:row.length=14):
  XJ Tryz.prog 158 [.own 101 rows.length,.p (.v (.int .i64 i)),.p (.sl f 14 [row])] [(101,.arr 14 rows)] (.own 101 (rows.length+1)) [(101,.arr 14 (rows.take i++row::rows.drop i))]:=by
 intro G ρ M w us hG hM hargs hobj hinj
 simp only[AV.Ts]at hargs
 obtain⟨u0,_,rfl,a0,u1,_,rfl,a1,u2,_,rfl,a2,rfl⟩:=hargs
 simp only[AV.R,PV.R]at a0 a1 a2
 have hob:=hobj 101 _ (show AM.look 101 [(101,AO.arr 14 rows)]=some (.arr 14 rows)from rfl)
 have hu0:=(a0.2 (.arr 14 rows) 14 rows.length rfl rfl).2 rfl
 obtain⟨hes,hcap,hobj'⟩:=hob
 obtain⟨ad,vc,rfl,hvc,_,hnone,hsome⟩:=a2
 have hvc':1≤vc:=by simpa using hvc
 cases ad with
 |none=>exact absurd (hnone rfl) (by omega)
 |some ad=>
 obtain⟨hspot,hMad,hadw,hrows⟩:=hsome ad rfl (by omega)
 obtain⟨vb,voff,sp⟩:=ad
 dsimp only at hspot hMad hadw hrows
 subst hspot
 rcases hobj' with h0|⟨b,T,cs,h3,h4,h5,h6,h7⟩
 ·exact absurd hcap (by rw[h0];omega)
 simp only[PV.Rows]at hrows
 obtain⟨_,hcells,_⟩:=hrows
 obtain⟨cv,cv1,cv2⟩:=QaC (ρ:=ρ) (H:=Xn [(101,AO.arr 14 rows)]) hcells
 obtain⟨cr,m1,m2,m3⟩:=RR.of_Rows (ρ:=ρ) (H:=Xn [(101,AO.arr 14 rows)]) h7
 have hcvl:cv.length=14:=by rw[cv1.length];simp[pcells,hrow]
 have hcrl:=m1.length
 have hlen:=m1.len m2
 have hflat:cr.flatten.length=rows.length*14:=by rw[WT hlen,hcrl]
 have hcsl:rows.length*14≤cs.size:=by rw[h6];exact Nat.mul_le_mul_right 14 hcap
 have hcs:cs.toList.take (rows.length*14)=cr.flatten:=by
  refine List.ext_getElem? fun j=>?_
  rw[List.getElem?_take]
  split
  ·rename_i hj
   have:=m3 j (cr.flatten[j]'(by omega)) (List.getElem?_eq_getElem (by omega))
   rw[Nat.zero_add]at this
   rw[List.getElem?_eq_getElem (l:=cr.flatten) (by omega),←this]
   simp[World.cell?,h5]
  ·rw[List.getElem?_eq_none (by omega)]
 have hmid:(cs.toList.drop (i*14)).take ((rows.length - i)*14)=(cr.drop i).flatten:=by
  rw[←Qf4 i hlen,←hcs,List.drop_take,Nat.sub_mul]
 have hpre:cs.toList.take (i*14)=(cr.take i).flatten:=by
  rw[←Qjb i hlen,←hcs,List.take_take,Nat.min_eq_left (Nat.mul_le_mul_right 14 (by omega))]
 have hvb:vb≠b:=fun e=>hMad (by rw[e];exact h4)
 have hvblk:∃csv tv fv,w.heap[vb]?=some (.cells csv tv fv)∧csv.size≠0:=by
  have hc:=cv2 0 (cv[0]'(by omega)) (List.getElem?_eq_getElem (by omega))
  simp only[World.cell?]at hc
  split at hc
  ·rename_i csv tv fv hh
   refine⟨csv,tv,fv,hh,fun e=>?_⟩
   have:csv=#[]:=Array.eq_empty_of_size_eq_zero e
   subst this;simp at hc
  all_goals simp at hc
 obtain⟨csv,tv,fv,hvw,hvz⟩:=hvblk
 have h1c:∀x∈(cs.toList.drop (i*14)).take ((rows.length - i)*14),x.oneCell'=true:=by
  rw[hmid]
  intro x hx
  refine m1.one x ?_
  rw[←List.take_append_drop i cr,List.flatten_append]
  exact List.mem_append_right _ hx
 have h1v:∀x∈cv,x.oneCell'=true:=QkC cv1
 have hfl2:(cr.take i++cv::cr.drop i).flatten=(cr.take i).flatten++cv++(cr.drop i).flatten:=by simp
 have hrl:(rows.take i++row::rows.drop i).length=rows.length+1:=by simp;omega
 have hr14:∀r∈rows.take i++row::rows.drop i,r.length=14:=by
  intro r hr
  rcases List.mem_append.1 hr with hr|hr
  ·exact m2 r (List.mem_of_mem_take hr)
  ·rcases List.mem_cons.1 hr with rfl|hr
   ·exact hrow
   ·exact m2 r (List.mem_of_mem_drop hr)
 have hall:=QuZ (i:=i) m1 cv1
 have hfl3:(cr.take i++cv::cr.drop i).flatten.length=(rows.length+1)*14:=by rw[WT (hall.len hr14),hall.length,hrl]
 rw[hu0,h3,a1.1]
 have hblk:(ρ 101).blk=some b:=by
  have:(ρ 101).cap≠0:=by omega
  simp[Loc.blk,this,h3]
 have hown:∀(n:Name) (o:AO),AM.look n [(101,AO.arr 14 (rows.take i++row::rows.drop i))]=some o→n=101∧o=.arr 14 (rows.take i++row::rows.drop i):=fun n o hn=>by
  simp only[AM.look]at hn
  split at hn
  ·rename_i e;cases hn;exact⟨e.symm,rfl⟩
  ·simp at hn
 have fin:∀(ρ':Name→AM.Loc) (w':World) (u:Value) (b':Nat) (T':TypeId) (A:Array Value),(ρ' 101).base=some ⟨b',0,none⟩→rows.length+1≤(ρ' 101).cap→A.size=(ρ' 101).cap*14→w'.heap[b']?=some (.cells A T' (0,0))→
   A.toList.take ((rows.length+1)*14)=(cr.take i++cv::cr.drop i).flatten→(∀b1,b1<w.heap.size→newM M ρ' [(101,AO.arr 14 (rows.take i++row::rows.drop i))] b1→M b1)→Ext (fun b1=>b1=b) w w'→
   ((ρ' 101).blk=some b→(ρ 101).blk=some b∨w.heap.size≤b)→(∀b1,(ρ' 101).blk=some b1→b1=b∨w.heap.size≤b1)→u=.slice (ρ' 101).base (rows.length+1) (ρ' 101).cap→
   After ρ M w [(101,AO.arr 14 rows)] u (.own 101 (rows.length+1)) [(101,AO.arr 14 (rows.take i++row::rows.drop i))] ρ' w':=fun ρ' w' u b' T' A e1 e2 e3 e4 e5 e6 e7 _ e9 e10=>by
  have hst:=hall.step (ρ':=ρ') (H':=Xn [(101,AO.arr 14 (rows.take i++row::rows.drop i))]) (M':=newM M ρ' [(101,AO.arr 14 (rows.take i++row::rows.drop i))]) e7 (fun b1 hb1=>by rw[hb1];exact h4) e6
  refine⟨?_,?_,?_,?_,?_,?_⟩
  ·simp only[AV.R]
   refine⟨by rw[e10];rfl,fun o es k hn hs=>?_⟩
   obtain⟨_,rfl⟩:=hown _ _ hn
   cases hs
   exact⟨by omega,fun _=>e10⟩
  ·intro n o hn
   obtain⟨rfl,rfl⟩:=hown _ _ hn
   refine⟨by omega,by rw[hrl];exact e2,.inr ⟨b',T',A,e1,.inr ⟨101,_,rfl,?_⟩,e4,e3,?_⟩⟩
   ·have:(ρ' 101).cap≠0:=by omega
    simp[Loc.blk,this,e1]
   ·refine QbO hst hr14 fun j x hj=>?_
    have hj':j<(rows.length+1)*14:=by rw[←hfl3];exact(List.getElem?_eq_some_iff.1 hj).1
    rw[←e5,List.getElem?_take,if_pos hj']at hj
    simpa [World.cell?,e4]using hj
  ·intro n m o o' b1 hn hm _ _
   rw[(hown _ _ hn).1,(hown _ _ hm).1]
  ·intro n o b1 hn hb1
   obtain⟨rfl,rfl⟩:=hown _ _ hn
   rcases e9 b1 hb1 with rfl|h
   ·exact .inl ⟨_,rfl,hblk⟩
   ·exact .inr h
  ·exact e7.weaken fun b1 _ hb1=>⟨101,_,rfl,by rw[hb1];exact hblk⟩
  ·intro n o hn
   have hn':n=101∧o=.arr 14 rows:=by
    simp only[AM.look]at hn
    split at hn
    ·rename_i e;cases hn;exact⟨e.symm,rfl⟩
    ·simp at hn
   obtain⟨rfl,rfl⟩:=hn'
   exact⟨_,rfl,rfl,by rw[hrl];omega,fun e=>by rw[hrl]at e;omega⟩
 by_cases hroom:rows.length+1≤(ρ 101).cap
 ·refine(Qs1 b rows.length (ρ 101).cap i vb voff vc cs csv T tv fv cv w hi hroom hl hvb h5 h6 hcvl hvw hvz cv2 h1c h1v).mono ?_
  rintro e w' ⟨rfl,rfl⟩
  rw[hmid]
  have hml:(cr.drop i).flatten.length=(rows.length - i)*14:=by rw[WT fun r hr=>hlen r (List.mem_of_mem_drop hr),List.length_drop,hcrl]
  have hs1:(Qv cs.toList ((i+1)*14) (cr.drop i).flatten).toArray.size=cs.size:=by simp[Qv,hml];omega
  have hb1:=setRow_heap w.drew b cs (Qv cs.toList ((i+1)*14) (cr.drop i).flatten).toArray T (0,0) h5
  have hb2:=setRow_heap _ b _ (Qv (Qv cs.toList ((i+1)*14) (cr.drop i).flatten) (i*14) cv).toArray T (0,0) hb1
  refine⟨_,_,_,ρ,rfl,⟨rfl,rfl⟩,fin ρ _ _ b T _ h3 hroom ?_ hb2 ?_ ?_ ?_ (fun h=>.inl h) (fun b1 h=>.inl (by rw[hblk]at h;exact(Option.some.inj h).symm)) (by rw[h3])⟩
  ·rw[←h6];simp[Qv,hml,hcvl];omega
  ·rw[List.toList_toArray,hfl2]
   have e1:(Qv cs.toList ((i+1)*14) (cr.drop i).flatten).take (i*14)=(cr.take i).flatten:=by
    unfold Qv
    rw[List.append_assoc,List.take_append_of_le_length (by simp;omega),List.take_take,Nat.min_eq_left (by omega),hpre]
   have e2:(Qv cs.toList ((i+1)*14) (cr.drop i).flatten).drop (i*14+cv.length)=(cr.drop i).flatten++cs.toList.drop ((i+1)*14+(cr.drop i).flatten.length):=by
    unfold Qv
    rw[List.append_assoc,show i*14+cv.length=(cs.toList.take ((i+1)*14)).length by simp;omega,List.drop_left]
   show(List.take (i*14) _++cv++List.drop (i*14+cv.length) _).take _=_
   rw[e1,e2,←List.append_assoc,List.take_append_of_le_length (by simp only[List.length_append,hml,hcvl];rw[←hpre];simp;omega),List.take_of_length_le (by simp only[List.length_append,hml,hcvl];rw[←hpre];simp;omega)]
  ·rintro b1 _ (h|⟨n,o,hn,h⟩)
   ·exact h
   ·obtain⟨rfl,_⟩:=hown _ _ hn
    rw[hblk]at h
    rw[←Option.some.inj h];exact h4
  ·refine⟨by simp[World.setRow],fun b1 _ hne=>?_,rfl,rfl⟩
   exact(setRow_other _ b b1 _ hne).trans (setRow_other _ b b1 _ hne)
 ·refine(QuX b rows.length (ρ 101).cap i vb voff vc cs csv T tv fv cv w hi hcap (by omega) hl h5 h6 hcvl hvw cv2 h1c h1v).mono ?_
  rintro e w' ⟨G',A,rfl,g1,g2,g3,g4,g5⟩
  have hcap':(G':Nat)≠0:=by omega
  refine⟨_,_,_,(fun m=>if m=101 then⟨some ⟨w.heap.size,0,none⟩,G'⟩else ρ m),rfl,⟨rfl,rfl⟩,fin _ _ _ w.heap.size 71 A rfl g1 g2 g4 ?_ ?_ ?_ ?_ ?_ rfl⟩
  ·rw[g3,hfl2,hpre,hmid]
  ·rintro b1 hb1 (h|⟨n,o,hn,h⟩)
   ·exact h
   ·obtain⟨rfl,_⟩:=hown _ _ hn
    have:w.heap.size=b1:=by simpa [Loc.blk,hcap']using h
    omega
  ·exact g5.weaken fun b1 _ h=>h.elim
  ·intro h
   have:w.heap.size=b:=by simpa [Loc.blk,hcap']using h
   exact .inr (by omega)
  ·intro b1 h
   have:w.heap.size=b1:=by simpa [Loc.blk,hcap']using h
   exact .inr (by omega)
noncomputable section
def QB(fu:Nat)(p0:List D.Page)(p1:Int)(p2:List D.Page):Option (List D.Page):=
 if p1=(p0.length:Int)then Xj fu p0 p1 p2 else natc p1 fun i=>ltc i p0.length (lec p0.length 10000000 (match p2 with|[x]=>some (p0.take i++x::p0.drop i)|_=>none))
def QcR(fu:Nat):Sig:=Qf [.one (.own 101),.one (.num .i64),.one (.lst .Page)] [(101,.arr .Page)] [.one (.own 101)] [(101,.arr .Page)] [] (List D.Page) (fun q=>((),(q,()))) (fun x y=>QB fu y.1 x.1 x.2.1)
theorem Qcf(fu:Nat):FnOK Tryz.prog 158 (QcR fu):=by
 refine⟨fun R x y K r h=>?_,fun x y a b h L0 hL0=>?_⟩
 ·obtain⟨q,hq,h⟩:=Yg h
  obtain⟨h',hle⟩:=QaM h
  refine⟨_,_,?_,h'⟩
  show optc (QB fu y.1 x.1 x.2.1) _=_
  rw[show QB fu y.1 x.1 x.2.1=some q from hq]
  exact Qbj h
 ·obtain⟨j,vl,⟨⟩⟩:=x
  obtain⟨l,⟨⟩⟩:=y
  change List D.Page at l
  change List D.Page at vl
  change Int at j
  by_cases hj:j=(l.length:Int)
  ·refine(QcQ fu).spec (j,vl,()) (l,()) a b ?_ L0 hL0
   have e:QB fu l j vl=Xj fu l j vl:=by unfold QB;rw[if_pos hj]
   have h':(optc (QB fu l j vl) fun q=>lenB [(101,OSh.arr .Page)] (l,()) [(101,OSh.arr .Page)] (q,()) (some ((),(q,()))))=some (a,b):=h
   rw[e]at h'
   exact h'
  ·obtain⟨q,hq,h⟩:=Yg h
   obtain⟨h',_⟩:=QaM h
   obtain⟨rfl,rfl⟩:=Prod.mk.inj (Option.some.inj h')
   replace hq:QB fu l j vl=some q:=hq
   unfold QB at hq
   rw[if_neg hj]at hq
   obtain⟨i,rfl,hq⟩:=QaO hq
   obtain⟨hi,hq⟩:=Qf9 hq
   obtain⟨hl,hq⟩:=YO hq
   have hvl:∃x,vl=[x]:=by
    rcases vl with _|⟨x,_|⟨x2,r⟩⟩
    ·exact absurd hq (by simp)
    ·exact⟨x,rfl⟩
    ·exact absurd hq (by simp)
   obtain⟨x,rfl⟩:=hvl
   replace hi:i<l.length:=hi
   replace hq:some (l.take i++x::l.drop i)=some q:=hq
   have hq:=Option.some.inj hq
   have e0:L0 101 0=l.length:=hL0 101 _ _ 0 rfl
   have hlm:(l.map (tcells .Page)).length=l.length:=List.length_map ..
   have hs:=Qu0 (rows:=l.map (tcells .Page)) (row:=tcells .Page x) (i:=i) false (hlm ▸ hi) (hlm ▸ hl) rfl
   have e1:(l.map (tcells .Page)).take i++tcells .Page x::(l.map (tcells .Page)).drop i=q.map (tcells .Page):=by rw[←hq];simp
   have e2:(l.map (tcells .Page)).length+1=q.length:=by rw[←hq];simp;omega
   rw[e1,e2,hlm,←e0]at hs
   refine⟨fun m u=>if m=101∧u=1 then q.length else L0 m u,fun n hn=>?_,fun n t l' v hn=>?_,?_⟩
   ·show(if n=101∧(0:Nat)=1 then q.length else L0 n 0)=L0 n 0
    rw[if_neg (by simp)]
   ·change AM.look n [(101,BO.arr .Page q 1)]=_ at hn
    simp only[AM.look]at hn
    split at hn
    ·rename_i e;cases hn;exact if_pos ⟨e.symm,rfl⟩
    ·simp at hn
   ·exact hs
end
/-
  What functions do, reckoned from their code, and their contracts. Printed by wip/gen/brun.py.
-/
open Go AM IntKind
noncomputable section
variable (u:Nat)
def Qdz(u:Nat)(b:Int):Option Int:=join (Y:=((Int×Int×Unit)×Unit)) (fun((c,f,_),_)=>join (Y:=((Int×Int×Unit)×Unit)) (fun((e,g,_),_)=>join (Y:=((Int×Int×Unit)×Unit)) (fun((m,n,_),_)=>natc (IntKind.wrap .u8 m) fun h=>ltc h (ByteArray.size (ByteArray.mk (List.toArray (List.append (List.append [0,1,2,2,3,3,3,3,4,4,4,4,4,4,4,4,5,5,5,5,5,5,5,5,5,5,5,5,5,5,5,5,6,6,6,6,6,6,6,6,6,6,6,6,6,6,6,6,6,6,6,6,6,6,6,6,6,6,6,6,6,6,6,6] [7,7,7,7,7,7,7,7,7,7,7,7,7,7,7,7,7,7,7,7,7,7,7,7,7,7,7,7,7,7,7,7,7,7,7,7,7,7,7,7,7,7,7,7,7,7,7,7,7,7,7,7,7,7,7,7,7,7,7,7,7,7,7,7]) (List.append [8,8,8,8,8,8,8,8,8,8,8,8,8,8,8,8,8,8,8,8,8,8,8,8,8,8,8,8,8,8,8,8,8,8,8,8,8,8,8,8,8,8,8,8,8,8,8,8,8,8,8,8,8,8,8,8,8,8,8,8,8,8,8,8] [8,8,8,8,8,8,8,8,8,8,8,8,8,8,8,8,8,8,8,8,8,8,8,8,8,8,8,8,8,8,8,8,8,8,8,8,8,8,8,8,8,8,8,8,8,8,8,8,8,8,8,8,8,8,8,8,8,8,8,8,8,8,8,8]))))) (some (wrap .i64 (n+(wrap .i64 (((bAt (ByteArray.mk (List.toArray (List.append (List.append [0,1,2,2,3,3,3,3,4,4,4,4,4,4,4,4,5,5,5,5,5,5,5,5,5,5,5,5,5,5,5,5,6,6,6,6,6,6,6,6,6,6,6,6,6,6,6,6,6,6,6,6,6,6,6,6,6,6,6,6,6,6,6,6] [7,7,7,7,7,7,7,7,7,7,7,7,7,7,7,7,7,7,7,7,7,7,7,7,7,7,7,7,7,7,7,7,7,7,7,7,7,7,7,7,7,7,7,7,7,7,7,7,7,7,7,7,7,7,7,7,7,7,7,7,7,7,7,7]) (List.append [8,8,8,8,8,8,8,8,8,8,8,8,8,8,8,8,8,8,8,8,8,8,8,8,8,8,8,8,8,8,8,8,8,8,8,8,8,8,8,8,8,8,8,8,8,8,8,8,8,8,8,8,8,8,8,8,8,8,8,8,8,8,8,8] [8,8,8,8,8,8,8,8,8,8,8,8,8,8,8,8,8,8,8,8,8,8,8,8,8,8,8,8,8,8,8,8,8,8,8,8,8,8,8,8,8,8,8,8,8,8,8,8,8,8,8,8,8,8,8,8,8,8,8,8,8,8,8,8])))) h):Nat):Int)))))) fun i=>cd (256≤e) (natc 8 fun o=>i (((Int.fdiv e (HPow.hPow 2 (min o (Go.IntKind.bits Go.IntKind.u64)))),(wrap .i64 (g+8)),()),())) (i ((e,g,()),()))) fun j=>cd (65536≤c) (natc 16 fun k=>j (((Int.fdiv c (HPow.hPow 2 (min k (Go.IntKind.bits Go.IntKind.u64)))),(wrap .i64 (f+16)),()),())) (j ((c,f,()),()))) fun a=>cd (4294967296≤b) (natc 32 fun l=>a (((Int.fdiv b (HPow.hPow 2 (min l (Go.IntKind.bits Go.IntKind.u64)))),32,()),())) (a ((b,0,()),()))
theorem Qga:FO 125 (sI [.one (.num .u64)] fun x=>Qdz u x.1):=fI u (.two .go (.two (.join [(0,.one (.num .u64)),ni 2] [] .go) (.two (.join [(0,.one (.num .u64)),ni 2] [] .go) (.two (.join [(0,.one (.num .u64)),ni 2] [] .go) .go)))) kz0 eN Tryz.func125
def Qaf(a:Int):Option Int:=optc (Qdz u a) fun b=>some b
theorem QcZ:FO 79 (sI [.one (.num .u64)] fun x=>Qaf u x.1):=fI u .go kz0 (eC (Qga u) eN) Tryz.func79
def Y8(G:List Int)(q:Int)(H:Int):Option (List Int):=Qh (X:=(P3×List Int×Unit)) (fun I ((J,r,p,_),s,_)=>cd (p<r) (join (Y:=(P3×List Int×Unit)) (fun((L,O,S,_),W,_)=>I ((L,O,(wrap .i64 (S+1)),()),W,())) fun t=>Qh (X:=(P4×List Int×Unit)) (fun v ((f,h,i,g,_),b,_)=>join (Y:=(P4×List Int×Unit)) (fun((w,y,z,c,_),a,_)=>natc (wrap .i64 (c - 1)) fun l=>ltc l a.length (optc a[l]? fun j=>natc c fun m=>ltc m a.length (optc a[m]? fun A=>natc c fun e=>ltc e a.length (optc a[e]? fun Z=>natc (wrap .i64 (c - 1)) fun k=>ltc k (List.set a e j).length (optc (GetElem?.getElem? (List.set a e j) k) fun a0=>v ((w,y,z,(wrap .i64 (c - 1)),()),(List.set (List.set a e j) k A),())))))) fun B=>cd (f<g) (natc g fun n=>ltc n b.length (optc b[n]? fun C=>natc (wrap .i64 (g - 1)) fun o=>ltc o b.length (optc b[o]? fun E=>optc (Vd u C E) fun F=>cnd F (B ((f,h,i,g,()),b,())) (t ((f,h,i,()),b,()))))) (t ((f,h,i,()),b,()))) u ((J,r,p,p,()),s,())) (some s)) u ((q,H,(wrap .i64 (q+1)),()),G,())
theorem WR:FO 115 (Qf [.one (.own 101),nI,nI] [ar 101 .int] [] [(101,.arrs .int)] [] (List Int) kz8 (fun x y=>Y8 u y.1 x.1 x.2.1)):=fI u (.two .go (.one (.loop [(0,.one (.own 101)),ni 1,ni 2,ni 6] [ar 101 .int] (.two .go (.two (.join [(0,.one (.own 101)),ni 1,ni 2,ni 6] [ar 101 .int] (.one (.two .go (.one (.loop [(0,.one (.own 101)),ni 1,ni 2,ni 6,ni 7] [ar 101 .int] (.two (.join [(0,.one (.own 101)),ni 1,ni 2,ni 6,ni 7] [ar 101 .int] .go) .go)))))) .go))))) kz12 (eC (QaH u) eN) Tryz.func115
def Wq(f:List Int)(g:Int)(h:Int)(i:Int):Option (List Int):=Qh (X:=((Int×Int×Int×Bool×Bool×Unit)×List Int×Unit)) (fun l ((a,b,j,k,m,_),c,_)=>cd ((wrap .i64 (b - a))≤12) (optc (Y8 u c a b) fun e=>chk e.length c.length (some e)) (cd (j=0) none (cnd (!k) none none))) u ((g,h,i,true,true,()),f,())
theorem UO:FO 78 (Qf [.one (.own 101),nI,nI,nI] [ar 101 .int] [] [(101,.arrs .int)] [] (List Int) kz8 (fun x y=>Wq u y.1 x.1 x.2.1 x.2.2.1)):=fI u (gs 2 (.one (.loop [(0,.one (.own 101)),ni 1,ni 2,ni 3,(8,.one .boo),(9,.one .boo)] [ar 101 .int] .go))) kz12 (eC (WR u) eN) Tryz.func78
def Ui(a:List Int):Option (List Int):=optc (Qaf u (IntKind.wrap .u64 (a.length:Int))) fun c=>optc (Wq u a 0 (a.length:Int) c) fun b=>chk b.length a.length (some b)
theorem QeQ:FO 47 (Qf [.one (.own 101)] [ar 101 .int] [] [(101,.arrs .int)] [] (List Int) kz8 (fun x y=>Ui u y.1)):=fI u .go kz12 (eC (UO u) (eC (QcZ u) eN)) Tryz.func47
end
/-
  slices.Sort of numbers in an array of ours: its contract, by the kit's.
-/
open Go Go.RowKit Go.Shelf Go.Proofs AM
def QdX(zs:List Int):List (List PV):=zs.map fun z=>[PV.v (.int .i64 z)]
theorem QfG{M:Nat→Prop}{w:World}{b:Nat}:∀{zs:List Int} {off:Nat},PV.Rows M w b 1 off (QdX zs)↔∀j z,zs[j]?=some z→w.cell? ⟨b,off+j,none⟩=some (.int .i64 z)
 |[],off=>by simp[QdX,PV.Rows]
 |y::r,off=>by
  have ih:=QfG (M:=M) (w:=w) (b:=b) (zs:=r) (off:=off+1)
  show PV.Rows M w b 1 off ([PV.v (.int .i64 y)]::QdX r)↔_
  simp only[PV.Rows,PV.Cells,PV.R,ih]
  constructor
  ·rintro⟨_,⟨⟨u,h1,rfl,_⟩,_⟩,h2⟩ j z hj
   cases j with
   |zero=>simp at hj;subst hj;exact h1
   |succ j=>have:=h2 j z (by simpa using hj);rwa [Nat.add_assoc,Nat.add_comm 1 j]at this
  ·intro h
   refine⟨rfl,⟨⟨_,h 0 y (by simp),rfl,rfl⟩,trivial⟩,fun j z hj=>?_⟩
   have:=h (j+1) z (by simpa using hj)
   rwa [Nat.add_assoc,Nat.add_comm 1 j]
theorem Qt2{zs:List Int}(h0:0<zs.length)(hl:zs.length≤10000000):
  XJ Tryz.prog 47 [.own 101 zs.length] [(101,.arr 1 (QdX zs))] (.tup []) [(101,.arr 1 (QdX (zs.mergeSort fun x y=>decide (x≤y))))]:=by
 intro G ρ M w us hG hM hargs hobj hinj
 have hrl:(QdX zs).length=zs.length:=List.length_map ..
 simp only[AV.Ts]at hargs
 obtain⟨u0,_,rfl,a0,rfl⟩:=hargs
 simp only[AV.R]at a0
 obtain⟨hes,hcap,hob⟩:=hobj 101 _ (show AM.look 101 [(101,AO.arr 1 (QdX zs))]=some (.arr 1 (QdX zs))from rfl)
 have hu0:=(a0.2 (.arr 1 (QdX zs)) 1 (QdX zs).length rfl rfl).2 hrl.symm
 rw[hrl]at hcap
 rcases hob with hz|⟨b,T,cs,h3,h4,h5,h6,h7⟩
 ·omega
 have hc:=QfG.1 h7
 have ht:cs.toList.take zs.length=zs.map (Value.int .i64):=by
  refine List.ext_getElem? fun j=>?_
  by_cases hj:j<zs.length
  ·have:=hc j zs[j] (List.getElem?_eq_getElem hj)
   rw[List.getElem?_take_of_lt hj,List.getElem?_map,List.getElem?_eq_getElem hj,Option.map_some,←this]
   simp[World.cell?,h5]
  ·rw[List.getElem?_take_eq_none (by omega),List.getElem?_eq_none (by simp;omega)]
 have hH:=holds_of_blockI h5 ht
 rw[hu0,h3]
 refine(Any.slices_Sort_int lays189 b 0 (ρ 101).cap zs w hH (hM b h4) (by omega)).mono ?_
 rintro e w' ⟨rfl,nn,os,rfl⟩
 obtain⟨S,hS⟩:∃S,(zs.mergeSort fun x y=>decide (x≤y))=S:=⟨_,rfl⟩
 have hSl:S.length=zs.length:=by rw[←hS];exact List.length_mergeSort zs
 rw[hS]
 have hb':=heap_sortedI (n:=nn) (os:=os) S.toArray h5
 obtain⟨q1,q2,q3,q4,q5⟩:=grownBy_sortedI (w:=w) (g:=b) (n:=nn) (os:=os) S.toArray
 have hown:∀(n:Name) (o:AO) (X:List Int),AM.look n [(101,AO.arr 1 (QdX X))]=some o→n=101∧o=.arr 1 (QdX X):=fun n o X hn=>by
  simp only[AM.look]at hn
  split at hn
  ·rename_i e;cases hn;exact⟨e.symm,rfl⟩
  ·simp at hn
 have hblk:(ρ 101).blk=some b:=by
  have:(ρ 101).cap≠0:=by omega
  simp[Loc.blk,this,h3]
 refine⟨_,_,_,ρ,rfl,⟨rfl,rfl⟩,?_,?_,?_,?_,?_,?_⟩
 ·simp only[AV.R,AV.Ts]
  exact⟨#[],rfl,rfl⟩
 ·intro n o hn
  obtain⟨rfl,rfl⟩:=hown _ _ _ hn
  refine⟨by omega,by show(QdX S).length≤_;unfold QdX;rw[List.length_map,hSl];exact hcap,.inr ⟨b,T,_,h3,.inr ⟨101,_,rfl,hblk⟩,hb',by simp[Sort.putCells,h6],QfG.2 fun j z hj=>?_⟩⟩
  have hj':j<S.length:=(List.getElem?_eq_some_iff.1 hj).1
  have htk:=take_putCellsI cs S (by omega)
  have:((Sort.putCells (Value.int .i64) 0 S.toArray cs).toList.take S.length)[j]?=some (.int .i64 z):=by rw[htk,List.getElem?_map,hj];rfl
  rw[List.getElem?_take_of_lt hj']at this
  rw[Nat.zero_add]
  simpa [World.cell?,hb']using this
 ·intro n m o o' b1 hn hm _ _
  rw[(hown _ _ _ hn).1,(hown _ _ _ hm).1]
 ·intro n o b1 hn hb1
  obtain⟨rfl,rfl⟩:=hown _ _ _ hn
  exact .inl ⟨_,rfl,hb1⟩
 ·refine⟨q4,fun k hk hne=>q5 k hk fun e=>hne ⟨101,_,rfl,?_⟩,q1,q3⟩
  rw[hblk];first|exact e|exact e.symm
 ·intro n o hn
  obtain⟨rfl,rfl⟩:=hown _ _ _ hn
  exact⟨_,rfl,rfl,by show(QdX zs).length≤(QdX S).length;unfold QdX;simp[hSl],fun e=>by simp⟩
noncomputable section
def QL(fu:Nat)(p0:List Int):Option (List Int):=if p0.length=0 then Ui fu p0 else lec p0.length 10000000 (some (p0.mergeSort fun x y=>decide (x≤y)))
def QeR(fu:Nat):Sig:=Qf [.one (.own 101)] [(101,.arr .int)] [] [(101,.arrs .int)] [] (List Int) (fun q=>((),(q,()))) (fun x y=>QL fu y.1)
theorem UN(fu:Nat):FnOK Tryz.prog 47 (QeR fu):=by
 refine⟨fun R x y K r h=>?_,fun x y a b h L0 hL0=>?_⟩
 ·obtain⟨q,hq,h⟩:=Yg h
  obtain⟨h',hle⟩:=QaM h
  refine⟨_,_,?_,h'⟩
  show optc (QL fu y.1) _=_
  rw[show QL fu y.1=some q from hq]
  exact Qbj h
 ·obtain⟨l,⟨⟩⟩:=y
  change List Int at l
  by_cases hj:l.length=0
  ·refine(QeQ fu).spec () (l,()) a b ?_ L0 hL0
   have e:QL fu l=Ui fu l:=by unfold QL;rw[if_pos hj]
   have h':(optc (QL fu l) fun q=>lenB [(101,OSh.arr .int)] (l,()) [(101,OSh.arrs .int)] (q,()) (some ((),(q,()))))=some (a,b):=h
   rw[e]at h'
   exact h'
  ·obtain⟨q,hq,h⟩:=Yg h
   obtain⟨h',_⟩:=QaM h
   obtain⟨rfl,rfl⟩:=Prod.mk.inj (Option.some.inj h')
   replace hq:QL fu l=some q:=hq
   unfold QL at hq
   rw[if_neg hj]at hq
   obtain⟨hl,hq⟩:=YO hq
   have hq:=Option.some.inj hq
   have e0:L0 101 0=l.length:=hL0 101 _ _ 0 rfl
   have hs:=Qt2 (zs:=l) (by omega) hl
   rw[hq,←e0]at hs
   have hql:q.length=l.length:=by rw[←hq];exact List.length_mergeSort l
   refine⟨L0,fun n hn=>rfl,fun n t l' v hn=>?_,?_⟩
   ·change AM.look n [(101,BO.arr .int q 0)]=_ at hn
    simp only[AM.look]at hn
    split at hn
    ·rename_i e;cases hn;rw[←e,e0,hql]
    ·simp at hn
   ·exact hs
end
/-
  What functions do, reckoned from their code, and their contracts. Printed by wip/gen/brun.py.
-/
open Go AM IntKind
noncomputable section
abbrev bI0:List Sh:=[kI,kI,kI,kI,kI,kI,kI,kI,kI,kI,kI,.own 1038025,.own 1038030,.own 1038033]
variable (u:Nat)
def QgY(u:Nat)(a:List Int):Option Bool:=some (decide ((a.length:Int)≤500))
theorem QlU:FO 8 (sB [lI] fun x=>QgY u x.1):=fI u .go kz0 eN Tryz.func8
def Qdy(u:Nat)(a:List Int):Option D.Dice:=some (D.Dice.mk a 0)
theorem Qhv:FO 10 (Qf [lI] [] [.one (.ref 1005)] [bx 1005 .Dice] [] D.Dice kz8 (fun x y=>Qdy u x.1)):=fI u .go kz12 eN Tryz.func10
def XA(u:Nat)(a:Int)(b:Int)(c:Int):Option Bool:=cd (b≤a) (cd (a≤c) sT sF) sF
theorem QcA:FO 74 (sB [nI,nI,nI] fun x=>XA u x.1 x.2.1 x.2.2.1):=fI u .go kz0 eN Tryz.func74
def UW(b:List Int)(g:Int):Option Int:=Qh (X:=((List Int×Int×Int×Int×Unit)×Unit)) (fun h ((c,e,f,a,_),_)=>cd (a<f) (atc c a fun i=>cd (e=i) (some a) (h ((c,e,f,(wrap .i64 (a+1)),()),()))) (some (-1))) u ((b,g,(b.length:Int),0,()),())
theorem QfJ:FO 156 (sI [lI,nI] fun x=>UW u x.1 x.2.1):=fI u (.two .go (lp [(0,lI),ni 1,ni 7,ni 8] [] .go)) kz0 eN Tryz.func156
def Z8(a:List Int)(b:Int):Option Bool:=optc (UW u a b) fun c=>some (decide (0≤c))
theorem XZ:FO 98 (sB [lI,nI] fun x=>Z8 u x.1 x.2.1):=fI u .go kz0 (eC (QfJ u) eN) Tryz.func98
def Qel(f:List Int):Option Bool:=Qh (X:=((List Int×List Int×Int×Int×Unit)×Unit)) (fun k ((a,g,h,b,_),_)=>cd (b<h) (join (Y:=((List Int×List Int×Int×Int×Unit)×Unit)) (fun((l,m,n,o,_),_)=>k ((l,m,n,(wrap .i64 (o+1)),()),())) fun p=>atc g b fun c=>optc (XA u c 1 1099511627776) fun i=>cnd i (natc b fun e=>lec e a.length (optc (Z8 u (List.take e a) c) fun j=>cnd j sF (p ((a,g,h,b,()),())))) sF) (some (decide ((a.length:Int)≤256)))) u ((f,f,(f.length:Int),0,()),())
theorem Ql5:FO 75 (sB [lI] fun x=>Qel u x.1):=fI u (.two .go (lp [(0,lI),(5,lI),ni 6,ni 7] [] (gs 2 (.two (.join [(0,lI),(5,lI),ni 6,ni 7] [] .go) .go)))) kz0 (eC (QcA u) (eC (XZ u) eN)) Tryz.func75
def Yh(u:Nat)(a:Int)(b:Int)(c:Int):Option Bool:=cd (b≤a) (cd (a≤c) sT sF) sF
theorem Wg:FO 179 (sB [nI,nI,nI] fun x=>Yh u x.1 x.2.1 x.2.2.1):=fI u .go kz0 eN Tryz.func179
def Qeq(g:D.Config)(e:List Int):Option Int:=cd ((e.length:Int)=0) (some 7) (Qh (X:=((List Int×Int×Unit)×D.Config×Unit)) (fun h ((a,b,_),c,_)=>cd (b<(a.length:Int)) (atc a b fun i=>atc a (wrap .i64 (b - 1)) fun j=>cd (i≤j) (some 6) (h ((a,(wrap .i64 (b+1)),()),c,()))) (join (Y:=(Unit×Unit)) (fun(_,_)=>some 0) fun k=>atc a 0 fun l=>optc (Yh u l 0 (wrap .i64 ((c.People.length:Int) - 1))) fun m=>cnd m (atc a (wrap .i64 ((a.length:Int) - 1)) fun n=>optc (Yh u n 0 (wrap .i64 ((c.People.length:Int) - 1))) fun f=>cnd f (k ((),())) (some 3)) (some 3))) u ((e,1,()),g,()))
theorem Ql9:FO 108 (sI [.st .Config,lI] fun x=>Qeq u x.1 x.2.1):=fI u (gs 2 (.two (.two .go (.one (.loop [(1,lI),rf 2,ni 5] [bx 1002 .Config] .go))) (.two (.join [] [] .go) .go))) kz0 (eC (Wg u) eN) Tryz.func108
def Wh(u:Nat)(a:D.Config)(b:D.Book):Option D.Arr3Int:=some (D.Arr3Int.mk (a.People.length:Int) (a.Schedules.length:Int) (b.Teams.length:Int))
theorem QdD:FO 248 (Qf [.st .Config,.st .Book] [] [.st .Arr3Int] [] [] D.Arr3Int kz1 (fun x y=>Wh u x.1 x.2.1)):=fI u .go kz0 eN Tryz.func248
def QcC(v:D.Config)(w:D.Book)(e:D.PolicyStep):Option Int:=optc (Yh u e.Wait 0 86400) fun y=>cnd (!y) (some 1) (cd (6<(e.Targets.length:Int)) (some 5) (optc (Wh u v w) fun k=>Qh (X:=((List D.Target×Int×Int×Unit)×P3×Unit)) (fun z ((f,g,b,_),(h,i,j,_),_)=>cd (b<g) (join (Y:=((List D.Target×Int×Int×Unit)×P3×Unit)) (fun((A,l,m,_),(n,o,p,_),_)=>z ((A,l,(wrap .i64 (m+1)),()),(n,o,p,()),())) fun c=>atc f b fun a=>optc (Yh u a.Kind 0 2) fun q=>cnd q (cd (a.Kind=((0:Nat):Int)) (optc (Yh u a.Index 0 (wrap .i64 (h - 1))) fun r=>cnd r (c ((f,g,b,()),(h,i,j,()),())) (some 3)) (cd (a.Kind=(((0+1):Nat):Int)) (optc (Yh u a.Index 0 (wrap .i64 (i - 1))) fun s=>cnd s (c ((f,g,b,()),(h,i,j,()),())) (some 3)) (cd (a.Kind=((((0+1)+1):Nat):Int)) (optc (Yh u a.Index 0 (wrap .i64 (j - 1))) fun t=>cnd t (c ((f,g,b,()),(h,i,j,()),())) (some 3)) none))) (some 3)) (some 0)) u ((e.Targets,(e.Targets.length:Int),0,()),(k.a0,k.a1,k.a2,()),())))
theorem Qks:FO 181 (sI [.st .Config,.st .Book,.st .PolicyStep] fun x=>QcC u x.1 x.2.1 x.2.2.1):=fI u (gs 4 (lp [rf 7,li 22 .Target,ni 23,ni 24] [(1007,.box [kI,kI,kI])] (gs 2 (.two (.join [rf 7,li 22 .Target,ni 23,ni 24] [(1007,.box [kI,kI,kI])] .go) .go)))) kz0 (eC (Wg u) (eC (QdD u) eN)) Tryz.func181
def WP(u:Nat)(b:Int)(a:D.Book):Option ByteArray:=atc a.Policies b fun c=>sameC a a (some c.Name)
theorem Qg8:FO 180 (Qf [nI,.one (.ref 101)] [bx 101 .Book] [.one .str] [] [101] ByteArray kz1 (fun x y=>WP u x.1 y.1)):=fI u .go kz0 eN Tryz.func180
def Zr(c:Int)(c101:D.Book):Option Bool:=Qh (X:=(P3×D.Book×Unit)) (fun g ((e,f,b,_),a,_)=>cd (b<f) (optc (WP u b a) fun h=>optc (WP u e a) fun i=>cd (h=i) (sameC a c101 sT) (g ((e,f,(wrap .i64 (b+1)),()),a,()))) (sameC a c101 sF)) u ((c,c,0,()),c101,())
theorem Vu:FO 106 (Qf [nI,.one (.clo 180 [101])] [bx 101 .Book] [.one .boo] [] [101] Bool kz1 (fun x y=>Zr u x.1 y.1)):=fI u (.two .go (lp [ni 0,(1,.one (.clo 180 [101])),ni 6,ni 7] [bx 101 .Book] .go)) kz0 (eC (Qg8 u) eN) Tryz.func106
def QdC(l:D.Config)(c:D.Book)(f:Int):Option Int:=atc c.Policies f fun a=>optc (Qas u a.Name) fun m=>cnd (!m) (some 8) (optc (Zr u f c) fun n=>cnd n (some 4) (cd ((a.Steps.length:Int)=0) (some 7) (cd (8<(a.Steps.length:Int)) (some 5) (optc (Yh u a.Repeat 0 8) fun o=>cnd (!o) (some 1) (Qh (X:=((List D.PolicyStep×Int×Int×Unit)×D.Config×D.Book×Unit)) (fun p ((g,h,e,_),i,j,_)=>cd (e<h) (atc g e fun k=>optc (QcC u i j k) fun b=>cd (b≠0) (some b) (p ((g,h,(wrap .i64 (e+1)),()),i,j,()))) (some 0)) u ((a.Steps,(a.Steps.length:Int),0,()),l,c,()))))))
theorem Qjy:FO 109 (sI [.st .Config,.st .Book,nI] fun x=>QdC u x.1 x.2.1 x.2.2.1):=fI u (gs 3 (lp [rf 3,rf 4,li 41 .PolicyStep,ni 42,ni 43] [bx 1003 .Config,bx 1004 .Book] .go)) kz0 (eC (Qcv u) (eC (Vu u) (eC (Wg u) (eC (Qks u) eN)))) Tryz.func109
def WO(u:Nat)(b:Int)(a:D.Book):Option ByteArray:=atc a.Teams b fun c=>sameC a a (some c.Name)
theorem Qg7:FO 107 (Qf [nI,.one (.ref 101)] [bx 101 .Book] [.one .str] [] [101] ByteArray kz1 (fun x y=>WO u x.1 y.1)):=fI u .go kz0 eN Tryz.func107
def Zq(c:Int)(c101:D.Book):Option Bool:=Qh (X:=(P3×D.Book×Unit)) (fun g ((e,f,b,_),a,_)=>cd (b<f) (optc (WO u b a) fun h=>optc (WO u e a) fun i=>cd (h=i) (sameC a c101 sT) (g ((e,f,(wrap .i64 (b+1)),()),a,()))) (sameC a c101 sF)) u ((c,c,0,()),c101,())
theorem Vt:FO 106 (Qf [nI,.one (.clo 107 [101])] [bx 101 .Book] [.one .boo] [] [101] Bool kz1 (fun x y=>Zq u x.1 y.1)):=fI u (.two .go (lp [ni 0,(1,.one (.clo 107 [101])),ni 6,ni 7] [bx 101 .Book] .go)) kz0 (eC (Qg7 u) eN) Tryz.func106
def Qbq(m:D.Config)(j:D.Book):Option Int:=optc (QX u m) fun v=>cd (v≠0) (some 8) (join (Y:=(Unit×D.Config×D.Book×Unit)) (fun(_,w,k,_)=>Qh (X:=((List D.Team×Int×Int×Unit)×D.Config×D.Book×Unit)) (fun y ((n,o,b,_),l,c,_)=>cd (b<o) (atc n b fun p=>optc (Qas u p.Name) fun q=>cnd (!q) (some 8) (optc (Zq u b c) fun r=>cnd r (some 4) (optc (Qeq u l p.Members) fun e=>cd (e≠0) (some e) (y ((n,o,(wrap .i64 (b+1)),()),l,c,()))))) (Qh (X:=((Int×Int×Unit)×D.Config×D.Book×Unit)) (fun s ((f,a,_),g,h,_)=>cd (a<f) (optc (QdC u g h a) fun i=>cd (i≠0) (some i) (s ((f,(wrap .i64 (a+1)),()),g,h,()))) (some 0)) u (((c.Policies.length:Int),0,()),l,c,()))) u ((k.Teams,(k.Teams.length:Int),0,()),w,k,())) fun t=>cd (8<(j.Teams.length:Int)) (some 5) (cd (12<(j.Policies.length:Int)) (some 5) (t ((),m,j,()))))
theorem Qjx:FO 76 (sI [.st .Config,.st .Book] fun x=>Qbq u x.1 x.2.1):=fI u (gs 2 (.two (.join [rf 2,rf 3] [bx 1002 .Config,bx 1003 .Book] .go) (.two (.two .go (.one (.loop [rf 2,rf 3,li 24 .Team,ni 25,ni 26] [bx 1002 .Config,bx 1003 .Book] .go))) (lp [rf 2,rf 3,ni 48,ni 49] [bx 1002 .Config,bx 1003 .Book] .go)))) kz0 (eC (UU u) (eC (Qcv u) (eC (Vt u) (eC (Ql9 u) (eC (Qjy u) eN))))) Tryz.func76
def QY(u:Nat)(a:Int)(b:Int)(c:Int):Option Bool:=cd (b≤a) (cd (a≤c) sT sF) sF
theorem XS:FO 182 (sB [nI,nI,nI] fun x=>QY u x.1 x.2.1 x.2.2.1):=fI u .go kz0 eN Tryz.func182
def We(a:D.Policy):Option Int:=join (Y:=(Unit×D.Policy×Unit)) (fun(_,b,_)=>some (wrap .i64 ((b.Steps.length:Int)*(wrap .i64 (b.Repeat+1))))) fun c=>optc (Yh u a.Repeat 0 8) fun e=>cnd e (cd (8<(a.Steps.length:Int)) (some 0) (c ((),a,()))) (some 0)
theorem QaR:FO 185 (sI [.st .Policy] fun x=>We u x.1):=fI u (.two .go (.two (.join [rf 1] [bx 1001 .Policy] .go) .go)) kz0 (eC (Wg u) eN) Tryz.func185
def Uq(a:D.Page):Option Bool:=optc (QY u a.Last a.Start 17179869184) fun b=>cnd b (optc (QY u a.Due 0 17179869184) fun c=>cnd c (optc (QY u a.Until 0 17179869184) fun e=>cnd e (optc (QY u a.Snoozes 0 4) fun f=>cnd f (optc (QY u a.Hands 0 4) fun g=>cnd g sT sF) sF) sF) sF) sF
theorem QgO:FO 186 (sB [.st .Page] fun x=>Uq u x.1):=fI u .go kz0 (eC (XS u) eN) Tryz.func186
def UC(c:List Int):Option Bool:=Qh (X:=((List Int×List Int×Int×Int×Unit)×Unit)) (fun k ((e,f,g,a,_),_)=>cd (a<g) (join (Y:=((List Int×List Int×Int×Int×Unit)×Unit)) (fun((l,m,n,o,_),_)=>k ((l,m,n,(wrap .i64 (o+1)),()),())) fun h=>atc f a fun b=>optc (QY u b 0 31) fun i=>cnd i (cd (0<a) (atc e (wrap .i64 (a - 1)) fun j=>cd (b≤j) sF (h ((e,f,g,a,()),()))) (h ((e,f,g,a,()),()))) sF) sT) u ((c,c,(c.length:Int),0,()),())
theorem Qds:FO 188 (sB [lI] fun x=>UC u x.1):=fI u (.two .go (lp [(0,lI),(5,lI),ni 6,ni 7] [] (gs 2 (.two (.join [(0,lI),(5,lI),ni 6,ni 7] [] .go) .go)))) kz0 (eC (XS u) eN) Tryz.func188
def WS(b:D.Page):Option Bool:=Qh (X:=((Int×Int×List D.Start×Int×Int×Unit)×D.Page×Unit)) (fun p ((q,h,i,j,c,_),e,_)=>cd (c<j) (atc i c fun a=>join (Y:=((Int×List D.Start×Int×Int×Unit)×D.Page×D.Start×Unit)) (fun((r,s,k,l,_),m,f,_)=>p ((f.At,(max r f.K),s,k,(wrap .i64 (l+1)),()),m,())) fun g=>cd (a.At<q) sF (optc (UC u a.People) fun n=>cnd n (cd (a.K≠(-1)) (optc (QY u a.K (wrap .i64 (h+1)) (wrap .i64 (e.Next - 1))) fun o=>cnd o (g ((h,i,j,c,()),e,a,())) sF) (g ((h,i,j,c,()),e,a,()))) sF)) (some (decide ((e.Starts.length:Int)≤200)))) u ((b.Start,(-1),b.Starts,(b.Starts.length:Int),0,()),b,())
theorem Qfj:FO 187 (sB [.st .Page] fun x=>WS u x.1):=fI u (gs 2 (lp [rf 1,ni 3,ni 4,li 10 .Start,ni 11,ni 12] [bx 1001 .Page] (gs 2 (.two (.one (.two .go (.two (.join [rf 1,ni 4,rf 6,li 10 .Start,ni 11,ni 12] [bx 1001 .Page,bx 1006 .Start] .go) .go))) .go)))) kz0 (eC (XS u) (eC (Qds u) eN)) Tryz.func187
def Qab(c:List Int):Option Bool:=Qh (X:=((List Int×List Int×Int×Int×Unit)×Unit)) (fun h ((a,e,f,b,_),_)=>cd (b<f) (atc e b fun i=>natc b fun g=>lec g a.length (optc (Z8 u (List.take g a) i) fun j=>cnd j sF (h ((a,e,f,(wrap .i64 (b+1)),()),())))) (some (decide ((a.length:Int)≤64)))) u ((c,c,(c.length:Int),0,()),())
theorem QhL:FO 189 (sB [lI] fun x=>Qab u x.1):=fI u (.two .go (lp [(0,lI),(5,lI),ni 6,ni 7] [] .go)) kz0 (eC (XZ u) eN) Tryz.func189
def US(a:D.PolicyStep):Option Bool:=optc (QY u a.Wait 0 86400) fun b=>some (!b)
theorem Qfi:FO 184 (sB [.st .PolicyStep] fun x=>US u x.1):=fI u .go kz0 (eC (XS u) eN) Tryz.func184
def QW(b:List D.PolicyStep):Option Int:=Qh (X:=((List D.PolicyStep×Int×Int×Unit)×Unit)) (fun f ((c,e,a,_),_)=>cd (a<e) (atc c a fun g=>optc (US u g) fun h=>cnd h (some a) (f ((c,e,(wrap .i64 (a+1)),()),()))) (some (-1))) u ((b,(b.length:Int),0,()),())
theorem YV:FO 249 (sI [.one (.lst .PolicyStep),.one (.fv 184)] fun x=>QW u x.1):=fI u (.two .go (lp [li 0 .PolicyStep,(1,.one (.fv 184)),ni 7,ni 8] [] .go)) kz0 (eC (Qfi u) eN) Tryz.func249
def Qo(a:List D.PolicyStep):Option Bool:=optc (QW u a) fun b=>some (decide (0≤b))
theorem YG:FO 183 (sB [.one (.lst .PolicyStep),.one (.fv 184)] fun x=>Qo u x.1):=fI u .go kz0 (eC (YV u) eN) Tryz.func183
def Z9(e:D.Book)(b:D.Page):Option Bool:=join (Y:=(Unit×D.Book×D.Page×Unit)) (fun(_,o,c,_)=>atc o.Policies c.Policy fun f=>join (Y:=(Unit×D.Page×Unit)) (fun(_,a,_)=>optc (QY u a.State 0 4) fun p=>cnd p (optc (QY u a.By (-1) 31) fun q=>cnd q (optc (Uq u a) fun r=>cnd r (optc (WS u a) fun s=>cnd s (optc (UC u a.Declined) fun t=>cnd t (optc (Qab u a.Seen) fun v=>cnd v sT sF) sF) sF) sF) sF) sF) fun g=>optc (Qo u f.Steps) fun h=>cnd h sF (optc (We u f) fun i=>optc (QY u c.Next 0 i) fun j=>cnd j (g ((),c,())) sF)) fun k=>optc (QY u b.ID 1 999999) fun l=>cnd l (optc (QY u b.Policy 0 (wrap .i64 ((e.Policies.length:Int) - 1))) fun m=>cnd m (optc (QY u b.Start 0 8589934592) fun n=>cnd n (k ((),e,b,())) sF) sF) sF
theorem Ws:FO 110 (sB [.st .Book,.st .Page] fun x=>Z9 u x.1 x.2.1):=fI u (.two .go (.two (.join [rf 2,rf 3] [bx 1002 .Book,bx 1003 .Page] .go) (.two .go (.two (.join [rf 3] [bx 1003 .Page] .go) .go)))) kz0 (eC (XS u) (eC (YG u) (eC (QaR u) (eC (QgO u) (eC (Qfj u) (eC (Qds u) (eC (QhL u) eN))))))) Tryz.func110
def Xq(u:Nat)(a:List D.Call):Option (List D.Call):=nilC a (both (some []) (lec a.length 34359738368 (some a))) (lec a.length 34359738368 (some a))
theorem U1:FO 112 (Qf [.one (.lst .Call)] [] [.one (.own 1007)] [ar 1007 .Call] [] (List D.Call) kz8 (fun x y=>Xq u x.1)):=fI u .go kz12 eN Tryz.func112
def Qcz(q:D.Page)(p1:List D.Call)(p2:Int):Option Bool:=Qh (X:=((List D.Call×Int×Int×Int×List D.Start×Int×Int×Unit)×D.Page×Unit)) (fun L0 ((t,a2,v,a4,w,y,r,_),a8,_)=>cd (r<y) (atc w r fun s=>Qh (X:=((List D.Call×Int×Int×Int×List D.Start×Int×Int×List Int×Int×Int×Unit)×D.Page×D.Start×Unit)) (fun z ((a,e,b,i,j,k,l,m,n,f,_),g,h,_)=>cd (f<n) (atc m f fun A=>join (Y:=((List D.Call×Int×Int×List D.Start×Int×Int×List Int×Int×Int×Unit)×D.Page×D.Start×Unit)) (fun((o,B,p,C,E,F,G,H,I,_),J,L,_)=>atc o p fun O=>z ((o,B,(wrap .i64 (p+1)),O.Fence,C,E,F,G,H,(wrap .i64 (I+1)),()),J,L,())) fun S=>cd (b=(a.length:Int)) sF (atc a b fun W=>optc (XA u W.Fence i e) fun Z=>cnd Z (atc a b fun c=>atc a b fun a0=>cd ([c.Page,c.K,c.At,c.Person,c.Fence]≠[g.ID,h.K,h.At,A,a0.Fence]) sF (S ((a,e,b,j,k,l,m,n,f,()),g,h,()))) sF)) (L0 ((a,e,b,i,j,k,(wrap .i64 (l+1)),()),g,()))) u ((t,a2,v,a4,w,y,r,s.People,(s.People.length:Int),0,()),a8,s,())) (some (decide (v=(t.length:Int))))) u ((p1,p2,0,0,q.Starts,(q.Starts.length:Int),0,()),q,())
theorem Qkm:FO 114 (sB [.st .Page,.one (.lst .Call),nI] fun x=>Qcz u x.1 x.2.1 x.2.2.1):=fI u (gs 2 (lp [li 1 .Call,ni 2,rf 3,ni 7,ni 8,li 14 .Start,ni 15,ni 16] [bx 1003 .Page] (gs 2 (.two (.one (gs 2 (.one (.loop [li 1 .Call,ni 2,rf 3,ni 7,ni 8,rf 10,li 14 .Start,ni 15,ni 16,(21,lI),ni 22,ni 23] [bx 1003 .Page,bx 1010 .Start] (gs 2 (.two (.one (.two .go (.two (.join [li 1 .Call,ni 2,rf 3,ni 7,rf 10,li 14 .Start,ni 15,ni 16,(21,lI),ni 22,ni 23] [bx 1003 .Page,bx 1010 .Start] .go) .go))) .go)))))) .go)))) kz0 (eC (QcA u) eN) Tryz.func114
def VK(u:Nat)(b:D.Call)(a:D.Page):Option Bool:=sameC a a (some (decide (b.Page≠a.ID)))
theorem Qc0:FO 113 (Qf [.st .Call,.one (.ref 101)] [bx 101 .Page] [.one .boo] [] [101] Bool kz1 (fun x y=>VK u x.1 y.1)):=fI u .go kz0 eN Tryz.func113
def QU(b:List D.Call)(c102:D.Page):Option Int:=Qh (X:=((Int×Int×Unit)×D.Page×List D.Call×Unit)) (fun h ((f,c,_),e,a,_)=>cd (c<f) (natc c fun g=>ltc g a.length (optc a[g]? fun i=>optc (VK u i e) fun j=>cnd j (sameC a b (sameC e c102 (some c))) (h ((f,(wrap .i64 (c+1)),()),e,a,())))) (sameC a b (sameC e c102 (some (-1))))) u (((b.length:Int),0,()),c102,b,())
theorem XP:FO 190 (Qf [.one (.own 101),.one (.clo 113 [102])] [ar 101 .Call,bx 102 .Page] [nI] [] [101,102] Int kz1 (fun x y=>QU u y.1 y.2.1)):=fI u (.two .go (lp [(0,.one (.own 101)),(1,.one (.clo 113 [102])),ni 7,ni 8] [bx 102 .Page,ar 101 .Call] .go)) kz0 (eC (Qc0 u) eN) Tryz.func190
def QR(f:List D.Call)(c102:D.Page):Option (Nat×Nat×List D.Call):=optc (QU u f c102) fun m=>cd (m=(-1)) (sameC c102 c102 (some (0,f.length,f))) (Qh (X:=((Int×Int×Unit)×D.Page×List D.Call×Unit)) (fun o ((c,g,_),h,a,_)=>cd (g<(a.length:Int)) (join (Y:=((Int×Int×Unit)×D.Page×List D.Call×Unit)) (fun((p,q,_),r,s,_)=>o ((p,(wrap .i64 (q+1)),()),r,s,())) fun i=>natc g fun j=>ltc j a.length (optc a[j]? fun k=>optc (VK u k h) fun n=>cnd (!n) (natc c fun e=>ltc e a.length (optc a[e]? fun t=>i (((wrap .i64 (c+1)),g,()),h,(List.set a e k),()))) (i ((c,g,()),h,a,())))) (natc c fun b=>lec b a.length (lec b a.length (lec a.length a.length (natc c fun l=>lec l (((List.take b a)++(List.replicate (a.length - b) (D.Call.mk 0 0 0 0 0)))++(List.drop a.length a)).length (sameC h c102 (some (0,l,(((List.take b a)++(List.replicate (a.length - b) (D.Call.mk 0 0 0 0 0)))++(List.drop a.length a)))))))))) u ((m,(wrap .i64 (m+1)),()),c102,f,()))
theorem XG:FO 111 (Qf [.one (.own 101),.one (.clo 113 [102])] [ar 101 .Call,bx 102 .Page] [.one (.view 101)] [ar 101 .Call] [102] (Nat×Nat×List D.Call) kz18 (fun x y=>QR u y.1 y.2.1)):=fI u (gs 3 (lp [(0,.one (.own 101)),(1,.one (.clo 113 [102])),ni 5,ni 6] [bx 102 .Page,ar 101 .Call] (.two .go (.two (.join [(0,.one (.own 101)),(1,.one (.clo 113 [102])),ni 5,ni 6] [bx 102 .Page,ar 101 .Call] .go) .go)))) kz20 (eC (Qc0 u) (eC (XP u) eN)) Tryz.func111
def Qfs(k:D.Ledger):Option Bool:=Qh (X:=((Int×List D.Page×Int×Int×Unit)×D.Ledger×Unit)) (fun v ((l,m,n,c,_),a,_)=>cd (c<n) (atc m c fun b=>join (Y:=((Int×List D.Page×Int×Int×Unit)×D.Ledger×D.Page×Unit)) (fun((w,y,z,o,_),e,f,_)=>optc (Xq u e.Calls) fun p=>optc (QR u p f) fun(g,h,i)=>optc (Qcz u f (List.drop g (List.take h i)) e.Fence) fun q=>cnd (!q) sF (v (((wrap .i64 (w+(((List.drop g (List.take h i)).length:Nat):Int))),y,z,(wrap .i64 (o+1)),()),e,()))) fun j=>cd (0<c) (atc a.Pages (wrap .i64 (c - 1)) fun r=>cd (b.ID≤r.ID) sF (optc (Z9 u a.Book b) fun s=>cnd s (cd (a.Now<b.Last) sF (j ((l,m,n,c,()),a,b,()))) sF)) (optc (Z9 u a.Book b) fun t=>cnd t (cd (a.Now<b.Last) sF (j ((l,m,n,c,()),a,b,()))) sF)) (some (decide (l=(a.Calls.length:Int))))) u ((0,k.Pages,(k.Pages.length:Int),0,()),k,())
theorem Qko:FO 77 (sB [.st .Ledger] fun x=>Qfs u x.1):=fI u (gs 2 (lp [rf 1,ni 3,li 8 .Page,ni 9,ni 10] [bx 1001 .Ledger] (gs 2 (.two (.one (.two .go (.two (.join [rf 1,ni 3,rf 5,li 8 .Page,ni 9,ni 10] [bx 1001 .Ledger,bx 1005 .Page] .go) .go))) .go)))) kz0 (eC (Ws u) (eC (XG u) (eC (U1 u) (eC (Qkm u) eN)))) Tryz.func77
def ZP(a:D.Ledger):Option Bool:=join (Y:=(Unit×D.Ledger×Unit)) (fun(_,b,_)=>optc (Qbq u b.Config b.Book) fun c=>cd (c=0) (optc (Qfs u b) fun e=>cnd e sT sF) sF) fun f=>optc (XA u a.Now 0 8589934592) fun g=>cnd g (cd (64<(a.Pages.length:Int)) sF (optc (XA u a.Owner (-1) 4) fun h=>cnd h (optc (XA u a.Fence 0 1048576) fun i=>cnd i (optc (Qel u a.Seen) fun j=>cnd j (f ((),a,())) sF) sF) sF)) sF
theorem WM:FO 46 (sB [.st .Ledger] fun x=>ZP u x.1):=fI u (.two .go (.two (.join [rf 1] [bx 1001 .Ledger] .go) .go)) kz0 (eC (QcA u) (eC (Ql5 u) (eC (Qjx u) (eC (Qko u) eN)))) Tryz.func46
def Qep(u:Nat)(a:Int)(b:Int)(c:Int):Option Bool:=cd (b≤a) (cd (a≤c) sT sF) sF
theorem Qps:FO 64 (sB [nI,nI,nI] fun x=>Qep u x.1 x.2.1 x.2.2.1):=fI u .go kz0 eN Tryz.func64
def W7(a:D.Ledger)(b:Int)(c:Int)(e:Int):Option Int:=optc (ZP u a) fun f=>cnd (!f) (some 8) (join (Y:=(Unit×Unit)) (fun(_,_)=>some 0) fun g=>optc (Qep u b 0 4) fun h=>cnd h (optc (Qep u c 1 1099511627776) fun i=>cnd i (optc (Qep u e 0 8589934592) fun j=>cnd j (g ((),())) (some 1)) (some 1)) (some 1))
theorem Qe2:FO 41 (sI [.st .Ledger,nI,nI,nI] fun x=>W7 u x.1 x.2.1 x.2.2.1 x.2.2.2.1):=fI u (gs 2 (.two (.join [] [] .go) .go)) kz0 (eC (WM u) (eC (Qps u) eN)) Tryz.func41
def Wc(a:D.Ledger)(b:Int)(c:Int)(e:Int):Option (D.Op×Int):=optc (W7 u a b c e) fun f=>cd (f≠0) (some ((D.Op.mk 0 0 0 0 0 0 0 0 0 (D.Answer.mk 0 0 0 0 0 0) (D.Edit.mk 0 0 0 0 0)),f)) (cd (a.Fence=1048576) (some ((D.Op.mk 0 0 0 0 0 0 0 0 0 (D.Answer.mk 0 0 0 0 0 0) (D.Edit.mk 0 0 0 0 0)),5)) (some ((D.Op.mk c 2 b (wrap .i64 (a.Fence+1)) e 0 0 0 0 (D.Answer.mk 0 0 0 0 0 0) (D.Edit.mk 0 0 0 0 0)),0)))
theorem Qe0:FO 13 (Qf [.st .Ledger,nI,nI,nI] [] [.st .Op,nI] [] [] (D.Op×Int) kz3 (fun x y=>Wc u x.1 x.2.1 x.2.2.1 x.2.2.2.1)):=fI u .go kz4 (eC (Qe2 u) eN) Tryz.func13
def QcF(e:List Int)(f:Int):Option Bool:=Qh (X:=((List Int×Int×Int×Unit)×Unit)) (fun g ((a,c,b,_),_)=>cd (b<(a.length:Int)) (atc a b fun h=>cd (h=c) sT (g ((a,c,(wrap .i64 (b+1)),()),()))) sF) u ((e,f,0,()),())
theorem Qew:FO 17 (sB [lI,nI] fun x=>QcF u x.1 x.2.1):=fI u (.two .go (lp [(0,lI),ni 1,ni 5] [] .go)) kz0 eN Tryz.func17
def Qam(f:D.Page):Option D.Page:=Qh (X:=((Int×Unit)×D.Page×D.Page×List D.Start×Unit)) (fun g ((b,_),a,h,c,_)=>cd (b<(a.Starts.length:Int)) (atc a.Starts b fun e=>lec e.People.length 34359738368 (lec (c.length+[e].length) 34359738368 (g (((wrap .i64 (b+1)),()),a,h,(c++[e]),())))) (lec a.Declined.length 34359738368 (lec a.Seen.length 34359738368 (some (D.Page.mk a.ID a.Policy a.Start a.Next a.Due a.State a.By a.Until a.Last a.Snoozes a.Hands c a.Declined a.Seen))))) u ((0,()),f,(D.Page.mk 0 0 0 0 0 0 0 0 0 0 0 [] [] []),[],())
theorem Uh:FO 56 (Qf [.st .Page] [] [.agg [kI,kI,kI,kI,kI,kI,kI,kI,kI,kI,kI,.own 1025,.own 1030,.own 1033]] [ar 1025 .Start,ar 1030 .int,ar 1033 .int] [] D.Page kz13 (fun x y=>Qam u x.1)):=fI u (gs 2 (lp [rf 1,rf 2,(3,.one (.own 1025)),ni 4] [bx 1001 .Page,bx 1002 .Page,ar 1025 .Start] .go)) (fun a b=>D.Page.mk a.1.1 a.1.2.1 a.1.2.2.1 a.1.2.2.2.1 a.1.2.2.2.2.1 a.1.2.2.2.2.2.1 a.1.2.2.2.2.2.2.1 a.1.2.2.2.2.2.2.2.1 a.1.2.2.2.2.2.2.2.2.1 a.1.2.2.2.2.2.2.2.2.2.1 a.1.2.2.2.2.2.2.2.2.2.2.1 b.1 b.2.1 b.2.2.1) eN Tryz.func56
def QeB(f:D.Ledger):Option D.Ledger:=Qh (X:=((Int×Unit)×D.Ledger×D.Ledger×List D.Page×Unit)) (fun g ((b,_),a,h,c,_)=>cd (b<(a.Pages.length:Int)) (atc a.Pages b fun i=>optc (Qam u i) fun e=>lec (c.length+[e].length) 34359738368 (g (((wrap .i64 (b+1)),()),a,h,(c++[e]),()))) (lec a.Seen.length 34359738368 (lec a.Calls.length 34359738368 (some (D.Ledger.mk a.Now a.Config a.Book c a.Owner a.Fence a.Seen a.Calls))))) u ((0,()),f,(D.Ledger.mk 0 (D.Config.mk [] [] [] []) (D.Book.mk [] []) [] 0 0 [] []),[],())
theorem QjO:FO 26 (Qf [.st .Ledger] [] [.agg [kI,.lst .Zone,.lst .Person,.lst .Calendar,.lst .Schedule,.lst .Team,.lst .Policy,.own 1020,kI,kI,.own 1025,.own 1028]] [ar 1020 .Page,ar 1025 .int,ar 1028 .Call] [] D.Ledger kz7 (fun x y=>QeB u x.1)):=fI u (gs 2 (lp [rf 1,rf 2,(3,.one (.own 1020)),ni 4] [bx 1001 .Ledger,bx 1002 .Ledger,ar 1020 .Page] .go)) (fun a b=>D.Ledger.mk a.1.1 (D.Config.mk a.1.2.1 a.1.2.2.1 a.1.2.2.2.1 a.1.2.2.2.2.1) (D.Book.mk a.1.2.2.2.2.2.1 a.1.2.2.2.2.2.2.1) b.1 a.1.2.2.2.2.2.2.2.1 a.1.2.2.2.2.2.2.2.2.1 b.2.1 b.2.2.1) (eC (Uh u) eN) Tryz.func26
def Q5(u:Nat)(a:Int)(b:Int)(c:Int):Option Bool:=cd (b≤a) (cd (a≤c) sT sF) sF
theorem Wj:FO 57 (sB [nI,nI,nI] fun x=>Q5 u x.1 x.2.1 x.2.2.1):=fI u .go kz0 eN Tryz.func57
def QjI(u:Nat)(a:Int):Option Bool:=cd (48≤a) (cd (a≤57) sT sF) sF
theorem Qn9:FO 253 (sB [.one (.num .u8)] fun x=>QjI u x.1):=fI u .go kz0 eN Tryz.func253
def Qeu(c:ByteArray):Option Bool:=join (Y:=((ByteArray×Unit)×Unit)) (fun((r,_),_)=>Qh (X:=((ByteArray×Int×Unit)×Unit)) (fun s ((a,b,_),_)=>cd (b<(((ByteArray.size a):Nat):Int)) (join (Y:=((ByteArray×Int×Unit)×Unit)) (fun((t,v,_),_)=>s ((t,(wrap .i64 (v+1)),()),())) fun e=>natc b fun n=>ltc n (ByteArray.size a) (cd ((((bAt a n):Nat):Int)<97) (natc b fun o=>ltc o (ByteArray.size a) (optc (QjI u (((bAt a o):Nat):Int)) fun w=>cnd w (e ((a,b,()),())) (natc b fun f=>ltc f (ByteArray.size a) (cd ((((bAt a f):Nat):Int)≠95) (natc b fun g=>ltc g (ByteArray.size a) (cd ((((bAt a g):Nat):Int)≠45) sF (e ((a,b,()),())))) (e ((a,b,()),())))))) (natc b fun h=>ltc h (ByteArray.size a) (cd (122<(((bAt a h):Nat):Int)) (natc b fun i=>ltc i (ByteArray.size a) (optc (QjI u (((bAt a i):Nat):Int)) fun p=>cnd p (e ((a,b,()),())) (natc b fun j=>ltc j (ByteArray.size a) (cd ((((bAt a j):Nat):Int)≠95) (natc b fun k=>ltc k (ByteArray.size a) (cd ((((bAt a k):Nat):Int)≠45) sF (e ((a,b,()),())))) (e ((a,b,()),())))))) (e ((a,b,()),())))))) sT) u ((r,0,()),())) fun q=>cd ((((ByteArray.size c):Nat):Int)<1) sF (cd (24<(((ByteArray.size c):Nat):Int)) sF (natc 0 fun l=>ltc l (ByteArray.size c) (cd ((((bAt c l):Nat):Int)<97) sF (natc 0 fun m=>ltc m (ByteArray.size c) (cd (122<(((bAt c m):Nat):Int)) sF (q ((c,()),())))))))
theorem QfA:FO 207 (sB [.one .str] fun x=>Qeu u x.1):=fI u (.two .go (.two (.join [(0,.one .str)] [] .go) (lp [(0,.one .str),ni 3] [] (.two .go (.two (.join [(0,.one .str),ni 3] [] .go) .go))))) kz0 (eC (Qn9 u) eN) Tryz.func207
def QaT(u:Nat)(a:Int)(b:Int)(c:Int):Option Bool:=cd (b≤a) (cd (a≤c) sT sF) sF
theorem QdF:FO 273 (sB [nI,nI,nI] fun x=>QaT u x.1 x.2.1 x.2.2.1):=fI u .go kz0 eN Tryz.func273
def Qn4(a:D.YearRule):Option Bool:=optc (QaT u a.From 1970 2240) fun b=>cnd b (optc (QaT u a.To a.From 2240) fun c=>cnd c (optc (QaT u a.Month 1 12) fun e=>cnd e (optc (QaT u a.Week 1 5) fun f=>cnd f (optc (QaT u a.Weekday 0 6) fun g=>cnd g (optc (QaT u a.Second 0 86399) fun h=>cnd h (optc (QaT u a.Offset (-64800) 64800) fun i=>cnd i sT sF) sF) sF) sF) sF) sF) sF
theorem Qn5:FO 274 (sB [.st .YearRule] fun x=>Qn4 u x.1):=fI u .go kz0 (eC (QdF u) eN) Tryz.func274
def Qmd(u:Nat)(a:Int):Option Int:=nzc 4 (nzc 100 (nzc 400 (some (wrap .i64 ((wrap .i64 ((wrap .i64 ((wrap .i64 ((wrap .i64 (a - 1970))*365))+(wrap .i64 (Int.tdiv (wrap .i64 (a - 1969)) 4)))) - (wrap .i64 (Int.tdiv (wrap .i64 (a - 1901)) 100))))+(wrap .i64 (Int.tdiv (wrap .i64 (a - 1601)) 400)))))))
theorem QjE:FO 252 (sI [nI] fun x=>Qmd u x.1):=fI u .go kz0 eN Tryz.func252
def QqG(u:Nat)(a:Int):Option Bool:=nzc 4 (cd ((Int.tmod a 4)=0) (nzc 100 (cd ((Int.tmod a 100)≠0) sT (nzc 400 (cd ((Int.tmod a 400)=0) sT sF)))) sF)
theorem Qpv:FO 322 (sB [nI] fun x=>QqG u x.1):=fI u .go kz0 eN Tryz.func322
def Qh9(c:Int)(a:Int):Option Int:=join (Y:=((Int×Int×Bool×Unit)×Unit)) (fun((f,b,h,_),_)=>cnd h (some 31) (join (Y:=((Int×Int×Bool×Unit)×Unit)) (fun((i,j,k,_),_)=>cnd k (some 30) (cd (j=2) (optc (QqG u i) fun l=>cnd l (some 29) (some 28)) (some 0))) fun g=>cd (b=4) (g ((f,b,(decide (b=4)),()),())) (cd (b=6) (g ((f,b,(decide (b=6)),()),())) (cd (b=9) (g ((f,b,(decide (b=9)),()),())) (g ((f,b,(decide (b=11)),()),())))))) fun e=>cd (a=1) (e ((c,a,(decide (a=1)),()),())) (cd (a=3) (e ((c,a,(decide (a=3)),()),())) (cd (a=5) (e ((c,a,(decide (a=5)),()),())) (cd (a=7) (e ((c,a,(decide (a=7)),()),())) (cd (a=8) (e ((c,a,(decide (a=8)),()),())) (cd (a=10) (e ((c,a,(decide (a=10)),()),())) (e ((c,a,(decide (a=12)),()),())))))))
theorem Qfz:FO 305 (sI [nI,nI] fun x=>Qh9 u x.1 x.2.1):=fI u (.two .go (.two (.two .go (.one (.two (.join [ni 0,ni 5,(6,.one .boo)] [] .go) (.two .go (.two (.join [ni 0,ni 5,(14,.one .boo)] [] .go) .go))))) .go)) kz0 (eC (Qpv u) eN) Tryz.func305
def Qn1(a:D.Date):Option Bool:=cd (1970≤a.Year) (cd (a.Year≤2240) (cd (1≤a.Month) (cd (a.Month≤12) (cd (1≤a.Day) (optc (Qh9 u a.Year a.Month) fun b=>cd (a.Day≤b) sT sF) sF) sF) sF) sF) sF
theorem Qn2:FO 321 (sB [.st .Date] fun x=>Qn1 u x.1):=fI u .go kz0 (eC (Qfz u) eN) Tryz.func321
def QtH(b:D.Date):Option (Int×Int):=optc (Qn1 u b) fun f=>cnd (!f) (some (0,1)) (optc (Qmd u b.Year) fun g=>Qh (X:=((Int×Int×Unit)×D.Date×Unit)) (fun h ((e,c,_),a,_)=>cd (c<a.Month) (optc (Qh9 u a.Year c) fun i=>h (((wrap .i64 (e+i)),(wrap .i64 (c+1)),()),a,())) (some ((wrap .i64 ((wrap .i64 (e+a.Day)) - 1)),0))) u ((g,1,()),b,()))
theorem Qrt:FO 303 (Qf [.st .Date] [] [nI,nI] [] [] (Int×Int) kz3 (fun x y=>QtH u x.1)):=fI u (gs 3 (lp [rf 1,ni 4,ni 5] [bx 1001 .Date] .go)) kz4 (eC (QjE u) (eC (Qfz u) (eC (Qn2 u) eN))) Tryz.func303
def QcE(u:Nat)(a:Int):Option Int:=nzc 7 (nzc 7 (some (Int.tmod (wrap .i64 ((Int.tmod a 7)+10)) 7)))
theorem Qe3:FO 304 (sI [nI] fun x=>QcE u x.1):=fI u .go kz0 eN Tryz.func304
def QtI(l:Int)(m:Int)(j:Int)(k:Int):Option (Int×Int):=optc (QtH u (D.Date.mk l m 1)) fun(v,w)=>join (Y:=(P5×Unit)) (fun((y,z,A,B,n,_),_)=>Qh (X:=(P6×Unit)) (fun C ((o,p,b,e,f,a,_),_)=>optc (QcE u a) fun q=>cd (q≠e) (C ((o,p,b,e,f,(wrap .i64 (a+1)),()),())) (cd (b<5) (some ((wrap .i64 (a+(wrap .i64 (7*(wrap .i64 (b - 1)))))),0)) (Qh (X:=(P4×Unit)) (fun r ((g,h,i,c,_),_)=>optc (Qh9 u g h) fun s=>cd ((wrap .i64 (c+7))<(wrap .i64 (i+s))) (r ((g,h,i,(wrap .i64 (c+7)),()),())) (some (c,0))) u ((o,p,f,a,()),())))) u ((y,z,A,B,n,n,()),())) fun t=>cd (w≠0) (some (0,1)) (cd (j<1) (some (0,1)) (cd (5<j) (some (0,1)) (cd (k<0) (some (0,1)) (cd (6<k) (some (0,1)) (t ((l,m,j,k,v,()),()))))))
theorem Qru:FO 287 (Qf [nI,nI,nI,nI] [] [nI,nI] [] [] (Int×Int) kz3 (fun x y=>QtI u x.1 x.2.1 x.2.2.1 x.2.2.2.1)):=fI u (gs 2 (.two (.join [ni 0,ni 1,ni 2,ni 3,ni 10] [] .go) (.two .go (.two (.one (.loop [ni 0,ni 1,ni 2,ni 3,ni 10,ni 12] [] .go)) (.two .go (.two (.one (.loop [ni 0,ni 1,ni 10,ni 12] [] .go)) .go)))))) kz4 (eC (Qrt u) (eC (Qe3 u) (eC (Qfz u) eN))) Tryz.func287
def QdG(p0:List D.YearRule):Option (List D.Occurrence):=Qh (X:=((List D.YearRule×Int×Unit)×List D.Occurrence×Unit)) (fun L0 ((r,s,_),w,_)=>cd (s<(r.length:Int)) (atc r s fun a4=>Qh (X:=((List D.YearRule×Int×Int×Unit)×List D.Occurrence×Unit)) (fun L5 ((e,f,t,_),v,_)=>atc e f fun y=>cd (t≤y.To) (atc e f fun z=>atc e f fun A=>atc e f fun B=>optc (QtI u t z.Month A.Week B.Weekday) fun(C,aB)=>atc e f fun E=>atc e f fun F=>join (Y:=((List D.YearRule×Int×Int×Int×Unit)×D.Occurrence×List D.Occurrence×Unit)) (fun((G,H,I,k,_),a,b,_)=>lec (b.length+[a].length) 34359738368 (natc (wrap .i64 (k+1)) fun c=>lec c (b++[a]).length (natc k fun g=>lec g (b++[a]).length (chk (b++[a]).length (b++[a]).length (chk (b++[a]).length (b++[a]).length (lec c (b++[a]).length (lec g c (natc k fun l=>ltc l ((List.take c (b++[a]))++(List.take ((b++[a]).length - c) (List.drop g (b++[a])))).length (optc (GetElem?.getElem? ((List.take c (b++[a]))++(List.take ((b++[a]).length - c) (List.drop g (b++[a])))) l) fun aC=>L5 ((G,H,(wrap .i64 (I+1)),()),(List.set ((List.take c (b++[a]))++(List.take ((b++[a]).length - c) (List.drop g (b++[a])))) l a),())))))))))) fun p=>Qh (X:=((List D.YearRule×Int×Int×Int×Unit)×D.Occurrence×List D.Occurrence×Unit)) (fun J ((m,n,o,h,_),j,i,_)=>join (Y:=((List D.YearRule×Int×Int×Int×Unit)×D.Occurrence×List D.Occurrence×Unit)) (fun((L,O,S,W,_),Z,a0,_)=>J ((L,O,S,(wrap .i64 (W - 1)),()),Z,a0,())) fun a5=>cd (0<h) (natc (wrap .i64 (h - 1)) fun q=>ltc q i.length (optc i[q]? fun aA=>cd (j.At<aA.At) (a5 ((m,n,o,h,()),j,i,())) (p ((m,n,o,h,()),j,i,())))) (p ((m,n,o,h,()),j,i,()))) u ((e,f,t,(v.length:Int),()),(D.Occurrence.mk (wrap .i64 ((wrap .i64 (C*86400))+E.Second)) F.Offset),v,())) (L0 ((e,(wrap .i64 (f+1)),()),v,()))) u ((r,s,a4.From,()),w,())) (some w)) u ((p0,0,()),[],())
theorem Qgk:FO 275 (Qf [.one (.lst .YearRule)] [] [.one (.lst .Occurrence)] [] [] (List D.Occurrence) kz1 (fun x y=>QdG u x.1)):=fI u (gs 2 (lp [li 0 .YearRule,(3,.one (.own 1084)),ni 4] [ar 1084 .Occurrence] (.two .go (.two (.one (.two .go (.one (.loop [li 0 .YearRule,(3,.one (.own 1084)),ni 4,ni 5] [ar 1084 .Occurrence] (.two .go (.two (.one (gs 3 (.two (.join [li 0 .YearRule,(3,.one (.own 1084)),ni 4,ni 5,rf 8,ni 9] [bx 1008 .Occurrence,ar 1084 .Occurrence] (.one (.loop [li 0 .YearRule,(3,.one (.own 1084)),ni 4,ni 5,rf 8,ni 9] [bx 1008 .Occurrence,ar 1084 .Occurrence] (.two (.join [li 0 .YearRule,(3,.one (.own 1084)),ni 4,ni 5,rf 8,ni 9] [bx 1008 .Occurrence,ar 1084 .Occurrence] .go) .go)))) .go))) .go)))))) .go)))) kz0 (eC (Qru u) eN) Tryz.func275
def Wi(o:D.Zone):Option (List D.Transition×Int):=optc (QaT u o.Offset (-64800) 64800) fun E=>cnd (!E) (some ([],1)) (cd (16<(o.Rules.length:Int)) (some ([],5)) (Qh (X:=((Int×Int×Unit)×D.Zone×Unit)) (fun F ((p,h,_),f,_)=>cd (h<(f.Rules.length:Int)) (atc f.Rules h fun G=>optc (Qn4 u G) fun H=>cnd (!H) (some ([],1)) (atc f.Rules h fun I=>atc f.Rules h fun J=>F (((wrap .i64 (p+(wrap .i64 ((wrap .i64 (I.To - J.From))+1)))),(wrap .i64 (h+1)),()),f,()))) (cd (640<p) (some ([],5)) (optc (QdG u f.Rules) fun L=>Qh (X:=((List D.Occurrence×Int×Int×Unit)×List D.Transition×Unit)) (fun q ((b,c,e,_),a,_)=>cd (e<(b.length:Int)) (join (Y:=((List D.Occurrence×Int×Int×Unit)×List D.Transition×Unit)) (fun((r,s,t,_),v,_)=>q ((r,s,(wrap .i64 (t+1)),()),v,())) fun k=>atc b e fun w=>cd (w.Offset=c) (k ((b,c,e,()),a,())) (atc b e fun g=>atc b e fun i=>join (Y:=((List D.Occurrence×Int×Unit)×D.Transition×List D.Transition×Unit)) (fun((y,z,_),j,l,_)=>lec (l.length+[j].length) 34359738368 (k ((y,j.Offset,z,()),(l++[j]),()))) fun m=>optc (QaT u (wrap .i64 (i.Offset - c)) (-86399) 86399) fun A=>cnd A (optc (QaT u (wrap .i64 (g.At - c)) 0 8589934592) fun B=>cnd B (cd (0<(a.length:Int)) (natc (wrap .i64 ((a.length:Int) - 1)) fun n=>ltc n a.length (optc a[n]? fun C=>cd ((wrap .i64 ((wrap .i64 (g.At - c)) - C.At))<604800) (some ([],6)) (m ((b,e,()),(D.Transition.mk (wrap .i64 (g.At - c)) i.Offset),a,())))) (m ((b,e,()),(D.Transition.mk (wrap .i64 (g.At - c)) i.Offset),a,()))) (some ([],6))) (some ([],6)))) (some (a,0))) u ((L,f.Offset,0,()),[],())))) u ((0,0,()),o,())))
theorem VL:FO 251 (Qf [.st .Zone] [] [.one (.lst .Transition),nI] [] [] (List D.Transition×Int) kz3 (fun x y=>Wi u x.1)):=fI u (gs 4 (.two (.two .go (.one (.loop [rf 1,ni 4,ni 5] [bx 1001 .Zone] .go))) (gs 4 (lp [(6,.one (.own 1115)),li 7 .Occurrence,ni 8,ni 9] [ar 1115 .Transition] (.two .go (.two (.join [(6,.one (.own 1115)),li 7 .Occurrence,ni 8,ni 9] [ar 1115 .Transition] (.one (gs 2 (.two (.join [(6,.one (.own 1115)),li 7 .Occurrence,ni 9,rf 10] [bx 1010 .Transition,ar 1115 .Transition] .go) .go)))) .go)))))) kz4 (eC (QdF u) (eC (Qn5 u) (eC (Qgk u) eN))) Tryz.func251
def Qb0(a:D.Zone):Option Int:=optc (Wi u a) fun(c,b)=>some b
theorem Qhy:FO 199 (sI [.st .Zone] fun x=>Qb0 u x.1):=fI u .go kz0 (eC (VL u) eN) Tryz.func199
def QfB(e:D.Zone):Option Bool:=nzc 60 (Qh (X:=((Bool×Int×Unit)×D.Zone×Unit)) (fun g ((f,a,_),b,_)=>cd (a<(b.Rules.length:Int)) (join (Y:=((Bool×Int×Unit)×D.Zone×Unit)) (fun((h,i,_),j,_)=>g ((h,(wrap .i64 (i+1)),()),j,())) fun c=>cnd f (atc b.Rules a fun k=>nzc 60 (cd ((Int.tmod k.Offset 60)=0) (c ((true,a,()),b,())) (c ((false,a,()),b,())))) (c ((false,a,()),b,()))) (some f)) u (((decide ((Int.tmod e.Offset 60)=0)),0,()),e,()))
theorem Qkt:FO 200 (sB [.st .Zone] fun x=>QfB u x.1):=fI u (gs 2 (lp [rf 1,(3,.one .boo),ni 4] [bx 1001 .Zone] (.two .go (.two (.join [rf 1,(3,.one .boo),ni 4] [bx 1001 .Zone] .go) .go)))) kz0 eN Tryz.func200
def XU(a:List ByteArray)(f:Int):Option Int:=natc f fun g=>ltc g a.length (optc a[g]? fun k=>optc (Qeu u k) fun l=>cnd (!l) (sameC a a (some 2)) (Qh (X:=((Int×Int×Unit)×List ByteArray×Unit)) (fun m ((c,e,_),b,_)=>cd (e<c) (natc e fun h=>ltc h b.length (optc b[h]? fun n=>natc c fun i=>ltc i b.length (optc b[i]? fun j=>cd (n=j) (sameC b a (some 4)) (m ((c,(wrap .i64 (e+1)),()),b,()))))) (sameC b a (some 0))) u ((f,0,()),a,())))
theorem Qaj:FO 198 (Qf [.one (.own 101),nI] [ar 101 .str] [nI] [] [101] Int kz1 (fun x y=>XU u y.1 x.1)):=fI u (gs 2 (lp [(0,.one (.own 101)),ni 1,ni 5] [ar 101 .str] .go)) kz0 (eC (QfA u) eN) Tryz.func198
def Qgm(k:D.Config):Option Int:=Qh (X:=((Int×Unit)×D.Config×List ByteArray×Unit)) (fun l ((a,_),b,c,_)=>cd (a<(b.Zones.length:Int)) (join (Y:=((Int×Unit)×D.Config×List ByteArray×Unit)) (fun((m,_),n,o,_)=>l (((wrap .i64 (m+1)),()),n,o,())) fun p=>atc b.Zones a fun e=>lec (c.length+[e.Name].length) 34359738368 (optc (XU u (c++[e.Name]) a) fun f=>cd (f≠0) (some f) (atc b.Zones a fun g=>optc (Qb0 u g) fun h=>cd (h≠0) (some 8) (atc b.Zones a fun i=>optc (QfB u i) fun j=>cnd j (p ((a,()),b,(c++[e.Name]),())) (some 8))))) (some 0)) u ((0,()),k,[],())
theorem Qoc:FO 133 (sI [.st .Config] fun x=>Qgm u x.1):=fI u (gs 2 (lp [rf 1,(3,.one (.own 1021)),ni 4] [bx 1001 .Config,ar 1021 .str] (.two .go (.two (.join [rf 1,(3,.one (.own 1021)),ni 4] [bx 1001 .Config,ar 1021 .str] .go) .go)))) kz0 (eC (Qaj u) (eC (Qhy u) (eC (Qkt u) eN))) Tryz.func133
def VN(u:Nat)(a:Int)(b:Int)(c:Int):Option Bool:=cd (b≤a) (cd (a≤c) sT sF) sF
theorem QdI:FO 201 (sB [nI,nI,nI] fun x=>VN u x.1 x.2.1 x.2.2.1):=fI u .go kz0 eN Tryz.func201
def QaU(f:List D.Window):Option Int:=cd (14<(f.length:Int)) (some 5) (Qh (X:=((List D.Window×Int×Unit)×Unit)) (fun m ((a,b,_),_)=>cd (b<(a.length:Int)) (join (Y:=((List D.Window×Int×Unit)×Unit)) (fun((n,o,_),_)=>m ((n,(wrap .i64 (o+1)),()),())) fun g=>join (Y:=((List D.Window×Int×Unit)×Unit)) (fun((e,c,_),_)=>cd (0<c) (atc e c fun p=>atc e (wrap .i64 (c - 1)) fun q=>cd (p.From<q.To) (some 6) (g ((e,c,()),()))) (g ((e,c,()),()))) fun h=>atc a b fun i=>cd (i.From<0) (some 1) (atc a b fun j=>atc a b fun k=>cd (k.To≤j.From) (some 1) (atc a b fun l=>cd (604800<l.To) (some 1) (h ((a,b,()),()))))) (some 0)) u ((f,0,()),()))
theorem QdH:FO 202 (sI [.one (.lst .Window)] fun x=>QaU u x.1):=fI u (gs 2 (lp [li 0 .Window,ni 3] [] (.two .go (.two (.join [li 0 .Window,ni 3] [] (.one (.two (.join [li 0 .Window,ni 3] [] .go) .go))) .go)))) kz0 eN Tryz.func202
def Qb2(a:Int):Option Bool:=optc (VN u a 0 604800) fun b=>cnd b (nzc 3600 (cd ((Int.tmod a 3600)=0) sT sF)) sF
theorem Qoa:FO 203 (sB [nI] fun x=>Qb2 u x.1):=fI u .go kz0 (eC (QdI u) eN) Tryz.func203
def Qev(k:D.Config):Option Int:=Qh (X:=((Int×Unit)×D.Config×List ByteArray×Unit)) (fun l ((b,_),c,e,_)=>cd (b<(c.People.length:Int)) (join (Y:=((Int×Unit)×D.Config×List ByteArray×Unit)) (fun((m,_),n,o,_)=>l (((wrap .i64 (m+1)),()),n,o,())) fun p=>atc c.People b fun a=>lec (e.length+[a.Name].length) 34359738368 (cd (a.Name=(ByteArray.mk (List.toArray [110,111,98,111,100,121]))) (some 2) (optc (XU u (e++[a.Name]) b) fun f=>cd (f≠0) (some f) (optc (VN u a.Zone 0 (wrap .i64 ((c.Zones.length:Int) - 1))) fun g=>cnd (!g) (some 3) (optc (QaU u a.Quiet) fun h=>cd (h≠0) (some 8) (optc (Qb2 u a.MaxWeek) fun i=>cnd i (optc (Qb2 u a.MinRest) fun j=>cnd j (p ((b,()),c,(e++[a.Name]),())) (some 1)) (some 1))))))) (some 0)) u ((0,()),k,[],())
theorem Qmi:FO 134 (sI [.st .Config] fun x=>Qev u x.1):=fI u (gs 2 (lp [rf 1,(3,.one (.own 1023)),ni 4] [bx 1001 .Config,ar 1023 .str] (.two .go (.two (.join [rf 1,(3,.one (.own 1023)),ni 4] [bx 1001 .Config,ar 1023 .str] .go) .go)))) kz0 (eC (Qaj u) (eC (QdI u) (eC (QdH u) (eC (Qoa u) eN)))) Tryz.func134
def Zd:Option Int:=optc (Qmd u 2241) fun a=>some (wrap .i64 (a - 1))
theorem QcD:FO 204 (sI [] fun x=>Zd u):=fI u .go kz0 (eC (QjE u) eN) Tryz.func204
def Qai(y:D.Config):Option Int:=Qh (X:=((Int×Unit)×D.Config×List ByteArray×Unit)) (fun z ((f,_),g,m,_)=>cd (f<(g.Calendars.length:Int)) (atc g.Calendars f fun e=>lec (m.length+[e.Name].length) 34359738368 (optc (XU u (m++[e.Name]) f) fun o=>cd (o≠0) (some o) (optc (VN u e.Zone 0 (wrap .i64 ((g.Zones.length:Int) - 1))) fun A=>cnd (!A) (some 3) (cd (64<(e.Days.length:Int)) (some 5) (Qh (X:=((Int×Int×Unit)×D.Config×D.Calendar×List ByteArray×Unit)) (fun B ((p,n,_),h,a,i,_)=>cd (n<(a.Days.length:Int)) (atc a.Days n fun q=>optc (Zd u) fun r=>optc (VN u q 0 r) fun s=>cnd (!s) (some 1) (B ((p,(wrap .i64 (n+1)),()),h,a,i,()))) (Qh (X:=((Int×Int×Unit)×D.Config×D.Calendar×List ByteArray×Unit)) (fun t ((j,b,_),k,c,l,_)=>cd (b<(c.Days.length:Int)) (atc c.Days b fun v=>atc c.Days (wrap .i64 (b - 1)) fun w=>cd (v≤w) (some 6) (t ((j,(wrap .i64 (b+1)),()),k,c,l,()))) (z (((wrap .i64 (j+1)),()),k,l,()))) u ((p,1,()),h,a,i,()))) u ((f,0,()),g,e,(m++[e.Name]),())))))) (some 0)) u ((0,()),y,[],())
theorem QhP:FO 135 (sI [.st .Config] fun x=>Qai u x.1):=fI u (gs 2 (lp [rf 1,(3,.one (.own 1025)),ni 4] [bx 1001 .Config,ar 1025 .str] (.two .go (.two (.one (gs 5 (.two (.two .go (.one (.loop [rf 1,(3,.one (.own 1025)),ni 4,rf 5,ni 7] [bx 1001 .Config,bx 1005 .Calendar,ar 1025 .str] .go))) (.two .go (.one (.loop [rf 1,(3,.one (.own 1025)),ni 4,rf 5,ni 8] [bx 1001 .Config,bx 1005 .Calendar,ar 1025 .str] .go)))))) .go)))) kz0 (eC (Qaj u) (eC (QdI u) (eC (QcD u) eN))) Tryz.func135
def QdJ(g:D.Config)(b:D.Layer):Option Int:=join (Y:=(Unit×D.Config×D.Layer×Unit)) (fun(_,q,r,_)=>Qh (X:=((Int×Unit)×D.Config×D.Layer×Unit)) (fun s ((e,_),f,a,_)=>cd (e<(a.Members.length:Int)) (atc a.Members e fun t=>optc (VN u t 0 (wrap .i64 ((f.People.length:Int) - 1))) fun v=>cnd (!v) (some 3) (s (((wrap .i64 (e+1)),()),f,a,()))) (join (Y:=(Unit×Unit)) (fun(_,_)=>some 0) fun c=>optc (QaU u a.Windows) fun w=>cd (w≠0) (some 8) (optc (VN u a.Mode 0 2) fun h=>cnd (!h) (some 1) (cd (a.Mode≠0) (optc (VN u a.Calendar 0 (wrap .i64 ((f.Calendars.length:Int) - 1))) fun i=>cnd i (cd (a.Mode=0) (cd (a.Calendar≠0) (some 1) (c ((),()))) (c ((),()))) (some 3)) (cd (a.Mode=0) (cd (a.Calendar≠0) (some 1) (c ((),()))) (c ((),()))))))) u ((0,()),q,r,())) fun j=>optc (VN u b.Zone 0 (wrap .i64 ((g.Zones.length:Int) - 1))) fun k=>cnd (!k) (some 3) (optc (Zd u) fun l=>optc (VN u b.Start.Day 1 l) fun m=>cnd m (optc (VN u b.Start.Second 0 86399) fun n=>cnd n (optc (VN u b.Unit 0 2) fun o=>cnd o (optc (VN u b.Every 1 400) fun p=>cnd p (cd ((b.Members.length:Int)=0) (some 7) (cd (12<(b.Members.length:Int)) (some 5) (j ((),g,b,())))) (some 1)) (some 1)) (some 1)) (some 1))
theorem Qob:FO 205 (sI [.st .Config,.st .Layer] fun x=>QdJ u x.1 x.2.1):=fI u (.two .go (.two (.join [rf 2,rf 3] [bx 1002 .Config,bx 1003 .Layer] .go) (.two (.two .go (.one (.loop [rf 2,rf 3,ni 5] [bx 1002 .Config,bx 1003 .Layer] .go))) (.two (.join [] [] .go) .go)))) kz0 (eC (QdI u) (eC (QdH u) (eC (QcD u) eN))) Tryz.func205
def Qia(c:D.Config)(a:D.Edit):Option Int:=join (Y:=(Unit×Unit)) (fun(_,_)=>some 0) fun b=>optc (VN u a.Kind 0 2) fun p=>cnd (!p) (some 1) (optc (VN u a.A 0 (wrap .i64 ((c.People.length:Int) - 1))) fun q=>cnd q (cd (a.Kind=2) (optc (VN u a.B 0 (wrap .i64 ((c.People.length:Int) - 1))) fun r=>cnd r (cd (a.Kind≠2) (cd (a.B≠0) (some 1) (cd (a.Kind=2) (cd (a.A=a.B) (some 4) (cd (a.From<0) (some 1) (cd (a.To<0) (some 1) (nzc 86400 (optc (Zd u) fun s=>cd (s<(wrap .i64 (Int.tdiv a.To 86400))) (some 1) (cd (a.To≤a.From) (some 6) (b ((),())))))))) (cd (a.From<0) (some 1) (cd (a.To<0) (some 1) (nzc 86400 (optc (Zd u) fun t=>cd (t<(wrap .i64 (Int.tdiv a.To 86400))) (some 1) (cd (a.To≤a.From) (some 6) (b ((),()))))))))) (cd (a.Kind=2) (cd (a.A=a.B) (some 4) (cd (a.From<0) (some 1) (cd (a.To<0) (some 1) (nzc 86400 (optc (Zd u) fun v=>cd (v<(wrap .i64 (Int.tdiv a.To 86400))) (some 1) (cd (a.To≤a.From) (some 6) (b ((),())))))))) (cd (a.From<0) (some 1) (cd (a.To<0) (some 1) (nzc 86400 (optc (Zd u) fun w=>cd (w<(wrap .i64 (Int.tdiv a.To 86400))) (some 1) (cd (a.To≤a.From) (some 6) (b ((),()))))))))) (some 3)) (cd (a.Kind≠2) (cd (a.B≠0) (some 1) (cd (a.Kind=2) (cd (a.A=a.B) (some 4) (cd (a.From<0) (some 1) (cd (a.To<0) (some 1) (nzc 86400 (optc (Zd u) fun y=>cd (y<(wrap .i64 (Int.tdiv a.To 86400))) (some 1) (cd (a.To≤a.From) (some 6) (b ((),())))))))) (cd (a.From<0) (some 1) (cd (a.To<0) (some 1) (nzc 86400 (optc (Zd u) fun z=>cd (z<(wrap .i64 (Int.tdiv a.To 86400))) (some 1) (cd (a.To≤a.From) (some 6) (b ((),()))))))))) (cd (a.Kind=2) (cd (a.A=a.B) (some 4) (cd (a.From<0) (some 1) (cd (a.To<0) (some 1) (nzc 86400 (optc (Zd u) fun e=>cd (e<(wrap .i64 (Int.tdiv a.To 86400))) (some 1) (cd (a.To≤a.From) (some 6) (b ((),())))))))) (cd (a.From<0) (some 1) (cd (a.To<0) (some 1) (nzc 86400 (optc (Zd u) fun f=>cd (f<(wrap .i64 (Int.tdiv a.To 86400))) (some 1) (cd (a.To≤a.From) (some 6) (b ((),())))))))))) (cd (a.Kind≠1) (some 3) (cd (a.A≠(-1)) (some 3) (cd (a.Kind=2) (optc (VN u a.B 0 (wrap .i64 ((c.People.length:Int) - 1))) fun g=>cnd g (cd (a.Kind≠2) (cd (a.B≠0) (some 1) (cd (a.Kind=2) (cd (a.A=a.B) (some 4) (cd (a.From<0) (some 1) (cd (a.To<0) (some 1) (nzc 86400 (optc (Zd u) fun h=>cd (h<(wrap .i64 (Int.tdiv a.To 86400))) (some 1) (cd (a.To≤a.From) (some 6) (b ((),())))))))) (cd (a.From<0) (some 1) (cd (a.To<0) (some 1) (nzc 86400 (optc (Zd u) fun i=>cd (i<(wrap .i64 (Int.tdiv a.To 86400))) (some 1) (cd (a.To≤a.From) (some 6) (b ((),()))))))))) (cd (a.Kind=2) (cd (a.A=a.B) (some 4) (cd (a.From<0) (some 1) (cd (a.To<0) (some 1) (nzc 86400 (optc (Zd u) fun j=>cd (j<(wrap .i64 (Int.tdiv a.To 86400))) (some 1) (cd (a.To≤a.From) (some 6) (b ((),())))))))) (cd (a.From<0) (some 1) (cd (a.To<0) (some 1) (nzc 86400 (optc (Zd u) fun k=>cd (k<(wrap .i64 (Int.tdiv a.To 86400))) (some 1) (cd (a.To≤a.From) (some 6) (b ((),()))))))))) (some 3)) (cd (a.Kind≠2) (cd (a.B≠0) (some 1) (cd (a.Kind=2) (cd (a.A=a.B) (some 4) (cd (a.From<0) (some 1) (cd (a.To<0) (some 1) (nzc 86400 (optc (Zd u) fun l=>cd (l<(wrap .i64 (Int.tdiv a.To 86400))) (some 1) (cd (a.To≤a.From) (some 6) (b ((),())))))))) (cd (a.From<0) (some 1) (cd (a.To<0) (some 1) (nzc 86400 (optc (Zd u) fun m=>cd (m<(wrap .i64 (Int.tdiv a.To 86400))) (some 1) (cd (a.To≤a.From) (some 6) (b ((),()))))))))) (cd (a.Kind=2) (cd (a.A=a.B) (some 4) (cd (a.From<0) (some 1) (cd (a.To<0) (some 1) (nzc 86400 (optc (Zd u) fun n=>cd (n<(wrap .i64 (Int.tdiv a.To 86400))) (some 1) (cd (a.To≤a.From) (some 6) (b ((),())))))))) (cd (a.From<0) (some 1) (cd (a.To<0) (some 1) (nzc 86400 (optc (Zd u) fun o=>cd (o<(wrap .i64 (Int.tdiv a.To 86400))) (some 1) (cd (a.To≤a.From) (some 6) (b ((),())))))))))))))
theorem Qpw:FO 206 (sI [.st .Config,.st .Edit] fun x=>Qia u x.1 x.2.1):=fI u (gs 2 (.two (.join [] [] .go) .go)) kz0 (eC (QdI u) (eC (QcD u) eN)) Tryz.func206
def Qak(C:D.Config):Option Int:=Qh (X:=((Int×Unit)×D.Config×List ByteArray×Unit)) (fun E ((k,_),s,t,_)=>cd (k<(s.Schedules.length:Int)) (atc s.Schedules k fun c=>lec (t.length+[c.Name].length) 34359738368 (optc (XU u (t++[c.Name]) k) fun v=>cd (v≠0) (some v) (join (Y:=((Int×Unit)×D.Config×D.Schedule×List ByteArray×Unit)) (fun((F,_),G,H,I,_)=>Qh (X:=((Int×Int×Unit)×D.Config×D.Schedule×List ByteArray×List ByteArray×Unit)) (fun w ((l,a,_),e,b,m,f,_)=>cd (a<(b.Layers.length:Int)) (atc b.Layers a fun g=>lec (f.length+[g.Name].length) 34359738368 (optc (XU u (f++[g.Name]) a) fun n=>cd (n≠0) (some n) (atc b.Layers a fun y=>optc (QdJ u e y) fun o=>cd (o≠0) (some o) (w ((l,(wrap .i64 (a+1)),()),e,b,m,(f++[g.Name]),()))))) (Qh (X:=((Int×Int×Unit)×D.Config×D.Schedule×List ByteArray×Unit)) (fun z ((p,h,_),i,j,q,_)=>cd (h<(j.Edits.length:Int)) (atc j.Edits h fun A=>optc (Qia u i A) fun r=>cd (r≠0) (some r) (z ((p,(wrap .i64 (h+1)),()),i,j,q,()))) (E (((wrap .i64 (p+1)),()),i,q,()))) u ((l,0,()),e,b,m,()))) u ((F,0,()),G,H,I,[],())) fun B=>cd (6<(c.Layers.length:Int)) (some 5) (cd (48<(c.Edits.length:Int)) (some 5) (B ((k,()),s,c,(t++[c.Name]),())))))) (some 0)) u ((0,()),C,[],())
theorem QhQ:FO 136 (sI [.st .Config] fun x=>Qak u x.1):=fI u (gs 2 (lp [rf 1,(3,.one (.own 1029)),ni 4] [bx 1001 .Config,ar 1029 .str] (.two .go (.two (.one (gs 3 (.two (.join [rf 1,(3,.one (.own 1029)),ni 4,rf 5] [bx 1001 .Config,bx 1005 .Schedule,ar 1029 .str] .go) (.two .go (.two (.two .go (.one (.loop [rf 1,(3,.one (.own 1029)),ni 4,rf 5,(7,.one (.own 1061)),ni 8] [bx 1001 .Config,bx 1005 .Schedule,ar 1029 .str,ar 1061 .str] .go))) (.two .go (.one (.loop [rf 1,(3,.one (.own 1029)),ni 4,rf 5,ni 11] [bx 1001 .Config,bx 1005 .Schedule,ar 1029 .str] .go)))))))) .go)))) kz0 (eC (Qaj u) (eC (Qob u) (eC (Qpw u) eN))) Tryz.func136
def VM(a:D.Config):Option Int:=join (Y:=(Unit×D.Config×Unit)) (fun(_,b,_)=>optc (Qgm u b) fun c=>cd (c≠0) (some c) (optc (Qev u b) fun e=>cd (e≠0) (some e) (optc (Qai u b) fun f=>cd (f≠0) (some f) (optc (Qak u b) fun g=>some g)))) fun h=>cd (16<(a.Zones.length:Int)) (some 5) (cd (32<(a.People.length:Int)) (some 5) (cd (8<(a.Calendars.length:Int)) (some 5) (cd (12<(a.Schedules.length:Int)) (some 5) (h ((),a,())))))
theorem Qbu:FO 85 (sI [.st .Config] fun x=>VM u x.1):=fI u (.two .go (.two (.join [rf 1] [bx 1001 .Config] .go) .go)) kz0 (eC (Qoc u) (eC (Qmi u) (eC (QhP u) (eC (QhQ u) eN)))) Tryz.func85
def QcG(h:List Int)(i:Int):Option Bool:=Qh (X:=((List Int×Int×Int×Unit)×Unit)) (fun j ((b,c,a,_),_)=>cd (a<(b.length:Int)) (join (Y:=((List Int×Int×Int×Unit)×Unit)) (fun((k,l,m,_),_)=>j ((k,l,(wrap .i64 (m+1)),()),())) fun e=>atc b a fun n=>cd (n<0) sF (atc b a fun o=>cd (c≤o) sF (cd (0<a) (atc b (wrap .i64 (a - 1)) fun f=>atc b a fun g=>cd (g≤f) sF (e ((b,c,a,()),()))) (e ((b,c,a,()),()))))) sT) u ((h,i,0,()),())
theorem Qhc:FO 91 (sB [lI,nI] fun x=>QcG u x.1 x.2.1):=fI u (.two .go (lp [(0,lI),ni 1,ni 5] [] (.two .go (.two (.join [(0,lI),ni 1,ni 5] [] .go) .go)))) kz0 eN Tryz.func91
def Qif(p:D.Config)(g:D.Book)(h:Int):Option Int:=atc g.Teams h fun i=>optc (Qeu u i.Name) fun q=>cnd (!q) (some 8) (Qh (X:=((Int×Int×Unit)×D.Config×D.Book×D.Team×Unit)) (fun r ((j,f,_),k,l,c,_)=>cd (f<j) (atc l.Teams f fun s=>cd (s.Name=c.Name) (some 4) (r ((j,(wrap .i64 (f+1)),()),k,l,c,()))) (cd ((c.Members.length:Int)=0) (some 7) (Qh (X:=((Int×Unit)×D.Config×D.Team×Unit)) (fun t ((b,_),e,a,_)=>cd (b<(a.Members.length:Int)) (atc a.Members (wrap .i64 (b - 1)) fun m=>atc a.Members b fun n=>cd (n≤m) (some 6) (t (((wrap .i64 (b+1)),()),e,a,()))) (optc (QcG u a.Members (e.People.length:Int)) fun o=>cnd (!o) (some 3) (some 0))) u ((1,()),k,c,())))) u ((h,0,()),p,g,i,()))
theorem QpF:FO 137 (sI [.st .Config,.st .Book,nI] fun x=>Qif u x.1 x.2.1 x.2.2.1):=fI u (gs 3 (.two (.two .go (.one (.loop [ni 2,rf 3,rf 4,rf 7,ni 8] [bx 1003 .Config,bx 1004 .Book,bx 1007 .Team] .go))) (.two .go (lp [rf 3,rf 7,ni 9] [bx 1003 .Config,bx 1007 .Team] .go)))) kz0 (eC (Qhc u) (eC (QfA u) eN)) Tryz.func137
def QcH(p:D.Config)(q:D.Book)(j:List D.Target):Option Int:=cd (6<(j.length:Int)) (some 5) (Qh (X:=((List D.Target×Int×Unit)×D.Config×D.Book×Unit)) (fun r ((b,c,_),e,f,_)=>cd (c<(b.length:Int)) (join (Y:=((List D.Target×Int×Unit)×D.Config×D.Book×Unit)) (fun((s,t,_),v,w,_)=>r ((s,(wrap .i64 (t+1)),()),v,w,())) fun y=>join (Y:=((List D.Target×Int×Int×Unit)×D.Config×D.Book×Unit)) (fun((g,h,k,_),l,m,_)=>atc g h fun n=>cd (n.Index<0) (some 3) (atc g h fun o=>cd (k≤o.Index) (some 3) (y ((g,h,()),l,m,())))) fun a=>atc b c fun i=>cd (i.Kind=0) (a ((b,c,(e.People.length:Int),()),e,f,())) (cd (i.Kind=1) (a ((b,c,(e.Schedules.length:Int),()),e,f,())) (cd (i.Kind=2) (a ((b,c,(f.Teams.length:Int),()),e,f,())) (a ((b,c,(-1),()),e,f,()))))) (some 0)) u ((j,0,()),p,q,()))
theorem Qku:FO 208 (sI [.st .Config,.st .Book,.one (.lst .Target)] fun x=>QcH u x.1 x.2.1 x.2.2.1):=fI u (gs 2 (lp [li 2 .Target,rf 3,rf 4,ni 7] [bx 1003 .Config,bx 1004 .Book] (.two .go (.two (.join [li 2 .Target,rf 3,rf 4,ni 7] [bx 1003 .Config,bx 1004 .Book] (.one (.two .go (.two (.join [li 2 .Target,rf 3,rf 4,ni 7,ni 8] [bx 1003 .Config,bx 1004 .Book] .go) .go)))) .go)))) kz0 eN Tryz.func208
def Qex(s:D.Config)(j:D.Book)(k:Int):Option Int:=atc j.Policies k fun l=>optc (Qeu u l.Name) fun t=>cnd (!t) (some 8) (Qh (X:=((Int×Int×Unit)×D.Config×D.Book×D.Policy×Unit)) (fun v ((m,h,_),n,i,c,_)=>cd (h<m) (atc i.Policies h fun w=>cd (w.Name=c.Name) (some 4) (v ((m,(wrap .i64 (h+1)),()),n,i,c,()))) (cd ((c.Steps.length:Int)=0) (some 7) (cd (8<(c.Steps.length:Int)) (some 5) (optc (Q5 u c.Repeat 0 8) fun y=>cnd (!y) (some 1) (Qh (X:=((Int×Unit)×D.Config×D.Book×D.Policy×Unit)) (fun o ((a,_),e,f,b,_)=>cd (a<(b.Steps.length:Int)) (atc b.Steps a fun p=>optc (Q5 u p.Wait 0 86400) fun q=>cnd (!q) (some 1) (atc b.Steps a fun r=>optc (QcH u e f r.Targets) fun g=>cd (g≠0) (some g) (o (((wrap .i64 (a+1)),()),e,f,b,())))) (some 0)) u ((0,()),n,i,c,())))))) u ((k,0,()),s,j,l,()))
theorem Qmo:FO 138 (sI [.st .Config,.st .Book,nI] fun x=>Qex u x.1 x.2.1 x.2.2.1):=fI u (gs 3 (.two (.two .go (.one (.loop [ni 2,rf 3,rf 4,rf 7,ni 8] [bx 1003 .Config,bx 1004 .Book,bx 1007 .Policy] .go))) (.two .go (lp [rf 3,rf 4,rf 7,ni 9] [bx 1003 .Config,bx 1004 .Book,bx 1007 .Policy] .go)))) kz0 (eC (Wj u) (eC (QfA u) (eC (Qku u) eN))) Tryz.func138
def Qmn(l:D.Config)(e:D.Book):Option Int:=join (Y:=(Unit×D.Config×D.Book×Unit)) (fun(_,m,n,_)=>Qh (X:=((Int×Unit)×D.Config×D.Book×Unit)) (fun o ((f,_),g,b,_)=>cd (f<(b.Teams.length:Int)) (optc (Qif u g b f) fun i=>cd (i≠0) (some i) (o (((wrap .i64 (f+1)),()),g,b,()))) (Qh (X:=((Int×Unit)×D.Config×D.Book×Unit)) (fun p ((h,_),j,a,_)=>cd (h<(a.Policies.length:Int)) (optc (Qex u j a h) fun c=>cd (c≠0) (some c) (p (((wrap .i64 (h+1)),()),j,a,()))) (some 0)) u ((0,()),g,b,()))) u ((0,()),m,n,())) fun k=>cd (8<(e.Teams.length:Int)) (some 5) (cd (12<(e.Policies.length:Int)) (some 5) (k ((),l,e,())))
theorem QpE:FO 86 (sI [.st .Config,.st .Book] fun x=>Qmn u x.1 x.2.1):=fI u (.two .go (.two (.join [rf 2,rf 3] [bx 1002 .Config,bx 1003 .Book] .go) (.two (.two .go (.one (.loop [rf 2,rf 3,ni 5] [bx 1002 .Config,bx 1003 .Book] .go))) (lp [rf 2,rf 3,ni 7] [bx 1002 .Config,bx 1003 .Book] .go)))) kz0 (eC (QpF u) (eC (Qmo u) eN)) Tryz.func86
def QdM(a:D.Config)(b:D.Book):Option Int:=optc (VM u a) fun c=>cd (c≠0) (some 8) (optc (Qmn u a b) fun e=>some e)
theorem QhA:FO 62 (sI [.st .Config,.st .Book] fun x=>QdM u x.1 x.2.1):=fI u .go kz0 (eC (Qbu u) (eC (QpE u) eN)) Tryz.func62
def QjN(f:D.Book)(b:Int)(g:Int)(c:Int):Option (D.Page×Int):=join (Y:=(P3×D.Book×D.Page×Unit)) (fun((h,e,a,_),i,n,_)=>optc (Q5 u e 0 (wrap .i64 ((i.Policies.length:Int) - 1))) fun j=>cnd (!j) (some ((D.Page.mk 0 0 0 0 0 0 0 0 0 0 0 [] [] []),3)) (some ((D.Page.mk h e a 0 a 0 (-1) 0 a 0 0 [] [] []),0))) fun k=>optc (Q5 u b 1 999999) fun l=>cnd l (optc (Q5 u c 0 8589934592) fun m=>cnd m (k ((b,g,c,()),f,(D.Page.mk 0 0 0 0 0 0 0 0 0 0 0 [] [] []),())) (some ((D.Page.mk 0 0 0 0 0 0 0 0 0 0 0 [] [] []),1))) (some ((D.Page.mk 0 0 0 0 0 0 0 0 0 0 0 [] [] []),1))
theorem Qk1:FO 87 (Qf [.st .Book,nI,nI,nI] [] [.st .Page,nI] [] [] (D.Page×Int) kz3 (fun x y=>QjN u x.1 x.2.1 x.2.2.1 x.2.2.2.1)):=fI u (.two .go (.two (.join [ni 1,ni 2,ni 3,rf 4,rf 8] [bx 1004 .Book,bx 1008 .Page] .go) .go)) kz4 (eC (Wj u) eN) Tryz.func87
def QdN(c:D.Policy):Option Bool:=Qh (X:=((Int×Unit)×D.Policy×Unit)) (fun e ((a,_),b,_)=>cd (a<(b.Steps.length:Int)) (atc b.Steps a fun f=>optc (Q5 u f.Wait 0 86400) fun g=>cnd (!g) sF (e (((wrap .i64 (a+1)),()),b,()))) sT) u ((0,()),c,())
theorem Qoi:FO 88 (sB [.st .Policy] fun x=>QdN u x.1):=fI u (.two .go (lp [rf 1,ni 3] [bx 1001 .Policy] .go)) kz0 (eC (Wj u) eN) Tryz.func88
def Qb3(a:D.Policy):Option Int:=join (Y:=(Unit×D.Policy×Unit)) (fun(_,b,_)=>some (wrap .i64 ((b.Steps.length:Int)*(wrap .i64 (b.Repeat+1))))) fun c=>optc (Q5 u a.Repeat 0 8) fun e=>cnd e (cd (8<(a.Steps.length:Int)) (some 0) (c ((),a,()))) (some 0)
theorem QhB:FO 89 (sI [.st .Policy] fun x=>Qb3 u x.1):=fI u (.two .go (.two (.join [rf 1] [bx 1001 .Policy] .go) .go)) kz0 (eC (Wj u) eN) Tryz.func89
def QeA(j:D.Page):Option Bool:=Qh (X:=(P3×D.Page×Unit)) (fun o ((i,p,e,_),c,_)=>cd (e<(c.Starts.length:Int)) (join (Y:=(P3×D.Page×Unit)) (fun((q,r,s,_),t,_)=>o ((q,r,(wrap .i64 (s+1)),()),t,())) fun k=>atc c.Starts e fun a=>join (Y:=((Int×Int×Unit)×D.Page×D.Start×Unit)) (fun((l,f,_),g,b,_)=>cd (0≤b.K) (k ((b.K,b.At,f,()),g,())) (k ((l,b.At,f,()),g,()))) fun h=>cd (a.At<p) sF (cd (a.K<(-1)) sF (cd (0≤a.K) (cd (a.K≤i) sF (cd (c.Next≤a.K) sF (optc (QcG u a.People 32) fun m=>cnd m (h ((i,e,()),c,a,())) sF))) (optc (QcG u a.People 32) fun n=>cnd n (h ((i,e,()),c,a,())) sF)))) (some (decide ((c.Starts.length:Int)≤200)))) u (((-1),j.Start,0,()),j,())
theorem Qmt:FO 90 (sB [.st .Page] fun x=>QeA u x.1):=fI u (gs 2 (lp [rf 1,ni 3,ni 4,ni 5] [bx 1001 .Page] (.two .go (.two (.join [rf 1,ni 3,ni 4,ni 5] [bx 1001 .Page] (.one (.two .go (.two (.join [rf 1,ni 3,ni 5,rf 6] [bx 1001 .Page,bx 1006 .Start] .go) .go)))) .go)))) kz0 (eC (Qhc u) eN) Tryz.func90
def VO(g:D.Book)(a:D.Page):Option Bool:=join (Y:=(Unit×D.Page×Unit)) (fun(_,b,_)=>join (Y:=(Unit×D.Page×Unit)) (fun(_,c,_)=>join (Y:=(Unit×D.Page×Unit)) (fun(_,B,_)=>Qh (X:=((Int×Unit)×D.Page×Unit)) (fun C ((f,_),e,_)=>cd (f<(e.Seen.length:Int)) (natc f fun h=>lec h e.Seen.length (atc e.Seen f fun E=>optc (QcF u (List.take h e.Seen) E) fun F=>cnd F sF (C (((wrap .i64 (f+1)),()),e,())))) sT) u ((0,()),B,())) fun G=>optc (Q5 u c.Snoozes 0 4) fun i=>cnd i (optc (Q5 u c.Hands 0 4) fun j=>cnd j (optc (QeA u c) fun k=>cnd k (optc (QcG u c.Declined 32) fun l=>cnd l (cd (64<(c.Seen.length:Int)) sF (G ((),c,()))) sF) sF) sF) sF) fun m=>optc (Q5 u b.State 0 4) fun n=>cnd n (optc (Q5 u b.By (-1) 31) fun o=>cnd o (optc (Q5 u b.Last b.Start 17179869184) fun p=>cnd p (optc (Q5 u b.Due 0 17179869184) fun q=>cnd q (optc (Q5 u b.Until 0 17179869184) fun r=>cnd r (m ((),b,())) sF) sF) sF) sF) sF) fun s=>optc (QjN u g a.ID a.Policy a.Start) fun(H,t)=>cd (t≠0) sF (atc g.Policies a.Policy fun v=>optc (QdN u v) fun w=>cnd w (atc g.Policies a.Policy fun y=>optc (Qb3 u y) fun z=>optc (Q5 u a.Next 0 z) fun A=>cnd A (s ((),a,())) sF) sF)
theorem Qbw:FO 65 (sB [.st .Book,.st .Page] fun x=>VO u x.1 x.2.1):=fI u (.two .go (.two (.join [rf 3] [bx 1003 .Page] .go) (.two (.join [rf 3] [bx 1003 .Page] .go) (.two (.join [rf 3] [bx 1003 .Page] .go) (lp [rf 3,ni 7] [bx 1003 .Page] .go))))) kz0 (eC (Qew u) (eC (Wj u) (eC (Qk1 u) (eC (Qoi u) (eC (QhB u) (eC (Qmt u) (eC (Qhc u) eN))))))) Tryz.func65
def Qb6(l:D.Page)(m:Int)(n:Int):Option (List D.Call):=Qh (X:=((Int×Int×Unit)×D.Page×List D.Call×Unit)) (fun o ((p,g,_),h,j,_)=>cd (g<(h.Starts.length:Int)) (atc h.Starts g fun q=>Qh (X:=(P3×D.Page×D.Start×List D.Call×Unit)) (fun r ((e,k,i,_),b,a,c,_)=>cd (i<(a.People.length:Int)) (atc a.People i fun f=>lec (c.length+[(D.Call.mk b.ID a.K a.At f e)].length) 34359738368 (r ((e,k,(wrap .i64 (i+1)),()),b,a,(c++[(D.Call.mk b.ID a.K a.At f e)]),()))) (o ((e,(wrap .i64 (k+1)),()),b,c,()))) u ((p,g,0,()),h,q,j,())) (some j)) u ((n,m,()),l,[],())
theorem QdP:FO 67 (Qf [.st .Page,nI,nI] [] [.one (.lst .Call)] [] [] (List D.Call) kz1 (fun x y=>Qb6 u x.1 x.2.1 x.2.2.1)):=fI u (gs 2 (lp [ni 2,rf 3,(7,.one (.own 1046)),ni 8] [bx 1003 .Page,ar 1046 .Call] (.two .go (.two (.one (gs 2 (.one (.loop [ni 2,rf 3,(7,.one (.own 1046)),ni 8,rf 9,ni 10] [bx 1003 .Page,bx 1009 .Start,ar 1046 .Call] .go)))) .go)))) kz0 eN Tryz.func67
def QeC(y:D.Ledger)(m:D.Page):Option Bool:=optc (Qb6 u m 0 0) fun z=>Qh (X:=((List D.Call×Int×Int×Int×Unit)×D.Ledger×D.Page×Unit)) (fun A ((f,g,n,h,_),e,l,_)=>cd (h<(e.Calls.length:Int)) (join (Y:=((List D.Call×Int×Int×Int×Unit)×D.Ledger×D.Page×Unit)) (fun((B,C,o,p,_),q,r,_)=>A ((B,C,o,(wrap .i64 (p+1)),()),q,r,())) fun i=>atc e.Calls h fun c=>cd (c.Page≠l.ID) (i ((f,g,n,h,()),e,l,())) (join (Y:=((List D.Call×Int×Int×Unit)×D.Ledger×D.Page×D.Call×Unit)) (fun((j,k,s,_),t,v,a,_)=>atc j k fun b=>cd ([a.Page,a.K,a.At,a.Person,0]≠[b.Page,b.K,b.At,b.Person,b.Fence]) sF (i ((j,(wrap .i64 (k+1)),a.Fence,s,()),t,v,()))) fun w=>cd ((f.length:Int)≤g) sF (cd (c.Fence<n) sF (cd (e.Fence<c.Fence) sF (w ((f,g,h,()),e,l,c,())))))) (some (decide (g=(f.length:Int))))) u ((z,0,0,0,()),y,m,())
theorem QpH:FO 66 (sB [.st .Ledger,.st .Page] fun x=>QeC u x.1 x.2.1):=fI u (gs 3 (lp [rf 2,rf 3,li 5 .Call,ni 6,ni 7,ni 8] [bx 1002 .Ledger,bx 1003 .Page] (.two .go (.two (.join [rf 2,rf 3,li 5 .Call,ni 6,ni 7,ni 8] [bx 1002 .Ledger,bx 1003 .Page] (.one (gs 2 (.two (.join [rf 2,rf 3,li 5 .Call,ni 6,ni 8,rf 9] [bx 1002 .Ledger,bx 1003 .Page,bx 1009 .Call] .go) .go)))) .go)))) kz0 (eC (QdP u) eN) Tryz.func66
def YM(e:D.Ledger):Option Bool:=join (Y:=(Unit×D.Ledger×Unit)) (fun(_,I,_)=>Qh (X:=((Int×Int×Unit)×D.Ledger×Unit)) (fun J ((k,g,_),a,_)=>cd (g<(a.Pages.length:Int)) (atc a.Pages g fun c=>join (Y:=((Int×Int×Unit)×D.Ledger×D.Page×Unit)) (fun((L,O,_),S,W,_)=>optc (Qb6 u W 0 0) fun l=>J (((wrap .i64 (L+(l.length:Int))),(wrap .i64 (O+1)),()),S,())) fun h=>cd (0<g) (atc a.Pages (wrap .i64 (g - 1)) fun m=>cd (c.ID≤m.ID) sF (optc (VO u a.Book c) fun n=>cnd n (cd (a.Now<c.Last) sF (optc (QeC u a c) fun o=>cnd o (h ((k,g,()),a,c,())) sF)) sF)) (optc (VO u a.Book c) fun p=>cnd p (cd (a.Now<c.Last) sF (optc (QeC u a c) fun q=>cnd q (h ((k,g,()),a,c,())) sF)) sF)) (Qh (X:=((Int×Int×Unit)×D.Ledger×Unit)) (fun r ((i,f,_),b,_)=>cd (f<(b.Seen.length:Int)) (join (Y:=((Int×Int×Unit)×D.Ledger×Unit)) (fun((s,t,_),v,_)=>r ((s,(wrap .i64 (t+1)),()),v,())) fun w=>atc b.Seen f fun y=>optc (Q5 u y 1 1099511627776) fun z=>cnd z (natc f fun j=>lec j b.Seen.length (atc b.Seen f fun A=>optc (QcF u (List.take j b.Seen) A) fun B=>cnd B sF (w ((i,f,()),b,())))) sF) (some (decide (i=(b.Calls.length:Int))))) u ((k,0,()),a,()))) u ((0,0,()),I,())) fun C=>optc (QdM u e.Config e.Book) fun E=>cd (E≠0) sF (optc (Q5 u e.Now 0 8589934592) fun F=>cnd F (cd (64<(e.Pages.length:Int)) sF (optc (Q5 u e.Owner (-1) 4) fun G=>cnd G (optc (Q5 u e.Fence 0 1048576) fun H=>cnd H (cd (256<(e.Seen.length:Int)) sF (C ((),e,()))) sF) sF)) sF)
theorem Vl:FO 42 (sB [.st .Ledger] fun x=>YM u x.1):=fI u (.two .go (.two (.join [rf 1] [bx 1001 .Ledger] .go) (.two .go (.two (.two .go (.one (.loop [rf 1,ni 3,ni 4] [bx 1001 .Ledger] (.two .go (.two (.one (.two .go (.two (.join [rf 1,ni 3,ni 4,rf 5] [bx 1001 .Ledger,bx 1005 .Page] .go) .go))) .go))))) (lp [rf 1,ni 3,ni 6] [bx 1001 .Ledger] (.two .go (.two (.join [rf 1,ni 3,ni 6] [bx 1001 .Ledger] .go) .go))))))) kz0 (eC (Qew u) (eC (Wj u) (eC (QhA u) (eC (Qbw u) (eC (QpH u) (eC (QdP u) eN)))))) Tryz.func42
def QdO(b:D.Answer):Option Bool:=join (Y:=(Unit×D.Answer×Unit)) (fun(_,a,_)=>join (Y:=((Int×Bool×Unit)×D.Answer×Unit)) (fun((f,i,_),c,_)=>cnd i (some (decide (c.Arg=0))) (cd (f=3) (optc (Q5 u c.Arg 1 86400) fun j=>some j) (cd (f=4) (optc (Q5 u c.Arg 0 31) fun k=>some k) sF))) fun e=>cd (a.Kind=1) (e ((a.Kind,(decide (a.Kind=1)),()),a,())) (cd (a.Kind=2) (e ((a.Kind,(decide (a.Kind=2)),()),a,())) (e ((a.Kind,(decide (a.Kind=5)),()),a,())))) fun l=>optc (Q5 u b.ID 1 999999) fun m=>cnd m (optc (Q5 u b.Page 1 999999) fun n=>cnd n (optc (Q5 u b.Person (-1) 31) fun g=>cnd g (optc (Q5 u b.At 0 8589934592) fun h=>cnd h (l ((),b,())) sF) sF) sF) sF
theorem QhC:FO 68 (sB [.st .Answer] fun x=>QdO u x.1):=fI u (.two .go (.two (.join [rf 1] [bx 1001 .Answer] .go) (.two (.two .go (.one (.two (.join [rf 1,ni 26,(27,.one .boo)] [bx 1001 .Answer] .go) .go))) .go))) kz0 (eC (Wj u) eN) Tryz.func68
def QaV(a:D.Op):Option Bool:=optc (Q5 u a.ID 1 1099511627776) fun b=>cnd b (optc (Q5 u a.Kind 1 5) fun c=>cnd c (optc (Q5 u a.Region 0 4) fun e=>cnd e (optc (Q5 u a.Fence 0 1048576) fun f=>cnd f (optc (Q5 u a.At 0 8589934592) fun g=>cnd g (optc (Q5 u a.Page 0 999999) fun h=>cnd h (optc (Q5 u a.K (-1) 1000) fun i=>cnd i (cd (a.Kind≠4) sT (optc (QdO u a.Answer) fun j=>cnd j sT sF)) sF) sF) sF) sF) sF) sF) sF
theorem Qok:FO 43 (sB [.st .Op] fun x=>QaV u x.1):=fI u .go kz0 (eC (Wj u) (eC (QhC u) eN)) Tryz.func43
def QfD(u:Nat)(a:D.Page):Option (Int×Bool):=cd (a.State=0) (some (a.Due,true)) (cd (a.State=2) (some (a.Until,true)) (some (0,false)))
theorem Qb5:FO 51 (Qf [.st .Page] [] [nI,.one .boo] [] [] (Int×Bool) kz3 (fun x y=>QfD u x.1)):=fI u .go kz4 eN Tryz.func51
def QcJ(e:D.Ledger)(f:Int):Option (D.Page×Bool):=Qh (X:=((Int×Int×Unit)×D.Ledger×D.Page×Unit)) (fun g ((c,a,_),b,h,_)=>cd (a<(b.Pages.length:Int)) (atc b.Pages a fun i=>cd (i.ID=c) (atc b.Pages a fun j=>optc (Qam u j) fun k=>some (k,true)) (g ((c,(wrap .i64 (a+1)),()),b,h,()))) (some ((D.Page.mk 0 0 0 0 0 0 0 0 0 0 0 [] [] []),false))) u ((f,0,()),e,(D.Page.mk 0 0 0 0 0 0 0 0 0 0 0 [] [] []),())
theorem QfE:FO 58 (Qf [.st .Ledger,nI] [] [.st .Page,.one .boo] [] [] (D.Page×Bool) kz3 (fun x y=>QcJ u x.1 x.2.1)):=fI u (.two .go (lp [ni 1,rf 2,rf 4,ni 6] [bx 1002 .Ledger,bx 1004 .Page] .go)) kz4 (eC (Uh u) eN) Tryz.func58
def Qgq(c:D.Policy)(b:Int):Option (Int×Int×Bool):=join (Y:=((Int×Unit)×D.Policy×Unit)) (fun((e,_),a,_)=>nzc (a.Steps.length:Int) (nzc (a.Steps.length:Int) (some ((Int.tmod e (a.Steps.length:Int)),(wrap .i64 (Int.tdiv e (a.Steps.length:Int))),true)))) fun f=>cd (b<0) (some (0,0,false)) (optc (Qb3 u c) fun g=>cd (g≤b) (some (0,0,false)) (f ((b,()),c,())))
theorem QpC:FO 209 (Qf [.st .Policy,nI] [] [nI,nI,.one .boo] [] [] (Int×Int×Bool) kz21 (fun x y=>Qgq u x.1 x.2.1)):=fI u (.two .go (.two (.join [ni 1,rf 2] [bx 1002 .Policy] .go) .go)) (fun a b=>(a.1,a.2.1,a.2.2.1)) (eC (QhB u) eN) Tryz.func209
def Wv(t:List Int)(v:Int):Option (List Int):=Qh (X:=((List Int×Int×Bool×Int×Unit)×List Int×Unit)) (fun w ((f,a,k,g,_),b,_)=>cd (g<(f.length:Int)) (join (Y:=((List Int×Int×Bool×Int×Unit)×List Int×Unit)) (fun((y,z,A,B,_),p,_)=>w ((y,z,A,(wrap .i64 (B+1)),()),p,())) fun l=>join (Y:=((List Int×Int×Bool×Int×Unit)×List Int×Unit)) (fun((c,h,m,e,_),i,_)=>atc c e fun q=>cd (q≠h) (atc c e fun n=>lec (i.length+[n].length) 34359738368 (l ((c,h,m,e,()),(i++[n]),()))) (l ((c,h,m,e,()),i,()))) fun j=>cnd k (j ((f,a,k,g,()),b,())) (atc f g fun r=>cd (a≤r) (lec (b.length+[a].length) 34359738368 (j ((f,a,true,g,()),(b++[a]),()))) (j ((f,a,k,g,()),b,())))) (join (Y:=(Unit×List Int×Unit)) (fun(_,s,_)=>some s) fun o=>cnd (!k) (lec (b.length+[a].length) 34359738368 (o ((),(b++[a]),()))) (o ((),b,())))) u ((t,v,false,0,()),[],())
theorem QfC:FO 61 (Qf [lI,nI] [] [lI] [] [] (List Int) kz1 (fun x y=>Wv u x.1 x.2.1)):=fI u (gs 3 (.two (.two .go (.one (.loop [(0,lI),ni 1,(5,.one (.own 1027)),(6,.one .boo),ni 7] [ar 1027 .int] (.two .go (.two (.join [(0,lI),ni 1,(5,.one (.own 1027)),(6,.one .boo),ni 7] [ar 1027 .int] (.one (.two (.join [(0,lI),ni 1,(5,.one (.own 1027)),(6,.one .boo),ni 7] [ar 1027 .int] .go) .go))) .go))))) (.two (.join [(5,.one (.own 1027))] [ar 1027 .int] .go) .go))) kz0 eN Tryz.func61
def QtJ(a:D.Config)(b:Int)(c:Int):Option Bool:=cd (0≤b) (cd (b<(a.Schedules.length:Int)) (cd (0≤c) (cd (c≤8589934592) (optc (VM u a) fun e=>cd (e=0) sT sF) sF) sF) sF) sF
theorem QtK:FO 288 (sB [.st .Config,nI,nI] fun x=>QtJ u x.1 x.2.1 x.2.2.1):=fI u .go kz0 (eC (Qbu u) eN) Tryz.func288
def Qer(l:D.Zone)(m:List D.Transition)(n:Int):Option Int:=join (Y:=((Int×Unit)×Unit)) (fun((o,_),_)=>some o) fun c=>Qh (X:=((List D.Transition×Int×Int×Int×Unit)×Unit)) (fun p ((a,e,f,b,_),_)=>join (Y:=((List D.Transition×Int×Int×Unit)×Unit)) (fun((g,q,h,_),_)=>atc g h fun i=>p ((g,q,i.Offset,(wrap .i64 (h+1)),()),())) fun j=>cd (b<(a.length:Int)) (atc a b fun k=>cd (k.At≤e) (j ((a,e,b,()),())) (c ((f,()),()))) (c ((f,()),()))) u ((m,n,l.Offset,0,()),())
theorem Qme:FO 325 (sI [.st .Zone,.one (.lst .Transition),nI] fun x=>Qer u x.1 x.2.1 x.2.2.1):=fI u (gs 2 (.two (.join [ni 7] [] (.two .go (.one (.loop [li 1 .Transition,ni 2,ni 7,ni 8] [] (.two (.join [li 1 .Transition,ni 2,ni 8] [] .go) .go))))) .go)) kz0 eN Tryz.func325
def Qbt(a:D.Zone)(b:Int):Option (Int×Int):=optc (Wi u a) fun(c,e)=>cd (e≠0) (some (0,8)) (optc (QaT u b 0 8589934592) fun f=>cnd (!f) (some (0,1)) (optc (Qer u a c b) fun g=>some (g,0)))
theorem QjF:FO 308 (Qf [.st .Zone,nI] [] [nI,nI] [] [] (Int×Int) kz3 (fun x y=>Qbt u x.1 x.2.1)):=fI u .go kz4 (eC (VL u) (eC (QdF u) (eC (Qme u) eN))) Tryz.func308
def QjG(u:Nat)(a:Int)(b:Int):Option D.Local:=nzc 86400 (nzc 86400 (some (D.Local.mk (wrap .i64 ((wrap .i64 (Int.tdiv (wrap .i64 ((wrap .i64 (a+b))+864000)) 86400)) - 10)) (Int.tmod (wrap .i64 ((wrap .i64 (a+b))+864000)) 86400))))
theorem Qn3:FO 309 (Qf [nI,nI] [] [.st .Local] [] [] D.Local kz1 (fun x y=>QjG u x.1 x.2.1)):=fI u .go kz0 eN Tryz.func309
def Ug(c:D.Zone)(a:Int):Option (D.Local×Int):=optc (Qbt u c a) fun(e,b)=>cd (b≠0) (some ((D.Local.mk 0 0),b)) (optc (QjG u a e) fun f=>some (f,0))
theorem QbJ:FO 290 (Qf [.st .Zone,nI] [] [.st .Local,nI] [] [] (D.Local×Int) kz3 (fun x y=>Ug u x.1 x.2.1)):=fI u .go kz4 (eC (QjF u) (eC (Qn3 u) eN)) Tryz.func290
def Qet(a:D.Local):Option Int:=optc (QcE u a.Day) fun b=>some (wrap .i64 ((wrap .i64 (b*86400))+a.Second))
theorem Qmh:FO 291 (sI [.st .Local] fun x=>Qet u x.1):=fI u .go kz0 (eC (Qe3 u) eN) Tryz.func291
def Qhb(b:D.Zone)(c:Int):Option (Int×Int):=optc (Ug u b c) fun(e,a)=>cd (a≠0) (some (0,a)) (optc (Qet u e) fun f=>some (f,0))
theorem Qmf:FO 278 (Qf [.st .Zone,nI] [] [nI,nI] [] [] (Int×Int) kz3 (fun x y=>Qhb u x.1 x.2.1)):=fI u .go kz4 (eC (QbJ u) (eC (Qmh u) eN)) Tryz.func278
def Qes(f:List D.Window)(g:Int):Option Bool:=Qh (X:=((List D.Window×Int×Int×Unit)×Unit)) (fun h ((a,c,b,_),_)=>cd (b<(a.length:Int)) (join (Y:=((List D.Window×Int×Int×Unit)×Unit)) (fun((i,j,k,_),_)=>h ((i,j,(wrap .i64 (k+1)),()),())) fun e=>atc a b fun l=>cd (l.From≤c) (atc a b fun m=>cd (c<m.To) sT (e ((a,c,b,()),()))) (e ((a,c,b,()),()))) sF) u ((f,g,0,()),())
theorem Qmg:FO 279 (sB [.one (.lst .Window),nI] fun x=>Qes u x.1 x.2.1):=fI u (.two .go (lp [li 0 .Window,ni 1,ni 5] [] (.two .go (.two (.join [li 0 .Window,ni 1,ni 5] [] .go) .go)))) kz0 eN Tryz.func279
def Qk0(b:D.Zone)(a:List D.Window)(c:Int):Option Bool:=optc (Qhb u b c) fun(e,f)=>cd (f=0) (optc (QaU u a) fun g=>cd (g=0) (optc (Qes u a e) fun h=>cnd h sT sF) sF) sF
theorem Qn7:FO 256 (sB [.st .Zone,.one (.lst .Window),nI] fun x=>Qk0 u x.1 x.2.1 x.2.2.1):=fI u .go kz0 (eC (QdH u) (eC (Qmf u) (eC (Qmg u) eN))) Tryz.func256
def Qgn(b:D.Zone)(a:D.Layer):Option Int:=join (Y:=(Unit×Unit)) (fun(_,_)=>some 0) fun c=>optc (Qb0 u b) fun e=>cd (e≠0) (some 8) (cd (a.Start.Day<1) (some 8) (cd (100000<a.Start.Day) (some 8) (cd (a.Start.Second<0) (some 8) (cd (86400≤a.Start.Second) (some 8) (cd (a.Unit<0) (some 8) (cd (2<a.Unit) (some 8) (cd (a.Every<1) (some 8) (cd (400<a.Every) (some 8) (cd ((a.Members.length:Int)=0) (some 8) (c ((),())))))))))))
theorem Qod:FO 345 (sI [.st .Zone,.st .Layer] fun x=>Qgn u x.1 x.2.1):=fI u (.two .go (.two (.join [] [] .go) .go)) kz0 (eC (Qhy u) eN) Tryz.func345
def Qgl(a:Int):Option Bool:=optc (QaT u a (-2) 99422) fun b=>some b
theorem Qn6:FO 356 (sB [nI] fun x=>Qgl u x.1):=fI u .go kz0 (eC (QdF u) eN) Tryz.func356
def Qb1(q:D.Zone)(f:D.Local):Option (Int×Int):=optc (Wi u q) fun(C,E)=>cd (E≠0) (some (0,8)) (optc (QaT u f.Second 0 86399) fun F=>cnd (!F) (some (0,1)) (cd (f.Day<(-2)) (some (0,0)) (optc (Qgl u f.Day) fun G=>cnd (!G) (some (0,10)) (Qh (X:=((List D.Transition×Int×Unit)×D.Zone×D.Local×Unit)) (fun H ((e,c,_),p,r,_)=>cd (c<(e.length:Int)) (join (Y:=((List D.Transition×Int×Int×Int×Int×Unit)×D.Zone×D.Local×Unit)) (fun((g,b,h,i,s,_),j,k,_)=>join (Y:=((List D.Transition×Int×Int×Int×Int×Unit)×D.Zone×D.Local×Unit)) (fun((t,v,l,m,w,_),y,a,_)=>cd ((max m (wrap .i64 ((wrap .i64 ((wrap .i64 (a.Day*86400))+a.Second)) - l)))<w) (some ((max m (wrap .i64 ((wrap .i64 ((wrap .i64 (a.Day*86400))+a.Second)) - l))),0)) (H ((t,(wrap .i64 (v+1)),()),y,a,()))) fun n=>cd ((wrap .i64 (b+1))<(g.length:Int)) (atc g (wrap .i64 (b+1)) fun z=>n ((g,b,h,i,z.At,()),j,k,())) (n ((g,b,h,i,s,()),j,k,()))) fun o=>cd (0≤c) (atc e c fun A=>atc e c fun B=>o ((e,c,A.Offset,B.At,8589934593,()),p,r,())) (o ((e,c,p.Offset,0,8589934593,()),p,r,()))) (some (0,10))) u ((C,(-1),()),q,f,())))))
theorem Qhz:FO 350 (Qf [.st .Zone,.st .Local] [] [nI,nI] [] [] (Int×Int) kz3 (fun x y=>Qb1 u x.1 x.2.1)):=fI u (gs 6 (lp [rf 2,rf 3,li 6 .Transition,ni 8] [bx 1002 .Zone,bx 1003 .Local] (.two .go (.two (.one (.two .go (.two (.join [rf 2,rf 3,li 6 .Transition,ni 8,ni 9,ni 10,ni 11] [bx 1002 .Zone,bx 1003 .Local] .go) (.two (.join [rf 2,rf 3,li 6 .Transition,ni 8,ni 9,ni 10,ni 11] [bx 1002 .Zone,bx 1003 .Local] .go) .go)))) .go)))) kz4 (eC (VL u) (eC (QdF u) (eC (Qn6 u) eN))) Tryz.func350
def Qbv(e:D.Zone)(a:D.Layer)(b:Int):Option (Int×Bool):=cd (a.Unit=0) (optc (Qb1 u e a.Start) fun(c,h)=>cd (h=0) (cd ((wrap .i64 (c+(wrap .i64 ((wrap .i64 (b*a.Every))*3600))))≤8589934592) (some ((wrap .i64 (c+(wrap .i64 ((wrap .i64 (b*a.Every))*3600)))),true)) (some ((wrap .i64 (c+(wrap .i64 ((wrap .i64 (b*a.Every))*3600)))),false))) (some ((wrap .i64 (c+(wrap .i64 ((wrap .i64 (b*a.Every))*3600)))),false))) (join (Y:=((Int×Unit)×D.Zone×D.Layer×Unit)) (fun((i,_),j,f,_)=>optc (Qb1 u j (D.Local.mk (wrap .i64 (f.Start.Day+i)) f.Start.Second)) fun(k,l)=>some (k,(decide (l=0)))) fun g=>cd (a.Unit=2) (g (((wrap .i64 ((wrap .i64 (b*a.Every))*7)),()),e,a,())) (g (((wrap .i64 (b*a.Every)),()),e,a,())))
theorem QjJ:FO 351 (Qf [.st .Zone,.st .Layer,nI] [] [nI,.one .boo] [] [] (Int×Bool) kz3 (fun x y=>Qbv u x.1 x.2.1 x.2.2.1)):=fI u (gs 3 (.two (.join [rf 3,rf 4,ni 11] [bx 1003 .Zone,bx 1004 .Layer] .go) .go)) kz4 (eC (Qhz u) eN) Tryz.func351
def Qgo(h:D.Zone)(b:D.Layer)(c:Int):Option Int:=cd (b.Unit=0) (join (Y:=((Int×Unit)×Unit)) (fun((B,_),_)=>some B) fun l=>optc (Qb1 u h b.Start) fun(m,C)=>cd (C=0) (cd (m≤c) (nzc (wrap .i64 (3600*b.Every)) (l (((wrap .i64 (Int.tdiv (wrap .i64 (c - m)) (wrap .i64 (3600*b.Every)))),()),()))) (l (((-1),()),()))) (l (((-1),()),()))) (optc (Ug u h c) fun(n,G)=>join (Y:=((Int×Int×Unit)×D.Zone×D.Layer×D.Local×Unit)) (fun((E,o,_),F,p,q,_)=>join (Y:=((Int×Unit)×Unit)) (fun((r,_),_)=>some r) fun i=>nzc o (Qh (X:=((Int×Int×Unit)×D.Zone×D.Layer×Unit)) (fun s ((e,a,_),f,g,_)=>cd (0≤a) (join (Y:=((Int×Int×Unit)×D.Zone×D.Layer×Unit)) (fun((t,v,_),w,y,_)=>s ((t,(wrap .i64 (v - 1)),()),w,y,())) fun j=>optc (Qbv u f g a) fun(z,A)=>cnd A (cd (z≤e) (i ((a,()),())) (j ((e,a,()),f,g,()))) (j ((e,a,()),f,g,()))) (i ((a,()),()))) u ((E,(wrap .i64 (Int.tdiv (max (wrap .i64 ((wrap .i64 (q.Day+2)) - p.Start.Day)) 0) o)),()),F,p,()))) fun k=>cd (b.Unit=2) (k ((c,(wrap .i64 (b.Every*7)),()),h,b,n,())) (k ((c,b.Every,()),h,b,n,())))
theorem Qof:FO 346 (sI [.st .Zone,.st .Layer,nI] fun x=>Qgo u x.1 x.2.1 x.2.2.1):=fI u (gs 2 (.two (.two .go (.two (.two (.join [ni 7] [] .go) .go) .go)) (gs 2 (.two (.join [ni 2,rf 3,rf 4,rf 10,ni 12] [bx 1003 .Zone,bx 1004 .Layer,bx 1010 .Local] .go) (.two (.join [ni 7] [] (.two .go (.one (.loop [ni 2,rf 3,rf 4,ni 7] [bx 1003 .Zone,bx 1004 .Layer] (.two .go (.two (.join [ni 2,rf 3,rf 4,ni 7] [bx 1003 .Zone,bx 1004 .Layer] .go) .go)))))) .go))))) kz0 (eC (QbJ u) (eC (Qhz u) (eC (QjJ u) eN))) Tryz.func346
def QdK(b:D.Zone)(c:D.Layer)(a:Int):Option (Int×Int):=optc (Qgn u b c) fun e=>cd (e≠0) (some (0,8)) (join (Y:=((Int×Unit)×D.Zone×D.Layer×Unit)) (fun((f,_),g,h,_)=>optc (Qgo u g h f) fun i=>some (i,0)) fun j=>cd (a<0) (some (0,1)) (cd (8589934592<a) (some (0,1)) (j ((a,()),b,c,()))))
theorem Qoe:FO 339 (Qf [.st .Zone,.st .Layer,nI] [] [nI,nI] [] [] (Int×Int) kz3 (fun x y=>QdK u x.1 x.2.1 x.2.2.1)):=fI u (gs 2 (.two (.join [ni 2,rf 3,rf 4] [bx 1003 .Zone,bx 1004 .Layer] .go) .go)) kz4 (eC (Qod u) (eC (Qof u) eN)) Tryz.func339
def Qib(l:D.Config)(g:D.Layer)(i:Int):Option (Int×Bool):=atc l.Zones g.Zone fun o=>optc (QdK u o g i) fun(m,E)=>join (Y:=((Int×Int×Unit)×D.Config×D.Layer×Unit)) (fun((F,p,_),q,n,_)=>cd (n.Mode=0) (some (p,true)) (atc q.Calendars n.Calendar fun r=>atc q.Zones r.Zone fun G=>optc (Ug u G F) fun(H,I)=>Qh (X:=((Int×Bool×Int×Unit)×D.Layer×D.Calendar×D.Local×Unit)) (fun s ((c,j,a,_),e,b,f,_)=>cd (a<(b.Days.length:Int)) (join (Y:=((Int×Bool×Int×Unit)×D.Layer×D.Calendar×D.Local×Unit)) (fun((t,v,w,_),y,z,A,_)=>s ((t,v,(wrap .i64 (w+1)),()),y,z,A,())) fun h=>cnd j (h ((c,true,a,()),e,b,f,())) (atc b.Days a fun B=>cd (B=f.Day) (h ((c,true,a,()),e,b,f,())) (h ((c,false,a,()),e,b,f,())))) (some (c,(decide (j=(decide (e.Mode=2))))))) u ((p,false,0,()),n,r,H,()))) fun k=>cd (E≠0) (some (0,false)) (cd (m<0) (some (0,false)) (cd (0<(g.Windows.length:Int)) (optc (Qk0 u o g.Windows i) fun C=>cnd C (k ((i,m,()),l,g,())) (some (0,false))) (k ((i,m,()),l,g,()))))
theorem Qpx:FO 333 (Qf [.st .Config,.st .Layer,nI] [] [nI,.one .boo] [] [] (Int×Bool) kz3 (fun x y=>Qib u x.1 x.2.1 x.2.2.1)):=fI u (gs 3 (.two (.join [ni 2,rf 3,rf 4,ni 9] [bx 1003 .Config,bx 1004 .Layer] .go) (gs 4 (lp [rf 4,ni 9,rf 11,rf 12,(14,.one .boo),ni 15] [bx 1004 .Layer,bx 1011 .Calendar,bx 1012 .Local] (.two .go (.two (.join [rf 4,ni 9,rf 11,rf 12,(14,.one .boo),ni 15] [bx 1004 .Layer,bx 1011 .Calendar,bx 1012 .Local] .go) .go)))))) kz4 (eC (Qn7 u) (eC (QbJ u) (eC (Qoe u) eN))) Tryz.func333
def QjK(b:D.Config)(a:D.Layer)(c:Int):Option Int:=optc (Qib u b a c) fun(e,f)=>cnd (!f) (some (-1)) (nzc (a.Members.length:Int) (atc a.Members (Int.tmod e (a.Members.length:Int)) fun g=>some g))
theorem Qrv:FO 323 (sI [.st .Config,.st .Layer,nI] fun x=>QjK u x.1 x.2.1 x.2.2.1):=fI u .go kz0 (eC (Qpx u) eN) Tryz.func323
def Qic(h:D.Schedule)(i:Int)(j:Int):Option Bool:=Qh (X:=(P3×D.Schedule×Unit)) (fun k ((f,b,c,_),e,_)=>cd (c<(e.Edits.length:Int)) (join (Y:=(P3×D.Schedule×Unit)) (fun((l,m,n,_),o,_)=>k ((l,m,(wrap .i64 (n+1)),()),o,())) fun g=>atc e.Edits c fun a=>cd (a.Kind=0) (cd (a.A=f) (cd (a.From≤b) (cd (b<a.To) sT (g ((f,b,c,()),e,()))) (g ((f,b,c,()),e,()))) (g ((f,b,c,()),e,()))) (g ((f,b,c,()),e,()))) sF) u ((i,j,0,()),h,())
theorem Qpy:FO 324 (sB [.st .Schedule,nI,nI] fun x=>Qic u x.1 x.2.1 x.2.2.1):=fI u (.two .go (lp [ni 1,ni 2,rf 3,ni 7] [bx 1003 .Schedule] (.two .go (.two (.join [ni 1,ni 2,rf 3,ni 7] [bx 1003 .Schedule] .go) .go)))) kz0 eN Tryz.func324
def Qmj(h:D.Config)(l:Int)(m:Int):Option (Int×Int):=atc h.Schedules l fun i=>Qh (X:=((Int×Int×Unit)×D.Config×D.Schedule×Unit)) (fun n ((c,a,_),g,e,_)=>cd (0≤a) (join (Y:=((Int×Int×Unit)×D.Config×D.Schedule×Unit)) (fun((o,p,_),q,r,_)=>n ((o,(wrap .i64 (p - 1)),()),q,r,())) fun f=>atc e.Layers a fun j=>optc (QjK u g j c) fun b=>cd (0≤b) (optc (Qic u e b c) fun k=>cnd k (f ((c,a,()),g,e,())) (some (a,b))) (f ((c,a,()),g,e,()))) (some ((-1),(-1)))) u ((m,(wrap .i64 ((i.Layers.length:Int) - 1)),()),h,i,())
theorem Qrw:FO 306 (Qf [.st .Config,nI,nI] [] [nI,nI] [] [] (Int×Int) kz3 (fun x y=>Qmj u x.1 x.2.1 x.2.2.1)):=fI u (gs 2 (lp [ni 2,rf 3,rf 8,ni 9] [bx 1003 .Config,bx 1008 .Schedule] (.two .go (.two (.join [ni 2,rf 3,rf 8,ni 9] [bx 1003 .Config,bx 1008 .Schedule] .go) .go)))) kz4 (eC (Qrv u) (eC (Qpy u) eN)) Tryz.func306
def Qid(h:List D.Edit)(i:Int)(j:Int):Option Int:=Qh (X:=((List D.Edit×Int×Int×Int×Unit)×Unit)) (fun k ((b,f,c,e,_),_)=>cd (e<(b.length:Int)) (join (Y:=((List D.Edit×Int×Int×Int×Unit)×Unit)) (fun((l,m,n,o,_),_)=>k ((l,m,n,(wrap .i64 (o+1)),()),())) fun g=>atc b e fun a=>cd (c<a.From) (g ((b,f,c,e,()),())) (cd (a.To≤c) (g ((b,f,c,e,()),())) (cd (a.Kind=1) (g ((b,a.A,c,e,()),())) (cd (a.Kind=2) (cd (f=a.A) (g ((b,a.B,c,e,()),())) (cd (a.Kind=2) (cd (f=a.B) (g ((b,a.A,c,e,()),())) (g ((b,f,c,e,()),()))) (g ((b,f,c,e,()),())))) (cd (a.Kind=2) (cd (f=a.B) (g ((b,a.A,c,e,()),())) (g ((b,f,c,e,()),()))) (g ((b,f,c,e,()),()))))))) (some f)) u ((h,i,j,0,()),())
theorem Qpz:FO 307 (sI [.one (.lst .Edit),nI,nI] fun x=>Qid u x.1 x.2.1 x.2.2.1):=fI u (.two .go (lp [li 0 .Edit,ni 1,ni 2,ni 7] [] (.two .go (.two (.join [li 0 .Edit,ni 1,ni 2,ni 7] [] .go) .go)))) kz0 eN Tryz.func307
def QpA(a:D.Config)(b:Int)(c:Int):Option Int:=optc (Qmj u a b c) fun(h,e)=>atc a.Schedules b fun f=>optc (Qid u f.Edits e c) fun g=>some g
theorem Qrx:FO 289 (sI [.st .Config,nI,nI] fun x=>QpA u x.1 x.2.1 x.2.2.1):=fI u .go kz0 (eC (Qrw u) (eC (Qpz u) eN)) Tryz.func289
def Qmk(a:D.Config)(b:Int)(c:Int):Option Int:=optc (QtJ u a b c) fun e=>cnd (!e) (some (-1)) (optc (QpA u a b c) fun f=>some f)
theorem Qry:FO 276 (sI [.st .Config,nI,nI] fun x=>Qmk u x.1 x.2.1 x.2.2.1):=fI u .go kz0 (eC (QtK u) (eC (Qrx u) eN)) Tryz.func276
def QjL(a:D.Config)(b:Int)(c:Int):Option Int:=optc (Qmk u a b c) fun e=>some e
theorem Qrz:FO 254 (sI [.st .Config,nI,nI] fun x=>QjL u x.1 x.2.1 x.2.2.1):=fI u .go kz0 (eC (Qry u) eN) Tryz.func254
def Qb4(p0:D.Config)(p1:D.Book)(p2:List D.Target)(p3:Int):Option (List Int):=Qh (X:=((List D.Target×Int×List Int×Int×Unit)×D.Config×D.Book×Unit)) (fun L0 ((f,g,i,h,_),c,e,_)=>cd (h<(f.length:Int)) (join (Y:=((List D.Target×Int×List Int×Int×Unit)×D.Config×D.Book×Unit)) (fun((a7,a8,a9,b0,_),b1,b2,_)=>L0 ((a7,a8,a9,(wrap .i64 (b0+1)),()),b1,b2,())) fun b=>atc f h fun a=>cd (a.Kind=0) (optc (Q5 u a.Index 0 (wrap .i64 ((c.People.length:Int) - 1))) fun b3=>cnd b3 (optc (Wv u i a.Index) fun b4=>b ((f,g,b4,h,()),c,e,())) (cd (a.Kind=1) (optc (Q5 u a.Index 0 (wrap .i64 ((c.Schedules.length:Int) - 1))) fun b5=>cnd b5 (optc (QjL u c a.Index g) fun aD=>cd (0≤aD) (optc (Wv u i aD) fun b6=>b ((f,g,b6,h,()),c,e,())) (b ((f,g,i,h,()),c,e,()))) (cd (a.Kind=2) (optc (Q5 u a.Index 0 (wrap .i64 ((e.Teams.length:Int) - 1))) fun b7=>cnd b7 (Qh (X:=((List D.Target×Int×List Int×Int×Int×Unit)×D.Config×D.Book×D.Target×Unit)) (fun b8 ((G,H,I,J,q,_),C,m,r,_)=>atc m.Teams r.Index fun b9=>cd (q<(b9.Members.length:Int)) (join (Y:=((List D.Target×Int×List Int×Int×Int×Unit)×D.Config×D.Book×D.Target×Unit)) (fun((bA,bB,bC,bD,bE,_),bF,bG,bH,_)=>b8 ((bA,bB,bC,bD,(wrap .i64 (bE+1)),()),bF,bG,bH,())) fun aE=>atc m.Teams r.Index fun bI=>atc bI.Members q fun bJ=>optc (Q5 u bJ 0 (wrap .i64 ((C.People.length:Int) - 1))) fun bK=>cnd bK (atc m.Teams r.Index fun bL=>atc bL.Members q fun bM=>optc (Wv u I bM) fun bN=>aE ((G,H,bN,J,q,()),C,m,r,())) (aE ((G,H,I,J,q,()),C,m,r,()))) (b ((G,H,I,J,()),C,m,()))) u ((f,g,i,h,0,()),c,e,a,())) (b ((f,g,i,h,()),c,e,()))) (b ((f,g,i,h,()),c,e,())))) (cd (a.Kind=2) (optc (Q5 u a.Index 0 (wrap .i64 ((e.Teams.length:Int) - 1))) fun bO=>cnd bO (Qh (X:=((List D.Target×Int×List Int×Int×Int×Unit)×D.Config×D.Book×D.Target×Unit)) (fun bP ((L,O,S,W,s,_),E,n,t,_)=>atc n.Teams t.Index fun bQ=>cd (s<(bQ.Members.length:Int)) (join (Y:=((List D.Target×Int×List Int×Int×Int×Unit)×D.Config×D.Book×D.Target×Unit)) (fun((bR,bS,bT,bU,bV,_),bW,bX,bY,_)=>bP ((bR,bS,bT,bU,(wrap .i64 (bV+1)),()),bW,bX,bY,())) fun aF=>atc n.Teams t.Index fun c0=>atc c0.Members s fun c1=>optc (Q5 u c1 0 (wrap .i64 ((E.People.length:Int) - 1))) fun c2=>cnd c2 (atc n.Teams t.Index fun c3=>atc c3.Members s fun c4=>optc (Wv u S c4) fun c5=>aF ((L,O,c5,W,s,()),E,n,t,())) (aF ((L,O,S,W,s,()),E,n,t,()))) (b ((L,O,S,W,()),E,n,()))) u ((f,g,i,h,0,()),c,e,a,())) (b ((f,g,i,h,()),c,e,()))) (b ((f,g,i,h,()),c,e,()))))) (cd (a.Kind=1) (optc (Q5 u a.Index 0 (wrap .i64 ((c.Schedules.length:Int) - 1))) fun c6=>cnd c6 (optc (QjL u c a.Index g) fun aG=>cd (0≤aG) (optc (Wv u i aG) fun c7=>b ((f,g,c7,h,()),c,e,())) (b ((f,g,i,h,()),c,e,()))) (cd (a.Kind=2) (optc (Q5 u a.Index 0 (wrap .i64 ((e.Teams.length:Int) - 1))) fun c8=>cnd c8 (Qh (X:=((List D.Target×Int×List Int×Int×Int×Unit)×D.Config×D.Book×D.Target×Unit)) (fun c9 ((Z,a0,aA,aB,v,_),F,o,w,_)=>atc o.Teams w.Index fun cA=>cd (v<(cA.Members.length:Int)) (join (Y:=((List D.Target×Int×List Int×Int×Int×Unit)×D.Config×D.Book×D.Target×Unit)) (fun((cB,cC,cD,cE,cF,_),cG,cH,cI,_)=>c9 ((cB,cC,cD,cE,(wrap .i64 (cF+1)),()),cG,cH,cI,())) fun aH=>atc o.Teams w.Index fun cJ=>atc cJ.Members v fun cL=>optc (Q5 u cL 0 (wrap .i64 ((F.People.length:Int) - 1))) fun cM=>cnd cM (atc o.Teams w.Index fun cN=>atc cN.Members v fun cO=>optc (Wv u aA cO) fun aI=>aH ((Z,a0,aI,aB,v,()),F,o,w,())) (aH ((Z,a0,aA,aB,v,()),F,o,w,()))) (b ((Z,a0,aA,aB,()),F,o,()))) u ((f,g,i,h,0,()),c,e,a,())) (b ((f,g,i,h,()),c,e,()))) (b ((f,g,i,h,()),c,e,())))) (cd (a.Kind=2) (optc (Q5 u a.Index 0 (wrap .i64 ((e.Teams.length:Int) - 1))) fun aJ=>cnd aJ (Qh (X:=((List D.Target×Int×List Int×Int×Int×Unit)×D.Config×D.Book×D.Target×Unit)) (fun aK ((y,z,A,B,k,_),p,j,l,_)=>atc j.Teams l.Index fun aL=>cd (k<(aL.Members.length:Int)) (join (Y:=((List D.Target×Int×List Int×Int×Int×Unit)×D.Config×D.Book×D.Target×Unit)) (fun((aM,aN,aO,aP,aQ,_),aR,aS,aT,_)=>aK ((aM,aN,aO,aP,(wrap .i64 (aQ+1)),()),aR,aS,aT,())) fun aC=>atc j.Teams l.Index fun aU=>atc aU.Members k fun aV=>optc (Q5 u aV 0 (wrap .i64 ((p.People.length:Int) - 1))) fun aW=>cnd aW (atc j.Teams l.Index fun aX=>atc aX.Members k fun aY=>optc (Wv u A aY) fun aZ=>aC ((y,z,aZ,B,k,()),p,j,l,())) (aC ((y,z,A,B,k,()),p,j,l,()))) (b ((y,z,A,B,()),p,j,()))) u ((f,g,i,h,0,()),c,e,a,())) (b ((f,g,i,h,()),c,e,()))) (b ((f,g,i,h,()),c,e,()))))) (some i)) u ((p2,p3,[],0,()),p0,p1,())
theorem Qmm:FO 210 (Qf [.st .Config,.st .Book,.one (.lst .Target),nI] [] [lI] [] [] (List Int) kz1 (fun x y=>Qb4 u x.1 x.2.1 x.2.2.1 x.2.2.2.1)):=fI u (gs 2 (lp [li 2 .Target,ni 3,rf 4,rf 5,(9,lI),ni 10] [bx 1004 .Config,bx 1005 .Book] (.two .go (.two (.join [li 2 .Target,ni 3,rf 4,rf 5,(9,lI),ni 10] [bx 1004 .Config,bx 1005 .Book] (.one (.two .go (.one (gs 5 (lp [li 2 .Target,ni 3,rf 4,rf 5,(9,lI),ni 10,rf 11,ni 13] [bx 1004 .Config,bx 1005 .Book,bx 1011 .Target] (.two .go (.two (.join [li 2 .Target,ni 3,rf 4,rf 5,(9,lI),ni 10,rf 11,ni 13] [bx 1004 .Config,bx 1005 .Book,bx 1011 .Target] .go) .go)))))))) .go)))) kz0 (eC (Wj u) (eC (QfC u) (eC (Qrz u) eN))) Tryz.func210
def QjH(u:Nat)(a:Int)(b:Int):Option Bool:=cd (0≤a) (cd (a≤8589934592) (cd (a≤b) (cd (b≤8589934592) (cd ((wrap .i64 (b - a))≤34560000) sT sF) sF) sF) sF) sF
theorem Qn8:FO 277 (sB [nI,nI] fun x=>QjH u x.1 x.2.1):=fI u .go kz0 eN Tryz.func277
def Qgp(a:D.Config)(b:Int)(c:Int)(e:Int):Option Int:=join (Y:=(Unit×Unit)) (fun(_,_)=>some 0) fun f=>optc (VM u a) fun g=>cd (g≠0) (some 8) (cd (b<0) (some 3) (cd ((a.People.length:Int)≤b) (some 3) (optc (QjH u c e) fun h=>cnd (!h) (some 1) (f ((),())))))
theorem Qoh:FO 255 (sI [.st .Config,nI,nI,nI] fun x=>Qgp u x.1 x.2.1 x.2.2.1 x.2.2.2.1):=fI u (.two .go (.two (.join [] [] .go) .go)) kz0 (eC (Qbu u) (eC (Qn8 u) eN)) Tryz.func255
def Qal(a:D.Config)(e:Int)(b:Int)(f:Bool):Option Bool:=optc (Qgp u a e b b) fun g=>cd (g≠0) sF (atc a.People e fun c=>atc a.Zones c.Zone fun h=>optc (Qk0 u h c.Quiet b) fun i=>cnd i (cnd f (cnd c.Consent sT sF) sF) sT)
theorem QhR:FO 211 (sB [.st .Config,nI,nI,.one .boo] fun x=>Qal u x.1 x.2.1 x.2.2.1 x.2.2.2.1):=fI u .go kz0 (eC (Qoh u) (eC (Qn7 u) eN)) Tryz.func211
def Qig(O:D.Config)(J:D.Book)(b:D.Page):Option (D.Page×Int):=optc (VO u J b) fun a0=>cnd (!a0) (some ((D.Page.mk 0 0 0 0 0 0 0 0 0 0 0 [] [] []),8)) (optc (QfD u b) fun(j,a2)=>cnd (!a2) (some ((D.Page.mk 0 0 0 0 0 0 0 0 0 0 0 [] [] []),9)) (cd (200≤(b.Starts.length:Int)) (some ((D.Page.mk 0 0 0 0 0 0 0 0 0 0 0 [] [] []),5)) (optc (Qam u b) fun a=>cd (b.State=2) (some ((D.Page.mk a.ID a.Policy a.Start a.Next j 0 a.By a.Until (max j b.Last) a.Snoozes a.Hands a.Starts a.Declined a.Seen),0)) (atc J.Policies b.Policy fun L=>optc (Qgq u L b.Next) fun(S,a6,a7)=>cnd (!a7) (some ((D.Page.mk a.ID a.Policy a.Start a.Next a.Due 3 a.By a.Until (max j b.Last) a.Snoozes a.Hands a.Starts a.Declined a.Seen),0)) (atc L.Steps S fun a8=>optc (Qb4 u O J a8.Targets j) fun a9=>Qh (X:=((Int×Int×List Int×Int×Unit)×D.Config×D.Page×D.Page×P11×D.Policy×(Int×Int×Unit)×List D.Start×List Int×List Int×List Int×Unit)) (fun W ((B,k,e,f,_),C,l,m,(n,o,p,E,q,r,s,t,v,w,y,_),z,(g,h,_),i,F,A,c,_)=>cd (f<(e.length:Int)) (join (Y:=((Int×Int×List Int×Int×Unit)×D.Config×D.Page×D.Page×P11×D.Policy×(Int×Int×Unit)×List D.Start×List Int×List Int×List Int×Unit)) (fun((Z,aA,aB,aC,_),aD,aE,aF,(aG,aH,aI,aJ,aK,aL,aM,aN,aO,aP,aQ,_),aR,(aS,aT,_),aU,aV,aW,aX,_)=>W ((Z,aA,aB,(wrap .i64 (aC+1)),()),aD,aE,aF,(aG,aH,aI,aJ,aK,aL,aM,aN,aO,aP,aQ,()),aR,(aS,aT,()),aU,aV,aW,aX,())) fun G=>atc e f fun aY=>atc z.Steps k fun aZ=>optc (Qal u C aY B aZ.Urgent) fun b0=>cnd b0 (atc e f fun H=>lec (c.length+[H].length) 34359738368 (G ((B,k,e,f,()),C,l,m,(n,o,p,E,q,r,s,t,v,w,y,()),z,(g,h,()),i,F,A,(c++[H]),()))) (G ((B,k,e,f,()),C,l,m,(n,o,p,E,q,r,s,t,v,w,y,()),z,(g,h,()),i,F,A,c,()))) (lec (i.length+[(D.Start.mk g h c)].length) 34359738368 (join (Y:=(Unit×D.Page×(Int×Int×Int×Int×Int×Int×Int×Int×Int×Int×Int×List Int×Unit)×List D.Start×List Int×Unit)) (fun(_,bG,(b1,b2,b3,b4,b5,b6,b7,b8,b9,bA,bB,bC,_),bD,bE,_)=>some ((D.Page.mk b1 b2 b3 b4 b5 b6 b7 b8 b9 bA bB bD bC bE),0)) fun I=>cd (0<(c.length:Int)) (atc z.Steps k fun bF=>I ((),m,(n,o,p,(wrap .i64 (l.Next+1)),(wrap .i64 (q+bF.Wait)),r,s,t,v,w,y,[],()),(i++[(D.Start.mk g h c)]),A,())) (I ((),m,(n,o,p,(wrap .i64 (l.Next+1)),q,r,s,t,v,w,y,[],()),(i++[(D.Start.mk g h c)]),A,()))))) u ((j,S,a9,0,()),O,b,(D.Page.mk 0 0 0 0 0 0 0 0 0 0 0 [] [] []),(a.ID,a.Policy,a.Start,a.Next,a.Due,a.State,a.By,a.Until,(max j b.Last),a.Snoozes,a.Hands,()),L,(b.Next,j,()),a.Starts,a.Declined,a.Seen,[],()))))))
theorem QpG:FO 139 (Qf [.st .Config,.st .Book,.st .Page] [] [.st .Page,nI] [] [] (D.Page×Int) kz3 (fun x y=>Qig u x.1 x.2.1 x.2.2.1)):=fI u (gs 13 (.two (.two .go (.one (.loop [rf 3,rf 5,rf 6,ni 8,rf 10,rf 11,ni 12,rf 15,(16,lI),ni 17] [bx 1003 .Config,bx 1005 .Page,bx 1006 .Page,(1010,.box bI0),bx 1011 .Policy,(1015,.box [kI,kI,.own 1108]),ar 1038025 .Start,ar 1038030 .int,ar 1038033 .int,ar 1108 .int] (.two .go (.two (.join [rf 3,rf 5,rf 6,ni 8,rf 10,rf 11,ni 12,rf 15,(16,lI),ni 17] [bx 1003 .Config,bx 1005 .Page,bx 1006 .Page,(1010,.box bI0),bx 1011 .Policy,(1015,.box [kI,kI,.own 1108]),ar 1038025 .Start,ar 1038030 .int,ar 1038033 .int,ar 1108 .int] .go) .go))))) (.two (.frz [1108] .go) (.two (.join [rf 6,rf 10] [bx 1006 .Page,(1010,.box [kI,kI,kI,kI,kI,kI,kI,kI,kI,kI,kI,.own 1038025,.lst .int,.own 1038033]),ar 1038025 .Start,ar 1038033 .int] .go) .go)))) kz4 (eC (Qb5 u) (eC (Uh u) (eC (Qbw u) (eC (QpC u) (eC (Qmm u) (eC (QhR u) eN)))))) Tryz.func139
def Qms(n:D.Config)(f:D.Book)(g:D.Page)(o:Int):Option (D.Page×Int):=optc (VO u f g) fun p=>cnd (!p) (some ((D.Page.mk 0 0 0 0 0 0 0 0 0 0 0 [] [] []),8)) (optc (Qam u g) fun q=>Qh (X:=((Int×Unit)×D.Config×D.Book×D.Page×D.Page×Unit)) (fun r ((h,_),s,t,a,v,_)=>optc (QfD u a) fun(w,y)=>join (Y:=((Int×Unit)×D.Config×D.Book×D.Page×D.Page×Unit)) (fun((i,_),b,c,j,k,_)=>optc (Qig u b c j) fun(l,e)=>cd (e≠0) (some ((D.Page.mk 0 0 0 0 0 0 0 0 0 0 0 [] [] []),e)) (r ((i,()),b,c,l,k,()))) fun m=>cnd y (cd (h<w) (some (a,0)) (m ((h,()),s,t,a,v,()))) (some (a,0))) u ((o,()),n,f,q,(D.Page.mk 0 0 0 0 0 0 0 0 0 0 0 [] [] []),()))
theorem QrB:FO 92 (Qf [.st .Config,.st .Book,.st .Page,nI] [] [.st .Page,nI] [] [] (D.Page×Int) kz3 (fun x y=>Qms u x.1 x.2.1 x.2.2.1 x.2.2.2.1)):=fI u (gs 3 (.one (.loop [ni 3,rf 4,rf 5,rf 6,rf 8] [bx 1004 .Config,bx 1005 .Book,bx 1006 .Page,bx 1008 .Page] (.one (.two .go (.two (.join [ni 3,rf 4,rf 5,rf 6,rf 8] [bx 1004 .Config,bx 1005 .Book,bx 1006 .Page,bx 1008 .Page] .go) .go)))))) kz4 (eC (Qb5 u) (eC (Uh u) (eC (Qbw u) (eC (QpG u) eN)))) Tryz.func92
def QcI(a:D.Page)(b:D.Answer):Option Int:=optc (QfD u a) fun(n,o)=>join (Y:=(Unit×Unit)) (fun(_,_)=>some 0) fun l=>cd (b.At<a.Last) (some 6) (cnd o (cd (n≤b.At) (some 6) (join (Y:=((Bool×Unit)×D.Page×D.Answer×Unit)) (fun((p,_),i,k,_)=>cnd p (some 9) (join (Y:=((Bool×Unit)×Unit)) (fun((q,_),_)=>cnd q (some 5) (l ((),()))) fun g=>cd (64≤(i.Seen.length:Int)) (g (((decide (64≤(i.Seen.length:Int))),()),())) (cd (k.Kind=3) (cd (4≤i.Snoozes) (g ((true,()),())) (cd (k.Kind=4) (cd (4≤i.Hands) (g ((true,()),())) (cd (200≤(i.Starts.length:Int)) (g ((true,()),())) (g ((false,()),())))) (g ((false,()),())))) (cd (k.Kind=4) (cd (4≤i.Hands) (g ((true,()),())) (cd (200≤(i.Starts.length:Int)) (g ((true,()),())) (g ((false,()),())))) (g ((false,()),())))))) fun h=>cd (a.State=4) (h (((decide (a.State=4)),()),a,b,())) (cd (a.State=3) (cd (b.Kind≠5) (h ((true,()),a,b,())) (cd (a.State=1) (cd (b.Kind=2) (h ((true,()),a,b,())) (h ((false,()),a,b,()))) (h ((false,()),a,b,())))) (cd (a.State=1) (cd (b.Kind=2) (h ((true,()),a,b,())) (h ((false,()),a,b,()))) (h ((false,()),a,b,())))))) (join (Y:=((Bool×Unit)×D.Page×D.Answer×Unit)) (fun((r,_),f,j,_)=>cnd r (some 9) (join (Y:=((Bool×Unit)×Unit)) (fun((m,_),_)=>cnd m (some 5) (l ((),()))) fun c=>cd (64≤(f.Seen.length:Int)) (c (((decide (64≤(f.Seen.length:Int))),()),())) (cd (j.Kind=3) (cd (4≤f.Snoozes) (c ((true,()),())) (cd (j.Kind=4) (cd (4≤f.Hands) (c ((true,()),())) (cd (200≤(f.Starts.length:Int)) (c ((true,()),())) (c ((false,()),())))) (c ((false,()),())))) (cd (j.Kind=4) (cd (4≤f.Hands) (c ((true,()),())) (cd (200≤(f.Starts.length:Int)) (c ((true,()),())) (c ((false,()),())))) (c ((false,()),())))))) fun e=>cd (a.State=4) (e (((decide (a.State=4)),()),a,b,())) (cd (a.State=3) (cd (b.Kind≠5) (e ((true,()),a,b,())) (cd (a.State=1) (cd (b.Kind=2) (e ((true,()),a,b,())) (e ((false,()),a,b,()))) (e ((false,()),a,b,())))) (cd (a.State=1) (cd (b.Kind=2) (e ((true,()),a,b,())) (e ((false,()),a,b,()))) (e ((false,()),a,b,()))))))
theorem Qkv:FO 140 (sI [.st .Page,.st .Answer] fun x=>QcI u x.1 x.2.1):=fI u (gs 2 (.two (.join [] [] (.one (gs 2 (.two (.join [rf 2,rf 3,(27,.one .boo)] [bx 1002 .Page,bx 1003 .Answer] .go) (.two .go (.two (.join [(47,.one .boo)] [] .go) .go)))))) .go)) kz0 (eC (Qb5 u) eN) Tryz.func140
end
/-
  What functions do, reckoned from their code, and their contracts. Printed by wip/gen/brun.py.
-/
noncomputable section
abbrev bJ0:List Sh:=[kI,.lst .Zone,.lst .Person,.lst .Calendar,.lst .Schedule,.lst .Team,.lst .Policy,.own 101,kI,kI,.own 102,.own 103]
abbrev bJ1:List Sh:=[kI,kI,kI,kI,kI,kI,kI,kI,kI,kI,kI,.own 1033025,.lst .int,.own 1033033]
abbrev bJ2:List Sh:=[kI,kI,kI,kI,kI,kI,kI,kI,kI,kI,kI,.own 101,.lst .int,.own 103]
abbrev bJ3:List Sh:=[kI,kI,kI,kI,kI,kI,kI,kI,kI,kI,kI,.own 103,.own 104,.own 105]
abbrev bJ4:List Sh:=[kI,kI,kI,kI,kI,kI,kI,kI,kI,kI,kI,.own 104,.own 105,.own 106]
abbrev bJ5:List Sh:=[kI,kI,kI,kI,kI,kI,kI,kI,kI,kI,kI,.own 101,.own 102,.own 103]
abbrev bJ6:List Sh:=[kI,kI,kI,kI,kI,kI,kI,kI,kI,kI,kI,.own 102,.own 103,.own 104]
variable (u:Nat)
def Qez(u:Nat)(a:D.Page):Option (List Int):=cd ((a.Starts.length:Int)=0) (some []) (atc a.Starts (wrap .i64 ((a.Starts.length:Int) - 1)) fun b=>lec b.People.length 34359738368 (some b.People))
theorem Qmr:FO 141 (Qf [.st .Page] [] [lI] [] [] (List Int) kz1 (fun x y=>Qez u x.1)):=fI u .go kz0 eN Tryz.func141
def Qey(p0:D.Config)(p1:D.Book)(H:D.Page)(I:D.Answer):Option (D.Page×Int):=join (Y:=(Unit×D.Page×D.Answer×D.Page×Unit)) (fun(_,e,b,t,_)=>cd (b.Page≠e.ID) (some ((D.Page.mk 0 0 0 0 0 0 0 0 0 0 0 [] [] []),3)) (optc (Qam u e) fun a=>optc (QcF u e.Seen b.ID) fun a4=>cnd a4 (some (a,0)) (optc (QcI u e b) fun J=>cd (J≠0) (some ((D.Page.mk 0 0 0 0 0 0 0 0 0 0 0 [] [] []),J)) (lec (a.Seen.length+[b.ID].length) 34359738368 (join (Y:=(Unit×D.Page×(Int×Int×Int×Int×Int×Int×Int×Int×Int×Int×Int×List Int×Unit)×List D.Start×List Int×Unit)) (fun(_,a6,(a7,a8,a9,L,O,S,W,Z,aA,aB,aC,aD,_),aE,aF,_)=>some ((D.Page.mk a7 a8 a9 L O S W Z aA aB aC aE aD aF),0)) fun c=>cd (b.Kind=1) (cd (e.State=1) (c ((),t,(a.ID,a.Policy,a.Start,a.Next,a.Due,a.State,a.By,a.Until,e.Last,a.Snoozes,a.Hands,a.Declined,()),a.Starts,(a.Seen++[b.ID]),())) (c ((),t,(a.ID,a.Policy,a.Start,a.Next,a.Due,1,b.Person,a.Until,b.At,a.Snoozes,a.Hands,a.Declined,()),a.Starts,(a.Seen++[b.ID]),()))) (cd (b.Kind=2) (optc (Qez u e) fun B=>join (Y:=((List Int×Unit)×D.Page×D.Answer×D.Page×(Int×Int×Int×Int×Int×Int×Int×Int×Int×Int×Int×List Int×Unit)×List D.Start×List Int×Unit)) (fun((E,_),aG,aH,aI,(aJ,aK,aL,aM,aN,aO,aP,aQ,aR,aS,aT,aU,_),aV,aW,_)=>Qh (X:=((List Int×Bool×Int×Unit)×D.Page×D.Answer×D.Page×(Int×Int×Int×Int×Int×Int×Int×Int×Int×Int×Int×List Int×Unit)×List D.Start×List Int×Unit)) (fun aX ((v,F,w,_),z,A,g,(h,i,j,k,y,l,m,n,o,p,q,f,_),r,s,_)=>cd (w<(v.length:Int)) (join (Y:=((List Int×Bool×Int×Unit)×D.Page×D.Answer×D.Page×(Int×Int×Int×Int×Int×Int×Int×Int×Int×Int×Int×List Int×Unit)×List D.Start×List Int×Unit)) (fun((aY,aZ,b0,_),b1,b2,b3,(b4,b5,b6,b7,b8,b9,bA,bB,bC,bD,bE,bF,_),bG,bH,_)=>aX ((aY,aZ,(wrap .i64 (b0+1)),()),b1,b2,b3,(b4,b5,b6,b7,b8,b9,bA,bB,bC,bD,bE,bF,()),bG,bH,())) fun C=>cnd F (atc v w fun bI=>optc (QcF u f bI) fun bJ=>cnd bJ (C ((v,true,w,()),z,A,g,(h,i,j,k,y,l,m,n,o,p,q,f,()),r,s,())) (C ((v,false,w,()),z,A,g,(h,i,j,k,y,l,m,n,o,p,q,f,()),r,s,()))) (C ((v,false,w,()),z,A,g,(h,i,j,k,y,l,m,n,o,p,q,f,()),r,s,()))) (cnd F (cd (z.State=0) (c ((),g,(h,i,j,k,A.At,l,m,n,o,p,q,f,()),r,s,())) (c ((),g,(h,i,j,k,y,l,m,n,o,p,q,f,()),r,s,()))) (c ((),g,(h,i,j,k,y,l,m,n,o,p,q,f,()),r,s,())))) u ((E,(decide (0<(E.length:Int))),0,()),aG,aH,aI,(aJ,aK,aL,aM,aN,aO,aP,aQ,aR,aS,aT,aU,()),aV,aW,())) fun G=>optc (QcF u B b.Person) fun bK=>cnd bK (optc (Wv u a.Declined b.Person) fun bL=>G ((B,()),e,b,t,(a.ID,a.Policy,a.Start,a.Next,a.Due,a.State,a.By,a.Until,b.At,a.Snoozes,a.Hands,bL,()),a.Starts,(a.Seen++[b.ID]),())) (G ((B,()),e,b,t,(a.ID,a.Policy,a.Start,a.Next,a.Due,a.State,a.By,a.Until,b.At,a.Snoozes,a.Hands,a.Declined,()),a.Starts,(a.Seen++[b.ID]),()))) (cd (b.Kind=3) (c ((),t,(a.ID,a.Policy,a.Start,a.Next,a.Due,2,b.Person,(wrap .i64 (b.At+b.Arg)),b.At,(wrap .i64 (e.Snoozes+1)),a.Hands,a.Declined,()),a.Starts,(a.Seen++[b.ID]),())) (cd (b.Kind=4) (lec (a.Starts.length+[(D.Start.mk (-1) b.At [b.Arg])].length) 34359738368 (c ((),t,(a.ID,a.Policy,a.Start,a.Next,(wrap .i64 (b.At+600)),0,a.By,a.Until,b.At,a.Snoozes,(wrap .i64 (e.Hands+1)),[],()),(a.Starts++[(D.Start.mk (-1) b.At [b.Arg])]),(a.Seen++[b.ID]),()))) (cd (b.Kind=5) (c ((),t,(a.ID,a.Policy,a.Start,a.Next,a.Due,4,b.Person,a.Until,b.At,a.Snoozes,a.Hands,a.Declined,()),a.Starts,(a.Seen++[b.ID]),())) (c ((),t,(a.ID,a.Policy,a.Start,a.Next,a.Due,a.State,a.By,a.Until,b.At,a.Snoozes,a.Hands,a.Declined,()),a.Starts,(a.Seen++[b.ID]),()))))))))))) fun bM=>optc (VO u p1 H) fun bN=>cnd bN (optc (QdO u I) fun bO=>cnd bO (bM ((),H,I,(D.Page.mk 0 0 0 0 0 0 0 0 0 0 0 [] [] []),())) (some ((D.Page.mk 0 0 0 0 0 0 0 0 0 0 0 [] [] []),8))) (some ((D.Page.mk 0 0 0 0 0 0 0 0 0 0 0 [] [] []),8))
theorem Qmq:FO 94 (Qf [.st .Config,.st .Book,.st .Page,.st .Answer] [] [.st .Page,nI] [] [] (D.Page×Int) kz3 (fun x y=>Qey u x.1 x.2.1 x.2.2.1 x.2.2.2.1)):=fI u (.two .go (.two (.join [rf 6,rf 7,rf 8] [bx 1006 .Page,bx 1007 .Answer,bx 1008 .Page] .go) (gs 5 (.two (.join [rf 8,rf 10] [bx 1008 .Page,(1010,.box bJ1),ar 1033025 .Start,ar 1033033 .int] (.two .go (.one (gs 3 (.two (.two .go (.two (.join [rf 6,rf 7,rf 8,rf 10,(12,lI)] [bx 1006 .Page,bx 1007 .Answer,bx 1008 .Page,(1010,.box bJ1),ar 1033025 .Start,ar 1033033 .int] .go) (.two .go (lp [rf 6,rf 7,rf 8,rf 10,(12,lI),(13,.one .boo),ni 14] [bx 1006 .Page,bx 1007 .Answer,bx 1008 .Page,(1010,.box bJ1),ar 1033025 .Start,ar 1033033 .int] (.two .go (.two (.join [rf 6,rf 7,rf 8,rf 10,(12,lI),(13,.one .boo),ni 14] [bx 1006 .Page,bx 1007 .Answer,bx 1008 .Page,(1010,.box bJ1),ar 1033025 .Start,ar 1033033 .int] .go) .go)))))) .go))))) .go)))) kz4 (eC (Qew u) (eC (Uh u) (eC (QfC u) (eC (Qbw u) (eC (QhC u) (eC (Qkv u) (eC (Qmr u) eN))))))) Tryz.func94
def Qml(u:Nat)(a:D.Config)(e:Int)(f:List D.Edit):Option D.Config:=lec a.Schedules.length 34359738368 (natc e fun b=>ltc b a.Schedules.length (optc a.Schedules[b]? fun c=>some (D.Config.mk a.Zones a.People a.Calendars (List.set a.Schedules b (D.Schedule.mk c.Name c.Layers f)))))
theorem QpB:FO 95 (Qf [.st .Config,nI,.one (.lst .Edit)] [] [.st .Config] [] [] D.Config kz1 (fun x y=>Qml u x.1 x.2.1 x.2.2.1)):=fI u .go kz0 eN Tryz.func95
def QdL(a:D.Config)(b:Int)(j:D.Edit):Option (D.Config×Int):=join (Y:=((Int×Unit)×D.Config×D.Edit×D.Config×Unit)) (fun((e,_),f,g,m,_)=>atc f.Schedules e fun c=>lec c.Edits.length 34359738368 (lec (c.Edits.length+[g].length) 34359738368 (optc (Qml u f e (c.Edits++[g])) fun h=>optc (VM u h) fun i=>cd (i≠0) (some ((D.Config.mk [] [] [] []),i)) (some (h,0))))) fun k=>optc (VM u a) fun l=>cd (l≠0) (some ((D.Config.mk [] [] [] []),8)) (cd (b<0) (some ((D.Config.mk [] [] [] []),3)) (cd ((a.Schedules.length:Int)≤b) (some ((D.Config.mk [] [] [] []),3)) (k ((b,()),a,j,(D.Config.mk [] [] [] []),()))))
theorem Qog:FO 72 (Qf [.st .Config,nI,.st .Edit] [] [.st .Config,nI] [] [] (D.Config×Int) kz3 (fun x y=>QdL u x.1 x.2.1 x.2.2.1)):=fI u (.two .go (.two (.join [ni 1,rf 3,rf 5,rf 6] [bx 1003 .Config,bx 1005 .Edit,bx 1006 .Config] .go) .go)) kz4 (eC (Qbu u) (eC (QpB u) eN)) Tryz.func72
def ZT(a:D.Ledger)(p:Int):Option (D.Page×Bool):=Qh (X:=((Int×Int×Unit)×(Int×List D.Zone×List D.Person×List D.Calendar×List D.Schedule×List D.Team×List D.Policy×Int×Int×Unit)×D.Page×List D.Page×List Int×List D.Call×Unit)) (fun q ((i,f,_),(r,s,t,v,w,y,z,j,k,_),l,b,c,e,_)=>cd (f<(b.length:Int)) (natc f fun g=>ltc g b.length (optc b[g]? fun m=>cd (m.ID=i) (natc f fun h=>ltc h b.length (optc b[h]? fun n=>optc (Qam u n) fun o=>sameC b a.Pages (sameC c a.Seen (sameC e a.Calls (some (o,true)))))) (q ((i,(wrap .i64 (f+1)),()),(r,s,t,v,w,y,z,j,k,()),l,b,c,e,())))) (sameC b a.Pages (sameC c a.Seen (sameC e a.Calls (some ((D.Page.mk 0 0 0 0 0 0 0 0 0 0 0 [] [] []),false)))))) u ((p,0,()),(a.Now,a.Config.Zones,a.Config.People,a.Config.Calendars,a.Config.Schedules,a.Book.Teams,a.Book.Policies,a.Owner,a.Fence,()),(D.Page.mk 0 0 0 0 0 0 0 0 0 0 0 [] [] []),a.Pages,a.Seen,a.Calls,())
theorem Wk:FO 58 (Qf [.agg bJ0,nI] [ar 101 .Page,ar 102 .int,ar 103 .Call] [.st .Page,.one .boo] [] [101,102,103] (D.Page×Bool) kz3 (fun x y=>ZT u (D.Ledger.mk x.1.1 (D.Config.mk x.1.2.1 x.1.2.2.1 x.1.2.2.2.1 x.1.2.2.2.2.1) (D.Book.mk x.1.2.2.2.2.2.1 x.1.2.2.2.2.2.2.1) y.1 x.1.2.2.2.2.2.2.2.1 x.1.2.2.2.2.2.2.2.2.1 y.2.1 y.2.2.1) x.2.1)):=fI u (.two .go (lp [ni 1,rf 2,rf 4,ni 6] [(1002,.box bJ0),bx 1004 .Page,ar 101 .Page,ar 102 .int,ar 103 .Call] .go)) kz4 (eC (Uh u) eN) Tryz.func58
def Xo(b:D.Ledger)(p1:D.Page):Option D.Ledger:=Qh (X:=((Int×Unit)×(Int×List D.Zone×List D.Person×List D.Calendar×List D.Schedule×List D.Team×List D.Policy×Int×Int×Unit)×D.Page×D.Ledger×List D.Page×List Int×List D.Call×Unit)) (fun L0 ((g,_),(o,p,q,r,s,t,v,w,e,_),c,j,a,h,f,_)=>cd (g<(a.length:Int)) (join (Y:=((Int×Unit)×(Int×List D.Zone×List D.Person×List D.Calendar×List D.Schedule×List D.Team×List D.Policy×Int×Int×Unit)×D.Page×D.Ledger×List D.Page×List Int×List D.Call×Unit)) (fun((y,_),(z,A,B,C,E,F,G,H,I,_),J,L,O,S,W,_)=>L0 (((wrap .i64 (y+1)),()),(z,A,B,C,E,F,G,H,I,()),J,L,O,S,W,())) fun k=>natc g fun l=>ltc l a.length (optc a[l]? fun Z=>cd (Z.ID=c.ID) (natc g fun m=>ltc m a.length (optc a[m]? fun a0=>optc (Qb6 u c (a0.Starts.length:Int) e) fun n=>lec (f.length+n.length) 34359738368 (natc g fun i=>ltc i a.length (optc a[i]? fun aA=>k ((g,()),(o,p,q,r,s,t,v,w,e,()),c,j,(List.set a i c),h,(f++n),()))))) (k ((g,()),(o,p,q,r,s,t,v,w,e,()),c,j,a,h,f,())))) (some (D.Ledger.mk o (D.Config.mk p q r s) (D.Book.mk t v) a w e h f))) u ((0,()),(b.Now,b.Config.Zones,b.Config.People,b.Config.Calendars,b.Config.Schedules,b.Book.Teams,b.Book.Policies,b.Owner,b.Fence,()),p1,(D.Ledger.mk 0 (D.Config.mk [] [] [] []) (D.Book.mk [] []) [] 0 0 [] []),b.Pages,b.Seen,b.Calls,())
theorem U0:FO 93 (Qf [.agg bJ0,.st .Page] [ar 101 .Page,ar 102 .int,ar 103 .Call] [.agg bJ0] [ar 101 .Page,ar 102 .int,ar 103 .Call] [] D.Ledger kz7 (fun x y=>Xo u (D.Ledger.mk x.1.1 (D.Config.mk x.1.2.1 x.1.2.2.1 x.1.2.2.2.1 x.1.2.2.2.2.1) (D.Book.mk x.1.2.2.2.2.2.1 x.1.2.2.2.2.2.2.1) y.1 x.1.2.2.2.2.2.2.2.1 x.1.2.2.2.2.2.2.2.2.1 y.2.1 y.2.2.1) x.2.1)):=fI u (.two .go (lp [rf 2,rf 3,rf 4,ni 5] [(1002,.box bJ0),bx 1003 .Page,bx 1004 .Ledger,ar 101 .Page,ar 102 .int,ar 103 .Call] (.two .go (.two (.join [rf 2,rf 3,rf 4,ni 5] [(1002,.box bJ0),bx 1003 .Page,bx 1004 .Ledger,ar 101 .Page,ar 102 .int,ar 103 .Call] .go) .go)))) kz15 (eC (QdP u) eN) Tryz.func93
def Z5(a:D.Ledger)(b:Int)(c:Int):Option D.Ledger:=optc (ZT u a b) fun(e,f)=>cnd (!f) (some a) (optc (Qms u a.Config a.Book e c) fun(g,h)=>cd (h≠0) (some a) (optc (Xo u a g) fun i=>some i))
theorem WG:FO 70 (Qf [.agg bJ0,nI,nI] [ar 101 .Page,ar 102 .int,ar 103 .Call] [.agg bJ0] [ar 101 .Page,ar 102 .int,ar 103 .Call] [] D.Ledger kz7 (fun x y=>Z5 u (D.Ledger.mk x.1.1 (D.Config.mk x.1.2.1 x.1.2.2.1 x.1.2.2.2.1 x.1.2.2.2.2.1) (D.Book.mk x.1.2.2.2.2.2.1 x.1.2.2.2.2.2.2.1) y.1 x.1.2.2.2.2.2.2.2.1 x.1.2.2.2.2.2.2.2.2.1 y.2.1 y.2.2.1) x.2.1 x.2.2.1)):=fI u .go kz15 (eC (Wk u) (eC (QrB u) (eC (U0 u) eN))) Tryz.func70
def X3(c:D.Ledger)(C:D.Op)(E:Int)(p3:Bool):Option (D.Ledger×Int):=cnd p3 (some (c,4)) (cd (64≤(c.Pages.length:Int)) (some (c,5)) (optc (QjN u c.Book C.Page C.Policy E) fun(a0,F)=>cd (F≠0) (some (c,F)) (join (Y:=((Int×Int×Unit)×(Int×List D.Zone×List D.Person×List D.Calendar×List D.Schedule×List D.Team×List D.Policy×Int×Int×Unit)×D.Ledger×D.Page×List D.Page×List Int×List D.Call×Unit)) (fun((a2,B,_),(a4,a5,a6,a7,a8,a9,G,H,I,_),aQ,a,b,J,L,_)=>lec (b.length+[a].length) 34359738368 (natc (wrap .i64 (B+1)) fun e=>lec e (b++[a]).length (natc B fun g=>lec g (b++[a]).length (chk (b++[a]).length (b++[a]).length (chk (b++[a]).length (b++[a]).length (lec e (b++[a]).length (lec g e (natc B fun j=>ltc j ((List.take e (b++[a]))++(List.take ((b++[a]).length - e) (List.drop g (b++[a])))).length (optc (GetElem?.getElem? ((List.take e (b++[a]))++(List.take ((b++[a]).length - e) (List.drop g (b++[a])))) j) fun aR=>optc (Z5 u (D.Ledger.mk a4 (D.Config.mk a5 a6 a7 a8) (D.Book.mk a9 G) (List.set ((List.take e (b++[a]))++(List.take ((b++[a]).length - e) (List.drop g (b++[a])))) j a) H I J L) a.ID a2) fun O=>some (O,0)))))))))) fun z=>Qh (X:=((Int×Int×Unit)×(Int×List D.Zone×List D.Person×List D.Calendar×List D.Schedule×List D.Team×List D.Policy×Int×Int×Unit)×D.Ledger×D.Page×List D.Page×List Int×List D.Call×Unit)) (fun S ((k,h,_),(l,m,n,o,p,q,r,s,t,_),v,i,f,w,y,_)=>join (Y:=((Int×Int×Unit)×(Int×List D.Zone×List D.Person×List D.Calendar×List D.Schedule×List D.Team×List D.Policy×Int×Int×Unit)×D.Ledger×D.Page×List D.Page×List Int×List D.Call×Unit)) (fun((W,Z,_),(aA,aB,aC,aD,aE,aF,aG,aH,aI,_),aJ,aK,aL,aM,aN,_)=>S ((W,(wrap .i64 (Z+1)),()),(aA,aB,aC,aD,aE,aF,aG,aH,aI,()),aJ,aK,aL,aM,aN,())) fun aO=>cd (h<(f.length:Int)) (natc h fun A=>ltc A f.length (optc f[A]? fun aP=>cd (aP.ID<i.ID) (aO ((k,h,()),(l,m,n,o,p,q,r,s,t,()),v,i,f,w,y,())) (z ((k,h,()),(l,m,n,o,p,q,r,s,t,()),v,i,f,w,y,())))) (z ((k,h,()),(l,m,n,o,p,q,r,s,t,()),v,i,f,w,y,()))) u ((E,0,()),(c.Now,c.Config.Zones,c.Config.People,c.Config.Calendars,c.Config.Schedules,c.Book.Teams,c.Book.Policies,c.Owner,c.Fence,()),(D.Ledger.mk 0 (D.Config.mk [] [] [] []) (D.Book.mk [] []) [] 0 0 [] []),a0,c.Pages,c.Seen,c.Calls,()))))
theorem QdQ:FO 69 (Qf [.agg bJ0,.st .Op,nI,.one .boo] [ar 101 .Page,ar 102 .int,ar 103 .Call] [.agg bJ0,nI] [ar 101 .Page,ar 102 .int,ar 103 .Call] [] (D.Ledger×Int) kz6 (fun x y=>X3 u (D.Ledger.mk x.1.1 (D.Config.mk x.1.2.1 x.1.2.2.1 x.1.2.2.2.1 x.1.2.2.2.2.1) (D.Book.mk x.1.2.2.2.2.2.1 x.1.2.2.2.2.2.2.1) y.1 x.1.2.2.2.2.2.2.2.1 x.1.2.2.2.2.2.2.2.2.1 y.2.1 y.2.2.1) x.2.1 x.2.2.1 x.2.2.2.1)):=fI u (gs 6 (.two (.join [ni 2,rf 4,rf 8,rf 10,ni 12] [(1004,.box bJ0),bx 1008 .Ledger,bx 1010 .Page,ar 101 .Page,ar 102 .int,ar 103 .Call] (.one (.loop [ni 2,rf 4,rf 8,rf 10,ni 12] [(1004,.box bJ0),bx 1008 .Ledger,bx 1010 .Page,ar 101 .Page,ar 102 .int,ar 103 .Call] (.two (.join [ni 2,rf 4,rf 8,rf 10,ni 12] [(1004,.box bJ0),bx 1008 .Ledger,bx 1010 .Page,ar 101 .Page,ar 102 .int,ar 103 .Call] .go) .go)))) .go)) kz9 (eC (WG u) (eC (Qk1 u) eN)) Tryz.func69
def XB(c:D.Ledger)(a:D.Answer)(e:Int):Option (D.Ledger×Int):=optc (ZT u c a.Page) fun(k,g)=>cnd (!g) (some (c,3)) (optc (Z5 u c a.Page e) fun b=>optc (ZT u b a.Page) fun(h,l)=>optc (Qey u b.Config b.Book h (D.Answer.mk a.ID a.Page a.Person a.Kind a.Arg e)) fun(i,f)=>cd (f≠0) (some (b,f)) (optc (Xo u b i) fun j=>some (j,0)))
theorem Qc5:FO 71 (Qf [.agg bJ0,.st .Answer,nI] [ar 101 .Page,ar 102 .int,ar 103 .Call] [.agg bJ0,nI] [ar 101 .Page,ar 102 .int,ar 103 .Call] [] (D.Ledger×Int) kz6 (fun x y=>XB u (D.Ledger.mk x.1.1 (D.Config.mk x.1.2.1 x.1.2.2.1 x.1.2.2.2.1 x.1.2.2.2.2.1) (D.Book.mk x.1.2.2.2.2.2.1 x.1.2.2.2.2.2.2.1) y.1 x.1.2.2.2.2.2.2.2.1 x.1.2.2.2.2.2.2.2.2.1 y.2.1 y.2.2.1) x.2.1 x.2.2.1)):=fI u .go kz9 (eC (Wk u) (eC (WG u) (eC (U0 u) (eC (Qmq u) eN)))) Tryz.func71
def Z4(a:D.Ledger)(c:D.Op)(p2:Int):Option (D.Ledger×Int):=optc (ZT u a c.Page) fun(a0,a1)=>join (Y:=(Unit×(Int×List D.Zone×List D.Person×List D.Calendar×List D.Schedule×List D.Team×List D.Policy×Int×Int×Unit)×D.Ledger×List D.Page×List Int×List D.Call×Unit)) (fun(_,(a2,a3,a4,a5,a6,a7,a8,a9,aT,_),bP,aU,aV,aW,_)=>some ((D.Ledger.mk a2 (D.Config.mk a3 a4 a5 a6) (D.Book.mk a7 a8) aU a9 aT aV aW),0)) fun s=>cd (c.Kind=1) (optc (X3 u a c p2 a1) fun(aX,aY)=>some (aX,aY)) (cd (c.Kind=2) (cd (c.Fence≠(wrap .i64 (a.Fence+1))) (some (a,23)) (s ((),(a.Now,a.Config.Zones,a.Config.People,a.Config.Calendars,a.Config.Schedules,a.Book.Teams,a.Book.Policies,c.Region,c.Fence,()),(D.Ledger.mk 0 (D.Config.mk [] [] [] []) (D.Book.mk [] []) [] 0 0 [] []),a.Pages,a.Seen,a.Calls,()))) (cd (c.Kind=3) (join (Y:=((Int×Bool×Unit)×(Int×List D.Zone×List D.Person×List D.Calendar×List D.Schedule×List D.Team×List D.Policy×Int×Int×Unit)×D.Op×D.Ledger×D.Page×List D.Page×List Int×List D.Call×Unit)) (fun((aH,aZ,_),(t,v,w,y,z,A,B,C,E,_),aI,aJ,F,G,H,I,_)=>cnd (!aZ) (some ((D.Ledger.mk t (D.Config.mk v w y z) (D.Book.mk A B) G C E H I),3)) (optc (QfD u F) fun(aK,aL)=>join (Y:=((Int×Int×Bool×Int×Unit)×(Int×List D.Zone×List D.Person×List D.Calendar×List D.Schedule×List D.Team×List D.Policy×Int×Int×Unit)×D.Op×D.Ledger×List D.Page×List Int×List D.Call×Unit)) (fun((aM,b0,b1,b2,_),(f,g,h,i,j,k,l,m,n,_),aN,b3,o,p,q,_)=>join (Y:=((Int×Unit)×(Int×List D.Zone×List D.Person×List D.Calendar×List D.Schedule×List D.Team×List D.Policy×Int×Int×Unit)×D.Op×D.Ledger×List D.Page×List Int×List D.Call×Unit)) (fun((b4,_),(b5,b6,b7,b8,b9,bA,bB,bC,bD,_),bE,bQ,bF,bG,bH,_)=>optc (Z5 u (D.Ledger.mk b5 (D.Config.mk b6 b7 b8 b9) (D.Book.mk bA bB) bF bC bD bG bH) bE.Page b4) fun bI=>some (bI,0)) fun bJ=>cnd b1 (cd (aM<b0) (some ((D.Ledger.mk f (D.Config.mk g h i j) (D.Book.mk k l) o m n p q),9)) (cd (b2≠aN.K) (some ((D.Ledger.mk f (D.Config.mk g h i j) (D.Book.mk k l) o m n p q),9)) (bJ ((aM,()),(f,g,h,i,j,k,l,m,n,()),aN,b3,o,p,q,())))) (some ((D.Ledger.mk f (D.Config.mk g h i j) (D.Book.mk k l) o m n p q),9))) fun aO=>cd (F.State=2) (aO ((aH,aK,aL,(-1),()),(t,v,w,y,z,A,B,C,E,()),aI,aJ,G,H,I,())) (aO ((aH,aK,aL,F.Next,()),(t,v,w,y,z,A,B,C,E,()),aI,aJ,G,H,I,())))) fun bK=>cd (c.Region≠a.Owner) (some (a,23)) (cd (c.Fence≠a.Fence) (some (a,23)) (bK ((p2,a1,()),(a.Now,a.Config.Zones,a.Config.People,a.Config.Calendars,a.Config.Schedules,a.Book.Teams,a.Book.Policies,a.Owner,a.Fence,()),c,(D.Ledger.mk 0 (D.Config.mk [] [] [] []) (D.Book.mk [] []) [] 0 0 [] []),a0,a.Pages,a.Seen,a.Calls,())))) (cd (c.Kind=4) (optc (XB u a c.Answer p2) fun(bL,bM)=>some (bL,bM)) (cd (c.Kind=5) (Qh (X:=((Int×Int×Unit)×(Int×List D.Zone×List D.Person×List D.Calendar×List D.Schedule×List D.Team×List D.Policy×Int×Int×Unit)×D.Op×D.Ledger×List D.Page×List Int×List D.Call×Unit)) (fun bN ((aP,J,_),(L,O,S,W,Z,aA,aB,aC,aD,_),aE,aQ,e,aF,aG,_)=>cd (J<(e.length:Int)) (natc J fun aR=>ltc aR e.length (optc e[aR]? fun bO=>optc (Z5 u (D.Ledger.mk L (D.Config.mk O S W Z) (D.Book.mk aA aB) e aC aD aF aG) bO.ID aP) fun b=>bN ((aP,(wrap .i64 (J+1)),()),(b.Now,b.Config.Zones,b.Config.People,b.Config.Calendars,b.Config.Schedules,b.Book.Teams,b.Book.Policies,b.Owner,b.Fence,()),aE,aQ,b.Pages,b.Seen,b.Calls,()))) (optc (QdL u (D.Config.mk O S W Z) aE.Schedule aE.Edit) fun(r,aS)=>cd (aS≠0) (some ((D.Ledger.mk L (D.Config.mk O S W Z) (D.Book.mk aA aB) e aC aD aF aG),aS)) (s ((),(L,r.Zones,r.People,r.Calendars,r.Schedules,aA,aB,aC,aD,()),aQ,e,aF,aG,())))) u ((p2,0,()),(a.Now,a.Config.Zones,a.Config.People,a.Config.Calendars,a.Config.Schedules,a.Book.Teams,a.Book.Policies,a.Owner,a.Fence,()),c,(D.Ledger.mk 0 (D.Config.mk [] [] [] []) (D.Book.mk [] []) [] 0 0 [] []),a.Pages,a.Seen,a.Calls,())) (s ((),(a.Now,a.Config.Zones,a.Config.People,a.Config.Calendars,a.Config.Schedules,a.Book.Teams,a.Book.Policies,a.Owner,a.Fence,()),(D.Ledger.mk 0 (D.Config.mk [] [] [] []) (D.Book.mk [] []) [] 0 0 [] []),a.Pages,a.Seen,a.Calls,()))))))
theorem Qc4:FO 44 (Qf [.agg bJ0,.st .Op,nI] [ar 101 .Page,ar 102 .int,ar 103 .Call] [.agg bJ0,nI] [ar 101 .Page,ar 102 .int,ar 103 .Call] [] (D.Ledger×Int) kz6 (fun x y=>Z4 u (D.Ledger.mk x.1.1 (D.Config.mk x.1.2.1 x.1.2.2.1 x.1.2.2.2.1 x.1.2.2.2.2.1) (D.Book.mk x.1.2.2.2.2.2.1 x.1.2.2.2.2.2.2.1) y.1 x.1.2.2.2.2.2.2.2.1 x.1.2.2.2.2.2.2.2.2.1 y.2.1 y.2.2.1) x.2.1 x.2.2.1)):=fI u (gs 2 (.two (.join [rf 3,rf 6] [(1003,.box bJ0),bx 1006 .Ledger,ar 101 .Page,ar 102 .int,ar 103 .Call] (.two .go (.one (gs 5 (.two (.two (.join [ni 2,rf 3,rf 4,rf 6,rf 8,(9,.one .boo)] [(1003,.box bJ0),bx 1004 .Op,bx 1006 .Ledger,bx 1008 .Page,ar 101 .Page,ar 102 .int,ar 103 .Call] .go) (gs 3 (.two (.join [ni 2,rf 3,rf 4,rf 6,ni 10,(11,.one .boo),ni 12] [(1003,.box bJ0),bx 1004 .Op,bx 1006 .Ledger,ar 101 .Page,ar 102 .int,ar 103 .Call] .go) (.two (.join [ni 2,rf 3,rf 4,rf 6] [(1003,.box bJ0),bx 1004 .Op,bx 1006 .Ledger,ar 101 .Page,ar 102 .int,ar 103 .Call] .go) .go)))) (gs 3 (.two (lp [ni 2,rf 3,rf 4,rf 6,ni 13] [(1003,.box bJ0),bx 1004 .Op,bx 1006 .Ledger,ar 101 .Page,ar 102 .int,ar 103 .Call] .go) .go))))))) .go)) kz9 (eC (Qb5 u) (eC (Wk u) (eC (QdQ u) (eC (WG u) (eC (Qc5 u) (eC (Qog u) eN)))))) Tryz.func44
def Yt(e:D.Ledger)(f:D.Op):Option (D.Ledger×Int):=join (Y:=(Unit×D.Ledger×D.Op×D.Ledger×Unit)) (fun(_,c,b,m,_)=>optc (QeB u c) fun a=>optc (QcF u c.Seen b.ID) fun g=>cnd g (some (a,0)) (cd (256≤(c.Seen.length:Int)) none (lec (a.Seen.length+[b.ID].length) 34359738368 (optc (Z4 u (D.Ledger.mk (max c.Now b.At) a.Config a.Book a.Pages a.Owner a.Fence (a.Seen++[b.ID]) a.Calls) b (max c.Now b.At)) fun(h,i)=>some (h,i))))) fun j=>optc (YM u e) fun k=>cnd k (optc (QaV u f) fun l=>cnd l (j ((),e,f,(D.Ledger.mk 0 (D.Config.mk [] [] [] []) (D.Book.mk [] []) [] 0 0 [] []),())) (some ((D.Ledger.mk 0 (D.Config.mk [] [] [] []) (D.Book.mk [] []) [] 0 0 [] []),8))) (some ((D.Ledger.mk 0 (D.Config.mk [] [] [] []) (D.Book.mk [] []) [] 0 0 [] []),8))
theorem Qbx:FO 14 (Qf [.st .Ledger,.st .Op] [] [.agg [kI,.lst .Zone,.lst .Person,.lst .Calendar,.lst .Schedule,.lst .Team,.lst .Policy,.own 1018020,kI,kI,.own 1018025,.own 1018028],nI] [ar 1018020 .Page,ar 1018025 .int,ar 1018028 .Call] [] (D.Ledger×Int) kz6 (fun x y=>Yt u x.1 x.2.1)):=fI u (.two .go (.two (.join [rf 2,rf 3,rf 4] [bx 1002 .Ledger,bx 1003 .Op,bx 1004 .Ledger] .go) .go)) (fun a b=>((D.Ledger.mk a.1.1 (D.Config.mk a.1.2.1 a.1.2.2.1 a.1.2.2.2.1 a.1.2.2.2.2.1) (D.Book.mk a.1.2.2.2.2.2.1 a.1.2.2.2.2.2.2.1) b.1 a.1.2.2.2.2.2.2.2.1 a.1.2.2.2.2.2.2.2.2.1 b.2.1 b.2.2.1),a.2.1)) (eC (Qew u) (eC (QjO u) (eC (Vl u) (eC (Qok u) (eC (Qc4 u) eN))))) Tryz.func14
def Vw(u:Nat)(a:Int)(b:Int)(c:Int):Option Bool:=cd (b≤a) (cd (a≤c) sT sF) sF
theorem QmY:FO 212 (sB [nI,nI,nI] fun x=>Vw u x.1 x.2.1 x.2.2.1):=fI u .go kz0 eN Tryz.func212
def Ux(b:D.Answer):Option Bool:=join (Y:=((Int×Int×Unit)×D.Answer×Unit)) (fun((e,f,_),a,_)=>optc (Vw u a.ID 1 999999) fun g=>cnd g (optc (Vw u a.Page 1 999999) fun h=>cnd h (optc (Vw u a.Person (-1) 31) fun i=>cnd i (optc (Vw u a.At 0 8589934592) fun j=>cnd j (optc (Vw u a.Kind 1 5) fun k=>cnd k (optc (Vw u a.Arg e f) fun l=>cnd l sT sF) sF) sF) sF) sF) sF) fun c=>cd (b.Kind=3) (c ((1,86400,()),b,())) (cd (b.Kind=4) (c ((0,31,()),b,())) (c ((0,0,()),b,())))
theorem Qdf:FO 142 (sB [.st .Answer] fun x=>Ux u x.1):=fI u (gs 2 (.two (.join [rf 1,ni 3,ni 4] [bx 1001 .Answer] .go) .go)) kz0 (eC (QmY u) eN) Tryz.func142
def W2(a:D.Op):Option Bool:=optc (XA u a.ID 1 1099511627776) fun b=>cnd b (optc (XA u a.Kind 1 5) fun c=>cnd c (optc (XA u a.Region 0 4) fun e=>cnd e (optc (XA u a.Fence 0 1048576) fun f=>cnd f (optc (XA u a.At 0 8589934592) fun g=>cnd g (optc (XA u a.Page 0 999999) fun h=>cnd h (optc (XA u a.K (-1) 1000) fun i=>cnd i (cd (a.Kind≠4) sT (optc (Ux u a.Answer) fun j=>cnd j sT sF)) sF) sF) sF) sF) sF) sF) sF
theorem Qkk:FO 96 (sB [.st .Op] fun x=>W2 u x.1):=fI u .go kz0 (eC (QcA u) (eC (Qdf u) eN)) Tryz.func96
def Wy(u:Nat)(a:List D.Team):Option (List D.Team):=nilC a (both (some []) (lec a.length 34359738368 (some a))) (lec a.length 34359738368 (some a))
theorem QeP:FO 222 (Qf [.one (.lst .Team)] [] [.one (.own 1007)] [ar 1007 .Team] [] (List D.Team) kz8 (fun x y=>Wy u x.1)):=fI u .go kz12 eN Tryz.func222
def XE(u:Nat)(a:List D.Policy):Option (List D.Policy):=nilC a (both (some []) (lec a.length 34359738368 (some a))) (lec a.length 34359738368 (some a))
theorem Qc8:FO 223 (Qf [.one (.lst .Policy)] [] [.one (.own 1007)] [ar 1007 .Policy] [] (List D.Policy) kz8 (fun x y=>XE u x.1)):=fI u .go kz12 eN Tryz.func223
def Wx(u:Nat)(a:List D.Page):Option (List D.Page):=nilC a (both (some []) (lec a.length 34359738368 (some a))) (lec a.length 34359738368 (some a))
theorem QeO:FO 226 (Qf [.one (.lst .Page)] [] [.one (.own 1007)] [ar 1007 .Page] [] (List D.Page) kz8 (fun x y=>Wx u x.1)):=fI u .go kz12 eN Tryz.func226
def Qeo(a:D.Zone):Option D.Zone:=optc (Y6 u a.Rules) fun b=>some (D.Zone.mk a.Name a.Offset b)
theorem Ql8:FO 144 (Qf [.st .Zone] [] [.st .Zone] [] [] D.Zone kz1 (fun x y=>Qeo u x.1)):=fI u .go kz0 (eC (Vq u) eN) Tryz.func144
def Zz(h:List D.Zone):Option (List D.Zone):=optc (Xs u h) fun e=>Qh (X:=((Int×Int×Unit)×List D.Zone×Unit)) (fun i ((f,b,_),a,_)=>cd (b<f) (natc b fun g=>ltc g a.length (optc a[g]? fun j=>optc (Qeo u j) fun k=>natc b fun c=>ltc c a.length (optc a[c]? fun l=>i ((f,(wrap .i64 (b+1)),()),(List.set a c k),())))) (some a)) u (((e.length:Int),0,()),e,())
theorem VJ:FO 143 (Qf [.one (.lst .Zone),.one (.fv 144)] [] [.one (.lst .Zone)] [] [] (List D.Zone) kz1 (fun x y=>Zz u x.1)):=fI u (gs 2 (lp [(1,.one (.fv 144)),(5,.one (.own 1009007)),ni 10,ni 11] [ar 1009007 .Zone] .go)) kz0 (eC (Ql8 u) (eC (U3 u) eN)) Tryz.func143
def Qbn(a:D.Person):Option D.Person:=optc (Z7 u a.Quiet) fun b=>some (D.Person.mk a.Name a.Zone b a.MaxWeek a.MinRest a.Consent)
theorem Qjq:FO 146 (Qf [.st .Person] [] [.st .Person] [] [] D.Person kz1 (fun x y=>Qbn u x.1)):=fI u .go kz0 (eC (XY u) eN) Tryz.func146
def Q7(h:List D.Person):Option (List D.Person):=optc (YN u h) fun e=>Qh (X:=((Int×Int×Unit)×List D.Person×Unit)) (fun i ((f,b,_),a,_)=>cd (b<f) (natc b fun g=>ltc g a.length (optc a[g]? fun j=>optc (Qbn u j) fun k=>natc b fun c=>ltc c a.length (optc a[c]? fun l=>i ((f,(wrap .i64 (b+1)),()),(List.set a c k),())))) (some a)) u (((e.length:Int),0,()),e,())
theorem WE:FO 145 (Qf [.one (.lst .Person),.one (.fv 146)] [] [.one (.lst .Person)] [] [] (List D.Person) kz1 (fun x y=>Q7 u x.1)):=fI u (gs 2 (lp [(1,.one (.fv 146)),(5,.one (.own 1009007)),ni 10,ni 11] [ar 1009007 .Person] .go)) kz0 (eC (Qjq u) (eC (V7 u) eN)) Tryz.func145
def QeZ(a:D.Calendar):Option D.Calendar:=optc (Qy u a.Days) fun b=>some (D.Calendar.mk a.Name a.Zone b)
theorem Qg0:FO 148 (Qf [.st .Calendar] [] [.st .Calendar] [] [] D.Calendar kz1 (fun x y=>QeZ u x.1)):=fI u .go kz0 (eC (Q4 u) eN) Tryz.func148
def Zo(h:List D.Calendar):Option (List D.Calendar):=optc (Wo u h) fun e=>Qh (X:=((Int×Int×Unit)×List D.Calendar×Unit)) (fun i ((f,b,_),a,_)=>cd (b<f) (natc b fun g=>ltc g a.length (optc a[g]? fun j=>optc (QeZ u j) fun k=>natc b fun c=>ltc c a.length (optc a[c]? fun l=>i ((f,(wrap .i64 (b+1)),()),(List.set a c k),())))) (some a)) u (((e.length:Int),0,()),e,())
theorem XW:FO 147 (Qf [.one (.lst .Calendar),.one (.fv 148)] [] [.one (.lst .Calendar)] [] [] (List D.Calendar) kz1 (fun x y=>Zo u x.1)):=fI u (gs 2 (lp [(1,.one (.fv 148)),(5,.one (.own 1009007)),ni 10,ni 11] [ar 1009007 .Calendar] .go)) kz0 (eC (Qg0 u) (eC (Vo u) eN)) Tryz.func147
def QcB(a:D.Layer):Option D.Layer:=optc (Qy u a.Members) fun b=>optc (Z7 u a.Windows) fun c=>some (D.Layer.mk a.Name a.Zone a.Start a.Unit a.Every b c a.Calendar a.Mode)
theorem Qkn:FO 220 (Qf [.st .Layer] [] [.st .Layer] [] [] D.Layer kz1 (fun x y=>QcB u x.1)):=fI u .go kz0 (eC (Q4 u) (eC (XY u) eN)) Tryz.func220
def Zf(h:List D.Layer):Option (List D.Layer):=optc (Y4 u h) fun e=>Qh (X:=((Int×Int×Unit)×List D.Layer×Unit)) (fun i ((f,b,_),a,_)=>cd (b<f) (natc b fun g=>ltc g a.length (optc a[g]? fun j=>optc (QcB u j) fun k=>natc b fun c=>ltc c a.length (optc a[c]? fun l=>i ((f,(wrap .i64 (b+1)),()),(List.set a c k),())))) (some a)) u (((e.length:Int),0,()),e,())
theorem W6:FO 219 (Qf [.one (.lst .Layer),.one (.fv 220)] [] [.one (.lst .Layer)] [] [] (List D.Layer) kz1 (fun x y=>Zf u x.1)):=fI u (gs 2 (lp [(1,.one (.fv 220)),(5,.one (.own 1009007)),ni 10,ni 11] [ar 1009007 .Layer] .go)) kz0 (eC (Qkn u) (eC (UL u) eN)) Tryz.func219
def Uu(a:D.Schedule):Option D.Schedule:=optc (Zf u a.Layers) fun b=>optc (Xr u a.Edits) fun c=>some (D.Schedule.mk a.Name b c)
theorem Qg2:FO 150 (Qf [.st .Schedule] [] [.st .Schedule] [] [] D.Schedule kz1 (fun x y=>Uu u x.1)):=fI u .go kz0 (eC (W6 u) (eC (U2 u) eN)) Tryz.func150
def QV(h:List D.Schedule):Option (List D.Schedule):=optc (Yi u h) fun e=>Qh (X:=((Int×Int×Unit)×List D.Schedule×Unit)) (fun i ((f,b,_),a,_)=>cd (b<f) (natc b fun g=>ltc g a.length (optc a[g]? fun j=>optc (Uu u j) fun k=>natc b fun c=>ltc c a.length (optc a[c]? fun l=>i ((f,(wrap .i64 (b+1)),()),(List.set a c k),())))) (some a)) u (((e.length:Int),0,()),e,())
theorem XX:FO 149 (Qf [.one (.lst .Schedule),.one (.fv 150)] [] [.one (.lst .Schedule)] [] [] (List D.Schedule) kz1 (fun x y=>QV u x.1)):=fI u (gs 2 (lp [(1,.one (.fv 150)),(5,.one (.own 1009007)),ni 10,ni 11] [ar 1009007 .Schedule] .go)) kz0 (eC (Qg2 u) (eC (Vp u) eN)) Tryz.func149
def Qen(a:D.Team):Option D.Team:=optc (Qy u a.Members) fun b=>some (D.Team.mk a.Name b)
theorem Ql7:FO 152 (Qf [.st .Team] [] [.st .Team] [] [] D.Team kz1 (fun x y=>Qen u x.1)):=fI u .go kz0 (eC (Q4 u) eN) Tryz.func152
def Zy(h:List D.Team):Option (List D.Team):=optc (Wy u h) fun e=>Qh (X:=((Int×Int×Unit)×List D.Team×Unit)) (fun i ((f,b,_),a,_)=>cd (b<f) (natc b fun g=>ltc g a.length (optc a[g]? fun j=>optc (Qen u j) fun k=>natc b fun c=>ltc c a.length (optc a[c]? fun l=>i ((f,(wrap .i64 (b+1)),()),(List.set a c k),())))) (some a)) u (((e.length:Int),0,()),e,())
theorem VI:FO 151 (Qf [.one (.lst .Team),.one (.fv 152)] [] [.one (.lst .Team)] [] [] (List D.Team) kz1 (fun x y=>Zy u x.1)):=fI u (gs 2 (lp [(1,.one (.fv 152)),(5,.one (.own 1009007)),ni 10,ni 11] [ar 1009007 .Team] .go)) kz0 (eC (Ql7 u) (eC (QeP u) eN)) Tryz.func151
def YB(u:Nat)(a:List D.PolicyStep):Option (List D.PolicyStep):=nilC a (both (some []) (lec a.length 34359738368 (some a))) (lec a.length 34359738368 (some a))
theorem Qbc:FO 258 (Qf [.one (.lst .PolicyStep)] [] [.one (.own 1007)] [ar 1007 .PolicyStep] [] (List D.PolicyStep) kz8 (fun x y=>YB u x.1)):=fI u .go kz12 eN Tryz.func258
def XF(u:Nat)(a:List D.Target):Option (List D.Target):=nilC a (both (some []) (lec a.length 34359738368 (some a))) (lec a.length 34359738368 (some a))
theorem Qc9:FO 259 (Qf [.one (.lst .Target)] [] [.one (.own 1007)] [ar 1007 .Target] [] (List D.Target) kz8 (fun x y=>XF u x.1)):=fI u .go kz12 eN Tryz.func259
def Qem(a:D.PolicyStep):Option D.PolicyStep:=optc (XF u a.Targets) fun b=>some (D.PolicyStep.mk a.Wait a.Urgent b)
theorem Ql6:FO 225 (Qf [.st .PolicyStep] [] [.st .PolicyStep] [] [] D.PolicyStep kz1 (fun x y=>Qem u x.1)):=fI u .go kz0 (eC (Qc9 u) eN) Tryz.func225
def Q1(h:List D.PolicyStep):Option (List D.PolicyStep):=optc (YB u h) fun e=>Qh (X:=((Int×Int×Unit)×List D.PolicyStep×Unit)) (fun i ((f,b,_),a,_)=>cd (b<f) (natc b fun g=>ltc g a.length (optc a[g]? fun j=>optc (Qem u j) fun k=>natc b fun c=>ltc c a.length (optc a[c]? fun l=>i ((f,(wrap .i64 (b+1)),()),(List.set a c k),())))) (some a)) u (((e.length:Int),0,()),e,())
theorem Wb:FO 224 (Qf [.one (.lst .PolicyStep),.one (.fv 225)] [] [.one (.lst .PolicyStep)] [] [] (List D.PolicyStep) kz1 (fun x y=>Q1 u x.1)):=fI u (gs 2 (lp [(1,.one (.fv 225)),(5,.one (.own 1009007)),ni 10,ni 11] [ar 1009007 .PolicyStep] .go)) kz0 (eC (Ql6 u) (eC (Qbc u) eN)) Tryz.func224
def Qgh(a:D.Policy):Option D.Policy:=optc (Q1 u a.Steps) fun b=>some (D.Policy.mk a.Name b a.Repeat)
theorem QnW:FO 154 (Qf [.st .Policy] [] [.st .Policy] [] [] D.Policy kz1 (fun x y=>Qgh u x.1)):=fI u .go kz0 (eC (Wb u) eN) Tryz.func154
def Zp(h:List D.Policy):Option (List D.Policy):=optc (XE u h) fun e=>Qh (X:=((Int×Int×Unit)×List D.Policy×Unit)) (fun i ((f,b,_),a,_)=>cd (b<f) (natc b fun g=>ltc g a.length (optc a[g]? fun j=>optc (Qgh u j) fun k=>natc b fun c=>ltc c a.length (optc a[c]? fun l=>i ((f,(wrap .i64 (b+1)),()),(List.set a c k),())))) (some a)) u (((e.length:Int),0,()),e,())
theorem Vs:FO 153 (Qf [.one (.lst .Policy),.one (.fv 154)] [] [.one (.lst .Policy)] [] [] (List D.Policy) kz1 (fun x y=>Zp u x.1)):=fI u (gs 2 (lp [(1,.one (.fv 154)),(5,.one (.own 1009007)),ni 10,ni 11] [ar 1009007 .Policy] .go)) kz0 (eC (QnW u) (eC (Qc8 u) eN)) Tryz.func153
def Y5(u:Nat)(a:List D.Start):Option (List D.Start):=nilC a (both (some []) (lec a.length 34359738368 (some a))) (lec a.length 34359738368 (some a))
theorem UM:FO 197 (Qf [.one (.lst .Start)] [] [.one (.own 1007)] [ar 1007 .Start] [] (List D.Start) kz8 (fun x y=>Y5 u x.1)):=fI u .go kz12 eN Tryz.func197
def Qbl(a:D.Start):Option D.Start:=optc (Qy u a.People) fun b=>some (D.Start.mk a.K a.At b)
theorem Qjo:FO 129 (Qf [.st .Start] [] [.st .Start] [] [] D.Start kz1 (fun x y=>Qbl u x.1)):=fI u .go kz0 (eC (Q4 u) eN) Tryz.func129
def ZQ(h:List D.Start):Option (List D.Start):=optc (Y5 u h) fun e=>Qh (X:=((Int×Int×Unit)×List D.Start×Unit)) (fun i ((f,b,_),a,_)=>cd (b<f) (natc b fun g=>ltc g a.length (optc a[g]? fun j=>optc (Qbl u j) fun k=>natc b fun c=>ltc c a.length (optc a[c]? fun l=>i ((f,(wrap .i64 (b+1)),()),(List.set a c k),())))) (some a)) u (((e.length:Int),0,()),e,())
theorem WN:FO 128 (Qf [.one (.lst .Start),.one (.fv 129)] [] [.one (.lst .Start)] [] [] (List D.Start) kz1 (fun x y=>ZQ u x.1)):=fI u (gs 2 (lp [(1,.one (.fv 129)),(5,.one (.own 1009007)),ni 10,ni 11] [ar 1009007 .Start] .go)) kz0 (eC (Qjo u) (eC (UM u) eN)) Tryz.func128
def Qav(a:D.Page):Option D.Page:=optc (ZQ u a.Starts) fun b=>optc (Qy u a.Declined) fun c=>optc (Qy u a.Seen) fun e=>some (D.Page.mk a.ID a.Policy a.Start a.Next a.Due a.State a.By a.Until a.Last a.Snoozes a.Hands b c e)
theorem Qgg:FO 82 (Qf [.st .Page] [] [.st .Page] [] [] D.Page kz1 (fun x y=>Qav u x.1)):=fI u .go kz0 (eC (WN u) (eC (Q4 u) eN)) Tryz.func82
def Zx(h:List D.Page):Option (List D.Page):=optc (Wx u h) fun e=>Qh (X:=((Int×Int×Unit)×List D.Page×Unit)) (fun i ((f,b,_),a,_)=>cd (b<f) (natc b fun g=>ltc g a.length (optc a[g]? fun j=>optc (Qav u j) fun k=>natc b fun c=>ltc c a.length (optc a[c]? fun l=>i ((f,(wrap .i64 (b+1)),()),(List.set a c k),())))) (some a)) u (((e.length:Int),0,()),e,())
theorem VH:FO 155 (Qf [.one (.lst .Page),.one (.fv 82)] [] [.one (.own 1009007)] [ar 1009007 .Page] [] (List D.Page) kz8 (fun x y=>Zx u x.1)):=fI u (gs 2 (lp [(1,.one (.fv 82)),(5,.one (.own 1009007)),ni 10,ni 11] [ar 1009007 .Page] .go)) kz12 (eC (Qgg u) (eC (QeO u) eN)) Tryz.func155
def Qbm(a:D.Ledger):Option D.Ledger:=optc (Zz u a.Config.Zones) fun b=>optc (Q7 u a.Config.People) fun c=>optc (Zo u a.Config.Calendars) fun e=>optc (QV u a.Config.Schedules) fun f=>optc (Zy u a.Book.Teams) fun g=>optc (Zp u a.Book.Policies) fun h=>optc (Zx u a.Pages) fun i=>optc (Qy u a.Seen) fun j=>optc (Xq u a.Calls) fun k=>some (D.Ledger.mk a.Now (D.Config.mk b c e f) (D.Book.mk g h) i a.Owner a.Fence j k)
theorem Qjp:FO 97 (Qf [.st .Ledger] [] [.agg [kI,.lst .Zone,.lst .Person,.lst .Calendar,.lst .Schedule,.lst .Team,.lst .Policy,.own 2060007,kI,kI,.own 1055007,.own 1058007]] [ar 2060007 .Page,ar 1055007 .int,ar 1058007 .Call] [] D.Ledger kz7 (fun x y=>Qbm u x.1)):=fI u .go (fun a b=>D.Ledger.mk a.1.1 (D.Config.mk a.1.2.1 a.1.2.2.1 a.1.2.2.2.1 a.1.2.2.2.2.1) (D.Book.mk a.1.2.2.2.2.2.1 a.1.2.2.2.2.2.2.1) b.1 a.1.2.2.2.2.2.2.2.1 a.1.2.2.2.2.2.2.2.2.1 b.2.1 b.2.2.1) (eC (U1 u) (eC (Q4 u) (eC (VJ u) (eC (WE u) (eC (XW u) (eC (XX u) (eC (VI u) (eC (Vs u) (eC (VH u) eN))))))))) Tryz.func97
def Wa(u:Nat)(a:D.Page)(b:Int):Option Int:=some (wrap .i64 (a.ID - b))
theorem QdB:FO 127 (sI [.st .Page,nI] fun x=>Wa u x.1 x.2.1):=fI u .go kz0 eN Tryz.func127
def QJ(f:List D.Page)(k:Int):Option (Int×Bool):=Qh (X:=((List D.Page×Int×Int×Int×Int×Unit)×Unit)) (fun i ((c,e,g,a,b,_),_)=>cd (a<b) (natc 1 fun h=>atc c (wrap .i64 (Int.fdiv (IntKind.wrap .u64 (wrap .i64 (a+b))) (HPow.hPow 2 (min h (Go.IntKind.bits Go.IntKind.u64))))) fun l=>optc (Wa u l e) fun m=>cd (m<0) (i ((c,e,g,(wrap .i64 ((wrap .i64 (Int.fdiv (IntKind.wrap .u64 (wrap .i64 (a+b))) (HPow.hPow 2 (min h (Go.IntKind.bits Go.IntKind.u64)))))+1)),b,()),())) (i ((c,e,g,a,(wrap .i64 (Int.fdiv (IntKind.wrap .u64 (wrap .i64 (a+b))) (HPow.hPow 2 (min h (Go.IntKind.bits Go.IntKind.u64))))),()),()))) (cd (a<g) (atc c a fun n=>optc (Wa u n e) fun j=>cd (j=0) (some (a,true)) (some (a,false))) (some (a,false)))) u ((f,k,(f.length:Int),0,(f.length:Int),()),())
theorem Xp:FO 126 (Qf [.one (.lst .Page),nI,.one (.fv 127)] [] [nI,.one .boo] [] [] (Int×Bool) kz3 (fun x y=>QJ u x.1 x.2.1)):=fI u (gs 3 (.two (.one (.loop [li 0 .Page,ni 1,(2,.one (.fv 127)),ni 8,ni 9,ni 10] [] .go)) .go)) kz4 (eC (QdB u) eN) Tryz.func126
def Qg1(a:D.Ledger)(b:Int):Option (Int×Bool):=optc (QJ u a.Pages b) fun(c,e)=>some (c,e)
theorem Ql3:FO 81 (Qf [.st .Ledger,nI] [] [nI,.one .boo] [] [] (Int×Bool) kz3 (fun x y=>Qg1 u x.1 x.2.1)):=fI u .go kz4 (eC (Xp u) eN) Tryz.func81
def Qdr(f:D.Book)(b:Int)(g:Int)(c:Int):Option (D.Page×Int):=join (Y:=(P3×D.Book×D.Page×Unit)) (fun((h,e,a,_),i,n,_)=>optc (QY u e 0 (wrap .i64 ((i.Policies.length:Int) - 1))) fun j=>cnd (!j) (some ((D.Page.mk 0 0 0 0 0 0 0 0 0 0 0 [] [] []),3)) (some ((D.Page.mk h e a 0 a 0 (-1) 0 a 0 0 [] [] []),0))) fun k=>optc (QY u b 1 999999) fun l=>cnd l (optc (QY u c 0 8589934592) fun m=>cnd m (k ((b,g,c,()),f,(D.Page.mk 0 0 0 0 0 0 0 0 0 0 0 [] [] []),())) (some ((D.Page.mk 0 0 0 0 0 0 0 0 0 0 0 [] [] []),1))) (some ((D.Page.mk 0 0 0 0 0 0 0 0 0 0 0 [] [] []),1))
theorem Qi2:FO 157 (Qf [.st .Book,nI,nI,nI] [] [.st .Page,nI] [] [] (D.Page×Int) kz3 (fun x y=>Qdr u x.1 x.2.1 x.2.2.1 x.2.2.2.1)):=fI u (.two .go (.two (.join [ni 1,ni 2,ni 3,rf 4,rf 8] [bx 1004 .Book,bx 1008 .Page] .go) .go)) kz4 (eC (XS u) eN) Tryz.func157
def X5(u:Nat)(a:List Int):Option (List Int):=nilC a (both (some []) (lec a.length 34359738368 (some a))) (lec a.length 34359738368 (some a))
theorem Qd1:FO 130 (Qf [lI] [] [lI] [] [] (List Int) kz1 (fun x y=>X5 u x.1)):=fI u .go kz0 eN Tryz.func130
def Xm(a:D.Page):Option D.Page:=optc (Y5 u a.Starts) fun o=>Qh (X:=((Int×Int×Unit)×(Int×Int×Int×Int×Int×Int×Int×Int×Int×Int×Int×List Int×List Int×Unit)×D.Page×List D.Start×Unit)) (fun E ((p,e,_),(q,r,s,t,v,w,f,g,h,i,j,k,l,_),y,b,_)=>cd (e<p) (natc e fun m=>ltc m b.length (optc b[m]? fun z=>optc (X5 u z.People) fun A=>natc e fun c=>ltc c b.length (optc b[c]? fun n=>E ((p,(wrap .i64 (e+1)),()),(q,r,s,t,v,w,f,g,h,i,j,k,l,()),y,(List.set b c (D.Start.mk n.K n.At A)),())))) (optc (Qy u k) fun B=>optc (Qy u l) fun C=>some (D.Page.mk q r s t v w f g h i j b B C))) u (((o.length:Int),0,()),(a.ID,a.Policy,a.Start,a.Next,a.Due,a.State,a.By,a.Until,a.Last,a.Snoozes,a.Hands,a.Declined,a.Seen,()),(D.Page.mk 0 0 0 0 0 0 0 0 0 0 0 [] [] []),o,())
theorem VC:FO 230 (Qf [.st .Page] [] [.agg [kI,kI,kI,kI,kI,kI,kI,kI,kI,kI,kI,.own 1007007,.own 1030007,.own 1033007]] [ar 1007007 .Start,ar 1030007 .int,ar 1033007 .int] [] D.Page kz13 (fun x y=>Xm u x.1)):=fI u (gs 2 (lp [rf 1,rf 2,ni 10,ni 11] [(1001,.box [kI,kI,kI,kI,kI,kI,kI,kI,kI,kI,kI,.own 1007007,.lst .int,.lst .int]),bx 1002 .Page,ar 1007007 .Start] .go)) (fun a b=>D.Page.mk a.1.1 a.1.2.1 a.1.2.2.1 a.1.2.2.2.1 a.1.2.2.2.2.1 a.1.2.2.2.2.2.1 a.1.2.2.2.2.2.2.1 a.1.2.2.2.2.2.2.2.1 a.1.2.2.2.2.2.2.2.2.1 a.1.2.2.2.2.2.2.2.2.2.1 a.1.2.2.2.2.2.2.2.2.2.2.1 b.1 b.2.1 b.2.2.1) (eD 24 (Qd1 u) (eC (Q4 u) (eC (UM u) eN))) Tryz.func230
def X9(u:Nat)(a:D.Page):Option (Int×Bool):=cd (a.State=0) (some (a.Due,true)) (cd (a.State=2) (some (a.Until,true)) (some (0,false)))
theorem VB:FO 80 (Qf [.st .Page] [] [nI,.one .boo] [] [] (Int×Bool) kz3 (fun x y=>X9 u x.1)):=fI u .go kz4 eN Tryz.func80
def Ur(a:D.Page)(b:Int):Option Bool:=optc (X9 u a) fun(c,e)=>cnd e (cd (c≤b) sT sF) sF
theorem QgP:FO 261 (sB [.st .Page,nI] fun x=>Ur u x.1 x.2.1):=fI u .go kz0 (eC (VB u) eN) Tryz.func261
def QaS(a:D.Policy)(b:Int):Option (Int×Int×Bool):=optc (We u a) fun c=>optc (Yh u b 0 (wrap .i64 (c - 1))) fun e=>cnd (!e) (some (0,0,false)) (nzc (a.Steps.length:Int) (nzc (a.Steps.length:Int) (some ((Int.tmod b (a.Steps.length:Int)),(wrap .i64 (Int.tdiv b (a.Steps.length:Int))),true))))
theorem Qkr:FO 292 (Qf [.st .Policy,nI] [] [nI,nI,.one .boo] [] [] (Int×Int×Bool) kz21 (fun x y=>QaS u x.1 x.2.1)):=fI u .go (fun a b=>(a.1,a.2.1,a.2.2.1)) (eC (Wg u) (eC (QaR u) eN)) Tryz.func292
def Quj(a:D.Zone):Option (D.Table×Int):=optc (UY u a) fun(b,c)=>some ((D.Table.mk a.Offset b),c)
theorem QrS:FO 349 (Qf [.st .Zone] [] [.st .Table,nI] [] [] (D.Table×Int) kz3 (fun x y=>Quj u x.1)):=fI u .go kz4 (eC (Qa2 u) eN) Tryz.func349
def QfP(c:List D.Zone):Option (List D.Table):=Qh (X:=((List D.Zone×Int×Int×Unit)×List D.Table×Unit)) (fun h ((e,f,a,_),b,_)=>cd (a<f) (atc e a fun i=>optc (Quj u i) fun(g,j)=>lec (b.length+[g].length) 34359738368 (h ((e,f,(wrap .i64 (a+1)),()),(b++[g]),()))) (some b)) u ((c,(c.length:Int),0,()),[],())
theorem Qkz:FO 341 (Qf [.one (.lst .Zone)] [] [.one (.lst .Table)] [] [] (List D.Table) kz1 (fun x y=>QfP u x.1)):=fI u (gs 2 (lp [(3,.one (.own 1022)),li 8 .Zone,ni 9,ni 10] [ar 1022 .Table] .go)) kz0 (eC (QrS u) eN) Tryz.func341
def QiY(a:D.Config):Option D.View:=optc (QfP u a.Zones) fun b=>some (D.View.mk a b)
theorem Qnp:FO 335 (Qf [.st .Config] [] [.st .View] [] [] D.View kz1 (fun x y=>QiY u x.1)):=fI u .go kz0 (eC (Qkz u) eN) Tryz.func335
def QiW(a:D.Config):Option (D.View×Bool):=optc (QX u a) fun b=>cd (b≠0) (some ((D.View.mk (D.Config.mk [] [] [] []) []),false)) (optc (QiY u a) fun c=>some (c,true))
theorem QkM:FO 327 (Qf [.st .Config] [] [.st .View,.one .boo] [] [] (D.View×Bool) kz3 (fun x y=>QiW u x.1)):=fI u .go kz4 (eC (UU u) (eC (Qnp u) eN)) Tryz.func327
def Qfg(u:Nat)(a:D.Edit)(b:Int):Option Bool:=cd (a.From≤b) (cd (b<a.To) sT sF) sF
theorem Qke:FO 355 (sB [.st .Edit,nI] fun x=>Qfg u x.1 x.2.1):=fI u .go kz0 eN Tryz.func355
def QfW(i:List D.Edit)(l:Int)(m:Int):Option Int:=Qh (X:=((Int×Int×List D.Edit×Int×Int×Unit)×Unit)) (fun n ((h,e,f,g,c,_),_)=>cd (c<g) (join (Y:=((Int×Int×List D.Edit×Int×Int×Unit)×Unit)) (fun((o,p,q,r,j,_),_)=>n ((o,p,q,r,(wrap .i64 (j+1)),()),())) fun b=>atc f c fun a=>optc (Qfg u a e) fun k=>cnd k (cd (a.Kind=0) (b ((h,e,f,g,c,()),())) (cd (a.Kind=1) (b ((a.A,e,f,g,c,()),())) (cd (a.Kind≠2) (b ((h,e,f,g,c,()),())) (cd (h=a.A) (b ((a.B,e,f,g,c,()),())) (cd (h=a.B) (b ((a.A,e,f,g,c,()),())) (b ((h,e,f,g,c,()),()))))))) (b ((h,e,f,g,c,()),()))) (some h)) u ((l,m,i,(i.length:Int),0,()),())
theorem Qnu:FO 348 (sI [.one (.lst .Edit),nI,nI] fun x=>QfW u x.1 x.2.1 x.2.2.1):=fI u (.two .go (lp [ni 1,ni 2,li 9 .Edit,ni 10,ni 11] [] (gs 2 (.two (.join [ni 1,ni 2,li 9 .Edit,ni 10,ni 11] [] .go) .go)))) kz0 (eC (Qke u) eN) Tryz.func348
def Qed(e:D.View)(f:D.Schedule)(a:Int):Option Int:=join (Y:=((Int×Unit)×D.View×D.Schedule×Unit)) (fun((b,_),g,c,_)=>optc (Y9 u g c b) fun(k,h)=>optc (QfW u c.Edits h b) fun i=>some i) fun j=>cd (a<0) (some (-1)) (cd (8589934592<a) (some (-1)) (j ((a,()),e,f,())))
theorem QlG:FO 340 (sI [.st .View,.st .Schedule,nI] fun x=>Qed u x.1 x.2.1 x.2.2.1):=fI u (.two .go (.two (.join [ni 2,rf 3,rf 4] [bx 1003 .View,bx 1004 .Schedule] .go) .go)) kz0 (eC (QhW u) (eC (Qnu u) eN)) Tryz.func340
def Qh3(a:D.Config)(b:Int)(c:Int):Option Int:=optc (QiW u a) fun(e,f)=>join (Y:=((Int×Int×Unit)×D.Config×D.View×Unit)) (fun((g,h,_),i,j,_)=>atc i.Schedules g fun k=>optc (Qed u j k h) fun l=>some l) fun m=>cnd f (optc (W9 u a b) fun n=>cnd n (m ((b,c,()),a,e,())) (some (-1))) (some (-1))
theorem Qpd:FO 334 (sI [.st .Config,nI,nI] fun x=>Qh3 u x.1 x.2.1 x.2.2.1):=fI u (gs 2 (.two (.join [ni 1,ni 2,rf 3,rf 7] [bx 1003 .Config,bx 1007 .View] .go) .go)) kz0 (eC (Qe6 u) (eC (QkM u) (eC (QlG u) eN))) Tryz.func334
def QeE(a:D.Config)(b:Int)(c:Int):Option Int:=optc (Qh3 u a b c) fun e=>some e
theorem Qmx:FO 326 (sI [.st .Config,nI,nI] fun x=>QeE u x.1 x.2.1 x.2.2.1):=fI u .go kz0 (eC (Qpd u) eN) Tryz.func326
def Qbs(c:D.Config)(e:D.Book)(a:D.Target)(f:Int):Option (List Int):=join (Y:=((Int×Unit)×D.Config×D.Book×D.Target×Unit)) (fun((k,_),l,m,b,_)=>cd (b.Kind=1) (optc (QeE u l b.Index k) fun n=>some [n]) (cd (b.Kind=2) (atc m.Teams b.Index fun o=>some o.Members) (some [b.Index]))) fun g=>optc (Yh u a.Kind 0 2) fun p=>cnd p (optc (Wh u c e) fun h=>cd (a.Kind=((0:Nat):Int)) (optc (Yh u a.Index 0 (wrap .i64 (h.a0 - 1))) fun q=>cnd q (g ((f,()),c,e,a,())) (some [])) (cd (a.Kind=(((0+1):Nat):Int)) (optc (Yh u a.Index 0 (wrap .i64 (h.a1 - 1))) fun i=>cnd i (g ((f,()),c,e,a,())) (some [])) (cd (a.Kind=((((0+1)+1):Nat):Int)) (optc (Yh u a.Index 0 (wrap .i64 (h.a2 - 1))) fun j=>cnd j (g ((f,()),c,e,a,())) (some [])) none))) (some [])
theorem Qjz:FO 310 (Qf [.st .Config,.st .Book,.st .Target,nI] [] [lI] [] [] (List Int) kz1 (fun x y=>Qbs u x.1 x.2.1 x.2.2.1 x.2.2.2.1)):=fI u (.two .go (.two (.join [ni 3,rf 4,rf 5,rf 6] [bx 1004 .Config,bx 1005 .Book,bx 1006 .Target] .go) .go)) kz0 (eC (Wg u) (eC (QdD u) (eC (Qmx u) eN))) Tryz.func310
def Wf(b:Int)(a:D.Config):Option Bool:=optc (Yh u b 0 (wrap .i64 ((a.People.length:Int) - 1))) fun c=>sameC a a (some (!c))
theorem Qbr:FO 311 (Qf [nI,.one (.ref 101)] [bx 101 .Config] [.one .boo] [] [101] Bool kz1 (fun x y=>Wf u x.1 y.1)):=fI u .go kz0 (eC (Wg u) eN) Tryz.func311
def QS(b:List Int)(c102:D.Config):Option Int:=Qh (X:=((Int×Int×Unit)×D.Config×List Int×Unit)) (fun h ((f,c,_),e,a,_)=>cd (c<f) (natc c fun g=>ltc g a.length (optc a[g]? fun i=>optc (Wf u i e) fun j=>cnd j (sameC a b (sameC e c102 (some c))) (h ((f,(wrap .i64 (c+1)),()),e,a,())))) (sameC a b (sameC e c102 (some (-1))))) u (((b.length:Int),0,()),c102,b,())
theorem XH:FO 270 (Qf [.one (.own 101),.one (.clo 311 [102])] [ar 101 .int,bx 102 .Config] [nI] [] [101,102] Int kz1 (fun x y=>QS u y.1 y.2.1)):=fI u (.two .go (lp [(0,.one (.own 101)),(1,.one (.clo 311 [102])),ni 7,ni 8] [bx 102 .Config,ar 101 .int] .go)) kz0 (eC (Qbr u) eN) Tryz.func270
def QP(f:List Int)(c102:D.Config):Option (Nat×Nat×List Int):=optc (QS u f c102) fun m=>cd (m=(-1)) (sameC c102 c102 (some (0,f.length,f))) (Qh (X:=((Int×Int×Unit)×D.Config×List Int×Unit)) (fun o ((c,g,_),h,a,_)=>cd (g<(a.length:Int)) (join (Y:=((Int×Int×Unit)×D.Config×List Int×Unit)) (fun((p,q,_),r,s,_)=>o ((p,(wrap .i64 (q+1)),()),r,s,())) fun i=>natc g fun j=>ltc j a.length (optc a[j]? fun k=>optc (Wf u k h) fun n=>cnd (!n) (natc c fun e=>ltc e a.length (optc a[e]? fun t=>i (((wrap .i64 (c+1)),g,()),h,(List.set a e k),()))) (i ((c,g,()),h,a,())))) (natc c fun b=>lec b a.length (lec b a.length (lec a.length a.length (natc c fun l=>lec l (((List.take b a)++(List.replicate (a.length - b) 0))++(List.drop a.length a)).length (sameC h c102 (some (0,l,(((List.take b a)++(List.replicate (a.length - b) 0))++(List.drop a.length a)))))))))) u ((m,(wrap .i64 (m+1)),()),c102,f,()))
theorem Xt:FO 293 (Qf [.one (.own 101),.one (.clo 311 [102])] [ar 101 .int,bx 102 .Config] [.one (.view 101)] [ar 101 .int] [102] (Nat×Nat×List Int) kz18 (fun x y=>QP u y.1 y.2.1)):=fI u (gs 3 (lp [(0,.one (.own 101)),(1,.one (.clo 311 [102])),ni 5,ni 6] [bx 102 .Config,ar 101 .int] (.two .go (.two (.join [(0,.one (.own 101)),(1,.one (.clo 311 [102])),ni 5,ni 6] [bx 102 .Config,ar 101 .int] .go) .go)))) kz20 (eC (XH u) (eC (Qbr u) eN)) Tryz.func293
def Q8(l0:Nat)(h0:Nat)(W:List Int)(w:Int)(Z:Int):Option (List Int):=Qh (X:=((Nat×Nat×Int×Int×Int×Unit)×List Int×Unit)) (fun L0 ((a1,a2,a3,y,v,_),z,_)=>cd (v<y) (join (Y:=((Nat×Nat×Int×Int×Int×Unit)×List Int×Unit)) (fun((a7,a8,a9,A,B,_),C,_)=>L0 ((a7,a8,a9,A,(wrap .i64 (B+1)),()),C,())) fun o=>Qh (X:=((Nat×Nat×Int×Int×Int×Int×Unit)×List Int×Unit)) (fun E ((b,c,i,l,m,j,_),e,_)=>join (Y:=((Nat×Nat×Int×Int×Int×Int×Unit)×List Int×Unit)) (fun((a,f,F,G,H,g,_),h,_)=>natc (wrap .i64 (g - 1)) fun p=>ltc p (f - a) (optc (GetElem?.getElem? h (a+p)) fun q=>natc g fun r=>ltc r (f - a) (optc (GetElem?.getElem? h (a+r)) fun I=>natc g fun k=>ltc k (f - a) (optc (GetElem?.getElem? h (a+k)) fun a0=>natc (wrap .i64 (g - 1)) fun n=>ltc n (f - a) (optc (GetElem?.getElem? (List.set h (a+k) q) (a+n)) fun aA=>E ((a,f,F,G,H,(wrap .i64 (g - 1)),()),(List.set (List.set h (a+k) q) (a+n) I),())))))) fun J=>cd (i<j) (natc j fun s=>ltc s (c - b) (optc (GetElem?.getElem? e (b+s)) fun L=>natc (wrap .i64 (j - 1)) fun t=>ltc t (c - b) (optc (GetElem?.getElem? e (b+t)) fun O=>optc (Vd u L O) fun S=>cnd S (J ((b,c,i,l,m,j,()),e,())) (o ((b,c,i,l,m,()),e,()))))) (o ((b,c,i,l,m,()),e,()))) u ((a1,a2,a3,y,v,v,()),z,())) (some z)) u ((l0,h0,w,Z,(wrap .i64 (w+1)),()),W,())
theorem WH:FO 115 (Qf [.one (.view 101),nI,nI] [ar 101 .int] [] [(101,.arrs .int)] [] (List Int) kz8 (fun x y=>Q8 u x.1 x.2.1 y.1 x.2.2.1 x.2.2.2.1)):=fI u (.two .go (.one (.loop [(0,.one (.view 101)),ni 1,ni 2,ni 6] [ar 101 .int] (.two .go (.two (.join [(0,.one (.view 101)),ni 1,ni 2,ni 6] [ar 101 .int] (.one (.two .go (.one (.loop [(0,.one (.view 101)),ni 1,ni 2,ni 6,ni 7] [ar 101 .int] (.two (.join [(0,.one (.view 101)),ni 1,ni 2,ni 6,ni 7] [ar 101 .int] .go) .go)))))) .go))))) kz12 (eC (QaH u) eN) Tryz.func115
def YD(l0:Nat)(h0:Nat)(f:List Int)(g:Int)(h:Int)(i:Int):Option (List Int):=Qh (X:=((Nat×Nat×Int×Int×Int×Bool×Bool×Unit)×List Int×Unit)) (fun n ((j,k,a,b,l,m,o,_),c,_)=>cd ((wrap .i64 (b - a))≤12) (optc (Q8 u j k c a b) fun e=>chk e.length c.length (some e)) (cd (l=0) none (cnd (!m) none none))) u ((l0,h0,g,h,i,true,true,()),f,())
theorem Uj:FO 78 (Qf [.one (.view 101),nI,nI,nI] [ar 101 .int] [] [(101,.arrs .int)] [] (List Int) kz8 (fun x y=>YD u x.1 x.2.1 y.1 x.2.2.1 x.2.2.2.1 x.2.2.2.2.1)):=fI u (gs 2 (.one (.loop [(0,.one (.view 101)),ni 1,ni 2,ni 3,(8,.one .boo),(9,.one .boo)] [ar 101 .int] .go))) kz12 (eC (WH u) eN) Tryz.func78
def X6(l0:Nat)(h0:Nat)(a:List Int):Option (List Int):=optc (Qaf u (IntKind.wrap .u64 (((h0 - l0):Nat):Int))) fun c=>optc (YD u l0 h0 a 0 (((h0 - l0):Nat):Int) c) fun b=>chk b.length a.length (some b)
theorem Qd3:FO 47 (Qf [.one (.view 101)] [ar 101 .int] [] [(101,.arrs .int)] [] (List Int) kz8 (fun x y=>X6 u x.1 x.2.1 y.1)):=fI u .go kz12 (eC (Uj u) (eC (QcZ u) eN)) Tryz.func47
def Y7(l0:Nat)(h0:Nat)(t:List Int):Option (Nat×Nat×List Int):=cd ((((h0 - l0):Nat):Int)<2) (some (l0,h0,t)) (Qh (X:=((Nat×Nat×Int×Unit)×List Int×Unit)) (fun O ((f,i,l,_),m,_)=>cd (l<(((i - f):Nat):Int)) (natc l fun v=>ltc v (i - f) (optc (GetElem?.getElem? m (f+v)) fun S=>natc (wrap .i64 (l - 1)) fun w=>ltc w (i - f) (optc (GetElem?.getElem? m (f+w)) fun W=>cd (S=W) (natc l fun y=>ltc y (i - f) (Qh (X:=((Nat×Nat×Int×Nat×Nat×Int×Unit)×List Int×Unit)) (fun z ((a,b,j,c,g,h,_),e,_)=>cd (h<(((g - c):Nat):Int)) (join (Y:=((Nat×Nat×Int×Nat×Nat×Int×Unit)×List Int×Unit)) (fun((A,B,C,E,F,G,_),H,_)=>z ((A,B,C,E,F,(wrap .i64 (G+1)),()),H,())) fun o=>natc h fun p=>ltc p (g - c) (optc (GetElem?.getElem? e (c+p)) fun I=>natc (wrap .i64 (h - 1)) fun q=>ltc q (g - c) (optc (GetElem?.getElem? e (c+q)) fun J=>cd (I≠J) (natc h fun r=>ltc r (g - c) (optc (GetElem?.getElem? e (c+r)) fun L=>natc j fun n=>ltc n (b - a) (optc (GetElem?.getElem? e (a+n)) fun Z=>o ((a,b,(wrap .i64 (j+1)),c,g,h,()),(List.set e (a+n) L),())))) (o ((a,b,j,c,g,h,()),e,()))))) (natc j fun k=>ltc k (b - a) (lec (a+k) (a+(b - a)) (lec (a+(b - a)) e.length (natc j fun s=>lec s (b - a) (some ((a+0),(a+s),(((List.take (a+k) e)++(List.replicate ((a+(b - a)) - (a+k)) 0))++(List.drop (a+(b - a)) e))))))))) u ((f,i,l,(f+y),(f+(i - f)),1,()),m,()))) (O ((f,i,(wrap .i64 (l+1)),()),m,()))))) (some (f,i,m))) u ((l0,h0,1,()),t,()))
theorem Qce:FO 48 (Qf [.one (.view 101)] [ar 101 .int] [.one (.view 101)] [ar 101 .int] [] (Nat×Nat×List Int) kz18 (fun x y=>Y7 u x.1 x.2.1 y.1)):=fI u (gs 2 (lp [(0,.one (.view 101)),ni 3] [ar 101 .int] (.two .go (.two (.one (.two .go (.two (.two .go (lp [(0,.one (.view 101)),ni 3,(4,.one (.view 101)),ni 5] [ar 101 .int] (.two .go (.two (.join [(0,.one (.view 101)),ni 3,(4,.one (.view 101)),ni 5] [ar 101 .int] .go) .go)))) .go))) .go)))) kz20 eN Tryz.func48
def Qah(r:D.Config)(s:D.Book)(i:List D.Target)(t:Int):Option (Nat×Nat×List Int):=Qh (X:=((Int×List D.Target×Int×Int×Unit)×D.Config×D.Book×List Int×Unit)) (fun v ((j,k,l,f,_),g,m,h,_)=>cd (f<l) (atc k f fun w=>optc (Qbs u g m w j) fun n=>lec (h.length+n.length) 34359738368 (v ((j,k,l,(wrap .i64 (f+1)),()),g,m,(h++n),()))) (optc (QP u h g) fun(a,b,c)=>optc (X6 u a b c) fun e=>chk e.length c.length (optc (Y7 u a b e) fun(o,p,q)=>some (o,p,q)))) u ((t,i,(i.length:Int),0,()),r,s,[],())
theorem QhO:FO 294 (Qf [.st .Config,.st .Book,.one (.lst .Target),nI] [] [.one (.view 1024)] [ar 1024 .int] [] (Nat×Nat×List Int) kz18 (fun x y=>Qah u x.1 x.2.1 x.2.2.1 x.2.2.2.1)):=fI u (gs 2 (lp [ni 3,rf 4,rf 5,(9,.one (.own 1024)),li 12 .Target,ni 13,ni 14] [bx 1004 .Config,bx 1005 .Book,ar 1024 .int] .go)) kz20 (eC (Qd3 u) (eC (Qce u) (eC (Xt u) (eC (Qjz u) eN)))) Tryz.func294
def QgM(u:Nat)(a:Int)(b:Int):Option Bool:=cd (0≤a) (cd (a≤8589934592) (cd (a≤b) (cd (b≤8589934592) (cd ((wrap .i64 (b - a))≤34560000) sT sF) sF) sF) sF) sF
theorem QlB:FO 328 (sB [nI,nI] fun x=>QgM u x.1 x.2.1):=fI u .go kz0 eN Tryz.func328
def Qcw(b:D.Config)(c:Int)(e:Int)(f:Int):Option (D.View×Int):=optc (QiW u b) fun(a,g)=>join (Y:=(Unit×D.View×D.View×Unit)) (fun(_,k,h,_)=>some (h,0)) fun i=>cnd (!g) (some (a,8)) (cd (c<0) (some (a,3)) (cd ((b.People.length:Int)≤c) (some (a,3)) (optc (QgM u e f) fun j=>cnd (!j) (some (a,1)) (i ((),(D.View.mk (D.Config.mk [] [] [] []) []),a,())))))
theorem Qki:FO 312 (Qf [.st .Config,nI,nI,nI] [] [.st .View,nI] [] [] (D.View×Int) kz3 (fun x y=>Qcw u x.1 x.2.1 x.2.2.1 x.2.2.2.1)):=fI u (gs 2 (.two (.join [rf 8,rf 10] [bx 1008 .View,bx 1010 .View] .go) .go)) kz4 (eC (QkM u) (eC (QlB u) eN)) Tryz.func312
def Xk(u:Nat)(a:D.View)(b:Int):Option D.Table:=atc a.tables b fun c=>some c
theorem QfV:FO 315 (Qf [.st .View,nI] [] [.st .Table] [] [] D.Table kz1 (fun x y=>Xk u x.1 x.2.1)):=fI u .go kz0 eN Tryz.func315
def WV(c:D.Config)(e:Int)(b:Int)(h:Bool):Option Bool:=optc (Qcw u c e b b) fun(f,i)=>cd (i≠0) sF (atc c.People e fun a=>cnd h (cnd a.Consent sT (optc (Xk u f a.Zone) fun j=>optc (ZF u j b) fun k=>optc (XI u k) fun l=>optc (QcT u a.Quiet l) fun m=>cnd m sF sT)) (optc (Xk u f a.Zone) fun n=>optc (ZF u n b) fun o=>optc (XI u o) fun p=>optc (QcT u a.Quiet p) fun g=>cnd g sF sT))
theorem Qfo:FO 296 (sB [.st .Config,nI,nI,.one .boo] fun x=>WV u x.1 x.2.1 x.2.2.1 x.2.2.2.1):=fI u .go kz0 (eC (Qki u) (eC (Qj6 u) (eC (Qc1 u) (eC (QfV u) (eC (Va u) eN))))) Tryz.func296
def Zt(e:Int)(a:D.Config)(c:D.Page)(b:D.PolicyStep):Option (Bool×D.Page):=optc (WV u a e c.Due b.Urgent) fun f=>sameC a a (sameC b b (some ((!f),c)))
theorem XL:FO 295 (Qf [nI,.one (.ref 101),.one (.ref 102),.one (.ref 106)] [bx 101 .Config,(102,.box bJ3),ar 103 .Start,ar 104 .int,ar 105 .int,bx 106 .PolicyStep] [.one .boo] [(102,.box bJ3),ar 103 .Start,ar 104 .int,ar 105 .int] [101,106] (Bool×D.Page) kz10 (fun x y=>Zt u x.1 y.1 (D.Page.mk y.2.1.1 y.2.1.2.1 y.2.1.2.2.1 y.2.1.2.2.2.1 y.2.1.2.2.2.2.1 y.2.1.2.2.2.2.2.1 y.2.1.2.2.2.2.2.2.1 y.2.1.2.2.2.2.2.2.2.1 y.2.1.2.2.2.2.2.2.2.2.1 y.2.1.2.2.2.2.2.2.2.2.2.1 y.2.1.2.2.2.2.2.2.2.2.2.2.1 y.2.2.1 y.2.2.2.1 y.2.2.2.2.1) y.2.2.2.2.2.1)):=fI u .go (fun a b=>(a.1,(D.Page.mk b.1.1 b.1.2.1 b.1.2.2.1 b.1.2.2.2.1 b.1.2.2.2.2.1 b.1.2.2.2.2.2.1 b.1.2.2.2.2.2.2.1 b.1.2.2.2.2.2.2.2.1 b.1.2.2.2.2.2.2.2.2.1 b.1.2.2.2.2.2.2.2.2.2.1 b.1.2.2.2.2.2.2.2.2.2.2.1 b.2.1 b.2.2.1 b.2.2.2.1))) (eC (Qfo u) eN) Tryz.func295
def Qu(l0:Nat)(h0:Nat)(r:List Int)(c102:D.Config)(c103:D.Page)(c107:D.PolicyStep):Option (Int×D.Page):=Qh (X:=((Nat×Nat×Int×Int×Unit)×D.Config×P11×D.PolicyStep×List Int×List D.Start×List Int×List Int×Unit)) (fun E ((s,t,v,e,_),f,(w,y,z,A,g,h,i,j,k,l,m,_),b,c,n,o,p,_)=>cd (e<v) (natc e fun q=>ltc q (t - s) (optc (GetElem?.getElem? c (s+q)) fun B=>optc (Zt u B f (D.Page.mk w y z A g h i j k l m n o p) b) fun(C,a)=>cnd C (sameC c r (sameC f c102 (sameC b c107 (some (e,a))))) (E ((s,t,v,(wrap .i64 (e+1)),()),f,(a.ID,a.Policy,a.Start,a.Next,a.Due,a.State,a.By,a.Until,a.Last,a.Snoozes,a.Hands,()),b,c,a.Starts,a.Declined,a.Seen,())))) (sameC c r (sameC f c102 (sameC b c107 (some ((-1),(D.Page.mk w y z A g h i j k l m n o p))))))) u ((l0,h0,(((h0 - l0):Nat):Int),0,()),c102,((D.Page.ID c103),(D.Page.Policy c103),(D.Page.Start c103),(D.Page.Next c103),(D.Page.Due c103),(D.Page.State c103),(D.Page.By c103),(D.Page.Until c103),(D.Page.Last c103),(D.Page.Snoozes c103),(D.Page.Hands c103),()),c107,r,(D.Page.Starts c103),(D.Page.Declined c103),(D.Page.Seen c103),())
theorem Yu:FO 270 (Qf [.one (.view 101),.one (.clo 295 [102,103,107])] [ar 101 .int,bx 102 .Config,(103,.box bJ4),ar 104 .Start,ar 105 .int,ar 106 .int,bx 107 .PolicyStep] [nI] [(103,.box bJ4),ar 104 .Start,ar 105 .int,ar 106 .int] [101,102,107] (Int×D.Page) kz16 (fun x y=>Qu u x.1 x.2.1 y.1 y.2.1 (D.Page.mk y.2.2.1.1 y.2.2.1.2.1 y.2.2.1.2.2.1 y.2.2.1.2.2.2.1 y.2.2.1.2.2.2.2.1 y.2.2.1.2.2.2.2.2.1 y.2.2.1.2.2.2.2.2.2.1 y.2.2.1.2.2.2.2.2.2.2.1 y.2.2.1.2.2.2.2.2.2.2.2.1 y.2.2.1.2.2.2.2.2.2.2.2.2.1 y.2.2.1.2.2.2.2.2.2.2.2.2.2.1 y.2.2.2.1 y.2.2.2.2.1 y.2.2.2.2.2.1) y.2.2.2.2.2.2.1)):=fI u (.two .go (lp [(0,.one (.view 101)),(1,.one (.clo 295 [102,103,107])),ni 7,ni 8] [bx 102 .Config,(103,.box bJ4),bx 107 .PolicyStep,ar 101 .int,ar 104 .Start,ar 105 .int,ar 106 .int] .go)) (fun a b=>(a.1,(D.Page.mk b.1.1 b.1.2.1 b.1.2.2.1 b.1.2.2.2.1 b.1.2.2.2.2.1 b.1.2.2.2.2.2.1 b.1.2.2.2.2.2.2.1 b.1.2.2.2.2.2.2.2.1 b.1.2.2.2.2.2.2.2.2.1 b.1.2.2.2.2.2.2.2.2.2.1 b.1.2.2.2.2.2.2.2.2.2.2.1 b.2.1 b.2.2.1 b.2.2.2.1))) (eC (XL u) eN) Tryz.func270
def Qt(l0:Nat)(h0:Nat)(F:List Int)(c102:D.Config)(c103:D.Page)(c107:D.PolicyStep):Option (Nat×Nat×D.Page×List Int):=optc (Qu u l0 h0 F c102 c103 c107) fun(G,c)=>cd (G=(-1)) (sameC c102 c102 (sameC c107 c107 (some (l0,h0,c,F)))) (Qh (X:=((Nat×Nat×Int×Int×Unit)×D.Config×P11×D.PolicyStep×List Int×List D.Start×List Int×List Int×Unit)) (fun L2 ((b,e,i,k,_),l,(H,I,m,n,o,p,q,r,s,t,v,_),g,f,w,y,z,_)=>cd (k<(((e - b):Nat):Int)) (join (Y:=((Nat×Nat×Int×Int×Unit)×D.Config×P11×D.PolicyStep×List Int×List D.Start×List Int×List Int×Unit)) (fun((J,L,O,S,_),W,(Z,a2,aA,aB,aC,aD,aE,aF,aG,aH,aI,_),aJ,aK,aL,aM,aN,_)=>L2 ((J,L,O,(wrap .i64 (S+1)),()),W,(Z,a2,aA,aB,aC,aD,aE,aF,aG,aH,aI,()),aJ,aK,aL,aM,aN,())) fun A=>natc k fun B=>ltc B (e - b) (optc (GetElem?.getElem? f (b+B)) fun C=>optc (Zt u C l (D.Page.mk H I m n o p q r s t v w y z) g) fun(aO,a)=>cnd (!aO) (natc i fun j=>ltc j (e - b) (optc (GetElem?.getElem? f (b+j)) fun aP=>A ((b,e,(wrap .i64 (i+1)),k,()),l,(a.ID,a.Policy,a.Start,a.Next,a.Due,a.State,a.By,a.Until,a.Last,a.Snoozes,a.Hands,()),g,(List.set f (b+j) C),a.Starts,a.Declined,a.Seen,()))) (A ((b,e,i,k,()),l,(a.ID,a.Policy,a.Start,a.Next,a.Due,a.State,a.By,a.Until,a.Last,a.Snoozes,a.Hands,()),g,f,a.Starts,a.Declined,a.Seen,())))) (natc i fun h=>ltc h (e - b) (lec (b+h) (b+(e - b)) (lec (b+(e - b)) f.length (natc i fun E=>lec E (e - b) (sameC l c102 (sameC g c107 (some ((b+0),(b+E),(D.Page.mk H I m n o p q r s t v w y z),(((List.take (b+h) f)++(List.replicate ((b+(e - b)) - (b+h)) 0))++(List.drop (b+(e - b)) f))))))))))) u ((l0,h0,G,(wrap .i64 (G+1)),()),c102,(c.ID,c.Policy,c.Start,c.Next,c.Due,c.State,c.By,c.Until,c.Last,c.Snoozes,c.Hands,()),c107,F,c.Starts,c.Declined,c.Seen,()))
theorem Yo:FO 293 (Qf [.one (.view 101),.one (.clo 295 [102,103,107])] [ar 101 .int,bx 102 .Config,(103,.box bJ4),ar 104 .Start,ar 105 .int,ar 106 .int,bx 107 .PolicyStep] [.one (.view 101)] [(103,.box bJ4),ar 104 .Start,ar 105 .int,ar 106 .int,ar 101 .int] [102,107] (Nat×Nat×D.Page×List Int) (fun q=>((q.1,q.2.1,()),(q.2.2.1.ID,q.2.2.1.Policy,q.2.2.1.Start,q.2.2.1.Next,q.2.2.1.Due,q.2.2.1.State,q.2.2.1.By,q.2.2.1.Until,q.2.2.1.Last,q.2.2.1.Snoozes,q.2.2.1.Hands,()),q.2.2.1.Starts,q.2.2.1.Declined,q.2.2.1.Seen,q.2.2.2,())) (fun x y=>Qt u x.1 x.2.1 y.1 y.2.1 (D.Page.mk y.2.2.1.1 y.2.2.1.2.1 y.2.2.1.2.2.1 y.2.2.1.2.2.2.1 y.2.2.1.2.2.2.2.1 y.2.2.1.2.2.2.2.2.1 y.2.2.1.2.2.2.2.2.2.1 y.2.2.1.2.2.2.2.2.2.2.1 y.2.2.1.2.2.2.2.2.2.2.2.1 y.2.2.1.2.2.2.2.2.2.2.2.2.1 y.2.2.1.2.2.2.2.2.2.2.2.2.2.1 y.2.2.2.1 y.2.2.2.2.1 y.2.2.2.2.2.1) y.2.2.2.2.2.2.1)):=fI u (gs 3 (lp [(0,.one (.view 101)),(1,.one (.clo 295 [102,103,107])),ni 5,ni 6] [bx 102 .Config,(103,.box bJ4),bx 107 .PolicyStep,ar 101 .int,ar 104 .Start,ar 105 .int,ar 106 .int] (.two .go (.two (.join [(0,.one (.view 101)),(1,.one (.clo 295 [102,103,107])),ni 5,ni 6] [bx 102 .Config,(103,.box bJ4),bx 107 .PolicyStep,ar 101 .int,ar 104 .Start,ar 105 .int,ar 106 .int] .go) .go)))) (fun a b=>(a.1,a.2.1,(D.Page.mk b.1.1 b.1.2.1 b.1.2.2.1 b.1.2.2.2.1 b.1.2.2.2.2.1 b.1.2.2.2.2.2.1 b.1.2.2.2.2.2.2.1 b.1.2.2.2.2.2.2.2.1 b.1.2.2.2.2.2.2.2.2.1 b.1.2.2.2.2.2.2.2.2.2.1 b.1.2.2.2.2.2.2.2.2.2.2.1 b.2.1 b.2.2.1 b.2.2.2.1),b.2.2.2.2.1)) (eC (Yu u) (eC (XL u) eN)) Tryz.func293
def Ya(i:D.Config)(j:D.Book)(c:D.Page):Option (D.Page×List Int):=atc j.Policies c.Policy fun k=>optc (QaS u k c.Next) fun(C,I,J)=>atc k.Steps C fun h=>optc (Qah u i j h.Targets c.Due) fun(E,F,G)=>optc (Qt u E F G i c h) fun(e,f,a,b)=>lec (a.Starts.length+[(D.Start.mk a.Next a.Due (List.drop e (List.take f b)))].length) 34359738368 (join (Y:=(Unit×(Int×Int×Int×Int×Int×Int×Int×Int×Int×Int×Int×List Int×Unit)×D.Page×List D.Start×List Int×List Int×Unit)) (fun(_,(l,m,n,o,p,q,r,s,t,v,w,y,_),H,z,A,B,_)=>some ((D.Page.mk l m n o p q r s t v w z y A),B)) fun g=>cd (0<(((List.drop e (List.take f b)).length:Nat):Int)) (g ((),(a.ID,a.Policy,a.Start,(wrap .i64 (a.Next+1)),(wrap .i64 (a.Due+h.Wait)),a.State,a.By,a.Until,a.Last,a.Snoozes,a.Hands,[],()),(D.Page.mk 0 0 0 0 0 0 0 0 0 0 0 [] [] []),(a.Starts++[(D.Start.mk a.Next a.Due (List.drop e (List.take f b)))]),a.Seen,a.Declined,())) (g ((),(a.ID,a.Policy,a.Start,(wrap .i64 (a.Next+1)),a.Due,a.State,a.By,a.Until,a.Last,a.Snoozes,a.Hands,[],()),(D.Page.mk 0 0 0 0 0 0 0 0 0 0 0 [] [] []),(a.Starts++[(D.Start.mk a.Next a.Due (List.drop e (List.take f b)))]),a.Seen,a.Declined,())))
theorem Qaa:FO 281 (Qf [.st .Config,.st .Book,.agg bJ5] [ar 101 .Start,ar 102 .int,ar 103 .int] [.agg bJ2] [ar 101 .Start,ar 102 .int,ar 103 .int] [] (D.Page×List Int) (fun q=>(((q.1.ID,q.1.Policy,q.1.Start,q.1.Next,q.1.Due,q.1.State,q.1.By,q.1.Until,q.1.Last,q.1.Snoozes,q.1.Hands,q.1.Declined,()),()),q.1.Starts,q.2,q.1.Seen,())) (fun x y=>Ya u x.1 x.2.1 (D.Page.mk x.2.2.1.1 x.2.2.1.2.1 x.2.2.1.2.2.1 x.2.2.1.2.2.2.1 x.2.2.1.2.2.2.2.1 x.2.2.1.2.2.2.2.2.1 x.2.2.1.2.2.2.2.2.2.1 x.2.2.1.2.2.2.2.2.2.2.1 x.2.2.1.2.2.2.2.2.2.2.2.1 x.2.2.1.2.2.2.2.2.2.2.2.2.1 x.2.2.1.2.2.2.2.2.2.2.2.2.2.1 y.1 y.2.1 y.2.2.1))):=fI u (gs 8 (.two (.join [rf 5,rf 6] [(1005,.box bJ2),bx 1006 .Page,ar 101 .Start,ar 103 .int,ar 102 .int] .go) .go)) (fun a b=>((D.Page.mk a.1.1 a.1.2.1 a.1.2.2.1 a.1.2.2.2.1 a.1.2.2.2.2.1 a.1.2.2.2.2.2.1 a.1.2.2.2.2.2.2.1 a.1.2.2.2.2.2.2.2.1 a.1.2.2.2.2.2.2.2.2.1 a.1.2.2.2.2.2.2.2.2.2.1 a.1.2.2.2.2.2.2.2.2.2.2.1 b.1 a.1.2.2.2.2.2.2.2.2.2.2.2.1 b.2.2.1),b.2.1)) (eC (Qkr u) (eC (Yo u) (eC (QhO u) eN))) Tryz.func281
def U9(r:D.Config)(g:D.Book)(e:D.Page):Option (D.Page×Int):=optc (X9 u e) fun(f,s)=>optc (Z9 u g e) fun t=>cnd (!t) (some ((D.Page.mk 0 0 0 0 0 0 0 0 0 0 0 [] [] []),8)) (cnd (!s) (some ((D.Page.mk 0 0 0 0 0 0 0 0 0 0 0 [] [] []),9)) (cd ((e.Starts.length:Int)=200) (some ((D.Page.mk 0 0 0 0 0 0 0 0 0 0 0 [] [] []),5)) (optc (Xm u e) fun a=>join (Y:=(Unit×(Int×Int×Int×Int×Int×Int×Int×Int×Int×Int×Int×List Int×Unit)×D.Page×List D.Start×List Int×Unit)) (fun(_,(v,w,y,z,A,B,h,i,j,k,l,m,_),C,n,o,_)=>some ((D.Page.mk v w y z A B h i j k l n m o),0)) fun c=>cd (a.State=2) (c ((),(a.ID,a.Policy,a.Start,a.Next,f,0,a.By,a.Until,(max a.Last f),a.Snoozes,a.Hands,a.Declined,()),(D.Page.mk 0 0 0 0 0 0 0 0 0 0 0 [] [] []),a.Starts,a.Seen,())) (atc g.Policies a.Policy fun p=>optc (We u p) fun q=>cd (a.Next=q) (c ((),(a.ID,a.Policy,a.Start,a.Next,a.Due,3,a.By,a.Until,(max a.Last f),a.Snoozes,a.Hands,a.Declined,()),(D.Page.mk 0 0 0 0 0 0 0 0 0 0 0 [] [] []),a.Starts,a.Seen,())) (optc (Ya u r g (D.Page.mk a.ID a.Policy a.Start a.Next a.Due a.State a.By a.Until (max a.Last f) a.Snoozes a.Hands a.Starts a.Declined a.Seen)) fun(b,E)=>c ((),(b.ID,b.Policy,b.Start,b.Next,b.Due,b.State,b.By,b.Until,b.Last,b.Snoozes,b.Hands,b.Declined,()),(D.Page.mk 0 0 0 0 0 0 0 0 0 0 0 [] [] []),b.Starts,b.Seen,()))))))
theorem QhK:FO 262 (Qf [.st .Config,.st .Book,.st .Page] [] [.st .Page,nI] [] [] (D.Page×Int) kz3 (fun x y=>U9 u x.1 x.2.1 x.2.2.1)):=fI u (gs 5 (.two (.join [rf 5,rf 6] [(1005,.box [kI,kI,kI,kI,kI,kI,kI,kI,kI,kI,kI,.own 2039007,.lst .int,.own 2065007]),bx 1006 .Page,ar 2039007 .Start,ar 2065007 .int] .go) .go)) kz4 (eC (VB u) (eC (Ws u) (eC (QaR u) (eC (VC u) (eC (Qaa u) eN))))) Tryz.func262
def Qbg(i:D.Config)(c:D.Book)(e:D.Page)(j:Int):Option (D.Page×Int):=optc (Z9 u c e) fun k=>cnd (!k) (some ((D.Page.mk 0 0 0 0 0 0 0 0 0 0 0 [] [] []),8)) (optc (Xm u e) fun l=>Qh (X:=((Int×Unit)×D.Config×D.Book×D.Page×D.Page×Unit)) (fun m ((f,_),g,h,b,n,_)=>optc (Ur u b f) fun o=>cnd o (optc (U9 u g h b) fun(p,a)=>cd (a≠0) (some ((D.Page.mk 0 0 0 0 0 0 0 0 0 0 0 [] [] []),a)) (m ((f,()),g,h,p,n,()))) (some (b,0))) u ((j,()),i,c,l,(D.Page.mk 0 0 0 0 0 0 0 0 0 0 0 [] [] []),()))
theorem Qi3:FO 229 (Qf [.st .Config,.st .Book,.st .Page,nI] [] [.st .Page,nI] [] [] (D.Page×Int) kz3 (fun x y=>Qbg u x.1 x.2.1 x.2.2.1 x.2.2.2.1)):=fI u (gs 3 (lp [ni 3,rf 4,rf 5,rf 6,rf 8] [bx 1004 .Config,bx 1005 .Book,bx 1006 .Page,bx 1008 .Page] .go)) kz4 (eC (Ws u) (eC (VC u) (eC (QgP u) (eC (QhK u) eN)))) Tryz.func229
def Qek(u:Nat)(a:D.Page):Option Int:=cd (a.State=2) (some (-1)) (some a.Next)
theorem Ql4:FO 160 (sI [.st .Page] fun x=>Qek u x.1):=fI u .go kz0 eN Tryz.func160
def VY(b:List Int)(h:Int):Option Int:=Qh (X:=(P3×List Int×Unit)) (fun i ((e,f,c,_),a,_)=>cd (c<f) (natc c fun g=>ltc g a.length (optc a[g]? fun j=>cd (e=j) (sameC a b (some c)) (i ((e,f,(wrap .i64 (c+1)),()),a,())))) (sameC a b (some (-1)))) u ((h,(b.length:Int),0,()),b,())
theorem Qd2:FO 156 (Qf [.one (.own 101),nI] [ar 101 .int] [nI] [] [101] Int kz1 (fun x y=>VY u y.1 x.1)):=fI u (.two .go (lp [(0,.one (.own 101)),ni 1,ni 7,ni 8] [ar 101 .int] .go)) kz0 eN Tryz.func156
def Zj(a:List Int)(b:Int):Option Bool:=optc (VY u a b) fun c=>sameC a a (some (decide (0≤c)))
theorem Yl:FO 98 (Qf [.one (.own 101),nI] [ar 101 .int] [.one .boo] [] [101] Bool kz1 (fun x y=>Zj u y.1 x.1)):=fI u .go kz0 (eC (Qd2 u) eN) Tryz.func98
def Yy(u:Nat)(a:D.Page):Option (Int×Bool):=cd (a.State=0) (sameC a.Starts a.Starts (sameC a.Declined a.Declined (sameC a.Seen a.Seen (some (a.Due,true))))) (cd (a.State=2) (sameC a.Starts a.Starts (sameC a.Declined a.Declined (sameC a.Seen a.Seen (some (a.Until,true))))) (sameC a.Starts a.Starts (sameC a.Declined a.Declined (sameC a.Seen a.Seen (some (0,false))))))
theorem Qa6:FO 80 (Qf [.agg bJ5] [ar 101 .Start,ar 102 .int,ar 103 .int] [nI,.one .boo] [] [101,102,103] (Int×Bool) kz3 (fun x y=>Yy u (D.Page.mk x.1.1 x.1.2.1 x.1.2.2.1 x.1.2.2.2.1 x.1.2.2.2.2.1 x.1.2.2.2.2.2.1 x.1.2.2.2.2.2.2.1 x.1.2.2.2.2.2.2.2.1 x.1.2.2.2.2.2.2.2.2.1 x.1.2.2.2.2.2.2.2.2.2.1 x.1.2.2.2.2.2.2.2.2.2.2.1 y.1 y.2.1 y.2.2.1))):=fI u .go kz4 eN Tryz.func80
def Yb(a:D.Page)(b:Int):Option Bool:=optc (Yy u a) fun(c,e)=>cnd e (cd (c≤b) (sameC a.Starts a.Starts (sameC a.Declined a.Declined (sameC a.Seen a.Seen sT))) (sameC a.Starts a.Starts (sameC a.Declined a.Declined (sameC a.Seen a.Seen sF)))) (sameC a.Starts a.Starts (sameC a.Declined a.Declined (sameC a.Seen a.Seen sF)))
theorem Qac:FO 261 (Qf [.agg bJ5,nI] [ar 101 .Start,ar 102 .int,ar 103 .int] [.one .boo] [] [101,102,103] Bool kz1 (fun x y=>Yb u (D.Page.mk x.1.1 x.1.2.1 x.1.2.2.1 x.1.2.2.2.1 x.1.2.2.2.2.1 x.1.2.2.2.2.2.1 x.1.2.2.2.2.2.2.1 x.1.2.2.2.2.2.2.2.1 x.1.2.2.2.2.2.2.2.2.1 x.1.2.2.2.2.2.2.2.2.2.1 x.1.2.2.2.2.2.2.2.2.2.2.1 y.1 y.2.1 y.2.2.1) x.2.1)):=fI u .go kz0 (eC (Qa6 u) eN) Tryz.func261
def ZO(a:D.Page)(k:D.Answer):Option Int:=join (Y:=((Bool×Unit)×P11×D.Answer×List D.Start×List Int×List Int×Unit)) (fun((t,_),(m,n,o,p,q,f,r,s,l,g,h,_),v,b,c,e,_)=>join (Y:=(Unit×List D.Start×List Int×List Int×Unit)) (fun(_,A,B,C,_)=>sameC A a.Starts (sameC B a.Declined (sameC C a.Seen (some 0)))) fun E=>cd (v.At<l) (sameC b a.Starts (sameC c a.Declined (sameC e a.Seen (some 6)))) (optc (Yb u (D.Page.mk m n o p q f r s l g h b c e) v.At) fun F=>cnd F (sameC b a.Starts (sameC c a.Declined (sameC e a.Seen (some 6)))) (join (Y:=((Bool×Bool×Unit)×P11×List D.Start×List Int×List Int×Unit)) (fun((G,H,_),(I,J,L,O,S,W,Z,aA,aB,aC,aD,_),y,z,w,_)=>cnd H (sameC y a.Starts (sameC z a.Declined (sameC w a.Seen (some 9)))) (cd ((w.length:Int)=64) (sameC y a.Starts (sameC z a.Declined (sameC w a.Seen (some 5)))) (cnd G (sameC y a.Starts (sameC z a.Declined (sameC w a.Seen (some 5)))) (E ((),y,z,w,()))))) fun j=>cd (f=4) (j ((t,(decide (f=4)),()),(m,n,o,p,q,f,r,s,l,g,h,()),b,c,e,())) (cd (f=3) (cd (v.Kind≠5) (j ((t,true,()),(m,n,o,p,q,f,r,s,l,g,h,()),b,c,e,())) (cd (f=1) (cd (v.Kind=2) (j ((t,true,()),(m,n,o,p,q,f,r,s,l,g,h,()),b,c,e,())) (j ((t,false,()),(m,n,o,p,q,f,r,s,l,g,h,()),b,c,e,()))) (j ((t,false,()),(m,n,o,p,q,f,r,s,l,g,h,()),b,c,e,())))) (cd (f=1) (cd (v.Kind=2) (j ((t,true,()),(m,n,o,p,q,f,r,s,l,g,h,()),b,c,e,())) (j ((t,false,()),(m,n,o,p,q,f,r,s,l,g,h,()),b,c,e,()))) (j ((t,false,()),(m,n,o,p,q,f,r,s,l,g,h,()),b,c,e,()))))))) fun i=>cd (k.Kind=3) (cd (a.Snoozes=4) (i ((true,()),(a.ID,a.Policy,a.Start,a.Next,a.Due,a.State,a.By,a.Until,a.Last,a.Snoozes,a.Hands,()),k,a.Starts,a.Declined,a.Seen,())) (cd (k.Kind=4) (cd (a.Hands=4) (i ((true,()),(a.ID,a.Policy,a.Start,a.Next,a.Due,a.State,a.By,a.Until,a.Last,a.Snoozes,a.Hands,()),k,a.Starts,a.Declined,a.Seen,())) (cd ((a.Starts.length:Int)=200) (i ((true,()),(a.ID,a.Policy,a.Start,a.Next,a.Due,a.State,a.By,a.Until,a.Last,a.Snoozes,a.Hands,()),k,a.Starts,a.Declined,a.Seen,())) (i ((false,()),(a.ID,a.Policy,a.Start,a.Next,a.Due,a.State,a.By,a.Until,a.Last,a.Snoozes,a.Hands,()),k,a.Starts,a.Declined,a.Seen,())))) (i ((false,()),(a.ID,a.Policy,a.Start,a.Next,a.Due,a.State,a.By,a.Until,a.Last,a.Snoozes,a.Hands,()),k,a.Starts,a.Declined,a.Seen,())))) (cd (k.Kind=4) (cd (a.Hands=4) (i ((true,()),(a.ID,a.Policy,a.Start,a.Next,a.Due,a.State,a.By,a.Until,a.Last,a.Snoozes,a.Hands,()),k,a.Starts,a.Declined,a.Seen,())) (cd ((a.Starts.length:Int)=200) (i ((true,()),(a.ID,a.Policy,a.Start,a.Next,a.Due,a.State,a.By,a.Until,a.Last,a.Snoozes,a.Hands,()),k,a.Starts,a.Declined,a.Seen,())) (i ((false,()),(a.ID,a.Policy,a.Start,a.Next,a.Due,a.State,a.By,a.Until,a.Last,a.Snoozes,a.Hands,()),k,a.Starts,a.Declined,a.Seen,())))) (i ((false,()),(a.ID,a.Policy,a.Start,a.Next,a.Due,a.State,a.By,a.Until,a.Last,a.Snoozes,a.Hands,()),k,a.Starts,a.Declined,a.Seen,())))
theorem UB:FO 231 (Qf [.agg bJ5,.st .Answer] [ar 101 .Start,ar 102 .int,ar 103 .int] [nI] [] [101,102,103] Int kz1 (fun x y=>ZO u (D.Page.mk x.1.1 x.1.2.1 x.1.2.2.1 x.1.2.2.2.1 x.1.2.2.2.2.1 x.1.2.2.2.2.2.1 x.1.2.2.2.2.2.2.1 x.1.2.2.2.2.2.2.2.1 x.1.2.2.2.2.2.2.2.2.1 x.1.2.2.2.2.2.2.2.2.2.1 x.1.2.2.2.2.2.2.2.2.2.2.1 y.1 y.2.1 y.2.2.1) x.2.1)):=fI u (.two .go (.two (.join [rf 2,rf 3,(5,.one .boo)] [(1002,.box bJ5),bx 1003 .Answer,ar 101 .Start,ar 102 .int,ar 103 .int] .go) (.two (.join [] [ar 101 .Start,ar 102 .int,ar 103 .int] (.one (gs 2 (.two (.join [rf 2,(5,.one .boo),(42,.one .boo)] [(1002,.box bJ5),ar 101 .Start,ar 102 .int,ar 103 .int] .go) .go)))) .go))) kz0 (eC (Qac u) eN) Tryz.func231
def Z1(a:D.Page):Option (List Int):=cd ((a.Starts.length:Int)=0) (sameC a.Starts a.Starts (sameC a.Declined a.Declined (sameC a.Seen a.Seen (some [])))) (natc (wrap .i64 ((a.Starts.length:Int) - 1)) fun b=>ltc b a.Starts.length (optc a.Starts[b]? fun c=>optc (Qy u c.People) fun e=>sameC a.Starts a.Starts (sameC a.Declined a.Declined (sameC a.Seen a.Seen (some e)))))
theorem UR:FO 263 (Qf [.agg bJ5] [ar 101 .Start,ar 102 .int,ar 103 .int] [lI] [] [101,102,103] (List Int) kz1 (fun x y=>Z1 u (D.Page.mk x.1.1 x.1.2.1 x.1.2.2.1 x.1.2.2.2.1 x.1.2.2.2.2.1 x.1.2.2.2.2.2.1 x.1.2.2.2.2.2.2.1 x.1.2.2.2.2.2.2.2.1 x.1.2.2.2.2.2.2.2.2.1 x.1.2.2.2.2.2.2.2.2.2.1 x.1.2.2.2.2.2.2.2.2.2.2.1 y.1 y.2.1 y.2.2.1))):=fI u .go kz0 (eC (Q4 u) eN) Tryz.func263
def ZC(b:Int)(a:D.Page):Option (Bool×D.Page):=optc (Zj u a.Declined b) fun c=>some ((!c),a)
theorem V2:FO 264 (Qf [nI,.one (.ref 101)] [(101,.box bJ6),ar 102 .Start,ar 103 .int,ar 104 .int] [.one .boo] [(101,.box bJ6),ar 102 .Start,ar 103 .int,ar 104 .int] [] (Bool×D.Page) kz10 (fun x y=>ZC u x.1 (D.Page.mk y.1.1 y.1.2.1 y.1.2.2.1 y.1.2.2.2.1 y.1.2.2.2.2.1 y.1.2.2.2.2.2.1 y.1.2.2.2.2.2.2.1 y.1.2.2.2.2.2.2.2.1 y.1.2.2.2.2.2.2.2.2.1 y.1.2.2.2.2.2.2.2.2.2.1 y.1.2.2.2.2.2.2.2.2.2.2.1 y.2.1 y.2.2.1 y.2.2.2.1))):=fI u .go (fun a b=>(a.1,(D.Page.mk b.1.1 b.1.2.1 b.1.2.2.1 b.1.2.2.2.1 b.1.2.2.2.2.1 b.1.2.2.2.2.2.1 b.1.2.2.2.2.2.2.1 b.1.2.2.2.2.2.2.2.1 b.1.2.2.2.2.2.2.2.2.1 b.1.2.2.2.2.2.2.2.2.2.1 b.1.2.2.2.2.2.2.2.2.2.2.1 b.2.1 b.2.2.1 b.2.2.2.1))) (eC (Yl u) eN) Tryz.func264
end
end Go.Proofs.YtadlpefpehjcoaaGreat
