/-
  What functions do, reckoned from their code, and their contracts. Printed by wip/gen/brun.py.
-/
import Derived.Test.YtlllfgmajglnhaaGreatQRowSurC
set_option maxRecDepth 100000
set_option linter.unusedVariables false
namespace Go.Proofs.YtlllfgmajglnhaaGreat
open Go AM IntKind
section
noncomputable section
abbrev bF0:List Sh:=[kI,kI,kI,kI,kI,kI,kI,kI,kI,kI,kI,.own 2035007,.own 2058007,.own 2061007]
abbrev bF1:List Sh:=[kI,kI,kI,kI,kI,kI,kI,kI,kI,kI,kI,.own 101,.lst .int,.own 103]
abbrev bF2:List Sh:=[kI,kI,kI,kI,kI,kI,kI,kI,kI,kI,kI,.own 103,.own 104,.own 105]
abbrev bF3:List Sh:=[kI,kI,kI,kI,kI,kI,kI,kI,kI,kI,kI,.own 104,.own 105,.own 106]
abbrev bF4:List Sh:=[kI,kI,kI,kI,kI,kI,kI,kI,kI,kI,kI,.own 101,.own 102,.own 103]
abbrev bF5:List Sh:=[kI,kI,kI,kI,kI,kI,kI,kI,kI,kI,kI,.own 102,.own 103,.own 104]
variable (u:Nat)
def Ql(u:Nat)(b:D.Dice)(f:Int):Option (Int×D.Dice):=join (Y:=((Int×Unit)×D.Dice×Unit)) (fun((c,_),a,_)=>atc a.L a.At fun e=>nzc c (join (Y:=((Int×Unit)×D.Dice×Unit)) (fun((h,_),i,_)=>some (h,i)) fun g=>cd ((Int.tmod e c)<0) (g (((wrap .i64 ((Int.tmod e c)+c)),()),(D.Dice.mk a.L (wrap .i64 (a.At+1))),())) (g (((Int.tmod e c),()),(D.Dice.mk a.L (wrap .i64 (a.At+1))),())))) fun j=>cd ((b.L.length:Int)<=b.At) (some (0,b)) (cd (f<1) (some (0,b)) (j ((f,()),b,())))
theorem Yc:FO 22 (Qd [.one (.ref 1),nI] [bx 1 .Dice] [nI] [bx 1 .Dice] [] (Int×D.Dice) kz19 (fun x y=>Ql u y.1 x.1)):=fI u (.two .go (.two (.join [(0,.one (.ref 1)),ni 1] [bx 1 .Dice] .go) (gs 2 (.two (.join [ni 5] [bx 1 .Dice] .go) .go)))) kz21 eN Tryz.func22
def Zt(b:D.Dice)(a:List Int):Option (Int×D.Dice):=optc (Ql u b (a.length:Int)) fun(c,e)=>atc a c fun f=>some (f,e)
theorem Qai:FO 45 (Qd [.one (.ref 1),lI] [bx 1 .Dice] [nI] [bx 1 .Dice] [] (Int×D.Dice) kz19 (fun x y=>Zt u y.1 x.1)):=fI u .go kz21 (eC (Yc u) eN) Tryz.func45
def Wk(m:D.Dice):Option (D.Edit×D.Dice):=optc (Zt u m [0,300,1200,3600]) fun(a,n)=>optc (Ql u n 3) fun(b,o)=>optc (Ql u o 4) fun(e,p)=>optc (Zt u p [300,1800,7200]) fun(f,g)=>join (Y:=(Unit×D.Edit×D.Edit×D.Dice×Unit)) (fun(_,r,q,h,_)=>some (q,h)) fun c=>cd (b=2) (optc (Ql u g 3) fun(i,j)=>nzc 4 (c ((),(D.Edit.mk 0 0 0 0 0),(D.Edit.mk b e (Int.tmod (wrap .i64 ((wrap .i64 (e+1))+i)) 4) (wrap .i64 (864000+a)) (wrap .i64 ((wrap .i64 (864000+a))+f))),j,()))) (cd (b=1) (optc (Ql u g 5) fun(k,l)=>c ((),(D.Edit.mk 0 0 0 0 0),(D.Edit.mk b (wrap .i64 (k - 1)) 0 (wrap .i64 (864000+a)) (wrap .i64 ((wrap .i64 (864000+a))+f))),l,())) (c ((),(D.Edit.mk 0 0 0 0 0),(D.Edit.mk b e 0 (wrap .i64 (864000+a)) (wrap .i64 ((wrap .i64 (864000+a))+f))),g,())))
theorem Qeu:FO 66 (Qd [.one (.ref 1)] [bx 1 .Dice] [.st .Edit] [bx 1 .Dice] [] (D.Edit×D.Dice) kz19 (fun x y=>Wk u y.1)):=fI u (gs 3 (.two (.join [rf 2,rf 4] [bx 1002 .Edit,bx 1004 .Edit,bx 1 .Dice] .go) .go)) kz21 (eC (Yc u) (eC (Qai u) eN)) Tryz.func66
def Vb(p0:D.Dice):Option (D.Config×D.Dice):=optc (Zt u p0 [0,3600,(-7200)]) fun(a0,a1)=>Qg (X:=((List ByteArray×Int×Unit)×D.Dice×Unit×(List D.Zone×Unit)×List D.Person×Unit)) (fun L2 ((Z,h,_),a5,_,(a6,_),a7,_)=>cd (h<4) (atc Z h fun a8=>optc (Ql u a5 2) fun(a9,a2)=>join (Y:=((List ByteArray×Int×Unit)×D.Dice×Unit×(List D.Zone×Unit)×D.Person×List D.Person×Unit)) (fun((aA,aB,_),aC,_,(aD,_),i,j,_)=>lec (j.length+[i].length) 34359738368 (L2 ((aA,(wrap .i64 (aB+1)),()),aC,(),(aD,()),(j++[i]),()))) fun k=>optc (Ql u a2 4) fun(aE,l)=>cd (aE=0) (optc (Zt u l [0,3600]) fun(aF,aG)=>optc (Zt u aG [7200,86400,604800]) fun(aH,aI)=>k ((Z,h,()),aI,(),(a6,()),(D.Person.mk a8 0 [(D.Window.mk aF aH)] 0 0 (decide (a9=0))),a7,())) (k ((Z,h,()),l,(),(a6,()),(D.Person.mk a8 0 [] 0 0 (decide (a9=0))),a7,()))) (Qg (X:=((Int×Unit)×D.Dice×Unit×(List D.Zone×Unit)×List D.Person×List D.Schedule×Unit)) (fun aJ ((m,_),n,_,(o,_),p,q,_)=>cd (m<2) (optc (Zt u n [1,9,10]) fun(aK,aL)=>optc (Zt u aL [0,1800,43200]) fun(aM,aN)=>optc (Zt u aN [0,0,1]) fun(aO,aP)=>optc (Ql u aP 3) fun(aQ,aR)=>optc (Ql u aR 3) fun(aS,aT)=>Qg (X:=((Int×Int×Unit)×D.Dice×Unit×(List D.Zone×Unit)×(ByteArray×Int×Int×Int×Int×Int×Int×Int×Unit)×List D.Person×List D.Schedule×List Int×Unit)) (fun aU ((b,r,_),s,_,(t,_),(v,w,y,z,A,B,C,E,_),F,G,c,_)=>cd (0<r) (optc (Ql u s 4) fun(H,aV)=>lec (c.length+[H].length) 34359738368 (aU ((b,(wrap .i64 (r - 1)),()),aV,(),(t,()),(v,w,y,z,A,B,C,E,()),F,G,(c++[H]),()))) (atc [(ByteArray.mk (List.toArray [102,105,114,115,116])),(ByteArray.mk (List.toArray [115,101,99,111,110,100]))] b fun aW=>optc (Ql u s 3) fun(aX,aY)=>Qg (X:=((Int×Int×Unit)×D.Dice×Unit×(List D.Zone×Unit)×(ByteArray×List D.Layer×Unit)×List D.Person×List D.Schedule×List D.Edit×Unit)) (fun aZ ((I,J,_),L,_,(O,_),(e,f,_),S,g,a,_)=>cd (0<J) (optc (Wk u L) fun(W,b0)=>lec (a.length+[W].length) 34359738368 (aZ ((I,(wrap .i64 (J - 1)),()),b0,(),(O,()),(e,f,()),S,g,(a++[W]),()))) (lec (g.length+[(D.Schedule.mk e f a)].length) 34359738368 (aJ (((wrap .i64 (I+1)),()),L,(),(O,()),S,(g++[(D.Schedule.mk e f a)]),())))) u ((b,aX,()),aY,(),(t,()),(aW,[(D.Layer.mk v w (D.Local.mk y z) A B c [] C E)],()),F,G,[],()))) u ((m,(wrap .i64 (1+aS)),()),aT,(),(o,()),((ByteArray.mk (List.toArray [108])),0,aK,aM,aO,(wrap .i64 (1+aQ)),0,0,()),p,q,[],())) (some ((D.Config.mk o p [] q),n))) u ((0,()),a5,(),(a6,()),a7,[],()))) u (([(ByteArray.mk (List.toArray [97,110,110])),(ByteArray.mk (List.toArray [98,111,98])),(ByteArray.mk (List.toArray [99,97,116])),(ByteArray.mk (List.toArray [100,97,110]))],0,()),a1,(),([(D.Zone.mk (ByteArray.mk (List.toArray [122])) a0 [])],()),[],())
theorem Qco:FO 17 (Qd [.one (.ref 1)] [bx 1 .Dice] [.st .Config] [bx 1 .Dice] [] (D.Config×D.Dice) kz19 (fun x y=>Vb u y.1)):=fI u (gs 3 (.two (.two .go (.one (.loop [(0,.one (.ref 1)),rf 2,rf 3,li 4 .str,ni 5] [bx 1 .Dice,(1002,.box [.nul,.nul,.nul,.nul]),(1003,.box [.lst .Zone,.own 1047,.nul,.nul]),ar 1047 .Person] (.two .go (.two (.one (.two .go (.two (.join [(0,.one (.ref 1)),rf 2,rf 3,li 4 .str,ni 5,rf 6] [bx 1 .Dice,(1002,.box [.nul,.nul,.nul,.nul]),(1003,.box [.lst .Zone,.own 1047,.nul,.nul]),bx 1006 .Person,ar 1047 .Person] .go) .go))) .go))))) (lp [(0,.one (.ref 1)),rf 2,rf 3,ni 7] [bx 1 .Dice,(1002,.box [.nul,.nul,.nul,.nul]),(1003,.box [.lst .Zone,.own 1047,.nul,.own 1105]),ar 1047 .Person,ar 1105 .Schedule] (.two .go (.two (.one (.two .go (.two (.two .go (.one (.loop [(0,.one (.ref 1)),rf 2,rf 3,ni 7,rf 8,ni 9] [bx 1 .Dice,(1002,.box [.nul,.nul,.nul,.nul]),(1003,.box [.lst .Zone,.own 1047,.nul,.own 1105]),(1008,.box [.str,kI,kI,kI,kI,kI,.own 1079,.nul,kI,kI]),ar 1047 .Person,ar 1105 .Schedule,ar 1079 .int] .go))) (.two (.frz [1079] .go) (lp [(0,.one (.ref 1)),rf 2,rf 3,ni 7,rf 10,ni 11] [bx 1 .Dice,(1002,.box [.nul,.nul,.nul,.nul]),(1003,.box [.lst .Zone,.own 1047,.nul,.own 1105]),(1010,.box [.str,.lst .Layer,.own 1099]),ar 1047 .Person,ar 1105 .Schedule,ar 1099 .Edit] .go))))) .go))))) kz21 (eC (Yc u) (eC (Qai u) (eC (Qeu u) eN))) Tryz.func17
def QfS(h:D.Dice)(a:D.Book):Option (D.Target×D.Dice):=optc (Ql u h 3) fun(c,e)=>join (Y:=((Int×Unit)×D.Dice×(List D.Policy×Unit)×D.Target×List D.Team×Unit)) (fun((f,_),i,(m,_),n,g,_)=>atc [4,2,(g.length:Int)] f fun j=>optc (Ql u i j) fun(k,l)=>sameC g a.Teams (some ((D.Target.mk f k),l))) fun b=>cd (c=2) (cd ((a.Teams.length:Int)=0) (b ((0,()),e,(a.Policies,()),(D.Target.mk 0 0),a.Teams,())) (b ((c,()),e,(a.Policies,()),(D.Target.mk 0 0),a.Teams,()))) (b ((c,()),e,(a.Policies,()),(D.Target.mk 0 0),a.Teams,()))
theorem Qda:FO 67 (Qd [.one (.ref 1),.agg [.own 101,.lst .Policy]] [bx 1 .Dice,ar 101 .Team] [.st .Target] [bx 1 .Dice] [101] (D.Target×D.Dice) kz19 (fun x y=>QfS u y.1 (D.Book.mk y.2.1 x.1.1))):=fI u (gs 2 (.two (.join [(0,.one (.ref 1)),rf 3,rf 4,ni 5] [bx 1 .Dice,(1003,.box [.own 101,.lst .Policy]),bx 1004 .Target,ar 101 .Team] .go) .go)) kz21 (eC (Yc u) eN) Tryz.func67
def YU(h:D.Dice)(a:D.Book):Option (D.Target×D.Dice):=optc (Ql u h 3) fun(c,e)=>join (Y:=((Int×Unit)×D.Dice×Unit×D.Target×List D.Team×List D.Policy×Unit)) (fun((f,_),i,_,n,g,j,_)=>atc [4,2,(g.length:Int)] f fun k=>optc (Ql u i k) fun(l,m)=>sameC g a.Teams (sameC j a.Policies (some ((D.Target.mk f l),m)))) fun b=>cd (c=2) (cd ((a.Teams.length:Int)=0) (b ((0,()),e,(),(D.Target.mk 0 0),a.Teams,a.Policies,())) (b ((c,()),e,(),(D.Target.mk 0 0),a.Teams,a.Policies,()))) (b ((c,()),e,(),(D.Target.mk 0 0),a.Teams,a.Policies,()))
theorem Qb7:FO 67 (Qd [.one (.ref 1),.agg [.own 101,.own 102]] [bx 1 .Dice,ar 101 .Team,ar 102 .Policy] [.st .Target] [bx 1 .Dice] [101,102] (D.Target×D.Dice) kz19 (fun x y=>YU u y.1 (D.Book.mk y.2.1 y.2.2.1))):=fI u (gs 2 (.two (.join [(0,.one (.ref 1)),rf 3,rf 4,ni 5] [bx 1 .Dice,(1003,.box [.own 101,.own 102]),bx 1004 .Target,ar 101 .Team,ar 102 .Policy] .go) .go)) kz21 (eC (Yc u) eN) Tryz.func67
def Va(p0:D.Dice):Option (D.Book×D.Dice):=optc (Ql u p0 3) fun(a0,a1)=>Qg (X:=((Int×Unit)×D.Dice×Unit×Unit×List D.Team×Unit)) (fun L2 ((J,_),O,_,_,m,_)=>cd (0<J) (atc [(ByteArray.mk (List.toArray [99,111,114,101])),(ByteArray.mk (List.toArray [119,101,98]))] (m.length:Int) fun S=>optc (Ql u O 2) fun(L,a8)=>join (Y:=((Int×Unit)×D.Dice×Unit×Unit×D.Team×List D.Team×Unit)) (fun((a9,_),W,_,_,n,o,_)=>lec (o.length+[n].length) 34359738368 (L2 (((wrap .i64 (a9 - 1)),()),W,(),(),(o++[n]),()))) fun p=>optc (Ql u a8 2) fun(Z,q)=>cd (Z=0) (optc (Ql u q 2) fun(r,a2)=>lec ([L].length+[(wrap .i64 (2+r))].length) 34359738368 (p ((J,()),a2,(),(),(D.Team.mk S ([L]++[(wrap .i64 (2+r))])),m,()))) (p ((J,()),q,(),(),(D.Team.mk S [L]),m,()))) (optc (Ql u O 3) fun(aA,aB)=>Qg (X:=((Int×Unit)×D.Dice×Unit×Unit×List D.Team×List D.Policy×Unit)) (fun aC ((s,_),t,_,_,v,b,_)=>cd (0<s) (atc [(ByteArray.mk (List.toArray [112])),(ByteArray.mk (List.toArray [113])),(ByteArray.mk (List.toArray [114]))] (b.length:Int) fun aD=>optc (Zt u t [0,0,1,2]) fun(aE,aF)=>optc (Ql u aF 3) fun(aG,aH)=>Qg (X:=((Int×Int×Unit)×D.Dice×Unit×Unit×(ByteArray×Int×Unit)×List D.Team×List D.Policy×List D.PolicyStep×Unit)) (fun aI ((w,y,_),z,_,_,(c,e,_),A,f,g,_)=>cd (0<y) (optc (Zt u z [0,60,300,600,900]) fun(aJ,aK)=>optc (Ql u aK 2) fun(aL,aM)=>optc (Ql u aM 3) fun(aN,aO)=>Qg (X:=(P3×D.Dice×Unit×Unit×(ByteArray×Int×Unit)×(Int×Bool×Unit)×List D.Team×List D.Policy×List D.PolicyStep×List D.Target×Unit)) (fun aP ((B,C,E,_),F,_,_,(G,H,_),(h,i,_),j,k,l,a,_)=>cd (0<E) (optc (YU u F (D.Book.mk j k)) fun(I,aQ)=>lec (a.length+[I].length) 34359738368 (aP ((B,C,(wrap .i64 (E - 1)),()),aQ,(),(),(G,H,()),(h,i,()),j,k,l,(a++[I]),()))) (lec (l.length+[(D.PolicyStep.mk h i a)].length) 34359738368 (aI ((B,(wrap .i64 (C - 1)),()),F,(),(),(G,H,()),j,k,(l++[(D.PolicyStep.mk h i a)]),())))) u ((w,y,aN,()),aO,(),(),(c,e,()),(aJ,(decide (aL=0)),()),A,f,g,[],())) (lec (f.length+[(D.Policy.mk c g e)].length) 34359738368 (aC (((wrap .i64 (w - 1)),()),z,(),(),A,(f++[(D.Policy.mk c g e)]),())))) u ((s,(wrap .i64 (1+aG)),()),aH,(),(),(aD,aE,()),v,b,[],())) (some ((D.Book.mk v b),t))) u (((wrap .i64 (1+aA)),()),aB,(),(),m,[],()))) u ((a0,()),a1,(),(),[],())
theorem Qcn:FO 18 (Qd [.one (.ref 1)] [bx 1 .Dice] [.st .Book] [bx 1 .Dice] [] (D.Book×D.Dice) kz19 (fun x y=>Va u y.1)):=fI u (gs 2 (.two (.two .go (.one (.loop [(0,.one (.ref 1)),rf 2,rf 3,ni 4] [bx 1 .Dice,(1002,.box [.nul,.nul]),(1003,.box [.own 1042,.nul]),ar 1042 .Team] (.two .go (.two (.one (.two .go (.two (.join [(0,.one (.ref 1)),rf 2,rf 3,ni 4,rf 5] [bx 1 .Dice,(1002,.box [.nul,.nul]),(1003,.box [.own 1042,.nul]),bx 1005 .Team,ar 1042 .Team] .go) .go))) .go))))) (lp [(0,.one (.ref 1)),rf 2,rf 3,ni 6] [bx 1 .Dice,(1002,.box [.nul,.nul]),(1003,.box [.own 1042,.own 1099]),ar 1042 .Team,ar 1099 .Policy] (.two .go (.two (.one (.two .go (lp [(0,.one (.ref 1)),rf 2,rf 3,ni 6,rf 7,ni 8] [bx 1 .Dice,(1002,.box [.nul,.nul]),(1003,.box [.own 1042,.own 1099]),(1007,.box [.str,.own 1093,kI]),ar 1042 .Team,ar 1099 .Policy,ar 1093 .PolicyStep] (.two .go (.two (.one (.two .go (lp [(0,.one (.ref 1)),rf 2,rf 3,ni 6,rf 7,ni 8,rf 9,ni 10] [bx 1 .Dice,(1002,.box [.nul,.nul]),(1003,.box [.own 1042,.own 1099]),(1007,.box [.str,.own 1093,kI]),(1009,.box [kI,.boo,.own 1087]),ar 1042 .Team,ar 1099 .Policy,ar 1093 .PolicyStep,ar 1087 .Target] .go))) .go))))) .go))))) kz21 (eC (Yc u) (eC (Qai u) (eC (Qb7 u) (eC (Qda u) eN)))) Tryz.func18
def Qr1(a:Int)(b:Int):Option (D.Replica×Int):=join (Y:=((Int×Unit)×D.Replica×Unit)) (fun((c,_),h,_)=>some ((D.Replica.mk c 0 (-1) 0 [] 0 [] []),0)) fun e=>optc (UF u b 1 5) fun f=>cnd f (optc (UF u a 0 (wrap .i64 (b - 1))) fun g=>cnd g (e ((a,()),(D.Replica.mk 0 0 0 0 [] 0 [] []),())) (some ((D.Replica.mk 0 0 0 0 [] 0 [] []),1))) (some ((D.Replica.mk 0 0 0 0 [] 0 [] []),1))
theorem Qq2:FO 119 (Qd [nI,nI] [] [.st .Replica,nI] [] [] (D.Replica×Int) kz2 (fun x y=>Qr1 u x.1 x.2.1)):=fI u (.two .go (.two (.join [ni 0,rf 4] [bx 1004 .Replica] .go) .go)) kz3 (eC (QcU u) eN) Tryz.func119
def Qii(a:Int):Option (D.Cluster×Int):=optc (V4 u a 1 5) fun l=>cnd (!l) (some ((D.Cluster.mk [] [] [] []),1)) (natc a fun g=>lec g 1048576 (Qg (X:=(P3×D.Cluster×(List D.Message×List D.Arr2Int×Unit)×List D.Replica×List Bool×Unit)) (fun m ((h,i,e,_),n,(j,k,_),f,b,_)=>cd (e<i) (optc (Qr1 u e h) fun(c,o)=>lec (f.length+[c].length) 34359738368 (m ((h,i,(wrap .i64 (e+1)),()),n,(j,k,()),(f++[c]),b,()))) (some ((D.Cluster.mk f j b k),0))) u ((a,a,0,()),(D.Cluster.mk [] [] [] []),([],[],()),[],(List.replicate g false),())))
theorem QnD:FO 69 (Qd [nI] [] [.st .Cluster,nI] [] [] (D.Cluster×Int) kz2 (fun x y=>Qii u x.1)):=fI u (gs 3 (lp [ni 0,rf 2,rf 4,ni 15,ni 16] [bx 1002 .Cluster,(1004,.box [.own 1029,.lst .Message,.own 1013,.lst .Arr2Int]),ar 1029 .Replica,ar 1013 .bool] .go)) kz3 (eC (QeY u) (eC (Qq2 u) eN)) Tryz.func69
def WP(u:Nat)(a:List D.Zone):Option (List D.Zone):=nilC a (both (some []) (lec a.length 34359738368 (some a))) (lec a.length 34359738368 (some a))
theorem Qf0:FO 267 (Qd [.one (.lst .Zone)] [] [.one (.own 1007)] [ar 1007 .Zone] [] (List D.Zone) kz7 (fun x y=>WP u x.1)):=fI u .go kz10 eN Tryz.func267
def XZ(u:Nat)(a:List D.Person):Option (List D.Person):=nilC a (both (some []) (lec a.length 34359738368 (some a))) (lec a.length 34359738368 (some a))
theorem Qd1:FO 269 (Qd [.one (.lst .Person)] [] [.one (.own 1007)] [ar 1007 .Person] [] (List D.Person) kz7 (fun x y=>XZ u x.1)):=fI u .go kz10 eN Tryz.func269
def Qaa(u:Nat)(a:List D.Calendar):Option (List D.Calendar):=nilC a (both (some []) (lec a.length 34359738368 (some a))) (lec a.length 34359738368 (some a))
theorem QcJ:FO 271 (Qd [.one (.lst .Calendar)] [] [.one (.own 1007)] [ar 1007 .Calendar] [] (List D.Calendar) kz7 (fun x y=>Qaa u x.1)):=fI u .go kz10 eN Tryz.func271
def Xc(u:Nat)(a:List D.Schedule):Option (List D.Schedule):=nilC a (both (some []) (lec a.length 34359738368 (some a))) (lec a.length 34359738368 (some a))
theorem QcK:FO 272 (Qd [.one (.lst .Schedule)] [] [.one (.own 1007)] [ar 1007 .Schedule] [] (List D.Schedule) kz7 (fun x y=>Xc u x.1)):=fI u .go kz10 eN Tryz.func272
def WO(u:Nat)(a:List D.Team):Option (List D.Team):=nilC a (both (some []) (lec a.length 34359738368 (some a))) (lec a.length 34359738368 (some a))
theorem QfZ:FO 276 (Qd [.one (.lst .Team)] [] [.one (.own 1007)] [ar 1007 .Team] [] (List D.Team) kz7 (fun x y=>WO u x.1)):=fI u .go kz10 eN Tryz.func276
def X0(u:Nat)(a:List D.Policy):Option (List D.Policy):=nilC a (both (some []) (lec a.length 34359738368 (some a))) (lec a.length 34359738368 (some a))
theorem Qd2:FO 277 (Qd [.one (.lst .Policy)] [] [.one (.own 1007)] [ar 1007 .Policy] [] (List D.Policy) kz7 (fun x y=>X0 u x.1)):=fI u .go kz10 eN Tryz.func277
def WN(u:Nat)(a:List D.Page):Option (List D.Page):=nilC a (both (some []) (lec a.length 34359738368 (some a))) (lec a.length 34359738368 (some a))
theorem QfY:FO 280 (Qd [.one (.lst .Page)] [] [.one (.own 1007)] [ar 1007 .Page] [] (List D.Page) kz7 (fun x y=>WN u x.1)):=fI u .go kz10 eN Tryz.func280
def Qv(u:Nat)(a:List Int):Option (List Int):=nilC a (both (some []) (lec a.length 34359738368 (some a))) (lec a.length 34359738368 (some a))
theorem QX:FO 198 (Qd [lI] [] [.one (.own 1007)] [ar 1007 .int] [] (List Int) kz7 (fun x y=>Qv u x.1)):=fI u .go kz10 eN Tryz.func198
def WH(u:Nat)(a:List D.YearRule):Option (List D.YearRule):=nilC a (both (some []) (lec a.length 34359738368 (some a))) (lec a.length 34359738368 (some a))
theorem QcL:FO 268 (Qd [.one (.lst .YearRule)] [] [.one (.own 1007)] [ar 1007 .YearRule] [] (List D.YearRule) kz7 (fun x y=>WH u x.1)):=fI u .go kz10 eN Tryz.func268
def Qft(a:D.Zone):Option D.Zone:=optc (WH u a.Rules) fun b=>some (D.Zone.mk a.Name a.Offset b)
theorem Qnf:FO 185 (Qd [.st .Zone] [] [.st .Zone] [] [] D.Zone kz1 (fun x y=>Qft u x.1)):=fI u .go kz0 (eC (QcL u) eN) Tryz.func185
def ZE(h:List D.Zone):Option (List D.Zone):=optc (WP u h) fun e=>Qg (X:=((Int×Int×Unit)×List D.Zone×Unit)) (fun i ((f,b,_),a,_)=>cd (b<f) (natc b fun g=>ltc g a.length (optc a[g]? fun j=>optc (Qft u j) fun k=>natc b fun c=>ltc c a.length (optc a[c]? fun l=>i ((f,(wrap .i64 (b+1)),()),(List.set a c k),())))) (some a)) u (((e.length:Int),0,()),e,())
theorem VR:FO 184 (Qd [.one (.lst .Zone),.one (.fv 185)] [] [.one (.lst .Zone)] [] [] (List D.Zone) kz1 (fun x y=>ZE u x.1)):=fI u (gs 2 (lp [(1,.one (.fv 185)),(5,.one (.own 1009007)),ni 10,ni 11] [ar 1009007 .Zone] .go)) kz0 (eC (Qnf u) (eC (Qf0 u) eN)) Tryz.func184
def YR(u:Nat)(a:List D.Window):Option (List D.Window):=nilC a (both (some []) (lec a.length 34359738368 (some a))) (lec a.length 34359738368 (some a))
theorem Um:FO 270 (Qd [.one (.lst .Window)] [] [.one (.own 1007)] [ar 1007 .Window] [] (List D.Window) kz7 (fun x y=>YR u x.1)):=fI u .go kz10 eN Tryz.func270
def QbH(a:D.Person):Option D.Person:=optc (YR u a.Quiet) fun b=>some (D.Person.mk a.Name a.Zone b a.MaxWeek a.MinRest a.Consent)
theorem Qkx:FO 187 (Qd [.st .Person] [] [.st .Person] [] [] D.Person kz1 (fun x y=>QbH u x.1)):=fI u .go kz0 (eC (Um u) eN) Tryz.func187
def Zd(h:List D.Person):Option (List D.Person):=optc (XZ u h) fun e=>Qg (X:=((Int×Int×Unit)×List D.Person×Unit)) (fun i ((f,b,_),a,_)=>cd (b<f) (natc b fun g=>ltc g a.length (optc a[g]? fun j=>optc (QbH u j) fun k=>natc b fun c=>ltc c a.length (optc a[c]? fun l=>i ((f,(wrap .i64 (b+1)),()),(List.set a c k),())))) (some a)) u (((e.length:Int),0,()),e,())
theorem WX:FO 186 (Qd [.one (.lst .Person),.one (.fv 187)] [] [.one (.lst .Person)] [] [] (List D.Person) kz1 (fun x y=>Zd u x.1)):=fI u (gs 2 (lp [(1,.one (.fv 187)),(5,.one (.own 1009007)),ni 10,ni 11] [ar 1009007 .Person] .go)) kz0 (eC (Qkx u) (eC (Qd1 u) eN)) Tryz.func186
def Qga(a:D.Calendar):Option D.Calendar:=optc (Qv u a.Days) fun b=>some (D.Calendar.mk a.Name a.Zone b)
theorem Qh8:FO 189 (Qd [.st .Calendar] [] [.st .Calendar] [] [] D.Calendar kz1 (fun x y=>Qga u x.1)):=fI u .go kz0 (eC (QX u) eN) Tryz.func189
def Zu(h:List D.Calendar):Option (List D.Calendar):=optc (Qaa u h) fun e=>Qg (X:=((Int×Int×Unit)×List D.Calendar×Unit)) (fun i ((f,b,_),a,_)=>cd (b<f) (natc b fun g=>ltc g a.length (optc a[g]? fun j=>optc (Qga u j) fun k=>natc b fun c=>ltc c a.length (optc a[c]? fun l=>i ((f,(wrap .i64 (b+1)),()),(List.set a c k),())))) (some a)) u (((e.length:Int),0,()),e,())
theorem Wg:FO 188 (Qd [.one (.lst .Calendar),.one (.fv 189)] [] [.one (.lst .Calendar)] [] [] (List D.Calendar) kz1 (fun x y=>Zu u x.1)):=fI u (gs 2 (lp [(1,.one (.fv 189)),(5,.one (.own 1009007)),ni 10,ni 11] [ar 1009007 .Calendar] .go)) kz0 (eC (Qh8 u) (eC (QcJ u) eN)) Tryz.func188
def Wn(u:Nat)(a:List D.Layer):Option (List D.Layer):=nilC a (both (some []) (lec a.length 34359738368 (some a))) (lec a.length 34359738368 (some a))
theorem Qe6:FO 327 (Qd [.one (.lst .Layer)] [] [.one (.own 1007)] [ar 1007 .Layer] [] (List D.Layer) kz7 (fun x y=>Wn u x.1)):=fI u .go kz10 eN Tryz.func327
def Qdf(a:D.Layer):Option D.Layer:=optc (Qv u a.Members) fun b=>optc (YR u a.Windows) fun c=>some (D.Layer.mk a.Name a.Zone a.Start a.Unit a.Every b c a.Calendar a.Mode)
theorem QlC:FO 274 (Qd [.st .Layer] [] [.st .Layer] [] [] D.Layer kz1 (fun x y=>Qdf u x.1)):=fI u .go kz0 (eC (QX u) (eC (Um u) eN)) Tryz.func274
def Zj(h:List D.Layer):Option (List D.Layer):=optc (Wn u h) fun e=>Qg (X:=((Int×Int×Unit)×List D.Layer×Unit)) (fun i ((f,b,_),a,_)=>cd (b<f) (natc b fun g=>ltc g a.length (optc a[g]? fun j=>optc (Qdf u j) fun k=>natc b fun c=>ltc c a.length (optc a[c]? fun l=>i ((f,(wrap .i64 (b+1)),()),(List.set a c k),())))) (some a)) u (((e.length:Int),0,()),e,())
theorem Vp:FO 273 (Qd [.one (.lst .Layer),.one (.fv 274)] [] [.one (.lst .Layer)] [] [] (List D.Layer) kz1 (fun x y=>Zj u x.1)):=fI u (gs 2 (lp [(1,.one (.fv 274)),(5,.one (.own 1009007)),ni 10,ni 11] [ar 1009007 .Layer] .go)) kz0 (eC (QlC u) (eC (Qe6 u) eN)) Tryz.func273
def WM(u:Nat)(a:List D.Edit):Option (List D.Edit):=nilC a (both (some []) (lec a.length 34359738368 (some a))) (lec a.length 34359738368 (some a))
theorem QfX:FO 275 (Qd [.one (.lst .Edit)] [] [.one (.own 1007)] [ar 1007 .Edit] [] (List D.Edit) kz7 (fun x y=>WM u x.1)):=fI u .go kz10 eN Tryz.func275
def UO(a:D.Schedule):Option D.Schedule:=optc (Zj u a.Layers) fun b=>optc (WM u a.Edits) fun c=>some (D.Schedule.mk a.Name b c)
theorem Qia:FO 191 (Qd [.st .Schedule] [] [.st .Schedule] [] [] D.Schedule kz1 (fun x y=>UO u x.1)):=fI u .go kz0 (eC (Vp u) (eC (QfX u) eN)) Tryz.func191
def QZ(h:List D.Schedule):Option (List D.Schedule):=optc (Xc u h) fun e=>Qg (X:=((Int×Int×Unit)×List D.Schedule×Unit)) (fun i ((f,b,_),a,_)=>cd (b<f) (natc b fun g=>ltc g a.length (optc a[g]? fun j=>optc (UO u j) fun k=>natc b fun c=>ltc c a.length (optc a[c]? fun l=>i ((f,(wrap .i64 (b+1)),()),(List.set a c k),())))) (some a)) u (((e.length:Int),0,()),e,())
theorem Wh:FO 190 (Qd [.one (.lst .Schedule),.one (.fv 191)] [] [.one (.lst .Schedule)] [] [] (List D.Schedule) kz1 (fun x y=>QZ u x.1)):=fI u (gs 2 (lp [(1,.one (.fv 191)),(5,.one (.own 1009007)),ni 10,ni 11] [ar 1009007 .Schedule] .go)) kz0 (eC (Qia u) (eC (QcK u) eN)) Tryz.func190
def Qfs(a:D.Team):Option D.Team:=optc (Qv u a.Members) fun b=>some (D.Team.mk a.Name b)
theorem Qne:FO 193 (Qd [.st .Team] [] [.st .Team] [] [] D.Team kz1 (fun x y=>Qfs u x.1)):=fI u .go kz0 (eC (QX u) eN) Tryz.func193
def ZD(h:List D.Team):Option (List D.Team):=optc (WO u h) fun e=>Qg (X:=((Int×Int×Unit)×List D.Team×Unit)) (fun i ((f,b,_),a,_)=>cd (b<f) (natc b fun g=>ltc g a.length (optc a[g]? fun j=>optc (Qfs u j) fun k=>natc b fun c=>ltc c a.length (optc a[c]? fun l=>i ((f,(wrap .i64 (b+1)),()),(List.set a c k),())))) (some a)) u (((e.length:Int),0,()),e,())
theorem VQ:FO 192 (Qd [.one (.lst .Team),.one (.fv 193)] [] [.one (.lst .Team)] [] [] (List D.Team) kz1 (fun x y=>ZD u x.1)):=fI u (gs 2 (lp [(1,.one (.fv 193)),(5,.one (.own 1009007)),ni 10,ni 11] [ar 1009007 .Team] .go)) kz0 (eC (Qne u) (eC (QfZ u) eN)) Tryz.func192
def YG(u:Nat)(a:List D.PolicyStep):Option (List D.PolicyStep):=nilC a (both (some []) (lec a.length 34359738368 (some a))) (lec a.length 34359738368 (some a))
theorem QbA:FO 328 (Qd [.one (.lst .PolicyStep)] [] [.one (.own 1007)] [ar 1007 .PolicyStep] [] (List D.PolicyStep) kz7 (fun x y=>YG u x.1)):=fI u .go kz10 eN Tryz.func328
def X1(u:Nat)(a:List D.Target):Option (List D.Target):=nilC a (both (some []) (lec a.length 34359738368 (some a))) (lec a.length 34359738368 (some a))
theorem Qd3:FO 329 (Qd [.one (.lst .Target)] [] [.one (.own 1007)] [ar 1007 .Target] [] (List D.Target) kz7 (fun x y=>X1 u x.1)):=fI u .go kz10 eN Tryz.func329
def Qfr(a:D.PolicyStep):Option D.PolicyStep:=optc (X1 u a.Targets) fun b=>some (D.PolicyStep.mk a.Wait a.Urgent b)
theorem Qnd:FO 279 (Qd [.st .PolicyStep] [] [.st .PolicyStep] [] [] D.PolicyStep kz1 (fun x y=>Qfr u x.1)):=fI u .go kz0 (eC (Qd3 u) eN) Tryz.func279
def Q6(h:List D.PolicyStep):Option (List D.PolicyStep):=optc (YG u h) fun e=>Qg (X:=((Int×Int×Unit)×List D.PolicyStep×Unit)) (fun i ((f,b,_),a,_)=>cd (b<f) (natc b fun g=>ltc g a.length (optc a[g]? fun j=>optc (Qfr u j) fun k=>natc b fun c=>ltc c a.length (optc a[c]? fun l=>i ((f,(wrap .i64 (b+1)),()),(List.set a c k),())))) (some a)) u (((e.length:Int),0,()),e,())
theorem Wv:FO 278 (Qd [.one (.lst .PolicyStep),.one (.fv 279)] [] [.one (.lst .PolicyStep)] [] [] (List D.PolicyStep) kz1 (fun x y=>Q6 u x.1)):=fI u (gs 2 (lp [(1,.one (.fv 279)),(5,.one (.own 1009007)),ni 10,ni 11] [ar 1009007 .PolicyStep] .go)) kz0 (eC (Qnd u) (eC (QbA u) eN)) Tryz.func278
def Qhp(a:D.Policy):Option D.Policy:=optc (Q6 u a.Steps) fun b=>some (D.Policy.mk a.Name b a.Repeat)
theorem QoQ:FO 195 (Qd [.st .Policy] [] [.st .Policy] [] [] D.Policy kz1 (fun x y=>Qhp u x.1)):=fI u .go kz0 (eC (Wv u) eN) Tryz.func195
def Zv(h:List D.Policy):Option (List D.Policy):=optc (X0 u h) fun e=>Qg (X:=((Int×Int×Unit)×List D.Policy×Unit)) (fun i ((f,b,_),a,_)=>cd (b<f) (natc b fun g=>ltc g a.length (optc a[g]? fun j=>optc (Qhp u j) fun k=>natc b fun c=>ltc c a.length (optc a[c]? fun l=>i ((f,(wrap .i64 (b+1)),()),(List.set a c k),())))) (some a)) u (((e.length:Int),0,()),e,())
theorem Vz:FO 194 (Qd [.one (.lst .Policy),.one (.fv 195)] [] [.one (.lst .Policy)] [] [] (List D.Policy) kz1 (fun x y=>Zv u x.1)):=fI u (gs 2 (lp [(1,.one (.fv 195)),(5,.one (.own 1009007)),ni 10,ni 11] [ar 1009007 .Policy] .go)) kz0 (eC (QoQ u) (eC (Qd2 u) eN)) Tryz.func194
def Xd(u:Nat)(a:List D.Start):Option (List D.Start):=nilC a (both (some []) (lec a.length 34359738368 (some a))) (lec a.length 34359738368 (some a))
theorem Qac:FO 330 (Qd [.one (.lst .Start)] [] [.one (.own 1007)] [ar 1007 .Start] [] (List D.Start) kz7 (fun x y=>Xd u x.1)):=fI u .go kz10 eN Tryz.func330
def QbG(a:D.Start):Option D.Start:=optc (Qv u a.People) fun b=>some (D.Start.mk a.K a.At b)
theorem Qkw:FO 282 (Qd [.st .Start] [] [.st .Start] [] [] D.Start kz1 (fun x y=>QbG u x.1)):=fI u .go kz0 (eC (QX u) eN) Tryz.func282
def ZW(h:List D.Start):Option (List D.Start):=optc (Xd u h) fun e=>Qg (X:=((Int×Int×Unit)×List D.Start×Unit)) (fun i ((f,b,_),a,_)=>cd (b<f) (natc b fun g=>ltc g a.length (optc a[g]? fun j=>optc (QbG u j) fun k=>natc b fun c=>ltc c a.length (optc a[c]? fun l=>i ((f,(wrap .i64 (b+1)),()),(List.set a c k),())))) (some a)) u (((e.length:Int),0,()),e,())
theorem Vd:FO 281 (Qd [.one (.lst .Start),.one (.fv 282)] [] [.one (.lst .Start)] [] [] (List D.Start) kz1 (fun x y=>ZW u x.1)):=fI u (gs 2 (lp [(1,.one (.fv 282)),(5,.one (.own 1009007)),ni 10,ni 11] [ar 1009007 .Start] .go)) kz0 (eC (Qkw u) (eC (Qac u) eN)) Tryz.func281
def QaX(a:D.Page):Option D.Page:=optc (ZW u a.Starts) fun b=>optc (Qv u a.Declined) fun c=>optc (Qv u a.Seen) fun e=>some (D.Page.mk a.ID a.Policy a.Start a.Next a.Due a.State a.By a.Until a.Last a.Snoozes a.Hands b c e)
theorem Qho:FO 197 (Qd [.st .Page] [] [.st .Page] [] [] D.Page kz1 (fun x y=>QaX u x.1)):=fI u .go kz0 (eC (QX u) (eC (Vd u) eN)) Tryz.func197
def ZC(h:List D.Page):Option (List D.Page):=optc (WN u h) fun e=>Qg (X:=((Int×Int×Unit)×List D.Page×Unit)) (fun i ((f,b,_),a,_)=>cd (b<f) (natc b fun g=>ltc g a.length (optc a[g]? fun j=>optc (QaX u j) fun k=>natc b fun c=>ltc c a.length (optc a[c]? fun l=>i ((f,(wrap .i64 (b+1)),()),(List.set a c k),())))) (some a)) u (((e.length:Int),0,()),e,())
theorem VP:FO 196 (Qd [.one (.lst .Page),.one (.fv 197)] [] [.one (.own 1009007)] [ar 1009007 .Page] [] (List D.Page) kz7 (fun x y=>ZC u x.1)):=fI u (gs 2 (lp [(1,.one (.fv 197)),(5,.one (.own 1009007)),ni 10,ni 11] [ar 1009007 .Page] .go)) kz10 (eC (Qho u) (eC (QfY u) eN)) Tryz.func196
def UZ(a:D.Ledger):Option D.Ledger:=optc (ZE u a.Config.Zones) fun b=>optc (Zd u a.Config.People) fun c=>optc (Zu u a.Config.Calendars) fun e=>optc (QZ u a.Config.Schedules) fun f=>optc (ZD u a.Book.Teams) fun g=>optc (Zv u a.Book.Policies) fun h=>optc (ZC u a.Pages) fun i=>optc (Qv u a.Seen) fun j=>optc (XE u a.Calls) fun k=>some (D.Ledger.mk a.Now (D.Config.mk b c e f) (D.Book.mk g h) i a.Owner a.Fence j k)
theorem Qey:FO 120 (Qd [.st .Ledger] [] [.agg [kI,.lst .Zone,.lst .Person,.lst .Calendar,.lst .Schedule,.lst .Team,.lst .Policy,.own 2060007,kI,kI,.own 1055007,.own 1058007]] [ar 2060007 .Page,ar 1055007 .int,ar 1058007 .Call] [] D.Ledger kz8 (fun x y=>UZ u x.1)):=fI u .go (fun a b=>D.Ledger.mk a.1.1 (D.Config.mk a.1.2.1 a.1.2.2.1 a.1.2.2.2.1 a.1.2.2.2.2.1) (D.Book.mk a.1.2.2.2.2.2.1 a.1.2.2.2.2.2.2.1) b.1 a.1.2.2.2.2.2.2.2.1 a.1.2.2.2.2.2.2.2.2.1 b.2.1 b.2.2.1) (eC (Qas u) (eC (VR u) (eC (WX u) (eC (Wg u) (eC (Wh u) (eC (VQ u) (eC (Vz u) (eC (VP u) (eC (QX u) eN))))))))) Tryz.func120
def Wu(u:Nat)(a:D.Page)(b:Int):Option Int:=some (wrap .i64 (a.ID - b))
theorem Qez:FO 306 (sI [.st .Page,nI] fun x=>Wu u x.1 x.2.1):=fI u .go kz0 eN Tryz.func306
def QJ(f:List D.Page)(k:Int):Option (Int×Bool):=Qg (X:=((List D.Page×Int×Int×Int×Int×Unit)×Unit)) (fun i ((c,e,g,a,b,_),_)=>cd (a<b) (natc 1 fun h=>atc c (wrap .i64 (Int.fdiv (IntKind.wrap .u64 (wrap .i64 (a+b))) (HPow.hPow 2 (min h (Go.IntKind.bits Go.IntKind.u64))))) fun l=>optc (Wu u l e) fun m=>cd (m<0) (i ((c,e,g,(wrap .i64 ((wrap .i64 (Int.fdiv (IntKind.wrap .u64 (wrap .i64 (a+b))) (HPow.hPow 2 (min h (Go.IntKind.bits Go.IntKind.u64)))))+1)),b,()),())) (i ((c,e,g,a,(wrap .i64 (Int.fdiv (IntKind.wrap .u64 (wrap .i64 (a+b))) (HPow.hPow 2 (min h (Go.IntKind.bits Go.IntKind.u64))))),()),()))) (cd (a<g) (atc c a fun n=>optc (Wu u n e) fun j=>cd (j=0) (some (a,true)) (some (a,false))) (some (a,false)))) u ((f,k,(f.length:Int),0,(f.length:Int),()),())
theorem XD:FO 305 (Qd [.one (.lst .Page),nI,.one (.fv 306)] [] [nI,.one .boo] [] [] (Int×Bool) kz2 (fun x y=>QJ u x.1 x.2.1)):=fI u (gs 3 (.two (.one (.loop [li 0 .Page,ni 1,(2,.one (.fv 306)),ni 8,ni 9,ni 10] [] .go)) .go)) kz3 (eC (Qez u) eN) Tryz.func305
def Qh9(a:D.Ledger)(b:Int):Option (Int×Bool):=optc (QJ u a.Pages b) fun(c,e)=>some (c,e)
theorem Qna:FO 220 (Qd [.st .Ledger,nI] [] [nI,.one .boo] [] [] (Int×Bool) kz2 (fun x y=>Qh9 u x.1 x.2.1)):=fI u .go kz3 (eC (XD u) eN) Tryz.func220
def Qem(f:D.Book)(b:Int)(g:Int)(c:Int):Option (D.Page×Int):=join (Y:=(P3×D.Book×D.Page×Unit)) (fun((h,e,a,_),i,n,_)=>optc (Q2 u e 0 (wrap .i64 ((i.Policies.length:Int) - 1))) fun j=>cnd (!j) (some ((D.Page.mk 0 0 0 0 0 0 0 0 0 0 0 [] [] []),3)) (some ((D.Page.mk h e a 0 a 0 (-1) 0 a 0 0 [] [] []),0))) fun k=>optc (Q2 u b 1 999999) fun l=>cnd l (optc (Q2 u c 0 8589934592) fun m=>cnd m (k ((b,g,c,()),f,(D.Page.mk 0 0 0 0 0 0 0 0 0 0 0 [] [] []),())) (some ((D.Page.mk 0 0 0 0 0 0 0 0 0 0 0 [] [] []),1))) (some ((D.Page.mk 0 0 0 0 0 0 0 0 0 0 0 [] [] []),1))
theorem Qka:FO 283 (Qd [.st .Book,nI,nI,nI] [] [.st .Page,nI] [] [] (D.Page×Int) kz2 (fun x y=>Qem u x.1 x.2.1 x.2.2.1 x.2.2.2.1)):=fI u (.two .go (.two (.join [ni 1,ni 2,ni 3,rf 4,rf 8] [bx 1004 .Book,bx 1008 .Page] .go) .go)) kz3 (eC (We u) eN) Tryz.func283
def Wo(u:Nat)(a:List Int):Option (List Int):=nilC a (both (some []) (lec a.length 34359738368 (some a))) (lec a.length 34359738368 (some a))
theorem Qe7:FO 198 (Qd [lI] [] [lI] [] [] (List Int) kz1 (fun x y=>Wo u x.1)):=fI u .go kz0 eN Tryz.func198
def Xz(a:D.Page):Option D.Page:=optc (Xd u a.Starts) fun o=>Qg (X:=((Int×Int×Unit)×(Int×Int×Int×Int×Int×Int×Int×Int×Int×Int×Int×List Int×List Int×Unit)×D.Page×List D.Start×Unit)) (fun E ((p,e,_),(q,r,s,t,v,w,f,g,h,i,j,k,l,_),y,b,_)=>cd (e<p) (natc e fun m=>ltc m b.length (optc b[m]? fun z=>optc (Wo u z.People) fun A=>natc e fun c=>ltc c b.length (optc b[c]? fun n=>E ((p,(wrap .i64 (e+1)),()),(q,r,s,t,v,w,f,g,h,i,j,k,l,()),y,(List.set b c (D.Start.mk n.K n.At A)),())))) (optc (Qv u k) fun B=>optc (Qv u l) fun C=>some (D.Page.mk q r s t v w f g h i j b B C))) u (((o.length:Int),0,()),(a.ID,a.Policy,a.Start,a.Next,a.Due,a.State,a.By,a.Until,a.Last,a.Snoozes,a.Hands,a.Declined,a.Seen,()),(D.Page.mk 0 0 0 0 0 0 0 0 0 0 0 [] [] []),o,())
theorem VI:FO 334 (Qd [.st .Page] [] [.agg [kI,kI,kI,kI,kI,kI,kI,kI,kI,kI,kI,.own 1007007,.own 1030007,.own 1033007]] [ar 1007007 .Start,ar 1030007 .int,ar 1033007 .int] [] D.Page kz14 (fun x y=>Xz u x.1)):=fI u (gs 2 (lp [rf 1,rf 2,ni 10,ni 11] [(1001,.box [kI,kI,kI,kI,kI,kI,kI,kI,kI,kI,kI,.own 1007007,.lst .int,.lst .int]),bx 1002 .Page,ar 1007007 .Start] .go)) (fun a b=>D.Page.mk a.1.1 a.1.2.1 a.1.2.2.1 a.1.2.2.2.1 a.1.2.2.2.2.1 a.1.2.2.2.2.2.1 a.1.2.2.2.2.2.2.1 a.1.2.2.2.2.2.2.2.1 a.1.2.2.2.2.2.2.2.2.1 a.1.2.2.2.2.2.2.2.2.2.1 a.1.2.2.2.2.2.2.2.2.2.2.1 b.1 b.2.1 b.2.2.1) (eD 24 (Qe7 u) (eC (QX u) (eC (Qac u) eN))) Tryz.func334
def Wt(u:Nat)(a:D.Page):Option (Int×Bool):=cd (a.State=0) (some (a.Due,true)) (cd (a.State=2) (some (a.Until,true)) (some (0,false)))
theorem VH:FO 286 (Qd [.st .Page] [] [nI,.one .boo] [] [] (Int×Bool) kz2 (fun x y=>Wt u x.1)):=fI u .go kz3 eN Tryz.func286
def UM(a:D.Page)(b:Int):Option Bool:=optc (Wt u a) fun(c,e)=>cnd e (cd (c<=b) sT sF) sF
theorem QhZ:FO 351 (sB [.st .Page,nI] fun x=>UM u x.1 x.2.1):=fI u .go kz0 (eC (VH u) eN) Tryz.func351
def Qbg(a:D.Policy)(b:Int):Option (Int×Int×Bool):=optc (Wz u a) fun c=>optc (Yo u b 0 (wrap .i64 (c - 1))) fun e=>cnd (!e) (some (0,0,false)) (nzc (a.Steps.length:Int) (nzc (a.Steps.length:Int) (some ((Int.tmod b (a.Steps.length:Int)),(wrap .i64 (Int.tdiv b (a.Steps.length:Int))),true))))
theorem QlI:FO 384 (Qd [.st .Policy,nI] [] [nI,nI,.one .boo] [] [] (Int×Int×Bool) kz18 (fun x y=>Qbg u x.1 x.2.1)):=fI u .go kz20 (eC (WB u) (eC (Qbf u) eN)) Tryz.func384
def Qew(u:Nat)(b:Int):Option Int:=join (Y:=((Int×Int×Unit)×Unit)) (fun((c,f,_),_)=>join (Y:=((Int×Int×Unit)×Unit)) (fun((e,g,_),_)=>join (Y:=((Int×Int×Unit)×Unit)) (fun((m,n,_),_)=>natc (IntKind.wrap .u8 m) fun h=>ltc h (ByteArray.size (ByteArray.mk (List.toArray (List.append (List.append [0,1,2,2,3,3,3,3,4,4,4,4,4,4,4,4,5,5,5,5,5,5,5,5,5,5,5,5,5,5,5,5,6,6,6,6,6,6,6,6,6,6,6,6,6,6,6,6,6,6,6,6,6,6,6,6,6,6,6,6,6,6,6,6] [7,7,7,7,7,7,7,7,7,7,7,7,7,7,7,7,7,7,7,7,7,7,7,7,7,7,7,7,7,7,7,7,7,7,7,7,7,7,7,7,7,7,7,7,7,7,7,7,7,7,7,7,7,7,7,7,7,7,7,7,7,7,7,7]) (List.append [8,8,8,8,8,8,8,8,8,8,8,8,8,8,8,8,8,8,8,8,8,8,8,8,8,8,8,8,8,8,8,8,8,8,8,8,8,8,8,8,8,8,8,8,8,8,8,8,8,8,8,8,8,8,8,8,8,8,8,8,8,8,8,8] [8,8,8,8,8,8,8,8,8,8,8,8,8,8,8,8,8,8,8,8,8,8,8,8,8,8,8,8,8,8,8,8,8,8,8,8,8,8,8,8,8,8,8,8,8,8,8,8,8,8,8,8,8,8,8,8,8,8,8,8,8,8,8,8]))))) (some (wrap .i64 (n+(wrap .i64 (((bAt (ByteArray.mk (List.toArray (List.append (List.append [0,1,2,2,3,3,3,3,4,4,4,4,4,4,4,4,5,5,5,5,5,5,5,5,5,5,5,5,5,5,5,5,6,6,6,6,6,6,6,6,6,6,6,6,6,6,6,6,6,6,6,6,6,6,6,6,6,6,6,6,6,6,6,6] [7,7,7,7,7,7,7,7,7,7,7,7,7,7,7,7,7,7,7,7,7,7,7,7,7,7,7,7,7,7,7,7,7,7,7,7,7,7,7,7,7,7,7,7,7,7,7,7,7,7,7,7,7,7,7,7,7,7,7,7,7,7,7,7]) (List.append [8,8,8,8,8,8,8,8,8,8,8,8,8,8,8,8,8,8,8,8,8,8,8,8,8,8,8,8,8,8,8,8,8,8,8,8,8,8,8,8,8,8,8,8,8,8,8,8,8,8,8,8,8,8,8,8,8,8,8,8,8,8,8,8] [8,8,8,8,8,8,8,8,8,8,8,8,8,8,8,8,8,8,8,8,8,8,8,8,8,8,8,8,8,8,8,8,8,8,8,8,8,8,8,8,8,8,8,8,8,8,8,8,8,8,8,8,8,8,8,8,8,8,8,8,8,8,8,8])))) h):Nat):Int)))))) fun i=>cd (256<=e) (natc 8 fun o=>i (((Int.fdiv e (HPow.hPow 2 (min o (Go.IntKind.bits Go.IntKind.u64)))),(wrap .i64 (g+8)),()),())) (i ((e,g,()),()))) fun j=>cd (65536<=c) (natc 16 fun k=>j (((Int.fdiv c (HPow.hPow 2 (min k (Go.IntKind.bits Go.IntKind.u64)))),(wrap .i64 (f+16)),()),())) (j ((c,f,()),()))) fun a=>cd (4294967296<=b) (natc 32 fun l=>a (((Int.fdiv b (HPow.hPow 2 (min l (Go.IntKind.bits Go.IntKind.u64)))),32,()),())) (a ((b,0,()),()))
theorem Qhk:FO 399 (sI [.one (.num .u64)] fun x=>Qew u x.1):=fI u (.two .go (.two (.join [(0,.one (.num .u64)),ni 2] [] .go) (.two (.join [(0,.one (.num .u64)),ni 2] [] .go) (.two (.join [(0,.one (.num .u64)),ni 2] [] .go) .go)))) kz0 eN Tryz.func399
def QaF(a:Int):Option Int:=optc (Qew u a) fun b=>some b
theorem QdL:FO 370 (sI [.one (.num .u64)] fun x=>QaF u x.1):=fI u .go kz0 (eC (Qhk u) eN) Tryz.func370
def QdC(u:Nat)(b:D.Config)(a:Int):Option Bool:=cd (0<=a) (cd (a<(b.Schedules.length:Int)) sT sF) sF
theorem Qgh:FO 356 (sB [.st .Config,nI] fun x=>QdC u x.1 x.2.1):=fI u .go kz0 eN Tryz.func356
def QvA(a:D.Zone):Option (D.Table×Int):=optc (Qao u a) fun(b,c)=>some ((D.Table.mk a.Offset b),c)
theorem Qs6:FO 453 (Qd [.st .Zone] [] [.st .Table,nI] [] [] (D.Table×Int) kz2 (fun x y=>QvA u x.1)):=fI u .go kz3 (eC (Qbt u) eN) Tryz.func453
def QgW(c:List D.Zone):Option (List D.Table):=Qg (X:=((List D.Zone×Int×Int×Unit)×List D.Table×Unit)) (fun h ((e,f,a,_),b,_)=>cd (a<f) (atc e a fun i=>optc (QvA u i) fun(g,j)=>lec (b.length+[g].length) 34359738368 (h ((e,f,(wrap .i64 (a+1)),()),(b++[g]),()))) (some b)) u ((c,(c.length:Int),0,()),[],())
theorem QlU:FO 447 (Qd [.one (.lst .Zone)] [] [.one (.lst .Table)] [] [] (List D.Table) kz1 (fun x y=>QgW u x.1)):=fI u (gs 2 (lp [(3,.one (.own 1022)),li 8 .Zone,ni 9,ni 10] [ar 1022 .Table] .go)) kz0 (eC (Qs6 u) eN) Tryz.func447
def Qj8(a:D.Config):Option D.View:=optc (QgW u a.Zones) fun b=>some (D.View.mk a b)
theorem Qoo:FO 441 (Qd [.st .Config] [] [.st .View] [] [] D.View kz1 (fun x y=>Qj8 u x.1)):=fI u .go kz0 (eC (QlU u) eN) Tryz.func441
def Qj6(a:D.Config):Option (D.View×Bool):=optc (WK u a) fun b=>cd (b≠0) (some ((D.View.mk (D.Config.mk [] [] [] []) []),false)) (optc (Qj8 u a) fun c=>some (c,true))
theorem Ql8:FO 431 (Qd [.st .Config] [] [.st .View,.one .boo] [] [] (D.View×Bool) kz2 (fun x y=>Qj6 u x.1)):=fI u .go kz3 (eC (Qak u) (eC (Qoo u) eN)) Tryz.func431
def Qgn(u:Nat)(a:D.Edit)(b:Int):Option Bool:=cd (a.From<=b) (cd (b<a.To) sT sF) sF
theorem Qlv:FO 459 (sB [.st .Edit,nI] fun x=>Qgn u x.1 x.2.1):=fI u .go kz0 eN Tryz.func459
def Qg6(i:List D.Edit)(l:Int)(m:Int):Option Int:=Qg (X:=((Int×Int×List D.Edit×Int×Int×Unit)×Unit)) (fun n ((h,e,f,g,c,_),_)=>cd (c<g) (join (Y:=((Int×Int×List D.Edit×Int×Int×Unit)×Unit)) (fun((o,p,q,r,j,_),_)=>n ((o,p,q,r,(wrap .i64 (j+1)),()),())) fun b=>atc f c fun a=>optc (Qgn u a e) fun k=>cnd k (cd (a.Kind=0) (b ((h,e,f,g,c,()),())) (cd (a.Kind=1) (b ((a.A,e,f,g,c,()),())) (cd (a.Kind≠2) (b ((h,e,f,g,c,()),())) (cd (h=a.A) (b ((a.B,e,f,g,c,()),())) (cd (h=a.B) (b ((a.A,e,f,g,c,()),())) (b ((h,e,f,g,c,()),()))))))) (b ((h,e,f,g,c,()),()))) (some h)) u ((l,m,i,(i.length:Int),0,()),())
theorem Qoq:FO 452 (sI [.one (.lst .Edit),nI,nI] fun x=>Qg6 u x.1 x.2.1 x.2.2.1):=fI u (.two .go (lp [ni 1,ni 2,li 9 .Edit,ni 10,ni 11] [] (gs 2 (.two (.join [ni 1,ni 2,li 9 .Edit,ni 10,ni 11] [] .go) .go)))) kz0 (eC (Qlv u) eN) Tryz.func452
def Qfj(e:D.View)(f:D.Schedule)(a:Int):Option Int:=join (Y:=((Int×Unit)×D.View×D.Schedule×Unit)) (fun((b,_),g,c,_)=>optc (Xi u g c b) fun(k,h)=>optc (Qg6 u c.Edits h b) fun i=>some i) fun j=>cd (a<0) (some (-1)) (cd (8589934592<a) (some (-1)) (j ((a,()),e,f,())))
theorem QmV:FO 446 (sI [.st .View,.st .Schedule,nI] fun x=>Qfj u x.1 x.2.1 x.2.2.1):=fI u (.two .go (.two (.join [ni 2,rf 3,rf 4] [bx 1003 .View,bx 1004 .Schedule] .go) .go)) kz0 (eC (Qjc u) (eC (Qoq u) eN)) Tryz.func446
def Qjh(a:D.Config)(b:Int)(c:Int):Option Int:=optc (Qj6 u a) fun(e,f)=>join (Y:=((Int×Int×Unit)×D.Config×D.View×Unit)) (fun((g,h,_),i,j,_)=>atc i.Schedules g fun k=>optc (Qfj u j k h) fun l=>some l) fun m=>cnd f (optc (QdC u a b) fun n=>cnd n (m ((b,c,()),a,e,())) (some (-1))) (some (-1))
theorem Qqb:FO 440 (sI [.st .Config,nI,nI] fun x=>Qjh u x.1 x.2.1 x.2.2.1):=fI u (gs 2 (.two (.join [ni 1,ni 2,rf 3,rf 7] [bx 1003 .Config,bx 1007 .View] .go) .go)) kz0 (eC (Qgh u) (eC (Ql8 u) (eC (QmV u) eN))) Tryz.func440
def QfL(a:D.Config)(b:Int)(c:Int):Option Int:=optc (Qjh u a b c) fun e=>some e
theorem QnF:FO 430 (sI [.st .Config,nI,nI] fun x=>QfL u x.1 x.2.1 x.2.2.1):=fI u .go kz0 (eC (Qqb u) eN) Tryz.func430
def QbM(c:D.Config)(e:D.Book)(a:D.Target)(f:Int):Option (List Int):=join (Y:=((Int×Unit)×D.Config×D.Book×D.Target×Unit)) (fun((k,_),l,m,b,_)=>cd (b.Kind=1) (optc (QfL u l b.Index k) fun n=>some [n]) (cd (b.Kind=2) (atc m.Teams b.Index fun o=>some o.Members) (some [b.Index]))) fun g=>optc (Yo u a.Kind 0 2) fun p=>cnd p (optc (WC u c e) fun h=>cd (a.Kind=((0:Nat):Int)) (optc (Yo u a.Index 0 (wrap .i64 (h.a0 - 1))) fun q=>cnd q (g ((f,()),c,e,a,())) (some [])) (cd (a.Kind=(((0+1):Nat):Int)) (optc (Yo u a.Index 0 (wrap .i64 (h.a1 - 1))) fun i=>cnd i (g ((f,()),c,e,a,())) (some [])) (cd (a.Kind=((((0+1)+1):Nat):Int)) (optc (Yo u a.Index 0 (wrap .i64 (h.a2 - 1))) fun j=>cnd j (g ((f,()),c,e,a,())) (some [])) none))) (some [])
theorem QkG:FO 410 (Qd [.st .Config,.st .Book,.st .Target,nI] [] [lI] [] [] (List Int) kz1 (fun x y=>QbM u x.1 x.2.1 x.2.2.1 x.2.2.2.1)):=fI u (.two .go (.two (.join [ni 3,rf 4,rf 5,rf 6] [bx 1004 .Config,bx 1005 .Book,bx 1006 .Target] .go) .go)) kz0 (eC (WB u) (eC (QeF u) (eC (QnF u) eN))) Tryz.func410
def WA(b:Int)(a:D.Config):Option Bool:=optc (Yo u b 0 (wrap .i64 ((a.People.length:Int) - 1))) fun c=>sameC a a (some (!c))
theorem QbL:FO 411 (Qd [nI,.one (.ref 101)] [bx 101 .Config] [.one .boo] [] [101] Bool kz1 (fun x y=>WA u x.1 y.1)):=fI u .go kz0 (eC (WB u) eN) Tryz.func411
def QS(b:List Int)(c102:D.Config):Option Int:=Qg (X:=((Int×Int×Unit)×D.Config×List Int×Unit)) (fun h ((f,c,_),e,a,_)=>cd (c<f) (natc c fun g=>ltc g a.length (optc a[g]? fun i=>optc (WA u i e) fun j=>cnd j (sameC a b (sameC e c102 (some c))) (h ((f,(wrap .i64 (c+1)),()),e,a,())))) (sameC a b (sameC e c102 (some (-1))))) u (((b.length:Int),0,()),c102,b,())
theorem X4:FO 341 (Qd [.one (.own 101),.one (.clo 411 [102])] [ar 101 .int,bx 102 .Config] [nI] [] [101,102] Int kz1 (fun x y=>QS u y.1 y.2.1)):=fI u (.two .go (lp [(0,.one (.own 101)),(1,.one (.clo 411 [102])),ni 7,ni 8] [bx 102 .Config,ar 101 .int] .go)) kz0 (eC (QbL u) eN) Tryz.func341
def QO(f:List Int)(c102:D.Config):Option (Nat×Nat×List Int):=optc (QS u f c102) fun m=>cd (m=(-1)) (sameC c102 c102 (some (0,f.length,f))) (Qg (X:=((Int×Int×Unit)×D.Config×List Int×Unit)) (fun o ((c,g,_),h,a,_)=>cd (g<(a.length:Int)) (join (Y:=((Int×Int×Unit)×D.Config×List Int×Unit)) (fun((p,q,_),r,s,_)=>o ((p,(wrap .i64 (q+1)),()),r,s,())) fun i=>natc g fun j=>ltc j a.length (optc a[j]? fun k=>optc (WA u k h) fun n=>cnd (!n) (natc c fun e=>ltc e a.length (optc a[e]? fun t=>i (((wrap .i64 (c+1)),g,()),h,(List.set a e k),()))) (i ((c,g,()),h,a,())))) (natc c fun b=>lec b a.length (lec b a.length (lec a.length a.length (natc c fun l=>lec l (((List.take b a)++(List.replicate (a.length - b) 0))++(List.drop a.length a)).length (sameC h c102 (some (0,l,(((List.take b a)++(List.replicate (a.length - b) 0))++(List.drop a.length a)))))))))) u ((m,(wrap .i64 (m+1)),()),c102,f,()))
theorem XH:FO 385 (Qd [.one (.own 101),.one (.clo 411 [102])] [ar 101 .int,bx 102 .Config] [.one (.view 101)] [ar 101 .int] [102] (Nat×Nat×List Int) kz24 (fun x y=>QO u y.1 y.2.1)):=fI u (gs 3 (lp [(0,.one (.own 101)),(1,.one (.clo 411 [102])),ni 5,ni 6] [bx 102 .Config,ar 101 .int] (.two .go (.two (.join [(0,.one (.own 101)),(1,.one (.clo 411 [102])),ni 5,ni 6] [bx 102 .Config,ar 101 .int] .go) .go)))) kz25 (eC (X4 u) (eC (QbL u) eN)) Tryz.func385
def Ze(l0:Nat)(h0:Nat)(W:List Int)(w:Int)(Z:Int):Option (List Int):=Qg (X:=((Nat×Nat×Int×Int×Int×Unit)×List Int×Unit)) (fun L0 ((a1,a2,a3,y,v,_),z,_)=>cd (v<y) (join (Y:=((Nat×Nat×Int×Int×Int×Unit)×List Int×Unit)) (fun((a7,a8,a9,A,B,_),C,_)=>L0 ((a7,a8,a9,A,(wrap .i64 (B+1)),()),C,())) fun o=>Qg (X:=((Nat×Nat×Int×Int×Int×Int×Unit)×List Int×Unit)) (fun E ((b,c,i,l,m,j,_),e,_)=>join (Y:=((Nat×Nat×Int×Int×Int×Int×Unit)×List Int×Unit)) (fun((a,f,F,G,H,g,_),h,_)=>natc (wrap .i64 (g - 1)) fun p=>ltc p (f - a) (optc (GetElem?.getElem? h (a+p)) fun q=>natc g fun r=>ltc r (f - a) (optc (GetElem?.getElem? h (a+r)) fun I=>natc g fun k=>ltc k (f - a) (optc (GetElem?.getElem? h (a+k)) fun a0=>natc (wrap .i64 (g - 1)) fun n=>ltc n (f - a) (optc (GetElem?.getElem? (List.set h (a+k) q) (a+n)) fun aA=>E ((a,f,F,G,H,(wrap .i64 (g - 1)),()),(List.set (List.set h (a+k) q) (a+n) I),())))))) fun J=>cd (i<j) (natc j fun s=>ltc s (c - b) (optc (GetElem?.getElem? e (b+s)) fun L=>natc (wrap .i64 (j - 1)) fun t=>ltc t (c - b) (optc (GetElem?.getElem? e (b+t)) fun O=>optc (Vu u L O) fun S=>cnd S (J ((b,c,i,l,m,j,()),e,())) (o ((b,c,i,l,m,()),e,()))))) (o ((b,c,i,l,m,()),e,()))) u ((a1,a2,a3,y,v,v,()),z,())) (some z)) u ((l0,h0,w,Z,(wrap .i64 (w+1)),()),W,())
theorem W6:FO 389 (Qd [.one (.view 101),nI,nI] [ar 101 .int] [] [(101,.arrs .int)] [] (List Int) kz7 (fun x y=>Ze u x.1 x.2.1 y.1 x.2.2.1 x.2.2.2.1)):=fI u (.two .go (.one (.loop [(0,.one (.view 101)),ni 1,ni 2,ni 6] [ar 101 .int] (.two .go (.two (.join [(0,.one (.view 101)),ni 1,ni 2,ni 6] [ar 101 .int] (.one (.two .go (.one (.loop [(0,.one (.view 101)),ni 1,ni 2,ni 6,ni 7] [ar 101 .int] (.two (.join [(0,.one (.view 101)),ni 1,ni 2,ni 6,ni 7] [ar 101 .int] .go) .go)))))) .go))))) kz10 (eC (Qa7 u) eN) Tryz.func389
def YJ(l0:Nat)(h0:Nat)(f:List Int)(g:Int)(h:Int)(i:Int):Option (List Int):=Qg (X:=((Nat×Nat×Int×Int×Int×Bool×Bool×Unit)×List Int×Unit)) (fun n ((j,k,a,b,l,m,o,_),c,_)=>cd ((wrap .i64 (b - a))<=12) (optc (Ze u j k c a b) fun e=>chk e.length c.length (some e)) (cd (l=0) none (cnd (!m) none none))) u ((l0,h0,g,h,i,true,true,()),f,())
theorem UC:FO 369 (Qd [.one (.view 101),nI,nI,nI] [ar 101 .int] [] [(101,.arrs .int)] [] (List Int) kz7 (fun x y=>YJ u x.1 x.2.1 y.1 x.2.2.1 x.2.2.2.1 x.2.2.2.2.1)):=fI u (gs 2 (.one (.loop [(0,.one (.view 101)),ni 1,ni 2,ni 3,(8,.one .boo),(9,.one .boo)] [ar 101 .int] .go))) kz10 (eC (W6 u) eN) Tryz.func369
def Wp(l0:Nat)(h0:Nat)(a:List Int):Option (List Int):=optc (QaF u (IntKind.wrap .u64 (((h0 - l0):Nat):Int))) fun c=>optc (YJ u l0 h0 a 0 (((h0 - l0):Nat):Int) c) fun b=>chk b.length a.length (some b)
theorem Qfa:FO 354 (Qd [.one (.view 101)] [ar 101 .int] [] [(101,.arrs .int)] [] (List Int) kz7 (fun x y=>Wp u x.1 x.2.1 y.1)):=fI u .go kz10 (eC (UC u) (eC (QdL u) eN)) Tryz.func354
def Xe(l0:Nat)(h0:Nat)(t:List Int):Option (Nat×Nat×List Int):=cd ((((h0 - l0):Nat):Int)<2) (some (l0,h0,t)) (Qg (X:=((Nat×Nat×Int×Unit)×List Int×Unit)) (fun O ((f,i,l,_),m,_)=>cd (l<(((i - f):Nat):Int)) (natc l fun v=>ltc v (i - f) (optc (GetElem?.getElem? m (f+v)) fun S=>natc (wrap .i64 (l - 1)) fun w=>ltc w (i - f) (optc (GetElem?.getElem? m (f+w)) fun W=>cd (S=W) (natc l fun y=>ltc y (i - f) (Qg (X:=((Nat×Nat×Int×Nat×Nat×Int×Unit)×List Int×Unit)) (fun z ((a,b,j,c,g,h,_),e,_)=>cd (h<(((g - c):Nat):Int)) (join (Y:=((Nat×Nat×Int×Nat×Nat×Int×Unit)×List Int×Unit)) (fun((A,B,C,E,F,G,_),H,_)=>z ((A,B,C,E,F,(wrap .i64 (G+1)),()),H,())) fun o=>natc h fun p=>ltc p (g - c) (optc (GetElem?.getElem? e (c+p)) fun I=>natc (wrap .i64 (h - 1)) fun q=>ltc q (g - c) (optc (GetElem?.getElem? e (c+q)) fun J=>cd (I≠J) (natc h fun r=>ltc r (g - c) (optc (GetElem?.getElem? e (c+r)) fun L=>natc j fun n=>ltc n (b - a) (optc (GetElem?.getElem? e (a+n)) fun Z=>o ((a,b,(wrap .i64 (j+1)),c,g,h,()),(List.set e (a+n) L),())))) (o ((a,b,j,c,g,h,()),e,()))))) (natc j fun k=>ltc k (b - a) (lec (a+k) (a+(b - a)) (lec (a+(b - a)) e.length (natc j fun s=>lec s (b - a) (some ((a+0),(a+s),(((List.take (a+k) e)++(List.replicate ((a+(b - a)) - (a+k)) 0))++(List.drop (a+(b - a)) e))))))))) u ((f,i,l,(f+y),(f+(i - f)),1,()),m,()))) (O ((f,i,(wrap .i64 (l+1)),()),m,()))))) (some (f,i,m))) u ((l0,h0,1,()),t,()))
theorem QcM:FO 412 (Qd [.one (.view 101)] [ar 101 .int] [.one (.view 101)] [ar 101 .int] [] (Nat×Nat×List Int) kz24 (fun x y=>Xe u x.1 x.2.1 y.1)):=fI u (gs 2 (lp [(0,.one (.view 101)),ni 3] [ar 101 .int] (.two .go (.two (.one (.two .go (.two (.two .go (lp [(0,.one (.view 101)),ni 3,(4,.one (.view 101)),ni 5] [ar 101 .int] (.two .go (.two (.join [(0,.one (.view 101)),ni 3,(4,.one (.view 101)),ni 5] [ar 101 .int] .go) .go)))) .go))) .go)))) kz25 eN Tryz.func412
def QaH(r:D.Config)(s:D.Book)(i:List D.Target)(t:Int):Option (Nat×Nat×List Int):=Qg (X:=((Int×List D.Target×Int×Int×Unit)×D.Config×D.Book×List Int×Unit)) (fun v ((j,k,l,f,_),g,m,h,_)=>cd (f<l) (atc k f fun w=>optc (QbM u g m w j) fun n=>lec (h.length+n.length) 34359738368 (v ((j,k,l,(wrap .i64 (f+1)),()),g,m,(h++n),()))) (optc (QO u h g) fun(a,b,c)=>optc (Wp u a b c) fun e=>chk e.length c.length (optc (Xe u a b e) fun(o,p,q)=>some (o,p,q)))) u ((t,i,(i.length:Int),0,()),r,s,[],())
theorem Qi4:FO 386 (Qd [.st .Config,.st .Book,.one (.lst .Target),nI] [] [.one (.view 1024)] [ar 1024 .int] [] (Nat×Nat×List Int) kz24 (fun x y=>QaH u x.1 x.2.1 x.2.2.1 x.2.2.2.1)):=fI u (gs 2 (lp [ni 3,rf 4,rf 5,(9,.one (.own 1024)),li 12 .Target,ni 13,ni 14] [bx 1004 .Config,bx 1005 .Book,ar 1024 .int] .go)) kz25 (eC (Qfa u) (eC (XH u) (eC (QkG u) (eC (QcM u) eN)))) Tryz.func386
def QhW(u:Nat)(a:Int)(b:Int):Option Bool:=cd (0<=a) (cd (a<=8589934592) (cd (a<=b) (cd (b<=8589934592) (cd ((wrap .i64 (b - a))<=34560000) sT sF) sF) sF) sF) sF
theorem QmS:FO 432 (sB [nI,nI] fun x=>QhW u x.1 x.2.1):=fI u .go kz0 eN Tryz.func432
def Qc9(b:D.Config)(c:Int)(e:Int)(f:Int):Option (D.View×Int):=optc (Qj6 u b) fun(a,g)=>join (Y:=(Unit×D.View×D.View×Unit)) (fun(_,k,h,_)=>some (h,0)) fun i=>cnd (!g) (some (a,8)) (cd (c<0) (some (a,3)) (cd ((b.People.length:Int)<=c) (some (a,3)) (optc (QhW u e f) fun j=>cnd (!j) (some (a,1)) (i ((),(D.View.mk (D.Config.mk [] [] [] []) []),a,())))))
theorem Qlz:FO 413 (Qd [.st .Config,nI,nI,nI] [] [.st .View,nI] [] [] (D.View×Int) kz2 (fun x y=>Qc9 u x.1 x.2.1 x.2.2.1 x.2.2.2.1)):=fI u (gs 2 (.two (.join [rf 8,rf 10] [bx 1008 .View,bx 1010 .View] .go) .go)) kz3 (eC (Ql8 u) (eC (QmS u) eN)) Tryz.func413
def Xx(u:Nat)(a:D.View)(b:Int):Option D.Table:=atc a.tables b fun c=>some c
theorem Qg5:FO 416 (Qd [.st .View,nI] [] [.st .Table] [] [] D.Table kz1 (fun x y=>Xx u x.1 x.2.1)):=fI u .go kz0 eN Tryz.func416
def Vk(c:D.Config)(e:Int)(b:Int)(h:Bool):Option Bool:=optc (Qc9 u c e b b) fun(f,i)=>cd (i≠0) sF (atc c.People e fun a=>cnd h (cnd a.Consent sT (optc (Xx u f a.Zone) fun j=>optc (ZL u j b) fun k=>optc (X5 u k) fun l=>optc (QdI u a.Quiet l) fun m=>cnd m sF sT)) (optc (Xx u f a.Zone) fun n=>optc (ZL u n b) fun o=>optc (X5 u o) fun p=>optc (QdI u a.Quiet p) fun g=>cnd g sF sT))
theorem Qgt:FO 388 (sB [.st .Config,nI,nI,.one .boo] fun x=>Vk u x.1 x.2.1 x.2.2.1 x.2.2.2.1):=fI u .go kz0 (eC (Qlz u) (eC (Qln u) (eC (QdR u) (eC (Qg5 u) (eC (Vs u) eN))))) Tryz.func388
def Zy(e:Int)(a:D.Config)(c:D.Page)(b:D.PolicyStep):Option (Bool×D.Page):=optc (Vk u a e c.Due b.Urgent) fun f=>sameC a a (sameC b b (some ((!f),c)))
theorem X7:FO 387 (Qd [nI,.one (.ref 101),.one (.ref 102),.one (.ref 106)] [bx 101 .Config,(102,.box bF2),ar 103 .Start,ar 104 .int,ar 105 .int,bx 106 .PolicyStep] [.one .boo] [(102,.box bF2),ar 103 .Start,ar 104 .int,ar 105 .int] [101,106] (Bool×D.Page) kz11 (fun x y=>Zy u x.1 y.1 (D.Page.mk y.2.1.1 y.2.1.2.1 y.2.1.2.2.1 y.2.1.2.2.2.1 y.2.1.2.2.2.2.1 y.2.1.2.2.2.2.2.1 y.2.1.2.2.2.2.2.2.1 y.2.1.2.2.2.2.2.2.2.1 y.2.1.2.2.2.2.2.2.2.2.1 y.2.1.2.2.2.2.2.2.2.2.2.1 y.2.1.2.2.2.2.2.2.2.2.2.2.1 y.2.2.1 y.2.2.2.1 y.2.2.2.2.1) y.2.2.2.2.2.1)):=fI u .go (fun a b=>(a.1,(D.Page.mk b.1.1 b.1.2.1 b.1.2.2.1 b.1.2.2.2.1 b.1.2.2.2.2.1 b.1.2.2.2.2.2.1 b.1.2.2.2.2.2.2.1 b.1.2.2.2.2.2.2.2.1 b.1.2.2.2.2.2.2.2.2.1 b.1.2.2.2.2.2.2.2.2.2.1 b.1.2.2.2.2.2.2.2.2.2.2.1 b.2.1 b.2.2.1 b.2.2.2.1))) (eC (Qgt u) eN) Tryz.func387
def Qu(l0:Nat)(h0:Nat)(r:List Int)(c102:D.Config)(c103:D.Page)(c107:D.PolicyStep):Option (Int×D.Page):=Qg (X:=((Nat×Nat×Int×Int×Unit)×D.Config×P11×D.PolicyStep×List Int×List D.Start×List Int×List Int×Unit)) (fun E ((s,t,v,e,_),f,(w,y,z,A,g,h,i,j,k,l,m,_),b,c,n,o,p,_)=>cd (e<v) (natc e fun q=>ltc q (t - s) (optc (GetElem?.getElem? c (s+q)) fun B=>optc (Zy u B f (D.Page.mk w y z A g h i j k l m n o p) b) fun(C,a)=>cnd C (sameC c r (sameC f c102 (sameC b c107 (some (e,a))))) (E ((s,t,v,(wrap .i64 (e+1)),()),f,(a.ID,a.Policy,a.Start,a.Next,a.Due,a.State,a.By,a.Until,a.Last,a.Snoozes,a.Hands,()),b,c,a.Starts,a.Declined,a.Seen,())))) (sameC c r (sameC f c102 (sameC b c107 (some ((-1),(D.Page.mk w y z A g h i j k l m n o p))))))) u ((l0,h0,(((h0 - l0):Nat):Int),0,()),c102,((D.Page.ID c103),(D.Page.Policy c103),(D.Page.Start c103),(D.Page.Next c103),(D.Page.Due c103),(D.Page.State c103),(D.Page.By c103),(D.Page.Until c103),(D.Page.Last c103),(D.Page.Snoozes c103),(D.Page.Hands c103),()),c107,r,(D.Page.Starts c103),(D.Page.Declined c103),(D.Page.Seen c103),())
theorem YA:FO 341 (Qd [.one (.view 101),.one (.clo 387 [102,103,107])] [ar 101 .int,bx 102 .Config,(103,.box bF3),ar 104 .Start,ar 105 .int,ar 106 .int,bx 107 .PolicyStep] [nI] [(103,.box bF3),ar 104 .Start,ar 105 .int,ar 106 .int] [101,102,107] (Int×D.Page) kz17 (fun x y=>Qu u x.1 x.2.1 y.1 y.2.1 (D.Page.mk y.2.2.1.1 y.2.2.1.2.1 y.2.2.1.2.2.1 y.2.2.1.2.2.2.1 y.2.2.1.2.2.2.2.1 y.2.2.1.2.2.2.2.2.1 y.2.2.1.2.2.2.2.2.2.1 y.2.2.1.2.2.2.2.2.2.2.1 y.2.2.1.2.2.2.2.2.2.2.2.1 y.2.2.1.2.2.2.2.2.2.2.2.2.1 y.2.2.1.2.2.2.2.2.2.2.2.2.2.1 y.2.2.2.1 y.2.2.2.2.1 y.2.2.2.2.2.1) y.2.2.2.2.2.2.1)):=fI u (.two .go (lp [(0,.one (.view 101)),(1,.one (.clo 387 [102,103,107])),ni 7,ni 8] [bx 102 .Config,(103,.box bF3),bx 107 .PolicyStep,ar 101 .int,ar 104 .Start,ar 105 .int,ar 106 .int] .go)) (fun a b=>(a.1,(D.Page.mk b.1.1 b.1.2.1 b.1.2.2.1 b.1.2.2.2.1 b.1.2.2.2.2.1 b.1.2.2.2.2.2.1 b.1.2.2.2.2.2.2.1 b.1.2.2.2.2.2.2.2.1 b.1.2.2.2.2.2.2.2.2.1 b.1.2.2.2.2.2.2.2.2.2.1 b.1.2.2.2.2.2.2.2.2.2.2.1 b.2.1 b.2.2.1 b.2.2.2.1))) (eC (X7 u) eN) Tryz.func341
def Qt(l0:Nat)(h0:Nat)(F:List Int)(c102:D.Config)(c103:D.Page)(c107:D.PolicyStep):Option (Nat×Nat×D.Page×List Int):=optc (Qu u l0 h0 F c102 c103 c107) fun(G,c)=>cd (G=(-1)) (sameC c102 c102 (sameC c107 c107 (some (l0,h0,c,F)))) (Qg (X:=((Nat×Nat×Int×Int×Unit)×D.Config×P11×D.PolicyStep×List Int×List D.Start×List Int×List Int×Unit)) (fun L2 ((b,e,i,k,_),l,(H,I,m,n,o,p,q,r,s,t,v,_),g,f,w,y,z,_)=>cd (k<(((e - b):Nat):Int)) (join (Y:=((Nat×Nat×Int×Int×Unit)×D.Config×P11×D.PolicyStep×List Int×List D.Start×List Int×List Int×Unit)) (fun((J,L,O,S,_),W,(Z,a2,aA,aB,aC,aD,aE,aF,aG,aH,aI,_),aJ,aK,aL,aM,aN,_)=>L2 ((J,L,O,(wrap .i64 (S+1)),()),W,(Z,a2,aA,aB,aC,aD,aE,aF,aG,aH,aI,()),aJ,aK,aL,aM,aN,())) fun A=>natc k fun B=>ltc B (e - b) (optc (GetElem?.getElem? f (b+B)) fun C=>optc (Zy u C l (D.Page.mk H I m n o p q r s t v w y z) g) fun(aO,a)=>cnd (!aO) (natc i fun j=>ltc j (e - b) (optc (GetElem?.getElem? f (b+j)) fun aP=>A ((b,e,(wrap .i64 (i+1)),k,()),l,(a.ID,a.Policy,a.Start,a.Next,a.Due,a.State,a.By,a.Until,a.Last,a.Snoozes,a.Hands,()),g,(List.set f (b+j) C),a.Starts,a.Declined,a.Seen,()))) (A ((b,e,i,k,()),l,(a.ID,a.Policy,a.Start,a.Next,a.Due,a.State,a.By,a.Until,a.Last,a.Snoozes,a.Hands,()),g,f,a.Starts,a.Declined,a.Seen,())))) (natc i fun h=>ltc h (e - b) (lec (b+h) (b+(e - b)) (lec (b+(e - b)) f.length (natc i fun E=>lec E (e - b) (sameC l c102 (sameC g c107 (some ((b+0),(b+E),(D.Page.mk H I m n o p q r s t v w y z),(((List.take (b+h) f)++(List.replicate ((b+(e - b)) - (b+h)) 0))++(List.drop (b+(e - b)) f))))))))))) u ((l0,h0,G,(wrap .i64 (G+1)),()),c102,(c.ID,c.Policy,c.Start,c.Next,c.Due,c.State,c.By,c.Until,c.Last,c.Snoozes,c.Hands,()),c107,F,c.Starts,c.Declined,c.Seen,()))
theorem Yt:FO 385 (Qd [.one (.view 101),.one (.clo 387 [102,103,107])] [ar 101 .int,bx 102 .Config,(103,.box bF3),ar 104 .Start,ar 105 .int,ar 106 .int,bx 107 .PolicyStep] [.one (.view 101)] [(103,.box bF3),ar 104 .Start,ar 105 .int,ar 106 .int,ar 101 .int] [102,107] (Nat×Nat×D.Page×List Int) (fun q=>((q.1,q.2.1,()),(q.2.2.1.ID,q.2.2.1.Policy,q.2.2.1.Start,q.2.2.1.Next,q.2.2.1.Due,q.2.2.1.State,q.2.2.1.By,q.2.2.1.Until,q.2.2.1.Last,q.2.2.1.Snoozes,q.2.2.1.Hands,()),q.2.2.1.Starts,q.2.2.1.Declined,q.2.2.1.Seen,q.2.2.2,())) (fun x y=>Qt u x.1 x.2.1 y.1 y.2.1 (D.Page.mk y.2.2.1.1 y.2.2.1.2.1 y.2.2.1.2.2.1 y.2.2.1.2.2.2.1 y.2.2.1.2.2.2.2.1 y.2.2.1.2.2.2.2.2.1 y.2.2.1.2.2.2.2.2.2.1 y.2.2.1.2.2.2.2.2.2.2.1 y.2.2.1.2.2.2.2.2.2.2.2.1 y.2.2.1.2.2.2.2.2.2.2.2.2.1 y.2.2.1.2.2.2.2.2.2.2.2.2.2.1 y.2.2.2.1 y.2.2.2.2.1 y.2.2.2.2.2.1) y.2.2.2.2.2.2.1)):=fI u (gs 3 (lp [(0,.one (.view 101)),(1,.one (.clo 387 [102,103,107])),ni 5,ni 6] [bx 102 .Config,(103,.box bF3),bx 107 .PolicyStep,ar 101 .int,ar 104 .Start,ar 105 .int,ar 106 .int] (.two .go (.two (.join [(0,.one (.view 101)),(1,.one (.clo 387 [102,103,107])),ni 5,ni 6] [bx 102 .Config,(103,.box bF3),bx 107 .PolicyStep,ar 101 .int,ar 104 .Start,ar 105 .int,ar 106 .int] .go) .go)))) (fun a b=>(a.1,a.2.1,(D.Page.mk b.1.1 b.1.2.1 b.1.2.2.1 b.1.2.2.2.1 b.1.2.2.2.2.1 b.1.2.2.2.2.2.1 b.1.2.2.2.2.2.2.1 b.1.2.2.2.2.2.2.2.1 b.1.2.2.2.2.2.2.2.2.1 b.1.2.2.2.2.2.2.2.2.2.1 b.1.2.2.2.2.2.2.2.2.2.2.1 b.2.1 b.2.2.1 b.2.2.2.1),b.2.2.2.2.1)) (eC (YA u) (eC (X7 u) eN)) Tryz.func385
def Yi(i:D.Config)(j:D.Book)(c:D.Page):Option (D.Page×List Int):=atc j.Policies c.Policy fun k=>optc (Qbg u k c.Next) fun(C,I,J)=>atc k.Steps C fun h=>optc (QaH u i j h.Targets c.Due) fun(E,F,G)=>optc (Qt u E F G i c h) fun(e,f,a,b)=>lec (a.Starts.length+[(D.Start.mk a.Next a.Due (List.drop e (List.take f b)))].length) 34359738368 (join (Y:=(Unit×(Int×Int×Int×Int×Int×Int×Int×Int×Int×Int×Int×List Int×Unit)×D.Page×List D.Start×List Int×List Int×Unit)) (fun(_,(l,m,n,o,p,q,r,s,t,v,w,y,_),H,z,A,B,_)=>some ((D.Page.mk l m n o p q r s t v w z y A),B)) fun g=>cd (0<(((List.drop e (List.take f b)).length:Nat):Int)) (g ((),(a.ID,a.Policy,a.Start,(wrap .i64 (a.Next+1)),(wrap .i64 (a.Due+h.Wait)),a.State,a.By,a.Until,a.Last,a.Snoozes,a.Hands,[],()),(D.Page.mk 0 0 0 0 0 0 0 0 0 0 0 [] [] []),(a.Starts++[(D.Start.mk a.Next a.Due (List.drop e (List.take f b)))]),a.Seen,a.Declined,())) (g ((),(a.ID,a.Policy,a.Start,(wrap .i64 (a.Next+1)),a.Due,a.State,a.By,a.Until,a.Last,a.Snoozes,a.Hands,[],()),(D.Page.mk 0 0 0 0 0 0 0 0 0 0 0 [] [] []),(a.Starts++[(D.Start.mk a.Next a.Due (List.drop e (List.take f b)))]),a.Seen,a.Declined,())))
theorem QaC:FO 368 (Qd [.st .Config,.st .Book,.agg bF4] [ar 101 .Start,ar 102 .int,ar 103 .int] [.agg bF1] [ar 101 .Start,ar 102 .int,ar 103 .int] [] (D.Page×List Int) (fun q=>(((q.1.ID,q.1.Policy,q.1.Start,q.1.Next,q.1.Due,q.1.State,q.1.By,q.1.Until,q.1.Last,q.1.Snoozes,q.1.Hands,q.1.Declined,()),()),q.1.Starts,q.2,q.1.Seen,())) (fun x y=>Yi u x.1 x.2.1 (D.Page.mk x.2.2.1.1 x.2.2.1.2.1 x.2.2.1.2.2.1 x.2.2.1.2.2.2.1 x.2.2.1.2.2.2.2.1 x.2.2.1.2.2.2.2.2.1 x.2.2.1.2.2.2.2.2.2.1 x.2.2.1.2.2.2.2.2.2.2.1 x.2.2.1.2.2.2.2.2.2.2.2.1 x.2.2.1.2.2.2.2.2.2.2.2.2.1 x.2.2.1.2.2.2.2.2.2.2.2.2.2.1 y.1 y.2.1 y.2.2.1))):=fI u (gs 8 (.two (.join [rf 5,rf 6] [(1005,.box bF1),bx 1006 .Page,ar 101 .Start,ar 103 .int,ar 102 .int] .go) .go)) (fun a b=>((D.Page.mk a.1.1 a.1.2.1 a.1.2.2.1 a.1.2.2.2.1 a.1.2.2.2.2.1 a.1.2.2.2.2.2.1 a.1.2.2.2.2.2.2.1 a.1.2.2.2.2.2.2.2.1 a.1.2.2.2.2.2.2.2.2.1 a.1.2.2.2.2.2.2.2.2.2.1 a.1.2.2.2.2.2.2.2.2.2.2.1 b.1 a.1.2.2.2.2.2.2.2.2.2.2.2.1 b.2.2.1),b.2.1)) (eC (QlI u) (eC (Yt u) (eC (Qi4 u) eN))) Tryz.func368
def QaB(r:D.Config)(g:D.Book)(e:D.Page):Option (D.Page×Int):=optc (Wt u e) fun(f,s)=>optc (Yh u g e) fun t=>cnd (!t) (some ((D.Page.mk 0 0 0 0 0 0 0 0 0 0 0 [] [] []),8)) (cnd (!s) (some ((D.Page.mk 0 0 0 0 0 0 0 0 0 0 0 [] [] []),9)) (cd ((e.Starts.length:Int)=200) (some ((D.Page.mk 0 0 0 0 0 0 0 0 0 0 0 [] [] []),5)) (optc (Xz u e) fun a=>join (Y:=(Unit×(Int×Int×Int×Int×Int×Int×Int×Int×Int×Int×Int×List Int×Unit)×D.Page×List D.Start×List Int×Unit)) (fun(_,(v,w,y,z,A,B,h,i,j,k,l,m,_),C,n,o,_)=>some ((D.Page.mk v w y z A B h i j k l n m o),0)) fun c=>cd (a.State=2) (c ((),(a.ID,a.Policy,a.Start,a.Next,f,0,a.By,a.Until,(max a.Last f),a.Snoozes,a.Hands,a.Declined,()),(D.Page.mk 0 0 0 0 0 0 0 0 0 0 0 [] [] []),a.Starts,a.Seen,())) (atc g.Policies a.Policy fun p=>optc (Wz u p) fun q=>cd (a.Next=q) (c ((),(a.ID,a.Policy,a.Start,a.Next,a.Due,3,a.By,a.Until,(max a.Last f),a.Snoozes,a.Hands,a.Declined,()),(D.Page.mk 0 0 0 0 0 0 0 0 0 0 0 [] [] []),a.Starts,a.Seen,())) (optc (Yi u r g (D.Page.mk a.ID a.Policy a.Start a.Next a.Due a.State a.By a.Until (max a.Last f) a.Snoozes a.Hands a.Starts a.Declined a.Seen)) fun(b,E)=>c ((),(b.ID,b.Policy,b.Start,b.Next,b.Due,b.State,b.By,b.Until,b.Last,b.Snoozes,b.Hands,b.Declined,()),(D.Page.mk 0 0 0 0 0 0 0 0 0 0 0 [] [] []),b.Starts,b.Seen,()))))))
theorem QiZ:FO 352 (Qd [.st .Config,.st .Book,.st .Page] [] [.st .Page,nI] [] [] (D.Page×Int) kz2 (fun x y=>QaB u x.1 x.2.1 x.2.2.1)):=fI u (gs 5 (.two (.join [rf 5,rf 6] [(1005,.box [kI,kI,kI,kI,kI,kI,kI,kI,kI,kI,kI,.own 2039007,.lst .int,.own 2065007]),bx 1006 .Page,ar 2039007 .Start,ar 2065007 .int] .go) .go)) kz3 (eC (WJ u) (eC (Qbf u) (eC (VH u) (eC (VI u) (eC (QaC u) eN))))) Tryz.func352
def QbE(i:D.Config)(c:D.Book)(e:D.Page)(j:Int):Option (D.Page×Int):=optc (Yh u c e) fun k=>cnd (!k) (some ((D.Page.mk 0 0 0 0 0 0 0 0 0 0 0 [] [] []),8)) (optc (Xz u e) fun l=>Qg (X:=((Int×Unit)×D.Config×D.Book×D.Page×D.Page×Unit)) (fun m ((f,_),g,h,b,n,_)=>optc (UM u b f) fun o=>cnd o (optc (QaB u g h b) fun(p,a)=>cd (a≠0) (some ((D.Page.mk 0 0 0 0 0 0 0 0 0 0 0 [] [] []),a)) (m ((f,()),g,h,p,n,()))) (some (b,0))) u ((j,()),i,c,l,(D.Page.mk 0 0 0 0 0 0 0 0 0 0 0 [] [] []),()))
theorem Qkb:FO 333 (Qd [.st .Config,.st .Book,.st .Page,nI] [] [.st .Page,nI] [] [] (D.Page×Int) kz2 (fun x y=>QbE u x.1 x.2.1 x.2.2.1 x.2.2.2.1)):=fI u (gs 3 (lp [ni 3,rf 4,rf 5,rf 6,rf 8] [bx 1004 .Config,bx 1005 .Book,bx 1006 .Page,bx 1008 .Page] .go)) kz3 (eC (WJ u) (eC (VI u) (eC (QhZ u) (eC (QiZ u) eN)))) Tryz.func333
def Qfp(u:Nat)(a:D.Page):Option Int:=cd (a.State=2) (some (-1)) (some a.Next)
theorem Qnb:FO 287 (sI [.st .Page] fun x=>Qfp u x.1):=fI u .go kz0 eN Tryz.func287
def Ue(b:List Int)(h:Int):Option Int:=Qg (X:=(P3×List Int×Unit)) (fun i ((e,f,c,_),a,_)=>cd (c<f) (natc c fun g=>ltc g a.length (optc a[g]? fun j=>cd (e=j) (sameC a b (some c)) (i ((e,f,(wrap .i64 (c+1)),()),a,())))) (sameC a b (some (-1)))) u ((h,(b.length:Int),0,()),b,())
theorem Qe9:FO 239 (Qd [.one (.own 101),nI] [ar 101 .int] [nI] [] [101] Int kz1 (fun x y=>Ue u y.1 x.1)):=fI u (.two .go (lp [(0,.one (.own 101)),ni 1,ni 7,ni 8] [ar 101 .int] .go)) kz0 eN Tryz.func239
def Zn(a:List Int)(b:Int):Option Bool:=optc (Ue u a b) fun c=>sameC a a (some (decide (0<=c)))
theorem Ys:FO 171 (Qd [.one (.own 101),nI] [ar 101 .int] [.one .boo] [] [101] Bool kz1 (fun x y=>Zn u y.1 x.1)):=fI u .go kz0 (eC (Qe9 u) eN) Tryz.func171
def YC(u:Nat)(a:D.Page):Option (Int×Bool):=cd (a.State=0) (sameC a.Starts a.Starts (sameC a.Declined a.Declined (sameC a.Seen a.Seen (some (a.Due,true))))) (cd (a.State=2) (sameC a.Starts a.Starts (sameC a.Declined a.Declined (sameC a.Seen a.Seen (some (a.Until,true))))) (sameC a.Starts a.Starts (sameC a.Declined a.Declined (sameC a.Seen a.Seen (some (0,false))))))
theorem Qbv:FO 286 (Qd [.agg bF4] [ar 101 .Start,ar 102 .int,ar 103 .int] [nI,.one .boo] [] [101,102,103] (Int×Bool) kz2 (fun x y=>YC u (D.Page.mk x.1.1 x.1.2.1 x.1.2.2.1 x.1.2.2.2.1 x.1.2.2.2.2.1 x.1.2.2.2.2.2.1 x.1.2.2.2.2.2.2.1 x.1.2.2.2.2.2.2.2.1 x.1.2.2.2.2.2.2.2.2.1 x.1.2.2.2.2.2.2.2.2.2.1 x.1.2.2.2.2.2.2.2.2.2.2.1 y.1 y.2.1 y.2.2.1))):=fI u .go kz3 eN Tryz.func286
def Yj(a:D.Page)(b:Int):Option Bool:=optc (YC u a) fun(c,e)=>cnd e (cd (c<=b) (sameC a.Starts a.Starts (sameC a.Declined a.Declined (sameC a.Seen a.Seen sT))) (sameC a.Starts a.Starts (sameC a.Declined a.Declined (sameC a.Seen a.Seen sF)))) (sameC a.Starts a.Starts (sameC a.Declined a.Declined (sameC a.Seen a.Seen sF)))
theorem QaE:FO 351 (Qd [.agg bF4,nI] [ar 101 .Start,ar 102 .int,ar 103 .int] [.one .boo] [] [101,102,103] Bool kz1 (fun x y=>Yj u (D.Page.mk x.1.1 x.1.2.1 x.1.2.2.1 x.1.2.2.2.1 x.1.2.2.2.2.1 x.1.2.2.2.2.2.1 x.1.2.2.2.2.2.2.1 x.1.2.2.2.2.2.2.2.1 x.1.2.2.2.2.2.2.2.2.1 x.1.2.2.2.2.2.2.2.2.2.1 x.1.2.2.2.2.2.2.2.2.2.2.1 y.1 y.2.1 y.2.2.1) x.2.1)):=fI u .go kz0 (eC (Qbv u) eN) Tryz.func351
def ZU(a:D.Page)(k:D.Answer):Option Int:=join (Y:=((Bool×Unit)×P11×D.Answer×List D.Start×List Int×List Int×Unit)) (fun((t,_),(m,n,o,p,q,f,r,s,l,g,h,_),v,b,c,e,_)=>join (Y:=(Unit×List D.Start×List Int×List Int×Unit)) (fun(_,A,B,C,_)=>sameC A a.Starts (sameC B a.Declined (sameC C a.Seen (some 0)))) fun E=>cd (v.At<l) (sameC b a.Starts (sameC c a.Declined (sameC e a.Seen (some 6)))) (optc (Yj u (D.Page.mk m n o p q f r s l g h b c e) v.At) fun F=>cnd F (sameC b a.Starts (sameC c a.Declined (sameC e a.Seen (some 6)))) (join (Y:=((Bool×Bool×Unit)×P11×List D.Start×List Int×List Int×Unit)) (fun((G,H,_),(I,J,L,O,S,W,Z,aA,aB,aC,aD,_),y,z,w,_)=>cnd H (sameC y a.Starts (sameC z a.Declined (sameC w a.Seen (some 9)))) (cd ((w.length:Int)=64) (sameC y a.Starts (sameC z a.Declined (sameC w a.Seen (some 5)))) (cnd G (sameC y a.Starts (sameC z a.Declined (sameC w a.Seen (some 5)))) (E ((),y,z,w,()))))) fun j=>cd (f=4) (j ((t,(decide (f=4)),()),(m,n,o,p,q,f,r,s,l,g,h,()),b,c,e,())) (cd (f=3) (cd (v.Kind≠5) (j ((t,true,()),(m,n,o,p,q,f,r,s,l,g,h,()),b,c,e,())) (cd (f=1) (cd (v.Kind=2) (j ((t,true,()),(m,n,o,p,q,f,r,s,l,g,h,()),b,c,e,())) (j ((t,false,()),(m,n,o,p,q,f,r,s,l,g,h,()),b,c,e,()))) (j ((t,false,()),(m,n,o,p,q,f,r,s,l,g,h,()),b,c,e,())))) (cd (f=1) (cd (v.Kind=2) (j ((t,true,()),(m,n,o,p,q,f,r,s,l,g,h,()),b,c,e,())) (j ((t,false,()),(m,n,o,p,q,f,r,s,l,g,h,()),b,c,e,()))) (j ((t,false,()),(m,n,o,p,q,f,r,s,l,g,h,()),b,c,e,()))))))) fun i=>cd (k.Kind=3) (cd (a.Snoozes=4) (i ((true,()),(a.ID,a.Policy,a.Start,a.Next,a.Due,a.State,a.By,a.Until,a.Last,a.Snoozes,a.Hands,()),k,a.Starts,a.Declined,a.Seen,())) (cd (k.Kind=4) (cd (a.Hands=4) (i ((true,()),(a.ID,a.Policy,a.Start,a.Next,a.Due,a.State,a.By,a.Until,a.Last,a.Snoozes,a.Hands,()),k,a.Starts,a.Declined,a.Seen,())) (cd ((a.Starts.length:Int)=200) (i ((true,()),(a.ID,a.Policy,a.Start,a.Next,a.Due,a.State,a.By,a.Until,a.Last,a.Snoozes,a.Hands,()),k,a.Starts,a.Declined,a.Seen,())) (i ((false,()),(a.ID,a.Policy,a.Start,a.Next,a.Due,a.State,a.By,a.Until,a.Last,a.Snoozes,a.Hands,()),k,a.Starts,a.Declined,a.Seen,())))) (i ((false,()),(a.ID,a.Policy,a.Start,a.Next,a.Due,a.State,a.By,a.Until,a.Last,a.Snoozes,a.Hands,()),k,a.Starts,a.Declined,a.Seen,())))) (cd (k.Kind=4) (cd (a.Hands=4) (i ((true,()),(a.ID,a.Policy,a.Start,a.Next,a.Due,a.State,a.By,a.Until,a.Last,a.Snoozes,a.Hands,()),k,a.Starts,a.Declined,a.Seen,())) (cd ((a.Starts.length:Int)=200) (i ((true,()),(a.ID,a.Policy,a.Start,a.Next,a.Due,a.State,a.By,a.Until,a.Last,a.Snoozes,a.Hands,()),k,a.Starts,a.Declined,a.Seen,())) (i ((false,()),(a.ID,a.Policy,a.Start,a.Next,a.Due,a.State,a.By,a.Until,a.Last,a.Snoozes,a.Hands,()),k,a.Starts,a.Declined,a.Seen,())))) (i ((false,()),(a.ID,a.Policy,a.Start,a.Next,a.Due,a.State,a.By,a.Until,a.Last,a.Snoozes,a.Hands,()),k,a.Starts,a.Declined,a.Seen,())))
theorem UU:FO 335 (Qd [.agg bF4,.st .Answer] [ar 101 .Start,ar 102 .int,ar 103 .int] [nI] [] [101,102,103] Int kz1 (fun x y=>ZU u (D.Page.mk x.1.1 x.1.2.1 x.1.2.2.1 x.1.2.2.2.1 x.1.2.2.2.2.1 x.1.2.2.2.2.2.1 x.1.2.2.2.2.2.2.1 x.1.2.2.2.2.2.2.2.1 x.1.2.2.2.2.2.2.2.2.1 x.1.2.2.2.2.2.2.2.2.2.1 x.1.2.2.2.2.2.2.2.2.2.2.1 y.1 y.2.1 y.2.2.1) x.2.1)):=fI u (.two .go (.two (.join [rf 2,rf 3,(5,.one .boo)] [(1002,.box bF4),bx 1003 .Answer,ar 101 .Start,ar 102 .int,ar 103 .int] .go) (.two (.join [] [ar 101 .Start,ar 102 .int,ar 103 .int] (.one (gs 2 (.two (.join [rf 2,(5,.one .boo),(42,.one .boo)] [(1002,.box bF4),ar 101 .Start,ar 102 .int,ar 103 .int] .go) .go)))) .go))) kz0 (eC (QaE u) eN) Tryz.func335
def Z9(a:D.Page):Option (List Int):=cd ((a.Starts.length:Int)=0) (sameC a.Starts a.Starts (sameC a.Declined a.Declined (sameC a.Seen a.Seen (some [])))) (natc (wrap .i64 ((a.Starts.length:Int) - 1)) fun b=>ltc b a.Starts.length (optc a.Starts[b]? fun c=>optc (Qv u c.People) fun e=>sameC a.Starts a.Starts (sameC a.Declined a.Declined (sameC a.Seen a.Seen (some e)))))
theorem Qag:FO 353 (Qd [.agg bF4] [ar 101 .Start,ar 102 .int,ar 103 .int] [lI] [] [101,102,103] (List Int) kz1 (fun x y=>Z9 u (D.Page.mk x.1.1 x.1.2.1 x.1.2.2.1 x.1.2.2.2.1 x.1.2.2.2.2.1 x.1.2.2.2.2.2.1 x.1.2.2.2.2.2.2.1 x.1.2.2.2.2.2.2.2.1 x.1.2.2.2.2.2.2.2.2.1 x.1.2.2.2.2.2.2.2.2.2.1 x.1.2.2.2.2.2.2.2.2.2.2.1 y.1 y.2.1 y.2.2.1))):=fI u .go kz0 (eC (QX u) eN) Tryz.func353
def Zg(G:List Int)(q:Int)(H:Int):Option (List Int):=Qg (X:=(P3×List Int×Unit)) (fun I ((J,r,p,_),s,_)=>cd (p<r) (join (Y:=(P3×List Int×Unit)) (fun((L,O,S,_),W,_)=>I ((L,O,(wrap .i64 (S+1)),()),W,())) fun t=>Qg (X:=(P4×List Int×Unit)) (fun v ((f,h,i,g,_),b,_)=>join (Y:=(P4×List Int×Unit)) (fun((w,y,z,c,_),a,_)=>natc (wrap .i64 (c - 1)) fun l=>ltc l a.length (optc a[l]? fun j=>natc c fun m=>ltc m a.length (optc a[m]? fun A=>natc c fun e=>ltc e a.length (optc a[e]? fun Z=>natc (wrap .i64 (c - 1)) fun k=>ltc k (List.set a e j).length (optc (GetElem?.getElem? (List.set a e j) k) fun a0=>v ((w,y,z,(wrap .i64 (c - 1)),()),(List.set (List.set a e j) k A),())))))) fun B=>cd (f<g) (natc g fun n=>ltc n b.length (optc b[n]? fun C=>natc (wrap .i64 (g - 1)) fun o=>ltc o b.length (optc b[o]? fun E=>optc (Vu u C E) fun F=>cnd F (B ((f,h,i,g,()),b,())) (t ((f,h,i,()),b,()))))) (t ((f,h,i,()),b,()))) u ((J,r,p,p,()),s,())) (some s)) u ((q,H,(wrap .i64 (q+1)),()),G,())
theorem Vh:FO 389 (Qd [.one (.own 101),nI,nI] [ar 101 .int] [] [(101,.arrs .int)] [] (List Int) kz7 (fun x y=>Zg u y.1 x.1 x.2.1)):=fI u (.two .go (.one (.loop [(0,.one (.own 101)),ni 1,ni 2,ni 6] [ar 101 .int] (.two .go (.two (.join [(0,.one (.own 101)),ni 1,ni 2,ni 6] [ar 101 .int] (.one (.two .go (.one (.loop [(0,.one (.own 101)),ni 1,ni 2,ni 6,ni 7] [ar 101 .int] (.two (.join [(0,.one (.own 101)),ni 1,ni 2,ni 6,ni 7] [ar 101 .int] .go) .go)))))) .go))))) kz10 (eC (Qa7 u) eN) Tryz.func389
def YT(f:List Int)(g:Int)(h:Int)(i:Int):Option (List Int):=Qg (X:=((Int×Int×Int×Bool×Bool×Unit)×List Int×Unit)) (fun l ((a,b,j,k,m,_),c,_)=>cd ((wrap .i64 (b - a))<=12) (optc (Zg u c a b) fun e=>chk e.length c.length (some e)) (cd (j=0) none (cnd (!k) none none))) u ((g,h,i,true,true,()),f,())
theorem Qae:FO 369 (Qd [.one (.own 101),nI,nI,nI] [ar 101 .int] [] [(101,.arrs .int)] [] (List Int) kz7 (fun x y=>YT u y.1 x.1 x.2.1 x.2.2.1)):=fI u (gs 2 (.one (.loop [(0,.one (.own 101)),ni 1,ni 2,ni 3,(8,.one .boo),(9,.one .boo)] [ar 101 .int] .go))) kz10 (eC (Vh u) eN) Tryz.func369
def WR(a:List Int):Option (List Int):=optc (QaF u (IntKind.wrap .u64 (a.length:Int))) fun c=>optc (YT u a 0 (a.length:Int) c) fun b=>chk b.length a.length (some b)
theorem Qf1:FO 354 (Qd [.one (.own 101)] [ar 101 .int] [] [(101,.arrs .int)] [] (List Int) kz7 (fun x y=>WR u y.1)):=fI u .go kz10 (eC (Qae u) (eC (QdL u) eN)) Tryz.func354
def ZG(b:Int)(a:D.Page):Option (Bool×D.Page):=optc (Zn u a.Declined b) fun c=>some ((!c),a)
theorem Uh:FO 355 (Qd [nI,.one (.ref 101)] [(101,.box bF5),ar 102 .Start,ar 103 .int,ar 104 .int] [.one .boo] [(101,.box bF5),ar 102 .Start,ar 103 .int,ar 104 .int] [] (Bool×D.Page) kz11 (fun x y=>ZG u x.1 (D.Page.mk y.1.1 y.1.2.1 y.1.2.2.1 y.1.2.2.2.1 y.1.2.2.2.2.1 y.1.2.2.2.2.2.1 y.1.2.2.2.2.2.2.1 y.1.2.2.2.2.2.2.2.1 y.1.2.2.2.2.2.2.2.2.1 y.1.2.2.2.2.2.2.2.2.2.1 y.1.2.2.2.2.2.2.2.2.2.2.1 y.2.1 y.2.2.1 y.2.2.2.1))):=fI u .go kz13 (eC (Ys u) eN) Tryz.func355
def QN(l:List Int)(c101:D.Page):Option (Int×D.Page):=Qg (X:=((List Int×Int×Int×Unit)×P11×List D.Start×List Int×List Int×Unit)) (fun y ((m,n,b,_),(o,p,q,r,s,t,c,e,f,g,h,_),i,j,k,_)=>cd (b<n) (atc m b fun v=>optc (ZG u v (D.Page.mk o p q r s t c e f g h i j k)) fun(w,a)=>cnd w (some (b,a)) (y ((m,n,(wrap .i64 (b+1)),()),(a.ID,a.Policy,a.Start,a.Next,a.Due,a.State,a.By,a.Until,a.Last,a.Snoozes,a.Hands,()),a.Starts,a.Declined,a.Seen,()))) (some ((-1),(D.Page.mk o p q r s t c e f g h i j k)))) u ((l,(l.length:Int),0,()),((D.Page.ID c101),(D.Page.Policy c101),(D.Page.Start c101),(D.Page.Next c101),(D.Page.Due c101),(D.Page.State c101),(D.Page.By c101),(D.Page.Until c101),(D.Page.Last c101),(D.Page.Snoozes c101),(D.Page.Hands c101),()),(D.Page.Starts c101),(D.Page.Declined c101),(D.Page.Seen c101),())
theorem YB:FO 341 (Qd [lI,.one (.clo 355 [101])] [(101,.box bF5),ar 102 .Start,ar 103 .int,ar 104 .int] [nI] [(101,.box bF5),ar 102 .Start,ar 103 .int,ar 104 .int] [] (Int×D.Page) kz17 (fun x y=>QN u x.1 (D.Page.mk y.1.1 y.1.2.1 y.1.2.2.1 y.1.2.2.2.1 y.1.2.2.2.2.1 y.1.2.2.2.2.2.1 y.1.2.2.2.2.2.2.1 y.1.2.2.2.2.2.2.2.1 y.1.2.2.2.2.2.2.2.2.1 y.1.2.2.2.2.2.2.2.2.2.1 y.1.2.2.2.2.2.2.2.2.2.2.1 y.2.1 y.2.2.1 y.2.2.2.1))):=fI u (.two .go (lp [(0,lI),(1,.one (.clo 355 [101])),ni 7,ni 8] [(101,.box bF5),ar 102 .Start,ar 103 .int,ar 104 .int] .go)) (fun a b=>(a.1,(D.Page.mk b.1.1 b.1.2.1 b.1.2.2.1 b.1.2.2.2.1 b.1.2.2.2.2.1 b.1.2.2.2.2.2.1 b.1.2.2.2.2.2.2.1 b.1.2.2.2.2.2.2.2.1 b.1.2.2.2.2.2.2.2.2.1 b.1.2.2.2.2.2.2.2.2.2.1 b.1.2.2.2.2.2.2.2.2.2.2.1 b.2.1 b.2.2.1 b.2.2.2.1))) (eC (Uh u) eN) Tryz.func341
def Qs(a:List Int)(c101:D.Page):Option (Bool×D.Page):=optc (QN u a c101) fun(b,c)=>some ((decide (0<=b)),c)
theorem Yq:FO 307 (Qd [lI,.one (.clo 355 [101])] [(101,.box bF5),ar 102 .Start,ar 103 .int,ar 104 .int] [.one .boo] [(101,.box bF5),ar 102 .Start,ar 103 .int,ar 104 .int] [] (Bool×D.Page) kz11 (fun x y=>Qs u x.1 (D.Page.mk y.1.1 y.1.2.1 y.1.2.2.1 y.1.2.2.2.1 y.1.2.2.2.2.1 y.1.2.2.2.2.2.1 y.1.2.2.2.2.2.2.1 y.1.2.2.2.2.2.2.2.1 y.1.2.2.2.2.2.2.2.2.1 y.1.2.2.2.2.2.2.2.2.2.1 y.1.2.2.2.2.2.2.2.2.2.2.1 y.2.1 y.2.2.1 y.2.2.2.1))):=fI u .go kz13 (eC (YB u) eN) Tryz.func307
def ZO(a:D.Page)(c:D.Answer):Option D.Page:=optc (Z9 u a) fun n=>join (Y:=((List Int×Unit)×P11×D.Answer×D.Page×List D.Start×List Int×List Int×Unit)) (fun((z,_),(q,r,s,t,v,o,w,y,g,h,i,_),A,e,j,k,l,_)=>join (Y:=(Unit×P11×D.Page×List D.Start×List Int×List Int×Unit)) (fun(_,(B,C,E,F,G,H,I,J,L,O,S,_),aE,W,Z,aA,_)=>some (D.Page.mk B C E F G H I J L O S W Z aA)) fun f=>cd (o=0) (cd (0<(z.length:Int)) (optc (Qs u z (D.Page.mk q r s t v o w y g h i j k l)) fun(aB,b)=>cnd aB (f ((),(b.ID,b.Policy,b.Start,b.Next,b.Due,b.State,b.By,b.Until,b.Last,b.Snoozes,b.Hands,()),e,b.Starts,b.Declined,b.Seen,())) (f ((),(b.ID,b.Policy,b.Start,b.Next,A.At,b.State,b.By,b.Until,b.Last,b.Snoozes,b.Hands,()),e,b.Starts,b.Declined,b.Seen,()))) (f ((),(q,r,s,t,v,o,w,y,g,h,i,()),e,j,k,l,()))) (f ((),(q,r,s,t,v,o,w,y,g,h,i,()),e,j,k,l,()))) fun m=>optc (Yg u n c.Person) fun aC=>cnd aC (optc (Zn u a.Declined c.Person) fun aD=>cnd aD (m ((n,()),(a.ID,a.Policy,a.Start,a.Next,a.Due,a.State,a.By,a.Until,a.Last,a.Snoozes,a.Hands,()),c,(D.Page.mk 0 0 0 0 0 0 0 0 0 0 0 [] [] []),a.Starts,a.Declined,a.Seen,())) (lec (a.Declined.length+[c.Person].length) 34359738368 (optc (WR u (a.Declined++[c.Person])) fun p=>chk p.length (a.Declined++[c.Person]).length (m ((n,()),(a.ID,a.Policy,a.Start,a.Next,a.Due,a.State,a.By,a.Until,a.Last,a.Snoozes,a.Hands,()),c,(D.Page.mk 0 0 0 0 0 0 0 0 0 0 0 [] [] []),a.Starts,p,a.Seen,()))))) (m ((n,()),(a.ID,a.Policy,a.Start,a.Next,a.Due,a.State,a.By,a.Until,a.Last,a.Snoozes,a.Hands,()),c,(D.Page.mk 0 0 0 0 0 0 0 0 0 0 0 [] [] []),a.Starts,a.Declined,a.Seen,()))
theorem Uq:FO 336 (Qd [.agg bF4,.st .Answer] [ar 101 .Start,ar 102 .int,ar 103 .int] [.agg bF4] [ar 101 .Start,ar 102 .int,ar 103 .int] [] D.Page kz14 (fun x y=>ZO u (D.Page.mk x.1.1 x.1.2.1 x.1.2.2.1 x.1.2.2.2.1 x.1.2.2.2.2.1 x.1.2.2.2.2.2.1 x.1.2.2.2.2.2.2.1 x.1.2.2.2.2.2.2.2.1 x.1.2.2.2.2.2.2.2.2.1 x.1.2.2.2.2.2.2.2.2.2.1 x.1.2.2.2.2.2.2.2.2.2.2.1 y.1 y.2.1 y.2.2.1) x.2.1)):=fI u (gs 2 (.two (.join [rf 2,rf 3,rf 4,(5,lI)] [(1002,.box bF4),bx 1003 .Answer,bx 1004 .Page,ar 101 .Start,ar 102 .int,ar 103 .int] .go) (.two (.join [rf 2,rf 4] [(1002,.box bF4),bx 1004 .Page,ar 101 .Start,ar 102 .int,ar 103 .int] .go) .go))) (fun a b=>D.Page.mk a.1.1 a.1.2.1 a.1.2.2.1 a.1.2.2.2.1 a.1.2.2.2.2.1 a.1.2.2.2.2.2.1 a.1.2.2.2.2.2.2.1 a.1.2.2.2.2.2.2.2.1 a.1.2.2.2.2.2.2.2.2.1 a.1.2.2.2.2.2.2.2.2.2.1 a.1.2.2.2.2.2.2.2.2.2.2.1 b.1 b.2.1 b.2.2.1) (eC (Ys u) (eC (Wi u) (eC (Yq u) (eC (Qag u) (eC (Qf1 u) eN))))) Tryz.func336
def VG(p0:D.Config)(p1:D.Book)(w:D.Page)(y:D.Answer):Option (D.Page×Int):=join (Y:=(Unit×D.Page×D.Answer×D.Page×Unit)) (fun(_,z,f,A,_)=>cd (f.Page≠z.ID) (some ((D.Page.mk 0 0 0 0 0 0 0 0 0 0 0 [] [] []),3)) (optc (Xz u z) fun a=>optc (Zn u a.Seen f.ID) fun a4=>cnd a4 (some (a,0)) (optc (ZU u a f) fun B=>cd (B≠0) (some ((D.Page.mk 0 0 0 0 0 0 0 0 0 0 0 [] [] []),B)) (lec (a.Seen.length+[f.ID].length) 34359738368 (join (Y:=(Unit×P11×D.Answer×D.Page×List D.Start×List Int×List Int×Unit)) (fun(_,(o,p,q,r,l,t,s,m,aF,g,h,_),b,i,e,n,j,_)=>join (Y:=(Unit×P11×D.Page×List D.Start×List Int×List Int×Unit)) (fun(_,(C,E,F,G,H,I,J,L,O,S,W,_),aG,Z,aA,aB,_)=>some ((D.Page.mk C E F G H I J L O S W Z aA aB),0)) fun k=>cd (b.Kind=1) (k ((),(o,p,q,r,l,1,b.Person,m,b.At,g,h,()),i,e,n,j,())) (cd (b.Kind=2) (optc (ZO u (D.Page.mk o p q r l t s m b.At g h e n j) b) fun c=>k ((),(c.ID,c.Policy,c.Start,c.Next,c.Due,c.State,c.By,c.Until,c.Last,c.Snoozes,c.Hands,()),i,c.Starts,c.Declined,c.Seen,())) (cd (b.Kind=3) (k ((),(o,p,q,r,l,2,b.Person,(wrap .i64 (b.At+b.Arg)),b.At,(wrap .i64 (g+1)),h,()),i,e,n,j,())) (cd (b.Kind=4) (lec (e.length+[(D.Start.mk (-1) b.At [b.Arg])].length) 34359738368 (k ((),(o,p,q,r,(wrap .i64 (b.At+600)),0,s,m,b.At,g,(wrap .i64 (h+1)),()),i,(e++[(D.Start.mk (-1) b.At [b.Arg])]),[],j,()))) (cd (b.Kind=5) (k ((),(o,p,q,r,l,4,b.Person,m,b.At,g,h,()),i,e,n,j,())) (k ((),(o,p,q,r,l,t,s,m,b.At,g,h,()),i,e,n,j,()))))))) fun v=>cd (f.Kind=1) (cd (a.State=1) (some ((D.Page.mk a.ID a.Policy a.Start a.Next a.Due a.State a.By a.Until a.Last a.Snoozes a.Hands a.Starts a.Declined (a.Seen++[f.ID])),0)) (v ((),(a.ID,a.Policy,a.Start,a.Next,a.Due,a.State,a.By,a.Until,a.Last,a.Snoozes,a.Hands,()),f,A,a.Starts,a.Declined,(a.Seen++[f.ID]),()))) (v ((),(a.ID,a.Policy,a.Start,a.Next,a.Due,a.State,a.By,a.Until,a.Last,a.Snoozes,a.Hands,()),f,A,a.Starts,a.Declined,(a.Seen++[f.ID]),()))))))) fun aC=>optc (Yh u p1 w) fun aD=>cnd aD (optc (UT u y) fun aE=>cnd aE (aC ((),w,y,(D.Page.mk 0 0 0 0 0 0 0 0 0 0 0 [] [] []),())) (some ((D.Page.mk 0 0 0 0 0 0 0 0 0 0 0 [] [] []),8))) (some ((D.Page.mk 0 0 0 0 0 0 0 0 0 0 0 [] [] []),8))
theorem Qg8:FO 288 (Qd [.st .Config,.st .Book,.st .Page,.st .Answer] [] [.st .Page,nI] [] [] (D.Page×Int) kz2 (fun x y=>VG u x.1 x.2.1 x.2.2.1 x.2.2.2.1)):=fI u (.two .go (.two (.join [rf 6,rf 7,rf 8] [bx 1006 .Page,bx 1007 .Answer,bx 1008 .Page] .go) (gs 5 (.two (.join [rf 6,rf 7,rf 8] [(1006,.box bF0),bx 1007 .Answer,bx 1008 .Page,ar 2035007 .Start,ar 2058007 .int,ar 2061007 .int] .go) (.two .go (.two (.join [rf 6,rf 8] [(1006,.box bF0),bx 1008 .Page,ar 2035007 .Start,ar 2058007 .int,ar 2061007 .int] .go) .go)))))) kz3 (eC (Qea u) (eC (Ys u) (eC (WJ u) (eC (VI u) (eC (UU u) (eC (Uq u) eN)))))) Tryz.func288
def Qor(a:D.Config)(b:Int):Option (D.Config×Int):=optc (WK u a) fun c=>cd (c≠0) (some ((D.Config.mk [] [] [] []),8)) (optc (QdC u a b) fun e=>cnd (!e) (some ((D.Config.mk [] [] [] []),3)) none)
theorem Qos:FO 337 (Qd [.st .Config,nI] [] [.st .Config,nI] [] [] (D.Config×Int) kz2 (fun x y=>Qor u x.1 x.2.1)):=fI u .go kz3 (eC (Qak u) (eC (Qgh u) eN)) Tryz.func337
def Ql9(c:D.Config)(a:Int)(f:D.Edit):Option (D.Config×Int):=optc (Qor u c a) fun(e,b)=>cd (b≠0) (some ((D.Config.mk [] [] [] []),b)) (atc e.Schedules a fun g=>none)
theorem QmU:FO 290 (Qd [.st .Config,nI,.st .Edit] [] [.st .Config,nI] [] [] (D.Config×Int) kz2 (fun x y=>Ql9 u x.1 x.2.1 x.2.2.1)):=fI u .go kz3 (eC (Qos u) eN) Tryz.func290
end
end
/-
  What functions do, reckoned from their code, and their contracts. Printed by wip/gen/brun.py.
-/
noncomputable section
abbrev bG0:List Sh:=[kI,.lst .Zone,.lst .Person,.lst .Calendar,.lst .Schedule,.lst .Team,.lst .Policy,.own 102,kI,kI,.own 103,.own 104]
abbrev bG1:List Sh:=[kI,kI,kI,kI,.own 1012005,kI,.own 1012008,.own 1012011]
abbrev bG2:List Sh:=[kI,kI,kI,kI,.own 1013005,kI,.own 1013008,.own 1013011]
variable (u:Nat)
def QF(c:List D.Page)(n:Int):Option (Int×Bool):=Qg (X:=(P4×List D.Page×Unit)) (fun j ((f,h,a,e,_),b,_)=>cd (a<e) (natc 1 fun i=>natc (wrap .i64 (Int.fdiv (IntKind.wrap .u64 (wrap .i64 (a+e))) (HPow.hPow 2 (min i (Go.IntKind.bits Go.IntKind.u64))))) fun k=>ltc k b.length (optc b[k]? fun o=>optc (Wu u o f) fun p=>cd (p<0) (j ((f,h,(wrap .i64 ((wrap .i64 (Int.fdiv (IntKind.wrap .u64 (wrap .i64 (a+e))) (HPow.hPow 2 (min i (Go.IntKind.bits Go.IntKind.u64)))))+1)),e,()),b,())) (j ((f,h,a,(wrap .i64 (Int.fdiv (IntKind.wrap .u64 (wrap .i64 (a+e))) (HPow.hPow 2 (min i (Go.IntKind.bits Go.IntKind.u64))))),()),b,())))) (cd (a<h) (natc a fun g=>ltc g b.length (optc b[g]? fun l=>optc (Wu u l f) fun m=>cd (m=0) (sameC b c (some (a,true))) (sameC b c (some (a,false))))) (sameC b c (some (a,false))))) u ((n,(c.length:Int),0,(c.length:Int),()),c,())
theorem Xo:FO 305 (Qd [.one (.own 101),nI,.one (.fv 306)] [ar 101 .Page] [nI,.one .boo] [] [101] (Int×Bool) kz2 (fun x y=>QF u y.1 x.1)):=fI u (gs 3 (.two (.one (.loop [(0,.one (.own 101)),ni 1,(2,.one (.fv 306)),ni 8,ni 9,ni 10] [ar 101 .Page] .go)) .go)) kz3 (eC (Qez u) eN) Tryz.func305
def Z3(a:D.Ledger)(b:Int):Option (Int×Bool):=optc (QF u a.Pages b) fun(c,e)=>sameC a.Pages a.Pages (sameC a.Seen a.Seen (sameC a.Calls a.Calls (some (c,e))))
theorem XS:FO 220 (Qd [.agg [kI,.lst .Zone,.lst .Person,.lst .Calendar,.lst .Schedule,.lst .Team,.lst .Policy,.own 101,kI,kI,.own 102,.own 103],nI] [ar 101 .Page,ar 102 .int,ar 103 .Call] [nI,.one .boo] [] [101,102,103] (Int×Bool) kz2 (fun x y=>Z3 u (D.Ledger.mk x.1.1 (D.Config.mk x.1.2.1 x.1.2.2.1 x.1.2.2.2.1 x.1.2.2.2.2.1) (D.Book.mk x.1.2.2.2.2.2.1 x.1.2.2.2.2.2.2.1) y.1 x.1.2.2.2.2.2.2.2.1 x.1.2.2.2.2.2.2.2.2.1 y.2.1 y.2.2.1) x.2.1)):=fI u .go kz3 (eC (Xo u) eN) Tryz.func220
def Q3(a:D.worker)(p1:Int)(p2:Int):Option D.worker:=natc p1 fun W=>ltc W a.Ledger.Pages.length (optc a.Ledger.Pages[W]? fun i=>natc p2 fun O=>lec O i.Starts.length (Qg (X:=((List D.Start×Int×Int×Unit)×(Int×List D.Zone×List D.Person×List D.Calendar×List D.Schedule×List D.Team×List D.Policy×Int×Int×Unit)×D.Page×List D.Page×List Int×List D.Call×Unit)) (fun L3 ((Z,a5,S,_),(a7,a8,a9,j,k,l,m,n,o,_),a3,p,q,r,_)=>cd (S<a5) (atc Z S fun f=>Qg (X:=((List D.Start×Int×Int×List Int×Int×Int×Unit)×(Int×List D.Zone×List D.Person×List D.Calendar×List D.Schedule×List D.Team×List D.Policy×Int×Int×Unit)×D.Page×D.Start×List D.Page×List Int×List D.Call×Unit)) (fun aA ((s,t,v,w,y,g,_),(z,A,B,C,E,F,G,H,c,_),e,b,I,J,h,_)=>cd (g<y) (atc w g fun L=>lec (h.length+[(D.Call.mk e.ID b.K b.At L c)].length) 34359738368 (aA ((s,t,v,w,y,(wrap .i64 (g+1)),()),(z,A,B,C,E,F,G,H,c,()),e,b,I,J,(h++[(D.Call.mk e.ID b.K b.At L c)]),()))) (L3 ((s,t,(wrap .i64 (v+1)),()),(z,A,B,C,E,F,G,H,c,()),e,I,J,h,()))) u ((Z,a5,S,f.People,(f.People.length:Int),0,()),(a7,a8,a9,j,k,l,m,n,o,()),a3,f,p,q,r,())) (some (D.worker.mk (D.Ledger.mk a7 (D.Config.mk a8 a9 j k) (D.Book.mk l m) p n o q r)))) u (((List.drop O i.Starts),(((List.drop O i.Starts).length:Nat):Int),0,()),(a.Ledger.Now,a.Ledger.Config.Zones,a.Ledger.Config.People,a.Ledger.Config.Calendars,a.Ledger.Config.Schedules,a.Ledger.Book.Teams,a.Ledger.Book.Policies,a.Ledger.Owner,a.Ledger.Fence,()),i,a.Ledger.Pages,a.Ledger.Seen,a.Ledger.Calls,())))
theorem XL:FO 289 (Qd [.one (.ref 101),nI,nI] [(101,.box bG0),ar 102 .Page,ar 103 .int,ar 104 .Call] [] [(101,.box bG0),ar 102 .Page,ar 103 .int,ar 104 .Call] [] D.worker kz12 (fun x y=>Q3 u (D.worker.mk (D.Ledger.mk y.1.1 (D.Config.mk y.1.2.1 y.1.2.2.1 y.1.2.2.2.1 y.1.2.2.2.2.1) (D.Book.mk y.1.2.2.2.2.2.1 y.1.2.2.2.2.2.2.1) y.2.1 y.1.2.2.2.2.2.2.2.1 y.1.2.2.2.2.2.2.2.2.1 y.2.2.1 y.2.2.2.1)) x.1 x.2.1)):=fI u (gs 2 (.one (.loop [(0,.one (.ref 101)),rf 6,li 22 .Start,ni 23,ni 24] [(101,.box bG0),bx 1006 .Page,ar 102 .Page,ar 103 .int,ar 104 .Call] (gs 2 (.two (.one (gs 2 (.one (.loop [(0,.one (.ref 101)),rf 6,rf 8,li 22 .Start,ni 23,ni 24,(29,lI),ni 30,ni 31] [(101,.box bG0),bx 1006 .Page,bx 1008 .Start,ar 102 .Page,ar 103 .int,ar 104 .Call] .go)))) .go))))) kz15 eN Tryz.func289
def QU(a:D.worker)(b:Int):Option D.worker:=natc b fun e=>ltc e a.Ledger.Pages.length (optc a.Ledger.Pages[e]? fun g=>optc (QbE u a.Ledger.Config a.Ledger.Book g a.Ledger.Now) fun(h,i)=>cd (i≠0) (some a) (natc b fun f=>ltc f a.Ledger.Pages.length (optc a.Ledger.Pages[f]? fun j=>natc b fun c=>ltc c a.Ledger.Pages.length (optc a.Ledger.Pages[c]? fun l=>optc (Q3 u (D.worker.mk (D.Ledger.mk a.Ledger.Now a.Ledger.Config a.Ledger.Book (List.set a.Ledger.Pages c h) a.Ledger.Owner a.Ledger.Fence a.Ledger.Seen a.Ledger.Calls)) b (j.Starts.length:Int)) fun k=>some k))))
theorem ZJ:FO 285 (Qd [.one (.ref 101),nI] [(101,.box bG0),ar 102 .Page,ar 103 .int,ar 104 .Call] [] [(101,.box bG0),ar 102 .Page,ar 103 .int,ar 104 .Call] [] D.worker kz12 (fun x y=>QU u (D.worker.mk (D.Ledger.mk y.1.1 (D.Config.mk y.1.2.1 y.1.2.2.1 y.1.2.2.2.1 y.1.2.2.2.2.1) (D.Book.mk y.1.2.2.2.2.2.1 y.1.2.2.2.2.2.2.1) y.2.1 y.1.2.2.2.2.2.2.2.1 y.1.2.2.2.2.2.2.2.2.1 y.2.2.1 y.2.2.2.1)) x.1)):=fI u .go kz15 (eC (XL u) (eC (Qkb u) eN)) Tryz.func285
def ZX(a:D.worker)(b:D.Op):Option (Int×D.worker):=optc (Z3 u a.Ledger b.Page) fun(c,f)=>cnd f (some (4,a)) (cd ((a.Ledger.Pages.length:Int)=64) (some (5,a)) (optc (Qem u a.Ledger.Book b.Page b.Policy a.Ledger.Now) fun(g,e)=>cd (e≠0) (some (e,a)) (optc (QA u a.Ledger.Pages c [g]) fun h=>optc (QU u (D.worker.mk (D.Ledger.mk a.Ledger.Now a.Ledger.Config a.Ledger.Book h a.Ledger.Owner a.Ledger.Fence a.Ledger.Seen a.Ledger.Calls)) c) fun i=>some (0,i))))
theorem U1:FO 199 (Qd [.one (.ref 101),.st .Op] [(101,.box bG0),ar 102 .Page,ar 103 .int,ar 104 .Call] [nI] [(101,.box bG0),ar 102 .Page,ar 103 .int,ar 104 .Call] [] (Int×D.worker) kz4 (fun x y=>ZX u (D.worker.mk (D.Ledger.mk y.1.1 (D.Config.mk y.1.2.1 y.1.2.2.1 y.1.2.2.2.1 y.1.2.2.2.2.1) (D.Book.mk y.1.2.2.2.2.2.1 y.1.2.2.2.2.2.2.1) y.2.1 y.1.2.2.2.2.2.2.2.1 y.1.2.2.2.2.2.2.2.2.1 y.2.2.1 y.2.2.2.1)) x.1)):=fI u .go kz5 (eC (XS u) (eC (Qka u) (eC (QcO u) (eC (ZJ u) eN)))) Tryz.func199
def Ya(u:Nat)(a:D.worker)(b:D.Op):Option (Int×D.worker):=cd (b.Fence≠(wrap .i64 (a.Ledger.Fence+1))) (some (23,a)) (some (0,(D.worker.mk (D.Ledger.mk a.Ledger.Now a.Ledger.Config a.Ledger.Book a.Ledger.Pages b.Region b.Fence a.Ledger.Seen a.Ledger.Calls))))
theorem Qaj:FO 200 (Qd [.one (.ref 101),.st .Op] [(101,.box bG0),ar 102 .Page,ar 103 .int,ar 104 .Call] [nI] [(101,.box bG0),ar 102 .Page,ar 103 .int,ar 104 .Call] [] (Int×D.worker) kz4 (fun x y=>Ya u (D.worker.mk (D.Ledger.mk y.1.1 (D.Config.mk y.1.2.1 y.1.2.2.1 y.1.2.2.2.1 y.1.2.2.2.2.1) (D.Book.mk y.1.2.2.2.2.2.1 y.1.2.2.2.2.2.2.1) y.2.1 y.1.2.2.2.2.2.2.2.1 y.1.2.2.2.2.2.2.2.2.1 y.2.2.1 y.2.2.2.1)) x.1)):=fI u .go kz5 eN Tryz.func200
def ZQ(a:D.worker)(r:D.Op):Option (Int×D.worker):=join (Y:=(Unit×(Int×List D.Zone×List D.Person×List D.Calendar×List D.Schedule×List D.Team×List D.Policy×Int×Int×Unit)×D.Op×List D.Page×List Int×List D.Call×Unit)) (fun(_,(f,g,h,i,j,k,l,m,n,_),s,b,c,e,_)=>optc (Z3 u (D.Ledger.mk f (D.Config.mk g h i j) (D.Book.mk k l) b m n c e) s.Page) fun(o,t)=>cnd (!t) (some (3,(D.worker.mk (D.Ledger.mk f (D.Config.mk g h i j) (D.Book.mk k l) b m n c e)))) (natc o fun p=>ltc p b.length (optc b[p]? fun q=>join (Y:=((Int×Unit)×(Int×List D.Zone×List D.Person×List D.Calendar×List D.Schedule×List D.Team×List D.Policy×Int×Int×Unit)×List D.Page×List Int×List D.Call×Unit)) (fun((v,_),(w,y,z,A,B,C,E,F,G,_),H,I,J,_)=>optc (QU u (D.worker.mk (D.Ledger.mk w (D.Config.mk y z A B) (D.Book.mk C E) H F G I J)) v) fun L=>some (0,L)) fun O=>optc (Wt u q) fun(S,W)=>cnd W (cd (f<S) (some (9,(D.worker.mk (D.Ledger.mk f (D.Config.mk g h i j) (D.Book.mk k l) b m n c e)))) (optc (Qfp u q) fun Z=>cd (Z≠s.K) (some (9,(D.worker.mk (D.Ledger.mk f (D.Config.mk g h i j) (D.Book.mk k l) b m n c e)))) (O ((o,()),(f,g,h,i,j,k,l,m,n,()),b,c,e,())))) (some (9,(D.worker.mk (D.Ledger.mk f (D.Config.mk g h i j) (D.Book.mk k l) b m n c e))))))) fun aA=>cd (r.Region≠a.Ledger.Owner) (some (23,a)) (cd (r.Fence≠a.Ledger.Fence) (some (23,a)) (aA ((),(a.Ledger.Now,a.Ledger.Config.Zones,a.Ledger.Config.People,a.Ledger.Config.Calendars,a.Ledger.Config.Schedules,a.Ledger.Book.Teams,a.Ledger.Book.Policies,a.Ledger.Owner,a.Ledger.Fence,()),r,a.Ledger.Pages,a.Ledger.Seen,a.Ledger.Calls,())))
theorem Us:FO 201 (Qd [.one (.ref 101),.st .Op] [(101,.box bG0),ar 102 .Page,ar 103 .int,ar 104 .Call] [nI] [(101,.box bG0),ar 102 .Page,ar 103 .int,ar 104 .Call] [] (Int×D.worker) kz4 (fun x y=>ZQ u (D.worker.mk (D.Ledger.mk y.1.1 (D.Config.mk y.1.2.1 y.1.2.2.1 y.1.2.2.2.1 y.1.2.2.2.2.1) (D.Book.mk y.1.2.2.2.2.2.1 y.1.2.2.2.2.2.2.1) y.2.1 y.1.2.2.2.2.2.2.2.1 y.1.2.2.2.2.2.2.2.2.1 y.2.2.1 y.2.2.2.1)) x.1)):=fI u (.two .go (.two (.join [(0,.one (.ref 101)),rf 3] [(101,.box bG0),bx 1003 .Op,ar 102 .Page,ar 103 .int,ar 104 .Call] .go) (gs 3 (.two (.join [(0,.one (.ref 101)),ni 5] [(101,.box bG0),ar 102 .Page,ar 103 .int,ar 104 .Call] .go) .go)))) kz5 (eC (XS u) (eC (ZJ u) (eC (VH u) (eC (Qnb u) eN)))) Tryz.func201
def ZI(e:D.worker)(b:D.Op):Option (Int×D.worker):=optc (Z3 u e.Ledger b.Answer.Page) fun(c,k)=>cnd (!k) (some (3,e)) (optc (QU u e c) fun a=>natc c fun g=>ltc g a.Ledger.Pages.length (optc a.Ledger.Pages[g]? fun l=>optc (VG u a.Ledger.Config a.Ledger.Book l (D.Answer.mk b.Answer.ID b.Answer.Page b.Answer.Person b.Answer.Kind b.Answer.Arg a.Ledger.Now)) fun(m,h)=>cd (h≠0) (some (h,a)) (natc c fun i=>ltc i a.Ledger.Pages.length (optc a.Ledger.Pages[i]? fun n=>natc c fun f=>ltc f a.Ledger.Pages.length (optc a.Ledger.Pages[f]? fun o=>optc (Q3 u (D.worker.mk (D.Ledger.mk a.Ledger.Now a.Ledger.Config a.Ledger.Book (List.set a.Ledger.Pages f m) a.Ledger.Owner a.Ledger.Fence a.Ledger.Seen a.Ledger.Calls)) c (n.Starts.length:Int)) fun j=>some (0,j))))))
theorem Ui:FO 202 (Qd [.one (.ref 101),.st .Op] [(101,.box bG0),ar 102 .Page,ar 103 .int,ar 104 .Call] [nI] [(101,.box bG0),ar 102 .Page,ar 103 .int,ar 104 .Call] [] (Int×D.worker) kz4 (fun x y=>ZI u (D.worker.mk (D.Ledger.mk y.1.1 (D.Config.mk y.1.2.1 y.1.2.2.1 y.1.2.2.2.1 y.1.2.2.2.2.1) (D.Book.mk y.1.2.2.2.2.2.1 y.1.2.2.2.2.2.2.1) y.2.1 y.1.2.2.2.2.2.2.2.1 y.1.2.2.2.2.2.2.2.2.1 y.2.2.1 y.2.2.2.1)) x.1)):=fI u .go kz5 (eC (XS u) (eC (ZJ u) (eC (Qg8 u) (eC (XL u) eN)))) Tryz.func202
def Ww(b:D.worker)(O:D.Op):Option (Int×D.worker):=Qg (X:=((Int×Int×Unit)×(Int×List D.Zone×List D.Person×List D.Calendar×List D.Schedule×List D.Team×List D.Policy×Int×Int×Unit)×D.Op×List D.Page×List Int×List D.Call×Unit)) (fun S ((v,m,_),(n,o,p,q,r,s,t,e,f,_),g,h,i,j,_)=>cd (m<v) (optc (QU u (D.worker.mk (D.Ledger.mk n (D.Config.mk o p q r) (D.Book.mk s t) h e f i j)) m) fun a=>S ((v,(wrap .i64 (m+1)),()),(a.Ledger.Now,a.Ledger.Config.Zones,a.Ledger.Config.People,a.Ledger.Config.Calendars,a.Ledger.Config.Schedules,a.Ledger.Book.Teams,a.Ledger.Book.Policies,a.Ledger.Owner,a.Ledger.Fence,()),g,a.Ledger.Pages,a.Ledger.Seen,a.Ledger.Calls,())) (optc (Ql9 u (D.Config.mk o p q r) g.Schedule g.Edit) fun(c,k)=>join (Y:=((Int×Unit)×(Int×List D.Zone×List D.Person×List D.Calendar×List D.Schedule×List D.Team×List D.Policy×Int×Int×Unit)×List D.Page×List Int×List D.Call×Unit)) (fun((w,_),(y,z,A,B,C,E,F,G,H,_),I,J,L,_)=>some (w,(D.worker.mk (D.Ledger.mk y (D.Config.mk z A B C) (D.Book.mk E F) I G H J L)))) fun l=>cd (k=0) (l ((k,()),(n,c.Zones,c.People,c.Calendars,c.Schedules,s,t,e,f,()),h,i,j,())) (l ((k,()),(n,o,p,q,r,s,t,e,f,()),h,i,j,())))) u (((b.Ledger.Pages.length:Int),0,()),(b.Ledger.Now,b.Ledger.Config.Zones,b.Ledger.Config.People,b.Ledger.Config.Calendars,b.Ledger.Config.Schedules,b.Ledger.Book.Teams,b.Ledger.Book.Policies,b.Ledger.Owner,b.Ledger.Fence,()),O,b.Ledger.Pages,b.Ledger.Seen,b.Ledger.Calls,())
theorem U0:FO 203 (Qd [.one (.ref 101),.st .Op] [(101,.box bG0),ar 102 .Page,ar 103 .int,ar 104 .Call] [nI] [(101,.box bG0),ar 102 .Page,ar 103 .int,ar 104 .Call] [] (Int×D.worker) kz4 (fun x y=>Ww u (D.worker.mk (D.Ledger.mk y.1.1 (D.Config.mk y.1.2.1 y.1.2.2.1 y.1.2.2.2.1 y.1.2.2.2.2.1) (D.Book.mk y.1.2.2.2.2.2.1 y.1.2.2.2.2.2.2.1) y.2.1 y.1.2.2.2.2.2.2.2.1 y.1.2.2.2.2.2.2.2.2.1 y.2.2.1 y.2.2.2.1)) x.1)):=fI u (.two .go (.two (.two .go (.one (.loop [(0,.one (.ref 101)),rf 3,ni 13,ni 14] [(101,.box bG0),bx 1003 .Op,ar 102 .Page,ar 103 .int,ar 104 .Call] .go))) (.two .go (.two (.join [ni 7] [(101,.box bG0),ar 102 .Page,ar 103 .int,ar 104 .Call] .go) .go)))) kz5 (eC (ZJ u) (eC (QmU u) eN)) Tryz.func203
def Qdc(k:D.Ledger)(l:D.Op):Option (D.Ledger×Int×Bool):=join (Y:=(Unit×D.Ledger×D.Op×D.Ledger×Unit)) (fun(_,m,b,j,_)=>optc (UZ u m) fun a=>optc (Zn u a.Seen b.ID) fun H=>cnd H (some (a,0,true)) (cd ((a.Seen.length:Int)=256) (some (m,5,false)) (lec (a.Seen.length+[b.ID].length) 34359738368 (join (Y:=((Int×Unit)×D.Ledger×(Int×List D.Zone×List D.Person×List D.Calendar×List D.Schedule×List D.Team×List D.Policy×Int×Int×Unit)×List D.Page×List Int×List D.Call×Unit)) (fun((I,_),S,(J,L,O,n,o,p,q,r,s,_),t,v,w,_)=>some ((D.Ledger.mk J (D.Config.mk L O n o) (D.Book.mk p q) t r s v w),I,true)) fun i=>cd (b.Kind=1) (optc (ZX u (D.worker.mk (D.Ledger.mk (max a.Now b.At) a.Config a.Book a.Pages a.Owner a.Fence (a.Seen++[b.ID]) a.Calls)) b) fun(y,c)=>i ((y,()),j,(c.Ledger.Now,c.Ledger.Config.Zones,c.Ledger.Config.People,c.Ledger.Config.Calendars,c.Ledger.Config.Schedules,c.Ledger.Book.Teams,c.Ledger.Book.Policies,c.Ledger.Owner,c.Ledger.Fence,()),c.Ledger.Pages,c.Ledger.Seen,c.Ledger.Calls,())) (cd (b.Kind=2) (optc (Ya u (D.worker.mk (D.Ledger.mk (max a.Now b.At) a.Config a.Book a.Pages a.Owner a.Fence (a.Seen++[b.ID]) a.Calls)) b) fun(z,e)=>i ((z,()),j,(e.Ledger.Now,e.Ledger.Config.Zones,e.Ledger.Config.People,e.Ledger.Config.Calendars,e.Ledger.Config.Schedules,e.Ledger.Book.Teams,e.Ledger.Book.Policies,e.Ledger.Owner,e.Ledger.Fence,()),e.Ledger.Pages,e.Ledger.Seen,e.Ledger.Calls,())) (cd (b.Kind=3) (optc (ZQ u (D.worker.mk (D.Ledger.mk (max a.Now b.At) a.Config a.Book a.Pages a.Owner a.Fence (a.Seen++[b.ID]) a.Calls)) b) fun(A,f)=>i ((A,()),j,(f.Ledger.Now,f.Ledger.Config.Zones,f.Ledger.Config.People,f.Ledger.Config.Calendars,f.Ledger.Config.Schedules,f.Ledger.Book.Teams,f.Ledger.Book.Policies,f.Ledger.Owner,f.Ledger.Fence,()),f.Ledger.Pages,f.Ledger.Seen,f.Ledger.Calls,())) (cd (b.Kind=4) (optc (ZI u (D.worker.mk (D.Ledger.mk (max a.Now b.At) a.Config a.Book a.Pages a.Owner a.Fence (a.Seen++[b.ID]) a.Calls)) b) fun(B,g)=>i ((B,()),j,(g.Ledger.Now,g.Ledger.Config.Zones,g.Ledger.Config.People,g.Ledger.Config.Calendars,g.Ledger.Config.Schedules,g.Ledger.Book.Teams,g.Ledger.Book.Policies,g.Ledger.Owner,g.Ledger.Fence,()),g.Ledger.Pages,g.Ledger.Seen,g.Ledger.Calls,())) (optc (Ww u (D.worker.mk (D.Ledger.mk (max a.Now b.At) a.Config a.Book a.Pages a.Owner a.Fence (a.Seen++[b.ID]) a.Calls)) b) fun(C,h)=>i ((C,()),j,(h.Ledger.Now,h.Ledger.Config.Zones,h.Ledger.Config.People,h.Ledger.Config.Calendars,h.Ledger.Config.Schedules,h.Ledger.Book.Teams,h.Ledger.Book.Policies,h.Ledger.Owner,h.Ledger.Fence,()),h.Ledger.Pages,h.Ledger.Seen,h.Ledger.Calls,()))))))))) fun E=>optc (Xm u k) fun F=>cnd F (optc (Ur u l) fun G=>cnd G (E ((),k,l,(D.Ledger.mk 0 (D.Config.mk [] [] [] []) (D.Book.mk [] []) [] 0 0 [] []),())) (some (k,8,false))) (some (k,8,false))
theorem QlA:FO 121 (Qd [.st .Ledger,.st .Op] [] [.st .Ledger,nI,.one .boo] [] [] (D.Ledger×Int×Bool) kz18 (fun x y=>Qdc u x.1 x.2.1)):=fI u (.two .go (.two (.join [rf 2,rf 3,rf 4] [bx 1002 .Ledger,bx 1003 .Op,bx 1004 .Ledger] .go) (gs 5 (.two (.join [rf 4,(7,.one (.ref 1021)),ni 8] [bx 1004 .Ledger,(1021,.box [kI,.lst .Zone,.lst .Person,.lst .Calendar,.lst .Schedule,.lst .Team,.lst .Policy,.own 3079007,kI,kI,.own 2074007,.own 2077007]),ar 3079007 .Page,ar 2074007 .int,ar 2077007 .Call] .go) .go)))) kz20 (eC (Vc u) (eC (Qb8 u) (eC (Qey u) (eC (Ys u) (eC (U1 u) (eC (Qaj u) (eC (Us u) (eC (Ui u) (eC (U0 u) eN))))))))) Tryz.func121
def XK(i:D.Ledger)(e:List D.Op):Option (D.Ledger×List Int):=optc (UZ u i) fun j=>Qg (X:=((List D.Op×Int×Int×Unit)×D.Ledger×D.Ledger×List Int×Unit)) (fun k ((f,g,b,_),h,l,c,_)=>cd (b<g) (atc f b fun m=>optc (Qdc u h m) fun(n,a,o)=>lec (c.length+[a].length) 34359738368 (k ((f,g,(wrap .i64 (b+1)),()),n,l,(c++[a]),()))) (some (h,c))) u ((e,(e.length:Int),0,()),j,(D.Ledger.mk 0 (D.Config.mk [] [] [] []) (D.Book.mk [] []) [] 0 0 [] []),[],())
theorem VN:FO 70 (Qd [.st .Ledger,.one (.lst .Op)] [] [.st .Ledger,lI] [] [] (D.Ledger×List Int) kz2 (fun x y=>XK u x.1 x.2.1)):=fI u (gs 3 (lp [rf 2,rf 4,(6,.one (.own 1028)),li 12 .Op,ni 13,ni 14] [bx 1002 .Ledger,bx 1004 .Ledger,ar 1028 .int] .go)) kz3 (eC (Qey u) (eC (QlA u) eN)) Tryz.func70
def QdQ(a:List Int):Option Int:=cd ((a.length:Int)<1) none (natc 0 fun e=>ltc e a.length (optc a[e]? fun h=>Qg (X:=((Int×Int×Unit)×List Int×Unit)) (fun i ((f,c,_),b,_)=>cd (c<(b.length:Int)) (natc c fun g=>ltc g b.length (optc b[g]? fun j=>i (((max f j),(wrap .i64 (c+1)),()),b,()))) (sameC b a (some f))) u ((h,1,()),a,())))
theorem QgP:FO 71 (Qd [.one (.own 101)] [ar 101 .int] [nI] [] [101] Int kz1 (fun x y=>QdQ u y.1)):=fI u (gs 3 (lp [(0,.one (.own 101)),ni 3,ni 4] [ar 101 .int] .go)) kz0 eN Tryz.func71
def Qct(a:D.Ledger)(c:Int):Option (D.Paging×Int):=optc (Xm u a) fun e=>cnd (!e) (some ((D.Paging.mk (D.Ledger.mk 0 (D.Config.mk [] [] [] []) (D.Book.mk [] []) [] 0 0 [] []) (D.Cluster.mk [] [] [] []) 0),8)) (optc (Qii u c) fun(f,b)=>cd (b≠0) (some ((D.Paging.mk (D.Ledger.mk 0 (D.Config.mk [] [] [] []) (D.Book.mk [] []) [] 0 0 [] []) (D.Cluster.mk [] [] [] []) 0),b)) (optc (XK u a []) fun(g,i)=>lec ([0].length+a.Seen.length) 34359738368 (optc (QdQ u ([0]++a.Seen)) fun h=>some ((D.Paging.mk g f (wrap .i64 (h+1))),0))))
theorem Qhq:FO 19 (Qd [.st .Ledger,nI] [] [.st .Paging,nI] [] [] (D.Paging×Int) kz2 (fun x y=>Qct u x.1 x.2.1)):=fI u .go kz3 (eC (Vc u) (eC (QnD u) (eC (VN u) (eC (QgP u) eN)))) Tryz.func19
def VZ(u:Nat)(a:D.Replica):Option D.Replica:=lec a.Log.length 34359738368 (lec a.Votes.length 34359738368 (lec a.Match.length 34359738368 (some a)))
theorem Qbk:FO 95 (Qd [.st .Replica] [] [.agg [kI,kI,kI,kI,.own 1005,kI,.own 1008,.own 1011]] [ar 1005 .Entry,ar 1008 .bool,ar 1011 .int] [] D.Replica kz22 (fun x y=>VZ u x.1)):=fI u .go (fun a b=>D.Replica.mk a.1.1 a.1.2.1 a.1.2.2.1 a.1.2.2.2.1 b.1 a.1.2.2.2.2.1 b.2.1 b.2.2.1) eN Tryz.func95
def QfJ(u:Nat)(a:D.Replica):Option D.Replica:=lec a.Log.length 34359738368 (lec a.Votes.length 34359738368 (lec a.Match.length 34359738368 (some a)))
theorem Qdq:FO 95 (Qd [.st .Replica] [] [.st .Replica] [] [] D.Replica kz1 (fun x y=>QfJ u x.1)):=fI u .go kz0 eN Tryz.func95
def Qdr(k:D.Cluster):Option D.Cluster:=Qg (X:=((Int×Unit)×D.Cluster×Unit×Unit×List D.Replica×Unit)) (fun l ((f,_),e,_,_,g,_)=>cd (f<(e.Replicas.length:Int)) (atc e.Replicas f fun m=>optc (QfJ u m) fun i=>lec (g.length+[i].length) 34359738368 (l (((wrap .i64 (f+1)),()),e,(),(),(g++[i]),()))) (Qg (X:=((Int×Unit)×D.Cluster×Unit×Unit×List D.Replica×List D.Message×Unit)) (fun n ((h,_),a,_,_,j,b,_)=>cd (h<(a.Wire.length:Int)) (atc a.Wire h fun c=>lec c.Entries.length 34359738368 (lec (b.length+[c].length) 34359738368 (n (((wrap .i64 (h+1)),()),a,(),(),j,(b++[c]),())))) (lec a.Down.length 34359738368 (lec a.Cut.length 34359738368 (some (D.Cluster.mk j b a.Down a.Cut))))) u ((0,()),e,(),(),g,[],()))) u ((0,()),k,(),(),[],())
theorem Uz:FO 44 (Qd [.st .Cluster] [] [.agg [.own 1023,.own 1045,.own 1049,.own 1052]] [ar 1023 .Replica,ar 1045 .Message,ar 1049 .bool,ar 1052 .Arr2Int] [] D.Cluster kz23 (fun x y=>Qdr u x.1)):=fI u (gs 2 (.two (.two .go (.one (.loop [rf 1,rf 2,rf 3,ni 4] [bx 1001 .Cluster,(1002,.box [.nul,.nul,.nul,.nul]),(1003,.box [.own 1023,.nul,.nul,.nul]),ar 1023 .Replica] .go))) (lp [rf 1,rf 2,rf 3,ni 5] [bx 1001 .Cluster,(1002,.box [.nul,.nul,.nul,.nul]),(1003,.box [.own 1023,.own 1045,.nul,.nul]),ar 1023 .Replica,ar 1045 .Message] .go))) (fun a b=>D.Cluster.mk b.1 b.2.1 b.2.2.1 b.2.2.2.1) (eD 22 (Qdq u) eN) Tryz.func44
def QaY(a:Int):Option Int:=optc (QQ u a 1 5) fun b=>cnd (!b) (some 0) (nzc 2 (some (wrap .i64 ((wrap .i64 (Int.tdiv a 2))+1))))
theorem V0:FO 15 (sI [nI] fun x=>QaY u x.1):=fI u .go kz0 (eC (Yp u) eN) Tryz.func15
def QgI(i:List D.Entry)(j:Int):Option Bool:=Qg (X:=((List D.Entry×Int×Int×Int×Unit)×Unit)) (fun k ((a,c,l,b,_),_)=>cd (b<(a.length:Int)) (join (Y:=((List D.Entry×Int×Int×Unit)×Unit)) (fun((e,m,f,_),_)=>atc e f fun n=>k ((e,m,n.Term,(wrap .i64 (f+1)),()),())) fun o=>atc a b fun g=>cd (g.Term<l) sF (atc a b fun h=>cd (c<h.Term) sF (o ((a,c,b,()),())))) (some (decide ((a.length:Int)<=256)))) u ((i,j,1,0,()),())
theorem Qgf:FO 208 (sB [.one (.lst .Entry),nI] fun x=>QgI u x.1 x.2.1):=fI u (gs 2 (lp [li 0 .Entry,ni 1,ni 5,ni 6] [] (.two .go (.two (.one (.two (.join [li 0 .Entry,ni 1,ni 6] [] .go) .go)) .go)))) kz0 eN Tryz.func208
def QeU(c:Int)(b:D.Replica):Option Bool:=join (Y:=((Int×Unit)×D.Replica×Unit)) (fun((e,_),a,_)=>cd (a.Role=0) (cd ((a.Votes.length:Int)=0) (cd ((a.Match.length:Int)=0) sT sF) sF) (cd (a.Role=1) (cd ((a.Votes.length:Int)=e) (atc a.Votes a.ID fun t=>cnd t (cd ((a.Match.length:Int)=0) sT sF) sF) sF) (cd (a.Role=2) (join (Y:=((Int×Unit)×D.Replica×Unit)) (fun((v,_),w,_)=>Qg (X:=((Int×Int×Unit)×D.Replica×Unit)) (fun y ((h,f,_),g,_)=>cd (f<h) (atc g.Match f fun z=>optc (QQ u z 0 (g.Log.length:Int)) fun i=>cnd (!i) sF (y ((h,(wrap .i64 (f+1)),()),g,()))) sT) u ((v,0,()),w,())) fun j=>cd ((a.Votes.length:Int)≠e) sF (atc a.Votes a.ID fun k=>cnd k (cd ((a.Match.length:Int)≠e) sF (atc a.Match a.ID fun l=>cd (l≠(a.Log.length:Int)) sF (j ((e,()),a,())))) sF)) sF))) fun m=>optc (QaY u c) fun n=>cd (n=0) sF (optc (QQ u b.ID 0 (wrap .i64 (c - 1))) fun o=>cnd o (optc (QQ u b.Term 0 1048576) fun p=>cnd p (optc (QQ u b.Voted (-1) (wrap .i64 (c - 1))) fun q=>cnd q (optc (QgI u b.Log b.Term) fun r=>cnd r (optc (QQ u b.Commit 0 (b.Log.length:Int)) fun s=>cnd s (m ((c,()),b,())) sF) sF) sF) sF) sF)
theorem QbR:FO 125 (sB [nI,.st .Replica] fun x=>QeU u x.1 x.2.1):=fI u (.two .go (.two (.join [ni 0,rf 3] [bx 1003 .Replica] .go) (.two (.two .go (.one (gs 5 (.two (.two (.join [ni 0,rf 3] [bx 1003 .Replica] .go) (lp [ni 0,rf 3,ni 5] [bx 1003 .Replica] .go)) .go)))) .go))) kz0 (eC (V0 u) (eC (Yp u) (eC (Qgf u) eN))) Tryz.func125
def Qk4(g:List D.Arr2Int)(h:Int)(i:Int):Option Bool:=Qg (X:=((List D.Arr2Int×Int×Int×Int×Unit)×Unit)) (fun j ((a,b,c,e,_),_)=>cd (e<(a.length:Int)) (atc a e fun f=>cd ([f.a0,f.a1]=[(min b c),(max b c)]) sT (j ((a,b,c,(wrap .i64 (e+1)),()),()))) sF) u ((g,h,i,0,()),())
theorem QiS:FO 126 (sB [.one (.lst .Arr2Int),nI,nI] fun x=>Qk4 u x.1 x.2.1 x.2.2.1):=fI u (.two .go (lp [li 0 .Arr2Int,ni 1,ni 2,ni 7] [] .go)) kz0 eN Tryz.func126
def U7(h:D.Cluster):Option Bool:=join (Y:=((Int×Unit)×D.Cluster×Unit)) (fun((J,_),L,_)=>Qg (X:=((Int×Int×Unit)×D.Cluster×Unit)) (fun O ((k,i,_),l,_)=>cd (i<k) (join (Y:=((Int×Int×Unit)×D.Cluster×Unit)) (fun((S,W,_),Z,_)=>O ((S,(wrap .i64 (W+1)),()),Z,())) fun J9=>atc l.Replicas i fun o=>cd (o.ID≠i) sF (atc l.Replicas i fun p=>optc (QeU u k p) fun q=>cnd q (J9 ((k,i,()),l,())) sF)) (Qg (X:=((Int×Int×Unit)×D.Cluster×Unit)) (fun r ((c,j,_),e,_)=>cd (j<(e.Wire.length:Int)) (join (Y:=((Int×Int×Unit)×D.Cluster×Unit)) (fun((s,t,_),v,_)=>r ((s,(wrap .i64 (t+1)),()),v,())) fun w=>atc e.Wire j fun f=>optc (QQ u f.From 0 (wrap .i64 (c - 1))) fun y=>cnd y (optc (QQ u f.To 0 (wrap .i64 (c - 1))) fun z=>cnd z (cd (f.From=f.To) sF (w ((c,j,()),e,()))) sF) sF) (Qg (X:=((Int×Int×Unit)×D.Cluster×Unit)) (fun A ((m,g,_),b,_)=>cd (g<(b.Cut.length:Int)) (join (Y:=((Int×Int×Unit)×D.Cluster×Unit)) (fun((B,C,_),E,_)=>A ((B,(wrap .i64 (C+1)),()),E,())) fun F=>atc b.Cut g fun a=>cd (a.a0<0) sF (cd (a.a1<=a.a0) sF (cd (m<=a.a1) sF (natc g fun n=>lec n b.Cut.length (optc (Qk4 u (List.take n b.Cut) a.a0 a.a1) fun G=>cnd G sF (F ((m,g,()),b,()))))))) sT) u ((c,0,()),e,()))) u ((k,0,()),l,()))) u ((J,0,()),L,())) fun H=>optc (QaY u (h.Replicas.length:Int)) fun I=>cd (I=0) sF (cd ((h.Down.length:Int)≠(h.Replicas.length:Int)) sF (cd (256<(h.Wire.length:Int)) sF (H (((h.Replicas.length:Int),()),h,()))))
theorem QeV:FO 84 (sB [.st .Cluster] fun x=>U7 u x.1):=fI u (gs 2 (.two (.join [rf 1,ni 3] [bx 1001 .Cluster] .go) (.two (.two .go (.one (.loop [rf 1,ni 3,ni 4] [bx 1001 .Cluster] (.two .go (.two (.join [rf 1,ni 3,ni 4] [bx 1001 .Cluster] .go) .go))))) (.two (.two .go (.one (.loop [rf 1,ni 3,ni 5] [bx 1001 .Cluster] (.two .go (.two (.join [rf 1,ni 3,ni 5] [bx 1001 .Cluster] .go) .go))))) (lp [rf 1,ni 3,ni 7] [bx 1001 .Cluster] (.two .go (.two (.join [rf 1,ni 3,ni 7] [bx 1001 .Cluster] .go) .go))))))) kz0 (eC (V0 u) (eC (Yp u) (eC (QbR u) (eC (QiS u) eN)))) Tryz.func84
def QeX(a:D.Cluster)(b:Int):Option Int:=optc (U7 u a) fun c=>cnd (!c) (some 8) (optc (QQ u b 0 (wrap .i64 ((a.Replicas.length:Int) - 1))) fun e=>cnd (!e) (some 3) (some 0))
theorem QbS:FO 72 (sI [.st .Cluster,nI] fun x=>QeX u x.1 x.2.1):=fI u .go kz0 (eC (Yp u) (eC (QeV u) eN)) Tryz.func72
def Qk1(v:Int)(t:D.Replica):Option (List D.Message):=join (Y:=((Int×Unit)×D.Replica×Unit)) (fun((F,_),G,_)=>Qg (X:=((Int×Int×Unit)×D.Replica×List D.Message×Unit)) (fun H ((f,b,_),a,g,_)=>cd (b<f) (join (Y:=((Int×Int×Unit)×D.Replica×List D.Message×Unit)) (fun((I,J,_),L,w,_)=>H ((I,(wrap .i64 (J+1)),()),L,w,())) fun h=>cd (b=a.ID) (h ((f,b,()),a,g,())) (atc a.Match b fun c=>natc c fun e=>lec e a.Log.length (lec (List.drop e a.Log).length 34359738368 (join (Y:=((Int×Int×Unit)×D.Replica×(Int×Int×Int×Int×Int×Int×Int×Bool×Unit)×List D.Message×List D.Entry×Unit)) (fun((y,z,_),A,(i,j,k,l,m,n,o,p,_),q,r,_)=>lec (q.length+[(D.Message.mk i j k l m n o r p)].length) 34359738368 (h ((y,z,()),A,(q++[(D.Message.mk i j k l m n o r p)]),()))) fun s=>cd (0<c) (atc a.Log (wrap .i64 (c - 1)) fun B=>s ((f,b,()),a,(3,a.ID,b,a.Term,c,B.Term,a.Commit,false,()),g,(List.drop e a.Log),())) (s ((f,b,()),a,(3,a.ID,b,a.Term,c,0,a.Commit,false,()),g,(List.drop e a.Log),())))))) (some g)) u ((F,0,()),G,[],())) fun C=>optc (QeU u v t) fun E=>cnd E (cd (t.Role≠2) (some []) (C ((v,()),t,()))) (some [])
theorem QlN:FO 76 (Qd [nI,.st .Replica] [] [.one (.lst .Message)] [] [] (List D.Message) kz1 (fun x y=>Qk1 u x.1 x.2.1)):=fI u (.two .go (.two (.join [ni 0,rf 3] [bx 1003 .Replica] .go) (.two .go (lp [ni 0,rf 3,(5,.one (.own 1059)),ni 6] [bx 1003 .Replica,ar 1059 .Message] (.two .go (.two (.join [ni 0,rf 3,(5,.one (.own 1059)),ni 6] [bx 1003 .Replica,ar 1059 .Message] (.one (gs 3 (.two (.join [ni 0,rf 3,(5,.one (.own 1059)),ni 6,rf 8] [bx 1003 .Replica,(1008,.box [kI,kI,kI,kI,kI,kI,kI,.own 1044,.boo]),ar 1059 .Message,ar 1044 .Entry] .go) .go)))) .go)))))) kz0 (eC (QbR u) eN) Tryz.func76
def UQ(b:D.Cluster)(c:Int):Option (D.Cluster×Int):=optc (QeX u b c) fun f=>cd (f≠0) (some ((D.Cluster.mk [] [] [] []),f)) (atc b.Down c fun h=>cnd h (some ((D.Cluster.mk [] [] [] []),21)) (atc b.Replicas c fun i=>cd (i.Role≠2) (some ((D.Cluster.mk [] [] [] []),22)) (optc (Qdr u b) fun a=>natc c fun g=>ltc g a.Replicas.length (optc a.Replicas[g]? fun j=>optc (Qk1 u (b.Replicas.length:Int) j) fun e=>cd (256<(wrap .i64 ((a.Wire.length:Int)+(e.length:Int)))) (some ((D.Cluster.mk [] [] [] []),5)) (lec (a.Wire.length+e.length) 34359738368 (some ((D.Cluster.mk a.Replicas (a.Wire++e) a.Down a.Cut),0)))))))
theorem QgJ:FO 23 (Qd [.st .Cluster,nI] [] [.st .Cluster,nI] [] [] (D.Cluster×Int) kz2 (fun x y=>UQ u x.1 x.2.1)):=fI u .go kz3 (eC (Uz u) (eC (QbS u) (eC (QlN u) eN))) Tryz.func23
def QrS(a:D.Cluster)(b:Int):Option Int:=optc (U7 u a) fun c=>cnd (!c) (some 8) (optc (QQ u b 0 (wrap .i64 ((a.Wire.length:Int) - 1))) fun e=>cnd (!e) (some 3) (some 0))
theorem QqJ:FO 146 (sI [.st .Cluster,nI] fun x=>QrS u x.1 x.2.1):=fI u .go kz0 (eC (Yp u) (eC (QeV u) eN)) Tryz.func146
def QrR(f:D.Cluster)(e:Int):Option (D.Cluster×Int):=optc (QrS u f e) fun g=>cd (g≠0) (some ((D.Cluster.mk [] [] [] []),g)) (optc (Qdr u f) fun a=>natc e fun b=>natc e fun h=>chk b h (lec b a.Wire.length (natc (wrap .i64 (e+1)) fun c=>lec c a.Wire.length (lec b a.Wire.length (lec a.Wire.length a.Wire.length (lec c a.Wire.length (nilC (List.drop c (List.take a.Wire.length a.Wire)) (lec b a.Wire.length (some ((D.Cluster.mk a.Replicas (List.take b a.Wire) a.Down a.Cut),0))) (lec ((List.take b a.Wire)++(List.drop c (List.take a.Wire.length a.Wire))).length 34359738368 (some ((D.Cluster.mk a.Replicas ((List.take b a.Wire)++(List.drop c (List.take a.Wire.length a.Wire))) a.Down a.Cut),0))))))))))
theorem QqI:FO 89 (Qd [.st .Cluster,nI] [] [.agg [.own 1017023,.own 1027,.own 1017049,.own 1017052],nI] [ar 1017023 .Replica,ar 1027 .Message,ar 1017049 .bool,ar 1017052 .Arr2Int] [] (D.Cluster×Int) (fun q=>(((),q.2,()),q.1.Replicas,q.1.Wire,q.1.Down,q.1.Cut,())) (fun x y=>QrR u x.1 x.2.1)):=fI u .go (fun a b=>((D.Cluster.mk b.1 b.2.1 b.2.2.1 b.2.2.2.1),a.2.1)) (eC (Uz u) (eC (QqJ u) eN)) Tryz.func89
def Qpg(c:Int)(b:D.Replica)(a:D.Message)(e:Int):Option Bool:=optc (QeU u c b) fun f=>cnd f (cd (a.Kind=e) (cd (a.To=b.ID) (optc (QQ u a.From 0 (wrap .i64 (c - 1))) fun g=>cnd g (cd (a.From≠b.ID) (optc (QQ u a.Term 1 1048576) fun h=>cnd h sT sF) sF) sF) sF) sF) sF
theorem QhA:FO 209 (sB [nI,.st .Replica,.st .Message,nI] fun x=>Qpg u x.1 x.2.1 x.2.2.1 x.2.2.2.1):=fI u .go kz0 (eC (Yp u) (eC (QbR u) eN)) Tryz.func209
def QcD(u:Nat)(a:D.Replica)(b:Int):Option D.Replica:=join (Y:=(Unit×D.Replica×D.Replica×Unit)) (fun(_,e,f,_)=>some e) fun c=>cd (a.Term<b) (c ((),(D.Replica.mk a.ID b (-1) 0 a.Log a.Commit [] []),(D.Replica.mk 0 0 0 0 [] 0 [] []),())) (c ((),a,(D.Replica.mk 0 0 0 0 [] 0 [] []),()))
theorem QaP:FO 210 (Qd [.st .Replica,nI] [] [.st .Replica] [] [] D.Replica kz1 (fun x y=>QcD u x.1 x.2.1)):=fI u (.two .go (.two (.join [rf 2,rf 4] [bx 1002 .Replica,bx 1004 .Replica] .go) .go)) kz0 eN Tryz.func210
def Qjy(u:Nat)(a:D.Replica):Option Int:=cd ((a.Log.length:Int)=0) (some 0) (atc a.Log (wrap .i64 ((a.Log.length:Int) - 1)) fun b=>some b.Term)
theorem QkY:FO 100 (sI [.st .Replica] fun x=>Qjy u x.1):=fI u .go kz0 eN Tryz.func100
def QkX(a:D.Replica)(c:Int)(b:Int):Option Bool:=optc (Qjy u a) fun e=>cd (e<b) sT (optc (Qjy u a) fun f=>cd (b=f) (cd ((a.Log.length:Int)<=c) sT sF) sF)
theorem Qpd:FO 211 (sB [.st .Replica,nI,nI] fun x=>QkX u x.1 x.2.1 x.2.2.1):=fI u .go kz0 (eC (QkY u) eN) Tryz.func211
def QrQ(s:Int)(e:D.Replica)(a:D.Message):Option (D.Replica×D.Message×Bool):=optc (Qpg u s e a 1) fun t=>cnd (!t) (optc (VZ u e) fun v=>some (v,(D.Message.mk 0 0 0 0 0 0 0 [] false),false)) (optc (QfJ u e) fun w=>optc (QcD u w a.Term) fun b=>join (Y:=((Bool×Unit)×D.Replica×D.Message×D.Replica×D.Message×D.Replica×Unit)) (fun((i,_),k,j,l,m,f,_)=>join (Y:=((Bool×Unit)×D.Replica×D.Message×D.Replica×D.Message×D.Replica×Unit)) (fun((n,_),o,p,y,z,g,_)=>some (g,(D.Message.mk 2 o.ID p.From g.Term 0 0 0 [] n),true)) fun h=>cnd i (h ((i,()),k,j,l,m,(D.Replica.mk f.ID f.Term j.From f.Role f.Log f.Commit f.Votes f.Match),())) (h ((i,()),k,j,l,m,f,()))) fun c=>cd (b.Term=a.Term) (cd (b.Voted=(-1)) (cd (b.Role=0) (optc (QkX u b a.Prev a.PrevTerm) fun q=>cnd q (c ((true,()),e,a,(D.Replica.mk 0 0 0 0 [] 0 [] []),(D.Message.mk 0 0 0 0 0 0 0 [] false),b,())) (c ((false,()),e,a,(D.Replica.mk 0 0 0 0 [] 0 [] []),(D.Message.mk 0 0 0 0 0 0 0 [] false),b,()))) (c ((false,()),e,a,(D.Replica.mk 0 0 0 0 [] 0 [] []),(D.Message.mk 0 0 0 0 0 0 0 [] false),b,()))) (cd (b.Voted=a.From) (cd (b.Role=0) (optc (QkX u b a.Prev a.PrevTerm) fun r=>cnd r (c ((true,()),e,a,(D.Replica.mk 0 0 0 0 [] 0 [] []),(D.Message.mk 0 0 0 0 0 0 0 [] false),b,())) (c ((false,()),e,a,(D.Replica.mk 0 0 0 0 [] 0 [] []),(D.Message.mk 0 0 0 0 0 0 0 [] false),b,()))) (c ((false,()),e,a,(D.Replica.mk 0 0 0 0 [] 0 [] []),(D.Message.mk 0 0 0 0 0 0 0 [] false),b,()))) (c ((false,()),e,a,(D.Replica.mk 0 0 0 0 [] 0 [] []),(D.Message.mk 0 0 0 0 0 0 0 [] false),b,())))) (c ((false,()),e,a,(D.Replica.mk 0 0 0 0 [] 0 [] []),(D.Message.mk 0 0 0 0 0 0 0 [] false),b,())))
theorem QqH:FO 127 (Qd [nI,.st .Replica,.st .Message] [] [.st .Replica,.st .Message,.one .boo] [] [] (D.Replica×D.Message×Bool) kz18 (fun x y=>QrQ u x.1 x.2.1 x.2.2.1)):=fI u (gs 3 (.two (.join [rf 4,rf 5,rf 6,rf 7,rf 9,(10,.one .boo)] [bx 1004 .Replica,bx 1005 .Message,bx 1006 .Replica,bx 1007 .Message,bx 1009 .Replica] .go) (.two (.join [rf 4,rf 5,rf 6,rf 7,rf 9,(10,.one .boo)] [bx 1004 .Replica,bx 1005 .Message,bx 1006 .Replica,bx 1007 .Message,bx 1009 .Replica] .go) .go))) kz20 (eD 21 (Qdq u) (eC (Qbk u) (eC (QhA u) (eC (QaP u) (eC (Qpd u) eN))))) Tryz.func127
def QnA(u:Nat)(e:Int)(a:D.Replica):Option D.Replica:=natc e fun b=>lec b 1048576 (natc a.ID fun c=>ltc c (List.replicate b (0:Int)).length (optc (GetElem?.getElem? (List.replicate b (0:Int)) c) fun f=>some (D.Replica.mk a.ID a.Term a.Voted 2 a.Log a.Commit a.Votes (List.set (List.replicate b (0:Int)) c (a.Log.length:Int)))))
theorem QkZ:FO 204 (Qd [nI,.st .Replica] [] [.st .Replica] [] [] D.Replica kz1 (fun x y=>QnA u x.1 x.2.1)):=fI u .go kz0 eN Tryz.func204
def Qph(w:Int)(o:D.Replica)(n:D.Message):Option D.Replica:=optc (VZ u o) fun a=>optc (Qpg u w o n 2) fun a1=>cnd (!a1) (some a) (cd (o.Term<n.Term) (optc (QcD u a n.Term) fun a2=>some a2) (join (Y:=((Int×Unit)×D.Message×D.Replica×P5×List D.Entry×List Bool×List Int×Unit)) (fun((a3,_),a4,a5,(a6,a7,a8,a9,y,_),z,p,A,_)=>natc a4.From fun q=>ltc q p.length (optc p[q]? fun aF=>Qg (X:=(P3×D.Replica×P5×List D.Entry×List Bool×List Int×Unit)) (fun B ((c,r,e,_),f,(g,h,i,j,k,_),l,b,m,_)=>cd (e<c) (join (Y:=(P3×D.Replica×P5×List D.Entry×List Bool×List Int×Unit)) (fun((C,E,F,_),G,(H,I,J,L,O,_),S,W,Z,_)=>B ((C,E,(wrap .i64 (F+1)),()),G,(H,I,J,L,O,()),S,W,Z,())) fun s=>natc e fun t=>ltc t b.length (optc b[t]? fun aA=>cnd aA (s ((c,(wrap .i64 (r+1)),e,()),f,(g,h,i,j,k,()),l,b,m,())) (s ((c,r,e,()),f,(g,h,i,j,k,()),l,b,m,())))) (join (Y:=(Unit×D.Replica×D.Replica×Unit)) (fun(_,aG,aB,_)=>some aB) fun v=>optc (QaY u c) fun aC=>cd (aC<=r) (optc (QnA u c (D.Replica.mk g h i j l k b m)) fun aD=>v ((),f,aD,())) (v ((),f,(D.Replica.mk g h i j l k b m),())))) u ((a3,0,0,()),a5,(a6,a7,a8,a9,y,()),z,(List.set p q true),A,()))) fun aE=>cd (o.Role≠1) (some a) (cd (n.Term≠o.Term) (some a) (cnd n.OK (aE ((w,()),n,(D.Replica.mk 0 0 0 0 [] 0 [] []),(a.ID,a.Term,a.Voted,a.Role,a.Commit,()),a.Log,a.Votes,a.Match,())) (some a)))))
theorem Qpi:FO 128 (Qd [nI,.st .Replica,.st .Message] [] [.st .Replica] [] [] D.Replica kz1 (fun x y=>Qph u x.1 x.2.1 x.2.2.1)):=fI u (gs 4 (.two (.join [ni 0,rf 5,rf 6,rf 7] [bx 1005 .Message,bx 1006 .Replica,(1007,.box bG1),ar 1012005 .Entry,ar 1012008 .bool,ar 1012011 .int] .go) (gs 2 (.two (.two .go (.one (.loop [ni 0,rf 6,rf 7,ni 8,ni 9] [bx 1006 .Replica,(1007,.box bG1),ar 1012005 .Entry,ar 1012008 .bool,ar 1012011 .int] (.two .go (.two (.join [ni 0,rf 6,rf 7,ni 8,ni 9] [bx 1006 .Replica,(1007,.box bG1),ar 1012005 .Entry,ar 1012008 .bool,ar 1012011 .int] .go) .go))))) (.two (.join [rf 6,rf 7] [bx 1006 .Replica,bx 1007 .Replica] .go) .go))))) kz0 (eC (V0 u) (eC (Qbk u) (eC (QkZ u) (eC (QhA u) (eC (QaP u) eN))))) Tryz.func128
def Qmm(l:List D.Entry)(m:Int)(n:List D.Entry):Option (List D.Entry×Int):=Qg (X:=((List D.Entry×Int×List D.Entry×Int×Unit)×Unit)) (fun o ((a,e,c,b,_),_)=>cd (b<(c.length:Int)) (join (Y:=((List D.Entry×Int×List D.Entry×Int×Unit)×Unit)) (fun((p,q,r,s,_),_)=>o ((p,q,r,(wrap .i64 (s+1)),()),())) fun t=>cd ((a.length:Int)<=(wrap .i64 (e+b))) (natc (min (wrap .i64 (e+b)) (a.length:Int)) fun f=>lec f a.length (lec (List.take f a).length 34359738368 (natc b fun h=>lec h c.length (lec ((List.take f a).length+(List.drop h c).length) 34359738368 (some (((List.take f a)++(List.drop h c)),(min (wrap .i64 (e+b)) (a.length:Int)))))))) (atc a (wrap .i64 (e+b)) fun j=>atc c b fun k=>cd (j.Term≠k.Term) (natc (min (wrap .i64 (e+b)) (a.length:Int)) fun g=>lec g a.length (lec (List.take g a).length 34359738368 (natc b fun i=>lec i c.length (lec ((List.take g a).length+(List.drop i c).length) 34359738368 (some (((List.take g a)++(List.drop i c)),(min (wrap .i64 (e+b)) (a.length:Int)))))))) (t ((a,e,c,b,()),())))) (lec a.length 34359738368 (some (a,(a.length:Int))))) u ((l,m,n,0,()),())
theorem QnC:FO 212 (Qd [.one (.lst .Entry),nI,.one (.lst .Entry)] [] [.one (.lst .Entry),nI] [] [] (List D.Entry×Int) kz2 (fun x y=>Qmm u x.1 x.2.1 x.2.2.1)):=fI u (.two .go (lp [li 0 .Entry,ni 1,li 2 .Entry,ni 8] [] (.two .go (.two (.join [li 0 .Entry,ni 1,li 2 .Entry,ni 8] [] .go) .go)))) kz3 eN Tryz.func212
def Qml(p0:Int)(l:D.Replica)(p:D.Message):Option (D.Replica×D.Message×Bool):=join (Y:=(Unit×D.Replica×D.Message×D.Replica×D.Message×Unit)) (fun(_,s,q,v,w,_)=>optc (QfJ u s) fun a4=>optc (QcD u a4 q.Term) fun f=>join (Y:=(Unit×D.Replica×D.Message×D.Replica×D.Message×D.Replica×Unit)) (fun(_,m,b,n,o,a,_)=>join (Y:=((Bool×Unit)×D.Replica×D.Message×D.Replica×D.Message×D.Replica×Unit)) (fun((y,_),k,g,z,A,h,_)=>cnd (!y) (some (h,(D.Message.mk 4 k.ID g.From h.Term 0 0 0 [] false),true)) (optc (Qmm u h.Log g.Prev g.Entries) fun(t,B)=>join (Y:=((List D.Entry×Unit)×D.Message×D.Replica×D.Message×D.Replica×D.Message×Unit)) (fun((C,_),j,aA,aB,c,e,_)=>some ((D.Replica.mk c.ID c.Term c.Voted c.Role C (max c.Commit (min j.Commit (wrap .i64 (j.Prev+(j.Entries.length:Int))))) c.Votes c.Match),(D.Message.mk e.Kind e.From e.To e.Term (wrap .i64 (j.Prev+(j.Entries.length:Int))) e.PrevTerm e.Commit e.Entries true),true)) fun E=>optc (QgI u t g.Term) fun F=>cnd F (cd (B<h.Commit) (optc (VZ u k) fun G=>some (G,(D.Message.mk 0 0 0 0 0 0 0 [] false),false)) (E ((t,()),g,z,A,h,(D.Message.mk 4 k.ID g.From h.Term 0 0 0 [] false),()))) (optc (VZ u k) fun H=>some (H,(D.Message.mk 0 0 0 0 0 0 0 [] false),false)))) fun i=>cd (b.Term=a.Term) (cd (a.Role≠2) (cd (b.Prev<=(a.Log.length:Int)) (cd (b.Prev=0) (i ((true,()),m,b,n,o,a,())) (atc a.Log (wrap .i64 (b.Prev - 1)) fun I=>cd (I.Term=b.PrevTerm) (i ((true,()),m,b,n,o,a,())) (i ((false,()),m,b,n,o,a,())))) (i ((false,()),m,b,n,o,a,()))) (i ((false,()),m,b,n,o,a,()))) (i ((false,()),m,b,n,o,a,()))) fun r=>cd (f.Role=1) (cd (f.Term=q.Term) (r ((),s,q,v,w,(D.Replica.mk f.ID f.Term f.Voted 0 f.Log f.Commit [] f.Match),())) (r ((),s,q,v,w,f,()))) (r ((),s,q,v,w,f,()))) fun J=>optc (Qpg u p0 l p 3) fun L=>cnd L (cd (p.Prev<0) (optc (VZ u l) fun O=>some (O,(D.Message.mk 0 0 0 0 0 0 0 [] false),false)) (cd (p.PrevTerm<0) (optc (VZ u l) fun S=>some (S,(D.Message.mk 0 0 0 0 0 0 0 [] false),false)) (cd (p.Commit<0) (optc (VZ u l) fun W=>some (W,(D.Message.mk 0 0 0 0 0 0 0 [] false),false)) (J ((),l,p,(D.Replica.mk 0 0 0 0 [] 0 [] []),(D.Message.mk 0 0 0 0 0 0 0 [] false),()))))) (optc (VZ u l) fun Z=>some (Z,(D.Message.mk 0 0 0 0 0 0 0 [] false),false))
theorem QnB:FO 129 (Qd [nI,.st .Replica,.st .Message] [] [.st .Replica,.st .Message,.one .boo] [] [] (D.Replica×D.Message×Bool) kz18 (fun x y=>Qml u x.1 x.2.1 x.2.2.1)):=fI u (.two .go (.two (.join [rf 4,rf 5,rf 6,rf 7] [bx 1004 .Replica,bx 1005 .Message,bx 1006 .Replica,bx 1007 .Message] .go) (.two .go (.two (.join [rf 4,rf 5,rf 6,rf 7,rf 9] [bx 1004 .Replica,bx 1005 .Message,bx 1006 .Replica,bx 1007 .Message,bx 1009 .Replica] .go) (.two (.join [rf 4,rf 5,rf 6,rf 7,rf 9,(10,.one .boo)] [bx 1004 .Replica,bx 1005 .Message,bx 1006 .Replica,bx 1007 .Message,bx 1009 .Replica] .go) (gs 3 (.two (.join [rf 5,rf 6,rf 7,rf 9,rf 11,li 12 .Entry] [bx 1005 .Message,bx 1006 .Replica,bx 1007 .Message,bx 1009 .Replica,bx 1011 .Message] .go) .go))))))) kz20 (eD 40 (Qdq u) (eC (Qbk u) (eC (Qgf u) (eC (QhA u) (eC (QaP u) (eC (QnC u) eN)))))) Tryz.func129
def QiR(Z:Int)(q:D.Replica)(n:D.Message):Option D.Replica:=optc (VZ u q) fun a=>optc (Qpg u Z q n 4) fun a1=>cnd (!a1) (some a) (cd (q.Term<n.Term) (optc (QcD u a n.Term) fun a2=>some a2) (join (Y:=((Int×Unit)×D.Message×D.Replica×P5×List D.Entry×List Bool×List Int×Unit)) (fun((a3,_),W,a5,(a6,a7,a8,a9,aA,_),v,aB,h,_)=>natc W.From fun w=>ltc w h.length (optc h[w]? fun aC=>natc W.From fun r=>ltc r h.length (optc h[r]? fun bH=>join (Y:=(Unit×D.Replica×P5×List D.Entry×List Bool×List Int×Unit)) (fun(_,bI,(aD,aE,aF,aG,aH,_),aI,aJ,aK,_)=>some (D.Replica.mk aD aE aF aG aI aH aJ aK)) fun y=>Qg (X:=((Int×Int×Unit)×D.Replica×P5×List D.Entry×List Bool×List Int×Unit)) (fun aL ((aM,z,_),A,(B,C,E,F,s,_),G,H,I,_)=>cd (s<z) (join (Y:=((Int×Int×Unit)×D.Replica×P5×List D.Entry×List Bool×List Int×Unit)) (fun((aN,aO,_),aP,(aQ,aR,aS,aT,aU,_),aV,aW,aX,_)=>aL ((aN,(wrap .i64 (aO - 1)),()),aP,(aQ,aR,aS,aT,aU,()),aV,aW,aX,())) fun J=>Qg (X:=(P4×D.Replica×P5×List D.Entry×List Bool×List Int×Unit)) (fun aY ((f,b,t,o,_),i,(j,g,k,l,p,_),c,m,e,_)=>cd (o<f) (join (Y:=(P4×D.Replica×P5×List D.Entry×List Bool×List Int×Unit)) (fun((aZ,b0,b1,b2,_),b3,(b4,b5,b6,b7,b8,_),b9,bA,bB,_)=>aY ((aZ,b0,b1,(wrap .i64 (b2+1)),()),b3,(b4,b5,b6,b7,b8,()),b9,bA,bB,())) fun L=>natc o fun O=>ltc O e.length (optc e[O]? fun bC=>cd (b<=bC) (L ((f,b,(wrap .i64 (t+1)),o,()),i,(j,g,k,l,p,()),c,m,e,())) (L ((f,b,t,o,()),i,(j,g,k,l,p,()),c,m,e,())))) (optc (QaY u f) fun bD=>cd (bD<=t) (natc (wrap .i64 (b - 1)) fun S=>ltc S c.length (optc c[S]? fun bE=>cd (bE.Term=g) (y ((),i,(j,g,k,l,b,()),c,m,e,())) (J ((f,b,()),i,(j,g,k,l,p,()),c,m,e,())))) (J ((f,b,()),i,(j,g,k,l,p,()),c,m,e,())))) u ((aM,z,0,0,()),A,(B,C,E,F,s,()),G,H,I,())) (y ((),A,(B,C,E,F,s,()),G,H,I,()))) u ((a3,(v.length:Int),()),a5,(a6,a7,a8,a9,aA,()),v,aB,(List.set h r (max aC W.Prev)),())))) fun bF=>cd (q.Role≠2) (some a) (cd (n.Term≠q.Term) (some a) (cnd n.OK (optc (QQ u n.Prev 0 (q.Log.length:Int)) fun bG=>cnd bG (bF ((Z,()),n,(D.Replica.mk 0 0 0 0 [] 0 [] []),(a.ID,a.Term,a.Voted,a.Role,a.Commit,()),a.Log,a.Votes,a.Match,())) (some a)) (some a)))))
theorem Qk0:FO 130 (Qd [nI,.st .Replica,.st .Message] [] [.st .Replica] [] [] D.Replica kz1 (fun x y=>QiR u x.1 x.2.1 x.2.2.1)):=fI u (gs 4 (.two (.join [ni 0,rf 5,rf 6,rf 7] [bx 1005 .Message,bx 1006 .Replica,(1007,.box bG2),ar 1013005 .Entry,ar 1013008 .bool,ar 1013011 .int] .go) (.two .go (.two (.join [rf 6,rf 7] [bx 1006 .Replica,(1007,.box bG2),ar 1013005 .Entry,ar 1013008 .bool,ar 1013011 .int] (.two .go (.one (.loop [ni 0,rf 6,rf 7,ni 8] [bx 1006 .Replica,(1007,.box bG2),ar 1013005 .Entry,ar 1013008 .bool,ar 1013011 .int] (.two .go (.two (.join [ni 0,rf 6,rf 7,ni 8] [bx 1006 .Replica,(1007,.box bG2),ar 1013005 .Entry,ar 1013008 .bool,ar 1013011 .int] (.one (.two .go (lp [ni 0,rf 6,rf 7,ni 8,ni 9,ni 10] [bx 1006 .Replica,(1007,.box bG2),ar 1013005 .Entry,ar 1013008 .bool,ar 1013011 .int] (.two .go (.two (.join [ni 0,rf 6,rf 7,ni 8,ni 9,ni 10] [bx 1006 .Replica,(1007,.box bG2),ar 1013005 .Entry,ar 1013008 .bool,ar 1013011 .int] .go) .go)))))) .go)))))) .go)))) kz0 (eC (V0 u) (eC (Yp u) (eC (Qbk u) (eC (QhA u) (eC (QaP u) eN))))) Tryz.func130
def Qk3(k:D.Cluster)(z:Int):Option (D.Cluster×Int):=optc (QrR u k z) fun(j,A)=>cd (A≠0) (some ((D.Cluster.mk [] [] [] []),A)) (optc (Qdr u k) fun B=>natc z fun C=>ltc C B.Wire.length (optc B.Wire[C]? fun o=>join (Y:=(Unit×D.Cluster×D.Cluster×Unit×D.Message×List D.Replica×List D.Message×List Bool×List D.Arr2Int×Unit)) (fun(_,p,l,_,a,g,m,b,c,_)=>natc a.To fun q=>ltc q g.length (optc g[q]? fun e=>join (Y:=((Bool×Unit)×D.Cluster×Unit×D.Message×D.Replica×D.Message×List D.Replica×List D.Message×List Bool×List D.Arr2Int×Unit)) (fun((E,_),r,_,F,s,t,h,n,v,w,_)=>natc F.To fun i=>ltc i h.length (optc h[i]? fun aG=>join (Y:=(Unit×D.Cluster×Unit×List D.Replica×List D.Message×List Bool×List D.Arr2Int×Unit)) (fun(_,aH,_,G,H,I,J,_)=>some ((D.Cluster.mk G H I J),0)) fun y=>cnd E (lec (n.length+[t].length) 34359738368 (y ((),r,(),(List.set h i s),(n++[t]),v,w,()))) (y ((),r,(),(List.set h i s),n,v,w,())))) fun f=>cd (a.Kind=1) (optc (QrQ u (p.Replicas.length:Int) e a) fun(L,O,S)=>f ((S,()),l,(),a,L,O,g,m,b,c,())) (cd (a.Kind=2) (optc (Qph u (p.Replicas.length:Int) e a) fun W=>f ((false,()),l,(),a,W,(D.Message.mk 0 0 0 0 0 0 0 [] false),g,m,b,c,())) (cd (a.Kind=3) (optc (Qml u (p.Replicas.length:Int) e a) fun(Z,aA,aB)=>f ((aB,()),l,(),a,Z,aA,g,m,b,c,())) (cd (a.Kind=4) (optc (QiR u (p.Replicas.length:Int) e a) fun aC=>f ((false,()),l,(),a,aC,(D.Message.mk 0 0 0 0 0 0 0 [] false),g,m,b,c,())) (f ((false,()),l,(),a,e,(D.Message.mk 0 0 0 0 0 0 0 [] false),g,m,b,c,()))))))) fun aD=>atc k.Down o.To fun aE=>cnd aE (some (j,0)) (optc (Qk4 u k.Cut o.From o.To) fun aF=>cnd aF (some (j,0)) (aD ((),k,(D.Cluster.mk [] [] [] []),(),o,j.Replicas,j.Wire,j.Down,j.Cut,())))))
theorem QlO:FO 77 (Qd [.st .Cluster,nI] [] [.st .Cluster,nI] [] [] (D.Cluster×Int) kz2 (fun x y=>Qk3 u x.1 x.2.1)):=fI u (gs 4 (.two (.join [rf 2,rf 4,rf 6,rf 8] [bx 1002 .Cluster,bx 1004 .Cluster,(1006,.box [.own 2033023,.own 1017027,.own 2033049,.own 2033052]),bx 1008 .Message,ar 2033023 .Replica,ar 1017027 .Message,ar 2033049 .bool,ar 2033052 .Arr2Int] .go) (gs 3 (.two (.join [rf 4,rf 6,rf 8,rf 10,rf 11,(12,.one .boo)] [bx 1004 .Cluster,(1006,.box [.own 2033023,.own 1017027,.own 2033049,.own 2033052]),bx 1008 .Message,bx 1010 .Replica,bx 1011 .Message,ar 2033023 .Replica,ar 1017027 .Message,ar 2033049 .bool,ar 2033052 .Arr2Int] .go) (.two .go (.two (.join [rf 4,rf 6] [bx 1004 .Cluster,(1006,.box [.own 2033023,.own 1017027,.own 2033049,.own 2033052]),ar 2033023 .Replica,ar 1017027 .Message,ar 2033049 .bool,ar 2033052 .Arr2Int] .go) .go)))))) kz3 (eC (Uz u) (eC (QqI u) (eC (QiS u) (eC (QqH u) (eC (Qpi u) (eC (QnB u) (eC (Qk0 u) eN))))))) Tryz.func77
def V1(e:D.Cluster):Option D.Cluster:=join (Y:=(Unit×D.Cluster×D.Cluster×Unit)) (fun(_,f,j,_)=>some f) fun c=>Qg (X:=(Unit×D.Cluster×D.Cluster×Unit)) (fun g (_,a,b,_)=>cd (0<(a.Wire.length:Int)) (optc (Qk3 u a 0) fun(h,i)=>cd (i≠0) (c ((),a,b,())) (g ((),h,b,()))) (c ((),a,b,()))) u ((),e,(D.Cluster.mk [] [] [] []),())
theorem QeW:FO 24 (Qd [.st .Cluster] [] [.st .Cluster] [] [] D.Cluster kz1 (fun x y=>V1 u x.1)):=fI u (.two .go (.two (.join [rf 1,rf 2] [bx 1001 .Cluster,bx 1002 .Cluster] (.one (.loop [rf 1,rf 2] [bx 1001 .Cluster,bx 1002 .Cluster] .go))) .go)) kz0 (eC (QlO u) eN) Tryz.func24
def Qpe(g:Int)(b:D.Replica):Option (D.Replica×List D.Message×Int):=optc (QeU u g b) fun z=>cnd (!z) (some ((D.Replica.mk 0 0 0 0 [] 0 [] []),[],8)) (cd (b.Term=1048576) (some ((D.Replica.mk 0 0 0 0 [] 0 [] []),[],5)) (optc (VZ u b) fun h=>natc g fun i=>lec i 1048576 (natc b.ID fun k=>ltc k (List.replicate i false).length (optc (GetElem?.getElem? (List.replicate i false) k) fun G=>join (Y:=((Int×Unit)×D.Replica×D.Replica×D.Replica×Unit)) (fun((A,_),B,C,E,_)=>Qg (X:=((Int×Int×Unit)×D.Replica×D.Replica×D.Replica×List D.Message×Unit)) (fun F ((j,c,_),a,l,e,f,_)=>cd (c<j) (join (Y:=((Int×Int×Unit)×D.Replica×D.Replica×D.Replica×List D.Message×Unit)) (fun((p,q,_),r,s,t,v,_)=>F ((p,(wrap .i64 (q+1)),()),r,s,t,v,())) fun m=>cd (c≠a.ID) (optc (Qjy u a) fun n=>lec (f.length+[(D.Message.mk 1 a.ID c e.Term (a.Log.length:Int) n 0 [] false)].length) 34359738368 (m ((j,c,()),a,l,e,(f++[(D.Message.mk 1 a.ID c e.Term (a.Log.length:Int) n 0 [] false)]),()))) (m ((j,c,()),a,l,e,f,()))) (some (e,f,0))) u ((A,0,()),B,C,E,[],())) fun o=>optc (QaY u g) fun w=>cd (w=1) (optc (QnA u g (D.Replica.mk h.ID (wrap .i64 (b.Term+1)) b.ID 1 h.Log h.Commit (List.set (List.replicate i false) k true) [])) fun y=>o ((g,()),b,(D.Replica.mk 0 0 0 0 [] 0 [] []),y,())) (o ((g,()),b,(D.Replica.mk 0 0 0 0 [] 0 [] []),(D.Replica.mk h.ID (wrap .i64 (b.Term+1)) b.ID 1 h.Log h.Commit (List.set (List.replicate i false) k true) []),()))))))
theorem Qpf:FO 122 (Qd [nI,.st .Replica] [] [.st .Replica,.one (.lst .Message),nI] [] [] (D.Replica×List D.Message×Int) kz18 (fun x y=>Qpe u x.1 x.2.1)):=fI u (gs 7 (.two (.join [ni 0,rf 3,rf 4,rf 7] [bx 1003 .Replica,bx 1004 .Replica,bx 1007 .Replica] .go) (.two .go (lp [ni 0,rf 3,rf 4,rf 7,(8,.one (.own 1066)),ni 9] [bx 1003 .Replica,bx 1004 .Replica,bx 1007 .Replica,ar 1066 .Message] (.two .go (.two (.join [ni 0,rf 3,rf 4,rf 7,(8,.one (.own 1066)),ni 9] [bx 1003 .Replica,bx 1004 .Replica,bx 1007 .Replica,ar 1066 .Message] .go) .go)))))) kz20 (eC (V0 u) (eC (Qbk u) (eC (QkY u) (eC (QbR u) (eC (QkZ u) eN))))) Tryz.func122
def Qpk(b:D.Cluster)(c:Int):Option (D.Cluster×Int):=optc (QeX u b c) fun g=>cd (g≠0) (some ((D.Cluster.mk [] [] [] []),g)) (atc b.Down c fun j=>cnd j (some ((D.Cluster.mk [] [] [] []),21)) (optc (Qdr u b) fun a=>natc c fun h=>ltc h a.Replicas.length (optc a.Replicas[h]? fun k=>optc (Qpe u (b.Replicas.length:Int) k) fun(l,e,i)=>cd (i≠0) (some ((D.Cluster.mk [] [] [] []),i)) (cd (256<(wrap .i64 ((a.Wire.length:Int)+(e.length:Int)))) (some ((D.Cluster.mk [] [] [] []),5)) (lec (a.Wire.length+e.length) 34359738368 (natc c fun f=>ltc f a.Replicas.length (optc a.Replicas[f]? fun m=>some ((D.Cluster.mk (List.set a.Replicas f l) (a.Wire++e) a.Down a.Cut),0))))))))
theorem Qpl:FO 73 (Qd [.st .Cluster,nI] [] [.st .Cluster,nI] [] [] (D.Cluster×Int) kz2 (fun x y=>Qpk u x.1 x.2.1)):=fI u .go kz3 (eC (Uz u) (eC (QbS u) (eC (Qpf u) eN))) Tryz.func73
def QaZ(h:D.Cluster)(f:Int):Option (D.Cluster×Int):=optc (QeX u h f) fun i=>cd (i≠0) (some ((D.Cluster.mk [] [] [] []),i)) (optc (Qdr u h) fun g=>optc (Qpk u (D.Cluster.mk g.Replicas [] g.Down g.Cut) f) fun(t,j)=>cd (j≠0) (some ((D.Cluster.mk [] [] [] []),j)) (optc (V1 u t) fun v=>join (Y:=(Unit×D.Cluster×D.Cluster×Unit)) (fun(_,w,A,_)=>some (w,0)) fun k=>Qg (X:=((Int×Int×Unit)×D.Cluster×D.Cluster×Unit)) (fun y ((l,c,_),a,b,_)=>join (Y:=((Int×Int×Unit)×D.Cluster×D.Cluster×Unit)) (fun((e,m,_),n,o,_)=>optc (UQ u n e) fun(p,z)=>optc (V1 u p) fun q=>y ((e,(wrap .i64 (m+1)),()),q,o,())) fun r=>cd (c<2) (atc a.Replicas l fun s=>cd (s.Role=2) (r ((l,c,()),a,b,())) (k ((),a,b,()))) (k ((),a,b,()))) u ((f,0,()),v,(D.Cluster.mk [] [] [] []),())))
theorem QhB:FO 20 (Qd [.st .Cluster,nI] [] [.st .Cluster,nI] [] [] (D.Cluster×Int) kz2 (fun x y=>QaZ u x.1 x.2.1)):=fI u (gs 7 (.two (.join [rf 2,rf 4] [bx 1002 .Cluster,bx 1004 .Cluster] (.two .go (.one (.loop [ni 1,rf 2,rf 4,ni 8] [bx 1002 .Cluster,bx 1004 .Cluster] (.two (.join [ni 1,rf 2,rf 4,ni 8] [bx 1002 .Cluster,bx 1004 .Cluster] .go) .go))))) .go)) kz3 (eC (QgJ u) (eC (QeW u) (eC (Uz u) (eC (QbS u) (eC (Qpl u) eN))))) Tryz.func20
def Qav(u:Nat)(a:List D.Replica):Option (List D.Replica):=nilC a (both (some []) (lec a.length 34359738368 (some a))) (lec a.length 34359738368 (some a))
theorem Qdy:FO 291 (Qd [.one (.lst .Replica)] [] [.one (.own 1007)] [ar 1007 .Replica] [] (List D.Replica) kz7 (fun x y=>Qav u x.1)):=fI u .go kz10 eN Tryz.func291
def Qau(u:Nat)(a:List D.Message):Option (List D.Message):=nilC a (both (some []) (lec a.length 34359738368 (some a))) (lec a.length 34359738368 (some a))
theorem Qdx:FO 292 (Qd [.one (.lst .Message)] [] [.one (.own 1007)] [ar 1007 .Message] [] (List D.Message) kz7 (fun x y=>Qau u x.1)):=fI u .go kz10 eN Tryz.func292
def WQ(u:Nat)(a:List Bool):Option (List Bool):=nilC a (both (some []) (lec a.length 34359738368 (some a))) (lec a.length 34359738368 (some a))
theorem W2:FO 293 (Qd [.one (.lst .bool)] [] [.one (.own 1007)] [ar 1007 .bool] [] (List Bool) kz7 (fun x y=>WQ u x.1)):=fI u .go kz10 eN Tryz.func293
def QbW(u:Nat)(a:List D.Arr2Int):Option (List D.Arr2Int):=nilC a (both (some []) (lec a.length 34359738368 (some a))) (lec a.length 34359738368 (some a))
theorem Qe5:FO 294 (Qd [.one (.lst .Arr2Int)] [] [.one (.own 1007)] [ar 1007 .Arr2Int] [] (List D.Arr2Int) kz7 (fun x y=>QbW u x.1)):=fI u .go kz10 eN Tryz.func294
def Ud(u:Nat)(a:List D.Entry):Option (List D.Entry):=nilC a (both (some []) (lec a.length 34359738368 (some a))) (lec a.length 34359738368 (some a))
theorem Qab:FO 296 (Qd [.one (.lst .Entry)] [] [.one (.own 1007)] [ar 1007 .Entry] [] (List D.Entry) kz7 (fun x y=>Ud u x.1)):=fI u .go kz10 eN Tryz.func296
def UE(a:D.Replica):Option D.Replica:=optc (Ud u a.Log) fun b=>optc (WQ u a.Votes) fun c=>optc (Qv u a.Match) fun e=>some (D.Replica.mk a.ID a.Term a.Voted a.Role b a.Commit c e)
theorem QlR:FO 295 (Qd [.st .Replica] [] [.agg [kI,kI,kI,kI,.own 1006007,kI,.own 1009007,.own 1012007]] [ar 1006007 .Entry,ar 1009007 .bool,ar 1012007 .int] [] D.Replica kz22 (fun x y=>UE u x.1)):=fI u .go (fun a b=>D.Replica.mk a.1.1 a.1.2.1 a.1.2.2.1 a.1.2.2.2.1 b.1 a.1.2.2.2.2.1 b.2.1 b.2.2.1) (eC (QX u) (eC (W2 u) (eC (Qab u) eN))) Tryz.func295
def QhO(a:D.Replica):Option D.Replica:=optc (Ud u a.Log) fun b=>optc (WQ u a.Votes) fun c=>optc (Qv u a.Match) fun e=>some (D.Replica.mk a.ID a.Term a.Voted a.Role b a.Commit c e)
theorem Qje:FO 295 (Qd [.st .Replica] [] [.st .Replica] [] [] D.Replica kz1 (fun x y=>QhO u x.1)):=fI u .go kz0 (eC (QX u) (eC (W2 u) (eC (Qab u) eN))) Tryz.func295
def Qat(u:Nat)(a:List D.Entry):Option (List D.Entry):=nilC a (both (some []) (lec a.length 34359738368 (some a))) (lec a.length 34359738368 (some a))
theorem Qdw:FO 296 (Qd [.one (.lst .Entry)] [] [.one (.lst .Entry)] [] [] (List D.Entry) kz1 (fun x y=>Qat u x.1)):=fI u .go kz0 eN Tryz.func296
def V3(h:D.Cluster):Option D.Cluster:=optc (Qav u h.Replicas) fun s=>optc (Qau u h.Wire) fun E=>optc (WQ u h.Down) fun F=>optc (QbW u h.Cut) fun G=>Qg (X:=((Int×Int×Unit)×Unit×D.Cluster×List D.Replica×List D.Message×List Bool×List D.Arr2Int×Unit)) (fun H ((t,i,_),_,v,e,r,j,k,_)=>cd (i<t) (natc i fun l=>ltc l e.length (optc e[l]? fun w=>optc (QhO u w) fun y=>natc i fun f=>ltc f e.length (optc e[f]? fun I=>H ((t,(wrap .i64 (i+1)),()),(),v,(List.set e f y),r,j,k,())))) (Qg (X:=((Int×Int×Unit)×Unit×D.Cluster×List D.Replica×List D.Message×List Bool×List D.Arr2Int×Unit)) (fun z ((m,c,_),_,A,n,b,o,p,_)=>cd (c<m) (natc c fun q=>ltc q b.length (optc b[q]? fun B=>optc (Qat u B.Entries) fun C=>natc c fun g=>ltc g b.length (optc b[g]? fun a=>z ((m,(wrap .i64 (c+1)),()),(),A,n,(List.set b g (D.Message.mk a.Kind a.From a.To a.Term a.Prev a.PrevTerm a.Commit C a.OK)),o,p,())))) (some (D.Cluster.mk n b o p))) u (((r.length:Int),0,()),(),v,e,r,j,k,()))) u (((s.length:Int),0,()),(),(D.Cluster.mk [] [] [] []),s,E,F,G,())
theorem QdP:FO 205 (Qd [.st .Cluster] [] [.agg [.own 1008007,.own 1011007,.own 1014007,.own 1017007]] [ar 1008007 .Replica,ar 1011007 .Message,ar 1014007 .bool,ar 1017007 .Arr2Int] [] D.Cluster kz23 (fun x y=>V3 u x.1)):=fI u (gs 2 (.two (.two .go (.one (.loop [rf 1,rf 2,ni 23,ni 24] [(1001,.box [.own 1008007,.own 1011007,.own 1014007,.own 1017007]),bx 1002 .Cluster,ar 1008007 .Replica,ar 1011007 .Message,ar 1014007 .bool,ar 1017007 .Arr2Int] .go))) (lp [rf 1,rf 2,ni 40,ni 41] [(1001,.box [.own 1008007,.own 1011007,.own 1014007,.own 1017007]),bx 1002 .Cluster,ar 1008007 .Replica,ar 1011007 .Message,ar 1014007 .bool,ar 1017007 .Arr2Int] .go))) (fun a b=>D.Cluster.mk b.1 b.2.1 b.2.2.1 b.2.2.2.1) (eC (Qdy u) (eC (Qdx u) (eC (W2 u) (eC (Qe5 u) (eD 36 (Qje u) (eD 54 (Qdw u) eN)))))) Tryz.func205
def QaQ(a:D.Cluster):Option D.Cluster:=optc (V3 u a) fun b=>some b
theorem Qja:FO 123 (Qd [.st .Cluster] [] [.agg [.own 2012007,.own 2015007,.own 2018007,.own 2021007]] [ar 2012007 .Replica,ar 2015007 .Message,ar 2018007 .bool,ar 2021007 .Arr2Int] [] D.Cluster kz23 (fun x y=>QaQ u x.1)):=fI u .go (fun a b=>D.Cluster.mk b.1 b.2.1 b.2.2.1 b.2.2.2.1) (eC (QdP u) eN) Tryz.func123
def Qbd(a:D.Paging)(b:Int):Option D.site:=optc (XK u a.Base []) fun(c,f)=>optc (QaQ u a.Cluster) fun e=>some (D.site.mk (D.Paging.mk c e a.Serial) b 0)
theorem Qgc:FO 74 (Qd [.st .Paging,nI] [] [.one (.ref 1019)] [bx 1019 .site] [] D.site kz7 (fun x y=>Qbd u x.1 x.2.1)):=fI u .go kz10 (eC (VN u) (eC (Qja u) eN)) Tryz.func74
def QbT(a:D.Cluster)(b:Int)(c:Int):Option Int:=optc (XM u a) fun e=>cnd (!e) (some 8) (optc (V4 u b 0 (wrap .i64 (c - 1))) fun f=>cnd (!f) (some 3) (some 0))
theorem Qk5:FO 297 (sI [.st .Cluster,nI,nI] fun x=>QbT u x.1 x.2.1 x.2.2.1):=fI u .go kz0 (eC (Qbl u) (eC (QeY u) eN)) Tryz.func297
def QhE(a:D.Cluster)(b:Int):Option Int:=optc (QbT u a b (a.Replicas.length:Int)) fun c=>cd (c≠0) (some c) (atc a.Down b fun e=>cnd e (some 21) (some 0))
theorem Qpq:FO 206 (sI [.st .Cluster,nI] fun x=>QhE u x.1 x.2.1):=fI u .go kz0 (eC (Qk5 u) eN) Tryz.func206
def QdE(a:Int):Option Int:=optc (UF u a 1 5) fun b=>cnd (!b) (some 0) (nzc 2 (some (wrap .i64 ((wrap .i64 (Int.tdiv a 2))+1))))
theorem QlS:FO 299 (sI [nI] fun x=>QdE u x.1):=fI u .go kz0 (eC (QcU u) eN) Tryz.func299
def UA(u:Nat)(b:D.Entry)(a:D.Op):Option Bool:=sameC a a (some (decide (b.Op.ID=a.ID)))
theorem QfU:FO 298 (Qd [.st .Entry,.one (.ref 101)] [bx 101 .Op] [.one .boo] [] [101] Bool kz1 (fun x y=>UA u x.1 y.1)):=fI u .go kz0 eN Tryz.func298
def Zb(c:List D.Entry)(c101:D.Op):Option Int:=Qg (X:=((List D.Entry×Int×Int×Unit)×D.Op×Unit)) (fun g ((e,f,a,_),b,_)=>cd (a<f) (atc e a fun h=>optc (UA u h b) fun i=>cnd i (sameC b c101 (some a)) (g ((e,f,(wrap .i64 (a+1)),()),b,()))) (sameC b c101 (some (-1)))) u ((c,(c.length:Int),0,()),c101,())
theorem XG:FO 213 (Qd [.one (.lst .Entry),.one (.clo 298 [101])] [bx 101 .Op] [nI] [] [101] Int kz1 (fun x y=>Zb u x.1 y.1)):=fI u (.two .go (lp [li 0 .Entry,(1,.one (.clo 298 [101])),ni 7,ni 8] [bx 101 .Op] .go)) kz0 (eC (QfU u) eN) Tryz.func213
def QD(a:List D.Entry)(c101:D.Op):Option Bool:=optc (Zb u a c101) fun b=>sameC c101 c101 (some (decide (0<=b)))
theorem Xf:FO 132 (Qd [.one (.lst .Entry),.one (.clo 298 [101])] [bx 101 .Op] [.one .boo] [] [101] Bool kz1 (fun x y=>QD u x.1 y.1)):=fI u .go kz0 (eC (XG u) eN) Tryz.func132
def V5(g:Int)(c:D.Replica)(b:D.Op):Option (D.Replica×Int):=optc (WS u g c) fun l=>cnd (!l) (some ((D.Replica.mk 0 0 0 0 [] 0 [] []),8)) (cd (c.Role≠2) (some ((D.Replica.mk 0 0 0 0 [] 0 [] []),22)) (optc (QD u c.Log b) fun m=>cnd m (some ((D.Replica.mk 0 0 0 0 [] 0 [] []),4)) (cd ((c.Log.length:Int)=256) (some ((D.Replica.mk 0 0 0 0 [] 0 [] []),5)) (optc (UE u c) fun a=>lec (a.Log.length+[(D.Entry.mk a.Term b)].length) 34359738368 (natc a.ID fun e=>ltc e a.Match.length (optc a.Match[e]? fun t=>join (Y:=(Unit×P5×D.Replica×List D.Entry×List Bool×List Int×Unit)) (fun(_,(n,o,p,q,r,_),s,h,i,j,_)=>some ((D.Replica.mk n o p q h r i j),0)) fun f=>optc (QdE u g) fun k=>cd (k=1) (f ((),(a.ID,a.Term,a.Voted,a.Role,(((a.Log++[(D.Entry.mk a.Term b)]).length:Nat):Int),()),(D.Replica.mk 0 0 0 0 [] 0 [] []),(a.Log++[(D.Entry.mk a.Term b)]),a.Votes,(List.set a.Match e (((a.Log++[(D.Entry.mk a.Term b)]).length:Nat):Int)),())) (f ((),(a.ID,a.Term,a.Voted,a.Role,a.Commit,()),(D.Replica.mk 0 0 0 0 [] 0 [] []),(a.Log++[(D.Entry.mk a.Term b)]),a.Votes,(List.set a.Match e (((a.Log++[(D.Entry.mk a.Term b)]).length:Nat):Int)),()))))))))
theorem QhF:FO 207 (Qd [nI,.st .Replica,.st .Op] [] [.st .Replica,nI] [] [] (D.Replica×Int) kz2 (fun x y=>V5 u x.1 x.2.1 x.2.2.1)):=fI u (gs 5 (.two (.join [rf 4,rf 6] [(1004,.box [kI,kI,kI,kI,.own 2038007,kI,.own 2041007,.own 2044007]),bx 1006 .Replica,ar 2038007 .Entry,ar 2041007 .bool,ar 2044007 .int] .go) .go)) kz3 (eC (Xf u) (eC (QhN u) (eC (QlR u) (eC (QlS u) eN)))) Tryz.func207
def UR(e:D.Cluster)(b:Int)(i:D.Op):Option (D.Cluster×Int):=optc (QhE u e b) fun f=>cd (f≠0) (some ((D.Cluster.mk [] [] [] []),f)) (optc (V3 u e) fun a=>natc b fun g=>ltc g a.Replicas.length (optc a.Replicas[g]? fun j=>optc (V5 u (a.Replicas.length:Int) j i) fun(k,h)=>cd (h≠0) (some ((D.Cluster.mk [] [] [] []),h)) (natc b fun c=>ltc c a.Replicas.length (optc a.Replicas[c]? fun l=>some ((D.Cluster.mk (List.set a.Replicas c k) a.Wire a.Down a.Cut),0)))))
theorem Qij:FO 124 (Qd [.st .Cluster,nI,.st .Op] [] [.st .Cluster,nI] [] [] (D.Cluster×Int) kz2 (fun x y=>UR u x.1 x.2.1 x.2.2.1)):=fI u .go kz3 (eC (QdP u) (eC (Qpq u) (eC (QhF u) eN))) Tryz.func124
def Y8(b:D.site)(a:D.Op):Option (Int×D.site):=optc (Ur u (D.Op.mk b.Paging.Serial a.Kind a.Region a.Fence a.At a.Page a.K a.Policy a.Schedule a.Answer a.Edit)) fun e=>cnd (!e) (some (8,b)) (cd (b.Paging.Serial=1099511627776) (some (5,b)) (optc (UR u b.Paging.Cluster b.region (D.Op.mk b.Paging.Serial a.Kind a.Region a.Fence a.At a.Page a.K a.Policy a.Schedule a.Answer a.Edit)) fun(f,c)=>cd (c≠0) (some (c,b)) (some (0,(D.site.mk (D.Paging.mk b.Paging.Base f (wrap .i64 (b.Paging.Serial+1))) b.region (wrap .i64 (b.count+1)))))))
theorem U4:FO 75 (Qd [.one (.ref 1),.st .Op] [bx 1 .site] [nI] [bx 1 .site] [] (Int×D.site) kz19 (fun x y=>Y8 u y.1 x.1)):=fI u .go kz21 (eC (Qb8 u) (eC (Qij u) eN)) Tryz.func75
def VT(a:D.Paging)(e:Int)(f:D.Op):Option (D.Paging×Int×Int):=optc (Y7 u a) fun g=>cnd (!g) (some ((D.Paging.mk (D.Ledger.mk 0 (D.Config.mk [] [] [] []) (D.Book.mk [] []) [] 0 0 [] []) (D.Cluster.mk [] [] [] []) 0),0,8)) (optc (Qbd u a e) fun h=>optc (Y8 u h f) fun(b,c)=>cd (b≠0) (some ((D.Paging.mk (D.Ledger.mk 0 (D.Config.mk [] [] [] []) (D.Book.mk [] []) [] 0 0 [] []) (D.Cluster.mk [] [] [] []) 0),0,b)) (some (c.Paging,(wrap .i64 (c.Paging.Serial - 1)),0)))
theorem QdN:FO 21 (Qd [.st .Paging,nI,.st .Op] [] [.st .Paging,nI,nI] [] [] (D.Paging×Int×Int) kz18 (fun x y=>VT u x.1 x.2.1 x.2.2.1)):=fI u .go kz20 (eC (Wy u) (eC (Qgc u) (eC (U4 u) eN))) Tryz.func21
def QiJ(a:D.Paging):Option D.Ledger:=optc (Y7 u a) fun b=>cnd (!b) (some (D.Ledger.mk 0 (D.Config.mk [] [] [] []) (D.Book.mk [] []) [] 0 0 [] [])) (optc (YD u a.Cluster) fun c=>optc (XK u a.Base c) fun(e,f)=>some e)
theorem QkC:FO 33 (Qd [.st .Paging] [] [.st .Ledger] [] [] D.Ledger kz1 (fun x y=>QiJ u x.1)):=fI u .go kz0 (eC (Wy u) (eC (QdO u) (eC (VN u) eN))) Tryz.func33
def Qfl:Option Bool:=optc (Qev u []) fun m=>optc (Vb u m) fun(n,s)=>optc (Qev u []) fun o=>optc (Va u o) fun(p,t)=>optc (QkW u n p) fun(q,v)=>optc (Qct u q 3) fun(c,r)=>optc (QaZ u c.Cluster 0) fun(e,f)=>optc (VT u (D.Paging.mk c.Base e c.Serial) 0 (D.Op.mk 0 1 0 0 864000 1 0 0 0 (D.Answer.mk 0 0 0 0 0 0) (D.Edit.mk 0 0 0 0 0))) fun(a,g,h)=>optc (UQ u a.Cluster 0) fun(i,j)=>optc (V1 u i) fun b=>cd (r=0) (cd (f=0) (cd (h=0) (cd (j=0) (optc (YP u (D.Paging.mk a.Base b a.Serial) g) fun k=>cnd k (optc (QiJ u (D.Paging.mk a.Base b a.Serial)) fun l=>cd ((l.Pages.length:Int)=1) sT sF) sF) sF) sF) sF) sF
theorem QmZ:FO 11 (sB [] fun x=>Qfl u):=fI u .go kz0 (eC (QiG u) (eC (QbI u) (eC (Qmk u) (eC (Qco u) (eC (Qcn u) (eC (Qhq u) (eC (QhB u) (eC (QdN u) (eC (QgJ u) (eC (QeW u) (eC (QkC u) eN))))))))))) Tryz.func11
def Qdl(e:List Int)(f:Int):Option Bool:=Qg (X:=((List Int×Int×Int×Unit)×Unit)) (fun g ((a,c,b,_),_)=>cd (b<(a.length:Int)) (atc a b fun h=>cd (h=c) sT (g ((a,c,(wrap .i64 (b+1)),()),()))) sF) u ((e,f,0,()),())
theorem QfB:FO 36 (sB [lI,nI] fun x=>Qdl u x.1 x.2.1):=fI u (.two .go (lp [(0,lI),ni 1,ni 5] [] .go)) kz0 eN Tryz.func36
def QkV(f:D.Book)(b:Int)(g:Int)(c:Int):Option (D.Page×Int):=join (Y:=(P3×D.Book×D.Page×Unit)) (fun((h,e,a,_),i,n,_)=>optc (QQ u e 0 (wrap .i64 ((i.Policies.length:Int) - 1))) fun j=>cnd (!j) (some ((D.Page.mk 0 0 0 0 0 0 0 0 0 0 0 [] [] []),3)) (some ((D.Page.mk h e a 0 a 0 (-1) 0 a 0 0 [] [] []),0))) fun k=>optc (QQ u b 1 999999) fun l=>cnd l (optc (QQ u c 0 8589934592) fun m=>cnd m (k ((b,g,c,()),f,(D.Page.mk 0 0 0 0 0 0 0 0 0 0 0 [] [] []),())) (some ((D.Page.mk 0 0 0 0 0 0 0 0 0 0 0 [] [] []),1))) (some ((D.Page.mk 0 0 0 0 0 0 0 0 0 0 0 [] [] []),1))
theorem Qmj:FO 150 (Qd [.st .Book,nI,nI,nI] [] [.st .Page,nI] [] [] (D.Page×Int) kz2 (fun x y=>QkV u x.1 x.2.1 x.2.2.1 x.2.2.2.1)):=fI u (.two .go (.two (.join [ni 1,ni 2,ni 3,rf 4,rf 8] [bx 1004 .Book,bx 1008 .Page] .go) .go)) kz3 (eC (Yp u) eN) Tryz.func150
def QeP(c:D.Policy):Option Bool:=Qg (X:=((Int×Unit)×D.Policy×Unit)) (fun e ((a,_),b,_)=>cd (a<(b.Steps.length:Int)) (atc b.Steps a fun f=>optc (QQ u f.Wait 0 86400) fun g=>cnd (!g) sF (e (((wrap .i64 (a+1)),()),b,()))) sT) u ((0,()),c,())
theorem Qpb:FO 151 (sB [.st .Policy] fun x=>QeP u x.1):=fI u (.two .go (lp [rf 1,ni 3] [bx 1001 .Policy] .go)) kz0 (eC (Yp u) eN) Tryz.func151
def Qcz(a:D.Policy):Option Int:=join (Y:=(Unit×D.Policy×Unit)) (fun(_,b,_)=>some (wrap .i64 ((b.Steps.length:Int)*(wrap .i64 (b.Repeat+1))))) fun c=>optc (QQ u a.Repeat 0 8) fun e=>cnd e (cd (8<(a.Steps.length:Int)) (some 0) (c ((),a,()))) (some 0)
theorem QiN:FO 152 (sI [.st .Policy] fun x=>Qcz u x.1):=fI u (.two .go (.two (.join [rf 1] [bx 1001 .Policy] .go) .go)) kz0 (eC (Yp u) eN) Tryz.func152
def QfH(j:D.Page):Option Bool:=Qg (X:=(P3×D.Page×Unit)) (fun o ((i,p,e,_),c,_)=>cd (e<(c.Starts.length:Int)) (join (Y:=(P3×D.Page×Unit)) (fun((q,r,s,_),t,_)=>o ((q,r,(wrap .i64 (s+1)),()),t,())) fun k=>atc c.Starts e fun a=>join (Y:=((Int×Int×Unit)×D.Page×D.Start×Unit)) (fun((l,f,_),g,b,_)=>cd (0<=b.K) (k ((b.K,b.At,f,()),g,())) (k ((l,b.At,f,()),g,()))) fun h=>cd (a.At<p) sF (cd (a.K<(-1)) sF (cd (0<=a.K) (cd (a.K<=i) sF (cd (c.Next<=a.K) sF (optc (Qdm u a.People 32) fun m=>cnd m (h ((i,e,()),c,a,())) sF))) (optc (Qdm u a.People 32) fun n=>cnd n (h ((i,e,()),c,a,())) sF)))) (some (decide ((c.Starts.length:Int)<=200)))) u (((-1),j.Start,0,()),j,())
theorem Qnz:FO 153 (sB [.st .Page] fun x=>QfH u x.1):=fI u (gs 2 (lp [rf 1,ni 3,ni 4,ni 5] [bx 1001 .Page] (.two .go (.two (.join [rf 1,ni 3,ni 4,ni 5] [bx 1001 .Page] (.one (.two .go (.two (.join [rf 1,ni 3,ni 5,rf 6] [bx 1001 .Page,bx 1006 .Start] .go) .go)))) .go)))) kz0 (eC (Qig u) eN) Tryz.func153
def VY(g:D.Book)(a:D.Page):Option Bool:=join (Y:=(Unit×D.Page×Unit)) (fun(_,b,_)=>join (Y:=(Unit×D.Page×Unit)) (fun(_,c,_)=>join (Y:=(Unit×D.Page×Unit)) (fun(_,B,_)=>Qg (X:=((Int×Unit)×D.Page×Unit)) (fun C ((f,_),e,_)=>cd (f<(e.Seen.length:Int)) (natc f fun h=>lec h e.Seen.length (atc e.Seen f fun E=>optc (Qdl u (List.take h e.Seen) E) fun F=>cnd F sF (C (((wrap .i64 (f+1)),()),e,())))) sT) u ((0,()),B,())) fun G=>optc (QQ u c.Snoozes 0 4) fun i=>cnd i (optc (QQ u c.Hands 0 4) fun j=>cnd j (optc (QfH u c) fun k=>cnd k (optc (Qdm u c.Declined 32) fun l=>cnd l (cd (64<(c.Seen.length:Int)) sF (G ((),c,()))) sF) sF) sF) sF) fun m=>optc (QQ u b.State 0 4) fun n=>cnd n (optc (QQ u b.By (-1) 31) fun o=>cnd o (optc (QQ u b.Last b.Start 17179869184) fun p=>cnd p (optc (QQ u b.Due 0 17179869184) fun q=>cnd q (optc (QQ u b.Until 0 17179869184) fun r=>cnd r (m ((),b,())) sF) sF) sF) sF) sF) fun s=>optc (QkV u g a.ID a.Policy a.Start) fun(H,t)=>cd (t≠0) sF (atc g.Policies a.Policy fun v=>optc (QeP u v) fun w=>cnd w (atc g.Policies a.Policy fun y=>optc (Qcz u y) fun z=>optc (QQ u a.Next 0 z) fun A=>cnd A (s ((),a,())) sF) sF)
theorem QbQ:FO 92 (sB [.st .Book,.st .Page] fun x=>VY u x.1 x.2.1):=fI u (.two .go (.two (.join [rf 3] [bx 1003 .Page] .go) (.two (.join [rf 3] [bx 1003 .Page] .go) (.two (.join [rf 3] [bx 1003 .Page] .go) (lp [rf 3,ni 7] [bx 1003 .Page] .go))))) kz0 (eC (QfB u) (eC (Yp u) (eC (Qmj u) (eC (Qpb u) (eC (QiN u) (eC (Qnz u) (eC (Qig u) eN))))))) Tryz.func92
def QcC(l:D.Page)(m:Int)(n:Int):Option (List D.Call):=Qg (X:=((Int×Int×Unit)×D.Page×List D.Call×Unit)) (fun o ((p,g,_),h,j,_)=>cd (g<(h.Starts.length:Int)) (atc h.Starts g fun q=>Qg (X:=(P3×D.Page×D.Start×List D.Call×Unit)) (fun r ((e,k,i,_),b,a,c,_)=>cd (i<(a.People.length:Int)) (atc a.People i fun f=>lec (c.length+[(D.Call.mk b.ID a.K a.At f e)].length) 34359738368 (r ((e,k,(wrap .i64 (i+1)),()),b,a,(c++[(D.Call.mk b.ID a.K a.At f e)]),()))) (o ((e,(wrap .i64 (k+1)),()),b,c,()))) u ((p,g,0,()),h,q,j,())) (some j)) u ((n,m,()),l,[],())
theorem QeS:FO 94 (Qd [.st .Page,nI,nI] [] [.one (.lst .Call)] [] [] (List D.Call) kz1 (fun x y=>QcC u x.1 x.2.1 x.2.2.1)):=fI u (gs 2 (lp [ni 2,rf 3,(7,.one (.own 1046)),ni 8] [bx 1003 .Page,ar 1046 .Call] (.two .go (.two (.one (gs 2 (.one (.loop [ni 2,rf 3,(7,.one (.own 1046)),ni 8,rf 9,ni 10] [bx 1003 .Page,bx 1009 .Start,ar 1046 .Call] .go)))) .go)))) kz0 eN Tryz.func94
def QfI(y:D.Ledger)(m:D.Page):Option Bool:=optc (QcC u m 0 0) fun z=>Qg (X:=((List D.Call×Int×Int×Int×Unit)×D.Ledger×D.Page×Unit)) (fun A ((f,g,n,h,_),e,l,_)=>cd (h<(e.Calls.length:Int)) (join (Y:=((List D.Call×Int×Int×Int×Unit)×D.Ledger×D.Page×Unit)) (fun((B,C,o,p,_),q,r,_)=>A ((B,C,o,(wrap .i64 (p+1)),()),q,r,())) fun i=>atc e.Calls h fun c=>cd (c.Page≠l.ID) (i ((f,g,n,h,()),e,l,())) (join (Y:=((List D.Call×Int×Int×Unit)×D.Ledger×D.Page×D.Call×Unit)) (fun((j,k,s,_),t,v,a,_)=>atc j k fun b=>cd ([a.Page,a.K,a.At,a.Person,0]≠[b.Page,b.K,b.At,b.Person,b.Fence]) sF (i ((j,(wrap .i64 (k+1)),a.Fence,s,()),t,v,()))) fun w=>cd ((f.length:Int)<=g) sF (cd (c.Fence<n) sF (cd (e.Fence<c.Fence) sF (w ((f,g,h,()),e,l,c,())))))) (some (decide (g=(f.length:Int))))) u ((z,0,0,0,()),y,m,())
theorem QqG:FO 93 (sB [.st .Ledger,.st .Page] fun x=>QfI u x.1 x.2.1):=fI u (gs 3 (lp [rf 2,rf 3,li 5 .Call,ni 6,ni 7,ni 8] [bx 1002 .Ledger,bx 1003 .Page] (.two .go (.two (.join [rf 2,rf 3,li 5 .Call,ni 6,ni 7,ni 8] [bx 1002 .Ledger,bx 1003 .Page] (.one (gs 2 (.two (.join [rf 2,rf 3,li 5 .Call,ni 6,ni 8,rf 9] [bx 1002 .Ledger,bx 1003 .Page,bx 1009 .Call] .go) .go)))) .go)))) kz0 (eC (QeS u) eN) Tryz.func93
def U6(e:D.Ledger):Option Bool:=join (Y:=(Unit×D.Ledger×Unit)) (fun(_,I,_)=>Qg (X:=((Int×Int×Unit)×D.Ledger×Unit)) (fun J ((k,g,_),a,_)=>cd (g<(a.Pages.length:Int)) (atc a.Pages g fun c=>join (Y:=((Int×Int×Unit)×D.Ledger×D.Page×Unit)) (fun((L,O,_),S,W,_)=>optc (QcC u W 0 0) fun l=>J (((wrap .i64 (L+(l.length:Int))),(wrap .i64 (O+1)),()),S,())) fun h=>cd (0<g) (atc a.Pages (wrap .i64 (g - 1)) fun m=>cd (c.ID<=m.ID) sF (optc (VY u a.Book c) fun n=>cnd n (cd (a.Now<c.Last) sF (optc (QfI u a c) fun o=>cnd o (h ((k,g,()),a,c,())) sF)) sF)) (optc (VY u a.Book c) fun p=>cnd p (cd (a.Now<c.Last) sF (optc (QfI u a c) fun q=>cnd q (h ((k,g,()),a,c,())) sF)) sF)) (Qg (X:=((Int×Int×Unit)×D.Ledger×Unit)) (fun r ((i,f,_),b,_)=>cd (f<(b.Seen.length:Int)) (join (Y:=((Int×Int×Unit)×D.Ledger×Unit)) (fun((s,t,_),v,_)=>r ((s,(wrap .i64 (t+1)),()),v,())) fun w=>atc b.Seen f fun y=>optc (QQ u y 1 1099511627776) fun z=>cnd z (natc f fun j=>lec j b.Seen.length (atc b.Seen f fun A=>optc (Qdl u (List.take j b.Seen) A) fun B=>cnd B sF (w ((i,f,()),b,())))) sF) (some (decide (i=(b.Calls.length:Int))))) u ((k,0,()),a,()))) u ((0,0,()),I,())) fun C=>optc (QeO u e.Config e.Book) fun E=>cd (E≠0) sF (optc (QQ u e.Now 0 8589934592) fun F=>cnd F (cd (64<(e.Pages.length:Int)) sF (optc (QQ u e.Owner (-1) 4) fun G=>cnd G (optc (QQ u e.Fence 0 1048576) fun H=>cnd H (cd (256<(e.Seen.length:Int)) sF (C ((),e,()))) sF) sF)) sF)
theorem QiP:FO 42 (sB [.st .Ledger] fun x=>U6 u x.1):=fI u (.two .go (.two (.join [rf 1] [bx 1001 .Ledger] .go) (.two .go (.two (.two .go (.one (.loop [rf 1,ni 3,ni 4] [bx 1001 .Ledger] (.two .go (.two (.one (.two .go (.two (.join [rf 1,ni 3,ni 4,rf 5] [bx 1001 .Ledger,bx 1005 .Page] .go) .go))) .go))))) (lp [rf 1,ni 3,ni 6] [bx 1001 .Ledger] (.two .go (.two (.join [rf 1,ni 3,ni 6] [bx 1001 .Ledger] .go) .go))))))) kz0 (eC (QfB u) (eC (Yp u) (eC (QiM u) (eC (QbQ u) (eC (QqG u) (eC (QeS u) eN)))))) Tryz.func42
def QaN(f:D.Page):Option D.Page:=Qg (X:=((Int×Unit)×D.Page×D.Page×List D.Start×Unit)) (fun g ((b,_),a,h,c,_)=>cd (b<(a.Starts.length:Int)) (atc a.Starts b fun e=>lec e.People.length 34359738368 (lec (c.length+[e].length) 34359738368 (g (((wrap .i64 (b+1)),()),a,h,(c++[e]),())))) (lec a.Declined.length 34359738368 (lec a.Seen.length 34359738368 (some (D.Page.mk a.ID a.Policy a.Start a.Next a.Due a.State a.By a.Until a.Last a.Snoozes a.Hands c a.Declined a.Seen))))) u ((0,()),f,(D.Page.mk 0 0 0 0 0 0 0 0 0 0 0 [] [] []),[],())
theorem Uy:FO 83 (Qd [.st .Page] [] [.agg [kI,kI,kI,kI,kI,kI,kI,kI,kI,kI,kI,.own 1025,.own 1030,.own 1033]] [ar 1025 .Start,ar 1030 .int,ar 1033 .int] [] D.Page kz14 (fun x y=>QaN u x.1)):=fI u (gs 2 (lp [rf 1,rf 2,(3,.one (.own 1025)),ni 4] [bx 1001 .Page,bx 1002 .Page,ar 1025 .Start] .go)) (fun a b=>D.Page.mk a.1.1 a.1.2.1 a.1.2.2.1 a.1.2.2.2.1 a.1.2.2.2.2.1 a.1.2.2.2.2.2.1 a.1.2.2.2.2.2.2.1 a.1.2.2.2.2.2.2.2.1 a.1.2.2.2.2.2.2.2.2.1 a.1.2.2.2.2.2.2.2.2.2.1 a.1.2.2.2.2.2.2.2.2.2.2.1 b.1 b.2.1 b.2.2.1) eN Tryz.func83
def Qjx(f:D.Ledger):Option D.Ledger:=Qg (X:=((Int×Unit)×D.Ledger×D.Ledger×List D.Page×Unit)) (fun g ((b,_),a,h,c,_)=>cd (b<(a.Pages.length:Int)) (atc a.Pages b fun i=>optc (QaN u i) fun e=>lec (c.length+[e].length) 34359738368 (g (((wrap .i64 (b+1)),()),a,h,(c++[e]),()))) (lec a.Seen.length 34359738368 (lec a.Calls.length 34359738368 (some (D.Ledger.mk a.Now a.Config a.Book c a.Owner a.Fence a.Seen a.Calls))))) u ((0,()),f,(D.Ledger.mk 0 (D.Config.mk [] [] [] []) (D.Book.mk [] []) [] 0 0 [] []),[],())
theorem QqE:FO 43 (Qd [.st .Ledger] [] [.agg [kI,.lst .Zone,.lst .Person,.lst .Calendar,.lst .Schedule,.lst .Team,.lst .Policy,.own 1020,kI,kI,.own 1025,.own 1028]] [ar 1020 .Page,ar 1025 .int,ar 1028 .Call] [] D.Ledger kz8 (fun x y=>Qjx u x.1)):=fI u (gs 2 (lp [rf 1,rf 2,(3,.one (.own 1020)),ni 4] [bx 1001 .Ledger,bx 1002 .Ledger,ar 1020 .Page] .go)) (fun a b=>D.Ledger.mk a.1.1 (D.Config.mk a.1.2.1 a.1.2.2.1 a.1.2.2.2.1 a.1.2.2.2.2.1) (D.Book.mk a.1.2.2.2.2.2.1 a.1.2.2.2.2.2.2.1) b.1 a.1.2.2.2.2.2.2.2.1 a.1.2.2.2.2.2.2.2.2.1 b.2.1 b.2.2.1) (eC (Uy u) eN) Tryz.func43
def QeQ(b:D.Answer):Option Bool:=join (Y:=(Unit×D.Answer×Unit)) (fun(_,a,_)=>join (Y:=((Int×Bool×Unit)×D.Answer×Unit)) (fun((f,i,_),c,_)=>cnd i (some (decide (c.Arg=0))) (cd (f=3) (optc (QQ u c.Arg 1 86400) fun j=>some j) (cd (f=4) (optc (QQ u c.Arg 0 31) fun k=>some k) sF))) fun e=>cd (a.Kind=1) (e ((a.Kind,(decide (a.Kind=1)),()),a,())) (cd (a.Kind=2) (e ((a.Kind,(decide (a.Kind=2)),()),a,())) (e ((a.Kind,(decide (a.Kind=5)),()),a,())))) fun l=>optc (QQ u b.ID 1 999999) fun m=>cnd m (optc (QQ u b.Page 1 999999) fun n=>cnd n (optc (QQ u b.Person (-1) 31) fun g=>cnd g (optc (QQ u b.At 0 8589934592) fun h=>cnd h (l ((),b,())) sF) sF) sF) sF
theorem QiO:FO 139 (sB [.st .Answer] fun x=>QeQ u x.1):=fI u (.two .go (.two (.join [rf 1] [bx 1001 .Answer] .go) (.two (.two .go (.one (.two (.join [rf 1,ni 26,(27,.one .boo)] [bx 1001 .Answer] .go) .go))) .go))) kz0 (eC (Yp u) eN) Tryz.func139
def QeR(a:D.Op):Option Bool:=optc (QQ u a.ID 1 1099511627776) fun b=>cnd b (optc (QQ u a.Kind 1 5) fun c=>cnd c (optc (QQ u a.Region 0 4) fun e=>cnd e (optc (QQ u a.Fence 0 1048576) fun f=>cnd f (optc (QQ u a.At 0 8589934592) fun g=>cnd g (optc (QQ u a.Page 0 999999) fun h=>cnd h (optc (QQ u a.K (-1) 1000) fun i=>cnd i (cd (a.Kind≠4) sT (optc (QeQ u a.Answer) fun j=>cnd j sT sF)) sF) sF) sF) sF) sF) sF) sF
theorem QiQ:FO 81 (sB [.st .Op] fun x=>QeR u x.1):=fI u .go kz0 (eC (Yp u) (eC (QiO u) eN)) Tryz.func81
def QhC(a:D.Paging):Option Bool:=join (Y:=(Unit×D.Paging×Unit)) (fun(_,v,_)=>Qg (X:=((Int×Unit)×D.Paging×Unit)) (fun w ((e,_),f,_)=>cd (e<(f.Cluster.Replicas.length:Int)) (atc f.Cluster.Replicas e fun y=>Qg (X:=((Int×List D.Entry×Int×Unit)×D.Paging×Unit)) (fun z ((h,b,c,_),g,_)=>cd (c<(b.length:Int)) (join (Y:=((Int×List D.Entry×Int×Unit)×D.Paging×Unit)) (fun((i,j,k,_),l,_)=>z ((i,j,(wrap .i64 (k+1)),()),l,())) fun m=>atc b c fun n=>optc (QeR u n.Op) fun o=>cnd o (atc b c fun p=>cd (g.Serial<=p.Op.ID) sF (m ((h,b,c,()),g,()))) sF) (w (((wrap .i64 (h+1)),()),g,()))) u ((e,y.Log,0,()),f,())) sT) u ((0,()),v,())) fun q=>optc (U6 u a.Base) fun r=>cnd r (optc (U7 u a.Cluster) fun s=>cnd s (optc (QQ u a.Serial 1 1099511627776) fun t=>cnd t (q ((),a,())) sF) sF) sF
theorem Qpm:FO 31 (sB [.st .Paging] fun x=>QhC u x.1):=fI u (.two .go (.two (.join [rf 1] [bx 1001 .Paging] .go) (lp [rf 1,ni 3] [bx 1001 .Paging] (.two .go (.two (.one (gs 2 (.one (.loop [rf 1,ni 3,li 4 .Entry,ni 5] [bx 1001 .Paging] (.two .go (.two (.join [rf 1,ni 3,li 4 .Entry,ni 5] [bx 1001 .Paging] .go) .go)))))) .go))))) kz0 (eC (QiP u) (eC (Yp u) (eC (QiQ u) (eC (QeV u) eN)))) Tryz.func31
def Qdp(e:D.Ledger)(f:Int):Option (D.Page×Bool):=Qg (X:=((Int×Int×Unit)×D.Ledger×D.Page×Unit)) (fun g ((c,a,_),b,h,_)=>cd (a<(b.Pages.length:Int)) (atc b.Pages a fun i=>cd (i.ID=c) (atc b.Pages a fun j=>optc (QaN u j) fun k=>some (k,true)) (g ((c,(wrap .i64 (a+1)),()),b,h,()))) (some ((D.Page.mk 0 0 0 0 0 0 0 0 0 0 0 [] [] []),false))) u ((f,0,()),e,(D.Page.mk 0 0 0 0 0 0 0 0 0 0 0 [] [] []),())
theorem QqF:FO 30 (Qd [.st .Ledger,nI] [] [.st .Page,.one .boo] [] [] (D.Page×Bool) kz2 (fun x y=>Qdp u x.1 x.2.1)):=fI u (.two .go (lp [ni 1,rf 2,rf 4,ni 6] [bx 1002 .Ledger,bx 1004 .Page] .go)) kz3 (eC (Uy u) eN) Tryz.func30
def QgG(u:Nat)(a:D.Page):Option (Int×Bool):=cd (a.State=0) (some (a.Due,true)) (cd (a.State=2) (some (a.Until,true)) (some (0,false)))
theorem QfG:FO 108 (Qd [.st .Page] [] [nI,.one .boo] [] [] (Int×Bool) kz2 (fun x y=>QgG u x.1)):=fI u .go kz3 eN Tryz.func108
def Qhz(c:D.Policy)(b:Int):Option (Int×Int×Bool):=join (Y:=((Int×Unit)×D.Policy×Unit)) (fun((e,_),a,_)=>nzc (a.Steps.length:Int) (nzc (a.Steps.length:Int) (some ((Int.tmod e (a.Steps.length:Int)),(wrap .i64 (Int.tdiv e (a.Steps.length:Int))),true)))) fun f=>cd (b<0) (some (0,0,false)) (optc (Qcz u c) fun g=>cd (g<=b) (some (0,0,false)) (f ((b,()),c,())))
theorem Qqz:FO 338 (Qd [.st .Policy,nI] [] [nI,nI,.one .boo] [] [] (Int×Int×Bool) kz18 (fun x y=>Qhz u x.1 x.2.1)):=fI u (.two .go (.two (.join [ni 1,rf 2] [bx 1002 .Policy] .go) .go)) kz20 (eC (QiN u) eN) Tryz.func338
def Vl(t:List Int)(v:Int):Option (List Int):=Qg (X:=((List Int×Int×Bool×Int×Unit)×List Int×Unit)) (fun w ((f,a,k,g,_),b,_)=>cd (g<(f.length:Int)) (join (Y:=((List Int×Int×Bool×Int×Unit)×List Int×Unit)) (fun((y,z,A,B,_),p,_)=>w ((y,z,A,(wrap .i64 (B+1)),()),p,())) fun l=>join (Y:=((List Int×Int×Bool×Int×Unit)×List Int×Unit)) (fun((c,h,m,e,_),i,_)=>atc c e fun q=>cd (q≠h) (atc c e fun n=>lec (i.length+[n].length) 34359738368 (l ((c,h,m,e,()),(i++[n]),()))) (l ((c,h,m,e,()),i,()))) fun j=>cnd k (j ((f,a,k,g,()),b,())) (atc f g fun r=>cd (a<=r) (lec (b.length+[a].length) 34359738368 (j ((f,a,true,g,()),(b++[a]),()))) (j ((f,a,k,g,()),b,())))) (join (Y:=(Unit×List Int×Unit)) (fun(_,s,_)=>some s) fun o=>cnd (!k) (lec (b.length+[a].length) 34359738368 (o ((),(b++[a]),()))) (o ((),b,())))) u ((t,v,false,0,()),[],())
theorem QkU:FO 304 (Qd [lI,nI] [] [lI] [] [] (List Int) kz1 (fun x y=>Vl u x.1 x.2.1)):=fI u (gs 3 (.two (.two .go (.one (.loop [(0,lI),ni 1,(5,.one (.own 1027)),(6,.one .boo),ni 7] [ar 1027 .int] (.two .go (.two (.join [(0,lI),ni 1,(5,.one (.own 1027)),(6,.one .boo),ni 7] [ar 1027 .int] (.one (.two (.join [(0,lI),ni 1,(5,.one (.own 1027)),(6,.one .boo),ni 7] [ar 1027 .int] .go) .go))) .go))))) (.two (.join [(5,.one (.own 1027))] [ar 1027 .int] .go) .go))) kz0 eN Tryz.func304
def QuV(a:D.Config)(b:Int)(c:Int):Option Bool:=cd (0<=b) (cd (b<(a.Schedules.length:Int)) (cd (0<=c) (cd (c<=8589934592) (optc (VW u a) fun e=>cd (e=0) sT sF) sF) sF) sF) sF
theorem QuW:FO 400 (sB [.st .Config,nI,nI] fun x=>QuV u x.1 x.2.1 x.2.2.1):=fI u .go kz0 (eC (QbO u) eN) Tryz.func400
def Qfw(l:D.Zone)(m:List D.Transition)(n:Int):Option Int:=join (Y:=((Int×Unit)×Unit)) (fun((o,_),_)=>some o) fun c=>Qg (X:=((List D.Transition×Int×Int×Int×Unit)×Unit)) (fun p ((a,e,f,b,_),_)=>join (Y:=((List D.Transition×Int×Int×Unit)×Unit)) (fun((g,q,h,_),_)=>atc g h fun i=>p ((g,q,i.Offset,(wrap .i64 (h+1)),()),())) fun j=>cd (b<(a.length:Int)) (atc a b fun k=>cd (k.At<=e) (j ((a,e,b,()),())) (c ((f,()),()))) (c ((f,()),()))) u ((m,n,l.Offset,0,()),())
theorem Qnl:FO 438 (sI [.st .Zone,.one (.lst .Transition),nI] fun x=>Qfw u x.1 x.2.1 x.2.2.1):=fI u (gs 2 (.two (.join [ni 7] [] (.two .go (.one (.loop [li 1 .Transition,ni 2,ni 7,ni 8] [] (.two (.join [li 1 .Transition,ni 2,ni 8] [] .go) .go))))) .go)) kz0 eN Tryz.func438
def QbN(a:D.Zone)(b:Int):Option (Int×Int):=optc (WD u a) fun(c,e)=>cd (e≠0) (some (0,8)) (optc (Qbi u b 0 8589934592) fun f=>cnd (!f) (some (0,1)) (optc (Qfw u a c b) fun g=>some (g,0)))
theorem QkM:FO 426 (Qd [.st .Zone,nI] [] [nI,nI] [] [] (Int×Int) kz2 (fun x y=>QbN u x.1 x.2.1)):=fI u .go kz3 (eC (VV u) (eC (QeH u) (eC (Qnl u) eN))) Tryz.func426
def QkN(u:Nat)(a:Int)(b:Int):Option D.Local:=nzc 86400 (nzc 86400 (some (D.Local.mk (wrap .i64 ((wrap .i64 (Int.tdiv (wrap .i64 ((wrap .i64 (a+b))+864000)) 86400)) - 10)) (Int.tmod (wrap .i64 ((wrap .i64 (a+b))+864000)) 86400))))
theorem QoW:FO 427 (Qd [nI,nI] [] [.st .Local] [] [] D.Local kz1 (fun x y=>QkN u x.1 x.2.1)):=fI u .go kz0 eN Tryz.func427
def Ux(c:D.Zone)(a:Int):Option (D.Local×Int):=optc (QbN u c a) fun(e,b)=>cd (b≠0) (some ((D.Local.mk 0 0),b)) (optc (QkN u a e) fun f=>some (f,0))
theorem Qca:FO 402 (Qd [.st .Zone,nI] [] [.st .Local,nI] [] [] (D.Local×Int) kz2 (fun x y=>Ux u x.1 x.2.1)):=fI u .go kz3 (eC (QkM u) (eC (QoW u) eN)) Tryz.func402
def Qfy(a:D.Local):Option Int:=optc (Qdk u a.Day) fun b=>some (wrap .i64 ((wrap .i64 (b*86400))+a.Second))
theorem Qno:FO 403 (sI [.st .Local] fun x=>Qfy u x.1):=fI u .go kz0 (eC (Qge u) eN) Tryz.func403
def Qif(b:D.Zone)(c:Int):Option (Int×Int):=optc (Ux u b c) fun(e,a)=>cd (a≠0) (some (0,a)) (optc (Qfy u e) fun f=>some (f,0))
theorem Qnm:FO 373 (Qd [.st .Zone,nI] [] [nI,nI] [] [] (Int×Int) kz2 (fun x y=>Qif u x.1 x.2.1)):=fI u .go kz3 (eC (Qca u) (eC (Qno u) eN)) Tryz.func373
def Qfx(f:List D.Window)(g:Int):Option Bool:=Qg (X:=((List D.Window×Int×Int×Unit)×Unit)) (fun h ((a,c,b,_),_)=>cd (b<(a.length:Int)) (join (Y:=((List D.Window×Int×Int×Unit)×Unit)) (fun((i,j,k,_),_)=>h ((i,j,(wrap .i64 (k+1)),()),())) fun e=>atc a b fun l=>cd (l.From<=c) (atc a b fun m=>cd (c<m.To) sT (e ((a,c,b,()),()))) (e ((a,c,b,()),()))) sF) u ((f,g,0,()),())
theorem Qnn:FO 374 (sB [.one (.lst .Window),nI] fun x=>Qfx u x.1 x.2.1):=fI u (.two .go (lp [li 0 .Window,ni 1,ni 5] [] (.two .go (.two (.join [li 0 .Window,ni 1,ni 5] [] .go) .go)))) kz0 eN Tryz.func374
def Qmi(b:D.Zone)(a:List D.Window)(c:Int):Option Bool:=optc (Qif u b c) fun(e,f)=>cd (f=0) (optc (Qbj u a) fun g=>cd (g=0) (optc (Qfx u a e) fun h=>cnd h sT sF) sF) sF
theorem Qo0:FO 360 (sB [.st .Zone,.one (.lst .Window),nI] fun x=>Qmi u x.1 x.2.1 x.2.2.1):=fI u .go kz0 (eC (QeJ u) (eC (Qnm u) (eC (Qnn u) eN))) Tryz.func360
def Qhw(b:D.Zone)(a:D.Layer):Option Int:=join (Y:=(Unit×Unit)) (fun(_,_)=>some 0) fun c=>optc (Qcw u b) fun e=>cd (e≠0) (some 8) (cd (a.Start.Day<1) (some 8) (cd (100000<a.Start.Day) (some 8) (cd (a.Start.Second<0) (some 8) (cd (86400<=a.Start.Second) (some 8) (cd (a.Unit<0) (some 8) (cd (2<a.Unit) (some 8) (cd (a.Every<1) (some 8) (cd (400<a.Every) (some 8) (cd ((a.Members.length:Int)=0) (some 8) (c ((),())))))))))))
theorem Qo6:FO 454 (sI [.st .Zone,.st .Layer] fun x=>Qhw u x.1 x.2.1):=fI u (.two .go (.two (.join [] [] .go) .go)) kz0 (eC (QiK u) eN) Tryz.func454
def Qhu(a:Int):Option Bool:=optc (Qbi u a (-2) 99422) fun b=>some b
theorem QoZ:FO 466 (sB [nI] fun x=>Qhu u x.1):=fI u .go kz0 (eC (QeH u) eN) Tryz.func466
def Qcx(q:D.Zone)(f:D.Local):Option (Int×Int):=optc (WD u q) fun(C,E)=>cd (E≠0) (some (0,8)) (optc (Qbi u f.Second 0 86399) fun F=>cnd (!F) (some (0,1)) (cd (f.Day<(-2)) (some (0,0)) (optc (Qhu u f.Day) fun G=>cnd (!G) (some (0,10)) (Qg (X:=((List D.Transition×Int×Unit)×D.Zone×D.Local×Unit)) (fun H ((e,c,_),p,r,_)=>cd (c<(e.length:Int)) (join (Y:=((List D.Transition×Int×Int×Int×Int×Unit)×D.Zone×D.Local×Unit)) (fun((g,b,h,i,s,_),j,k,_)=>join (Y:=((List D.Transition×Int×Int×Int×Int×Unit)×D.Zone×D.Local×Unit)) (fun((t,v,l,m,w,_),y,a,_)=>cd ((max m (wrap .i64 ((wrap .i64 ((wrap .i64 (a.Day*86400))+a.Second)) - l)))<w) (some ((max m (wrap .i64 ((wrap .i64 ((wrap .i64 (a.Day*86400))+a.Second)) - l))),0)) (H ((t,(wrap .i64 (v+1)),()),y,a,()))) fun n=>cd ((wrap .i64 (b+1))<(g.length:Int)) (atc g (wrap .i64 (b+1)) fun z=>n ((g,b,h,i,z.At,()),j,k,())) (n ((g,b,h,i,s,()),j,k,()))) fun o=>cd (0<=c) (atc e c fun A=>atc e c fun B=>o ((e,c,A.Offset,B.At,8589934593,()),p,r,())) (o ((e,c,p.Offset,0,8589934593,()),p,r,()))) (some (0,10))) u ((C,(-1),()),q,f,())))))
theorem QiL:FO 460 (Qd [.st .Zone,.st .Local] [] [nI,nI] [] [] (Int×Int) kz2 (fun x y=>Qcx u x.1 x.2.1)):=fI u (gs 6 (lp [rf 2,rf 3,li 6 .Transition,ni 8] [bx 1002 .Zone,bx 1003 .Local] (.two .go (.two (.one (.two .go (.two (.join [rf 2,rf 3,li 6 .Transition,ni 8,ni 9,ni 10,ni 11] [bx 1002 .Zone,bx 1003 .Local] .go) (.two (.join [rf 2,rf 3,li 6 .Transition,ni 8,ni 9,ni 10,ni 11] [bx 1002 .Zone,bx 1003 .Local] .go) .go)))) .go)))) kz3 (eC (VV u) (eC (QeH u) (eC (QoZ u) eN))) Tryz.func460
def QbP(e:D.Zone)(a:D.Layer)(b:Int):Option (Int×Bool):=cd (a.Unit=0) (optc (Qcx u e a.Start) fun(c,h)=>cd (h=0) (cd ((wrap .i64 (c+(wrap .i64 ((wrap .i64 (b*a.Every))*3600))))<=8589934592) (some ((wrap .i64 (c+(wrap .i64 ((wrap .i64 (b*a.Every))*3600)))),true)) (some ((wrap .i64 (c+(wrap .i64 ((wrap .i64 (b*a.Every))*3600)))),false))) (some ((wrap .i64 (c+(wrap .i64 ((wrap .i64 (b*a.Every))*3600)))),false))) (join (Y:=((Int×Unit)×D.Zone×D.Layer×Unit)) (fun((i,_),j,f,_)=>optc (Qcx u j (D.Local.mk (wrap .i64 (f.Start.Day+i)) f.Start.Second)) fun(k,l)=>some (k,(decide (l=0)))) fun g=>cd (a.Unit=2) (g (((wrap .i64 ((wrap .i64 (b*a.Every))*7)),()),e,a,())) (g (((wrap .i64 (b*a.Every)),()),e,a,())))
theorem QkQ:FO 461 (Qd [.st .Zone,.st .Layer,nI] [] [nI,.one .boo] [] [] (Int×Bool) kz2 (fun x y=>QbP u x.1 x.2.1 x.2.2.1)):=fI u (gs 3 (.two (.join [rf 3,rf 4,ni 11] [bx 1003 .Zone,bx 1004 .Layer] .go) .go)) kz3 (eC (QiL u) eN) Tryz.func461
end
/-
  What functions do, reckoned from their code, and their contracts. Printed by wip/gen/brun.py.
-/
open Go AM IntKind
noncomputable section
abbrev bH0:List Sh:=[kI,.lst .Zone,.lst .Person,.lst .Calendar,.lst .Schedule,.lst .Team,.lst .Policy,.own 101,kI,kI,.own 102,.own 103]
abbrev bH1:List Sh:=[kI,kI,kI,kI,kI,kI,kI,kI,kI,kI,kI,.own 1038025,.own 1038030,.own 1038033]
abbrev bH2:List Sh:=[kI,kI,kI,kI,kI,kI,kI,kI,kI,kI,kI,.own 1033025,.lst .int,.own 1033033]
variable (u:Nat)
def Qhx(h:D.Zone)(b:D.Layer)(c:Int):Option Int:=cd (b.Unit=0) (join (Y:=((Int×Unit)×Unit)) (fun((B,_),_)=>some B) fun l=>optc (Qcx u h b.Start) fun(m,C)=>cd (C=0) (cd (m<=c) (nzc (wrap .i64 (3600*b.Every)) (l (((wrap .i64 (Int.tdiv (wrap .i64 (c - m)) (wrap .i64 (3600*b.Every)))),()),()))) (l (((-1),()),()))) (l (((-1),()),()))) (optc (Ux u h c) fun(n,G)=>join (Y:=((Int×Int×Unit)×D.Zone×D.Layer×D.Local×Unit)) (fun((E,o,_),F,p,q,_)=>join (Y:=((Int×Unit)×Unit)) (fun((r,_),_)=>some r) fun i=>nzc o (Qg (X:=((Int×Int×Unit)×D.Zone×D.Layer×Unit)) (fun s ((e,a,_),f,g,_)=>cd (0<=a) (join (Y:=((Int×Int×Unit)×D.Zone×D.Layer×Unit)) (fun((t,v,_),w,y,_)=>s ((t,(wrap .i64 (v - 1)),()),w,y,())) fun j=>optc (QbP u f g a) fun(z,A)=>cnd A (cd (z<=e) (i ((a,()),())) (j ((e,a,()),f,g,()))) (j ((e,a,()),f,g,()))) (i ((a,()),()))) u ((E,(wrap .i64 (Int.tdiv (max (wrap .i64 ((wrap .i64 (q.Day+2)) - p.Start.Day)) 0) o)),()),F,p,()))) fun k=>cd (b.Unit=2) (k ((c,(wrap .i64 (b.Every*7)),()),h,b,n,())) (k ((c,b.Every,()),h,b,n,())))
theorem Qo8:FO 455 (sI [.st .Zone,.st .Layer,nI] fun x=>Qhx u x.1 x.2.1 x.2.2.1):=fI u (gs 2 (.two (.two .go (.two (.two (.join [ni 7] [] .go) .go) .go)) (gs 2 (.two (.join [ni 2,rf 3,rf 4,rf 10,ni 12] [bx 1003 .Zone,bx 1004 .Layer,bx 1010 .Local] .go) (.two (.join [ni 7] [] (.two .go (.one (.loop [ni 2,rf 3,rf 4,ni 7] [bx 1003 .Zone,bx 1004 .Layer] (.two .go (.two (.join [ni 2,rf 3,rf 4,ni 7] [bx 1003 .Zone,bx 1004 .Layer] .go) .go)))))) .go))))) kz0 (eC (Qca u) (eC (QiL u) (eC (QkQ u) eN))) Tryz.func455
def QeM(b:D.Zone)(c:D.Layer)(a:Int):Option (Int×Int):=optc (Qhw u b c) fun e=>cd (e≠0) (some (0,8)) (join (Y:=((Int×Unit)×D.Zone×D.Layer×Unit)) (fun((f,_),g,h,_)=>optc (Qhx u g h f) fun i=>some (i,0)) fun j=>cd (a<0) (some (0,1)) (cd (8589934592<a) (some (0,1)) (j ((a,()),b,c,()))))
theorem Qo7:FO 450 (Qd [.st .Zone,.st .Layer,nI] [] [nI,nI] [] [] (Int×Int) kz2 (fun x y=>QeM u x.1 x.2.1 x.2.2.1)):=fI u (gs 2 (.two (.join [ni 2,rf 3,rf 4] [bx 1003 .Zone,bx 1004 .Layer] .go) .go)) kz3 (eC (Qo6 u) (eC (Qo8 u) eN)) Tryz.func450
def Qjr(l:D.Config)(g:D.Layer)(i:Int):Option (Int×Bool):=atc l.Zones g.Zone fun o=>optc (QeM u o g i) fun(m,E)=>join (Y:=((Int×Int×Unit)×D.Config×D.Layer×Unit)) (fun((F,p,_),q,n,_)=>cd (n.Mode=0) (some (p,true)) (atc q.Calendars n.Calendar fun r=>atc q.Zones r.Zone fun G=>optc (Ux u G F) fun(H,I)=>Qg (X:=((Int×Bool×Int×Unit)×D.Layer×D.Calendar×D.Local×Unit)) (fun s ((c,j,a,_),e,b,f,_)=>cd (a<(b.Days.length:Int)) (join (Y:=((Int×Bool×Int×Unit)×D.Layer×D.Calendar×D.Local×Unit)) (fun((t,v,w,_),y,z,A,_)=>s ((t,v,(wrap .i64 (w+1)),()),y,z,A,())) fun h=>cnd j (h ((c,true,a,()),e,b,f,())) (atc b.Days a fun B=>cd (B=f.Day) (h ((c,true,a,()),e,b,f,())) (h ((c,false,a,()),e,b,f,())))) (some (c,(decide (j=(decide (e.Mode=2))))))) u ((p,false,0,()),n,r,H,()))) fun k=>cd (E≠0) (some (0,false)) (cd (m<0) (some (0,false)) (cd (0<(g.Windows.length:Int)) (optc (Qmi u o g.Windows i) fun C=>cnd C (k ((i,m,()),l,g,())) (some (0,false))) (k ((i,m,()),l,g,()))))
theorem Qqu:FO 444 (Qd [.st .Config,.st .Layer,nI] [] [nI,.one .boo] [] [] (Int×Bool) kz2 (fun x y=>Qjr u x.1 x.2.1 x.2.2.1)):=fI u (gs 3 (.two (.join [ni 2,rf 3,rf 4,ni 9] [bx 1003 .Config,bx 1004 .Layer] .go) (gs 4 (lp [rf 4,ni 9,rf 11,rf 12,(14,.one .boo),ni 15] [bx 1004 .Layer,bx 1011 .Calendar,bx 1012 .Local] (.two .go (.two (.join [rf 4,ni 9,rf 11,rf 12,(14,.one .boo),ni 15] [bx 1004 .Layer,bx 1011 .Calendar,bx 1012 .Local] .go) .go)))))) kz3 (eC (Qo0 u) (eC (Qca u) (eC (Qo7 u) eN))) Tryz.func444
def QkR(b:D.Config)(a:D.Layer)(c:Int):Option Int:=optc (Qjr u b a c) fun(e,f)=>cnd (!f) (some (-1)) (nzc (a.Members.length:Int) (atc a.Members (Int.tmod e (a.Members.length:Int)) fun g=>some g))
theorem QsM:FO 436 (sI [.st .Config,.st .Layer,nI] fun x=>QkR u x.1 x.2.1 x.2.2.1):=fI u .go kz0 (eC (Qqu u) eN) Tryz.func436
def Qjs(h:D.Schedule)(i:Int)(j:Int):Option Bool:=Qg (X:=(P3×D.Schedule×Unit)) (fun k ((f,b,c,_),e,_)=>cd (c<(e.Edits.length:Int)) (join (Y:=(P3×D.Schedule×Unit)) (fun((l,m,n,_),o,_)=>k ((l,m,(wrap .i64 (n+1)),()),o,())) fun g=>atc e.Edits c fun a=>cd (a.Kind=0) (cd (a.A=f) (cd (a.From<=b) (cd (b<a.To) sT (g ((f,b,c,()),e,()))) (g ((f,b,c,()),e,()))) (g ((f,b,c,()),e,()))) (g ((f,b,c,()),e,()))) sF) u ((i,j,0,()),h,())
theorem Qqv:FO 437 (sB [.st .Schedule,nI,nI] fun x=>Qjs u x.1 x.2.1 x.2.2.1):=fI u (.two .go (lp [ni 1,ni 2,rf 3,ni 7] [bx 1003 .Schedule] (.two .go (.two (.join [ni 1,ni 2,rf 3,ni 7] [bx 1003 .Schedule] .go) .go)))) kz0 eN Tryz.func437
def Qnq(h:D.Config)(l:Int)(m:Int):Option (Int×Int):=atc h.Schedules l fun i=>Qg (X:=((Int×Int×Unit)×D.Config×D.Schedule×Unit)) (fun n ((c,a,_),g,e,_)=>cd (0<=a) (join (Y:=((Int×Int×Unit)×D.Config×D.Schedule×Unit)) (fun((o,p,_),q,r,_)=>n ((o,(wrap .i64 (p - 1)),()),q,r,())) fun f=>atc e.Layers a fun j=>optc (QkR u g j c) fun b=>cd (0<=b) (optc (Qjs u e b c) fun k=>cnd k (f ((c,a,()),g,e,())) (some (a,b))) (f ((c,a,()),g,e,()))) (some ((-1),(-1)))) u ((m,(wrap .i64 ((i.Layers.length:Int) - 1)),()),h,i,())
theorem QsN:FO 424 (Qd [.st .Config,nI,nI] [] [nI,nI] [] [] (Int×Int) kz2 (fun x y=>Qnq u x.1 x.2.1 x.2.2.1)):=fI u (gs 2 (lp [ni 2,rf 3,rf 8,ni 9] [bx 1003 .Config,bx 1008 .Schedule] (.two .go (.two (.join [ni 2,rf 3,rf 8,ni 9] [bx 1003 .Config,bx 1008 .Schedule] .go) .go)))) kz3 (eC (QsM u) (eC (Qqv u) eN)) Tryz.func424
def Qjt(h:List D.Edit)(i:Int)(j:Int):Option Int:=Qg (X:=((List D.Edit×Int×Int×Int×Unit)×Unit)) (fun k ((b,f,c,e,_),_)=>cd (e<(b.length:Int)) (join (Y:=((List D.Edit×Int×Int×Int×Unit)×Unit)) (fun((l,m,n,o,_),_)=>k ((l,m,n,(wrap .i64 (o+1)),()),())) fun g=>atc b e fun a=>cd (c<a.From) (g ((b,f,c,e,()),())) (cd (a.To<=c) (g ((b,f,c,e,()),())) (cd (a.Kind=1) (g ((b,a.A,c,e,()),())) (cd (a.Kind=2) (cd (f=a.A) (g ((b,a.B,c,e,()),())) (cd (a.Kind=2) (cd (f=a.B) (g ((b,a.A,c,e,()),())) (g ((b,f,c,e,()),()))) (g ((b,f,c,e,()),())))) (cd (a.Kind=2) (cd (f=a.B) (g ((b,a.A,c,e,()),())) (g ((b,f,c,e,()),()))) (g ((b,f,c,e,()),()))))))) (some f)) u ((h,i,j,0,()),())
theorem Qqw:FO 425 (sI [.one (.lst .Edit),nI,nI] fun x=>Qjt u x.1 x.2.1 x.2.2.1):=fI u (.two .go (lp [li 0 .Edit,ni 1,ni 2,ni 7] [] (.two .go (.two (.join [li 0 .Edit,ni 1,ni 2,ni 7] [] .go) .go)))) kz0 eN Tryz.func425
def Qqx(a:D.Config)(b:Int)(c:Int):Option Int:=optc (Qnq u a b c) fun(h,e)=>atc a.Schedules b fun f=>optc (Qjt u f.Edits e c) fun g=>some g
theorem QsO:FO 401 (sI [.st .Config,nI,nI] fun x=>Qqx u x.1 x.2.1 x.2.2.1):=fI u .go kz0 (eC (QsN u) (eC (Qqw u) eN)) Tryz.func401
def Qnr(a:D.Config)(b:Int)(c:Int):Option Int:=optc (QuV u a b c) fun e=>cnd (!e) (some (-1)) (optc (Qqx u a b c) fun f=>some f)
theorem QsP:FO 371 (sI [.st .Config,nI,nI] fun x=>Qnr u x.1 x.2.1 x.2.2.1):=fI u .go kz0 (eC (QuW u) (eC (QsO u) eN)) Tryz.func371
def QkS(a:D.Config)(b:Int)(c:Int):Option Int:=optc (Qnr u a b c) fun e=>some e
theorem QsQ:FO 358 (sI [.st .Config,nI,nI] fun x=>QkS u x.1 x.2.1 x.2.2.1):=fI u .go kz0 (eC (QsP u) eN) Tryz.func358
def QcA(p0:D.Config)(p1:D.Book)(p2:List D.Target)(p3:Int):Option (List Int):=Qg (X:=((List D.Target×Int×List Int×Int×Unit)×D.Config×D.Book×Unit)) (fun L0 ((f,g,i,h,_),c,e,_)=>cd (h<(f.length:Int)) (join (Y:=((List D.Target×Int×List Int×Int×Unit)×D.Config×D.Book×Unit)) (fun((a7,a8,a9,b0,_),b1,b2,_)=>L0 ((a7,a8,a9,(wrap .i64 (b0+1)),()),b1,b2,())) fun b=>atc f h fun a=>cd (a.Kind=0) (optc (QQ u a.Index 0 (wrap .i64 ((c.People.length:Int) - 1))) fun b3=>cnd b3 (optc (Vl u i a.Index) fun b4=>b ((f,g,b4,h,()),c,e,())) (cd (a.Kind=1) (optc (QQ u a.Index 0 (wrap .i64 ((c.Schedules.length:Int) - 1))) fun b5=>cnd b5 (optc (QkS u c a.Index g) fun aD=>cd (0<=aD) (optc (Vl u i aD) fun b6=>b ((f,g,b6,h,()),c,e,())) (b ((f,g,i,h,()),c,e,()))) (cd (a.Kind=2) (optc (QQ u a.Index 0 (wrap .i64 ((e.Teams.length:Int) - 1))) fun b7=>cnd b7 (Qg (X:=((List D.Target×Int×List Int×Int×Int×Unit)×D.Config×D.Book×D.Target×Unit)) (fun b8 ((G,H,I,J,q,_),C,m,r,_)=>atc m.Teams r.Index fun b9=>cd (q<(b9.Members.length:Int)) (join (Y:=((List D.Target×Int×List Int×Int×Int×Unit)×D.Config×D.Book×D.Target×Unit)) (fun((bA,bB,bC,bD,bE,_),bF,bG,bH,_)=>b8 ((bA,bB,bC,bD,(wrap .i64 (bE+1)),()),bF,bG,bH,())) fun aE=>atc m.Teams r.Index fun bI=>atc bI.Members q fun bJ=>optc (QQ u bJ 0 (wrap .i64 ((C.People.length:Int) - 1))) fun bK=>cnd bK (atc m.Teams r.Index fun bL=>atc bL.Members q fun bM=>optc (Vl u I bM) fun bN=>aE ((G,H,bN,J,q,()),C,m,r,())) (aE ((G,H,I,J,q,()),C,m,r,()))) (b ((G,H,I,J,()),C,m,()))) u ((f,g,i,h,0,()),c,e,a,())) (b ((f,g,i,h,()),c,e,()))) (b ((f,g,i,h,()),c,e,())))) (cd (a.Kind=2) (optc (QQ u a.Index 0 (wrap .i64 ((e.Teams.length:Int) - 1))) fun bO=>cnd bO (Qg (X:=((List D.Target×Int×List Int×Int×Int×Unit)×D.Config×D.Book×D.Target×Unit)) (fun bP ((L,O,S,W,s,_),E,n,t,_)=>atc n.Teams t.Index fun bQ=>cd (s<(bQ.Members.length:Int)) (join (Y:=((List D.Target×Int×List Int×Int×Int×Unit)×D.Config×D.Book×D.Target×Unit)) (fun((bR,bS,bT,bU,bV,_),bW,bX,bY,_)=>bP ((bR,bS,bT,bU,(wrap .i64 (bV+1)),()),bW,bX,bY,())) fun aF=>atc n.Teams t.Index fun c0=>atc c0.Members s fun c1=>optc (QQ u c1 0 (wrap .i64 ((E.People.length:Int) - 1))) fun c2=>cnd c2 (atc n.Teams t.Index fun c3=>atc c3.Members s fun c4=>optc (Vl u S c4) fun c5=>aF ((L,O,c5,W,s,()),E,n,t,())) (aF ((L,O,S,W,s,()),E,n,t,()))) (b ((L,O,S,W,()),E,n,()))) u ((f,g,i,h,0,()),c,e,a,())) (b ((f,g,i,h,()),c,e,()))) (b ((f,g,i,h,()),c,e,()))))) (cd (a.Kind=1) (optc (QQ u a.Index 0 (wrap .i64 ((c.Schedules.length:Int) - 1))) fun c6=>cnd c6 (optc (QkS u c a.Index g) fun aG=>cd (0<=aG) (optc (Vl u i aG) fun c7=>b ((f,g,c7,h,()),c,e,())) (b ((f,g,i,h,()),c,e,()))) (cd (a.Kind=2) (optc (QQ u a.Index 0 (wrap .i64 ((e.Teams.length:Int) - 1))) fun c8=>cnd c8 (Qg (X:=((List D.Target×Int×List Int×Int×Int×Unit)×D.Config×D.Book×D.Target×Unit)) (fun c9 ((Z,a0,aA,aB,v,_),F,o,w,_)=>atc o.Teams w.Index fun cA=>cd (v<(cA.Members.length:Int)) (join (Y:=((List D.Target×Int×List Int×Int×Int×Unit)×D.Config×D.Book×D.Target×Unit)) (fun((cB,cC,cD,cE,cF,_),cG,cH,cI,_)=>c9 ((cB,cC,cD,cE,(wrap .i64 (cF+1)),()),cG,cH,cI,())) fun aH=>atc o.Teams w.Index fun cJ=>atc cJ.Members v fun cL=>optc (QQ u cL 0 (wrap .i64 ((F.People.length:Int) - 1))) fun cM=>cnd cM (atc o.Teams w.Index fun cN=>atc cN.Members v fun cO=>optc (Vl u aA cO) fun aI=>aH ((Z,a0,aI,aB,v,()),F,o,w,())) (aH ((Z,a0,aA,aB,v,()),F,o,w,()))) (b ((Z,a0,aA,aB,()),F,o,()))) u ((f,g,i,h,0,()),c,e,a,())) (b ((f,g,i,h,()),c,e,()))) (b ((f,g,i,h,()),c,e,())))) (cd (a.Kind=2) (optc (QQ u a.Index 0 (wrap .i64 ((e.Teams.length:Int) - 1))) fun aJ=>cnd aJ (Qg (X:=((List D.Target×Int×List Int×Int×Int×Unit)×D.Config×D.Book×D.Target×Unit)) (fun aK ((y,z,A,B,k,_),p,j,l,_)=>atc j.Teams l.Index fun aL=>cd (k<(aL.Members.length:Int)) (join (Y:=((List D.Target×Int×List Int×Int×Int×Unit)×D.Config×D.Book×D.Target×Unit)) (fun((aM,aN,aO,aP,aQ,_),aR,aS,aT,_)=>aK ((aM,aN,aO,aP,(wrap .i64 (aQ+1)),()),aR,aS,aT,())) fun aC=>atc j.Teams l.Index fun aU=>atc aU.Members k fun aV=>optc (QQ u aV 0 (wrap .i64 ((p.People.length:Int) - 1))) fun aW=>cnd aW (atc j.Teams l.Index fun aX=>atc aX.Members k fun aY=>optc (Vl u A aY) fun aZ=>aC ((y,z,aZ,B,k,()),p,j,l,())) (aC ((y,z,A,B,k,()),p,j,l,()))) (b ((y,z,A,B,()),p,j,()))) u ((f,g,i,h,0,()),c,e,a,())) (b ((f,g,i,h,()),c,e,()))) (b ((f,g,i,h,()),c,e,()))))) (some i)) u ((p2,p3,[],0,()),p0,p1,())
theorem Qnt:FO 339 (Qd [.st .Config,.st .Book,.one (.lst .Target),nI] [] [lI] [] [] (List Int) kz1 (fun x y=>QcA u x.1 x.2.1 x.2.2.1 x.2.2.2.1)):=fI u (gs 2 (lp [li 2 .Target,ni 3,rf 4,rf 5,(9,lI),ni 10] [bx 1004 .Config,bx 1005 .Book] (.two .go (.two (.join [li 2 .Target,ni 3,rf 4,rf 5,(9,lI),ni 10] [bx 1004 .Config,bx 1005 .Book] (.one (.two .go (.one (gs 5 (lp [li 2 .Target,ni 3,rf 4,rf 5,(9,lI),ni 10,rf 11,ni 13] [bx 1004 .Config,bx 1005 .Book,bx 1011 .Target] (.two .go (.two (.join [li 2 .Target,ni 3,rf 4,rf 5,(9,lI),ni 10,rf 11,ni 13] [bx 1004 .Config,bx 1005 .Book,bx 1011 .Target] .go) .go)))))))) .go)))) kz0 (eC (Yp u) (eC (QkU u) (eC (QsQ u) eN))) Tryz.func339
def QkO(u:Nat)(a:Int)(b:Int):Option Bool:=cd (0<=a) (cd (a<=8589934592) (cd (a<=b) (cd (b<=8589934592) (cd ((wrap .i64 (b - a))<=34560000) sT sF) sF) sF) sF) sF
theorem Qo1:FO 372 (sB [nI,nI] fun x=>QkO u x.1 x.2.1):=fI u .go kz0 eN Tryz.func372
def Qhy(a:D.Config)(b:Int)(c:Int)(e:Int):Option Int:=join (Y:=(Unit×Unit)) (fun(_,_)=>some 0) fun f=>optc (VW u a) fun g=>cd (g≠0) (some 8) (cd (b<0) (some 3) (cd ((a.People.length:Int)<=b) (some 3) (optc (QkO u c e) fun h=>cnd (!h) (some 1) (f ((),())))))
theorem Qpa:FO 359 (sI [.st .Config,nI,nI,nI] fun x=>Qhy u x.1 x.2.1 x.2.2.1 x.2.2.2.1):=fI u (.two .go (.two (.join [] [] .go) .go)) kz0 (eC (QbO u) (eC (Qo1 u) eN)) Tryz.func359
def QaM(a:D.Config)(e:Int)(b:Int)(f:Bool):Option Bool:=optc (Qhy u a e b b) fun g=>cd (g≠0) sF (atc a.People e fun c=>atc a.Zones c.Zone fun h=>optc (Qmi u h c.Quiet b) fun i=>cnd i (cnd f (cnd c.Consent sT sF) sF) sT)
theorem Qi7:FO 340 (sB [.st .Config,nI,nI,.one .boo] fun x=>QaM u x.1 x.2.1 x.2.2.1 x.2.2.2.1):=fI u .go kz0 (eC (Qpa u) (eC (Qo0 u) eN)) Tryz.func340
def Qjw(O:D.Config)(J:D.Book)(b:D.Page):Option (D.Page×Int):=optc (VY u J b) fun a0=>cnd (!a0) (some ((D.Page.mk 0 0 0 0 0 0 0 0 0 0 0 [] [] []),8)) (optc (QgG u b) fun(j,a2)=>cnd (!a2) (some ((D.Page.mk 0 0 0 0 0 0 0 0 0 0 0 [] [] []),9)) (cd (200<=(b.Starts.length:Int)) (some ((D.Page.mk 0 0 0 0 0 0 0 0 0 0 0 [] [] []),5)) (optc (QaN u b) fun a=>cd (b.State=2) (some ((D.Page.mk a.ID a.Policy a.Start a.Next j 0 a.By a.Until (max j b.Last) a.Snoozes a.Hands a.Starts a.Declined a.Seen),0)) (atc J.Policies b.Policy fun L=>optc (Qhz u L b.Next) fun(S,a6,a7)=>cnd (!a7) (some ((D.Page.mk a.ID a.Policy a.Start a.Next a.Due 3 a.By a.Until (max j b.Last) a.Snoozes a.Hands a.Starts a.Declined a.Seen),0)) (atc L.Steps S fun a8=>optc (QcA u O J a8.Targets j) fun a9=>Qg (X:=((Int×Int×List Int×Int×Unit)×D.Config×D.Page×D.Page×P11×D.Policy×(Int×Int×Unit)×List D.Start×List Int×List Int×List Int×Unit)) (fun W ((B,k,e,f,_),C,l,m,(n,o,p,E,q,r,s,t,v,w,y,_),z,(g,h,_),i,F,A,c,_)=>cd (f<(e.length:Int)) (join (Y:=((Int×Int×List Int×Int×Unit)×D.Config×D.Page×D.Page×P11×D.Policy×(Int×Int×Unit)×List D.Start×List Int×List Int×List Int×Unit)) (fun((Z,aA,aB,aC,_),aD,aE,aF,(aG,aH,aI,aJ,aK,aL,aM,aN,aO,aP,aQ,_),aR,(aS,aT,_),aU,aV,aW,aX,_)=>W ((Z,aA,aB,(wrap .i64 (aC+1)),()),aD,aE,aF,(aG,aH,aI,aJ,aK,aL,aM,aN,aO,aP,aQ,()),aR,(aS,aT,()),aU,aV,aW,aX,())) fun G=>atc e f fun aY=>atc z.Steps k fun aZ=>optc (QaM u C aY B aZ.Urgent) fun b0=>cnd b0 (atc e f fun H=>lec (c.length+[H].length) 34359738368 (G ((B,k,e,f,()),C,l,m,(n,o,p,E,q,r,s,t,v,w,y,()),z,(g,h,()),i,F,A,(c++[H]),()))) (G ((B,k,e,f,()),C,l,m,(n,o,p,E,q,r,s,t,v,w,y,()),z,(g,h,()),i,F,A,c,()))) (lec (i.length+[(D.Start.mk g h c)].length) 34359738368 (join (Y:=(Unit×D.Page×(Int×Int×Int×Int×Int×Int×Int×Int×Int×Int×Int×List Int×Unit)×List D.Start×List Int×Unit)) (fun(_,bG,(b1,b2,b3,b4,b5,b6,b7,b8,b9,bA,bB,bC,_),bD,bE,_)=>some ((D.Page.mk b1 b2 b3 b4 b5 b6 b7 b8 b9 bA bB bD bC bE),0)) fun I=>cd (0<(c.length:Int)) (atc z.Steps k fun bF=>I ((),m,(n,o,p,(wrap .i64 (l.Next+1)),(wrap .i64 (q+bF.Wait)),r,s,t,v,w,y,[],()),(i++[(D.Start.mk g h c)]),A,())) (I ((),m,(n,o,p,(wrap .i64 (l.Next+1)),q,r,s,t,v,w,y,[],()),(i++[(D.Start.mk g h c)]),A,()))))) u ((j,S,a9,0,()),O,b,(D.Page.mk 0 0 0 0 0 0 0 0 0 0 0 [] [] []),(a.ID,a.Policy,a.Start,a.Next,a.Due,a.State,a.By,a.Until,(max j b.Last),a.Snoozes,a.Hands,()),L,(b.Next,j,()),a.Starts,a.Declined,a.Seen,[],()))))))
theorem QqD:FO 301 (Qd [.st .Config,.st .Book,.st .Page] [] [.st .Page,nI] [] [] (D.Page×Int) kz2 (fun x y=>Qjw u x.1 x.2.1 x.2.2.1)):=fI u (gs 13 (.two (.two .go (.one (.loop [rf 3,rf 5,rf 6,ni 8,rf 10,rf 11,ni 12,rf 15,(16,lI),ni 17] [bx 1003 .Config,bx 1005 .Page,bx 1006 .Page,(1010,.box bH1),bx 1011 .Policy,(1015,.box [kI,kI,.own 1108]),ar 1038025 .Start,ar 1038030 .int,ar 1038033 .int,ar 1108 .int] (.two .go (.two (.join [rf 3,rf 5,rf 6,ni 8,rf 10,rf 11,ni 12,rf 15,(16,lI),ni 17] [bx 1003 .Config,bx 1005 .Page,bx 1006 .Page,(1010,.box bH1),bx 1011 .Policy,(1015,.box [kI,kI,.own 1108]),ar 1038025 .Start,ar 1038030 .int,ar 1038033 .int,ar 1108 .int] .go) .go))))) (.two (.frz [1108] .go) (.two (.join [rf 6,rf 10] [bx 1006 .Page,(1010,.box [kI,kI,kI,kI,kI,kI,kI,kI,kI,kI,kI,.own 1038025,.lst .int,.own 1038033]),ar 1038025 .Start,ar 1038033 .int] .go) .go)))) kz3 (eC (Uy u) (eC (QbQ u) (eC (QfG u) (eC (Qqz u) (eC (Qnt u) (eC (Qi7 u) eN)))))) Tryz.func301
def Qny(n:D.Config)(f:D.Book)(g:D.Page)(o:Int):Option (D.Page×Int):=optc (VY u f g) fun p=>cnd (!p) (some ((D.Page.mk 0 0 0 0 0 0 0 0 0 0 0 [] [] []),8)) (optc (QaN u g) fun q=>Qg (X:=((Int×Unit)×D.Config×D.Book×D.Page×D.Page×Unit)) (fun r ((h,_),s,t,a,v,_)=>optc (QgG u a) fun(w,y)=>join (Y:=((Int×Unit)×D.Config×D.Book×D.Page×D.Page×Unit)) (fun((i,_),b,c,j,k,_)=>optc (Qjw u b c j) fun(l,e)=>cd (e≠0) (some ((D.Page.mk 0 0 0 0 0 0 0 0 0 0 0 [] [] []),e)) (r ((i,()),b,c,l,k,()))) fun m=>cnd y (cd (h<w) (some (a,0)) (m ((h,()),s,t,a,v,()))) (some (a,0))) u ((o,()),n,f,q,(D.Page.mk 0 0 0 0 0 0 0 0 0 0 0 [] [] []),()))
theorem QsR:FO 216 (Qd [.st .Config,.st .Book,.st .Page,nI] [] [.st .Page,nI] [] [] (D.Page×Int) kz2 (fun x y=>Qny u x.1 x.2.1 x.2.2.1 x.2.2.2.1)):=fI u (gs 3 (.one (.loop [ni 3,rf 4,rf 5,rf 6,rf 8] [bx 1004 .Config,bx 1005 .Book,bx 1006 .Page,bx 1008 .Page] (.one (.two .go (.two (.join [ni 3,rf 4,rf 5,rf 6,rf 8] [bx 1004 .Config,bx 1005 .Book,bx 1006 .Page,bx 1008 .Page] .go) .go)))))) kz3 (eC (Uy u) (eC (QbQ u) (eC (QfG u) (eC (QqD u) eN)))) Tryz.func216
def Qdo(a:D.Page)(b:D.Answer):Option Int:=optc (QgG u a) fun(n,o)=>join (Y:=(Unit×Unit)) (fun(_,_)=>some 0) fun l=>cd (b.At<a.Last) (some 6) (cnd o (cd (n<=b.At) (some 6) (join (Y:=((Bool×Unit)×D.Page×D.Answer×Unit)) (fun((p,_),i,k,_)=>cnd p (some 9) (join (Y:=((Bool×Unit)×Unit)) (fun((q,_),_)=>cnd q (some 5) (l ((),()))) fun g=>cd (64<=(i.Seen.length:Int)) (g (((decide (64<=(i.Seen.length:Int))),()),())) (cd (k.Kind=3) (cd (4<=i.Snoozes) (g ((true,()),())) (cd (k.Kind=4) (cd (4<=i.Hands) (g ((true,()),())) (cd (200<=(i.Starts.length:Int)) (g ((true,()),())) (g ((false,()),())))) (g ((false,()),())))) (cd (k.Kind=4) (cd (4<=i.Hands) (g ((true,()),())) (cd (200<=(i.Starts.length:Int)) (g ((true,()),())) (g ((false,()),())))) (g ((false,()),())))))) fun h=>cd (a.State=4) (h (((decide (a.State=4)),()),a,b,())) (cd (a.State=3) (cd (b.Kind≠5) (h ((true,()),a,b,())) (cd (a.State=1) (cd (b.Kind=2) (h ((true,()),a,b,())) (h ((false,()),a,b,()))) (h ((false,()),a,b,())))) (cd (a.State=1) (cd (b.Kind=2) (h ((true,()),a,b,())) (h ((false,()),a,b,()))) (h ((false,()),a,b,())))))) (join (Y:=((Bool×Unit)×D.Page×D.Answer×Unit)) (fun((r,_),f,j,_)=>cnd r (some 9) (join (Y:=((Bool×Unit)×Unit)) (fun((m,_),_)=>cnd m (some 5) (l ((),()))) fun c=>cd (64<=(f.Seen.length:Int)) (c (((decide (64<=(f.Seen.length:Int))),()),())) (cd (j.Kind=3) (cd (4<=f.Snoozes) (c ((true,()),())) (cd (j.Kind=4) (cd (4<=f.Hands) (c ((true,()),())) (cd (200<=(f.Starts.length:Int)) (c ((true,()),())) (c ((false,()),())))) (c ((false,()),())))) (cd (j.Kind=4) (cd (4<=f.Hands) (c ((true,()),())) (cd (200<=(f.Starts.length:Int)) (c ((true,()),())) (c ((false,()),())))) (c ((false,()),())))))) fun e=>cd (a.State=4) (e (((decide (a.State=4)),()),a,b,())) (cd (a.State=3) (cd (b.Kind≠5) (e ((true,()),a,b,())) (cd (a.State=1) (cd (b.Kind=2) (e ((true,()),a,b,())) (e ((false,()),a,b,()))) (e ((false,()),a,b,())))) (cd (a.State=1) (cd (b.Kind=2) (e ((true,()),a,b,())) (e ((false,()),a,b,()))) (e ((false,()),a,b,()))))))
theorem QlM:FO 302 (sI [.st .Page,.st .Answer] fun x=>Qdo u x.1 x.2.1):=fI u (gs 2 (.two (.join [] [] (.one (gs 2 (.two (.join [rf 2,rf 3,(27,.one .boo)] [bx 1002 .Page,bx 1003 .Answer] .go) (.two .go (.two (.join [(47,.one .boo)] [] .go) .go)))))) .go)) kz0 (eC (QfG u) eN) Tryz.func302
def QfF(u:Nat)(a:D.Page):Option (List Int):=cd ((a.Starts.length:Int)=0) (some []) (atc a.Starts (wrap .i64 ((a.Starts.length:Int) - 1)) fun b=>lec b.People.length 34359738368 (some b.People))
theorem Qnx:FO 303 (Qd [.st .Page] [] [lI] [] [] (List Int) kz1 (fun x y=>QfF u x.1)):=fI u .go kz0 eN Tryz.func303
def QfE(p0:D.Config)(p1:D.Book)(H:D.Page)(I:D.Answer):Option (D.Page×Int):=join (Y:=(Unit×D.Page×D.Answer×D.Page×Unit)) (fun(_,e,b,t,_)=>cd (b.Page≠e.ID) (some ((D.Page.mk 0 0 0 0 0 0 0 0 0 0 0 [] [] []),3)) (optc (QaN u e) fun a=>optc (Qdl u e.Seen b.ID) fun a4=>cnd a4 (some (a,0)) (optc (Qdo u e b) fun J=>cd (J≠0) (some ((D.Page.mk 0 0 0 0 0 0 0 0 0 0 0 [] [] []),J)) (lec (a.Seen.length+[b.ID].length) 34359738368 (join (Y:=(Unit×D.Page×(Int×Int×Int×Int×Int×Int×Int×Int×Int×Int×Int×List Int×Unit)×List D.Start×List Int×Unit)) (fun(_,a6,(a7,a8,a9,L,O,S,W,Z,aA,aB,aC,aD,_),aE,aF,_)=>some ((D.Page.mk a7 a8 a9 L O S W Z aA aB aC aE aD aF),0)) fun c=>cd (b.Kind=1) (cd (e.State=1) (c ((),t,(a.ID,a.Policy,a.Start,a.Next,a.Due,a.State,a.By,a.Until,e.Last,a.Snoozes,a.Hands,a.Declined,()),a.Starts,(a.Seen++[b.ID]),())) (c ((),t,(a.ID,a.Policy,a.Start,a.Next,a.Due,1,b.Person,a.Until,b.At,a.Snoozes,a.Hands,a.Declined,()),a.Starts,(a.Seen++[b.ID]),()))) (cd (b.Kind=2) (optc (QfF u e) fun B=>join (Y:=((List Int×Unit)×D.Page×D.Answer×D.Page×(Int×Int×Int×Int×Int×Int×Int×Int×Int×Int×Int×List Int×Unit)×List D.Start×List Int×Unit)) (fun((E,_),aG,aH,aI,(aJ,aK,aL,aM,aN,aO,aP,aQ,aR,aS,aT,aU,_),aV,aW,_)=>Qg (X:=((List Int×Bool×Int×Unit)×D.Page×D.Answer×D.Page×(Int×Int×Int×Int×Int×Int×Int×Int×Int×Int×Int×List Int×Unit)×List D.Start×List Int×Unit)) (fun aX ((v,F,w,_),z,A,g,(h,i,j,k,y,l,m,n,o,p,q,f,_),r,s,_)=>cd (w<(v.length:Int)) (join (Y:=((List Int×Bool×Int×Unit)×D.Page×D.Answer×D.Page×(Int×Int×Int×Int×Int×Int×Int×Int×Int×Int×Int×List Int×Unit)×List D.Start×List Int×Unit)) (fun((aY,aZ,b0,_),b1,b2,b3,(b4,b5,b6,b7,b8,b9,bA,bB,bC,bD,bE,bF,_),bG,bH,_)=>aX ((aY,aZ,(wrap .i64 (b0+1)),()),b1,b2,b3,(b4,b5,b6,b7,b8,b9,bA,bB,bC,bD,bE,bF,()),bG,bH,())) fun C=>cnd F (atc v w fun bI=>optc (Qdl u f bI) fun bJ=>cnd bJ (C ((v,true,w,()),z,A,g,(h,i,j,k,y,l,m,n,o,p,q,f,()),r,s,())) (C ((v,false,w,()),z,A,g,(h,i,j,k,y,l,m,n,o,p,q,f,()),r,s,()))) (C ((v,false,w,()),z,A,g,(h,i,j,k,y,l,m,n,o,p,q,f,()),r,s,()))) (cnd F (cd (z.State=0) (c ((),g,(h,i,j,k,A.At,l,m,n,o,p,q,f,()),r,s,())) (c ((),g,(h,i,j,k,y,l,m,n,o,p,q,f,()),r,s,()))) (c ((),g,(h,i,j,k,y,l,m,n,o,p,q,f,()),r,s,())))) u ((E,(decide (0<(E.length:Int))),0,()),aG,aH,aI,(aJ,aK,aL,aM,aN,aO,aP,aQ,aR,aS,aT,aU,()),aV,aW,())) fun G=>optc (Qdl u B b.Person) fun bK=>cnd bK (optc (Vl u a.Declined b.Person) fun bL=>G ((B,()),e,b,t,(a.ID,a.Policy,a.Start,a.Next,a.Due,a.State,a.By,a.Until,b.At,a.Snoozes,a.Hands,bL,()),a.Starts,(a.Seen++[b.ID]),())) (G ((B,()),e,b,t,(a.ID,a.Policy,a.Start,a.Next,a.Due,a.State,a.By,a.Until,b.At,a.Snoozes,a.Hands,a.Declined,()),a.Starts,(a.Seen++[b.ID]),()))) (cd (b.Kind=3) (c ((),t,(a.ID,a.Policy,a.Start,a.Next,a.Due,2,b.Person,(wrap .i64 (b.At+b.Arg)),b.At,(wrap .i64 (e.Snoozes+1)),a.Hands,a.Declined,()),a.Starts,(a.Seen++[b.ID]),())) (cd (b.Kind=4) (lec (a.Starts.length+[(D.Start.mk (-1) b.At [b.Arg])].length) 34359738368 (c ((),t,(a.ID,a.Policy,a.Start,a.Next,(wrap .i64 (b.At+600)),0,a.By,a.Until,b.At,a.Snoozes,(wrap .i64 (e.Hands+1)),[],()),(a.Starts++[(D.Start.mk (-1) b.At [b.Arg])]),(a.Seen++[b.ID]),()))) (cd (b.Kind=5) (c ((),t,(a.ID,a.Policy,a.Start,a.Next,a.Due,4,b.Person,a.Until,b.At,a.Snoozes,a.Hands,a.Declined,()),a.Starts,(a.Seen++[b.ID]),())) (c ((),t,(a.ID,a.Policy,a.Start,a.Next,a.Due,a.State,a.By,a.Until,b.At,a.Snoozes,a.Hands,a.Declined,()),a.Starts,(a.Seen++[b.ID]),()))))))))))) fun bM=>optc (VY u p1 H) fun bN=>cnd bN (optc (QeQ u I) fun bO=>cnd bO (bM ((),H,I,(D.Page.mk 0 0 0 0 0 0 0 0 0 0 0 [] [] []),())) (some ((D.Page.mk 0 0 0 0 0 0 0 0 0 0 0 [] [] []),8))) (some ((D.Page.mk 0 0 0 0 0 0 0 0 0 0 0 [] [] []),8))
theorem Qnw:FO 218 (Qd [.st .Config,.st .Book,.st .Page,.st .Answer] [] [.st .Page,nI] [] [] (D.Page×Int) kz2 (fun x y=>QfE u x.1 x.2.1 x.2.2.1 x.2.2.2.1)):=fI u (.two .go (.two (.join [rf 6,rf 7,rf 8] [bx 1006 .Page,bx 1007 .Answer,bx 1008 .Page] .go) (gs 5 (.two (.join [rf 8,rf 10] [bx 1008 .Page,(1010,.box bH2),ar 1033025 .Start,ar 1033033 .int] (.two .go (.one (gs 3 (.two (.two .go (.two (.join [rf 6,rf 7,rf 8,rf 10,(12,lI)] [bx 1006 .Page,bx 1007 .Answer,bx 1008 .Page,(1010,.box bH2),ar 1033025 .Start,ar 1033033 .int] .go) (.two .go (lp [rf 6,rf 7,rf 8,rf 10,(12,lI),(13,.one .boo),ni 14] [bx 1006 .Page,bx 1007 .Answer,bx 1008 .Page,(1010,.box bH2),ar 1033025 .Start,ar 1033033 .int] (.two .go (.two (.join [rf 6,rf 7,rf 8,rf 10,(12,lI),(13,.one .boo),ni 14] [bx 1006 .Page,bx 1007 .Answer,bx 1008 .Page,(1010,.box bH2),ar 1033025 .Start,ar 1033033 .int] .go) .go)))))) .go))))) .go)))) kz3 (eC (QfB u) (eC (Uy u) (eC (QbQ u) (eC (QiO u) (eC (QlM u) (eC (Qnx u) (eC (QkU u) eN))))))) Tryz.func218
def Qns(u:Nat)(a:D.Config)(e:Int)(f:List D.Edit):Option D.Config:=lec a.Schedules.length 34359738368 (natc e fun b=>ltc b a.Schedules.length (optc a.Schedules[b]? fun c=>some (D.Config.mk a.Zones a.People a.Calendars (List.set a.Schedules b (D.Schedule.mk c.Name c.Layers f)))))
theorem Qqy:FO 219 (Qd [.st .Config,nI,.one (.lst .Edit)] [] [.st .Config] [] [] D.Config kz1 (fun x y=>Qns u x.1 x.2.1 x.2.2.1)):=fI u .go kz0 eN Tryz.func219
def QeN(a:D.Config)(b:Int)(j:D.Edit):Option (D.Config×Int):=join (Y:=((Int×Unit)×D.Config×D.Edit×D.Config×Unit)) (fun((e,_),f,g,m,_)=>atc f.Schedules e fun c=>lec c.Edits.length 34359738368 (lec (c.Edits.length+[g].length) 34359738368 (optc (Qns u f e (c.Edits++[g])) fun h=>optc (VW u h) fun i=>cd (i≠0) (some ((D.Config.mk [] [] [] []),i)) (some (h,0))))) fun k=>optc (VW u a) fun l=>cd (l≠0) (some ((D.Config.mk [] [] [] []),8)) (cd (b<0) (some ((D.Config.mk [] [] [] []),3)) (cd ((a.Schedules.length:Int)<=b) (some ((D.Config.mk [] [] [] []),3)) (k ((b,()),a,j,(D.Config.mk [] [] [] []),()))))
theorem Qo9:FO 143 (Qd [.st .Config,nI,.st .Edit] [] [.st .Config,nI] [] [] (D.Config×Int) kz2 (fun x y=>QeN u x.1 x.2.1 x.2.2.1)):=fI u (.two .go (.two (.join [ni 1,rf 3,rf 5,rf 6] [bx 1003 .Config,bx 1005 .Edit,bx 1006 .Config] .go) .go)) kz3 (eC (QbO u) (eC (Qqy u) eN)) Tryz.func143
def ZZ(a:D.Ledger)(p:Int):Option (D.Page×Bool):=Qg (X:=((Int×Int×Unit)×(Int×List D.Zone×List D.Person×List D.Calendar×List D.Schedule×List D.Team×List D.Policy×Int×Int×Unit)×D.Page×List D.Page×List Int×List D.Call×Unit)) (fun q ((i,f,_),(r,s,t,v,w,y,z,j,k,_),l,b,c,e,_)=>cd (f<(b.length:Int)) (natc f fun g=>ltc g b.length (optc b[g]? fun m=>cd (m.ID=i) (natc f fun h=>ltc h b.length (optc b[h]? fun n=>optc (QaN u n) fun o=>sameC b a.Pages (sameC c a.Seen (sameC e a.Calls (some (o,true)))))) (q ((i,(wrap .i64 (f+1)),()),(r,s,t,v,w,y,z,j,k,()),l,b,c,e,())))) (sameC b a.Pages (sameC c a.Seen (sameC e a.Calls (some ((D.Page.mk 0 0 0 0 0 0 0 0 0 0 0 [] [] []),false)))))) u ((p,0,()),(a.Now,a.Config.Zones,a.Config.People,a.Config.Calendars,a.Config.Schedules,a.Book.Teams,a.Book.Policies,a.Owner,a.Fence,()),(D.Page.mk 0 0 0 0 0 0 0 0 0 0 0 [] [] []),a.Pages,a.Seen,a.Calls,())
theorem WE:FO 30 (Qd [.agg bH0,nI] [ar 101 .Page,ar 102 .int,ar 103 .Call] [.st .Page,.one .boo] [] [101,102,103] (D.Page×Bool) kz2 (fun x y=>ZZ u (D.Ledger.mk x.1.1 (D.Config.mk x.1.2.1 x.1.2.2.1 x.1.2.2.2.1 x.1.2.2.2.2.1) (D.Book.mk x.1.2.2.2.2.2.1 x.1.2.2.2.2.2.2.1) y.1 x.1.2.2.2.2.2.2.2.1 x.1.2.2.2.2.2.2.2.2.1 y.2.1 y.2.2.1) x.2.1)):=fI u (.two .go (lp [ni 1,rf 2,rf 4,ni 6] [(1002,.box bH0),bx 1004 .Page,ar 101 .Page,ar 102 .int,ar 103 .Call] .go)) kz3 (eC (Uy u) eN) Tryz.func30
def XB(b:D.Ledger)(p1:D.Page):Option D.Ledger:=Qg (X:=((Int×Unit)×(Int×List D.Zone×List D.Person×List D.Calendar×List D.Schedule×List D.Team×List D.Policy×Int×Int×Unit)×D.Page×D.Ledger×List D.Page×List Int×List D.Call×Unit)) (fun L0 ((g,_),(o,p,q,r,s,t,v,w,e,_),c,j,a,h,f,_)=>cd (g<(a.length:Int)) (join (Y:=((Int×Unit)×(Int×List D.Zone×List D.Person×List D.Calendar×List D.Schedule×List D.Team×List D.Policy×Int×Int×Unit)×D.Page×D.Ledger×List D.Page×List Int×List D.Call×Unit)) (fun((y,_),(z,A,B,C,E,F,G,H,I,_),J,L,O,S,W,_)=>L0 (((wrap .i64 (y+1)),()),(z,A,B,C,E,F,G,H,I,()),J,L,O,S,W,())) fun k=>natc g fun l=>ltc l a.length (optc a[l]? fun Z=>cd (Z.ID=c.ID) (natc g fun m=>ltc m a.length (optc a[m]? fun a0=>optc (QcC u c (a0.Starts.length:Int) e) fun n=>lec (f.length+n.length) 34359738368 (natc g fun i=>ltc i a.length (optc a[i]? fun aA=>k ((g,()),(o,p,q,r,s,t,v,w,e,()),c,j,(List.set a i c),h,(f++n),()))))) (k ((g,()),(o,p,q,r,s,t,v,w,e,()),c,j,a,h,f,())))) (some (D.Ledger.mk o (D.Config.mk p q r s) (D.Book.mk t v) a w e h f))) u ((0,()),(b.Now,b.Config.Zones,b.Config.People,b.Config.Calendars,b.Config.Schedules,b.Book.Teams,b.Book.Policies,b.Owner,b.Fence,()),p1,(D.Ledger.mk 0 (D.Config.mk [] [] [] []) (D.Book.mk [] []) [] 0 0 [] []),b.Pages,b.Seen,b.Calls,())
theorem Qaq:FO 217 (Qd [.agg bH0,.st .Page] [ar 101 .Page,ar 102 .int,ar 103 .Call] [.agg bH0] [ar 101 .Page,ar 102 .int,ar 103 .Call] [] D.Ledger kz8 (fun x y=>XB u (D.Ledger.mk x.1.1 (D.Config.mk x.1.2.1 x.1.2.2.1 x.1.2.2.2.1 x.1.2.2.2.2.1) (D.Book.mk x.1.2.2.2.2.2.1 x.1.2.2.2.2.2.2.1) y.1 x.1.2.2.2.2.2.2.2.1 x.1.2.2.2.2.2.2.2.2.1 y.2.1 y.2.2.1) x.2.1)):=fI u (.two .go (lp [rf 2,rf 3,rf 4,ni 5] [(1002,.box bH0),bx 1003 .Page,bx 1004 .Ledger,ar 101 .Page,ar 102 .int,ar 103 .Call] (.two .go (.two (.join [rf 2,rf 3,rf 4,ni 5] [(1002,.box bH0),bx 1003 .Page,bx 1004 .Ledger,ar 101 .Page,ar 102 .int,ar 103 .Call] .go) .go)))) kz16 (eC (QeS u) eN) Tryz.func217
def Ye(a:D.Ledger)(b:Int)(c:Int):Option D.Ledger:=optc (ZZ u a b) fun(e,f)=>cnd (!f) (some a) (optc (Qny u a.Config a.Book e c) fun(g,h)=>cd (h≠0) (some a) (optc (XB u a g) fun i=>some i))
theorem W1:FO 141 (Qd [.agg bH0,nI,nI] [ar 101 .Page,ar 102 .int,ar 103 .Call] [.agg bH0] [ar 101 .Page,ar 102 .int,ar 103 .Call] [] D.Ledger kz8 (fun x y=>Ye u (D.Ledger.mk x.1.1 (D.Config.mk x.1.2.1 x.1.2.2.1 x.1.2.2.2.1 x.1.2.2.2.2.1) (D.Book.mk x.1.2.2.2.2.2.1 x.1.2.2.2.2.2.2.1) y.1 x.1.2.2.2.2.2.2.2.1 x.1.2.2.2.2.2.2.2.2.1 y.2.1 y.2.2.1) x.2.1 x.2.2.1)):=fI u .go kz16 (eC (WE u) (eC (QsR u) (eC (Qaq u) eN))) Tryz.func141
def Wl(c:D.Ledger)(C:D.Op)(E:Int)(p3:Bool):Option (D.Ledger×Int):=cnd p3 (some (c,4)) (cd (64<=(c.Pages.length:Int)) (some (c,5)) (optc (QkV u c.Book C.Page C.Policy E) fun(a0,F)=>cd (F≠0) (some (c,F)) (join (Y:=((Int×Int×Unit)×(Int×List D.Zone×List D.Person×List D.Calendar×List D.Schedule×List D.Team×List D.Policy×Int×Int×Unit)×D.Ledger×D.Page×List D.Page×List Int×List D.Call×Unit)) (fun((a2,B,_),(a4,a5,a6,a7,a8,a9,G,H,I,_),aQ,a,b,J,L,_)=>lec (b.length+[a].length) 34359738368 (natc (wrap .i64 (B+1)) fun e=>lec e (b++[a]).length (natc B fun g=>lec g (b++[a]).length (chk (b++[a]).length (b++[a]).length (chk (b++[a]).length (b++[a]).length (lec e (b++[a]).length (lec g e (natc B fun j=>ltc j ((List.take e (b++[a]))++(List.take ((b++[a]).length - e) (List.drop g (b++[a])))).length (optc (GetElem?.getElem? ((List.take e (b++[a]))++(List.take ((b++[a]).length - e) (List.drop g (b++[a])))) j) fun aR=>optc (Ye u (D.Ledger.mk a4 (D.Config.mk a5 a6 a7 a8) (D.Book.mk a9 G) (List.set ((List.take e (b++[a]))++(List.take ((b++[a]).length - e) (List.drop g (b++[a])))) j a) H I J L) a.ID a2) fun O=>some (O,0)))))))))) fun z=>Qg (X:=((Int×Int×Unit)×(Int×List D.Zone×List D.Person×List D.Calendar×List D.Schedule×List D.Team×List D.Policy×Int×Int×Unit)×D.Ledger×D.Page×List D.Page×List Int×List D.Call×Unit)) (fun S ((k,h,_),(l,m,n,o,p,q,r,s,t,_),v,i,f,w,y,_)=>join (Y:=((Int×Int×Unit)×(Int×List D.Zone×List D.Person×List D.Calendar×List D.Schedule×List D.Team×List D.Policy×Int×Int×Unit)×D.Ledger×D.Page×List D.Page×List Int×List D.Call×Unit)) (fun((W,Z,_),(aA,aB,aC,aD,aE,aF,aG,aH,aI,_),aJ,aK,aL,aM,aN,_)=>S ((W,(wrap .i64 (Z+1)),()),(aA,aB,aC,aD,aE,aF,aG,aH,aI,()),aJ,aK,aL,aM,aN,())) fun aO=>cd (h<(f.length:Int)) (natc h fun A=>ltc A f.length (optc f[A]? fun aP=>cd (aP.ID<i.ID) (aO ((k,h,()),(l,m,n,o,p,q,r,s,t,()),v,i,f,w,y,())) (z ((k,h,()),(l,m,n,o,p,q,r,s,t,()),v,i,f,w,y,())))) (z ((k,h,()),(l,m,n,o,p,q,r,s,t,()),v,i,f,w,y,()))) u ((E,0,()),(c.Now,c.Config.Zones,c.Config.People,c.Config.Calendars,c.Config.Schedules,c.Book.Teams,c.Book.Policies,c.Owner,c.Fence,()),(D.Ledger.mk 0 (D.Config.mk [] [] [] []) (D.Book.mk [] []) [] 0 0 [] []),a0,c.Pages,c.Seen,c.Calls,()))))
theorem QeT:FO 140 (Qd [.agg bH0,.st .Op,nI,.one .boo] [ar 101 .Page,ar 102 .int,ar 103 .Call] [.agg bH0,nI] [ar 101 .Page,ar 102 .int,ar 103 .Call] [] (D.Ledger×Int) kz6 (fun x y=>Wl u (D.Ledger.mk x.1.1 (D.Config.mk x.1.2.1 x.1.2.2.1 x.1.2.2.2.1 x.1.2.2.2.2.1) (D.Book.mk x.1.2.2.2.2.2.1 x.1.2.2.2.2.2.2.1) y.1 x.1.2.2.2.2.2.2.2.1 x.1.2.2.2.2.2.2.2.2.1 y.2.1 y.2.2.1) x.2.1 x.2.2.1 x.2.2.2.1)):=fI u (gs 6 (.two (.join [ni 2,rf 4,rf 8,rf 10,ni 12] [(1004,.box bH0),bx 1008 .Ledger,bx 1010 .Page,ar 101 .Page,ar 102 .int,ar 103 .Call] (.one (.loop [ni 2,rf 4,rf 8,rf 10,ni 12] [(1004,.box bH0),bx 1008 .Ledger,bx 1010 .Page,ar 101 .Page,ar 102 .int,ar 103 .Call] (.two (.join [ni 2,rf 4,rf 8,rf 10,ni 12] [(1004,.box bH0),bx 1008 .Ledger,bx 1010 .Page,ar 101 .Page,ar 102 .int,ar 103 .Call] .go) .go)))) .go)) kz9 (eC (W1 u) (eC (Qmj u) eN)) Tryz.func140
def XV(c:D.Ledger)(a:D.Answer)(e:Int):Option (D.Ledger×Int):=optc (ZZ u c a.Page) fun(k,g)=>cnd (!g) (some (c,3)) (optc (Ye u c a.Page e) fun b=>optc (ZZ u b a.Page) fun(h,l)=>optc (QfE u b.Config b.Book h (D.Answer.mk a.ID a.Page a.Person a.Kind a.Arg e)) fun(i,f)=>cd (f≠0) (some (b,f)) (optc (XB u b i) fun j=>some (j,0)))
theorem QdY:FO 142 (Qd [.agg bH0,.st .Answer,nI] [ar 101 .Page,ar 102 .int,ar 103 .Call] [.agg bH0,nI] [ar 101 .Page,ar 102 .int,ar 103 .Call] [] (D.Ledger×Int) kz6 (fun x y=>XV u (D.Ledger.mk x.1.1 (D.Config.mk x.1.2.1 x.1.2.2.1 x.1.2.2.2.1 x.1.2.2.2.2.1) (D.Book.mk x.1.2.2.2.2.2.1 x.1.2.2.2.2.2.2.1) y.1 x.1.2.2.2.2.2.2.2.1 x.1.2.2.2.2.2.2.2.2.1 y.2.1 y.2.2.1) x.2.1 x.2.2.1)):=fI u .go kz9 (eC (WE u) (eC (W1 u) (eC (Qaq u) (eC (Qnw u) eN)))) Tryz.func142
def Yd(a:D.Ledger)(c:D.Op)(p2:Int):Option (D.Ledger×Int):=optc (ZZ u a c.Page) fun(a0,a1)=>join (Y:=(Unit×(Int×List D.Zone×List D.Person×List D.Calendar×List D.Schedule×List D.Team×List D.Policy×Int×Int×Unit)×D.Ledger×List D.Page×List Int×List D.Call×Unit)) (fun(_,(a2,a3,a4,a5,a6,a7,a8,a9,aT,_),bP,aU,aV,aW,_)=>some ((D.Ledger.mk a2 (D.Config.mk a3 a4 a5 a6) (D.Book.mk a7 a8) aU a9 aT aV aW),0)) fun s=>cd (c.Kind=1) (optc (Wl u a c p2 a1) fun(aX,aY)=>some (aX,aY)) (cd (c.Kind=2) (cd (c.Fence≠(wrap .i64 (a.Fence+1))) (some (a,23)) (s ((),(a.Now,a.Config.Zones,a.Config.People,a.Config.Calendars,a.Config.Schedules,a.Book.Teams,a.Book.Policies,c.Region,c.Fence,()),(D.Ledger.mk 0 (D.Config.mk [] [] [] []) (D.Book.mk [] []) [] 0 0 [] []),a.Pages,a.Seen,a.Calls,()))) (cd (c.Kind=3) (join (Y:=((Int×Bool×Unit)×(Int×List D.Zone×List D.Person×List D.Calendar×List D.Schedule×List D.Team×List D.Policy×Int×Int×Unit)×D.Op×D.Ledger×D.Page×List D.Page×List Int×List D.Call×Unit)) (fun((aH,aZ,_),(t,v,w,y,z,A,B,C,E,_),aI,aJ,F,G,H,I,_)=>cnd (!aZ) (some ((D.Ledger.mk t (D.Config.mk v w y z) (D.Book.mk A B) G C E H I),3)) (optc (QgG u F) fun(aK,aL)=>join (Y:=((Int×Int×Bool×Int×Unit)×(Int×List D.Zone×List D.Person×List D.Calendar×List D.Schedule×List D.Team×List D.Policy×Int×Int×Unit)×D.Op×D.Ledger×List D.Page×List Int×List D.Call×Unit)) (fun((aM,b0,b1,b2,_),(f,g,h,i,j,k,l,m,n,_),aN,b3,o,p,q,_)=>join (Y:=((Int×Unit)×(Int×List D.Zone×List D.Person×List D.Calendar×List D.Schedule×List D.Team×List D.Policy×Int×Int×Unit)×D.Op×D.Ledger×List D.Page×List Int×List D.Call×Unit)) (fun((b4,_),(b5,b6,b7,b8,b9,bA,bB,bC,bD,_),bE,bQ,bF,bG,bH,_)=>optc (Ye u (D.Ledger.mk b5 (D.Config.mk b6 b7 b8 b9) (D.Book.mk bA bB) bF bC bD bG bH) bE.Page b4) fun bI=>some (bI,0)) fun bJ=>cnd b1 (cd (aM<b0) (some ((D.Ledger.mk f (D.Config.mk g h i j) (D.Book.mk k l) o m n p q),9)) (cd (b2≠aN.K) (some ((D.Ledger.mk f (D.Config.mk g h i j) (D.Book.mk k l) o m n p q),9)) (bJ ((aM,()),(f,g,h,i,j,k,l,m,n,()),aN,b3,o,p,q,())))) (some ((D.Ledger.mk f (D.Config.mk g h i j) (D.Book.mk k l) o m n p q),9))) fun aO=>cd (F.State=2) (aO ((aH,aK,aL,(-1),()),(t,v,w,y,z,A,B,C,E,()),aI,aJ,G,H,I,())) (aO ((aH,aK,aL,F.Next,()),(t,v,w,y,z,A,B,C,E,()),aI,aJ,G,H,I,())))) fun bK=>cd (c.Region≠a.Owner) (some (a,23)) (cd (c.Fence≠a.Fence) (some (a,23)) (bK ((p2,a1,()),(a.Now,a.Config.Zones,a.Config.People,a.Config.Calendars,a.Config.Schedules,a.Book.Teams,a.Book.Policies,a.Owner,a.Fence,()),c,(D.Ledger.mk 0 (D.Config.mk [] [] [] []) (D.Book.mk [] []) [] 0 0 [] []),a0,a.Pages,a.Seen,a.Calls,())))) (cd (c.Kind=4) (optc (XV u a c.Answer p2) fun(bL,bM)=>some (bL,bM)) (cd (c.Kind=5) (Qg (X:=((Int×Int×Unit)×(Int×List D.Zone×List D.Person×List D.Calendar×List D.Schedule×List D.Team×List D.Policy×Int×Int×Unit)×D.Op×D.Ledger×List D.Page×List Int×List D.Call×Unit)) (fun bN ((aP,J,_),(L,O,S,W,Z,aA,aB,aC,aD,_),aE,aQ,e,aF,aG,_)=>cd (J<(e.length:Int)) (natc J fun aR=>ltc aR e.length (optc e[aR]? fun bO=>optc (Ye u (D.Ledger.mk L (D.Config.mk O S W Z) (D.Book.mk aA aB) e aC aD aF aG) bO.ID aP) fun b=>bN ((aP,(wrap .i64 (J+1)),()),(b.Now,b.Config.Zones,b.Config.People,b.Config.Calendars,b.Config.Schedules,b.Book.Teams,b.Book.Policies,b.Owner,b.Fence,()),aE,aQ,b.Pages,b.Seen,b.Calls,()))) (optc (QeN u (D.Config.mk O S W Z) aE.Schedule aE.Edit) fun(r,aS)=>cd (aS≠0) (some ((D.Ledger.mk L (D.Config.mk O S W Z) (D.Book.mk aA aB) e aC aD aF aG),aS)) (s ((),(L,r.Zones,r.People,r.Calendars,r.Schedules,aA,aB,aC,aD,()),aQ,e,aF,aG,())))) u ((p2,0,()),(a.Now,a.Config.Zones,a.Config.People,a.Config.Calendars,a.Config.Schedules,a.Book.Teams,a.Book.Policies,a.Owner,a.Fence,()),c,(D.Ledger.mk 0 (D.Config.mk [] [] [] []) (D.Book.mk [] []) [] 0 0 [] []),a.Pages,a.Seen,a.Calls,())) (s ((),(a.Now,a.Config.Zones,a.Config.People,a.Config.Calendars,a.Config.Schedules,a.Book.Teams,a.Book.Policies,a.Owner,a.Fence,()),(D.Ledger.mk 0 (D.Config.mk [] [] [] []) (D.Book.mk [] []) [] 0 0 [] []),a.Pages,a.Seen,a.Calls,()))))))
theorem QdX:FO 82 (Qd [.agg bH0,.st .Op,nI] [ar 101 .Page,ar 102 .int,ar 103 .Call] [.agg bH0,nI] [ar 101 .Page,ar 102 .int,ar 103 .Call] [] (D.Ledger×Int) kz6 (fun x y=>Yd u (D.Ledger.mk x.1.1 (D.Config.mk x.1.2.1 x.1.2.2.1 x.1.2.2.2.1 x.1.2.2.2.2.1) (D.Book.mk x.1.2.2.2.2.2.1 x.1.2.2.2.2.2.2.1) y.1 x.1.2.2.2.2.2.2.2.1 x.1.2.2.2.2.2.2.2.2.1 y.2.1 y.2.2.1) x.2.1 x.2.2.1)):=fI u (gs 2 (.two (.join [rf 3,rf 6] [(1003,.box bH0),bx 1006 .Ledger,ar 101 .Page,ar 102 .int,ar 103 .Call] (.two .go (.one (gs 5 (.two (.two (.join [ni 2,rf 3,rf 4,rf 6,rf 8,(9,.one .boo)] [(1003,.box bH0),bx 1004 .Op,bx 1006 .Ledger,bx 1008 .Page,ar 101 .Page,ar 102 .int,ar 103 .Call] .go) (gs 3 (.two (.join [ni 2,rf 3,rf 4,rf 6,ni 10,(11,.one .boo),ni 12] [(1003,.box bH0),bx 1004 .Op,bx 1006 .Ledger,ar 101 .Page,ar 102 .int,ar 103 .Call] .go) (.two (.join [ni 2,rf 3,rf 4,rf 6] [(1003,.box bH0),bx 1004 .Op,bx 1006 .Ledger,ar 101 .Page,ar 102 .int,ar 103 .Call] .go) .go)))) (gs 3 (.two (lp [ni 2,rf 3,rf 4,rf 6,ni 13] [(1003,.box bH0),bx 1004 .Op,bx 1006 .Ledger,ar 101 .Page,ar 102 .int,ar 103 .Call] .go) .go))))))) .go)) kz9 (eC (WE u) (eC (QfG u) (eC (QeT u) (eC (W1 u) (eC (QdY u) (eC (Qo9 u) eN)))))) Tryz.func82
def QcB(e:D.Ledger)(f:D.Op):Option (D.Ledger×Int):=join (Y:=(Unit×D.Ledger×D.Op×D.Ledger×Unit)) (fun(_,c,b,m,_)=>optc (Qjx u c) fun a=>optc (Qdl u c.Seen b.ID) fun g=>cnd g (some (a,0)) (cd (256<=(c.Seen.length:Int)) none (lec (a.Seen.length+[b.ID].length) 34359738368 (optc (Yd u (D.Ledger.mk (max c.Now b.At) a.Config a.Book a.Pages a.Owner a.Fence (a.Seen++[b.ID]) a.Calls) b (max c.Now b.At)) fun(h,i)=>some (h,i))))) fun j=>optc (U6 u e) fun k=>cnd k (optc (QeR u f) fun l=>cnd l (j ((),e,f,(D.Ledger.mk 0 (D.Config.mk [] [] [] []) (D.Book.mk [] []) [] 0 0 [] []),())) (some ((D.Ledger.mk 0 (D.Config.mk [] [] [] []) (D.Book.mk [] []) [] 0 0 [] []),8))) (some ((D.Ledger.mk 0 (D.Config.mk [] [] [] []) (D.Book.mk [] []) [] 0 0 [] []),8))
theorem Qpc:FO 28 (Qd [.st .Ledger,.st .Op] [] [.agg [kI,.lst .Zone,.lst .Person,.lst .Calendar,.lst .Schedule,.lst .Team,.lst .Policy,.own 1018020,kI,kI,.own 1018025,.own 1018028],nI] [ar 1018020 .Page,ar 1018025 .int,ar 1018028 .Call] [] (D.Ledger×Int) kz6 (fun x y=>QcB u x.1 x.2.1)):=fI u (.two .go (.two (.join [rf 2,rf 3,rf 4] [bx 1002 .Ledger,bx 1003 .Op,bx 1004 .Ledger] .go) .go)) (fun a b=>((D.Ledger.mk a.1.1 (D.Config.mk a.1.2.1 a.1.2.2.1 a.1.2.2.2.1 a.1.2.2.2.2.1) (D.Book.mk a.1.2.2.2.2.2.1 a.1.2.2.2.2.2.2.1) b.1 a.1.2.2.2.2.2.2.2.1 a.1.2.2.2.2.2.2.2.2.1 b.2.1 b.2.2.1),a.2.1)) (eC (QfB u) (eC (QiP u) (eC (QqE u) (eC (QiQ u) (eC (QdX u) eN))))) Tryz.func28
def QgH(v:D.Ledger)(w:Int):Option (List D.Start):=join (Y:=(Unit×List D.Start×Unit)) (fun(_,y,_)=>some y) fun k=>Qg (X:=((Int×Int×Unit)×D.Ledger×List D.Start×Unit)) (fun z ((A,l,_),i,j,_)=>join (Y:=((Int×Int×Unit)×D.Ledger×List D.Start×Unit)) (fun((g,b,_),c,a,_)=>join (Y:=((Int×Int×Unit)×D.Ledger×List D.Start×Unit)) (fun((m,n,_),o,p,_)=>z ((m,(wrap .i64 (n+1)),()),o,p,())) fun e=>atc c.Pages b fun q=>optc (QgG u q) fun(f,r)=>cnd r (cd (f<=g) (atc c.Pages b fun h=>lec (a.length+[(D.Start.mk h.ID f [])].length) 34359738368 (e ((g,b,()),c,(a++[(D.Start.mk h.ID f [])]),()))) (e ((g,b,()),c,a,()))) (e ((g,b,()),c,a,()))) fun s=>cd (l<(i.Pages.length:Int)) (optc (U6 u i) fun t=>cnd t (s ((A,l,()),i,j,())) (k ((),j,()))) (k ((),j,()))) u ((w,0,()),v,[],())
def Qk2(b:D.Cluster)(c:Int):Option (D.Cluster×Int):=optc (QeX u b c) fun f=>cd (f≠0) (some ((D.Cluster.mk [] [] [] []),f)) (atc b.Down c fun g=>cnd g (some ((D.Cluster.mk [] [] [] []),9)) (optc (Qdr u b) fun a=>natc c fun e=>ltc e a.Down.length (optc a.Down[e]? fun h=>some ((D.Cluster.mk a.Replicas a.Wire (List.set a.Down e true) a.Cut),0))))
theorem Qpj:FO 25 (Qd [.st .Cluster,nI] [] [.st .Cluster,nI] [] [] (D.Cluster×Int) kz2 (fun x y=>Qk2 u x.1 x.2.1)):=fI u .go kz3 (eC (Uz u) (eC (QbS u) eN)) Tryz.func25
def YQ(a:D.Paging)(b:Int):Option D.Ledger:=atc a.Cluster.Replicas b fun c=>optc (XC u c) fun e=>optc (XK u a.Base e) fun(f,g)=>some f
theorem Qgd:FO 80 (Qd [.st .Paging,nI] [] [.st .Ledger] [] [] D.Ledger kz1 (fun x y=>YQ u x.1 x.2.1)):=fI u .go kz0 (eC (VN u) (eC (Qar u) eN)) Tryz.func80
def XU(u:Nat)(a:D.site):Option (List D.Entry):=atc a.Paging.Cluster.Replicas a.region fun b=>natc b.Commit fun c=>lec c b.Log.length (sameC a a (some (List.drop c b.Log)))
theorem QdW:FO 131 (Qd [.one (.ref 1)] [bx 1 .site] [.one (.lst .Entry)] [] [1] (List D.Entry) kz1 (fun x y=>XU u y.1)):=fI u .go kz0 eN Tryz.func131
def Qfu(u:Nat)(a:Int)(b:Int)(c:Int):Option Bool:=cd (b<=a) (cd (a<=c) sT sF) sF
theorem Qqo:FO 300 (sB [nI,nI,nI] fun x=>Qfu u x.1 x.2.1 x.2.2.1):=fI u .go kz0 eN Tryz.func300
def Qbb(a:D.Ledger)(b:Int)(c:Int)(e:Int):Option Int:=optc (Xm u a) fun f=>cnd (!f) (some 8) (join (Y:=(Unit×Unit)) (fun(_,_)=>some 0) fun g=>optc (Qfu u b 0 4) fun h=>cnd h (optc (Qfu u c 1 1099511627776) fun i=>cnd i (optc (Qfu u e 0 8589934592) fun j=>cnd j (g ((),())) (some 1)) (some 1)) (some 1))
theorem Qgb:FO 214 (sI [.st .Ledger,nI,nI,nI] fun x=>Qbb u x.1 x.2.1 x.2.2.1 x.2.2.2.1):=fI u (gs 2 (.two (.join [] [] .go) .go)) kz0 (eC (Vc u) (eC (Qqo u) eN)) Tryz.func214
def Uu(a:D.Ledger)(b:Int)(c:Int)(e:Int):Option (D.Op×Int):=optc (Qbb u a b c e) fun f=>cd (f≠0) (some ((D.Op.mk 0 0 0 0 0 0 0 0 0 (D.Answer.mk 0 0 0 0 0 0) (D.Edit.mk 0 0 0 0 0)),f)) (cd (a.Fence=1048576) (some ((D.Op.mk 0 0 0 0 0 0 0 0 0 (D.Answer.mk 0 0 0 0 0 0) (D.Edit.mk 0 0 0 0 0)),5)) (some ((D.Op.mk c 2 b (wrap .i64 (a.Fence+1)) e 0 0 0 0 (D.Answer.mk 0 0 0 0 0 0) (D.Edit.mk 0 0 0 0 0)),0)))
theorem QlG:FO 134 (Qd [.st .Ledger,nI,nI,nI] [] [.st .Op,nI] [] [] (D.Op×Int) kz2 (fun x y=>Uu u x.1 x.2.1 x.2.2.1 x.2.2.2.1)):=fI u .go kz3 (eC (Qgb u) eN) Tryz.func134
def Qcs(a:D.Ledger)(b:Int):Option (D.Page×Bool):=optc (Qh9 u a b) fun(c,e)=>cnd (!e) (some ((D.Page.mk 0 0 0 0 0 0 0 0 0 0 0 [] [] []),false)) (atc a.Pages c fun f=>optc (QaX u f) fun g=>some (g,true))
theorem Qm9:FO 156 (Qd [.st .Ledger,nI] [] [.st .Page,.one .boo] [] [] (D.Page×Bool) kz2 (fun x y=>Qcs u x.1 x.2.1)):=fI u .go kz3 (eC (Qho u) (eC (Qna u) eN)) Tryz.func156
def VO(j:D.Ledger)(n:Int):Option (List D.Start):=optc (Xm u j) fun o=>cnd (!o) (some []) (Qg (X:=((Int×List D.Page×Int×Int×Unit)×List D.Start×Unit)) (fun p ((g,h,i,a,_),b,_)=>cd (a<i) (join (Y:=((Int×List D.Page×Int×Int×Unit)×List D.Start×Unit)) (fun((q,r,s,k,_),l,_)=>p ((q,r,s,(wrap .i64 (k+1)),()),l,())) fun c=>atc h a fun e=>optc (Wt u e) fun(f,m)=>cnd m (cd (f<=g) (lec (b.length+[(D.Start.mk e.ID f [])].length) 34359738368 (c ((g,h,i,a,()),(b++[(D.Start.mk e.ID f [])]),()))) (c ((g,h,i,a,()),b,()))) (c ((g,h,i,a,()),b,()))) (some b)) u ((n,j.Pages,(j.Pages.length:Int),0,()),[],()))
theorem Qi3:FO 215 (Qd [.st .Ledger,nI] [] [.one (.lst .Start)] [] [] (List D.Start) kz1 (fun x y=>VO u x.1 x.2.1)):=fI u (gs 3 (lp [ni 1,(5,.one (.own 1037)),li 14 .Page,ni 15,ni 16] [ar 1037 .Start] (gs 2 (.two (.join [ni 1,(5,.one (.own 1037)),li 14 .Page,ni 15,ni 16] [ar 1037 .Start] .go) .go)))) kz0 (eC (Vc u) (eC (VH u) eN)) Tryz.func215
def U2(k:D.Ledger)(q:Int)(r:Int)(t:Int):Option (List D.Op):=join (Y:=(P3×D.Ledger×Unit)) (fun((J,L,v,_),w,_)=>optc (VO u w v) fun y=>Qg (X:=((Int×Int×Int×List D.Start×Int×Int×Unit)×D.Ledger×List D.Op×Unit)) (fun O ((z,A,B,s,c,a,_),e,f,_)=>cd (a<c) (atc s a fun C=>optc (Qcs u e C.K) fun(b,S)=>join (Y:=((Int×Int×Int×Int×Int×List D.Start×Int×Int×Unit)×D.Ledger×D.Page×List D.Op×Unit)) (fun((g,h,i,l,m,E,F,G,_),j,n,o,_)=>lec (o.length+[(D.Op.mk (wrap .i64 (h+l)) 3 g j.Fence i n.ID m 0 0 (D.Answer.mk 0 0 0 0 0 0) (D.Edit.mk 0 0 0 0 0))].length) 34359738368 (O ((g,h,i,E,F,(wrap .i64 (G+1)),()),j,(o++[(D.Op.mk (wrap .i64 (h+l)) 3 g j.Fence i n.ID m 0 0 (D.Answer.mk 0 0 0 0 0 0) (D.Edit.mk 0 0 0 0 0))]),()))) fun p=>cd (b.State=2) (p ((z,A,B,a,(-1),s,c,a,()),e,b,f,())) (p ((z,A,B,a,b.Next,s,c,a,()),e,b,f,()))) (some f)) u ((J,L,v,y,(y.length:Int),0,()),w,[],())) fun H=>optc (Qbb u k q r t) fun I=>cd (I≠0) (some []) (cd (q≠k.Owner) (some []) (cd (1099511627776<(wrap .i64 (r+(k.Pages.length:Int)))) (some []) (H ((q,r,t,()),k,()))))
theorem Qkz:FO 135 (Qd [.st .Ledger,nI,nI,nI] [] [.one (.own 1069)] [ar 1069 .Op] [] (List D.Op) kz7 (fun x y=>U2 u x.1 x.2.1 x.2.2.1 x.2.2.2.1)):=fI u (.two .go (.two (.join [ni 1,ni 2,ni 3,rf 4] [bx 1004 .Ledger] .go) (.two .go (lp [ni 1,ni 2,ni 3,rf 4,(9,.one (.own 1069)),li 37 .Start,ni 38,ni 39] [bx 1004 .Ledger,ar 1069 .Op] (gs 2 (.two (.one (gs 3 (.two (.join [ni 1,ni 2,ni 3,rf 4,(9,.one (.own 1069)),ni 10,rf 12,ni 14,li 37 .Start,ni 38,ni 39] [bx 1004 .Ledger,bx 1012 .Page,ar 1069 .Op] .go) .go))) .go)))))) kz10 (eC (Qm9 u) (eC (Qgb u) (eC (Qi3 u) eN))) Tryz.func135
def WY(u:Nat)(c:D.Entry)(a:D.site)(b:Int):Option Bool:=cd (c.Op.Kind=2) (cd (c.Op.Region=a.region) (cd (c.Term=b) (sameC a a (sameC b b sT)) (sameC a a (sameC b b sF))) (sameC a a (sameC b b sF))) (sameC a a (sameC b b sF))
theorem Qdg:FO 133 (Qd [.st .Entry,.one (.ref 101),.one (.ref 103)] [(101,.box [.ref 102]),bx 102 .site,bx 103 .int] [.one .boo] [(101,.box [.ref 102])] [102,103] Bool kz26 (fun x y=>WY u x.1 y.2.1 y.2.2.1)):=fI u .go kz0 eN Tryz.func133
def Q4(e:List D.Entry)(c102:D.site)(c103:Int):Option Int:=Qg (X:=((List D.Entry×Int×Int×Unit)×Unit×D.site×(Int×Unit)×Unit)) (fun h ((f,g,a,_),_,b,(c,_),_)=>cd (a<g) (atc f a fun i=>optc (WY u i b c) fun j=>cnd j (sameC b c102 (sameC c c103 (some a))) (h ((f,g,(wrap .i64 (a+1)),()),(),b,(c,()),()))) (sameC b c102 (sameC c c103 (some (-1))))) u ((e,(e.length:Int),0,()),(),c102,(c103,()),())
theorem Xh:FO 213 (Qd [.one (.lst .Entry),.one (.clo 133 [101,103])] [(101,.box [.ref 102]),bx 102 .site,bx 103 .int] [nI] [(101,.box [.ref 102])] [102,103] Int kz26 (fun x y=>Q4 u x.1 y.2.1 y.2.2.1)):=fI u (.two .go (lp [li 0 .Entry,(1,.one (.clo 133 [101,103])),ni 7,ni 8] [(101,.box [.ref 102]),bx 102 .site,(103,.box [kI])] .go)) kz0 (eC (Qdg u) eN) Tryz.func213
def Qq(a:List D.Entry)(c102:D.site)(c103:Int):Option Bool:=optc (Q4 u a c102 c103) fun b=>sameC c102 c102 (sameC c103 c103 (some (decide (0<=b))))
theorem YS:FO 132 (Qd [.one (.lst .Entry),.one (.clo 133 [101,103])] [(101,.box [.ref 102]),bx 102 .site,bx 103 .int] [.one .boo] [(101,.box [.ref 102])] [102,103] Bool kz26 (fun x y=>Qq u x.1 y.2.1 y.2.2.1)):=fI u .go kz0 (eC (Xh u) eN) Tryz.func132
def Uk(u:Nat)(b:D.Entry)(a:D.Op):Option Bool:=cd (b.Op.Kind=3) (cd (b.Op.Page=a.Page) (cd (b.Op.K=a.K) (sameC a a sT) (sameC a a sF)) (sameC a a sF)) (sameC a a sF)
theorem Qb9:FO 138 (Qd [.st .Entry,.one (.ref 101)] [bx 101 .Op] [.one .boo] [] [101] Bool kz1 (fun x y=>Uk u x.1 y.1)):=fI u .go kz0 eN Tryz.func138
def QY(c:List D.Entry)(c101:D.Op):Option Int:=Qg (X:=((List D.Entry×Int×Int×Unit)×D.Op×Unit)) (fun g ((e,f,a,_),b,_)=>cd (a<f) (atc e a fun h=>optc (Uk u h b) fun i=>cnd i (sameC b c101 (some a)) (g ((e,f,(wrap .i64 (a+1)),()),b,()))) (sameC b c101 (some (-1)))) u ((c,(c.length:Int),0,()),c101,())
theorem YY:FO 213 (Qd [.one (.lst .Entry),.one (.clo 138 [101])] [bx 101 .Op] [nI] [] [101] Int kz1 (fun x y=>QY u x.1 y.1)):=fI u (.two .go (lp [li 0 .Entry,(1,.one (.clo 138 [101])),ni 7,ni 8] [bx 101 .Op] .go)) kz0 (eC (Qb9 u) eN) Tryz.func213
def QP(a:List D.Entry)(c101:D.Op):Option Bool:=optc (QY u a c101) fun b=>sameC c101 c101 (some (decide (0<=b)))
theorem YH:FO 132 (Qd [.one (.lst .Entry),.one (.clo 138 [101])] [bx 101 .Op] [.one .boo] [] [101] Bool kz1 (fun x y=>QP u x.1 y.1)):=fI u .go kz0 (eC (YY u) eN) Tryz.func132
def Yy(b:D.Op)(a:List D.Entry):Option (Bool×List D.Entry):=optc (QP u a b) fun c=>some (c,a)
theorem VU:FO 137 (Qd [.st .Op,.one (.ref 101)] [(101,.box [.lst .Entry])] [.one .boo] [(101,.box [.lst .Entry])] [] (Bool×List D.Entry) (fun q=>((q.1,()),(q.2,()),())) (fun x y=>Yy u x.1 y.1.1)):=fI u .go (fun a b=>(a.1,b.1.1)) (eC (YH u) eN) Tryz.func137
def Q8(b:List D.Op)(c102:List D.Entry):Option (Int×List D.Entry):=Qg (X:=((Int×Int×Unit)×(List D.Entry×Unit)×List D.Op×Unit)) (fun i ((e,c,_),(f,_),a,_)=>cd (c<e) (natc c fun g=>ltc g a.length (optc a[g]? fun j=>optc (Yy u j f) fun(k,h)=>cnd k (sameC a b (some (c,h))) (i ((e,(wrap .i64 (c+1)),()),(h,()),a,())))) (sameC a b (some ((-1),f)))) u (((b.length:Int),0,()),(c102,()),b,())
theorem Xp:FO 110 (Qd [.one (.own 101),.one (.clo 137 [102])] [ar 101 .Op,(102,.box [.lst .Entry])] [nI] [(102,.box [.lst .Entry])] [101] (Int×List D.Entry) (fun q=>((q.1,()),(q.2,()),())) (fun x y=>Q8 u y.1 y.2.1.1)):=fI u (.two .go (lp [(0,.one (.own 101)),(1,.one (.clo 137 [102])),ni 7,ni 8] [(102,.box [.lst .Entry]),ar 101 .Op] .go)) (fun a b=>(a.1,b.1.1)) (eC (VU u) eN) Tryz.func110
def QE(f:List D.Op)(c102:List D.Entry):Option (Nat×Nat×List D.Entry×List D.Op):=optc (Q8 u f c102) fun(m,n)=>cd (m=(-1)) (some (0,f.length,n,f)) (Qg (X:=((Int×Int×Unit)×(List D.Entry×Unit)×List D.Op×Unit)) (fun r ((c,g,_),(o,_),a,_)=>cd (g<(a.length:Int)) (join (Y:=((Int×Int×Unit)×(List D.Entry×Unit)×List D.Op×Unit)) (fun((s,t,_),(v,_),p,_)=>r ((s,(wrap .i64 (t+1)),()),(v,()),p,())) fun h=>natc g fun i=>ltc i a.length (optc a[i]? fun j=>optc (Yy u j o) fun(q,k)=>cnd (!q) (natc c fun e=>ltc e a.length (optc a[e]? fun w=>h (((wrap .i64 (c+1)),g,()),(k,()),(List.set a e j),()))) (h ((c,g,()),(k,()),a,())))) (natc c fun b=>lec b a.length (lec b a.length (lec a.length a.length (natc c fun l=>lec l (((List.take b a)++(List.replicate (a.length - b) (D.Op.mk 0 0 0 0 0 0 0 0 0 (D.Answer.mk 0 0 0 0 0 0) (D.Edit.mk 0 0 0 0 0))))++(List.drop a.length a)).length (some (0,l,o,(((List.take b a)++(List.replicate (a.length - b) (D.Op.mk 0 0 0 0 0 0 0 0 0 (D.Answer.mk 0 0 0 0 0 0) (D.Edit.mk 0 0 0 0 0))))++(List.drop a.length a))))))))) u ((m,(wrap .i64 (m+1)),()),(n,()),f,()))
theorem Xg:FO 136 (Qd [.one (.own 101),.one (.clo 137 [102])] [ar 101 .Op,(102,.box [.lst .Entry])] [.one (.view 101)] [(102,.box [.lst .Entry]),ar 101 .Op] [] (Nat×Nat×List D.Entry×List D.Op) (fun q=>((q.1,q.2.1,()),(q.2.2.1,()),q.2.2.2,())) (fun x y=>QE u y.1 y.2.1.1)):=fI u (gs 3 (lp [(0,.one (.own 101)),(1,.one (.clo 137 [102])),ni 5,ni 6] [(102,.box [.lst .Entry]),ar 101 .Op] (.two .go (.two (.join [(0,.one (.own 101)),(1,.one (.clo 137 [102])),ni 5,ni 6] [(102,.box [.lst .Entry]),ar 101 .Op] .go) .go)))) (fun a b=>(a.1,a.2.1,b.1.1,b.2.1)) (eC (Xp u) (eC (VU u) eN)) Tryz.func136
end
/-
  What functions do, reckoned from their code, and their contracts. Printed by wip/gen/brun.py.
-/
noncomputable section
variable (u:Nat)
def ZY(a:D.site)(e:Int):Option (List D.Op×Int):=optc (YQ u a.Paging a.region) fun c=>atc a.Paging.Cluster.Replicas a.region fun g=>optc (XU u a) fun b=>join (Y:=((Int×Unit)×Unit×D.site×D.Ledger×(List D.Entry×Unit)×Unit)) (fun((q,_),_,h,r,(s,_),_)=>optc (U2 u r h.region h.Paging.Serial q) fun t=>optc (QE u t s) fun(v,w,y,i)=>sameC h a (some ((List.drop v (List.take w i)),0))) fun f=>cd (c.Owner≠a.region) (optc (Qq u b a g.Term) fun j=>cnd j (sameC a a (some ([],0))) (optc (Uu u c a.region a.Paging.Serial e) fun(k,l)=>sameC a a (some ([k],l)))) (cd (0<(b.length:Int)) (atc b (wrap .i64 ((b.length:Int) - 1)) fun m=>cd (m.Term≠g.Term) (optc (Qq u b a g.Term) fun n=>cnd n (sameC a a (some ([],0))) (optc (Uu u c a.region a.Paging.Serial e) fun(o,p)=>sameC a a (some ([o],p)))) (f ((e,()),(),a,c,(b,()),()))) (f ((e,()),(),a,c,(b,()),())))
theorem QeD:FO 79 (Qd [.one (.ref 1),nI] [bx 1 .site] [.one (.lst .Op),nI] [] [1] (List D.Op×Int) kz2 (fun x y=>ZY u y.1 x.1)):=fI u (gs 3 (.two (.join [ni 1,rf 2,rf 6,rf 8] [(1002,.box [.ref 1]),bx 1 .site,bx 1006 .Ledger,(1008,.box [.lst .Entry])] .go) .go)) kz3 (eC (Qgd u) (eC (QdW u) (eC (YS u) (eC (QlG u) (eC (Qkz u) (eC (Xg u) eN)))))) Tryz.func79
def U3(a:D.Paging)(f:Int)(m:Int):Option (D.Paging×Int×Int):=optc (Y7 u a) fun y=>cnd (!y) (some ((D.Paging.mk (D.Ledger.mk 0 (D.Config.mk [] [] [] []) (D.Book.mk [] []) [] 0 0 [] []) (D.Cluster.mk [] [] [] []) 0),0,8)) (optc (Qcu u f 0 (wrap .i64 ((a.Cluster.Replicas.length:Int) - 1))) fun z=>cnd (!z) (some ((D.Paging.mk (D.Ledger.mk 0 (D.Config.mk [] [] [] []) (D.Book.mk [] []) [] 0 0 [] []) (D.Cluster.mk [] [] [] []) 0),0,3)) (atc a.Cluster.Down f fun A=>cnd A (some ((D.Paging.mk (D.Ledger.mk 0 (D.Config.mk [] [] [] []) (D.Book.mk [] []) [] 0 0 [] []) (D.Cluster.mk [] [] [] []) 0),0,21)) (atc a.Cluster.Replicas f fun B=>cd (B.Role≠2) (some ((D.Paging.mk (D.Ledger.mk 0 (D.Config.mk [] [] [] []) (D.Book.mk [] []) [] 0 0 [] []) (D.Cluster.mk [] [] [] []) 0),0,22)) (optc (Qcu u m 0 8589934592) fun C=>cnd (!C) (some ((D.Paging.mk (D.Ledger.mk 0 (D.Config.mk [] [] [] []) (D.Book.mk [] []) [] 0 0 [] []) (D.Cluster.mk [] [] [] []) 0),0,1)) (optc (Qbd u a f) fun n=>optc (ZY u n m) fun(E,F)=>join (Y:=((Int×Unit)×D.Paging×D.site×Unit)) (fun((o,_),G,g,_)=>cd (o≠0) (some ((D.Paging.mk (D.Ledger.mk 0 (D.Config.mk [] [] [] []) (D.Book.mk [] []) [] 0 0 [] []) (D.Cluster.mk [] [] [] []) 0),0,o)) (some (g.Paging,g.count,0))) fun h=>Qg (X:=((List D.Op×Int×Int×Unit)×D.Paging×D.site×Unit)) (fun p ((i,b,j,_),c,e,_)=>join (Y:=((List D.Op×Int×Unit)×D.Paging×D.site×Unit)) (fun((k,l,_),q,r,_)=>atc k l fun s=>optc (Y8 u r s) fun(t,v)=>p ((k,t,(wrap .i64 (l+1)),()),q,v,())) fun w=>cd (j<(i.length:Int)) (cd (b=0) (w ((i,j,()),c,e,())) (h ((b,()),c,e,()))) (h ((b,()),c,e,()))) u ((E,F,0,()),(D.Paging.mk (D.Ledger.mk 0 (D.Config.mk [] [] [] []) (D.Book.mk [] []) [] 0 0 [] []) (D.Cluster.mk [] [] [] []) 0),n,()))))))
theorem QkB:FO 26 (Qd [.st .Paging,nI,nI] [] [.st .Paging,nI,nI] [] [] (D.Paging×Int×Int) kz18 (fun x y=>U3 u x.1 x.2.1 x.2.2.1)):=fI u (gs 4 (.two (.join [rf 6,(9,.one (.ref 1054019)),ni 11] [bx 1006 .Paging,bx 1054019 .site] (.two .go (.one (.loop [rf 6,(9,.one (.ref 1054019)),li 10 .Op,ni 11,ni 12] [bx 1006 .Paging,bx 1054019 .site] (.two (.join [rf 6,(9,.one (.ref 1054019)),li 10 .Op,ni 12] [bx 1006 .Paging,bx 1054019 .site] .go) .go))))) .go)) kz20 (eC (Wy u) (eC (Qgc u) (eC (U4 u) (eC (QeC u) (eC (QeD u) eN))))) Tryz.func26
def Qbc(a:D.Paging)(b:Int):Option (D.Ledger×Int):=optc (Y7 u a) fun c=>cnd (!c) (some ((D.Ledger.mk 0 (D.Config.mk [] [] [] []) (D.Book.mk [] []) [] 0 0 [] []),8)) (optc (Qcu u b 0 (wrap .i64 ((a.Cluster.Replicas.length:Int) - 1))) fun e=>cnd (!e) (some ((D.Ledger.mk 0 (D.Config.mk [] [] [] []) (D.Book.mk [] []) [] 0 0 [] []),3)) (optc (YQ u a b) fun f=>some (f,0)))
theorem QlH:FO 27 (Qd [.st .Paging,nI] [] [.st .Ledger,nI] [] [] (D.Ledger×Int) kz2 (fun x y=>Qbc u x.1 x.2.1)):=fI u .go kz3 (eC (Wy u) (eC (QeC u) (eC (Qgd u) eN))) Tryz.func27
def Qc6(u:Nat)(a:D.Ledger):Option Int:=cd ((a.Pages.length:Int)=0) (some 0) (atc a.Pages 0 fun b=>some b.Policy)
theorem Qlw:FO 29 (sI [.st .Ledger] fun x=>Qc6 u x.1):=fI u .go kz0 eN Tryz.func29
def QfC(c:List Int)(e:List Int):Option Bool:=cd ((c.length:Int)≠(e.length:Int)) sF (Qg (X:=((List Int×List Int×Int×Unit)×Unit)) (fun g ((b,f,a,_),_)=>cd (a<(b.length:Int)) (atc b a fun h=>atc f a fun i=>cd (h≠i) sF (g ((b,f,(wrap .i64 (a+1)),()),()))) sT) u ((c,e,0,()),()))
theorem QkT:FO 35 (sB [lI,lI] fun x=>QfC u x.1 x.2.1):=fI u (gs 2 (lp [(0,lI),(1,lI),ni 5] [] .go)) kz0 eN Tryz.func35
def UP(e:List D.Start)(f:List D.Start):Option Bool:=cd ((e.length:Int)≠(f.length:Int)) sF (Qg (X:=((List D.Start×List D.Start×Int×Unit)×Unit)) (fun l ((b,c,a,_),_)=>cd (a<(b.length:Int)) (join (Y:=((List D.Start×List D.Start×Int×Unit)×Unit)) (fun((m,n,o,_),_)=>l ((m,n,(wrap .i64 (o+1)),()),())) fun p=>atc b a fun q=>atc c a fun r=>cd (q.K≠r.K) sF (atc b a fun g=>atc c a fun h=>cd (g.At≠h.At) sF (atc b a fun i=>atc c a fun j=>optc (QfC u i.People j.People) fun k=>cnd k (p ((b,c,a,()),())) sF))) sT) u ((e,f,0,()),()))
theorem Qih:FO 144 (sB [.one (.lst .Start),.one (.lst .Start)] fun x=>UP u x.1 x.2.1):=fI u (gs 2 (lp [li 0 .Start,li 1 .Start,ni 5] [] (.two .go (.two (.join [li 0 .Start,li 1 .Start,ni 5] [] .go) .go)))) kz0 (eC (QkT u) eN) Tryz.func144
def Qjv(a:D.Page)(b:D.Page):Option Bool:=cd (a.ID=b.ID) (cd (a.Policy=b.Policy) (cd (a.Start=b.Start) (cd (a.Next=b.Next) (cd (a.Due=b.Due) (cd (a.State=b.State) (cd (a.By=b.By) (cd (a.Until=b.Until) (cd (a.Last=b.Last) (cd (a.Snoozes=b.Snoozes) (cd (a.Hands=b.Hands) (optc (UP u a.Starts b.Starts) fun c=>cnd c (optc (QfC u a.Declined b.Declined) fun e=>cnd e (optc (QfC u a.Seen b.Seen) fun f=>cnd f sT sF) sF) sF) sF) sF) sF) sF) sF) sF) sF) sF) sF) sF) sF
theorem QqC:FO 85 (sB [.st .Page,.st .Page] fun x=>Qjv u x.1 x.2.1):=fI u .go kz0 (eC (QkT u) (eC (Qih u) eN)) Tryz.func85
def QaO(c:List D.Page)(e:List D.Page):Option Bool:=cd ((c.length:Int)≠(e.length:Int)) sF (Qg (X:=((List D.Page×List D.Page×Int×Unit)×Unit)) (fun g ((b,f,a,_),_)=>cd (a<(b.length:Int)) (atc b a fun h=>atc f a fun i=>optc (Qjv u h i) fun j=>cnd (!j) sF (g ((b,f,(wrap .i64 (a+1)),()),()))) sT) u ((c,e,0,()),()))
theorem Qi8:FO 32 (sB [.one (.lst .Page),.one (.lst .Page)] fun x=>QaO u x.1 x.2.1):=fI u (gs 2 (lp [li 0 .Page,li 1 .Page,ni 5] [] .go)) kz0 (eC (QqC u) eN) Tryz.func32
def Xt(s:List Int)(p1:Int):Option Bool:=optc (Qh6 u s) fun a0=>cnd (!a0) (optc (Qfl u) fun a1=>some a1) (optc (Qev u s) fun a2=>optc (Vb u a2) fun(a3,a4)=>optc (Va u a4) fun(a5,a6)=>optc (QkW u a3 a5) fun(q,a8)=>optc (Qct u q 3) fun(r,t)=>optc (QaZ u r.Cluster 0) fun(f,v)=>optc (Ql u a6 (q.Book.Policies.length:Int)) fun(w,b5)=>optc (VT u (D.Paging.mk r.Base f r.Serial) 0 (D.Op.mk 0 1 0 0 864000 7 0 w 0 (D.Answer.mk 0 0 0 0 0 0) (D.Edit.mk 0 0 0 0 0))) fun(y,z,A)=>join (Y:=((Int×Int×Unit)×D.Ledger×D.Paging×D.Cluster×Unit)) (fun((B,g,_),C,a,b6,_)=>optc (UQ u a.Cluster 0) fun(h,E)=>optc (V1 u h) fun i=>join (Y:=((Int×Int×Unit)×D.Ledger×D.Paging×D.Cluster×Unit)) (fun((F,G,_),H,j,b7,_)=>optc (Qk2 u j.Cluster 0) fun(I,J)=>optc (QaZ u I 1) fun(L,O)=>join (Y:=((Int×Int×Unit)×D.Ledger×D.Paging×D.Cluster×Unit)) (fun((S,W,_),Z,k,aA,_)=>nzc 5000 (Qg (X:=(P3×D.Ledger×D.Paging×Unit)) (fun aB ((l,c,m,_),n,b,_)=>cd (m<4) (optc (U3 u b 1 c) fun(o,b8,aC)=>optc (UQ u o.Cluster 1) fun(aD,aE)=>join (Y:=(P3×D.Ledger×D.Paging×D.Paging×D.Cluster×Unit)) (fun((aF,aG,aH,_),aI,b9,p,aJ,_)=>optc (V1 u aJ) fun aK=>optc (UQ u aK 1) fun(aL,aM)=>cd (aM≠0) sF (optc (V1 u aL) fun aN=>aB ((aF,aG,(wrap .i64 (aH+1)),()),aI,(D.Paging.mk p.Base aN p.Serial),()))) fun aO=>cd (aC≠0) sF (cd (aE≠0) sF (aO ((l,c,m,()),n,b,o,aD,())))) (optc (Qbc u b 1) fun(e,aP)=>optc (Qc6 u e) fun aQ=>optc (QcB u n (D.Op.mk 1 1 0 0 864000 7 0 aQ 0 (D.Answer.mk 0 0 0 0 0 0) (D.Edit.mk 0 0 0 0 0))) fun(aR,bA)=>optc (QcB u aR (D.Op.mk 2 5 0 0 c 0 0 0 99 (D.Answer.mk 0 0 0 0 0 0) (D.Edit.mk 0 0 0 0 0))) fun(aS,bB)=>optc (Qdp u e 7) fun(aT,aU)=>optc (Qdp u aS 7) fun(aV,aW)=>cd (aP=0) (optc (QhC u b) fun aX=>cnd aX (optc (YP u b l) fun aY=>cnd aY (cnd aU (cnd aW (cd (e.Owner=1) (optc (QaO u [aT] [aV]) fun aZ=>cnd aZ (optc (Qfl u) fun b0=>cnd b0 sT sF) sF) sF) sF) sF) sF) sF) sF)) u ((W,(wrap .i64 (864000+(Int.tmod (wrap .i64 S) 5000))),0,()),Z,(D.Paging.mk k.Base aA k.Serial),()))) fun b1=>cd (J≠0) sF (cd (O≠0) sF (b1 ((F,G,()),H,j,L,())))) fun b2=>cd (E≠0) sF (optc (YP u (D.Paging.mk a.Base i a.Serial) g) fun b3=>cnd b3 (b2 ((B,g,()),C,(D.Paging.mk a.Base i a.Serial),h,())) sF)) fun b4=>cd (a8≠0) sF (cd (t≠0) sF (cd (v≠0) sF (cd (A≠0) sF (b4 ((p1,z,()),q,y,f,()))))))
theorem Qc5:FO 4 (sB [lI,.one (.num .u16)] fun x=>Xt u x.1 x.2.1):=fI u (gs 8 (.two (.join [(1,.one (.num .u16)),rf 6,rf 8,rf 10,ni 12] [bx 1006 .Ledger,bx 1008 .Paging,bx 1010 .Cluster] .go) (gs 2 (.two (.join [(1,.one (.num .u16)),rf 6,rf 8,rf 10,ni 12] [bx 1006 .Ledger,bx 1008 .Paging,bx 1010 .Cluster] .go) (gs 2 (.two (.join [(1,.one (.num .u16)),rf 6,rf 8,rf 10,ni 12] [bx 1006 .Ledger,bx 1008 .Paging,bx 1010 .Cluster] .go) (gs 2 (lp [rf 6,rf 8,ni 12,ni 14,ni 15] [bx 1006 .Ledger,bx 1008 .Paging] (.two .go (.two (.one (gs 2 (.two (.join [rf 6,rf 8,ni 12,ni 14,ni 15,rf 16,rf 19] [bx 1006 .Ledger,bx 1008 .Paging,bx 1016 .Paging,bx 1019 .Cluster] .go) .go))) .go)))))))))) kz0 (eC (Qm2 u) (eC (QmZ u) (eC (QiG u) (eC (QbI u) (eC (Qmk u) (eC (Qco u) (eC (Qcn u) (eC (Qhq u) (eC (QhB u) (eC (QdN u) (eC (Yc u) (eC (QgJ u) (eC (QeW u) (eC (Qpj u) (eC (QkB u) (eC (QlH u) (eC (Qpc u) (eC (Qlw u) (eC (QqF u) (eC (Qpm u) (eC (Qi8 u) eN))))))))))))))))))))) Tryz.func4
end
end Go.Proofs.YtlllfgmajglnhaaGreat
/-
  What functions do: all parts.
-/
/-
  What functions do: all parts.
-/
/-
  All printed functions.
-/
/-
  PagingSurvives: its clusters, reckoned by the kernel with the operations as variables.
-/
namespace Go.Proofs.YtlllfgmajglnhaaGreat
open Go AM
section
variable (a b c:D.Op)
abbrev EnT(t:Int)(o:D.Op):D.Entry:=D.Entry.mk t o
abbrev Cl3(x y z:D.Replica)(d:Bool):D.Cluster:=D.Cluster.mk [x,y,z] [] [d,false,false] []
def kl0:D.Cluster:=Cl3 (D.Replica.mk 0 0 (-1) 0 [] 0 [] []) (D.Replica.mk 1 0 (-1) 0 [] 0 [] []) (D.Replica.mk 2 0 (-1) 0 [] 0 [] []) false
def kl1:D.Cluster:=Cl3 (D.Replica.mk 0 1 0 2 [] 0 [true,true,false] [0,0,0]) (D.Replica.mk 1 1 0 0 [] 0 [] []) (D.Replica.mk 2 1 0 0 [] 0 [] []) false
def kl2:D.Cluster:=Cl3 (D.Replica.mk 0 1 0 2 [EnT 1 a] 0 [true,true,false] [1,0,0]) (D.Replica.mk 1 1 0 0 [] 0 [] []) (D.Replica.mk 2 1 0 0 [] 0 [] []) false
abbrev old0:D.Replica:=D.Replica.mk 0 1 0 2 [EnT 1 a] 1 [true,true,false] [1,1,1]
def kl3:D.Cluster:=Cl3 (old0 a) (D.Replica.mk 1 1 0 0 [EnT 1 a] 0 [] []) (D.Replica.mk 2 1 0 0 [EnT 1 a] 0 [] []) false
def kl4:D.Cluster:=Cl3 (old0 a) (D.Replica.mk 1 2 1 2 [EnT 1 a] 0 [false,true,true] [0,1,1]) (D.Replica.mk 2 2 1 0 [EnT 1 a] 0 [] []) true
def kl5:D.Cluster:=Cl3 (old0 a) (D.Replica.mk 1 2 1 2 [EnT 1 a,EnT 2 b] 0 [false,true,true] [0,2,1]) (D.Replica.mk 2 2 1 0 [EnT 1 a] 0 [] []) true
def kl6:D.Cluster:=Cl3 (old0 a) (D.Replica.mk 1 2 1 2 [EnT 1 a,EnT 2 b] 2 [false,true,true] [0,2,2]) (D.Replica.mk 2 2 1 0 [EnT 1 a,EnT 2 b] 0 [] []) true
def kl7:D.Cluster:=Cl3 (old0 a) (D.Replica.mk 1 2 1 2 [EnT 1 a,EnT 2 b] 2 [false,true,true] [0,2,2]) (D.Replica.mk 2 2 1 0 [EnT 1 a,EnT 2 b] 2 [] []) true
def kl8:D.Cluster:=Cl3 (old0 a) (D.Replica.mk 1 2 1 2 [EnT 1 a,EnT 2 b,EnT 2 c] 2 [false,true,true] [0,3,2]) (D.Replica.mk 2 2 1 0 [EnT 1 a,EnT 2 b] 2 [] []) true
def kl9:D.Cluster:=Cl3 (old0 a) (D.Replica.mk 1 2 1 2 [EnT 1 a,EnT 2 b,EnT 2 c] 3 [false,true,true] [0,3,3]) (D.Replica.mk 2 2 1 0 [EnT 1 a,EnT 2 b,EnT 2 c] 2 [] []) true
def kl10:D.Cluster:=Cl3 (old0 a) (D.Replica.mk 1 2 1 2 [EnT 1 a,EnT 2 b,EnT 2 c] 3 [false,true,true] [0,3,3]) (D.Replica.mk 2 2 1 0 [EnT 1 a,EnT 2 b,EnT 2 c] 3 [] []) true
instance:Inhabited (D.Cluster×Int):=⟨(default,0)⟩
def BF(x y:D.Cluster)(i:Int):Prop:=∃w,UQ 1000 x i=some (w,0)/\V1 1000 w=some y
theorem BF.of{x y:D.Cluster}{i:Int}(h:UQ 1000 x i=some (((UQ 1000 x i).getD default).1,0))(h2:V1 1000 ((UQ 1000 x i).getD default).1=some y):BF x y i:=⟨_,h,h2⟩
theorem Qy1:Qii 1000 3=some (kl0,0):=by kernel_rfl
theorem Qzw:QaZ 1000 kl0 0=some (kl1,0):=by kernel_rfl
theorem Qzx:BF (kl2 a) (kl3 a) 0:=.of (by kernel_rfl) (by kernel_rfl)
theorem QyX:Qk2 1000 (kl3 a) 0=some ({ kl3 a with Down:=[true,false,false] },0)/\QaZ 1000 { kl3 a with Down:=[true,false,false] } 1=some (kl4 a,0):=⟨by kernel_rfl,by kernel_rfl⟩
theorem Qzy:BF (kl5 a b) (kl6 a b) 1:=.of (by kernel_rfl) (by kernel_rfl)
theorem Qzz:BF (kl6 a b) (kl7 a b) 1:=.of (by kernel_rfl) (by kernel_rfl)
theorem QyY:BF (kl7 a b) (kl7 a b) 1:=.of (by kernel_rfl) (by kernel_rfl)
theorem QzA:BF (kl8 a b c) (kl9 a b c) 1:=.of (by kernel_rfl) (by kernel_rfl)
theorem QyZ:BF (kl9 a b c) (kl10 a b c) 1:=.of (by kernel_rfl) (by kernel_rfl)
theorem Qul:BF (kl10 a b c) (kl10 a b c) 1:=.of (by kernel_rfl) (by kernel_rfl)
theorem Qy0:U7 1000 (kl7 a b)=some true:=by kernel_rfl
theorem Qx5:U7 1000 (kl10 a b c)=some true:=by kernel_rfl
end
end Go.Proofs.YtlllfgmajglnhaaGreat
/-
  How what is reckoned of code is evaluated, step by step, where its conditions are known. No project text.
-/
set_option linter.unusedSimpArgs false
namespace Go.Proofs.YtlllfgmajglnhaaGreat.AM
open Go
section
variable {R α:Type} {Q:R->Prop}
theorem Ok.p{p:Prop}[Decidable p]{x y:Option R}(h:p)(hx:Ok x Q):Ok (AM.cnd (decide p) x y) Q:=by rw[Qeg h];exact hx
theorem Ok.n{p:Prop}[Decidable p]{x y:Option R}(h:¬p)(hx:Ok y Q):Ok (AM.cnd (decide p) x y) Q:=by rw[QiY h];exact hx
theorem Ok.np{p:Prop}[Decidable p]{x y:Option R}(h:p)(hx:Ok y Q):Ok (AM.cnd (!decide p) x y) Q:=by simp only[h,decide_true,Bool.not_true];exact hx
theorem Ok.nn{p:Prop}[Decidable p]{x y:Option R}(h:¬p)(hx:Ok x Q):Ok (AM.cnd (!decide p) x y) Q:=by simp only[h,decide_false,Bool.not_false];exact hx
theorem Ok.t{x y:Option R}(hx:Ok x Q):Ok (AM.cnd true x y) Q:=hx
theorem Ok.f{x y:Option R}(hx:Ok y Q):Ok (AM.cnd false x y) Q:=hx
theorem Ok.bt{b:Bool}{x y:Option R}(h:b=true)(hx:Ok x Q):Ok (AM.cnd b x y) Q:=by rw[h];exact hx
theorem Ok.bf{b:Bool}{x y:Option R}(h:b=false)(hx:Ok y Q):Ok (AM.cnd b x y) Q:=by rw[h];exact hx
theorem Ok.nt{b:Bool}{x y:Option R}(h:b=true)(hx:Ok y Q):Ok (AM.cnd (!b) x y) Q:=by rw[h];exact hx
theorem Ok.nf{b:Bool}{x y:Option R}(h:b=false)(hx:Ok x Q):Ok (AM.cnd (!b) x y) Q:=by rw[h];exact hx
theorem Ok.ncnd{b:Bool}{x y:Option R}(h1:b=false->Ok x Q)(h2:b=true->Ok y Q):Ok (AM.cnd (!b) x y) Q:=by
 cases b
 .exact h1 rfl
 .exact h2 rfl
theorem Ok.j{Y:Type}{k:Y->Option R}{f:(Y->Option R)->Option R}(h:Ok (f k) Q):Ok (AM.join k f) Q:=h
theorem Ok.oe{o:Option α}{v:α}{k:α->Option R}(h:o=some v)(hk:Ok (k v) Q):Ok (optc o k) Q:=by rw[h];exact hk
theorem Ok.os{v:α}{k:α->Option R}(hk:Ok (k v) Q):Ok (optc (some v) k) Q:=hk
theorem Ok.ck{a b:Nat}{x:Option R}(h:a=b)(hx:Ok x Q):Ok (AM.chk a b x) Q:=by rw[Qzp h];exact hx
theorem Ok.lt{a b:Nat}{x:Option R}(h:a<b)(hx:Ok x Q):Ok (AM.ltc a b x) Q:=by rw[QzD h];exact hx
theorem Ok.nat{j:Int}{k:Nat->Option R}(h:0<=j)(hk:Ok (k j.toNat) Q):Ok (AM.natc j k) Q:=by rw[Qxd h];exact hk
theorem Ok.natn{i:Nat}{k:Nat->Option R}(hk:Ok (k i) Q):Ok (AM.natc (i:Int) k) Q:=by rw[Qy6];exact hk
theorem Ok.get[Inhabited α]{l:List α}{i:Nat}{k:α->Option R}(h:i<l.length)(hk:Ok (k (nth l i)) Q):Ok (optc (GetElem?.getElem? l i) k) Q:=by rw[Qyg h];exact hk
theorem Ok.atn[Inhabited α]{l:List α}{i:Nat}{k:α->Option R}(h:i<l.length)(hk:Ok (k (nth l i)) Q):Ok (atc l (i:Int) k) Q:=by rw[QyL h];exact hk
theorem Xs[DecidableEq α]{l:List α}(h:l.length<=34359738368):nilC l (AM.both (some []) (AM.lec l.length 34359738368 (some l))) (AM.lec l.length 34359738368 (some l))=some l:=by
 rw[Qy3 h]
 cases l with
 |nil=>unfold AM.both;rfl
 |cons a l=>rfl
theorem Qc{x:Int}(h : -9223372036854775808<=x/\x<=9223372036854775807):IntKind.wrap .i64 x=x:=QhQ h.1 h.2
theorem Ok.run{X:Type}{B:(X->Option R)->X->Option R}(n:Nat)(st:Nat->X){fu:Nat}{x:X}(hx:x=st 0)(hf:n<fu)(hs:∀i,i<n->∀k,(Ok (k (st (i+1))) Q->Ok (B k (st i)) Q))(h:∀k,Ok (B k (st n)) Q):Ok (Qg B fu x) Q:=by
 subst hx
 revert st fu
 induction n with
 |zero=>
  intro st fu hf _ h
  obtain⟨f,rfl⟩:∃f,fu=f+1:=⟨fu - 1,Oa⟩
  exact h _
 |succ n ih=>
  intro st fu hf hs h
  obtain⟨f,rfl⟩:∃f,fu=f+1:=⟨fu - 1,Oa⟩
  show Ok (B (Qg B f) (st 0)) Q
  exact hs 0 Oa _ (ih (fun i=>st (i+1)) Oa (fun i hi k=>hs (i+1) Oa k) h)
theorem Ok.scan{X:Type}{B:(X->Option R)->X->Option R}(n:Nat)(st:Nat->X)(q:Nat->Bool){fu:Nat}{x:X}(hx:x=st 0)(hf:n<fu)(hy:∀i,i<n->q i=true->(∀j,j<i->q j=false)->∀k,Ok (B k (st i)) Q)(hn:∀i,i<n->q i=false->∀k,(Ok (k (st (i+1))) Q->Ok (B k (st i)) Q))(he:(∀j,j<n->q j=false)->∀k,Ok (B k (st n)) Q):Ok (Qg B fu x) Q:=by
 refine Ok.loop (fun m x=>∃i,i<=n/\m=n - i/\x=st i/\∀j,j<i->q j=false) (m:=n) hf ⟨0,Oa,rfl,hx,fun j hj=>Oa⟩ ?_
 rintro m x ⟨i,h1,h2,rfl,h3⟩ k hk
 by_cases h:i<n
 .cases hq:q i with
  |true=>exact hy i h hq h3 k
  |false=>exact hn i h hq k (hk (n - (i+1)) _ Oa ⟨i+1,Oa,rfl,rfl,fun j hj=>by
    by_cases e:j=i
    .subst e;exact hq
    .exact h3 j Oa⟩)
 .obtain rfl:i=n:=Oa
  exact he h3 k
theorem QjH{l:List α}[Inhabited α]{p:α->Bool}{i:Nat}(hi:i<l.length)(h:p (nth l i)=true):l.any p=true:=List.any_eq_true.2 ⟨_,Qi hi,h⟩
theorem Qn3{l:List α}[Inhabited α]{p:α->Bool}(h:∀j,j<l.length->p (nth l j)=false):l.any p=false:=by
 rw[List.any_eq_false]
 intro x hx
 obtain⟨j,hj,rfl⟩:=List.getElem_of_mem hx
 have:=h j hj
 simp only[nth,List.getD_eq_getElem?_getD,List.getElem?_eq_getElem hj,Option.getD_some]at this
 simp[this]
theorem cnd2{p q:Prop}[Decidable p][Decidable q]:AM.cnd (decide p) (AM.cnd (decide q) (some true) (some false)) (some false)=some (decide (p/\q)):=by
 by_cases hp:p<;>by_cases hq:q<;>simp[AM.cnd,hp,hq]
theorem Ok.N{p:Prop}[Decidable p]{x y:Option R}(hx:Ok y Q)(h:¬p:=by omega):Ok (AM.cnd (decide p) x y) Q:=.n h hx
theorem Ok.P{p:Prop}[Decidable p]{x y:Option R}(hx:Ok x Q)(h:p:=by omega):Ok (AM.cnd (decide p) x y) Q:=.p h hx
theorem Ok.NS{p:Prop}[Decidable p]{x y:Option R}(hx:Ok y Q)(h:¬p:=by simp):Ok (AM.cnd (decide p) x y) Q:=.n h hx
theorem Ok.PS{p:Prop}[Decidable p]{x y:Option R}(hx:Ok x Q)(h:p:=by simp):Ok (AM.cnd (decide p) x y) Q:=.p h hx
theorem Ok.L{a b:Nat}{x:Option R}(hx:Ok x Q)(h:a<=b:=by omega):Ok (AM.lec a b x) Q:=.lec h hx
theorem Ok.LS{a b:Nat}{x:Option R}(hx:Ok x Q)(h:a<=b:=by simp;omega):Ok (AM.lec a b x) Q:=.lec h hx
theorem Ok.E{a b:Nat}{x:Option R}(hx:Ok x Q)(h:a<b:=by omega):Ok (AM.ltc a b x) Q:=.lt h hx
theorem Ok.A[Inhabited α]{l:List α}{i:Nat}{k:α->Option R}(hk:Ok (k (nth l i)) Q)(h:i<l.length:=by omega):Ok (atc l (i:Int) k) Q:=.atn h hk
theorem Ok.G[Inhabited α]{l:List α}{i:Nat}{k:α->Option R}(hk:Ok (k (nth l i)) Q)(h:i<l.length:=by omega):Ok (optc (GetElem?.getElem? l i) k) Q:=.get h hk
theorem Ok.Z{b:Int}{x:Option R}(hx:Ok x Q)(h:b≠0:=by omega):Ok (AM.nzc b x) Q:=.nzc h hx
end
end Go.Proofs.YtlllfgmajglnhaaGreat.AM
/-
  Sets of numbers as ascending lists, in plain Lean: With, sorting, leaving out what comes twice.
-/
namespace Go.Proofs.YtlllfgmajglnhaaGreat
open Go AM
def Asc(l:List Int):Prop:=l.Pairwise (·<·)
theorem Qec:∀{a b:List Int},Asc a->Asc b->(∀x,x∈a↔x∈b)->a=b
 |[],[],_,_,_=>rfl
 |[],y::b,_,_,h=>by have:=(h y).2 (List.mem_cons_self ..);simp at this
 |x::a,[],_,_,h=>by have:=(h x).1 (List.mem_cons_self ..);simp at this
 |x::a,y::b,ha,hb,h=>by
  have ha':=List.pairwise_cons.1 ha
  have hb':=List.pairwise_cons.1 hb
  have e:x=y:=by
   rcases List.mem_cons.1 ((h x).1 (List.mem_cons_self ..))with e|hx
   .exact e
   .rcases List.mem_cons.1 ((h y).2 (List.mem_cons_self ..))with e|hy
    .exact e.symm
    .have h1:=hb'.1 x hx
     have h2:=ha'.1 y hy
     omega
  subst e
  congr 1
  refine Qec ha'.2 hb'.2 fun z=>⟨fun hz=>?_,fun hz=>?_⟩
  .have h1:=ha'.1 z hz
   rcases List.mem_cons.1 ((h z).1 (List.mem_cons_of_mem _ hz))with e|h2
   .omega
   .exact h2
  .have h1:=hb'.1 z hz
   rcases List.mem_cons.1 ((h z).2 (List.mem_cons_of_mem _ hz))with e|h2
   .omega
   .exact h2
def W7(l:List Int)(x:Int):Nat->List Int×Bool
 |0=>([],false)
 |i+1=>((W7 l x i).1++(if (W7 l x i).2=false/\x<=nth l i then[x]else[])++(if nth l i≠x then[nth l i]else[]),(W7 l x i).2 || decide (x<=nth l i))
def QpO(l:List Int)(x:Int):List Int:=if (W7 l x l.length).2=true then(W7 l x l.length).1 else(W7 l x l.length).1++[x]
theorem QhR{l:List Int}(h:Asc l){i j:Nat}(hij:i<j)(hj:j<l.length):nth l i<nth l j:=by
 have:=List.pairwise_iff_getElem.1 h i j Oa hj hij
 simpa [nth,List.getD_eq_getElem?_getD,List.getElem?_eq_getElem hj,List.getElem?_eq_getElem (show i<l.length by omega)]using this
theorem VM{l:List Int}{i:Nat}(h:i<l.length)(z:Int):z∈l.take (i+1)↔z∈l.take i\/z=nth l i:=by
 rw[List.take_succ_eq_append_getElem h,List.mem_append,List.mem_singleton]
 simp[nth,List.getD_eq_getElem?_getD,List.getElem?_eq_getElem h]
theorem Qr3{l:List Int}{x:Int}(h:Asc l):∀i,i<=l.length->Asc (W7 l x i).1/\(∀z,z∈(W7 l x i).1↔z∈l.take i/\z≠x\/(W7 l x i).2=true/\z=x)/\
  ((W7 l x i).2=false->∀z∈l.take i,z<x)/\((W7 l x i).2=true->∀j,i<=j->j<l.length->x<nth l j)
 |0,_=>by simp[W7,Asc]
 |i+1,hi=>by
  obtain⟨h1,h2,h3,h4⟩:=Qr3 h i Oa
  have hlt:∀z∈l.take i,z<nth l i:=fun z hz=>by
   obtain⟨j,hj,rfl⟩:=List.getElem_of_mem hz
   rw[List.length_take]at hj
   have:=QhR h (show j<i by omega) (show i<l.length by omega)
   simpa [nth,List.getD_eq_getElem?_getD,List.getElem?_eq_getElem (show j<l.length by omega)]using this
  simp only[W7]
  cases hd:(W7 l x i).2 with
  |true=>
   have hx:=h4 hd i (Nat.le_refl _) Oa
   rw[if_neg Ob,if_pos Oa,List.append_nil]
   refine⟨?_,fun z=>?_,Ob,fun _ j hj hl=>h4 hd j Oa hl⟩
   .refine List.pairwise_append.2 ⟨h1,List.pairwise_singleton _ _,fun a ha b hb=>?_⟩
    rw[List.mem_singleton.1 hb]
    rcases(h2 a).1 ha with⟨g,_⟩|⟨_,rfl⟩
    .exact hlt a g
    .exact hx
   .rw[List.mem_append,h2,VM Oa,List.mem_singleton,hd]
    simp only[Bool.true_or,true_and]
    constructor
    .rintro((⟨g,g'⟩|g)|g)
     .exact .inl ⟨.inl g,g'⟩
     .exact .inr g
     .exact .inl ⟨.inr g,Oa⟩
    .rintro(⟨g|g,g'⟩|g)
     .exact .inl (.inl ⟨g,g'⟩)
     .exact .inr g
     .exact .inl (.inr g)
  |false=>
   have hb:=h3 hd
   by_cases hx:x<=nth l i
   .rw[if_pos ⟨rfl,hx⟩]
    have e:(false || decide (x<=nth l i))=true:=by simp[hx]
    rw[e]
    have hm:∀z,z∈(W7 l x i).1↔z∈l.take i:=fun z=>by
     rw[h2,hd]
     refine⟨fun g=>?_,fun g=>.inl ⟨g,by have:=hb z g;omega⟩⟩
     rcases g with⟨g,_⟩|⟨g,_⟩
     .exact g
     .simp at g
    refine⟨?_,fun z=>?_,Ob,fun _ j hj hl=>?_⟩
    .refine List.pairwise_append.2 ⟨List.pairwise_append.2 ⟨h1,List.pairwise_singleton _ _,fun a ha b hb'=>?_⟩,?_,fun a ha b hb'=>?_⟩
     .rw[List.mem_singleton.1 hb'];exact hb a ((hm a).1 ha)
     .split<;>simp
     .split at hb'
      .rename_i hne
       rw[List.mem_singleton.1 hb']
       rcases List.mem_append.1 ha with ha|ha
       .exact hlt a ((hm a).1 ha)
       .rw[List.mem_singleton.1 ha];omega
      .simp at hb'
    .rw[List.mem_append,List.mem_append,hm,VM Oa,List.mem_singleton]
     by_cases hne:nth l i≠x
     .rw[if_pos hne,List.mem_singleton]
      constructor
      .rintro((g|g)|g)
       .exact .inl ⟨.inl g,by have:=hb z g;omega⟩
       .exact .inr ⟨rfl,g⟩
       .exact .inl ⟨.inr g,Oa⟩
      .rintro(⟨g|g,_⟩|⟨_,g⟩)
       .exact .inl (.inl g)
       .exact .inr g
       .exact .inl (.inr g)
     .rw[if_neg hne]
      simp only[List.not_mem_nil,or_false]
      constructor
      .rintro(g|g)
       .exact .inl ⟨.inl g,by have:=hb z g;omega⟩
       .exact .inr ⟨trivial,g⟩
      .rintro(⟨g|g,g'⟩|⟨_,g⟩)
       .exact .inl g
       .omega
       .exact .inr g
    .have:=QhR h (show i<j by omega) hl
     omega
   .rw[if_neg (by simp[hx]),if_pos Oa,List.append_nil]
    have e:(false || decide (x<=nth l i))=false:=by simp[hx]
    rw[e]
    refine⟨?_,fun z=>?_,fun _ z hz=>?_,Ob⟩
    .refine List.pairwise_append.2 ⟨h1,List.pairwise_singleton _ _,fun a ha b hb'=>?_⟩
     rw[List.mem_singleton.1 hb']
     rcases(h2 a).1 ha with⟨g,_⟩|⟨g,_⟩
     .exact hlt a g
     .rw[hd]at g;simp at g
    .rw[List.mem_append,h2,VM Oa,List.mem_singleton,hd]
     simp only[Bool.false_eq_true,false_and,or_false]
     constructor
     .rintro(⟨g,g'⟩|g)
      .exact⟨.inl g,g'⟩
      .exact⟨.inr g,Oa⟩
     .rintro⟨g|g,g'⟩
      .exact .inl ⟨g,g'⟩
      .exact .inr g
    .rcases(VM (show i<l.length by omega) z).1 hz with g|g
     .exact hb z g
     .omega
theorem QfP{l:List Int}{x:Int}(h:Asc l):Asc (QpO l x)/\∀z,z∈QpO l x↔z∈l\/z=x:=by
 obtain⟨h1,h2,h3,h4⟩:=Qr3 (x:=x) h l.length (Nat.le_refl _)
 rw[List.take_length]at h2 h3
 unfold QpO
 split
 .rename_i hd
  refine⟨h1,fun z=>?_⟩
  rw[h2,hd]
  simp only[true_and]
  by_cases hz:z=x
  .simp[hz]
  .simp[hz]
 .rename_i hd
  have hd:(W7 l x l.length).2=false:=by cases hb:(W7 l x l.length).2<;>simp_all
  have hm:∀z,z∈(W7 l x l.length).1↔z∈l:=fun z=>by
   rw[h2,hd]
   refine⟨fun g=>?_,fun g=>.inl ⟨g,by have:=h3 hd z g;omega⟩⟩
   rcases g with⟨g,_⟩|⟨g,_⟩
   .exact g
   .simp at g
  refine⟨List.pairwise_append.2 ⟨h1,List.pairwise_singleton _ _,fun a ha b hb=>?_⟩,fun z=>?_⟩
  .rw[List.mem_singleton.1 hb];exact h3 hd a ((hm a).1 ha)
  .rw[List.mem_append,hm,List.mem_singleton]
def Qjd(l:List Int)(j:Nat):List Int:=(l.set j (nth l (j - 1))).set (j - 1) (nth l j)
theorem QwP(l:List Int)(j:Nat):(Qjd l j).length=l.length:=by simp[Qjd]
theorem Qku{l:List Int}{j k:Nat}{x:Int}(hj:j<l.length):nth (l.set j x) k=if k=j then x else nth l k:=by
 by_cases h:k=j
 .subst h;rw[if_pos rfl];simp[nth,List.getD_eq_getElem?_getD,hj]
 .rw[if_neg h];simp[nth,List.getD_eq_getElem?_getD,List.getElem?_set_ne (Ne.symm h)]
theorem Qfo{l:List Int}{j k:Nat}(h1:1<=j)(hj:j<l.length):nth (Qjd l j) k=if k=j - 1 then nth l j else if k=j then nth l (j - 1)else nth l k:=by
 unfold Qjd
 rw[Qku (by simp;omega)]
 split
 .rfl
 .rw[Qku hj]
def Y5(l:List Int)(n:Nat):Prop:=∀a b,a<b->b<n->nth l a<=nth l b
def QlV(l:List Int)(n j:Nat):Prop:=∀a b,a<b->b<n->b≠j->nth l a<=nth l b
theorem Qiy{l:List Int}{i:Nat}(h:Y5 l i):QlV l (i+1) i:=fun a b h1 h2 h3=>h a b h1 Oa
theorem QjR{l:List Int}{n j:Nat}(h:QlV l n j)(h1:1<=j)(hj:j<l.length)(hn:j<n)(hlt:nth l j<nth l (j - 1)):QlV (Qjd l j) n (j - 1):=by
 intro a b hab hb hne
 rw[Qfo h1 hj,Qfo h1 hj,if_neg hne]
 by_cases g1:b=j
 .subst g1
  rw[if_pos rfl]
  by_cases g2:a=b - 1
  .rw[if_pos g2];omega
  .rw[if_neg g2,if_neg Oa]
   exact h a (b - 1) Oa Oa Oa
 .rw[if_neg g1]
  by_cases g2:a=j - 1
  .rw[if_pos g2];exact h j b Oa hb g1
  .rw[if_neg g2]
   by_cases g3:a=j
   .rw[if_pos g3];exact h (j - 1) b Oa hb g1
   .rw[if_neg g3];exact h a b hab hb g1
theorem Ql2{l:List Int}{n j:Nat}(h:QlV l n j)(he:j=0\/nth l (j - 1)<=nth l j):Y5 l n:=by
 intro a b hab hb
 by_cases g:b=j
 .subst g
  rcases he with he|he
  .omega
  .by_cases g2:a=b - 1
   .rw[g2];exact he
   .have:=h a (b - 1) Oa Oa Oa;omega
 .exact h a b hab hb g
theorem Qw1{l:List Int}(h:Y5 l l.length)(hd:∀k,1<=k->k<l.length->nth l (k - 1)≠nth l k):Asc l:=by
 refine List.pairwise_iff_getElem.2 fun i j hi hj hij=>?_
 have e:∀k (hk:k<l.length),l[k]=nth l k:=fun k hk=>by simp[nth,List.getD_eq_getElem?_getD,List.getElem?_eq_getElem hk]
 rw[e i hi,e j hj]
 have h1:=hd j Oa hj
 have h2:=h (j - 1) j Oa hj
 rcases Nat.eq_or_lt_of_le (show i<=j - 1 by omega)with g|g
 .rw[g];omega
 .have:=h i (j - 1) g Oa;omega
/-
  Crews (one zone without rules, schedules of one layer without windows and calendar): who is on call, in plain Lean.
-/
structure QbB (x:D.Edit):Prop where
 kind:0<=x.Kind/\x.Kind<=2
 a:(0<=x.A/\x.A<4)\/(x.Kind=1/\x.A = -1)
 b:x.Kind=2->0<=x.B/\x.B<4/\x.A≠x.B
 b0:x.Kind≠2->x.B=0
 time:864000<=x.From/\x.From<x.To/\x.To<950400
structure YM (l:D.Layer):Prop where
 name:l.Name=ByteArray.mk #[108]
 zone:l.Zone=0
 day:l.Start.Day=1\/l.Start.Day=9\/l.Start.Day=10
 second:0<=l.Start.Second/\l.Start.Second<=43200
 unit:l.Unit=0\/l.Unit=1
 every:1<=l.Every/\l.Every<=3
 len:1<=l.Members.length/\l.Members.length<=3
 mem:∀x∈l.Members,0<=x/\x<4
 win:l.Windows=[]
 cal:l.Calendar=0/\l.Mode=0
structure UK (p:D.Person):Prop where
 zone:p.Zone=0
 max:p.MaxWeek=0/\p.MinRest=0
 quiet:p.Quiet=[]\/∃a b,p.Quiet=[⟨a,b⟩]/\(a=0\/a=3600)/\(b=7200\/b=86400\/b=604800)
structure Qd7 (n:Nat) (s:D.Schedule):Prop where
 layers:∃l,s.Layers=[l]/\YM l
 len:s.Edits.length<=n
 edit:∀x∈s.Edits,QbB x
def bZ:ByteArray:=ByteArray.mk #[122]
def Yn:List ByteArray:=[ByteArray.mk #[97,110,110],ByteArray.mk #[98,111,98],ByteArray.mk #[99,97,116],ByteArray.mk #[100,97,110]]
def YF:List ByteArray:=[ByteArray.mk #[102,105,114,115,116],ByteArray.mk #[115,101,99,111,110,100]]
structure Q0 (n:Nat) (c:D.Config):Prop where
 zone:∃off,c.Zones=[⟨bZ,off,[]⟩]/\(off=0\/off=3600\/off = -7200)
 pname:c.People.map (·.Name)=Yn
 person:∀p∈c.People,UK p
 cal:c.Calendars=[]
 sname:c.Schedules.map (·.Name)=YF
 sched:∀s∈c.Schedules,Qd7 n s
theorem Q0.plen{n:Nat}{c:D.Config}(h:Q0 n c):c.People.length=4:=by
 have:=congrArg List.length h.pname;simpa [Yn]using this
theorem Q0.slen{n:Nat}{c:D.Config}(h:Q0 n c):c.Schedules.length=2:=by
 have:=congrArg List.length h.sname;simpa [YF]using this
theorem Q0.mono{n m:Nat}{c:D.Config}(h:Q0 n c)(hm:n<=m):Q0 m c:=
 ⟨h.zone,h.pname,h.person,h.cal,h.sname,fun s hs=>⟨(h.sched s hs).layers,Nat.le_trans (h.sched s hs).len hm,(h.sched s hs).edit⟩⟩
def YW(c:D.Config):Int:=(nth c.Zones 0).Offset
theorem Q0.zones{n:Nat}{c:D.Config}(h:Q0 n c):c.Zones=[⟨bZ,YW c,[]⟩]/\(YW c=0\/YW c=3600\/YW c = -7200):=by
 obtain⟨off,h1,h2⟩:=h.zone
 have:YW c=off:=by unfold YW;rw[h1];rfl
 rw[this];exact⟨h1,h2⟩
def QwT(l:D.Layer):Int:=if l.Unit=0 then 3600 else 86400
def QdB(l:D.Layer):Int:=QwT l*l.Every
def Yx(off:Int)(l:D.Layer):Int:=l.Start.Day*86400+l.Start.Second - off
def YV(off:Int)(l:D.Layer)(k:Int):Int:=Yx off l+QdB l*k
def Z2(off:Int)(l:D.Layer)(t:Int):Int:=if t<Yx off l then -1 else(t - Yx off l) / QdB l
theorem QnO{l:D.Layer}(h:YM l):3600<=QdB l/\QdB l<=259200:=by
 have h2:=h.every
 have h1:=h.unit
 unfold QdB QwT
 split<;>omega
theorem Qhc{off:Int}{l:D.Layer}(h:YM l)(ho:off=0\/off=3600\/off = -7200):0<Yx off l/\Yx off l<=1000000:=by
 have h1:=h.day
 have h2:=h.second
 unfold Yx;omega
theorem QnL{off:Int}{l:D.Layer}{t k:Int}(h:YM l)(h0:0<=k)(h1:YV off l k<=t)(h2:t<YV off l (k+1)):Z2 off l t=k:=by
 have hs:=(QnO h).1
 unfold YV at h1 h2
 rw[Int.mul_add,Int.mul_one]at h2
 have h3:0<=QdB l*k:=Int.mul_nonneg Oa h0
 unfold Z2
 rw[if_neg Oa]
 have h4:k<=(t - Yx off l) / QdB l:=(Int.le_ediv_iff_mul_le Oa).2 (by rw[Int.mul_comm];omega)
 have h5:(t - Yx off l) / QdB l<k+1:=(Int.ediv_lt_iff_lt_mul Oa).2 (by rw[Int.mul_comm,Int.mul_add,Int.mul_one];omega)
 omega
theorem QnM{off:Int}{l:D.Layer}{t:Int}(h:t<YV off l 0):Z2 off l t = -1:=by
 unfold YV at h;rw[Int.mul_zero,Int.add_zero]at h
 unfold Z2;rw[if_pos h]
theorem QwK{off:Int}{l:D.Layer}{t:Int}(h:YM l)(h0:Yx off l<=t):0<=Z2 off l t/\YV off l (Z2 off l t)<=t/\t<YV off l (Z2 off l t+1):=by
 have hs:=(QnO h).1
 have e:Z2 off l t=(t - Yx off l) / QdB l:=by unfold Z2;rw[if_neg Oa]
 have h1:=Int.mul_ediv_add_emod (t - Yx off l) (QdB l)
 have h2:=Int.emod_nonneg (t - Yx off l) (b:=QdB l) Oa
 have h3:=Int.emod_lt_of_pos (t - Yx off l) (b:=QdB l) Oa
 have h4:0<=(t - Yx off l) / QdB l:=Int.ediv_nonneg Oa Oa
 rw[e]
 unfold YV
 rw[Int.mul_add,Int.mul_one]
 omega
theorem QpA{off:Int}{l:D.Layer}{t:Int}(h:YM l)(ho:off=0\/off=3600\/off = -7200)(ht:t<=8589934592): -1<=Z2 off l t/\Z2 off l t<=8589934592:=by
 by_cases h0:Yx off l<=t
 .have h1:=QwK h h0
  have h2:=(QnO h).1
  have h3:=(Qhc h ho).1
  have h4:3600*Z2 off l t<=QdB l*Z2 off l t:=Int.mul_le_mul_of_nonneg_right h2 h1.1
  unfold YV at h1
  omega
 .unfold Z2;rw[if_pos Oa];omega
def QcZ(off:Int)(l:D.Layer)(t:Int):Int:=if Z2 off l t<0 then -1 else nth l.Members ((Z2 off l t).toNat % l.Members.length)
theorem QvX{off:Int}{l:D.Layer}{t:Int}(h:YM l): -1<=QcZ off l t/\QcZ off l t<4:=by
 unfold QcZ
 split
 .omega
 .have hl:=h.len
  have:=h.mem (nth l.Members ((Z2 off l t).toNat % l.Members.length)) (Qi (Nat.mod_lt _ Oa))
  omega
def QpZ(p t:Int)(x:D.Edit):Bool:=decide (x.Kind=0) && decide (x.A=p) && decide (x.From<=t) && decide (t<x.To)
def QjL(es:List D.Edit)(p t:Int):Bool:=es.any (QpZ p t)
def QoA(t:Int)(p:Int)(x:D.Edit):Int:=
 if ¬(x.From<=t/\t<x.To)\/x.Kind=0 then p else if x.Kind=1 then x.A else if x.Kind≠2 then p else if p=x.A then x.B else if p=x.B then x.A else p
def Qhe(es:List D.Edit)(p t:Int):Int:=es.foldl (QoA t) p
theorem Qv2{p t:Int}{x:D.Edit}(h:QbB x)(hp : -1<=p/\p<4): -1<=QoA t p x/\QoA t p x<4:=by
 have ha:=h.a
 have hb:=h.b
 unfold QoA
 repeat' split
 all_goals omega
theorem Qrm{t:Int}:∀{es:List D.Edit} {p:Int},(∀x∈es,QbB x)->(-1<=p/\p<4)->-1<=Qhe es p t/\Qhe es p t<4
 |[],p,_,hp=>hp
 |x::es,p,h,hp=>Qrm (es:=es) (fun y hy=>h y (List.mem_cons_of_mem _ hy)) (Qv2 (h x (List.mem_cons_self ..)) hp)
theorem Qmb{es:List D.Edit}{p t:Int}{k:Nat}(hk:k<es.length):Qhe (es.take (k+1)) p t=QoA t (Qhe (es.take k) p t) (nth es k):=by
 unfold Qhe
 rw[List.take_succ_eq_append_getElem hk,List.foldl_append]
 simp[nth,List.getD_eq_getElem?_getD,List.getElem?_eq_getElem hk]
def layP(off:Int)(s:D.Schedule)(t:Int):Int:=if 0<=QcZ off (nth s.Layers 0) t/\QjL s.Edits (QcZ off (nth s.Layers 0) t) t=false then QcZ off (nth s.Layers 0) t else -1
def whoS(off:Int)(s:D.Schedule)(t:Int):Int:=Qhe s.Edits (layP off s t) t
def whoV(c:D.Config)(i t:Int):Int:=if 0<=i/\i<2/\0<=t/\t<=8589934592 then whoS (YW c) (nth c.Schedules i.toNat) t else -1
theorem Qx7{n:Nat}{off:Int}{s:D.Schedule}{t:Int}(h:Qd7 n s): -1<=layP off s t/\layP off s t<4:=by
 obtain⟨l,h1,h2⟩:=h.layers
 have:=QvX (off:=off) (t:=t) h2
 unfold layP
 rw[h1,show nth [l] 0=l from rfl]
 split<;>omega
theorem QyG{n:Nat}{c:D.Config}(h:Q0 n c){i t:Int}: -1<=whoV c i t/\whoV c i t<4:=by
 unfold whoV
 split
 .have hs:=h.sched (nth c.Schedules i.toNat) (Qi (by rw[h.slen];omega))
  exact Qrm hs.edit (Qx7 hs)
 .omega
theorem Qrq{off:Int}{l:D.Layer}{k n:Int}(hs:QdB l=86400*n):(l.Start.Day+k*n)*86400+l.Start.Second - off=YV off l k:=by
 unfold YV Yx
 rw[hs,Int.mul_assoc,Int.add_mul,Int.mul_comm k n,Int.mul_comm (n*k) 86400]
 omega
theorem Qlc{l:D.Layer}(h:l.Unit=1):QdB l=86400*l.Every:=by unfold QdB QwT;rw[if_neg Oa]
theorem Qin{l:D.Layer}(h:l.Unit=0):QdB l=3600*l.Every:=by unfold QdB QwT;rw[if_pos h]
def Qcq(c:D.Config)(b:D.Book)(x:D.Target)(t:Int):List Int:=
 if x.Kind=0 then[x.Index]else if x.Kind=1 then(if whoV c x.Index t<0 then[]else[whoV c x.Index t])else
  if x.Kind=2/\0<=x.Index/\x.Index<(b.Teams.length:Int)then(nth b.Teams x.Index.toNat).Members else[]
def Means(c:D.Config)(b:D.Book)(l:List D.Target)(t z:Int):Prop:=0<=z/\z<4/\∃x∈l,z∈Qcq c b x t
def QaS(off t:Int):Int:=((t+off) / 86400+3) % 7*86400+(t+off) % 86400
def QeG(ws:List D.Window)(s:Int):Bool:=ws.any fun w=>decide (w.From<=s) && decide (s<w.To)
def WW(c:D.Config)(p t:Int)(urgent:Bool):Bool:=
 decide (0<=p/\p<4/\0<=t/\t<=8589934592) && (urgent && (nth c.People p.toNat).Consent || !QeG (nth c.People p.toNat).Quiet (QaS (YW c) t))
/-
  Pages on their way through their policies, in plain Lean: what steps, runs and answers make of them.
-/
open Go AM
def QgZ:List ByteArray:=[ByteArray.mk #[99,111,114,101],ByteArray.mk #[119,101,98]]
def Qls:List ByteArray:=[ByteArray.mk #[112],ByteArray.mk #[113],ByteArray.mk #[114]]
structure Qn0 (t:D.Team):Prop where
 asc:Asc t.Members
 len:1<=t.Members.length/\t.Members.length<=2
 mem:∀x∈t.Members,0<=x/\x<4
structure VD (n:Nat) (t:D.Target):Prop where
 kind:t.Kind=0\/t.Kind=1\/t.Kind=2
 lo:0<=t.Index
 person:t.Kind=0->t.Index<4
 sched:t.Kind=1->t.Index<2
 team:t.Kind=2->t.Index<(n:Int)
structure StepOK' (n:Nat) (s:D.PolicyStep):Prop where
 wait:0<=s.Wait/\s.Wait<=900
 len:s.Targets.length<=2
 target:∀t∈s.Targets,VD n t
structure Qce (n:Nat) (p:D.Policy):Prop where
 rep:0<=p.Repeat/\p.Repeat<=2
 len:1<=p.Steps.length/\p.Steps.length<=3
 step:∀s∈p.Steps,StepOK' n s
structure Qy (b:D.Book):Prop where
 tlen:b.Teams.length<=2
 tname:b.Teams.map (·.Name)=QgZ.take b.Teams.length
 team:∀t∈b.Teams,Qn0 t
 plen:1<=b.Policies.length/\b.Policies.length<=3
 pname:b.Policies.map (·.Name)=Qls.take b.Policies.length
 pol:∀p∈b.Policies,Qce b.Teams.length p
def Yv(p:D.Policy):Int:=if 0<=p.Repeat/\p.Repeat<=8/\p.Steps.length<=8 then(p.Steps.length:Int)*(p.Repeat+1)else 0
theorem Yw{n:Nat}{p:D.Policy}(h:Qce n p):Yv p=(p.Steps.length:Int)*(p.Repeat+1)/\1<=Yv p/\Yv p<=9:=by
 have h1:=h.rep
 have h2:=h.len
 have e:Yv p=(p.Steps.length:Int)*(p.Repeat+1):=by unfold Yv;rw[if_pos Oa]
 refine⟨e,?_⟩
 rw[e]
 have h3:p.Repeat=0\/p.Repeat=1\/p.Repeat=2:=Oa
 rcases h3 with h3|h3|h3<;>rw[h3]<;>omega
def WZ(c:D.Config)(b:D.Book)(l:List D.Target)(t:Int):List Int:=([0,1,2,3]:List Int).filter fun z=>l.any fun x=>(Qcq c b x t).contains z
theorem Qbe{c:D.Config}{b:D.Book}{l:List D.Target}{t z:Int}:z∈WZ c b l t↔Means c b l t z:=by
 unfold WZ Means
 simp only[List.mem_filter,List.any_eq_true,List.contains_iff_mem,List.mem_cons,List.not_mem_nil,or_false]
 constructor
 .rintro⟨h,x,hx⟩;exact⟨Oa,Oa,x,hx⟩
 .rintro⟨h1,h2,x,hx⟩;exact⟨Oa,x,hx⟩
theorem asc4:Asc [0,1,2,3]:=by unfold Asc;decide
theorem QgA{c:D.Config}{b:D.Book}{l:List D.Target}{t:Int}:Asc (WZ c b l t):=List.Pairwise.filter _ asc4
theorem QgB{c:D.Config}{b:D.Book}{l:List D.Target}{t:Int}:(WZ c b l t).length<=4:=List.length_filter_le _ _
theorem Qmh{c:D.Config}{b:D.Book}{l:List D.Target}{t:Int}{r:List Int}(h:Asc r)(hm:∀z,z∈r↔Means c b l t z):r=WZ c b l t:=
 Qec h QgA fun z=>(hm z).trans Qbe.symm
def Qbu(c:D.Config)(b:D.Book)(s:D.PolicyStep)(t:Int):List Int:=(WZ c b s.Targets t).filter fun z=>WW c z t s.Urgent
theorem QtG{c:D.Config}{b:D.Book}{s:D.PolicyStep}{t:Int}:Asc (Qbu c b s t):=List.Pairwise.filter _ QgA
theorem Qob{c:D.Config}{b:D.Book}{s:D.PolicyStep}{t:Int}:(Qbu c b s t).length<=4:=Nat.le_trans (List.length_filter_le _ _) QgB
theorem QtH{c:D.Config}{b:D.Book}{s:D.PolicyStep}{t z:Int}:z∈Qbu c b s t->0<=z/\z<4:=fun h=>by
 have:=Qbe.1 (List.mem_filter.1 h).1
 exact⟨this.1,this.2.1⟩
def YX(b:D.Book)(p:D.Page):D.Policy:=nth b.Policies p.Policy.toNat
def dueV(p:D.Page):Int×Bool:=if p.State=0 then(p.Due,true)else if p.State=2 then(p.Until,true)else(0,false)
def XP(p:D.Page):List Int:=if p.Starts=[]then[]else(nth p.Starts (p.Starts.length - 1)).People
def setF(n:Int):Int->List Int->Bool
 |_,[]=>true
 |k,x::r=>decide (0<=x) && decide (x<n) && decide (k<x) && setF n x r
def setV(l:List Int):Bool:=setF 32 (-1) l
def Wj(next:Int):Int->Int->List D.Start->Bool
 |_,_,[]=>true
 |k,t,x::r=>decide (t<=x.At) && (decide (x.K = -1) || decide (0<=x.K) && decide (k<x.K) && decide (x.K<next)) && setV x.People && Wj next (max k x.K) x.At r
def QgS(p:D.Page):Bool:=Wj p.Next (-1) p.Start p.Starts && decide (p.Starts.length<=200)
def QlP(l:List Int):Bool:=decide l.Nodup && decide (l.length<=64)
def QpL(p:D.Policy):Bool:=p.Steps.all fun s=>decide (0<=s.Wait) && decide (s.Wait<=86400)
def farV:Int:=17179869184
def inV(n lo hi:Int):Bool:=decide (lo<=n) && decide (n<=hi)
def QL(b:D.Book)(p:D.Page):Bool:=
 inV p.ID 1 999999 && inV p.Policy 0 ((b.Policies.length:Int) - 1) && inV p.Start 0 8589934592 && QpL (YX b p) && inV p.Next 0 (Yv (YX b p)) &&
 inV p.State 0 4 && inV p.By (-1) 31 && inV p.Last p.Start farV && inV p.Due 0 farV && inV p.Until 0 farV && inV p.Snoozes 0 4 && inV p.Hands 0 4 && QgS p && setV p.Declined && QlP p.Seen
def page0:D.Page:=D.Page.mk 0 0 0 0 0 0 0 0 0 0 0 [] [] []
def Zr(b:D.Book)(p:D.Page):D.PolicyStep:=nth (YX b p).Steps (p.Next % ((YX b p).Steps.length:Int)).toNat
def stepQ(c:D.Config)(b:D.Book)(p:D.Page):D.Page:=
 if p.State=2 then{ p with State:=0,Due:=p.Until,Last:=max p.Until p.Last }
 else if Yv (YX b p)<=p.Next then{ p with State:=3,Last:=max p.Due p.Last }
 else{ p with Last:=max p.Due p.Last,Starts:=p.Starts++[⟨p.Next,p.Due,Qbu c b (Zr b p) p.Due⟩],Declined:=[],Next:=p.Next+1,Due:=if Qbu c b (Zr b p) p.Due=[]then p.Due else p.Due+(Zr b p).Wait }
def stepV(c:D.Config)(b:D.Book)(p:D.Page):D.Page×Int:=
 if QL b p=false then(page0,8)else if (dueV p).2=false then(page0,9)else if p.Starts.length=200 then(page0,5)else(stepQ c b p,0)
def Z5(p:D.Page)(now:Int):Bool:=(dueV p).2 && decide ((dueV p).1<=now)
def runN(c:D.Config)(b:D.Book)(now:Int):Nat->D.Page->D.Page×Int
 |0,p=>(p,0)
 |n+1,p=>if Z5 p now=true then(if (stepV c b p).2≠0 then(page0,(stepV c b p).2)else runN c b now n (stepV c b p).1)else(p,0)
def runV(c:D.Config)(b:D.Book)(p:D.Page)(now:Int):D.Page×Int:=if QL b p=false then(page0,8)else runN c b now 100 p
def Y0(a:D.Answer):Bool:=
 inV a.ID 1 999999 && inV a.Page 1 999999 && inV a.Person (-1) 31 && inV a.At 0 8589934592 && inV a.Kind 1 5 && (if a.Kind=3 then inV a.Arg 1 86400 else if a.Kind=4 then inV a.Arg 0 31 else decide (a.Arg=0))
def XW(p:D.Page)(a:D.Answer):Int:=
 if a.At<p.Last\/Z5 p a.At=true then 6
 else if p.State=4\/(p.State=3/\a.Kind≠5)\/(p.State=1/\a.Kind=2)then 9
 else if p.Seen.length=64\/(a.Kind=3/\p.Snoozes=4)\/(a.Kind=4/\(p.Hands=4\/p.Starts.length=200))then 5 else 0
def Qhr(l:List Int)(x:Int):List Int:=l.filter (fun z=>decide (z<x))++x::l.filter (fun z=>decide (x<z))
def Ug(p:D.Page)(a:D.Answer):List Int:=if (XP p).contains a.Person=true then Qhr p.Declined a.Person else p.Declined
def Uo(p:D.Page)(a:D.Answer):Bool:=decide (XP p≠[]) && (XP p).all fun z=>(Ug p a).contains z
def Xl(p:D.Page)(a:D.Answer):D.Page:=
 if a.Kind=1 then(if p.State=1 then{ p with Seen:=p.Seen++[a.ID] }else{ p with Seen:=p.Seen++[a.ID],Last:=a.At,State:=1,By:=a.Person })
 else if a.Kind=2 then{ p with Seen:=p.Seen++[a.ID],Last:=a.At,Declined:=Ug p a,Due:=if Uo p a=true/\p.State=0 then a.At else p.Due }
 else if a.Kind=3 then{ p with Seen:=p.Seen++[a.ID],Last:=a.At,State:=2,By:=a.Person,Until:=a.At+a.Arg,Snoozes:=p.Snoozes+1 }
 else if a.Kind=4 then{ p with Seen:=p.Seen++[a.ID],Last:=a.At,State:=0,Due:=a.At+600,Hands:=p.Hands+1,Declined:=[],Starts:=p.Starts++[⟨-1,a.At,[a.Arg]⟩] }
 else{ p with Seen:=p.Seen++[a.ID],Last:=a.At,State:=4,By:=a.Person }
def answerV(b:D.Book)(p:D.Page)(a:D.Answer):D.Page×Int:=
 if QL b p=false\/Y0 a=false then(page0,8)else if a.Page≠p.ID then(page0,3)else if p.Seen.contains a.ID=true then(p,0)
 else if XW p a≠0 then(page0,XW p a)else(Xl p a,0)
/-
  What holds of pages on their way, in plain Lean: invariants of steps, runs and answers.
-/
inductive Goes (Q:D.Start->Prop) (st:Int):List D.Start->Int->Int->Int->Prop
 |nil:Goes Q st [] 0 st 0
 |step {l k t h a P}:Goes Q st l k t h->t<=a->(l=[]->a=st)->setV P=true->Q ⟨k,a,P⟩->Goes Q st (l++[⟨k,a,P⟩]) (k+1) a h
 |hand {l k t h a x}:Goes Q st l k t h->t<=a->l≠[]->0<=x->x<=31->Goes Q st (l++[⟨-1,a,[x]⟩]) k a (h+1)
section
variable {Q:D.Start->Prop} {st k t h:Int} {l:List D.Start}
theorem Goes.pos(g:Goes Q st l k t h):0<=k/\0<=h/\(l.length:Int)=k+h/\st<=t:=by
 induction g with
 |nil=>simp
 |step g h1 _ _ _ ih=>simp only[List.length_append,List.length_cons,List.length_nil];omega
 |hand g h1 _ _ _ ih=>simp only[List.length_append,List.length_cons,List.length_nil];omega
def kF:Int->List D.Start->Int
 |k,[]=>k
 |k,x::r=>kF (max k x.K) r
def tF:Int->List D.Start->Int
 |t,[]=>t
 |t,x::r=>tF x.At r
theorem Qqf{x:D.Start}:∀{l:List D.Start} {k:Int},kF k (l++[x])=max (kF k l) x.K
 |[],_=>rfl
 |y::l,k=>Qqf (l:=l) (k:=max k y.K)
theorem QqZ{x:D.Start}:∀{l:List D.Start} {t:Int},tF t (l++[x])=x.At
 |[],_=>rfl
 |y::l,t=>QqZ (l:=l) (t:=y.At)
theorem Qfb{nx:Int}{x:D.Start}:∀{l:List D.Start} {k t:Int},Wj nx k t (l++[x])=(Wj nx k t l &&
  (decide (tF t l<=x.At) && (decide (x.K = -1) || decide (0<=x.K) && decide (kF k l<x.K) && decide (x.K<nx)) && setV x.People))
 |[],k,t=>by
  show(_ && true)=(true && _)
  rw[Bool.and_true,Bool.true_and];rfl
 |y::l,k,t=>by
  rw[List.cons_append,Wj,Qfb (l:=l),Wj,kF,tF]
  simp only[Bool.and_assoc]
theorem QrX{x:Int}(h0:0<=x)(h1:x<=31):setV [x]=true:=by
 unfold setV setF setF;simp;omega
theorem Goes.fit(g:Goes Q st l k t h):kF (-1) l=k - 1/\tF st l=t/\∀nx,k<=nx->Wj nx (-1) st l=true:=by
 induction g with
 |nil=>exact⟨rfl,rfl,fun _ _=>rfl⟩
 |step g h1 h2 h3 h4 ih=>
  obtain⟨i1,i2,i3⟩:=ih
  have hp:=g.pos
  refine⟨by rw[Qqf,i1];dsimp only;omega,QqZ,fun nx hn=>?_⟩
  rw[Qfb,i3 nx Oa,i1,i2]
  grind
 |hand g h1 h2 h3 h4 ih=>
  obtain⟨i1,i2,i3⟩:=ih
  have hp:=g.pos
  refine⟨by rw[Qqf,i1];dsimp only;omega,QqZ,fun nx hn=>?_⟩
  rw[Qfb,i3 nx hn,i1,i2,QrX h3 h4]
  simp[h1]
end
theorem Qva{n:Int}:∀{l:List Int} {k:Int},setF n k l=true↔Asc l/\∀x∈l,0<=x/\x<n/\k<x
 |[],k=>by simp[setF,Asc]
 |y::l,k=>by
  rw[setF]
  simp only[bae,decide_eq_true_eq,Qva (l:=l),Asc,List.pairwise_cons,List.mem_cons,forall_eq_or_imp]
  constructor
  .rintro⟨⟨⟨h1,h2⟩,h3⟩,h4,h5⟩
   exact⟨⟨fun z hz=>(h5 z hz).2.2,h4⟩,⟨h1,h2,h3⟩,fun z hz=>⟨(h5 z hz).1,(h5 z hz).2.1,by have:=(h5 z hz).2.2;omega⟩⟩
  .rintro⟨⟨h1,h2⟩,⟨h3,h4,h5⟩,h6⟩
   exact⟨⟨⟨h3,h4⟩,h5⟩,h2,fun z hz=>⟨(h6 z hz).1,(h6 z hz).2.1,h1 z hz⟩⟩
theorem UB{l:List Int}:setV l=true↔Asc l/\∀x∈l,0<=x/\x<32:=by
 unfold setV;rw[Qva]
 grind
theorem Qvb{c:D.Config}{b:D.Book}{s:D.PolicyStep}{t:Int}:setV (Qbu c b s t)=true:=
 UB.2 ⟨QtG,fun x hx=>by have:=QtH hx;omega⟩
theorem QbJ{l:List Int}{x:Int}(h:Asc l):Asc (Qhr l x)/\∀z,z∈Qhr l x↔z∈l\/z=x:=by
 unfold Qhr
 refine⟨?_,fun z=>?_⟩
 .refine List.pairwise_append.2 ⟨List.Pairwise.filter _ h,List.pairwise_cons.2 ⟨fun a ha=>?_,List.Pairwise.filter _ h⟩,fun a ha b hb=>?_⟩
  .simp_all
  .grind
 .grind
theorem QuL{l:List Int}{x:Int}(h:Asc l)(hx:x∈l):Qhr l x=l:=
 Qec (QbJ h).1 h fun z=>by rw[(QbJ h).2];exact⟨fun g=>g.elim id (fun e=>e ▸ hx),.inl⟩
theorem Qej{p:D.Page}(hd:(dueV p).2=true):p.State=0\/p.State=2:=by
 unfold dueV at hd
 grind
structure QG (Q:Int->D.Start->Prop) (M:Int) (b:D.Book) (p:D.Page):Prop where
 top:M<=8000000000
 id:1<=p.ID/\p.ID<=999999
 pol:0<=p.Policy/\p.Policy<(b.Policies.length:Int)
 start:0<=p.Start/\p.Start<=M - 20000
 goes:∃t,Goes (Q p.Policy) p.Start p.Starts p.Next t p.Hands/\t<=p.Last/\(p.State=0->t<=p.Due)/\(p.State=2->t<=p.Until)
 next:p.Next<=Yv (YX b p)
 state:0<=p.State/\p.State<=4
 by_ : -1<=p.By/\p.By<=31
 last:p.Last<=M
 due:0<=p.Due/\p.Due<=M
 until_:0<=p.Until/\p.Until<=M
 dueO:p.State=0->p.Due+900*(Yv (YX b p) - p.Next)<=M
 untilS:p.State=2->p.Until+900*(Yv (YX b p) - p.Next)<=M
 snoozes:0<=p.Snoozes/\p.Snoozes<=4
 hands:p.Hands<=4
 first:p.Starts=[]->p.State=0/\p.Due=p.Start
 ended:p.State=3->p.Next=Yv (YX b p)
 declined:setV p.Declined=true
 seen:QlP p.Seen=true
section
variable {Q:Int->D.Start->Prop} {M:Int} {b:D.Book} {p:D.Page}
theorem QG.polOK(h:QG Q M b p)(hb:Qy b):Qce b.Teams.length (YX b p):=hb.pol _ (Qi (by have:=h.pol;omega))
theorem Qce.waits{n:Nat}{q:D.Policy}(h:Qce n q):QpL q=true:=by
 unfold QpL
 refine List.all_eq_true.2 fun s hs=>?_
 have:=(h.step s hs).wait
 simp;omega
theorem QW{n lo hi:Int}:inV n lo hi=true↔lo<=n/\n<=hi:=by simp[inV]
theorem QG.len(h:QG Q M b p)(hb:Qy b):p.Starts.length<=13/\0<=p.Next/\0<=p.Hands:=by
 obtain⟨t,h1,_⟩:=h.goes
 have h2:=h1.pos
 have h3:=Yw (h.polOK hb)
 have h4:=h.next
 have h5:=h.hands
 omega
theorem QG.check(h:QG Q M b p)(hb:Qy b):QL b p=true:=by
 obtain⟨t,h1,h2,_⟩:=h.goes
 have h3:=h1.pos
 have h4:=h1.fit
 have h5:=h.len hb
 have g0:=h.top;have g1:=h.id;have g2:=h.pol;have g3:=h.start;have g4:=h.next;have g5:=h.state;have g6:=h.by_;have g7:=h.last;have g8:=h.due;have g9:=h.until_;have g10:=h.snoozes;have g11:=h.hands
 unfold QL QgS farV
 rw[h4.2.2 _ (Int.le_refl _),h.declined,h.seen,(h.polOK hb).waits]
 simp only[Bool.and_true,Bool.true_and,bae,QW,decide_eq_true_eq]
 omega
theorem QG.mono{Q':Int->D.Start->Prop}(h:QG Q M b p)(hq:∀s,Q p.Policy s->Q' p.Policy s):QG Q' M b p:=by
 obtain⟨t,h1,h2⟩:=h.goes
 refine{ h with goes:=⟨t,?_,h2⟩ }
 generalize p.Hands=hh at h1
 generalize p.Next=nn at h1
 generalize p.Starts=ss at h1
 clear h2
 induction h1 with
 |nil=>exact .nil
 |step g a1 a2 a3 a4 ih=>exact .step ih a1 a2 a3 (hq _ a4)
 |hand g a1 a2 a3 a4 ih=>exact .hand ih a1 a2 a3 a4
theorem QqW{n:Nat}{q:D.Policy}(h:Qce n q){k:Int}(hk:0<=k):nth q.Steps (k % (q.Steps.length:Int)).toNat∈q.Steps:=by
 have:=h.len
 refine Qi ?_
 have h1:=Int.emod_nonneg k (b:=(q.Steps.length:Int)) Oa
 have h2:=Int.emod_lt_of_pos k (b:=(q.Steps.length:Int)) Oa
 omega
theorem QG.stepQ_inv{c:D.Config}(h:QG Q M b p)(hb:Qy b)(hd:(dueV p).2=true)(hQ:p.State=0->p.Next<Yv (YX b p)->Q p.Policy ⟨p.Next,p.Due,Qbu c b (Zr b p) p.Due⟩):QG Q M b (stepQ c b p):=by
 obtain⟨t,h1,h2,h3,h4⟩:=h.goes
 have hp:=h1.pos
 have hs:p.State=0\/p.State=2:=Qej hd
 have g0:=h.top;have g3:=h.start;have g7:=h.last;have g8:=h.due;have g9:=h.until_
 have g10:=h.dueO;have g11:=h.untilS;have gn:=h.next
 unfold stepQ
 split
 .rename_i e2
  have e3:=h4 e2
  have hne:p.Starts≠[]:=fun e=>by have:=(h.first e).1;omega
  exact⟨h.top,h.id,h.pol,h.start,⟨t,h1,by dsimp only;omega,fun _=>e3,fun e=>by simp at e⟩,h.next,by dsimp only;omega,h.by_,by dsimp only;omega,g9,g9,fun _=>g11 e2,fun e=>by simp at e,h.snoozes,h.hands,fun e=>absurd e hne,fun e=>by simp at e,h.declined,h.seen⟩
 .rename_i e2
  have e0:p.State=0:=Oa
  have e3:=h3 e0
  have e4:=g10 e0
  split
  .rename_i e5
   have hc:=Yw (h.polOK hb)
   have hne:p.Starts≠[]:=fun e=>by
    grind
   exact⟨h.top,h.id,h.pol,h.start,⟨t,h1,by dsimp only;omega,fun e=>by simp at e,fun e=>by simp at e⟩,h.next,by dsimp only;omega,h.by_,by dsimp only;omega,g8,g9,fun e=>by simp at e,fun e=>by simp at e,h.snoozes,h.hands,fun e=>absurd e hne,fun _=>by show p.Next=Yv (YX b p);omega,h.declined,h.seen⟩
  .rename_i e5
   have hw:=(h.polOK hb).step _ (QqW (h.polOK hb) hp.1)
   have hw':0<=(Zr b p).Wait/\(Zr b p).Wait<=900:=hw.wait
   have hdue:(if Qbu c b (Zr b p) p.Due=[]then p.Due else p.Due+(Zr b p).Wait)<=p.Due+900/\p.Due<=(if Qbu c b (Zr b p) p.Due=[]then p.Due else p.Due+(Zr b p).Wait):=by split<;>omega
   refine⟨h.top,h.id,h.pol,h.start,⟨p.Due,.step h1 e3 (fun e=>?_) Qvb (hQ e0 Oa),by dsimp only;omega,fun _=>hdue.2,fun e=>?_⟩,?_,h.state,h.by_,by dsimp only;omega,?_,g9,fun _=>?_,fun e=>absurd e e2,h.snoozes,h.hands,fun e=>by simp at e,fun e=>?_,by dsimp only;decide,h.seen⟩
   .exact(h.first e).2
   .exact absurd e e2
   .show p.Next+1<=Yv (YX b p);omega
   .dsimp only;omega
   .show(if Qbu c b (Zr b p) p.Due=[]then p.Due else p.Due+(Zr b p).Wait)+900*(Yv (YX b p) - (p.Next+1))<=M
    omega
   .simp_all
theorem QG.answerQ_inv{a:D.Answer}(h:QG Q M b p)(hb:Qy b)(hv:Y0 a=true)(ha:a.At<=M - 20000)(hs:a.Kind=3->a.Arg<=5000)(hseen:p.Seen.contains a.ID=false)(hr:XW p a=0):QG Q M b (Xl p a):=by
 obtain⟨t,h1,h2,h3,h4⟩:=h.goes
 have hp:=h1.pos
 unfold Y0 at hv
 simp only[bae,QW]at hv
 obtain⟨⟨⟨⟨⟨v1,v2⟩,v3⟩,v4⟩,v5⟩,v6⟩:=hv
 unfold XW at hr
 split at hr
 .simp at hr
 rename_i r1
 split at hr
 .simp at hr
 rename_i r2
 split at hr
 .simp at hr
 rename_i r3
 have hw:Z5 p a.At=false:=by cases hb:Z5 p a.At<;>simp_all
 have hla:p.Last<=a.At:=Oa
 have hne:p.Starts≠[]:=fun e=>by
  obtain⟨e1,e2⟩:=h.first e
  have hst:p.Start<=t:=hp.2.2.2
  unfold Z5 dueV at hw
  grind
 have g0:=h.top;have g3:=h.start;have g7:=h.last;have g8:=h.due;have g9:=h.until_
 have g10:=h.dueO;have g11:=h.untilS;have gn:=h.next;have gs:=h.snoozes;have gh:=h.hands;have gst:=h.state
 have hc:=Yw (h.polOK hb)
 have hsn:QlP (p.Seen++[a.ID])=true:=by
  have:=h.seen
  unfold QlP at this |-
  grind
 have hdec:setV (Ug p a)=true:=by
  have hd:=UB.1 h.declined
  unfold Ug
  split
  .rename_i hcal
   refine UB.2 ⟨(QbJ hd.1).1,fun x hx=>?_⟩
   rcases((QbJ hd.1).2 x).1 hx with hx|rfl
   .exact hd.2 x hx
   .have hm:=List.contains_iff_mem.1 hcal
    have hst:=(h1.fit.2.2 _ (Int.le_refl _))
    have hall:∀{nx:Int} {l:List D.Start} {k t:Int},Wj nx k t l=true->∀s∈l,setV s.People=true:=by
     intro nx l
     induction l with
     |nil=>intro k t _ s hs;simp at hs
     |cons y l ih=>
      intro k t hq s hs
      rw[Wj]at hq
      grind
    unfold XP at hm
    rw[if_neg hne]at hm
    have hlen:0<p.Starts.length:=List.length_pos_iff.2 hne
    exact(UB.1 (hall hst _ (Qi Oa))).2 _ hm
  .exact h.declined
 unfold Xl
 split
 .split
  .exact⟨h.top,h.id,h.pol,h.start,⟨t,h1,h2,h3,h4⟩,h.next,h.state,h.by_,h.last,h.due,h.until_,h.dueO,h.untilS,h.snoozes,h.hands,fun e=>absurd e hne,h.ended,h.declined,hsn⟩
  .exact⟨h.top,h.id,h.pol,h.start,⟨t,h1,by dsimp only;omega,fun e=>by simp at e,fun e=>by simp at e⟩,h.next,by dsimp only;omega,v3,by dsimp only;omega,h.due,h.until_,fun e=>by simp at e,fun e=>by simp at e,h.snoozes,h.hands,fun e=>absurd e hne,fun e=>by simp at e,h.declined,hsn⟩
 .split
  .have hdue:(if Uo p a=true/\p.State=0 then a.At else p.Due)=p.Due\/((if Uo p a=true/\p.State=0 then a.At else p.Due)=a.At/\p.State=0):=by
    omega
   refine⟨h.top,h.id,h.pol,h.start,⟨t,h1,by dsimp only;omega,fun e=>?_,h4⟩,h.next,h.state,h.by_,by dsimp only;omega,?_,h.until_,fun e=>?_,h.untilS,h.snoozes,h.hands,fun e=>absurd e hne,h.ended,hdec,hsn⟩
   .grind
   .dsimp only;omega
   .have:=g10 e
    show(if Uo p a=true/\p.State=0 then a.At else p.Due)+900*(Yv (YX b p) - p.Next)<=M
    omega
  .split
   .rename_i k3
    rw[if_pos k3]at v6
    have v6:=QW.1 v6
    have:=hs k3
    exact⟨h.top,h.id,h.pol,h.start,⟨t,h1,by dsimp only;omega,fun e=>by simp at e,fun e=>by dsimp only;omega⟩,h.next,by dsimp only;omega,v3,by dsimp only;omega,h.due,by dsimp only;omega,fun e=>by simp at e,fun _=>by show a.At+a.Arg+900*(Yv (YX b p) - p.Next)<=M;omega,by dsimp only;omega,h.hands,fun e=>absurd e hne,fun e=>by simp at e,h.declined,hsn⟩
   .rename_i k3
    split
    .rename_i k4
     rw[if_neg k3,if_pos k4]at v6
     have v6:=QW.1 v6
     exact⟨h.top,h.id,h.pol,h.start,⟨a.At,.hand h1 Oa hne v6.1 v6.2,by dsimp only;omega,fun e=>by dsimp only;omega,fun e=>by simp at e⟩,h.next,by dsimp only;omega,h.by_,by dsimp only;omega,by dsimp only;omega,h.until_,fun _=>by show a.At+600+900*(Yv (YX b p) - p.Next)<=M;omega,fun e=>by simp at e,h.snoozes,by dsimp only;omega,fun e=>by simp at e,fun e=>by simp at e,by dsimp only;decide,hsn⟩
    .exact⟨h.top,h.id,h.pol,h.start,⟨t,h1,by dsimp only;omega,fun e=>by simp at e,fun e=>by simp at e⟩,h.next,by dsimp only;omega,v3,by dsimp only;omega,h.due,h.until_,fun e=>by simp at e,fun e=>by simp at e,h.snoozes,h.hands,fun e=>absurd e hne,fun e=>by simp at e,h.declined,hsn⟩
def newP(id pol start:Int):D.Page:=D.Page.mk id pol start 0 start 0 (-1) 0 start 0 0 [] [] []
theorem Qqm{id pol start:Int}(hM:M<=8000000000)(hb:Qy b)(h1:1<=id/\id<=999999)(h2:0<=pol/\pol<(b.Policies.length:Int))(h3:0<=start/\start<=M - 20000):QG Q M b (newP id pol start):=by
 have hp:Qce b.Teams.length (YX b (newP id pol start)):=hb.pol _ (Qi (by show pol.toNat<_;omega))
 have hc:=Yw hp
 exact⟨hM,h1,h2,h3,⟨start,.nil,Int.le_refl _,fun _=>Int.le_refl _,fun e=>by simp[newP]at e⟩,by show 0<=_;omega,by simp[newP],by simp[newP],by show start<=_;omega,by show 0<=start/\start<=_;omega,by show(0:Int)<=0/\(0:Int)<=M;omega,fun _=>by show start+900*(_ - 0)<=_;omega,fun e=>by simp[newP]at e,by simp[newP],by simp[newP],fun _=>⟨rfl,rfl⟩,fun e=>by simp[newP]at e,by dsimp only[newP];decide,by dsimp only[newP];decide⟩
def UX(b:D.Book)(p:D.Page):Nat:=if p.State=2 then(Yv (YX b p) - p.Next).toNat+2 else if p.State=0 then(Yv (YX b p) - p.Next).toNat+1 else 0
theorem QsY{c:D.Config}:YX b (stepQ c b p)=YX b p:=by
 unfold stepQ YX
 grind
theorem QcP{c:D.Config}(hd:(dueV p).2=true):UX b (stepQ c b p)<UX b p:=by
 have hs:p.State=0\/p.State=2:=Qej hd
 unfold UX
 rw[QsY]
 unfold stepQ
 grind
theorem Qaf{now:Int}(h:Z5 p now=true):(dueV p).2=true/\(dueV p).1<=now:=by
 unfold Z5 at h;simpa using h
theorem Qir{now:Int}(h:UX b p=0):Z5 p now=false:=by
 unfold UX at h
 unfold Z5 dueV
 grind
theorem QG.stepVis{c:D.Config}(h:QG Q M b p)(hb:Qy b)(hd:(dueV p).2=true):stepV c b p=(stepQ c b p,0):=by
 unfold stepV
 rw[h.check hb,hd,if_neg Ob,if_neg Ob,if_neg (by have:=(h.len hb).1;omega)]
def QiV(Q:Int->D.Start->Prop)(M:Int)(c:D.Config)(b:D.Book):Prop:=∀p,QG Q M b p->p.State=0->p.Next<Yv (YX b p)->Q p.Policy ⟨p.Next,p.Due,Qbu c b (Zr b p) p.Due⟩
theorem QnH{c:D.Config}{now:Int}(hb:Qy b)(hQ:QiV Q M c b):∀(n:Nat) {p:D.Page},QG Q M b p->UX b p<=n->QG Q M b (runN c b now n p).1/\(runN c b now n p).2=0/\Z5 (runN c b now n p).1 now=false
 |0,p,h,hl=>⟨h,rfl,Qir (b:=b) (show UX b p=0 by omega)⟩
 |n+1,p,h,hl=>by
  rw[runN]
  split
  .rename_i hw
   have hd:=Qaf hw
   rw[h.stepVis hb hd.1,if_neg Ob]
   exact QnH hb hQ n (h.stepQ_inv hb hd.1 (hQ p h)) (by have:=QcP (c:=c) (b:=b) hd.1;dsimp only;omega)
  .rename_i hw
   exact⟨h,rfl,by dsimp only;cases hb:Z5 p now<;>simp_all⟩
theorem Qrw(hb:Qy b)(h:QG Q M b p):UX b p<=11:=by
 have hc:=Yw (h.polOK hb)
 have:=(h.len hb).2
 unfold UX
 grind
theorem QbU{c:D.Config}{now:Int}(hb:Qy b)(hQ:QiV Q M c b)(h:QG Q M b p):QG Q M b (runV c b p now).1/\(runV c b p now).2=0/\Z5 (runV c b p now).1 now=false:=by
 unfold runV
 rw[h.check hb,if_neg Ob]
 exact QnH hb hQ 100 h (by have:=Qrw hb h;omega)
theorem Qps{c:D.Config}{now:Int}(hb:Qy b)(hQ:QiV Q M c b):∀(n m:Nat) {p:D.Page},QG Q M b p->UX b p<=n->UX b p<=m->runN c b now n p=runN c b now m p
 |0,0,p,h,h1,h2=>rfl
 |0,m+1,p,h,h1,h2=>by rw[runN,runN,Qir (b:=b) Oa,if_neg Ob]
 |n+1,0,p,h,h1,h2=>by rw[runN,runN,Qir (b:=b) Oa,if_neg Ob]
 |n+1,m+1,p,h,h1,h2=>by
  rw[runN,runN]
  split
  .rename_i hw
   have hd:=Qaf hw
   rw[h.stepVis hb hd.1,if_neg Ob,if_neg Ob]
   have:=QcP (c:=c) (b:=b) hd.1
   exact Qps hb hQ n m (h.stepQ_inv hb hd.1 (hQ p h)) (by dsimp only;omega) (by dsimp only;omega)
  .rfl
theorem Qms{c:D.Config}{a z:Int}(hb:Qy b)(hQ:QiV Q M c b)(haz:a<=z):∀(n:Nat) {p:D.Page},QG Q M b p->UX b p<=n->runN c b z n (runN c b a n p).1=runN c b z n p
 |0,p,h,hl=>rfl
 |n+1,p,h,hl=>by
  by_cases hw:Z5 p a=true
  .have hd:=Qaf hw
   have hz:Z5 p z=true:=by unfold Z5;rw[hd.1];simp;omega
   have hl':=QcP (c:=c) (b:=b) hd.1
   have hi:=h.stepQ_inv hb hd.1 (hQ p h)
   rw[show runN c b a (n+1) p=runN c b a n (stepQ c b p)from by rw[runN,if_pos hw,h.stepVis hb hd.1,if_neg Ob],show runN c b z (n+1) p=runN c b z n (stepQ c b p)from by rw[runN,if_pos hz,h.stepVis hb hd.1,if_neg Ob],<-Qms hb hQ haz n hi Oa]
   have hr:=QnH (now:=a) hb hQ n hi Oa
   have hle:∀(n:Nat) {p:D.Page},QG Q M b p->UX b (runN c b a n p).1<=UX b p:=by
    intro n
    induction n with
    |zero=>intro p _;exact Nat.le_refl _
    |succ n ih=>
     intro p h
     rw[runN]
     split
     .rename_i hw
      have hd:=Qaf hw
      rw[h.stepVis hb hd.1,if_neg Ob]
      exact Nat.le_trans (ih (h.stepQ_inv hb hd.1 (hQ p h))) (Nat.le_of_lt (QcP hd.1))
     .exact Nat.le_refl _
   have:=hle n hi
   exact Qps hb hQ (n+1) n hr.1 Oa Oa
  .rw[show runN c b a (n+1) p=(p,0)from by rw[runN,if_neg hw]]
theorem QgL{c:D.Config}{now:Int}(h:QL b p=true):runV c b p now=runN c b now 100 p:=by unfold runV;rw[h,if_neg Ob]
theorem Qmt{c:D.Config}{a z:Int}(hb:Qy b)(hQ:QiV Q M c b)(haz:a<=z)(h:QG Q M b p):runV c b (runV c b p a).1 z=runV c b p z:=by
 have hr:=QbU (now:=a) hb hQ h
 rw[QgL (hr.1.check hb),QgL (h.check hb),QgL (h.check hb)]
 exact Qms hb hQ haz 100 h (by have:=Qrw hb h;omega)
end
end Go.Proofs.YtlllfgmajglnhaaGreat
