/-
  What functions do, reckoned from their code, and their contracts. Printed by wip/gen/brun.py.
-/
import Derived.Test.YtgokjdfkpnkekaaGreatQRowEditsD
import Derived.Test.YtgokjdfkpnkekaaGreatQRowEditsC
set_option maxRecDepth 100000
set_option linter.unusedVariables false
namespace Go.Proofs.YtgokjdfkpnkekaaGreat
open Go AM IntKind
noncomputable section
abbrev bI0:List Sh:=[kI,.lst .Zone,.lst .Person,.lst .Calendar,.lst .Schedule,.lst .Team,.lst .Policy,.own 101,kI,kI,.own 102,.own 103]
abbrev bI1:List Sh:=[kI,kI,kI,kI,kI,kI,kI,kI,kI,kI,kI,.own 1038025,.own 1038030,.own 1038033]
abbrev bI2:List Sh:=[kI,kI,kI,kI,kI,kI,kI,kI,kI,kI,kI,.own 1033025,.lst .int,.own 1033033]
abbrev bI3:List Sh:=[kI,.nul,.nul,.nul,.nul,.nul,.nul,.nul,kI,kI,.nul,.nul]
variable (fu:Nat)
def Qft(p0:D.Policy)(p1:Int):Option (Int×Int×Bool):=join (Y:=((Int×Unit)×D.Policy×Unit)) (fun((a0,_),a1,_)=>nzc ((a1.Steps.length:Nat):Int) (nzc ((a1.Steps.length:Nat):Int) (some ((Int.tmod a0 ((a1.Steps.length:Nat):Int)),(wrap .i64 (Int.tdiv a0 ((a1.Steps.length:Nat):Int))),true)))) fun J2=>cd (p1<0) (some (0,0,false)) (optc (Qbr fu p0) fun a3=>cd (a3≤p1) (some (0,0,false)) (J2 ((p1,()),p0,())))
theorem Qn5:FO 83 (Qf [.st .Policy,nI] [] [nI,nI,.one .boo] [] [] (Int×Int×Bool) (fun q=>((q.1,q.2.1,q.2.2,()),())) (fun x y=>Qft fu x.1 x.2.1)):=fI fu (.two .go (.two (.join [ni 1,rf 2] [bx 1002 .Policy] .go) .go)) (fun a b=>(a.1,a.2.1,a.2.2.1)) (eC (QgN fu) eN) Tryz.func83
def WL(p0:List Int)(p1:Int):Option (List Int):=Qh (X:=((List Int×Int×Bool×Int×Unit)×List Int×Unit)) (fun L0 ((a1,a2,a3,a4,_),a5,_)=>cd (a4<((a1.length:Nat):Int)) (join (Y:=((List Int×Int×Bool×Int×Unit)×List Int×Unit)) (fun((a6,a7,a8,a9,_),a10,_)=>L0 ((a6,a7,a8,(wrap .i64 (a9+1)),()),a10,())) fun J11=>join (Y:=((List Int×Int×Bool×Int×Unit)×List Int×Unit)) (fun((a12,a13,a14,a15,_),a16,_)=>atc a12 a15 fun a17=>cd (a17≠a13) (atc a12 a15 fun a18=>lec (a16.length+(List.length (a18::[]))) 34359738368 (J11 ((a12,a13,a14,a15,()),(a16++(a18::[])),()))) (J11 ((a12,a13,a14,a15,()),a16,()))) fun J19=>cnd a3 (J19 ((a1,a2,a3,a4,()),a5,())) (atc a1 a4 fun a20=>cd (a2≤a20) (lec (a5.length+(List.length (a2::[]))) 34359738368 (J19 ((a1,a2,true,a4,()),(a5++(a2::[])),()))) (J19 ((a1,a2,a3,a4,()),a5,())))) (join (Y:=(Unit×List Int×Unit)) (fun(_,a21,_)=>some a21) fun J22=>cnd (!a3) (lec (a5.length+(List.length (a2::[]))) 34359738368 (J22 ((),(a5++(a2::[])),()))) (J22 ((),a5,())))) fu ((p0,p1,false,0,()),[],())
theorem QiM:FO 131 (Qf [lI,nI] [] [lI] [] [] (List Int) (fun q=>((q,()),())) (fun x y=>WL fu x.1 x.2.1)):=fI fu (gs 3 (.two (.two .go (.one (.loop [(0,lI),ni 1,(5,.one (.own 1027)),(6,.one .boo),ni 7] [ar 1027 .int] (.two .go (.two (.join [(0,lI),ni 1,(5,.one (.own 1027)),(6,.one .boo),ni 7] [ar 1027 .int] (.one (.two (.join [(0,lI),ni 1,(5,.one (.own 1027)),(6,.one .boo),ni 7] [ar 1027 .int] .go) .go))) .go))))) (.two (.join [(5,.one (.own 1027))] [ar 1027 .int] .go) .go))) (fun a b=>a.1) eN Tryz.func131
def QrM(p0:D.Config)(p1:Int)(p2:Int):Option Bool:=cd (0≤p1) (cd (p1<((p0.Schedules.length:Nat):Int)) (cd (0≤p2) (cd (p2≤8589934592) (optc (Vo fu p0) fun a0=>cd (a0=0) sT sF) sF) sF) sF) sF
theorem QrN:FO 225 (sB [.st .Config,nI,nI] fun x=>QrM fu x.1 x.2.1 x.2.2.1):=fI fu .go (fun a b=>a.1) (eC (QaT fu) eN) Tryz.func225
def QdH(p0:D.Zone)(p1:List D.Transition)(p2:Int):Option Int:=join (Y:=((Int×Unit)×Unit)) (fun((a0,_),_)=>some a0) fun J1=>Qh (X:=((List D.Transition×Int×Int×Int×Unit)×Unit)) (fun L2 ((a3,a4,a5,a6,_),_)=>join (Y:=((List D.Transition×Int×Int×Unit)×Unit)) (fun((a7,a8,a9,_),_)=>atc a7 a9 fun a10=>L2 ((a7,a8,a10.Offset,(wrap .i64 (a9+1)),()),())) fun J11=>cd (a6<((a3.length:Nat):Int)) (atc a3 a6 fun a12=>cd (a12.At≤a4) (J11 ((a3,a4,a6,()),())) (J1 ((a5,()),()))) (J1 ((a5,()),()))) fu ((p1,p2,p0.Offset,0,()),())
theorem Qk5:FO 282 (sI [.st .Zone,.one (.lst .Transition),nI] fun x=>QdH fu x.1 x.2.1 x.2.2.1):=fI fu (gs 2 (.two (.join [ni 7] [] (.two .go (.one (.loop [li 1 .Transition,ni 2,ni 7,ni 8] [] (.two (.join [li 1 .Transition,ni 2,ni 8] [] .go) .go))))) .go)) (fun a b=>a.1) eN Tryz.func282
def QaS(p0:D.Zone)(p1:Int):Option (Int×Int):=optc (X9 fu p0) fun(a0,a1)=>cd (a1≠0) (some (0,8)) (optc (Qak fu p1 0 8589934592) fun a2=>cnd (!a2) (some (0,1)) (optc (QdH fu p0 a0 p1) fun a3=>some (a3,0)))
theorem QiF:FO 254 (Qf [.st .Zone,nI] [] [nI,nI] [] [] (Int×Int) (fun q=>((q.1,q.2,()),())) (fun x y=>QaS fu x.1 x.2.1)):=fI fu .go (fun a b=>(a.1,a.2.1)) (eC (Vn fu) (eC (Qc3 fu) (eC (Qk5 fu) eN))) Tryz.func254
def QiG(fu:Nat)(p0:Int)(p1:Int):Option D.Local:=nzc 86400 (nzc 86400 (some (D.Local.mk (wrap .i64 ((wrap .i64 (Int.tdiv (wrap .i64 ((wrap .i64 (p0+p1))+864000)) 86400)) - 10)) (Int.tmod (wrap .i64 ((wrap .i64 (p0+p1))+864000)) 86400))))
theorem QmI:FO 255 (Qf [nI,nI] [] [.st .Local] [] [] D.Local (fun q=>((q,()),())) (fun x y=>QiG fu x.1 x.2.1)):=fI fu .go (fun a b=>a.1) eN Tryz.func255
def VS(p0:D.Zone)(p1:Int):Option (D.Local×Int):=optc (QaS fu p0 p1) fun(a0,a1)=>cd (a1≠0) (some ((D.Local.mk 0 0),a1)) (optc (QiG fu p1 a0) fun a2=>some (a2,0))
theorem Qa7:FO 227 (Qf [.st .Zone,nI] [] [.st .Local,nI] [] [] (D.Local×Int) (fun q=>((q.1,q.2,()),())) (fun x y=>VS fu x.1 x.2.1)):=fI fu .go (fun a b=>(a.1,a.2.1)) (eC (QiF fu) (eC (QmI fu) eN)) Tryz.func227
def QdJ(p0:D.Local):Option Int:=optc (Qb5 fu p0.Day) fun a0=>some (wrap .i64 ((wrap .i64 (a0*86400))+p0.Second))
theorem Qk8:FO 228 (sI [.st .Local] fun x=>QdJ fu x.1):=fI fu .go (fun a b=>a.1) (eC (Qec fu) eN) Tryz.func228
def Qgi(p0:D.Zone)(p1:Int):Option (Int×Int):=optc (VS fu p0 p1) fun(a0,a1)=>cd (a1≠0) (some (0,a1)) (optc (QdJ fu a0) fun a2=>some (a2,0))
theorem Qk6:FO 179 (Qf [.st .Zone,nI] [] [nI,nI] [] [] (Int×Int) (fun q=>((q.1,q.2,()),())) (fun x y=>Qgi fu x.1 x.2.1)):=fI fu .go (fun a b=>(a.1,a.2.1)) (eC (Qa7 fu) (eC (Qk8 fu) eN)) Tryz.func179
def QdI(p0:List D.Window)(p1:Int):Option Bool:=Qh (X:=((List D.Window×Int×Int×Unit)×Unit)) (fun L0 ((a1,a2,a3,_),_)=>cd (a3<((a1.length:Nat):Int)) (join (Y:=((List D.Window×Int×Int×Unit)×Unit)) (fun((a4,a5,a6,_),_)=>L0 ((a4,a5,(wrap .i64 (a6+1)),()),())) fun J7=>atc a1 a3 fun a8=>cd (a8.From≤a2) (atc a1 a3 fun a9=>cd (a2<a9.To) sT (J7 ((a1,a2,a3,()),()))) (J7 ((a1,a2,a3,()),()))) sF) fu ((p0,p1,0,()),())
theorem Qk7:FO 180 (sB [.one (.lst .Window),nI] fun x=>QdI fu x.1 x.2.1):=fI fu (.two .go (lp [li 0 .Window,ni 1,ni 5] [] (.two .go (.two (.join [li 0 .Window,ni 1,ni 5] [] .go) .go)))) (fun a b=>a.1) eN Tryz.func180
def QjW(p0:D.Zone)(p1:List D.Window)(p2:Int):Option Bool:=optc (Qgi fu p0 p2) fun(a0,a1)=>cd (a1=0) (optc (Qal fu p1) fun a2=>cd (a2=0) (optc (QdI fu p1 a0) fun a3=>cnd a3 sT sF) sF) sF
theorem QmM:FO 134 (sB [.st .Zone,.one (.lst .Window),nI] fun x=>QjW fu x.1 x.2.1 x.2.2.1):=fI fu .go (fun a b=>a.1) (eC (Qc5 fu) (eC (Qk6 fu) (eC (Qk7 fu) eN))) Tryz.func134
def Qfq(p0:D.Zone)(p1:D.Layer):Option Int:=join (Y:=(Unit×Unit)) (fun(_,_)=>some 0) fun J0=>optc (Qbn fu p0) fun a1=>cd (a1≠0) (some 8) (cd (p1.Start.Day<1) (some 8) (cd (100000<p1.Start.Day) (some 8) (cd (p1.Start.Second<0) (some 8) (cd (86400≤p1.Start.Second) (some 8) (cd (p1.Unit<0) (some 8) (cd (2<p1.Unit) (some 8) (cd (p1.Every<1) (some 8) (cd (400<p1.Every) (some 8) (cd (((p1.Members.length:Nat):Int)=0) (some 8) (J0 ((),())))))))))))
theorem QmS:FO 326 (sI [.st .Zone,.st .Layer] fun x=>Qfq fu x.1 x.2.1):=fI fu (.two .go (.two (.join [] [] .go) .go)) (fun a b=>a.1) (eC (QgJ fu) eN) Tryz.func326
def Qfo(p0:Int):Option Bool:=optc (Qak fu p0 (-2) 99422) fun a0=>some a0
theorem QmL:FO 340 (sB [nI] fun x=>Qfo fu x.1):=fI fu .go (fun a b=>a.1) (eC (Qc3 fu) eN) Tryz.func340
def Qbo(p0:D.Zone)(p1:D.Local):Option (Int×Int):=optc (X9 fu p0) fun(a0,a1)=>cd (a1≠0) (some (0,8)) (optc (Qak fu p1.Second 0 86399) fun a2=>cnd (!a2) (some (0,1)) (cd (p1.Day<(-2)) (some (0,0)) (optc (Qfo fu p1.Day) fun a3=>cnd (!a3) (some (0,10)) (Qh (X:=((List D.Transition×Int×Unit)×D.Zone×D.Local×Unit)) (fun L4 ((a5,a6,_),a7,a8,_)=>cd (a6<((a5.length:Nat):Int)) (join (Y:=((List D.Transition×Int×Int×Int×Int×Unit)×D.Zone×D.Local×Unit)) (fun((a9,a10,a11,a12,a13,_),a14,a15,_)=>join (Y:=((List D.Transition×Int×Int×Int×Int×Unit)×D.Zone×D.Local×Unit)) (fun((a16,a17,a18,a19,a20,_),a21,a22,_)=>cd ((max a19 (wrap .i64 ((wrap .i64 ((wrap .i64 (a22.Day*86400))+a22.Second)) - a18)))<a20) (some ((max a19 (wrap .i64 ((wrap .i64 ((wrap .i64 (a22.Day*86400))+a22.Second)) - a18))),0)) (L4 ((a16,(wrap .i64 (a17+1)),()),a21,a22,()))) fun J23=>cd ((wrap .i64 (a10+1))<((a9.length:Nat):Int)) (atc a9 (wrap .i64 (a10+1)) fun a24=>J23 ((a9,a10,a11,a12,a24.At,()),a14,a15,())) (J23 ((a9,a10,a11,a12,a13,()),a14,a15,()))) fun J25=>cd (0≤a6) (atc a5 a6 fun a26=>atc a5 a6 fun a27=>J25 ((a5,a6,a26.Offset,a27.At,8589934593,()),a7,a8,())) (J25 ((a5,a6,a7.Offset,0,8589934593,()),a7,a8,()))) (some (0,10))) fu ((a0,(-1),()),p0,p1,())))))
theorem QgK:FO 334 (Qf [.st .Zone,.st .Local] [] [nI,nI] [] [] (Int×Int) (fun q=>((q.1,q.2,()),())) (fun x y=>Qbo fu x.1 x.2.1)):=fI fu (gs 6 (lp [rf 2,rf 3,li 6 .Transition,ni 8] [bx 1002 .Zone,bx 1003 .Local] (.two .go (.two (.one (.two .go (.two (.join [rf 2,rf 3,li 6 .Transition,ni 8,ni 9,ni 10,ni 11] [bx 1002 .Zone,bx 1003 .Local] .go) (.two (.join [rf 2,rf 3,li 6 .Transition,ni 8,ni 9,ni 10,ni 11] [bx 1002 .Zone,bx 1003 .Local] .go) .go)))) .go)))) (fun a b=>(a.1,a.2.1)) (eC (Vn fu) (eC (Qc3 fu) (eC (QmL fu) eN))) Tryz.func334
def QaU(p0:D.Zone)(p1:D.Layer)(p2:Int):Option (Int×Bool):=cd (p1.Unit=0) (optc (Qbo fu p0 p1.Start) fun(a0,a1)=>cd (a1=0) (cd ((wrap .i64 (a0+(wrap .i64 ((wrap .i64 (p2*p1.Every))*3600))))≤8589934592) (some ((wrap .i64 (a0+(wrap .i64 ((wrap .i64 (p2*p1.Every))*3600)))),true)) (some ((wrap .i64 (a0+(wrap .i64 ((wrap .i64 (p2*p1.Every))*3600)))),false))) (some ((wrap .i64 (a0+(wrap .i64 ((wrap .i64 (p2*p1.Every))*3600)))),false))) (join (Y:=((Int×Unit)×D.Zone×D.Layer×Unit)) (fun((a2,_),a3,a4,_)=>optc (Qbo fu a3 (D.Local.mk (wrap .i64 (a4.Start.Day+a2)) a4.Start.Second)) fun(a5,a6)=>some (a5,(decide (a6=0)))) fun J7=>cd (p1.Unit=2) (J7 (((wrap .i64 ((wrap .i64 (p2*p1.Every))*7)),()),p0,p1,())) (J7 (((wrap .i64 (p2*p1.Every)),()),p0,p1,())))
theorem QiJ:FO 335 (Qf [.st .Zone,.st .Layer,nI] [] [nI,.one .boo] [] [] (Int×Bool) (fun q=>((q.1,q.2,()),())) (fun x y=>QaU fu x.1 x.2.1 x.2.2.1)):=fI fu (gs 3 (.two (.join [rf 3,rf 4,ni 11] [bx 1003 .Zone,bx 1004 .Layer] .go) .go)) (fun a b=>(a.1,a.2.1)) (eC (QgK fu) eN) Tryz.func335
def Qfr(p0:D.Zone)(p1:D.Layer)(p2:Int):Option Int:=cd (p1.Unit=0) (join (Y:=((Int×Unit)×Unit)) (fun((a0,_),_)=>some a0) fun J1=>optc (Qbo fu p0 p1.Start) fun(a2,a3)=>cd (a3=0) (cd (a2≤p2) (nzc (wrap .i64 (3600*p1.Every)) (J1 (((wrap .i64 (Int.tdiv (wrap .i64 (p2 - a2)) (wrap .i64 (3600*p1.Every)))),()),()))) (J1 (((-1),()),()))) (J1 (((-1),()),()))) (optc (VS fu p0 p2) fun(a4,a5)=>join (Y:=((Int×Int×Unit)×D.Zone×D.Layer×D.Local×Unit)) (fun((a6,a7,_),a8,a9,a10,_)=>join (Y:=((Int×Unit)×Unit)) (fun((a11,_),_)=>some a11) fun J12=>nzc a7 (Qh (X:=((Int×Int×Unit)×D.Zone×D.Layer×Unit)) (fun L13 ((a14,a15,_),a16,a17,_)=>cd (0≤a15) (join (Y:=((Int×Int×Unit)×D.Zone×D.Layer×Unit)) (fun((a18,a19,_),a20,a21,_)=>L13 ((a18,(wrap .i64 (a19 - 1)),()),a20,a21,())) fun J22=>optc (QaU fu a16 a17 a15) fun(a23,a24)=>cnd a24 (cd (a23≤a14) (J12 ((a15,()),())) (J22 ((a14,a15,()),a16,a17,()))) (J22 ((a14,a15,()),a16,a17,()))) (J12 ((a15,()),()))) fu ((a6,(wrap .i64 (Int.tdiv (max (wrap .i64 ((wrap .i64 (a10.Day+2)) - a9.Start.Day)) 0) a7)),()),a8,a9,()))) fun J25=>cd (p1.Unit=2) (J25 ((p2,(wrap .i64 (p1.Every*7)),()),p0,p1,a4,())) (J25 ((p2,p1.Every,()),p0,p1,a4,())))
theorem QmU:FO 327 (sI [.st .Zone,.st .Layer,nI] fun x=>Qfr fu x.1 x.2.1 x.2.2.1):=fI fu (gs 2 (.two (.two .go (.two (.two (.join [ni 7] [] .go) .go) .go)) (gs 2 (.two (.join [ni 2,rf 3,rf 4,rf 10,ni 12] [bx 1003 .Zone,bx 1004 .Layer,bx 1010 .Local] .go) (.two (.join [ni 7] [] (.two .go (.one (.loop [ni 2,rf 3,rf 4,ni 7] [bx 1003 .Zone,bx 1004 .Layer] (.two .go (.two (.join [ni 2,rf 3,rf 4,ni 7] [bx 1003 .Zone,bx 1004 .Layer] .go) .go)))))) .go))))) (fun a b=>a.1) (eC (Qa7 fu) (eC (QgK fu) (eC (QiJ fu) eN))) Tryz.func327
def Qc8(p0:D.Zone)(p1:D.Layer)(p2:Int):Option (Int×Int):=optc (Qfq fu p0 p1) fun a0=>cd (a0≠0) (some (0,8)) (join (Y:=((Int×Unit)×D.Zone×D.Layer×Unit)) (fun((a1,_),a2,a3,_)=>optc (Qfr fu a2 a3 a1) fun a4=>some (a4,0)) fun J5=>cd (p2<0) (some (0,1)) (cd (8589934592<p2) (some (0,1)) (J5 ((p2,()),p0,p1,()))))
theorem QmT:FO 318 (Qf [.st .Zone,.st .Layer,nI] [] [nI,nI] [] [] (Int×Int) (fun q=>((q.1,q.2,()),())) (fun x y=>Qc8 fu x.1 x.2.1 x.2.2.1)):=fI fu (gs 2 (.two (.join [ni 2,rf 3,rf 4] [bx 1003 .Zone,bx 1004 .Layer] .go) .go)) (fun a b=>(a.1,a.2.1)) (eC (QmS fu) (eC (QmU fu) eN)) Tryz.func318
def Qhn(p0:D.Config)(p1:D.Layer)(p2:Int):Option (Int×Bool):=atc p0.Zones p1.Zone fun a0=>optc (Qc8 fu a0 p1 p2) fun(a1,a2)=>join (Y:=((Int×Int×Unit)×D.Config×D.Layer×Unit)) (fun((a3,a4,_),a5,a6,_)=>cd (a6.Mode=0) (some (a4,true)) (atc a5.Calendars a6.Calendar fun a7=>atc a5.Zones a7.Zone fun a8=>optc (VS fu a8 a3) fun(a9,a10)=>Qh (X:=((Int×Bool×Int×Unit)×D.Layer×D.Calendar×D.Local×Unit)) (fun L11 ((a12,a13,a14,_),a15,a16,a17,_)=>cd (a14<((a16.Days.length:Nat):Int)) (join (Y:=((Int×Bool×Int×Unit)×D.Layer×D.Calendar×D.Local×Unit)) (fun((a18,a19,a20,_),a21,a22,a23,_)=>L11 ((a18,a19,(wrap .i64 (a20+1)),()),a21,a22,a23,())) fun J24=>cnd a13 (J24 ((a12,true,a14,()),a15,a16,a17,())) (atc a16.Days a14 fun a25=>cd (a25=a17.Day) (J24 ((a12,true,a14,()),a15,a16,a17,())) (J24 ((a12,false,a14,()),a15,a16,a17,())))) (some (a12,(decide (a13=(decide (a15.Mode=2))))))) fu ((a4,false,0,()),a6,a7,a9,()))) fun J26=>cd (a2≠0) (some (0,false)) (cd (a1<0) (some (0,false)) (cd (0<((p1.Windows.length:Nat):Int)) (optc (QjW fu a0 p1.Windows p2) fun a27=>cnd a27 (J26 ((p2,a1,()),p0,p1,())) (some (0,false))) (J26 ((p2,a1,()),p0,p1,()))))
theorem Qn0:FO 304 (Qf [.st .Config,.st .Layer,nI] [] [nI,.one .boo] [] [] (Int×Bool) (fun q=>((q.1,q.2,()),())) (fun x y=>Qhn fu x.1 x.2.1 x.2.2.1)):=fI fu (gs 3 (.two (.join [ni 2,rf 3,rf 4,ni 9] [bx 1003 .Config,bx 1004 .Layer] .go) (gs 4 (lp [rf 4,ni 9,rf 11,rf 12,(14,.one .boo),ni 15] [bx 1004 .Layer,bx 1011 .Calendar,bx 1012 .Local] (.two .go (.two (.join [rf 4,ni 9,rf 11,rf 12,(14,.one .boo),ni 15] [bx 1004 .Layer,bx 1011 .Calendar,bx 1012 .Local] .go) .go)))))) (fun a b=>(a.1,a.2.1)) (eC (QmM fu) (eC (Qa7 fu) (eC (QmT fu) eN))) Tryz.func304
def QiK(p0:D.Config)(p1:D.Layer)(p2:Int):Option Int:=optc (Qhn fu p0 p1 p2) fun(a0,a1)=>cnd (!a1) (some (-1)) (nzc ((p1.Members.length:Nat):Int) (atc p1.Members (Int.tmod a0 ((p1.Members.length:Nat):Int)) fun a2=>some a2))
theorem QpL:FO 280 (sI [.st .Config,.st .Layer,nI] fun x=>QiK fu x.1 x.2.1 x.2.2.1):=fI fu .go (fun a b=>a.1) (eC (Qn0 fu) eN) Tryz.func280
def Qho(p0:D.Schedule)(p1:Int)(p2:Int):Option Bool:=Qh (X:=(P3×D.Schedule×Unit)) (fun L0 ((a1,a2,a3,_),a4,_)=>cd (a3<((a4.Edits.length:Nat):Int)) (join (Y:=(P3×D.Schedule×Unit)) (fun((a5,a6,a7,_),a8,_)=>L0 ((a5,a6,(wrap .i64 (a7+1)),()),a8,())) fun J9=>atc a4.Edits a3 fun a10=>cd (a10.Kind=0) (cd (a10.A=a1) (cd (a10.From≤a2) (cd (a2<a10.To) sT (J9 ((a1,a2,a3,()),a4,()))) (J9 ((a1,a2,a3,()),a4,()))) (J9 ((a1,a2,a3,()),a4,()))) (J9 ((a1,a2,a3,()),a4,()))) sF) fu ((p1,p2,0,()),p0,())
theorem Qn1:FO 281 (sB [.st .Schedule,nI,nI] fun x=>Qho fu x.1 x.2.1 x.2.2.1):=fI fu (.two .go (lp [ni 1,ni 2,rf 3,ni 7] [bx 1003 .Schedule] (.two .go (.two (.join [ni 1,ni 2,rf 3,ni 7] [bx 1003 .Schedule] .go) .go)))) (fun a b=>a.1) eN Tryz.func281
def Qla(p0:D.Config)(p1:Int)(p2:Int):Option (Int×Int):=atc p0.Schedules p1 fun a0=>Qh (X:=((Int×Int×Unit)×D.Config×D.Schedule×Unit)) (fun L1 ((a2,a3,_),a4,a5,_)=>cd (0≤a3) (join (Y:=((Int×Int×Unit)×D.Config×D.Schedule×Unit)) (fun((a6,a7,_),a8,a9,_)=>L1 ((a6,(wrap .i64 (a7 - 1)),()),a8,a9,())) fun J10=>atc a5.Layers a3 fun a11=>optc (QiK fu a4 a11 a2) fun a12=>cd (0≤a12) (optc (Qho fu a5 a12 a2) fun a13=>cnd a13 (J10 ((a2,a3,()),a4,a5,())) (some (a3,a12))) (J10 ((a2,a3,()),a4,a5,()))) (some ((-1),(-1)))) fu ((p2,(wrap .i64 (((a0.Layers.length:Nat):Int) - 1)),()),p0,a0,())
theorem QpM:FO 252 (Qf [.st .Config,nI,nI] [] [nI,nI] [] [] (Int×Int) (fun q=>((q.1,q.2,()),())) (fun x y=>Qla fu x.1 x.2.1 x.2.2.1)):=fI fu (gs 2 (lp [ni 2,rf 3,rf 8,ni 9] [bx 1003 .Config,bx 1008 .Schedule] (.two .go (.two (.join [ni 2,rf 3,rf 8,ni 9] [bx 1003 .Config,bx 1008 .Schedule] .go) .go)))) (fun a b=>(a.1,a.2.1)) (eC (QpL fu) (eC (Qn1 fu) eN)) Tryz.func252
def Qhp(p0:List D.Edit)(p1:Int)(p2:Int):Option Int:=Qh (X:=((List D.Edit×Int×Int×Int×Unit)×Unit)) (fun L0 ((a1,a2,a3,a4,_),_)=>cd (a4<((a1.length:Nat):Int)) (join (Y:=((List D.Edit×Int×Int×Int×Unit)×Unit)) (fun((a5,a6,a7,a8,_),_)=>L0 ((a5,a6,a7,(wrap .i64 (a8+1)),()),())) fun J9=>atc a1 a4 fun a10=>cd (a3<a10.From) (J9 ((a1,a2,a3,a4,()),())) (cd (a10.To≤a3) (J9 ((a1,a2,a3,a4,()),())) (cd (a10.Kind=1) (J9 ((a1,a10.A,a3,a4,()),())) (cd (a10.Kind=2) (cd (a2=a10.A) (J9 ((a1,a10.B,a3,a4,()),())) (cd (a10.Kind=2) (cd (a2=a10.B) (J9 ((a1,a10.A,a3,a4,()),())) (J9 ((a1,a2,a3,a4,()),()))) (J9 ((a1,a2,a3,a4,()),())))) (cd (a10.Kind=2) (cd (a2=a10.B) (J9 ((a1,a10.A,a3,a4,()),())) (J9 ((a1,a2,a3,a4,()),()))) (J9 ((a1,a2,a3,a4,()),()))))))) (some a2)) fu ((p0,p1,p2,0,()),())
theorem Qn2:FO 253 (sI [.one (.lst .Edit),nI,nI] fun x=>Qhp fu x.1 x.2.1 x.2.2.1):=fI fu (.two .go (lp [li 0 .Edit,ni 1,ni 2,ni 7] [] (.two .go (.two (.join [li 0 .Edit,ni 1,ni 2,ni 7] [] .go) .go)))) (fun a b=>a.1) eN Tryz.func253
def Qn3(p0:D.Config)(p1:Int)(p2:Int):Option Int:=optc (Qla fu p0 p1 p2) fun(a0,a1)=>atc p0.Schedules p1 fun a2=>optc (Qhp fu a2.Edits a1 p2) fun a3=>some a3
theorem QpN:FO 226 (sI [.st .Config,nI,nI] fun x=>Qn3 fu x.1 x.2.1 x.2.2.1):=fI fu .go (fun a b=>a.1) (eC (QpM fu) (eC (Qn2 fu) eN)) Tryz.func226
def Qlb(p0:D.Config)(p1:Int)(p2:Int):Option Int:=optc (QrM fu p0 p1 p2) fun a0=>cnd (!a0) (some (-1)) (optc (Qn3 fu p0 p1 p2) fun a1=>some a1)
theorem QpO:FO 177 (sI [.st .Config,nI,nI] fun x=>Qlb fu x.1 x.2.1 x.2.2.1):=fI fu .go (fun a b=>a.1) (eC (QrN fu) (eC (QpN fu) eN)) Tryz.func177
def QiL(p0:D.Config)(p1:Int)(p2:Int):Option Int:=optc (Qlb fu p0 p1 p2) fun a0=>some a0
theorem QpP:FO 132 (sI [.st .Config,nI,nI] fun x=>QiL fu x.1 x.2.1 x.2.2.1):=fI fu .go (fun a b=>a.1) (eC (QpO fu) eN) Tryz.func132
def Qbs(p0:D.Config)(p1:D.Book)(p2:List D.Target)(p3:Int):Option (List Int):=Qh (X:=((List D.Target×Int×List Int×Int×Unit)×D.Config×D.Book×Unit)) (fun L0 ((a1,a2,a3,a4,_),a5,a6,_)=>cd (a4<((a1.length:Nat):Int)) (join (Y:=((List D.Target×Int×List Int×Int×Unit)×D.Config×D.Book×Unit)) (fun((a7,a8,a9,a10,_),a11,a12,_)=>L0 ((a7,a8,a9,(wrap .i64 (a10+1)),()),a11,a12,())) fun J13=>atc a1 a4 fun a14=>cd (a14.Kind=0) (optc (Zf fu a14.Index 0 (wrap .i64 (((a5.People.length:Nat):Int) - 1))) fun a15=>cnd a15 (optc (WL fu a3 a14.Index) fun a16=>J13 ((a1,a2,a16,a4,()),a5,a6,())) (cd (a14.Kind=1) (optc (Zf fu a14.Index 0 (wrap .i64 (((a5.Schedules.length:Nat):Int) - 1))) fun a17=>cnd a17 (optc (QiL fu a5 a14.Index a2) fun a18=>cd (0≤a18) (optc (WL fu a3 a18) fun a19=>J13 ((a1,a2,a19,a4,()),a5,a6,())) (J13 ((a1,a2,a3,a4,()),a5,a6,()))) (cd (a14.Kind=2) (optc (Zf fu a14.Index 0 (wrap .i64 (((a6.Teams.length:Nat):Int) - 1))) fun a20=>cnd a20 (Qh (X:=((List D.Target×Int×List Int×Int×Int×Unit)×D.Config×D.Book×D.Target×Unit)) (fun L21 ((a22,a23,a24,a25,a26,_),a27,a28,a29,_)=>atc a28.Teams a29.Index fun a30=>cd (a26<((a30.Members.length:Nat):Int)) (join (Y:=((List D.Target×Int×List Int×Int×Int×Unit)×D.Config×D.Book×D.Target×Unit)) (fun((a31,a32,a33,a34,a35,_),a36,a37,a38,_)=>L21 ((a31,a32,a33,a34,(wrap .i64 (a35+1)),()),a36,a37,a38,())) fun J39=>atc a28.Teams a29.Index fun a40=>atc a40.Members a26 fun a41=>optc (Zf fu a41 0 (wrap .i64 (((a27.People.length:Nat):Int) - 1))) fun a42=>cnd a42 (atc a28.Teams a29.Index fun a43=>atc a43.Members a26 fun a44=>optc (WL fu a24 a44) fun a45=>J39 ((a22,a23,a45,a25,a26,()),a27,a28,a29,())) (J39 ((a22,a23,a24,a25,a26,()),a27,a28,a29,()))) (J13 ((a22,a23,a24,a25,()),a27,a28,()))) fu ((a1,a2,a3,a4,0,()),a5,a6,a14,())) (J13 ((a1,a2,a3,a4,()),a5,a6,()))) (J13 ((a1,a2,a3,a4,()),a5,a6,())))) (cd (a14.Kind=2) (optc (Zf fu a14.Index 0 (wrap .i64 (((a6.Teams.length:Nat):Int) - 1))) fun a46=>cnd a46 (Qh (X:=((List D.Target×Int×List Int×Int×Int×Unit)×D.Config×D.Book×D.Target×Unit)) (fun L47 ((a48,a49,a50,a51,a52,_),a53,a54,a55,_)=>atc a54.Teams a55.Index fun a56=>cd (a52<((a56.Members.length:Nat):Int)) (join (Y:=((List D.Target×Int×List Int×Int×Int×Unit)×D.Config×D.Book×D.Target×Unit)) (fun((a57,a58,a59,a60,a61,_),a62,a63,a64,_)=>L47 ((a57,a58,a59,a60,(wrap .i64 (a61+1)),()),a62,a63,a64,())) fun J65=>atc a54.Teams a55.Index fun a66=>atc a66.Members a52 fun a67=>optc (Zf fu a67 0 (wrap .i64 (((a53.People.length:Nat):Int) - 1))) fun a68=>cnd a68 (atc a54.Teams a55.Index fun a69=>atc a69.Members a52 fun a70=>optc (WL fu a50 a70) fun a71=>J65 ((a48,a49,a71,a51,a52,()),a53,a54,a55,())) (J65 ((a48,a49,a50,a51,a52,()),a53,a54,a55,()))) (J13 ((a48,a49,a50,a51,()),a53,a54,()))) fu ((a1,a2,a3,a4,0,()),a5,a6,a14,())) (J13 ((a1,a2,a3,a4,()),a5,a6,()))) (J13 ((a1,a2,a3,a4,()),a5,a6,()))))) (cd (a14.Kind=1) (optc (Zf fu a14.Index 0 (wrap .i64 (((a5.Schedules.length:Nat):Int) - 1))) fun a72=>cnd a72 (optc (QiL fu a5 a14.Index a2) fun a73=>cd (0≤a73) (optc (WL fu a3 a73) fun a74=>J13 ((a1,a2,a74,a4,()),a5,a6,())) (J13 ((a1,a2,a3,a4,()),a5,a6,()))) (cd (a14.Kind=2) (optc (Zf fu a14.Index 0 (wrap .i64 (((a6.Teams.length:Nat):Int) - 1))) fun a75=>cnd a75 (Qh (X:=((List D.Target×Int×List Int×Int×Int×Unit)×D.Config×D.Book×D.Target×Unit)) (fun L76 ((a77,a78,a79,a80,a81,_),a82,a83,a84,_)=>atc a83.Teams a84.Index fun a85=>cd (a81<((a85.Members.length:Nat):Int)) (join (Y:=((List D.Target×Int×List Int×Int×Int×Unit)×D.Config×D.Book×D.Target×Unit)) (fun((a86,a87,a88,a89,a90,_),a91,a92,a93,_)=>L76 ((a86,a87,a88,a89,(wrap .i64 (a90+1)),()),a91,a92,a93,())) fun J94=>atc a83.Teams a84.Index fun a95=>atc a95.Members a81 fun a96=>optc (Zf fu a96 0 (wrap .i64 (((a82.People.length:Nat):Int) - 1))) fun a97=>cnd a97 (atc a83.Teams a84.Index fun a98=>atc a98.Members a81 fun a99=>optc (WL fu a79 a99) fun a100=>J94 ((a77,a78,a100,a80,a81,()),a82,a83,a84,())) (J94 ((a77,a78,a79,a80,a81,()),a82,a83,a84,()))) (J13 ((a77,a78,a79,a80,()),a82,a83,()))) fu ((a1,a2,a3,a4,0,()),a5,a6,a14,())) (J13 ((a1,a2,a3,a4,()),a5,a6,()))) (J13 ((a1,a2,a3,a4,()),a5,a6,())))) (cd (a14.Kind=2) (optc (Zf fu a14.Index 0 (wrap .i64 (((a6.Teams.length:Nat):Int) - 1))) fun a101=>cnd a101 (Qh (X:=((List D.Target×Int×List Int×Int×Int×Unit)×D.Config×D.Book×D.Target×Unit)) (fun L102 ((a103,a104,a105,a106,a107,_),a108,a109,a110,_)=>atc a109.Teams a110.Index fun a111=>cd (a107<((a111.Members.length:Nat):Int)) (join (Y:=((List D.Target×Int×List Int×Int×Int×Unit)×D.Config×D.Book×D.Target×Unit)) (fun((a112,a113,a114,a115,a116,_),a117,a118,a119,_)=>L102 ((a112,a113,a114,a115,(wrap .i64 (a116+1)),()),a117,a118,a119,())) fun J120=>atc a109.Teams a110.Index fun a121=>atc a121.Members a107 fun a122=>optc (Zf fu a122 0 (wrap .i64 (((a108.People.length:Nat):Int) - 1))) fun a123=>cnd a123 (atc a109.Teams a110.Index fun a124=>atc a124.Members a107 fun a125=>optc (WL fu a105 a125) fun a126=>J120 ((a103,a104,a126,a106,a107,()),a108,a109,a110,())) (J120 ((a103,a104,a105,a106,a107,()),a108,a109,a110,()))) (J13 ((a103,a104,a105,a106,()),a108,a109,()))) fu ((a1,a2,a3,a4,0,()),a5,a6,a14,())) (J13 ((a1,a2,a3,a4,()),a5,a6,()))) (J13 ((a1,a2,a3,a4,()),a5,a6,()))))) (some a3)) fu ((p2,p3,[],0,()),p0,p1,())
theorem Qld:FO 84 (Qf [.st .Config,.st .Book,.one (.lst .Target),nI] [] [lI] [] [] (List Int) (fun q=>((q,()),())) (fun x y=>Qbs fu x.1 x.2.1 x.2.2.1 x.2.2.2.1)):=fI fu (gs 2 (lp [li 2 .Target,ni 3,rf 4,rf 5,(9,lI),ni 10] [bx 1004 .Config,bx 1005 .Book] (.two .go (.two (.join [li 2 .Target,ni 3,rf 4,rf 5,(9,lI),ni 10] [bx 1004 .Config,bx 1005 .Book] (.one (.two .go (.one (gs 5 (lp [li 2 .Target,ni 3,rf 4,rf 5,(9,lI),ni 10,rf 11,ni 13] [bx 1004 .Config,bx 1005 .Book,bx 1011 .Target] (.two .go (.two (.join [li 2 .Target,ni 3,rf 4,rf 5,(9,lI),ni 10,rf 11,ni 13] [bx 1004 .Config,bx 1005 .Book,bx 1011 .Target] .go) .go)))))))) .go)))) (fun a b=>a.1) (eC (Vq fu) (eC (QiM fu) (eC (QpP fu) eN))) Tryz.func84
def QiH(fu:Nat)(p0:Int)(p1:Int):Option Bool:=cd (0≤p0) (cd (p0≤8589934592) (cd (p0≤p1) (cd (p1≤8589934592) (cd ((wrap .i64 (p1 - p0))≤34560000) sT sF) sF) sF) sF) sF
theorem QmN:FO 178 (sB [nI,nI] fun x=>QiH fu x.1 x.2.1):=fI fu .go (fun a b=>a.1) eN Tryz.func178
def Qfs(p0:D.Config)(p1:Int)(p2:Int)(p3:Int):Option Int:=join (Y:=(Unit×Unit)) (fun(_,_)=>some 0) fun J0=>optc (Vo fu p0) fun a1=>cd (a1≠0) (some 8) (cd (p1<0) (some 3) (cd (((p0.People.length:Nat):Int)≤p1) (some 3) (optc (QiH fu p2 p3) fun a2=>cnd (!a2) (some 1) (J0 ((),())))))
theorem QmV:FO 133 (sI [.st .Config,nI,nI,nI] fun x=>Qfs fu x.1 x.2.1 x.2.2.1 x.2.2.2.1):=fI fu (.two .go (.two (.join [] [] .go) .go)) (fun a b=>a.1) (eC (QaT fu) (eC (QmN fu) eN)) Tryz.func133
def UT(p0:D.Config)(p1:Int)(p2:Int)(p3:Bool):Option Bool:=optc (Qfs fu p0 p1 p2 p2) fun a0=>cd (a0≠0) sF (atc p0.People p1 fun a1=>atc p0.Zones a1.Zone fun a2=>optc (QjW fu a2 a1.Quiet p2) fun a3=>cnd a3 (cnd p3 (cnd a1.Consent sT sF) sF) sT)
theorem Qg3:FO 85 (sB [.st .Config,nI,nI,.one .boo] fun x=>UT fu x.1 x.2.1 x.2.2.1 x.2.2.2.1):=fI fu .go (fun a b=>a.1) (eC (QmV fu) (eC (QmM fu) eN)) Tryz.func85
def Qhr(p0:D.Config)(p1:D.Book)(p2:D.Page):Option (D.Page×Int):=optc (Vr fu p1 p2) fun a0=>cnd (!a0) (some ((D.Page.mk 0 0 0 0 0 0 0 0 0 0 0 [] [] []),8)) (optc (QeK fu p2) fun(a1,a2)=>cnd (!a2) (some ((D.Page.mk 0 0 0 0 0 0 0 0 0 0 0 [] [] []),9)) (cd (200≤((p2.Starts.length:Nat):Int)) (some ((D.Page.mk 0 0 0 0 0 0 0 0 0 0 0 [] [] []),5)) (optc (UV fu p2) fun a3=>cd (p2.State=2) (some ((D.Page.mk a3.ID a3.Policy a3.Start a3.Next a1 0 a3.By a3.Until (max a1 p2.Last) a3.Snoozes a3.Hands a3.Starts a3.Declined a3.Seen),0)) (atc p1.Policies p2.Policy fun a4=>optc (Qft fu a4 p2.Next) fun(a5,a6,a7)=>cnd (!a7) (some ((D.Page.mk a3.ID a3.Policy a3.Start a3.Next a3.Due 3 a3.By a3.Until (max a1 p2.Last) a3.Snoozes a3.Hands a3.Starts a3.Declined a3.Seen),0)) (atc a4.Steps a5 fun a8=>optc (Qbs fu p0 p1 a8.Targets a1) fun a9=>Qh (X:=((Int×Int×List Int×Int×Unit)×D.Config×D.Page×D.Page×P11×D.Policy×(Int×Int×Unit)×List D.Start×List Int×List Int×List Int×Unit)) (fun L10 ((a11,a12,a13,a14,_),a15,a16,a17,(a18,a19,a20,a21,a22,a23,a24,a25,a26,a27,a28,_),a29,(a30,a31,_),a32,a33,a34,a35,_)=>cd (a14<((a13.length:Nat):Int)) (join (Y:=((Int×Int×List Int×Int×Unit)×D.Config×D.Page×D.Page×P11×D.Policy×(Int×Int×Unit)×List D.Start×List Int×List Int×List Int×Unit)) (fun((a36,a37,a38,a39,_),a40,a41,a42,(a43,a44,a45,a46,a47,a48,a49,a50,a51,a52,a53,_),a54,(a55,a56,_),a57,a58,a59,a60,_)=>L10 ((a36,a37,a38,(wrap .i64 (a39+1)),()),a40,a41,a42,(a43,a44,a45,a46,a47,a48,a49,a50,a51,a52,a53,()),a54,(a55,a56,()),a57,a58,a59,a60,())) fun J61=>atc a13 a14 fun a62=>atc a29.Steps a12 fun a63=>optc (UT fu a15 a62 a11 a63.Urgent) fun a64=>cnd a64 (atc a13 a14 fun a65=>lec (a35.length+(List.length (a65::[]))) 34359738368 (J61 ((a11,a12,a13,a14,()),a15,a16,a17,(a18,a19,a20,a21,a22,a23,a24,a25,a26,a27,a28,()),a29,(a30,a31,()),a32,a33,a34,(a35++(a65::[])),()))) (J61 ((a11,a12,a13,a14,()),a15,a16,a17,(a18,a19,a20,a21,a22,a23,a24,a25,a26,a27,a28,()),a29,(a30,a31,()),a32,a33,a34,a35,()))) (lec (a32.length+(List.length ((D.Start.mk a30 a31 a35)::[]))) 34359738368 (join (Y:=(Unit×D.Page×(Int×Int×Int×Int×Int×Int×Int×Int×Int×Int×Int×List Int×Unit)×List D.Start×List Int×Unit)) (fun(_,a66,(a67,a68,a69,a70,a71,a72,a73,a74,a75,a76,a77,a78,_),a79,a80,_)=>some ((D.Page.mk a67 a68 a69 a70 a71 a72 a73 a74 a75 a76 a77 a79 a78 a80),0)) fun J81=>cd (0<((a35.length:Nat):Int)) (atc a29.Steps a12 fun a82=>J81 ((),a17,(a18,a19,a20,(wrap .i64 (a16.Next+1)),(wrap .i64 (a22+a82.Wait)),a23,a24,a25,a26,a27,a28,[],()),(a32++((D.Start.mk a30 a31 a35)::[])),a34,())) (J81 ((),a17,(a18,a19,a20,(wrap .i64 (a16.Next+1)),a22,a23,a24,a25,a26,a27,a28,[],()),(a32++((D.Start.mk a30 a31 a35)::[])),a34,()))))) fu ((a1,a5,a9,0,()),p0,p2,(D.Page.mk 0 0 0 0 0 0 0 0 0 0 0 [] [] []),(a3.ID,a3.Policy,a3.Start,a3.Next,a3.Due,a3.State,a3.By,a3.Until,(max a1 p2.Last),a3.Snoozes,a3.Hands,()),a4,(p2.Next,a1,()),a3.Starts,a3.Declined,a3.Seen,[],()))))))
theorem Qn9:FO 54 (Qf [.st .Config,.st .Book,.st .Page] [] [.st .Page,nI] [] [] (D.Page×Int) (fun q=>((q.1,q.2,()),())) (fun x y=>Qhr fu x.1 x.2.1 x.2.2.1)):=fI fu (gs 13 (.two (.two .go (.one (.loop [rf 3,rf 5,rf 6,ni 8,rf 10,rf 11,ni 12,rf 15,(16,lI),ni 17] [bx 1003 .Config,bx 1005 .Page,bx 1006 .Page,(1010,.box bI1),bx 1011 .Policy,(1015,.box [kI,kI,.own 1108]),ar 1038025 .Start,ar 1038030 .int,ar 1038033 .int,ar 1108 .int] (.two .go (.two (.join [rf 3,rf 5,rf 6,ni 8,rf 10,rf 11,ni 12,rf 15,(16,lI),ni 17] [bx 1003 .Config,bx 1005 .Page,bx 1006 .Page,(1010,.box bI1),bx 1011 .Policy,(1015,.box [kI,kI,.own 1108]),ar 1038025 .Start,ar 1038030 .int,ar 1038033 .int,ar 1108 .int] .go) .go))))) (.two (.frz [1108] .go) (.two (.join [rf 6,rf 10] [bx 1006 .Page,(1010,.box [kI,kI,kI,kI,kI,kI,kI,kI,kI,kI,kI,.own 1038025,.lst .int,.own 1038033]),ar 1038025 .Start,ar 1038033 .int] .go) .go)))) (fun a b=>(a.1,a.2.1)) (eC (Qbt fu) (eC (QaV fu) (eC (VT fu) (eC (Qn5 fu) (eC (Qld fu) (eC (Qg3 fu) eN)))))) Tryz.func54
def Qgk(p0:D.Config)(p1:D.Book)(p2:D.Page)(p3:Int):Option (D.Page×Int):=optc (Vr fu p1 p2) fun a0=>cnd (!a0) (some ((D.Page.mk 0 0 0 0 0 0 0 0 0 0 0 [] [] []),8)) (optc (UV fu p2) fun a1=>Qh (X:=((Int×Unit)×D.Config×D.Book×D.Page×D.Page×Unit)) (fun L2 ((a3,_),a4,a5,a6,a7,_)=>optc (QeK fu a6) fun(a8,a9)=>join (Y:=((Int×Unit)×D.Config×D.Book×D.Page×D.Page×Unit)) (fun((a10,_),a11,a12,a13,a14,_)=>optc (Qhr fu a11 a12 a13) fun(a15,a16)=>cd (a16≠0) (some ((D.Page.mk 0 0 0 0 0 0 0 0 0 0 0 [] [] []),a16)) (L2 ((a10,()),a11,a12,a15,a14,()))) fun J17=>cnd a9 (cd (a3<a8) (some (a6,0)) (J17 ((a3,()),a4,a5,a6,a7,()))) (some (a6,0))) fu ((p3,()),p0,p1,a1,(D.Page.mk 0 0 0 0 0 0 0 0 0 0 0 [] [] []),()))
theorem QjY:FO 27 (Qf [.st .Config,.st .Book,.st .Page,nI] [] [.st .Page,nI] [] [] (D.Page×Int) (fun q=>((q.1,q.2,()),())) (fun x y=>Qgk fu x.1 x.2.1 x.2.2.1 x.2.2.2.1)):=fI fu (gs 3 (.one (.loop [ni 3,rf 4,rf 5,rf 6,rf 8] [bx 1004 .Config,bx 1005 .Book,bx 1006 .Page,bx 1008 .Page] (.one (.two .go (.two (.join [ni 3,rf 4,rf 5,rf 6,rf 8] [bx 1004 .Config,bx 1005 .Book,bx 1006 .Page,bx 1008 .Page] .go) .go)))))) (fun a b=>(a.1,a.2.1)) (eC (Qbt fu) (eC (QaV fu) (eC (VT fu) (eC (Qn9 fu) eN)))) Tryz.func27
def Qca(p0:D.Page)(p1:D.Answer):Option Int:=optc (QeK fu p0) fun(a0,a1)=>join (Y:=(Unit×Unit)) (fun(_,_)=>some 0) fun J2=>cd (p1.At<p0.Last) (some 6) (cnd a1 (cd (a0≤p1.At) (some 6) (join (Y:=((Bool×Unit)×D.Page×D.Answer×Unit)) (fun((a3,_),a4,a5,_)=>cnd a3 (some 9) (join (Y:=((Bool×Unit)×Unit)) (fun((a6,_),_)=>cnd a6 (some 5) (J2 ((),()))) fun J7=>cd (64≤((a4.Seen.length:Nat):Int)) (J7 (((decide (64≤((a4.Seen.length:Nat):Int))),()),())) (cd (a5.Kind=3) (cd (4≤a4.Snoozes) (J7 ((true,()),())) (cd (a5.Kind=4) (cd (4≤a4.Hands) (J7 ((true,()),())) (cd (200≤((a4.Starts.length:Nat):Int)) (J7 ((true,()),())) (J7 ((false,()),())))) (J7 ((false,()),())))) (cd (a5.Kind=4) (cd (4≤a4.Hands) (J7 ((true,()),())) (cd (200≤((a4.Starts.length:Nat):Int)) (J7 ((true,()),())) (J7 ((false,()),())))) (J7 ((false,()),())))))) fun J8=>cd (p0.State=4) (J8 (((decide (p0.State=4)),()),p0,p1,())) (cd (p0.State=3) (cd (p1.Kind≠5) (J8 ((true,()),p0,p1,())) (cd (p0.State=1) (cd (p1.Kind=2) (J8 ((true,()),p0,p1,())) (J8 ((false,()),p0,p1,()))) (J8 ((false,()),p0,p1,())))) (cd (p0.State=1) (cd (p1.Kind=2) (J8 ((true,()),p0,p1,())) (J8 ((false,()),p0,p1,()))) (J8 ((false,()),p0,p1,())))))) (join (Y:=((Bool×Unit)×D.Page×D.Answer×Unit)) (fun((a9,_),a10,a11,_)=>cnd a9 (some 9) (join (Y:=((Bool×Unit)×Unit)) (fun((a12,_),_)=>cnd a12 (some 5) (J2 ((),()))) fun J13=>cd (64≤((a10.Seen.length:Nat):Int)) (J13 (((decide (64≤((a10.Seen.length:Nat):Int))),()),())) (cd (a11.Kind=3) (cd (4≤a10.Snoozes) (J13 ((true,()),())) (cd (a11.Kind=4) (cd (4≤a10.Hands) (J13 ((true,()),())) (cd (200≤((a10.Starts.length:Nat):Int)) (J13 ((true,()),())) (J13 ((false,()),())))) (J13 ((false,()),())))) (cd (a11.Kind=4) (cd (4≤a10.Hands) (J13 ((true,()),())) (cd (200≤((a10.Starts.length:Nat):Int)) (J13 ((true,()),())) (J13 ((false,()),())))) (J13 ((false,()),())))))) fun J14=>cd (p0.State=4) (J14 (((decide (p0.State=4)),()),p0,p1,())) (cd (p0.State=3) (cd (p1.Kind≠5) (J14 ((true,()),p0,p1,())) (cd (p0.State=1) (cd (p1.Kind=2) (J14 ((true,()),p0,p1,())) (J14 ((false,()),p0,p1,()))) (J14 ((false,()),p0,p1,())))) (cd (p0.State=1) (cd (p1.Kind=2) (J14 ((true,()),p0,p1,())) (J14 ((false,()),p0,p1,()))) (J14 ((false,()),p0,p1,()))))))
theorem Qjq:FO 229 (sI [.st .Page,.st .Answer] fun x=>Qca fu x.1 x.2.1):=fI fu (gs 2 (.two (.join [] [] (.one (gs 2 (.two (.join [rf 2,rf 3,(27,.one .boo)] [bx 1002 .Page,bx 1003 .Answer] .go) (.two .go (.two (.join [(47,.one .boo)] [] .go) .go)))))) .go)) (fun a b=>a.1) (eC (Qbt fu) eN) Tryz.func229
def QdP(fu:Nat)(p0:D.Page):Option (List Int):=cd (((p0.Starts.length:Nat):Int)=0) (some []) (atc p0.Starts (wrap .i64 (((p0.Starts.length:Nat):Int) - 1)) fun a0=>lec a0.People.length 34359738368 (some a0.People))
theorem Qlh:FO 230 (Qf [.st .Page] [] [lI] [] [] (List Int) (fun q=>((q,()),())) (fun x y=>QdP fu x.1)):=fI fu .go (fun a b=>a.1) eN Tryz.func230
def QdO(p0:D.Config)(p1:D.Book)(p2:D.Page)(p3:D.Answer):Option (D.Page×Int):=join (Y:=(Unit×D.Page×D.Answer×D.Page×Unit)) (fun(_,a0,a1,a2,_)=>cd (a1.Page≠a0.ID) (some ((D.Page.mk 0 0 0 0 0 0 0 0 0 0 0 [] [] []),3)) (optc (UV fu a0) fun a3=>optc (Qb6 fu a0.Seen a1.ID) fun a4=>cnd a4 (some (a3,0)) (optc (Qca fu a0 a1) fun a5=>cd (a5≠0) (some ((D.Page.mk 0 0 0 0 0 0 0 0 0 0 0 [] [] []),a5)) (lec (a3.Seen.length+(List.length (a1.ID::[]))) 34359738368 (join (Y:=(Unit×D.Page×(Int×Int×Int×Int×Int×Int×Int×Int×Int×Int×Int×List Int×Unit)×List D.Start×List Int×Unit)) (fun(_,a6,(a7,a8,a9,a10,a11,a12,a13,a14,a15,a16,a17,a18,_),a19,a20,_)=>some ((D.Page.mk a7 a8 a9 a10 a11 a12 a13 a14 a15 a16 a17 a19 a18 a20),0)) fun J21=>cd (a1.Kind=1) (cd (a0.State=1) (J21 ((),a2,(a3.ID,a3.Policy,a3.Start,a3.Next,a3.Due,a3.State,a3.By,a3.Until,a0.Last,a3.Snoozes,a3.Hands,a3.Declined,()),a3.Starts,(a3.Seen++(a1.ID::[])),())) (J21 ((),a2,(a3.ID,a3.Policy,a3.Start,a3.Next,a3.Due,1,a1.Person,a3.Until,a1.At,a3.Snoozes,a3.Hands,a3.Declined,()),a3.Starts,(a3.Seen++(a1.ID::[])),()))) (cd (a1.Kind=2) (optc (QdP fu a0) fun a22=>join (Y:=((List Int×Unit)×D.Page×D.Answer×D.Page×(Int×Int×Int×Int×Int×Int×Int×Int×Int×Int×Int×List Int×Unit)×List D.Start×List Int×Unit)) (fun((a23,_),a24,a25,a26,(a27,a28,a29,a30,a31,a32,a33,a34,a35,a36,a37,a38,_),a39,a40,_)=>Qh (X:=((List Int×Bool×Int×Unit)×D.Page×D.Answer×D.Page×(Int×Int×Int×Int×Int×Int×Int×Int×Int×Int×Int×List Int×Unit)×List D.Start×List Int×Unit)) (fun L41 ((a42,a43,a44,_),a45,a46,a47,(a48,a49,a50,a51,a52,a53,a54,a55,a56,a57,a58,a59,_),a60,a61,_)=>cd (a44<((a42.length:Nat):Int)) (join (Y:=((List Int×Bool×Int×Unit)×D.Page×D.Answer×D.Page×(Int×Int×Int×Int×Int×Int×Int×Int×Int×Int×Int×List Int×Unit)×List D.Start×List Int×Unit)) (fun((a62,a63,a64,_),a65,a66,a67,(a68,a69,a70,a71,a72,a73,a74,a75,a76,a77,a78,a79,_),a80,a81,_)=>L41 ((a62,a63,(wrap .i64 (a64+1)),()),a65,a66,a67,(a68,a69,a70,a71,a72,a73,a74,a75,a76,a77,a78,a79,()),a80,a81,())) fun J82=>cnd a43 (atc a42 a44 fun a83=>optc (Qb6 fu a59 a83) fun a84=>cnd a84 (J82 ((a42,true,a44,()),a45,a46,a47,(a48,a49,a50,a51,a52,a53,a54,a55,a56,a57,a58,a59,()),a60,a61,())) (J82 ((a42,false,a44,()),a45,a46,a47,(a48,a49,a50,a51,a52,a53,a54,a55,a56,a57,a58,a59,()),a60,a61,()))) (J82 ((a42,false,a44,()),a45,a46,a47,(a48,a49,a50,a51,a52,a53,a54,a55,a56,a57,a58,a59,()),a60,a61,()))) (cnd a43 (cd (a45.State=0) (J21 ((),a47,(a48,a49,a50,a51,a46.At,a53,a54,a55,a56,a57,a58,a59,()),a60,a61,())) (J21 ((),a47,(a48,a49,a50,a51,a52,a53,a54,a55,a56,a57,a58,a59,()),a60,a61,()))) (J21 ((),a47,(a48,a49,a50,a51,a52,a53,a54,a55,a56,a57,a58,a59,()),a60,a61,())))) fu ((a23,(decide (0<((a23.length:Nat):Int))),0,()),a24,a25,a26,(a27,a28,a29,a30,a31,a32,a33,a34,a35,a36,a37,a38,()),a39,a40,())) fun J85=>optc (Qb6 fu a22 a1.Person) fun a86=>cnd a86 (optc (WL fu a3.Declined a1.Person) fun a87=>J85 ((a22,()),a0,a1,a2,(a3.ID,a3.Policy,a3.Start,a3.Next,a3.Due,a3.State,a3.By,a3.Until,a1.At,a3.Snoozes,a3.Hands,a87,()),a3.Starts,(a3.Seen++(a1.ID::[])),())) (J85 ((a22,()),a0,a1,a2,(a3.ID,a3.Policy,a3.Start,a3.Next,a3.Due,a3.State,a3.By,a3.Until,a1.At,a3.Snoozes,a3.Hands,a3.Declined,()),a3.Starts,(a3.Seen++(a1.ID::[])),()))) (cd (a1.Kind=3) (J21 ((),a2,(a3.ID,a3.Policy,a3.Start,a3.Next,a3.Due,2,a1.Person,(wrap .i64 (a1.At+a1.Arg)),a1.At,(wrap .i64 (a0.Snoozes+1)),a3.Hands,a3.Declined,()),a3.Starts,(a3.Seen++(a1.ID::[])),())) (cd (a1.Kind=4) (lec (a3.Starts.length+(List.length ((D.Start.mk (-1) a1.At (a1.Arg::[]))::[]))) 34359738368 (J21 ((),a2,(a3.ID,a3.Policy,a3.Start,a3.Next,(wrap .i64 (a1.At+600)),0,a3.By,a3.Until,a1.At,a3.Snoozes,(wrap .i64 (a0.Hands+1)),[],()),(a3.Starts++((D.Start.mk (-1) a1.At (a1.Arg::[]))::[])),(a3.Seen++(a1.ID::[])),()))) (cd (a1.Kind=5) (J21 ((),a2,(a3.ID,a3.Policy,a3.Start,a3.Next,a3.Due,4,a1.Person,a3.Until,a1.At,a3.Snoozes,a3.Hands,a3.Declined,()),a3.Starts,(a3.Seen++(a1.ID::[])),())) (J21 ((),a2,(a3.ID,a3.Policy,a3.Start,a3.Next,a3.Due,a3.State,a3.By,a3.Until,a1.At,a3.Snoozes,a3.Hands,a3.Declined,()),a3.Starts,(a3.Seen++(a1.ID::[])),()))))))))))) fun J88=>optc (Vr fu p1 p2) fun a89=>cnd a89 (optc (Qdb fu p3) fun a90=>cnd a90 (J88 ((),p2,p3,(D.Page.mk 0 0 0 0 0 0 0 0 0 0 0 [] [] []),())) (some ((D.Page.mk 0 0 0 0 0 0 0 0 0 0 0 [] [] []),8))) (some ((D.Page.mk 0 0 0 0 0 0 0 0 0 0 0 [] [] []),8))
theorem Qlg:FO 182 (Qf [.st .Config,.st .Book,.st .Page,.st .Answer] [] [.st .Page,nI] [] [] (D.Page×Int) (fun q=>((q.1,q.2,()),())) (fun x y=>QdO fu x.1 x.2.1 x.2.2.1 x.2.2.2.1)):=fI fu (.two .go (.two (.join [rf 6,rf 7,rf 8] [bx 1006 .Page,bx 1007 .Answer,bx 1008 .Page] .go) (gs 5 (.two (.join [rf 8,rf 10] [bx 1008 .Page,(1010,.box bI2),ar 1033025 .Start,ar 1033033 .int] (.two .go (.one (gs 3 (.two (.two .go (.two (.join [rf 6,rf 7,rf 8,rf 10,(12,lI)] [bx 1006 .Page,bx 1007 .Answer,bx 1008 .Page,(1010,.box bI2),ar 1033025 .Start,ar 1033033 .int] .go) (.two .go (lp [rf 6,rf 7,rf 8,rf 10,(12,lI),(13,.one .boo),ni 14] [bx 1006 .Page,bx 1007 .Answer,bx 1008 .Page,(1010,.box bI2),ar 1033025 .Start,ar 1033033 .int] (.two .go (.two (.join [rf 6,rf 7,rf 8,rf 10,(12,lI),(13,.one .boo),ni 14] [bx 1006 .Page,bx 1007 .Answer,bx 1008 .Page,(1010,.box bI2),ar 1033025 .Start,ar 1033033 .int] .go) .go)))))) .go))))) .go)))) (fun a b=>(a.1,a.2.1)) (eC (QdM fu) (eC (QaV fu) (eC (VT fu) (eC (QiM fu) (eC (QgO fu) (eC (Qjq fu) (eC (Qlh fu) eN))))))) Tryz.func182
def ZP(p0:D.Ledger)(p1:Int):Option (D.Page×Bool):=Qh (X:=((Int×Int×Unit)×(Int×List D.Zone×List D.Person×List D.Calendar×List D.Schedule×List D.Team×List D.Policy×Int×Int×Unit)×D.Page×List D.Page×List Int×List D.Call×Unit)) (fun L0 ((a1,a2,_),(a3,a4,a5,a6,a7,a8,a9,a10,a11,_),a12,a13,a14,a15,_)=>cd (a2<((a13.length:Nat):Int)) (natc a2 fun a16=>ltc a16 a13.length (optc (GetElem?.getElem? a13 a16) fun a17=>cd (a17.ID=a1) (natc a2 fun a18=>ltc a18 a13.length (optc (GetElem?.getElem? a13 a18) fun a19=>optc (UV fu a19) fun a20=>sameC a13 p0.Pages (sameC a14 p0.Seen (sameC a15 p0.Calls (some (a20,true)))))) (L0 ((a1,(wrap .i64 (a2+1)),()),(a3,a4,a5,a6,a7,a8,a9,a10,a11,()),a12,a13,a14,a15,())))) (sameC a13 p0.Pages (sameC a14 p0.Seen (sameC a15 p0.Calls (some ((D.Page.mk 0 0 0 0 0 0 0 0 0 0 0 [] [] []),false)))))) fu ((p1,0,()),(p0.Now,p0.Config.Zones,p0.Config.People,p0.Config.Calendars,p0.Config.Schedules,p0.Book.Teams,p0.Book.Policies,p0.Owner,p0.Fence,()),(D.Page.mk 0 0 0 0 0 0 0 0 0 0 0 [] [] []),p0.Pages,p0.Seen,p0.Calls,())
theorem Wa:FO 40 (Qf [.agg bI0,nI] [ar 101 .Page,ar 102 .int,ar 103 .Call] [.st .Page,.one .boo] [] [101,102,103] (D.Page×Bool) (fun q=>((q.1,q.2,()),())) (fun x y=>ZP fu (D.Ledger.mk x.1.1 (D.Config.mk x.1.2.1 x.1.2.2.1 x.1.2.2.2.1 x.1.2.2.2.2.1) (D.Book.mk x.1.2.2.2.2.2.1 x.1.2.2.2.2.2.2.1) y.1 x.1.2.2.2.2.2.2.2.1 x.1.2.2.2.2.2.2.2.2.1 y.2.1 y.2.2.1) x.2.1)):=fI fu (.two .go (lp [ni 1,rf 2,rf 4,ni 6] [(1002,.box bI0),bx 1004 .Page,ar 101 .Page,ar 102 .int,ar 103 .Call] .go)) (fun a b=>(a.1,a.2.1)) (eC (VT fu) eN) Tryz.func40
def Xh(p0:D.Ledger)(p1:D.Page):Option D.Ledger:=Qh (X:=((Int×Unit)×(Int×List D.Zone×List D.Person×List D.Calendar×List D.Schedule×List D.Team×List D.Policy×Int×Int×Unit)×D.Page×D.Ledger×List D.Page×List Int×List D.Call×Unit)) (fun L0 ((a1,_),(a2,a3,a4,a5,a6,a7,a8,a9,a10,_),a11,a12,a13,a14,a15,_)=>cd (a1<((a13.length:Nat):Int)) (join (Y:=((Int×Unit)×(Int×List D.Zone×List D.Person×List D.Calendar×List D.Schedule×List D.Team×List D.Policy×Int×Int×Unit)×D.Page×D.Ledger×List D.Page×List Int×List D.Call×Unit)) (fun((a16,_),(a17,a18,a19,a20,a21,a22,a23,a24,a25,_),a26,a27,a28,a29,a30,_)=>L0 (((wrap .i64 (a16+1)),()),(a17,a18,a19,a20,a21,a22,a23,a24,a25,()),a26,a27,a28,a29,a30,())) fun J31=>natc a1 fun a32=>ltc a32 a13.length (optc (GetElem?.getElem? a13 a32) fun a33=>cd (a33.ID=a11.ID) (natc a1 fun a34=>ltc a34 a13.length (optc (GetElem?.getElem? a13 a34) fun a35=>optc (Qbv fu a11 ((a35.Starts.length:Nat):Int) a10) fun a36=>lec (a15.length+a36.length) 34359738368 (natc a1 fun a37=>ltc a37 a13.length (optc (GetElem?.getElem? a13 a37) fun a38=>J31 ((a1,()),(a2,a3,a4,a5,a6,a7,a8,a9,a10,()),a11,a12,(List.set a13 a37 a11),a14,(a15++a36),()))))) (J31 ((a1,()),(a2,a3,a4,a5,a6,a7,a8,a9,a10,()),a11,a12,a13,a14,a15,())))) (some (D.Ledger.mk a2 (D.Config.mk a3 a4 a5 a6) (D.Book.mk a7 a8) a13 a9 a10 a14 a15))) fu ((0,()),(p0.Now,p0.Config.Zones,p0.Config.People,p0.Config.Calendars,p0.Config.Schedules,p0.Book.Teams,p0.Book.Policies,p0.Owner,p0.Fence,()),p1,(D.Ledger.mk 0 (D.Config.mk [] [] [] []) (D.Book.mk [] []) [] 0 0 [] []),p0.Pages,p0.Seen,p0.Calls,())
theorem Uy:FO 181 (Qf [.agg bI0,.st .Page] [ar 101 .Page,ar 102 .int,ar 103 .Call] [.agg bI0] [ar 101 .Page,ar 102 .int,ar 103 .Call] [] D.Ledger (fun q=>(((q.Now,q.Config.Zones,q.Config.People,q.Config.Calendars,q.Config.Schedules,q.Book.Teams,q.Book.Policies,q.Owner,q.Fence,()),()),q.Pages,q.Seen,q.Calls,())) (fun x y=>Xh fu (D.Ledger.mk x.1.1 (D.Config.mk x.1.2.1 x.1.2.2.1 x.1.2.2.2.1 x.1.2.2.2.2.1) (D.Book.mk x.1.2.2.2.2.2.1 x.1.2.2.2.2.2.2.1) y.1 x.1.2.2.2.2.2.2.2.1 x.1.2.2.2.2.2.2.2.2.1 y.2.1 y.2.2.1) x.2.1)):=fI fu (.two .go (lp [rf 2,rf 3,rf 4,ni 5] [(1002,.box bI0),bx 1003 .Page,bx 1004 .Ledger,ar 101 .Page,ar 102 .int,ar 103 .Call] (.two .go (.two (.join [rf 2,rf 3,rf 4,ni 5] [(1002,.box bI0),bx 1003 .Page,bx 1004 .Ledger,ar 101 .Page,ar 102 .int,ar 103 .Call] .go) .go)))) (fun a b=>D.Ledger.mk a.1.1 (D.Config.mk a.1.2.1 a.1.2.2.1 a.1.2.2.2.1 a.1.2.2.2.2.1) (D.Book.mk a.1.2.2.2.2.2.1 a.1.2.2.2.2.2.2.1) b.1 a.1.2.2.2.2.2.2.2.1 a.1.2.2.2.2.2.2.2.2.1 b.2.1 b.2.2.1) (eC (Qdd fu) eN) Tryz.func181
def Z2(p0:D.Ledger)(p1:Int)(p2:Int):Option D.Ledger:=optc (ZP fu p0 p1) fun(a0,a1)=>cnd (!a1) (some p0) (optc (Qgk fu p0.Config p0.Book a0 p2) fun(a2,a3)=>cd (a3≠0) (some p0) (optc (Xh fu p0 a2) fun a4=>some a4))
theorem Wt:FO 137 (Qf [.agg bI0,nI,nI] [ar 101 .Page,ar 102 .int,ar 103 .Call] [.agg bI0] [ar 101 .Page,ar 102 .int,ar 103 .Call] [] D.Ledger (fun q=>(((q.Now,q.Config.Zones,q.Config.People,q.Config.Calendars,q.Config.Schedules,q.Book.Teams,q.Book.Policies,q.Owner,q.Fence,()),()),q.Pages,q.Seen,q.Calls,())) (fun x y=>Z2 fu (D.Ledger.mk x.1.1 (D.Config.mk x.1.2.1 x.1.2.2.1 x.1.2.2.2.1 x.1.2.2.2.2.1) (D.Book.mk x.1.2.2.2.2.2.1 x.1.2.2.2.2.2.2.1) y.1 x.1.2.2.2.2.2.2.2.1 x.1.2.2.2.2.2.2.2.2.1 y.2.1 y.2.2.1) x.2.1 x.2.2.1)):=fI fu .go (fun a b=>D.Ledger.mk a.1.1 (D.Config.mk a.1.2.1 a.1.2.2.1 a.1.2.2.2.1 a.1.2.2.2.2.1) (D.Book.mk a.1.2.2.2.2.2.1 a.1.2.2.2.2.2.2.1) b.1 a.1.2.2.2.2.2.2.2.1 a.1.2.2.2.2.2.2.2.2.1 b.2.1 b.2.2.1) (eC (QjY fu) (eC (Wa fu) (eC (Uy fu) eN))) Tryz.func137
def XW(p0:D.Ledger)(p1:D.Op)(p2:Int)(p3:Bool):Option (D.Ledger×Int):=cnd p3 (some (p0,4)) (cd (64≤((p0.Pages.length:Nat):Int)) (some (p0,5)) (optc (QiN fu p0.Book p1.Page p1.Policy p2) fun(a0,a1)=>cd (a1≠0) (some (p0,a1)) (join (Y:=((Int×Int×Unit)×(Int×List D.Zone×List D.Person×List D.Calendar×List D.Schedule×List D.Team×List D.Policy×Int×Int×Unit)×D.Ledger×D.Page×List D.Page×List Int×List D.Call×Unit)) (fun((a2,a3,_),(a4,a5,a6,a7,a8,a9,a10,a11,a12,_),a13,a14,a15,a16,a17,_)=>lec (a15.length+(List.length (a14::[]))) 34359738368 (natc (wrap .i64 (a3+1)) fun a18=>lec a18 (List.length (a15++(a14::[]))) (natc a3 fun a19=>lec a19 (List.length (a15++(a14::[]))) (chk (List.length (a15++(a14::[]))) (List.length (a15++(a14::[]))) (chk (List.length (a15++(a14::[]))) (List.length (a15++(a14::[]))) (lec a18 (List.length (a15++(a14::[]))) (lec a19 a18 (natc a3 fun a20=>ltc a20 (List.length ((List.take a18 (a15++(a14::[])))++(List.take ((List.length (a15++(a14::[]))) - a18) (List.drop a19 (a15++(a14::[])))))) (optc (GetElem?.getElem? ((List.take a18 (a15++(a14::[])))++(List.take ((List.length (a15++(a14::[]))) - a18) (List.drop a19 (a15++(a14::[]))))) a20) fun a21=>optc (Z2 fu (D.Ledger.mk a4 (D.Config.mk a5 a6 a7 a8) (D.Book.mk a9 a10) (List.set ((List.take a18 (a15++(a14::[])))++(List.take ((List.length (a15++(a14::[]))) - a18) (List.drop a19 (a15++(a14::[]))))) a20 a14) a11 a12 a16 a17) a14.ID a2) fun a22=>some (a22,0)))))))))) fun J23=>Qh (X:=((Int×Int×Unit)×(Int×List D.Zone×List D.Person×List D.Calendar×List D.Schedule×List D.Team×List D.Policy×Int×Int×Unit)×D.Ledger×D.Page×List D.Page×List Int×List D.Call×Unit)) (fun L24 ((a25,a26,_),(a27,a28,a29,a30,a31,a32,a33,a34,a35,_),a36,a37,a38,a39,a40,_)=>join (Y:=((Int×Int×Unit)×(Int×List D.Zone×List D.Person×List D.Calendar×List D.Schedule×List D.Team×List D.Policy×Int×Int×Unit)×D.Ledger×D.Page×List D.Page×List Int×List D.Call×Unit)) (fun((a41,a42,_),(a43,a44,a45,a46,a47,a48,a49,a50,a51,_),a52,a53,a54,a55,a56,_)=>L24 ((a41,(wrap .i64 (a42+1)),()),(a43,a44,a45,a46,a47,a48,a49,a50,a51,()),a52,a53,a54,a55,a56,())) fun J57=>cd (a26<((a38.length:Nat):Int)) (natc a26 fun a58=>ltc a58 a38.length (optc (GetElem?.getElem? a38 a58) fun a59=>cd (a59.ID<a37.ID) (J57 ((a25,a26,()),(a27,a28,a29,a30,a31,a32,a33,a34,a35,()),a36,a37,a38,a39,a40,())) (J23 ((a25,a26,()),(a27,a28,a29,a30,a31,a32,a33,a34,a35,()),a36,a37,a38,a39,a40,())))) (J23 ((a25,a26,()),(a27,a28,a29,a30,a31,a32,a33,a34,a35,()),a36,a37,a38,a39,a40,()))) fu ((p2,0,()),(p0.Now,p0.Config.Zones,p0.Config.People,p0.Config.Calendars,p0.Config.Schedules,p0.Book.Teams,p0.Book.Policies,p0.Owner,p0.Fence,()),(D.Ledger.mk 0 (D.Config.mk [] [] [] []) (D.Book.mk [] []) [] 0 0 [] []),a0,p0.Pages,p0.Seen,p0.Calls,()))))
theorem Qde:FO 136 (Qf [.agg bI0,.st .Op,nI,.one .boo] [ar 101 .Page,ar 102 .int,ar 103 .Call] [.agg bI0,nI] [ar 101 .Page,ar 102 .int,ar 103 .Call] [] (D.Ledger×Int) (fun q=>(((q.1.Now,q.1.Config.Zones,q.1.Config.People,q.1.Config.Calendars,q.1.Config.Schedules,q.1.Book.Teams,q.1.Book.Policies,q.1.Owner,q.1.Fence,()),q.2,()),q.1.Pages,q.1.Seen,q.1.Calls,())) (fun x y=>XW fu (D.Ledger.mk x.1.1 (D.Config.mk x.1.2.1 x.1.2.2.1 x.1.2.2.2.1 x.1.2.2.2.2.1) (D.Book.mk x.1.2.2.2.2.2.1 x.1.2.2.2.2.2.2.1) y.1 x.1.2.2.2.2.2.2.2.1 x.1.2.2.2.2.2.2.2.2.1 y.2.1 y.2.2.1) x.2.1 x.2.2.1 x.2.2.2.1)):=fI fu (gs 6 (.two (.join [ni 2,rf 4,rf 8,rf 10,ni 12] [(1004,.box bI0),bx 1008 .Ledger,bx 1010 .Page,ar 101 .Page,ar 102 .int,ar 103 .Call] (.one (.loop [ni 2,rf 4,rf 8,rf 10,ni 12] [(1004,.box bI0),bx 1008 .Ledger,bx 1010 .Page,ar 101 .Page,ar 102 .int,ar 103 .Call] (.two (.join [ni 2,rf 4,rf 8,rf 10,ni 12] [(1004,.box bI0),bx 1008 .Ledger,bx 1010 .Page,ar 101 .Page,ar 102 .int,ar 103 .Call] .go) .go)))) .go)) (fun a b=>((D.Ledger.mk a.1.1 (D.Config.mk a.1.2.1 a.1.2.2.1 a.1.2.2.2.1 a.1.2.2.2.2.1) (D.Book.mk a.1.2.2.2.2.2.1 a.1.2.2.2.2.2.2.1) b.1 a.1.2.2.2.2.2.2.2.1 a.1.2.2.2.2.2.2.2.2.1 b.2.1 b.2.2.1),a.2.1)) (eC (QjX fu) (eC (Wt fu) eN)) Tryz.func136
def Xw(p0:D.Ledger)(p1:D.Answer)(p2:Int):Option (D.Ledger×Int):=optc (ZP fu p0 p1.Page) fun(a0,a1)=>cnd (!a1) (some (p0,3)) (optc (Z2 fu p0 p1.Page p2) fun a2=>optc (ZP fu a2 p1.Page) fun(a3,a4)=>optc (QdO fu a2.Config a2.Book a3 (D.Answer.mk p1.ID p1.Page p1.Person p1.Kind p1.Arg p2)) fun(a5,a6)=>cd (a6≠0) (some (a2,a6)) (optc (Xh fu a2 a5) fun a7=>some (a7,0)))
theorem Qcu:FO 138 (Qf [.agg bI0,.st .Answer,nI] [ar 101 .Page,ar 102 .int,ar 103 .Call] [.agg bI0,nI] [ar 101 .Page,ar 102 .int,ar 103 .Call] [] (D.Ledger×Int) (fun q=>(((q.1.Now,q.1.Config.Zones,q.1.Config.People,q.1.Config.Calendars,q.1.Config.Schedules,q.1.Book.Teams,q.1.Book.Policies,q.1.Owner,q.1.Fence,()),q.2,()),q.1.Pages,q.1.Seen,q.1.Calls,())) (fun x y=>Xw fu (D.Ledger.mk x.1.1 (D.Config.mk x.1.2.1 x.1.2.2.1 x.1.2.2.2.1 x.1.2.2.2.2.1) (D.Book.mk x.1.2.2.2.2.2.1 x.1.2.2.2.2.2.2.1) y.1 x.1.2.2.2.2.2.2.2.1 x.1.2.2.2.2.2.2.2.2.1 y.2.1 y.2.2.1) x.2.1 x.2.2.1)):=fI fu .go (fun a b=>((D.Ledger.mk a.1.1 (D.Config.mk a.1.2.1 a.1.2.2.1 a.1.2.2.2.1 a.1.2.2.2.2.1) (D.Book.mk a.1.2.2.2.2.2.1 a.1.2.2.2.2.2.2.1) b.1 a.1.2.2.2.2.2.2.2.1 a.1.2.2.2.2.2.2.2.2.1 b.2.1 b.2.2.1),a.2.1)) (eC (Wa fu) (eC (Wt fu) (eC (Uy fu) (eC (Qlg fu) eN)))) Tryz.func138
def Xv(p0:D.Ledger)(p1:D.Op)(p2:Int):Option (D.Ledger×Int):=optc (ZP fu p0 p1.Page) fun(a0,a1)=>join (Y:=(Unit×(Int×List D.Zone×List D.Person×List D.Calendar×List D.Schedule×List D.Team×List D.Policy×Int×Int×Unit)×D.Ledger×List D.Page×List Int×List D.Call×Unit)) (fun(_,(a2,a3,a4,a5,a6,a7,a8,a9,a10,_),a11,a12,a13,a14,_)=>some ((D.Ledger.mk a2 (D.Config.mk a3 a4 a5 a6) (D.Book.mk a7 a8) a12 a9 a10 a13 a14),0)) fun J15=>cd (p1.Kind=1) (optc (XW fu p0 p1 p2 a1) fun(a16,a17)=>some (a16,a17)) (cd (p1.Kind=2) (cd (p1.Fence≠(wrap .i64 (p0.Fence+1))) (some (p0,23)) (J15 ((),(p0.Now,p0.Config.Zones,p0.Config.People,p0.Config.Calendars,p0.Config.Schedules,p0.Book.Teams,p0.Book.Policies,p1.Region,p1.Fence,()),(D.Ledger.mk 0 (D.Config.mk [] [] [] []) (D.Book.mk [] []) [] 0 0 [] []),p0.Pages,p0.Seen,p0.Calls,()))) (cd (p1.Kind=3) (join (Y:=((Int×Bool×Unit)×(Int×List D.Zone×List D.Person×List D.Calendar×List D.Schedule×List D.Team×List D.Policy×Int×Int×Unit)×D.Op×D.Ledger×D.Page×List D.Page×List Int×List D.Call×Unit)) (fun((a18,a19,_),(a20,a21,a22,a23,a24,a25,a26,a27,a28,_),a29,a30,a31,a32,a33,a34,_)=>cnd (!a19) (some ((D.Ledger.mk a20 (D.Config.mk a21 a22 a23 a24) (D.Book.mk a25 a26) a32 a27 a28 a33 a34),3)) (optc (QeK fu a31) fun(a35,a36)=>join (Y:=((Int×Int×Bool×Int×Unit)×(Int×List D.Zone×List D.Person×List D.Calendar×List D.Schedule×List D.Team×List D.Policy×Int×Int×Unit)×D.Op×D.Ledger×List D.Page×List Int×List D.Call×Unit)) (fun((a37,a38,a39,a40,_),(a41,a42,a43,a44,a45,a46,a47,a48,a49,_),a50,a51,a52,a53,a54,_)=>join (Y:=((Int×Unit)×(Int×List D.Zone×List D.Person×List D.Calendar×List D.Schedule×List D.Team×List D.Policy×Int×Int×Unit)×D.Op×D.Ledger×List D.Page×List Int×List D.Call×Unit)) (fun((a55,_),(a56,a57,a58,a59,a60,a61,a62,a63,a64,_),a65,a66,a67,a68,a69,_)=>optc (Z2 fu (D.Ledger.mk a56 (D.Config.mk a57 a58 a59 a60) (D.Book.mk a61 a62) a67 a63 a64 a68 a69) a65.Page a55) fun a70=>some (a70,0)) fun J71=>cnd a39 (cd (a37<a38) (some ((D.Ledger.mk a41 (D.Config.mk a42 a43 a44 a45) (D.Book.mk a46 a47) a52 a48 a49 a53 a54),9)) (cd (a40≠a50.K) (some ((D.Ledger.mk a41 (D.Config.mk a42 a43 a44 a45) (D.Book.mk a46 a47) a52 a48 a49 a53 a54),9)) (J71 ((a37,()),(a41,a42,a43,a44,a45,a46,a47,a48,a49,()),a50,a51,a52,a53,a54,())))) (some ((D.Ledger.mk a41 (D.Config.mk a42 a43 a44 a45) (D.Book.mk a46 a47) a52 a48 a49 a53 a54),9))) fun J72=>cd (a31.State=2) (J72 ((a18,a35,a36,(-1),()),(a20,a21,a22,a23,a24,a25,a26,a27,a28,()),a29,a30,a32,a33,a34,())) (J72 ((a18,a35,a36,a31.Next,()),(a20,a21,a22,a23,a24,a25,a26,a27,a28,()),a29,a30,a32,a33,a34,())))) fun J73=>cd (p1.Region≠p0.Owner) (some (p0,23)) (cd (p1.Fence≠p0.Fence) (some (p0,23)) (J73 ((p2,a1,()),(p0.Now,p0.Config.Zones,p0.Config.People,p0.Config.Calendars,p0.Config.Schedules,p0.Book.Teams,p0.Book.Policies,p0.Owner,p0.Fence,()),p1,(D.Ledger.mk 0 (D.Config.mk [] [] [] []) (D.Book.mk [] []) [] 0 0 [] []),a0,p0.Pages,p0.Seen,p0.Calls,())))) (cd (p1.Kind=4) (optc (Xw fu p0 p1.Answer p2) fun(a74,a75)=>some (a74,a75)) (cd (p1.Kind=5) (Qh (X:=((Int×Int×Unit)×(Int×List D.Zone×List D.Person×List D.Calendar×List D.Schedule×List D.Team×List D.Policy×Int×Int×Unit)×D.Op×D.Ledger×List D.Page×List Int×List D.Call×Unit)) (fun L76 ((a77,a78,_),(a79,a80,a81,a82,a83,a84,a85,a86,a87,_),a88,a89,a90,a91,a92,_)=>cd (a78<((a90.length:Nat):Int)) (natc a78 fun a93=>ltc a93 a90.length (optc (GetElem?.getElem? a90 a93) fun a94=>optc (Z2 fu (D.Ledger.mk a79 (D.Config.mk a80 a81 a82 a83) (D.Book.mk a84 a85) a90 a86 a87 a91 a92) a94.ID a77) fun a95=>L76 ((a77,(wrap .i64 (a78+1)),()),(a95.Now,a95.Config.Zones,a95.Config.People,a95.Config.Calendars,a95.Config.Schedules,a95.Book.Teams,a95.Book.Policies,a95.Owner,a95.Fence,()),a88,a89,a95.Pages,a95.Seen,a95.Calls,()))) (optc (Qbq fu (D.Config.mk a80 a81 a82 a83) a88.Schedule a88.Edit) fun(a96,a97)=>cd (a97≠0) (some ((D.Ledger.mk a79 (D.Config.mk a80 a81 a82 a83) (D.Book.mk a84 a85) a90 a86 a87 a91 a92),a97)) (J15 ((),(a79,a96.Zones,a96.People,a96.Calendars,a96.Schedules,a84,a85,a86,a87,()),a89,a90,a91,a92,())))) fu ((p2,0,()),(p0.Now,p0.Config.Zones,p0.Config.People,p0.Config.Calendars,p0.Config.Schedules,p0.Book.Teams,p0.Book.Policies,p0.Owner,p0.Fence,()),p1,(D.Ledger.mk 0 (D.Config.mk [] [] [] []) (D.Book.mk [] []) [] 0 0 [] []),p0.Pages,p0.Seen,p0.Calls,())) (J15 ((),(p0.Now,p0.Config.Zones,p0.Config.People,p0.Config.Calendars,p0.Config.Schedules,p0.Book.Teams,p0.Book.Policies,p0.Owner,p0.Fence,()),(D.Ledger.mk 0 (D.Config.mk [] [] [] []) (D.Book.mk [] []) [] 0 0 [] []),p0.Pages,p0.Seen,p0.Calls,()))))))
theorem Qct:FO 87 (Qf [.agg bI0,.st .Op,nI] [ar 101 .Page,ar 102 .int,ar 103 .Call] [.agg bI0,nI] [ar 101 .Page,ar 102 .int,ar 103 .Call] [] (D.Ledger×Int) (fun q=>(((q.1.Now,q.1.Config.Zones,q.1.Config.People,q.1.Config.Calendars,q.1.Config.Schedules,q.1.Book.Teams,q.1.Book.Policies,q.1.Owner,q.1.Fence,()),q.2,()),q.1.Pages,q.1.Seen,q.1.Calls,())) (fun x y=>Xv fu (D.Ledger.mk x.1.1 (D.Config.mk x.1.2.1 x.1.2.2.1 x.1.2.2.2.1 x.1.2.2.2.2.1) (D.Book.mk x.1.2.2.2.2.2.1 x.1.2.2.2.2.2.2.1) y.1 x.1.2.2.2.2.2.2.2.1 x.1.2.2.2.2.2.2.2.2.1 y.2.1 y.2.2.1) x.2.1 x.2.2.1)):=fI fu (gs 2 (.two (.join [rf 3,rf 6] [(1003,.box bI0),bx 1006 .Ledger,ar 101 .Page,ar 102 .int,ar 103 .Call] (.two .go (.one (gs 5 (.two (.two (.join [ni 2,rf 3,rf 4,rf 6,rf 8,(9,.one .boo)] [(1003,.box bI0),bx 1004 .Op,bx 1006 .Ledger,bx 1008 .Page,ar 101 .Page,ar 102 .int,ar 103 .Call] .go) (gs 3 (.two (.join [ni 2,rf 3,rf 4,rf 6,ni 10,(11,.one .boo),ni 12] [(1003,.box bI0),bx 1004 .Op,bx 1006 .Ledger,ar 101 .Page,ar 102 .int,ar 103 .Call] .go) (.two (.join [ni 2,rf 3,rf 4,rf 6] [(1003,.box bI0),bx 1004 .Op,bx 1006 .Ledger,ar 101 .Page,ar 102 .int,ar 103 .Call] .go) .go)))) (gs 3 (.two (lp [ni 2,rf 3,rf 4,rf 6,ni 13] [(1003,.box bI0),bx 1004 .Op,bx 1006 .Ledger,ar 101 .Page,ar 102 .int,ar 103 .Call] .go) .go))))))) .go)) (fun a b=>((D.Ledger.mk a.1.1 (D.Config.mk a.1.2.1 a.1.2.2.1 a.1.2.2.2.1 a.1.2.2.2.2.1) (D.Book.mk a.1.2.2.2.2.2.1 a.1.2.2.2.2.2.2.1) b.1 a.1.2.2.2.2.2.2.2.1 a.1.2.2.2.2.2.2.2.2.1 b.2.1 b.2.2.1),a.2.1)) (eC (QgL fu) (eC (Qbt fu) (eC (Wa fu) (eC (Qde fu) (eC (Wt fu) (eC (Qcu fu) eN)))))) Tryz.func87
def Qfv(p0:D.Ledger)(p1:D.Op):Option (D.Ledger×Int):=join (Y:=(Unit×D.Ledger×D.Op×D.Ledger×Unit)) (fun(_,a0,a1,a2,_)=>optc (Qhs fu a0) fun a3=>optc (Qb6 fu a0.Seen a1.ID) fun a4=>cnd a4 (some (a3,0)) (cd (256≤((a0.Seen.length:Nat):Int)) none (lec (a3.Seen.length+(List.length (a1.ID::[]))) 34359738368 (optc (Xv fu (D.Ledger.mk (max a0.Now a1.At) a3.Config a3.Book a3.Pages a3.Owner a3.Fence (a3.Seen++(a1.ID::[])) a3.Calls) a1 (max a0.Now a1.At)) fun(a5,a6)=>some (a5,a6))))) fun J7=>optc (Qbu fu p0) fun a8=>cnd a8 (optc (Qfw fu p1) fun a9=>cnd a9 (J7 ((),p0,p1,(D.Ledger.mk 0 (D.Config.mk [] [] [] []) (D.Book.mk [] []) [] 0 0 [] []),())) none) none
theorem QmX:FO 59 (Qf [.st .Ledger,.st .Op] [] [.agg [kI,.lst .Zone,.lst .Person,.lst .Calendar,.lst .Schedule,.lst .Team,.lst .Policy,.own 1018020,kI,kI,.own 1018025,.own 1018028],nI] [ar 1018020 .Page,ar 1018025 .int,ar 1018028 .Call] [] (D.Ledger×Int) (fun q=>(((q.1.Now,q.1.Config.Zones,q.1.Config.People,q.1.Config.Calendars,q.1.Config.Schedules,q.1.Book.Teams,q.1.Book.Policies,q.1.Owner,q.1.Fence,()),q.2,()),q.1.Pages,q.1.Seen,q.1.Calls,())) (fun x y=>Qfv fu x.1 x.2.1)):=fI fu (.two .go (.two (.join [rf 2,rf 3,rf 4] [bx 1002 .Ledger,bx 1003 .Op,bx 1004 .Ledger] .go) .go)) (fun a b=>((D.Ledger.mk a.1.1 (D.Config.mk a.1.2.1 a.1.2.2.1 a.1.2.2.2.1 a.1.2.2.2.2.1) (D.Book.mk a.1.2.2.2.2.2.1 a.1.2.2.2.2.2.2.1) b.1 a.1.2.2.2.2.2.2.2.1 a.1.2.2.2.2.2.2.2.2.1 b.2.1 b.2.2.1),a.2.1)) (eC (Qdc fu) (eC (Qoa fu) (eC (QdM fu) (eC (QmY fu) (eC (Qct fu) eN))))) Tryz.func59
def V5(p0:D.Dice)(p1:D.Ledger)(p2:Int):Option (D.Ledger×List D.Op×D.Dice):=Qh (X:=(P4×D.Dice×D.Ledger×P3×Unit)) (fun L0 ((a1,a2,a3,a4,_),a5,a6,(a7,a8,a9,_),_)=>cd (a4<((a6.Seen.length:Nat):Int)) (atc a6.Seen a4 fun a10=>L0 ((a1,a2,(max a3 (wrap .i64 (a10+1))),(wrap .i64 (a4+1)),()),a5,a6,(a7,a8,a9,()),())) (optc (Qe fu a5 (wrap .i64 (a1+1))) fun(a11,a12)=>Qh (X:=(P3×D.Dice×D.Ledger×P3×List D.Op×Unit)) (fun L13 ((a14,a15,a16,_),a17,a18,(a19,a20,a21,_),a22,_)=>cd (0<a16) (optc (QP fu a17 (0::(10::(60::(300::(700::[])))))) fun(a23,a24)=>optc (QaI fu a24 a18 a15 (wrap .i64 (a14+a23))) fun(a25,a26)=>join (Y:=(P3×D.Dice×D.Ledger×P3×D.Op×List D.Op×Unit)) (fun((a27,a28,a29,_),a30,a31,(a32,a33,a34,_),a35,a36,_)=>lec (a36.length+(List.length (a35::[]))) 34359738368 (L13 ((a27,a28,(wrap .i64 (a29 - 1)),()),a30,a31,(a32,a33,a34,()),(a36++(a35::[])),()))) fun J37=>optc (Qfv fu a18 a25) fun(a38,a39)=>optc (Qbu fu a38) fun a40=>cnd a40 (J37 (((wrap .i64 (a14+a23)),(wrap .i64 (a15+1)),a16,()),a26,a38,(a19,a20,a21,()),a25,a22,())) (J37 (((wrap .i64 (a14+a23)),(wrap .i64 (a15+1)),a16,()),a26,a18,(a19,a20,a21,()),a25,a22,()))) (some (a18,a22,a17))) fu ((a2,a3,a11,()),a12,a6,(a7,a8,a9,()),[],()))) fu ((p2,(max p1.Now 864000),1,0,()),p0,p1,(0,0,0,()),())
theorem Qf6:FO 30 (Qf [.one (.ref 1),.st .Ledger,nI] [bx 1 .Dice] [.st .Ledger,.one (.lst .Op)] [bx 1 .Dice] [] (D.Ledger×List D.Op×D.Dice) (fun q=>((q.1,q.2.1,()),q.2.2,())) (fun x y=>V5 fu y.1 x.1 x.2.1)):=fI fu (gs 4 (.two (.two .go (.one (.loop [(0,.one (.ref 1)),ni 2,rf 4,rf 6,(8,.one .nul),ni 9,ni 10,ni 11] [bx 1 .Dice,bx 1004 .Ledger,(1006,.box bI3)] .go))) (lp [(0,.one (.ref 1)),rf 4,rf 6,(8,.one (.own 1066)),ni 9,ni 10,ni 12] [bx 1 .Dice,bx 1004 .Ledger,(1006,.box bI3),ar 1066 .Op] (.two .go (.two (.one (gs 3 (.two (.join [(0,.one (.ref 1)),rf 4,rf 6,(8,.one (.own 1066)),ni 9,ni 10,ni 12,rf 13] [bx 1 .Dice,bx 1004 .Ledger,(1006,.box bI3),bx 1013 .Op,ar 1066 .Op] .go) .go))) .go))))) (fun a b=>(a.1,a.2.1,b.1)) (eC (Qiq fu) (eC (Q6 fu) (eC (Qdc fu) (eC (Yj fu) (eC (QmX fu) eN))))) Tryz.func30
def WJ(p0:D.Dice)(p1:Int):Option (D.Ledger×List D.Op×D.Dice):=optc (Wx fu p0) fun(a0,a1)=>optc (V4 fu a1) fun(a2,a3)=>optc (QiO fu a0 a2) fun(a4,a5)=>optc (V5 fu a3 a4 p1) fun(a6,a7,a8)=>some (a6,a7,a8)
theorem Qey:FO 13 (Qf [.one (.ref 1),nI] [bx 1 .Dice] [.st .Ledger,.one (.lst .Op)] [bx 1 .Dice] [] (D.Ledger×List D.Op×D.Dice) (fun q=>((q.1,q.2.1,()),q.2.2,())) (fun x y=>WJ fu y.1 x.1)):=fI fu .go (fun a b=>(a.1,a.2.1,b.1)) (eC (QjZ fu) (eC (Qbj fu) (eC (Qf5 fu) (eC (Qf6 fu) eN)))) Tryz.func13
def UU(p0:List Int)(p1:List Int):Option Bool:=cd (((p0.length:Nat):Int)≠((p1.length:Nat):Int)) sF (Qh (X:=((List Int×List Int×Int×Unit)×Unit)) (fun L0 ((a1,a2,a3,_),_)=>cd (a3<((a1.length:Nat):Int)) (atc a1 a3 fun a4=>atc a2 a3 fun a5=>cd (a4≠a5) sF (L0 ((a1,a2,(wrap .i64 (a3+1)),()),()))) sT) fu ((p0,p1,0,()),()))
theorem Qb7:FO 49 (sB [lI,lI] fun x=>UU fu x.1 x.2.1):=fI fu (gs 2 (lp [(0,lI),(1,lI),ni 5] [] .go)) (fun a b=>a.1) eN Tryz.func49
def Qfy(p0:D.Zone)(p1:D.Zone):Option Bool:=join (Y:=(Unit×D.Zone×D.Zone×Unit)) (fun(_,a0,a1,_)=>Qh (X:=((Int×Unit)×D.Zone×D.Zone×Unit)) (fun L2 ((a3,_),a4,a5,_)=>cd (a3<((a4.Rules.length:Nat):Int)) (atc a4.Rules a3 fun a6=>atc a5.Rules a3 fun a7=>cd ((a6.From::(a6.To::(a6.Month::(a6.Week::(a6.Weekday::(a6.Second::(a6.Offset::[])))))))≠(a7.From::(a7.To::(a7.Month::(a7.Week::(a7.Weekday::(a7.Second::(a7.Offset::[])))))))) sF (L2 (((wrap .i64 (a3+1)),()),a4,a5,()))) sT) fu ((0,()),a0,a1,())) fun J8=>cd (p0.Name≠p1.Name) sF (cd (p0.Offset≠p1.Offset) sF (cd (((p0.Rules.length:Nat):Int)≠((p1.Rules.length:Nat):Int)) sF (J8 ((),p0,p1,()))))
theorem Qm0:FO 56 (sB [.st .Zone,.st .Zone] fun x=>Qfy fu x.1 x.2.1):=fI fu (.two .go (.two (.join [rf 2,rf 3] [bx 1002 .Zone,bx 1003 .Zone] .go) (lp [rf 2,rf 3,ni 5] [bx 1002 .Zone,bx 1003 .Zone] .go))) (fun a b=>a.1) eN Tryz.func56
def VU(p0:List D.Window)(p1:List D.Window):Option Bool:=cd (((p0.length:Nat):Int)≠((p1.length:Nat):Int)) sF (Qh (X:=((List D.Window×List D.Window×Int×Unit)×Unit)) (fun L0 ((a1,a2,a3,_),_)=>cd (a3<((a1.length:Nat):Int)) (atc a1 a3 fun a4=>atc a2 a3 fun a5=>cd ((a4.From::(a4.To::[]))≠(a5.From::(a5.To::[]))) sF (L0 ((a1,a2,(wrap .i64 (a3+1)),()),()))) sT) fu ((p0,p1,0,()),()))
theorem Qed:FO 57 (sB [.one (.lst .Window),.one (.lst .Window)] fun x=>VU fu x.1 x.2.1):=fI fu (gs 2 (lp [li 0 .Window,li 1 .Window,ni 5] [] .go)) (fun a b=>a.1) eN Tryz.func57
def Qfx(p0:D.Schedule)(p1:D.Schedule):Option Bool:=join (Y:=(Unit×D.Schedule×D.Schedule×Unit)) (fun(_,a0,a1,_)=>Qh (X:=((Int×Unit)×D.Schedule×D.Schedule×Unit)) (fun L2 ((a3,_),a4,a5,_)=>cd (a3<((a4.Edits.length:Nat):Int)) (atc a4.Edits a3 fun a6=>atc a5.Edits a3 fun a7=>cd ((a6.Kind::(a6.A::(a6.B::(a6.From::(a6.To::[])))))≠(a7.Kind::(a7.A::(a7.B::(a7.From::(a7.To::[])))))) sF (L2 (((wrap .i64 (a3+1)),()),a4,a5,()))) (Qh (X:=((Int×Unit)×D.Schedule×D.Schedule×Unit)) (fun L8 ((a9,_),a10,a11,_)=>cd (a9<((a10.Layers.length:Nat):Int)) (join (Y:=((Int×Unit)×D.Schedule×D.Schedule×Unit)) (fun((a12,_),a13,a14,_)=>L8 (((wrap .i64 (a12+1)),()),a13,a14,())) fun J15=>atc a10.Layers a9 fun a16=>atc a11.Layers a9 fun a17=>cd (a16.Name≠a17.Name) sF (cd (a16.Zone≠a17.Zone) sF (cd ((a16.Start.Day::(a16.Start.Second::[]))≠(a17.Start.Day::(a17.Start.Second::[]))) sF (cd (a16.Unit≠a17.Unit) sF (cd (a16.Every≠a17.Every) sF (cd (a16.Calendar≠a17.Calendar) sF (cd (a16.Mode≠a17.Mode) sF (optc (UU fu a16.Members a17.Members) fun a18=>cnd a18 (optc (VU fu a16.Windows a17.Windows) fun a19=>cnd a19 (J15 ((a9,()),a10,a11,())) sF) sF)))))))) sT) fu ((0,()),a4,a5,()))) fu ((0,()),a0,a1,())) fun J20=>cd (p0.Name≠p1.Name) sF (cd (((p0.Layers.length:Nat):Int)≠((p1.Layers.length:Nat):Int)) sF (cd (((p0.Edits.length:Nat):Int)≠((p1.Edits.length:Nat):Int)) sF (J20 ((),p0,p1,()))))
theorem QmZ:FO 58 (sB [.st .Schedule,.st .Schedule] fun x=>Qfx fu x.1 x.2.1):=fI fu (.two .go (.two (.join [rf 2,rf 3] [bx 1002 .Schedule,bx 1003 .Schedule] .go) (.two (.two .go (.one (.loop [rf 2,rf 3,ni 5] [bx 1002 .Schedule,bx 1003 .Schedule] .go))) (lp [rf 2,rf 3,ni 6] [bx 1002 .Schedule,bx 1003 .Schedule] (.two .go (.two (.join [rf 2,rf 3,ni 6] [bx 1002 .Schedule,bx 1003 .Schedule] .go) .go)))))) (fun a b=>a.1) (eC (Qb7 fu) (eC (Qed fu) eN)) Tryz.func58
def WB(p0:D.Config)(p1:D.Config):Option Bool:=join (Y:=(Unit×D.Config×D.Config×Unit)) (fun(_,a0,a1,_)=>Qh (X:=((Int×Unit)×D.Config×D.Config×Unit)) (fun L2 ((a3,_),a4,a5,_)=>cd (a3<((a4.Zones.length:Nat):Int)) (atc a4.Zones a3 fun a6=>atc a5.Zones a3 fun a7=>optc (Qfy fu a6 a7) fun a8=>cnd (!a8) sF (L2 (((wrap .i64 (a3+1)),()),a4,a5,()))) (Qh (X:=((Int×Unit)×D.Config×D.Config×Unit)) (fun L9 ((a10,_),a11,a12,_)=>cd (a10<((a11.People.length:Nat):Int)) (join (Y:=((Int×Unit)×D.Config×D.Config×Unit)) (fun((a13,_),a14,a15,_)=>L9 (((wrap .i64 (a13+1)),()),a14,a15,())) fun J16=>atc a11.People a10 fun a17=>atc a12.People a10 fun a18=>cd (a17.Name≠a18.Name) sF (cd (a17.Zone≠a18.Zone) sF (cd (a17.MaxWeek≠a18.MaxWeek) sF (cd (a17.MinRest≠a18.MinRest) sF (cnd a17.Consent (cnd a18.Consent (optc (VU fu a17.Quiet a18.Quiet) fun a19=>cnd a19 (J16 ((a10,()),a11,a12,())) sF) sF) (cnd a18.Consent sF (optc (VU fu a17.Quiet a18.Quiet) fun a20=>cnd a20 (J16 ((a10,()),a11,a12,())) sF))))))) (Qh (X:=((Int×Unit)×D.Config×D.Config×Unit)) (fun L21 ((a22,_),a23,a24,_)=>cd (a22<((a23.Calendars.length:Nat):Int)) (join (Y:=((Int×Unit)×D.Config×D.Config×Unit)) (fun((a25,_),a26,a27,_)=>L21 (((wrap .i64 (a25+1)),()),a26,a27,())) fun J28=>atc a23.Calendars a22 fun a29=>atc a24.Calendars a22 fun a30=>cd (a29.Name≠a30.Name) sF (atc a23.Calendars a22 fun a31=>atc a24.Calendars a22 fun a32=>cd (a31.Zone≠a32.Zone) sF (atc a23.Calendars a22 fun a33=>atc a24.Calendars a22 fun a34=>optc (UU fu a33.Days a34.Days) fun a35=>cnd a35 (J28 ((a22,()),a23,a24,())) sF))) (Qh (X:=((Int×Unit)×D.Config×D.Config×Unit)) (fun L36 ((a37,_),a38,a39,_)=>cd (a37<((a38.Schedules.length:Nat):Int)) (atc a38.Schedules a37 fun a40=>atc a39.Schedules a37 fun a41=>optc (Qfx fu a40 a41) fun a42=>cnd (!a42) sF (L36 (((wrap .i64 (a37+1)),()),a38,a39,()))) sT) fu ((0,()),a23,a24,()))) fu ((0,()),a11,a12,()))) fu ((0,()),a4,a5,()))) fu ((0,()),a0,a1,())) fun J43=>cd (((p0.Zones.length:Nat):Int)≠((p1.Zones.length:Nat):Int)) sF (cd (((p0.People.length:Nat):Int)≠((p1.People.length:Nat):Int)) sF (cd (((p0.Calendars.length:Nat):Int)≠((p1.Calendars.length:Nat):Int)) sF (cd (((p0.Schedules.length:Nat):Int)≠((p1.Schedules.length:Nat):Int)) sF (J43 ((),p0,p1,())))))
theorem Qgm:FO 29 (sB [.st .Config,.st .Config] fun x=>WB fu x.1 x.2.1):=fI fu (.two .go (.two (.join [rf 2,rf 3] [bx 1002 .Config,bx 1003 .Config] .go) (.two (.two .go (.one (.loop [rf 2,rf 3,ni 5] [bx 1002 .Config,bx 1003 .Config] .go))) (.two (.two .go (.one (.loop [rf 2,rf 3,ni 6] [bx 1002 .Config,bx 1003 .Config] (.two .go (.two (.join [rf 2,rf 3,ni 6] [bx 1002 .Config,bx 1003 .Config] .go) .go))))) (.two (.two .go (.one (.loop [rf 2,rf 3,ni 9] [bx 1002 .Config,bx 1003 .Config] (.two .go (.two (.join [rf 2,rf 3,ni 9] [bx 1002 .Config,bx 1003 .Config] .go) .go))))) (lp [rf 2,rf 3,ni 10] [bx 1002 .Config,bx 1003 .Config] .go)))))) (fun a b=>a.1) (eC (Qb7 fu) (eC (Qm0 fu) (eC (Qed fu) (eC (QmZ fu) eN)))) Tryz.func29
def V9(p0:List D.Start)(p1:List D.Start):Option Bool:=cd (((p0.length:Nat):Int)≠((p1.length:Nat):Int)) sF (Qh (X:=((List D.Start×List D.Start×Int×Unit)×Unit)) (fun L0 ((a1,a2,a3,_),_)=>cd (a3<((a1.length:Nat):Int)) (join (Y:=((List D.Start×List D.Start×Int×Unit)×Unit)) (fun((a4,a5,a6,_),_)=>L0 ((a4,a5,(wrap .i64 (a6+1)),()),())) fun J7=>atc a1 a3 fun a8=>atc a2 a3 fun a9=>cd (a8.K≠a9.K) sF (atc a1 a3 fun a10=>atc a2 a3 fun a11=>cd (a10.At≠a11.At) sF (atc a1 a3 fun a12=>atc a2 a3 fun a13=>optc (UU fu a12.People a13.People) fun a14=>cnd a14 (J7 ((a1,a2,a3,()),())) sF))) sT) fu ((p0,p1,0,()),()))
theorem Qgl:FO 55 (sB [.one (.lst .Start),.one (.lst .Start)] fun x=>V9 fu x.1 x.2.1):=fI fu (gs 2 (lp [li 0 .Start,li 1 .Start,ni 5] [] (.two .go (.two (.join [li 0 .Start,li 1 .Start,ni 5] [] .go) .go)))) (fun a b=>a.1) (eC (Qb7 fu) eN) Tryz.func55
def Qfu(p0:D.Page)(p1:D.Page):Option Bool:=cd (p0.ID=p1.ID) (cd (p0.Policy=p1.Policy) (cd (p0.Start=p1.Start) (cd (p0.Next=p1.Next) (cd (p0.Due=p1.Due) (cd (p0.State=p1.State) (cd (p0.By=p1.By) (cd (p0.Until=p1.Until) (cd (p0.Last=p1.Last) (cd (p0.Snoozes=p1.Snoozes) (cd (p0.Hands=p1.Hands) (optc (V9 fu p0.Starts p1.Starts) fun a0=>cnd a0 (optc (UU fu p0.Declined p1.Declined) fun a1=>cnd a1 (optc (UU fu p0.Seen p1.Seen) fun a2=>cnd a2 sT sF) sF) sF) sF) sF) sF) sF) sF) sF) sF) sF) sF) sF) sF
theorem Qn8:FO 28 (sB [.st .Page,.st .Page] fun x=>Qfu fu x.1 x.2.1):=fI fu .go (fun a b=>a.1) (eC (Qb7 fu) (eC (Qgl fu) eN)) Tryz.func28
def WG(p0:List Int):Option Bool:=optc (Qf7 fu p0) fun a0=>cnd (!a0) (optc (Qbi fu) fun a1=>some a1) (optc (Qff fu p0) fun a2=>optc (WJ fu a2 6) fun(a3,a4,a5)=>optc (QP fu a5 (0::(60::(600::(2000::[]))))) fun(a6,a7)=>optc (Qe fu a7 3) fun(a8,a9)=>optc (Yh fu a9) fun(a10,a11)=>optc (VP fu a3 (D.Op.mk 99 5 0 0 (wrap .i64 (a3.Now+a6)) 0 0 0 a8 (D.Answer.mk 0 0 0 0 0 0) a10)) fun(a12,a13)=>optc (Qbq fu a3.Config a8 a10) fun(a14,a15)=>join (Y:=((Int×Int×Unit)×D.Ledger×D.Ledger×D.Config×Unit)) (fun((a16,a17,_),a18,a19,a20,_)=>join (Y:=((Int×Unit)×D.Ledger×D.Ledger×D.Config×Unit)) (fun((a21,_),a22,a23,a24,_)=>Qh (X:=(P3×D.Ledger×D.Ledger×D.Config×Unit)) (fun L25 ((a26,a27,a28,_),a29,a30,a31,_)=>cd (a28<a27) (join (Y:=(P3×D.Ledger×D.Ledger×D.Config×Unit)) (fun((a32,a33,a34,_),a35,a36,a37,_)=>L25 ((a32,a33,(wrap .i64 (a34+1)),()),a35,a36,a37,())) fun J38=>atc a29.Pages a28 fun a39=>optc (Qgk fu a29.Config a29.Book a39 a26) fun(a40,a41)=>cd (a41≠0) sF (atc a30.Pages a28 fun a42=>optc (Qfu fu a40 a42) fun a43=>cnd a43 (J38 ((a26,a27,a28,()),a29,a30,a31,())) sF)) (optc (WB fu a30.Config a31) fun a44=>cnd a44 (optc (Qbi fu) fun a45=>cnd a45 sT sF) sF)) fu ((a21,((a22.Pages.length:Nat):Int),0,()),a22,a23,a24,())) fun J46=>cd (a17≠0) (J46 ((a16,()),a18,a19,a18.Config,())) (J46 ((a16,()),a18,a19,a20,()))) fun J47=>cd (a13≠a15) sF (cd (((a12.Pages.length:Nat):Int)≠((a3.Pages.length:Nat):Int)) sF (J47 (((wrap .i64 (a3.Now+a6)),a15,()),a3,a12,a14,()))))
theorem Qeu:FO 5 (sB [lI] fun x=>WG fu x.1):=fI fu (gs 8 (.two (.join [rf 4,ni 6,rf 8,rf 10,ni 11] [bx 1004 .Ledger,bx 1008 .Ledger,bx 1010 .Config] .go) (.two (.join [rf 4,ni 6,rf 8,rf 10] [bx 1004 .Ledger,bx 1008 .Ledger,bx 1010 .Config] .go) (lp [rf 4,ni 6,rf 8,rf 10,ni 72,ni 73] [bx 1004 .Ledger,bx 1008 .Ledger,bx 1010 .Config] (gs 2 (.two (.join [rf 4,ni 6,rf 8,rf 10,ni 72,ni 73] [bx 1004 .Ledger,bx 1008 .Ledger,bx 1010 .Config] .go) .go)))))) (fun a b=>a.1) (eC (QkK fu) (eC (QkH fu) (eC (QgG fu) (eC (Qey fu) (eC (Q6 fu) (eC (Qea fu) (eC (Yj fu) (eC (X2 fu) (eC (QgL fu) (eC (QjY fu) (eC (Qn8 fu) (eC (Qgm fu) eN)))))))))))) Tryz.func5
end
end Go.Proofs.YtgokjdfkpnkekaaGreat
/-
  What functions do: all parts.
-/
/-
  What package pagewatchmade makes (dice, targets, books, crews, answers), of what is reckoned of its code.
-/
set_option linter.unusedSimpArgs false
namespace Go.Proofs.YtgokjdfkpnkekaaGreat
open Go AM
theorem QiW{a n:Int}(hn:1≤n): -n<a.tmod n∧a.tmod n<n:=by
 rcases(show a<0∨0≤a by omega)with h|h
 ·have e:a.tmod n = - ((-a).tmod n):=by rw[Int.neg_tmod,Int.neg_neg]
  rw[e,Int.tmod_eq_emod_of_nonneg (by omega)]
  have h1:=Int.emod_lt_of_pos (-a) (b:=n) (by omega)
  have h2:=Int.emod_nonneg (-a) (b:=n) (by omega)
  omega
 ·rw[Int.tmod_eq_emod_of_nonneg h]
  have h1:=Int.emod_lt_of_pos a (b:=n) (by omega)
  have h2:=Int.emod_nonneg a (b:=n) (by omega)
  omega
structure ZH (L:List Int) (d:D.Dice):Prop where
 l:d.L=L
 lo:0≤d.At
 hi:d.At≤(L.length:Int)
variable {fu:Nat} {L:List Int}
theorem Qrr{d:D.Dice}{n:Int}(hL:L.length≤500)(hd:ZH L d)(hn:n≤1000000):
  Ok (Qe fu d n) fun r=>ZH L r.2∧0≤r.1∧(1≤n→r.1<n)∧(n<1→r.1=0):=by
 unfold Qe AM.join
 have h0:=hd.lo
 have h1:=hd.hi
 have hl:((d.L.length:Nat):Int)=(L.length:Int):=by rw[hd.l]
 refine Ok.ite (fun h=>Ok.s ⟨hd,Int.le_refl _,fun h=>by show(0:Int)<n;omega,fun _=>rfl⟩) fun h2=>Ok.ite (fun h=>Ok.s ⟨hd,Int.le_refl _,fun h=>by show(0:Int)<n;omega,fun _=>rfl⟩) fun h3=>?_
 dsimp only
 refine Ok.at hd.lo (by omega) (Ok.nzc (by omega) ?_)
 have ht:=QiW (a:=nth d.L d.At.toNat) (n:=n) (by omega)
 rw[QfJ (x:=d.At+1) (by omega) (by omega)]
 refine Ok.ite (fun h4=>?_) (fun h4=>?_)
 ·rw[QfJ (by omega) (by omega)]
  exact Ok.s ⟨⟨hd.l,by show 0≤d.At+1;omega,by show d.At+1≤_;omega⟩,by dsimp only;omega,fun _=>by dsimp only;omega,fun h=>by omega⟩
 ·exact Ok.s ⟨⟨hd.l,by show 0≤d.At+1;omega,by show d.At+1≤_;omega⟩,by dsimp only;omega,fun _=>by dsimp only;omega,fun h=>by omega⟩
theorem nx{d:D.Dice}{n:Int}(hL:L.length≤500)(hd:ZH L d)(h1:1≤n)(hn:n≤1000000):
  Ok (Qe fu d n) fun r=>ZH L r.2∧0≤r.1∧r.1<n:=(Qrr hL hd hn).mono fun r h=>⟨h.1,h.2.1,h.2.2.1 h1⟩
theorem QaK{d:D.Dice}{l:List Int}(hL:L.length≤500)(hd:ZH L d)(hl:1≤l.length)(hl2:l.length≤1000):
  Ok (QP fu d l) fun r=>ZH L r.2∧r.1∈l:=by
 unfold QP
 refine Ok.opt (Qrr hL hd (by omega)) fun⟨v,d1⟩ ⟨h1,h2,h3,_⟩=>?_
 have h4:=h3 (by omega)
 dsimp only at h2 h4 ⊢
 exact Ok.at h2 h4 (Ok.s ⟨h1,Qk (by omega)⟩)
theorem QeC{d:D.Dice}(hL:L.length≤500)(hd:ZH L d):Ok (Yh fu d) fun r=>ZH L r.2∧U5 r.1:=by
 unfold Yh
 refine Ok.opt (QaK hL hd (by simp) (by simp)) fun⟨a0,d1⟩ ⟨h1,m1⟩=>?_
 dsimp only at h1 m1 ⊢
 refine Ok.opt (nx hL h1 (by omega) (by omega)) fun⟨a2,d2⟩ ⟨h2,l2,u2⟩=>?_
 dsimp only at h2 l2 u2 ⊢
 refine Ok.opt (nx hL h2 (by omega) (by omega)) fun⟨a4,d3⟩ ⟨h3,l3,u3⟩=>?_
 dsimp only at h3 l3 u3 ⊢
 refine Ok.opt (QaK hL h3 (by simp) (by simp)) fun⟨a6,d4⟩ ⟨h4,m4⟩=>?_
 dsimp only at h4 m4 ⊢
 simp only[List.mem_cons,List.not_mem_nil,or_false]at m1 m4
 rw[Qc (x:=864000+a0) (by omega),Qc (x:=864000+a0+a6) (by omega)]
 refine Ok.j (Ok.ite (fun h=>?_) (fun h=>Ok.ite (fun h'=>?_) (fun h'=>?_)))
 ·refine Ok.opt (nx hL h4 (by omega) (by omega)) fun⟨a7,d5⟩ ⟨h5,l5,u5⟩=>?_
  dsimp only at h5 l5 u5 ⊢
  rw[Qc (x:=a4+1) (by omega),Qc (x:=a4+1+a7) (by omega),Int.tmod_eq_emod_of_nonneg (by omega)]
  exact Ok.nzc (by omega) (Ok.s ⟨h5,⟨by dsimp only;omega,.inl (by dsimp only;omega),fun _=>by dsimp only;omega,fun h=>by dsimp only at h;omega,by dsimp only;omega⟩⟩)
 ·refine Ok.opt (nx hL h4 (by omega) (by omega)) fun⟨a7,d5⟩ ⟨h5,l5,u5⟩=>?_
  dsimp only at h5 l5 u5 ⊢
  rw[Qc (x:=a7 - 1) (by omega)]
  exact Ok.s ⟨h5,⟨by dsimp only;omega,by dsimp only;omega,fun h=>by dsimp only at h;omega,fun _=>rfl,by dsimp only;omega⟩⟩
 ·exact Ok.s ⟨h4,⟨by dsimp only;omega,.inl (by dsimp only;omega),fun h=>by dsimp only at h;omega,fun _=>rfl,by dsimp only;omega⟩⟩
theorem QG{α:Type}[Inhabited α]{l:List α}{i:Nat}(h:i<l.length):l.take i++[nth l i]=l.take (i+1):=by
 rw[List.take_succ_eq_append_getElem h]
 simp[nth,List.getD_eq_getElem?_getD,List.getElem?_eq_getElem h]
theorem WK{α:Type}{P:α→Prop}{l:List α}{x:α}(h:∀y∈l,P y)(hx:P x):∀y∈l++[x],P y:=fun y hy=>by
 rcases List.mem_append.1 hy with hy|hy
 ·exact h y hy
 ·rw[List.mem_singleton.1 hy];exact hx
theorem QuH{d:D.Dice}(hL:L.length≤500)(hd:ZH L d)(hf:10≤fu):Ok (Wx fu d) fun r=>ZH L r.2∧Q1 2 r.1:=by
 unfold Wx
 refine Ok.opt (QaK hL hd (by simp) (by simp)) fun⟨a0,d1⟩ ⟨h1,m1⟩=>?_
 dsimp only at h1 m1 ⊢
 simp only[List.mem_cons,List.not_mem_nil,or_false]at m1
 refine Ok.loop (fun m x=>x.1.1=Yc∧0≤x.1.2.1∧x.1.2.1≤4∧ZH L x.2.1∧x.2.2.2.1.1=[⟨bZ,a0,[]⟩]∧x.2.2.2.2.1.map (·.Name)=Yc.take x.1.2.1.toNat∧(∀p∈x.2.2.2.2.1,V1 p)∧(4 - x.1.2.1).toNat=m) (m:=4) (by omega)
  ⟨rfl,by dsimp only;omega,by dsimp only;omega,h1,rfl,rfl,by simp,rfl⟩ ?_
 rintro m ⟨⟨a3,a4,⟨⟩⟩,a5,⟨⟩,⟨a6,⟨⟩⟩,a7,⟨⟩⟩ ⟨i1,i2,i3,i4,i5,i6,i7,i8⟩ k hk
 dsimp only at i1 i2 i3 i4 i5 i6 i7 i8 ⊢
 subst i1;subst i5
 refine Ok.ite (fun h4=>?_) (fun h4=>?_)
 ·have hlen:Yc.length=4:=rfl
  have hal:a7.length=a4.toNat:=by have:=congrArg List.length i6;rw[List.length_map,List.length_take,hlen]at this;omega
  refine Ok.at (by omega) (by omega) ?_
  refine Ok.opt (nx hL i4 (by omega) (by omega)) fun⟨a9,d2⟩ ⟨h2,_⟩=>?_
  dsimp only at h2 ⊢
  refine Ok.join (fun y=>y.1.1=Yc∧y.1.2.1=a4∧ZH L y.2.1∧y.2.2.2.1.1=[⟨bZ,a0,[]⟩]∧y.2.2.2.2.1.Name=nth Yc a4.toNat∧V1 y.2.2.2.2.1∧y.2.2.2.2.2.1=a7) (fun y hy=>?_) (fun J hJ=>?_)
  ·obtain⟨⟨a11,a12,⟨⟩⟩,a13,⟨⟩,⟨a14,⟨⟩⟩,a15,a16,⟨⟩⟩:=y
   obtain⟨g1,g2,g3,g4,g5,g6,g7⟩:=hy
   dsimp only at g1 g2 g3 g4 g5 g6 g7 ⊢
   subst g1;subst g2;subst g4;subst g7
   refine Ok.lec (by simp;omega) ?_
   rw[Qc (by omega)]
   refine hk (4 - (a12+1)).toNat _ (by omega) ⟨rfl,by dsimp only;omega,by dsimp only;omega,g3,rfl,?_,WK i7 g6,rfl⟩
   dsimp only
   rw[List.map_append,i6,List.map_cons,List.map_nil,g5,QG (by rw[hlen];omega),show(a12+1).toNat=a12.toNat+1 by omega]
  ·refine Ok.opt (nx hL h2 (by omega) (by omega)) fun⟨a18,d3⟩ ⟨h3,_⟩=>?_
   dsimp only at h3 ⊢
   refine Ok.ite (fun h5=>?_) (fun h5=>hJ _ ⟨rfl,rfl,h3,rfl,rfl,⟨rfl,⟨rfl,rfl⟩,.inl rfl⟩,rfl⟩)
   refine Ok.opt (QaK hL h3 (by simp) (by simp)) fun⟨a20,d4⟩ ⟨h6,m6⟩=>?_
   dsimp only at h6 m6 ⊢
   refine Ok.opt (QaK hL h6 (by simp) (by simp)) fun⟨a22,d5⟩ ⟨h7,m7⟩=>?_
   dsimp only at h7 m7 ⊢
   simp only[List.mem_cons,List.not_mem_nil,or_false]at m6 m7
   exact hJ _ ⟨rfl,rfl,h7,rfl,rfl,⟨rfl,⟨rfl,rfl⟩,.inr ⟨a20,a22,rfl,m6,m7⟩⟩,rfl⟩
 ·have e4:a4=4:=by omega
  subst e4
  refine Ok.loop (fun m x=>0≤x.1.1∧x.1.1≤2∧ZH L x.2.1∧x.2.2.2.1.1=[⟨bZ,a0,[]⟩]∧x.2.2.2.2.1=a7∧x.2.2.2.2.2.1.map (·.Name)=Yu.take x.1.1.toNat∧(∀s∈x.2.2.2.2.2.1,QbK 2 s)∧(2 - x.1.1).toNat=m) (m:=2) (by omega)
   ⟨by dsimp only;omega,by dsimp only;omega,i4,rfl,rfl,rfl,by simp,rfl⟩ ?_
  rintro m2 ⟨⟨a25,⟨⟩⟩,a26,⟨⟩,⟨a27,⟨⟩⟩,a28,a29,⟨⟩⟩ ⟨j1,j2,j3,j4,j5,j6,j7,j8⟩ k2 hk2
  dsimp only at j1 j2 j3 j4 j5 j6 j7 j8 ⊢
  subst j4;subst j5
  refine Ok.ite (fun h5=>?_) (fun h5=>?_)
  ·have hlen:Yu.length=2:=rfl
   have hal:a29.length=a25.toNat:=by have:=congrArg List.length j6;rw[List.length_map,List.length_take,hlen]at this;omega
   refine Ok.opt (QaK hL j3 (by simp) (by simp)) fun⟨a30,d2⟩ ⟨h2,m2⟩=>?_
   dsimp only at h2 m2 ⊢
   refine Ok.opt (QaK hL h2 (by simp) (by simp)) fun⟨a32,d3⟩ ⟨h3,m3⟩=>?_
   dsimp only at h3 m3 ⊢
   refine Ok.opt (QaK hL h3 (by simp) (by simp)) fun⟨a34,d4⟩ ⟨h4',m4⟩=>?_
   dsimp only at h4' m4 ⊢
   refine Ok.opt (nx hL h4' (by omega) (by omega)) fun⟨a36,d5⟩ ⟨h6,l6,u6⟩=>?_
   dsimp only at h6 l6 u6 ⊢
   refine Ok.opt (nx hL h6 (by omega) (by omega)) fun⟨a38,d6⟩ ⟨h7,l7,u7⟩=>?_
   dsimp only at h7 l7 u7 ⊢
   simp only[List.mem_cons,List.not_mem_nil,or_false]at m2 m3 m4
   rw[Qc (x:=1+a36) (by omega),Qc (x:=1+a38) (by omega)]
   refine Ok.loop (fun m x=>x.1.1=a25∧0≤x.1.2.1∧ZH L x.2.1∧x.2.2.2.1.1=[⟨bZ,a0,[]⟩]∧x.2.2.2.2.1=(ByteArray.mk #[108],0,a30,a32,a34,1+a36,0,0,())∧x.2.2.2.2.2.1=a28∧x.2.2.2.2.2.2.1=a29∧
    (∀z∈x.2.2.2.2.2.2.2.1,0≤z∧z<4)∧x.1.2.1+(x.2.2.2.2.2.2.2.1.length:Int)=1+a38∧x.1.2.1.toNat=m) (m:=(1+a38).toNat) (by omega) ⟨rfl,by dsimp only;omega,h7,rfl,rfl,rfl,rfl,by simp,by dsimp only;simp,rfl⟩ ?_
   rintro m3' ⟨⟨a41,a42,⟨⟩⟩,a43,⟨⟩,⟨a44,⟨⟩⟩,⟨a45,a46,a47,a48,a49,a50,a51,a52,⟨⟩⟩,a53,a54,a55,⟨⟩⟩ ⟨n1,n2,n3,n4,n5,n6,n7,n8,n9,n10⟩ k3 hk3
   dsimp only at n1 n2 n3 n4 n5 n6 n7 n8 n9 n10 ⊢
   cases n5;subst n1;subst n4;subst n6;subst n7
   refine Ok.ite (fun h8=>?_) (fun h8=>?_)
   ·refine Ok.opt (nx hL n3 (by omega) (by omega)) fun⟨a56,d7⟩ ⟨h9,l9,u9⟩=>?_
    dsimp only at h9 l9 u9 ⊢
    refine Ok.lec (by simp;omega) ?_
    rw[Qc (by omega)]
    exact hk3 (a42 - 1).toNat _ (by omega) ⟨rfl,by dsimp only;omega,h9,rfl,rfl,rfl,rfl,WK n8 ⟨l9,u9⟩,by dsimp only;rw[List.length_append];simp only[List.length_cons,List.length_nil];omega,rfl⟩
   ·refine Ok.at (by omega) (by simp only[List.length_cons,List.length_nil];omega) ?_
    refine Ok.opt (nx hL n3 (by omega) (by omega)) fun⟨a59,d7⟩ ⟨h9,l9,u9⟩=>?_
    dsimp only at h9 l9 u9 ⊢
    refine Ok.loop (fun m x=>x.1.1=a41∧0≤x.1.2.1∧ZH L x.2.1∧x.2.2.2.1.1=[⟨bZ,a0,[]⟩]∧x.2.2.2.2.1=(nth Yu a41.toNat,[(⟨ByteArray.mk #[108],0,⟨a30,a32⟩,a34,1+a36,a55,[],0,0⟩:D.Layer)],())∧x.2.2.2.2.2.1=a53∧x.2.2.2.2.2.2.1=a54∧
     (∀z∈x.2.2.2.2.2.2.2.1,U5 z)∧x.1.2.1+(x.2.2.2.2.2.2.2.1.length:Int)=a59∧x.1.2.1.toNat=m) (m:=a59.toNat) (by omega) ⟨rfl,by dsimp only;omega,h9,rfl,rfl,rfl,rfl,by simp,by dsimp only;simp,rfl⟩ ?_
    rintro m4' ⟨⟨a62,a63,⟨⟩⟩,a64,⟨⟩,⟨a65,⟨⟩⟩,⟨a66,a67,⟨⟩⟩,a68,a69,a70,⟨⟩⟩ ⟨p1,p2,p3,p4,p5,p6,p7,p8,p9,p10⟩ k4 hk4
    dsimp only at p1 p2 p3 p4 p5 p6 p7 p8 p9 p10 ⊢
    cases p5;subst p1;subst p4;subst p6;subst p7
    refine Ok.ite (fun h10=>?_) (fun h10=>?_)
    ·refine Ok.opt (QeC hL p3) fun⟨a71,d8⟩ ⟨h11,e11⟩=>?_
     dsimp only at h11 e11 ⊢
     refine Ok.lec (by simp;omega) ?_
     rw[Qc (by omega)]
     exact hk4 (a63 - 1).toNat _ (by omega) ⟨rfl,by dsimp only;omega,h11,rfl,rfl,rfl,rfl,WK p8 e11,by dsimp only;rw[List.length_append];simp only[List.length_cons,List.length_nil];omega,rfl⟩
    ·refine Ok.lec (by simp;omega) ?_
     rw[Qc (by omega)]
     refine hk2 (2 - (a62+1)).toNat _ (by omega) ⟨by dsimp only;omega,by dsimp only;omega,p3,rfl,rfl,?_,WK j7 ⟨⟨_,rfl,⟨rfl,rfl,m2,by dsimp only;omega,by dsimp only;omega,by dsimp only;omega,by dsimp only;omega,n8,rfl,⟨rfl,rfl⟩⟩⟩,by dsimp only;omega,p8⟩,rfl⟩
     dsimp only
     rw[List.map_append,j6,List.map_cons,List.map_nil,QG (by rw[hlen];omega),show(a62+1).toNat=a62.toNat+1 by omega]
  ·have e2:a25=2:=by omega
   subst e2
   exact Ok.s ⟨j3,⟨⟨a0,rfl,m1⟩,i6,i7,rfl,j6,j7⟩⟩
theorem Qsd{d:D.Dice}{b:D.Book}(hL:L.length≤500)(hd:ZH L d)(hb:b.Teams.length≤100):
  Ok (YK fu d b) fun r=>ZH L r.2∧Va b.Teams.length r.1:=by
 unfold YK
 refine Ok.opt (nx hL hd (by omega) (by omega)) fun⟨v,d1⟩ ⟨h1,h2,h4⟩=>?_
 dsimp only at h1 h2 h4 ⊢
 refine Ok.join (fun y=>0≤y.1.1∧y.1.1<3∧(y.1.1=2→1≤b.Teams.length)∧ZH L y.2.1∧y.2.2.2.2.1=b.Teams∧y.2.2.2.2.2.1=b.Policies) (fun y hy=>?_) (fun J hJ=>?_)
 ·obtain⟨⟨a2,⟨⟩⟩,d2,⟨⟩,tg,ts,ps,⟨⟩⟩:=y
  obtain⟨g1,g2,g0,g3,g4,g5⟩:=hy
  dsimp only at g1 g2 g0 g3 g4 g5 ⊢
  subst g4;subst g5
  refine Ok.at g1 (by simp;omega) ?_
  have h3:a2=0∨a2=1∨a2=2:=by omega
  have e:nth [4,2,((b.Teams.length:Nat):Int)] a2.toNat=if a2=0 then 4 else if a2=1 then 2 else((b.Teams.length:Nat):Int):=by rcases h3 with h3|h3|h3<;>subst h3<;>rfl
  rw[e]
  refine Ok.opt (nx hL g3 (by(repeat' split)<;>omega) (by(repeat' split)<;>omega)) fun⟨v2,d3⟩ ⟨k1,k2,k3⟩=>?_
  dsimp only at k1 k2 k3 ⊢
  refine Ok.sameC (Ok.sameC (Ok.s ⟨k1,⟨h3,k2,fun h=>?_,fun h=>?_,fun h=>?_⟩⟩))<;>dsimp only at h⊢<;>subst h<;>simpa using k3
 ·refine Ok.ite (fun h5=>Ok.ite (fun h6=>hJ _ ⟨by dsimp only;omega,by dsimp only;omega,fun h=>by dsimp only at h;omega,h1,rfl,rfl⟩) (fun h6=>hJ _ ⟨h2,h4,fun h=>by omega,h1,rfl,rfl⟩)) (fun h5=>hJ _ ⟨h2,h4,fun h=>absurd h h5,h1,rfl,rfl⟩)
theorem QuC{d:D.Dice}(hL:L.length≤500)(hd:ZH L d)(hf:10≤fu):
  Ok (V4 fu d) fun r=>ZH L r.2∧QJ r.1:=by
 unfold V4
 refine Ok.opt (nx hL hd (by omega) (by omega)) fun⟨v,d1⟩ ⟨h1,h2,h4⟩=>?_
 dsimp only at h1 h2 h4 ⊢
 refine Ok.loop (fun m x=>ZH L x.2.1∧0≤x.1.1∧x.1.1+(x.2.2.2.2.1.length:Int)≤2∧x.2.2.2.2.1.map (·.Name)=QeX.take x.2.2.2.2.1.length∧(∀t∈x.2.2.2.2.1,QlI t)∧x.1.1.toNat=m) (m:=v.toNat) (by omega) ⟨h1,h2,by dsimp only;simp;omega,rfl,by simp,rfl⟩ ?_
 rintro m ⟨⟨a3,⟨⟩⟩,d2,⟨⟩,⟨⟩,ts,⟨⟩⟩ ⟨i1,i2,i3,i5,i6,i4⟩ k hk
 dsimp only at i1 i2 i3 i5 i6 i4 ⊢
 refine Ok.ite (fun h5=>?_) (fun h5=>?_)
 ·refine Ok.at (by omega) (by simp only[List.length_cons,List.length_nil];omega) ?_
  refine Ok.opt (nx hL i1 (by omega) (by omega)) fun⟨v2,d3⟩ ⟨j1,j2,j3⟩=>?_
  dsimp only at j1 j2 j3 ⊢
  refine Ok.join (fun y=>ZH L y.2.1∧y.1.1=a3∧y.2.2.2.2.2.1=ts∧y.2.2.2.2.1.Name=nth QeX ts.length∧QlI y.2.2.2.2.1) (fun y hy=>?_) (fun J hJ=>?_)
  ·obtain⟨⟨a9,⟨⟩⟩,d4,⟨⟩,⟨⟩,tm,ts2,⟨⟩⟩:=y
   obtain⟨q1,q2,q3,q4,q5⟩:=hy
   dsimp only at q1 q2 q3 q4 q5 ⊢
   subst q2;subst q3
   refine Ok.lec (by simp;omega) ?_
   rw[QfJ (by omega) (by omega)]
   refine hk (a9 - 1).toNat _ (by omega) ⟨q1,by dsimp only;omega,by dsimp only;rw[List.length_append];simp only[List.length_cons,List.length_nil];omega,?_,WK i6 q5,rfl⟩
   dsimp only
   rw[List.map_append,i5,List.map_cons,List.map_nil,q4,QG (by show _<2;omega),List.length_append];rfl
  ·refine Ok.opt (nx hL j1 (by omega) (by omega)) fun⟨v3,d4⟩ ⟨k1,_⟩=>?_
   dsimp only at k1 ⊢
   refine Ok.ite (fun _=>?_) (fun _=>hJ _ ⟨k1,rfl,rfl,rfl,⟨by simp[Asc],by simp,by simp;omega⟩⟩)
   refine Ok.opt (nx hL k1 (by omega) (by omega)) fun⟨v4,d5⟩ ⟨l1,l2,l3⟩=>?_
   dsimp only at l1 l2 l3 ⊢
   rw[Qc (by omega)]
   exact Ok.lec (by simp) (hJ _ ⟨l1,rfl,rfl,rfl,⟨by simp[Asc];omega,by simp,by simp;omega⟩⟩)
 ·refine Ok.opt (nx hL i1 (by omega) (by omega)) fun⟨v2,d3⟩ ⟨j1,j2,j4⟩=>?_
  dsimp only at j1 j2 j4 ⊢
  rw[QfJ (by omega) (by omega)]
  refine Ok.loop (fun m x=>ZH L x.2.1∧0≤x.1.1∧x.2.2.2.2.1=ts∧x.1.1+(x.2.2.2.2.2.1.length:Int)=1+v2∧x.2.2.2.2.2.1.map (·.Name)=Qi5.take x.2.2.2.2.2.1.length∧(∀p∈x.2.2.2.2.2.1,Qba ts.length p)∧x.1.1.toNat=m) (m:=(1+v2).toNat) (by omega) ⟨j1,by dsimp only;omega,rfl,by dsimp only;simp,rfl,by simp,rfl⟩ ?_
  rintro m ⟨⟨a21,⟨⟩⟩,d4,⟨⟩,⟨⟩,ts2,ps,⟨⟩⟩ ⟨n1,n2,n3,n4,n6,n7,n5⟩ k2 hk2
  dsimp only at n1 n2 n3 n4 n5 n6 n7 ⊢
  subst n3
  refine Ok.ite (fun h6=>?_) (fun h6=>Ok.s ⟨n1,⟨by dsimp only;omega,i5,i6,by dsimp only;omega,n6,n7⟩⟩)
  refine Ok.at (by omega) (by simp only[List.length_cons,List.length_nil];omega) ?_
  refine Ok.opt (QaK hL n1 (by simp) (by simp)) fun⟨v3,d5⟩ ⟨o1,r1⟩=>?_
  dsimp only at o1 r1 ⊢
  refine Ok.opt (nx hL o1 (by omega) (by omega)) fun⟨v4,d6⟩ ⟨o2,o3,o5⟩=>?_
  dsimp only at o2 o3 o5 ⊢
  simp only[List.mem_cons,List.not_mem_nil,or_false]at r1
  rw[QfJ (x:=1+v4) (by omega) (by omega)]
  refine Ok.loop (fun m x=>ZH L x.2.1∧x.1.1=a21∧0≤x.1.2.1∧x.2.2.2.2.1=(nth Qi5 ps.length,v3,())∧x.2.2.2.2.2.1=ts2∧x.2.2.2.2.2.2.1=ps∧x.1.2.1+(x.2.2.2.2.2.2.2.1.length:Int)=1+v4∧(∀s∈x.2.2.2.2.2.2.2.1,StepOK' ts2.length s)∧x.1.2.1.toNat=m) (m:=(1+v4).toNat) (by omega) ⟨o2,rfl,by dsimp only;omega,rfl,rfl,rfl,by dsimp only;simp,by simp,rfl⟩ ?_
  rintro m3 ⟨⟨a31,a32,⟨⟩⟩,d7,⟨⟩,⟨⟩,⟨nm,rp,⟨⟩⟩,ts3,ps3,ss,⟨⟩⟩ ⟨p1,p2,p3,p0,p4,p5,p6,p8,p7⟩ k3 hk3
  dsimp only at p1 p2 p3 p0 p4 p5 p6 p7 p8 ⊢
  cases p0
  subst p2;subst p4;subst p5
  refine Ok.ite (fun h7=>?_) (fun h7=>?_)
  ·refine Ok.opt (QaK hL p1 (by simp) (by simp)) fun⟨v5,d8⟩ ⟨s1,s2⟩=>?_
   dsimp only at s1 s2 ⊢
   refine Ok.opt (nx hL s1 (by omega) (by omega)) fun⟨v6,d9⟩ ⟨r2,_⟩=>?_
   dsimp only at r2 ⊢
   refine Ok.opt (nx hL r2 (by omega) (by omega)) fun⟨v7,d10⟩ ⟨r3,r4,r6⟩=>?_
   dsimp only at r3 r4 r6 ⊢
   simp only[List.mem_cons,List.not_mem_nil,or_false]at s2
   refine Ok.loop (fun m x=>ZH L x.2.1∧x.1.1=a31∧x.1.2.1=a32∧0≤x.1.2.2.1∧x.2.2.2.2.1=(nth Qi5 ps3.length,v3,())∧x.2.2.2.2.2.1=(v5,decide (v6=0),())∧x.2.2.2.2.2.2.1=ts3∧x.2.2.2.2.2.2.2.1=ps3∧x.2.2.2.2.2.2.2.2.1=ss∧x.1.2.2.1+(x.2.2.2.2.2.2.2.2.2.1.length:Int)≤2∧(∀t∈x.2.2.2.2.2.2.2.2.2.1,Va ts3.length t)∧x.1.2.2.1.toNat=m) (m:=v7.toNat) (by omega) ⟨r3,rfl,rfl,by dsimp only;omega,rfl,rfl,rfl,rfl,rfl,by dsimp only;simp;omega,by simp,rfl⟩ ?_
   rintro m4 ⟨⟨a46,a47,a48,⟨⟩⟩,d11,⟨⟩,⟨⟩,⟨nm2,rp2,⟨⟩⟩,⟨wt,ur,⟨⟩⟩,ts4,ps4,ss4,tg,⟨⟩⟩ ⟨u1,u2,u3,u4,w1,w2,u5,u6,u7,u8,w3,u9⟩ k4 hk4
   dsimp only at u1 u2 u3 u4 u5 u6 u7 u8 u9 w1 w2 w3 ⊢
   cases w1;cases w2
   subst u2;subst u3;subst u5;subst u6;subst u7
   refine Ok.ite (fun h8=>?_) (fun h8=>?_)
   ·refine Ok.opt (Qsd hL u1 (by dsimp only;omega)) fun⟨v8,d12⟩ ⟨x1,x2⟩=>?_
    dsimp only at x1 x2 ⊢
    refine Ok.lec (by simp;omega) ?_
    rw[QfJ (by omega) (by omega)]
    exact hk4 (a48 - 1).toNat _ (by omega) ⟨x1,rfl,rfl,by dsimp only;omega,rfl,rfl,rfl,rfl,rfl,by dsimp only;rw[List.length_append];simp only[List.length_cons,List.length_nil];omega,WK w3 x2,rfl⟩
   ·refine Ok.lec (by simp;omega) ?_
    rw[QfJ (by omega) (by omega)]
    exact hk3 (a47 - 1).toNat _ (by omega) ⟨u1,rfl,by dsimp only;omega,rfl,rfl,rfl,by dsimp only;rw[List.length_append];simp only[List.length_cons,List.length_nil];omega,WK p8 ⟨by dsimp only;omega,by dsimp only;omega,w3⟩,rfl⟩
  ·refine Ok.lec (by simp;omega) ?_
   rw[QfJ (by omega) (by omega)]
   refine hk2 (a31 - 1).toNat _ (by omega) ⟨p1,by dsimp only;omega,rfl,by dsimp only;rw[List.length_append];simp only[List.length_cons,List.length_nil];omega,?_,WK n7 ⟨by dsimp only;omega,by dsimp only;omega,p8⟩,rfl⟩
   dsimp only
   rw[List.map_append,n6,List.map_cons,List.map_nil,QG (by show _<3;omega),List.length_append];rfl
end Go.Proofs.YtgokjdfkpnkekaaGreat
/-
  Crews are right: what the checks of configurations say of them (the program's and the reference's).
-/
namespace Go.Proofs.YtgokjdfkpnkekaaGreat
open Go AM
theorem Qa{i:Nat}(h:i<1000000000):IntKind.wrap .i64 ((i:Int)+1)=((i+1:Nat):Int):=by rw[Qc (by omega)];omega
theorem forall4{P:Nat→Prop}(h0:P 0)(h1:P 1)(h2:P 2)(h3:P 3):∀i,i<4→P i:=fun i hi=>by
 rcases(show i=0∨i=1∨i=2∨i=3 by omega)with rfl|rfl|rfl|rfl<;>assumption
theorem forall2{P:Nat→Prop}(h0:P 0)(h1:P 1):∀i,i<2→P i:=fun i hi=>by
 rcases(show i=0∨i=1 by omega)with rfl|rfl<;>assumption
theorem Qhk{α β:Type}[Inhabited α][Inhabited β]{f:α→β}{l:List α}{m:List β}(h:l.map f=m){i:Nat}(hi:i<l.length):f (nth l i)=nth m i:=by
 subst h
 simp[nth,List.getD_eq_getElem?_getD,List.getElem?_eq_getElem hi]
theorem Q1.pnm{n:Nat}{c:D.Config}(h:Q1 n c){i:Nat}(hi:i<4):(nth c.People i).Name=nth Yc i:=Qhk h.pname (by rw[h.plen];exact hi)
theorem Q1.snm{n:Nat}{c:D.Config}(h:Q1 n c){i:Nat}(hi:i<2):(nth c.Schedules i).Name=nth Yu i:=Qhk h.sname (by rw[h.slen];exact hi)
theorem Q1.per{n:Nat}{c:D.Config}(h:Q1 n c){i:Nat}(hi:i<4):V1 (nth c.People i):=h.person _ (Qk (by rw[h.plen];exact hi))
theorem Q1.sch{n:Nat}{c:D.Config}(h:Q1 n c){i:Nat}(hi:i<2):QbK n (nth c.Schedules i):=h.sched _ (Qk (by rw[h.slen];exact hi))
theorem rIn{fu:Nat}{n lo hi:Int}:WY fu n lo hi=some (decide (lo≤n∧n≤hi)):=cnd2
theorem rIdx{fu:Nat}{i n:Int}:Z9 fu i n=some (decide (0≤i∧i<n)):=cnd2
theorem r8In{fu:Nat}{n lo hi:Int}:Vp fu n lo hi=some (decide (lo≤n∧n≤hi)):=cnd2
theorem QvC{p:D.Person}(h:V1 p):QbI 1000 p.Quiet=some 0:=by
 rcases h.quiet with h|⟨a,b,h,ha,hb⟩
 ·rw[h];kernel_rfl
 ·rw[h]
  rcases ha with rfl|rfl<;>rcases hb with rfl|rfl|rfl<;>kernel_rfl
theorem Qpc{p:D.Person}(h:V1 p):Qal 1000 p.Quiet=some 0:=by
 rcases h.quiet with h|⟨a,b,h,ha,hb⟩
 ·rw[h];kernel_rfl
 ·rw[h]
  rcases ha with rfl|rfl<;>rcases hb with rfl|rfl|rfl<;>kernel_rfl
theorem hours0:UW 1000 0=some true:=by kernel_rfl
theorem hours8:Qbp 1000 0=some true:=by kernel_rfl
variable {n:Nat} {c:D.Config}
theorem Qi6{p:D.Person}(h:Q1 n c)(hp:V1 p):Xy 1000 c p=some 0:=by
 refine Ok.eq ?_
 unfold Xy
 rw[hp.zone,hp.max.1,hp.max.2,h.zones.1]
 (repeat(first|with_reducible refine Ok.j ?_|with_reducible refine Ok.t ?_|with_reducible refine Ok.f ?_|with_reducible refine Ok.nt rfl ?_|with_reducible refine Ok.nf rfl ?_|with_reducible refine Ok.oe (rIdx) ?_|with_reducible refine Ok.oe (QvC hp) ?_|with_reducible refine Ok.oe (hours0) ?_|(with_reducible refine Ok.p ?hh ?_;case hh=>(first|omega|decide|assumption|(dsimp only;omega)|(simp;done)))|(with_reducible refine Ok.n ?hh ?_;case hh=>(first|omega|decide|assumption|(dsimp only;omega)|(simp;done)))|(with_reducible refine Ok.np ?hh ?_;case hh=>(first|omega|decide|assumption|(dsimp only;omega)|(simp;done)))|(with_reducible refine Ok.nn ?hh ?_;case hh=>(first|omega|decide|assumption|(dsimp only;omega)|(simp;done)))|(with_reducible refine Ok.nzc ?hh ?_;case hh=>first|omega|decide)|with_reducible refine Ok.sameC ?_|with_reducible refine Ok.os ?_))
 exact Ok.s rfl
theorem day10:Y6 1000 (IntKind.wrap .i64 10)=some true:=by kernel_rfl
theorem Qmw:Q9 1000=some 98980:=by kernel_rfl
theorem U5.day{x:D.Edit}(h:U5 x):Int.tdiv x.To 86400=10:=by
 have:=h.time
 rw[Int.tdiv_eq_ediv_of_nonneg (by omega)];omega
theorem dayE{x:D.Edit}(h:U5 x):Y6 1000 (IntKind.wrap .i64 (Int.tdiv x.To 86400))=some true:=by rw[h.day];exact day10
theorem QlX{x:D.Edit}(h:Q1 n c)(hx:U5 x):Wi 1000 c x=some 0:=by
 refine Ok.eq ?_
 have h1:=hx.kind;have h2:=hx.a;have h3:=hx.b;have h4:=hx.b0;have h5:=hx.time
 have hpl:=h.plen
 unfold Wi
 rcases(show x.Kind=0∨x.Kind=1∨x.Kind=2 by omega)with hk|hk|hk
 ·(repeat(first|with_reducible refine Ok.j ?_|with_reducible refine Ok.t ?_|with_reducible refine Ok.f ?_|with_reducible refine Ok.nt rfl ?_|with_reducible refine Ok.nf rfl ?_|with_reducible refine Ok.oe (rIn) ?_|with_reducible refine Ok.oe (rIdx) ?_|with_reducible refine Ok.oe (dayE hx) ?_|(with_reducible refine Ok.p ?hh ?_;case hh=>(first|omega|decide|assumption|(dsimp only;omega)|(simp;done)))|(with_reducible refine Ok.n ?hh ?_;case hh=>(first|omega|decide|assumption|(dsimp only;omega)|(simp;done)))|(with_reducible refine Ok.np ?hh ?_;case hh=>(first|omega|decide|assumption|(dsimp only;omega)|(simp;done)))|(with_reducible refine Ok.nn ?hh ?_;case hh=>(first|omega|decide|assumption|(dsimp only;omega)|(simp;done)))|(with_reducible refine Ok.nzc ?hh ?_;case hh=>first|omega|decide)|with_reducible refine Ok.sameC ?_|with_reducible refine Ok.os ?_))
  exact Ok.s rfl
 ·rcases h2 with h2|h2
  ·(repeat(first|with_reducible refine Ok.j ?_|with_reducible refine Ok.t ?_|with_reducible refine Ok.f ?_|with_reducible refine Ok.nt rfl ?_|with_reducible refine Ok.nf rfl ?_|with_reducible refine Ok.oe (rIn) ?_|with_reducible refine Ok.oe (rIdx) ?_|with_reducible refine Ok.oe (dayE hx) ?_|(with_reducible refine Ok.p ?hh ?_;case hh=>(first|omega|decide|assumption|(dsimp only;omega)|(simp;done)))|(with_reducible refine Ok.n ?hh ?_;case hh=>(first|omega|decide|assumption|(dsimp only;omega)|(simp;done)))|(with_reducible refine Ok.np ?hh ?_;case hh=>(first|omega|decide|assumption|(dsimp only;omega)|(simp;done)))|(with_reducible refine Ok.nn ?hh ?_;case hh=>(first|omega|decide|assumption|(dsimp only;omega)|(simp;done)))|(with_reducible refine Ok.nzc ?hh ?_;case hh=>first|omega|decide)|with_reducible refine Ok.sameC ?_|with_reducible refine Ok.os ?_))
   exact Ok.s rfl
  ·(repeat(first|with_reducible refine Ok.j ?_|with_reducible refine Ok.t ?_|with_reducible refine Ok.f ?_|with_reducible refine Ok.nt rfl ?_|with_reducible refine Ok.nf rfl ?_|with_reducible refine Ok.oe (rIn) ?_|with_reducible refine Ok.oe (rIdx) ?_|with_reducible refine Ok.oe (dayE hx) ?_|(with_reducible refine Ok.p ?hh ?_;case hh=>(first|omega|decide|assumption|(dsimp only;omega)|(simp;done)))|(with_reducible refine Ok.n ?hh ?_;case hh=>(first|omega|decide|assumption|(dsimp only;omega)|(simp;done)))|(with_reducible refine Ok.np ?hh ?_;case hh=>(first|omega|decide|assumption|(dsimp only;omega)|(simp;done)))|(with_reducible refine Ok.nn ?hh ?_;case hh=>(first|omega|decide|assumption|(dsimp only;omega)|(simp;done)))|(with_reducible refine Ok.nzc ?hh ?_;case hh=>first|omega|decide)|with_reducible refine Ok.sameC ?_|with_reducible refine Ok.os ?_))
   exact Ok.s rfl
 ·(repeat(first|with_reducible refine Ok.j ?_|with_reducible refine Ok.t ?_|with_reducible refine Ok.f ?_|with_reducible refine Ok.nt rfl ?_|with_reducible refine Ok.nf rfl ?_|with_reducible refine Ok.oe (rIn) ?_|with_reducible refine Ok.oe (rIdx) ?_|with_reducible refine Ok.oe (dayE hx) ?_|(with_reducible refine Ok.p ?hh ?_;case hh=>(first|omega|decide|assumption|(dsimp only;omega)|(simp;done)))|(with_reducible refine Ok.n ?hh ?_;case hh=>(first|omega|decide|assumption|(dsimp only;omega)|(simp;done)))|(with_reducible refine Ok.np ?hh ?_;case hh=>(first|omega|decide|assumption|(dsimp only;omega)|(simp;done)))|(with_reducible refine Ok.nn ?hh ?_;case hh=>(first|omega|decide|assumption|(dsimp only;omega)|(simp;done)))|(with_reducible refine Ok.nzc ?hh ?_;case hh=>first|omega|decide)|with_reducible refine Ok.sameC ?_|with_reducible refine Ok.os ?_))
  exact Ok.s rfl
theorem QsQ{x:D.Edit}(h:Q1 n c)(hx:U5 x):Qhm 1000 c x=some 0:=by
 refine Ok.eq ?_
 have h1:=hx.kind;have h2:=hx.a;have h3:=hx.b;have h4:=hx.b0;have h5:=hx.time
 unfold Qhm
 rw[hx.day,h.plen,Qc (x:=10) (by omega),show IntKind.wrap .i64 (((4:Nat):Int) - 1)=3 from rfl]
 rcases(show x.Kind=0∨x.Kind=1∨x.Kind=2 by omega)with hk|hk|hk
 ·(repeat(first|with_reducible refine Ok.j ?_|with_reducible refine Ok.t ?_|with_reducible refine Ok.f ?_|with_reducible refine Ok.nt rfl ?_|with_reducible refine Ok.nf rfl ?_|with_reducible refine Ok.oe (r8In) ?_|with_reducible refine Ok.oe (Qmw) ?_|(with_reducible refine Ok.p ?hh ?_;case hh=>(first|omega|decide|assumption|(dsimp only;omega)|(simp;done)))|(with_reducible refine Ok.n ?hh ?_;case hh=>(first|omega|decide|assumption|(dsimp only;omega)|(simp;done)))|(with_reducible refine Ok.np ?hh ?_;case hh=>(first|omega|decide|assumption|(dsimp only;omega)|(simp;done)))|(with_reducible refine Ok.nn ?hh ?_;case hh=>(first|omega|decide|assumption|(dsimp only;omega)|(simp;done)))|(with_reducible refine Ok.nzc ?hh ?_;case hh=>first|omega|decide)|with_reducible refine Ok.sameC ?_|with_reducible refine Ok.os ?_))
  exact Ok.s rfl
 ·rcases h2 with h2|h2
  ·(repeat(first|with_reducible refine Ok.j ?_|with_reducible refine Ok.t ?_|with_reducible refine Ok.f ?_|with_reducible refine Ok.nt rfl ?_|with_reducible refine Ok.nf rfl ?_|with_reducible refine Ok.oe (r8In) ?_|with_reducible refine Ok.oe (Qmw) ?_|(with_reducible refine Ok.p ?hh ?_;case hh=>(first|omega|decide|assumption|(dsimp only;omega)|(simp;done)))|(with_reducible refine Ok.n ?hh ?_;case hh=>(first|omega|decide|assumption|(dsimp only;omega)|(simp;done)))|(with_reducible refine Ok.np ?hh ?_;case hh=>(first|omega|decide|assumption|(dsimp only;omega)|(simp;done)))|(with_reducible refine Ok.nn ?hh ?_;case hh=>(first|omega|decide|assumption|(dsimp only;omega)|(simp;done)))|(with_reducible refine Ok.nzc ?hh ?_;case hh=>first|omega|decide)|with_reducible refine Ok.sameC ?_|with_reducible refine Ok.os ?_))
   exact Ok.s rfl
  ·(repeat(first|with_reducible refine Ok.j ?_|with_reducible refine Ok.t ?_|with_reducible refine Ok.f ?_|with_reducible refine Ok.nt rfl ?_|with_reducible refine Ok.nf rfl ?_|with_reducible refine Ok.oe (r8In) ?_|with_reducible refine Ok.oe (Qmw) ?_|(with_reducible refine Ok.p ?hh ?_;case hh=>(first|omega|decide|assumption|(dsimp only;omega)|(simp;done)))|(with_reducible refine Ok.n ?hh ?_;case hh=>(first|omega|decide|assumption|(dsimp only;omega)|(simp;done)))|(with_reducible refine Ok.np ?hh ?_;case hh=>(first|omega|decide|assumption|(dsimp only;omega)|(simp;done)))|(with_reducible refine Ok.nn ?hh ?_;case hh=>(first|omega|decide|assumption|(dsimp only;omega)|(simp;done)))|(with_reducible refine Ok.nzc ?hh ?_;case hh=>first|omega|decide)|with_reducible refine Ok.sameC ?_|with_reducible refine Ok.os ?_))
   exact Ok.s rfl
 ·(repeat(first|with_reducible refine Ok.j ?_|with_reducible refine Ok.t ?_|with_reducible refine Ok.f ?_|with_reducible refine Ok.nt rfl ?_|with_reducible refine Ok.nf rfl ?_|with_reducible refine Ok.oe (r8In) ?_|with_reducible refine Ok.oe (Qmw) ?_|(with_reducible refine Ok.p ?hh ?_;case hh=>(first|omega|decide|assumption|(dsimp only;omega)|(simp;done)))|(with_reducible refine Ok.n ?hh ?_;case hh=>(first|omega|decide|assumption|(dsimp only;omega)|(simp;done)))|(with_reducible refine Ok.np ?hh ?_;case hh=>(first|omega|decide|assumption|(dsimp only;omega)|(simp;done)))|(with_reducible refine Ok.nn ?hh ?_;case hh=>(first|omega|decide|assumption|(dsimp only;omega)|(simp;done)))|(with_reducible refine Ok.nzc ?hh ?_;case hh=>first|omega|decide)|with_reducible refine Ok.sameC ?_|with_reducible refine Ok.os ?_))
  exact Ok.s rfl
theorem dayL{l:D.Layer}(h:YD l):Y6 1000 l.Start.Day=some true:=by
 rcases h.day with h|h|h<;>rw[h]<;>kernel_rfl
theorem Qrm{x:Int}:Xb 1000 x c=some (!decide (0≤x∧x<(c.People.length:Int))):=by
 unfold Xb;rw[rIdx,ZI,Wc]
theorem Qpy{l:List Int}(h:Q1 n c)(hm:∀x∈l,0≤x∧x<4)(hl:l.length<900):QA 1000 l c=some false:=by
 have key:QE 1000 l c=some (-1):=by
  refine Ok.eq ?_
  unfold QE
  refine Ok.run l.length (fun i=>((l,((l.length:Nat):Int),(i:Int),()),c,())) rfl (by omega) (fun i hi k hk=>?_) (fun k=>?_)
  ·dsimp only
   have hx:=hm _ (Qk hi)
   refine Ok.p (by omega) (Ok.atn hi (Ok.oe Qrm (Ok.bf ?_ ?_)))
   ·rw[h.plen];simp;omega
   ·rw[Qa (by omega)];exact hk
  ·dsimp only
   exact Ok.n (by omega) (Ok.sameC (Ok.s rfl))
 unfold QA
 rw[key,ZI,Wc];rfl
theorem wins0:QbI 1000 []=some 0:=by kernel_rfl
theorem wins5:Qal 1000 []=some 0:=by kernel_rfl
theorem Qkp{l:D.Layer}(h:Q1 n c)(hl:YD l):XX 1000 c l=some 0:=by
 refine Ok.eq ?_
 unfold XX
 have h1:=hl.day;have h2:=hl.second;have h3:=hl.unit;have h4:=hl.every;have h5:=hl.len
 rw[hl.zone,hl.win,hl.cal.1,hl.cal.2,h.zones.1]
 (repeat(first|with_reducible refine Ok.j ?_|with_reducible refine Ok.t ?_|with_reducible refine Ok.f ?_|with_reducible refine Ok.nt rfl ?_|with_reducible refine Ok.nf rfl ?_|with_reducible refine Ok.oe (rIdx) ?_|with_reducible refine Ok.oe (rIn) ?_|with_reducible refine Ok.oe (dayL hl) ?_|with_reducible refine Ok.oe (Qpy h hl.mem (by omega)) ?_|with_reducible refine Ok.oe (wins0) ?_|(with_reducible refine Ok.p ?hh ?_;case hh=>(first|omega|decide|assumption|(dsimp only;omega)|(simp;done)))|(with_reducible refine Ok.n ?hh ?_;case hh=>(first|omega|decide|assumption|(dsimp only;omega)|(simp;done)))|(with_reducible refine Ok.np ?hh ?_;case hh=>(first|omega|decide|assumption|(dsimp only;omega)|(simp;done)))|(with_reducible refine Ok.nn ?hh ?_;case hh=>(first|omega|decide|assumption|(dsimp only;omega)|(simp;done)))|(with_reducible refine Ok.nzc ?hh ?_;case hh=>first|omega|decide)|with_reducible refine Ok.sameC ?_|with_reducible refine Ok.os ?_))
 exact Ok.s rfl
def ents(l:List ByteArray)(i:Nat):List (ByteArray×Bool):=(l.take i).map fun s=>(s,true)
theorem Qro:∀i,i<4→YY 1000 (nth Yc i) (ents Yc i)=some (0,ents Yc (i+1)):=forall4 (by kernel_rfl) (by kernel_rfl) (by kernel_rfl) (by kernel_rfl)
theorem Qtg:∀i,i<2→YY 1000 (nth Yu i) (ents Yu i)=some (0,ents Yu (i+1)):=forall2 (by kernel_rfl) (by kernel_rfl)
theorem QvZ:YY 1000 (ByteArray.mk #[108]) []=some (0,[(ByteArray.mk #[108],true)]):=by kernel_rfl
theorem Qh0:∀i,i<4→¬nth Yc i=ByteArray.mk (List.toArray (110::(111::(98::(111::(100::(121::[]))))))):=by decide
theorem Qrj{l:D.Layer}(h:Q1 n c)(hl:YD l):Qj 1000 [l] c=some 0:=by
 have hc:ZR 1000 (nth [l] 0) c=some 0:=by show ZR 1000 l c=some 0;unfold ZR;rw[Qkp h hl,ZI,Wc]
 have hn:ZQ 1000 (nth [l] 0)=some (ByteArray.mk #[108]):=by show ZQ 1000 l=_;unfold ZQ;rw[hl.name]
 refine Ok.eq ?_
 unfold Qj
 refine Ok.run 1 (fun i=>(([l],1,(i:Int),()),c,ents [ByteArray.mk #[108]] i,())) rfl (by omega) (fun i hi k hk=>?_) (fun k=>?_)
 ·obtain rfl:i=0:=by omega
  dsimp only
  refine Ok.p (by decide) (Ok.atn (by simp) (Ok.oe hn (Ok.oe QvZ ?_)))
  (repeat(first|with_reducible refine Ok.j ?_|with_reducible refine Ok.t ?_|with_reducible refine Ok.f ?_|with_reducible refine Ok.nt rfl ?_|with_reducible refine Ok.nf rfl ?_|with_reducible refine Ok.oe (hc) ?_|(with_reducible refine Ok.p ?hh ?_;case hh=>(first|omega|decide|assumption|(dsimp only;omega)|(simp;done)))|(with_reducible refine Ok.n ?hh ?_;case hh=>(first|omega|decide|assumption|(dsimp only;omega)|(simp;done)))|(with_reducible refine Ok.np ?hh ?_;case hh=>(first|omega|decide|assumption|(dsimp only;omega)|(simp;done)))|(with_reducible refine Ok.nn ?hh ?_;case hh=>(first|omega|decide|assumption|(dsimp only;omega)|(simp;done)))|(with_reducible refine Ok.nzc ?hh ?_;case hh=>first|omega|decide)|with_reducible refine Ok.sameC ?_|with_reducible refine Ok.os ?_))
  exact hk
 ·dsimp only
  exact Ok.n (by decide) (Ok.sameC (Ok.s rfl))
theorem QgS{s:D.Schedule}(h:Q1 n c)(hn:n≤48)(hs:QbK n s):YX 1000 c s=some 0:=by
 obtain⟨l,hl1,hl2⟩:=hs.layers
 have hlen:=hs.len
 refine Ok.eq ?_
 unfold YX
 rw[hl1]
 refine Ok.j (Ok.n (by simp) (Ok.n (by omega) ?_))
 dsimp only
 rw[hl1]
 refine Ok.oe (Qrj h hl2) (Ok.n (by decide) ?_)
 refine Ok.run s.Edits.length (fun i=>((s.Edits,((s.Edits.length:Nat):Int),(i:Int),()),c,())) rfl (by omega) (fun i hi k hk=>?_) (fun k=>?_)
 ·dsimp only
  refine Ok.p (by omega) (Ok.atn hi (Ok.oe (QlX h (hs.edit _ (Qk hi))) (Ok.n (by decide) ?_)))
  rw[Qa (by omega)];exact hk
 ·dsimp only
  exact Ok.n (by omega) (Ok.s rfl)
theorem QrZ(h:Q1 n c)(hn:n≤48):Qq 1000 c.Schedules c=some 0:=by
 refine Ok.eq ?_
 unfold Qq
 rw[h.slen]
 refine Ok.run 2 (fun i=>((c.Schedules,2,(i:Int),()),c,ents Yu i,())) rfl (by omega) (fun i hi k hk=>?_) (fun k=>?_)
 ·dsimp only
  have hc:Vu 1000 (nth c.Schedules i) c=some 0:=by unfold Vu;rw[QgS h hn (h.sch hi),ZI,Wc]
  have hn:Vt 1000 (nth c.Schedules i)=some (nth Yu i):=by unfold Vt;rw[h.snm hi]
  refine Ok.p (by omega) (Ok.atn (by rw[h.slen];exact hi) (Ok.oe hn (Ok.oe (Qtg i hi) ?_)))
  (repeat(first|with_reducible refine Ok.j ?_|with_reducible refine Ok.t ?_|with_reducible refine Ok.f ?_|with_reducible refine Ok.nt rfl ?_|with_reducible refine Ok.nf rfl ?_|with_reducible refine Ok.oe (hc) ?_|(with_reducible refine Ok.p ?hh ?_;case hh=>(first|omega|decide|assumption|(dsimp only;omega)|(simp;done)))|(with_reducible refine Ok.n ?hh ?_;case hh=>(first|omega|decide|assumption|(dsimp only;omega)|(simp;done)))|(with_reducible refine Ok.np ?hh ?_;case hh=>(first|omega|decide|assumption|(dsimp only;omega)|(simp;done)))|(with_reducible refine Ok.nn ?hh ?_;case hh=>(first|omega|decide|assumption|(dsimp only;omega)|(simp;done)))|(with_reducible refine Ok.nzc ?hh ?_;case hh=>first|omega|decide)|with_reducible refine Ok.sameC ?_|with_reducible refine Ok.os ?_))
  rw[Qa (by omega)];exact hk
 ·dsimp only
  exact Ok.n (by decide) (Ok.sameC (Ok.s rfl))
theorem QtO(h:Q1 n c):QB 1000 c.Zones=some 0:=by
 obtain⟨h1,h2⟩:=h.zones
 rw[h1]
 rcases h2 with h2|h2|h2<;>rw[h2]<;>kernel_rfl
theorem QuE(h:Q1 n c):Qp 1000 c.Calendars c=some 0:=by
 refine Ok.eq ?_
 unfold Qp
 rw[h.cal]
 refine Ok.run 0 (fun i=>(([],0,0,()),c,[],())) rfl (by omega) (fun i hi=>absurd hi (by omega)) (fun k=>?_)
 exact Ok.n (by decide) (Ok.sameC (Ok.s rfl))
theorem Qhb(h:Q1 n c)(hn:n≤48):QV 1000 c=some 0:=by
 refine Ok.eq ?_
 unfold QV
 have hz:=congrArg List.length h.zones.1
 have hp:=h.plen
 have hs:=h.slen
 have hc:=congrArg List.length h.cal
 simp only[List.length_cons,List.length_nil]at hz hc
 refine Ok.j (Ok.n (by omega) (Ok.n (by omega) (Ok.n (by omega) (Ok.n (by omega) ?_))))
 dsimp only
 refine Ok.oe (QtO h) (Ok.n (by decide) ?_)
 rw[hp]
 refine Ok.run 4 (fun i=>((c.People,4,(i:Int),()),c,ents Yc i,())) rfl (by omega) (fun i hi k hk=>?_) (fun k=>?_)
 ·dsimp only
  refine Ok.p (by omega) (Ok.atn (by omega) ?_)
  rw[h.pnm hi]
  refine Ok.oe (Qro i hi) (Ok.j (Ok.n (Qh0 i hi) ?_))
  (repeat(first|with_reducible refine Ok.j ?_|with_reducible refine Ok.t ?_|with_reducible refine Ok.f ?_|with_reducible refine Ok.nt rfl ?_|with_reducible refine Ok.nf rfl ?_|with_reducible refine Ok.oe (Qi6 h (h.per hi)) ?_|(with_reducible refine Ok.p ?hh ?_;case hh=>(first|omega|decide|assumption|(dsimp only;omega)|(simp;done)))|(with_reducible refine Ok.n ?hh ?_;case hh=>(first|omega|decide|assumption|(dsimp only;omega)|(simp;done)))|(with_reducible refine Ok.np ?hh ?_;case hh=>(first|omega|decide|assumption|(dsimp only;omega)|(simp;done)))|(with_reducible refine Ok.nn ?hh ?_;case hh=>(first|omega|decide|assumption|(dsimp only;omega)|(simp;done)))|(with_reducible refine Ok.nzc ?hh ?_;case hh=>first|omega|decide)|with_reducible refine Ok.sameC ?_|with_reducible refine Ok.os ?_))
  rw[Qa (by omega)];exact hk
 ·dsimp only
  refine Ok.n (by decide) ?_
  (repeat(first|with_reducible refine Ok.j ?_|with_reducible refine Ok.t ?_|with_reducible refine Ok.f ?_|with_reducible refine Ok.nt rfl ?_|with_reducible refine Ok.nf rfl ?_|with_reducible refine Ok.oe (QuE h) ?_|with_reducible refine Ok.oe (QrZ h hn) ?_|(with_reducible refine Ok.p ?hh ?_;case hh=>(first|omega|decide|assumption|(dsimp only;omega)|(simp;done)))|(with_reducible refine Ok.n ?hh ?_;case hh=>(first|omega|decide|assumption|(dsimp only;omega)|(simp;done)))|(with_reducible refine Ok.np ?hh ?_;case hh=>(first|omega|decide|assumption|(dsimp only;omega)|(simp;done)))|(with_reducible refine Ok.nn ?hh ?_;case hh=>(first|omega|decide|assumption|(dsimp only;omega)|(simp;done)))|(with_reducible refine Ok.nzc ?hh ?_;case hh=>first|omega|decide)|with_reducible refine Ok.sameC ?_|with_reducible refine Ok.os ?_))
  exact Ok.s rfl
theorem QpG{p:D.Person}(hp:V1 p):Vp 1000 p.Zone 0 (IntKind.wrap .i64 (((1:Nat):Int) - 1))=some true∧Qal 1000 p.Quiet=some 0∧Qbp 1000 p.MaxWeek=some true∧Qbp 1000 p.MinRest=some true:=by
 rw[hp.zone,hp.max.1,hp.max.2]
 exact⟨by kernel_rfl,Qpc hp,hours8,hours8⟩
theorem Qpz:∀i,i<4→XN 1000 (Yc.take i++[nth Yc i]) (i:Int)=some 0:=forall4 (by kernel_rfl) (by kernel_rfl) (by kernel_rfl) (by kernel_rfl)
theorem Qrn:∀i,i<2→XN 1000 (Yu.take i++[nth Yu i]) (i:Int)=some 0:=forall2 (by kernel_rfl) (by kernel_rfl)
theorem Qu4:XN 1000 ([]++[ByteArray.mk #[108]]) ((0:Nat):Int)=some 0:=by kernel_rfl
theorem Qsp(h:Q1 n c):Qfp 1000 c=some 0:=by
 obtain⟨h1,h2⟩:=h.zones
 refine Ok.eq ?_
 unfold Qfp
 have hz:Qbn 1000 (⟨bZ,YM c,[]⟩:D.Zone)=some 0∧QeJ 1000 (⟨bZ,YM c,[]⟩:D.Zone)=some true∧XN 1000 ([]++[bZ]) ((0:Nat):Int)=some 0:=by
  rcases h2 with h2|h2|h2<;>rw[h2]<;>exact⟨by kernel_rfl,by kernel_rfl,by kernel_rfl⟩
 refine Ok.run 1 (fun i=>(((i:Int),()),c,[bZ].take i,())) rfl (by omega) (fun i hi k hk=>?_) (fun k=>?_)
 ·obtain rfl:i=0:=by omega
  dsimp only
  rw[h1]
  refine Ok.p (by simp) (Ok.j (Ok.atn (by simp) (Ok.lec (by simp) ?_)))
  refine Ok.oe hz.2.2 (Ok.n (by decide) (Ok.atn (by simp) (Ok.oe hz.1 (Ok.n (by decide) (Ok.atn (by simp) (Ok.oe hz.2.1 ?_))))))
  exact hk
 ·dsimp only
  rw[h1]
  exact Ok.n (by simp) (Ok.s rfl)
theorem QpE(h:Q1 n c):QdL 1000 c=some 0:=by
 have hp:=h.plen
 refine Ok.eq ?_
 unfold QdL
 refine Ok.run 4 (fun i=>(((i:Int),()),c,Yc.take i,())) rfl (by omega) (fun i hi k hk=>?_) (fun k=>?_)
 ·dsimp only
  obtain⟨g1,g2,g3,g4⟩:=QpG (h.per hi)
  refine Ok.p (by omega) (Ok.j (Ok.atn (by omega) (Ok.lec (by simp;omega) ?_)))
  rw[h.pnm hi,h.zones.1]
  refine Ok.n (Qh0 i hi) (Ok.oe (Qpz i hi) (Ok.n (by decide) (Ok.oe g1 ?_)))
  refine Ok.nt rfl (Ok.oe g2 (Ok.n (by decide) (Ok.oe g3 (Ok.t (Ok.oe g4 (Ok.t ?_))))))
  dsimp only
  rw[Qa (by omega),QG (show i<Yc.length from hi)];exact hk
 ·dsimp only
  exact Ok.n (by omega) (Ok.s rfl)
theorem QsM(h:Q1 n c):UQ 1000 c=some 0:=by
 refine Ok.eq ?_
 unfold UQ
 refine Ok.run 0 (fun i=>((0,()),c,[],())) rfl (by omega) (fun i hi=>absurd hi (by omega)) (fun k=>?_)
 dsimp only
 rw[h.cal]
 exact Ok.n (by decide) (Ok.s rfl)
theorem Qri{l:D.Layer}(h:Q1 n c)(hl:YD l):Qc7 1000 c l=some 0:=by
 refine Ok.eq ?_
 unfold Qc7
 have h1:=hl.day;have h2:=hl.second;have h3:=hl.unit;have h4:=hl.every;have h5:=hl.len
 have hp:=h.plen
 rw[hl.zone,h.zones.1,Qc (x:=(([(⟨bZ,YM c,[]⟩:D.Zone)].length:Nat):Int) - 1) (by simp)]
 refine Ok.j (Ok.oe r8In (Ok.np (by simp) ?_))
 (repeat(first|with_reducible refine Ok.j ?_|with_reducible refine Ok.t ?_|with_reducible refine Ok.f ?_|with_reducible refine Ok.nt rfl ?_|with_reducible refine Ok.nf rfl ?_|with_reducible refine Ok.oe (r8In) ?_|with_reducible refine Ok.oe (Qmw) ?_|(with_reducible refine Ok.p ?hh ?_;case hh=>(first|omega|decide|assumption|(dsimp only;omega)|(simp;done)))|(with_reducible refine Ok.n ?hh ?_;case hh=>(first|omega|decide|assumption|(dsimp only;omega)|(simp;done)))|(with_reducible refine Ok.np ?hh ?_;case hh=>(first|omega|decide|assumption|(dsimp only;omega)|(simp;done)))|(with_reducible refine Ok.nn ?hh ?_;case hh=>(first|omega|decide|assumption|(dsimp only;omega)|(simp;done)))|(with_reducible refine Ok.nzc ?hh ?_;case hh=>first|omega|decide)|with_reducible refine Ok.sameC ?_|with_reducible refine Ok.os ?_))
 refine Ok.run l.Members.length (fun i=>(((i:Int),()),c,l,())) rfl (by omega) (fun i hi k hk=>?_) (fun k=>?_)
 ·dsimp only
  have hx:=hl.mem _ (Qk hi)
  rw[hp]
  refine Ok.p (by omega) (Ok.atn hi (Ok.oe r8In (Ok.np ?_ ?_)))
  ·rw[Qc (by omega)];omega
  ·rw[Qa (by omega)];exact hk
 ·dsimp only
  rw[hl.win,hl.cal.1,hl.cal.2]
  refine Ok.n (by omega) ?_
  (repeat(first|with_reducible refine Ok.j ?_|with_reducible refine Ok.t ?_|with_reducible refine Ok.f ?_|with_reducible refine Ok.nt rfl ?_|with_reducible refine Ok.nf rfl ?_|with_reducible refine Ok.oe (wins5) ?_|with_reducible refine Ok.oe (r8In) ?_|(with_reducible refine Ok.p ?hh ?_;case hh=>(first|omega|decide|assumption|(dsimp only;omega)|(simp;done)))|(with_reducible refine Ok.n ?hh ?_;case hh=>(first|omega|decide|assumption|(dsimp only;omega)|(simp;done)))|(with_reducible refine Ok.np ?hh ?_;case hh=>(first|omega|decide|assumption|(dsimp only;omega)|(simp;done)))|(with_reducible refine Ok.nn ?hh ?_;case hh=>(first|omega|decide|assumption|(dsimp only;omega)|(simp;done)))|(with_reducible refine Ok.nzc ?hh ?_;case hh=>first|omega|decide)|with_reducible refine Ok.sameC ?_|with_reducible refine Ok.os ?_))
  exact Ok.s rfl
theorem Qls(h:Q1 n c)(hn:n≤48):US 1000 c=some 0:=by
 have hs:=h.slen
 refine Ok.eq ?_
 unfold US
 refine Ok.run 2 (fun i=>(((i:Int),()),c,Yu.take i,())) rfl (by omega) (fun i hi k hk=>?_) (fun k=>?_)
 ·dsimp only
  have hsc:=h.sch hi
  obtain⟨l,hl1,hl2⟩:=hsc.layers
  have hlen:=hsc.len
  refine Ok.p (by omega) (Ok.atn (by omega) (Ok.lec (by simp;omega) ?_))
  rw[h.snm hi]
  refine Ok.oe (Qrn i hi) (Ok.n (by decide) (Ok.j ?_))
  rw[hl1]
  refine Ok.n (by simp) (Ok.n (by omega) ?_)
  dsimp only
  refine Ok.run 1 (fun j=>(((i:Int),(j:Int),()),c,nth c.Schedules i,Yu.take i++[nth Yu i],[ByteArray.mk #[108]].take j,())) rfl (by omega) (fun j hj k2 hk2=>?_) (fun k2=>?_)
  ·obtain rfl:j=0:=by omega
   dsimp only
   rw[hl1]
   refine Ok.p (by simp) (Ok.atn (by simp) (Ok.lec (by simp) ?_))
   rw[show(nth [l] 0).Name=ByteArray.mk #[108]from hl2.name]
   refine Ok.oe Qu4 (Ok.n (by decide) (Ok.atn (by simp) (Ok.oe (Qri h hl2:Qc7 1000 c (nth [l] 0)=some 0) (Ok.n (by decide) ?_))))
   exact hk2
  ·dsimp only
   rw[hl1]
   refine Ok.n (by simp) ?_
   refine Ok.run (nth c.Schedules i).Edits.length (fun j=>(((i:Int),(j:Int),()),c,nth c.Schedules i,Yu.take i++[nth Yu i],())) rfl (by omega) (fun j hj k3 hk3=>?_) (fun k3=>?_)
   ·dsimp only
    refine Ok.p (by omega) (Ok.atn hj (Ok.oe (QsQ h (hsc.edit _ (Qk hj))) (Ok.n (by decide) ?_)))
    rw[Qa (by omega)];exact hk3
   ·dsimp only
    refine Ok.n (by omega) ?_
    rw[Qa (by omega),QG (show i<Yu.length from hi)];exact hk
 ·dsimp only
  exact Ok.n (by omega) (Ok.s rfl)
theorem QcJ(h:Q1 n c)(hn:n≤48):Vo 1000 c=some 0:=by
 refine Ok.eq ?_
 unfold Vo
 have hz:=congrArg List.length h.zones.1
 have hp:=h.plen
 have hs:=h.slen
 have hc:=congrArg List.length h.cal
 simp only[List.length_cons,List.length_nil]at hz hc
 (repeat(first|with_reducible refine Ok.j ?_|with_reducible refine Ok.t ?_|with_reducible refine Ok.f ?_|with_reducible refine Ok.nt rfl ?_|with_reducible refine Ok.nf rfl ?_|with_reducible refine Ok.oe (Qsp h) ?_|with_reducible refine Ok.oe (QpE h) ?_|with_reducible refine Ok.oe (QsM h) ?_|with_reducible refine Ok.oe (Qls h hn) ?_|(with_reducible refine Ok.p ?hh ?_;case hh=>(first|omega|decide|assumption|(dsimp only;omega)|(simp;done)))|(with_reducible refine Ok.n ?hh ?_;case hh=>(first|omega|decide|assumption|(dsimp only;omega)|(simp;done)))|(with_reducible refine Ok.np ?hh ?_;case hh=>(first|omega|decide|assumption|(dsimp only;omega)|(simp;done)))|(with_reducible refine Ok.nn ?hh ?_;case hh=>(first|omega|decide|assumption|(dsimp only;omega)|(simp;done)))|(with_reducible refine Ok.nzc ?hh ?_;case hh=>first|omega|decide)|with_reducible refine Ok.sameC ?_|with_reducible refine Ok.os ?_))
 exact Ok.s rfl
end Go.Proofs.YtgokjdfkpnkekaaGreat
/-
  Who is on call in a crew: what the program and the reference compute.
-/
namespace Go.Proofs.YtgokjdfkpnkekaaGreat
open Go AM
def Qcs(off:Int):Prop:=off=0∨off=3600∨off = -7200
def tabV(off:Int):D.Table:=⟨off,[]⟩
variable {off t k:Int} {l:D.Layer}
theorem Qvx:Wm 1000 (tabV off) t=some off:=by
 have h1:Zd 1000 0 (tabV off) t=some 0:=by
  refine Ok.eq ?_
  unfold Zd
  refine Ok.run 0 (fun _=>((0,(0,())),(tabV off,((t,()),())))) rfl (by omega) (fun i hi=>absurd hi (by omega)) (fun k=>?_)
  exact Ok.n (by omega) (Ok.sameC (Ok.sameC (Ok.s rfl)))
 have h2:XL 1000 (tabV off) t=some 0:=by unfold XL;rw[show(((List.length (D.Table.list (tabV off))):Nat):Int)=0 from rfl,h1,ZI]
 unfold Wm
 rw[h2,ZI]
 rfl
theorem Qtd{n:Int}(h : -1099511627776≤n∧n≤1099511627776):QdW 1000 n=some ⟨n / 86400,n % 86400⟩:=by
 refine Ok.eq ?_
 unfold QdW
 refine Ok.nzc (by omega) (Ok.j (Ok.nzc (by omega) ?_))
 by_cases h0:0≤n
 ·rw[Int.tmod_eq_emod_of_nonneg h0,Int.tdiv_eq_ediv_of_nonneg h0]
  refine Ok.n (by omega) ?_
  dsimp only
  rw[Qc (x:=n / 86400) (by omega),Qc (x:=n / 86400*86400) (by omega),Qc (by omega)]
  exact Ok.s (by congr 1;omega)
 ·have e1:Int.tmod n 86400 = -((-n) % 86400):=by
   rw[show n = -(-n)by omega,Int.neg_tmod,Int.tmod_eq_emod_of_nonneg (by omega),Int.neg_neg]
  have e2:Int.tdiv n 86400 = -((-n) / 86400):=by
   rw[show n = -(-n)by omega,Int.neg_tdiv,Int.tdiv_eq_ediv_of_nonneg (by omega),Int.neg_neg]
  rw[e1,e2]
  by_cases h1 : -((-n) % 86400)<0
  ·refine Ok.p h1 ?_
   dsimp only
   rw[Qc (x:=-((-n) / 86400)) (by omega),Qc (x:=-((-n) / 86400) - 1) (by omega),Qc (x:=(-((-n) / 86400) - 1)*86400) (by omega),Qc (by omega)]
   exact Ok.s (by rw[D.Local.mk.injEq];omega)
  ·refine Ok.n h1 ?_
   dsimp only
   rw[Qc (x:=-((-n) / 86400)) (by omega),Qc (x:=-((-n) / 86400)*86400) (by omega),Qc (by omega)]
   exact Ok.s (by rw[D.Local.mk.injEq];omega)
theorem Qcs.le(h:Qcs off): -7200≤off∧off≤3600:=by unfold Qcs at h;omega
theorem Qua(ho:Qcs off)(ht:0≤t∧t≤8589934592):ZB 1000 (tabV off) t=some ⟨(t+off) / 86400,(t+off) % 86400⟩:=by
 have:=ho.le
 unfold ZB
 rw[Qvx,ZI,Qc (by omega),Qtd (by omega),ZI]
theorem Qvz(ho:Qcs off):VZ 1000 (tabV off) 0 8589934593=some [⟨0,8589934593,off⟩]:=by
 rcases ho with rfl|rfl|rfl<;>kernel_rfl
theorem Qt9{d s:Int}(ho:Qcs off)(hd:1≤d∧d≤1000000)(hs:0≤s∧s≤86399):
  Ok (XK 1000 (tabV off) ⟨d,s⟩) fun r=>r.2=decide (d*86400+s - off≤8589934592)∧(r.2=true→r.1=d*86400+s - off):=by
 have:=ho.le
 unfold XK Qdt
 refine Ok.oe (Qvz ho) ?_
 have e:IntKind.wrap .i64 (IntKind.wrap .i64 (min (max d (-1048576)) 1048576*86400)+s)=d*86400+s:=by rw[Qc (x:=min (max d (-1048576)) 1048576*86400) (by omega),Qc (by omega)];omega
 by_cases h:d*86400+s - off≤8589934592
 ·refine Ok.scan 1 (fun i=>(([⟨0,8589934593,off⟩],1,(i:Int),()),⟨d,s⟩,())) (fun _=>true) rfl (by omega) (fun i hi _ _ k=>?_) (fun i hi hq=>by simp at hq) (fun hq=>by have:=hq 0 (by omega);simp at this)
  obtain rfl:i=0:=by omega
  refine Ok.p (by simp) (Ok.atn (by simp) (Ok.os ?_))
  dsimp only
  rw[e,show(nth [(⟨0,8589934593,off⟩:D.Piece)] 0)=⟨0,8589934593,off⟩from rfl]
  dsimp only
  rw[Qc (x:=d*86400+s - off) (by omega),show max 0 (d*86400+s - off)=d*86400+s - off by omega]
  exact Ok.p (by omega) (Ok.s ⟨by simp[h],fun _=>rfl⟩)
 ·refine Ok.run 1 (fun i=>(([⟨0,8589934593,off⟩],1,(i:Int),()),⟨d,s⟩,())) rfl (by omega) (fun i hi k hk=>?_) (fun k=>?_)
  ·obtain rfl:i=0:=by omega
   refine Ok.p (by simp) (Ok.atn (by simp) (Ok.os ?_))
   dsimp only
   rw[e,show(nth [(⟨0,8589934593,off⟩:D.Piece)] 0)=⟨0,8589934593,off⟩from rfl]
   dsimp only
   rw[Qc (x:=d*86400+s - off) (by omega),show max 0 (d*86400+s - off)=d*86400+s - off by omega]
   exact Ok.n (by omega) hk
  ·exact Ok.n (by simp) (Ok.s ⟨by simp[h],fun h=>by simp at h⟩)
theorem QoH(hl:YD l):(l.Unit=0→YL off l k=Yo off l+3600*l.Every*k)∧(l.Unit=1→YL off l k=Yo off l+86400*l.Every*k):=by
 refine⟨fun h=>?_,fun h=>?_⟩
 ·unfold YL;rw[Qgq h]
 ·unfold YL;rw[QiS h]
theorem Qwa(hl:YD l)(ho:Qcs off)(hk:0≤k∧k≤200000)(hu:l.Unit=1∨k=0):
  Ok (ZV 1000 (tabV off) l k) fun r=>r.2=decide (YL off l k≤8589934592)∧(r.2=true→r.1=YL off l k):=by
 have:=ho.le
 have h1:=hl.day;have h2:=hl.second;have h4:=hl.every
 unfold ZV Qbw
 refine Ok.n (by omega) ?_
 rcases hl.unit with hu0|hu1
 ·obtain rfl:k=0:=by omega
  refine Ok.n (by omega) ?_
  have hf:=Qe7 (off:=off) hl ho
  have hh:YL off l 0=l.Start.Day*86400+l.Start.Second - off:=by unfold YL Yo;omega
  refine Ok.opt (Qt9 (d:=l.Start.Day) (s:=l.Start.Second) ho (by omega) (by omega)) fun⟨v,b⟩ ⟨g1,g2⟩=>?_
  dsimp only at g1 g2 ⊢
  have hb:b=true:=by rw[g1];unfold Yo at hf;simp;omega
  subst hb
  have hv:=g2 rfl
  have hw:IntKind.wrap .i64 (v+IntKind.wrap .i64 (IntKind.wrap .i64 (3600*l.Every)*0))=YL off l 0:=by
   rw[Int.mul_zero,Qc (x:=0) (by omega),Qc (by unfold Yo at hf;omega),hh,hv];omega
  rw[hw]
  have hm:YL off l 0≤8589934592:=by rw[hh];unfold Yo at hf;omega
  exact Ok.t (Ok.p hm (Ok.s ⟨by simp[hm],fun _=>rfl⟩))
 ·refine Ok.p (by omega) ?_
  (try unfold cd);rw[QgU (show ¬l.Unit=2 by omega),ZI]
  have hE:l.Every=1∨l.Every=2∨l.Every=3:=by omega
  have hh:YL off l k=(l.Start.Day+k*l.Every)*86400+l.Start.Second - off:=(QoG (QiS hu1)).symm
  have hb:0≤k*l.Every∧k*l.Every≤600000:=by rcases hE with e|e|e<;>rw[e]<;>omega
  rw[Qc (x:=k*l.Every) (by omega),Qc (x:=l.Start.Day+k*l.Every) (by omega)]
  refine Ok.opt (Qt9 (d:=l.Start.Day+k*l.Every) (s:=l.Start.Second) ho (by omega) (by omega)) fun⟨v,b⟩ ⟨g1,g2⟩=>?_
  rw[←hh]at g1 g2
  exact Ok.s ⟨g1,g2⟩
theorem Qwb(hl:YD l)(ho:Qcs off)(ht:0≤t∧t≤8589934592):Vs 1000 (tabV off) l t=some (ZT off l t):=by
  have hoo:=ho.le
  have h1:=hl.day;have h2:=hl.second;have h4:=hl.every
  have hf:=Qe7 (off:=off) hl ho
  have h0:YL off l 0=Yo off l:=by unfold YL;omega
  refine Ok.eq ?_
  unfold Vs
  refine Ok.opt (Qwa (k:=0) hl ho (by omega) (.inr rfl)) fun⟨v,b⟩ ⟨g1,g2⟩=>?_
  dsimp only at g1 g2 ⊢
  have hb:b=true:=by rw[g1,h0];simp;omega
  subst hb
  have hv:=g2 rfl
  rw[hv,h0]
  refine Ok.j (Ok.t ?_)
  by_cases hlt:t<Yo off l
  · exact Ok.p hlt (Ok.s (by rw[Qlv (by rw[h0];exact hlt)]))
  refine Ok.n hlt ?_
  dsimp only
  rcases hl.unit with hu|hu
  · have e1:IntKind.wrap .i64 (3600*l.Every)=3600*l.Every:=Qc (by omega)
    rw[e1]
    refine Ok.p hu (Ok.nzc (by omega) ?_)
    rw[Qc (x:=t - Yo off l) (by omega),Int.tdiv_eq_ediv_of_nonneg (by omega)]
    have e2:(t - Yo off l) / (3600*l.Every)=ZT off l t:=by unfold ZT;rw[if_neg hlt,Qgq hu]
    have e3:=Qnd (t:=t) hl ho (by omega)
    rw[e2,Qc (by omega)]
    exact Ok.s rfl
  · refine Ok.n (by omega) (Ok.oe (Qua ho ht) ?_)
    unfold Qbw
    (try unfold cd);rw[QgU (show ¬l.Unit=2 by omega),ZI]
    refine Ok.nzc (by omega) (Ok.j ?_)
    dsimp only
    obtain⟨dy,hD⟩:∃dy,(t+off) / 86400=dy:=⟨_,rfl⟩
    rw[hD]
    have hDb : -1≤dy∧dy≤99422:=by omega
    rw[Qc (x:=dy - l.Start.Day) (by omega)]
    obtain⟨k0,hk0⟩:∃k0,max 0 (IntKind.wrap .i64 (Int.tdiv (dy - l.Start.Day) l.Every))=k0:=⟨_,rfl⟩
    rw[hk0]
    have hE:l.Every=1∨l.Every=2∨l.Every=3:=by omega
    have hlin:∀k,YL off l k=Yo off l+86400*l.Every*k:=fun k=>(QoH hl).2 hu
    have hfd:Yo off l=l.Start.Day*86400+l.Start.Second - off:=rfl
    have hk:0≤k0∧k0≤99422∧(1≤k0→YL off l (k0 - 1)≤t)∧t<YL off l (k0+1):=by
      have hq:Int.tdiv (dy - l.Start.Day) l.Every≤0∧dy - l.Start.Day<l.Every∨Int.tdiv (dy - l.Start.Day) l.Every=(dy - l.Start.Day) / l.Every∧0≤dy - l.Start.Day:=by
        by_cases hn:0≤dy - l.Start.Day
        · exact .inr ⟨Int.tdiv_eq_ediv_of_nonneg hn,hn⟩
        · refine .inl ⟨?_,by omega⟩
          rw[show dy - l.Start.Day = -(l.Start.Day - dy)by omega,Int.neg_tdiv,Int.tdiv_eq_ediv_of_nonneg (by omega)]
          have:=Int.ediv_nonneg (show 0≤l.Start.Day - dy by omega) (show 0≤l.Every by omega)
          omega
      have hw:IntKind.wrap .i64 (Int.tdiv (dy - l.Start.Day) l.Every)=Int.tdiv (dy - l.Start.Day) l.Every:=by
        refine Qc ?_
        rcases hq with⟨q1,_⟩|⟨q1,q2⟩
        · by_cases hn:0≤dy - l.Start.Day
          · rw[Int.tdiv_eq_ediv_of_nonneg hn];rcases hE with e|e|e<;>rw[e]<;>omega
          · rw[show dy - l.Start.Day = -(l.Start.Day - dy)by omega,Int.neg_tdiv,Int.tdiv_eq_ediv_of_nonneg (by omega)]
            rcases hE with e|e|e<;>rw[e]<;>omega
        · rw[q1];rcases hE with e|e|e<;>rw[e]<;>omega
      rw[hw]at hk0
      rw[hlin,hlin,hfd]
      rcases hE with e|e|e<;>rw[e]at hq hk0⊢<;>omega
    obtain⟨k1,k2,k3,k4⟩:=hk
    have hhand:∀k,0≤k→k≤k0+1→Ok (ZV 1000 (tabV off) l k) fun r=>r.2=decide (YL off l k≤8589934592)∧(r.2=true→r.1=YL off l k):=fun k a b=>Qwa hl ho (by omega) (.inl hu)
    have up:∀k,0≤k→k0 - 1≤k→k≤k0→YL off l k≤t→Ok (Qh (X:=((Int×(Int×Unit))×(D.Table×(D.Layer×Unit)))) (fun L12 ((a13,(a14,_)),(a15,(a16,_)))=>
           (join (Y:=((Int×(Int×Unit))×(D.Table×(D.Layer×Unit)))) (fun((a17,(a18,_)),(a19,(a20,_)))=>
             (L12 ((a17,((IntKind.wrap .i64 (a18+1)),())),(a19,(a20,()))))) fun J21=>
            (optc (ZV 1000 a15 a16 (IntKind.wrap .i64 (a14+1))) fun(a22,a23)=>
             (cnd a23
              (cnd (decide (a13<a22))
               (some a14)
               (J21 ((a13,(a14,())),(a15,(a16,())))))
              (some a14))))) 1000 ((t,(k,())),(tabV off,(l,())))) (·=ZT off l t):=by
      intro k a1 a2 a3 a4
      refine Ok.loop (fun m x=>∃k,x=((t,k,()),tabV off,l,())∧0≤k∧k0 - 1≤k∧k≤k0∧YL off l k≤t∧(k0 - k).toNat=m) (m:=(k0 - k).toNat) (by omega) ⟨k,rfl,a1,a2,a3,a4,rfl⟩ ?_
      rintro m x ⟨k,rfl,a1,a2,a3,a4,rfl⟩ K hK
      dsimp only
      rw[Qc (x:=k+1) (by omega)]
      refine Ok.j (Ok.opt (hhand (k+1) (by omega) (by omega)) fun⟨v,b⟩ ⟨g1,g2⟩=>?_)
      dsimp only at g1 g2 ⊢
      by_cases hm:YL off l (k+1)≤8589934592
      · have hb:b=true:=by rw[g1];simp[hm]
        subst hb
        rw[g2 rfl]
        refine Ok.t (Ok.ite (fun hlt=>Ok.s (Qlu hl a1 a4 hlt).symm) (fun hge=>?_))
        have:k≠k0:=fun e=>by rw[e]at hge;omega
        rw[Qc (x:=k+1) (by omega)]
        exact hK _ _ (by omega) ⟨k+1,rfl,by omega,by omega,by omega,by omega,rfl⟩
      · have hb:b=false:=by rw[g1];simp[hm]
        subst hb
        exact Ok.f (Ok.s (Qlu hl a1 a4 (by omega)).symm)
    have h00:YL off l 0≤t:=by rw[h0];omega
    refine Ok.loop (fun m x=>∃k,x=((t,k,()),tabV off,l,())∧0≤k∧(m=1∧k=k0∨m=0∧k=k0 - 1)) (m:=1) (by omega) ⟨k0,rfl,k1,.inl ⟨rfl,rfl⟩⟩ ?_
    rintro m x ⟨k,rfl,a1,a2⟩ K hK
    dsimp only
    refine Ok.ite (fun hpos=>?_) (fun hz=>?_)
    · refine Ok.j (Ok.opt (hhand k (by omega) (by omega)) fun⟨v,b⟩ ⟨g1,g2⟩=>?_)
      dsimp only at g1 g2 ⊢
      have down:¬YL off l k≤t→Ok (K ((t,IntKind.wrap .i64 (k - 1),()),tabV off,l,())) (·=ZT off l t):=fun hgt=>by
        rw[Qc (x:=k - 1) (by omega)]
        rcases a2 with⟨rfl,rfl⟩|⟨rfl,rfl⟩
        · exact hK 0 _ (by omega) ⟨k - 1,rfl,by omega,.inr ⟨rfl,rfl⟩⟩
        · exact absurd (k3 (by omega)) hgt
      by_cases hm:YL off l k≤8589934592
      · have hb:b=true:=by rw[g1];simp[hm]
        subst hb
        rw[g2 rfl]
        refine Ok.t (Ok.ite (fun hle=>?_) (fun hgt=>down hgt))
        exact up k a1 (by omega) (by omega) hle
      · have hb:b=false:=by rw[g1];simp[hm]
        subst hb
        exact Ok.f (down (by omega))
    · obtain rfl:k=0:=by omega
      exact up 0 (by omega) (by omega) (by omega) h00
theorem tOn{v:D.View}(hl:YD l)(ho:Qcs off)(hv:v.tables=[tabV off])(ht:0≤t∧t≤8589934592):QaF 1000 v l t=some (if ZT off l t<0 then(0,false)else(ZT off l t,true)):=by
 refine Ok.eq ?_
 unfold QaF
 refine Ok.j (Ok.n (by omega) (Ok.n (by omega) ?_))
 dsimp only
 rw[hv,hl.zone]
 refine Ok.atn (i:=0) (by simp) (Ok.oe (Qwb hl ho ht:Vs 1000 (nth [tabV off] 0) l t=_) ?_)
 refine Ok.j ?_
 by_cases h:ZT off l t<0
 ·refine Ok.p h (Ok.s ?_)
  rw[if_pos h]
 ·refine Ok.n h ?_
  rw[hl.win]
  refine Ok.n (by simp) ?_
  dsimp only
  exact Ok.p hl.cal.2 (Ok.s (by rw[if_neg h]))
theorem QtW(hl:YD l)(h:¬ZT off l t<0):atc l.Members (Int.tmod (ZT off l t) (((List.length l.Members):Nat):Int)) (fun a2=>some a2)=some (QbN off l t):=by
 have hlen:=hl.len
 have e:Int.tmod (ZT off l t) (((List.length l.Members):Nat):Int)=(((ZT off l t).toNat % l.Members.length:Nat):Int):=by
  rw[Int.tmod_eq_emod_of_nonneg (by omega),Int.natCast_emod,Int.toNat_of_nonneg (by omega)]
 rw[e,QvL (Nat.mod_lt _ (by omega))]
 unfold QbN
 rw[if_neg h]
theorem Qvy{v:D.View}(hl:YD l)(ho:Qcs off)(hv:v.tables=[tabV off])(ht:0≤t∧t≤8589934592):XE 1000 v l t=some (QbN off l t):=by
 have hlen:=hl.len
 refine Ok.eq ?_
 unfold XE
 refine Ok.oe (tOn hl ho hv ht) ?_
 by_cases h:ZT off l t<0
 ·rw[if_pos h]
  refine Ok.nf rfl (Ok.s ?_)
  unfold QbN
  rw[if_pos h]
 ·rw[if_neg h]
  refine Ok.nt rfl (Ok.nzc (by omega) ?_)
  rw[QtW hl h]
  exact Ok.s rfl
theorem away1{x:D.Edit}{p:Int}:QaY 1000 x p t=some (Qnx p t x):=by
 unfold QaY Qnx
 simp only[Wc,QtT]
 by_cases h1:x.Kind=0<;>by_cases h2:x.A=p<;>by_cases h3:x.From≤t<;>by_cases h4:t<x.To<;>simp[h1,h2,h3,h4]
theorem Qwt{s:D.Schedule}{p:Int}(hs:s.Edits.length<900):VX 1000 s p t=some (QhI s.Edits p t):=by
 have key:Ok (Q0 1000 s.Edits p t) fun r=>decide (0≤r)=QhI s.Edits p t:=by
  unfold Q0
  refine Ok.scan s.Edits.length (fun i=>((s.Edits,((s.Edits.length:Nat):Int),(i:Int),()),(p,()),(t,()),())) (fun i=>Qnx p t (nth s.Edits i)) rfl (by omega) (fun i hi hq _ k=>?_) (fun i hi hq k hk=>?_) (fun hq k=>?_)
  ·refine Ok.p (by omega) (Ok.atn hi (Ok.oe away1 (Ok.bt hq (Ok.sameC (Ok.sameC (Ok.s ?_))))))
   unfold QhI
   rw[QhE hi hq];simp
  ·refine Ok.p (by omega) (Ok.atn hi (Ok.oe away1 (Ok.bf hq ?_)))
   rw[Qa (by omega)];exact hk
  ·refine Ok.n (by omega) (Ok.sameC (Ok.sameC (Ok.s ?_)))
   unfold QhI
   rw[QlM hq];simp
 obtain⟨r,h1,h2⟩:=key
 unfold VX Zg
 rw[h1,ZI,Wc,Wc,ZI,h2]
theorem Qwu{es:List D.Edit}{p:Int}(hs:es.length<900):Qe2 1000 es p t=some (Qe9 es p t):=by
 refine Ok.eq ?_
 unfold Qe2
 refine Ok.run es.length (fun i=>((Qe9 (es.take i) p t,t,es,((es.length:Nat):Int),(i:Int),()),())) (by simp[Qe9]) (by omega) (fun i hi k hk=>?_) (fun k=>?_)
 ·refine Ok.p (by omega) (Ok.j (Ok.atn hi ?_))
  dsimp only
  have ha:Qeo 1000 (nth es i) t=some (decide ((nth es i).From≤t∧t<(nth es i).To)):=cnd2
  refine Ok.oe ha ?_
  rw[Qa (by omega)]
  rw[QjM hi]at hk
  unfold Qmj at hk
  refine Ok.ite (fun h1=>?_) (fun h1=>?_)
  ·refine Ok.ite (fun h2=>?_) (fun h2=>?_)
   ·rw[if_pos (.inr h2)]at hk;exact hk
   ·rw[if_neg (by simp[h1,h2])]at hk
    refine Ok.ite (fun h3=>?_) (fun h3=>?_)
    ·rw[if_pos h3]at hk;exact hk
    ·rw[if_neg h3]at hk
     refine Ok.ite (fun h4=>?_) (fun h4=>?_)
     ·rw[if_pos h4]at hk;exact hk
     ·rw[if_neg h4]at hk
      refine Ok.ite (fun h5=>?_) (fun h5=>?_)
      ·rw[if_pos h5]at hk;exact hk
      ·rw[if_neg h5]at hk
       refine Ok.ite (fun h6=>?_) (fun h6=>?_)
       ·rw[if_pos h6]at hk;exact hk
       ·rw[if_neg h6]at hk;exact hk
  ·rw[if_pos (.inl h1)]at hk;exact hk
 ·refine Ok.n (by omega) (Ok.s ?_)
  rw[List.take_length]
variable {n:Nat} {c:D.Config}
theorem Q1.offs(h:Q1 n c):Qcs (YM c):=h.zones.2
theorem tOf(h:Q1 n c)(hn:n≤48):Qh2 1000 c=some (⟨c,[tabV (YM c)]⟩,true):=by
 have hz:QeV 1000 c.Zones=some [tabV (YM c)]:=by
  obtain⟨h1,h2⟩:=h.zones
  rw[h1]
  rcases h2 with h2|h2|h2<;>rw[h2]<;>kernel_rfl
 unfold Qh2 Qh4
 (try unfold cd);rw[Qhb h hn,ZI,QgU (by decide),hz,ZI,ZI]
theorem Qwc{s:D.Schedule}(h:Q1 n c)(hn:n≤48)(hs:QbK n s):Qdw 1000 ⟨c,[tabV (YM c)]⟩ s t=some (if 0≤t∧t≤8589934592 then whoS (YM c) s t else -1):=by
 obtain⟨l,hl1,hl2⟩:=hs.layers
 have hlen:=hs.len
 refine Ok.eq ?_
 unfold Qdw
 refine Ok.j (Ok.ite (fun h1=>Ok.s (by rw[if_neg (by omega)])) fun h1=>Ok.ite (fun h2=>Ok.s (by rw[if_neg (by omega)])) fun h2=>?_)
 dsimp only
 rw[if_pos (by omega)]
 have hlay:Ok (Y4 1000 ⟨c,[tabV (YM c)]⟩ s t) fun r=>r.2=layP (YM c) s t:=by
  unfold Y4 layP
  rw[hl1,show nth [l] 0=l from rfl]
  refine Ok.oe (Qvy hl2 h.offs rfl (by omega)) (Ok.ite (fun h3=>Ok.s (by rw[if_neg (by omega)])) fun h3=>?_)
  refine Ok.oe (Qwt (by omega)) (Ok.cnd (fun h4=>Ok.s (by rw[if_neg (by rw[h4];simp)])) fun h4=>Ok.s (by rw[if_pos ⟨by omega,h4⟩]))
 refine Ok.opt hlay fun⟨i,p⟩ hp=>?_
 dsimp only at hp ⊢
 refine Ok.oe (Qwu (by omega)) (Ok.s ?_)
 unfold whoS
 rw[hp]
theorem Qwg{i:Int}(h:Q1 n c)(hn:n≤48):QdT 1000 c i t=some (whoV c i t):=by
 have hsl:=h.slen
 have key:Ok (Qhf 1000 c i t) (·=whoV c i t):=by
  unfold Qhf whoV
  refine Ok.oe (tOf h hn) (Ok.j (Ok.t ?_))
  have hi:WP 1000 c i=some (decide (0≤i∧i<(c.Schedules.length:Int))):=cnd2
  refine Ok.oe hi (Ok.ite (fun h1=>?_) (fun h1=>Ok.s (by rw[if_neg (by omega)])))
  dsimp only
  refine Ok.at h1.1 h1.2 (Ok.oe (Qwc h hn (h.sch (by omega))) (Ok.s ?_))
  by_cases ht:0≤t∧t≤8589934592
  ·rw[if_pos ht,if_pos ⟨h1.1,by omega,ht⟩]
  ·rw[if_neg ht,if_neg (by omega)]
 unfold QdT
 rw[Ok.eq key,ZI]
end Go.Proofs.YtgokjdfkpnkekaaGreat
/-
  Who is on call in a crew: what the reference computes.
-/
namespace Go.Proofs.YtgokjdfkpnkekaaGreat
open Go AM
variable {off t k:Int} {l:D.Layer}
def QeT(off:Int):D.Zone:=⟨bZ,off,[]⟩
theorem r4In{fu:Nat}{n lo hi:Int}:Qak fu n lo hi=some (decide (lo≤n∧n≤hi)):=cnd2
theorem QrJ(ho:Qcs off):X9 1000 (QeT off)=some ([],0):=by
 rcases ho with rfl|rfl|rfl<;>kernel_rfl
theorem Qvi:QdH 1000 (QeT off) [] t=some off:=by
 refine Ok.eq ?_
 unfold QdH
 refine Ok.j (Ok.run 0 (fun _=>(([],(t,(off,(0,())))),())) rfl (by omega) (fun i hi=>absurd hi (by omega)) (fun k=>?_))
 exact Ok.j (Ok.n (by simp) (Ok.s rfl))
theorem Qt4(ho:Qcs off)(ht:0≤t∧t≤8589934592):VS 1000 (QeT off) t=some (⟨(t+off) / 86400,(t+off) % 86400⟩,0):=by
 have:=ho.le
 have h1:QaS 1000 (QeT off) t=some (off,0):=by
  refine Ok.eq ?_
  unfold QaS
  exact Ok.oe (QrJ ho) (Ok.n (by decide) (Ok.oe r4In (Ok.np (by omega) (Ok.oe Qvi (Ok.s rfl)))))
 refine Ok.eq ?_
 unfold VS
 refine Ok.oe h1 (Ok.n (by decide) ?_)
 unfold QiG
 rw[Qc (x:=t+off) (by omega),Qc (x:=t+off+864000) (by omega),Int.tdiv_eq_ediv_of_nonneg (by omega),Int.tmod_eq_emod_of_nonneg (by omega),Qc (x:=(t+off+864000) / 86400) (by omega),Qc (by omega),Qru (by omega),Qru (by omega),ZI]
 exact Ok.s (by rw[Prod.mk.injEq,D.Local.mk.injEq];omega)
theorem Qt3{d s:Int}(ho:Qcs off)(hd:1≤d∧d≤1000000)(hs:0≤s∧s≤86399):
  Ok (Qbo 1000 (QeT off) ⟨d,s⟩) fun r=>decide (r.2=0)=decide (d*86400+s - off≤8589934592)∧(r.2=0→r.1=d*86400+s - off):=by
 have:=ho.le
 unfold Qbo
 refine Ok.oe (QrJ ho) (Ok.n (by decide) (Ok.oe r4In (Ok.np (by dsimp only;omega) (Ok.n (by dsimp only;omega) ?_))))
 have hsm:Qfo 1000 d=some (decide (-2≤d∧d≤99422)):=by unfold Qfo;rw[r4In,ZI]
 refine Ok.oe hsm ?_
 by_cases hd2:d≤99422
 ·refine Ok.np (by omega) ?_
  refine Ok.loop (fun m x=>x=(([],(-1,())),(QeT off,(⟨d,s⟩,())))∧m=1∨x=(([],(0,())),(QeT off,(⟨d,s⟩,())))∧m=0∧¬d*86400+s - off≤8589934592) (m:=1) (by omega) (.inl ⟨rfl,rfl⟩) ?_
  rintro m x (⟨rfl,rfl⟩|⟨rfl,rfl,hno⟩) K hK
  ·dsimp only
   refine Ok.p (by simp) (Ok.j (Ok.n (by decide) ?_))
   dsimp only
   refine Ok.j (Ok.n (by rw[Qc (by omega)];simp) ?_)
   have ew:max 0 (IntKind.wrap .i64 (IntKind.wrap .i64 (IntKind.wrap .i64 (d*86400)+s) - off))=d*86400+s - off:=by
    rw[Qc (x:=d*86400) (by omega),Qc (x:=d*86400+s) (by omega),Qc (x:=d*86400+s - off) (by omega)];omega
   by_cases h:d*86400+s - off≤8589934592
   ·exact Ok.p (show max 0 (IntKind.wrap .i64 (IntKind.wrap .i64 (IntKind.wrap .i64 (d*86400)+s) - off))<8589934593 by rw[ew];omega) (Ok.s ⟨by simp[h],fun _=>ew⟩)
   ·exact Ok.n (show ¬max 0 (IntKind.wrap .i64 (IntKind.wrap .i64 (IntKind.wrap .i64 (d*86400)+s) - off))<8589934593 by rw[ew];omega) (hK 0 _ (by omega) (.inr ⟨rfl,rfl,h⟩))
  ·dsimp only
   exact Ok.n (by simp) (Ok.s ⟨by simp;omega,fun h=>by simp at h⟩)
 ·refine Ok.nn (by omega) (Ok.s ⟨by simp;omega,fun h=>by simp at h⟩)
theorem Qwo(hl:YD l)(ho:Qcs off)(hk:0≤k∧k≤200000)(hu:l.Unit=1):
  Ok (QaU 1000 (QeT off) l k) fun r=>r.2=decide (YL off l k≤8589934592)∧(r.2=true→r.1=YL off l k):=by
 have:=ho.le
 have h1:=hl.day;have h2:=hl.second;have h4:=hl.every
 unfold QaU
 refine Ok.n (by omega) (Ok.j (Ok.n (by omega) ?_))
 dsimp only
 have hE:l.Every=1∨l.Every=2∨l.Every=3:=by omega
 have hh:YL off l k=(l.Start.Day+k*l.Every)*86400+l.Start.Second - off:=(QoG (QiS hu)).symm
 have hb:0≤k*l.Every∧k*l.Every≤600000:=by rcases hE with e|e|e<;>rw[e]<;>omega
 rw[Qc (x:=k*l.Every) (by omega),Qc (x:=l.Start.Day+k*l.Every) (by omega)]
 refine Ok.opt (Qt3 (d:=l.Start.Day+k*l.Every) (s:=l.Start.Second) ho (by omega) (by omega)) fun⟨v,b⟩ ⟨g1,g2⟩=>?_
 rw[←hh]at g1 g2
 refine Ok.s ⟨g1,fun h=>g2 (of_decide_eq_true h)⟩
theorem Qv4(hl:YD l)(ho:Qcs off)(ht:0≤t∧t≤8589934592):Qfr 1000 (QeT off) l t=some (ZT off l t):=by
 have hoo:=ho.le
 have h1:=hl.day;have h2:=hl.second;have h4:=hl.every
 have hf:=Qe7 (off:=off) hl ho
 have h0:YL off l 0=Yo off l:=by unfold YL;omega
 have hfd:Yo off l=l.Start.Day*86400+l.Start.Second - off:=rfl
 have e3:=Qnd (t:=t) hl ho (by omega)
 refine Ok.eq ?_
 unfold Qfr
 rcases hl.unit with hu|hu
 ·refine Ok.p hu (Ok.j ?_)
  refine Ok.opt (Qt3 (d:=l.Start.Day) (s:=l.Start.Second) ho (by omega) (by omega)) fun⟨v,b⟩ ⟨g1,g2⟩=>?_
  dsimp only at g1 g2 ⊢
  have hb:b=0:=by
   have:decide (b=0)=true:=by rw[g1];simp;omega
   exact of_decide_eq_true this
  rw[g2 hb,←hfd]
  refine Ok.p hb (Ok.ite (fun hle=>?_) (fun hgt=>Ok.s ?_))
  ·have e1:IntKind.wrap .i64 (3600*l.Every)=3600*l.Every:=Qc (by omega)
   rw[e1]
   refine Ok.nzc (by omega) ?_
   rw[Qc (x:=t - Yo off l) (by omega),Int.tdiv_eq_ediv_of_nonneg (by omega)]
   have e2:(t - Yo off l) / (3600*l.Every)=ZT off l t:=by unfold ZT;rw[if_neg (by omega),Qgq hu]
   rw[e2,Qc (by omega)]
   exact Ok.s rfl
  ·exact(Qlv (by rw[h0];omega)).symm
 ·refine Ok.n (by omega) (Ok.oe (Qt4 ho ht) (Ok.j (Ok.n (by omega) ?_)))
  dsimp only
  obtain⟨dy,hD⟩:∃dy,(t+off) / 86400=dy:=⟨_,rfl⟩
  rw[hD]
  have hDb : -1≤dy∧dy≤99422:=by omega
  refine Ok.j (Ok.nzc (by omega) ?_)
  rw[Qc (x:=dy+2) (by omega),Qc (x:=dy+2 - l.Start.Day) (by omega),Int.tdiv_eq_ediv_of_nonneg (by omega)]
  obtain⟨k0,hk0⟩:∃k0,max (dy+2 - l.Start.Day) 0 / l.Every=k0:=⟨_,rfl⟩
  rw[hk0]
  have hE:l.Every=1∨l.Every=2∨l.Every=3:=by omega
  have hlin:∀k,YL off l k=Yo off l+86400*l.Every*k:=fun k=>(QoH hl).2 hu
  have hk:0≤k0∧k0≤99424∧(∀k,0≤k→k≤k0 - 3→YL off l k≤t)∧t<YL off l (k0+1):=by
   refine⟨?_,?_,fun k a b=>?_,?_⟩
   ·rcases hE with e|e|e<;>rw[e]at hk0<;>omega
   ·rcases hE with e|e|e<;>rw[e]at hk0<;>omega
   ·rw[hlin,hfd];rcases hE with e|e|e<;>rw[e]at hk0⊢<;>omega
   ·rw[hlin,hfd];rcases hE with e|e|e<;>rw[e]at hk0⊢<;>omega
  obtain⟨k1,k2,k3,k4⟩:=hk
  rw[Qc (x:=k0) (by omega)]
  refine Ok.loop (fun m x=>∃k,x=((t,k,()),QeT off,l,())∧-1≤k∧k≤k0∧(k = -1∨k0 - 3≤k)∧t<YL off l (k+1)∧m=(k - (k0 - 4)).toNat) (m:=4) (by omega) ⟨k0,rfl,by omega,by omega,by omega,k4,by omega⟩ ?_
  rintro m x ⟨k,rfl,a1,a2,a3,a4,rfl⟩ K hK
  dsimp only
  refine Ok.ite (fun hpos=>?_) (fun hz=>?_)
  ·refine Ok.j (Ok.opt (Qwo (k:=k) hl ho (by omega) hu) fun⟨v,b⟩ ⟨g1,g2⟩=>?_)
   dsimp only at g1 g2 ⊢
   have down:¬YL off l k≤t→Ok (K ((t,IntKind.wrap .i64 (k - 1),()),QeT off,l,())) (·=ZT off l t):=fun hgt=>by
    rw[Qc (x:=k - 1) (by omega)]
    have hne:¬k≤k0 - 3:=fun h=>hgt (k3 k hpos h)
    exact hK _ _ (by omega) ⟨k - 1,rfl,by omega,by omega,by omega,by rw[show k - 1+1=k by omega];omega,rfl⟩
   by_cases hm:YL off l k≤8589934592
   ·have hb:b=true:=by rw[g1];simp[hm]
    subst hb
    rw[g2 rfl]
    refine Ok.t (Ok.ite (fun hle=>?_) (fun hgt=>down hgt))
    exact Ok.s (Qlu hl hpos hle a4).symm
   ·have hb:b=false:=by rw[g1];simp[hm]
    subst hb
    exact Ok.f (down (by omega))
  ·obtain rfl:k = -1:=by omega
   exact Ok.s (Qlv (by simpa using a4)).symm
variable {n:Nat} {c:D.Config}
theorem Qtq(hl:YD l)(ho:Qcs off):Qfq 1000 (QeT off) l=some 0:=by
 have h1:=hl.day;have h2:=hl.second;have h3:=hl.unit;have h4:=hl.every;have h5:=hl.len
 have hz:Qbn 1000 (QeT off)=some 0:=by unfold Qbn;rw[QrJ ho,ZI]
 refine Ok.eq ?_
 unfold Qfq
 (repeat(first|with_reducible refine Ok.j ?_|with_reducible refine Ok.t ?_|with_reducible refine Ok.f ?_|with_reducible refine Ok.nt rfl ?_|with_reducible refine Ok.nf rfl ?_|with_reducible refine Ok.oe (hz) ?_|(with_reducible refine Ok.p ?hh ?_;case hh=>(first|omega|decide|assumption|(dsimp only;omega)|(simp;done)))|(with_reducible refine Ok.n ?hh ?_;case hh=>(first|omega|decide|assumption|(dsimp only;omega)|(simp;done)))|(with_reducible refine Ok.np ?hh ?_;case hh=>(first|omega|decide|assumption|(dsimp only;omega)|(simp;done)))|(with_reducible refine Ok.nn ?hh ?_;case hh=>(first|omega|decide|assumption|(dsimp only;omega)|(simp;done)))|(with_reducible refine Ok.nzc ?hh ?_;case hh=>first|omega|decide)|with_reducible refine Ok.sameC ?_|with_reducible refine Ok.os ?_))
 exact Ok.s rfl
theorem Qwp(h:Q1 n c)(hl:YD l)(ht:0≤t∧t≤8589934592):Qhn 1000 c l t=some (if ZT (YM c) l t<0 then(0,false)else(ZT (YM c) l t,true)):=by
 have hS:Qc8 1000 (QeT (YM c)) l t=some (ZT (YM c) l t,0):=by
  refine Ok.eq ?_
  unfold Qc8
  refine Ok.oe (Qtq hl h.offs) (Ok.n (by decide) (Ok.j (Ok.n (by omega) (Ok.n (by omega) ?_))))
  exact Ok.oe (Qv4 hl h.offs ht) (Ok.s rfl)
 refine Ok.eq ?_
 unfold Qhn
 rw[h.zones.1,hl.zone]
 refine Ok.atn (i:=0) (by simp) (Ok.oe (hS:Qc8 1000 (nth [(⟨bZ,YM c,[]⟩:D.Zone)] 0) l t=_) ?_)
 refine Ok.j (Ok.n (by decide) ?_)
 by_cases hs:ZT (YM c) l t<0
 ·exact Ok.p hs (Ok.s (by rw[if_pos hs]))
 ·refine Ok.n hs ?_
  rw[hl.win]
  refine Ok.n (by simp) ?_
  dsimp only
  exact Ok.p hl.cal.2 (Ok.s (by rw[if_neg hs]))
theorem qRaw(h:Q1 n c)(hl:YD l)(ht:0≤t∧t≤8589934592):QiK 1000 c l t=some (QbN (YM c) l t):=by
 have hlen:=hl.len
 refine Ok.eq ?_
 unfold QiK
 refine Ok.oe (Qwp h hl ht) ?_
 by_cases hs:ZT (YM c) l t<0
 ·rw[if_pos hs]
  refine Ok.nf rfl (Ok.s ?_)
  unfold QbN
  rw[if_pos hs]
 ·rw[if_neg hs]
  refine Ok.nt rfl (Ok.nzc (by omega) ?_)
  rw[QtW hl hs]
  exact Ok.s rfl
theorem Qwm{s:D.Schedule}{p:Int}(hs:s.Edits.length<900):Qho 1000 s p t=some (QhI s.Edits p t):=by
 refine Ok.eq ?_
 unfold Qho
 refine Ok.scan s.Edits.length (fun i=>((p,t,(i:Int),()),s,())) (fun i=>Qnx p t (nth s.Edits i)) rfl (by omega) (fun i hi hq _ k=>?_) (fun i hi hq k hk=>?_) (fun hq k=>?_)
 ·refine Ok.p (by omega) (Ok.j (Ok.atn hi ?_))
  have hq':=hq
  simp only[Qnx,bae,decide_eq_true_eq]at hq'
  exact Ok.p hq'.1.1.1 (Ok.p hq'.1.1.2 (Ok.p hq'.1.2 (Ok.p hq'.2 (Ok.s (by unfold QhI;rw[QhE hi hq])))))
 ·refine Ok.p (by omega) (Ok.j (Ok.atn hi ?_))
  dsimp only
  rw[Qa (by omega)]
  have hq':¬((nth s.Edits i).Kind=0∧(nth s.Edits i).A=p∧(nth s.Edits i).From≤t∧t<(nth s.Edits i).To):=fun⟨a,b,c,d⟩=>by
   simp[Qnx,a,b,c,d]at hq
  refine Ok.ite (fun g1=>Ok.ite (fun g2=>Ok.ite (fun g3=>Ok.ite (fun g4=>absurd ⟨g1,g2,g3,g4⟩ hq') (fun _=>hk)) (fun _=>hk)) (fun _=>hk)) (fun _=>hk)
 ·refine Ok.n (by omega) (Ok.s ?_)
  unfold QhI
  rw[QlM hq]
theorem Qwn{es:List D.Edit}{p:Int}(hs:es.length<900):Qhp 1000 es p t=some (Qe9 es p t):=by
 refine Ok.eq ?_
 unfold Qhp
 refine Ok.run es.length (fun i=>((es,Qe9 (es.take i) p t,t,(i:Int),()),())) (by simp[Qe9]) (by omega) (fun i hi k hk=>?_) (fun k=>?_)
 ·refine Ok.p (by omega) (Ok.j (Ok.atn hi ?_))
  dsimp only
  rw[Qa (by omega)]
  rw[QjM hi]at hk
  have hfold:∀v,v=Qmj t (Qe9 (es.take i) p t) (nth es i)→Ok (k ((es,v,t,((i+1:Nat):Int),()),())) (·=Qe9 es p t):=fun v e=>by rw[e];exact hk
  refine Ok.ite (fun h1=>hfold _ ?_) fun h1=>Ok.ite (fun h2=>hfold _ ?_) fun h2=>Ok.ite (fun h3=>hfold _ ?_) fun h3=>Ok.ite (fun h4=>Ok.ite (fun h5=>hfold _ ?_) fun h5=>Ok.p h4 (Ok.ite (fun h6=>hfold _ ?_) fun h6=>hfold _ ?_)) fun h4=>Ok.n h4 (hfold _ ?_)
  all_goals unfold Qmj
  ·rw[if_pos (by omega)]
  ·rw[if_pos (by omega)]
  ·rw[if_neg (by omega),if_pos h3]
  ·rw[if_neg (by omega),if_neg h3,if_neg (by omega),if_pos h5]
  ·rw[if_neg (by omega),if_neg h3,if_neg (by omega),if_neg h5,if_pos h6]
  ·rw[if_neg (by omega),if_neg h3,if_neg (by omega),if_neg h5,if_neg h6]
  ·by_cases h7:(nth es i).Kind=0
   ·rw[if_pos (.inr h7)]
   ·rw[if_neg (by omega),if_neg h3,if_pos h4]
 ·refine Ok.n (by omega) (Ok.s ?_)
  rw[List.take_length]
theorem qTop{i:Int}(h:Q1 n c)(hn:n≤48)(hi:0≤i∧i<2)(ht:0≤t∧t≤8589934592):Ok (Qla 1000 c i t) fun r=>r.2=layP (YM c) (nth c.Schedules i.toNat) t:=by
 have hsl:=h.slen
 have hs:=h.sch (i:=i.toNat) (by omega)
 obtain⟨l,hl1,hl2⟩:=hs.layers
 have hlen:=hs.len
 unfold Qla layP
 refine Ok.at (by omega) (by omega) ?_
 rw[hl1,show nth [l] 0=l from rfl,show IntKind.wrap .i64 (((List.length [l]:Nat):Int) - 1)=0 from by rw[Qc (by simp)];simp]
 obtain⟨s,hsd⟩:∃s,nth c.Schedules i.toNat=s:=⟨_,rfl⟩
 rw[hsd]at hl1 hlen ⊢
 refine Ok.loop (fun m x=>x=((t,0,()),c,s,())∧m=1∨x=((t,-1,()),c,s,())∧m=0∧¬(0≤QbN (YM c) l t∧QhI s.Edits (QbN (YM c) l t) t=false)) (m:=1) (by omega) (.inl ⟨rfl,rfl⟩) ?_
 rintro m x (⟨rfl,rfl⟩|⟨rfl,rfl,hno⟩) K hK
 ·dsimp only
  rw[hl1]
  refine Ok.p (by omega) (Ok.j (Ok.atn (i:=0) (by simp) (Ok.oe (qRaw h hl2 ht:QiK 1000 c (nth [l] 0) t=_) ?_)))
  have hnx:¬(0≤QbN (YM c) l t∧QhI s.Edits (QbN (YM c) l t) t=false)→Ok (K ((t,IntKind.wrap .i64 (0 - 1),()),c,s,())) fun r=>r.2=if 0≤QbN (YM c) l t∧QhI s.Edits (QbN (YM c) l t) t=false then QbN (YM c) l t else -1:=fun hno=>hK 0 _ (by omega) (.inr ⟨rfl,rfl,hno⟩)
  refine Ok.ite (fun h1=>Ok.oe (Qwm (by omega)) (Ok.cnd (fun h2=>hnx (fun h=>by have:=h.2.symm.trans h2;simp at this)) (fun h2=>Ok.s (by rw[if_pos ⟨h1,h2⟩];rfl)))) (fun h1=>hnx (fun h=>h1 h.1))
 ·dsimp only
  exact Ok.n (by omega) (Ok.s (by rw[if_neg hno]))
theorem QvD{i:Int}(h:Q1 n c)(hn:n≤48):QiL 1000 c i t=some (whoV c i t):=by
 have hsl:=h.slen
 have key:Ok (Qlb 1000 c i t) (·=whoV c i t):=by
  unfold Qlb QrM whoV
  by_cases hc:0≤i∧i<2∧0≤t∧t≤8589934592
  ·(try unfold cd);rw[if_pos hc,QcK hc.1,QcK (by omega),QcK hc.2.2.1,QcK hc.2.2.2,QcJ h hn,ZI,QcK rfl,ZI]
   refine Ok.nt rfl ?_
   unfold Qn3
   have hs:=h.sch (i:=i.toNat) (by omega)
   have hlen:=hs.len
   refine Ok.opt (P:=(·=whoS (YM c) (nth c.Schedules i.toNat) t)) ?_ fun r hr=>Ok.s hr
   refine Ok.opt (qTop h hn ⟨hc.1,hc.2.1⟩ hc.2.2) fun⟨a,p⟩ hp=>?_
   dsimp only at hp ⊢
   refine Ok.at (by omega) (by omega) (Ok.oe (Qwn (by omega)) (Ok.s ?_))
   unfold whoS
   rw[hp]
  ·rw[if_neg hc]
   have hf:AM.cnd (decide (0≤i)) (AM.cnd (decide (i<((c.Schedules.length:Nat):Int))) (AM.cnd (decide (0≤t)) (AM.cnd (decide (t≤8589934592)) (optc (Vo 1000 c) fun a0=>AM.cnd (decide (a0=0)) (some true) (some false)) (some false)) (some false)) (some false)) (some false)=some false:=by
    rw[hsl]
    by_cases h1:0≤i
    ·(try unfold cd);rw[QcK h1]
     by_cases h2:i<((2:Nat):Int)
     ·(try unfold cd);rw[QcK h2]
      by_cases h3:0≤t
      ·(try unfold cd);rw[QcK h3,QgU (by omega)]
      ·(try unfold cd);rw[QgU h3]
     ·(try unfold cd);rw[QgU h2]
    ·(try unfold cd);rw[QgU h1]
   (try unfold cd);rw[hf,ZI]
   exact Ok.nf rfl (Ok.s rfl)
 unfold QiL
 rw[Ok.eq key,ZI]
end Go.Proofs.YtgokjdfkpnkekaaGreat
/-
  Whether a person of a crew may be called: what the program and the reference compute.
-/
namespace Go.Proofs.YtgokjdfkpnkekaaGreat
open Go AM
variable {off t p:Int} {n:Nat} {c:D.Config} {ur:Bool}
theorem Qwv{d:Int}(hd : -10≤d∧d≤100000):UF 1000 d=some ((d+3) % 7)∧Qb5 1000 d=some ((d+3) % 7):=by
 have key:AM.nzc 7 (AM.nzc 7 (some (Int.tmod (IntKind.wrap .i64 ((Int.tmod d 7)+10)) 7)))=some ((d+3) % 7):=by
  have h1:=QiW (a:=d) (n:=7) (by omega)
  rw[Qc (by omega),Qru (by omega),Qru (by omega),Int.tmod_eq_emod_of_nonneg (by omega)]
  by_cases h0:0≤d
  ·rw[Int.tmod_eq_emod_of_nonneg h0];congr 1;omega
  ·have e1:Int.tmod d 7 = -((-d) % 7):=by
    rw[show d = -(-d)by omega,Int.neg_tmod,Int.tmod_eq_emod_of_nonneg (by omega),Int.neg_neg]
   rw[e1];congr 1;omega
 exact⟨key,key⟩
theorem Qna(ho:Qcs off)(ht:0≤t∧t≤8589934592):XD 1000 ⟨(t+off) / 86400,(t+off) % 86400⟩=some (UX off t)∧QdJ 1000 ⟨(t+off) / 86400,(t+off) % 86400⟩=some (UX off t):=by
 have:=ho.le
 have hw:=Qwv (d:=(t+off) / 86400) (by omega)
 unfold XD QdJ UX
 dsimp only
 rw[hw.1,hw.2,ZI,Qc (x:=((t+off) / 86400+3) % 7*86400) (by omega),Qc (by omega)]
 exact⟨rfl,rfl⟩
theorem QvS{ws:List D.Window}{s:Int}(hw:ws.length<900):Qcj 1000 ws s=some (Qc2 ws s):=by
 refine Ok.eq ?_
 unfold Qcj
 refine Ok.scan ws.length (fun i=>((s,ws,((ws.length:Nat):Int),(i:Int),()),())) (fun i=>decide ((nth ws i).From≤s) && decide (s<(nth ws i).To)) rfl (by omega) (fun i hi hq _ k=>?_) (fun i hi hq k hk=>?_) (fun hq k=>?_)
 ·have hq':=hq
  simp only[bae,decide_eq_true_eq]at hq'
  exact Ok.p (by omega) (Ok.j (Ok.atn hi (Ok.p hq'.1 (Ok.p hq'.2 (Ok.s (by unfold Qc2;rw[QhE hi hq]))))))
 ·refine Ok.p (by omega) (Ok.j (Ok.atn hi ?_))
  dsimp only
  rw[Qa (by omega)]
  refine Ok.ite (fun h1=>Ok.ite (fun h2=>by simp[h1,h2]at hq) (fun _=>hk)) (fun _=>hk)
 ·exact Ok.n (by omega) (Ok.s (by unfold Qc2;rw[QlM hq]))
theorem Qsm{ws:List D.Window}{s:Int}(hw:ws.length<900):QdI 1000 ws s=some (Qc2 ws s):=by
 refine Ok.eq ?_
 unfold QdI
 refine Ok.scan ws.length (fun i=>((ws,s,(i:Int),()),())) (fun i=>decide ((nth ws i).From≤s) && decide (s<(nth ws i).To)) rfl (by omega) (fun i hi hq _ k=>?_) (fun i hi hq k hk=>?_) (fun hq k=>?_)
 ·have hq':=hq
  simp only[bae,decide_eq_true_eq]at hq'
  exact Ok.p (by omega) (Ok.j (Ok.atn hi (Ok.p hq'.1 (Ok.atn hi (Ok.p hq'.2 (Ok.s (by unfold Qc2;rw[QhE hi hq])))))))
 ·refine Ok.p (by omega) (Ok.j (Ok.atn hi ?_))
  dsimp only
  rw[Qa (by omega)]
  refine Ok.ite (fun h1=>Ok.atn hi (Ok.ite (fun h2=>by simp[h1,h2]at hq) (fun _=>hk))) (fun _=>hk)
 ·exact Ok.n (by omega) (Ok.s (by unfold Qc2;rw[QlM hq]))
theorem Qo4:QfT 1000 t t=some (decide (0≤t∧t≤8589934592))∧QiH 1000 t t=some (decide (0≤t∧t≤8589934592)):=by
 have key:AM.cnd (decide (0≤t)) (AM.cnd (decide (t≤8589934592)) (AM.cnd (decide (t≤t)) (AM.cnd (decide (t≤8589934592)) (AM.cnd (decide ((IntKind.wrap .i64 (t - t))≤34560000)) (some true) (some false)) (some false)) (some false)) (some false)) (some false)=some (decide (0≤t∧t≤8589934592)):=by
  rw[Qc (x:=t - t) (by omega)]
  by_cases h1:0≤t
  ·by_cases h2:t≤8589934592
   ·(try unfold cd);rw[QcK h1,QcK h2,QcK (by omega),QcK h2,QcK (by omega)];simp[h1,h2]
   ·(try unfold cd);rw[QcK h1,QgU h2];simp[h2]
  ·(try unfold cd);rw[QgU h1];simp[h1]
 exact⟨key,key⟩
theorem V1.qlen{x:D.Person}(h:V1 x):x.Quiet.length≤1:=by
 rcases h.quiet with h|⟨a,b,h,_⟩<;>rw[h]<;>simp
theorem Qtr(h:Q1 n c)(hn:n≤48):WH 1000 c p t ur=some (Wo c p t ur):=by
 have hpl:=h.plen
 refine Ok.eq ?_
 unfold WH
 have hopen:Ok (QbV 1000 c p t t) fun r=>(r.2=0↔0≤p∧p<4∧0≤t∧t≤8589934592)∧(r.2=0→r.1=⟨c,[tabV (YM c)]⟩):=by
  unfold QbV
  refine Ok.oe (tOf h hn) (Ok.j (Ok.nt rfl ?_))
  refine Ok.ite (fun h1=>Ok.s ⟨by simp;omega,fun h=>by simp at h⟩) fun h1=>Ok.ite (fun h2=>Ok.s ⟨by simp;omega,fun h=>by simp at h⟩) fun h2=>?_
  refine Ok.oe Qo4.1 (Ok.ncnd (fun h3=>Ok.s ⟨?_,fun h=>by simp at h⟩) fun h3=>Ok.s ⟨?_,fun _=>rfl⟩)
  ·have h3:=of_decide_eq_false h3
   simp;omega
  ·have h3:=of_decide_eq_true h3
   simp;omega
 refine Ok.opt hopen fun⟨v,e⟩ ⟨g1,g2⟩=>?_
 dsimp only at g1 g2 ⊢
 by_cases he:e=0
 ·have hr:=g1.1 he
  rw[g2 he]
  refine Ok.n (by simp[he]) (Ok.at hr.1 (by omega) ?_)
  obtain⟨x,hx⟩:∃x,nth c.People p.toNat=x:=⟨_,rfl⟩
  have hper:=h.per (i:=p.toNat) (by omega)
  rw[hx]at hper ⊢
  have hq:=hper.qlen
  have htab:Ok (Xd 1000 ⟨c,[tabV (YM c)]⟩ x.Zone) (·=tabV (YM c)):=by
   unfold Xd
   rw[hper.zone]
   exact Ok.atn (i:=0) (by simp) (Ok.s rfl)
  have hlast:Ok (optc (Xd 1000 ⟨c,[tabV (YM c)]⟩ x.Zone) fun a3=>optc (ZB 1000 a3 t) fun a4=>optc (XD 1000 a4) fun a5=>optc (Qcj 1000 x.Quiet a5) fun a6=>AM.cnd a6 (some false) (some true)) (·=!Qc2 x.Quiet (UX (YM c) t)):=by
   refine Ok.opt htab fun tb htb=>?_
   subst htb
   refine Ok.oe (Qua h.offs hr.2.2) (Ok.oe (Qna h.offs hr.2.2).1 (Ok.oe (QvS (by omega)) (Ok.cnd (fun h1=>Ok.s (by rw[h1];rfl)) (fun h1=>Ok.s (by rw[h1];rfl)))))
  have hv:Wo c p t ur=(ur && x.Consent || !Qc2 x.Quiet (UX (YM c) t)):=by unfold Wo;rw[hx];simp[hr.1,hr.2.1,hr.2.2.1,hr.2.2.2]
  rw[hv]
  refine Ok.cnd (fun h1=>Ok.cnd (fun h2=>Ok.s (by simp[h1,h2])) (fun h2=>hlast.mono fun r hr=>by rw[hr,h1,h2];simp)) (fun h1=>hlast.mono fun r hr=>by rw[hr,h1];simp)
 ·refine Ok.p he (Ok.s ?_)
  have hr:¬(0≤p∧p<4∧0≤t∧t≤8589934592):=fun h=>he (g1.2 h)
  unfold Wo
  rw[decide_eq_false hr];rfl
theorem QrO(h:Q1 n c)(hn:n≤48):UT 1000 c p t ur=some (Wo c p t ur):=by
 have hpl:=h.plen
 refine Ok.eq ?_
 unfold UT
 have hopen:Ok (Qfs 1000 c p t t) fun r=>r=0↔0≤p∧p<4∧0≤t∧t≤8589934592:=by
  unfold Qfs
  refine Ok.j (Ok.oe (QcJ h hn) (Ok.n (by decide) ?_))
  refine Ok.ite (fun h1=>Ok.s (by omega)) fun h1=>Ok.ite (fun h2=>Ok.s (by omega)) fun h2=>?_
  refine Ok.oe Qo4.2 (Ok.ncnd (fun h3=>Ok.s ?_) fun h3=>Ok.s ?_)
  ·have h3:=of_decide_eq_false h3
   omega
  ·have h3:=of_decide_eq_true h3
   omega
 refine Ok.opt hopen fun e g1=>?_
 by_cases he:e=0
 ·have hr:=g1.1 he
  refine Ok.n (by simp[he]) (Ok.at hr.1 (by omega) ?_)
  obtain⟨x,hx⟩:∃x,nth c.People p.toNat=x:=⟨_,rfl⟩
  have hper:=h.per (i:=p.toNat) (by omega)
  rw[hx]at hper ⊢
  have hq:=hper.qlen
  have hv:Wo c p t ur=(ur && x.Consent || !Qc2 x.Quiet (UX (YM c) t)):=by unfold Wo;rw[hx];simp[hr.1,hr.2.1,hr.2.2.1,hr.2.2.2]
  rw[hv,hper.zone,h.zones.1]
  refine Ok.atn (i:=0) (by simp) ?_
  have hin:QjW 1000 (QeT (YM c)) x.Quiet t=some (Qc2 x.Quiet (UX (YM c) t)):=by
   refine Ok.eq ?_
   unfold QjW Qgi
   refine Ok.oe (v:=(UX (YM c) t,0)) ?_ (Ok.p rfl (Ok.oe (Qpc hper) (Ok.p rfl (Ok.oe (Qsm (by omega)) (Ok.cnd (fun h1=>Ok.s (by rw[h1])) (fun h1=>Ok.s (by rw[h1])))))))
   refine Ok.eq (Ok.oe (Qt4 h.offs hr.2.2) (Ok.n (by decide) (Ok.oe (Qna h.offs hr.2.2).2 (Ok.s rfl))))
  refine Ok.oe (hin:QjW 1000 (nth [(⟨bZ,YM c,[]⟩:D.Zone)] 0) x.Quiet t=_) ?_
  refine Ok.cnd (fun h1=>Ok.cnd (fun h2=>Ok.cnd (fun h3=>Ok.s (by simp[h2,h3])) (fun h3=>Ok.s (by simp[h1,h3]))) (fun h2=>Ok.s (by simp[h1,h2]))) (fun h1=>Ok.s (by simp[h1]))
 ·refine Ok.p he (Ok.s ?_)
  have hr:¬(0≤p∧p<4∧0≤t∧t≤8589934592):=fun h=>he (g1.2 h)
  unfold Wo
  rw[decide_eq_false hr];rfl
end Go.Proofs.YtgokjdfkpnkekaaGreat
/-
  Lists that are changed in place: what filtering, sorting by insertion and leaving out neighbours that are equal keep. Plain.
-/
namespace Go.Proofs.YtgokjdfkpnkekaaGreat
open Go AM
theorem VA{l:List Int}{i:Nat}(h:i<l.length):l.take (i+1)=l.take i++[nth l i]:=(QG h).symm
structure QhA (p0:List Int) (q:Int→Bool) (w j:Nat) (a:List Int):Prop where
 len:a.length=p0.length
 wj:w≤j∧j≤p0.length
 done:a.take w=(p0.take j).filter q
 rest:∀k,j≤k→nth a k=nth p0 k
theorem QfZ{l:List Int}{q:Int→Bool}{i:Nat}(hi:i≤l.length)(h:∀j,j<i→q (nth l j)=true):(l.take i).filter q=l.take i:=by
 refine List.filter_eq_self.2 fun x hx=>?_
 obtain⟨k,hk,rfl⟩:=List.getElem_of_mem hx
 rw[List.length_take]at hk
 have:=h k (by omega)
 simpa [nth,List.getD_eq_getElem?_getD,List.getElem?_eq_getElem (show k<l.length by omega)]using this
theorem Ql5{p0:List Int}{q:Int→Bool}{i:Nat}(hi:i<p0.length)(h:∀j,j<i→q (nth p0 j)=true)(hx:q (nth p0 i)=false):QhA p0 q i (i+1) p0:=by
 refine⟨rfl,by omega,?_,fun k _=>rfl⟩
 rw[VA hi,List.filter_append,QfZ (by omega) h]
 simp[hx]
theorem Qow{p0 a:List Int}{q:Int→Bool}{w j:Nat}(h:QhA p0 q w j a)(hj:j<p0.length)(hx:q (nth a j)=true):QhA p0 q (w+1) (j+1) (a.set w (nth a j)):=by
 have h1:=h.wj
 have h2:=h.len
 refine⟨by simp[h.len],by omega,?_,fun k hk=>?_⟩
 ·rw[h.rest j (Nat.le_refl _)]at hx ⊢
  rw[VA hj,List.filter_append,←h.done,VA (by simp;omega),Qis (by omega),if_pos rfl,List.take_set_of_le (by omega)]
  simp[hx]
 ·rw[Qis (by omega),if_neg (by omega)];exact h.rest k (by omega)
theorem Qox{p0 a:List Int}{q:Int→Bool}{w j:Nat}(h:QhA p0 q w j a)(hj:j<p0.length)(hx:q (nth a j)=false):QhA p0 q w (j+1) a:=by
 have h1:=h.wj
 refine⟨h.len,by omega,?_,fun k hk=>h.rest k (by omega)⟩
 rw[h.rest j (Nat.le_refl _)]at hx
 rw[VA hj,List.filter_append,←h.done]
 simp[hx]
def InTo(l:List Int)(m:Nat)(z:Int):Prop:=∃k,k<m∧nth l k=z
theorem QoK{l:List Int}{m:Nat}{z:Int}(hm:m≤l.length):InTo l m z↔z∈l.take m:=by
 constructor
 ·rintro⟨k,hk,rfl⟩
  have:nth (l.take m) k=nth l k:=by
   simp only[nth,List.getD_eq_getElem?_getD,List.getElem?_take]
   rw[if_pos hk]
  rw[←this]
  exact Qk (by simp;omega)
 ·intro h
  obtain⟨k,hk,rfl⟩:=List.getElem_of_mem h
  rw[List.length_take]at hk
  exact⟨k,by omega,by simp[nth,List.getD_eq_getElem?_getD,List.getElem?_eq_getElem (show k<l.length by omega)]⟩
theorem Qsa{l:List Int}{j m:Nat}{z:Int}(h1:1≤j)(hj:j<l.length)(hm:j<m):InTo (Qg8 l j) m z↔InTo l m z:=by
 unfold InTo
 constructor
 ·rintro⟨k,hk,e⟩
  rw[QdA h1 hj]at e
  split at e
  ·exact⟨j,hm,e⟩
  ·split at e
   ·exact⟨j - 1,by omega,e⟩
   ·exact⟨k,hk,e⟩
 ·rintro⟨k,hk,e⟩
  by_cases g1:k=j
  ·subst g1;exact⟨k - 1,by omega,by rw[QdA h1 hj,if_pos rfl];exact e⟩
  ·by_cases g2:k=j - 1
   ·subst g2;exact⟨j,hm,by rw[QdA h1 hj,if_neg (by omega),if_pos rfl];exact e⟩
   ·exact⟨k,hk,by rw[QdA h1 hj,if_neg g2,if_neg g1];exact e⟩
def Qp5(l:List Int)(n:Nat):Prop:=∀k,1≤k→k<n→nth l (k - 1)<nth l k
theorem QjC{l:List Int}{n:Nat}(hn:n≤l.length)(h:Qp5 l n):Asc (l.take n):=by
 have hnth:∀k,k<n→nth (l.take n) k=nth l k:=fun k hk=>by
  simp only[nth,List.getD_eq_getElem?_getD,List.getElem?_take]
  rw[if_pos hk]
 have hlt:∀b,b<n→∀a,a<b→nth l a<nth l b:=by
  intro b
  induction b with
  |zero=>intro _ a ha;omega
  |succ b ih=>
   intro hb a ha
   have h1:=h (b+1) (by omega) hb
   rw[Nat.add_sub_cancel]at h1
   by_cases e:a=b
   ·subst e;exact h1
   ·have:=ih (by omega) a (by omega);omega
 have hl:(l.take n).length=n:=by simp;omega
 refine QtP (fun a b hab hb=>?_) (fun k h1 h2=>?_)
 ·rw[hl]at hb;rw[hnth a (by omega),hnth b hb];have:=hlt b hb a hab;omega
 ·rw[hl]at h2;rw[hnth _ (by omega),hnth k h2];have:=h k h1 h2;omega
structure Qjx (p0:List Int) (m o i k:Nat) (a:List Int):Prop where
 len:a.length=p0.length
 ik:1≤i∧i<o+k∧o+k≤m∧1≤k
 rest:∀j,o+k≤j+1→nth a j=nth p0 j
 asc:Qp5 a i
 last:nth a (i - 1)=nth p0 (o+k - 1)
 mem:∀z,InTo a i z↔InTo p0 (o+k) z
theorem QqN{p0:List Int}{m o:Nat}(ho:1≤o)(hm:o<m)(ha:Qp5 p0 o)(he:nth p0 o=nth p0 (o - 1)):Qjx p0 m o o 1 p0:=by
 refine⟨rfl,by omega,fun _ _=>rfl,ha,by rw[Nat.add_sub_cancel];exact he.symm,fun z=>⟨?_,?_⟩⟩
 ·rintro⟨k,hk,e⟩;exact⟨k,by omega,e⟩
 ·rintro⟨k,hk,e⟩
  by_cases h:k=o
  ·subst h;exact⟨k - 1,by omega,by rw[←he];exact e⟩
  ·exact⟨k,by omega,e⟩
theorem QuF{p0 a:List Int}{m o i k:Nat}(h:Qjx p0 m o i k a)(hk:o+k<m)(hml:m≤p0.length)(hs:YV p0 m)(hne:nth a (o+k)≠nth a (o+k - 1)):Qjx p0 m o (i+1) (k+1) (a.set i (nth a (o+k))):=by
 have h1:=h.ik
 have h2:=h.len
 have e1:=h.rest (o+k) (by omega)
 have e2:=h.rest (o+k - 1) (by omega)
 have hlt:nth p0 (o+k - 1)<nth p0 (o+k):=by
  have:=hs (o+k - 1) (o+k) (by omega) hk
  rw[e1,e2]at hne;omega
 have hset:∀j,nth (a.set i (nth a (o+k))) j=if j=i then nth p0 (o+k)else nth a j:=fun j=>by rw[Qis (by omega),e1]
 refine⟨by simp[h.len],by omega,fun j hj=>?_,fun j hj1 hj2=>?_,?_,fun z=>⟨?_,?_⟩⟩
 ·rw[hset,if_neg (by omega)];exact h.rest j (by omega)
 ·rw[hset,hset,if_neg (show j - 1≠i by omega)]
  by_cases e:j=i
  ·rw[if_pos e,e,h.last];exact hlt
  ·rw[if_neg e];exact h.asc j hj1 (by omega)
 ·rw[hset,Nat.add_sub_cancel,if_pos rfl,show o+(k+1) - 1=o+k by omega]
 ·rintro⟨j,hj,e⟩
  rw[hset]at e
  split at e
  ·exact⟨o+k,by omega,e⟩
  ·obtain⟨j',hj',e'⟩:=(h.mem z).1 ⟨j,by omega,e⟩
   exact⟨j',by omega,e'⟩
 ·rintro⟨j,hj,e⟩
  by_cases g:j=o+k
  ·exact⟨i,by omega,by rw[hset,if_pos rfl,←g];exact e⟩
  ·obtain⟨j',hj',e'⟩:=(h.mem z).2 ⟨j,by omega,e⟩
   exact⟨j',by omega,by rw[hset,if_neg (by omega)];exact e'⟩
theorem QuG{p0 a:List Int}{m o i k:Nat}(h:Qjx p0 m o i k a)(hk:o+k<m)(he:nth a (o+k)=nth a (o+k - 1)):Qjx p0 m o i (k+1) a:=by
 have h1:=h.ik
 have e1:=h.rest (o+k) (by omega)
 have e2:=h.rest (o+k - 1) (by omega)
 have e3:nth p0 (o+k)=nth p0 (o+k - 1):=by rw[←e1,←e2];exact he
 refine⟨h.len,by omega,fun j hj=>h.rest j (by omega),h.asc,by rw[h.last,show o+(k+1) - 1=o+k by omega];exact e3.symm,fun z=>⟨fun hz=>?_,?_⟩⟩
 ·obtain⟨j',hj',e'⟩:=(h.mem z).1 hz
  exact⟨j',by omega,e'⟩
 ·rintro⟨j,hj,e⟩
  by_cases g:j=o+k
  ·exact(h.mem z).2 ⟨o+k - 1,by omega,by rw[←e3,←g];exact e⟩
  ·exact(h.mem z).2 ⟨j,by omega,e⟩
/-
  People whom targets mean: what the program and the reference compute.
-/
variable {t p:Int} {n:Nat} {c:D.Config} {b:D.Book}
theorem Qrk{x y:Int}:WT 1000 x y=some (decide (x<y)):=by
 unfold WT UG
 by_cases h:x<y<;>simp[optc,cd,AM.cnd,h]
theorem Qs7{l0:List Int}{m:Nat}(hm:m≤l0.length)(hs:m≤900):
  Ok (Q5 1000 0 m l0 0 (m:Int)) fun r=>r.length=l0.length∧YV r m∧∀z,InTo r m z↔InTo l0 m z:=by
 unfold Q5
 refine Ok.loop (fun q x=>∃i a,x=((0,m,0,(m:Int),((i:Nat):Int),()),a,())∧1≤i∧a.length=l0.length∧YV a (min i m)∧(∀z,InTo a m z↔InTo l0 m z)∧q=m+1 - i) (m:=m) (by omega)
  ⟨1,l0,by rw[Qc (by omega)];rfl,by omega,rfl,fun a b h1 h2=>by omega,fun z=>Iff.rfl,by omega⟩ ?_
 rintro q x ⟨i,a,rfl,h1,h2,h3,h4,rfl⟩ K hK
 dsimp only
 refine Ok.ite (fun hi=>?_) (fun hi=>Ok.s ⟨h2,by rw[show min i m=m by omega]at h3;exact h3,h4⟩)
 have hlt:i<m:=by omega
 rw[show min i m=i by omega]at h3
 refine Ok.j ?_
 refine Ok.loop (fun q x=>∃j a',x=((0,m,0,(m:Int),((i:Nat):Int),((j:Nat):Int),()),a',())∧j≤i∧a'.length=l0.length∧Qjw a' (i+1) j∧(∀z,InTo a' m z↔InTo l0 m z)∧q=j) (m:=i) (by omega)
  ⟨i,a,rfl,by omega,h2,Qgz h3,h4,rfl⟩ ?_
 rintro q x ⟨j,a',rfl,g1,g2,g3,g4,hqj⟩ K2 hK2
 dsimp only
 have fin:(j=0∨nth a' (j - 1)≤nth a' j)→Ok (K ((0,m,0,(m:Int),IntKind.wrap .i64 ((i:Int)+1),()),a',())) fun r=>r.length=l0.length∧YV r m∧∀z,InTo r m z↔InTo l0 m z:=fun he=>by
  rw[Qa (by omega)]
  exact hK (m+1 - (i+1)) _ (by omega) ⟨i+1,a',rfl,by omega,g2,by rw[show min (i+1) m=i+1 by omega];exact QjE g3 he,g4,rfl⟩
 refine Ok.j (Ok.ite (fun hj=>?_) (fun hj=>fin (.inl (by omega))))
 have hw:IntKind.wrap .i64 ((j:Int) - 1)=((j - 1:Nat):Int):=by rw[Qc (by omega)];omega
 rw[hw]
 refine Ok.natn (Ok.lt (by omega) ?_)
 rw[Nat.zero_add]
 refine Ok.get (by omega) (Ok.natn (Ok.lt (by omega) ?_))
 rw[Nat.zero_add]
 refine Ok.get (by omega) (Ok.oe Qrk (Ok.ite (fun hless=>?_) (fun hless=>fin (.inr (by omega)))))
 dsimp only
 rw[hw]
 refine Ok.natn (Ok.lt (by omega) ?_)
 rw[Nat.zero_add]
 refine Ok.get (by omega) (Ok.natn (Ok.lt (by omega) ?_))
 refine Ok.get (by omega) (Ok.natn (Ok.lt (by omega) ?_))
 refine Ok.get (by omega) (Ok.natn (Ok.lt (by omega) ?_))
 refine Ok.get (by simp;omega) ?_
 have hsw:(a'.set (0+j) (nth a' (j - 1))).set (0+(j - 1)) (nth a' (0+j))=Qg8 a' j:=by simp only[Nat.zero_add];rfl
 rw[hsw]
 exact hK2 (j - 1) _ (by omega) ⟨j - 1,Qg8 a' j,rfl,by omega,by rw[QtE];exact g2,QhO g3 (by omega) (by omega) (by omega) hless,fun z=>(Qsa (by omega) (by omega) (by omega)).trans (g4 z),rfl⟩
theorem QqF:∀m:Nat,m<13→(UN 1000 (IntKind.wrap .u64 ((m:Nat):Int))).isSome=true:=by decide
theorem Qvv{l0:List Int}{m:Nat}(hm:m≤l0.length)(hs:m≤12):
  Ok (XZ 1000 0 m l0) fun r=>r.length=l0.length∧YV r m∧∀z,InTo r m z↔InTo l0 m z:=by
 unfold XZ
 rw[Nat.sub_zero]
 obtain⟨bv,hb⟩:=Option.isSome_iff_exists.1 (QqF m (by omega))
 refine Ok.oe hb (Ok.opt (P:=fun r=>r.length=l0.length∧YV r m∧∀z,InTo r m z↔InTo l0 m z) ?_ fun r hr=>Ok.ck hr.1 (Ok.s hr))
 unfold Yx
 refine Ok.loop (fun q x=>x=((0,m,0,(m:Int),bv,true,true,()),l0,())) (m:=0) (by omega) rfl ?_
 rintro q x rfl K hK
 dsimp only
 refine Ok.p (by rw[Qc (by omega)];omega) (Ok.opt (Qs7 hm (by omega)) fun r hr=>Ok.ck hr.1 (Ok.s hr))
theorem Qpo{l0:List Int}{m:Nat}(hm:m≤l0.length)(hs:m≤900)(hl:l0.length≤34359738368)(hso:YV l0 m):
  Ok (Y3 1000 0 m l0) fun r=>r.1=0∧r.2.1≤m∧r.2.2.length=l0.length∧Asc (r.2.2.take r.2.1)∧∀z,z∈r.2.2.take r.2.1↔InTo l0 m z:=by
 have done:∀(a:List Int) (i:Nat),a.length=l0.length→i≤m→Qp5 a i→(∀z,InTo a i z↔InTo l0 m z)→Asc (a.take i)∧∀z,z∈a.take i↔InTo l0 m z:=fun a i h1 h2 h3 h4=>
  ⟨QjC (by omega) h3,fun z=>by rw[←QoK (by omega)];exact h4 z⟩
 unfold Y3
 rw[Nat.sub_zero]
 refine Ok.ite (fun h=>Ok.s ⟨rfl,Nat.le_refl _,rfl,done l0 m rfl (Nat.le_refl _) (fun k h1 h2=>by omega) fun z=>Iff.rfl⟩) fun h=>?_
 refine Ok.loop (fun q x=>∃i:Nat,x=((0,m,((i:Nat):Int),()),l0,())∧1≤i∧i≤m∧Qp5 l0 i∧q=m - i) (m:=m - 1) (by omega) ⟨1,rfl,by omega,by omega,fun k h1 h2=>by omega,rfl⟩ ?_
 rintro q x ⟨i,rfl,h1,h2,h3,rfl⟩ K hK
 dsimp only
 rw[Nat.sub_zero]
 refine Ok.ite (fun hi=>?_) (fun hi=>?_)
 ·have hw:IntKind.wrap .i64 ((i:Int) - 1)=((i - 1:Nat):Int):=by rw[Qc (by omega)];omega
  rw[hw]
  refine Ok.natn (Ok.lt (by omega) ?_)
  rw[Nat.zero_add]
  refine Ok.get (by omega) (Ok.natn (Ok.lt (by omega) ?_))
  rw[Nat.zero_add]
  refine Ok.get (by omega) (Ok.ite (fun he=>?_) (fun hne=>?_))
  ·refine Ok.natn (Ok.lt (by omega) ?_)
   rw[Nat.zero_add,Nat.zero_add]
   refine Ok.loop (fun q x=>∃(w k:Nat) (a:List Int),x=((0,m,((w:Nat):Int),i,m,((k:Nat):Int),()),a,())∧Qjx l0 m i w k a∧q=m - i - k) (m:=m - i - 1) (by omega) ⟨i,1,l0,rfl,QqN h1 (by omega) h3 he,rfl⟩ ?_
   rintro q x ⟨w,k,a,rfl,hinv,rfl⟩ K2 hK2
   have hik:=hinv.ik
   have hal:=hinv.len
   dsimp only
   refine Ok.ite (fun hk=>?_) (fun hk=>?_)
   ·have hw2:IntKind.wrap .i64 ((k:Int) - 1)=((k - 1:Nat):Int):=by rw[Qc (by omega)];omega
    rw[hw2]
    refine Ok.j (Ok.natn (Ok.lt (by omega) (Ok.get (by omega) (Ok.natn (Ok.lt (by omega) (Ok.get (by omega) ?_))))))
    refine Ok.ite (fun hd=>?_) (fun hd=>?_)
    ·refine Ok.natn (Ok.lt (by omega) (Ok.get (by omega) (Ok.natn (Ok.lt (by omega) ?_))))
     rw[Nat.zero_add]
     refine Ok.get (by omega) ?_
     dsimp only
     rw[Qa (by omega),Qa (by omega)]
     exact hK2 (m - i - (k+1)) _ (by omega) ⟨w+1,k+1,_,rfl,QuF hinv (by omega) hm hso (by rw[show i+k - 1=i+(k - 1)by omega];exact hd),rfl⟩
    ·dsimp only
     rw[Qa (by omega)]
     exact hK2 (m - i - (k+1)) _ (by omega) ⟨w,k+1,a,rfl,QuG hinv (by omega) (by rw[show i+k - 1=i+(k - 1)by omega];exact Decidable.not_not.1 hd),rfl⟩
   ·have ek:i+k=m:=by omega
    refine Ok.natn (Ok.lt (by omega) (Ok.lec (by omega) (Ok.lec (by omega) (Ok.natn (Ok.lec (by omega) (Ok.s ?_))))))
    simp only[Nat.zero_add,Nat.sub_zero,Nat.add_zero]
    have hd:=done a w hal (by omega) hinv.asc (by rw[←ek];exact hinv.mem)
    have ht:(List.take w a++List.replicate (m - w) 0++List.drop m a).take w=a.take w:=by
     rw[List.append_assoc,List.take_append_of_le_length (by simp;omega),List.take_take,Nat.min_self]
    refine⟨trivial,by omega,by simp;omega,?_,?_⟩
    ·rw[ht];exact hd.1
    ·rw[ht];exact hd.2
  ·rw[Qa (by omega)]
   have hlt:nth l0 (i - 1)<nth l0 i:=by
    have:=hso (i - 1) i (by omega) (by omega);omega
   refine hK (m - (i+1)) _ (by omega) ⟨i+1,rfl,by omega,by omega,fun k a1 a2=>?_,rfl⟩
   by_cases e:k=i
   ·subst e;exact hlt
   ·exact h3 k a1 (by omega)
 ·obtain rfl:i=m:=by omega
  exact Ok.s ⟨rfl,Nat.le_refl _,rfl,done l0 i rfl (Nat.le_refl _) h3 fun z=>Iff.rfl⟩
def inC(x:Int):Bool:=decide (0≤x∧x≤3)
theorem pIn{fu:Nat}{n lo hi:Int}:Yd fu n lo hi=some (decide (lo≤n∧n≤hi)):=cnd2
theorem people1(h:Q1 n c){x:Int}:X6 1000 x c=some (!inC x):=by
 unfold X6
 rw[h.plen,show IntKind.wrap .i64 (((4:Nat):Int) - 1)=3 from rfl,pIn,ZI,Wc]
 rfl
theorem QuJ(h:Q1 n c){l0:List Int}(hl:l0.length≤900):
  Ok (QI 1000 l0 c) fun r=>r.1=0∧r.2.1≤l0.length∧r.2.2.length=l0.length∧r.2.2.take r.2.1=l0.filter inC:=by
 unfold QI
 have hidx:Ok (QO 1000 l0 c) fun r=>r = -1∧(∀j,j<l0.length→inC (nth l0 j)=true)∨∃i:Nat,r=(i:Int)∧i<l0.length∧inC (nth l0 i)=false∧∀j,j<i→inC (nth l0 j)=true:=by
  unfold QO
  refine Ok.scan l0.length (fun i=>((((l0.length:Nat):Int),(i:Int),()),c,l0,())) (fun i=>!inC (nth l0 i)) rfl (by omega) (fun i hi hq hj k=>?_) (fun i hi hq k hk=>?_) (fun hq k=>?_)
  ·refine Ok.p (by omega) (Ok.natn (Ok.lt hi (Ok.get hi (Ok.oe (people1 h) (Ok.bt hq (Ok.sameC (Ok.sameC (Ok.s (.inr ⟨i,rfl,hi,by simpa using hq,fun j hj'=>by simpa using hj j hj'⟩)))))))))
  ·refine Ok.p (by omega) (Ok.natn (Ok.lt hi (Ok.get hi (Ok.oe (people1 h) (Ok.bf hq ?_)))))
   rw[Qa (by omega)];exact hk
  ·exact Ok.n (by omega) (Ok.sameC (Ok.sameC (Ok.s (.inl ⟨rfl,fun j hj=>by simpa using hq j hj⟩))))
 refine Ok.opt hidx fun r hr=>?_
 rcases hr with⟨rfl,hall⟩|⟨i,rfl,hi,hx,hj⟩
 ·refine Ok.p rfl (Ok.sameC (Ok.s ⟨rfl,Nat.le_refl _,rfl,?_⟩))
  have:=QfZ (q:=inC) (Nat.le_refl _) hall
  rw[List.take_length]at this ⊢
  exact this.symm
 ·refine Ok.n (by omega) ?_
  rw[Qa (by omega)]
  refine Ok.loop (fun q x=>∃(w j:Nat) (a:List Int),x=((((w:Nat):Int),((j:Nat):Int),()),c,a,())∧QhA l0 inC w j a∧q=l0.length - j) (m:=l0.length - (i+1)) (by omega) ⟨i,i+1,l0,rfl,Ql5 hi hj hx,rfl⟩ ?_
  rintro q x ⟨w,j,a,rfl,hinv,rfl⟩ K hK
  have h1:=hinv.wj
  have h2:=hinv.len
  dsimp only
  refine Ok.ite (fun hlt=>?_) (fun hge=>?_)
  ·refine Ok.j (Ok.natn (Ok.lt (by omega) (Ok.get (by omega) (Ok.oe (people1 h) ?_))))
   rw[Bool.not_not]
   refine Ok.cnd (fun hq=>?_) (fun hq=>?_)
   ·refine Ok.natn (Ok.lt (by omega) (Ok.get (by omega) ?_))
    dsimp only
    rw[Qa (by omega),Qa (by omega)]
    exact hK _ _ (by omega) ⟨w+1,j+1,_,rfl,Qow hinv (by omega) hq,rfl⟩
   ·dsimp only
    rw[Qa (by omega)]
    exact hK _ _ (by omega) ⟨w,j+1,a,rfl,Qox hinv (by omega) hq,rfl⟩
  ·have ej:j=l0.length:=by omega
   have hd:=hinv.done
   rw[ej,List.take_length]at hd
   refine Ok.natn (Ok.lec (by omega) (Ok.lec (by omega) (Ok.lec (by omega) (Ok.natn (Ok.lec (by simp;omega) (Ok.sameC (Ok.s ?_)))))))
   refine⟨rfl,by dsimp only;omega,by simp;omega,?_⟩
   dsimp only
   rw[List.append_assoc,List.take_append_of_le_length (by simp;omega),List.take_take,Nat.min_self]
   exact hd
def QaJ(c:D.Config)(b:D.Book)(x:D.Target)(t:Int):List Int:=if x.Kind=0 then[x.Index]else if x.Kind=1 then[whoV c x.Index t]else(nth b.Teams x.Index.toNat).Members
theorem Qtf{x:D.Target}(h:Q1 n c)(hn:n≤48)(hb:QJ b)(hx:Va b.Teams.length x):QaR 1000 c b x t=some (QaJ c b x t):=by
 have hpl:=h.plen;have hsl:=h.slen;have htl:=hb.tlen
 have h1:=hx.lo;have h2:=hx.person;have h3:=hx.sched;have h4:=hx.team
 have hsz:X8 1000 c b=some ⟨4,2,((b.Teams.length:Nat):Int)⟩:=by unfold X8;rw[hpl,hsl];rfl
 refine Ok.eq ?_
 unfold QaR QaJ
 refine Ok.j (Ok.oe pIn (Ok.p (by have:=hx.kind;omega) (Ok.oe hsz ?_)))
 dsimp only
 rcases hx.kind with hk|hk|hk
 ·have:=h2 hk
  refine Ok.p (by omega) (Ok.oe pIn (Ok.p (by rw[Qc (by omega)];omega) (Ok.n (by omega) (Ok.n (by omega) (Ok.s ?_)))))
  rw[if_pos hk]
 ·have:=h3 hk
  refine Ok.n (by omega) (Ok.p (by omega) (Ok.oe pIn (Ok.p (by rw[Qc (by omega)];omega) (Ok.p hk (Ok.oe (Qwg h hn) (Ok.s ?_))))))
  rw[if_neg (by omega),if_pos hk]
 ·have:=h4 hk
  refine Ok.n (by omega) (Ok.n (by omega) (Ok.p (by omega) (Ok.oe pIn (Ok.p (by rw[Qc (by omega)];omega) (Ok.n (by omega) (Ok.p hk (Ok.at h1 (by omega) (Ok.s ?_))))))))
  rw[if_neg (by omega),if_neg (by omega)]
theorem Qf8{x:D.Target}(hb:QJ b)(hx:Va b.Teams.length x):(QaJ c b x t).length≤2:=by
 unfold QaJ
 split
 ·simp
 ·split
  ·simp
  ·have h4:=hx.team (by have:=hx.kind;omega)
   have h1:=hx.lo
   exact(hb.team _ (Qk (by omega))).len.2
theorem QjQ{x:D.Target}{z:Int}(h:Q1 n c)(hx:Va b.Teams.length x)(hz:0≤z∧z≤3):z∈QaJ c b x t↔z∈Qbk c b x t:=by
 unfold QaJ Qbk
 have h1:=hx.lo;have h4:=hx.team
 rcases hx.kind with hk|hk|hk
 ·rw[if_pos hk,if_pos hk]
 ·rw[if_neg (by omega),if_pos hk,if_neg (by omega),if_pos hk]
  split
  ·simp;omega
  ·rfl
 ·rw[if_neg (by omega),if_neg (by omega),if_neg (by omega),if_neg (by omega),if_pos ⟨hk,h1,h4 hk⟩]
theorem Qrz{l:List D.Target}(h:Q1 n c)(hn:n≤48)(hb:QJ b)(hl:∀x∈l,Va b.Teams.length x)(hlen:l.length≤6):
  Ok (UP 1000 c b l t) fun r=>r.1=0∧r.2.1≤r.2.2.length∧r.2.2.length≤12∧r.2.2.take r.2.1=Ws c b l t:=by
 unfold UP
 refine Ok.run l.length (fun i=>((t,l,((l.length:Nat):Int),(i:Int),()),c,b,(l.take i).flatMap (fun x=>QaJ c b x t),())) (by simp) (by omega) (fun i hi k hk=>?_) (fun k=>?_)
 ·dsimp only
  have hx:=hl _ (Qk hi)
  have hle:((l.take i).flatMap (fun x=>QaJ c b x t)).length≤2*i:=by
   rw[List.length_flatMap]
   have:∀(m:List D.Target),(∀x∈m,Va b.Teams.length x)→(m.map (fun x=>(QaJ c b x t).length)).sum≤2*m.length:=by
    intro m hm
    induction m with
    |nil=>simp
    |cons y m ih=>
     have h1:=Qf8 (c:=c) (t:=t) hb (hm y (List.mem_cons_self ..))
     have h2:=ih (fun x hx=>hm x (List.mem_cons_of_mem _ hx))
     simp only[List.map_cons,List.sum_cons,List.length_cons];omega
   have h3:=this (l.take i) (fun x hx=>hl x (List.mem_of_mem_take hx))
   rw[List.length_take]at h3;omega
  have hm2:=Qf8 (c:=c) (t:=t) hb hx
  refine Ok.p (by omega) (Ok.atn hi (Ok.oe (Qtf h hn hb hx) (Ok.lec (by omega) ?_)))
  rw[Qa (by omega)]
  have e:(l.take i).flatMap (fun x=>QaJ c b x t)++QaJ c b (nth l i) t=(l.take (i+1)).flatMap (fun x=>QaJ c b x t):=by
   rw[←QG hi,List.flatMap_append];simp
  rw[e];exact hk
 ·dsimp only
  rw[List.take_length]
  obtain⟨L0,hL0⟩:∃L0,l.flatMap (fun x=>QaJ c b x t)=L0:=⟨_,rfl⟩
  have hle:L0.length≤12:=by
   rw[←hL0,List.length_flatMap]
   have:∀(m:List D.Target),(∀x∈m,Va b.Teams.length x)→(m.map (fun x=>(QaJ c b x t).length)).sum≤2*m.length:=by
    intro m hm
    induction m with
    |nil=>simp
    |cons y m ih=>
     have h1:=Qf8 (c:=c) (t:=t) hb (hm y (List.mem_cons_self ..))
     have h2:=ih (fun x hx=>hm x (List.mem_cons_of_mem _ hx))
     simp only[List.map_cons,List.sum_cons,List.length_cons];omega
   have h3:=this l hl
   omega
  rw[hL0]
  refine Ok.n (by omega) (Ok.opt (QuJ h (by omega)) fun⟨a0,a1,a2⟩ ⟨g1,g2,g3,g4⟩=>?_)
  dsimp only at g1 g2 g3 g4 ⊢
  subst g1
  refine Ok.opt (Qvv (by omega) (by omega)) fun r ⟨s1,s2,s3⟩=>Ok.ck s1 ?_
  refine Ok.opt (Qpo (by omega) (by omega) (by omega) s2) fun⟨b0,b1,b2⟩ ⟨k1,k2,k3,k4,k5⟩=>Ok.s ?_
  dsimp only at k1 k2 k3 k4 k5 ⊢
  refine⟨k1,by omega,by omega,QjV k4 fun z=>?_⟩
  rw[k5,s3,QoK (by omega),g4,List.mem_filter,←hL0,List.mem_flatMap]
  unfold Means inC
  rw[decide_eq_true_eq]
  constructor
  ·rintro⟨⟨x,hx1,hx2⟩,hz⟩
   exact⟨hz.1,by omega,x,hx1,(QjQ h (hl x hx1) hz).1 hx2⟩
  ·rintro⟨hz1,hz2,x,hx1,hx2⟩
   exact⟨⟨x,hx1,(QjQ h (hl x hx1) ⟨hz1,by omega⟩).2 hx2⟩,hz1,by omega⟩
end Go.Proofs.YtgokjdfkpnkekaaGreat
/-
  People whom targets mean: what the reference computes; lists compared.
-/
namespace Go.Proofs.YtgokjdfkpnkekaaGreat
open Go AM
variable {t p:Int} {n:Nat} {c:D.Config} {b:D.Book}
theorem Qi1{l:List Int}{x:Int}:∀i,(Wv l x i).1.length≤2*i
 |0=>by simp[Wv]
 |i+1=>by
  have:=Qi1 (l:=l) (x:=x) i
  simp only[Wv,List.length_append]
  have h1:(if (Wv l x i).2=false∧x≤nth l i then[x]else[]).length≤1:=by split<;>simp
  have h2:(if nth l i≠x then[nth l i]else[]).length≤1:=by split<;>simp
  omega
theorem QtN{l:List Int}{x:Int}(hl:l.length≤400):WL 1000 l x=some (Qnm l x):=by
 refine Ok.eq ?_
 unfold WL
 refine Ok.run l.length (fun i=>((l,x,(Wv l x i).2,(i:Int),()),(Wv l x i).1,())) rfl (by omega) (fun i hi k hk=>?_) (fun k=>?_)
 ·dsimp only
  have hlen:=Qi1 (l:=l) (x:=x) i
  rw[Wv]at hk
  refine Ok.p (by omega) (Ok.j (Ok.j ?_))
  have fin:∀(d:Bool) (o:List Int),o.length≤2000→d=((Wv l x i).2 || decide (x≤nth l i))→o=(Wv l x i).1++(if (Wv l x i).2=false∧x≤nth l i then[x]else[])→
    Ok (atc l (i:Int) fun a17=>AM.cnd (decide (a17≠x)) (atc l (i:Int) fun a18=>AM.lec (o.length+[a18].length) 34359738368 (k ((l,x,d,IntKind.wrap .i64 ((i:Int)+1),()),o++[a18],()))) (k ((l,x,d,IntKind.wrap .i64 ((i:Int)+1),()),o,()))) (·=Qnm l x):=fun d o ho hd he=>by
   rw[Qa (by omega)]
   rw[hd,he]
   refine Ok.atn hi (Ok.ite (fun h=>Ok.atn hi (Ok.lec (by rw[←he];simp;omega) ?_)) (fun h=>?_))
   ·rw[if_pos h]at hk;exact hk
   ·rw[if_neg h,List.append_nil]at hk;exact hk
  refine Ok.cnd (fun hd=>?_) (fun hd=>Ok.atn hi (Ok.ite (fun hx=>Ok.lec (by simp;omega) ?_) (fun hx=>?_)))
  ·exact fin (Wv l x i).2 (Wv l x i).1 (by omega) (by rw[hd];rfl) (by rw[hd];simp)
  ·exact fin true ((Wv l x i).1++[x]) (by simp;omega) (by rw[hd,decide_eq_true hx];rfl) (by rw[if_pos ⟨hd,hx⟩])
  ·exact fin (Wv l x i).2 (Wv l x i).1 (by omega) (by rw[hd,decide_eq_false hx];rfl) (by rw[if_neg (fun h=>hx h.2),List.append_nil])
 ·dsimp only
  have hlen:=Qi1 (l:=l) (x:=x) l.length
  refine Ok.n (by omega) (Ok.j (Ok.ncnd (fun hd=>Ok.lec (by simp;omega) (Ok.s ?_)) (fun hd=>Ok.s ?_)))
  ·unfold Qnm;rw[if_neg (by rw[hd];simp)]
  ·unfold Qnm;rw[if_pos hd]
theorem q25In{fu:Nat}{n lo hi:Int}:Zf fu n lo hi=some (decide (lo≤n∧n≤hi)):=cnd2
theorem Qpx{l:List D.Target}{i:Nat}{z:Int}(hi:i<l.length):Means c b (l.take (i+1)) t z↔Means c b (l.take i) t z∨(0≤z∧z<4∧z∈Qbk c b (nth l i) t):=by
 unfold Means
 rw[←QG hi]
 simp only[List.mem_append,List.mem_singleton]
 constructor
 ·rintro⟨h1,h2,x,hx|rfl,hz⟩
  ·exact .inl ⟨h1,h2,x,hx,hz⟩
  ·exact .inr ⟨h1,h2,hz⟩
 ·rintro(⟨h1,h2,x,hx,hz⟩|⟨h1,h2,hz⟩)
  ·exact⟨h1,h2,x,.inl hx,hz⟩
  ·exact⟨h1,h2,_,.inr rfl,hz⟩
theorem Qor{o:List Int}(h:Asc o)(hm:∀z∈o,0≤z∧z<4):o.length≤4:=by
 have e:o=([0,1,2,3]:List Int).filter fun z=>o.contains z:=QcF h (List.Pairwise.filter _ asc4) fun z=>by
  simp only[List.mem_filter,List.contains_iff_mem,List.mem_cons,List.not_mem_nil,or_false]
  exact⟨fun hz=>⟨by have:=hm z hz;omega,hz⟩,fun hz=>hz.2⟩
 rw[e]
 exact List.length_filter_le _ _
theorem QpF{l:List D.Target}(h:Q1 n c)(hn:n≤48)(hb:QJ b)(hl:∀x∈l,Va b.Teams.length x)(hlen:l.length≤400):Qbs 1000 c b l t=some (Ws c b l t):=by
 have hpl:=h.plen;have hsl:=h.slen;have htl:=hb.tlen
 refine Ok.eq ?_
 unfold Qbs
 refine Ok.run l.length (fun i=>((l,t,Ws c b (l.take i) t,(i:Int),()),c,b,())) (by rw[List.take_zero];rfl) (by omega) (fun i hi k hk=>?_) (fun k=>?_)
 ·dsimp only
  have hx:=hl _ (Qk hi)
  obtain⟨x,hxx⟩:∃x,nth l i=x:=⟨_,rfl⟩
  have hpe:=QeF (c:=c) (b:=b) (l:=l.take i) (t:=t)
  have hple:=QeG (c:=c) (b:=b) (l:=l.take i) (t:=t)
  have fin:∀o:List Int,Asc o→(∀z,z∈o↔Means c b (l.take i) t z∨(0≤z∧z<4∧z∈Qbk c b x t))→Ok (k ((l,t,o,IntKind.wrap .i64 ((i:Int)+1),()),c,b,())) (·=Ws c b l t):=fun o ho hm=>by
   rw[Qa (by omega),QjV ho (fun z=>by rw[hm,Qpx hi,hxx])]
   exact hk
  have one:∀v,0≤v∧v<4→(∀z,0≤z∧z<4→(z∈Qbk c b x t↔z=v))→Ok (k ((l,t,Qnm (Ws c b (l.take i) t) v,IntKind.wrap .i64 ((i:Int)+1),()),c,b,())) (·=Ws c b l t):=fun v hv hm=>
   fin _ (QdV hpe).1 fun z=>by
    rw[(QdV hpe).2,Qah]
    constructor
    ·rintro(hz|rfl)
     ·exact .inl hz
     ·exact .inr ⟨hv.1,hv.2,(hm _ hv).2 rfl⟩
    ·rintro(hz|⟨h1,h2,hz⟩)
     ·exact .inl hz
     ·exact .inr ((hm z ⟨h1,h2⟩).1 hz)
  have none_:(∀z,0≤z∧z<4→¬z∈Qbk c b x t)→Ok (k ((l,t,Ws c b (l.take i) t,IntKind.wrap .i64 ((i:Int)+1),()),c,b,())) (·=Ws c b l t):=fun hm=>
   fin _ hpe fun z=>by
    rw[Qah]
    exact⟨.inl,fun h=>h.elim id fun⟨h1,h2,hz⟩=>absurd hz (hm z ⟨h1,h2⟩)⟩
  rw[hxx]at hx
  rw[hpl,hsl]
  have h1:=hx.lo;have h2:=hx.person;have h3:=hx.sched;have h4:=hx.team
  refine Ok.p (by omega) (Ok.j (Ok.atn hi ?_))
  rw[hxx]
  rcases hx.kind with hkd|hkd|hkd
  ·have:=h2 hkd
   refine Ok.p hkd (Ok.oe q25In (Ok.p (by rw[Qc (by omega)];omega) (Ok.oe (QtN (by omega)) ?_)))
   exact one _ ⟨h1,by omega⟩ fun z hz=>by unfold Qbk;rw[if_pos hkd];simp
  ·have:=h3 hkd
   refine Ok.n (by omega) (Ok.p hkd (Ok.oe q25In (Ok.p (by rw[Qc (by omega)];omega) (Ok.oe (QvD h hn) ?_))))
   have hw:=QvE h (i:=x.Index) (t:=t)
   refine Ok.ite (fun hge=>Ok.oe (QtN (by omega)) ?_) (fun hlt=>?_)
   ·exact one _ ⟨hge,hw.2⟩ fun z hz=>by unfold Qbk;rw[if_neg (by omega),if_pos hkd,if_neg (by omega)];simp
   ·exact none_ fun z hz=>by unfold Qbk;rw[if_neg (by omega),if_pos hkd,if_pos (by omega)];simp
  ·have:=h4 hkd
   refine Ok.n (by omega) (Ok.n (by omega) (Ok.p hkd (Ok.oe q25In (Ok.p (by rw[Qc (by omega)];omega) ?_))))
   obtain⟨tm,htm⟩:∃tm,nth b.Teams x.Index.toNat=tm:=⟨_,rfl⟩
   have hteam:=hb.team _ (Qk (l:=b.Teams) (i:=x.Index.toNat) (by omega))
   rw[htm]at hteam
   have hmv:Qbk c b x t=tm.Members:=by unfold Qbk;rw[if_neg (by omega),if_neg (by omega),if_pos ⟨hkd,h1,h4 hkd⟩,htm]
   have hml:=hteam.len
   refine Ok.loop (fun q y=>∃(j:Nat) (o:List Int),y=((l,t,o,(i:Int),(j:Int),()),c,b,x,())∧j≤tm.Members.length∧Asc o∧(∀z,z∈o↔Means c b (l.take i) t z∨(0≤z∧z<4∧z∈tm.Members.take j))∧q=tm.Members.length - j) (m:=tm.Members.length) (by omega)
    ⟨0,_,rfl,by omega,hpe,fun z=>by rw[Qah];simp,by omega⟩ ?_
   rintro q y ⟨j,o,rfl,a1,a2,a4,rfl⟩ K hK
   have a3:=Qor a2 (fun z hz=>by
    rcases(a4 z).1 hz with g|g
    ·exact⟨g.1,g.2.1⟩
    ·exact⟨g.1,g.2.1⟩)
   dsimp only
   refine Ok.at h1 (by omega) ?_
   rw[htm]
   refine Ok.ite (fun hj=>?_) (fun hj=>?_)
   ·have hmem:=hteam.mem _ (Qk (l:=tm.Members) (i:=j) (by omega))
    refine Ok.j (Ok.at h1 (by omega) ?_)
    rw[htm]
    refine Ok.atn (by omega) ?_
    rw[hpl]
    refine Ok.oe q25In (Ok.p (by rw[Qc (by omega)];omega) (Ok.at h1 (by omega) ?_))
    rw[htm]
    refine Ok.atn (by omega) (Ok.oe (QtN (by omega)) ?_)
    dsimp only
    rw[Qa (by omega)]
    refine hK _ _ (by omega) ⟨j+1,_,rfl,by omega,(QdV a2).1,fun z=>?_,rfl⟩
    rw[(QdV a2).2,a4,Vi (by omega)]
    constructor
    ·rintro((hz|⟨z1,z2,z3⟩)|rfl)
     ·exact .inl hz
     ·exact .inr ⟨z1,z2,.inl z3⟩
     ·exact .inr ⟨hmem.1,hmem.2,.inr rfl⟩
    ·rintro(hz|⟨z1,z2,z3|z3⟩)
     ·exact .inl (.inl hz)
     ·exact .inl (.inr ⟨z1,z2,z3⟩)
     ·exact .inr z3
   ·have ej:j=tm.Members.length:=by omega
    rw[ej,List.take_length]at a4
    exact fin o a2 fun z=>by rw[a4,hmv]
 ·dsimp only
  refine Ok.n (by omega) (Ok.s ?_)
  rw[List.take_length]
theorem Qlr{x y:List Int}(hx:x.length≤900):UU 1000 x y=some (decide (x=y)):=by
 refine Ok.eq ?_
 unfold UU
 refine Ok.ite (fun h=>Ok.s ?_) (fun h=>?_)
 ·rw[decide_eq_false];rintro rfl;exact h rfl
 ·have hl:x.length=y.length:=by omega
  refine Ok.scan x.length (fun i=>((x,y,(i:Int),()),())) (fun i=>decide (nth x i≠nth y i)) rfl (by omega) (fun i hi hq _ k=>?_) (fun i hi hq k hk=>?_) (fun hq k=>?_)
  ·have hq:=of_decide_eq_true hq
   refine Ok.p (by omega) (Ok.atn hi (Ok.atn (by omega) (Ok.p hq (Ok.s ?_))))
   rw[decide_eq_false];rintro rfl;exact hq rfl
  ·have hq:=of_decide_eq_false hq
   refine Ok.p (by omega) (Ok.atn hi (Ok.atn (by omega) (Ok.n hq ?_)))
   rw[Qa (by omega)];exact hk
  ·refine Ok.n (by omega) (Ok.s ?_)
   rw[decide_eq_true]
   refine List.ext_getElem hl fun i h1 h2=>?_
   have:=of_decide_eq_false (hq i h1)
   simpa [nth,List.getD_eq_getElem?_getD,List.getElem?_eq_getElem h1,List.getElem?_eq_getElem h2]using this
theorem QbQ{l:List Int}{x:Int}(hl:l.length≤900):Qb6 1000 l x=some (l.contains x):=by
 refine Ok.eq ?_
 unfold Qb6
 refine Ok.scan l.length (fun i=>((l,x,(i:Int),()),())) (fun i=>decide (nth l i=x)) rfl (by omega) (fun i hi hq _ k=>?_) (fun i hi hq k hk=>?_) (fun hq k=>?_)
 ·have hq:=of_decide_eq_true hq
  refine Ok.p (by omega) (Ok.atn hi (Ok.p hq (Ok.s ?_)))
  exact(List.contains_iff_mem.2 (hq ▸ Qk hi)).symm
 ·have hq:=of_decide_eq_false hq
  refine Ok.p (by omega) (Ok.atn hi (Ok.n hq ?_))
  rw[Qa (by omega)];exact hk
 ·refine Ok.n (by omega) (Ok.s ?_)
  symm
  rw[Bool.eq_false_iff]
  intro h
  obtain⟨i,hi,e⟩:=List.getElem_of_mem (List.contains_iff_mem.1 h)
  refine of_decide_eq_false (hq i hi) ?_
  simpa [nth,List.getD_eq_getElem?_getD,List.getElem?_eq_getElem hi]using e
end Go.Proofs.YtgokjdfkpnkekaaGreat
/-
  Pages looked at: what the program's and the reference's checks of pages and answers compute.
-/
namespace Go.Proofs.YtgokjdfkpnkekaaGreat
open Go AM
theorem QcM{α:Type}[Inhabited α]{l:List α}{i:Nat}(h:i<l.length):l.drop i=nth l i::l.drop (i+1):=by
 rw[List.drop_eq_getElem_cons h]
 simp[nth,List.getD_eq_getElem?_getD,List.getElem?_eq_getElem h]
theorem ein{fu:Nat}{x lo hi:Int}:QW fu x lo hi=some (inV x lo hi):=by
 unfold QW inV
 by_cases h1:lo≤x<;>by_cases h2:x≤hi<;>simp[cd,AM.cnd,h1,h2]
theorem aiN{fu:Nat}{x lo hi:Int}:Vb fu x lo hi=some (inV x lo hi):=by
 unfold Vb inV
 by_cases h1:lo≤x<;>by_cases h2:x≤hi<;>simp[cd,AM.cnd,h1,h2]
theorem QgD{l:List Int}{i:Nat}{x:Int}(hi:i<l.length)(h:decide (x=nth l i)=true):l.contains x=true:=by
 rw[of_decide_eq_true h];exact List.contains_iff_mem.2 (Qk hi)
theorem QhY{l:List Int}{x:Int}(h:∀j,j<l.length→decide (x=nth l j)=false):l.contains x=false:=by
 cases hb:l.contains x with
 |false=>rfl
 |true=>
  obtain⟨j,hj,e⟩:=List.getElem_of_mem (List.contains_iff_mem.1 hb)
  have:=of_decide_eq_false (h j hj)
  exact absurd (by simp[nth,List.getD_eq_getElem?_getD,List.getElem?_eq_getElem hj,e]) this
theorem QbM{l:List Int}{x:Int}(hl:l.length<900):Z5 1000 l x=some (l.contains x):=by
 refine Ok.eq ?_
 unfold Z5 Uu
 refine Ok.opt (P:=fun r=>decide (0≤r)=l.contains x) ?_ fun r hr=>Ok.s hr
 refine Ok.scan l.length (fun i=>((l,x,((l.length:Nat):Int),(i:Int),()),())) (fun i=>decide (x=nth l i)) rfl (by omega) (fun i hi hq _ k=>?_) (fun i hi hq k hk=>?_) (fun hq k=>?_)
 ·refine Ok.p (by omega) (Ok.atn hi (Ok.bt hq (Ok.s ?_)))
  rw[QgD hi hq];simp
 ·refine Ok.p (by omega) (Ok.atn hi (Ok.bf hq ?_))
  rw[Qa (by omega)];exact hk
 ·refine Ok.n (by omega) (Ok.s ?_)
  rw[QhY hq];rfl
theorem QaE{l:List Int}{x:Int}(hl:l.length<900):Zh 1000 l x=some (l.contains x):=by
 refine Ok.eq ?_
 unfold Zh Vz
 refine Ok.opt (P:=fun r=>decide (0≤r)=l.contains x) ?_ fun r hr=>Ok.sameC (Ok.s hr)
 refine Ok.scan l.length (fun i=>((x,((l.length:Nat):Int),(i:Int),()),l,())) (fun i=>decide (x=nth l i)) rfl (by omega) (fun i hi hq _ k=>?_) (fun i hi hq k hk=>?_) (fun hq k=>?_)
 ·refine Ok.p (by omega) (Ok.natn (Ok.lt hi (Ok.get hi (Ok.bt hq (Ok.sameC (Ok.s ?_))))))
  rw[QgD hi hq];simp
 ·refine Ok.p (by omega) (Ok.natn (Ok.lt hi (Ok.get hi (Ok.bf hq ?_))))
  rw[Qa (by omega)];exact hk
 ·refine Ok.n (by omega) (Ok.sameC (Ok.s ?_))
  rw[QhY hq];rfl
def badS(l:List Int)(i:Nat):Bool:=!(decide (0≤nth l i) && decide (nth l i≤31) && (decide (i=0) || decide (nth l (i - 1)<nth l i)))
theorem Qo8{l:List Int}{i:Nat}(hi:i<l.length)(h:badS l i=true):setV l=false:=by
 cases hb:setV l with
 |false=>rfl
 |true=>
  have hs:=VV.1 hb
  have h1:=hs.2 _ (Qk hi)
  have h2:0<i→nth l (i - 1)<nth l i:=fun h0=>QfO hs.1 (by omega) hi
  unfold badS at h
  by_cases h0:i=0
  ·subst h0;simp at h;omega
  ·have:=h2 (by omega)
   simp[h0]at h;omega
theorem Qnc{l:List Int}(h:∀j,j<l.length→badS l j=false):setV l=true:=by
 have hk:∀j,j<l.length→0≤nth l j∧nth l j≤31∧(j=0∨nth l (j - 1)<nth l j):=fun j hj=>by
  have:=h j hj
  unfold badS at this
  obtain⟨a,b,c⟩:0≤nth l j∧nth l j≤31∧(¬j=0→nth l (j - 1)<nth l j):=by simpa [and_assoc]using this
  exact⟨a,b,by by_cases e:j=0;exact .inl e;exact .inr (c e)⟩
 refine VV.2 ⟨?_,fun x hx=>?_⟩
 ·have:=QjC (l:=l) (n:=l.length) (Nat.le_refl _) fun k h1 h2=>by have:=(hk k h2).2.2;omega
  rwa [List.take_length]at this
 ·obtain⟨j,hj,e⟩:=List.getElem_of_mem hx
  have:=hk j hj
  rw[show nth l j=x by simp[nth,List.getD_eq_getElem?_getD,List.getElem?_eq_getElem hj,e]]at this
  omega
theorem Qt7{l:List Int}(hl:l.length<900):Uf 1000 l=some (setV l):=by
 refine Ok.eq ?_
 unfold Uf
 refine Ok.scan l.length (fun i=>((l,l,((l.length:Nat):Int),(i:Int),()),())) (badS l) rfl (by omega) (fun i hi hq _ k=>?_) (fun i hi hq k hk=>?_) (fun hq k=>?_)
 ·refine Ok.p (by omega) (Ok.j (Ok.atn hi (Ok.oe ein ?_)))
  rw[Qo8 hi hq]
  refine Ok.cnd (fun h1=>?_) (fun h1=>Ok.s rfl)
  by_cases h0:0<i
  ·refine Ok.p (by omega) ?_
   rw[show IntKind.wrap .i64 ((i:Int) - 1)=((i - 1:Nat):Int)by rw[Qc (by omega)];omega]
   refine Ok.atn (by omega) (Ok.p ?_ (Ok.s rfl))
   unfold badS at hq
   unfold inV at h1
   simp only[bae,decide_eq_true_eq]at h1
   simp[h1.1,h1.2,show i≠0 by omega]at hq
   omega
  ·unfold badS at hq
   unfold inV at h1
   simp only[bae,decide_eq_true_eq]at h1
   obtain rfl:i=0:=by omega
   simp[h1.1,h1.2]at hq
 ·refine Ok.p (by omega) (Ok.j (Ok.atn hi (Ok.oe ein ?_)))
  unfold badS at hq
  simp only[Bool.not_eq_false',bae,Bool.or_eq_true,decide_eq_true_eq]at hq
  refine Ok.bt (by unfold inV;simp[hq.1.1,hq.1.2]) ?_
  dsimp only
  rw[Qa (by omega)]
  by_cases h0:0<i
  ·refine Ok.p (by omega) ?_
   rw[show IntKind.wrap .i64 ((i:Int) - 1)=((i - 1:Nat):Int)by rw[Qc (by omega)];omega]
   exact Ok.atn (by omega) (Ok.n (by omega) hk)
  ·exact Ok.n (by omega) hk
 ·exact Ok.n (by omega) (Ok.s (Qnc hq).symm)
theorem Qhv{l:List Int}{i:Nat}(hi:i<l.length)(h:(l.take i).contains (nth l i)=true):decide l.Nodup=false:=by
 refine decide_eq_false fun hn=>?_
 have hm:=List.contains_iff_mem.1 h
 have e:l=l.take i++(nth l i::l.drop (i+1)):=by rw[←QcM hi,List.take_append_drop]
 rw[e]at hn
 exact(List.nodup_append.1 hn).2.2 _ hm _ (List.mem_cons_self ..) rfl
theorem Qnb{l:List Int}(h:∀j,j<l.length→(l.take j).contains (nth l j)=false):l.Nodup:=by
 have:∀i,i≤l.length→(l.take i).Nodup:=by
  intro i
  induction i with
  |zero=>intro _;simp
  |succ i ih=>
   intro hi
   rw[VA (by omega)]
   refine List.nodup_append.2 ⟨ih (by omega),by simp,fun x hx y hy e=>?_⟩
   rw[List.mem_singleton.1 hy]at e
   subst e
   have:=h i (by omega)
   rw[List.contains_iff_mem.2 hx]at this
   simp at this
 have:=this l.length (Nat.le_refl _)
 rwa [List.take_length]at this
theorem Qvq{l:List Int}(hl:l.length<900):UJ 1000 l=some (Qjt l):=by
 refine Ok.eq ?_
 unfold UJ Qjt
 refine Ok.scan l.length (fun i=>((l,l,((l.length:Nat):Int),(i:Int),()),())) (fun i=>(l.take i).contains (nth l i)) rfl (by omega) (fun i hi hq _ k=>?_) (fun i hi hq k hk=>?_) (fun hq k=>?_)
 ·refine Ok.p (by omega) (Ok.atn hi (Ok.natn (Ok.lec (by omega) (Ok.oe (QbM (by simp;omega)) (Ok.bt hq (Ok.s ?_))))))
  rw[Qhv hi hq];rfl
 ·refine Ok.p (by omega) (Ok.atn hi (Ok.natn (Ok.lec (by omega) (Ok.oe (QbM (by simp;omega)) (Ok.bf hq ?_)))))
  rw[Qa (by omega)];exact hk
 ·refine Ok.n (by omega) (Ok.s ?_)
  rw[decide_eq_true (Qnb hq),Bool.true_and]
  exact decide_eq_decide.2 (by omega)
structure Qy (p:D.Page):Prop where
 st:p.Starts.length≤300
 pe:∀s∈p.Starts,s.People.length≤40∧-1000000≤s.K∧s.K≤1000000
 de:p.Declined.length≤40
 se:p.Seen.length≤100
 nx : -1000000≤p.Next∧p.Next≤1000000
theorem QpW{p:D.Page}(h:Qy p):WE 1000 p=some (QeR p):=by
 have hst:=h.st
 have hnx:=h.nx
 refine Ok.eq ?_
 unfold WE QeR
 refine Ok.loop (fun m x=>∃(i:Nat) (k t:Int),x=((t,k,p.Starts,((p.Starts.length:Nat):Int),(i:Int),()),p,())∧i≤p.Starts.length∧-1≤k∧k≤1000000∧XT p.Next k t (p.Starts.drop i)=XT p.Next (-1) p.Start p.Starts∧m=p.Starts.length - i) (m:=p.Starts.length) (by omega)
  ⟨0,-1,p.Start,rfl,by omega,by omega,by omega,rfl,rfl⟩ ?_
 rintro m x ⟨i,k,t,rfl,h1,h2,h2',h3,rfl⟩ K hK
 dsimp only
 refine Ok.ite (fun hi=>?_) (fun hi=>?_)
 ·have hlt:i<p.Starts.length:=by omega
  have hs:=h.pe _ (Qk hlt)
  refine Ok.atn hlt (Ok.j ?_)
  obtain⟨s,hse⟩:∃s,nth p.Starts i=s:=⟨_,rfl⟩
  rw[QcM hlt,XT,hse]at h3
  rw[hse]at hs ⊢
  rw[←h3]
  have next:(decide (t≤s.At) && (decide (s.K = -1) || decide (0≤s.K) && decide (k<s.K) && decide (s.K<p.Next)) && setV s.People)=true→
    Ok (K ((s.At,max k s.K,p.Starts,((p.Starts.length:Nat):Int),IntKind.wrap .i64 ((i:Int)+1),()),p,())) (·=(decide (t≤s.At) && (decide (s.K = -1) || decide (0≤s.K) && decide (k<s.K) && decide (s.K<p.Next)) && setV s.People && XT p.Next (max k s.K) s.At (p.Starts.drop (i+1)) && decide (p.Starts.length≤200))):=fun e=>by
   rw[Qa (by omega),h3]
   rw[e,Bool.true_and]at h3
   exact hK _ _ (by omega) ⟨i+1,max k s.K,s.At,rfl,by omega,by omega,by omega,h3,rfl⟩
  refine Ok.ite (fun g1=>Ok.s (by rw[decide_eq_false (show ¬t≤s.At by omega)];simp)) fun g1=>?_
  refine Ok.oe (Qt7 (by omega)) (Ok.cnd (fun g2=>?_) (fun g2=>Ok.s (by rw[g2];simp)))
  refine Ok.ite (fun g3=>?_) (fun g3=>?_)
  ·rw[Qc (x:=k+1) (by omega),Qc (x:=p.Next - 1) (by omega)]
   refine Ok.oe ein (Ok.cnd (fun g4=>?_) (fun g4=>?_))
   ·unfold inV at g4
    simp only[bae,decide_eq_true_eq]at g4
    refine next ?_
    rw[g2];simp;omega
   ·refine Ok.s ?_
    have:(decide (s.K = -1) || decide (0≤s.K) && decide (k<s.K) && decide (s.K<p.Next))=false:=by
     unfold inV at g4
     simp only[Bool.and_eq_false_iff,decide_eq_false_iff_not]at g4
     rw[decide_eq_false g3,Bool.false_or]
     by_cases q1:0≤s.K<;>by_cases q2:k<s.K<;>by_cases q3:s.K<p.Next<;>simp[q1,q2,q3]<;>omega
    rw[this];simp
  ·refine next ?_
   rw[g2];simp;omega
 ·have e:i=p.Starts.length:=by omega
  refine Ok.s ?_
  subst e
  rw[List.drop_length,XT]at h3
  rw[←h3,Bool.true_and]
  exact decide_eq_decide.2 (by omega)
theorem QtH{p:D.Page}:V2 1000 p=some (inV p.Last p.Start farV && inV p.Due 0 farV && inV p.Until 0 farV && inV p.Snoozes 0 4 && inV p.Hands 0 4):=by
 refine Ok.eq ?_
 unfold V2
 refine Ok.oe ein (Ok.cnd (fun h1=>Ok.oe ein (Ok.cnd (fun h2=>Ok.oe ein (Ok.cnd (fun h3=>Ok.oe ein (Ok.cnd (fun h4=>Ok.oe ein (Ok.cnd (fun h5=>Ok.s ?_) (fun h5=>Ok.s ?_))) (fun h4=>Ok.s ?_))) (fun h3=>Ok.s ?_))) (fun h2=>Ok.s ?_))) (fun h1=>Ok.s ?_))
 all_goals simp_all [farV]
theorem Qkt{n:Nat}{q:D.Policy}(h:Qba n q):X5 1000 q=some (Ym q):=by
 have h1:=h.rep
 have h2:=h.len
 refine Ok.eq ?_
 unfold X5
 refine Ok.j (Ok.oe pIn (Ok.p (by omega) (Ok.n (by omega) (Ok.s ?_))))
 rw[(Yn h).1,Qc (x:=q.Repeat+1) (by omega),Qc]
 have h3:q.Repeat=0∨q.Repeat=1∨q.Repeat=2:=by omega
 rcases h3 with h3|h3|h3<;>rw[h3]<;>omega
theorem Qkb{n:Nat}{q:D.Policy}(h:Qba n q):Qnk q=true:=by
 unfold Qnk
 rw[List.all_eq_true]
 intro s hs
 have:=(h.step s hs).wait
 simp;omega
theorem Qsl{n:Nat}{q:D.Policy}(h:Qba n q):Qo 1000 q.Steps=some false:=by
 have h2:=h.len
 refine Ok.eq ?_
 unfold Qo QU
 refine Ok.opt (P:=fun r=>r = -1) ?_ fun r hr=>Ok.s (by rw[hr];rfl)
 refine Ok.run q.Steps.length (fun i=>((q.Steps,((q.Steps.length:Nat):Int),(i:Int),()),())) rfl (by omega) (fun i hi k hk=>?_) (fun k=>?_)
 ·have hw:=(h.step _ (Qk hi)).wait
  refine Ok.p (by omega) (Ok.atn hi (Ok.oe (v:=false) ?_ (Ok.f ?_)))
  ·unfold Uq
   rw[ein,ZI]
   unfold inV;simp;omega
  ·rw[Qa (by omega)];exact hk
 ·exact Ok.n (by omega) (Ok.s rfl)
theorem Qha{b:D.Book}{p:D.Page}(hb:QJ b)(h:Qy p):Z6 1000 b p=some (QR b p):=by
 have hpl:=hb.plen
 refine Ok.eq ?_
 unfold Z6
 refine Ok.j (Ok.oe ein (Ok.cnd (fun h1=>?_) (fun h1=>Ok.s (by simp[QR,h1]))))
 rw[Qc (x:=((b.Policies.length:Nat):Int) - 1) (by omega)]
 refine Ok.oe ein (Ok.cnd (fun h2=>?_) (fun h2=>Ok.s (by simp[QR,h2])))
 refine Ok.oe ein (Ok.cnd (fun h3=>?_) (fun h3=>Ok.s (by simp[QR,h3])))
 have h2':=h2
 unfold inV at h2'
 simp only[bae,decide_eq_true_eq]at h2'
 refine Ok.at h2'.1 (by omega) (Ok.j ?_)
 have hq:Qba b.Teams.length (YN b p):=hb.pol _ (Qk (by omega))
 have hw:=Qkb hq
 show Ok (optc (Qo 1000 (YN b p).Steps) _) _
 refine Ok.oe (Qsl hq) (Ok.f (Ok.oe (Qkt hq) (Ok.oe ein ?_)))
 refine Ok.cnd (fun h4=>?_) (fun h4=>Ok.s (by have h4:inV p.Next 0 (Ym (YN b p))=false:=h4;simp[QR,h4]))
 have h4:inV p.Next 0 (Ym (YN b p))=true:=h4
 refine Ok.oe ein (Ok.cnd (fun h5=>?_) (fun h5=>Ok.s (by simp[QR,h5])))
 refine Ok.oe ein (Ok.cnd (fun h6=>?_) (fun h6=>Ok.s (by simp[QR,h6])))
 refine Ok.oe QtH (Ok.cnd (fun h7=>?_) (fun h7=>Ok.s ?_))
 ·refine Ok.oe (QpW h) (Ok.cnd (fun h8=>?_) (fun h8=>Ok.s (by simp[QR,h8])))
  have hde:=h.de;have hse:=h.se
  refine Ok.oe (Qt7 (by omega)) (Ok.cnd (fun h9=>?_) (fun h9=>Ok.s (by simp[QR,h9])))
  refine Ok.oe (Qvq (by omega)) ?_
  simp only[bae]at h7
  exact Ok.cnd (fun h10=>Ok.s (by simp[QR,h1,h2,h3,hw,h4,h5,h6,h7,h8,h9,h10])) (fun h10=>Ok.s (by simp[QR,h10]))
 ·symm
  unfold QR
  rw[Bool.eq_false_iff]
  intro hc
  rw[Bool.eq_false_iff]at h7
  apply h7
  simp only[bae]at hc ⊢
  obtain⟨⟨⟨⟨⟨⟨⟨⟨hc,a1⟩,a2⟩,a3⟩,a4⟩,a5⟩,_⟩,_⟩,_⟩:=hc
  exact⟨⟨⟨⟨a1,a2⟩,a3⟩,a4⟩,a5⟩
theorem Qpb{a:D.Answer}:Ub 1000 a=some (YA a):=by
 refine Ok.eq ?_
 unfold Ub
 refine Ok.j ?_
 refine Ok.ite (fun k3=>?_) (fun k3=>?_)
 ·refine Ok.oe aiN (Ok.cnd (fun h1=>Ok.oe aiN (Ok.cnd (fun h2=>Ok.oe aiN (Ok.cnd (fun h3=>Ok.oe aiN (Ok.cnd (fun h4=>Ok.oe aiN (Ok.cnd (fun h5=>Ok.oe aiN (Ok.cnd (fun h6=>Ok.s ?_) (fun h6=>Ok.s ?_))) (fun h5=>Ok.s ?_))) (fun h4=>Ok.s ?_))) (fun h3=>Ok.s ?_))) (fun h2=>Ok.s ?_))) (fun h1=>Ok.s ?_))
  all_goals (unfold YA;rw[if_pos k3];simp_all)
 ·refine Ok.ite (fun k4=>?_) (fun k4=>?_)
  ·refine Ok.oe aiN (Ok.cnd (fun h1=>Ok.oe aiN (Ok.cnd (fun h2=>Ok.oe aiN (Ok.cnd (fun h3=>Ok.oe aiN (Ok.cnd (fun h4=>Ok.oe aiN (Ok.cnd (fun h5=>Ok.oe aiN (Ok.cnd (fun h6=>Ok.s ?_) (fun h6=>Ok.s ?_))) (fun h5=>Ok.s ?_))) (fun h4=>Ok.s ?_))) (fun h3=>Ok.s ?_))) (fun h2=>Ok.s ?_))) (fun h1=>Ok.s ?_))
   all_goals (unfold YA;rw[if_neg k3,if_pos k4];simp_all)
  ·have e0:inV a.Arg 0 0=decide (a.Arg=0):=by unfold inV;by_cases h:a.Arg=0<;>simp[h];omega
   refine Ok.oe aiN (Ok.cnd (fun h1=>Ok.oe aiN (Ok.cnd (fun h2=>Ok.oe aiN (Ok.cnd (fun h3=>Ok.oe aiN (Ok.cnd (fun h4=>Ok.oe aiN (Ok.cnd (fun h5=>Ok.oe aiN (Ok.cnd (fun h6=>Ok.s ?_) (fun h6=>Ok.s ?_))) (fun h5=>Ok.s ?_))) (fun h4=>Ok.s ?_))) (fun h3=>Ok.s ?_))) (fun h2=>Ok.s ?_))) (fun h1=>Ok.s ?_))
   all_goals (unfold YA;rw[if_neg k3,if_neg k4,←e0];simp_all)
/-
  What runs and answers keep of pages, in plain Lean: what the laws about pages ask for.
-/
section
variable {Q:Int→D.Start→Prop} {M now:Int} {b:D.Book} {p q:D.Page} {c:D.Config}
theorem Qo6{R:D.Page→Prop}(hb:QJ b)(hQ:QgR Q M c b)(hs:∀q,QM Q M b q→Xm q now=true→R q→R (stepQ c b q)):∀(n:Nat) {p:D.Page},QM Q M b p→R p→R (runN c b now n p).1
 |0,p,h,hr=>hr
 |n+1,p,h,hr=>by
  rw[runN]
  split
  ·rename_i hw
   have hd:=Uo hw
   rw[h.stepVis hb hd.1,if_neg (by simp)]
   exact Qo6 hb hQ hs n (h.stepQ_inv hb hd.1 (hQ p h)) (hs p h hw hr)
  ·exact hr
theorem Qhu{R:D.Page→Prop}(hb:QJ b)(hQ:QgR Q M c b)(hs:∀q,QM Q M b q→Xm q now=true→R q→R (stepQ c b q))(h:QM Q M b p)(hr:R p):R (runV c b p now).1:=by
 rw[Qgo (h.check hb)]
 exact Qo6 hb hQ hs 100 h hr
structure Kept (p q:D.Page):Prop where
 id:q.ID=p.ID
 pol:q.Policy=p.Policy
 start:q.Start=p.Start
 by_:q.By=p.By
 until_:q.Until=p.Until
 snoozes:q.Snoozes=p.Snoozes
 hands:q.Hands=p.Hands
 seen:q.Seen=p.Seen
theorem Kept.refl(p:D.Page):Kept p p:=⟨rfl,rfl,rfl,rfl,rfl,rfl,rfl,rfl⟩
theorem Kept.step(h:Kept p q):Kept p (stepQ c b q):=by
 obtain⟨h1,h2,h3,h4,h5,h6,h7,h8⟩:=h
 unfold stepQ
 split
 ·exact⟨h1,h2,h3,h4,h5,h6,h7,h8⟩
 ·split<;>exact⟨h1,h2,h3,h4,h5,h6,h7,h8⟩
theorem Qdk(hb:QJ b)(hQ:QgR Q M c b)(h:QM Q M b p):Kept p (runV c b p now).1:=
 Qhu hb hQ (fun q _ _ hr=>hr.step) h (Kept.refl p)
theorem Qr9(hw:Xm q now=true)(h:q.Last≤now):(stepQ c b q).Last≤now:=by
 have hd:=Uo hw
 have hs:=QcN hd.1
 have h2:=hd.2
 unfold dueV at h2
 unfold stepQ
 split
 ·rename_i e;rw[if_neg (by omega),if_pos e]at h2;dsimp only at h2 ⊢;omega
 ·rename_i e;rw[if_pos (by omega)]at h2
  split<;>dsimp only at h2⊢<;>omega
theorem QrX(hb:QJ b)(hQ:QgR Q M c b)(h:QM Q M b p)(hl:p.Last≤now):(runV c b p now).1.Last≤now:=
 Qhu (R:=fun q=>q.Last≤now) hb hQ (fun q _ hw hr=>Qr9 hw hr) h hl
theorem Qh1(h:p.State=0):dueV p=(p.Due,true):=by unfold dueV;rw[if_pos h]
theorem Ql6(h:p.State=2):dueV p=(p.Until,true):=by unfold dueV;rw[if_neg (by omega),if_pos h]
theorem Qm2{a:D.Answer}(h:Xx p a=0):p.Last≤a.At∧Xm p a.At=false∧p.State≠4∧(p.State=3→a.Kind=5)∧(p.State=1→a.Kind≠2)∧p.Seen.length≠64:=by
 revert h
 unfold Xx
 split
 ·simp
 ·rename_i h1
  split
  ·simp
  ·rename_i h2
   split
   ·simp
   ·rename_i h3
    intro _
    have hw:Xm p a.At=false:=by cases hb:Xm p a.At<;>simp_all
    exact⟨by omega,hw,by omega,by omega,by omega,by omega⟩
theorem QfN{a:D.Answer}:(Y5 p a).ID=p.ID∧(Y5 p a).Policy=p.Policy∧(Y5 p a).Start=p.Start∧(Y5 p a).Next=p.Next:=by
 unfold Y5;repeat' split
 all_goals exact⟨rfl,rfl,rfl,rfl⟩
theorem QlK{a:D.Answer}(h:p.Last≤a.At):(Y5 p a).Last≤a.At:=by
 unfold Y5;repeat' split
 all_goals dsimp only
 all_goals omega
theorem QhD{a:D.Answer}:(a.Kind=4→(Y5 p a).Starts=p.Starts++[⟨-1,a.At,[a.Arg]⟩])∧(a.Kind≠4→(Y5 p a).Starts=p.Starts):=by
 unfold Y5
 refine⟨fun h=>?_,fun h=>?_⟩
 ·rw[if_neg (by omega),if_neg (by omega),if_neg (by omega),if_pos h]
 ·repeat' split
  all_goals first|rfl|omega
end
def kN(l:List D.Start)(i:Nat):Int:=(((l.take i).filter fun s=>decide (0≤s.K)).length:Int)
def tN(st:Int)(l:List D.Start)(i:Nat):Int:=if i=0 then st else(nth l (i - 1)).At
theorem QcY{α:Type}[Inhabited α]{l m:List α}{i:Nat}(h:i<l.length):nth (l++m) i=nth l i:=by
 simp[nth,List.getD_eq_getElem?_getD,List.getElem?_append_left h]
theorem Qfi{α:Type}[Inhabited α]{l:List α}{x:α}:nth (l++[x]) l.length=x:=by
 simp[nth,List.getD_eq_getElem?_getD]
theorem QoN{l m:List D.Start}{i:Nat}(h:i≤l.length):kN (l++m) i=kN l i:=by
 unfold kN;rw[List.take_append_of_le_length h]
theorem Qrd{l:List D.Start}{x:D.Start}:kN (l++[x]) (l.length+1)=kN l l.length+(if 0≤x.K then 1 else 0):=by
 unfold kN
 rw[List.take_of_length_le (by simp),List.take_of_length_le (Nat.le_refl _),List.filter_append,List.length_append]
 by_cases h:0≤x.K
 ·simp[h]
 ·simp[h]
theorem Qpa{st:Int}{l m:List D.Start}{i:Nat}(h:i≤l.length):tN st (l++m) i=tN st l i:=by
 unfold tN
 split
 ·rfl
 ·rw[QcY (by omega)]
theorem Qsc{st:Int}{l:List D.Start}{i:Nat}:tN st l (i+1)=(nth l i).At:=by unfold tN;rw[if_neg (by omega)];rfl
theorem Goes.scan{Q:D.Start→Prop}{st k t h:Int}{l:List D.Start}(g:Goes Q st l k t h):kN l l.length=k∧tN st l l.length=t∧
  ∀i,i<l.length→tN st l i≤(nth l i).At∧setV (nth l i).People=true∧((nth l i).K = -1∧0<i∨(nth l i).K=kN l i∧0≤(nth l i).K∧Q (nth l i))∧(i=0→(nth l i).At=st):=by
 induction g with
 |nil=>exact⟨rfl,rfl,fun i hi=>by simp at hi⟩
 |@step l k t h a P g h1 h2 h3 h4 ih=>
  obtain⟨i1,i2,i3⟩:=ih
  have hp:=g.pos
  refine⟨by rw[List.length_append,List.length_singleton,Qrd,i1,if_pos (by dsimp only;omega)],by rw[List.length_append,List.length_singleton,Qsc,Qfi],fun i hi=>?_⟩
  by_cases e:i=l.length
  ·subst e
   rw[Qfi,Qpa (Nat.le_refl _),QoN (Nat.le_refl _),i1,i2]
   exact⟨h1,h3,.inr ⟨rfl,hp.1,h4⟩,fun e=>h2 (List.length_eq_zero_iff.1 e)⟩
  ·have hi':i<l.length:=by rw[List.length_append,List.length_singleton]at hi;omega
   rw[QcY hi',Qpa (by omega),QoN (by omega)]
   exact i3 i hi'
 |@hand l k t h a x g h1 h2 h3 h4 ih=>
  obtain⟨i1,i2,i3⟩:=ih
  have hne:l.length≠0:=fun e=>h2 (List.length_eq_zero_iff.1 e)
  refine⟨by rw[List.length_append,List.length_singleton,Qrd,i1,if_neg (by simp)];simp,by rw[List.length_append,List.length_singleton,Qsc,Qfi],fun i hi=>?_⟩
  by_cases e:i=l.length
  ·subst e
   rw[Qfi,Qpa (Nat.le_refl _),QoN (Nat.le_refl _),i2]
   exact⟨h1,Qo9 h3 h4,.inl ⟨rfl,by omega⟩,fun e=>absurd e hne⟩
  ·have hi':i<l.length:=by rw[List.length_append,List.length_singleton]at hi;omega
   rw[QcY hi',Qpa (by omega),QoN (by omega)]
   exact i3 i hi'
end Go.Proofs.YtgokjdfkpnkekaaGreat
/-
  What checks of pages say, and what steps, runs and answers keep of the lengths of pages.
-/
namespace Go.Proofs.YtgokjdfkpnkekaaGreat
open Go AM
section
variable {R X Y:Type} {Q:R→Prop}
theorem AM.Ok.run2{B:(X×Y→Option R)→X×Y→Option R}(n:Nat)(st:Nat→X){r:Y}{fu:Nat}{x:X}(hx:x=st 0)(hf:n<fu)(hs:∀i,i<n→∀k,(Ok (k (st (i+1),r)) Q→Ok (B k (st i,r)) Q))(h:∀k,Ok (B k (st n,r)) Q):Ok (Qh B fu (x,r)) Q:=
 Ok.run n (fun i=>(st i,r)) (by rw[hx]) hf hs h
theorem AM.Ok.scan2{B:(X×Y→Option R)→X×Y→Option R}(n:Nat)(st:Nat→X){r:Y}(q:Nat→Bool){fu:Nat}{x:X}(hx:x=st 0)(hf:n<fu)(hy:∀i,i<n→q i=true→(∀j,j<i→q j=false)→∀k,Ok (B k (st i,r)) Q)(hn:∀i,i<n→q i=false→∀k,(Ok (k (st (i+1),r)) Q→Ok (B k (st i,r)) Q))(he:(∀j,j<n→q j=false)→∀k,Ok (B k (st n,r)) Q):Ok (Qh B fu (x,r)) Q:=
 Ok.scan n (fun i=>(st i,r)) q (by rw[hx]) hf hy hn he
end
theorem Qr2{α:Type}[Inhabited α]{l:List α}{i:Nat}(h:i<l.length):l.set i (nth l i)=l:=by
 have e:nth l i=l[i]:=by simp[nth,List.getD_eq_getElem?_getD,List.getElem?_eq_getElem h]
 rw[e];exact List.set_getElem_self h
theorem asc32:Asc ((List.range 32).map fun(i:Nat)=>(i:Int)):=by unfold Asc;decide
structure CkF (b:D.Book) (p:D.Page):Prop where
 id:1≤p.ID∧p.ID≤999999
 pol:0≤p.Policy∧p.Policy<(b.Policies.length:Int)
 start:0≤p.Start∧p.Start≤8589934592
 next:0≤p.Next∧p.Next≤Ym (YN b p)
 state:0≤p.State∧p.State≤4
 by_ : -1≤p.By∧p.By≤31
 last:p.Start≤p.Last∧p.Last≤farV
 due:0≤p.Due∧p.Due≤farV
 until_:0≤p.Until∧p.Until≤farV
 snoozes:0≤p.Snoozes∧p.Snoozes≤4
 hands:0≤p.Hands∧p.Hands≤4
 starts:p.Starts.length≤200
 declined:setV p.Declined=true
 seen:p.Seen.Nodup∧p.Seen.length≤64
section
variable {n:Nat} {c:D.Config} {b:D.Book} {p q:D.Page} {now:Int}
theorem Yb(h:QR b p=true):CkF b p:=by
 unfold QR QeR Qjt at h
 simp only[bae,QL,decide_eq_true_eq]at h
 obtain⟨⟨⟨⟨⟨⟨⟨⟨⟨⟨⟨⟨⟨⟨h1,h2⟩,h3⟩,h4⟩,h5⟩,h6⟩,h7⟩,h8⟩,h9⟩,h10⟩,h11⟩,h12⟩,h13⟩,h14⟩,h15⟩:=h
 exact⟨h1,by omega,h3,h5,h6,h7,h8,h9,h10,h11,h12,h13.2,h14,h15⟩
theorem CkF.polOK(h:CkF b p)(hb:QJ b):Qba b.Teams.length (YN b p):=hb.pol _ (Qk (by have:=h.pol;omega))
theorem Qy.stepQ(h:Qy p)(hc:CkF b p)(hb:QJ b):Qy (stepQ c b p):=by
 have h1:=hc.starts;have h2:=hc.next
 have h3:=Yn (hc.polOK hb)
 unfold Go.Proofs.YtgokjdfkpnkekaaGreat.stepQ
 split
 ·exact⟨h.st,h.pe,h.de,h.se,h.nx⟩
 ·split
  ·exact⟨h.st,h.pe,h.de,h.se,h.nx⟩
  ·refine⟨by dsimp only;simp;omega,?_,by dsimp only;simp,h.se,by dsimp only;omega⟩
   refine WK h.pe ⟨?_,by dsimp only;omega,by dsimp only;omega⟩
   have:=QlV (c:=c) (b:=b) (s:=Zk b p) (t:=p.Due)
   dsimp only;omega
theorem Qy.page0:Qy page0:=⟨by simp[Go.Proofs.YtgokjdfkpnkekaaGreat.page0],by simp[Go.Proofs.YtgokjdfkpnkekaaGreat.page0],by simp[Go.Proofs.YtgokjdfkpnkekaaGreat.page0],by simp[Go.Proofs.YtgokjdfkpnkekaaGreat.page0],by simp[Go.Proofs.YtgokjdfkpnkekaaGreat.page0]⟩
theorem Qy.stepV(h:Qy p)(hb:QJ b):Qy (stepV c b p).1:=by
 unfold Go.Proofs.YtgokjdfkpnkekaaGreat.stepV
 split
 ·exact .page0
 ·rename_i hc
  split
  ·exact .page0
  ·split
   ·exact .page0
   ·exact h.stepQ (Yb (by simpa using hc)) hb
theorem Qy.runN(hb:QJ b):∀(k:Nat) {p:D.Page},Qy p→Qy (runN c b now k p).1
 |0,p,h=>h
 |k+1,p,h=>by
  rw[Go.Proofs.YtgokjdfkpnkekaaGreat.runN]
  split
  ·split
   ·exact .page0
   ·exact Qy.runN hb k (h.stepV hb)
  ·exact h
theorem Qy.runV(h:Qy p)(hb:QJ b):Qy (runV c b p now).1:=by
 unfold Go.Proofs.YtgokjdfkpnkekaaGreat.runV
 split
 ·exact .page0
 ·exact Qy.runN hb 100 h
theorem Qy.answerV{a:D.Answer}(h:Qy p)(hb:QJ b):Qy (answerV b p a).1:=by
 unfold Go.Proofs.YtgokjdfkpnkekaaGreat.answerV
 split
 ·exact .page0
 ·rename_i hc
  have hf:CkF b p:=Yb (by cases hk:QR b p<;>simp_all)
  have hx:=hf.starts;have hs:=hf.seen
  split
  ·exact .page0
  ·split
   ·exact h
   ·split
    ·exact .page0
    ·have hd:(VC p a).length≤40:=by
      unfold VC
      split
      ·have hde:=VV.1 hf.declined
       have h32:(Qfm p.Declined a.Person).length≤p.Declined.length+1:=by
        unfold Qfm
        rw[List.length_append,List.length_cons]
        have hsum:∀l:List Int,(l.filter (fun z=>decide (z<a.Person))).length+(l.filter (fun z=>decide (a.Person<z))).length≤l.length:=by
         intro l
         induction l with
         |nil=>simp
         |cons y l ih=>
          rw[List.filter_cons,List.filter_cons,List.length_cons]
          by_cases g1:y<a.Person
          ·rw[if_pos (by simpa using g1),if_neg (by simp;omega),List.length_cons];omega
          ·by_cases g2:a.Person<y
           ·rw[if_neg (by simpa using g1),if_pos (by simpa using g2),List.length_cons];omega
           ·rw[if_neg (by simpa using g1),if_neg (by simpa using g2)];omega
        have:=hsum p.Declined
        omega
       have hlen:p.Declined.length≤32:=by
        have e:p.Declined=((List.range 32).map fun(i:Nat)=>(i:Int)).filter fun z=>p.Declined.contains z:=QcF hde.1 (List.Pairwise.filter _ asc32) fun z=>by
         simp only[List.mem_filter,List.contains_iff_mem,List.mem_map,List.mem_range]
         exact⟨fun hz=>⟨⟨z.toNat,by have:=hde.2 z hz;omega,by have:=hde.2 z hz;omega⟩,hz⟩,fun hz=>hz.2⟩
        rw[e]
        exact Nat.le_trans (List.length_filter_le _ _) (by simp)
       omega
      ·exact h.de
     have hse:(p.Seen++[a.ID]).length≤100:=by simp;omega
     unfold Y5
     split
     ·split
      ·exact⟨h.st,h.pe,h.de,hse,h.nx⟩
      ·exact⟨h.st,h.pe,h.de,hse,h.nx⟩
     ·split
      ·exact⟨h.st,h.pe,hd,hse,h.nx⟩
      ·split
       ·exact⟨h.st,h.pe,h.de,hse,h.nx⟩
       ·split
        ·exact⟨by dsimp only;simp;omega,WK h.pe ⟨by simp,by dsimp only;omega,by dsimp only;omega⟩,by dsimp only;simp,hse,h.nx⟩
        ·exact⟨h.st,h.pe,h.de,hse,h.nx⟩
theorem QM.plen{Q:Int→D.Start→Prop}{M:Int}(h:QM Q M b p)(hb:QJ b):Qy p:=by
 obtain⟨h1,h2,h3⟩:=h.len hb
 have hf:=Yb (h.check hb)
 have hc:=Yn (h.polOK hb)
 have hlen:∀{l:List Int},setV l=true→l.length≤40:=by
  intro l hl
  have hde:=VV.1 hl
  have e:l=((List.range 32).map fun(i:Nat)=>(i:Int)).filter fun z=>l.contains z:=QcF hde.1 (List.Pairwise.filter _ asc32) fun z=>by
   simp only[List.mem_filter,List.contains_iff_mem,List.mem_map,List.mem_range]
   exact⟨fun hz=>⟨⟨z.toNat,by have:=hde.2 z hz;omega,by have:=hde.2 z hz;omega⟩,hz⟩,fun hz=>hz.2⟩
  rw[e]
  exact Nat.le_trans (List.length_filter_le _ _) (by simp)
 refine⟨by omega,fun s hs=>?_,hlen h.declined,by have:=hf.seen;omega,by have:=hf.next;omega⟩
 obtain⟨t,g1,_⟩:=h.goes
 obtain⟨k1,k2,k3⟩:=g1.scan
 obtain⟨i,hi,rfl⟩:=List.getElem_of_mem hs
 have:=k3 i hi
 have hkk:kN p.Starts i≤300:=by
  unfold kN
  have:=List.length_filter_le (fun s:D.Start=>decide (0≤s.K)) (p.Starts.take i)
  have:=List.length_take_le i p.Starts
  omega
 rw[show nth p.Starts i=p.Starts[i]by simp[nth,List.getD_eq_getElem?_getD,List.getElem?_eq_getElem hi]]at this
 exact⟨hlen this.2.1,by omega,by omega⟩
end
end Go.Proofs.YtgokjdfkpnkekaaGreat
/-
  Pages on their way: what the program's steps and runs compute.
-/
namespace Go.Proofs.YtgokjdfkpnkekaaGreat
open Go AM
attribute [local irreducible] dueV stepV runV QR
section
variable {n:Nat} {c:D.Config} {b:D.Book} {p q:D.Page} {now:Int}
theorem Ql7:WV 1000 p=some (dueV p):=by
 unfold WV dueV
 by_cases h0:p.State=0
 ·simp[cd,AM.cnd,h0]
 ·by_cases h2:p.State=2<;>simp[cd,AM.cnd,h0,h2]
theorem QtM{t:Int}:V3 1000 p t=some (Xm p t):=by
 unfold V3 Xm
 rw[Ql7,ZI]
 obtain⟨a,d⟩:=dueV p
 cases d<;>by_cases h:a≤t<;>simp[cd,AM.cnd,h]
theorem Ql1{l:List D.Start}(h:l.length≤1000):Y1 1000 l=some l:=by unfold Y1;exact Xa (by omega)
theorem QhW{l:List Int}(h:l.length≤1000):Qw 1000 l=some l:=by unfold Qw;exact Xa (by omega)
theorem QqM{l:List Int}(h:l.length≤1000):XY 1000 l=some l:=by unfold XY;exact Xa (by omega)
theorem QhZ(h:Qy p):Xf 1000 p=some p:=by
 have h1:=h.st;have h2:=h.de;have h3:=h.se
 refine Ok.eq ?_
 unfold Xf
 refine Ok.oe (Ql1 (by omega)) ?_
 refine Ok.run2 p.Starts.length (fun i=>(((p.Starts.length:Nat):Int),(i:Int),())) rfl (by omega) (fun i hi k hk=>?_) (fun k=>?_)
 ·dsimp only
  have hp:=(h.pe _ (Qk hi)).1
  refine Ok.p (by omega) (Ok.natn (Ok.lt hi (Ok.get hi (Ok.oe (QqM (by omega)) (Ok.natn (Ok.lt hi (Ok.get hi ?_)))))))
  rw[Qa (by omega),show(D.Start.mk (nth p.Starts i).K (nth p.Starts i).At (nth p.Starts i).People)=nth p.Starts i from rfl,Qr2 hi]
  exact hk
 ·dsimp only
  exact Ok.n (by omega) (Ok.oe (QhW (by omega)) (Ok.oe (QhW (by omega)) (Ok.s rfl)))
def QpD(q:D.Policy)(i:Int):Int×Int×Bool:=if 0≤i∧i<Ym q then(i % (q.Steps.length:Int),i / (q.Steps.length:Int),true)else(0,0,false)
theorem Qvg{m:Nat}{q:D.Policy}{i:Int}(h:Qba m q):Qaj 1000 q i=some (QpD q i):=by
 have h2:=h.len
 have hc:=Yn h
 refine Ok.eq ?_
 unfold Qaj QpD
 refine Ok.oe (Qkt h) ?_
 rw[Qc (x:=Ym q - 1) (by omega)]
 refine Ok.oe pIn ?_
 by_cases hi:0≤i∧i<Ym q
 ·have g1:=Int.ediv_le_self (a:=i) (q.Steps.length:Int) hi.1
  have g2:0≤i / (q.Steps.length:Int):=Int.ediv_nonneg hi.1 (by omega)
  refine Ok.np (by omega) (Ok.nzc (by omega) (Ok.nzc (by omega) (Ok.s ?_)))
  rw[if_pos hi,Int.tmod_eq_emod_of_nonneg hi.1,Int.tdiv_eq_ediv_of_nonneg hi.1,Qc (by omega)]
 ·refine Ok.nn (by omega) (Ok.s ?_)
  rw[if_neg hi]
theorem QtY{q:D.Policy}{i:Int}(h:1≤q.Steps.length):0≤i % (q.Steps.length:Int)∧i % (q.Steps.length:Int)<(q.Steps.length:Int):=
 ⟨Int.emod_nonneg _ (by omega),Int.emod_lt_of_pos _ (by omega)⟩
abbrev pgA(p:D.Page):Int×Int×Int×Int×Int×Int×Int×Int×Int×Int×Int×Unit:=(p.ID,p.Policy,p.Start,p.Next,p.Due,p.State,p.By,p.Until,p.Last,p.Snoozes,p.Hands,())
theorem QhM(h:Q1 n c)(hn:n≤48){x:Int}{s:D.PolicyStep}:Zp 1000 x c p s=some (!Wo c x p.Due s.Urgent,p):=by
 unfold Zp
 rw[Qtr h hn,ZI,Wc,Wc]
theorem QuZ(h:Q1 n c)(hn:n≤48){s:D.PolicyStep}{l0:List Int}{m:Nat}(hm:m≤l0.length)(hl:m≤900):
  Ok (Qt 1000 0 m l0 c p s) fun r=>r.2=p∧(r.1 = -1∧(∀j,j<m→Wo c (nth l0 j) p.Due s.Urgent=true)∨∃i:Nat,r.1=(i:Int)∧i<m∧Wo c (nth l0 i) p.Due s.Urgent=false∧∀j,j<i→Wo c (nth l0 j) p.Due s.Urgent=true):=by
 unfold Qt
 rw[Nat.sub_zero]
 refine Ok.scan2 m (fun i=>(0,m,((m:Nat):Int),(i:Int),())) (fun i=>!Wo c (nth l0 i) p.Due s.Urgent) rfl (by omega) (fun i hi hq hj k=>?_) (fun i hi hq k hk=>?_) (fun hq k=>?_)
 ·dsimp only
  rw[Nat.sub_zero]
  refine Ok.p (by omega) (Ok.natn (Ok.lt (by omega) ?_))
  rw[Nat.zero_add]
  refine Ok.get (by omega) (Ok.oe (QhM (p:=p) h hn) ?_)
  exact Ok.bt hq (Ok.sameC (Ok.sameC (Ok.sameC (Ok.s ⟨rfl,.inr ⟨i,rfl,hi,by simpa using hq,fun j hj'=>by simpa using hj j hj'⟩⟩))))
 ·dsimp only
  rw[Nat.sub_zero]
  refine Ok.p (by omega) (Ok.natn (Ok.lt (by omega) ?_))
  rw[Nat.zero_add]
  refine Ok.get (by omega) (Ok.oe (QhM (p:=p) h hn) (Ok.bf hq ?_))
  rw[Qa (by omega)]
  exact hk
 ·exact Ok.n (by omega) (Ok.sameC (Ok.sameC (Ok.sameC (Ok.s ⟨rfl,.inl ⟨rfl,fun j hj=>by simpa using hq j hj⟩⟩))))
theorem QuI(h:Q1 n c)(hn:n≤48){s:D.PolicyStep}{l0:List Int}{m:Nat}(hm:m≤l0.length)(hl:l0.length≤900):
  Ok (Qs 1000 0 m l0 c p s) fun r=>r.2.2.1=p∧List.drop r.1 (List.take r.2.1 r.2.2.2)=(l0.take m).filter fun z=>Wo c z p.Due s.Urgent:=by
 unfold Qs
 refine Ok.opt (QuZ h hn hm (by omega)) fun⟨r,p'⟩ ⟨hp',hr⟩=>?_
 dsimp only at hp' hr ⊢
 subst hp'
 rcases hr with⟨rfl,hall⟩|⟨i,rfl,hi,hx,hj⟩
 ·refine Ok.p rfl (Ok.sameC (Ok.sameC (Ok.s ⟨rfl,?_⟩)))
  dsimp only
  rw[List.drop_zero,QfZ (q:=fun z=>Wo c z p'.Due s.Urgent) hm hall]
 ·refine Ok.n (by omega) ?_
  rw[Qa (by omega)]
  refine Ok.loop (fun q x=>∃(w j:Nat) (a:List Int),x=((0,m,((w:Nat):Int),((j:Nat):Int),()),c,pgA p',s,a,p'.Starts,p'.Declined,p'.Seen,())∧QhA (l0) (fun z=>Wo c z p'.Due s.Urgent) w j a∧(w<j∧j≤m)∧q=m - j) (m:=m - (i+1)) (by omega) ⟨i,i+1,l0,rfl,Ql5 (by omega) hj hx,by omega,rfl⟩ ?_
  rintro q x ⟨w,j,a,rfl,hinv,hjm,rfl⟩ K hK
  have h1:=hinv.wj
  have h2:=hinv.len
  dsimp only
  rw[Nat.sub_zero]
  refine Ok.ite (fun hlt=>?_) (fun hge=>?_)
  ·refine Ok.j (Ok.natn (Ok.lt (by omega) ?_))
   rw[Nat.zero_add]
   refine Ok.get (by omega) (Ok.oe (QhM (p:=p') h hn) ?_)
   dsimp only
   rw[Bool.not_not]
   refine Ok.cnd (fun hq=>?_) (fun hq=>?_)
   ·refine Ok.natn (Ok.lt (by omega) ?_)
    rw[Nat.zero_add]
    refine Ok.get (by omega) ?_
    rw[Qa (by omega),Qa (by omega)]
    exact hK _ _ (by omega) ⟨w+1,j+1,_,rfl,Qow hinv (by omega) hq,by omega,rfl⟩
   ·rw[Qa (by omega)]
    exact hK _ _ (by omega) ⟨w,j+1,a,rfl,Qox hinv (by omega) hq,by omega,rfl⟩
  ·have ej:j=m:=by omega
   have hd:=hinv.done
   rw[ej]at hd
   refine Ok.natn (Ok.lt (by omega) (Ok.lec (by omega) (Ok.lec (by omega) (Ok.natn (Ok.lec (by omega) (Ok.sameC (Ok.sameC (Ok.s ⟨rfl,?_⟩))))))))
   dsimp only
   simp only[Nat.zero_add,List.drop_zero]
   rw[List.append_assoc,List.take_append_of_le_length (by simp;omega),List.take_take,Nat.min_self]
   exact hd
theorem QsH(h:Q1 n c)(hn:n≤48)(hb:QJ b)(hf:CkF b p)(hnx:p.Next<Ym (YN b p))(hs:p.Starts.length≤300):
  Ok (Z7 1000 c b p) fun r=>r.1={ p with Starts:=p.Starts++[⟨p.Next,p.Due,Qat c b (Zk b p) p.Due⟩],Declined:=[],Next:=p.Next+1,Due:=if Qat c b (Zk b p) p.Due=[]then p.Due else p.Due+(Zk b p).Wait }:=by
 have hp:=hf.pol;have h0:=hf.next;have hd:=hf.due
 have hq:Qba b.Teams.length (YN b p):=hf.polOK hb
 have hpl:=hb.plen;have hql:=hq.len
 have hc:=Yn hq
 unfold farV at hd
 unfold Z7
 refine Ok.at hp.1 hp.2 ?_
 show Ok (optc (Qaj 1000 (YN b p) p.Next) _) _
 refine Ok.oe (Qvg hq) ?_
 unfold QpD
 rw[if_pos ⟨h0.1,hnx⟩]
 dsimp only
 have hm:=QtY (q:=YN b p) (i:=p.Next) hql.1
 refine Ok.at hm.1 hm.2 ?_
 have hst:=hq.step _ (Qom hq h0.1)
 have hw:0≤(Zk b p).Wait∧(Zk b p).Wait≤900:=hst.wait
 have hlen:(Zk b p).Targets.length≤2:=hst.len
 rw[show nth (nth b.Policies p.Policy.toNat).Steps (p.Next % ((YN b p).Steps.length:Int)).toNat=Zk b p from rfl]
 refine Ok.opt (Qrz h hn hb hst.target (by omega)) fun⟨v0,v1,v2⟩ ⟨g1,g2,g3,g4⟩=>?_
 dsimp only at g1 g2 g3 g4 ⊢
 subst g1
 refine Ok.opt (QuI (s:=Zk b p) h hn g2 (by omega)) fun⟨w0,w1,w2,w3⟩ ⟨e1,e2⟩=>?_
 dsimp only at e1 e2 ⊢
 subst e1
 rw[e2,g4]
 show Ok (AM.lec (w2.Starts.length+_) _ _) _
 have hcall:(List.filter (fun z=>Wo c z w2.Due (Zk b w2).Urgent) (Ws c b (Zk b w2).Targets w2.Due))=Qat c b (Zk b w2) w2.Due:=rfl
 rw[hcall]
 refine Ok.lec (by simp;omega) (Ok.j (Ok.ite (fun hpos=>Ok.s ?_) (fun hpos=>Ok.s ?_)))
 ·have hne:Qat c b (Zk b w2) w2.Due≠[]:=fun e=>by rw[e]at hpos;simp at hpos
  show _=_
  rw[if_neg hne,Qc (by omega),Qc (by omega)]
 ·have he:Qat c b (Zk b w2) w2.Due=[]:=List.eq_nil_iff_length_eq_zero.2 (by omega)
  show _=_
  rw[if_pos he,Qc (by omega)]
theorem Qvw(h:Q1 n c)(hn:n≤48)(hb:QJ b)(hp:Qy p):UH 1000 c b p=some (stepV c b p):=by
 refine Ok.eq ?_
 unfold UH
 have hst:=hp.st
 refine Ok.oe Ql7 (Ok.oe (Qha hb hp) (Ok.ncnd (fun hc=>Ok.s ?_) (fun hc=>?_)))
 ·unfold stepV;rw[if_pos hc];rfl
 have hf:=Yb hc
 refine Ok.ncnd (fun hd=>Ok.s ?_) (fun hd=>?_)
 ·unfold stepV;rw[if_neg (by rw[hc];simp),if_pos hd];rfl
 refine Ok.ite (fun hl=>Ok.s ?_) (fun hl=>?_)
 ·unfold stepV;rw[if_neg (by rw[hc];simp),if_neg (by rw[hd];simp),if_pos (by omega)];rfl
 have hV:stepV c b p=(stepQ c b p,0):=by unfold stepV;rw[if_neg (by rw[hc];simp),if_neg (by rw[hd];simp),if_neg (by omega)]
 rw[hV]
 have hs:=QcN hd
 have hpol:=hf.pol;have hnx:=hf.next;have hl2:=hf.last;have hdu:=hf.due
 refine Ok.oe (QhZ hp) (Ok.j (Ok.ite (fun h2=>Ok.s ?_) (fun h2=>?_)))
 ·unfold stepQ
  rw[if_pos h2,Ql6 h2,Int.max_comm]
 ·have h0:p.State=0:=by omega
  refine Ok.at hpol.1 hpol.2 ?_
  show Ok (optc (X5 1000 (YN b p)) _) _
  refine Ok.oe (Qkt (hf.polOK hb)) (Ok.ite (fun he=>Ok.s ?_) (fun he=>?_))
  ·unfold stepQ
   rw[if_neg h2,if_pos (by omega),Qh1 h0,Int.max_comm]
  ·have hf':CkF b { p with Last:=max p.Last p.Due }:=⟨hf.id,hf.pol,hf.start,hf.next,hf.state,hf.by_,by dsimp only;omega,hf.due,hf.until_,hf.snoozes,hf.hands,hf.starts,hf.declined,hf.seen⟩
   have hb':=QsH (p:={ p with Last:=max p.Last p.Due }) h hn hb hf' (by show p.Next<Ym (YN b p);omega) hst
   have hQ:stepQ c b p={ p with Last:=max p.Due p.Last,Starts:=p.Starts++[⟨p.Next,p.Due,Qat c b (Zk b p) p.Due⟩],Declined:=[],Next:=p.Next+1,Due:=if Qat c b (Zk b p) p.Due=[]then p.Due else p.Due+(Zk b p).Wait }:=by
    unfold stepQ;rw[if_neg h2,if_neg (show ¬Ym (YN b p)≤p.Next by omega)]
   rw[Qh1 h0,hQ,Int.max_comm p.Due p.Last]
   refine Ok.opt hb' fun⟨r,z⟩ hr=>Ok.s ?_
   dsimp only at hr ⊢
   subst hr
   rfl
theorem Qv6(h:Q1 n c)(hn:n≤48)(hb:QJ b)(hp:Qy p):QaG 1000 c b p now=some (runV c b p now):=by
 refine Ok.eq ?_
 unfold QaG
 refine Ok.oe (Qha hb hp) (Ok.ncnd (fun hc=>Ok.s ?_) (fun hc=>?_))
 ·unfold runV;rw[if_pos hc];rfl
 rw[Qgo hc]
 have hf:=Yb hc
 have hcn:=Yn (hf.polOK hb)
 have hnx:=hf.next
 have hle:Ug b p≤11:=by
  unfold Ug
  split
  ·omega
  ·split<;>omega
 refine Ok.oe (QhZ hp) ?_
 refine Ok.loop (fun m x=>∃(q:D.Page) (k:Nat),x=((now,()),c,b,q,page0,())∧Qy q∧Ug b q+1≤k∧runN c b now k q=runN c b now 100 p∧m=Ug b q) (m:=Ug b p) (by omega) ⟨p,100,rfl,hp,by omega,rfl,rfl⟩ ?_
 rintro m x ⟨q,k,rfl,hq,hk,he,rfl⟩ K hK
 dsimp only
 obtain⟨k,rfl⟩:∃k',k=k'+1:=⟨k - 1,by omega⟩
 rw[runN]at he
 refine Ok.oe QtM (Ok.cnd (fun hw=>?_) (fun hw=>Ok.s ?_))
 ·rw[if_pos hw]at he
  refine Ok.oe (Qvw h hn hb hq) (Ok.ite (fun h1=>Ok.s ?_) (fun h1=>?_))
  ·rw[if_pos h1]at he;exact he
  ·rw[if_neg h1]at he
   have hd:=Uo hw
   have hst:stepV c b q=(stepQ c b q,0):=by
    revert h1
    unfold stepV
    split
    ·simp
    ·split
     ·simp
     ·split
      ·simp
      ·intro _;rfl
   have hl:=QbD (c:=c) (b:=b) hd.1
   rw[hst]at he ⊢
   refine hK (Ug b (stepQ c b q)) _ hl ⟨stepQ c b q,k,rfl,?_,by omega,he,rfl⟩
   have:=hq.stepV (c:=c) hb
   rw[hst]at this;exact this
 ·rw[if_neg (by simp[hw])]at he;exact he
end
end Go.Proofs.YtgokjdfkpnkekaaGreat
/-
  Pages on their way: what the reference's checks, steps, runs and answers compute.
-/
namespace Go.Proofs.YtgokjdfkpnkekaaGreat
open Go AM
attribute [local irreducible] dueV stepV runV QR
section
variable {n:Nat} {c:D.Config} {b:D.Book} {p q:D.Page} {now:Int} {a:D.Answer}
theorem rin{fu:Nat}{x lo hi:Int}:Zf fu x lo hi=some (inV x lo hi):=by
 unfold Zf inV
 by_cases h1:lo≤x<;>by_cases h2:x≤hi<;>simp[cd,AM.cnd,h1,h2]
theorem QtQ{l:List Int}{i:Nat}:badS l i=true↔¬(0≤nth l i∧nth l i≤31∧(i=0∨nth l (i - 1)<nth l i)):=by
 unfold badS
 rw[Bool.not_eq_true',Bool.eq_false_iff]
 simp only[ne_eq,bae,Bool.or_eq_true,decide_eq_true_eq,and_assoc]
theorem QvO{l:List Int}{i:Nat}:badS l i=false↔(0≤nth l i∧nth l i≤31∧(i=0∨nth l (i - 1)<nth l i)):=by
 rw[←Bool.not_eq_true,QtQ,Decidable.not_not]
theorem Qlt{l:List Int}(hl:l.length<900):Qb8 1000 l 32=some (setV l):=by
 refine Ok.eq ?_
 unfold Qb8
 refine Ok.scan l.length (fun i=>((l,32,(i:Int),()),())) (badS l) rfl (by omega) (fun i hi hq _ k=>?_) (fun i hi hq k hk=>?_) (fun hq k=>?_)
 ·have hb:=QtQ.1 hq
  dsimp only
  rw[Qo8 hi hq]
  refine Ok.p (by omega) (Ok.j (Ok.atn hi (Ok.ite (fun h1=>Ok.s rfl) (fun h1=>Ok.atn hi (Ok.ite (fun h2=>Ok.s rfl) (fun h2=>?_))))))
  have h0:0<i:=by omega
  refine Ok.p (by omega) ?_
  rw[show IntKind.wrap .i64 ((i:Int) - 1)=((i - 1:Nat):Int)by rw[Qc (by omega)];omega]
  exact Ok.atn (by omega) (Ok.atn hi (Ok.p (by omega) (Ok.s rfl)))
 ·have hb:=QvO.1 hq
  dsimp only
  refine Ok.p (by omega) (Ok.j (Ok.atn hi (Ok.n (by omega) (Ok.atn hi (Ok.n (by omega) ?_)))))
  dsimp only
  rw[Qa (by omega)]
  by_cases h0:0<i
  ·refine Ok.p (by omega) ?_
   rw[show IntKind.wrap .i64 ((i:Int) - 1)=((i - 1:Nat):Int)by rw[Qc (by omega)];omega]
   exact Ok.atn (by omega) (Ok.atn hi (Ok.n (by omega) hk))
  ·exact Ok.n (by omega) hk
 ·exact Ok.n (by omega) (Ok.s (Qnc hq).symm)
theorem Qok(h:Qy p):QdQ 1000 p=some (QeR p):=by
 have hst:=h.st
 have hnx:=h.nx
 refine Ok.eq ?_
 unfold QdQ QeR
 refine Ok.loop (fun m x=>∃(i:Nat) (k t:Int),x=((k,t,(i:Int),()),p,())∧i≤p.Starts.length∧-1≤k∧k≤1000000∧XT p.Next k t (p.Starts.drop i)=XT p.Next (-1) p.Start p.Starts∧m=p.Starts.length - i) (m:=p.Starts.length) (by omega)
  ⟨0,-1,p.Start,rfl,by omega,by omega,by omega,rfl,rfl⟩ ?_
 rintro m x ⟨i,k,t,rfl,h1,h2,h2',h3,rfl⟩ K hK
 dsimp only
 refine Ok.ite (fun hi=>?_) (fun hi=>?_)
 ·have hlt:i<p.Starts.length:=by omega
  have hs:=h.pe _ (Qk hlt)
  refine Ok.j (Ok.atn hlt ?_)
  obtain⟨s,hse⟩:∃s,nth p.Starts i=s:=⟨_,rfl⟩
  rw[QcM hlt,XT,hse]at h3
  rw[hse]at hs ⊢
  refine Ok.join (fun y=>y=((k,(i:Int),()),p,s,())∧t≤s.At∧(s.K = -1∨0≤s.K∧k<s.K∧s.K<p.Next)∧setV s.People=true) (fun y hy=>?_) (fun J hJ=>?_)
  ·obtain⟨rfl,c1,c2,c3⟩:=hy
   have hC:(decide (t≤s.At) && (decide (s.K = -1) || decide (0≤s.K) && decide (k<s.K) && decide (s.K<p.Next)) && setV s.People)=true:=by
    rw[c3];simp;omega
   rw[hC,Bool.true_and]at h3
   dsimp only
   rw[Qa (by omega)]
   refine Ok.ite (fun g=>?_) (fun g=>?_)
   ·rw[show max k s.K=s.K by omega]at h3
    exact hK _ _ (by omega) ⟨i+1,s.K,s.At,rfl,by omega,by omega,by omega,h3,rfl⟩
   ·rw[show max k s.K=k by omega]at h3
    exact hK _ _ (by omega) ⟨i+1,k,s.At,rfl,by omega,by omega,by omega,h3,rfl⟩
  ·refine Ok.ite (fun g1=>Ok.s ?_) (fun g1=>Ok.ite (fun g2=>Ok.s ?_) (fun g2=>Ok.ite (fun g3=>Ok.ite (fun g4=>Ok.s ?_) (fun g4=>Ok.ite (fun g5=>Ok.s ?_) (fun g5=>Ok.oe (Qlt (by omega)) (Ok.cnd (fun g6=>hJ _ ⟨rfl,by omega,by omega,g6⟩) (fun g6=>Ok.s ?_))))) (fun g3=>Ok.oe (Qlt (by omega)) (Ok.cnd (fun g6=>hJ _ ⟨rfl,by omega,by omega,g6⟩) (fun g6=>Ok.s ?_)))))
   ·rw[←h3,decide_eq_false (show ¬t≤s.At by omega)];rfl
   ·rw[←h3,decide_eq_false (show ¬s.K = -1 by omega),decide_eq_false (show ¬0≤s.K by omega)];simp
   ·rw[←h3,decide_eq_false (show ¬s.K = -1 by omega),decide_eq_false (show ¬k<s.K by omega)];simp
   ·rw[←h3,decide_eq_false (show ¬s.K = -1 by omega),decide_eq_false (show ¬s.K<p.Next by omega)];simp
   ·rw[←h3,g6];simp
   ·rw[←h3,g6];simp
 ·have e:i=p.Starts.length:=by omega
  refine Ok.s ?_
  subst e
  rw[List.drop_length,XT]at h3
  rw[←h3,Bool.true_and]
  exact decide_eq_decide.2 (by omega)
theorem QjI{m:Nat}{q:D.Policy}(h:Qba m q):Qbr 1000 q=some (Ym q):=by
 have h1:=h.rep
 have h2:=h.len
 refine Ok.eq ?_
 unfold Qbr
 refine Ok.j (Ok.oe rin (Ok.bt (QL.2 (by omega)) (Ok.n (by omega) (Ok.s ?_))))
 rw[(Yn h).1,Qc (x:=q.Repeat+1) (by omega),Qc]
 have h3:q.Repeat=0∨q.Repeat=1∨q.Repeat=2:=by omega
 rcases h3 with h3|h3|h3<;>rw[h3]<;>omega
theorem Qp1{m:Nat}{q:D.Policy}(h:Qba m q):Qda 1000 q=some true:=by
 have h2:=h.len
 refine Ok.eq ?_
 unfold Qda
 refine Ok.run2 q.Steps.length (fun i=>((i:Int),())) rfl (by omega) (fun i hi k hk=>?_) (fun k=>Ok.n (by omega) (Ok.s rfl))
 dsimp only
 have hw:=(h.step _ (Qk hi)).wait
 refine Ok.p (by omega) (Ok.atn hi (Ok.oe rin (Ok.nt (QL.2 (by omega)) ?_)))
 rw[Qa (by omega)]
 exact hk
theorem Qry{m:Nat}{q:D.Policy}{i:Int}(h:Qba m q):Qft 1000 q i=some (QpD q i):=by
 have h2:=h.len
 have hc:=Yn h
 refine Ok.eq ?_
 unfold Qft QpD
 refine Ok.j (Ok.ite (fun g1=>Ok.s ?_) (fun g1=>Ok.oe (QjI h) (Ok.ite (fun g2=>Ok.s ?_) (fun g2=>Ok.nzc (by omega) (Ok.nzc (by omega) (Ok.s ?_))))))
 ·rw[if_neg (by omega)]
 ·rw[if_neg (by omega)]
 ·have g3:=Int.ediv_le_self (a:=i) (q.Steps.length:Int) (by omega)
  have g4:0≤i / (q.Steps.length:Int):=Int.ediv_nonneg (by omega) (by omega)
  rw[if_pos (by omega),Int.tmod_eq_emod_of_nonneg (by omega),Int.tdiv_eq_ediv_of_nonneg (by omega),Qc (by omega)]
def newV(b:D.Book)(id pol start:Int):D.Page×Int:=
 if inV id 1 999999=true∧inV start 0 8589934592=true then(if inV pol 0 ((b.Policies.length:Int) - 1)=true then(newP id pol start,0)else(page0,3))else(page0,1)
theorem QkN{id pol start:Int}(hb:QJ b):QiN 1000 b id pol start=some (newV b id pol start):=by
 have hp:=hb.plen
 refine Ok.eq ?_
 unfold QiN newV
 refine Ok.j (Ok.oe rin (Ok.cnd (fun h1=>Ok.oe rin (Ok.cnd (fun h2=>?_) (fun h2=>Ok.s ?_))) (fun h1=>Ok.s ?_)))
 ·dsimp only
  rw[if_pos ⟨h1,h2⟩,Qc (by omega)]
  refine Ok.oe rin (Ok.ncnd (fun h3=>Ok.s ?_) (fun h3=>Ok.s ?_))
  ·rw[if_neg (by rw[h3];simp)];rfl
  ·rw[if_pos h3];rfl
 ·rw[if_neg (by rw[h2];simp)];rfl
 ·rw[if_neg (by rw[h1];simp)];rfl
theorem Qu7{id pol start:Int}(hb:QJ b):QcP 1000 b id pol start=some (newV b id pol start):=QkN hb
theorem Qdu(hb:QJ b)(h:Qy p):Vr 1000 b p=some (QR b p):=by
 have hde:=h.de;have hse:=h.se
 have hpl:=hb.plen
 refine Ok.eq ?_
 unfold Vr
 refine Ok.j (Ok.oe (QkN hb) ?_)
 unfold newV
 by_cases h1:inV p.ID 1 999999=true∧inV p.Start 0 8589934592=true
 ·rw[if_pos h1]
  by_cases h2:inV p.Policy 0 ((b.Policies.length:Int) - 1)=true
  ·rw[if_pos h2]
   have h2':=QL.1 h2
   have hq:Qba b.Teams.length (YN b p):=hb.pol _ (Qk (by omega))
   have hw:=Qkb hq
   refine Ok.n (by simp) (Ok.at h2'.1 (by omega) ?_)
   show Ok (optc (Qda 1000 (YN b p)) _) _
   refine Ok.oe (Qp1 hq) (Ok.t (Ok.at h2'.1 (by omega) ?_))
   show Ok (optc (Qbr 1000 (YN b p)) _) _
   refine Ok.oe (QjI hq) (Ok.oe rin (Ok.cnd (fun h4=>?_) (fun h4=>Ok.s (by simp[QR,h4]))))
   refine Ok.j (Ok.oe rin (Ok.cnd (fun h5=>?_) (fun h5=>Ok.s (by simp[QR,h5]))))
   refine Ok.oe rin (Ok.cnd (fun h6=>?_) (fun h6=>Ok.s (by simp[QR,h6])))
   refine Ok.oe rin (Ok.cnd (fun h7=>?_) (fun h7=>Ok.s (by have h7:inV p.Last p.Start farV=false:=h7;simp[QR,h7])))
   refine Ok.oe rin (Ok.cnd (fun h8=>?_) (fun h8=>Ok.s (by have h8:inV p.Due 0 farV=false:=h8;simp[QR,h8])))
   refine Ok.oe rin (Ok.cnd (fun h9=>?_) (fun h9=>Ok.s (by have h9:inV p.Until 0 farV=false:=h9;simp[QR,h9])))
   refine Ok.j (Ok.oe rin (Ok.cnd (fun h10=>?_) (fun h10=>Ok.s (by simp[QR,h10]))))
   refine Ok.oe rin (Ok.cnd (fun h11=>?_) (fun h11=>Ok.s (by simp[QR,h11])))
   refine Ok.oe (Qok h) (Ok.cnd (fun h12=>?_) (fun h12=>Ok.s (by simp[QR,h12])))
   refine Ok.oe (Qlt (by omega)) (Ok.cnd (fun h13=>?_) (fun h13=>Ok.s (by simp[QR,h13])))
   refine Ok.ite (fun h14=>Ok.s (by simp[QR,Qjt,decide_eq_false (show ¬p.Seen.length≤64 by omega)])) (fun h14=>?_)
   have h7':inV p.Last p.Start farV=true:=h7
   have h8':inV p.Due 0 farV=true:=h8
   have h9':inV p.Until 0 farV=true:=h9
   have hcv:QR b p=Qjt p.Seen:=by simp[QR,h1.1,h1.2,h2,hw,h4,h5,h6,h7',h8',h9',h10,h11,h12,h13]
   rw[hcv]
   unfold Qjt
   rw[decide_eq_true (show p.Seen.length≤64 by omega),Bool.and_true]
   refine Ok.scan2 p.Seen.length (fun i=>((i:Int),())) (fun i=>(p.Seen.take i).contains (nth p.Seen i)) rfl (by omega) (fun i hi hq _ k=>?_) (fun i hi hq k hk=>?_) (fun hq k=>?_)
   ·refine Ok.p (by omega) (Ok.natn (Ok.lec (by omega) (Ok.atn hi (Ok.oe (QbQ (by simp;omega)) (Ok.bt hq (Ok.s ?_))))))
    rw[Qhv hi hq]
   ·refine Ok.p (by omega) (Ok.natn (Ok.lec (by omega) (Ok.atn hi (Ok.oe (QbQ (by simp;omega)) (Ok.bf hq ?_)))))
    rw[Qa (by omega)];exact hk
   ·exact Ok.n (by omega) (Ok.s (decide_eq_true (Qnb hq)).symm)
  ·rw[if_neg h2]
   exact Ok.p (by simp) (Ok.s (by simp[QR,h2]))
 ·rw[if_neg h1]
  refine Ok.p (by simp) (Ok.s ?_)
  have:QR b p=false:=by
   rw[Bool.eq_false_iff]
   intro hc
   have hf:=Yb hc
   exact h1 ⟨QL.2 hf.id,QL.2 hf.start⟩
  rw[this]
theorem Qe0:QeK 1000 p=some (dueV p):=Ql7
theorem QnE(h:Qy p):QdP 1000 p=some (Xs p):=by
 have h1:=h.st
 refine Ok.eq ?_
 unfold QdP Xs
 refine Ok.ite (fun h0=>Ok.s ?_) (fun h0=>?_)
 ·rw[if_pos (List.eq_nil_iff_length_eq_zero.2 (by omega))]
 ·have hne:p.Starts≠[]:=fun e=>h0 (by rw[e];rfl)
  have hpos:=List.length_pos_iff.2 hne
  rw[show IntKind.wrap .i64 (((p.Starts.length:Nat):Int) - 1)=((p.Starts.length - 1:Nat):Int)by rw[Qc (by omega)];omega]
  have hp:=(h.pe _ (Qk (l:=p.Starts) (i:=p.Starts.length - 1) (by omega))).1
  refine Ok.atn (by omega) (Ok.lec (by omega) (Ok.s ?_))
  rw[if_neg hne]
theorem Qbg(h:Qy p):UV 1000 p=some p:=by
 have h1:=h.st;have h2:=h.de;have h3:=h.se
 refine Ok.eq ?_
 unfold UV
 refine Ok.run p.Starts.length (fun i=>(((i:Int),()),p,page0,p.Starts.take i,())) rfl (by omega) (fun i hi k hk=>?_) (fun k=>?_)
 ·dsimp only
  have hp:=(h.pe _ (Qk hi)).1
  refine Ok.p (by omega) (Ok.atn hi (Ok.lec (by omega) (Ok.lec (by simp;omega) ?_)))
  rw[Qa (by omega),QG hi]
  exact hk
 ·dsimp only
  rw[List.take_length]
  exact Ok.n (by omega) (Ok.lec (by omega) (Ok.lec (by omega) (Ok.s rfl)))
theorem QnK{l:List Int}{f:Int→Bool}{i:Nat}(hi:i<l.length):(l.take (i+1)).filter f=(l.take i).filter f++(if f (nth l i)=true then[nth l i]else[]):=by
 rw[←QG hi,List.filter_append]
 congr 1
 by_cases h:f (nth l i)=true
 ·simp[h]
 ·simp[h]
theorem Qr8(h:Q1 n c)(hn:n≤48)(hb:QJ b)(hp:Qy p):Qhr 1000 c b p=some (stepV c b p):=by
 refine Ok.eq ?_
 unfold Qhr
 have hst:=hp.st
 refine Ok.oe (Qdu hb hp) (Ok.ncnd (fun hc=>Ok.s ?_) (fun hc=>?_))
 ·unfold stepV;rw[if_pos hc];rfl
 have hf:=Yb hc
 refine Ok.oe Qe0 (Ok.ncnd (fun hd=>Ok.s ?_) (fun hd=>?_))
 ·unfold stepV;rw[if_neg (by rw[hc];simp),if_pos hd];rfl
 have hst2:=hf.starts
 refine Ok.ite (fun hl=>Ok.s ?_) (fun hl=>?_)
 ·unfold stepV;rw[if_neg (by rw[hc];simp),if_neg (by rw[hd];simp),if_pos (by omega)];rfl
 have hV:stepV c b p=(stepQ c b p,0):=by unfold stepV;rw[if_neg (by rw[hc];simp),if_neg (by rw[hd];simp),if_neg (by omega)]
 rw[hV]
 have hs:=QcN hd
 have hpol:=hf.pol;have hnx:=hf.next;have hl2:=hf.last;have hdu:=hf.due
 refine Ok.oe (Qbg hp) (Ok.ite (fun h2=>Ok.s ?_) (fun h2=>?_))
 ·unfold stepQ
  rw[if_pos h2,Ql6 h2]
 ·have h0:p.State=0:=by omega
  have hq:=hf.polOK hb
  have hcn:=Yn hq
  have hql:=hq.len
  refine Ok.at hpol.1 hpol.2 ?_
  show Ok (optc (Qft 1000 (YN b p) p.Next) _) _
  refine Ok.oe (Qry hq) ?_
  unfold QpD
  rw[Qh1 h0]
  by_cases he:p.Next<Ym (YN b p)
  ·rw[if_pos ⟨hnx.1,he⟩]
   dsimp only
   have hm:=QtY (q:=YN b p) (i:=p.Next) hql.1
   refine Ok.f (Ok.at hm.1 hm.2 ?_)
   have hstp:=hq.step _ (Qom hq hnx.1)
   have hw:0≤(Zk b p).Wait∧(Zk b p).Wait≤900:=hstp.wait
   have hlen:(Zk b p).Targets.length≤2:=hstp.len
   show Ok (optc (Qbs 1000 c b (Zk b p).Targets p.Due) _) _
   refine Ok.oe (QpF h hn hb hstp.target (by omega)) ?_
   have hpl:=QeG (c:=c) (b:=b) (l:=(Zk b p).Targets) (t:=p.Due)
   obtain⟨l,hl3⟩:∃l,Ws c b (Zk b p).Targets p.Due=l:=⟨_,rfl⟩
   rw[hl3]at hpl ⊢
   have hcall:Qat c b (Zk b p) p.Due=l.filter fun z=>Wo c z p.Due (Zk b p).Urgent:=by unfold Qat;rw[hl3]
   refine Ok.run l.length (fun i=>((p.Due,p.Next % ((YN b p).Steps.length:Int),l,(i:Int),()),c,p,page0,(p.ID,p.Policy,p.Start,p.Next,p.Due,p.State,p.By,p.Until,max p.Due p.Last,p.Snoozes,p.Hands,()),YN b p,(p.Next,p.Due,()),p.Starts,p.Declined,p.Seen,(l.take i).filter (fun z=>Wo c z p.Due (Zk b p).Urgent),())) rfl (by omega) (fun i hi k hk=>?_) (fun k=>?_)
   ·dsimp only
    have hfl:=List.length_filter_le (fun z=>Wo c z p.Due (Zk b p).Urgent) (l.take i)
    have htl:=List.length_take_le i l
    refine Ok.p (by omega) (Ok.j (Ok.atn hi (Ok.at hm.1 hm.2 (Ok.oe (QrO h hn) ?_))))
    show Ok (AM.cnd (Wo c (nth l i) p.Due (Zk b p).Urgent) _ _) _
    rw[QnK hi]at hk
    refine Ok.cnd (fun g=>Ok.atn hi (Ok.lec (by simp;omega) ?_)) (fun g=>?_)
    ·dsimp only
     rw[if_pos g]at hk
     rw[Qa (by omega)]
     exact hk
    ·dsimp only
     rw[if_neg (by rw[g];simp),List.append_nil]at hk
     rw[Qa (by omega)]
     exact hk
   ·dsimp only
    rw[List.take_length,←hcall]
    unfold stepQ
    rw[if_neg h2,if_neg (by omega)]
    refine Ok.n (by omega) (Ok.lec (by simp;omega) (Ok.j (Ok.ite (fun g=>Ok.at hm.1 hm.2 (Ok.s ?_)) (fun g=>Ok.s ?_))))
    ·have hne:Qat c b (Zk b p) p.Due≠[]:=fun e=>by rw[e]at g;simp at g
     unfold farV at hdu
     show _=_
     rw[if_neg hne,Qc (by omega)]
     have:IntKind.wrap .i64 (p.Due+(Zk b p).Wait)=p.Due+(Zk b p).Wait:=Qc (by omega)
     unfold Zk at this
     rw[this]
     rfl
    ·have he':Qat c b (Zk b p) p.Due=[]:=List.eq_nil_iff_length_eq_zero.2 (by omega)
     show _=_
     rw[if_pos he',Qc (by omega)]
  ·rw[if_neg (by omega)]
   dsimp only
   refine Ok.t (Ok.s ?_)
   unfold stepQ
   rw[if_neg h2,if_pos (by omega)]
theorem Qo5(h:Q1 n c)(hn:n≤48)(hb:QJ b)(hp:Qy p):Qgk 1000 c b p now=some (runV c b p now):=by
 refine Ok.eq ?_
 unfold Qgk
 refine Ok.oe (Qdu hb hp) (Ok.ncnd (fun hc=>Ok.s ?_) (fun hc=>?_))
 ·unfold runV;rw[if_pos hc];rfl
 rw[Qgo hc]
 have hf:=Yb hc
 have hcn:=Yn (hf.polOK hb)
 have hnx:=hf.next
 have hle:Ug b p≤11:=by
  unfold Ug
  split
  ·omega
  ·split<;>omega
 refine Ok.oe (Qbg hp) ?_
 refine Ok.loop (fun m x=>∃(q:D.Page) (k:Nat),x=((now,()),c,b,q,page0,())∧Qy q∧Ug b q+1≤k∧runN c b now k q=runN c b now 100 p∧m=Ug b q) (m:=Ug b p) (by omega) ⟨p,100,rfl,hp,by omega,rfl,rfl⟩ ?_
 rintro m x ⟨q,k,rfl,hq,hk,he,rfl⟩ K hK
 dsimp only
 obtain⟨k,rfl⟩:∃k',k=k'+1:=⟨k - 1,by omega⟩
 rw[runN]at he
 refine Ok.oe Qe0 ?_
 have hwv:Xm q now=((dueV q).2 && decide ((dueV q).1≤now)):=rfl
 refine Ok.join (fun y=>y=((now,()),c,b,q,page0,())∧Xm q now=true) (fun y hy=>?_) (fun J hJ=>?_)
 ·obtain⟨rfl,hw⟩:=hy
  dsimp only
  rw[if_pos hw]at he
  refine Ok.oe (Qr8 h hn hb hq) (Ok.ite (fun h1=>Ok.s ?_) (fun h1=>?_))
  ·rw[if_pos h1]at he;exact he
  ·rw[if_neg h1]at he
   have hd:=Uo hw
   have hst:stepV c b q=(stepQ c b q,0):=by
    revert h1
    unfold stepV
    split
    ·simp
    ·split
     ·simp
     ·split
      ·simp
      ·intro _;rfl
   have hl:=QbD (c:=c) (b:=b) hd.1
   rw[hst]at he ⊢
   refine hK (Ug b (stepQ c b q)) _ hl ⟨stepQ c b q,k,rfl,?_,by omega,he,rfl⟩
   have:=hq.stepV (c:=c) hb
   rw[hst]at this;exact this
 ·refine Ok.cnd (fun h1=>Ok.ite (fun h2=>Ok.s ?_) (fun h2=>hJ _ ⟨rfl,by rw[hwv,h1];simp;omega⟩)) (fun h1=>Ok.s ?_)
  ·rw[if_neg (by rw[hwv,h1];simp;omega)]at he;exact he
  ·rw[if_neg (by rw[hwv,h1];simp)]at he;exact he
end
end Go.Proofs.YtgokjdfkpnkekaaGreat
/-
  Pages on their way: what the program's answers compute.
-/
namespace Go.Proofs.YtgokjdfkpnkekaaGreat
open Go AM
section
variable {n:Nat} {c:D.Config} {b:D.Book} {p q:D.Page} {now:Int} {a:D.Answer}
theorem QuK:Ys 1000 p=some (dueV p):=by
 unfold Ys
 simp only[Wc]
 exact Ql7
theorem Qsk{t:Int}:Z8 1000 p t=some (Xm p t):=by
 unfold Z8 Xm
 simp only[Wc]
 rw[QuK,ZI]
 obtain⟨a,d⟩:=dueV p
 cases d<;>by_cases h:a≤t<;>simp[cd,AM.cnd,h]
theorem Qpl(h:Qy p):ZZ 1000 p=some (Xs p):=by
 have h1:=h.st
 refine Ok.eq ?_
 unfold ZZ Xs
 refine Ok.ite (fun h0=>Ok.sameC (Ok.sameC (Ok.sameC (Ok.s ?_)))) (fun h0=>?_)
 ·rw[if_pos (List.eq_nil_iff_length_eq_zero.2 (by omega))]
 ·have hne:p.Starts≠[]:=fun e=>h0 (by rw[e];rfl)
  have hpos:=List.length_pos_iff.2 hne
  rw[show IntKind.wrap .i64 (((p.Starts.length:Nat):Int) - 1)=((p.Starts.length - 1:Nat):Int)by rw[Qc (by omega)];omega]
  have hp:=(h.pe _ (Qk (l:=p.Starts) (i:=p.Starts.length - 1) (by omega))).1
  refine Ok.natn (Ok.lt (by omega) (Ok.get (by omega) (Ok.oe (QhW (by omega)) (Ok.sameC (Ok.sameC (Ok.sameC (Ok.s ?_)))))))
  rw[if_neg hne]
theorem QjF(h:Qy p):(Xs p).length≤40:=by
 unfold Xs
 split
 ·simp
 ·rename_i hne
  have hpos:=List.length_pos_iff.2 hne
  exact(h.pe _ (Qk (by omega))).1
theorem QpQ:ZL 1000 p a=some (Xx p a):=by
 refine Ok.eq ?_
 unfold ZL
 refine Ok.join (fun y=>y.1.1=decide ((a.Kind=3∧p.Snoozes=4)∨(a.Kind=4∧(p.Hands=4∨p.Starts.length=200)))∧y.2=(pgA p,a,p.Starts,p.Declined,p.Seen,())) (fun y hy=>?_) (fun J hJ=>?_)
 ·obtain⟨⟨full,⟨⟩⟩,r⟩:=y
  obtain⟨h1,h2⟩:=hy
  dsimp only at h1 h2
  subst h2
  dsimp only[pgA]
  refine Ok.j (Ok.ite (fun g1=>Ok.sameC (Ok.sameC (Ok.sameC (Ok.s ?_)))) (fun g1=>?_))
  ·unfold Xx;rw[if_pos (.inl g1)]
  refine Ok.oe (Qsk (p:=p)) (Ok.cnd (fun g2=>Ok.sameC (Ok.sameC (Ok.sameC (Ok.s ?_)))) (fun g2=>?_))
  ·unfold Xx;rw[if_pos (.inr g2)]
  unfold Xx
  rw[if_neg (by rw[g2];simp;omega)]
  refine Ok.join (fun y=>y.1.1=full∧y.1.2.1=decide (p.State=4∨(p.State=3∧a.Kind≠5)∨(p.State=1∧a.Kind=2))∧y.2=(pgA p,p.Starts,p.Declined,p.Seen,())) (fun y hy=>?_) (fun J hJ=>?_)
  ·obtain⟨⟨f2,s2,⟨⟩⟩,r⟩:=y
   obtain⟨k1,k2,k3⟩:=hy
   dsimp only at k1 k2 k3
   subst k3;subst k1
   dsimp only[pgA]
   refine Ok.cnd (fun g3=>Ok.sameC (Ok.sameC (Ok.sameC (Ok.s ?_)))) (fun g3=>?_)
   ·rw[k2]at g3;rw[if_pos (of_decide_eq_true g3)]
   ·rw[k2]at g3;rw[if_neg (of_decide_eq_false g3)]
    refine Ok.ite (fun g4=>Ok.sameC (Ok.sameC (Ok.sameC (Ok.s ?_)))) (fun g4=>?_)
    ·rw[if_pos (.inl (by omega))]
    ·refine Ok.cnd (fun g5=>Ok.sameC (Ok.sameC (Ok.sameC (Ok.s ?_)))) (fun g5=>Ok.sameC (Ok.sameC (Ok.sameC (Ok.s ?_))))
     ·rw[h1]at g5;have:=of_decide_eq_true g5;rw[if_pos (.inr this)]
     ·rw[h1]at g5;have:=of_decide_eq_false g5;rw[if_neg (by omega)]
  ·refine Ok.ite (fun g3=>hJ _ ⟨rfl,?_,rfl⟩) (fun g3=>Ok.ite (fun g4=>Ok.ite (fun g5=>hJ _ ⟨rfl,?_,rfl⟩) (fun g5=>Ok.ite (fun g6=>Ok.ite (fun g7=>hJ _ ⟨rfl,?_,rfl⟩) (fun g7=>hJ _ ⟨rfl,?_,rfl⟩)) (fun g6=>hJ _ ⟨rfl,?_,rfl⟩))) (fun g4=>Ok.ite (fun g6=>Ok.ite (fun g7=>hJ _ ⟨rfl,?_,rfl⟩) (fun g7=>hJ _ ⟨rfl,?_,rfl⟩)) (fun g6=>hJ _ ⟨rfl,?_,rfl⟩)))
   all_goals (dsimp only;first|exact(decide_eq_true (by omega)).symm|exact(decide_eq_false (by omega)).symm|exact decide_eq_decide.2 (by omega))
 ·refine Ok.ite (fun g1=>Ok.ite (fun g2=>hJ _ ⟨?_,rfl⟩) (fun g2=>Ok.ite (fun g3=>Ok.ite (fun g4=>hJ _ ⟨?_,rfl⟩) (fun g4=>Ok.ite (fun g5=>hJ _ ⟨?_,rfl⟩) (fun g5=>hJ _ ⟨?_,rfl⟩))) (fun g3=>hJ _ ⟨?_,rfl⟩)))
   (fun g1=>Ok.ite (fun g3=>Ok.ite (fun g4=>hJ _ ⟨?_,rfl⟩) (fun g4=>Ok.ite (fun g5=>hJ _ ⟨?_,rfl⟩) (fun g5=>hJ _ ⟨?_,rfl⟩))) (fun g3=>hJ _ ⟨?_,rfl⟩))
  all_goals (dsimp only;first|exact(decide_eq_true (by omega)).symm|exact(decide_eq_false (by omega)).symm)
theorem Qsb{l:List Int}{j:Nat}(h1:1≤j)(hj:j<l.length):(Qg8 l j).Perm l:=by
 unfold Qg8
 have e1:nth l j=l[j]:=by simp[nth,List.getD_eq_getElem?_getD,List.getElem?_eq_getElem hj]
 have e2:nth l (j - 1)=l[j - 1]:=by simp[nth,List.getD_eq_getElem?_getD,List.getElem?_eq_getElem (show j - 1<l.length by omega)]
 rw[e1,e2]
 exact List.set_set_perm hj (by omega)
theorem Qrb{l0:List Int}(hs:l0.length≤900):
  Ok (Q8 1000 l0 0 ((l0.length:Nat):Int)) fun r=>r.Perm l0∧YV r l0.length:=by
 obtain⟨m,hm⟩:∃m,l0.length=m:=⟨_,rfl⟩
 rw[hm]
 rw[hm]at hs
 unfold Q8
 refine Ok.loop (fun q x=>∃i a,x=((0,(m:Int),((i:Nat):Int),()),a,())∧1≤i∧a.Perm l0∧YV a (min i m)∧q=m+1 - i) (m:=m) (by omega)
  ⟨1,l0,by rw[Qc (by omega)];rfl,by omega,.refl _,fun a b h1 h2=>by omega,by omega⟩ ?_
 rintro q x ⟨i,a,rfl,h1,h2,h3,rfl⟩ K hK
 have hal:=h2.length_eq
 dsimp only
 refine Ok.ite (fun hi=>?_) (fun hi=>Ok.s ⟨h2,by rw[show min i m=m by omega]at h3;exact h3⟩)
 have hlt:i<m:=by omega
 rw[show min i m=i by omega]at h3
 refine Ok.j ?_
 refine Ok.loop (fun q x=>∃j a',x=((0,(m:Int),((i:Nat):Int),((j:Nat):Int),()),a',())∧j≤i∧a'.Perm l0∧Qjw a' (i+1) j∧q=j) (m:=i) (by omega)
  ⟨i,a,rfl,by omega,h2,Qgz h3,rfl⟩ ?_
 rintro q x ⟨j,a',rfl,g1,g2,g3,hqj⟩ K2 hK2
 have hal':=g2.length_eq
 dsimp only
 have fin:(j=0∨nth a' (j - 1)≤nth a' j)→Ok (K ((0,(m:Int),IntKind.wrap .i64 ((i:Int)+1),()),a',())) fun r=>r.Perm l0∧YV r m:=fun he=>by
  rw[Qa (by omega)]
  exact hK (m+1 - (i+1)) _ (by omega) ⟨i+1,a',rfl,by omega,g2,by rw[show min (i+1) m=i+1 by omega];exact QjE g3 he,rfl⟩
 refine Ok.j (Ok.ite (fun hj=>?_) (fun hj=>fin (.inl (by omega))))
 have hw:IntKind.wrap .i64 ((j:Int) - 1)=((j - 1:Nat):Int):=by rw[Qc (by omega)];omega
 rw[hw]
 refine Ok.natn (Ok.lt (by omega) (Ok.get (by omega) (Ok.natn (Ok.lt (by omega) (Ok.get (by omega) (Ok.oe Qrk (Ok.ite (fun hless=>?_) (fun hless=>fin (.inr (by omega))))))))))
 dsimp only
 rw[hw]
 refine Ok.natn (Ok.lt (by omega) (Ok.get (by omega) (Ok.natn (Ok.lt (by omega) (Ok.get (by omega) (Ok.natn (Ok.lt (by omega) (Ok.get (by omega) (Ok.natn (Ok.lt (by simp;omega) (Ok.get (by simp;omega) ?_)))))))))))
 have hsw:(a'.set j (nth a' (j - 1))).set (j - 1) (nth a' j)=Qg8 a' j:=rfl
 rw[hsw]
 exact hK2 (j - 1) _ (by omega) ⟨j - 1,Qg8 a' j,rfl,by omega,(Qsb (by omega) (by omega)).trans g2,QhO g3 (by omega) (by omega) (by omega) hless,rfl⟩
theorem QtA{l0:List Int}(hs:l0.length≤12):
  Ok (Wl 1000 l0) fun r=>r.Perm l0∧YV r l0.length:=by
 unfold Wl
 obtain⟨bv,hb⟩:=Option.isSome_iff_exists.1 (QqF l0.length (by omega))
 refine Ok.oe hb (Ok.opt (P:=fun r=>r.Perm l0∧YV r l0.length) ?_ fun r hr=>Ok.ck hr.1.length_eq (Ok.s hr))
 unfold YJ
 refine Ok.loop (fun q x=>x=((0,((l0.length:Nat):Int),bv,true,true,()),l0,())) (m:=0) (by omega) rfl ?_
 rintro q x rfl K hK
 dsimp only
 refine Ok.p (by rw[Qc (by omega)];omega) (Ok.opt (Qrb (by omega)) fun r hr=>Ok.ck hr.1.length_eq (Ok.s hr))
theorem Qpf{l:List Int}(h:YV l l.length)(hd:l.Nodup):Asc l:=by
 refine QtP h fun k h1 h2 e=>?_
 have e1:nth l (k - 1)=l[k - 1]:=by simp[nth,List.getD_eq_getElem?_getD,List.getElem?_eq_getElem (show k - 1<l.length by omega)]
 have e2:nth l k=l[k]:=by simp[nth,List.getD_eq_getElem?_getD,List.getElem?_eq_getElem h2]
 rw[e1,e2]at e
 have:=(List.nodup_iff_pairwise_ne.1 hd)
 exact(List.pairwise_iff_getElem.1 this (k - 1) k (by omega) h2 (by omega)) e
theorem Qqo{l:List Int}(h:Asc l):l.Nodup:=List.Pairwise.imp (fun h=>by omega) h
theorem Qr5{l r:List Int}{x:Int}(hl:Asc l)(hx:l.contains x=false)(hp:r.Perm (l++[x]))(hs:YV r r.length):r=Qfm l x:=by
 have hnd:(l++[x]).Nodup:=List.nodup_append.2 ⟨Qqo hl,by simp,fun y hy z hz e=>by
  rw[List.mem_singleton.1 hz]at e
  subst e
  rw[List.contains_iff_mem.2 hy]at hx;simp at hx⟩
 refine QcF (Qpf hs (hp.nodup_iff.2 hnd)) (QaO hl).1 fun z=>?_
 rw[hp.mem_iff,(QaO hl).2];simp
theorem Qov{x:Int}(h:p.Declined.length≤40):Zy 1000 x p=some (!p.Declined.contains x,p):=by
 unfold Zy
 rw[QaE (by omega),ZI]
theorem Ql4{l:List Int}(hl:l.length≤900)(h:p.Declined.length≤40):Qr 1000 l p=some (l.any fun z=>!p.Declined.contains z,p):=by
 refine Ok.eq ?_
 unfold Qr QH
 refine Ok.opt (P:=fun(r:Int×D.Page)=>decide (0≤r.1)=(l.any fun z=>!p.Declined.contains z)∧r.2=p) ?_ fun⟨r,p'⟩ ⟨e1,e2⟩=>Ok.s (by dsimp only at e1 e2;rw[e1,e2])
 refine Ok.scan2 l.length (fun i=>(l,((l.length:Nat):Int),(i:Int),())) (fun i=>!p.Declined.contains (nth l i)) rfl (by omega) (fun i hi hq _ k=>?_) (fun i hi hq k hk=>?_) (fun hq k=>?_)
 ·refine Ok.p (by omega) (Ok.atn hi (Ok.oe (Qov (p:=p) h) (Ok.bt hq (Ok.s ⟨?_,rfl⟩))))
  rw[QhE hi hq];simp
 ·refine Ok.p (by omega) (Ok.atn hi (Ok.oe (Qov (p:=p) h) (Ok.bf hq ?_)))
  rw[Qa (by omega)];exact hk
 ·refine Ok.n (by omega) (Ok.s ⟨?_,rfl⟩)
  rw[QlM hq];rfl
theorem QqR(hs:setV p.Declined=true)(hd:p.Declined.length≤11):(VC p a).length≤40:=by
 unfold VC
 split
 ·have hde:=VV.1 hs
  unfold Qfm
  have h1:=List.length_filter_le (fun z=>decide (z<a.Person)) p.Declined
  have h2:=List.length_filter_le (fun z=>decide (a.Person<z)) p.Declined
  simp only[List.length_append,List.length_cons];omega
 ·omega
theorem QnI(h:Qy p)(hd:p.Declined.length≤11)(hs:setV p.Declined=true):
  ZE 1000 p a=some { p with Declined:=VC p a,Due:=if VK p a=true∧p.State=0 then a.At else p.Due }:=by
 have hcl:=QjF h
 refine Ok.eq ?_
 unfold ZE
 refine Ok.oe (Qpl h) ?_
 refine Ok.join (fun y=>y=((Xs p,()),pgA p,a,page0,p.Starts,VC p a,p.Seen,())) (fun y hy=>?_) (fun J hJ=>?_)
 ·subst hy
  dsimp only[pgA]
  have hdl:=QqR (a:=a) hs hd
  refine Ok.j (Ok.ite (fun g1=>Ok.ite (fun g2=>?_) (fun g2=>Ok.s ?_)) (fun g1=>Ok.s ?_))
  ·refine Ok.oe (Ql4 (p:={ p with Declined:=VC p a }) (by omega) hdl) (Ok.cnd (fun g3=>Ok.s ?_) (fun g3=>Ok.s ?_))
   ·have:VK p a=false:=by
     unfold VK
     rw[Bool.and_eq_false_iff]
     refine .inr ?_
     obtain⟨z,hz1,hz2⟩:=List.any_eq_true.1 g3
     refine List.all_eq_false.2 ⟨z,hz1,?_⟩
     simpa using hz2
    rw[this,if_neg (by simp)]
   ·have:VK p a=true:=by
     unfold VK
     rw[bae]
     refine⟨decide_eq_true fun e=>by rw[e]at g2;simp at g2,List.all_eq_true.2 fun z hz=>?_⟩
     have:=List.any_eq_false.1 g3 z hz
     simpa using this
    rw[this,if_pos ⟨rfl,g1⟩]
  ·have:VK p a=false:=by
    unfold VK
    rw[decide_eq_false (fun hne=>hne (List.eq_nil_iff_length_eq_zero.2 (by omega)))];rfl
   rw[this,if_neg (by simp)]
  ·rw[if_neg (fun hx=>g1 hx.2)]
 ·refine Ok.oe (QbM (by omega)) (Ok.cnd (fun g1=>?_) (fun g1=>?_))
  ·refine Ok.oe (QaE (by omega)) (Ok.cnd (fun g2=>?_) (fun g2=>?_))
   ·refine hJ _ ?_
    have:VC p a=p.Declined:=by
     unfold VC
     rw[if_pos g1];exact QrD (VV.1 hs).1 (List.contains_iff_mem.1 g2)
    rw[this];rfl
   ·refine Ok.lec (by simp;omega) (Ok.opt (QtA (by simp;omega)) fun r ⟨hr1,hr2⟩=>Ok.ck hr1.length_eq (hJ _ ?_))
    have:r=VC p a:=by
     unfold VC
     rw[if_pos g1]
     exact Qr5 (VV.1 hs).1 g2 hr1 (by rw[hr1.length_eq];exact hr2)
    rw[this];rfl
  ·refine hJ _ ?_
   have:VC p a=p.Declined:=by unfold VC;rw[if_neg (by rw[g1];simp)]
   rw[this];rfl
theorem Qqi(hb:QJ b)(h:Qy p)(hd:p.Declined.length≤11):Vf 1000 c b p a=some (answerV b p a):=by
 have hse:=h.se;have hst:=h.st
 refine Ok.eq ?_
 unfold Vf
 refine Ok.join (fun y=>y=((),p,a,page0,())∧QR b p=true∧YA a=true) (fun y hy=>?_) (fun J hJ=>?_)
 ·obtain⟨rfl,hc,hv⟩:=hy
  dsimp only
  unfold answerV
  rw[if_neg (by rw[hc,hv];simp)]
  have hf:=Yb hc
  have hv':=hv
  unfold YA at hv'
  simp only[bae,QL]at hv'
  obtain⟨⟨⟨⟨⟨v1,v2⟩,v3⟩,v4⟩,v5⟩,v6⟩:=hv'
  have hsn:=hf.snoozes;have hha:=hf.hands
  refine Ok.ite (fun g1=>Ok.s ?_) (fun g1=>?_)
  ·rw[if_pos g1];rfl
  rw[if_neg g1]
  refine Ok.oe (QhZ h) (Ok.oe (QaE (by omega)) (Ok.cnd (fun g2=>Ok.s ?_) (fun g2=>?_)))
  ·rw[if_pos g2]
  rw[if_neg (by rw[g2];simp)]
  refine Ok.oe QpQ (Ok.ite (fun g3=>Ok.s ?_) (fun g3=>?_))
  ·rw[if_pos g3];rfl
  rw[if_neg g3]
  refine Ok.lec (by simp;omega) ?_
  refine Ok.join (fun y=>y=((),pgA p,a,page0,p.Starts,p.Declined,p.Seen++[a.ID],())∧¬(a.Kind=1∧p.State=1)) (fun y hy=>?_) (fun J hJ=>?_)
  ·obtain⟨rfl,hn⟩:=hy
   dsimp only[pgA]
   unfold Y5
   refine Ok.j (Ok.ite (fun k1=>Ok.s ?_) (fun k1=>Ok.ite (fun k2=>?_) (fun k2=>Ok.ite (fun k3=>Ok.s ?_) (fun k3=>Ok.ite (fun k4=>Ok.lec (by simp;omega) (Ok.s ?_)) (fun k4=>Ok.ite (fun k5=>Ok.s ?_) (fun k5=>absurd v5 (by omega)))))))
   ·rw[if_pos k1,if_neg (by omega)]
   ·rw[if_neg k1,if_pos k2]
    have hp':Qy { p with Last:=a.At,Seen:=p.Seen++[a.ID] }:=⟨h.st,h.pe,h.de,by have:=hf.seen;dsimp only;simp;omega,h.nx⟩
    exact Ok.oe (QnI (p:={ p with Last:=a.At,Seen:=p.Seen++[a.ID] }) hp' hd hf.declined) (Ok.s rfl)
   ·rw[if_neg k1,if_neg k2,if_pos k3]
    rw[if_pos k3]at v6
    have v6:=QL.1 v6
    rw[Qc (by omega),Qc (by omega)]
   ·rw[if_neg k1,if_neg k2,if_neg k3,if_pos k4,Qc (by omega),Qc (by omega)]
   ·rw[if_neg k1,if_neg k2,if_neg k3,if_neg k4]
  ·refine Ok.ite (fun k1=>Ok.ite (fun k2=>Ok.s ?_) (fun k2=>hJ _ ⟨rfl,by omega⟩)) (fun k1=>hJ _ ⟨rfl,by omega⟩)
   unfold Y5
   rw[if_pos k1,if_pos k2]
 ·refine Ok.oe (Qha hb h) (Ok.cnd (fun g1=>Ok.oe Qpb (Ok.cnd (fun g2=>hJ _ ⟨rfl,g1,g2⟩) (fun g2=>Ok.s ?_))) (fun g1=>Ok.s ?_))
  ·unfold answerV;rw[if_pos (.inr g2)];rfl
  ·unfold answerV;rw[if_pos (.inl g1)];rfl
end
end Go.Proofs.YtgokjdfkpnkekaaGreat
/-
  Pages on their way: what the reference's answers compute; pages compared.
-/
namespace Go.Proofs.YtgokjdfkpnkekaaGreat
open Go AM
section
variable {n:Nat} {c:D.Config} {b:D.Book} {p q:D.Page} {now:Int} {a:D.Answer}
theorem Qka:Qdb 1000 a=some (YA a):=by
 refine Ok.eq ?_
 unfold Qdb
 refine Ok.j (Ok.oe rin (Ok.cnd (fun h1=>Ok.oe rin (Ok.cnd (fun h2=>Ok.oe rin (Ok.cnd (fun h3=>Ok.oe rin (Ok.cnd (fun h4=>?_) (fun h4=>Ok.s ?_))) (fun h3=>Ok.s ?_))) (fun h2=>Ok.s ?_))) (fun h1=>Ok.s ?_)))
 ·dsimp only
  refine Ok.join (fun y=>y.1.1=a.Kind∧y.1.2.1=decide (a.Kind=1∨a.Kind=2∨a.Kind=5)∧y.2=(a,())) (fun y hy=>?_) (fun J hJ=>?_)
  ·obtain⟨⟨k,z,⟨⟩⟩,r⟩:=y
   obtain⟨e1,e2,e3⟩:=hy
   dsimp only at e1 e2 e3
   subst e3;subst e1
   dsimp only
   refine Ok.cnd (fun g=>Ok.s ?_) (fun g=>Ok.ite (fun k3=>Ok.oe rin (Ok.s ?_)) (fun k3=>Ok.ite (fun k4=>Ok.oe rin (Ok.s ?_)) (fun k4=>Ok.s ?_)))
   ·rw[e2]at g
    have g:=of_decide_eq_true g
    have hk:inV a.Kind 1 5=true:=QL.2 (by omega)
    unfold YA
    rw[if_neg (by omega),if_neg (by omega),h1,h2,h3,h4,hk];rfl
   ·have hk:inV a.Kind 1 5=true:=QL.2 (by omega)
    unfold YA
    rw[if_pos k3,h1,h2,h3,h4,hk];rfl
   ·have hk:inV a.Kind 1 5=true:=QL.2 (by omega)
    unfold YA
    rw[if_neg k3,if_pos k4,h1,h2,h3,h4,hk];rfl
   ·rw[e2]at g
    have g:=of_decide_eq_false g
    have hk:inV a.Kind 1 5=false:=Bool.eq_false_iff.2 fun h=>by have:=QL.1 h;omega
    unfold YA
    rw[hk];simp
  ·refine Ok.ite (fun g1=>hJ _ ⟨rfl,?_,rfl⟩) (fun g1=>Ok.ite (fun g2=>hJ _ ⟨rfl,?_,rfl⟩) (fun g2=>hJ _ ⟨rfl,?_,rfl⟩))
   all_goals exact decide_eq_decide.2 (by omega)
 ·unfold YA;rw[h4];simp
 ·unfold YA;rw[h3];simp
 ·unfold YA;rw[h2];simp
 ·unfold YA;rw[h1];simp
theorem Qm1(hf:CkF b p):Qca 1000 p a=some (Xx p a):=by
 have hs1:=hf.seen;have hs2:=hf.snoozes;have hs3:=hf.hands;have hs4:=hf.starts
 refine Ok.eq ?_
 unfold Qca
 refine Ok.oe Qe0 ?_
 rcases hdv:dueV p with⟨da,dd⟩
 dsimp only
 refine Ok.j (Ok.ite (fun g1=>Ok.s ?_) (fun g1=>Ok.cnd (fun g2=>Ok.ite (fun g3=>Ok.s ?_) (fun g3=>?_)) (fun g2=>?_)))
 ·unfold Xx;rw[if_pos (.inl g1)]
 ·unfold Xx;rw[if_pos (.inr (by unfold Xm;rw[hdv,g2];simp;omega))]
 all_goals
  have hw:Xm p a.At=false:=by
   unfold Xm
   rw[hdv,g2]
   first|rfl|(simp;omega)
  unfold Xx
  rw[if_neg (by rw[hw];simp;omega)]
  refine Ok.join (fun y=>y.1.1=decide (p.State=4∨(p.State=3∧a.Kind≠5)∨(p.State=1∧a.Kind=2))∧y.2=(p,a,())) (fun y hy=>?_) (fun J hJ=>?_)
  ·obtain⟨⟨s2,⟨⟩⟩,r⟩:=y
   obtain⟨k2,k3⟩:=hy
   dsimp only at k2 k3
   subst k3
   dsimp only
   refine Ok.cnd (fun g3=>Ok.s ?_) (fun g3=>?_)
   ·rw[k2]at g3;rw[if_pos (of_decide_eq_true g3)]
   ·rw[k2]at g3;rw[if_neg (of_decide_eq_false g3)]
    refine Ok.join (fun y=>y.1.1=decide (p.Seen.length=64∨(a.Kind=3∧p.Snoozes=4)∨(a.Kind=4∧(p.Hands=4∨p.Starts.length=200)))) (fun y hy=>?_) (fun J hJ=>?_)
    ·obtain⟨⟨s3,⟨⟩⟩,⟨⟩⟩:=y
     dsimp only at hy ⊢
     refine Ok.cnd (fun g4=>Ok.s ?_) (fun g4=>Ok.s ?_)
     ·rw[hy]at g4;rw[if_pos (of_decide_eq_true g4)]
     ·rw[hy]at g4;rw[if_neg (of_decide_eq_false g4)]
    ·refine Ok.ite (fun g4=>hJ _ ?_) (fun g4=>Ok.ite (fun g5=>Ok.ite (fun g6=>hJ _ ?_) (fun g6=>Ok.ite (fun g7=>Ok.ite (fun g8=>hJ _ ?_) (fun g8=>Ok.ite (fun g9=>hJ _ ?_) (fun g9=>hJ _ ?_))) (fun g7=>hJ _ ?_))) (fun g5=>Ok.ite (fun g7=>Ok.ite (fun g8=>hJ _ ?_) (fun g8=>Ok.ite (fun g9=>hJ _ ?_) (fun g9=>hJ _ ?_))) (fun g7=>hJ _ ?_)))
     all_goals (dsimp only;first|exact(decide_eq_true (by omega)).symm|exact(decide_eq_false (by omega)).symm|exact decide_eq_decide.2 (by omega))
  ·refine Ok.ite (fun g3=>hJ _ ⟨?_,rfl⟩) (fun g3=>Ok.ite (fun g4=>Ok.ite (fun g5=>hJ _ ⟨?_,rfl⟩) (fun g5=>Ok.ite (fun g6=>Ok.ite (fun g7=>hJ _ ⟨?_,rfl⟩) (fun g7=>hJ _ ⟨?_,rfl⟩)) (fun g6=>hJ _ ⟨?_,rfl⟩))) (fun g4=>Ok.ite (fun g6=>Ok.ite (fun g7=>hJ _ ⟨?_,rfl⟩) (fun g7=>hJ _ ⟨?_,rfl⟩)) (fun g6=>hJ _ ⟨?_,rfl⟩)))
   all_goals (dsimp only;first|exact(decide_eq_true (by omega)).symm|exact(decide_eq_false (by omega)).symm|exact decide_eq_decide.2 (by omega))
theorem Qop{l:List Int}{x:Int}(hl:l.length≤400)(h:Asc l):WL 1000 l x=some (Qfm l x):=by
 rw[QtN hl]
 congr 1
 exact QcF (QdV h).1 (QaO h).1 fun z=>by rw[(QdV h).2,(QaO h).2]
theorem Qnu(hb:QJ b)(h:Qy p):QdO 1000 c b p a=some (answerV b p a):=by
 have hse:=h.se;have hst:=h.st;have hde:=h.de
 refine Ok.eq ?_
 unfold QdO
 refine Ok.join (fun y=>y=((),p,a,page0,())∧QR b p=true∧YA a=true) (fun y hy=>?_) (fun J hJ=>?_)
 ·obtain⟨rfl,hc,hv⟩:=hy
  dsimp only
  unfold answerV
  rw[if_neg (by rw[hc,hv];simp)]
  have hf:=Yb hc
  have hv':=hv
  unfold YA at hv'
  simp only[bae,QL]at hv'
  obtain⟨⟨⟨⟨⟨v1,v2⟩,v3⟩,v4⟩,v5⟩,v6⟩:=hv'
  have hsn:=hf.snoozes;have hha:=hf.hands
  refine Ok.ite (fun g1=>Ok.s ?_) (fun g1=>?_)
  ·rw[if_pos g1];rfl
  rw[if_neg g1]
  refine Ok.oe (Qbg h) (Ok.oe (QbQ (by omega)) (Ok.cnd (fun g2=>Ok.s ?_) (fun g2=>?_)))
  ·rw[if_pos g2]
  rw[if_neg (by rw[g2];simp)]
  refine Ok.oe (Qm1 hf) (Ok.ite (fun g3=>Ok.s ?_) (fun g3=>?_))
  ·rw[if_pos g3];rfl
  rw[if_neg g3]
  refine Ok.lec (by simp;omega) (Ok.j ?_)
  unfold Y5
  refine Ok.ite (fun k1=>Ok.ite (fun k2=>Ok.s ?_) (fun k2=>Ok.s ?_)) (fun k1=>Ok.ite (fun k2=>?_) (fun k2=>Ok.ite (fun k3=>Ok.s ?_) (fun k3=>Ok.ite (fun k4=>Ok.lec (by simp;omega) (Ok.s ?_)) (fun k4=>Ok.ite (fun k5=>Ok.s ?_) (fun k5=>absurd v5 (by omega))))))
  ·rw[if_pos k1,if_pos k2]
  ·rw[if_pos k1,if_neg k2]
  ·rw[if_neg k1,if_pos k2]
   have hcl:=QjF h
   refine Ok.oe (QnE h) ?_
   refine Ok.join (fun y=>y=((Xs p,()),p,a,page0,(p.ID,p.Policy,p.Start,p.Next,p.Due,p.State,p.By,p.Until,a.At,p.Snoozes,p.Hands,VC p a,()),p.Starts,p.Seen++[a.ID],())) (fun y hy=>?_) (fun J hJ=>?_)
   ·subst hy
    dsimp only
    have hdl:(VC p a).length≤900:=by
     unfold VC Qfm
     split
     ·have h1:=List.length_filter_le (fun z=>decide (z<a.Person)) p.Declined
      have h2:=List.length_filter_le (fun z=>decide (a.Person<z)) p.Declined
      simp only[List.length_append,List.length_cons];omega
     ·omega
    obtain⟨aD,haD⟩:∃aD:Nat→Bool,∀i,aD i=(decide ((0:Int)<(((Xs p).length:Nat):Int)) && ((Xs p).take i).all fun z=>(VC p a).contains z):=⟨fun i=>_,fun i=>rfl⟩
    have hall:∀i,i<(Xs p).length→aD (i+1)=(aD i && (VC p a).contains (nth (Xs p) i)):=fun i hi=>by
     rw[haD,haD,←QG hi,List.all_append,Bool.and_assoc]
     simp
    have hlast:VK p a=aD (Xs p).length:=by
     rw[haD,List.take_length]
     unfold VK
     congr 1
     refine decide_eq_decide.2 ⟨fun hne=>by have:=List.length_pos_iff.2 hne;omega,fun hpos e=>by rw[e]at hpos;simp at hpos⟩
    refine Ok.run2 (Xs p).length (fun i=>(Xs p,aD i,(i:Int),())) (by rw[haD];simp) (by omega) (fun i hi k hk=>?_) (fun k=>?_)
    ·dsimp only at hk ⊢
     rw[hall i hi]at hk
     refine Ok.p (by omega) (Ok.j (Ok.cnd (fun g=>Ok.atn hi (Ok.oe (QbQ hdl) (Ok.cnd (fun g'=>?_) (fun g'=>?_)))) (fun g=>?_)))
     ·dsimp only
      rw[Qa (by omega)]
      rw[g,g']at hk;exact hk
     ·dsimp only
      rw[Qa (by omega)]
      rw[g,g']at hk;exact hk
     ·dsimp only
      rw[Qa (by omega)]
      rw[g]at hk;exact hk
    ·dsimp only
     rw[hlast]
     refine Ok.n (by omega) (Ok.cnd (fun g=>Ok.ite (fun g0=>Ok.s ?_) (fun g0=>Ok.s ?_)) (fun g=>Ok.s ?_))
     ·rw[if_pos ⟨g,g0⟩]
     ·rw[if_neg (fun hx=>g0 hx.2)]
     ·rw[if_neg (by rw[g];simp)]
   ·refine Ok.oe (QbQ (by omega)) (Ok.cnd (fun g4=>?_) (fun g4=>?_))
    ·have hd:=(VV.1 hf.declined).1
     refine Ok.oe (Qop (by omega) hd) (hJ _ ?_)
     have:VC p a=Qfm p.Declined a.Person:=by unfold VC;rw[if_pos g4]
     rw[this]
    ·refine hJ _ ?_
     have:VC p a=p.Declined:=by unfold VC;rw[if_neg (by rw[g4];simp)]
     rw[this]
  ·rw[if_neg k1,if_neg k2,if_pos k3]
   rw[if_pos k3]at v6
   have v6:=QL.1 v6
   rw[Qc (by omega),Qc (by omega)]
  ·rw[if_neg k1,if_neg k2,if_neg k3,if_pos k4,Qc (by omega),Qc (by omega)]
  ·rw[if_neg k1,if_neg k2,if_neg k3,if_neg k4]
 ·refine Ok.oe (Qdu hb h) (Ok.cnd (fun g1=>Ok.oe Qka (Ok.cnd (fun g2=>hJ _ ⟨rfl,g1,g2⟩) (fun g2=>Ok.s ?_))) (fun g1=>Ok.s ?_))
  ·unfold answerV;rw[if_pos (.inr g2)];rfl
  ·unfold answerV;rw[if_pos (.inl g1)];rfl
theorem QpV{l:List D.Start}(hl:l.length≤900)(h:∀s∈l,s.People.length≤900):V9 1000 l l=some true:=by
 refine Ok.eq ?_
 unfold V9
 refine Ok.n (by simp) (Ok.run l.length (fun i=>((l,l,(i:Int),()),())) rfl (by omega) (fun i hi k hk=>?_) (fun k=>Ok.n (by omega) (Ok.s rfl)))
 dsimp only
 have hs:=h _ (Qk hi)
 refine Ok.p (by omega) (Ok.j (Ok.atn hi (Ok.atn hi (Ok.n (by simp) (Ok.atn hi (Ok.atn hi (Ok.n (by simp) (Ok.atn hi (Ok.atn hi (Ok.oe (Qlr hs) ?_))))))))))
 rw[decide_eq_true rfl]
 refine Ok.t ?_
 dsimp only
 rw[Qa (by omega)]
 exact hk
theorem QpU(h:Qy p):Qfu 1000 p p=some true:=by
 have h1:=h.st;have h2:=h.de;have h3:=h.se
 unfold Qfu
 rw[QpV (by omega) (fun s hs=>by have:=(h.pe s hs).1;omega),Qlr (by omega),Qlr (by omega)]
 simp only[decide_true,cd,AM.cnd,AM.optc]
end
end Go.Proofs.YtgokjdfkpnkekaaGreat
/-
  What else is kept of made pages: who declined, which answers were seen. Plain Lean.
-/
namespace Go.Proofs.YtgokjdfkpnkekaaGreat
open Go AM
section
variable {n:Nat} {c:D.Config} {b:D.Book} {p q:D.Page} {now k M:Int} {a:D.Answer} {Q:Int→D.Start→Prop}
structure PgX (k:Int) (p:D.Page):Prop where
 decl:∀x∈p.Declined,x<4
 seen:∀x∈p.Seen,1≤x∧x≤k
theorem PgX.mono{k':Int}(h:PgX k p)(hk:k≤k'):PgX k' p:=⟨h.decl,fun x hx=>⟨(h.seen x hx).1,Int.le_trans (h.seen x hx).2 hk⟩⟩
theorem PgX.step(h:PgX k p):PgX k (stepQ c b p):=by
 unfold stepQ
 split
 ·exact⟨h.decl,h.seen⟩
 ·split
  ·exact⟨h.decl,h.seen⟩
  ·exact⟨by simp,h.seen⟩
theorem PgX.run(h:PgX k p)(hb:QJ b)(hQ:QgR Q M c b)(hi:QM Q M b p):PgX k (runV c b p now).1:=
 Qhu hb hQ (fun q _ _ hr=>hr.step) hi h
theorem QrC{l:List Int}{x z:Int}(h:z∈Qfm l x):z∈l∨z=x:=by
 unfold Qfm at h
 rcases List.mem_append.1 h with h|h
 ·exact .inl (List.mem_filter.1 h).1
 ·rcases List.mem_cons.1 h with h|h
  ·exact .inr h
  ·exact .inl (List.mem_filter.1 h).1
theorem PgX.answer(h:PgX k p)(ha:a.Person<4)(hi:1≤a.ID∧a.ID≤k):PgX k (Y5 p a):=by
 have hs:∀x∈p.Seen++[a.ID],1≤x∧x≤k:=WK h.seen hi
 have hd:∀x∈VC p a,x<4:=by
  unfold VC
  split
  ·intro x hx
   rcases QrC hx with hx|rfl
   ·exact h.decl x hx
   ·exact ha
  ·exact h.decl
 unfold Y5
 split
 ·split
  ·exact⟨h.decl,hs⟩
  ·exact⟨h.decl,hs⟩
 ·split
  ·exact⟨hd,hs⟩
  ·split
   ·exact⟨h.decl,hs⟩
   ·split
    ·exact⟨by simp,hs⟩
    ·exact⟨h.decl,hs⟩
theorem PgX.dlen(h:PgX k p)(hi:setV p.Declined=true):p.Declined.length≤4:=by
 have hs:=VV.1 hi
 exact Qor hs.1 fun z hz=>⟨(hs.2 z hz).1,h.decl z hz⟩
theorem PgX.new{id pol start:Int}:PgX k (newP id pol start):=⟨by simp[newP],by simp[newP]⟩
end
end Go.Proofs.YtgokjdfkpnkekaaGreat
/-
  How the statements begin: light inputs, dice.
-/
namespace Go.Proofs.YtgokjdfkpnkekaaGreat
open Go AM
theorem Qtc{t:List Int}:Qf7 1000 t=some (decide (((t.length:Nat):Int)≤500)):=rfl
theorem Qvm{t:List Int}:Qff 1000 t=some ⟨t,0⟩:=rfl
theorem dice0{t:List Int}:ZH t ⟨t,0⟩:=⟨rfl,Int.le_refl _,by dsimp only;omega⟩
theorem Qrl{t:List Int}(h:decide (((t.length:Nat):Int)≤500)=true):t.length≤500:=by have:=of_decide_eq_true h;omega
/-
  Pages and answers that are made by dice: what holds of them.
-/
attribute [local irreducible] dueV stepV runV QR answerV
section
variable {n:Nat} {c:D.Config} {b:D.Book} {p q:D.Page} {now k M:Int} {a:D.Answer} {Q:Int→D.Start→Prop} {L:List Int} {d:D.Dice}
structure Quf (a:D.Answer):Prop where
 pers : -1≤a.Person∧a.Person<4
 kind:1≤a.Kind∧a.Kind≤5
 arg3:a.Kind=3→1≤a.Arg∧a.Arg≤5000
 arg4:a.Kind=4→0≤a.Arg∧a.Arg<4
 arg0:a.Kind≠3→a.Kind≠4→a.Arg=0
theorem Quf.valid(h:Quf a)(h1:1≤a.ID∧a.ID≤999999)(h2:1≤a.Page∧a.Page≤999999)(h3:0≤a.At∧a.At≤8589934592):YA a=true:=by
 have hp:=h.pers;have hk:=h.kind
 unfold YA
 rw[QL.2 h1,QL.2 h2,QL.2 (show -1≤a.Person∧a.Person≤31 by omega),QL.2 h3,QL.2 hk]
 simp only[Bool.true_and]
 split
 ·rename_i k3;have:=h.arg3 k3;exact QL.2 (by omega)
 ·split
  ·rename_i k4;have:=h.arg4 k4;exact QL.2 (by omega)
  ·rename_i k3 k4;exact decide_eq_true (h.arg0 k3 k4)
theorem Qqj{id page at_:Int}(hL:L.length≤500)(hd:ZH L d):Ok (WI 1000 d id page at_) fun r=>ZH L r.2∧Quf r.1∧r.1.ID=id∧r.1.Page=page∧r.1.At=at_:=by
 unfold WI
 refine Ok.opt (nx hL hd (by omega) (by omega)) fun⟨a0,d1⟩ ⟨h1,l1,u1⟩=>?_
 dsimp only at h1 l1 u1 ⊢
 refine Ok.opt (nx hL h1 (by omega) (by omega)) fun⟨a2,d3⟩ ⟨h3,l3,u3⟩=>?_
 dsimp only at h3 l3 u3 ⊢
 rw[Qc (x:=1+a2) (by omega),Qc (x:=a0 - 1) (by omega)]
 refine Ok.j (Ok.ite (fun g=>?_) (fun g=>Ok.ite (fun g'=>?_) (fun g'=>?_)))
 ·refine Ok.opt (QaK hL h3 (by simp) (by simp)) fun⟨a8,d9⟩ ⟨h9,m9⟩=>Ok.s ⟨h9,⟨by dsimp only;omega,by dsimp only;omega,fun _=>?_,fun e=>?_,fun e=>absurd g e⟩,rfl,rfl,rfl⟩
  ·dsimp only at m9 ⊢
   simp only[List.mem_cons,List.not_mem_nil,or_false]at m9
   omega
  ·dsimp only at e;omega
 ·refine Ok.opt (nx hL h3 (by omega) (by omega)) fun⟨a10,d11⟩ ⟨h11,l11,u11⟩=>Ok.s ⟨h11,⟨by dsimp only;omega,by dsimp only;omega,fun e=>?_,fun _=>⟨l11,u11⟩,fun _ e=>absurd g' e⟩,rfl,rfl,rfl⟩
  dsimp only at e;omega
 ·exact Ok.s ⟨h3,⟨by dsimp only;omega,by dsimp only;omega,fun e=>absurd e g,fun e=>absurd e g',fun _ _=>rfl⟩,rfl,rfl,rfl⟩
theorem QrY(hb:QJ b)(hQ:QgR Q M c b)(h:QM Q M b p)(now:Int):∃q,runV c b p now=(q,0)∧QM Q M b q∧Xm q now=false∧Kept p q:=by
 have h1:=QaX (now:=now) hb hQ h
 have h2:=Qdk (now:=now) hb hQ h
 rcases hr:runV c b p now with⟨q,e⟩
 rw[hr]at h1 h2
 obtain⟨a1,a2,a3⟩:=h1
 dsimp only at a1 a2 a3 h2
 subst a2
 exact⟨q,rfl,a1,a3,h2⟩
end
end Go.Proofs.YtgokjdfkpnkekaaGreat
