/-
  What functions do, reckoned from their code, and their contracts. Printed by wip/gen/brun.py.
-/
import Derived.Test.YtadlpefpehjcoaaGreatQRowStepsD
import Derived.Test.YtadlpefpehjcoaaGreatQRowStepsC
set_option maxRecDepth 100000
set_option linter.unusedVariables false
namespace Go.Proofs.YtadlpefpehjcoaaGreat
open Go AM IntKind
noncomputable section
abbrev bK0:List Sh:=[kI,.lst .Zone,.lst .Person,.lst .Calendar,.lst .Schedule,.lst .Team,.lst .Policy,.own 102,kI,kI,.own 103,.own 104]
abbrev bK1:List Sh:=[kI,kI,kI,kI,kI,kI,kI,kI,kI,kI,kI,.own 2035007,.own 2058007,.own 2061007]
abbrev bK2:List Sh:=[kI,kI,kI,kI,kI,kI,kI,kI,kI,kI,kI,.own 102,.own 103,.own 104]
abbrev bK3:List Sh:=[kI,kI,kI,kI,kI,kI,kI,kI,kI,kI,kI,.own 101,.own 102,.own 103]
abbrev bK4:List Sh:=[kI,.nul,.nul,.nul,.nul,.nul,.nul,.nul,kI,kI,.nul,.nul]
variable (u:Nat)
def QN(l:List Int)(c101:D.Page):Option (Int×D.Page):=Qh (X:=((List Int×Int×Int×Unit)×P11×List D.Start×List Int×List Int×Unit)) (fun y ((m,n,b,_),(o,p,q,r,s,t,c,e,f,g,h,_),i,j,k,_)=>cd (b<n) (atc m b fun v=>optc (ZC u v (D.Page.mk o p q r s t c e f g h i j k)) fun(w,a)=>cnd w (some (b,a)) (y ((m,n,(wrap .i64 (b+1)),()),(a.ID,a.Policy,a.Start,a.Next,a.Due,a.State,a.By,a.Until,a.Last,a.Snoozes,a.Hands,()),a.Starts,a.Declined,a.Seen,()))) (some ((-1),(D.Page.mk o p q r s t c e f g h i j k)))) u ((l,(l.length:Int),0,()),((D.Page.ID c101),(D.Page.Policy c101),(D.Page.Start c101),(D.Page.Next c101),(D.Page.Due c101),(D.Page.State c101),(D.Page.By c101),(D.Page.Until c101),(D.Page.Last c101),(D.Page.Snoozes c101),(D.Page.Hands c101),()),(D.Page.Starts c101),(D.Page.Declined c101),(D.Page.Seen c101),())
theorem Yv:FO 270 (Qf [lI,.one (.clo 264 [101])] [(101,.box bK2),ar 102 .Start,ar 103 .int,ar 104 .int] [nI] [(101,.box bK2),ar 102 .Start,ar 103 .int,ar 104 .int] [] (Int×D.Page) kz16 (fun x y=>QN u x.1 (D.Page.mk y.1.1 y.1.2.1 y.1.2.2.1 y.1.2.2.2.1 y.1.2.2.2.2.1 y.1.2.2.2.2.2.1 y.1.2.2.2.2.2.2.1 y.1.2.2.2.2.2.2.2.1 y.1.2.2.2.2.2.2.2.2.1 y.1.2.2.2.2.2.2.2.2.2.1 y.1.2.2.2.2.2.2.2.2.2.2.1 y.2.1 y.2.2.1 y.2.2.2.1))):=fI u (.two .go (lp [(0,lI),(1,.one (.clo 264 [101])),ni 7,ni 8] [(101,.box bK2),ar 102 .Start,ar 103 .int,ar 104 .int] .go)) (fun a b=>(a.1,(D.Page.mk b.1.1 b.1.2.1 b.1.2.2.1 b.1.2.2.2.1 b.1.2.2.2.2.1 b.1.2.2.2.2.2.1 b.1.2.2.2.2.2.2.1 b.1.2.2.2.2.2.2.2.1 b.1.2.2.2.2.2.2.2.2.1 b.1.2.2.2.2.2.2.2.2.2.1 b.1.2.2.2.2.2.2.2.2.2.2.1 b.2.1 b.2.2.1 b.2.2.2.1))) (eC (V2 u) eN) Tryz.func270
def Qr(a:List Int)(c101:D.Page):Option (Bool×D.Page):=optc (QN u a c101) fun(b,c)=>some ((decide (0≤b)),c)
theorem Yj:FO 240 (Qf [lI,.one (.clo 264 [101])] [(101,.box bK2),ar 102 .Start,ar 103 .int,ar 104 .int] [.one .boo] [(101,.box bK2),ar 102 .Start,ar 103 .int,ar 104 .int] [] (Bool×D.Page) kz10 (fun x y=>Qr u x.1 (D.Page.mk y.1.1 y.1.2.1 y.1.2.2.1 y.1.2.2.2.1 y.1.2.2.2.2.1 y.1.2.2.2.2.2.1 y.1.2.2.2.2.2.2.1 y.1.2.2.2.2.2.2.2.1 y.1.2.2.2.2.2.2.2.2.1 y.1.2.2.2.2.2.2.2.2.2.1 y.1.2.2.2.2.2.2.2.2.2.2.1 y.2.1 y.2.2.1 y.2.2.2.1))):=fI u .go (fun a b=>(a.1,(D.Page.mk b.1.1 b.1.2.1 b.1.2.2.1 b.1.2.2.2.1 b.1.2.2.2.2.1 b.1.2.2.2.2.2.1 b.1.2.2.2.2.2.2.1 b.1.2.2.2.2.2.2.2.1 b.1.2.2.2.2.2.2.2.2.1 b.1.2.2.2.2.2.2.2.2.2.1 b.1.2.2.2.2.2.2.2.2.2.2.1 b.2.1 b.2.2.1 b.2.2.2.1))) (eC (Yv u) eN) Tryz.func240
def ZI(a:D.Page)(c:D.Answer):Option D.Page:=optc (Z1 u a) fun n=>join (Y:=((List Int×Unit)×P11×D.Answer×D.Page×List D.Start×List Int×List Int×Unit)) (fun((z,_),(q,r,s,t,v,o,w,y,g,h,i,_),A,e,j,k,l,_)=>join (Y:=(Unit×P11×D.Page×List D.Start×List Int×List Int×Unit)) (fun(_,(B,C,E,F,G,H,I,J,L,O,S,_),aE,W,Z,aA,_)=>some (D.Page.mk B C E F G H I J L O S W Z aA)) fun f=>cd (o=0) (cd (0<(z.length:Int)) (optc (Qr u z (D.Page.mk q r s t v o w y g h i j k l)) fun(aB,b)=>cnd aB (f ((),(b.ID,b.Policy,b.Start,b.Next,b.Due,b.State,b.By,b.Until,b.Last,b.Snoozes,b.Hands,()),e,b.Starts,b.Declined,b.Seen,())) (f ((),(b.ID,b.Policy,b.Start,b.Next,A.At,b.State,b.By,b.Until,b.Last,b.Snoozes,b.Hands,()),e,b.Starts,b.Declined,b.Seen,()))) (f ((),(q,r,s,t,v,o,w,y,g,h,i,()),e,j,k,l,()))) (f ((),(q,r,s,t,v,o,w,y,g,h,i,()),e,j,k,l,()))) fun m=>optc (Z8 u n c.Person) fun aC=>cnd aC (optc (Zj u a.Declined c.Person) fun aD=>cnd aD (m ((n,()),(a.ID,a.Policy,a.Start,a.Next,a.Due,a.State,a.By,a.Until,a.Last,a.Snoozes,a.Hands,()),c,(D.Page.mk 0 0 0 0 0 0 0 0 0 0 0 [] [] []),a.Starts,a.Declined,a.Seen,())) (lec (a.Declined.length+[c.Person].length) 34359738368 (optc (QL u (a.Declined++[c.Person])) fun p=>chk p.length (a.Declined++[c.Person]).length (m ((n,()),(a.ID,a.Policy,a.Start,a.Next,a.Due,a.State,a.By,a.Until,a.Last,a.Snoozes,a.Hands,()),c,(D.Page.mk 0 0 0 0 0 0 0 0 0 0 0 [] [] []),a.Starts,p,a.Seen,()))))) (m ((n,()),(a.ID,a.Policy,a.Start,a.Next,a.Due,a.State,a.By,a.Until,a.Last,a.Snoozes,a.Hands,()),c,(D.Page.mk 0 0 0 0 0 0 0 0 0 0 0 [] [] []),a.Starts,a.Declined,a.Seen,()))
theorem Uc:FO 232 (Qf [.agg bK3,.st .Answer] [ar 101 .Start,ar 102 .int,ar 103 .int] [.agg bK3] [ar 101 .Start,ar 102 .int,ar 103 .int] [] D.Page kz13 (fun x y=>ZI u (D.Page.mk x.1.1 x.1.2.1 x.1.2.2.1 x.1.2.2.2.1 x.1.2.2.2.2.1 x.1.2.2.2.2.2.1 x.1.2.2.2.2.2.2.1 x.1.2.2.2.2.2.2.2.1 x.1.2.2.2.2.2.2.2.2.1 x.1.2.2.2.2.2.2.2.2.2.1 x.1.2.2.2.2.2.2.2.2.2.2.1 y.1 y.2.1 y.2.2.1) x.2.1)):=fI u (gs 2 (.two (.join [rf 2,rf 3,rf 4,(5,lI)] [(1002,.box bK3),bx 1003 .Answer,bx 1004 .Page,ar 101 .Start,ar 102 .int,ar 103 .int] .go) (.two (.join [rf 2,rf 4] [(1002,.box bK3),bx 1004 .Page,ar 101 .Start,ar 102 .int,ar 103 .int] .go) .go))) (fun a b=>D.Page.mk a.1.1 a.1.2.1 a.1.2.2.1 a.1.2.2.2.1 a.1.2.2.2.2.1 a.1.2.2.2.2.2.1 a.1.2.2.2.2.2.2.1 a.1.2.2.2.2.2.2.2.1 a.1.2.2.2.2.2.2.2.2.1 a.1.2.2.2.2.2.2.2.2.2.1 a.1.2.2.2.2.2.2.2.2.2.2.1 b.1 b.2.1 b.2.2.1) (eC (UN u) (eC (Yl u) (eC (XZ u) (eC (Yj u) (eC (UR u) eN))))) Tryz.func232
def VA(p0:D.Config)(p1:D.Book)(w:D.Page)(y:D.Answer):Option (D.Page×Int):=join (Y:=(Unit×D.Page×D.Answer×D.Page×Unit)) (fun(_,z,f,A,_)=>cd (f.Page≠z.ID) (some ((D.Page.mk 0 0 0 0 0 0 0 0 0 0 0 [] [] []),3)) (optc (Xm u z) fun a=>optc (Zj u a.Seen f.ID) fun a4=>cnd a4 (some (a,0)) (optc (ZO u a f) fun B=>cd (B≠0) (some ((D.Page.mk 0 0 0 0 0 0 0 0 0 0 0 [] [] []),B)) (lec (a.Seen.length+[f.ID].length) 34359738368 (join (Y:=(Unit×P11×D.Answer×D.Page×List D.Start×List Int×List Int×Unit)) (fun(_,(o,p,q,r,l,t,s,m,aF,g,h,_),b,i,e,n,j,_)=>join (Y:=(Unit×P11×D.Page×List D.Start×List Int×List Int×Unit)) (fun(_,(C,E,F,G,H,I,J,L,O,S,W,_),aG,Z,aA,aB,_)=>some ((D.Page.mk C E F G H I J L O S W Z aA aB),0)) fun k=>cd (b.Kind=1) (k ((),(o,p,q,r,l,1,b.Person,m,b.At,g,h,()),i,e,n,j,())) (cd (b.Kind=2) (optc (ZI u (D.Page.mk o p q r l t s m b.At g h e n j) b) fun c=>k ((),(c.ID,c.Policy,c.Start,c.Next,c.Due,c.State,c.By,c.Until,c.Last,c.Snoozes,c.Hands,()),i,c.Starts,c.Declined,c.Seen,())) (cd (b.Kind=3) (k ((),(o,p,q,r,l,2,b.Person,(wrap .i64 (b.At+b.Arg)),b.At,(wrap .i64 (g+1)),h,()),i,e,n,j,())) (cd (b.Kind=4) (lec (e.length+[(D.Start.mk (-1) b.At [b.Arg])].length) 34359738368 (k ((),(o,p,q,r,(wrap .i64 (b.At+600)),0,s,m,b.At,g,(wrap .i64 (h+1)),()),i,(e++[(D.Start.mk (-1) b.At [b.Arg])]),[],j,()))) (cd (b.Kind=5) (k ((),(o,p,q,r,l,4,b.Person,m,b.At,g,h,()),i,e,n,j,())) (k ((),(o,p,q,r,l,t,s,m,b.At,g,h,()),i,e,n,j,()))))))) fun v=>cd (f.Kind=1) (cd (a.State=1) (some ((D.Page.mk a.ID a.Policy a.Start a.Next a.Due a.State a.By a.Until a.Last a.Snoozes a.Hands a.Starts a.Declined (a.Seen++[f.ID])),0)) (v ((),(a.ID,a.Policy,a.Start,a.Next,a.Due,a.State,a.By,a.Until,a.Last,a.Snoozes,a.Hands,()),f,A,a.Starts,a.Declined,(a.Seen++[f.ID]),()))) (v ((),(a.ID,a.Policy,a.Start,a.Next,a.Due,a.State,a.By,a.Until,a.Last,a.Snoozes,a.Hands,()),f,A,a.Starts,a.Declined,(a.Seen++[f.ID]),()))))))) fun aC=>optc (Z9 u p1 w) fun aD=>cnd aD (optc (Ux u y) fun aE=>cnd aE (aC ((),w,y,(D.Page.mk 0 0 0 0 0 0 0 0 0 0 0 [] [] []),())) (some ((D.Page.mk 0 0 0 0 0 0 0 0 0 0 0 [] [] []),8))) (some ((D.Page.mk 0 0 0 0 0 0 0 0 0 0 0 [] [] []),8))
theorem QfZ:FO 161 (Qf [.st .Config,.st .Book,.st .Page,.st .Answer] [] [.st .Page,nI] [] [] (D.Page×Int) kz3 (fun x y=>VA u x.1 x.2.1 x.2.2.1 x.2.2.2.1)):=fI u (.two .go (.two (.join [rf 6,rf 7,rf 8] [bx 1006 .Page,bx 1007 .Answer,bx 1008 .Page] .go) (gs 5 (.two (.join [rf 6,rf 7,rf 8] [(1006,.box bK1),bx 1007 .Answer,bx 1008 .Page,ar 2035007 .Start,ar 2058007 .int,ar 2061007 .int] .go) (.two .go (.two (.join [rf 6,rf 8] [(1006,.box bK1),bx 1008 .Page,ar 2035007 .Start,ar 2058007 .int,ar 2061007 .int] .go) .go)))))) kz4 (eC (Yl u) (eC (Ws u) (eC (Qdf u) (eC (VC u) (eC (UB u) (eC (Uc u) eN)))))) Tryz.func161
def QF(c:List D.Page)(n:Int):Option (Int×Bool):=Qh (X:=(P4×List D.Page×Unit)) (fun j ((f,h,a,e,_),b,_)=>cd (a<e) (natc 1 fun i=>natc (wrap .i64 (Int.fdiv (IntKind.wrap .u64 (wrap .i64 (a+e))) (HPow.hPow 2 (min i (Go.IntKind.bits Go.IntKind.u64))))) fun k=>ltc k b.length (optc b[k]? fun o=>optc (Wa u o f) fun p=>cd (p<0) (j ((f,h,(wrap .i64 ((wrap .i64 (Int.fdiv (IntKind.wrap .u64 (wrap .i64 (a+e))) (HPow.hPow 2 (min i (Go.IntKind.bits Go.IntKind.u64)))))+1)),e,()),b,())) (j ((f,h,a,(wrap .i64 (Int.fdiv (IntKind.wrap .u64 (wrap .i64 (a+e))) (HPow.hPow 2 (min i (Go.IntKind.bits Go.IntKind.u64))))),()),b,())))) (cd (a<h) (natc a fun g=>ltc g b.length (optc b[g]? fun l=>optc (Wa u l f) fun m=>cd (m=0) (sameC b c (some (a,true))) (sameC b c (some (a,false))))) (sameC b c (some (a,false))))) u ((n,(c.length:Int),0,(c.length:Int),()),c,())
theorem Xd:FO 126 (Qf [.one (.own 101),nI,.one (.fv 127)] [ar 101 .Page] [nI,.one .boo] [] [101] (Int×Bool) kz3 (fun x y=>QF u y.1 x.1)):=fI u (gs 3 (.two (.one (.loop [(0,.one (.own 101)),ni 1,(2,.one (.fv 127)),ni 8,ni 9,ni 10] [ar 101 .Page] .go)) .go)) kz4 (eC (QdB u) eN) Tryz.func126
def ZX(a:D.Ledger)(b:Int):Option (Int×Bool):=optc (QF u a.Pages b) fun(c,e)=>sameC a.Pages a.Pages (sameC a.Seen a.Seen (sameC a.Calls a.Calls (some (c,e))))
theorem Xz:FO 81 (Qf [.agg [kI,.lst .Zone,.lst .Person,.lst .Calendar,.lst .Schedule,.lst .Team,.lst .Policy,.own 101,kI,kI,.own 102,.own 103],nI] [ar 101 .Page,ar 102 .int,ar 103 .Call] [nI,.one .boo] [] [101,102,103] (Int×Bool) kz3 (fun x y=>ZX u (D.Ledger.mk x.1.1 (D.Config.mk x.1.2.1 x.1.2.2.1 x.1.2.2.2.1 x.1.2.2.2.2.1) (D.Book.mk x.1.2.2.2.2.2.1 x.1.2.2.2.2.2.2.1) y.1 x.1.2.2.2.2.2.2.2.1 x.1.2.2.2.2.2.2.2.2.1 y.2.1 y.2.2.1) x.2.1)):=fI u .go kz4 (eC (Xd u) eN) Tryz.func81
def QZ(a:D.worker)(p1:Int)(p2:Int):Option D.worker:=natc p1 fun W=>ltc W a.Ledger.Pages.length (optc a.Ledger.Pages[W]? fun i=>natc p2 fun O=>lec O i.Starts.length (Qh (X:=((List D.Start×Int×Int×Unit)×(Int×List D.Zone×List D.Person×List D.Calendar×List D.Schedule×List D.Team×List D.Policy×Int×Int×Unit)×D.Page×List D.Page×List Int×List D.Call×Unit)) (fun L3 ((Z,a5,S,_),(a7,a8,a9,j,k,l,m,n,o,_),a3,p,q,r,_)=>cd (S<a5) (atc Z S fun f=>Qh (X:=((List D.Start×Int×Int×List Int×Int×Int×Unit)×(Int×List D.Zone×List D.Person×List D.Calendar×List D.Schedule×List D.Team×List D.Policy×Int×Int×Unit)×D.Page×D.Start×List D.Page×List Int×List D.Call×Unit)) (fun aA ((s,t,v,w,y,g,_),(z,A,B,C,E,F,G,H,c,_),e,b,I,J,h,_)=>cd (g<y) (atc w g fun L=>lec (h.length+[(D.Call.mk e.ID b.K b.At L c)].length) 34359738368 (aA ((s,t,v,w,y,(wrap .i64 (g+1)),()),(z,A,B,C,E,F,G,H,c,()),e,b,I,J,(h++[(D.Call.mk e.ID b.K b.At L c)]),()))) (L3 ((s,t,(wrap .i64 (v+1)),()),(z,A,B,C,E,F,G,H,c,()),e,I,J,h,()))) u ((Z,a5,S,f.People,(f.People.length:Int),0,()),(a7,a8,a9,j,k,l,m,n,o,()),a3,f,p,q,r,())) (some (D.worker.mk (D.Ledger.mk a7 (D.Config.mk a8 a9 j k) (D.Book.mk l m) p n o q r)))) u (((List.drop O i.Starts),(((List.drop O i.Starts).length:Nat):Int),0,()),(a.Ledger.Now,a.Ledger.Config.Zones,a.Ledger.Config.People,a.Ledger.Config.Calendars,a.Ledger.Config.Schedules,a.Ledger.Book.Teams,a.Ledger.Book.Policies,a.Ledger.Owner,a.Ledger.Fence,()),i,a.Ledger.Pages,a.Ledger.Seen,a.Ledger.Calls,())))
theorem Xw:FO 162 (Qf [.one (.ref 101),nI,nI] [(101,.box bK0),ar 102 .Page,ar 103 .int,ar 104 .Call] [] [(101,.box bK0),ar 102 .Page,ar 103 .int,ar 104 .Call] [] D.worker kz11 (fun x y=>QZ u (D.worker.mk (D.Ledger.mk y.1.1 (D.Config.mk y.1.2.1 y.1.2.2.1 y.1.2.2.2.1 y.1.2.2.2.2.1) (D.Book.mk y.1.2.2.2.2.2.1 y.1.2.2.2.2.2.2.1) y.2.1 y.1.2.2.2.2.2.2.2.1 y.1.2.2.2.2.2.2.2.2.1 y.2.2.1 y.2.2.2.1)) x.1 x.2.1)):=fI u (gs 2 (.one (.loop [(0,.one (.ref 101)),rf 6,li 22 .Start,ni 23,ni 24] [(101,.box bK0),bx 1006 .Page,ar 102 .Page,ar 103 .int,ar 104 .Call] (gs 2 (.two (.one (gs 2 (.one (.loop [(0,.one (.ref 101)),rf 6,rf 8,li 22 .Start,ni 23,ni 24,(29,lI),ni 30,ni 31] [(101,.box bK0),bx 1006 .Page,bx 1008 .Start,ar 102 .Page,ar 103 .int,ar 104 .Call] .go)))) .go))))) kz14 eN Tryz.func162
def QE(a:D.worker)(b:Int):Option D.worker:=natc b fun e=>ltc e a.Ledger.Pages.length (optc a.Ledger.Pages[e]? fun g=>optc (Qbg u a.Ledger.Config a.Ledger.Book g a.Ledger.Now) fun(h,i)=>cd (i≠0) (some a) (natc b fun f=>ltc f a.Ledger.Pages.length (optc a.Ledger.Pages[f]? fun j=>natc b fun c=>ltc c a.Ledger.Pages.length (optc a.Ledger.Pages[c]? fun l=>optc (QZ u (D.worker.mk (D.Ledger.mk a.Ledger.Now a.Ledger.Config a.Ledger.Book (List.set a.Ledger.Pages c h) a.Ledger.Owner a.Ledger.Fence a.Ledger.Seen a.Ledger.Calls)) b (j.Starts.length:Int)) fun k=>some k))))
theorem ZE:FO 159 (Qf [.one (.ref 101),nI] [(101,.box bK0),ar 102 .Page,ar 103 .int,ar 104 .Call] [] [(101,.box bK0),ar 102 .Page,ar 103 .int,ar 104 .Call] [] D.worker kz11 (fun x y=>QE u (D.worker.mk (D.Ledger.mk y.1.1 (D.Config.mk y.1.2.1 y.1.2.2.1 y.1.2.2.2.1 y.1.2.2.2.2.1) (D.Book.mk y.1.2.2.2.2.2.1 y.1.2.2.2.2.2.2.1) y.2.1 y.1.2.2.2.2.2.2.2.1 y.1.2.2.2.2.2.2.2.2.1 y.2.2.1 y.2.2.2.1)) x.1)):=fI u .go kz14 (eC (Xw u) (eC (Qi3 u) eN)) Tryz.func159
def ZS(a:D.worker)(b:D.Op):Option (Int×D.worker):=optc (ZX u a.Ledger b.Page) fun(c,f)=>cnd f (some (4,a)) (cd ((a.Ledger.Pages.length:Int)=64) (some (5,a)) (optc (Qdr u a.Ledger.Book b.Page b.Policy a.Ledger.Now) fun(g,e)=>cd (e≠0) (some (e,a)) (optc (QB u a.Ledger.Pages c [g]) fun h=>optc (QE u (D.worker.mk (D.Ledger.mk a.Ledger.Now a.Ledger.Config a.Ledger.Book h a.Ledger.Owner a.Ledger.Fence a.Ledger.Seen a.Ledger.Calls)) c) fun i=>some (0,i))))
theorem UI:FO 99 (Qf [.one (.ref 101),.st .Op] [(101,.box bK0),ar 102 .Page,ar 103 .int,ar 104 .Call] [nI] [(101,.box bK0),ar 102 .Page,ar 103 .int,ar 104 .Call] [] (Int×D.worker) kz2 (fun x y=>ZS u (D.worker.mk (D.Ledger.mk y.1.1 (D.Config.mk y.1.2.1 y.1.2.2.1 y.1.2.2.2.1 y.1.2.2.2.2.1) (D.Book.mk y.1.2.2.2.2.2.1 y.1.2.2.2.2.2.2.1) y.2.1 y.1.2.2.2.2.2.2.2.1 y.1.2.2.2.2.2.2.2.2.1 y.2.2.1 y.2.2.2.1)) x.1)):=fI u .go kz5 (eC (Xz u) (eC (Qi2 u) (eC (Qcf u) (eC (ZE u) eN)))) Tryz.func99
def Z3(u:Nat)(a:D.worker)(b:D.Op):Option (Int×D.worker):=cd (b.Fence≠(wrap .i64 (a.Ledger.Fence+1))) (some (23,a)) (some (0,(D.worker.mk (D.Ledger.mk a.Ledger.Now a.Ledger.Config a.Ledger.Book a.Ledger.Pages b.Region b.Fence a.Ledger.Seen a.Ledger.Calls))))
theorem UT:FO 100 (Qf [.one (.ref 101),.st .Op] [(101,.box bK0),ar 102 .Page,ar 103 .int,ar 104 .Call] [nI] [(101,.box bK0),ar 102 .Page,ar 103 .int,ar 104 .Call] [] (Int×D.worker) kz2 (fun x y=>Z3 u (D.worker.mk (D.Ledger.mk y.1.1 (D.Config.mk y.1.2.1 y.1.2.2.1 y.1.2.2.2.1 y.1.2.2.2.2.1) (D.Book.mk y.1.2.2.2.2.2.1 y.1.2.2.2.2.2.2.1) y.2.1 y.1.2.2.2.2.2.2.2.1 y.1.2.2.2.2.2.2.2.2.1 y.2.2.1 y.2.2.2.1)) x.1)):=fI u .go kz5 eN Tryz.func100
def ZJ(a:D.worker)(r:D.Op):Option (Int×D.worker):=join (Y:=(Unit×(Int×List D.Zone×List D.Person×List D.Calendar×List D.Schedule×List D.Team×List D.Policy×Int×Int×Unit)×D.Op×List D.Page×List Int×List D.Call×Unit)) (fun(_,(f,g,h,i,j,k,l,m,n,_),s,b,c,e,_)=>optc (ZX u (D.Ledger.mk f (D.Config.mk g h i j) (D.Book.mk k l) b m n c e) s.Page) fun(o,t)=>cnd (!t) (some (3,(D.worker.mk (D.Ledger.mk f (D.Config.mk g h i j) (D.Book.mk k l) b m n c e)))) (natc o fun p=>ltc p b.length (optc b[p]? fun q=>join (Y:=((Int×Unit)×(Int×List D.Zone×List D.Person×List D.Calendar×List D.Schedule×List D.Team×List D.Policy×Int×Int×Unit)×List D.Page×List Int×List D.Call×Unit)) (fun((v,_),(w,y,z,A,B,C,E,F,G,_),H,I,J,_)=>optc (QE u (D.worker.mk (D.Ledger.mk w (D.Config.mk y z A B) (D.Book.mk C E) H F G I J)) v) fun L=>some (0,L)) fun O=>optc (X9 u q) fun(S,W)=>cnd W (cd (f<S) (some (9,(D.worker.mk (D.Ledger.mk f (D.Config.mk g h i j) (D.Book.mk k l) b m n c e)))) (optc (Qek u q) fun Z=>cd (Z≠s.K) (some (9,(D.worker.mk (D.Ledger.mk f (D.Config.mk g h i j) (D.Book.mk k l) b m n c e)))) (O ((o,()),(f,g,h,i,j,k,l,m,n,()),b,c,e,())))) (some (9,(D.worker.mk (D.Ledger.mk f (D.Config.mk g h i j) (D.Book.mk k l) b m n c e))))))) fun aA=>cd (r.Region≠a.Ledger.Owner) (some (23,a)) (cd (r.Fence≠a.Ledger.Fence) (some (23,a)) (aA ((),(a.Ledger.Now,a.Ledger.Config.Zones,a.Ledger.Config.People,a.Ledger.Config.Calendars,a.Ledger.Config.Schedules,a.Ledger.Book.Teams,a.Ledger.Book.Policies,a.Ledger.Owner,a.Ledger.Fence,()),r,a.Ledger.Pages,a.Ledger.Seen,a.Ledger.Calls,())))
theorem Ue:FO 101 (Qf [.one (.ref 101),.st .Op] [(101,.box bK0),ar 102 .Page,ar 103 .int,ar 104 .Call] [nI] [(101,.box bK0),ar 102 .Page,ar 103 .int,ar 104 .Call] [] (Int×D.worker) kz2 (fun x y=>ZJ u (D.worker.mk (D.Ledger.mk y.1.1 (D.Config.mk y.1.2.1 y.1.2.2.1 y.1.2.2.2.1 y.1.2.2.2.2.1) (D.Book.mk y.1.2.2.2.2.2.1 y.1.2.2.2.2.2.2.1) y.2.1 y.1.2.2.2.2.2.2.2.1 y.1.2.2.2.2.2.2.2.2.1 y.2.2.1 y.2.2.2.1)) x.1)):=fI u (.two .go (.two (.join [(0,.one (.ref 101)),rf 3] [(101,.box bK0),bx 1003 .Op,ar 102 .Page,ar 103 .int,ar 104 .Call] .go) (gs 3 (.two (.join [(0,.one (.ref 101)),ni 5] [(101,.box bK0),ar 102 .Page,ar 103 .int,ar 104 .Call] .go) .go)))) kz5 (eC (VB u) (eC (Xz u) (eC (ZE u) (eC (Ql4 u) eN)))) Tryz.func101
def ZD(e:D.worker)(b:D.Op):Option (Int×D.worker):=optc (ZX u e.Ledger b.Answer.Page) fun(c,k)=>cnd (!k) (some (3,e)) (optc (QE u e c) fun a=>natc c fun g=>ltc g a.Ledger.Pages.length (optc a.Ledger.Pages[g]? fun l=>optc (VA u a.Ledger.Config a.Ledger.Book l (D.Answer.mk b.Answer.ID b.Answer.Page b.Answer.Person b.Answer.Kind b.Answer.Arg a.Ledger.Now)) fun(m,h)=>cd (h≠0) (some (h,a)) (natc c fun i=>ltc i a.Ledger.Pages.length (optc a.Ledger.Pages[i]? fun n=>natc c fun f=>ltc f a.Ledger.Pages.length (optc a.Ledger.Pages[f]? fun o=>optc (QZ u (D.worker.mk (D.Ledger.mk a.Ledger.Now a.Ledger.Config a.Ledger.Book (List.set a.Ledger.Pages f m) a.Ledger.Owner a.Ledger.Fence a.Ledger.Seen a.Ledger.Calls)) c (n.Starts.length:Int)) fun j=>some (0,j))))))
theorem V3:FO 102 (Qf [.one (.ref 101),.st .Op] [(101,.box bK0),ar 102 .Page,ar 103 .int,ar 104 .Call] [nI] [(101,.box bK0),ar 102 .Page,ar 103 .int,ar 104 .Call] [] (Int×D.worker) kz2 (fun x y=>ZD u (D.worker.mk (D.Ledger.mk y.1.1 (D.Config.mk y.1.2.1 y.1.2.2.1 y.1.2.2.2.1 y.1.2.2.2.2.1) (D.Book.mk y.1.2.2.2.2.2.1 y.1.2.2.2.2.2.2.1) y.2.1 y.1.2.2.2.2.2.2.2.1 y.1.2.2.2.2.2.2.2.2.1 y.2.2.1 y.2.2.2.1)) x.1)):=fI u .go kz5 (eC (Xz u) (eC (ZE u) (eC (QfZ u) (eC (Xw u) eN)))) Tryz.func102
def ZR(b:D.worker)(O:D.Op):Option (Int×D.worker):=Qh (X:=((Int×Int×Unit)×(Int×List D.Zone×List D.Person×List D.Calendar×List D.Schedule×List D.Team×List D.Policy×Int×Int×Unit)×D.Op×List D.Page×List Int×List D.Call×Unit)) (fun S ((v,m,_),(n,o,p,q,r,s,t,e,f,_),g,h,i,j,_)=>cd (m<v) (optc (QE u (D.worker.mk (D.Ledger.mk n (D.Config.mk o p q r) (D.Book.mk s t) h e f i j)) m) fun a=>S ((v,(wrap .i64 (m+1)),()),(a.Ledger.Now,a.Ledger.Config.Zones,a.Ledger.Config.People,a.Ledger.Config.Calendars,a.Ledger.Config.Schedules,a.Ledger.Book.Teams,a.Ledger.Book.Policies,a.Ledger.Owner,a.Ledger.Fence,()),g,a.Ledger.Pages,a.Ledger.Seen,a.Ledger.Calls,())) (optc (Ve u (D.Config.mk o p q r) g.Schedule g.Edit) fun(c,k)=>join (Y:=((Int×Unit)×(Int×List D.Zone×List D.Person×List D.Calendar×List D.Schedule×List D.Team×List D.Policy×Int×Int×Unit)×List D.Page×List Int×List D.Call×Unit)) (fun((w,_),(y,z,A,B,C,E,F,G,H,_),I,J,L,_)=>some (w,(D.worker.mk (D.Ledger.mk y (D.Config.mk z A B C) (D.Book.mk E F) I G H J L)))) fun l=>cd (k=0) (l ((k,()),(n,c.Zones,c.People,c.Calendars,c.Schedules,s,t,e,f,()),h,i,j,())) (l ((k,()),(n,o,p,q,r,s,t,e,f,()),h,i,j,())))) u (((b.Ledger.Pages.length:Int),0,()),(b.Ledger.Now,b.Ledger.Config.Zones,b.Ledger.Config.People,b.Ledger.Config.Calendars,b.Ledger.Config.Schedules,b.Ledger.Book.Teams,b.Ledger.Book.Policies,b.Ledger.Owner,b.Ledger.Fence,()),O,b.Ledger.Pages,b.Ledger.Seen,b.Ledger.Calls,())
theorem UH:FO 103 (Qf [.one (.ref 101),.st .Op] [(101,.box bK0),ar 102 .Page,ar 103 .int,ar 104 .Call] [nI] [(101,.box bK0),ar 102 .Page,ar 103 .int,ar 104 .Call] [] (Int×D.worker) kz2 (fun x y=>ZR u (D.worker.mk (D.Ledger.mk y.1.1 (D.Config.mk y.1.2.1 y.1.2.2.1 y.1.2.2.2.1 y.1.2.2.2.2.1) (D.Book.mk y.1.2.2.2.2.2.1 y.1.2.2.2.2.2.2.1) y.2.1 y.1.2.2.2.2.2.2.2.1 y.1.2.2.2.2.2.2.2.2.1 y.2.2.1 y.2.2.2.1)) x.1)):=fI u (.two .go (.two (.two .go (.one (.loop [(0,.one (.ref 101)),rf 3,ni 13,ni 14] [(101,.box bK0),bx 1003 .Op,ar 102 .Page,ar 103 .int,ar 104 .Call] .go))) (.two .go (.two (.join [ni 7] [(101,.box bK0),ar 102 .Page,ar 103 .int,ar 104 .Call] .go) .go)))) kz5 (eC (ZE u) (eC (QlF u) eN)) Tryz.func103
def Ud(k:D.Ledger)(l:D.Op):Option (D.Ledger×Int×Bool):=join (Y:=(Unit×D.Ledger×D.Op×D.Ledger×Unit)) (fun(_,m,b,j,_)=>optc (Qbm u m) fun a=>optc (Zj u a.Seen b.ID) fun H=>cnd H (some (a,0,true)) (cd ((a.Seen.length:Int)=256) (some (m,5,false)) (lec (a.Seen.length+[b.ID].length) 34359738368 (join (Y:=((Int×Unit)×D.Ledger×(Int×List D.Zone×List D.Person×List D.Calendar×List D.Schedule×List D.Team×List D.Policy×Int×Int×Unit)×List D.Page×List Int×List D.Call×Unit)) (fun((I,_),S,(J,L,O,n,o,p,q,r,s,_),t,v,w,_)=>some ((D.Ledger.mk J (D.Config.mk L O n o) (D.Book.mk p q) t r s v w),I,true)) fun i=>cd (b.Kind=1) (optc (ZS u (D.worker.mk (D.Ledger.mk (max a.Now b.At) a.Config a.Book a.Pages a.Owner a.Fence (a.Seen++[b.ID]) a.Calls)) b) fun(y,c)=>i ((y,()),j,(c.Ledger.Now,c.Ledger.Config.Zones,c.Ledger.Config.People,c.Ledger.Config.Calendars,c.Ledger.Config.Schedules,c.Ledger.Book.Teams,c.Ledger.Book.Policies,c.Ledger.Owner,c.Ledger.Fence,()),c.Ledger.Pages,c.Ledger.Seen,c.Ledger.Calls,())) (cd (b.Kind=2) (optc (Z3 u (D.worker.mk (D.Ledger.mk (max a.Now b.At) a.Config a.Book a.Pages a.Owner a.Fence (a.Seen++[b.ID]) a.Calls)) b) fun(z,e)=>i ((z,()),j,(e.Ledger.Now,e.Ledger.Config.Zones,e.Ledger.Config.People,e.Ledger.Config.Calendars,e.Ledger.Config.Schedules,e.Ledger.Book.Teams,e.Ledger.Book.Policies,e.Ledger.Owner,e.Ledger.Fence,()),e.Ledger.Pages,e.Ledger.Seen,e.Ledger.Calls,())) (cd (b.Kind=3) (optc (ZJ u (D.worker.mk (D.Ledger.mk (max a.Now b.At) a.Config a.Book a.Pages a.Owner a.Fence (a.Seen++[b.ID]) a.Calls)) b) fun(A,f)=>i ((A,()),j,(f.Ledger.Now,f.Ledger.Config.Zones,f.Ledger.Config.People,f.Ledger.Config.Calendars,f.Ledger.Config.Schedules,f.Ledger.Book.Teams,f.Ledger.Book.Policies,f.Ledger.Owner,f.Ledger.Fence,()),f.Ledger.Pages,f.Ledger.Seen,f.Ledger.Calls,())) (cd (b.Kind=4) (optc (ZD u (D.worker.mk (D.Ledger.mk (max a.Now b.At) a.Config a.Book a.Pages a.Owner a.Fence (a.Seen++[b.ID]) a.Calls)) b) fun(B,g)=>i ((B,()),j,(g.Ledger.Now,g.Ledger.Config.Zones,g.Ledger.Config.People,g.Ledger.Config.Calendars,g.Ledger.Config.Schedules,g.Ledger.Book.Teams,g.Ledger.Book.Policies,g.Ledger.Owner,g.Ledger.Fence,()),g.Ledger.Pages,g.Ledger.Seen,g.Ledger.Calls,())) (optc (ZR u (D.worker.mk (D.Ledger.mk (max a.Now b.At) a.Config a.Book a.Pages a.Owner a.Fence (a.Seen++[b.ID]) a.Calls)) b) fun(C,h)=>i ((C,()),j,(h.Ledger.Now,h.Ledger.Config.Zones,h.Ledger.Config.People,h.Ledger.Config.Calendars,h.Ledger.Config.Schedules,h.Ledger.Book.Teams,h.Ledger.Book.Policies,h.Ledger.Owner,h.Ledger.Fence,()),h.Ledger.Pages,h.Ledger.Seen,h.Ledger.Calls,()))))))))) fun E=>optc (ZP u k) fun F=>cnd F (optc (W2 u l) fun G=>cnd G (E ((),k,l,(D.Ledger.mk 0 (D.Config.mk [] [] [] []) (D.Book.mk [] []) [] 0 0 [] []),())) (some (k,8,false))) (some (k,8,false))
theorem Qkl:FO 73 (Qf [.st .Ledger,.st .Op] [] [.st .Ledger,nI,.one .boo] [] [] (D.Ledger×Int×Bool) kz21 (fun x y=>Ud u x.1 x.2.1)):=fI u (.two .go (.two (.join [rf 2,rf 3,rf 4] [bx 1002 .Ledger,bx 1003 .Op,bx 1004 .Ledger] .go) (gs 5 (.two (.join [rf 4,(7,.one (.ref 1021)),ni 8] [bx 1004 .Ledger,(1021,.box [kI,.lst .Zone,.lst .Person,.lst .Calendar,.lst .Schedule,.lst .Team,.lst .Policy,.own 3079007,kI,kI,.own 2074007,.own 2077007]),ar 3079007 .Page,ar 2074007 .int,ar 2077007 .Call] .go) .go)))) (fun a b=>(a.1,a.2.1,a.2.2.1)) (eC (WM u) (eC (Qkk u) (eC (Qjp u) (eC (Yl u) (eC (UI u) (eC (UT u) (eC (Ue u) (eC (V3 u) (eC (UH u) eN))))))))) Tryz.func73
def Xb(b:D.Ledger)(c:D.Op):Option (D.Ledger×Int):=optc (Ud u b c) fun(e,a,f)=>cnd (!f) (some ((D.Ledger.mk 0 (D.Config.mk [] [] [] []) (D.Book.mk [] []) [] 0 0 [] []),a)) (some (e,a))
theorem Qkj:FO 45 (Qf [.st .Ledger,.st .Op] [] [.st .Ledger,nI] [] [] (D.Ledger×Int) kz3 (fun x y=>Xb u x.1 x.2.1)):=fI u .go kz4 (eC (Qkl u) eN) Tryz.func45
def Wd(b:D.Ledger)(a:D.Op):Option Bool:=join (Y:=(Unit×D.Ledger×D.Op×Unit)) (fun(_,e,f,_)=>optc (Xb u e f) fun(h,g)=>some (decide (g=23))) fun c=>cd (a.Kind≠3) (cd (a.Kind≠2) sF (c ((),b,a,()))) (c ((),b,a,()))
theorem Qe1:FO 15 (sB [.st .Ledger,.st .Op] fun x=>Wd u x.1 x.2.1):=fI u (.two .go (.two (.join [rf 2,rf 3] [bx 1002 .Ledger,bx 1003 .Op] .go) .go)) kz0 (eC (Qkj u) eN) Tryz.func15
def QjP(a:D.Config)(b:D.Book):Option (D.Ledger×Int):=optc (QdM u a b) fun c=>cd (c≠0) (some ((D.Ledger.mk 0 (D.Config.mk [] [] [] []) (D.Book.mk [] []) [] 0 0 [] []),c)) (some ((D.Ledger.mk 0 a b [] (-1) 0 [] []),0))
theorem Qk2:FO 37 (Qf [.st .Config,.st .Book] [] [.st .Ledger,nI] [] [] (D.Ledger×Int) kz3 (fun x y=>QjP u x.1 x.2.1)):=fI u .go kz4 (eC (QhA u) eN) Tryz.func37
def Qd(u:Nat)(b:D.Dice)(f:Int):Option (Int×D.Dice):=join (Y:=((Int×Unit)×D.Dice×Unit)) (fun((c,_),a,_)=>atc a.L a.At fun e=>nzc c (join (Y:=((Int×Unit)×D.Dice×Unit)) (fun((h,_),i,_)=>some (h,i)) fun g=>cd ((Int.tmod e c)<0) (g (((wrap .i64 ((Int.tmod e c)+c)),()),(D.Dice.mk a.L (wrap .i64 (a.At+1))),())) (g (((Int.tmod e c),()),(D.Dice.mk a.L (wrap .i64 (a.At+1))),())))) fun j=>cd ((b.L.length:Int)≤b.At) (some (0,b)) (cd (f<1) (some (0,b)) (j ((f,()),b,())))
theorem Q9:FO 12 (Qf [.one (.ref 1),nI] [bx 1 .Dice] [nI] [bx 1 .Dice] [] (Int×D.Dice) kz17 (fun x y=>Qd u y.1 x.1)):=fI u (.two .go (.two (.join [(0,.one (.ref 1)),ni 1] [bx 1 .Dice] .go) (gs 2 (.two (.join [ni 5] [bx 1 .Dice] .go) .go)))) kz19 eN Tryz.func12
def QO(b:D.Dice)(a:List Int):Option (Int×D.Dice):=optc (Qd u b (a.length:Int)) fun(c,e)=>atc a c fun f=>some (f,e)
theorem Ym:FO 27 (Qf [.one (.ref 1),lI] [bx 1 .Dice] [nI] [bx 1 .Dice] [] (Int×D.Dice) kz17 (fun x y=>QO u y.1 x.1)):=fI u .go kz19 (eC (Q9 u) eN) Tryz.func27
def Y0(m:D.Dice):Option (D.Edit×D.Dice):=optc (QO u m [0,300,1200,3600]) fun(a,n)=>optc (Qd u n 3) fun(b,o)=>optc (Qd u o 4) fun(e,p)=>optc (QO u p [300,1800,7200]) fun(f,g)=>join (Y:=(Unit×D.Edit×D.Edit×D.Dice×Unit)) (fun(_,r,q,h,_)=>some (q,h)) fun c=>cd (b=2) (optc (Qd u g 3) fun(i,j)=>nzc 4 (c ((),(D.Edit.mk 0 0 0 0 0),(D.Edit.mk b e (Int.tmod (wrap .i64 ((wrap .i64 (e+1))+i)) 4) (wrap .i64 (864000+a)) (wrap .i64 ((wrap .i64 (864000+a))+f))),j,()))) (cd (b=1) (optc (Qd u g 5) fun(k,l)=>c ((),(D.Edit.mk 0 0 0 0 0),(D.Edit.mk b (wrap .i64 (k - 1)) 0 (wrap .i64 (864000+a)) (wrap .i64 ((wrap .i64 (864000+a))+f))),l,())) (c ((),(D.Edit.mk 0 0 0 0 0),(D.Edit.mk b e 0 (wrap .i64 (864000+a)) (wrap .i64 ((wrap .i64 (864000+a))+f))),g,())))
theorem UG:FO 60 (Qf [.one (.ref 1)] [bx 1 .Dice] [.st .Edit] [bx 1 .Dice] [] (D.Edit×D.Dice) kz17 (fun x y=>Y0 u y.1)):=fI u (gs 3 (.two (.join [rf 2,rf 4] [bx 1002 .Edit,bx 1004 .Edit,bx 1 .Dice] .go) .go)) kz19 (eC (Q9 u) (eC (Ym u) eN)) Tryz.func60
def WL(p0:D.Dice):Option (D.Config×D.Dice):=optc (QO u p0 [0,3600,(-7200)]) fun(a0,a1)=>Qh (X:=((List ByteArray×Int×Unit)×D.Dice×Unit×(List D.Zone×Unit)×List D.Person×Unit)) (fun L2 ((Z,h,_),a5,_,(a6,_),a7,_)=>cd (h<4) (atc Z h fun a8=>optc (Qd u a5 2) fun(a9,a2)=>join (Y:=((List ByteArray×Int×Unit)×D.Dice×Unit×(List D.Zone×Unit)×D.Person×List D.Person×Unit)) (fun((aA,aB,_),aC,_,(aD,_),i,j,_)=>lec (j.length+[i].length) 34359738368 (L2 ((aA,(wrap .i64 (aB+1)),()),aC,(),(aD,()),(j++[i]),()))) fun k=>optc (Qd u a2 4) fun(aE,l)=>cd (aE=0) (optc (QO u l [0,3600]) fun(aF,aG)=>optc (QO u aG [7200,86400,604800]) fun(aH,aI)=>k ((Z,h,()),aI,(),(a6,()),(D.Person.mk a8 0 [(D.Window.mk aF aH)] 0 0 (decide (a9=0))),a7,())) (k ((Z,h,()),l,(),(a6,()),(D.Person.mk a8 0 [] 0 0 (decide (a9=0))),a7,()))) (Qh (X:=((Int×Unit)×D.Dice×Unit×(List D.Zone×Unit)×List D.Person×List D.Schedule×Unit)) (fun aJ ((m,_),n,_,(o,_),p,q,_)=>cd (m<2) (optc (QO u n [1,9,10]) fun(aK,aL)=>optc (QO u aL [0,1800,43200]) fun(aM,aN)=>optc (QO u aN [0,0,1]) fun(aO,aP)=>optc (Qd u aP 3) fun(aQ,aR)=>optc (Qd u aR 3) fun(aS,aT)=>Qh (X:=((Int×Int×Unit)×D.Dice×Unit×(List D.Zone×Unit)×(ByteArray×Int×Int×Int×Int×Int×Int×Int×Unit)×List D.Person×List D.Schedule×List Int×Unit)) (fun aU ((b,r,_),s,_,(t,_),(v,w,y,z,A,B,C,E,_),F,G,c,_)=>cd (0<r) (optc (Qd u s 4) fun(H,aV)=>lec (c.length+[H].length) 34359738368 (aU ((b,(wrap .i64 (r - 1)),()),aV,(),(t,()),(v,w,y,z,A,B,C,E,()),F,G,(c++[H]),()))) (atc [(ByteArray.mk (List.toArray [102,105,114,115,116])),(ByteArray.mk (List.toArray [115,101,99,111,110,100]))] b fun aW=>optc (Qd u s 3) fun(aX,aY)=>Qh (X:=((Int×Int×Unit)×D.Dice×Unit×(List D.Zone×Unit)×(ByteArray×List D.Layer×Unit)×List D.Person×List D.Schedule×List D.Edit×Unit)) (fun aZ ((I,J,_),L,_,(O,_),(e,f,_),S,g,a,_)=>cd (0<J) (optc (Y0 u L) fun(W,b0)=>lec (a.length+[W].length) 34359738368 (aZ ((I,(wrap .i64 (J - 1)),()),b0,(),(O,()),(e,f,()),S,g,(a++[W]),()))) (lec (g.length+[(D.Schedule.mk e f a)].length) 34359738368 (aJ (((wrap .i64 (I+1)),()),L,(),(O,()),S,(g++[(D.Schedule.mk e f a)]),())))) u ((b,aX,()),aY,(),(t,()),(aW,[(D.Layer.mk v w (D.Local.mk y z) A B c [] C E)],()),F,G,[],()))) u ((m,(wrap .i64 (1+aS)),()),aT,(),(o,()),((ByteArray.mk (List.toArray [108])),0,aK,aM,aO,(wrap .i64 (1+aQ)),0,0,()),p,q,[],())) (some ((D.Config.mk o p [] q),n))) u ((0,()),a5,(),(a6,()),a7,[],()))) u (([(ByteArray.mk (List.toArray [97,110,110])),(ByteArray.mk (List.toArray [98,111,98])),(ByteArray.mk (List.toArray [99,97,116])),(ByteArray.mk (List.toArray [100,97,110]))],0,()),a1,(),([(D.Zone.mk (ByteArray.mk (List.toArray [122])) a0 [])],()),[],())
theorem QbW:FO 38 (Qf [.one (.ref 1)] [bx 1 .Dice] [.st .Config] [bx 1 .Dice] [] (D.Config×D.Dice) kz17 (fun x y=>WL u y.1)):=fI u (gs 3 (.two (.two .go (.one (.loop [(0,.one (.ref 1)),rf 2,rf 3,li 4 .str,ni 5] [bx 1 .Dice,(1002,.box [.nul,.nul,.nul,.nul]),(1003,.box [.lst .Zone,.own 1047,.nul,.nul]),ar 1047 .Person] (.two .go (.two (.one (.two .go (.two (.join [(0,.one (.ref 1)),rf 2,rf 3,li 4 .str,ni 5,rf 6] [bx 1 .Dice,(1002,.box [.nul,.nul,.nul,.nul]),(1003,.box [.lst .Zone,.own 1047,.nul,.nul]),bx 1006 .Person,ar 1047 .Person] .go) .go))) .go))))) (lp [(0,.one (.ref 1)),rf 2,rf 3,ni 7] [bx 1 .Dice,(1002,.box [.nul,.nul,.nul,.nul]),(1003,.box [.lst .Zone,.own 1047,.nul,.own 1105]),ar 1047 .Person,ar 1105 .Schedule] (.two .go (.two (.one (.two .go (.two (.two .go (.one (.loop [(0,.one (.ref 1)),rf 2,rf 3,ni 7,rf 8,ni 9] [bx 1 .Dice,(1002,.box [.nul,.nul,.nul,.nul]),(1003,.box [.lst .Zone,.own 1047,.nul,.own 1105]),(1008,.box [.str,kI,kI,kI,kI,kI,.own 1079,.nul,kI,kI]),ar 1047 .Person,ar 1105 .Schedule,ar 1079 .int] .go))) (.two (.frz [1079] .go) (lp [(0,.one (.ref 1)),rf 2,rf 3,ni 7,rf 10,ni 11] [bx 1 .Dice,(1002,.box [.nul,.nul,.nul,.nul]),(1003,.box [.lst .Zone,.own 1047,.nul,.own 1105]),(1010,.box [.str,.lst .Layer,.own 1099]),ar 1047 .Person,ar 1105 .Schedule,ar 1099 .Edit] .go))))) .go))))) kz19 (eC (Q9 u) (eC (Ym u) (eC (UG u) eN))) Tryz.func38
def QeK(h:D.Dice)(a:D.Book):Option (D.Target×D.Dice):=optc (Qd u h 3) fun(c,e)=>join (Y:=((Int×Unit)×D.Dice×(List D.Policy×Unit)×D.Target×List D.Team×Unit)) (fun((f,_),i,(m,_),n,g,_)=>atc [4,2,(g.length:Int)] f fun j=>optc (Qd u i j) fun(k,l)=>sameC g a.Teams (some ((D.Target.mk f k),l))) fun b=>cd (c=2) (cd ((a.Teams.length:Int)=0) (b ((0,()),e,(a.Policies,()),(D.Target.mk 0 0),a.Teams,())) (b ((c,()),e,(a.Policies,()),(D.Target.mk 0 0),a.Teams,()))) (b ((c,()),e,(a.Policies,()),(D.Target.mk 0 0),a.Teams,()))
theorem Qcx:FO 63 (Qf [.one (.ref 1),.agg [.own 101,.lst .Policy]] [bx 1 .Dice,ar 101 .Team] [.st .Target] [bx 1 .Dice] [101] (D.Target×D.Dice) kz17 (fun x y=>QeK u y.1 (D.Book.mk y.2.1 x.1.1))):=fI u (gs 2 (.two (.join [(0,.one (.ref 1)),rf 3,rf 4,ni 5] [bx 1 .Dice,(1003,.box [.own 101,.lst .Policy]),bx 1004 .Target,ar 101 .Team] .go) .go)) kz19 (eC (Q9 u) eN) Tryz.func63
def YP(h:D.Dice)(a:D.Book):Option (D.Target×D.Dice):=optc (Qd u h 3) fun(c,e)=>join (Y:=((Int×Unit)×D.Dice×Unit×D.Target×List D.Team×List D.Policy×Unit)) (fun((f,_),i,_,n,g,j,_)=>atc [4,2,(g.length:Int)] f fun k=>optc (Qd u i k) fun(l,m)=>sameC g a.Teams (sameC j a.Policies (some ((D.Target.mk f l),m)))) fun b=>cd (c=2) (cd ((a.Teams.length:Int)=0) (b ((0,()),e,(),(D.Target.mk 0 0),a.Teams,a.Policies,())) (b ((c,()),e,(),(D.Target.mk 0 0),a.Teams,a.Policies,()))) (b ((c,()),e,(),(D.Target.mk 0 0),a.Teams,a.Policies,()))
theorem QbG:FO 63 (Qf [.one (.ref 1),.agg [.own 101,.own 102]] [bx 1 .Dice,ar 101 .Team,ar 102 .Policy] [.st .Target] [bx 1 .Dice] [101,102] (D.Target×D.Dice) kz17 (fun x y=>YP u y.1 (D.Book.mk y.2.1 y.2.2.1))):=fI u (gs 2 (.two (.join [(0,.one (.ref 1)),rf 3,rf 4,ni 5] [bx 1 .Dice,(1003,.box [.own 101,.own 102]),bx 1004 .Target,ar 101 .Team,ar 102 .Policy] .go) .go)) kz19 (eC (Q9 u) eN) Tryz.func63
def WK(p0:D.Dice):Option (D.Book×D.Dice):=optc (Qd u p0 3) fun(a0,a1)=>Qh (X:=((Int×Unit)×D.Dice×Unit×Unit×List D.Team×Unit)) (fun L2 ((J,_),O,_,_,m,_)=>cd (0<J) (atc [(ByteArray.mk (List.toArray [99,111,114,101])),(ByteArray.mk (List.toArray [119,101,98]))] (m.length:Int) fun S=>optc (Qd u O 2) fun(L,a8)=>join (Y:=((Int×Unit)×D.Dice×Unit×Unit×D.Team×List D.Team×Unit)) (fun((a9,_),W,_,_,n,o,_)=>lec (o.length+[n].length) 34359738368 (L2 (((wrap .i64 (a9 - 1)),()),W,(),(),(o++[n]),()))) fun p=>optc (Qd u a8 2) fun(Z,q)=>cd (Z=0) (optc (Qd u q 2) fun(r,a2)=>lec ([L].length+[(wrap .i64 (2+r))].length) 34359738368 (p ((J,()),a2,(),(),(D.Team.mk S ([L]++[(wrap .i64 (2+r))])),m,()))) (p ((J,()),q,(),(),(D.Team.mk S [L]),m,()))) (optc (Qd u O 3) fun(aA,aB)=>Qh (X:=((Int×Unit)×D.Dice×Unit×Unit×List D.Team×List D.Policy×Unit)) (fun aC ((s,_),t,_,_,v,b,_)=>cd (0<s) (atc [(ByteArray.mk (List.toArray [112])),(ByteArray.mk (List.toArray [113])),(ByteArray.mk (List.toArray [114]))] (b.length:Int) fun aD=>optc (QO u t [0,0,1,2]) fun(aE,aF)=>optc (Qd u aF 3) fun(aG,aH)=>Qh (X:=((Int×Int×Unit)×D.Dice×Unit×Unit×(ByteArray×Int×Unit)×List D.Team×List D.Policy×List D.PolicyStep×Unit)) (fun aI ((w,y,_),z,_,_,(c,e,_),A,f,g,_)=>cd (0<y) (optc (QO u z [0,60,300,600,900]) fun(aJ,aK)=>optc (Qd u aK 2) fun(aL,aM)=>optc (Qd u aM 3) fun(aN,aO)=>Qh (X:=(P3×D.Dice×Unit×Unit×(ByteArray×Int×Unit)×(Int×Bool×Unit)×List D.Team×List D.Policy×List D.PolicyStep×List D.Target×Unit)) (fun aP ((B,C,E,_),F,_,_,(G,H,_),(h,i,_),j,k,l,a,_)=>cd (0<E) (optc (YP u F (D.Book.mk j k)) fun(I,aQ)=>lec (a.length+[I].length) 34359738368 (aP ((B,C,(wrap .i64 (E - 1)),()),aQ,(),(),(G,H,()),(h,i,()),j,k,l,(a++[I]),()))) (lec (l.length+[(D.PolicyStep.mk h i a)].length) 34359738368 (aI ((B,(wrap .i64 (C - 1)),()),F,(),(),(G,H,()),j,k,(l++[(D.PolicyStep.mk h i a)]),())))) u ((w,y,aN,()),aO,(),(),(c,e,()),(aJ,(decide (aL=0)),()),A,f,g,[],())) (lec (f.length+[(D.Policy.mk c g e)].length) 34359738368 (aC (((wrap .i64 (w - 1)),()),z,(),(),A,(f++[(D.Policy.mk c g e)]),())))) u ((s,(wrap .i64 (1+aG)),()),aH,(),(),(aD,aE,()),v,b,[],())) (some ((D.Book.mk v b),t))) u (((wrap .i64 (1+aA)),()),aB,(),(),m,[],()))) u ((a0,()),a1,(),(),[],())
theorem QbV:FO 39 (Qf [.one (.ref 1)] [bx 1 .Dice] [.st .Book] [bx 1 .Dice] [] (D.Book×D.Dice) kz17 (fun x y=>WK u y.1)):=fI u (gs 2 (.two (.two .go (.one (.loop [(0,.one (.ref 1)),rf 2,rf 3,ni 4] [bx 1 .Dice,(1002,.box [.nul,.nul]),(1003,.box [.own 1042,.nul]),ar 1042 .Team] (.two .go (.two (.one (.two .go (.two (.join [(0,.one (.ref 1)),rf 2,rf 3,ni 4,rf 5] [bx 1 .Dice,(1002,.box [.nul,.nul]),(1003,.box [.own 1042,.nul]),bx 1005 .Team,ar 1042 .Team] .go) .go))) .go))))) (lp [(0,.one (.ref 1)),rf 2,rf 3,ni 6] [bx 1 .Dice,(1002,.box [.nul,.nul]),(1003,.box [.own 1042,.own 1099]),ar 1042 .Team,ar 1099 .Policy] (.two .go (.two (.one (.two .go (lp [(0,.one (.ref 1)),rf 2,rf 3,ni 6,rf 7,ni 8] [bx 1 .Dice,(1002,.box [.nul,.nul]),(1003,.box [.own 1042,.own 1099]),(1007,.box [.str,.own 1093,kI]),ar 1042 .Team,ar 1099 .Policy,ar 1093 .PolicyStep] (.two .go (.two (.one (.two .go (lp [(0,.one (.ref 1)),rf 2,rf 3,ni 6,rf 7,ni 8,rf 9,ni 10] [bx 1 .Dice,(1002,.box [.nul,.nul]),(1003,.box [.own 1042,.own 1099]),(1007,.box [.str,.own 1093,kI]),(1009,.box [kI,.boo,.own 1087]),ar 1042 .Team,ar 1099 .Policy,ar 1093 .PolicyStep,ar 1087 .Target] .go))) .go))))) .go))))) kz19 (eC (Q9 u) (eC (Ym u) (eC (QbG u) (eC (Qcx u) eN)))) Tryz.func39
def Qeh:Option Bool:=optc (Qdy u []) fun k=>optc (WL u k) fun(l,q)=>optc (Qdy u []) fun m=>optc (WK u m) fun(n,r)=>optc (QjP u l n) fun(e,s)=>optc (Wc u e 0 1 864000) fun(o,p)=>optc (Yt u e o) fun(a,f)=>optc (Wc u a 1 2 864000) fun(b,g)=>optc (Yt u a b) fun(c,h)=>cd (p=0) (cd (f=0) (cd (g=0) (cd (h=0) (cd (b.Fence=2) (optc (Wd u c (D.Op.mk 3 3 0 1 864000 0 0 0 0 (D.Answer.mk 0 0 0 0 0 0) (D.Edit.mk 0 0 0 0 0))) fun i=>cnd i (optc (Wd u c (D.Op.mk 3 2 0 2 864000 0 0 0 0 (D.Answer.mk 0 0 0 0 0 0) (D.Edit.mk 0 0 0 0 0))) fun j=>cnd j sT sF) sF) sF) sF) sF) sF) sF
theorem QlR:FO 9 (sB [] fun x=>Qeh u):=fI u .go kz0 (eC (Qhv u) (eC (Qe0 u) (eC (Qbx u) (eC (Qe1 u) (eC (Qk2 u) (eC (QbW u) (eC (QbV u) eN))))))) Tryz.func9
def Wl(v:D.Ledger)(w:Int):Option (List D.Start):=join (Y:=(Unit×List D.Start×Unit)) (fun(_,y,_)=>some y) fun k=>Qh (X:=((Int×Int×Unit)×D.Ledger×List D.Start×Unit)) (fun z ((A,l,_),i,j,_)=>join (Y:=((Int×Int×Unit)×D.Ledger×List D.Start×Unit)) (fun((g,b,_),c,a,_)=>join (Y:=((Int×Int×Unit)×D.Ledger×List D.Start×Unit)) (fun((m,n,_),o,p,_)=>z ((m,(wrap .i64 (n+1)),()),o,p,())) fun e=>atc c.Pages b fun q=>optc (QfD u q) fun(f,r)=>cnd r (cd (f≤g) (atc c.Pages b fun h=>lec (a.length+[(D.Start.mk h.ID f [])].length) 34359738368 (e ((g,b,()),c,(a++[(D.Start.mk h.ID f [])]),()))) (e ((g,b,()),c,a,()))) (e ((g,b,()),c,a,()))) fun s=>cd (l<(i.Pages.length:Int)) (optc (YM u i) fun t=>cnd t (s ((A,l,()),i,j,())) (k ((),j,()))) (k ((),j,()))) u ((w,0,()),v,[],())
theorem Qe4:FO 20 (Qf [.st .Ledger,nI] [] [.one (.lst .Start)] [] [] (List D.Start) kz1 (fun x y=>Wl u x.1 x.2.1)):=fI u (gs 2 (.two (.join [(5,.one (.own 1045))] [ar 1045 .Start] (.two .go (.one (.loop [ni 1,rf 2,(5,.one (.own 1045)),ni 6] [bx 1002 .Ledger,ar 1045 .Start] (.two (.join [ni 1,rf 2,(5,.one (.own 1045)),ni 6] [bx 1002 .Ledger,ar 1045 .Start] .go) (.two (.join [ni 1,rf 2,(5,.one (.own 1045)),ni 6] [bx 1002 .Ledger,ar 1045 .Start] .go) .go)))))) .go)) kz0 (eC (Vl u) (eC (Qb5 u) eN)) Tryz.func20
def WW(k:D.Dice)(b:Int)(c:Int)(e:Int):Option (D.Answer×D.Dice):=optc (Qd u k 5) fun(f,l)=>optc (Qd u l 5) fun(a,g)=>join (Y:=(Unit×D.Answer×D.Answer×D.Dice×Unit)) (fun(_,q,m,n,_)=>some (m,n)) fun h=>cd ((wrap .i64 (1+a))=3) (optc (QO u g [1,60,600,5000]) fun(o,p)=>h ((),(D.Answer.mk 0 0 0 0 0 0),(D.Answer.mk b c (wrap .i64 (f - 1)) (wrap .i64 (1+a)) o e),p,())) (cd ((wrap .i64 (1+a))=4) (optc (Qd u g 4) fun(i,j)=>h ((),(D.Answer.mk 0 0 0 0 0 0),(D.Answer.mk b c (wrap .i64 (f - 1)) (wrap .i64 (1+a)) i e),j,())) (h ((),(D.Answer.mk 0 0 0 0 0 0),(D.Answer.mk b c (wrap .i64 (f - 1)) (wrap .i64 (1+a)) 0 e),g,())))
theorem Qfp:FO 59 (Qf [.one (.ref 1),nI,nI,nI] [bx 1 .Dice] [.st .Answer] [bx 1 .Dice] [] (D.Answer×D.Dice) kz17 (fun x y=>WW u y.1 x.1 x.2.1 x.2.2.1)):=fI u (gs 2 (.two (.join [rf 8,rf 9] [bx 1008 .Answer,bx 1009 .Answer,bx 1 .Dice] .go) .go)) kz19 (eC (Q9 u) (eC (Ym u) eN)) Tryz.func59
def UF(p0:D.Dice)(f:D.Ledger)(i:Int)(g:Int):Option (D.Op×D.Dice):=optc (Qd u p0 5) fun(e,a1)=>optc (Qd u a1 3) fun(k,a3)=>optc (Qd u a3 3) fun(p,j)=>join (Y:=(Unit×D.Op×D.Op×D.Dice×Unit)) (fun(_,a6,a7,a8,_)=>some (a7,a8)) fun h=>cd ((wrap .i64 (1+e))=1) (optc (Qd u j 2) fun(F,G)=>optc (Qd u G (wrap .i64 ((wrap .i64 ((f.Book.Policies.length:Int)+1)) - F))) fun(H,I)=>h ((),(D.Op.mk 0 0 0 0 0 0 0 0 0 (D.Answer.mk 0 0 0 0 0 0) (D.Edit.mk 0 0 0 0 0)),(D.Op.mk i (wrap .i64 (1+e)) k f.Fence g (wrap .i64 (1+p)) 0 H 0 (D.Answer.mk 0 0 0 0 0 0) (D.Edit.mk 0 0 0 0 0)),I,())) (cd ((wrap .i64 (1+e))=2) (optc (QO u j [1,1,1,0]) fun(J,L)=>h ((),(D.Op.mk 0 0 0 0 0 0 0 0 0 (D.Answer.mk 0 0 0 0 0 0) (D.Edit.mk 0 0 0 0 0)),(D.Op.mk i (wrap .i64 (1+e)) k (wrap .i64 (f.Fence+J)) g 0 0 0 0 (D.Answer.mk 0 0 0 0 0 0) (D.Edit.mk 0 0 0 0 0)),L,())) (cd ((wrap .i64 (1+e))=3) (join (Y:=((Int×Int×Unit)×D.Dice×D.Ledger×D.Op×D.Op×Unit)) (fun((q,r,_),O,s,t,c,_)=>join (Y:=((Int×Int×Unit)×D.Dice×D.Ledger×D.Op×D.Op×Unit)) (fun((S,W,_),v,l,w,b,_)=>join (Y:=(Unit×D.Ledger×D.Op×D.Op×D.Dice×Unit)) (fun(_,Z,m,a,n,_)=>optc (QcJ u Z a.Page) fun(y,a9)=>cnd a9 (cd (y.State=2) (h ((),m,(D.Op.mk a.ID a.Kind a.Region a.Fence a.At a.Page (-1) a.Policy a.Schedule a.Answer a.Edit),n,())) (h ((),m,(D.Op.mk a.ID a.Kind a.Region a.Fence a.At a.Page y.Next a.Policy a.Schedule a.Answer a.Edit),n,()))) (h ((),m,a,n,()))) fun z=>optc (Wl u l S) fun o=>cd (0<(o.length:Int)) (optc (Qd u v (o.length:Int)) fun(aA,aB)=>atc o aA fun aC=>z ((),l,w,(D.Op.mk b.ID b.Kind b.Region b.Fence b.At aC.K b.K b.Policy b.Schedule b.Answer b.Edit),aB,())) (z ((),l,w,(D.Op.mk b.ID b.Kind b.Region b.Fence b.At W b.K b.Policy b.Schedule b.Answer b.Edit),v,()))) fun A=>optc (Qd u O 8) fun(aD,B)=>cd (aD=0) (optc (Qd u B 3) fun(aE,aF)=>A ((q,r,()),aF,s,t,(D.Op.mk c.ID c.Kind c.Region aE c.At c.Page c.K c.Policy c.Schedule c.Answer c.Edit),())) (A ((q,r,()),B,s,t,c,()))) fun C=>optc (Qd u j 6) fun(aG,E)=>cd (aG=0) (optc (Qd u E 3) fun(aH,aI)=>C ((g,(wrap .i64 (1+p)),()),aI,f,(D.Op.mk 0 0 0 0 0 0 0 0 0 (D.Answer.mk 0 0 0 0 0 0) (D.Edit.mk 0 0 0 0 0)),(D.Op.mk i (wrap .i64 (1+e)) aH f.Fence g 0 0 0 0 (D.Answer.mk 0 0 0 0 0 0) (D.Edit.mk 0 0 0 0 0)),())) (C ((g,(wrap .i64 (1+p)),()),E,f,(D.Op.mk 0 0 0 0 0 0 0 0 0 (D.Answer.mk 0 0 0 0 0 0) (D.Edit.mk 0 0 0 0 0)),(D.Op.mk i (wrap .i64 (1+e)) (max f.Owner 0) f.Fence g 0 0 0 0 (D.Answer.mk 0 0 0 0 0 0) (D.Edit.mk 0 0 0 0 0)),()))) (cd ((wrap .i64 (1+e))=4) (optc (Qd u j 30) fun(aJ,aK)=>optc (WW u aK (wrap .i64 (1+aJ)) (wrap .i64 (1+p)) g) fun(aL,aM)=>h ((),(D.Op.mk 0 0 0 0 0 0 0 0 0 (D.Answer.mk 0 0 0 0 0 0) (D.Edit.mk 0 0 0 0 0)),(D.Op.mk i (wrap .i64 (1+e)) k f.Fence g 0 0 0 0 aL (D.Edit.mk 0 0 0 0 0)),aM,())) (cd ((wrap .i64 (1+e))=5) (optc (Qd u j 3) fun(aN,aO)=>optc (Y0 u aO) fun(aP,aQ)=>h ((),(D.Op.mk 0 0 0 0 0 0 0 0 0 (D.Answer.mk 0 0 0 0 0 0) (D.Edit.mk 0 0 0 0 0)),(D.Op.mk i (wrap .i64 (1+e)) k f.Fence g 0 0 0 aN (D.Answer.mk 0 0 0 0 0 0) aP),aQ,())) (h ((),(D.Op.mk 0 0 0 0 0 0 0 0 0 (D.Answer.mk 0 0 0 0 0 0) (D.Edit.mk 0 0 0 0 0)),(D.Op.mk i (wrap .i64 (1+e)) k f.Fence g 0 0 0 0 (D.Answer.mk 0 0 0 0 0 0) (D.Edit.mk 0 0 0 0 0)),j,()))))))
theorem Qdx:FO 33 (Qf [.one (.ref 1),.st .Ledger,nI,nI] [bx 1 .Dice] [.st .Op] [bx 1 .Dice] [] (D.Op×D.Dice) kz17 (fun x y=>UF u y.1 x.1 x.2.1 x.2.2.1)):=fI u (gs 3 (.two (.join [rf 8,rf 9] [bx 1008 .Op,bx 1009 .Op,bx 1 .Dice] (.two .go (.one (gs 5 (.two (.two .go (.two (.join [(0,.one (.ref 1)),ni 3,rf 5,rf 8,rf 9,ni 10] [bx 1 .Dice,bx 1005 .Ledger,bx 1008 .Op,bx 1009 .Op] .go) (.two (.join [(0,.one (.ref 1)),ni 3,rf 5,rf 8,rf 9,ni 10] [bx 1 .Dice,bx 1005 .Ledger,bx 1008 .Op,bx 1009 .Op] .go) (.two .go (.two (.join [rf 5,rf 8,rf 9] [bx 1005 .Ledger,bx 1008 .Op,bx 1009 .Op,bx 1 .Dice] .go) .go))))) .go))))) .go)) kz19 (eC (Q9 u) (eC (Qe4 u) (eC (Ym u) (eC (QfE u) (eC (Qfp u) (eC (UG u) eN)))))) Tryz.func33
def Us(p0:D.Dice)(t:D.Ledger)(p2:Int):Option (D.Ledger×List D.Op×D.Dice):=Qh (X:=(P4×D.Dice×D.Ledger×P3×Unit)) (fun L0 ((v,w,y,s,_),z,i,(A,B,C,_),_)=>cd (s<(i.Seen.length:Int)) (atc i.Seen s fun E=>L0 ((v,w,(max y (wrap .i64 (E+1))),(wrap .i64 (s+1)),()),z,i,(A,B,C,()),())) (optc (Qd u z (wrap .i64 (v+1))) fun(F,G)=>Qh (X:=(P3×D.Dice×D.Ledger×P3×List D.Op×Unit)) (fun H ((b,c,e,_),j,a,(k,l,m,_),f,_)=>cd (0<e) (optc (QO u j [0,10,60,300,700]) fun(g,I)=>optc (UF u I a c (wrap .i64 (b+g))) fun(h,n)=>join (Y:=(P3×D.Dice×D.Ledger×P3×D.Op×List D.Op×Unit)) (fun((J,L,O,_),S,W,(Z,a0,aA,_),o,p,_)=>lec (p.length+[o].length) 34359738368 (H ((J,L,(wrap .i64 (O - 1)),()),S,W,(Z,a0,aA,()),(p++[o]),()))) fun q=>optc (Yt u a h) fun(r,aC)=>optc (YM u r) fun aB=>cnd aB (q (((wrap .i64 (b+g)),(wrap .i64 (c+1)),e,()),n,r,(k,l,m,()),h,f,())) (q (((wrap .i64 (b+g)),(wrap .i64 (c+1)),e,()),n,a,(k,l,m,()),h,f,()))) (some (a,f,j))) u ((w,y,F,()),G,i,(A,B,C,()),[],()))) u ((p2,(max t.Now 864000),1,0,()),p0,t,(0,0,0,()),())
theorem QgX:FO 40 (Qf [.one (.ref 1),.st .Ledger,nI] [bx 1 .Dice] [.st .Ledger,.one (.lst .Op)] [bx 1 .Dice] [] (D.Ledger×List D.Op×D.Dice) kz18 (fun x y=>Us u y.1 x.1 x.2.1)):=fI u (gs 4 (.two (.two .go (.one (.loop [(0,.one (.ref 1)),ni 2,rf 4,rf 6,(8,.one .nul),ni 9,ni 10,ni 11] [bx 1 .Dice,bx 1004 .Ledger,(1006,.box bK4)] .go))) (lp [(0,.one (.ref 1)),rf 4,rf 6,(8,.one (.own 1066)),ni 9,ni 10,ni 12] [bx 1 .Dice,bx 1004 .Ledger,(1006,.box bK4),ar 1066 .Op] (.two .go (.two (.one (gs 3 (.two (.join [(0,.one (.ref 1)),rf 4,rf 6,(8,.one (.own 1066)),ni 9,ni 10,ni 12,rf 13] [bx 1 .Dice,bx 1004 .Ledger,(1006,.box bK4),bx 1013 .Op,ar 1066 .Op] .go) .go))) .go))))) kz20 (eC (Q9 u) (eC (Qbx u) (eC (Ym u) (eC (Qdx u) (eC (Vl u) eN))))) Tryz.func40
def WX(a:D.Dice)(b:Int):Option (D.Ledger×List D.Op×D.Dice):=optc (WL u a) fun(c,e)=>optc (WK u e) fun(f,g)=>optc (QjP u c f) fun(h,l)=>optc (Us u g h b) fun(i,j,k)=>some (i,j,k)
theorem Qfq:FO 11 (Qf [.one (.ref 1),nI] [bx 1 .Dice] [.st .Ledger,.one (.lst .Op)] [bx 1 .Dice] [] (D.Ledger×List D.Op×D.Dice) kz18 (fun x y=>WX u y.1 x.1)):=fI u .go kz20 (eC (Qk2 u) (eC (QbW u) (eC (QbV u) (eC (QgX u) eN)))) Tryz.func11
def Xi(k:List Int):Option (Nat×Nat×List Int):=cd ((k.length:Int)<2) (some (0,k.length,k)) (Qh (X:=((Int×Unit)×List Int×Unit)) (fun E ((h,_),c,_)=>cd (h<(c.length:Int)) (natc h fun q=>ltc q c.length (optc c[q]? fun F=>natc (wrap .i64 (h - 1)) fun r=>ltc r c.length (optc c[r]? fun G=>cd (F=G) (natc h fun s=>lec s c.length (Qh (X:=((Int×Nat×Nat×Int×Unit)×List Int×Unit)) (fun H ((i,b,e,f,_),a,_)=>cd (f<(((e - b):Nat):Int)) (join (Y:=((Int×Nat×Nat×Int×Unit)×List Int×Unit)) (fun((t,v,w,y,_),z,_)=>H ((t,v,w,(wrap .i64 (y+1)),()),z,())) fun l=>natc f fun m=>ltc m (e - b) (optc (GetElem?.getElem? a (b+m)) fun A=>natc (wrap .i64 (f - 1)) fun n=>ltc n (e - b) (optc (GetElem?.getElem? a (b+n)) fun B=>cd (A≠B) (natc f fun o=>ltc o (e - b) (optc (GetElem?.getElem? a (b+o)) fun C=>natc i fun j=>ltc j a.length (optc a[j]? fun I=>l (((wrap .i64 (i+1)),b,e,f,()),(List.set a j C),())))) (l ((i,b,e,f,()),a,()))))) (natc i fun g=>lec g a.length (lec g a.length (lec a.length a.length (natc i fun p=>lec p (((List.take g a)++(List.replicate (a.length - g) 0))++(List.drop a.length a)).length (some (0,p,(((List.take g a)++(List.replicate (a.length - g) 0))++(List.drop a.length a))))))))) u ((h,s,c.length,1,()),c,()))) (E (((wrap .i64 (h+1)),()),c,()))))) (some (0,c.length,c))) u ((1,()),k,()))
theorem QcP:FO 48 (Qf [.one (.own 101)] [ar 101 .int] [.one (.view 101)] [ar 101 .int] [] (Nat×Nat×List Int) kz18 (fun x y=>Xi u y.1)):=fI u (gs 2 (lp [(0,.one (.own 101)),ni 3] [ar 101 .int] (.two .go (.two (.one (.two .go (.two (.two .go (lp [(0,.one (.own 101)),ni 3,(4,.one (.view 101)),ni 5] [ar 101 .int] (.two .go (.two (.join [(0,.one (.own 101)),ni 3,(4,.one (.view 101)),ni 5] [ar 101 .int] .go) .go)))) .go))) .go)))) kz20 eN Tryz.func48
def Vi(b:D.Ledger):Option (List Int):=optc (ZP u b) fun j=>cnd (!j) (some []) (Qh (X:=((List D.Call×Int×Int×Unit)×List Int×Unit)) (fun k ((e,f,c,_),a,_)=>cd (c<f) (atc e c fun g=>lec (a.length+[g.Fence].length) 34359738368 (k ((e,f,(wrap .i64 (c+1)),()),(a++[g.Fence]),()))) (optc (QL u a) fun h=>chk h.length a.length (optc (Xi u h) fun(l,m,i)=>some (List.drop l (List.take m i))))) u ((b.Calls,(b.Calls.length:Int),0,()),[],()))
theorem Qju:FO 16 (Qf [.st .Ledger] [] [lI] [] [] (List Int) kz1 (fun x y=>Vi u x.1)):=fI u (gs 3 (lp [(3,.one (.own 1020)),li 10 .Call,ni 11,ni 12] [ar 1020 .int] .go)) kz0 (eC (WM u) (eC (UN u) (eC (QcP u) eN))) Tryz.func16
def VP(a:D.Ledger)(b:Int)(c:Int)(e:Int):Option (D.Op×Int):=join (Y:=(P3×D.Ledger×D.Op×Unit)) (fun((f,g,h,_),i,o,_)=>some ((D.Op.mk g 2 f (wrap .i64 (i.Fence+1)) h 0 0 0 0 (D.Answer.mk 0 0 0 0 0 0) (D.Edit.mk 0 0 0 0 0)),0)) fun j=>optc (YM u a) fun k=>cnd (!k) (some ((D.Op.mk 0 0 0 0 0 0 0 0 0 (D.Answer.mk 0 0 0 0 0 0) (D.Edit.mk 0 0 0 0 0)),8)) (optc (Q5 u b 0 4) fun l=>cnd l (optc (Q5 u c 1 1099511627776) fun m=>cnd m (optc (Q5 u e 0 8589934592) fun n=>cnd n (cd (a.Fence=1048576) (some ((D.Op.mk 0 0 0 0 0 0 0 0 0 (D.Answer.mk 0 0 0 0 0 0) (D.Edit.mk 0 0 0 0 0)),5)) (j ((b,c,e,()),a,(D.Op.mk 0 0 0 0 0 0 0 0 0 (D.Answer.mk 0 0 0 0 0 0) (D.Edit.mk 0 0 0 0 0)),()))) (some ((D.Op.mk 0 0 0 0 0 0 0 0 0 (D.Answer.mk 0 0 0 0 0 0) (D.Edit.mk 0 0 0 0 0)),1))) (some ((D.Op.mk 0 0 0 0 0 0 0 0 0 (D.Answer.mk 0 0 0 0 0 0) (D.Edit.mk 0 0 0 0 0)),1))) (some ((D.Op.mk 0 0 0 0 0 0 0 0 0 (D.Answer.mk 0 0 0 0 0 0) (D.Edit.mk 0 0 0 0 0)),1)))
theorem QdR:FO 28 (Qf [.st .Ledger,nI,nI,nI] [] [.st .Op,nI] [] [] (D.Op×Int) kz3 (fun x y=>VP u x.1 x.2.1 x.2.2.1 x.2.2.2.1)):=fI u (.two .go (.two (.join [ni 1,ni 2,ni 3,rf 4,rf 8] [bx 1004 .Ledger,bx 1008 .Op] .go) .go)) kz4 (eC (Vl u) (eC (Wj u) eN)) Tryz.func28
def Wu(b:D.Dice)(i:D.Ledger)(j:Int):Option D.Ledger:=Qh (X:=(P3×D.Ledger×D.Ledger×D.Dice×Unit)) (fun k ((f,g,c,_),a,l,e,_)=>cd (c<(a.Seen.length:Int)) (atc a.Seen c fun m=>k ((f,(max g (wrap .i64 (m+1))),(wrap .i64 (c+1)),()),a,l,e,())) (optc (VP u a f g a.Now) fun(n,o)=>cd (o≠0) (sameC e b (some a)) (optc (Yt u a n) fun(h,p)=>sameC e b (some h)))) u ((j,1,0,()),i,(D.Ledger.mk 0 (D.Config.mk [] [] [] []) (D.Book.mk [] []) [] 0 0 [] []),b,())
theorem QeJ:FO 18 (Qf [.one (.ref 1),.st .Ledger,nI] [bx 1 .Dice] [.st .Ledger] [] [1] D.Ledger kz1 (fun x y=>Wu u y.1 x.1 x.2.1)):=fI u (gs 2 (lp [ni 2,rf 4,rf 6,ni 7,ni 8] [bx 1004 .Ledger,bx 1006 .Ledger,bx 1 .Dice] .go)) kz0 (eC (Qbx u) (eC (QdR u) eN)) Tryz.func18
def VG(j:D.Ledger)(n:Int):Option (List D.Start):=optc (ZP u j) fun o=>cnd (!o) (some []) (Qh (X:=((Int×List D.Page×Int×Int×Unit)×List D.Start×Unit)) (fun p ((g,h,i,a,_),b,_)=>cd (a<i) (join (Y:=((Int×List D.Page×Int×Int×Unit)×List D.Start×Unit)) (fun((q,r,s,k,_),l,_)=>p ((q,r,s,(wrap .i64 (k+1)),()),l,())) fun c=>atc h a fun e=>optc (X9 u e) fun(f,m)=>cnd m (cd (f≤g) (lec (b.length+[(D.Start.mk e.ID f [])].length) 34359738368 (c ((g,h,i,a,()),(b++[(D.Start.mk e.ID f [])]),()))) (c ((g,h,i,a,()),b,()))) (c ((g,h,i,a,()),b,()))) (some b)) u ((n,j.Pages,(j.Pages.length:Int),0,()),[],()))
theorem QhN:FO 49 (Qf [.st .Ledger,nI] [] [.one (.lst .Start)] [] [] (List D.Start) kz1 (fun x y=>VG u x.1 x.2.1)):=fI u (gs 3 (lp [ni 1,(5,.one (.own 1037)),li 14 .Page,ni 15,ni 16] [ar 1037 .Start] (gs 2 (.two (.join [ni 1,(5,.one (.own 1037)),li 14 .Page,ni 15,ni 16] [ar 1037 .Start] .go) .go)))) kz0 (eC (WM u) (eC (VB u) eN)) Tryz.func49
def Qau(a:D.Ledger)(b:Int):Option (D.Page×Bool):=optc (Qg1 u a b) fun(c,e)=>cnd (!e) (some ((D.Page.mk 0 0 0 0 0 0 0 0 0 0 0 [] [] []),false)) (atc a.Pages c fun f=>optc (Qav u f) fun g=>some (g,true))
theorem Qgf:FO 50 (Qf [.st .Ledger,nI] [] [.st .Page,.one .boo] [] [] (D.Page×Bool) kz3 (fun x y=>Qau u x.1 x.2.1)):=fI u .go kz4 (eC (Ql3 u) (eC (Qgg u) eN)) Tryz.func50
def Vk(k:D.Ledger)(q:Int)(r:Int)(t:Int):Option (List D.Op):=join (Y:=(P3×D.Ledger×Unit)) (fun((J,L,v,_),w,_)=>optc (VG u w v) fun y=>Qh (X:=((Int×Int×Int×List D.Start×Int×Int×Unit)×D.Ledger×List D.Op×Unit)) (fun O ((z,A,B,s,c,a,_),e,f,_)=>cd (a<c) (atc s a fun C=>optc (Qau u e C.K) fun(b,S)=>join (Y:=((Int×Int×Int×Int×Int×List D.Start×Int×Int×Unit)×D.Ledger×D.Page×List D.Op×Unit)) (fun((g,h,i,l,m,E,F,G,_),j,n,o,_)=>lec (o.length+[(D.Op.mk (wrap .i64 (h+l)) 3 g j.Fence i n.ID m 0 0 (D.Answer.mk 0 0 0 0 0 0) (D.Edit.mk 0 0 0 0 0))].length) 34359738368 (O ((g,h,i,E,F,(wrap .i64 (G+1)),()),j,(o++[(D.Op.mk (wrap .i64 (h+l)) 3 g j.Fence i n.ID m 0 0 (D.Answer.mk 0 0 0 0 0 0) (D.Edit.mk 0 0 0 0 0))]),()))) fun p=>cd (b.State=2) (p ((z,A,B,a,(-1),s,c,a,()),e,b,f,())) (p ((z,A,B,a,b.Next,s,c,a,()),e,b,f,()))) (some f)) u ((J,L,v,y,(y.length:Int),0,()),w,[],())) fun H=>optc (W7 u k q r t) fun I=>cd (I≠0) (some []) (cd (q≠k.Owner) (some []) (cd (1099511627776<(wrap .i64 (r+(k.Pages.length:Int)))) (some []) (H ((q,r,t,()),k,()))))
theorem Qjv:FO 19 (Qf [.st .Ledger,nI,nI,nI] [] [.one (.lst .Op)] [] [] (List D.Op) kz1 (fun x y=>Vk u x.1 x.2.1 x.2.2.1 x.2.2.2.1)):=fI u (.two .go (.two (.join [ni 1,ni 2,ni 3,rf 4] [bx 1004 .Ledger] .go) (.two .go (lp [ni 1,ni 2,ni 3,rf 4,(9,.one (.own 1069)),li 37 .Start,ni 38,ni 39] [bx 1004 .Ledger,ar 1069 .Op] (gs 2 (.two (.one (gs 3 (.two (.join [ni 1,ni 2,ni 3,rf 4,(9,.one (.own 1069)),ni 10,rf 12,ni 14,li 37 .Start,ni 38,ni 39] [bx 1004 .Ledger,bx 1012 .Page,ar 1069 .Op] .go) .go))) .go)))))) kz0 (eC (Qe2 u) (eC (QhN u) (eC (Qgf u) eN))) Tryz.func19
def WZ(u:Nat)(a:D.fence)(b:D.Ledger):Option Bool:=cd (a.region=b.Owner) (cd (a.number=b.Fence) sT sF) sF
theorem Qfu:FO 52 (sB [.st .fence,.st .Ledger] fun x=>WZ u x.1 x.2.1):=fI u .go kz0 eN Tryz.func52
def Vj(i:D.Ledger)(k:Int)(s:Int):Option (List D.Call):=join (Y:=(Unit×D.Ledger×Unit)) (fun(_,j,_)=>Qh (X:=((List D.Call×Int×Int×Unit)×D.Ledger×List D.Call×Unit)) (fun t ((f,g,a,_),h,b,_)=>cd (a<g) (join (Y:=((List D.Call×Int×Int×Unit)×D.Ledger×List D.Call×Unit)) (fun((v,w,y,_),l,m,_)=>t ((v,w,(wrap .i64 (y+1)),()),l,m,())) fun c=>atc f a fun e=>optc (Qau u h e.Page) fun(n,o)=>cnd o (cd (n.State=0) (lec (b.length+[e].length) 34359738368 (c ((f,g,a,()),h,(b++[e]),()))) (c ((f,g,a,()),h,b,()))) (c ((f,g,a,()),h,b,()))) (some b)) u ((j.Calls,(j.Calls.length:Int),0,()),j,[],())) fun p=>cd (k<0) (some []) (optc (ZP u i) fun q=>cnd q (optc (WZ u (D.fence.mk k s) i) fun r=>cnd r (p ((),i,())) (some [])) (some []))
theorem Qgi:FO 21 (Qf [.st .Ledger,nI,nI] [] [.one (.lst .Call)] [] [] (List D.Call) kz1 (fun x y=>Vj u x.1 x.2.1 x.2.2.1)):=fI u (.two .go (.two (.join [rf 3] [bx 1003 .Ledger] .go) (.two .go (lp [rf 3,(7,.one (.own 1050)),li 28 .Call,ni 29,ni 30] [bx 1003 .Ledger,ar 1050 .Call] (gs 2 (.two (.join [rf 3,(7,.one (.own 1050)),li 28 .Call,ni 29,ni 30] [bx 1003 .Ledger,ar 1050 .Call] .go) .go)))))) kz0 (eC (WM u) (eC (Qgf u) (eC (Qfu u) eN))) Tryz.func21
def QaI(u:Nat)(a:Int)(b:Int)(c:Int):Option Bool:=cd (b≤a) (cd (a≤c) sT sF) sF
theorem QeV:FO 132 (sB [nI,nI,nI] fun x=>QaI u x.1 x.2.1 x.2.2.1):=fI u .go kz0 eN Tryz.func132
def QaJ(a:Int):Option Bool:=optc (QaI u a 0 31) fun b=>some b
theorem QfU:FO 131 (sB [nI] fun x=>QaJ u x.1):=fI u .go kz0 (eC (QeV u) eN) Tryz.func131
def UQ(a:D.Contact):Option Bool:=cd (1≤a.Page) (cd ((-1)≤a.Step) (optc (QaJ u a.Person) fun b=>cnd b (optc (QaI u a.Start 0 8589934592) fun c=>cnd c sT sF) sF) sF) sF
theorem Qfe:FO 83 (sB [.st .Contact] fun x=>UQ u x.1):=fI u .go kz0 (eC (QfU u) (eC (QeV u) eN)) Tryz.func83
def Qbe(a:Int)(b:Int)(c:Int)(e:Int):Option (D.Contact×Int):=optc (UQ u (D.Contact.mk a b c e 0 (-1))) fun f=>cnd (!f) (some ((D.Contact.mk 0 0 0 0 0 0),1)) (some ((D.Contact.mk a b c e 0 (-1)),0))
theorem QiU:FO 53 (Qf [nI,nI,nI,nI] [] [.st .Contact,nI] [] [] (D.Contact×Int) kz3 (fun x y=>Qbe u x.1 x.2.1 x.2.2.1 x.2.2.2.1)):=fI u .go kz4 (eC (Qfe u) eN) Tryz.func53
def XT(i:D.Ledger)(j:Int)(k:Int):Option (List D.Contact):=optc (Vj u i j k) fun e=>Qh (X:=((List D.Call×Int×Int×Unit)×List D.Contact×Unit)) (fun l ((f,g,b,_),c,_)=>cd (b<g) (atc f b fun a=>optc (Qbe u a.Page a.K a.Person a.At) fun(h,m)=>lec (c.length+[h].length) 34359738368 (l ((f,g,(wrap .i64 (b+1)),()),(c++[h]),()))) (some c)) u ((e,(e.length:Int),0,()),[],())
theorem Qg5:FO 22 (Qf [.st .Ledger,nI,nI] [] [.one (.lst .Contact)] [] [] (List D.Contact) kz1 (fun x y=>XT u x.1 x.2.1 x.2.2.1)):=fI u (gs 2 (lp [(7,.one (.own 1036)),li 15 .Call,ni 16,ni 17] [ar 1036 .Contact] .go)) kz0 (eC (Qgi u) (eC (QiU u) eN)) Tryz.func22
def QjM(a:Int)(b:Int)(c:Int)(e:Int):Option Bool:=cd (1≤a) (cd ((-1)≤b) (optc (Q5 u c 0 31) fun f=>cnd f (optc (Q5 u e 0 8589934592) fun g=>cnd g sT sF) sF) sF) sF
theorem Qoj:FO 54 (sB [nI,nI,nI,nI] fun x=>QjM u x.1 x.2.1 x.2.2.1 x.2.2.2.1):=fI u .go kz0 (eC (Wj u) eN) Tryz.func54
def Qmp(a:Int)(b:Int)(c:Int)(e:Int):Option (D.Contact×Int):=optc (QjM u a b c e) fun f=>cnd (!f) (some ((D.Contact.mk 0 0 0 0 0 0),1)) (some ((D.Contact.mk a b c e 0 (-1)),0))
theorem QrA:FO 23 (Qf [nI,nI,nI,nI] [] [.st .Contact,nI] [] [] (D.Contact×Int) kz3 (fun x y=>Qmp u x.1 x.2.1 x.2.2.1 x.2.2.2.1)):=fI u .go kz4 (eC (Qoj u) eN) Tryz.func23
def Qie(c:List Int)(e:List Int):Option Bool:=cd ((c.length:Int)≠(e.length:Int)) sF (Qh (X:=((List Int×List Int×Int×Unit)×Unit)) (fun g ((b,f,a,_),_)=>cd (a<(b.length:Int)) (atc b a fun h=>atc f a fun i=>cd (h≠i) sF (g ((b,f,(wrap .i64 (a+1)),()),()))) sT) u ((c,e,0,()),()))
theorem QpD:FO 35 (sB [lI,lI] fun x=>Qie u x.1 x.2.1):=fI u (gs 2 (lp [(0,lI),(1,lI),ni 5] [] .go)) kz0 eN Tryz.func35
def Qan(f:List D.Call)(g:List D.Call):Option Bool:=cd ((f.length:Int)≠(g.length:Int)) sF (Qh (X:=((List D.Call×List D.Call×Int×Unit)×Unit)) (fun i ((e,h,c,_),_)=>cd (c<(e.length:Int)) (atc e c fun a=>atc h c fun b=>cd ([a.Page,a.K,a.At,a.Person,a.Fence]≠[b.Page,b.K,b.At,b.Person,b.Fence]) sF (i ((e,h,(wrap .i64 (c+1)),()),()))) sT) u ((f,g,0,()),()))
theorem QhS:FO 25 (sB [.one (.lst .Call),.one (.lst .Call)] fun x=>Qan u x.1 x.2.1):=fI u (gs 2 (lp [li 0 .Call,li 1 .Call,ni 5] [] .go)) kz0 eN Tryz.func25
def Qeg(e:List D.Op)(f:List D.Op):Option Bool:=cd ((e.length:Int)≠(f.length:Int)) sF (Qh (X:=((List D.Op×List D.Op×Int×Int×Unit)×Unit)) (fun j ((g,h,i,c,_),_)=>cd (c<i) (atc g c fun a=>atc h c fun b=>cd ([a.ID,a.Kind,a.Region,a.Fence,a.At,a.Page,a.K,a.Policy,a.Schedule,a.Answer.ID,a.Answer.Page,a.Answer.Person,a.Answer.Kind,a.Answer.Arg,a.Answer.At,a.Edit.Kind,a.Edit.A,a.Edit.B,a.Edit.From,a.Edit.To]≠[b.ID,b.Kind,b.Region,b.Fence,b.At,b.Page,b.K,b.Policy,b.Schedule,b.Answer.ID,b.Answer.Page,b.Answer.Person,b.Answer.Kind,b.Answer.Arg,b.Answer.At,b.Edit.Kind,b.Edit.A,b.Edit.B,b.Edit.From,b.Edit.To]) sF (j ((g,h,i,(wrap .i64 (c+1)),()),()))) sT) u ((e,f,(e.length:Int),0,()),()))
theorem QlQ:FO 29 (sB [.one (.lst .Op),.one (.lst .Op)] fun x=>Qeg u x.1 x.2.1):=fI u (gs 2 (lp [li 0 .Op,li 1 .Op,ni 12,ni 13] [] .go)) kz0 eN Tryz.func29
def Qay(k:D.Ledger)(r:Int)(s:Int)(t:Int):Option (List D.Op):=join (Y:=(P3×D.Ledger×Unit)) (fun((F,G,v,_),w,_)=>optc (Wl u w v) fun H=>Qh (X:=((Int×Int×Int×List D.Start×Int×Unit)×D.Ledger×List D.Op×Unit)) (fun I ((y,z,A,l,a,_),c,e,_)=>cd (a<(l.length:Int)) (atc l a fun B=>optc (QcJ u c B.K) fun(b,J)=>join (Y:=((Int×Int×Int×List D.Start×Int×Int×Unit)×D.Ledger×D.Page×List D.Op×Unit)) (fun((f,g,h,C,i,m,_),j,n,o,_)=>lec (o.length+[(D.Op.mk (wrap .i64 (g+i)) 3 f j.Fence h n.ID m 0 0 (D.Answer.mk 0 0 0 0 0 0) (D.Edit.mk 0 0 0 0 0))].length) 34359738368 (I ((f,g,h,C,(wrap .i64 (i+1)),()),j,(o++[(D.Op.mk (wrap .i64 (g+i)) 3 f j.Fence h n.ID m 0 0 (D.Answer.mk 0 0 0 0 0 0) (D.Edit.mk 0 0 0 0 0))]),()))) fun p=>cd (b.State=2) (p ((y,z,A,l,a,(-1),()),c,b,e,())) (p ((y,z,A,l,a,b.Next,()),c,b,e,()))) (some e)) u ((F,G,v,H,0,()),w,[],())) fun E=>optc (VP u k r s t) fun(L,q)=>cd (q=8) (some []) (cd (q=1) (some []) (cd (r≠k.Owner) (some []) (cd (1099511627776<(wrap .i64 (s+(k.Pages.length:Int)))) (some []) (E ((r,s,t,()),k,())))))
theorem Qmv:FO 30 (Qf [.st .Ledger,nI,nI,nI] [] [.one (.lst .Op)] [] [] (List D.Op) kz1 (fun x y=>Qay u x.1 x.2.1 x.2.2.1 x.2.2.2.1)):=fI u (.two .go (.two (.join [ni 1,ni 2,ni 3,rf 4] [bx 1004 .Ledger] .go) (gs 2 (lp [ni 1,ni 2,ni 3,rf 4,(11,.one (.own 1082)),li 12 .Start,ni 13] [bx 1004 .Ledger,ar 1082 .Op] (.two .go (.two (.one (gs 2 (.two (.join [ni 1,ni 2,ni 3,rf 4,(11,.one (.own 1082)),li 12 .Start,ni 13,rf 14,ni 16] [bx 1004 .Ledger,bx 1014 .Page,ar 1082 .Op] .go) .go))) .go)))))) kz0 (eC (Qe4 u) (eC (QdR u) (eC (QfE u) eN))) Tryz.func30
def Qby(e:D.Ledger)(h:Int)(m:Int):Option (List D.Call):=join (Y:=(Unit×D.Ledger×Unit)) (fun(_,n,_)=>Qh (X:=((Int×Unit)×D.Ledger×List D.Call×Unit)) (fun o ((b,_),a,c,_)=>cd (b<(a.Calls.length:Int)) (join (Y:=((Int×Unit)×D.Ledger×List D.Call×Unit)) (fun((p,_),q,r,_)=>o (((wrap .i64 (p+1)),()),q,r,())) fun g=>atc a.Calls b fun s=>optc (QcJ u a s.Page) fun(i,j)=>cnd j (cd (i.State=0) (atc a.Calls b fun f=>lec (c.length+[f].length) 34359738368 (g ((b,()),a,(c++[f]),()))) (g ((b,()),a,c,()))) (g ((b,()),a,c,()))) (some c)) u ((0,()),n,[],())) fun k=>optc (YM u e) fun l=>cnd l (cd (h≠e.Owner) (some []) (cd (m≠e.Fence) (some []) (cd (h<0) (some []) (k ((),e,()))))) (some [])
theorem QjR:FO 32 (Qf [.st .Ledger,nI,nI] [] [.one (.lst .Call)] [] [] (List D.Call) kz1 (fun x y=>Qby u x.1 x.2.1 x.2.2.1)):=fI u (.two .go (.two (.join [rf 3] [bx 1003 .Ledger] .go) (.two .go (lp [rf 3,(7,.one (.own 1061)),ni 8] [bx 1003 .Ledger,ar 1061 .Call] (.two .go (.two (.join [rf 3,(7,.one (.own 1061)),ni 8] [bx 1003 .Ledger,ar 1061 .Call] .go) .go)))))) kz0 (eC (Vl u) (eC (QfE u) eN)) Tryz.func32
def Vm(f:D.Ledger)(g:Int)(h:Int):Option (List D.Contact):=optc (Qby u f g h) fun i=>Qh (X:=((List D.Call×Int×Unit)×List D.Contact×Unit)) (fun j ((a,b,_),c,_)=>cd (b<(a.length:Int)) (atc a b fun k=>atc a b fun l=>atc a b fun m=>atc a b fun n=>optc (Qmp u k.Page l.K m.Person n.At) fun(e,o)=>lec (c.length+[e].length) 34359738368 (j ((a,(wrap .i64 (b+1)),()),(c++[e]),()))) (some c)) u ((i,0,()),[],())
theorem QjQ:FO 31 (Qf [.st .Ledger,nI,nI] [] [.one (.lst .Contact)] [] [] (List D.Contact) kz1 (fun x y=>Vm u x.1 x.2.1 x.2.2.1)):=fI u (gs 3 (lp [(7,.one (.own 1049)),li 8 .Call,ni 9] [ar 1049 .Contact] .go)) kz0 (eC (QrA u) (eC (QjR u) eN)) Tryz.func31
def Qb7(b:D.Ledger)(a:D.Op):Option Bool:=join (Y:=(Unit×D.Ledger×D.Op×Unit)) (fun(_,e,f,_)=>optc (Yt u e f) fun(h,g)=>some (decide (g=23))) fun c=>cd (a.Kind≠3) (cd (a.Kind≠2) sF (c ((),b,a,()))) (c ((),b,a,()))
theorem Qol:FO 34 (sB [.st .Ledger,.st .Op] fun x=>Qb7 u x.1 x.2.1):=fI u (.two .go (.two (.join [rf 2,rf 3] [bx 1002 .Ledger,bx 1003 .Op] .go) .go)) kz0 (eC (Qbx u) eN) Tryz.func34
def Qax(k:D.Ledger):Option (List Int):=join (Y:=((List Int×Unit)×Unit)) (fun((l,_),_)=>some l) fun c=>Qh (X:=((List Int×Int×Unit)×D.Ledger×Unit)) (fun m ((a,e,_),b,_)=>join (Y:=((List Int×Int×Unit)×D.Ledger×Unit)) (fun((n,f,_),g,_)=>atc g.Calls f fun o=>optc (Wv u n o.Fence) fun h=>m ((h,(wrap .i64 (f+1)),()),g,())) fun i=>cd (e<(b.Calls.length:Int)) (optc (YM u b) fun j=>cnd j (i ((a,e,()),b,())) (c ((a,()),()))) (c ((a,()),()))) u (([],0,()),k,())
theorem Qmu:FO 36 (Qf [.st .Ledger] [] [lI] [] [] (List Int) kz1 (fun x y=>Qax u x.1)):=fI u (gs 2 (.two (.join [(3,lI)] [] (.two .go (.one (.loop [rf 1,(3,lI),ni 4] [bx 1001 .Ledger] (.two (.join [rf 1,(3,lI),ni 4] [bx 1001 .Ledger] .go) .go))))) .go)) kz0 (eC (Vl u) (eC (QfC u) eN)) Tryz.func36
def WU(p0:List Int)(p1:Int)(p2:Int)(p3:Int)(p4:D.Op):Option Bool:=optc (QgY u p0) fun a0=>cnd (!a0) (optc (Qeh u) fun a1=>some a1) (optc (Qdy u p0) fun a2=>optc (WX u a2 8) fun(r,a4,a5)=>optc (QeB u r) fun e=>optc (QO u a5 [(-1),1048576,1048577]) fun(a7,a8)=>optc (Qd u a8 3) fun(a9,aX)=>optc (Wu u aX r a9) fun aY=>Qh (X:=((Int×Int×Int×List D.Ledger×Int×Int×Unit)×D.Op×D.Dice×D.Ledger×Unit)) (fun cM ((s,t,v,aZ,b0,w,_),cN,cO,cP,_)=>cd (w<b0) (atc aZ w fun f=>optc (Qd u cO 3) fun(b1,cQ)=>optc (QO u cQ [(-1),5]) fun(b2,cR)=>Qh (X:=((Int×Int×Int×List D.Ledger×Int×Int×List D.Arr3Int×Int×Int×Unit)×D.Op×D.Dice×D.Ledger×D.Ledger×Unit)) (fun cS ((b3,b4,b5,b6,b7,b8,b9,bA,y,_),o,bB,p,j,_)=>cd (y<bA) (atc b9 y fun c=>optc (Wc u j c.a0 c.a1 c.a2) fun(a,cT)=>optc (VP u j c.a0 c.a1 c.a2) fun(b,cU)=>join (Y:=((Int×Int×Int×List D.Ledger×Int×Int×List D.Arr3Int×Int×Int×Unit)×D.Op×D.Dice×D.Ledger×D.Ledger×P3×Unit)) (fun((cV,cW,cX,cY,cZ,d0,d1,d2,d3,_),d4,d5,d6,z,(d7,d8,d9,_),_)=>optc (Qd u d5 4) fun(bC,dA)=>Qh (X:=((Int×Int×Int×List D.Ledger×Int×Int×List D.Arr3Int×Int×Int×List Int×Int×Int×Unit)×D.Op×D.Dice×D.Ledger×D.Ledger×P3×Unit)) (fun dB ((bD,bE,bF,bG,bH,bI,bJ,bK,bL,bM,bN,A,_),bO,bP,bQ,k,(m,dC,dD,_),_)=>cd (A<bN) (atc bM A fun q=>optc (XT u k m q) fun bR=>optc (Vm u k m q) fun bS=>join (Y:=((Int×Int×Int×List D.Contact×List D.Contact×List D.Ledger×Int×Int×List D.Arr3Int×Int×Int×List Int×Int×Int×Unit)×D.Op×D.Dice×D.Ledger×D.Ledger×P3×Unit)) (fun((dE,dF,dG,bT,dH,dI,dJ,dK,dL,dM,dN,dO,dP,bU,_),bV,bW,bX,bY,(c0,c1,c2,_),_)=>Qh (X:=((Int×Int×Int×List D.Contact×List D.Contact×List D.Ledger×Int×Int×List D.Arr3Int×Int×Int×List Int×Int×Int×Int×Int×Unit)×D.Op×D.Dice×D.Ledger×D.Ledger×P3×Unit)) (fun c3 ((B,C,E,F,G,H,I,J,L,O,S,W,Z,aA,aB,l,_),aC,aD,aE,aF,(aG,aH,aI,_),_)=>cd (l<aB) (atc F l fun g=>atc G l fun h=>cd ([g.Page,g.Step,g.Person,g.Start,g.Sent,g.Reached]≠[h.Page,h.Step,h.Person,h.Start,h.Sent,h.Reached]) sF (c3 ((B,C,E,F,G,H,I,J,L,O,S,W,Z,aA,aB,(wrap .i64 (l+1)),()),aC,aD,aE,aF,(aG,aH,aI,()),()))) (dB ((B,C,E,H,I,J,L,O,S,W,Z,(wrap .i64 (aA+1)),()),aC,aD,aE,aF,(aG,aH,aI,()),()))) u ((dE,dF,dG,bT,dH,dI,dJ,dK,dL,dM,dN,dO,dP,bU,(bT.length:Int),0,()),bV,bW,bX,bY,(c0,c1,c2,()),())) fun c4=>optc (Vj u k m q) fun c5=>optc (Qby u k m q) fun c6=>optc (Qan u c5 c6) fun c7=>cnd c7 (cd ((bR.length:Int)≠(bS.length:Int)) sF (c4 ((bD,bE,bF,bR,bS,bG,bH,bI,bJ,bK,bL,bM,bN,A,()),bO,bP,bQ,k,(m,dC,dD,()),()))) sF) (cS ((bD,bE,bF,bG,bH,bI,bJ,bK,(wrap .i64 (bL+1)),()),bO,bP,bQ,k,()))) u ((cV,cW,cX,cY,cZ,d0,d1,d2,d3,[z.Fence,0,bC],(((List.length [z.Fence,0,bC]):Nat):Int),0,()),d4,dA,d6,z,(d7,d8,d9,()),())) fun c8=>cd ([a.ID,a.Kind,a.Region,a.Fence,a.At,a.Page,a.K,a.Policy,a.Schedule,a.Answer.ID,a.Answer.Page,a.Answer.Person,a.Answer.Kind,a.Answer.Arg,a.Answer.At,a.Edit.Kind,a.Edit.A,a.Edit.B,a.Edit.From,a.Edit.To]≠[b.ID,b.Kind,b.Region,b.Fence,b.At,b.Page,b.K,b.Policy,b.Schedule,b.Answer.ID,b.Answer.Page,b.Answer.Person,b.Answer.Kind,b.Answer.Arg,b.Answer.At,b.Edit.Kind,b.Edit.A,b.Edit.B,b.Edit.From,b.Edit.To]) sF (cd (cT≠cU) sF (optc (Vk u j c.a0 c.a1 c.a2) fun c9=>optc (Qay u j c.a0 c.a1 c.a2) fun cA=>optc (Qeg u c9 cA) fun cB=>cnd cB (c8 ((b3,b4,b5,b6,b7,b8,b9,bA,y,()),o,bB,p,j,(c.a0,c.a1,c.a2,()),())) sF))) (optc (UF u bB p 700 p.Now) fun(aJ,cC)=>optc (Qd u cC 4) fun(aK,cD)=>Qh (X:=((Int×Int×Int×List D.Ledger×Int×Int×List D.Op×Int×Int×Unit)×D.Op×D.Dice×D.Ledger×D.Ledger×Unit)) (fun cE ((aL,aM,aN,aO,aP,aQ,aR,aS,n,_),aT,aU,aV,i,_)=>cd (n<aS) (atc aR n fun aW=>optc (Wd u i aW) fun cF=>optc (Qb7 u i aW) fun cG=>cd (cF≠cG) sF (cE ((aL,aM,aN,aO,aP,aQ,aR,aS,(wrap .i64 (n+1)),()),aT,aU,aV,i,()))) (optc (Vi u i) fun cH=>optc (Qax u i) fun cI=>optc (Qie u cH cI) fun cJ=>cnd (!cJ) sF (cM ((aL,aM,aN,aO,aP,(wrap .i64 (aQ+1)),()),aT,aU,aV,())))) u ((b3,b4,b5,b6,b7,b8,[o,aJ,(D.Op.mk 701 2 0 aK 0 0 0 0 0 (D.Answer.mk 0 0 0 0 0 0) (D.Edit.mk 0 0 0 0 0))],(((List.length [o,aJ,(D.Op.mk 701 2 0 aK 0 0 0 0 0 (D.Answer.mk 0 0 0 0 0 0) (D.Edit.mk 0 0 0 0 0))]):Nat):Int),0,()),o,cD,p,j,()))) u ((s,t,v,aZ,b0,w,[(D.Arr3Int.mk s t v),(D.Arr3Int.mk f.Owner 500 (wrap .i64 (f.Now+600))),(D.Arr3Int.mk b1 500 f.Now),(D.Arr3Int.mk 0 1099511627776 (wrap .i64 (f.Now+900))),(D.Arr3Int.mk b2 0 (-1))],(((List.length [(D.Arr3Int.mk s t v),(D.Arr3Int.mk f.Owner 500 (wrap .i64 (f.Now+600))),(D.Arr3Int.mk b1 500 f.Now),(D.Arr3Int.mk 0 1099511627776 (wrap .i64 (f.Now+900))),(D.Arr3Int.mk b2 0 (-1))]):Nat):Int),0,()),cN,cR,cP,f,())) (optc (Qeh u) fun cL=>some cL)) u ((p1,p2,p3,[r,aY,(D.Ledger.mk e.Now e.Config e.Book e.Pages e.Owner a7 e.Seen e.Calls)],(((List.length [r,aY,(D.Ledger.mk e.Now e.Config e.Book e.Pages e.Owner a7 e.Seen e.Calls)]):Nat):Int),0,()),p4,aX,r,()))
theorem Qfm:FO 7 (sB [lI,nI,nI,nI,.st .Op] fun x=>WU u x.1 x.2.1 x.2.2.1 x.2.2.2.1 x.2.2.2.2.1):=fI u (gs 6 (.two (.two (.frz [1043020,1043025,1043028] .go) (.one (.loop [ni 1,ni 2,ni 3,rf 9,(11,.one (.ref 1036005)),rf 12,li 54 .Ledger,ni 55,ni 56] [bx 1009 .Op,bx 1036005 .Dice,bx 1012 .Ledger] (gs 2 (.two (.one (.two .go (.two (.two .go (.one (.loop [ni 1,ni 2,ni 3,rf 9,(11,.one (.ref 1036005)),rf 12,rf 16,li 54 .Ledger,ni 55,ni 56,li 83 .Arr3Int,ni 84,ni 85] [bx 1009 .Op,bx 1036005 .Dice,bx 1012 .Ledger,bx 1016 .Ledger] (gs 2 (.two (.one (gs 3 (.two (.join [ni 1,ni 2,ni 3,rf 9,(11,.one (.ref 1036005)),rf 12,rf 16,rf 18,li 54 .Ledger,ni 55,ni 56,li 83 .Arr3Int,ni 84,ni 85] [bx 1009 .Op,bx 1036005 .Dice,bx 1012 .Ledger,bx 1016 .Ledger,(1018,.box [kI,kI,kI])] .go) (.two .go (.one (.loop [ni 1,ni 2,ni 3,rf 9,(11,.one (.ref 1036005)),rf 12,rf 16,rf 18,li 54 .Ledger,ni 55,ni 56,li 83 .Arr3Int,ni 84,ni 85,(143,lI),ni 144,ni 145] [bx 1009 .Op,bx 1036005 .Dice,bx 1012 .Ledger,bx 1016 .Ledger,(1018,.box [kI,kI,kI])] (gs 2 (.two (.one (gs 2 (.two (.join [ni 1,ni 2,ni 3,rf 9,(11,.one (.ref 1036005)),rf 12,rf 16,rf 18,li 25 .Contact,li 26 .Contact,li 54 .Ledger,ni 55,ni 56,li 83 .Arr3Int,ni 84,ni 85,(143,lI),ni 144,ni 145] [bx 1009 .Op,bx 1036005 .Dice,bx 1012 .Ledger,bx 1016 .Ledger,(1018,.box [kI,kI,kI])] .go) (.two .go (.one (.loop [ni 1,ni 2,ni 3,rf 9,(11,.one (.ref 1036005)),rf 12,rf 16,rf 18,li 25 .Contact,li 26 .Contact,li 54 .Ledger,ni 55,ni 56,li 83 .Arr3Int,ni 84,ni 85,(143,lI),ni 144,ni 145,ni 179,ni 180] [bx 1009 .Op,bx 1036005 .Dice,bx 1012 .Ledger,bx 1016 .Ledger,(1018,.box [kI,kI,kI])] .go)))))) .go)))))))) .go))))) (lp [ni 1,ni 2,ni 3,rf 9,(11,.one (.ref 1036005)),rf 12,rf 16,li 54 .Ledger,ni 55,ni 56,li 204 .Op,ni 205,ni 206] [bx 1009 .Op,bx 1036005 .Dice,bx 1012 .Ledger,bx 1016 .Ledger] .go)))) .go))))) .go)) kz0 (eC (QlU u) (eC (QlR u) (eC (Qhv u) (eC (Qfq u) (eC (Q9 u) (eC (Qe0 u) (eC (Qe1 u) (eC (Qju u) (eC (QeJ u) (eC (Qjv u) (eC (Qgi u) (eC (Qg5 u) (eC (QhS u) (eC (QjO u) (eC (Ym u) (eC (QdR u) (eC (QlQ u) (eC (Qmv u) (eC (QjQ u) (eC (QjR u) (eC (Qdx u) (eC (Qol u) (eC (QpD u) (eC (Qmu u) eN)))))))))))))))))))))))) Tryz.func7
end
end Go.Proofs.YtadlpefpehjcoaaGreat
/-
  What functions do: all parts.
-/
/-
  What package pagewatchmade makes (dice, targets, books, crews, answers), of what is reckoned of its code.
-/
set_option linter.unusedSimpArgs false
namespace Go.Proofs.YtadlpefpehjcoaaGreat
open Go AM
section
theorem QjZ{a n:Int}(hn:1≤n): -n<a.tmod n∧a.tmod n<n:=by
 rcases(show a<0∨0≤a by omega)with h|h
 ·have e:a.tmod n = - ((-a).tmod n):=by rw[Int.neg_tmod,Int.neg_neg]
  rw[e,Int.tmod_eq_emod_of_nonneg (by omega)]
  have h1:=Int.emod_lt_of_pos (-a) (b:=n) (by omega)
  have h2:=Int.emod_nonneg (-a) (b:=n) (by omega)
  omega
 ·rw[Int.tmod_eq_emod_of_nonneg h]
  have h1:=Int.emod_lt_of_pos a (b:=n) (by omega)
  have h2:=Int.emod_nonneg a (b:=n) (by omega)
  omega
structure ZG (L:List Int) (d:D.Dice):Prop where
 l:d.L=L
 lo:0≤d.At
 hi:d.At≤(L.length:Int)
variable {fu:Nat} {L:List Int}
theorem Qtj{d:D.Dice}{n:Int}(hL:L.length≤500)(hd:ZG L d)(hn:n≤1000000):
  Ok (Qd fu d n) fun r=>ZG L r.2∧0≤r.1∧(1≤n→r.1<n)∧(n<1→r.1=0):=by
 unfold Qd AM.join
 have h0:=hd.lo
 have h1:=hd.hi
 have hl:((d.L.length:Nat):Int)=(L.length:Int):=by rw[hd.l]
 refine Ok.ite (fun h=>Ok.s ⟨hd,Int.le_refl _,fun h=>by show(0:Int)<n;omega,fun _=>rfl⟩) fun h2=>Ok.ite (fun h=>Ok.s ⟨hd,Int.le_refl _,fun h=>by show(0:Int)<n;omega,fun _=>rfl⟩) fun h3=>?_
 dsimp only
 refine Ok.at hd.lo (by omega) (Ok.Z ?_)
 have ht:=QjZ (a:=nth d.L d.At.toNat) (n:=n) (by omega)
 rw[QgB (x:=d.At+1) (by omega) (by omega)]
 refine Ok.ite (fun h4=>?_) (fun h4=>?_)
 ·rw[QgB (by omega) (by omega)]
  exact Ok.s ⟨⟨hd.l,by show 0≤d.At+1;omega,by show d.At+1≤_;omega⟩,by dsimp only;omega,fun _=>by dsimp only;omega,fun h=>by omega⟩
 ·exact Ok.s ⟨⟨hd.l,by show 0≤d.At+1;omega,by show d.At+1≤_;omega⟩,by dsimp only;omega,fun _=>by dsimp only;omega,fun h=>by omega⟩
theorem nx{d:D.Dice}{n:Int}(hL:L.length≤500)(hd:ZG L d)(h1:1≤n)(hn:n≤1000000):
  Ok (Qd fu d n) fun r=>ZG L r.2∧0≤r.1∧r.1<n:=(Qtj hL hd hn).mono fun r h=>⟨h.1,h.2.1,h.2.2.1 h1⟩
theorem QaP{d:D.Dice}{l:List Int}(hL:L.length≤500)(hd:ZG L d)(hl:1≤l.length)(hl2:l.length≤1000):
  Ok (QO fu d l) fun r=>ZG L r.2∧r.1∈l:=by
 unfold QO
 refine Ok.opt (Qtj hL hd (by omega)) fun⟨v,d1⟩ ⟨h1,h2,h3,_⟩=>?_
 have h4:=h3 (by omega)
 dsimp only at h2 h4 ⊢
 exact Ok.at h2 h4 (Ok.s ⟨h1,Qi (by omega)⟩)
theorem Qjr{d:D.Dice}(hL:L.length≤500)(hd:ZG L d):Ok (Y0 fu d) fun r=>ZG L r.2∧QaB r.1:=by
 unfold Y0
 refine Ok.opt (QaP hL hd (by simp) (by simp)) fun⟨a0,d1⟩ ⟨h1,m1⟩=>?_
 dsimp only at h1 m1 ⊢
 refine Ok.opt (nx hL h1 (by omega) (by omega)) fun⟨a2,d2⟩ ⟨h2,l2,u2⟩=>?_
 dsimp only at h2 l2 u2 ⊢
 refine Ok.opt (nx hL h2 (by omega) (by omega)) fun⟨a4,d3⟩ ⟨h3,l3,u3⟩=>?_
 dsimp only at h3 l3 u3 ⊢
 refine Ok.opt (QaP hL h3 (by simp) (by simp)) fun⟨a6,d4⟩ ⟨h4,m4⟩=>?_
 dsimp only at h4 m4 ⊢
 simp only[List.mem_cons,List.not_mem_nil,or_false]at m1 m4
 rw[Qc (x:=864000+a0) (by omega),Qc (x:=864000+a0+a6) (by omega)]
 refine Ok.j (Ok.ite (fun h=>?_) (fun h=>Ok.ite (fun h'=>?_) (fun h'=>?_)))
 ·refine Ok.opt (nx hL h4 (by omega) (by omega)) fun⟨a7,d5⟩ ⟨h5,l5,u5⟩=>?_
  dsimp only at h5 l5 u5 ⊢
  rw[Qc (x:=a4+1) (by omega),Qc (x:=a4+1+a7) (by omega),Int.tmod_eq_emod_of_nonneg (by omega)]
  exact Ok.Z (Ok.s ⟨h5,⟨by dsimp only;omega,.inl (by dsimp only;omega),fun _=>by dsimp only;omega,fun h=>by dsimp only at h;omega,by dsimp only;omega⟩⟩)
 ·refine Ok.opt (nx hL h4 (by omega) (by omega)) fun⟨a7,d5⟩ ⟨h5,l5,u5⟩=>?_
  dsimp only at h5 l5 u5 ⊢
  rw[Qc (x:=a7 - 1) (by omega)]
  exact Ok.s ⟨h5,⟨by dsimp only;omega,by dsimp only;omega,fun h=>by dsimp only at h;omega,fun _=>rfl,by dsimp only;omega⟩⟩
 ·exact Ok.s ⟨h4,⟨by dsimp only;omega,.inl (by dsimp only;omega),fun h=>by dsimp only at h;omega,fun _=>rfl,by dsimp only;omega⟩⟩
theorem Qs{α:Type}[Inhabited α]{l:List α}{i:Nat}(h:i<l.length):l.take i++[nth l i]=l.take (i+1):=by
 rw[List.take_succ_eq_append_getElem h]
 simp[nth,List.getD_eq_getElem?_getD,List.getElem?_eq_getElem h]
theorem WY{α:Type}{P:α→Prop}{l:List α}{x:α}(h:∀y∈l,P y)(hx:P x):∀y∈l++[x],P y:=fun y hy=>by
 rcases List.mem_append.1 hy with hy|hy
 ·exact h y hy
 ·rw[List.mem_singleton.1 hy];exact hx
theorem QwH{d:D.Dice}(hL:L.length≤500)(hd:ZG L d)(hf:10≤fu):Ok (WL fu d) fun r=>ZG L r.2∧Q3 2 r.1:=by
 unfold WL
 refine Ok.opt (QaP hL hd (by simp) (by simp)) fun⟨a0,d1⟩ ⟨h1,m1⟩=>?_
 dsimp only at h1 m1 ⊢
 simp only[List.mem_cons,List.not_mem_nil,or_false]at m1
 refine Ok.loop (fun m x=>x.1.1=Yf∧0≤x.1.2.1∧x.1.2.1≤4∧ZG L x.2.1∧x.2.2.2.1.1=[⟨bZ,a0,[]⟩]∧x.2.2.2.2.1.map (·.Name)=Yf.take x.1.2.1.toNat∧(∀p∈x.2.2.2.2.1,Up p)∧(4 - x.1.2.1).toNat=m) (m:=4) (by omega)
  ⟨rfl,by dsimp only;omega,by dsimp only;omega,h1,rfl,rfl,by simp,rfl⟩ ?_
 rintro m ⟨⟨a3,a4,⟨⟩⟩,a5,⟨⟩,⟨a6,⟨⟩⟩,a7,⟨⟩⟩ ⟨i1,i2,i3,i4,i5,i6,i7,i8⟩ k hk
 dsimp only at i1 i2 i3 i4 i5 i6 i7 i8 ⊢
 subst i1;subst i5
 refine Ok.ite (fun h4=>?_) (fun h4=>?_)
 ·have hlen:Yf.length=4:=rfl
  have hal:a7.length=a4.toNat:=by have:=congrArg List.length i6;rw[List.length_map,List.length_take,hlen]at this;omega
  refine Ok.at (by omega) (by omega) ?_
  refine Ok.opt (nx hL i4 (by omega) (by omega)) fun⟨a9,d2⟩ ⟨h2,_⟩=>?_
  dsimp only at h2 ⊢
  refine Ok.join (fun y=>y.1.1=Yf∧y.1.2.1=a4∧ZG L y.2.1∧y.2.2.2.1.1=[⟨bZ,a0,[]⟩]∧y.2.2.2.2.1.Name=nth Yf a4.toNat∧Up y.2.2.2.2.1∧y.2.2.2.2.2.1=a7) (fun y hy=>?_) (fun J hJ=>?_)
  ·obtain⟨⟨a11,a12,⟨⟩⟩,a13,⟨⟩,⟨a14,⟨⟩⟩,a15,a16,⟨⟩⟩:=y
   obtain⟨g1,g2,g3,g4,g5,g6,g7⟩:=hy
   dsimp only at g1 g2 g3 g4 g5 g6 g7 ⊢
   subst g1;subst g2;subst g4;subst g7
   refine Ok.LS ?_
   rw[Qc (by omega)]
   refine hk (4 - (a12+1)).toNat _ (by omega) ⟨rfl,by dsimp only;omega,by dsimp only;omega,g3,rfl,?_,WY i7 g6,rfl⟩
   dsimp only
   rw[List.map_append,i6,List.map_cons,List.map_nil,g5,Qs (by rw[hlen];omega),show(a12+1).toNat=a12.toNat+1 by omega]
  ·refine Ok.opt (nx hL h2 (by omega) (by omega)) fun⟨a18,d3⟩ ⟨h3,_⟩=>?_
   dsimp only at h3 ⊢
   refine Ok.ite (fun h5=>?_) (fun h5=>hJ _ ⟨rfl,rfl,h3,rfl,rfl,⟨rfl,⟨rfl,rfl⟩,.inl rfl⟩,rfl⟩)
   refine Ok.opt (QaP hL h3 (by simp) (by simp)) fun⟨a20,d4⟩ ⟨h6,m6⟩=>?_
   dsimp only at h6 m6 ⊢
   refine Ok.opt (QaP hL h6 (by simp) (by simp)) fun⟨a22,d5⟩ ⟨h7,m7⟩=>?_
   dsimp only at h7 m7 ⊢
   simp only[List.mem_cons,List.not_mem_nil,or_false]at m6 m7
   exact hJ _ ⟨rfl,rfl,h7,rfl,rfl,⟨rfl,⟨rfl,rfl⟩,.inr ⟨a20,a22,rfl,m6,m7⟩⟩,rfl⟩
 ·have e4:a4=4:=by omega
  subst e4
  refine Ok.loop (fun m x=>0≤x.1.1∧x.1.1≤2∧ZG L x.2.1∧x.2.2.2.1.1=[⟨bZ,a0,[]⟩]∧x.2.2.2.2.1=a7∧x.2.2.2.2.2.1.map (·.Name)=YA.take x.1.1.toNat∧(∀s∈x.2.2.2.2.2.1,Qdd 2 s)∧(2 - x.1.1).toNat=m) (m:=2) (by omega)
   ⟨by dsimp only;omega,by dsimp only;omega,i4,rfl,rfl,rfl,by simp,rfl⟩ ?_
  rintro m2 ⟨⟨a25,⟨⟩⟩,a26,⟨⟩,⟨a27,⟨⟩⟩,a28,a29,⟨⟩⟩ ⟨j1,j2,j3,j4,j5,j6,j7,j8⟩ k2 hk2
  dsimp only at j1 j2 j3 j4 j5 j6 j7 j8 ⊢
  subst j4;subst j5
  refine Ok.ite (fun h5=>?_) (fun h5=>?_)
  ·have hlen:YA.length=2:=rfl
   have hal:a29.length=a25.toNat:=by have:=congrArg List.length j6;rw[List.length_map,List.length_take,hlen]at this;omega
   refine Ok.opt (QaP hL j3 (by simp) (by simp)) fun⟨a30,d2⟩ ⟨h2,m2⟩=>?_
   dsimp only at h2 m2 ⊢
   refine Ok.opt (QaP hL h2 (by simp) (by simp)) fun⟨a32,d3⟩ ⟨h3,m3⟩=>?_
   dsimp only at h3 m3 ⊢
   refine Ok.opt (QaP hL h3 (by simp) (by simp)) fun⟨a34,d4⟩ ⟨h4',m4⟩=>?_
   dsimp only at h4' m4 ⊢
   refine Ok.opt (nx hL h4' (by omega) (by omega)) fun⟨a36,d5⟩ ⟨h6,l6,u6⟩=>?_
   dsimp only at h6 l6 u6 ⊢
   refine Ok.opt (nx hL h6 (by omega) (by omega)) fun⟨a38,d6⟩ ⟨h7,l7,u7⟩=>?_
   dsimp only at h7 l7 u7 ⊢
   simp only[List.mem_cons,List.not_mem_nil,or_false]at m2 m3 m4
   rw[Qc (x:=1+a36) (by omega),Qc (x:=1+a38) (by omega)]
   refine Ok.loop (fun m x=>x.1.1=a25∧0≤x.1.2.1∧ZG L x.2.1∧x.2.2.2.1.1=[⟨bZ,a0,[]⟩]∧x.2.2.2.2.1=(ByteArray.mk #[108],0,a30,a32,a34,1+a36,0,0,())∧x.2.2.2.2.2.1=a28∧x.2.2.2.2.2.2.1=a29∧
    (∀z∈x.2.2.2.2.2.2.2.1,0≤z∧z<4)∧x.1.2.1+(x.2.2.2.2.2.2.2.1.length:Int)=1+a38∧x.1.2.1.toNat=m) (m:=(1+a38).toNat) (by omega) ⟨rfl,by dsimp only;omega,h7,rfl,rfl,rfl,rfl,by simp,by dsimp only;simp,rfl⟩ ?_
   rintro m3' ⟨⟨a41,a42,⟨⟩⟩,a43,⟨⟩,⟨a44,⟨⟩⟩,⟨a45,a46,a47,a48,a49,a50,a51,a52,⟨⟩⟩,a53,a54,a55,⟨⟩⟩ ⟨n1,n2,n3,n4,n5,n6,n7,n8,n9,n10⟩ k3 hk3
   dsimp only at n1 n2 n3 n4 n5 n6 n7 n8 n9 n10 ⊢
   cases n5;subst n1;subst n4;subst n6;subst n7
   refine Ok.ite (fun h8=>?_) (fun h8=>?_)
   ·refine Ok.opt (nx hL n3 (by omega) (by omega)) fun⟨a56,d7⟩ ⟨h9,l9,u9⟩=>?_
    dsimp only at h9 l9 u9 ⊢
    refine Ok.LS ?_
    rw[Qc (by omega)]
    exact hk3 (a42 - 1).toNat _ (by omega) ⟨rfl,by dsimp only;omega,h9,rfl,rfl,rfl,rfl,WY n8 ⟨l9,u9⟩,by dsimp only;rw[List.length_append];simp only[List.length_cons,List.length_nil];omega,rfl⟩
   ·refine Ok.at (by omega) (by simp only[List.length_cons,List.length_nil];omega) ?_
    refine Ok.opt (nx hL n3 (by omega) (by omega)) fun⟨a59,d7⟩ ⟨h9,l9,u9⟩=>?_
    dsimp only at h9 l9 u9 ⊢
    refine Ok.loop (fun m x=>x.1.1=a41∧0≤x.1.2.1∧ZG L x.2.1∧x.2.2.2.1.1=[⟨bZ,a0,[]⟩]∧x.2.2.2.2.1=(nth YA a41.toNat,[(⟨ByteArray.mk #[108],0,⟨a30,a32⟩,a34,1+a36,a55,[],0,0⟩:D.Layer)],())∧x.2.2.2.2.2.1=a53∧x.2.2.2.2.2.2.1=a54∧
     (∀z∈x.2.2.2.2.2.2.2.1,QaB z)∧x.1.2.1+(x.2.2.2.2.2.2.2.1.length:Int)=a59∧x.1.2.1.toNat=m) (m:=a59.toNat) (by omega) ⟨rfl,by dsimp only;omega,h9,rfl,rfl,rfl,rfl,by simp,by dsimp only;simp,rfl⟩ ?_
    rintro m4' ⟨⟨a62,a63,⟨⟩⟩,a64,⟨⟩,⟨a65,⟨⟩⟩,⟨a66,a67,⟨⟩⟩,a68,a69,a70,⟨⟩⟩ ⟨p1,p2,p3,p4,p5,p6,p7,p8,p9,p10⟩ k4 hk4
    dsimp only at p1 p2 p3 p4 p5 p6 p7 p8 p9 p10 ⊢
    cases p5;subst p1;subst p4;subst p6;subst p7
    refine Ok.ite (fun h10=>?_) (fun h10=>?_)
    ·refine Ok.opt (Qjr hL p3) fun⟨a71,d8⟩ ⟨h11,e11⟩=>?_
     dsimp only at h11 e11 ⊢
     refine Ok.LS ?_
     rw[Qc (by omega)]
     exact hk4 (a63 - 1).toNat _ (by omega) ⟨rfl,by dsimp only;omega,h11,rfl,rfl,rfl,rfl,WY p8 e11,by dsimp only;rw[List.length_append];simp only[List.length_cons,List.length_nil];omega,rfl⟩
    ·refine Ok.LS ?_
     rw[Qc (by omega)]
     refine hk2 (2 - (a62+1)).toNat _ (by omega) ⟨by dsimp only;omega,by dsimp only;omega,p3,rfl,rfl,?_,WY j7 ⟨⟨_,rfl,⟨rfl,rfl,m2,by dsimp only;omega,by dsimp only;omega,by dsimp only;omega,by dsimp only;omega,n8,rfl,⟨rfl,rfl⟩⟩⟩,by dsimp only;omega,p8⟩,rfl⟩
     dsimp only
     rw[List.map_append,j6,List.map_cons,List.map_nil,Qs (by rw[hlen];omega),show(a62+1).toNat=a62.toNat+1 by omega]
  ·have e2:a25=2:=by omega
   subst e2
   exact Ok.s ⟨j3,⟨⟨a0,rfl,m1⟩,i6,i7,rfl,j6,j7⟩⟩
theorem Qt9{d:D.Dice}{b:D.Book}(hL:L.length≤500)(hd:ZG L d)(hb:b.Teams.length≤100):
  Ok (YP fu d b) fun r=>ZG L r.2∧Vv b.Teams.length r.1:=by
 unfold YP
 refine Ok.opt (nx hL hd (by omega) (by omega)) fun⟨v,d1⟩ ⟨h1,h2,h4⟩=>?_
 dsimp only at h1 h2 h4 ⊢
 refine Ok.join (fun y=>0≤y.1.1∧y.1.1<3∧(y.1.1=2→1≤b.Teams.length)∧ZG L y.2.1∧y.2.2.2.2.1=b.Teams∧y.2.2.2.2.2.1=b.Policies) (fun y hy=>?_) (fun J hJ=>?_)
 ·obtain⟨⟨a2,⟨⟩⟩,d2,⟨⟩,tg,ts,ps,⟨⟩⟩:=y
  obtain⟨g1,g2,g0,g3,g4,g5⟩:=hy
  dsimp only at g1 g2 g0 g3 g4 g5 ⊢
  subst g4;subst g5
  refine Ok.at g1 (by simp;omega) ?_
  have h3:a2=0∨a2=1∨a2=2:=by omega
  have e:nth [4,2,((b.Teams.length:Nat):Int)] a2.toNat=if a2=0 then 4 else if a2=1 then 2 else((b.Teams.length:Nat):Int):=by rcases h3 with h3|h3|h3<;>subst h3<;>rfl
  rw[e]
  refine Ok.opt (nx hL g3 (by(repeat' split)<;>omega) (by(repeat' split)<;>omega)) fun⟨v2,d3⟩ ⟨k1,k2,k3⟩=>?_
  dsimp only at k1 k2 k3 ⊢
  refine Ok.sameC (Ok.sameC (Ok.s ⟨k1,⟨h3,k2,fun h=>?_,fun h=>?_,fun h=>?_⟩⟩))<;>dsimp only at h⊢<;>subst h<;>simpa using k3
 ·refine Ok.ite (fun h5=>Ok.ite (fun h6=>hJ _ ⟨by dsimp only;omega,by dsimp only;omega,fun h=>by dsimp only at h;omega,h1,rfl,rfl⟩) (fun h6=>hJ _ ⟨h2,h4,fun h=>by omega,h1,rfl,rfl⟩)) (fun h5=>hJ _ ⟨h2,h4,fun h=>absurd h h5,h1,rfl,rfl⟩)
theorem QwE{d:D.Dice}(hL:L.length≤500)(hd:ZG L d)(hf:10≤fu):
  Ok (WK fu d) fun r=>ZG L r.2∧QM r.1:=by
 unfold WK
 refine Ok.opt (nx hL hd (by omega) (by omega)) fun⟨v,d1⟩ ⟨h1,h2,h4⟩=>?_
 dsimp only at h1 h2 h4 ⊢
 refine Ok.loop (fun m x=>ZG L x.2.1∧0≤x.1.1∧x.1.1+(x.2.2.2.2.1.length:Int)≤2∧x.2.2.2.2.1.map (·.Name)=QfR.take x.2.2.2.2.1.length∧(∀t∈x.2.2.2.2.1,QmV t)∧x.1.1.toNat=m) (m:=v.toNat) (by omega) ⟨h1,h2,by dsimp only;simp;omega,rfl,by simp,rfl⟩ ?_
 rintro m ⟨⟨a3,⟨⟩⟩,d2,⟨⟩,⟨⟩,ts,⟨⟩⟩ ⟨i1,i2,i3,i5,i6,i4⟩ k hk
 dsimp only at i1 i2 i3 i5 i6 i4 ⊢
 refine Ok.ite (fun h5=>?_) (fun h5=>?_)
 ·refine Ok.at (by omega) (by simp only[List.length_cons,List.length_nil];omega) ?_
  refine Ok.opt (nx hL i1 (by omega) (by omega)) fun⟨v2,d3⟩ ⟨j1,j2,j3⟩=>?_
  dsimp only at j1 j2 j3 ⊢
  refine Ok.join (fun y=>ZG L y.2.1∧y.1.1=a3∧y.2.2.2.2.2.1=ts∧y.2.2.2.2.1.Name=nth QfR ts.length∧QmV y.2.2.2.2.1) (fun y hy=>?_) (fun J hJ=>?_)
  ·obtain⟨⟨a9,⟨⟩⟩,d4,⟨⟩,⟨⟩,tm,ts2,⟨⟩⟩:=y
   obtain⟨q1,q2,q3,q4,q5⟩:=hy
   dsimp only at q1 q2 q3 q4 q5 ⊢
   subst q2;subst q3
   refine Ok.LS ?_
   rw[QgB (by omega) (by omega)]
   refine hk (a9 - 1).toNat _ (by omega) ⟨q1,by dsimp only;omega,by dsimp only;rw[List.length_append];simp only[List.length_cons,List.length_nil];omega,?_,WY i6 q5,rfl⟩
   dsimp only
   rw[List.map_append,i5,List.map_cons,List.map_nil,q4,Qs (by show _<2;omega),List.length_append];rfl
  ·refine Ok.opt (nx hL j1 (by omega) (by omega)) fun⟨v3,d4⟩ ⟨k1,_⟩=>?_
   dsimp only at k1 ⊢
   refine Ok.ite (fun _=>?_) (fun _=>hJ _ ⟨k1,rfl,rfl,rfl,⟨by simp[Asc],by simp,by simp;omega⟩⟩)
   refine Ok.opt (nx hL k1 (by omega) (by omega)) fun⟨v4,d5⟩ ⟨l1,l2,l3⟩=>?_
   dsimp only at l1 l2 l3 ⊢
   rw[Qc (by omega)]
   exact Ok.lec (by simp) (hJ _ ⟨l1,rfl,rfl,rfl,⟨by simp[Asc];omega,by simp,by simp;omega⟩⟩)
 ·refine Ok.opt (nx hL i1 (by omega) (by omega)) fun⟨v2,d3⟩ ⟨j1,j2,j4⟩=>?_
  dsimp only at j1 j2 j4 ⊢
  rw[QgB (by omega) (by omega)]
  refine Ok.loop (fun m x=>ZG L x.2.1∧0≤x.1.1∧x.2.2.2.2.1=ts∧x.1.1+(x.2.2.2.2.2.1.length:Int)=1+v2∧x.2.2.2.2.2.1.map (·.Name)=Qkb.take x.2.2.2.2.2.1.length∧(∀p∈x.2.2.2.2.2.1,QbN ts.length p)∧x.1.1.toNat=m) (m:=(1+v2).toNat) (by omega) ⟨j1,by dsimp only;omega,rfl,by dsimp only;simp,rfl,by simp,rfl⟩ ?_
  rintro m ⟨⟨a21,⟨⟩⟩,d4,⟨⟩,⟨⟩,ts2,ps,⟨⟩⟩ ⟨n1,n2,n3,n4,n6,n7,n5⟩ k2 hk2
  dsimp only at n1 n2 n3 n4 n5 n6 n7 ⊢
  subst n3
  refine Ok.ite (fun h6=>?_) (fun h6=>Ok.s ⟨n1,⟨by dsimp only;omega,i5,i6,by dsimp only;omega,n6,n7⟩⟩)
  refine Ok.at (by omega) (by simp only[List.length_cons,List.length_nil];omega) ?_
  refine Ok.opt (QaP hL n1 (by simp) (by simp)) fun⟨v3,d5⟩ ⟨o1,r1⟩=>?_
  dsimp only at o1 r1 ⊢
  refine Ok.opt (nx hL o1 (by omega) (by omega)) fun⟨v4,d6⟩ ⟨o2,o3,o5⟩=>?_
  dsimp only at o2 o3 o5 ⊢
  simp only[List.mem_cons,List.not_mem_nil,or_false]at r1
  rw[QgB (x:=1+v4) (by omega) (by omega)]
  refine Ok.loop (fun m x=>ZG L x.2.1∧x.1.1=a21∧0≤x.1.2.1∧x.2.2.2.2.1=(nth Qkb ps.length,v3,())∧x.2.2.2.2.2.1=ts2∧x.2.2.2.2.2.2.1=ps∧x.1.2.1+(x.2.2.2.2.2.2.2.1.length:Int)=1+v4∧(∀s∈x.2.2.2.2.2.2.2.1,StepOK' ts2.length s)∧x.1.2.1.toNat=m) (m:=(1+v4).toNat) (by omega) ⟨o2,rfl,by dsimp only;omega,rfl,rfl,rfl,by dsimp only;simp,by simp,rfl⟩ ?_
  rintro m3 ⟨⟨a31,a32,⟨⟩⟩,d7,⟨⟩,⟨⟩,⟨nm,rp,⟨⟩⟩,ts3,ps3,ss,⟨⟩⟩ ⟨p1,p2,p3,p0,p4,p5,p6,p8,p7⟩ k3 hk3
  dsimp only at p1 p2 p3 p0 p4 p5 p6 p7 p8 ⊢
  cases p0
  subst p2;subst p4;subst p5
  refine Ok.ite (fun h7=>?_) (fun h7=>?_)
  ·refine Ok.opt (QaP hL p1 (by simp) (by simp)) fun⟨v5,d8⟩ ⟨s1,s2⟩=>?_
   dsimp only at s1 s2 ⊢
   refine Ok.opt (nx hL s1 (by omega) (by omega)) fun⟨v6,d9⟩ ⟨r2,_⟩=>?_
   dsimp only at r2 ⊢
   refine Ok.opt (nx hL r2 (by omega) (by omega)) fun⟨v7,d10⟩ ⟨r3,r4,r6⟩=>?_
   dsimp only at r3 r4 r6 ⊢
   simp only[List.mem_cons,List.not_mem_nil,or_false]at s2
   refine Ok.loop (fun m x=>ZG L x.2.1∧x.1.1=a31∧x.1.2.1=a32∧0≤x.1.2.2.1∧x.2.2.2.2.1=(nth Qkb ps3.length,v3,())∧x.2.2.2.2.2.1=(v5,decide (v6=0),())∧x.2.2.2.2.2.2.1=ts3∧x.2.2.2.2.2.2.2.1=ps3∧x.2.2.2.2.2.2.2.2.1=ss∧x.1.2.2.1+(x.2.2.2.2.2.2.2.2.2.1.length:Int)≤2∧(∀t∈x.2.2.2.2.2.2.2.2.2.1,Vv ts3.length t)∧x.1.2.2.1.toNat=m) (m:=v7.toNat) (by omega) ⟨r3,rfl,rfl,by dsimp only;omega,rfl,rfl,rfl,rfl,rfl,by dsimp only;simp;omega,by simp,rfl⟩ ?_
   rintro m4 ⟨⟨a46,a47,a48,⟨⟩⟩,d11,⟨⟩,⟨⟩,⟨nm2,rp2,⟨⟩⟩,⟨wt,ur,⟨⟩⟩,ts4,ps4,ss4,tg,⟨⟩⟩ ⟨u1,u2,u3,u4,w1,w2,u5,u6,u7,u8,w3,u9⟩ k4 hk4
   dsimp only at u1 u2 u3 u4 u5 u6 u7 u8 u9 w1 w2 w3 ⊢
   cases w1;cases w2
   subst u2;subst u3;subst u5;subst u6;subst u7
   refine Ok.ite (fun h8=>?_) (fun h8=>?_)
   ·refine Ok.opt (Qt9 hL u1 (by dsimp only;omega)) fun⟨v8,d12⟩ ⟨x1,x2⟩=>?_
    dsimp only at x1 x2 ⊢
    refine Ok.LS ?_
    rw[QgB (by omega) (by omega)]
    exact hk4 (a48 - 1).toNat _ (by omega) ⟨x1,rfl,rfl,by dsimp only;omega,rfl,rfl,rfl,rfl,rfl,by dsimp only;rw[List.length_append];simp only[List.length_cons,List.length_nil];omega,WY w3 x2,rfl⟩
   ·refine Ok.LS ?_
    rw[QgB (by omega) (by omega)]
    exact hk3 (a47 - 1).toNat _ (by omega) ⟨u1,rfl,by dsimp only;omega,rfl,rfl,rfl,by dsimp only;rw[List.length_append];simp only[List.length_cons,List.length_nil];omega,WY p8 ⟨by dsimp only;omega,by dsimp only;omega,w3⟩,rfl⟩
  ·refine Ok.LS ?_
   rw[QgB (by omega) (by omega)]
   refine hk2 (a31 - 1).toNat _ (by omega) ⟨p1,by dsimp only;omega,rfl,by dsimp only;rw[List.length_append];simp only[List.length_cons,List.length_nil];omega,?_,WY n7 ⟨by dsimp only;omega,by dsimp only;omega,p8⟩,rfl⟩
   dsimp only
   rw[List.map_append,n6,List.map_cons,List.map_nil,Qs (by show _<3;omega),List.length_append];rfl
end
/-
  Crews are right: what the checks of configurations say of them (the program's and the reference's).
-/
section
theorem Qa{i:Nat}(h:i<1000000000):IntKind.wrap .i64 ((i:Int)+1)=((i+1:Nat):Int):=by rw[Qc (by omega)];omega
theorem forall4{P:Nat→Prop}(h0:P 0)(h1:P 1)(h2:P 2)(h3:P 3):∀i,i<4→P i:=fun i hi=>by
 rcases(show i=0∨i=1∨i=2∨i=3 by omega)with rfl|rfl|rfl|rfl<;>assumption
theorem forall2{P:Nat→Prop}(h0:P 0)(h1:P 1):∀i,i<2→P i:=fun i hi=>by
 rcases(show i=0∨i=1 by omega)with rfl|rfl<;>assumption
theorem Qh8{α β:Type}[Inhabited α][Inhabited β]{f:α→β}{l:List α}{m:List β}(h:l.map f=m){i:Nat}(hi:i<l.length):f (nth l i)=nth m i:=by
 subst h
 simp[nth,List.getD_eq_getElem?_getD,List.getElem?_eq_getElem hi]
theorem Q3.pnm{n:Nat}{c:D.Config}(h:Q3 n c){i:Nat}(hi:i<4):(nth c.People i).Name=nth Yf i:=Qh8 h.pname (by rw[h.plen];exact hi)
theorem Q3.snm{n:Nat}{c:D.Config}(h:Q3 n c){i:Nat}(hi:i<2):(nth c.Schedules i).Name=nth YA i:=Qh8 h.sname (by rw[h.slen];exact hi)
theorem Q3.per{n:Nat}{c:D.Config}(h:Q3 n c){i:Nat}(hi:i<4):Up (nth c.People i):=h.person _ (Qi (by rw[h.plen];exact hi))
theorem Q3.sch{n:Nat}{c:D.Config}(h:Q3 n c){i:Nat}(hi:i<2):Qdd n (nth c.Schedules i):=h.sched _ (Qi (by rw[h.slen];exact hi))
theorem rIn{fu:Nat}{n lo hi:Int}:Vn fu n lo hi=some (decide (lo≤n∧n≤hi)):=cnd2
theorem rIdx{fu:Nat}{i n:Int}:Yc fu i n=some (decide (0≤i∧i<n)):=cnd2
theorem r8In{fu:Nat}{n lo hi:Int}:VN fu n lo hi=some (decide (lo≤n∧n≤hi)):=cnd2
theorem QxJ{p:D.Person}(h:Up p):Qcm 1000 p.Quiet=some 0:=by
 rcases h.quiet with h|⟨a,b,h,ha,hb⟩
 ·rw[h];kernel_rfl
 ·rw[h]
  rcases ha with rfl|rfl<;>rcases hb with rfl|rfl|rfl<;>kernel_rfl
theorem QqP{p:D.Person}(h:Up p):QaU 1000 p.Quiet=some 0:=by
 rcases h.quiet with h|⟨a,b,h,ha,hb⟩
 ·rw[h];kernel_rfl
 ·rw[h]
  rcases ha with rfl|rfl<;>rcases hb with rfl|rfl|rfl<;>kernel_rfl
theorem hours0:Qao 1000 0=some true:=by kernel_rfl
theorem hours8:Qb2 1000 0=some true:=by kernel_rfl
variable {n:Nat} {c:D.Config}
theorem Qkc{p:D.Person}(h:Q3 n c)(hp:Up p):XD 1000 c p=some 0:=by
 refine Ok.eq ?_
 unfold XD
 rw[hp.zone,hp.max.1,hp.max.2,h.zones.1]
 (repeat(first|with_reducible refine Ok.j ?_|with_reducible refine Ok.t ?_|with_reducible refine Ok.f ?_|with_reducible refine Ok.nt rfl ?_|with_reducible refine Ok.oe (rIdx) ?_|with_reducible refine Ok.oe (QxJ hp) ?_|with_reducible refine Ok.oe (hours0) ?_|(with_reducible refine Ok.p ?hh ?_;case hh=>(first|omega|decide|assumption|(dsimp only;omega)|(simp;done)))|(with_reducible refine Ok.n ?hh ?_;case hh=>(first|omega|decide|assumption|(dsimp only;omega)|(simp;done)))|with_reducible refine Ok.os ?_))
 exact Ok.s rfl
theorem day10:Xc 1000 (IntKind.wrap .i64 10)=some true:=by kernel_rfl
theorem QvX:Zd 1000=some 98980:=by kernel_rfl
theorem QaB.day{x:D.Edit}(h:QaB x):Int.tdiv x.To 86400=10:=by
 have:=h.time
 rw[Int.tdiv_eq_ediv_of_nonneg (by omega)];omega
theorem dayE{x:D.Edit}(h:QaB x):Xc 1000 (IntKind.wrap .i64 (Int.tdiv x.To 86400))=some true:=by rw[h.day];exact day10
theorem Qnc{x:D.Edit}(h:Q3 n c)(hx:QaB x):Ww 1000 c x=some 0:=by
 refine Ok.eq ?_
 have h1:=hx.kind;have h2:=hx.a;have h3:=hx.b;have h4:=hx.b0;have h5:=hx.time
 have hpl:=h.plen
 unfold Ww
 rcases(show x.Kind=0∨x.Kind=1∨x.Kind=2 by omega)with hk|hk|hk<;>rcases h2 with h2|h2<;>first|(exfalso;omega)|((repeat(first|with_reducible refine Ok.j ?_|with_reducible refine Ok.t ?_|with_reducible refine Ok.f ?_|with_reducible refine Ok.oe (rIn) ?_|with_reducible refine Ok.oe (rIdx) ?_|with_reducible refine Ok.oe (dayE hx) ?_|(with_reducible refine Ok.p ?hh ?_;case hh=>(first|omega|decide|assumption|(dsimp only;omega)|(simp;done)))|(with_reducible refine Ok.n ?hh ?_;case hh=>(first|omega|decide|assumption|(dsimp only;omega)|(simp;done)))|(with_reducible refine Ok.np ?hh ?_;case hh=>(first|omega|decide|assumption|(dsimp only;omega)|(simp;done)))|(with_reducible refine Ok.nzc ?hh ?_;case hh=>first|omega|decide)));exact Ok.s rfl)
theorem QuM{x:D.Edit}(h:Q3 n c)(hx:QaB x):Qia 1000 c x=some 0:=by
 refine Ok.eq ?_
 have h1:=hx.kind;have h2:=hx.a;have h3:=hx.b;have h4:=hx.b0;have h5:=hx.time
 unfold Qia
 rw[hx.day,h.plen,Qc (x:=10) (by omega),show IntKind.wrap .i64 (((4:Nat):Int) - 1)=3 from rfl]
 rcases(show x.Kind=0∨x.Kind=1∨x.Kind=2 by omega)with hk|hk|hk<;>rcases h2 with h2|h2<;>first|(exfalso;omega)|((repeat(first|with_reducible refine Ok.j ?_|with_reducible refine Ok.oe (r8In) ?_|with_reducible refine Ok.oe (QvX) ?_|(with_reducible refine Ok.p ?hh ?_;case hh=>(first|omega|decide|assumption|(dsimp only;omega)|(simp;done)))|(with_reducible refine Ok.n ?hh ?_;case hh=>(first|omega|decide|assumption|(dsimp only;omega)|(simp;done)))|(with_reducible refine Ok.np ?hh ?_;case hh=>(first|omega|decide|assumption|(dsimp only;omega)|(simp;done)))|(with_reducible refine Ok.nzc ?hh ?_;case hh=>first|omega|decide)));exact Ok.s rfl)
theorem dayL{l:D.Layer}(h:YI l):Xc 1000 l.Start.Day=some true:=by
 rcases h.day with h|h|h<;>rw[h]<;>kernel_rfl
theorem Qtc{x:Int}:Xh 1000 x c=some (!decide (0≤x∧x<(c.People.length:Int))):=by
 unfold Xh;rw[rIdx,ZL,Wn]
theorem Qrh{l:List Int}(h:Q3 n c)(hm:∀x∈l,0≤x∧x<4)(hl:l.length<900):QC 1000 l c=some false:=by
 have key:QH 1000 l c=some (-1):=by
  refine Ok.eq ?_
  unfold QH
  refine Ok.run l.length (fun i=>((l,((l.length:Nat):Int),(i:Int),()),c,())) rfl (by omega) (fun i hi k hk=>?_) (fun k=>?_)
  ·dsimp only
   have hx:=hm _ (Qi hi)
   refine Ok.P (Ok.atn hi (Ok.oe Qtc (Ok.bf ?_ ?_)))
   ·rw[h.plen];simp;omega
   ·rw[Qa (by omega)];exact hk
  ·dsimp only
   exact Ok.N (Ok.sameC (Ok.s rfl))
 unfold QC
 rw[key,ZL,Wn];rfl
theorem wins0:Qcm 1000 []=some 0:=by kernel_rfl
theorem wins5:QaU 1000 []=some 0:=by kernel_rfl
theorem Qlv{l:D.Layer}(h:Q3 n c)(hl:YI l):X4 1000 c l=some 0:=by
 refine Ok.eq ?_
 unfold X4
 have h1:=hl.day;have h2:=hl.second;have h3:=hl.unit;have h4:=hl.every;have h5:=hl.len
 rw[hl.zone,hl.win,hl.cal.1,hl.cal.2,h.zones.1]
 (repeat(first|with_reducible refine Ok.j ?_|with_reducible refine Ok.t ?_|with_reducible refine Ok.f ?_|with_reducible refine Ok.nt rfl ?_|with_reducible refine Ok.nf rfl ?_|with_reducible refine Ok.oe (rIdx) ?_|with_reducible refine Ok.oe (rIn) ?_|with_reducible refine Ok.oe (dayL hl) ?_|with_reducible refine Ok.oe (Qrh h hl.mem (by omega)) ?_|with_reducible refine Ok.oe (wins0) ?_|(with_reducible refine Ok.p ?hh ?_;case hh=>(first|omega|decide|assumption|(dsimp only;omega)|(simp;done)))|(with_reducible refine Ok.n ?hh ?_;case hh=>(first|omega|decide|assumption|(dsimp only;omega)|(simp;done)))|with_reducible refine Ok.os ?_))
 exact Ok.s rfl
def ents(l:List ByteArray)(i:Nat):List (ByteArray×Bool):=(l.take i).map fun s=>(s,true)
theorem Qth:∀i,i<4→Y2 1000 (nth Yf i) (ents Yf i)=some (0,ents Yf (i+1)):=forall4 (by kernel_rfl) (by kernel_rfl) (by kernel_rfl) (by kernel_rfl)
theorem Qva:∀i,i<2→Y2 1000 (nth YA i) (ents YA i)=some (0,ents YA (i+1)):=forall2 (by kernel_rfl) (by kernel_rfl)
theorem Qx5:Y2 1000 (ByteArray.mk #[108]) []=some (0,[(ByteArray.mk #[108],true)]):=by kernel_rfl
theorem QiT:∀i,i<4→¬nth Yf i=ByteArray.mk (List.toArray (110::(111::(98::(111::(100::(121::[]))))))):=by decide
theorem Qta{l:D.Layer}(h:Q3 n c)(hl:YI l):Qk 1000 [l] c=some 0:=by
 have hc:ZV 1000 (nth [l] 0) c=some 0:=by show ZV 1000 l c=some 0;unfold ZV;rw[Qlv h hl,ZL,Wn]
 have hn:ZU 1000 (nth [l] 0)=some (ByteArray.mk #[108]):=by show ZU 1000 l=_;unfold ZU;rw[hl.name]
 refine Ok.eq ?_
 unfold Qk
 refine Ok.run 1 (fun i=>(([l],1,(i:Int),()),c,ents [ByteArray.mk #[108]] i,())) rfl (by omega) (fun i hi k hk=>?_) (fun k=>?_)
 ·obtain rfl:i=0:=by omega
  dsimp only
  refine Ok.p (by decide) (Ok.atn (by simp) (Ok.oe hn (Ok.oe Qx5 ?_)))
  (repeat(first|with_reducible refine Ok.oe (hc) ?_|(with_reducible refine Ok.n ?hh ?_;case hh=>(first|omega|decide|assumption|(dsimp only;omega)|(simp;done)))))
  exact hk
 ·dsimp only
  exact Ok.n (by decide) (Ok.sameC (Ok.s rfl))
theorem QhH{s:D.Schedule}(h:Q3 n c)(hn:n≤48)(hs:Qdd n s):Y1 1000 c s=some 0:=by
 obtain⟨l,hl1,hl2⟩:=hs.layers
 have hlen:=hs.len
 refine Ok.eq ?_
 unfold Y1
 rw[hl1]
 refine Ok.j (Ok.NS (Ok.N ?_))
 dsimp only
 rw[hl1]
 refine Ok.oe (Qta h hl2) (Ok.n (by decide) ?_)
 refine Ok.run s.Edits.length (fun i=>((s.Edits,((s.Edits.length:Nat):Int),(i:Int),()),c,())) rfl (by omega) (fun i hi k hk=>?_) (fun k=>?_)
 ·dsimp only
  refine Ok.P (Ok.atn hi (Ok.oe (Qnc h (hs.edit _ (Qi hi))) (Ok.n (by decide) ?_)))
  rw[Qa (by omega)];exact hk
 ·dsimp only
  exact Ok.N (Ok.s rfl)
theorem QtV(h:Q3 n c)(hn:n≤48):Qq 1000 c.Schedules c=some 0:=by
 refine Ok.eq ?_
 unfold Qq
 rw[h.slen]
 refine Ok.run 2 (fun i=>((c.Schedules,2,(i:Int),()),c,ents YA i,())) rfl (by omega) (fun i hi k hk=>?_) (fun k=>?_)
 ·dsimp only
  have hc:VS 1000 (nth c.Schedules i) c=some 0:=by unfold VS;rw[QhH h hn (h.sch hi),ZL,Wn]
  have hn:VR 1000 (nth c.Schedules i)=some (nth YA i):=by unfold VR;rw[h.snm hi]
  refine Ok.P (Ok.atn (by rw[h.slen];exact hi) (Ok.oe hn (Ok.oe (Qva i hi) ?_)))
  (repeat(first|with_reducible refine Ok.oe (hc) ?_|(with_reducible refine Ok.n ?hh ?_;case hh=>(first|omega|decide|assumption|(dsimp only;omega)|(simp;done)))))
  rw[Qa (by omega)];exact hk
 ·dsimp only
  exact Ok.n (by decide) (Ok.sameC (Ok.s rfl))
theorem QvK(h:Q3 n c):QD 1000 c.Zones=some 0:=by
 obtain⟨h1,h2⟩:=h.zones
 rw[h1]
 rcases h2 with h2|h2|h2<;>rw[h2]<;>kernel_rfl
theorem QwG(h:Q3 n c):Qp 1000 c.Calendars c=some 0:=by
 refine Ok.eq ?_
 unfold Qp
 rw[h.cal]
 refine Ok.run 0 (fun i=>(([],0,0,()),c,[],())) rfl (by omega) (fun i hi=>absurd hi (by omega)) (fun k=>?_)
 exact Ok.n (by decide) (Ok.sameC (Ok.s rfl))
theorem Qh0(h:Q3 n c)(hn:n≤48):QX 1000 c=some 0:=by
 refine Ok.eq ?_
 unfold QX
 have hz:=congrArg List.length h.zones.1
 have hp:=h.plen
 have hs:=h.slen
 have hc:=congrArg List.length h.cal
 simp only[List.length_cons,List.length_nil]at hz hc
 refine Ok.j (Ok.N (Ok.N (Ok.N (Ok.N ?_))))
 dsimp only
 refine Ok.oe (QvK h) (Ok.n (by decide) ?_)
 rw[hp]
 refine Ok.run 4 (fun i=>((c.People,4,(i:Int),()),c,ents Yf i,())) rfl (by omega) (fun i hi k hk=>?_) (fun k=>?_)
 ·dsimp only
  refine Ok.P (Ok.A ?_)
  rw[h.pnm hi]
  refine Ok.oe (Qth i hi) (Ok.j (Ok.n (QiT i hi) ?_))
  (repeat(first|with_reducible refine Ok.j ?_|with_reducible refine Ok.oe (Qkc h (h.per hi)) ?_|(with_reducible refine Ok.p ?hh ?_;case hh=>(first|omega|decide|assumption|(dsimp only;omega)|(simp;done)))|(with_reducible refine Ok.n ?hh ?_;case hh=>(first|omega|decide|assumption|(dsimp only;omega)|(simp;done)))))
  rw[Qa (by omega)];exact hk
 ·dsimp only
  refine Ok.n (by decide) ?_
  (repeat(first|with_reducible refine Ok.j ?_|with_reducible refine Ok.oe (QwG h) ?_|with_reducible refine Ok.oe (QtV h hn) ?_|(with_reducible refine Ok.p ?hh ?_;case hh=>(first|omega|decide|assumption|(dsimp only;omega)|(simp;done)))|(with_reducible refine Ok.n ?hh ?_;case hh=>(first|omega|decide|assumption|(dsimp only;omega)|(simp;done)))))
  exact Ok.s rfl
theorem Qrp{p:D.Person}(hp:Up p):VN 1000 p.Zone 0 (IntKind.wrap .i64 (((1:Nat):Int) - 1))=some true∧QaU 1000 p.Quiet=some 0∧Qb2 1000 p.MaxWeek=some true∧Qb2 1000 p.MinRest=some true:=by
 rw[hp.zone,hp.max.1,hp.max.2]
 exact⟨by kernel_rfl,QqP hp,hours8,hours8⟩
theorem Qri:∀i,i<4→XU 1000 (Yf.take i++[nth Yf i]) (i:Int)=some 0:=forall4 (by kernel_rfl) (by kernel_rfl) (by kernel_rfl) (by kernel_rfl)
theorem Qtg:∀i,i<2→XU 1000 (YA.take i++[nth YA i]) (i:Int)=some 0:=forall2 (by kernel_rfl) (by kernel_rfl)
theorem Qw4:XU 1000 ([]++[ByteArray.mk #[108]]) ((0:Nat):Int)=some 0:=by kernel_rfl
theorem Quk(h:Q3 n c):Qgm 1000 c=some 0:=by
 obtain⟨h1,h2⟩:=h.zones
 refine Ok.eq ?_
 unfold Qgm
 have hz:Qb0 1000 (⟨bZ,YR c,[]⟩:D.Zone)=some 0∧QfB 1000 (⟨bZ,YR c,[]⟩:D.Zone)=some true∧XU 1000 ([]++[bZ]) ((0:Nat):Int)=some 0:=by
  rcases h2 with h2|h2|h2<;>rw[h2]<;>exact⟨by kernel_rfl,by kernel_rfl,by kernel_rfl⟩
 refine Ok.run 1 (fun i=>(((i:Int),()),c,[bZ].take i,())) rfl (by omega) (fun i hi k hk=>?_) (fun k=>?_)
 ·obtain rfl:i=0:=by omega
  dsimp only
  rw[h1]
  refine Ok.PS (Ok.j (Ok.atn (by simp) (Ok.lec (by simp) ?_)))
  refine Ok.oe hz.2.2 (Ok.n (by decide) (Ok.atn (by simp) (Ok.oe hz.1 (Ok.n (by decide) (Ok.atn (by simp) (Ok.oe hz.2.1 ?_))))))
  exact hk
 ·dsimp only
  rw[h1]
  exact Ok.NS (Ok.s rfl)
theorem Qrn(h:Q3 n c):Qev 1000 c=some 0:=by
 have hp:=h.plen
 refine Ok.eq ?_
 unfold Qev
 refine Ok.run 4 (fun i=>(((i:Int),()),c,Yf.take i,())) rfl (by omega) (fun i hi k hk=>?_) (fun k=>?_)
 ·dsimp only
  obtain⟨g1,g2,g3,g4⟩:=Qrp (h.per hi)
  refine Ok.P (Ok.j (Ok.A (Ok.LS ?_)))
  rw[h.pnm hi,h.zones.1]
  refine Ok.n (QiT i hi) (Ok.oe (Qri i hi) (Ok.n (by decide) (Ok.oe g1 ?_)))
  refine Ok.nt rfl (Ok.oe g2 (Ok.n (by decide) (Ok.oe g3 (Ok.t (Ok.oe g4 (Ok.t ?_))))))
  dsimp only
  rw[Qa (by omega),Qs (show i<Yf.length from hi)];exact hk
 ·dsimp only
  exact Ok.N (Ok.s rfl)
theorem QuJ(h:Q3 n c):Qai 1000 c=some 0:=by
 refine Ok.eq ?_
 unfold Qai
 refine Ok.run 0 (fun i=>((0,()),c,[],())) rfl (by omega) (fun i hi=>absurd hi (by omega)) (fun k=>?_)
 dsimp only
 rw[h.cal]
 exact Ok.n (by decide) (Ok.s rfl)
theorem Qs9{l:D.Layer}(h:Q3 n c)(hl:YI l):QdJ 1000 c l=some 0:=by
 refine Ok.eq ?_
 unfold QdJ
 have h1:=hl.day;have h2:=hl.second;have h3:=hl.unit;have h4:=hl.every;have h5:=hl.len
 have hp:=h.plen
 rw[hl.zone,h.zones.1,Qc (x:=(([(⟨bZ,YR c,[]⟩:D.Zone)].length:Nat):Int) - 1) (by simp)]
 refine Ok.j (Ok.oe r8In (Ok.np (by simp) ?_))
 (repeat(first|with_reducible refine Ok.oe (r8In) ?_|with_reducible refine Ok.oe (QvX) ?_|(with_reducible refine Ok.p ?hh ?_;case hh=>(first|omega|decide|assumption|(dsimp only;omega)|(simp;done)))|(with_reducible refine Ok.n ?hh ?_;case hh=>(first|omega|decide|assumption|(dsimp only;omega)|(simp;done)))))
 refine Ok.run l.Members.length (fun i=>(((i:Int),()),c,l,())) rfl (by omega) (fun i hi k hk=>?_) (fun k=>?_)
 ·dsimp only
  have hx:=hl.mem _ (Qi hi)
  rw[hp]
  refine Ok.P (Ok.atn hi (Ok.oe r8In (Ok.np ?_ ?_)))
  ·rw[Qc (by omega)];omega
  ·rw[Qa (by omega)];exact hk
 ·dsimp only
  rw[hl.win,hl.cal.1,hl.cal.2]
  refine Ok.N ?_
  (repeat(first|with_reducible refine Ok.oe (wins5) ?_|with_reducible refine Ok.oe (r8In) ?_|(with_reducible refine Ok.p ?hh ?_;case hh=>(first|omega|decide|assumption|(dsimp only;omega)|(simp;done)))|(with_reducible refine Ok.n ?hh ?_;case hh=>(first|omega|decide|assumption|(dsimp only;omega)|(simp;done)))))
  exact Ok.s rfl
theorem QmE(h:Q3 n c)(hn:n≤48):Qak 1000 c=some 0:=by
 have hs:=h.slen
 refine Ok.eq ?_
 unfold Qak
 refine Ok.run 2 (fun i=>(((i:Int),()),c,YA.take i,())) rfl (by omega) (fun i hi k hk=>?_) (fun k=>?_)
 ·dsimp only
  have hsc:=h.sch hi
  obtain⟨l,hl1,hl2⟩:=hsc.layers
  have hlen:=hsc.len
  refine Ok.P (Ok.A (Ok.LS ?_))
  rw[h.snm hi]
  refine Ok.oe (Qtg i hi) (Ok.n (by decide) (Ok.j ?_))
  rw[hl1]
  refine Ok.NS (Ok.N ?_)
  dsimp only
  refine Ok.run 1 (fun j=>(((i:Int),(j:Int),()),c,nth c.Schedules i,YA.take i++[nth YA i],[ByteArray.mk #[108]].take j,())) rfl (by omega) (fun j hj k2 hk2=>?_) (fun k2=>?_)
  ·obtain rfl:j=0:=by omega
   dsimp only
   rw[hl1]
   refine Ok.PS (Ok.atn (by simp) (Ok.lec (by simp) ?_))
   rw[show(nth [l] 0).Name=ByteArray.mk #[108]from hl2.name]
   refine Ok.oe Qw4 (Ok.n (by decide) (Ok.atn (by simp) (Ok.oe (Qs9 h hl2:QdJ 1000 c (nth [l] 0)=some 0) (Ok.n (by decide) ?_))))
   exact hk2
  ·dsimp only
   rw[hl1]
   refine Ok.NS ?_
   refine Ok.run (nth c.Schedules i).Edits.length (fun j=>(((i:Int),(j:Int),()),c,nth c.Schedules i,YA.take i++[nth YA i],())) rfl (by omega) (fun j hj k3 hk3=>?_) (fun k3=>?_)
   ·dsimp only
    refine Ok.P (Ok.atn hj (Ok.oe (QuM h (hsc.edit _ (Qi hj))) (Ok.n (by decide) ?_)))
    rw[Qa (by omega)];exact hk3
   ·dsimp only
    refine Ok.N ?_
    rw[Qa (by omega),Qs (show i<YA.length from hi)];exact hk
 ·dsimp only
  exact Ok.N (Ok.s rfl)
theorem Qdk(h:Q3 n c)(hn:n≤48):VM 1000 c=some 0:=by
 refine Ok.eq ?_
 unfold VM
 have hz:=congrArg List.length h.zones.1
 have hp:=h.plen
 have hs:=h.slen
 have hc:=congrArg List.length h.cal
 simp only[List.length_cons,List.length_nil]at hz hc
 (repeat(first|with_reducible refine Ok.j ?_|with_reducible refine Ok.oe (Quk h) ?_|with_reducible refine Ok.oe (Qrn h) ?_|with_reducible refine Ok.oe (QuJ h) ?_|with_reducible refine Ok.oe (QmE h hn) ?_|(with_reducible refine Ok.n ?hh ?_;case hh=>(first|omega|decide|assumption|(dsimp only;omega)|(simp;done)))))
 exact Ok.s rfl
end
/-
  Who is on call in a crew: what the program and the reference compute.
-/
section
open Go AM
def Qc3(off:Int):Prop:=off=0∨off=3600∨off = -7200
def tabV(off:Int):D.Table:=⟨off,[]⟩
variable {off t k:Int} {l:D.Layer}
theorem QxC:Wz 1000 (tabV off) t=some off:=by
 have h1:Zg 1000 0 (tabV off) t=some 0:=by
  refine Ok.eq ?_
  unfold Zg
  refine Ok.run 0 (fun _=>((0,(0,())),(tabV off,((t,()),())))) rfl (by omega) (fun i hi=>absurd hi (by omega)) (fun k=>?_)
  exact Ok.N (Ok.sameC (Ok.sameC (Ok.s rfl)))
 have h2:XR 1000 (tabV off) t=some 0:=by unfold XR;rw[show(((List.length (D.Table.list (tabV off))):Nat):Int)=0 from rfl,h1,ZL]
 unfold Wz
 rw[h2,ZL]
 rfl
theorem Qu7{n:Int}(h : -1099511627776≤n∧n≤1099511627776):QeH 1000 n=some ⟨n / 86400,n % 86400⟩:=by
 refine Ok.eq ?_
 unfold QeH
 refine Ok.Z (Ok.j (Ok.Z ?_))
 by_cases h0:0≤n
 ·rw[Int.tmod_eq_emod_of_nonneg h0,Int.tdiv_eq_ediv_of_nonneg h0]
  refine Ok.N ?_
  dsimp only
  rw[Qc (x:=n / 86400) (by omega),Qc (x:=n / 86400*86400) (by omega),Qc (by omega)]
  exact Ok.s (by congr 1;omega)
 ·have e1:Int.tmod n 86400 = -((-n) % 86400):=by
   rw[show n = -(-n)by omega,Int.neg_tmod,Int.tmod_eq_emod_of_nonneg (by omega),Int.neg_neg]
  have e2:Int.tdiv n 86400 = -((-n) / 86400):=by
   rw[show n = -(-n)by omega,Int.neg_tdiv,Int.tdiv_eq_ediv_of_nonneg (by omega),Int.neg_neg]
  rw[e1,e2]
  by_cases h1 : -((-n) % 86400)<0
  ·refine Ok.p h1 ?_
   dsimp only
   rw[Qc (x:=-((-n) / 86400)) (by omega),Qc (x:=-((-n) / 86400) - 1) (by omega),Qc (x:=(-((-n) / 86400) - 1)*86400) (by omega),Qc (by omega)]
   exact Ok.s (by rw[D.Local.mk.injEq];omega)
  ·refine Ok.n h1 ?_
   dsimp only
   rw[Qc (x:=-((-n) / 86400)) (by omega),Qc (x:=-((-n) / 86400)*86400) (by omega),Qc (by omega)]
   exact Ok.s (by rw[D.Local.mk.injEq];omega)
theorem Qc3.le(h:Qc3 off): -7200≤off∧off≤3600:=by unfold Qc3 at h;omega
theorem Qwb(ho:Qc3 off)(ht:0≤t∧t≤8589934592):ZF 1000 (tabV off) t=some ⟨(t+off) / 86400,(t+off) % 86400⟩:=by
 have:=ho.le
 unfold ZF
 rw[QxC,ZL,Qc (by omega),Qu7 (by omega),ZL]
theorem QxE(ho:Qc3 off):Un 1000 (tabV off) 0 8589934593=some [⟨0,8589934593,off⟩]:=by
 rcases ho with rfl|rfl|rfl<;>kernel_rfl
theorem Qwa{d s:Int}(ho:Qc3 off)(hd:1≤d∧d≤1000000)(hs:0≤s∧s≤86399):
  Ok (XQ 1000 (tabV off) ⟨d,s⟩) fun r=>r.2=decide (d*86400+s - off≤8589934592)∧(r.2=true→r.1=d*86400+s - off):=by
 have:=ho.le
 unfold XQ Qd9
 refine Ok.oe (QxE ho) ?_
 have e:IntKind.wrap .i64 (IntKind.wrap .i64 (min (max d (-1048576)) 1048576*86400)+s)=d*86400+s:=by rw[Qc (x:=min (max d (-1048576)) 1048576*86400) (by omega),Qc (by omega)];omega
 by_cases h:d*86400+s - off≤8589934592
 ·refine Ok.scan 1 (fun i=>(([⟨0,8589934593,off⟩],1,(i:Int),()),⟨d,s⟩,())) (fun _=>true) rfl (by omega) (fun i hi _ _ k=>?_) (fun i hi hq=>by simp at hq) (fun hq=>by have:=hq 0 (by omega);simp at this)
  obtain rfl:i=0:=by omega
  refine Ok.PS (Ok.atn (by simp) (Ok.os ?_))
  dsimp only
  rw[e,show(nth [(⟨0,8589934593,off⟩:D.Piece)] 0)=⟨0,8589934593,off⟩from rfl]
  dsimp only
  rw[Qc (x:=d*86400+s - off) (by omega),show max 0 (d*86400+s - off)=d*86400+s - off by omega]
  exact Ok.P (Ok.s ⟨by simp[h],fun _=>rfl⟩)
 ·refine Ok.run 1 (fun i=>(([⟨0,8589934593,off⟩],1,(i:Int),()),⟨d,s⟩,())) rfl (by omega) (fun i hi k hk=>?_) (fun k=>?_)
  ·obtain rfl:i=0:=by omega
   refine Ok.PS (Ok.atn (by simp) (Ok.os ?_))
   dsimp only
   rw[e,show(nth [(⟨0,8589934593,off⟩:D.Piece)] 0)=⟨0,8589934593,off⟩from rfl]
   dsimp only
   rw[Qc (x:=d*86400+s - off) (by omega),show max 0 (d*86400+s - off)=d*86400+s - off by omega]
   exact Ok.N hk
  ·exact Ok.NS (Ok.s ⟨by simp[h],fun h=>by simp at h⟩)
theorem Qqh(hl:YI l):(l.Unit=0→YQ off l k=Ys off l+3600*l.Every*k)∧(l.Unit=1→YQ off l k=Ys off l+86400*l.Every*k):=by
 refine⟨fun h=>?_,fun h=>?_⟩
 ·unfold YQ;rw[Qhg h]
 ·unfold YQ;rw[QjV h]
theorem Qyf(hl:YI l)(ho:Qc3 off)(hk:0≤k∧k≤200000)(hu:l.Unit=1∨k=0):
  Ok (ZY 1000 (tabV off) l k) fun r=>r.2=decide (YQ off l k≤8589934592)∧(r.2=true→r.1=YQ off l k):=by
 have:=ho.le
 have h1:=hl.day;have h2:=hl.second;have h4:=hl.every
 unfold ZY Qb8
 refine Ok.N ?_
 rcases hl.unit with hu0|hu1
 ·obtain rfl:k=0:=by omega
  refine Ok.N ?_
  have hf:=Qf3 (off:=off) hl ho
  have hh:YQ off l 0=l.Start.Day*86400+l.Start.Second - off:=by unfold YQ Ys;omega
  refine Ok.opt (Qwa (d:=l.Start.Day) (s:=l.Start.Second) ho (by omega) (by omega)) fun⟨v,b⟩ ⟨g1,g2⟩=>?_
  dsimp only at g1 g2 ⊢
  have hb:b=true:=by rw[g1];unfold Ys at hf;simp;omega
  subst hb
  have hv:=g2 rfl
  have hw:IntKind.wrap .i64 (v+IntKind.wrap .i64 (IntKind.wrap .i64 (3600*l.Every)*0))=YQ off l 0:=by
   rw[Int.mul_zero,Qc (x:=0) (by omega),Qc (by unfold Ys at hf;omega),hh,hv];omega
  rw[hw]
  have hm:YQ off l 0≤8589934592:=by rw[hh];unfold Ys at hf;omega
  exact Ok.t (Ok.p hm (Ok.s ⟨by simp[hm],fun _=>rfl⟩))
 ·refine Ok.P ?_
  (try unfold cd);rw[QhJ (show ¬l.Unit=2 by omega),ZL]
  have hE:l.Every=1∨l.Every=2∨l.Every=3:=by omega
  have hh:YQ off l k=(l.Start.Day+k*l.Every)*86400+l.Start.Second - off:=(Qqg (QjV hu1)).symm
  have hb:0≤k*l.Every∧k*l.Every≤600000:=by rcases hE with e|e|e<;>rw[e]<;>omega
  rw[Qc (x:=k*l.Every) (by omega),Qc (x:=l.Start.Day+k*l.Every) (by omega)]
  refine Ok.opt (Qwa (d:=l.Start.Day+k*l.Every) (s:=l.Start.Second) ho (by omega) (by omega)) fun⟨v,b⟩ ⟨g1,g2⟩=>?_
  rw[←hh]at g1 g2
  exact Ok.s ⟨g1,g2⟩
theorem Qyg(hl:YI l)(ho:Qc3 off)(ht:0≤t∧t≤8589934592):VQ 1000 (tabV off) l t=some (ZW off l t):=by
  have hoo:=ho.le
  have h1:=hl.day;have h2:=hl.second;have h4:=hl.every
  have hf:=Qf3 (off:=off) hl ho
  have h0:YQ off l 0=Ys off l:=by unfold YQ;omega
  refine Ok.eq ?_
  unfold VQ
  refine Ok.opt (Qyf (k:=0) hl ho (by omega) (.inr rfl)) fun⟨v,b⟩ ⟨g1,g2⟩=>?_
  dsimp only at g1 g2 ⊢
  have hb:b=true:=by rw[g1,h0];simp;omega
  subst hb
  have hv:=g2 rfl
  rw[hv,h0]
  refine Ok.j (Ok.t ?_)
  by_cases hlt:t<Ys off l
  · exact Ok.p hlt (Ok.s (by rw[QmH (by rw[h0];exact hlt)]))
  refine Ok.n hlt ?_
  dsimp only
  rcases hl.unit with hu|hu
  · have e1:IntKind.wrap .i64 (3600*l.Every)=3600*l.Every:=Qc (by omega)
    rw[e1]
    refine Ok.p hu (Ok.Z ?_)
    rw[Qc (x:=t - Ys off l) (by omega),Int.tdiv_eq_ediv_of_nonneg (by omega)]
    have e2:(t - Ys off l) / (3600*l.Every)=ZW off l t:=by unfold ZW;rw[if_neg hlt,Qhg hu]
    have e3:=Qoz (t:=t) hl ho (by omega)
    rw[e2,Qc (by omega)]
    exact Ok.s rfl
  · refine Ok.N (Ok.oe (Qwb ho ht) ?_)
    unfold Qb8
    (try unfold cd);rw[QhJ (show ¬l.Unit=2 by omega),ZL]
    refine Ok.Z (Ok.j ?_)
    dsimp only
    obtain⟨dy,hD⟩:∃dy,(t+off) / 86400=dy:=⟨_,rfl⟩
    rw[hD]
    have hDb : -1≤dy∧dy≤99422:=by omega
    rw[Qc (x:=dy - l.Start.Day) (by omega)]
    obtain⟨k0,hk0⟩:∃k0,max 0 (IntKind.wrap .i64 (Int.tdiv (dy - l.Start.Day) l.Every))=k0:=⟨_,rfl⟩
    rw[hk0]
    have hE:l.Every=1∨l.Every=2∨l.Every=3:=by omega
    have hlin:∀k,YQ off l k=Ys off l+86400*l.Every*k:=fun k=>(Qqh hl).2 hu
    have hfd:Ys off l=l.Start.Day*86400+l.Start.Second - off:=rfl
    have hk:0≤k0∧k0≤99422∧(1≤k0→YQ off l (k0 - 1)≤t)∧t<YQ off l (k0+1):=by
      have hq:Int.tdiv (dy - l.Start.Day) l.Every≤0∧dy - l.Start.Day<l.Every∨Int.tdiv (dy - l.Start.Day) l.Every=(dy - l.Start.Day) / l.Every∧0≤dy - l.Start.Day:=by
        by_cases hn:0≤dy - l.Start.Day
        · exact .inr ⟨Int.tdiv_eq_ediv_of_nonneg hn,hn⟩
        · refine .inl ⟨?_,by omega⟩
          rw[show dy - l.Start.Day = -(l.Start.Day - dy)by omega,Int.neg_tdiv,Int.tdiv_eq_ediv_of_nonneg (by omega)]
          have:=Int.ediv_nonneg (show 0≤l.Start.Day - dy by omega) (show 0≤l.Every by omega)
          omega
      have hw:IntKind.wrap .i64 (Int.tdiv (dy - l.Start.Day) l.Every)=Int.tdiv (dy - l.Start.Day) l.Every:=by
        refine Qc ?_
        rcases hq with⟨q1,_⟩|⟨q1,q2⟩
        · by_cases hn:0≤dy - l.Start.Day
          · rw[Int.tdiv_eq_ediv_of_nonneg hn];rcases hE with e|e|e<;>rw[e]<;>omega
          · rw[show dy - l.Start.Day = -(l.Start.Day - dy)by omega,Int.neg_tdiv,Int.tdiv_eq_ediv_of_nonneg (by omega)]
            rcases hE with e|e|e<;>rw[e]<;>omega
        · rw[q1];rcases hE with e|e|e<;>rw[e]<;>omega
      rw[hw]at hk0
      rw[hlin,hlin,hfd]
      rcases hE with e|e|e<;>rw[e]at hq hk0⊢<;>omega
    obtain⟨k1,k2,k3,k4⟩:=hk
    have hhand:∀k,0≤k→k≤k0+1→Ok (ZY 1000 (tabV off) l k) fun r=>r.2=decide (YQ off l k≤8589934592)∧(r.2=true→r.1=YQ off l k):=fun k a b=>Qyf hl ho (by omega) (.inl hu)
    have up:∀k,0≤k→k0 - 1≤k→k≤k0→YQ off l k≤t→Ok (Qh (X:=((Int×(Int×Unit))×(D.Table×(D.Layer×Unit)))) (fun L12 ((a13,(a14,_)),(a15,(a16,_)))=>
           (join (Y:=((Int×(Int×Unit))×(D.Table×(D.Layer×Unit)))) (fun((a17,(a18,_)),(a19,(a20,_)))=>
             (L12 ((a17,((IntKind.wrap .i64 (a18+1)),())),(a19,(a20,()))))) fun J21=>
            (optc (ZY 1000 a15 a16 (IntKind.wrap .i64 (a14+1))) fun(a22,a23)=>
             (cnd a23
              (cnd (decide (a13<a22))
               (some a14)
               (J21 ((a13,(a14,())),(a15,(a16,())))))
              (some a14))))) 1000 ((t,(k,())),(tabV off,(l,())))) (·=ZW off l t):=by
      intro k a1 a2 a3 a4
      refine Ok.loop (fun m x=>∃k,x=((t,k,()),tabV off,l,())∧0≤k∧k0 - 1≤k∧k≤k0∧YQ off l k≤t∧(k0 - k).toNat=m) (m:=(k0 - k).toNat) (by omega) ⟨k,rfl,a1,a2,a3,a4,rfl⟩ ?_
      rintro m x ⟨k,rfl,a1,a2,a3,a4,rfl⟩ K hK
      dsimp only
      rw[Qc (x:=k+1) (by omega)]
      refine Ok.j (Ok.opt (hhand (k+1) (by omega) (by omega)) fun⟨v,b⟩ ⟨g1,g2⟩=>?_)
      dsimp only at g1 g2 ⊢
      by_cases hm:YQ off l (k+1)≤8589934592
      · have hb:b=true:=by rw[g1];simp[hm]
        subst hb
        rw[g2 rfl]
        refine Ok.t (Ok.ite (fun hlt=>Ok.s (QmG hl a1 a4 hlt).symm) (fun hge=>?_))
        have:k≠k0:=fun e=>by rw[e]at hge;omega
        rw[Qc (x:=k+1) (by omega)]
        exact hK _ _ (by omega) ⟨k+1,rfl,by omega,by omega,by omega,by omega,rfl⟩
      · have hb:b=false:=by rw[g1];simp[hm]
        subst hb
        exact Ok.f (Ok.s (QmG hl a1 a4 (by omega)).symm)
    have h00:YQ off l 0≤t:=by rw[h0];omega
    refine Ok.loop (fun m x=>∃k,x=((t,k,()),tabV off,l,())∧0≤k∧(m=1∧k=k0∨m=0∧k=k0 - 1)) (m:=1) (by omega) ⟨k0,rfl,k1,.inl ⟨rfl,rfl⟩⟩ ?_
    rintro m x ⟨k,rfl,a1,a2⟩ K hK
    dsimp only
    refine Ok.ite (fun hpos=>?_) (fun hz=>?_)
    · refine Ok.j (Ok.opt (hhand k (by omega) (by omega)) fun⟨v,b⟩ ⟨g1,g2⟩=>?_)
      dsimp only at g1 g2 ⊢
      have down:¬YQ off l k≤t→Ok (K ((t,IntKind.wrap .i64 (k - 1),()),tabV off,l,())) (·=ZW off l t):=fun hgt=>by
        rw[Qc (x:=k - 1) (by omega)]
        rcases a2 with⟨rfl,rfl⟩|⟨rfl,rfl⟩
        · exact hK 0 _ (by omega) ⟨k - 1,rfl,by omega,.inr ⟨rfl,rfl⟩⟩
        · exact absurd (k3 (by omega)) hgt
      by_cases hm:YQ off l k≤8589934592
      · have hb:b=true:=by rw[g1];simp[hm]
        subst hb
        rw[g2 rfl]
        refine Ok.t (Ok.ite (fun hle=>?_) (fun hgt=>down hgt))
        exact up k a1 (by omega) (by omega) hle
      · have hb:b=false:=by rw[g1];simp[hm]
        subst hb
        exact Ok.f (down (by omega))
    · obtain rfl:k=0:=by omega
      exact up 0 (by omega) (by omega) (by omega) h00
theorem tOn{v:D.View}(hl:YI l)(ho:Qc3 off)(hv:v.tables=[tabV off])(ht:0≤t∧t≤8589934592):Qbf 1000 v l t=some (if ZW off l t<0 then(0,false)else(ZW off l t,true)):=by
 refine Ok.eq ?_
 unfold Qbf
 refine Ok.j (Ok.N (Ok.N ?_))
 dsimp only
 rw[hv,hl.zone]
 refine Ok.atn (i:=0) (by simp) (Ok.oe (Qyg hl ho ht:VQ 1000 (nth [tabV off] 0) l t=_) ?_)
 refine Ok.j ?_
 by_cases h:ZW off l t<0
 ·refine Ok.p h (Ok.s ?_)
  rw[if_pos h]
 ·refine Ok.n h ?_
  rw[hl.win]
  refine Ok.NS ?_
  dsimp only
  exact Ok.p hl.cal.2 (Ok.s (by rw[if_neg h]))
theorem QvS(hl:YI l)(h:¬ZW off l t<0):atc l.Members (Int.tmod (ZW off l t) (((List.length l.Members):Nat):Int)) (fun a2=>some a2)=some (Qcs off l t):=by
 have hlen:=hl.len
 have e:Int.tmod (ZW off l t) (((List.length l.Members):Nat):Int)=(((ZW off l t).toNat % l.Members.length:Nat):Int):=by
  rw[Int.tmod_eq_emod_of_nonneg (by omega),Int.natCast_emod,Int.toNat_of_nonneg (by omega)]
 rw[e,QxR (Nat.mod_lt _ (by omega))]
 unfold Qcs
 rw[if_neg h]
theorem QxD{v:D.View}(hl:YI l)(ho:Qc3 off)(hv:v.tables=[tabV off])(ht:0≤t∧t≤8589934592):XK 1000 v l t=some (Qcs off l t):=by
 have hlen:=hl.len
 refine Ok.eq ?_
 unfold XK
 refine Ok.oe (tOn hl ho hv ht) ?_
 by_cases h:ZW off l t<0
 ·rw[if_pos h]
  refine Ok.nf rfl (Ok.s ?_)
  unfold Qcs
  rw[if_pos h]
 ·rw[if_neg h]
  refine Ok.nt rfl (Ok.Z ?_)
  rw[QvS hl h]
  exact Ok.s rfl
theorem away1{x:D.Edit}{p:Int}:QbA 1000 x p t=some (QoZ p t x):=by
 unfold QbA QoZ
 simp only[Wn,QvP]
 by_cases h1:x.Kind=0<;>by_cases h2:x.A=p<;>by_cases h3:x.From≤t<;>by_cases h4:t<x.To<;>simp[h1,h2,h3,h4]
theorem Qyv{s:D.Schedule}{p:Int}(hs:s.Edits.length<900):Uk 1000 s p t=some (Qix s.Edits p t):=by
 have key:Ok (Q2 1000 s.Edits p t) fun r=>decide (0≤r)=Qix s.Edits p t:=by
  unfold Q2
  refine Ok.scan s.Edits.length (fun i=>((s.Edits,((s.Edits.length:Nat):Int),(i:Int),()),(p,()),(t,()),())) (fun i=>QoZ p t (nth s.Edits i)) rfl (by omega) (fun i hi hq _ k=>?_) (fun i hi hq k hk=>?_) (fun hq k=>?_)
  ·refine Ok.P (Ok.atn hi (Ok.oe away1 (Ok.bt hq (Ok.sameC (Ok.sameC (Ok.s ?_))))))
   unfold Qix
   rw[Qis hi hq];simp
  ·refine Ok.P (Ok.atn hi (Ok.oe away1 (Ok.bf hq ?_)))
   rw[Qa (by omega)];exact hk
  ·refine Ok.N (Ok.sameC (Ok.sameC (Ok.s ?_)))
   unfold Qix
   rw[QmZ hq];simp
 obtain⟨r,h1,h2⟩:=key
 unfold Uk Zi
 rw[h1,ZL,Wn,Wn,ZL,h2]
theorem Qyw{es:List D.Edit}{p:Int}(hs:es.length<900):QfW 1000 es p t=some (Qf5 es p t):=by
 refine Ok.eq ?_
 unfold QfW
 refine Ok.run es.length (fun i=>((Qf5 (es.take i) p t,t,es,((es.length:Nat):Int),(i:Int),()),())) (by simp[Qf5]) (by omega) (fun i hi k hk=>?_) (fun k=>?_)
 ·refine Ok.P (Ok.j (Ok.atn hi ?_))
  dsimp only
  have ha:Qfg 1000 (nth es i) t=some (decide ((nth es i).From≤t∧t<(nth es i).To)):=cnd2
  refine Ok.oe ha ?_
  rw[Qa (by omega)]
  rw[QkQ hi]at hk
  unfold QnE at hk
  refine Ok.ite (fun h1=>?_) (fun h1=>?_)
  ·refine Ok.ite (fun h2=>?_) (fun h2=>?_)
   ·rw[if_pos (.inr h2)]at hk;exact hk
   ·rw[if_neg (by simp[h1,h2])]at hk
    refine Ok.ite (fun h3=>?_) (fun h3=>?_)
    ·rw[if_pos h3]at hk;exact hk
    ·rw[if_neg h3]at hk
     refine Ok.ite (fun h4=>?_) (fun h4=>?_)
     ·rw[if_pos h4]at hk;exact hk
     ·rw[if_neg h4]at hk
      refine Ok.ite (fun h5=>?_) (fun h5=>?_)
      ·rw[if_pos h5]at hk;exact hk
      ·rw[if_neg h5]at hk
       refine Ok.ite (fun h6=>?_) (fun h6=>?_)
       ·rw[if_pos h6]at hk;exact hk
       ·rw[if_neg h6]at hk;exact hk
  ·rw[if_pos (.inl h1)]at hk;exact hk
 ·refine Ok.N (Ok.s ?_)
  rw[List.take_length]
variable {n:Nat} {c:D.Config}
theorem Q3.offs(h:Q3 n c):Qc3 (YR c):=h.zones.2
theorem tOf(h:Q3 n c)(hn:n≤48):QiW 1000 c=some (⟨c,[tabV (YR c)]⟩,true):=by
 have hz:QfP 1000 c.Zones=some [tabV (YR c)]:=by
  obtain⟨h1,h2⟩:=h.zones
  rw[h1]
  rcases h2 with h2|h2|h2<;>rw[h2]<;>kernel_rfl
 unfold QiW QiY
 (try unfold cd);rw[Qh0 h hn,ZL,QhJ (by decide),hz,ZL,ZL]
theorem Qyh{s:D.Schedule}(h:Q3 n c)(hn:n≤48)(hs:Qdd n s):Qed 1000 ⟨c,[tabV (YR c)]⟩ s t=some (if 0≤t∧t≤8589934592 then whoS (YR c) s t else -1):=by
 obtain⟨l,hl1,hl2⟩:=hs.layers
 have hlen:=hs.len
 refine Ok.eq ?_
 unfold Qed
 refine Ok.j (Ok.ite (fun h1=>Ok.s (by rw[if_neg (by omega)])) fun h1=>Ok.ite (fun h2=>Ok.s (by rw[if_neg (by omega)])) fun h2=>?_)
 dsimp only
 rw[if_pos (by omega)]
 have hlay:Ok (Y9 1000 ⟨c,[tabV (YR c)]⟩ s t) fun r=>r.2=layP (YR c) s t:=by
  unfold Y9 layP
  rw[hl1,show nth [l] 0=l from rfl]
  refine Ok.oe (QxD hl2 h.offs rfl (by omega)) (Ok.ite (fun h3=>Ok.s (by rw[if_neg (by omega)])) fun h3=>?_)
  refine Ok.oe (Qyv (by omega)) (Ok.cnd (fun h4=>Ok.s (by rw[if_neg (by rw[h4];simp)])) fun h4=>Ok.s (by rw[if_pos ⟨by omega,h4⟩]))
 refine Ok.opt hlay fun⟨i,p⟩ hp=>?_
 dsimp only at hp ⊢
 refine Ok.oe (Qyw (by omega)) (Ok.s ?_)
 unfold whoS
 rw[hp]
theorem Qyk{i:Int}(h:Q3 n c)(hn:n≤48):QeE 1000 c i t=some (whoV c i t):=by
 have hsl:=h.slen
 have key:Ok (Qh3 1000 c i t) (·=whoV c i t):=by
  unfold Qh3 whoV
  refine Ok.oe (tOf h hn) (Ok.j (Ok.t ?_))
  have hi:W9 1000 c i=some (decide (0≤i∧i<(c.Schedules.length:Int))):=cnd2
  refine Ok.oe hi (Ok.ite (fun h1=>?_) (fun h1=>Ok.s (by rw[if_neg (by omega)])))
  dsimp only
  refine Ok.at h1.1 h1.2 (Ok.oe (Qyh h hn (h.sch (by omega))) (Ok.s ?_))
  by_cases ht:0≤t∧t≤8589934592
  ·rw[if_pos ht,if_pos ⟨h1.1,by omega,ht⟩]
  ·rw[if_neg ht,if_neg (by omega)]
 unfold QeE
 rw[Ok.eq key,ZL]
end
/-
  Who is on call in a crew: what the reference computes.
-/
section
variable {off t k:Int} {l:D.Layer}
def QfN(off:Int):D.Zone:=⟨bZ,off,[]⟩
theorem r4In{fu:Nat}{n lo hi:Int}:QaT fu n lo hi=some (decide (lo≤n∧n≤hi)):=cnd2
theorem QtG(ho:Qc3 off):Wi 1000 (QfN off)=some ([],0):=by
 rcases ho with rfl|rfl|rfl<;>kernel_rfl
theorem Qxm:Qer 1000 (QfN off) [] t=some off:=by
 refine Ok.eq ?_
 unfold Qer
 refine Ok.j (Ok.run 0 (fun _=>(([],(t,(off,(0,())))),())) rfl (by omega) (fun i hi=>absurd hi (by omega)) (fun k=>?_))
 exact Ok.j (Ok.NS (Ok.s rfl))
theorem Qv5(ho:Qc3 off)(ht:0≤t∧t≤8589934592):Ug 1000 (QfN off) t=some (⟨(t+off) / 86400,(t+off) % 86400⟩,0):=by
 have:=ho.le
 have h1:Qbt 1000 (QfN off) t=some (off,0):=by
  refine Ok.eq ?_
  unfold Qbt
  exact Ok.oe (QtG ho) (Ok.n (by decide) (Ok.oe r4In (Ok.np (by omega) (Ok.oe Qxm (Ok.s rfl)))))
 refine Ok.eq ?_
 unfold Ug
 refine Ok.oe h1 (Ok.n (by decide) ?_)
 unfold QjG
 rw[Qc (x:=t+off) (by omega),Qc (x:=t+off+864000) (by omega),Int.tdiv_eq_ediv_of_nonneg (by omega),Int.tmod_eq_emod_of_nonneg (by omega),Qc (x:=(t+off+864000) / 86400) (by omega),Qc (by omega),Qto (by omega),Qto (by omega),ZL]
 exact Ok.s (by rw[Prod.mk.injEq,D.Local.mk.injEq];omega)
theorem Qv4{d s:Int}(ho:Qc3 off)(hd:1≤d∧d≤1000000)(hs:0≤s∧s≤86399):
  Ok (Qb1 1000 (QfN off) ⟨d,s⟩) fun r=>decide (r.2=0)=decide (d*86400+s - off≤8589934592)∧(r.2=0→r.1=d*86400+s - off):=by
 have:=ho.le
 unfold Qb1
 refine Ok.oe (QtG ho) (Ok.n (by decide) (Ok.oe r4In (Ok.np (by dsimp only;omega) (Ok.n (by dsimp only;omega) ?_))))
 have hsm:Qgl 1000 d=some (decide (-2≤d∧d≤99422)):=by unfold Qgl;rw[r4In,ZL]
 refine Ok.oe hsm ?_
 by_cases hd2:d≤99422
 ·refine Ok.np (by omega) ?_
  refine Ok.loop (fun m x=>x=(([],(-1,())),(QfN off,(⟨d,s⟩,())))∧m=1∨x=(([],(0,())),(QfN off,(⟨d,s⟩,())))∧m=0∧¬d*86400+s - off≤8589934592) (m:=1) (by omega) (.inl ⟨rfl,rfl⟩) ?_
  rintro m x (⟨rfl,rfl⟩|⟨rfl,rfl,hno⟩) K hK
  ·dsimp only
   refine Ok.PS (Ok.j (Ok.n (by decide) ?_))
   dsimp only
   refine Ok.j (Ok.n (by rw[Qc (by omega)];simp) ?_)
   have ew:max 0 (IntKind.wrap .i64 (IntKind.wrap .i64 (IntKind.wrap .i64 (d*86400)+s) - off))=d*86400+s - off:=by
    rw[Qc (x:=d*86400) (by omega),Qc (x:=d*86400+s) (by omega),Qc (x:=d*86400+s - off) (by omega)];omega
   by_cases h:d*86400+s - off≤8589934592
   ·exact Ok.p (show max 0 (IntKind.wrap .i64 (IntKind.wrap .i64 (IntKind.wrap .i64 (d*86400)+s) - off))<8589934593 by rw[ew];omega) (Ok.s ⟨by simp[h],fun _=>ew⟩)
   ·exact Ok.n (show ¬max 0 (IntKind.wrap .i64 (IntKind.wrap .i64 (IntKind.wrap .i64 (d*86400)+s) - off))<8589934593 by rw[ew];omega) (hK 0 _ (by omega) (.inr ⟨rfl,rfl,h⟩))
  ·dsimp only
   exact Ok.NS (Ok.s ⟨by simp;omega,fun h=>by simp at h⟩)
 ·refine Ok.nn (by omega) (Ok.s ⟨by simp;omega,fun h=>by simp at h⟩)
theorem Qyt(hl:YI l)(ho:Qc3 off)(hk:0≤k∧k≤200000)(hu:l.Unit=1):
  Ok (Qbv 1000 (QfN off) l k) fun r=>r.2=decide (YQ off l k≤8589934592)∧(r.2=true→r.1=YQ off l k):=by
 have:=ho.le
 have h1:=hl.day;have h2:=hl.second;have h4:=hl.every
 unfold Qbv
 refine Ok.N (Ok.j (Ok.N ?_))
 dsimp only
 have hE:l.Every=1∨l.Every=2∨l.Every=3:=by omega
 have hh:YQ off l k=(l.Start.Day+k*l.Every)*86400+l.Start.Second - off:=(Qqg (QjV hu)).symm
 have hb:0≤k*l.Every∧k*l.Every≤600000:=by rcases hE with e|e|e<;>rw[e]<;>omega
 rw[Qc (x:=k*l.Every) (by omega),Qc (x:=l.Start.Day+k*l.Every) (by omega)]
 refine Ok.opt (Qv4 (d:=l.Start.Day+k*l.Every) (s:=l.Start.Second) ho (by omega) (by omega)) fun⟨v,b⟩ ⟨g1,g2⟩=>?_
 rw[←hh]at g1 g2
 refine Ok.s ⟨g1,fun h=>g2 (of_decide_eq_true h)⟩
theorem Qx9(hl:YI l)(ho:Qc3 off)(ht:0≤t∧t≤8589934592):Qgo 1000 (QfN off) l t=some (ZW off l t):=by
 have hoo:=ho.le
 have h1:=hl.day;have h2:=hl.second;have h4:=hl.every
 have hf:=Qf3 (off:=off) hl ho
 have h0:YQ off l 0=Ys off l:=by unfold YQ;omega
 have hfd:Ys off l=l.Start.Day*86400+l.Start.Second - off:=rfl
 have e3:=Qoz (t:=t) hl ho (by omega)
 refine Ok.eq ?_
 unfold Qgo
 rcases hl.unit with hu|hu
 ·refine Ok.p hu (Ok.j ?_)
  refine Ok.opt (Qv4 (d:=l.Start.Day) (s:=l.Start.Second) ho (by omega) (by omega)) fun⟨v,b⟩ ⟨g1,g2⟩=>?_
  dsimp only at g1 g2 ⊢
  have hb:b=0:=by
   have:decide (b=0)=true:=by rw[g1];simp;omega
   exact of_decide_eq_true this
  rw[g2 hb,←hfd]
  refine Ok.p hb (Ok.ite (fun hle=>?_) (fun hgt=>Ok.s ?_))
  ·have e1:IntKind.wrap .i64 (3600*l.Every)=3600*l.Every:=Qc (by omega)
   rw[e1]
   refine Ok.Z ?_
   rw[Qc (x:=t - Ys off l) (by omega),Int.tdiv_eq_ediv_of_nonneg (by omega)]
   have e2:(t - Ys off l) / (3600*l.Every)=ZW off l t:=by unfold ZW;rw[if_neg (by omega),Qhg hu]
   rw[e2,Qc (by omega)]
   exact Ok.s rfl
  ·exact(QmH (by rw[h0];omega)).symm
 ·refine Ok.N (Ok.oe (Qv5 ho ht) (Ok.j (Ok.N ?_)))
  dsimp only
  obtain⟨dy,hD⟩:∃dy,(t+off) / 86400=dy:=⟨_,rfl⟩
  rw[hD]
  have hDb : -1≤dy∧dy≤99422:=by omega
  refine Ok.j (Ok.Z ?_)
  rw[Qc (x:=dy+2) (by omega),Qc (x:=dy+2 - l.Start.Day) (by omega),Int.tdiv_eq_ediv_of_nonneg (by omega)]
  obtain⟨k0,hk0⟩:∃k0,max (dy+2 - l.Start.Day) 0 / l.Every=k0:=⟨_,rfl⟩
  rw[hk0]
  have hE:l.Every=1∨l.Every=2∨l.Every=3:=by omega
  have hlin:∀k,YQ off l k=Ys off l+86400*l.Every*k:=fun k=>(Qqh hl).2 hu
  have hk:0≤k0∧k0≤99424∧(∀k,0≤k→k≤k0 - 3→YQ off l k≤t)∧t<YQ off l (k0+1):=by
   refine⟨?_,?_,fun k a b=>?_,?_⟩
   ·rcases hE with e|e|e<;>rw[e]at hk0<;>omega
   ·rcases hE with e|e|e<;>rw[e]at hk0<;>omega
   ·rw[hlin,hfd];rcases hE with e|e|e<;>rw[e]at hk0⊢<;>omega
   ·rw[hlin,hfd];rcases hE with e|e|e<;>rw[e]at hk0⊢<;>omega
  obtain⟨k1,k2,k3,k4⟩:=hk
  rw[Qc (x:=k0) (by omega)]
  refine Ok.loop (fun m x=>∃k,x=((t,k,()),QfN off,l,())∧-1≤k∧k≤k0∧(k = -1∨k0 - 3≤k)∧t<YQ off l (k+1)∧m=(k - (k0 - 4)).toNat) (m:=4) (by omega) ⟨k0,rfl,by omega,by omega,by omega,k4,by omega⟩ ?_
  rintro m x ⟨k,rfl,a1,a2,a3,a4,rfl⟩ K hK
  dsimp only
  refine Ok.ite (fun hpos=>?_) (fun hz=>?_)
  ·refine Ok.j (Ok.opt (Qyt (k:=k) hl ho (by omega) hu) fun⟨v,b⟩ ⟨g1,g2⟩=>?_)
   dsimp only at g1 g2 ⊢
   have down:¬YQ off l k≤t→Ok (K ((t,IntKind.wrap .i64 (k - 1),()),QfN off,l,())) (·=ZW off l t):=fun hgt=>by
    rw[Qc (x:=k - 1) (by omega)]
    have hne:¬k≤k0 - 3:=fun h=>hgt (k3 k hpos h)
    exact hK _ _ (by omega) ⟨k - 1,rfl,by omega,by omega,by omega,by rw[show k - 1+1=k by omega];omega,rfl⟩
   by_cases hm:YQ off l k≤8589934592
   ·have hb:b=true:=by rw[g1];simp[hm]
    subst hb
    rw[g2 rfl]
    refine Ok.t (Ok.ite (fun hle=>?_) (fun hgt=>down hgt))
    exact Ok.s (QmG hl hpos hle a4).symm
   ·have hb:b=false:=by rw[g1];simp[hm]
    subst hb
    exact Ok.f (down (by omega))
  ·obtain rfl:k = -1:=by omega
   exact Ok.s (QmH (by simpa using a4)).symm
variable {n:Nat} {c:D.Config}
theorem Qvl(hl:YI l)(ho:Qc3 off):Qgn 1000 (QfN off) l=some 0:=by
 have h1:=hl.day;have h2:=hl.second;have h3:=hl.unit;have h4:=hl.every;have h5:=hl.len
 have hz:Qb0 1000 (QfN off)=some 0:=by unfold Qb0;rw[QtG ho,ZL]
 refine Ok.eq ?_
 unfold Qgn
 (repeat(first|with_reducible refine Ok.j ?_|with_reducible refine Ok.oe (hz) ?_|(with_reducible refine Ok.n ?hh ?_;case hh=>(first|omega|decide|assumption|(dsimp only;omega)|(simp;done)))))
 exact Ok.s rfl
theorem Qyu(h:Q3 n c)(hl:YI l)(ht:0≤t∧t≤8589934592):Qib 1000 c l t=some (if ZW (YR c) l t<0 then(0,false)else(ZW (YR c) l t,true)):=by
 have hS:QdK 1000 (QfN (YR c)) l t=some (ZW (YR c) l t,0):=by
  refine Ok.eq ?_
  unfold QdK
  refine Ok.oe (Qvl hl h.offs) (Ok.n (by decide) (Ok.j (Ok.N (Ok.N ?_))))
  exact Ok.oe (Qx9 hl h.offs ht) (Ok.s rfl)
 refine Ok.eq ?_
 unfold Qib
 rw[h.zones.1,hl.zone]
 refine Ok.atn (i:=0) (by simp) (Ok.oe (hS:QdK 1000 (nth [(⟨bZ,YR c,[]⟩:D.Zone)] 0) l t=_) ?_)
 refine Ok.j (Ok.n (by decide) ?_)
 by_cases hs:ZW (YR c) l t<0
 ·exact Ok.p hs (Ok.s (by rw[if_pos hs]))
 ·refine Ok.n hs ?_
  rw[hl.win]
  refine Ok.NS ?_
  dsimp only
  exact Ok.p hl.cal.2 (Ok.s (by rw[if_neg hs]))
theorem qRaw(h:Q3 n c)(hl:YI l)(ht:0≤t∧t≤8589934592):QjK 1000 c l t=some (Qcs (YR c) l t):=by
 have hlen:=hl.len
 refine Ok.eq ?_
 unfold QjK
 refine Ok.oe (Qyu h hl ht) ?_
 by_cases hs:ZW (YR c) l t<0
 ·rw[if_pos hs]
  refine Ok.nf rfl (Ok.s ?_)
  unfold Qcs
  rw[if_pos hs]
 ·rw[if_neg hs]
  refine Ok.nt rfl (Ok.Z ?_)
  rw[QvS hl hs]
  exact Ok.s rfl
theorem Qyr{s:D.Schedule}{p:Int}(hs:s.Edits.length<900):Qic 1000 s p t=some (Qix s.Edits p t):=by
 refine Ok.eq ?_
 unfold Qic
 refine Ok.scan s.Edits.length (fun i=>((p,t,(i:Int),()),s,())) (fun i=>QoZ p t (nth s.Edits i)) rfl (by omega) (fun i hi hq _ k=>?_) (fun i hi hq k hk=>?_) (fun hq k=>?_)
 ·refine Ok.P (Ok.j (Ok.atn hi ?_))
  have hq':=hq
  simp only[QoZ,bae,decide_eq_true_eq]at hq'
  exact Ok.p hq'.1.1.1 (Ok.p hq'.1.1.2 (Ok.p hq'.1.2 (Ok.p hq'.2 (Ok.s (by unfold Qix;rw[Qis hi hq])))))
 ·refine Ok.P (Ok.j (Ok.atn hi ?_))
  dsimp only
  rw[Qa (by omega)]
  have hq':¬((nth s.Edits i).Kind=0∧(nth s.Edits i).A=p∧(nth s.Edits i).From≤t∧t<(nth s.Edits i).To):=fun⟨a,b,c,d⟩=>by
   simp[QoZ,a,b,c,d]at hq
  refine Ok.ite (fun g1=>Ok.ite (fun g2=>Ok.ite (fun g3=>Ok.ite (fun g4=>absurd ⟨g1,g2,g3,g4⟩ hq') (fun _=>hk)) (fun _=>hk)) (fun _=>hk)) (fun _=>hk)
 ·refine Ok.N (Ok.s ?_)
  unfold Qix
  rw[QmZ hq]
theorem Qys{es:List D.Edit}{p:Int}(hs:es.length<900):Qid 1000 es p t=some (Qf5 es p t):=by
 refine Ok.eq ?_
 unfold Qid
 refine Ok.run es.length (fun i=>((es,Qf5 (es.take i) p t,t,(i:Int),()),())) (by simp[Qf5]) (by omega) (fun i hi k hk=>?_) (fun k=>?_)
 ·refine Ok.P (Ok.j (Ok.atn hi ?_))
  dsimp only
  rw[Qa (by omega)]
  rw[QkQ hi]at hk
  have hfold:∀v,v=QnE t (Qf5 (es.take i) p t) (nth es i)→Ok (k ((es,v,t,((i+1:Nat):Int),()),())) (·=Qf5 es p t):=fun v e=>by rw[e];exact hk
  refine Ok.ite (fun h1=>hfold _ ?_) fun h1=>Ok.ite (fun h2=>hfold _ ?_) fun h2=>Ok.ite (fun h3=>hfold _ ?_) fun h3=>Ok.ite (fun h4=>Ok.ite (fun h5=>hfold _ ?_) fun h5=>Ok.p h4 (Ok.ite (fun h6=>hfold _ ?_) fun h6=>hfold _ ?_)) fun h4=>Ok.n h4 (hfold _ ?_)
  all_goals unfold QnE
  ·rw[if_pos (by omega)]
  ·rw[if_pos (by omega)]
  ·rw[if_neg (by omega),if_pos h3]
  ·rw[if_neg (by omega),if_neg h3,if_neg (by omega),if_pos h5]
  ·rw[if_neg (by omega),if_neg h3,if_neg (by omega),if_neg h5,if_pos h6]
  ·rw[if_neg (by omega),if_neg h3,if_neg (by omega),if_neg h5,if_neg h6]
  ·by_cases h7:(nth es i).Kind=0
   ·rw[if_pos (.inr h7)]
   ·rw[if_neg (by omega),if_neg h3,if_pos h4]
 ·refine Ok.N (Ok.s ?_)
  rw[List.take_length]
theorem qTop{i:Int}(h:Q3 n c)(hn:n≤48)(hi:0≤i∧i<2)(ht:0≤t∧t≤8589934592):Ok (Qmj 1000 c i t) fun r=>r.2=layP (YR c) (nth c.Schedules i.toNat) t:=by
 have hsl:=h.slen
 have hs:=h.sch (i:=i.toNat) (by omega)
 obtain⟨l,hl1,hl2⟩:=hs.layers
 have hlen:=hs.len
 unfold Qmj layP
 refine Ok.at (by omega) (by omega) ?_
 rw[hl1,show nth [l] 0=l from rfl,show IntKind.wrap .i64 (((List.length [l]:Nat):Int) - 1)=0 from by rw[Qc (by simp)];simp]
 obtain⟨s,hsd⟩:∃s,nth c.Schedules i.toNat=s:=⟨_,rfl⟩
 rw[hsd]at hl1 hlen ⊢
 refine Ok.loop (fun m x=>x=((t,0,()),c,s,())∧m=1∨x=((t,-1,()),c,s,())∧m=0∧¬(0≤Qcs (YR c) l t∧Qix s.Edits (Qcs (YR c) l t) t=false)) (m:=1) (by omega) (.inl ⟨rfl,rfl⟩) ?_
 rintro m x (⟨rfl,rfl⟩|⟨rfl,rfl,hno⟩) K hK
 ·dsimp only
  rw[hl1]
  refine Ok.P (Ok.j (Ok.atn (i:=0) (by simp) (Ok.oe (qRaw h hl2 ht:QjK 1000 c (nth [l] 0) t=_) ?_)))
  have hnx:¬(0≤Qcs (YR c) l t∧Qix s.Edits (Qcs (YR c) l t) t=false)→Ok (K ((t,IntKind.wrap .i64 (0 - 1),()),c,s,())) fun r=>r.2=if 0≤Qcs (YR c) l t∧Qix s.Edits (Qcs (YR c) l t) t=false then Qcs (YR c) l t else -1:=fun hno=>hK 0 _ (by omega) (.inr ⟨rfl,rfl,hno⟩)
  refine Ok.ite (fun h1=>Ok.oe (Qyr (by omega)) (Ok.cnd (fun h2=>hnx (fun h=>by have:=h.2.symm.trans h2;simp at this)) (fun h2=>Ok.s (by rw[if_pos ⟨h1,h2⟩];rfl)))) (fun h1=>hnx (fun h=>h1 h.1))
 ·dsimp only
  exact Ok.N (Ok.s (by rw[if_neg hno]))
theorem QxK{i:Int}(h:Q3 n c)(hn:n≤48):QjL 1000 c i t=some (whoV c i t):=by
 have hsl:=h.slen
 have key:Ok (Qmk 1000 c i t) (·=whoV c i t):=by
  unfold Qmk QtJ whoV
  by_cases hc:0≤i∧i<2∧0≤t∧t≤8589934592
  ·(try unfold cd);rw[if_pos hc,Qdm hc.1,Qdm (by omega),Qdm hc.2.2.1,Qdm hc.2.2.2,Qdk h hn,ZL,Qdm rfl,ZL]
   refine Ok.nt rfl ?_
   unfold QpA
   have hs:=h.sch (i:=i.toNat) (by omega)
   have hlen:=hs.len
   refine Ok.opt (P:=(·=whoS (YR c) (nth c.Schedules i.toNat) t)) ?_ fun r hr=>Ok.s hr
   refine Ok.opt (qTop h hn ⟨hc.1,hc.2.1⟩ hc.2.2) fun⟨a,p⟩ hp=>?_
   dsimp only at hp ⊢
   refine Ok.at (by omega) (by omega) (Ok.oe (Qys (by omega)) (Ok.s ?_))
   unfold whoS
   rw[hp]
  ·rw[if_neg hc]
   have hf:AM.cnd (decide (0≤i)) (AM.cnd (decide (i<((c.Schedules.length:Nat):Int))) (AM.cnd (decide (0≤t)) (AM.cnd (decide (t≤8589934592)) (optc (VM 1000 c) fun a0=>AM.cnd (decide (a0=0)) (some true) (some false)) (some false)) (some false)) (some false)) (some false)=some false:=by
    rw[hsl]
    by_cases h1:0≤i
    ·(try unfold cd);rw[Qdm h1]
     by_cases h2:i<((2:Nat):Int)
     ·(try unfold cd);rw[Qdm h2]
      by_cases h3:0≤t
      ·(try unfold cd);rw[Qdm h3,QhJ (by omega)]
      ·(try unfold cd);rw[QhJ h3]
     ·(try unfold cd);rw[QhJ h2]
    ·(try unfold cd);rw[QhJ h1]
   (try unfold cd);rw[hf,ZL]
   exact Ok.nf rfl (Ok.s rfl)
 unfold QjL
 rw[Ok.eq key,ZL]
end
/-
  Whether a person of a crew may be called: what the program and the reference compute.
-/
section
open Go AM
variable {off t p:Int} {n:Nat} {c:D.Config} {ur:Bool}
theorem Qyx{d:Int}(hd : -10≤d∧d≤100000):U7 1000 d=some ((d+3) % 7)∧QcE 1000 d=some ((d+3) % 7):=by
 have key:AM.nzc 7 (AM.nzc 7 (some (Int.tmod (IntKind.wrap .i64 ((Int.tmod d 7)+10)) 7)))=some ((d+3) % 7):=by
  have h1:=QjZ (a:=d) (n:=7) (by omega)
  rw[Qc (by omega),Qto (by omega),Qto (by omega),Int.tmod_eq_emod_of_nonneg (by omega)]
  by_cases h0:0≤d
  ·rw[Int.tmod_eq_emod_of_nonneg h0];congr 1;omega
  ·have e1:Int.tmod d 7 = -((-d) % 7):=by
    rw[show d = -(-d)by omega,Int.neg_tmod,Int.tmod_eq_emod_of_nonneg (by omega),Int.neg_neg]
   rw[e1];congr 1;omega
 exact⟨key,key⟩
theorem Qow(ho:Qc3 off)(ht:0≤t∧t≤8589934592):XI 1000 ⟨(t+off) / 86400,(t+off) % 86400⟩=some (Qap off t)∧Qet 1000 ⟨(t+off) / 86400,(t+off) % 86400⟩=some (Qap off t):=by
 have:=ho.le
 have hw:=Qyx (d:=(t+off) / 86400) (by omega)
 unfold XI Qet Qap
 dsimp only
 rw[hw.1,hw.2,ZL,Qc (x:=((t+off) / 86400+3) % 7*86400) (by omega),Qc (by omega)]
 exact⟨rfl,rfl⟩
theorem QxY{ws:List D.Window}{s:Int}(hw:ws.length<900):QcT 1000 ws s=some (QdE ws s):=by
 refine Ok.eq ?_
 unfold QcT
 refine Ok.scan ws.length (fun i=>((s,ws,((ws.length:Nat):Int),(i:Int),()),())) (fun i=>decide ((nth ws i).From≤s) && decide (s<(nth ws i).To)) rfl (by omega) (fun i hi hq _ k=>?_) (fun i hi hq k hk=>?_) (fun hq k=>?_)
 ·have hq':=hq
  simp only[bae,decide_eq_true_eq]at hq'
  exact Ok.P (Ok.j (Ok.atn hi (Ok.p hq'.1 (Ok.p hq'.2 (Ok.s (by unfold QdE;rw[Qis hi hq]))))))
 ·refine Ok.P (Ok.j (Ok.atn hi ?_))
  dsimp only
  rw[Qa (by omega)]
  refine Ok.ite (fun h1=>Ok.ite (fun h2=>by simp[h1,h2]at hq) (fun _=>hk)) (fun _=>hk)
 ·exact Ok.N (Ok.s (by unfold QdE;rw[QmZ hq]))
theorem Quh{ws:List D.Window}{s:Int}(hw:ws.length<900):Qes 1000 ws s=some (QdE ws s):=by
 refine Ok.eq ?_
 unfold Qes
 refine Ok.scan ws.length (fun i=>((ws,s,(i:Int),()),())) (fun i=>decide ((nth ws i).From≤s) && decide (s<(nth ws i).To)) rfl (by omega) (fun i hi hq _ k=>?_) (fun i hi hq k hk=>?_) (fun hq k=>?_)
 ·have hq':=hq
  simp only[bae,decide_eq_true_eq]at hq'
  exact Ok.P (Ok.j (Ok.atn hi (Ok.p hq'.1 (Ok.atn hi (Ok.p hq'.2 (Ok.s (by unfold QdE;rw[Qis hi hq])))))))
 ·refine Ok.P (Ok.j (Ok.atn hi ?_))
  dsimp only
  rw[Qa (by omega)]
  refine Ok.ite (fun h1=>Ok.atn hi (Ok.ite (fun h2=>by simp[h1,h2]at hq) (fun _=>hk))) (fun _=>hk)
 ·exact Ok.N (Ok.s (by unfold QdE;rw[QmZ hq]))
theorem QqH:QgM 1000 t t=some (decide (0≤t∧t≤8589934592))∧QjH 1000 t t=some (decide (0≤t∧t≤8589934592)):=by
 have key:AM.cnd (decide (0≤t)) (AM.cnd (decide (t≤8589934592)) (AM.cnd (decide (t≤t)) (AM.cnd (decide (t≤8589934592)) (AM.cnd (decide ((IntKind.wrap .i64 (t - t))≤34560000)) (some true) (some false)) (some false)) (some false)) (some false)) (some false)=some (decide (0≤t∧t≤8589934592)):=by
  rw[Qc (x:=t - t) (by omega)]
  by_cases h1:0≤t
  ·by_cases h2:t≤8589934592
   ·(try unfold cd);rw[Qdm h1,Qdm h2,Qdm (by omega),Qdm h2,Qdm (by omega)];simp[h1,h2]
   ·(try unfold cd);rw[Qdm h1,QhJ h2];simp[h2]
  ·(try unfold cd);rw[QhJ h1];simp[h1]
 exact⟨key,key⟩
theorem Up.qlen{x:D.Person}(h:Up x):x.Quiet.length≤1:=by
 rcases h.quiet with h|⟨a,b,h,_⟩<;>rw[h]<;>simp
theorem Qvm(h:Q3 n c)(hn:n≤48):WV 1000 c p t ur=some (WB c p t ur):=by
 have hpl:=h.plen
 refine Ok.eq ?_
 unfold WV
 have hopen:Ok (Qcw 1000 c p t t) fun r=>(r.2=0↔0≤p∧p<4∧0≤t∧t≤8589934592)∧(r.2=0→r.1=⟨c,[tabV (YR c)]⟩):=by
  unfold Qcw
  refine Ok.oe (tOf h hn) (Ok.j (Ok.nt rfl ?_))
  refine Ok.ite (fun h1=>Ok.s ⟨by simp;omega,fun h=>by simp at h⟩) fun h1=>Ok.ite (fun h2=>Ok.s ⟨by simp;omega,fun h=>by simp at h⟩) fun h2=>?_
  refine Ok.oe QqH.1 (Ok.ncnd (fun h3=>Ok.s ⟨?_,fun h=>by simp at h⟩) fun h3=>Ok.s ⟨?_,fun _=>rfl⟩)
  ·have h3:=of_decide_eq_false h3
   simp;omega
  ·have h3:=of_decide_eq_true h3
   simp;omega
 refine Ok.opt hopen fun⟨v,e⟩ ⟨g1,g2⟩=>?_
 dsimp only at g1 g2 ⊢
 by_cases he:e=0
 ·have hr:=g1.1 he
  rw[g2 he]
  refine Ok.n (by simp[he]) (Ok.at hr.1 (by omega) ?_)
  obtain⟨x,hx⟩:∃x,nth c.People p.toNat=x:=⟨_,rfl⟩
  have hper:=h.per (i:=p.toNat) (by omega)
  rw[hx]at hper ⊢
  have hq:=hper.qlen
  have htab:Ok (Xk 1000 ⟨c,[tabV (YR c)]⟩ x.Zone) (·=tabV (YR c)):=by
   unfold Xk
   rw[hper.zone]
   exact Ok.atn (i:=0) (by simp) (Ok.s rfl)
  have hlast:Ok (optc (Xk 1000 ⟨c,[tabV (YR c)]⟩ x.Zone) fun a3=>optc (ZF 1000 a3 t) fun a4=>optc (XI 1000 a4) fun a5=>optc (QcT 1000 x.Quiet a5) fun a6=>AM.cnd a6 (some false) (some true)) (·=!QdE x.Quiet (Qap (YR c) t)):=by
   refine Ok.opt htab fun tb htb=>?_
   subst htb
   refine Ok.oe (Qwb h.offs hr.2.2) (Ok.oe (Qow h.offs hr.2.2).1 (Ok.oe (QxY (by omega)) (Ok.cnd (fun h1=>Ok.s (by rw[h1];rfl)) (fun h1=>Ok.s (by rw[h1];rfl)))))
  have hv:WB c p t ur=(ur && x.Consent || !QdE x.Quiet (Qap (YR c) t)):=by unfold WB;rw[hx];simp[hr.1,hr.2.1,hr.2.2.1,hr.2.2.2]
  rw[hv]
  refine Ok.cnd (fun h1=>Ok.cnd (fun h2=>Ok.s (by simp[h1,h2])) (fun h2=>hlast.mono fun r hr=>by rw[hr,h1,h2];simp)) (fun h1=>hlast.mono fun r hr=>by rw[hr,h1];simp)
 ·refine Ok.p he (Ok.s ?_)
  have hr:¬(0≤p∧p<4∧0≤t∧t≤8589934592):=fun h=>he (g1.2 h)
  unfold WB
  rw[decide_eq_false hr];rfl
theorem QtL(h:Q3 n c)(hn:n≤48):Qal 1000 c p t ur=some (WB c p t ur):=by
 have hpl:=h.plen
 refine Ok.eq ?_
 unfold Qal
 have hopen:Ok (Qgp 1000 c p t t) fun r=>r=0↔0≤p∧p<4∧0≤t∧t≤8589934592:=by
  unfold Qgp
  refine Ok.j (Ok.oe (Qdk h hn) (Ok.n (by decide) ?_))
  refine Ok.ite (fun h1=>Ok.s (by omega)) fun h1=>Ok.ite (fun h2=>Ok.s (by omega)) fun h2=>?_
  refine Ok.oe QqH.2 (Ok.ncnd (fun h3=>Ok.s ?_) fun h3=>Ok.s ?_)
  ·have h3:=of_decide_eq_false h3
   omega
  ·have h3:=of_decide_eq_true h3
   omega
 refine Ok.opt hopen fun e g1=>?_
 by_cases he:e=0
 ·have hr:=g1.1 he
  refine Ok.n (by simp[he]) (Ok.at hr.1 (by omega) ?_)
  obtain⟨x,hx⟩:∃x,nth c.People p.toNat=x:=⟨_,rfl⟩
  have hper:=h.per (i:=p.toNat) (by omega)
  rw[hx]at hper ⊢
  have hq:=hper.qlen
  have hv:WB c p t ur=(ur && x.Consent || !QdE x.Quiet (Qap (YR c) t)):=by unfold WB;rw[hx];simp[hr.1,hr.2.1,hr.2.2.1,hr.2.2.2]
  rw[hv,hper.zone,h.zones.1]
  refine Ok.atn (i:=0) (by simp) ?_
  have hin:Qk0 1000 (QfN (YR c)) x.Quiet t=some (QdE x.Quiet (Qap (YR c) t)):=by
   refine Ok.eq ?_
   unfold Qk0 Qhb
   refine Ok.oe (v:=(Qap (YR c) t,0)) ?_ (Ok.p rfl (Ok.oe (QqP hper) (Ok.p rfl (Ok.oe (Quh (by omega)) (Ok.cnd (fun h1=>Ok.s (by rw[h1])) (fun h1=>Ok.s (by rw[h1])))))))
   refine Ok.eq (Ok.oe (Qv5 h.offs hr.2.2) (Ok.n (by decide) (Ok.oe (Qow h.offs hr.2.2).2 (Ok.s rfl))))
  refine Ok.oe (hin:Qk0 1000 (nth [(⟨bZ,YR c,[]⟩:D.Zone)] 0) x.Quiet t=_) ?_
  refine Ok.cnd (fun h1=>Ok.cnd (fun h2=>Ok.cnd (fun h3=>Ok.s (by simp[h2,h3])) (fun h3=>Ok.s (by simp[h1,h3]))) (fun h2=>Ok.s (by simp[h1,h2]))) (fun h1=>Ok.s (by simp[h1]))
 ·refine Ok.p he (Ok.s ?_)
  have hr:¬(0≤p∧p<4∧0≤t∧t≤8589934592):=fun h=>he (g1.2 h)
  unfold WB
  rw[decide_eq_false hr];rfl
end
/-
  Lists that are changed in place: what filtering, sorting by insertion and leaving out neighbours that are equal keep. Plain.
-/
theorem VZ{l:List Int}{i:Nat}(h:i<l.length):l.take (i+1)=l.take i++[nth l i]:=(Qs h).symm
structure Qio (p0:List Int) (q:Int→Bool) (w j:Nat) (a:List Int):Prop where
 len:a.length=p0.length
 wj:w≤j∧j≤p0.length
 done:a.take w=(p0.take j).filter q
 rest:∀k,j≤k→nth a k=nth p0 k
theorem QgS{l:List Int}{q:Int→Bool}{i:Nat}(hi:i≤l.length)(h:∀j,j<i→q (nth l j)=true):(l.take i).filter q=l.take i:=by
 refine List.filter_eq_self.2 fun x hx=>?_
 obtain⟨k,hk,rfl⟩:=List.getElem_of_mem hx
 rw[List.length_take]at hk
 have:=h k (by omega)
 simpa [nth,List.getD_eq_getElem?_getD,List.getElem?_eq_getElem (show k<l.length by omega)]using this
theorem Qnn{p0:List Int}{q:Int→Bool}{i:Nat}(hi:i<p0.length)(h:∀j,j<i→q (nth p0 j)=true)(hx:q (nth p0 i)=false):Qio p0 q i (i+1) p0:=by
 refine⟨rfl,by omega,?_,fun k _=>rfl⟩
 rw[VZ hi,List.filter_append,QgS (by omega) h]
 simp[hx]
theorem Qp6{p0 a:List Int}{q:Int→Bool}{w j:Nat}(h:Qio p0 q w j a)(hj:j<p0.length)(hx:q (nth a j)=true):Qio p0 q (w+1) (j+1) (a.set w (nth a j)):=by
 have h1:=h.wj
 have h2:=h.len
 refine⟨by simp[h.len],by omega,?_,fun k hk=>?_⟩
 ·rw[h.rest j (Nat.le_refl _)]at hx ⊢
  rw[VZ hj,List.filter_append,←h.done,VZ (by simp;omega),Qjn (by omega),if_pos rfl,List.take_set_of_le (by omega)]
  simp[hx]
 ·rw[Qjn (by omega),if_neg (by omega)];exact h.rest k (by omega)
theorem Qp7{p0 a:List Int}{q:Int→Bool}{w j:Nat}(h:Qio p0 q w j a)(hj:j<p0.length)(hx:q (nth a j)=false):Qio p0 q w (j+1) a:=by
 have h1:=h.wj
 refine⟨h.len,by omega,?_,fun k hk=>h.rest k (by omega)⟩
 rw[h.rest j (Nat.le_refl _)]at hx
 rw[VZ hj,List.filter_append,←h.done]
 simp[hx]
def InTo(l:List Int)(m:Nat)(z:Int):Prop:=∃k,k<m∧nth l k=z
theorem Qh6{l:List Int}{m:Nat}{z:Int}(hm:m≤l.length):InTo l m z↔z∈l.take m:=by
 constructor
 ·rintro⟨k,hk,rfl⟩
  have:nth (l.take m) k=nth l k:=by
   simp only[nth,List.getD_eq_getElem?_getD,List.getElem?_take]
   rw[if_pos hk]
  rw[←this]
  exact Qi (by simp;omega)
 ·intro h
  obtain⟨k,hk,rfl⟩:=List.getElem_of_mem h
  rw[List.length_take]at hk
  exact⟨k,by omega,by simp[nth,List.getD_eq_getElem?_getD,List.getElem?_eq_getElem (show k<l.length by omega)]⟩
theorem Qt6{l:List Int}{j m:Nat}{z:Int}(h1:1≤j)(hj:j<l.length)(hm:j<m):InTo (QoE l j) m z↔InTo l m z:=by
 unfold InTo
 constructor
 ·rintro⟨k,hk,e⟩
  rw[Qej h1 hj]at e
  split at e
  ·exact⟨j,hm,e⟩
  ·split at e
   ·exact⟨j - 1,by omega,e⟩
   ·exact⟨k,hk,e⟩
 ·rintro⟨k,hk,e⟩
  by_cases g1:k=j
  ·subst g1;exact⟨k - 1,by omega,by rw[Qej h1 hj,if_pos rfl];exact e⟩
  ·by_cases g2:k=j - 1
   ·subst g2;exact⟨j,hm,by rw[Qej h1 hj,if_neg (by omega),if_pos rfl];exact e⟩
   ·exact⟨k,hk,by rw[Qej h1 hj,if_neg g2,if_neg g1];exact e⟩
def QoT(l:List Int)(n:Nat):Prop:=∀k,1≤k→k<n→nth l (k - 1)<nth l k
theorem QgG{l:List Int}{n:Nat}(hn:n≤l.length)(h:QoT l n):Asc (l.take n):=by
 have hnth:∀k,k<n→nth (l.take n) k=nth l k:=fun k hk=>by
  simp only[nth,List.getD_eq_getElem?_getD,List.getElem?_take]
  rw[if_pos hk]
 have hlt:∀b,b<n→∀a,a<b→nth l a<nth l b:=by
  intro b
  induction b with
  |zero=>intro _ a ha;omega
  |succ b ih=>
   intro hb a ha
   have h1:=h (b+1) (by omega) hb
   rw[Nat.add_sub_cancel]at h1
   by_cases e:a=b
   ·subst e;exact h1
   ·have:=ih (by omega) a (by omega);omega
 have hl:(l.take n).length=n:=by simp;omega
 refine QvM (fun a b hab hb=>?_) (fun k h1 h2=>?_)
 ·rw[hl]at hb;rw[hnth a (by omega),hnth b hb];have:=hlt b hb a hab;omega
 ·rw[hl]at h2;rw[hnth _ (by omega),hnth k h2];have:=h k h1 h2;omega
structure Qin (p0:List Int) (m o i k:Nat) (a:List Int):Prop where
 len:a.length=p0.length
 ik:1≤i∧i<o+k∧o+k≤m∧1≤k
 rest:∀j,o+k≤j+1→nth a j=nth p0 j
 asc:QoT a i
 last:nth a (i - 1)=nth p0 (o+k - 1)
 mem:∀z,InTo a i z↔InTo p0 (o+k) z
theorem Qni{p0:List Int}{m o:Nat}(ho:1≤o)(hm:o<m)(ha:QoT p0 o)(he:nth p0 o=nth p0 (o - 1)):Qin p0 m o o 1 p0:=by
 refine⟨rfl,by omega,fun _ _=>rfl,ha,by rw[Nat.add_sub_cancel];exact he.symm,fun z=>⟨?_,?_⟩⟩
 ·rintro⟨k,hk,e⟩;exact⟨k,by omega,e⟩
 ·rintro⟨k,hk,e⟩
  by_cases h:k=o
  ·subst h;exact⟨k - 1,by omega,by rw[←he];exact e⟩
  ·exact⟨k,by omega,e⟩
theorem QsA{p0 a:List Int}{m o i k:Nat}(h:Qin p0 m o i k a)(hk:o+k<m)(hml:m≤p0.length)(hs:X1 p0 m)(hne:nth a (o+k)≠nth a (o+k - 1)):Qin p0 m o (i+1) (k+1) (a.set i (nth a (o+k))):=by
 have h1:=h.ik
 have h2:=h.len
 have e1:=h.rest (o+k) (by omega)
 have e2:=h.rest (o+k - 1) (by omega)
 have hlt:nth p0 (o+k - 1)<nth p0 (o+k):=by
  have:=hs (o+k - 1) (o+k) (by omega) hk
  rw[e1,e2]at hne;omega
 have hset:∀j,nth (a.set i (nth a (o+k))) j=if j=i then nth p0 (o+k)else nth a j:=fun j=>by rw[Qjn (by omega),e1]
 refine⟨by simp[h.len],by omega,fun j hj=>?_,fun j hj1 hj2=>?_,?_,fun z=>⟨?_,?_⟩⟩
 ·rw[hset,if_neg (by omega)];exact h.rest j (by omega)
 ·rw[hset,hset,if_neg (show j - 1≠i by omega)]
  by_cases e:j=i
  ·rw[if_pos e,e,h.last];exact hlt
  ·rw[if_neg e];exact h.asc j hj1 (by omega)
 ·rw[hset,Nat.add_sub_cancel,if_pos rfl,show o+(k+1) - 1=o+k by omega]
 ·rintro⟨j,hj,e⟩
  rw[hset]at e
  split at e
  ·exact⟨o+k,by omega,e⟩
  ·obtain⟨j',hj',e'⟩:=(h.mem z).1 ⟨j,by omega,e⟩
   exact⟨j',by omega,e'⟩
 ·rintro⟨j,hj,e⟩
  by_cases g:j=o+k
  ·exact⟨i,by omega,by rw[hset,if_pos rfl,←g];exact e⟩
  ·obtain⟨j',hj',e'⟩:=(h.mem z).2 ⟨j,by omega,e⟩
   exact⟨j',by omega,by rw[hset,if_neg (by omega)];exact e'⟩
theorem QsB{p0 a:List Int}{m o i k:Nat}(h:Qin p0 m o i k a)(hk:o+k<m)(he:nth a (o+k)=nth a (o+k - 1)):Qin p0 m o i (k+1) a:=by
 have h1:=h.ik
 have e1:=h.rest (o+k) (by omega)
 have e2:=h.rest (o+k - 1) (by omega)
 have e3:nth p0 (o+k)=nth p0 (o+k - 1):=by rw[←e1,←e2];exact he
 refine⟨h.len,by omega,fun j hj=>h.rest j (by omega),h.asc,by rw[h.last,show o+(k+1) - 1=o+k by omega];exact e3.symm,fun z=>⟨fun hz=>?_,?_⟩⟩
 ·obtain⟨j',hj',e'⟩:=(h.mem z).1 hz
  exact⟨j',by omega,e'⟩
 ·rintro⟨j,hj,e⟩
  by_cases g:j=o+k
  ·exact(h.mem z).2 ⟨o+k - 1,by omega,by rw[←e3,←g];exact e⟩
  ·exact(h.mem z).2 ⟨j,by omega,e⟩
/-
  People whom targets mean: what the program and the reference compute.
-/
section
open Go AM
variable {t p:Int} {n:Nat} {c:D.Config} {b:D.Book}
theorem Qw1{x y:Int}:Vd 1000 x y=some (decide (x<y)):=by
 unfold Vd U8
 by_cases h:x<y<;>simp[optc,cd,AM.cnd,h]
theorem Qu1{l0:List Int}{m:Nat}(hm:m≤l0.length)(hs:m≤900):
  Ok (Q8 1000 0 m l0 0 (m:Int)) fun r=>r.length=l0.length∧X1 r m∧∀z,InTo r m z↔InTo l0 m z:=by
 unfold Q8
 refine Ok.loop (fun q x=>∃i a,x=((0,m,0,(m:Int),((i:Nat):Int),()),a,())∧1≤i∧a.length=l0.length∧X1 a (min i m)∧(∀z,InTo a m z↔InTo l0 m z)∧q=m+1 - i) (m:=m) (by omega)
  ⟨1,l0,by rw[Qc (by omega)];rfl,by omega,rfl,fun a b h1 h2=>by omega,fun z=>Iff.rfl,by omega⟩ ?_
 rintro q x ⟨i,a,rfl,h1,h2,h3,h4,rfl⟩ K hK
 dsimp only
 refine Ok.ite (fun hi=>?_) (fun hi=>Ok.s ⟨h2,by rw[show min i m=m by omega]at h3;exact h3,h4⟩)
 have hlt:i<m:=by omega
 rw[show min i m=i by omega]at h3
 refine Ok.j ?_
 refine Ok.loop (fun q x=>∃j a',x=((0,m,0,(m:Int),((i:Nat):Int),((j:Nat):Int),()),a',())∧j≤i∧a'.length=l0.length∧QmT a' (i+1) j∧(∀z,InTo a' m z↔InTo l0 m z)∧q=j) (m:=i) (by omega)
  ⟨i,a,rfl,by omega,h2,Qm9 h3,h4,rfl⟩ ?_
 rintro q x ⟨j,a',rfl,g1,g2,g3,g4,hqj⟩ K2 hK2
 dsimp only
 have fin:(j=0∨nth a' (j - 1)≤nth a' j)→Ok (K ((0,m,0,(m:Int),IntKind.wrap .i64 ((i:Int)+1),()),a',())) fun r=>r.length=l0.length∧X1 r m∧∀z,InTo r m z↔InTo l0 m z:=fun he=>by
  rw[Qa (by omega)]
  exact hK (m+1 - (i+1)) _ (by omega) ⟨i+1,a',rfl,by omega,g2,by rw[show min (i+1) m=i+1 by omega];exact Qq0 g3 he,g4,rfl⟩
 refine Ok.j (Ok.ite (fun hj=>?_) (fun hj=>fin (.inl (by omega))))
 have hw:IntKind.wrap .i64 ((j:Int) - 1)=((j - 1:Nat):Int):=by rw[Qc (by omega)];omega
 rw[hw]
 refine Ok.natn (Ok.E ?_)
 rw[Nat.zero_add]
 refine Ok.G (Ok.natn (Ok.E ?_))
 rw[Nat.zero_add]
 refine Ok.G (Ok.oe Qw1 (Ok.ite (fun hless=>?_) (fun hless=>fin (.inr (by omega)))))
 dsimp only
 rw[hw]
 refine Ok.natn (Ok.E ?_)
 rw[Nat.zero_add]
 refine Ok.G (Ok.natn (Ok.E ?_))
 refine Ok.G (Ok.natn (Ok.E ?_))
 refine Ok.G (Ok.natn (Ok.E ?_))
 refine Ok.get (by simp;omega) ?_
 have hsw:(a'.set (0+j) (nth a' (j - 1))).set (0+(j - 1)) (nth a' (0+j))=QoE a' j:=by simp only[Nat.zero_add];rfl
 rw[hsw]
 exact hK2 (j - 1) _ (by omega) ⟨j - 1,QoE a' j,rfl,by omega,by rw[QvA];exact g2,Qo6 g3 (by omega) (by omega) (by omega) hless,fun z=>(Qt6 (by omega) (by omega) (by omega)).trans (g4 z),rfl⟩
theorem QwD:∀m:Nat,m<13→(Qaf 1000 (IntKind.wrap .u64 ((m:Nat):Int))).isSome=true:=by decide
theorem QxA{l0:List Int}{m:Nat}(hm:m≤l0.length)(hs:m≤12):
  Ok (X6 1000 0 m l0) fun r=>r.length=l0.length∧X1 r m∧∀z,InTo r m z↔InTo l0 m z:=by
 unfold X6
 rw[Nat.sub_zero]
 obtain⟨bv,hb⟩:=Option.isSome_iff_exists.1 (QwD m (by omega))
 refine Ok.oe hb (Ok.opt (P:=fun r=>r.length=l0.length∧X1 r m∧∀z,InTo r m z↔InTo l0 m z) ?_ fun r hr=>Ok.ck hr.1 (Ok.s hr))
 unfold YD
 refine Ok.loop (fun q x=>x=((0,m,0,(m:Int),bv,true,true,()),l0,())) (m:=0) (by omega) rfl ?_
 rintro q x rfl K hK
 dsimp only
 refine Ok.p (by rw[Qc (by omega)];omega) (Ok.opt (Qu1 hm (by omega)) fun r hr=>Ok.ck hr.1 (Ok.s hr))
theorem Qq4{l0:List Int}{m:Nat}(hm:m≤l0.length)(hs:m≤900)(hl:l0.length≤34359738368)(hso:X1 l0 m):
  Ok (Y7 1000 0 m l0) fun r=>r.1=0∧r.2.1≤m∧r.2.2.length=l0.length∧Asc (r.2.2.take r.2.1)∧∀z,z∈r.2.2.take r.2.1↔InTo l0 m z:=by
 have done:∀(a:List Int) (i:Nat),a.length=l0.length→i≤m→QoT a i→(∀z,InTo a i z↔InTo l0 m z)→Asc (a.take i)∧∀z,z∈a.take i↔InTo l0 m z:=fun a i h1 h2 h3 h4=>
  ⟨QgG (by omega) h3,fun z=>by rw[←Qh6 (by omega)];exact h4 z⟩
 unfold Y7
 rw[Nat.sub_zero]
 refine Ok.ite (fun h=>Ok.s ⟨rfl,Nat.le_refl _,rfl,done l0 m rfl (Nat.le_refl _) (fun k h1 h2=>by omega) fun z=>Iff.rfl⟩) fun h=>?_
 refine Ok.loop (fun q x=>∃i:Nat,x=((0,m,((i:Nat):Int),()),l0,())∧1≤i∧i≤m∧QoT l0 i∧q=m - i) (m:=m - 1) (by omega) ⟨1,rfl,by omega,by omega,fun k h1 h2=>by omega,rfl⟩ ?_
 rintro q x ⟨i,rfl,h1,h2,h3,rfl⟩ K hK
 dsimp only
 rw[Nat.sub_zero]
 refine Ok.ite (fun hi=>?_) (fun hi=>?_)
 ·have hw:IntKind.wrap .i64 ((i:Int) - 1)=((i - 1:Nat):Int):=by rw[Qc (by omega)];omega
  rw[hw]
  refine Ok.natn (Ok.E ?_)
  rw[Nat.zero_add]
  refine Ok.G (Ok.natn (Ok.E ?_))
  rw[Nat.zero_add]
  refine Ok.G (Ok.ite (fun he=>?_) (fun hne=>?_))
  ·refine Ok.natn (Ok.E ?_)
   rw[Nat.zero_add,Nat.zero_add]
   refine Ok.loop (fun q x=>∃(w k:Nat) (a:List Int),x=((0,m,((w:Nat):Int),i,m,((k:Nat):Int),()),a,())∧Qin l0 m i w k a∧q=m - i - k) (m:=m - i - 1) (by omega) ⟨i,1,l0,rfl,Qni h1 (by omega) h3 he,rfl⟩ ?_
   rintro q x ⟨w,k,a,rfl,hinv,rfl⟩ K2 hK2
   have hik:=hinv.ik
   have hal:=hinv.len
   dsimp only
   refine Ok.ite (fun hk=>?_) (fun hk=>?_)
   ·have hw2:IntKind.wrap .i64 ((k:Int) - 1)=((k - 1:Nat):Int):=by rw[Qc (by omega)];omega
    rw[hw2]
    refine Ok.j (Ok.natn (Ok.E (Ok.G (Ok.natn (Ok.E (Ok.G ?_))))))
    refine Ok.ite (fun hd=>?_) (fun hd=>?_)
    ·refine Ok.natn (Ok.E (Ok.G (Ok.natn (Ok.E ?_))))
     rw[Nat.zero_add]
     refine Ok.G ?_
     dsimp only
     rw[Qa (by omega),Qa (by omega)]
     exact hK2 (m - i - (k+1)) _ (by omega) ⟨w+1,k+1,_,rfl,QsA hinv (by omega) hm hso (by rw[show i+k - 1=i+(k - 1)by omega];exact hd),rfl⟩
    ·dsimp only
     rw[Qa (by omega)]
     exact hK2 (m - i - (k+1)) _ (by omega) ⟨w,k+1,a,rfl,QsB hinv (by omega) (by rw[show i+k - 1=i+(k - 1)by omega];exact Decidable.not_not.1 hd),rfl⟩
   ·have ek:i+k=m:=by omega
    refine Ok.natn (Ok.E (Ok.L (Ok.L (Ok.natn (Ok.L (Ok.s ?_))))))
    simp only[Nat.zero_add,Nat.sub_zero,Nat.add_zero]
    have hd:=done a w hal (by omega) hinv.asc (by rw[←ek];exact hinv.mem)
    have ht:(List.take w a++List.replicate (m - w) 0++List.drop m a).take w=a.take w:=by
     rw[List.append_assoc,List.take_append_of_le_length (by simp;omega),List.take_take,Nat.min_self]
    refine⟨trivial,by omega,by simp;omega,?_,?_⟩
    ·rw[ht];exact hd.1
    ·rw[ht];exact hd.2
  ·rw[Qa (by omega)]
   have hlt:nth l0 (i - 1)<nth l0 i:=by
    have:=hso (i - 1) i (by omega) (by omega);omega
   refine hK (m - (i+1)) _ (by omega) ⟨i+1,rfl,by omega,by omega,fun k a1 a2=>?_,rfl⟩
   by_cases e:k=i
   ·subst e;exact hlt
   ·exact h3 k a1 (by omega)
 ·obtain rfl:i=m:=by omega
  exact Ok.s ⟨rfl,Nat.le_refl _,rfl,done l0 i rfl (Nat.le_refl _) h3 fun z=>Iff.rfl⟩
def inC(x:Int):Bool:=decide (0≤x∧x≤3)
theorem pIn{fu:Nat}{n lo hi:Int}:Yh fu n lo hi=some (decide (lo≤n∧n≤hi)):=cnd2
theorem people1(h:Q3 n c){x:Int}:Wf 1000 x c=some (!inC x):=by
 unfold Wf
 rw[h.plen,show IntKind.wrap .i64 (((4:Nat):Int) - 1)=3 from rfl,pIn,ZL,Wn]
 rfl
theorem QwJ(h:Q3 n c){l0:List Int}(hl:l0.length≤900):
  Ok (QP 1000 l0 c) fun r=>r.1=0∧r.2.1≤l0.length∧r.2.2.length=l0.length∧r.2.2.take r.2.1=l0.filter inC:=by
 unfold QP
 have hidx:Ok (QS 1000 l0 c) fun r=>r = -1∧(∀j,j<l0.length→inC (nth l0 j)=true)∨∃i:Nat,r=(i:Int)∧i<l0.length∧inC (nth l0 i)=false∧∀j,j<i→inC (nth l0 j)=true:=by
  unfold QS
  refine Ok.scan l0.length (fun i=>((((l0.length:Nat):Int),(i:Int),()),c,l0,())) (fun i=>!inC (nth l0 i)) rfl (by omega) (fun i hi hq hj k=>?_) (fun i hi hq k hk=>?_) (fun hq k=>?_)
  ·refine Ok.P (Ok.natn (Ok.lt hi (Ok.get hi (Ok.oe (people1 h) (Ok.bt hq (Ok.sameC (Ok.sameC (Ok.s (.inr ⟨i,rfl,hi,by simpa using hq,fun j hj'=>by simpa using hj j hj'⟩)))))))))
  ·refine Ok.P (Ok.natn (Ok.lt hi (Ok.get hi (Ok.oe (people1 h) (Ok.bf hq ?_)))))
   rw[Qa (by omega)];exact hk
  ·exact Ok.N (Ok.sameC (Ok.sameC (Ok.s (.inl ⟨rfl,fun j hj=>by simpa using hq j hj⟩))))
 refine Ok.opt hidx fun r hr=>?_
 rcases hr with⟨rfl,hall⟩|⟨i,rfl,hi,hx,hj⟩
 ·refine Ok.p rfl (Ok.sameC (Ok.s ⟨rfl,Nat.le_refl _,rfl,?_⟩))
  have:=QgS (q:=inC) (Nat.le_refl _) hall
  rw[List.take_length]at this ⊢
  exact this.symm
 ·refine Ok.N ?_
  rw[Qa (by omega)]
  refine Ok.loop (fun q x=>∃(w j:Nat) (a:List Int),x=((((w:Nat):Int),((j:Nat):Int),()),c,a,())∧Qio l0 inC w j a∧q=l0.length - j) (m:=l0.length - (i+1)) (by omega) ⟨i,i+1,l0,rfl,Qnn hi hj hx,rfl⟩ ?_
  rintro q x ⟨w,j,a,rfl,hinv,rfl⟩ K hK
  have h1:=hinv.wj
  have h2:=hinv.len
  dsimp only
  refine Ok.ite (fun hlt=>?_) (fun hge=>?_)
  ·refine Ok.j (Ok.natn (Ok.E (Ok.G (Ok.oe (people1 h) ?_))))
   rw[Bool.not_not]
   refine Ok.cnd (fun hq=>?_) (fun hq=>?_)
   ·refine Ok.natn (Ok.E (Ok.G ?_))
    dsimp only
    rw[Qa (by omega),Qa (by omega)]
    exact hK _ _ (by omega) ⟨w+1,j+1,_,rfl,Qp6 hinv (by omega) hq,rfl⟩
   ·dsimp only
    rw[Qa (by omega)]
    exact hK _ _ (by omega) ⟨w,j+1,a,rfl,Qp7 hinv (by omega) hq,rfl⟩
  ·have ej:j=l0.length:=by omega
   have hd:=hinv.done
   rw[ej,List.take_length]at hd
   refine Ok.natn (Ok.L (Ok.L (Ok.L (Ok.natn (Ok.LS (Ok.sameC (Ok.s ?_)))))))
   refine⟨rfl,by dsimp only;omega,by simp;omega,?_⟩
   dsimp only
   rw[List.append_assoc,List.take_append_of_le_length (by simp;omega),List.take_take,Nat.min_self]
   exact hd
def Qbk(c:D.Config)(b:D.Book)(x:D.Target)(t:Int):List Int:=if x.Kind=0 then[x.Index]else if x.Kind=1 then[whoV c x.Index t]else(nth b.Teams x.Index.toNat).Members
theorem Qu9{x:D.Target}(h:Q3 n c)(hn:n≤48)(hb:QM b)(hx:Vv b.Teams.length x):Qbs 1000 c b x t=some (Qbk c b x t):=by
 have hpl:=h.plen;have hsl:=h.slen;have htl:=hb.tlen
 have h1:=hx.lo;have h2:=hx.person;have h3:=hx.sched;have h4:=hx.team
 have hsz:Wh 1000 c b=some ⟨4,2,((b.Teams.length:Nat):Int)⟩:=by unfold Wh;rw[hpl,hsl];rfl
 refine Ok.eq ?_
 unfold Qbs Qbk
 refine Ok.j (Ok.oe pIn (Ok.p (by have:=hx.kind;omega) (Ok.oe hsz ?_)))
 dsimp only
 rcases hx.kind with hk|hk|hk
 ·have:=h2 hk
  refine Ok.P (Ok.oe pIn (Ok.p (by rw[Qc (by omega)];omega) (Ok.N (Ok.N (Ok.s ?_)))))
  rw[if_pos hk]
 ·have:=h3 hk
  refine Ok.N (Ok.P (Ok.oe pIn (Ok.p (by rw[Qc (by omega)];omega) (Ok.p hk (Ok.oe (Qyk h hn) (Ok.s ?_))))))
  rw[if_neg (by omega),if_pos hk]
 ·have:=h4 hk
  refine Ok.N (Ok.N (Ok.P (Ok.oe pIn (Ok.p (by rw[Qc (by omega)];omega) (Ok.N (Ok.p hk (Ok.at h1 (by omega) (Ok.s ?_))))))))
  rw[if_neg (by omega),if_neg (by omega)]
theorem QgZ{x:D.Target}(hb:QM b)(hx:Vv b.Teams.length x):(Qbk c b x t).length≤2:=by
 unfold Qbk
 split
 ·simp
 ·split
  ·simp
  ·have h4:=hx.team (by have:=hx.kind;omega)
   have h1:=hx.lo
   exact(hb.team _ (Qi (by omega))).len.2
theorem QkU{x:D.Target}{z:Int}(h:Q3 n c)(hx:Vv b.Teams.length x)(hz:0≤z∧z≤3):z∈Qbk c b x t↔z∈QbX c b x t:=by
 unfold Qbk QbX
 have h1:=hx.lo;have h4:=hx.team
 rcases hx.kind with hk|hk|hk
 ·rw[if_pos hk,if_pos hk]
 ·rw[if_neg (by omega),if_pos hk,if_neg (by omega),if_pos hk]
  split
  ·simp;omega
  ·rfl
 ·rw[if_neg (by omega),if_neg (by omega),if_neg (by omega),if_neg (by omega),if_pos ⟨hk,h1,h4 hk⟩]
theorem Qtw{l:List D.Target}(h:Q3 n c)(hn:n≤48)(hb:QM b)(hl:∀x∈l,Vv b.Teams.length x)(hlen:l.length≤6):
  Ok (Qah 1000 c b l t) fun r=>r.1=0∧r.2.1≤r.2.2.length∧r.2.2.length≤12∧r.2.2.take r.2.1=WF c b l t:=by
 unfold Qah
 refine Ok.run l.length (fun i=>((t,l,((l.length:Nat):Int),(i:Int),()),c,b,(l.take i).flatMap (fun x=>Qbk c b x t),())) (by simp) (by omega) (fun i hi k hk=>?_) (fun k=>?_)
 ·dsimp only
  have hx:=hl _ (Qi hi)
  have hle:((l.take i).flatMap (fun x=>Qbk c b x t)).length≤2*i:=by
   rw[List.length_flatMap]
   have:∀(m:List D.Target),(∀x∈m,Vv b.Teams.length x)→(m.map (fun x=>(Qbk c b x t).length)).sum≤2*m.length:=by
    intro m hm
    induction m with
    |nil=>simp
    |cons y m ih=>
     have h1:=QgZ (c:=c) (t:=t) hb (hm y (List.mem_cons_self ..))
     have h2:=ih (fun x hx=>hm x (List.mem_cons_of_mem _ hx))
     simp only[List.map_cons,List.sum_cons,List.length_cons];omega
   have h3:=this (l.take i) (fun x hx=>hl x (List.mem_of_mem_take hx))
   rw[List.length_take]at h3;omega
  have hm2:=QgZ (c:=c) (t:=t) hb hx
  refine Ok.P (Ok.atn hi (Ok.oe (Qu9 h hn hb hx) (Ok.L ?_)))
  rw[Qa (by omega)]
  have e:(l.take i).flatMap (fun x=>Qbk c b x t)++Qbk c b (nth l i) t=(l.take (i+1)).flatMap (fun x=>Qbk c b x t):=by
   rw[←Qs hi,List.flatMap_append];simp
  rw[e];exact hk
 ·dsimp only
  rw[List.take_length]
  obtain⟨L0,hL0⟩:∃L0,l.flatMap (fun x=>Qbk c b x t)=L0:=⟨_,rfl⟩
  have hle:L0.length≤12:=by
   rw[←hL0,List.length_flatMap]
   have:∀(m:List D.Target),(∀x∈m,Vv b.Teams.length x)→(m.map (fun x=>(Qbk c b x t).length)).sum≤2*m.length:=by
    intro m hm
    induction m with
    |nil=>simp
    |cons y m ih=>
     have h1:=QgZ (c:=c) (t:=t) hb (hm y (List.mem_cons_self ..))
     have h2:=ih (fun x hx=>hm x (List.mem_cons_of_mem _ hx))
     simp only[List.map_cons,List.sum_cons,List.length_cons];omega
   have h3:=this l hl
   omega
  rw[hL0]
  refine Ok.N (Ok.opt (QwJ h (by omega)) fun⟨a0,a1,a2⟩ ⟨g1,g2,g3,g4⟩=>?_)
  dsimp only at g1 g2 g3 g4 ⊢
  subst g1
  refine Ok.opt (QxA (by omega) (by omega)) fun r ⟨s1,s2,s3⟩=>Ok.ck s1 ?_
  refine Ok.opt (Qq4 (by omega) (by omega) (by omega) s2) fun⟨b0,b1,b2⟩ ⟨k1,k2,k3,k4,k5⟩=>Ok.s ?_
  dsimp only at k1 k2 k3 k4 k5 ⊢
  refine⟨k1,by omega,by omega,QkZ k4 fun z=>?_⟩
  rw[k5,s3,Qh6 (by omega),g4,List.mem_filter,←hL0,List.mem_flatMap]
  unfold Means inC
  rw[decide_eq_true_eq]
  constructor
  ·rintro⟨⟨x,hx1,hx2⟩,hz⟩
   exact⟨hz.1,by omega,x,hx1,(QkU h (hl x hx1) hz).1 hx2⟩
  ·rintro⟨hz1,hz2,x,hx1,hx2⟩
   exact⟨⟨x,hx1,(QkU h (hl x hx1) ⟨hz1,by omega⟩).2 hx2⟩,hz1,by omega⟩
end
/-
  People whom targets mean: what the reference computes; lists compared.
-/
section
variable {t p:Int} {n:Nat} {c:D.Config} {b:D.Book}
theorem Qj7{l:List Int}{x:Int}:∀i,(WI l x i).1.length≤2*i
 |0=>by simp[WI]
 |i+1=>by
  have:=Qj7 (l:=l) (x:=x) i
  simp only[WI,List.length_append]
  have h1:(if (WI l x i).2=false∧x≤nth l i then[x]else[]).length≤1:=by split<;>simp
  have h2:(if nth l i≠x then[nth l i]else[]).length≤1:=by split<;>simp
  omega
theorem Qug{l:List Int}{x:Int}(hl:l.length≤400):Wv 1000 l x=some (QhY l x):=by
 refine Ok.eq ?_
 unfold Wv
 refine Ok.run l.length (fun i=>((l,x,(WI l x i).2,(i:Int),()),(WI l x i).1,())) rfl (by omega) (fun i hi k hk=>?_) (fun k=>?_)
 ·dsimp only
  have hlen:=Qj7 (l:=l) (x:=x) i
  rw[WI]at hk
  refine Ok.P (Ok.j (Ok.j ?_))
  have fin:∀(d:Bool) (o:List Int),o.length≤2000→d=((WI l x i).2 || decide (x≤nth l i))→o=(WI l x i).1++(if (WI l x i).2=false∧x≤nth l i then[x]else[])→
    Ok (atc l (i:Int) fun a17=>AM.cnd (decide (a17≠x)) (atc l (i:Int) fun a18=>AM.lec (o.length+[a18].length) 34359738368 (k ((l,x,d,IntKind.wrap .i64 ((i:Int)+1),()),o++[a18],()))) (k ((l,x,d,IntKind.wrap .i64 ((i:Int)+1),()),o,()))) (·=QhY l x):=fun d o ho hd he=>by
   rw[Qa (by omega)]
   rw[hd,he]
   refine Ok.atn hi (Ok.ite (fun h=>Ok.atn hi (Ok.lec (by rw[←he];simp;omega) ?_)) (fun h=>?_))
   ·rw[if_pos h]at hk;exact hk
   ·rw[if_neg h,List.append_nil]at hk;exact hk
  refine Ok.cnd (fun hd=>?_) (fun hd=>Ok.atn hi (Ok.ite (fun hx=>Ok.LS ?_) (fun hx=>?_)))
  ·exact fin (WI l x i).2 (WI l x i).1 (by omega) (by rw[hd];rfl) (by rw[hd];simp)
  ·exact fin true ((WI l x i).1++[x]) (by simp;omega) (by rw[hd,decide_eq_true hx];rfl) (by rw[if_pos ⟨hd,hx⟩])
  ·exact fin (WI l x i).2 (WI l x i).1 (by omega) (by rw[hd,decide_eq_false hx];rfl) (by rw[if_neg (fun h=>hx h.2),List.append_nil])
 ·dsimp only
  have hlen:=Qj7 (l:=l) (x:=x) l.length
  refine Ok.N (Ok.j (Ok.ncnd (fun hd=>Ok.LS (Ok.s ?_)) (fun hd=>Ok.s ?_)))
  ·unfold QhY;rw[if_neg (by rw[hd];simp)]
  ·unfold QhY;rw[if_pos hd]
theorem q25In{fu:Nat}{n lo hi:Int}:Q5 fu n lo hi=some (decide (lo≤n∧n≤hi)):=cnd2
theorem Qrg{l:List D.Target}{i:Nat}{z:Int}(hi:i<l.length):Means c b (l.take (i+1)) t z↔Means c b (l.take i) t z∨(0≤z∧z<4∧z∈QbX c b (nth l i) t):=by
 unfold Means
 rw[←Qs hi]
 simp only[List.mem_append,List.mem_singleton]
 constructor
 ·rintro⟨h1,h2,x,hx|rfl,hz⟩
  ·exact .inl ⟨h1,h2,x,hx,hz⟩
  ·exact .inr ⟨h1,h2,hz⟩
 ·rintro(⟨h1,h2,x,hx,hz⟩|⟨h1,h2,hz⟩)
  ·exact⟨h1,h2,x,.inl hx,hz⟩
  ·exact⟨h1,h2,_,.inr rfl,hz⟩
theorem QpZ{o:List Int}(h:Asc o)(hm:∀z∈o,0≤z∧z<4):o.length≤4:=by
 have e:o=([0,1,2,3]:List Int).filter fun z=>o.contains z:=Qcp h (List.Pairwise.filter _ asc4) fun z=>by
  simp only[List.mem_filter,List.contains_iff_mem,List.mem_cons,List.not_mem_nil,or_false]
  exact⟨fun hz=>⟨by have:=hm z hz;omega,hz⟩,fun hz=>hz.2⟩
 rw[e]
 exact List.length_filter_le _ _
theorem Qro{l:List D.Target}(h:Q3 n c)(hn:n≤48)(hb:QM b)(hl:∀x∈l,Vv b.Teams.length x)(hlen:l.length≤400):Qb4 1000 c b l t=some (WF c b l t):=by
 have hpl:=h.plen;have hsl:=h.slen;have htl:=hb.tlen
 refine Ok.eq ?_
 unfold Qb4
 refine Ok.run l.length (fun i=>((l,t,WF c b (l.take i) t,(i:Int),()),c,b,())) (by rw[List.take_zero];rfl) (by omega) (fun i hi k hk=>?_) (fun k=>?_)
 ·dsimp only
  have hx:=hl _ (Qi hi)
  obtain⟨x,hxx⟩:∃x,nth l i=x:=⟨_,rfl⟩
  have hpe:=Qfx (c:=c) (b:=b) (l:=l.take i) (t:=t)
  have hple:=Qfy (c:=c) (b:=b) (l:=l.take i) (t:=t)
  have fin:∀o:List Int,Asc o→(∀z,z∈o↔Means c b (l.take i) t z∨(0≤z∧z<4∧z∈QbX c b x t))→Ok (k ((l,t,o,IntKind.wrap .i64 ((i:Int)+1),()),c,b,())) (·=WF c b l t):=fun o ho hm=>by
   rw[Qa (by omega),QkZ ho (fun z=>by rw[hm,Qrg hi,hxx])]
   exact hk
  have one:∀v,0≤v∧v<4→(∀z,0≤z∧z<4→(z∈QbX c b x t↔z=v))→Ok (k ((l,t,QhY (WF c b (l.take i) t) v,IntKind.wrap .i64 ((i:Int)+1),()),c,b,())) (·=WF c b l t):=fun v hv hm=>
   fin _ (QcU hpe).1 fun z=>by
    rw[(QcU hpe).2,QaQ]
    constructor
    ·rintro(hz|rfl)
     ·exact .inl hz
     ·exact .inr ⟨hv.1,hv.2,(hm _ hv).2 rfl⟩
    ·rintro(hz|⟨h1,h2,hz⟩)
     ·exact .inl hz
     ·exact .inr ((hm z ⟨h1,h2⟩).1 hz)
  have none_:(∀z,0≤z∧z<4→¬z∈QbX c b x t)→Ok (k ((l,t,WF c b (l.take i) t,IntKind.wrap .i64 ((i:Int)+1),()),c,b,())) (·=WF c b l t):=fun hm=>
   fin _ hpe fun z=>by
    rw[QaQ]
    exact⟨.inl,fun h=>h.elim id fun⟨h1,h2,hz⟩=>absurd hz (hm z ⟨h1,h2⟩)⟩
  rw[hxx]at hx
  rw[hpl,hsl]
  have h1:=hx.lo;have h2:=hx.person;have h3:=hx.sched;have h4:=hx.team
  refine Ok.P (Ok.j (Ok.atn hi ?_))
  rw[hxx]
  rcases hx.kind with hkd|hkd|hkd
  ·have:=h2 hkd
   refine Ok.p hkd (Ok.oe q25In (Ok.p (by rw[Qc (by omega)];omega) (Ok.oe (Qug (by omega)) ?_)))
   exact one _ ⟨h1,by omega⟩ fun z hz=>by unfold QbX;rw[if_pos hkd];simp
  ·have:=h3 hkd
   refine Ok.N (Ok.p hkd (Ok.oe q25In (Ok.p (by rw[Qc (by omega)];omega) (Ok.oe (QxK h hn) ?_))))
   have hw:=QxL h (i:=x.Index) (t:=t)
   refine Ok.ite (fun hge=>Ok.oe (Qug (by omega)) ?_) (fun hlt=>?_)
   ·exact one _ ⟨hge,hw.2⟩ fun z hz=>by unfold QbX;rw[if_neg (by omega),if_pos hkd,if_neg (by omega)];simp
   ·exact none_ fun z hz=>by unfold QbX;rw[if_neg (by omega),if_pos hkd,if_pos (by omega)];simp
  ·have:=h4 hkd
   refine Ok.N (Ok.N (Ok.p hkd (Ok.oe q25In (Ok.p (by rw[Qc (by omega)];omega) ?_))))
   obtain⟨tm,htm⟩:∃tm,nth b.Teams x.Index.toNat=tm:=⟨_,rfl⟩
   have hteam:=hb.team _ (Qi (l:=b.Teams) (i:=x.Index.toNat) (by omega))
   rw[htm]at hteam
   have hmv:QbX c b x t=tm.Members:=by unfold QbX;rw[if_neg (by omega),if_neg (by omega),if_pos ⟨hkd,h1,h4 hkd⟩,htm]
   have hml:=hteam.len
   refine Ok.loop (fun q y=>∃(j:Nat) (o:List Int),y=((l,t,o,(i:Int),(j:Int),()),c,b,x,())∧j≤tm.Members.length∧Asc o∧(∀z,z∈o↔Means c b (l.take i) t z∨(0≤z∧z<4∧z∈tm.Members.take j))∧q=tm.Members.length - j) (m:=tm.Members.length) (by omega)
    ⟨0,_,rfl,by omega,hpe,fun z=>by rw[QaQ];simp,by omega⟩ ?_
   rintro q y ⟨j,o,rfl,a1,a2,a4,rfl⟩ K hK
   have a3:=QpZ a2 (fun z hz=>by
    rcases(a4 z).1 hz with g|g
    ·exact⟨g.1,g.2.1⟩
    ·exact⟨g.1,g.2.1⟩)
   dsimp only
   refine Ok.at h1 (by omega) ?_
   rw[htm]
   refine Ok.ite (fun hj=>?_) (fun hj=>?_)
   ·have hmem:=hteam.mem _ (Qi (l:=tm.Members) (i:=j) (by omega))
    refine Ok.j (Ok.at h1 (by omega) ?_)
    rw[htm]
    refine Ok.A ?_
    rw[hpl]
    refine Ok.oe q25In (Ok.p (by rw[Qc (by omega)];omega) (Ok.at h1 (by omega) ?_))
    rw[htm]
    refine Ok.A (Ok.oe (Qug (by omega)) ?_)
    dsimp only
    rw[Qa (by omega)]
    refine hK _ _ (by omega) ⟨j+1,_,rfl,by omega,(QcU a2).1,fun z=>?_,rfl⟩
    rw[(QcU a2).2,a4,VF (by omega)]
    constructor
    ·rintro((hz|⟨z1,z2,z3⟩)|rfl)
     ·exact .inl hz
     ·exact .inr ⟨z1,z2,.inl z3⟩
     ·exact .inr ⟨hmem.1,hmem.2,.inr rfl⟩
    ·rintro(hz|⟨z1,z2,z3|z3⟩)
     ·exact .inl (.inl hz)
     ·exact .inl (.inr ⟨z1,z2,z3⟩)
     ·exact .inr z3
   ·have ej:j=tm.Members.length:=by omega
    rw[ej,List.take_length]at a4
    exact fin o a2 fun z=>by rw[a4,hmv]
 ·dsimp only
  refine Ok.N (Ok.s ?_)
  rw[List.take_length]
theorem Qxu{x y:List Int}(hx:x.length≤900):Qie 1000 x y=some (decide (x=y)):=by
 refine Ok.eq ?_
 unfold Qie
 refine Ok.ite (fun h=>Ok.s ?_) (fun h=>?_)
 ·rw[decide_eq_false];rintro rfl;exact h rfl
 ·have hl:x.length=y.length:=by omega
  refine Ok.scan x.length (fun i=>((x,y,(i:Int),()),())) (fun i=>decide (nth x i≠nth y i)) rfl (by omega) (fun i hi hq _ k=>?_) (fun i hi hq k hk=>?_) (fun hq k=>?_)
  ·have hq:=of_decide_eq_true hq
   refine Ok.P (Ok.atn hi (Ok.A (Ok.p hq (Ok.s ?_))))
   rw[decide_eq_false];rintro rfl;exact hq rfl
  ·have hq:=of_decide_eq_false hq
   refine Ok.P (Ok.atn hi (Ok.A (Ok.n hq ?_)))
   rw[Qa (by omega)];exact hk
  ·refine Ok.N (Ok.s ?_)
   rw[decide_eq_true]
   refine List.ext_getElem hl fun i h1 h2=>?_
   have:=of_decide_eq_false (hq i h1)
   simpa [nth,List.getD_eq_getElem?_getD,List.getElem?_eq_getElem h1,List.getElem?_eq_getElem h2]using this
theorem Qbi{l:List Int}{x:Int}(hl:l.length≤900):QcF 1000 l x=some (l.contains x):=by
 refine Ok.eq ?_
 unfold QcF
 refine Ok.scan l.length (fun i=>((l,x,(i:Int),()),())) (fun i=>decide (nth l i=x)) rfl (by omega) (fun i hi hq _ k=>?_) (fun i hi hq k hk=>?_) (fun hq k=>?_)
 ·have hq:=of_decide_eq_true hq
  refine Ok.P (Ok.atn hi (Ok.p hq (Ok.s ?_)))
  exact(List.contains_iff_mem.2 (hq ▸ Qi hi)).symm
 ·have hq:=of_decide_eq_false hq
  refine Ok.P (Ok.atn hi (Ok.n hq ?_))
  rw[Qa (by omega)];exact hk
 ·refine Ok.N (Ok.s ?_)
  symm
  rw[Bool.eq_false_iff]
  intro h
  obtain⟨i,hi,e⟩:=List.getElem_of_mem (List.contains_iff_mem.1 h)
  refine of_decide_eq_false (hq i hi) ?_
  simpa [nth,List.getD_eq_getElem?_getD,List.getElem?_eq_getElem hi]using e
end
/-
  Pages looked at: what the program's and the reference's checks of pages and answers compute.
-/
open Go AM
theorem Qdo{α:Type}[Inhabited α]{l:List α}{i:Nat}(h:i<l.length):l.drop i=nth l i::l.drop (i+1):=by
 rw[List.drop_eq_getElem_cons h]
 simp[nth,List.getD_eq_getElem?_getD,List.getElem?_eq_getElem h]
theorem ein{fu:Nat}{x lo hi:Int}:QY fu x lo hi=some (inV x lo hi):=by
 unfold QY inV
 by_cases h1:lo≤x<;>by_cases h2:x≤hi<;>simp[cd,AM.cnd,h1,h2]
theorem aiN{fu:Nat}{x lo hi:Int}:Vw fu x lo hi=some (inV x lo hi):=by
 unfold Vw inV
 by_cases h1:lo≤x<;>by_cases h2:x≤hi<;>simp[cd,AM.cnd,h1,h2]
theorem Qhr{l:List Int}{i:Nat}{x:Int}(hi:i<l.length)(h:decide (x=nth l i)=true):l.contains x=true:=by
 rw[of_decide_eq_true h];exact List.contains_iff_mem.2 (Qi hi)
theorem QiR{l:List Int}{x:Int}(h:∀j,j<l.length→decide (x=nth l j)=false):l.contains x=false:=by
 cases hb:l.contains x with
 |false=>rfl
 |true=>
  obtain⟨j,hj,e⟩:=List.getElem_of_mem (List.contains_iff_mem.1 hb)
  have:=of_decide_eq_false (h j hj)
  exact absurd (by simp[nth,List.getD_eq_getElem?_getD,List.getElem?_eq_getElem hj,e]) this
theorem Qcr{l:List Int}{x:Int}(hl:l.length<900):Z8 1000 l x=some (l.contains x):=by
 refine Ok.eq ?_
 unfold Z8 UW
 refine Ok.opt (P:=fun r=>decide (0≤r)=l.contains x) ?_ fun r hr=>Ok.s hr
 refine Ok.scan l.length (fun i=>((l,x,((l.length:Nat):Int),(i:Int),()),())) (fun i=>decide (x=nth l i)) rfl (by omega) (fun i hi hq _ k=>?_) (fun i hi hq k hk=>?_) (fun hq k=>?_)
 ·refine Ok.P (Ok.atn hi (Ok.bt hq (Ok.s ?_)))
  rw[Qhr hi hq];simp
 ·refine Ok.P (Ok.atn hi (Ok.bf hq ?_))
  rw[Qa (by omega)];exact hk
 ·refine Ok.N (Ok.s ?_)
  rw[QiR hq];rfl
theorem UA{l:List Int}{x:Int}(hl:l.length<900):Zj 1000 l x=some (l.contains x):=by
 refine Ok.eq ?_
 unfold Zj VY
 refine Ok.opt (P:=fun r=>decide (0≤r)=l.contains x) ?_ fun r hr=>Ok.sameC (Ok.s hr)
 refine Ok.scan l.length (fun i=>((x,((l.length:Nat):Int),(i:Int),()),l,())) (fun i=>decide (x=nth l i)) rfl (by omega) (fun i hi hq _ k=>?_) (fun i hi hq k hk=>?_) (fun hq k=>?_)
 ·refine Ok.P (Ok.natn (Ok.lt hi (Ok.get hi (Ok.bt hq (Ok.sameC (Ok.s ?_))))))
  rw[Qhr hi hq];simp
 ·refine Ok.P (Ok.natn (Ok.lt hi (Ok.get hi (Ok.bf hq ?_))))
  rw[Qa (by omega)];exact hk
 ·refine Ok.N (Ok.sameC (Ok.s ?_))
  rw[QiR hq];rfl
def badS(l:List Int)(i:Nat):Bool:=!(decide (0≤nth l i) && decide (nth l i≤31) && (decide (i=0) || decide (nth l (i - 1)<nth l i)))
theorem QqK{l:List Int}{i:Nat}(hi:i<l.length)(h:badS l i=true):setV l=false:=by
 cases hb:setV l with
 |false=>rfl
 |true=>
  have hs:=VW.1 hb
  have h1:=hs.2 _ (Qi hi)
  have h2:0<i→nth l (i - 1)<nth l i:=fun h0=>QgH hs.1 (by omega) hi
  unfold badS at h
  by_cases h0:i=0
  ·subst h0;simp at h;omega
  ·have:=h2 (by omega)
   simp[h0]at h;omega
theorem Qoy{l:List Int}(h:∀j,j<l.length→badS l j=false):setV l=true:=by
 have hk:∀j,j<l.length→0≤nth l j∧nth l j≤31∧(j=0∨nth l (j - 1)<nth l j):=fun j hj=>by
  have:=h j hj
  unfold badS at this
  obtain⟨a,b,c⟩:0≤nth l j∧nth l j≤31∧(¬j=0→nth l (j - 1)<nth l j):=by simpa [and_assoc]using this
  exact⟨a,b,by by_cases e:j=0;exact .inl e;exact .inr (c e)⟩
 refine VW.2 ⟨?_,fun x hx=>?_⟩
 ·have:=QgG (l:=l) (n:=l.length) (Nat.le_refl _) fun k h1 h2=>by have:=(hk k h2).2.2;omega
  rwa [List.take_length]at this
 ·obtain⟨j,hj,e⟩:=List.getElem_of_mem hx
  have:=hk j hj
  rw[show nth l j=x by simp[nth,List.getD_eq_getElem?_getD,List.getElem?_eq_getElem hj,e]]at this
  omega
theorem Qv8{l:List Int}(hl:l.length<900):UC 1000 l=some (setV l):=by
 refine Ok.eq ?_
 unfold UC
 refine Ok.scan l.length (fun i=>((l,l,((l.length:Nat):Int),(i:Int),()),())) (badS l) rfl (by omega) (fun i hi hq _ k=>?_) (fun i hi hq k hk=>?_) (fun hq k=>?_)
 ·refine Ok.P (Ok.j (Ok.atn hi (Ok.oe ein ?_)))
  rw[QqK hi hq]
  refine Ok.cnd (fun h1=>?_) (fun h1=>Ok.s rfl)
  by_cases h0:0<i
  ·refine Ok.P ?_
   rw[show IntKind.wrap .i64 ((i:Int) - 1)=((i - 1:Nat):Int)by rw[Qc (by omega)];omega]
   refine Ok.A (Ok.p ?_ (Ok.s rfl))
   unfold badS at hq
   unfold inV at h1
   simp only[bae,decide_eq_true_eq]at h1
   simp[h1.1,h1.2,show i≠0 by omega]at hq
   omega
  ·unfold badS at hq
   unfold inV at h1
   simp only[bae,decide_eq_true_eq]at h1
   obtain rfl:i=0:=by omega
   simp[h1.1,h1.2]at hq
 ·refine Ok.P (Ok.j (Ok.atn hi (Ok.oe ein ?_)))
  unfold badS at hq
  simp only[Bool.not_eq_false',bae,Bool.or_eq_true,decide_eq_true_eq]at hq
  refine Ok.bt (by unfold inV;simp[hq.1.1,hq.1.2]) ?_
  dsimp only
  rw[Qa (by omega)]
  by_cases h0:0<i
  ·refine Ok.P ?_
   rw[show IntKind.wrap .i64 ((i:Int) - 1)=((i - 1:Nat):Int)by rw[Qc (by omega)];omega]
   exact Ok.A (Ok.N hk)
  ·exact Ok.N hk
 ·exact Ok.N (Ok.s (Qoy hq).symm)
theorem Qii{l:List Int}{i:Nat}(hi:i<l.length)(h:(l.take i).contains (nth l i)=true):decide l.Nodup=false:=by
 refine decide_eq_false fun hn=>?_
 have hm:=List.contains_iff_mem.1 h
 have e:l=l.take i++(nth l i::l.drop (i+1)):=by rw[←Qdo hi,List.take_append_drop]
 rw[e]at hn
 exact(List.nodup_append.1 hn).2.2 _ hm _ (List.mem_cons_self ..) rfl
theorem Qox{l:List Int}(h:∀j,j<l.length→(l.take j).contains (nth l j)=false):l.Nodup:=by
 have:∀i,i≤l.length→(l.take i).Nodup:=by
  intro i
  induction i with
  |zero=>intro _;simp
  |succ i ih=>
   intro hi
   rw[VZ (by omega)]
   refine List.nodup_append.2 ⟨ih (by omega),by simp,fun x hx y hy e=>?_⟩
   rw[List.mem_singleton.1 hy]at e
   subst e
   have:=h i (by omega)
   rw[List.contains_iff_mem.2 hx]at this
   simp at this
 have:=this l.length (Nat.le_refl _)
 rwa [List.take_length]at this
theorem Qxv{l:List Int}(hl:l.length<900):Qab 1000 l=some (Qkx l):=by
 refine Ok.eq ?_
 unfold Qab Qkx
 refine Ok.scan l.length (fun i=>((l,l,((l.length:Nat):Int),(i:Int),()),())) (fun i=>(l.take i).contains (nth l i)) rfl (by omega) (fun i hi hq _ k=>?_) (fun i hi hq k hk=>?_) (fun hq k=>?_)
 ·refine Ok.P (Ok.atn hi (Ok.natn (Ok.L (Ok.oe (Qcr (by simp;omega)) (Ok.bt hq (Ok.s ?_))))))
  rw[Qii hi hq];rfl
 ·refine Ok.P (Ok.atn hi (Ok.natn (Ok.L (Ok.oe (Qcr (by simp;omega)) (Ok.bf hq ?_)))))
  rw[Qa (by omega)];exact hk
 ·refine Ok.N (Ok.s ?_)
  rw[decide_eq_true (Qox hq),Bool.true_and]
  exact decide_eq_decide.2 (by omega)
structure QA (p:D.Page):Prop where
 st:p.Starts.length≤300
 pe:∀s∈p.Starts,s.People.length≤40∧-1000000≤s.K∧s.K≤1000000
 de:p.Declined.length≤40
 se:p.Seen.length≤100
 nx : -1000000≤p.Next∧p.Next≤1000000
theorem QrH{p:D.Page}(h:QA p):WS 1000 p=some (QfL p):=by
 have hst:=h.st
 have hnx:=h.nx
 refine Ok.eq ?_
 unfold WS QfL
 refine Ok.loop (fun m x=>∃(i:Nat) (k t:Int),x=((t,k,p.Starts,((p.Starts.length:Nat):Int),(i:Int),()),p,())∧i≤p.Starts.length∧-1≤k∧k≤1000000∧X0 p.Next k t (p.Starts.drop i)=X0 p.Next (-1) p.Start p.Starts∧m=p.Starts.length - i) (m:=p.Starts.length) (by omega)
  ⟨0,-1,p.Start,rfl,by omega,by omega,by omega,rfl,rfl⟩ ?_
 rintro m x ⟨i,k,t,rfl,h1,h2,h2',h3,rfl⟩ K hK
 dsimp only
 refine Ok.ite (fun hi=>?_) (fun hi=>?_)
 ·have hlt:i<p.Starts.length:=by omega
  have hs:=h.pe _ (Qi hlt)
  refine Ok.atn hlt (Ok.j ?_)
  obtain⟨s,hse⟩:∃s,nth p.Starts i=s:=⟨_,rfl⟩
  rw[Qdo hlt,X0,hse]at h3
  rw[hse]at hs ⊢
  rw[←h3]
  have next:(decide (t≤s.At) && (decide (s.K = -1) || decide (0≤s.K) && decide (k<s.K) && decide (s.K<p.Next)) && setV s.People)=true→
    Ok (K ((s.At,max k s.K,p.Starts,((p.Starts.length:Nat):Int),IntKind.wrap .i64 ((i:Int)+1),()),p,())) (·=(decide (t≤s.At) && (decide (s.K = -1) || decide (0≤s.K) && decide (k<s.K) && decide (s.K<p.Next)) && setV s.People && X0 p.Next (max k s.K) s.At (p.Starts.drop (i+1)) && decide (p.Starts.length≤200))):=fun e=>by
   rw[Qa (by omega),h3]
   rw[e,Bool.true_and]at h3
   exact hK _ _ (by omega) ⟨i+1,max k s.K,s.At,rfl,by omega,by omega,by omega,h3,rfl⟩
  refine Ok.ite (fun g1=>Ok.s (by rw[decide_eq_false (show ¬t≤s.At by omega)];simp)) fun g1=>?_
  refine Ok.oe (Qv8 (by omega)) (Ok.cnd (fun g2=>?_) (fun g2=>Ok.s (by rw[g2];simp)))
  refine Ok.ite (fun g3=>?_) (fun g3=>?_)
  ·rw[Qc (x:=k+1) (by omega),Qc (x:=p.Next - 1) (by omega)]
   refine Ok.oe ein (Ok.cnd (fun g4=>?_) (fun g4=>?_))
   ·unfold inV at g4
    simp only[bae,decide_eq_true_eq]at g4
    refine next ?_
    rw[g2];simp;omega
   ·refine Ok.s ?_
    have:(decide (s.K = -1) || decide (0≤s.K) && decide (k<s.K) && decide (s.K<p.Next))=false:=by
     unfold inV at g4
     simp only[Bool.and_eq_false_iff,decide_eq_false_iff_not]at g4
     rw[decide_eq_false g3,Bool.false_or]
     by_cases q1:0≤s.K<;>by_cases q2:k<s.K<;>by_cases q3:s.K<p.Next<;>simp[q1,q2,q3]<;>omega
    rw[this];simp
  ·refine next ?_
   rw[g2];simp;omega
 ·have e:i=p.Starts.length:=by omega
  refine Ok.s ?_
  subst e
  rw[List.drop_length,X0]at h3
  rw[←h3,Bool.true_and]
  exact decide_eq_decide.2 (by omega)
theorem QvE{p:D.Page}:Uq 1000 p=some (inV p.Last p.Start farV && inV p.Due 0 farV && inV p.Until 0 farV && inV p.Snoozes 0 4 && inV p.Hands 0 4):=by
 refine Ok.eq ?_
 unfold Uq
 refine Ok.oe ein (Ok.cnd (fun h1=>Ok.oe ein (Ok.cnd (fun h2=>Ok.oe ein (Ok.cnd (fun h3=>Ok.oe ein (Ok.cnd (fun h4=>Ok.oe ein (Ok.cnd (fun h5=>Ok.s ?_) (fun h5=>Ok.s ?_))) (fun h4=>Ok.s ?_))) (fun h3=>Ok.s ?_))) (fun h2=>Ok.s ?_))) (fun h1=>Ok.s ?_))
 all_goals simp_all [farV]
theorem QlA{n:Nat}{q:D.Policy}(h:QbN n q):We 1000 q=some (Yq q):=by
 have h1:=h.rep
 have h2:=h.len
 refine Ok.eq ?_
 unfold We
 refine Ok.j (Ok.oe pIn (Ok.P (Ok.N (Ok.s ?_))))
 rw[(Yr h).1,Qc (x:=q.Repeat+1) (by omega),Qc]
 have h3:q.Repeat=0∨q.Repeat=1∨q.Repeat=2:=by omega
 rcases h3 with h3|h3|h3<;>rw[h3]<;>omega
theorem Qlg{n:Nat}{q:D.Policy}(h:QbN n q):QoN q=true:=by
 unfold QoN
 rw[List.all_eq_true]
 intro s hs
 have:=(h.step s hs).wait
 simp;omega
theorem Quf{n:Nat}{q:D.Policy}(h:QbN n q):Qo 1000 q.Steps=some false:=by
 have h2:=h.len
 refine Ok.eq ?_
 unfold Qo QW
 refine Ok.opt (P:=fun r=>r = -1) ?_ fun r hr=>Ok.s (by rw[hr];rfl)
 refine Ok.run q.Steps.length (fun i=>((q.Steps,((q.Steps.length:Nat):Int),(i:Int),()),())) rfl (by omega) (fun i hi k hk=>?_) (fun k=>?_)
 ·have hw:=(h.step _ (Qi hi)).wait
  refine Ok.P (Ok.atn hi (Ok.oe (v:=false) ?_ (Ok.f ?_)))
  ·unfold US
   rw[ein,ZL]
   unfold inV;simp;omega
  ·rw[Qa (by omega)];exact hk
 ·exact Ok.N (Ok.s rfl)
theorem QhZ{b:D.Book}{p:D.Page}(hb:QM b)(h:QA p):Z9 1000 b p=some (QQ b p):=by
 have hpl:=hb.plen
 refine Ok.eq ?_
 unfold Z9
 refine Ok.j (Ok.oe ein (Ok.cnd (fun h1=>?_) (fun h1=>Ok.s (by simp[QQ,h1]))))
 rw[Qc (x:=((b.Policies.length:Nat):Int) - 1) (by omega)]
 refine Ok.oe ein (Ok.cnd (fun h2=>?_) (fun h2=>Ok.s (by simp[QQ,h2])))
 refine Ok.oe ein (Ok.cnd (fun h3=>?_) (fun h3=>Ok.s (by simp[QQ,h3])))
 have h2':=h2
 unfold inV at h2'
 simp only[bae,decide_eq_true_eq]at h2'
 refine Ok.at h2'.1 (by omega) (Ok.j ?_)
 have hq:QbN b.Teams.length (YS b p):=hb.pol _ (Qi (by omega))
 have hw:=Qlg hq
 show Ok (optc (Qo 1000 (YS b p).Steps) _) _
 refine Ok.oe (Quf hq) (Ok.f (Ok.oe (QlA hq) (Ok.oe ein ?_)))
 refine Ok.cnd (fun h4=>?_) (fun h4=>Ok.s (by have h4:inV p.Next 0 (Yq (YS b p))=false:=h4;simp[QQ,h4]))
 have h4:inV p.Next 0 (Yq (YS b p))=true:=h4
 refine Ok.oe ein (Ok.cnd (fun h5=>?_) (fun h5=>Ok.s (by simp[QQ,h5])))
 refine Ok.oe ein (Ok.cnd (fun h6=>?_) (fun h6=>Ok.s (by simp[QQ,h6])))
 refine Ok.oe QvE (Ok.cnd (fun h7=>?_) (fun h7=>Ok.s ?_))
 ·refine Ok.oe (QrH h) (Ok.cnd (fun h8=>?_) (fun h8=>Ok.s (by simp[QQ,h8])))
  have hde:=h.de;have hse:=h.se
  refine Ok.oe (Qv8 (by omega)) (Ok.cnd (fun h9=>?_) (fun h9=>Ok.s (by simp[QQ,h9])))
  refine Ok.oe (Qxv (by omega)) ?_
  simp only[bae]at h7
  exact Ok.cnd (fun h10=>Ok.s (by simp[QQ,h1,h2,h3,hw,h4,h5,h6,h7,h8,h9,h10])) (fun h10=>Ok.s (by simp[QQ,h10]))
 ·symm
  unfold QQ
  rw[Bool.eq_false_iff]
  intro hc
  rw[Bool.eq_false_iff]at h7
  apply h7
  simp only[bae]at hc ⊢
  obtain⟨⟨⟨⟨⟨⟨⟨⟨hc,a1⟩,a2⟩,a3⟩,a4⟩,a5⟩,_⟩,_⟩,_⟩:=hc
  exact⟨⟨⟨⟨a1,a2⟩,a3⟩,a4⟩,a5⟩
theorem QqO{a:D.Answer}:Ux 1000 a=some (YF a):=by
 refine Ok.eq ?_
 unfold Ux
 refine Ok.j ?_
 refine Ok.ite (fun k3=>?_) (fun k3=>?_)
 ·refine Ok.oe aiN (Ok.cnd (fun h1=>Ok.oe aiN (Ok.cnd (fun h2=>Ok.oe aiN (Ok.cnd (fun h3=>Ok.oe aiN (Ok.cnd (fun h4=>Ok.oe aiN (Ok.cnd (fun h5=>Ok.oe aiN (Ok.cnd (fun h6=>Ok.s ?_) (fun h6=>Ok.s ?_))) (fun h5=>Ok.s ?_))) (fun h4=>Ok.s ?_))) (fun h3=>Ok.s ?_))) (fun h2=>Ok.s ?_))) (fun h1=>Ok.s ?_))
  all_goals (unfold YF;rw[if_pos k3];simp_all)
 ·refine Ok.ite (fun k4=>?_) (fun k4=>?_)
  ·refine Ok.oe aiN (Ok.cnd (fun h1=>Ok.oe aiN (Ok.cnd (fun h2=>Ok.oe aiN (Ok.cnd (fun h3=>Ok.oe aiN (Ok.cnd (fun h4=>Ok.oe aiN (Ok.cnd (fun h5=>Ok.oe aiN (Ok.cnd (fun h6=>Ok.s ?_) (fun h6=>Ok.s ?_))) (fun h5=>Ok.s ?_))) (fun h4=>Ok.s ?_))) (fun h3=>Ok.s ?_))) (fun h2=>Ok.s ?_))) (fun h1=>Ok.s ?_))
   all_goals (unfold YF;rw[if_neg k3,if_pos k4];simp_all)
  ·have e0:inV a.Arg 0 0=decide (a.Arg=0):=by unfold inV;by_cases h:a.Arg=0<;>simp[h];omega
   refine Ok.oe aiN (Ok.cnd (fun h1=>Ok.oe aiN (Ok.cnd (fun h2=>Ok.oe aiN (Ok.cnd (fun h3=>Ok.oe aiN (Ok.cnd (fun h4=>Ok.oe aiN (Ok.cnd (fun h5=>Ok.oe aiN (Ok.cnd (fun h6=>Ok.s ?_) (fun h6=>Ok.s ?_))) (fun h5=>Ok.s ?_))) (fun h4=>Ok.s ?_))) (fun h3=>Ok.s ?_))) (fun h2=>Ok.s ?_))) (fun h1=>Ok.s ?_))
   all_goals (unfold YF;rw[if_neg k3,if_neg k4,←e0];simp_all)
/-
  What runs and answers keep of pages, in plain Lean: what the laws about pages ask for.
-/
section
variable {Q:Int→D.Start→Prop} {M now:Int} {b:D.Book} {p q:D.Page} {c:D.Config}
theorem QqI{R:D.Page→Prop}(hb:QM b)(hQ:QhG Q M c b)(hs:∀q,QI Q M b q→Yw q now=true→R q→R (stepQ c b q)):∀(n:Nat) {p:D.Page},QI Q M b p→R p→R (runN c b now n p).1
 |0,p,h,hr=>hr
 |n+1,p,h,hr=>by
  rw[runN]
  split
  ·rename_i hw
   have hd:=UP hw
   rw[h.stepVis hb hd.1,if_neg (by simp)]
   exact QqI hb hQ hs n (h.stepQ_inv hb hd.1 (hQ p h)) (hs p h hw hr)
  ·exact hr
theorem Qih{R:D.Page→Prop}(hb:QM b)(hQ:QhG Q M c b)(hs:∀q,QI Q M b q→Yw q now=true→R q→R (stepQ c b q))(h:QI Q M b p)(hr:R p):R (runV c b p now).1:=by
 rw[Qhe (h.check hb)]
 exact QqI hb hQ hs 100 h hr
structure Kept (p q:D.Page):Prop where
 id:q.ID=p.ID
 pol:q.Policy=p.Policy
 start:q.Start=p.Start
 by_:q.By=p.By
 until_:q.Until=p.Until
 snoozes:q.Snoozes=p.Snoozes
 hands:q.Hands=p.Hands
 seen:q.Seen=p.Seen
theorem Kept.refl(p:D.Page):Kept p p:=⟨rfl,rfl,rfl,rfl,rfl,rfl,rfl,rfl⟩
theorem Kept.step(h:Kept p q):Kept p (stepQ c b q):=by
 obtain⟨h1,h2,h3,h4,h5,h6,h7,h8⟩:=h
 unfold stepQ
 split
 ·exact⟨h1,h2,h3,h4,h5,h6,h7,h8⟩
 ·split<;>exact⟨h1,h2,h3,h4,h5,h6,h7,h8⟩
theorem QdY(hb:QM b)(hQ:QhG Q M c b)(h:QI Q M b p):Kept p (runV c b p now).1:=
 Qih hb hQ (fun q _ _ hr=>hr.step) h (Kept.refl p)
theorem Qt5(hw:Yw q now=true)(h:q.Last≤now):(stepQ c b q).Last≤now:=by
 have hd:=UP hw
 have hs:=Qdp hd.1
 have h2:=hd.2
 unfold dueV at h2
 unfold stepQ
 split
 ·rename_i e;rw[if_neg (by omega),if_pos e]at h2;dsimp only at h2 ⊢;omega
 ·rename_i e;rw[if_pos (by omega)]at h2
  split<;>dsimp only at h2⊢<;>omega
theorem QtT(hb:QM b)(hQ:QhG Q M c b)(h:QI Q M b p)(hl:p.Last≤now):(runV c b p now).1.Last≤now:=
 Qih (R:=fun q=>q.Last≤now) hb hQ (fun q _ hw hr=>Qt5 hw hr) h hl
theorem QiV(h:p.State=0):dueV p=(p.Due,true):=by unfold dueV;rw[if_pos h]
theorem Qno(h:p.State=2):dueV p=(p.Until,true):=by unfold dueV;rw[if_neg (by omega),if_pos h]
theorem Qoo{a:D.Answer}(h:XC p a=0):p.Last≤a.At∧Yw p a.At=false∧p.State≠4∧(p.State=3→a.Kind=5)∧(p.State=1→a.Kind≠2)∧p.Seen.length≠64:=by
 revert h
 unfold XC
 split
 ·simp
 ·rename_i h1
  split
  ·simp
  ·rename_i h2
   split
   ·simp
   ·rename_i h3
    intro _
    have hw:Yw p a.At=false:=by cases hb:Yw p a.At<;>simp_all
    exact⟨by omega,hw,by omega,by omega,by omega,by omega⟩
theorem QgF{a:D.Answer}:(Xa p a).ID=p.ID∧(Xa p a).Policy=p.Policy∧(Xa p a).Start=p.Start∧(Xa p a).Next=p.Next:=by
 unfold Xa;repeat' split
 all_goals exact⟨rfl,rfl,rfl,rfl⟩
theorem QmX{a:D.Answer}(h:p.Last≤a.At):(Xa p a).Last≤a.At:=by
 unfold Xa;repeat' split
 all_goals dsimp only
 all_goals omega
theorem Qir{a:D.Answer}:(a.Kind=4→(Xa p a).Starts=p.Starts++[⟨-1,a.At,[a.Arg]⟩])∧(a.Kind≠4→(Xa p a).Starts=p.Starts):=by
 unfold Xa
 refine⟨fun h=>?_,fun h=>?_⟩
 ·rw[if_neg (by omega),if_neg (by omega),if_neg (by omega),if_pos h]
 ·repeat' split
  all_goals first|rfl|omega
end
def kN(l:List D.Start)(i:Nat):Int:=(((l.take i).filter fun s=>decide (0≤s.K)).length:Int)
def tN(st:Int)(l:List D.Start)(i:Nat):Int:=if i=0 then st else(nth l (i - 1)).At
theorem QdA{α:Type}[Inhabited α]{l m:List α}{i:Nat}(h:i<l.length):nth (l++m) i=nth l i:=by
 simp[nth,List.getD_eq_getElem?_getD,List.getElem?_append_left h]
theorem Qgd{α:Type}[Inhabited α]{l:List α}{x:α}:nth (l++[x]) l.length=x:=by
 simp[nth,List.getD_eq_getElem?_getD]
theorem Qql{l m:List D.Start}{i:Nat}(h:i≤l.length):kN (l++m) i=kN l i:=by
 unfold kN;rw[List.take_append_of_le_length h]
theorem Qs4{l:List D.Start}{x:D.Start}:kN (l++[x]) (l.length+1)=kN l l.length+(if 0≤x.K then 1 else 0):=by
 unfold kN
 rw[List.take_of_length_le (by simp),List.take_of_length_le (Nat.le_refl _),List.filter_append,List.length_append]
 by_cases h:0≤x.K
 ·simp[h]
 ·simp[h]
theorem QqN{st:Int}{l m:List D.Start}{i:Nat}(h:i≤l.length):tN st (l++m) i=tN st l i:=by
 unfold tN
 split
 ·rfl
 ·rw[QdA (by omega)]
theorem Qt7{st:Int}{l:List D.Start}{i:Nat}:tN st l (i+1)=(nth l i).At:=by unfold tN;rw[if_neg (by omega)];rfl
theorem Goes.scan{Q:D.Start→Prop}{st k t h:Int}{l:List D.Start}(g:Goes Q st l k t h):kN l l.length=k∧tN st l l.length=t∧
  ∀i,i<l.length→tN st l i≤(nth l i).At∧setV (nth l i).People=true∧((nth l i).K = -1∧0<i∨(nth l i).K=kN l i∧0≤(nth l i).K∧Q (nth l i))∧(i=0→(nth l i).At=st):=by
 induction g with
 |nil=>exact⟨rfl,rfl,fun i hi=>by simp at hi⟩
 |@step l k t h a P g h1 h2 h3 h4 ih=>
  obtain⟨i1,i2,i3⟩:=ih
  have hp:=g.pos
  refine⟨by rw[List.length_append,List.length_singleton,Qs4,i1,if_pos (by dsimp only;omega)],by rw[List.length_append,List.length_singleton,Qt7,Qgd],fun i hi=>?_⟩
  by_cases e:i=l.length
  ·subst e
   rw[Qgd,QqN (Nat.le_refl _),Qql (Nat.le_refl _),i1,i2]
   exact⟨h1,h3,.inr ⟨rfl,hp.1,h4⟩,fun e=>h2 (List.length_eq_zero_iff.1 e)⟩
  ·have hi':i<l.length:=by rw[List.length_append,List.length_singleton]at hi;omega
   rw[QdA hi',QqN (by omega),Qql (by omega)]
   exact i3 i hi'
 |@hand l k t h a x g h1 h2 h3 h4 ih=>
  obtain⟨i1,i2,i3⟩:=ih
  have hne:l.length≠0:=fun e=>h2 (List.length_eq_zero_iff.1 e)
  refine⟨by rw[List.length_append,List.length_singleton,Qs4,i1,if_neg (by simp)];simp,by rw[List.length_append,List.length_singleton,Qt7,Qgd],fun i hi=>?_⟩
  by_cases e:i=l.length
  ·subst e
   rw[Qgd,QqN (Nat.le_refl _),Qql (Nat.le_refl _),i2]
   exact⟨h1,QqL h3 h4,.inl ⟨rfl,by omega⟩,fun e=>absurd e hne⟩
  ·have hi':i<l.length:=by rw[List.length_append,List.length_singleton]at hi;omega
   rw[QdA hi',QqN (by omega),Qql (by omega)]
   exact i3 i hi'
/-
  What checks of pages say, and what steps, runs and answers keep of the lengths of pages.
-/
open Go AM
section
variable {R X Y:Type} {Q:R→Prop}
theorem AM.Ok.run2{B:(X×Y→Option R)→X×Y→Option R}(n:Nat)(st:Nat→X){r:Y}{fu:Nat}{x:X}(hx:x=st 0)(hf:n<fu)(hs:∀i,i<n→∀k,(Ok (k (st (i+1),r)) Q→Ok (B k (st i,r)) Q))(h:∀k,Ok (B k (st n,r)) Q):Ok (Qh B fu (x,r)) Q:=
 Ok.run n (fun i=>(st i,r)) (by rw[hx]) hf hs h
theorem AM.Ok.scan2{B:(X×Y→Option R)→X×Y→Option R}(n:Nat)(st:Nat→X){r:Y}(q:Nat→Bool){fu:Nat}{x:X}(hx:x=st 0)(hf:n<fu)(hy:∀i,i<n→q i=true→(∀j,j<i→q j=false)→∀k,Ok (B k (st i,r)) Q)(hn:∀i,i<n→q i=false→∀k,(Ok (k (st (i+1),r)) Q→Ok (B k (st i,r)) Q))(he:(∀j,j<n→q j=false)→∀k,Ok (B k (st n,r)) Q):Ok (Qh B fu (x,r)) Q:=
 Ok.scan n (fun i=>(st i,r)) q (by rw[hx]) hf hy hn he
end
theorem QtY{α:Type}[Inhabited α]{l:List α}{i:Nat}(h:i<l.length):l.set i (nth l i)=l:=by
 have e:nth l i=l[i]:=by simp[nth,List.getD_eq_getElem?_getD,List.getElem?_eq_getElem h]
 rw[e];exact List.set_getElem_self h
theorem asc32:Asc ((List.range 32).map fun(i:Nat)=>(i:Int)):=by unfold Asc;decide
structure CkF (b:D.Book) (p:D.Page):Prop where
 id:1≤p.ID∧p.ID≤999999
 pol:0≤p.Policy∧p.Policy<(b.Policies.length:Int)
 start:0≤p.Start∧p.Start≤8589934592
 next:0≤p.Next∧p.Next≤Yq (YS b p)
 state:0≤p.State∧p.State≤4
 by_ : -1≤p.By∧p.By≤31
 last:p.Start≤p.Last∧p.Last≤farV
 due:0≤p.Due∧p.Due≤farV
 until_:0≤p.Until∧p.Until≤farV
 snoozes:0≤p.Snoozes∧p.Snoozes≤4
 hands:0≤p.Hands∧p.Hands≤4
 starts:p.Starts.length≤200
 declined:setV p.Declined=true
 seen:p.Seen.Nodup∧p.Seen.length≤64
section
variable {n:Nat} {c:D.Config} {b:D.Book} {p q:D.Page} {now:Int}
theorem Ye(h:QQ b p=true):CkF b p:=by
 unfold QQ QfL Qkx at h
 simp only[bae,Qx,decide_eq_true_eq]at h
 obtain⟨⟨⟨⟨⟨⟨⟨⟨⟨⟨⟨⟨⟨⟨h1,h2⟩,h3⟩,h4⟩,h5⟩,h6⟩,h7⟩,h8⟩,h9⟩,h10⟩,h11⟩,h12⟩,h13⟩,h14⟩,h15⟩:=h
 exact⟨h1,by omega,h3,h5,h6,h7,h8,h9,h10,h11,h12,h13.2,h14,h15⟩
theorem CkF.polOK(h:CkF b p)(hb:QM b):QbN b.Teams.length (YS b p):=hb.pol _ (Qi (by have:=h.pol;omega))
theorem QA.stepQ(h:QA p)(hc:CkF b p)(hb:QM b):QA (stepQ c b p):=by
 have h1:=hc.starts;have h2:=hc.next
 have h3:=Yr (hc.polOK hb)
 unfold Go.Proofs.YtadlpefpehjcoaaGreat.stepQ
 split
 ·exact⟨h.st,h.pe,h.de,h.se,h.nx⟩
 ·split
  ·exact⟨h.st,h.pe,h.de,h.se,h.nx⟩
  ·refine⟨by dsimp only;simp;omega,?_,by dsimp only;simp,h.se,by dsimp only;omega⟩
   refine WY h.pe ⟨?_,by dsimp only;omega,by dsimp only;omega⟩
   have:=Qna (c:=c) (b:=b) (s:=Zn b p) (t:=p.Due)
   dsimp only;omega
theorem QA.page0:QA page0:=⟨by simp[Go.Proofs.YtadlpefpehjcoaaGreat.page0],by simp[Go.Proofs.YtadlpefpehjcoaaGreat.page0],by simp[Go.Proofs.YtadlpefpehjcoaaGreat.page0],by simp[Go.Proofs.YtadlpefpehjcoaaGreat.page0],by simp[Go.Proofs.YtadlpefpehjcoaaGreat.page0]⟩
theorem QA.stepV(h:QA p)(hb:QM b):QA (stepV c b p).1:=by
 unfold Go.Proofs.YtadlpefpehjcoaaGreat.stepV
 split
 ·exact .page0
 ·rename_i hc
  split
  ·exact .page0
  ·split
   ·exact .page0
   ·exact h.stepQ (Ye (by simpa using hc)) hb
theorem QA.runN(hb:QM b):∀(k:Nat) {p:D.Page},QA p→QA (runN c b now k p).1
 |0,p,h=>h
 |k+1,p,h=>by
  rw[Go.Proofs.YtadlpefpehjcoaaGreat.runN]
  split
  ·split
   ·exact .page0
   ·exact QA.runN hb k (h.stepV hb)
  ·exact h
theorem QA.runV(h:QA p)(hb:QM b):QA (runV c b p now).1:=by
 unfold Go.Proofs.YtadlpefpehjcoaaGreat.runV
 split
 ·exact .page0
 ·exact QA.runN hb 100 h
theorem QA.answerV{a:D.Answer}(h:QA p)(hb:QM b):QA (answerV b p a).1:=by
 unfold Go.Proofs.YtadlpefpehjcoaaGreat.answerV
 split
 ·exact .page0
 ·rename_i hc
  have hf:CkF b p:=Ye (by cases hk:QQ b p<;>simp_all)
  have hx:=hf.starts;have hs:=hf.seen
  split
  ·exact .page0
  ·split
   ·exact h
   ·split
    ·exact .page0
    ·have hd:(V1 p a).length≤40:=by
      unfold V1
      split
      ·have hde:=VW.1 hf.declined
       have h32:(Qgj p.Declined a.Person).length≤p.Declined.length+1:=by
        unfold Qgj
        rw[List.length_append,List.length_cons]
        have hsum:∀l:List Int,(l.filter (fun z=>decide (z<a.Person))).length+(l.filter (fun z=>decide (a.Person<z))).length≤l.length:=by
         intro l
         induction l with
         |nil=>simp
         |cons y l ih=>
          rw[List.filter_cons,List.filter_cons,List.length_cons]
          by_cases g1:y<a.Person
          ·rw[if_pos (by simpa using g1),if_neg (by simp;omega),List.length_cons];omega
          ·by_cases g2:a.Person<y
           ·rw[if_neg (by simpa using g1),if_pos (by simpa using g2),List.length_cons];omega
           ·rw[if_neg (by simpa using g1),if_neg (by simpa using g2)];omega
        have:=hsum p.Declined
        omega
       have hlen:p.Declined.length≤32:=by
        have e:p.Declined=((List.range 32).map fun(i:Nat)=>(i:Int)).filter fun z=>p.Declined.contains z:=Qcp hde.1 (List.Pairwise.filter _ asc32) fun z=>by
         simp only[List.mem_filter,List.contains_iff_mem,List.mem_map,List.mem_range]
         exact⟨fun hz=>⟨⟨z.toNat,by have:=hde.2 z hz;omega,by have:=hde.2 z hz;omega⟩,hz⟩,fun hz=>hz.2⟩
        rw[e]
        exact Nat.le_trans (List.length_filter_le _ _) (by simp)
       omega
      ·exact h.de
     have hse:(p.Seen++[a.ID]).length≤100:=by simp;omega
     unfold Xa
     split
     ·split
      ·exact⟨h.st,h.pe,h.de,hse,h.nx⟩
      ·exact⟨h.st,h.pe,h.de,hse,h.nx⟩
     ·split
      ·exact⟨h.st,h.pe,hd,hse,h.nx⟩
      ·split
       ·exact⟨h.st,h.pe,h.de,hse,h.nx⟩
       ·split
        ·exact⟨by dsimp only;simp;omega,WY h.pe ⟨by simp,by dsimp only;omega,by dsimp only;omega⟩,by dsimp only;simp,hse,h.nx⟩
        ·exact⟨h.st,h.pe,h.de,hse,h.nx⟩
theorem QI.plen{Q:Int→D.Start→Prop}{M:Int}(h:QI Q M b p)(hb:QM b):QA p:=by
 obtain⟨h1,h2,h3⟩:=h.len hb
 have hf:=Ye (h.check hb)
 have hc:=Yr (h.polOK hb)
 have hlen:∀{l:List Int},setV l=true→l.length≤40:=by
  intro l hl
  have hde:=VW.1 hl
  have e:l=((List.range 32).map fun(i:Nat)=>(i:Int)).filter fun z=>l.contains z:=Qcp hde.1 (List.Pairwise.filter _ asc32) fun z=>by
   simp only[List.mem_filter,List.contains_iff_mem,List.mem_map,List.mem_range]
   exact⟨fun hz=>⟨⟨z.toNat,by have:=hde.2 z hz;omega,by have:=hde.2 z hz;omega⟩,hz⟩,fun hz=>hz.2⟩
  rw[e]
  exact Nat.le_trans (List.length_filter_le _ _) (by simp)
 refine⟨by omega,fun s hs=>?_,hlen h.declined,by have:=hf.seen;omega,by have:=hf.next;omega⟩
 obtain⟨t,g1,_⟩:=h.goes
 obtain⟨k1,k2,k3⟩:=g1.scan
 obtain⟨i,hi,rfl⟩:=List.getElem_of_mem hs
 have:=k3 i hi
 have hkk:kN p.Starts i≤300:=by
  unfold kN
  have:=List.length_filter_le (fun s:D.Start=>decide (0≤s.K)) (p.Starts.take i)
  have:=List.length_take_le i p.Starts
  omega
 rw[show nth p.Starts i=p.Starts[i]by simp[nth,List.getD_eq_getElem?_getD,List.getElem?_eq_getElem hi]]at this
 exact⟨hlen this.2.1,by omega,by omega⟩
end
/-
  Pages on their way: what the program's steps and runs compute.
-/
section
attribute [local irreducible] dueV stepV runV QQ
section
variable {n:Nat} {c:D.Config} {b:D.Book} {p q:D.Page} {now:Int}
theorem QkL:X9 1000 p=some (dueV p):=by
 unfold X9 dueV
 by_cases h0:p.State=0
 ·simp[cd,AM.cnd,h0]
 ·by_cases h2:p.State=2<;>simp[cd,AM.cnd,h0,h2]
theorem QvJ{t:Int}:Ur 1000 p t=some (Yw p t):=by
 unfold Ur Yw
 rw[QkL,ZL]
 obtain⟨a,d⟩:=dueV p
 cases d<;>by_cases h:a≤t<;>simp[cd,AM.cnd,h]
theorem Qng{l:List D.Start}(h:l.length≤1000):Y5 1000 l=some l:=by unfold Y5;exact Xg (by omega)
theorem QiP{l:List Int}(h:l.length≤1000):Qy 1000 l=some l:=by unfold Qy;exact Xg (by omega)
theorem Qsz{l:List Int}(h:l.length≤1000):X5 1000 l=some l:=by unfold X5;exact Xg (by omega)
theorem QiS(h:QA p):Xm 1000 p=some p:=by
 have h1:=h.st;have h2:=h.de;have h3:=h.se
 refine Ok.eq ?_
 unfold Xm
 refine Ok.oe (Qng (by omega)) ?_
 refine Ok.run2 p.Starts.length (fun i=>(((p.Starts.length:Nat):Int),(i:Int),())) rfl (by omega) (fun i hi k hk=>?_) (fun k=>?_)
 ·dsimp only
  have hp:=(h.pe _ (Qi hi)).1
  refine Ok.P (Ok.natn (Ok.lt hi (Ok.get hi (Ok.oe (Qsz (by omega)) (Ok.natn (Ok.lt hi (Ok.get hi ?_)))))))
  rw[Qa (by omega),show(D.Start.mk (nth p.Starts i).K (nth p.Starts i).At (nth p.Starts i).People)=nth p.Starts i from rfl,QtY hi]
  exact hk
 ·dsimp only
  exact Ok.N (Ok.oe (QiP (by omega)) (Ok.oe (QiP (by omega)) (Ok.s rfl)))
def Qrm(q:D.Policy)(i:Int):Int×Int×Bool:=if 0≤i∧i<Yq q then(i % (q.Steps.length:Int),i / (q.Steps.length:Int),true)else(0,0,false)
theorem Qxk{m:Nat}{q:D.Policy}{i:Int}(h:QbN m q):QaS 1000 q i=some (Qrm q i):=by
 have h2:=h.len
 have hc:=Yr h
 refine Ok.eq ?_
 unfold QaS Qrm
 refine Ok.oe (QlA h) ?_
 rw[Qc (x:=Yq q - 1) (by omega)]
 refine Ok.oe pIn ?_
 by_cases hi:0≤i∧i<Yq q
 ·have g1:=Int.ediv_le_self (a:=i) (q.Steps.length:Int) hi.1
  have g2:0≤i / (q.Steps.length:Int):=Int.ediv_nonneg hi.1 (by omega)
  refine Ok.np (by omega) (Ok.Z (Ok.Z (Ok.s ?_)))
  rw[if_pos hi,Int.tmod_eq_emod_of_nonneg hi.1,Int.tdiv_eq_ediv_of_nonneg hi.1,Qc (by omega)]
 ·refine Ok.nn (by omega) (Ok.s ?_)
  rw[if_neg hi]
theorem QvY{q:D.Policy}{i:Int}(h:1≤q.Steps.length):0≤i % (q.Steps.length:Int)∧i % (q.Steps.length:Int)<(q.Steps.length:Int):=
 ⟨Int.emod_nonneg _ (by omega),Int.emod_lt_of_pos _ (by omega)⟩
abbrev pgA(p:D.Page):Int×Int×Int×Int×Int×Int×Int×Int×Int×Int×Int×Unit:=(p.ID,p.Policy,p.Start,p.Next,p.Due,p.State,p.By,p.Until,p.Last,p.Snoozes,p.Hands,())
theorem QiB(h:Q3 n c)(hn:n≤48){x:Int}{s:D.PolicyStep}:Zt 1000 x c p s=some (!WB c x p.Due s.Urgent,p):=by
 unfold Zt
 rw[Qvm h hn,ZL,Wn,Wn]
theorem QwY(h:Q3 n c)(hn:n≤48){s:D.PolicyStep}{l0:List Int}{m:Nat}(hm:m≤l0.length)(hl:m≤900):
  Ok (Qu 1000 0 m l0 c p s) fun r=>r.2=p∧(r.1 = -1∧(∀j,j<m→WB c (nth l0 j) p.Due s.Urgent=true)∨∃i:Nat,r.1=(i:Int)∧i<m∧WB c (nth l0 i) p.Due s.Urgent=false∧∀j,j<i→WB c (nth l0 j) p.Due s.Urgent=true):=by
 unfold Qu
 rw[Nat.sub_zero]
 refine Ok.scan2 m (fun i=>(0,m,((m:Nat):Int),(i:Int),())) (fun i=>!WB c (nth l0 i) p.Due s.Urgent) rfl (by omega) (fun i hi hq hj k=>?_) (fun i hi hq k hk=>?_) (fun hq k=>?_)
 ·dsimp only
  rw[Nat.sub_zero]
  refine Ok.P (Ok.natn (Ok.E ?_))
  rw[Nat.zero_add]
  refine Ok.G (Ok.oe (QiB (p:=p) h hn) ?_)
  exact Ok.bt hq (Ok.sameC (Ok.sameC (Ok.sameC (Ok.s ⟨rfl,.inr ⟨i,rfl,hi,by simpa using hq,fun j hj'=>by simpa using hj j hj'⟩⟩))))
 ·dsimp only
  rw[Nat.sub_zero]
  refine Ok.P (Ok.natn (Ok.E ?_))
  rw[Nat.zero_add]
  refine Ok.G (Ok.oe (QiB (p:=p) h hn) (Ok.bf hq ?_))
  rw[Qa (by omega)]
  exact hk
 ·exact Ok.N (Ok.sameC (Ok.sameC (Ok.sameC (Ok.s ⟨rfl,.inl ⟨rfl,fun j hj=>by simpa using hq j hj⟩⟩))))
theorem QwI(h:Q3 n c)(hn:n≤48){s:D.PolicyStep}{l0:List Int}{m:Nat}(hm:m≤l0.length)(hl:l0.length≤900):
  Ok (Qt 1000 0 m l0 c p s) fun r=>r.2.2.1=p∧List.drop r.1 (List.take r.2.1 r.2.2.2)=(l0.take m).filter fun z=>WB c z p.Due s.Urgent:=by
 unfold Qt
 refine Ok.opt (QwY h hn hm (by omega)) fun⟨r,p'⟩ ⟨hp',hr⟩=>?_
 dsimp only at hp' hr ⊢
 subst hp'
 rcases hr with⟨rfl,hall⟩|⟨i,rfl,hi,hx,hj⟩
 ·refine Ok.p rfl (Ok.sameC (Ok.sameC (Ok.s ⟨rfl,?_⟩)))
  dsimp only
  rw[List.drop_zero,QgS (q:=fun z=>WB c z p'.Due s.Urgent) hm hall]
 ·refine Ok.N ?_
  rw[Qa (by omega)]
  refine Ok.loop (fun q x=>∃(w j:Nat) (a:List Int),x=((0,m,((w:Nat):Int),((j:Nat):Int),()),c,pgA p',s,a,p'.Starts,p'.Declined,p'.Seen,())∧Qio (l0) (fun z=>WB c z p'.Due s.Urgent) w j a∧(w<j∧j≤m)∧q=m - j) (m:=m - (i+1)) (by omega) ⟨i,i+1,l0,rfl,Qnn (by omega) hj hx,by omega,rfl⟩ ?_
  rintro q x ⟨w,j,a,rfl,hinv,hjm,rfl⟩ K hK
  have h1:=hinv.wj
  have h2:=hinv.len
  dsimp only
  rw[Nat.sub_zero]
  refine Ok.ite (fun hlt=>?_) (fun hge=>?_)
  ·refine Ok.j (Ok.natn (Ok.E ?_))
   rw[Nat.zero_add]
   refine Ok.G (Ok.oe (QiB (p:=p') h hn) ?_)
   dsimp only
   rw[Bool.not_not]
   refine Ok.cnd (fun hq=>?_) (fun hq=>?_)
   ·refine Ok.natn (Ok.E ?_)
    rw[Nat.zero_add]
    refine Ok.G ?_
    rw[Qa (by omega),Qa (by omega)]
    exact hK _ _ (by omega) ⟨w+1,j+1,_,rfl,Qp6 hinv (by omega) hq,by omega,rfl⟩
   ·rw[Qa (by omega)]
    exact hK _ _ (by omega) ⟨w,j+1,a,rfl,Qp7 hinv (by omega) hq,by omega,rfl⟩
  ·have ej:j=m:=by omega
   have hd:=hinv.done
   rw[ej]at hd
   refine Ok.natn (Ok.E (Ok.L (Ok.L (Ok.natn (Ok.L (Ok.sameC (Ok.sameC (Ok.s ⟨rfl,?_⟩))))))))
   dsimp only
   simp only[Nat.zero_add,List.drop_zero]
   rw[List.append_assoc,List.take_append_of_le_length (by simp;omega),List.take_take,Nat.min_self]
   exact hd
theorem QuE(h:Q3 n c)(hn:n≤48)(hb:QM b)(hf:CkF b p)(hnx:p.Next<Yq (YS b p))(hs:p.Starts.length≤300):
  Ok (Ya 1000 c b p) fun r=>r.1={ p with Starts:=p.Starts++[⟨p.Next,p.Due,Qa3 c b (Zn b p) p.Due⟩],Declined:=[],Next:=p.Next+1,Due:=if Qa3 c b (Zn b p) p.Due=[]then p.Due else p.Due+(Zn b p).Wait }:=by
 have hp:=hf.pol;have h0:=hf.next;have hd:=hf.due
 have hq:QbN b.Teams.length (YS b p):=hf.polOK hb
 have hpl:=hb.plen;have hql:=hq.len
 have hc:=Yr hq
 unfold farV at hd
 unfold Ya
 refine Ok.at hp.1 hp.2 ?_
 show Ok (optc (QaS 1000 (YS b p) p.Next) _) _
 refine Ok.oe (Qxk hq) ?_
 unfold Qrm
 rw[if_pos ⟨h0.1,hnx⟩]
 dsimp only
 have hm:=QvY (q:=YS b p) (i:=p.Next) hql.1
 refine Ok.at hm.1 hm.2 ?_
 have hst:=hq.step _ (QpS hq h0.1)
 have hw:0≤(Zn b p).Wait∧(Zn b p).Wait≤900:=hst.wait
 have hlen:(Zn b p).Targets.length≤2:=hst.len
 rw[show nth (nth b.Policies p.Policy.toNat).Steps (p.Next % ((YS b p).Steps.length:Int)).toNat=Zn b p from rfl]
 refine Ok.opt (Qtw h hn hb hst.target (by omega)) fun⟨v0,v1,v2⟩ ⟨g1,g2,g3,g4⟩=>?_
 dsimp only at g1 g2 g3 g4 ⊢
 subst g1
 refine Ok.opt (QwI (s:=Zn b p) h hn g2 (by omega)) fun⟨w0,w1,w2,w3⟩ ⟨e1,e2⟩=>?_
 dsimp only at e1 e2 ⊢
 subst e1
 rw[e2,g4]
 show Ok (AM.lec (w2.Starts.length+_) _ _) _
 have hcall:(List.filter (fun z=>WB c z w2.Due (Zn b w2).Urgent) (WF c b (Zn b w2).Targets w2.Due))=Qa3 c b (Zn b w2) w2.Due:=rfl
 rw[hcall]
 refine Ok.LS (Ok.j (Ok.ite (fun hpos=>Ok.s ?_) (fun hpos=>Ok.s ?_)))
 ·have hne:Qa3 c b (Zn b w2) w2.Due≠[]:=fun e=>by rw[e]at hpos;simp at hpos
  show _=_
  rw[if_neg hne,Qc (by omega),Qc (by omega)]
 ·have he:Qa3 c b (Zn b w2) w2.Due=[]:=List.eq_nil_iff_length_eq_zero.2 (by omega)
  show _=_
  rw[if_pos he,Qc (by omega)]
theorem QxB(h:Q3 n c)(hn:n≤48)(hb:QM b)(hp:QA p):U9 1000 c b p=some (stepV c b p):=by
 refine Ok.eq ?_
 unfold U9
 have hst:=hp.st
 refine Ok.oe QkL (Ok.oe (QhZ hb hp) (Ok.ncnd (fun hc=>Ok.s ?_) (fun hc=>?_)))
 ·unfold stepV;rw[if_pos hc];rfl
 have hf:=Ye hc
 refine Ok.ncnd (fun hd=>Ok.s ?_) (fun hd=>?_)
 ·unfold stepV;rw[if_neg (by rw[hc];simp),if_pos hd];rfl
 refine Ok.ite (fun hl=>Ok.s ?_) (fun hl=>?_)
 ·unfold stepV;rw[if_neg (by rw[hc];simp),if_neg (by rw[hd];simp),if_pos (by omega)];rfl
 have hV:stepV c b p=(stepQ c b p,0):=by unfold stepV;rw[if_neg (by rw[hc];simp),if_neg (by rw[hd];simp),if_neg (by omega)]
 rw[hV]
 have hs:=Qdp hd
 have hpol:=hf.pol;have hnx:=hf.next;have hl2:=hf.last;have hdu:=hf.due
 refine Ok.oe (QiS hp) (Ok.j (Ok.ite (fun h2=>Ok.s ?_) (fun h2=>?_)))
 ·unfold stepQ
  rw[if_pos h2,Qno h2,Int.max_comm]
 ·have h0:p.State=0:=by omega
  refine Ok.at hpol.1 hpol.2 ?_
  show Ok (optc (We 1000 (YS b p)) _) _
  refine Ok.oe (QlA (hf.polOK hb)) (Ok.ite (fun he=>Ok.s ?_) (fun he=>?_))
  ·unfold stepQ
   rw[if_neg h2,if_pos (by omega),QiV h0,Int.max_comm]
  ·have hf':CkF b { p with Last:=max p.Last p.Due }:=⟨hf.id,hf.pol,hf.start,hf.next,hf.state,hf.by_,by dsimp only;omega,hf.due,hf.until_,hf.snoozes,hf.hands,hf.starts,hf.declined,hf.seen⟩
   have hb':=QuE (p:={ p with Last:=max p.Last p.Due }) h hn hb hf' (by show p.Next<Yq (YS b p);omega) hst
   have hQ:stepQ c b p={ p with Last:=max p.Due p.Last,Starts:=p.Starts++[⟨p.Next,p.Due,Qa3 c b (Zn b p) p.Due⟩],Declined:=[],Next:=p.Next+1,Due:=if Qa3 c b (Zn b p) p.Due=[]then p.Due else p.Due+(Zn b p).Wait }:=by
    unfold stepQ;rw[if_neg h2,if_neg (show ¬Yq (YS b p)≤p.Next by omega)]
   rw[QiV h0,hQ,Int.max_comm p.Due p.Last]
   refine Ok.opt hb' fun⟨r,z⟩ hr=>Ok.s ?_
   dsimp only at hr ⊢
   subst hr
   rfl
theorem Qyb(h:Q3 n c)(hn:n≤48)(hb:QM b)(hp:QA p):Qbg 1000 c b p now=some (runV c b p now):=by
 refine Ok.eq ?_
 unfold Qbg
 refine Ok.oe (QhZ hb hp) (Ok.ncnd (fun hc=>Ok.s ?_) (fun hc=>?_))
 ·unfold runV;rw[if_pos hc];rfl
 rw[Qhe hc]
 have hf:=Ye hc
 have hcn:=Yr (hf.polOK hb)
 have hnx:=hf.next
 have hle:UE b p≤11:=by
  unfold UE
  split
  ·omega
  ·split<;>omega
 refine Ok.oe (QiS hp) ?_
 refine Ok.loop (fun m x=>∃(q:D.Page) (k:Nat),x=((now,()),c,b,q,page0,())∧QA q∧UE b q+1≤k∧runN c b now k q=runN c b now 100 p∧m=UE b q) (m:=UE b p) (by omega) ⟨p,100,rfl,hp,by omega,rfl,rfl⟩ ?_
 rintro m x ⟨q,k,rfl,hq,hk,he,rfl⟩ K hK
 dsimp only
 obtain⟨k,rfl⟩:∃k',k=k'+1:=⟨k - 1,by omega⟩
 rw[runN]at he
 refine Ok.oe QvJ (Ok.cnd (fun hw=>?_) (fun hw=>Ok.s ?_))
 ·rw[if_pos hw]at he
  refine Ok.oe (QxB h hn hb hq) (Ok.ite (fun h1=>Ok.s ?_) (fun h1=>?_))
  ·rw[if_pos h1]at he;exact he
  ·rw[if_neg h1]at he
   have hd:=UP hw
   have hst:stepV c b q=(stepQ c b q,0):=by
    revert h1
    unfold stepV
    split
    ·simp
    ·split
     ·simp
     ·split
      ·simp
      ·intro _;rfl
   have hl:=Qcg (c:=c) (b:=b) hd.1
   rw[hst]at he ⊢
   refine hK (UE b (stepQ c b q)) _ hl ⟨stepQ c b q,k,rfl,?_,by omega,he,rfl⟩
   have:=hq.stepV (c:=c) hb
   rw[hst]at this;exact this
 ·rw[if_neg (by simp[hw])]at he;exact he
end
end
/-
  Pages on their way: what the reference's checks, steps, runs and answers compute.
-/
section
open Go AM
attribute [local irreducible] dueV stepV runV QQ
section
variable {n:Nat} {c:D.Config} {b:D.Book} {p q:D.Page} {now:Int} {a:D.Answer}
theorem rin{fu:Nat}{x lo hi:Int}:Q5 fu x lo hi=some (inV x lo hi):=by
 unfold Q5 inV
 by_cases h1:lo≤x<;>by_cases h2:x≤hi<;>simp[cd,AM.cnd,h1,h2]
theorem QvN{l:List Int}{i:Nat}:badS l i=true↔¬(0≤nth l i∧nth l i≤31∧(i=0∨nth l (i - 1)<nth l i)):=by
 unfold badS
 rw[Bool.not_eq_true',Bool.eq_false_iff]
 simp only[ne_eq,bae,Bool.or_eq_true,decide_eq_true_eq,and_assoc]
theorem QxU{l:List Int}{i:Nat}:badS l i=false↔(0≤nth l i∧nth l i≤31∧(i=0∨nth l (i - 1)<nth l i)):=by
 rw[←Bool.not_eq_true,QvN,Decidable.not_not]
theorem QmF{l:List Int}(hl:l.length<900):QcG 1000 l 32=some (setV l):=by
 refine Ok.eq ?_
 unfold QcG
 refine Ok.scan l.length (fun i=>((l,32,(i:Int),()),())) (badS l) rfl (by omega) (fun i hi hq _ k=>?_) (fun i hi hq k hk=>?_) (fun hq k=>?_)
 ·have hb:=QvN.1 hq
  dsimp only
  rw[QqK hi hq]
  refine Ok.P (Ok.j (Ok.atn hi (Ok.ite (fun h1=>Ok.s rfl) (fun h1=>Ok.atn hi (Ok.ite (fun h2=>Ok.s rfl) (fun h2=>?_))))))
  have h0:0<i:=by omega
  refine Ok.P ?_
  rw[show IntKind.wrap .i64 ((i:Int) - 1)=((i - 1:Nat):Int)by rw[Qc (by omega)];omega]
  exact Ok.A (Ok.atn hi (Ok.P (Ok.s rfl)))
 ·have hb:=QxU.1 hq
  dsimp only
  refine Ok.P (Ok.j (Ok.atn hi (Ok.N (Ok.atn hi (Ok.N ?_)))))
  dsimp only
  rw[Qa (by omega)]
  by_cases h0:0<i
  ·refine Ok.P ?_
   rw[show IntKind.wrap .i64 ((i:Int) - 1)=((i - 1:Nat):Int)by rw[Qc (by omega)];omega]
   exact Ok.A (Ok.atn hi (Ok.N hk))
  ·exact Ok.N hk
 ·exact Ok.N (Ok.s (Qoy hq).symm)
theorem QpP(h:QA p):QeA 1000 p=some (QfL p):=by
 have hst:=h.st
 have hnx:=h.nx
 refine Ok.eq ?_
 unfold QeA QfL
 refine Ok.loop (fun m x=>∃(i:Nat) (k t:Int),x=((k,t,(i:Int),()),p,())∧i≤p.Starts.length∧-1≤k∧k≤1000000∧X0 p.Next k t (p.Starts.drop i)=X0 p.Next (-1) p.Start p.Starts∧m=p.Starts.length - i) (m:=p.Starts.length) (by omega)
  ⟨0,-1,p.Start,rfl,by omega,by omega,by omega,rfl,rfl⟩ ?_
 rintro m x ⟨i,k,t,rfl,h1,h2,h2',h3,rfl⟩ K hK
 dsimp only
 refine Ok.ite (fun hi=>?_) (fun hi=>?_)
 ·have hlt:i<p.Starts.length:=by omega
  have hs:=h.pe _ (Qi hlt)
  refine Ok.j (Ok.atn hlt ?_)
  obtain⟨s,hse⟩:∃s,nth p.Starts i=s:=⟨_,rfl⟩
  rw[Qdo hlt,X0,hse]at h3
  rw[hse]at hs ⊢
  refine Ok.join (fun y=>y=((k,(i:Int),()),p,s,())∧t≤s.At∧(s.K = -1∨0≤s.K∧k<s.K∧s.K<p.Next)∧setV s.People=true) (fun y hy=>?_) (fun J hJ=>?_)
  ·obtain⟨rfl,c1,c2,c3⟩:=hy
   have hC:(decide (t≤s.At) && (decide (s.K = -1) || decide (0≤s.K) && decide (k<s.K) && decide (s.K<p.Next)) && setV s.People)=true:=by
    rw[c3];simp;omega
   rw[hC,Bool.true_and]at h3
   dsimp only
   rw[Qa (by omega)]
   refine Ok.ite (fun g=>?_) (fun g=>?_)
   ·rw[show max k s.K=s.K by omega]at h3
    exact hK _ _ (by omega) ⟨i+1,s.K,s.At,rfl,by omega,by omega,by omega,h3,rfl⟩
   ·rw[show max k s.K=k by omega]at h3
    exact hK _ _ (by omega) ⟨i+1,k,s.At,rfl,by omega,by omega,by omega,h3,rfl⟩
  ·refine Ok.ite (fun g1=>Ok.s ?_) (fun g1=>Ok.ite (fun g2=>Ok.s ?_) (fun g2=>Ok.ite (fun g3=>Ok.ite (fun g4=>Ok.s ?_) (fun g4=>Ok.ite (fun g5=>Ok.s ?_) (fun g5=>Ok.oe (QmF (by omega)) (Ok.cnd (fun g6=>hJ _ ⟨rfl,by omega,by omega,g6⟩) (fun g6=>Ok.s ?_))))) (fun g3=>Ok.oe (QmF (by omega)) (Ok.cnd (fun g6=>hJ _ ⟨rfl,by omega,by omega,g6⟩) (fun g6=>Ok.s ?_)))))
   ·rw[←h3,decide_eq_false (show ¬t≤s.At by omega)];rfl
   ·rw[←h3,decide_eq_false (show ¬s.K = -1 by omega),decide_eq_false (show ¬0≤s.K by omega)];simp
   ·rw[←h3,decide_eq_false (show ¬s.K = -1 by omega),decide_eq_false (show ¬k<s.K by omega)];simp
   ·rw[←h3,decide_eq_false (show ¬s.K = -1 by omega),decide_eq_false (show ¬s.K<p.Next by omega)];simp
   ·rw[←h3,g6];simp
   ·rw[←h3,g6];simp
 ·have e:i=p.Starts.length:=by omega
  refine Ok.s ?_
  subst e
  rw[List.drop_length,X0]at h3
  rw[←h3,Bool.true_and]
  exact decide_eq_decide.2 (by omega)
theorem QkK{m:Nat}{q:D.Policy}(h:QbN m q):Qb3 1000 q=some (Yq q):=by
 have h1:=h.rep
 have h2:=h.len
 refine Ok.eq ?_
 unfold Qb3
 refine Ok.j (Ok.oe rin (Ok.bt (Qx.2 (by omega)) (Ok.N (Ok.s ?_))))
 rw[(Yr h).1,Qc (x:=q.Repeat+1) (by omega),Qc]
 have h3:q.Repeat=0∨q.Repeat=1∨q.Repeat=2:=by omega
 rcases h3 with h3|h3|h3<;>rw[h3]<;>omega
theorem QrP{m:Nat}{q:D.Policy}(h:QbN m q):QdN 1000 q=some true:=by
 have h2:=h.len
 refine Ok.eq ?_
 unfold QdN
 refine Ok.run2 q.Steps.length (fun i=>((i:Int),())) rfl (by omega) (fun i hi k hk=>?_) (fun k=>Ok.N (Ok.s rfl))
 dsimp only
 have hw:=(h.step _ (Qi hi)).wait
 refine Ok.P (Ok.atn hi (Ok.oe rin (Ok.nt (Qx.2 (by omega)) ?_)))
 rw[Qa (by omega)]
 exact hk
theorem Qtv{m:Nat}{q:D.Policy}{i:Int}(h:QbN m q):Qgq 1000 q i=some (Qrm q i):=by
 have h2:=h.len
 have hc:=Yr h
 refine Ok.eq ?_
 unfold Qgq Qrm
 refine Ok.j (Ok.ite (fun g1=>Ok.s ?_) (fun g1=>Ok.oe (QkK h) (Ok.ite (fun g2=>Ok.s ?_) (fun g2=>Ok.Z (Ok.Z (Ok.s ?_))))))
 ·rw[if_neg (by omega)]
 ·rw[if_neg (by omega)]
 ·have g3:=Int.ediv_le_self (a:=i) (q.Steps.length:Int) (by omega)
  have g4:0≤i / (q.Steps.length:Int):=Int.ediv_nonneg (by omega) (by omega)
  rw[if_pos (by omega),Int.tmod_eq_emod_of_nonneg (by omega),Int.tdiv_eq_ediv_of_nonneg (by omega),Qc (by omega)]
def newV(b:D.Book)(id pol start:Int):D.Page×Int:=
 if inV id 1 999999=true∧inV start 0 8589934592=true then(if inV pol 0 ((b.Policies.length:Int) - 1)=true then(newP id pol start,0)else(page0,3))else(page0,1)
theorem QlY{id pol start:Int}(hb:QM b):QjN 1000 b id pol start=some (newV b id pol start):=by
 have hp:=hb.plen
 refine Ok.eq ?_
 unfold QjN newV
 refine Ok.j (Ok.oe rin (Ok.cnd (fun h1=>Ok.oe rin (Ok.cnd (fun h2=>?_) (fun h2=>Ok.s ?_))) (fun h1=>Ok.s ?_)))
 ·dsimp only
  rw[if_pos ⟨h1,h2⟩,Qc (by omega)]
  refine Ok.oe rin (Ok.ncnd (fun h3=>Ok.s ?_) (fun h3=>Ok.s ?_))
  ·rw[if_neg (by rw[h3];simp)];rfl
  ·rw[if_pos h3];rfl
 ·rw[if_neg (by rw[h2];simp)];rfl
 ·rw[if_neg (by rw[h1];simp)];rfl
theorem Qw8{id pol start:Int}(hb:QM b):Qdr 1000 b id pol start=some (newV b id pol start):=QlY hb
theorem Qea(hb:QM b)(h:QA p):VO 1000 b p=some (QQ b p):=by
 have hde:=h.de;have hse:=h.se
 have hpl:=hb.plen
 refine Ok.eq ?_
 unfold VO
 refine Ok.j (Ok.oe (QlY hb) ?_)
 unfold newV
 by_cases h1:inV p.ID 1 999999=true∧inV p.Start 0 8589934592=true
 ·rw[if_pos h1]
  by_cases h2:inV p.Policy 0 ((b.Policies.length:Int) - 1)=true
  ·rw[if_pos h2]
   have h2':=Qx.1 h2
   have hq:QbN b.Teams.length (YS b p):=hb.pol _ (Qi (by omega))
   have hw:=Qlg hq
   refine Ok.NS (Ok.at h2'.1 (by omega) ?_)
   show Ok (optc (QdN 1000 (YS b p)) _) _
   refine Ok.oe (QrP hq) (Ok.t (Ok.at h2'.1 (by omega) ?_))
   show Ok (optc (Qb3 1000 (YS b p)) _) _
   refine Ok.oe (QkK hq) (Ok.oe rin (Ok.cnd (fun h4=>?_) (fun h4=>Ok.s (by simp[QQ,h4]))))
   refine Ok.j (Ok.oe rin (Ok.cnd (fun h5=>?_) (fun h5=>Ok.s (by simp[QQ,h5]))))
   refine Ok.oe rin (Ok.cnd (fun h6=>?_) (fun h6=>Ok.s (by simp[QQ,h6])))
   refine Ok.oe rin (Ok.cnd (fun h7=>?_) (fun h7=>Ok.s (by have h7:inV p.Last p.Start farV=false:=h7;simp[QQ,h7])))
   refine Ok.oe rin (Ok.cnd (fun h8=>?_) (fun h8=>Ok.s (by have h8:inV p.Due 0 farV=false:=h8;simp[QQ,h8])))
   refine Ok.oe rin (Ok.cnd (fun h9=>?_) (fun h9=>Ok.s (by have h9:inV p.Until 0 farV=false:=h9;simp[QQ,h9])))
   refine Ok.j (Ok.oe rin (Ok.cnd (fun h10=>?_) (fun h10=>Ok.s (by simp[QQ,h10]))))
   refine Ok.oe rin (Ok.cnd (fun h11=>?_) (fun h11=>Ok.s (by simp[QQ,h11])))
   refine Ok.oe (QpP h) (Ok.cnd (fun h12=>?_) (fun h12=>Ok.s (by simp[QQ,h12])))
   refine Ok.oe (QmF (by omega)) (Ok.cnd (fun h13=>?_) (fun h13=>Ok.s (by simp[QQ,h13])))
   refine Ok.ite (fun h14=>Ok.s (by simp[QQ,Qkx,decide_eq_false (show ¬p.Seen.length≤64 by omega)])) (fun h14=>?_)
   have h7':inV p.Last p.Start farV=true:=h7
   have h8':inV p.Due 0 farV=true:=h8
   have h9':inV p.Until 0 farV=true:=h9
   have hcv:QQ b p=Qkx p.Seen:=by simp[QQ,h1.1,h1.2,h2,hw,h4,h5,h6,h7',h8',h9',h10,h11,h12,h13]
   rw[hcv]
   unfold Qkx
   rw[decide_eq_true (show p.Seen.length≤64 by omega),Bool.and_true]
   refine Ok.scan2 p.Seen.length (fun i=>((i:Int),())) (fun i=>(p.Seen.take i).contains (nth p.Seen i)) rfl (by omega) (fun i hi hq _ k=>?_) (fun i hi hq k hk=>?_) (fun hq k=>?_)
   ·refine Ok.P (Ok.natn (Ok.L (Ok.atn hi (Ok.oe (Qbi (by simp;omega)) (Ok.bt hq (Ok.s ?_))))))
    rw[Qii hi hq]
   ·refine Ok.P (Ok.natn (Ok.L (Ok.atn hi (Ok.oe (Qbi (by simp;omega)) (Ok.bf hq ?_)))))
    rw[Qa (by omega)];exact hk
   ·exact Ok.N (Ok.s (decide_eq_true (Qox hq)).symm)
  ·rw[if_neg h2]
   exact Ok.PS (Ok.s (by simp[QQ,h2]))
 ·rw[if_neg h1]
  refine Ok.PS (Ok.s ?_)
  have:QQ b p=false:=by
   rw[Bool.eq_false_iff]
   intro hc
   have hf:=Ye hc
   exact h1 ⟨Qx.2 hf.id,Qx.2 hf.start⟩
  rw[this]
theorem Qec:QfD 1000 p=some (dueV p):=QkL
theorem Qo7(h:QA p):Qez 1000 p=some (Xy p):=by
 have h1:=h.st
 refine Ok.eq ?_
 unfold Qez Xy
 refine Ok.ite (fun h0=>Ok.s ?_) (fun h0=>?_)
 ·rw[if_pos (List.eq_nil_iff_length_eq_zero.2 (by omega))]
 ·have hne:p.Starts≠[]:=fun e=>h0 (by rw[e];rfl)
  have hpos:=List.length_pos_iff.2 hne
  rw[show IntKind.wrap .i64 (((p.Starts.length:Nat):Int) - 1)=((p.Starts.length - 1:Nat):Int)by rw[Qc (by omega)];omega]
  have hp:=(h.pe _ (Qi (l:=p.Starts) (i:=p.Starts.length - 1) (by omega))).1
  refine Ok.A (Ok.L (Ok.s ?_))
  rw[if_neg hne]
theorem QbS(h:QA p):Qam 1000 p=some p:=by
 have h1:=h.st;have h2:=h.de;have h3:=h.se
 refine Ok.eq ?_
 unfold Qam
 refine Ok.run p.Starts.length (fun i=>(((i:Int),()),p,page0,p.Starts.take i,())) rfl (by omega) (fun i hi k hk=>?_) (fun k=>?_)
 ·dsimp only
  have hp:=(h.pe _ (Qi hi)).1
  refine Ok.P (Ok.atn hi (Ok.L (Ok.LS ?_)))
  rw[Qa (by omega),Qs hi]
  exact hk
 ·dsimp only
  rw[List.take_length]
  exact Ok.N (Ok.L (Ok.L (Ok.s rfl)))
theorem Qpe{l:List Int}{f:Int→Bool}{i:Nat}(hi:i<l.length):(l.take (i+1)).filter f=(l.take i).filter f++(if f (nth l i)=true then[nth l i]else[]):=by
 rw[←Qs hi,List.filter_append]
 congr 1
 by_cases h:f (nth l i)=true
 ·simp[h]
 ·simp[h]
theorem Qt4(h:Q3 n c)(hn:n≤48)(hb:QM b)(hp:QA p):Qig 1000 c b p=some (stepV c b p):=by
 refine Ok.eq ?_
 unfold Qig
 have hst:=hp.st
 refine Ok.oe (Qea hb hp) (Ok.ncnd (fun hc=>Ok.s ?_) (fun hc=>?_))
 ·unfold stepV;rw[if_pos hc];rfl
 have hf:=Ye hc
 refine Ok.oe Qec (Ok.ncnd (fun hd=>Ok.s ?_) (fun hd=>?_))
 ·unfold stepV;rw[if_neg (by rw[hc];simp),if_pos hd];rfl
 have hst2:=hf.starts
 refine Ok.ite (fun hl=>Ok.s ?_) (fun hl=>?_)
 ·unfold stepV;rw[if_neg (by rw[hc];simp),if_neg (by rw[hd];simp),if_pos (by omega)];rfl
 have hV:stepV c b p=(stepQ c b p,0):=by unfold stepV;rw[if_neg (by rw[hc];simp),if_neg (by rw[hd];simp),if_neg (by omega)]
 rw[hV]
 have hs:=Qdp hd
 have hpol:=hf.pol;have hnx:=hf.next;have hl2:=hf.last;have hdu:=hf.due
 refine Ok.oe (QbS hp) (Ok.ite (fun h2=>Ok.s ?_) (fun h2=>?_))
 ·unfold stepQ
  rw[if_pos h2,Qno h2]
 ·have h0:p.State=0:=by omega
  have hq:=hf.polOK hb
  have hcn:=Yr hq
  have hql:=hq.len
  refine Ok.at hpol.1 hpol.2 ?_
  show Ok (optc (Qgq 1000 (YS b p) p.Next) _) _
  refine Ok.oe (Qtv hq) ?_
  unfold Qrm
  rw[QiV h0]
  by_cases he:p.Next<Yq (YS b p)
  ·rw[if_pos ⟨hnx.1,he⟩]
   dsimp only
   have hm:=QvY (q:=YS b p) (i:=p.Next) hql.1
   refine Ok.f (Ok.at hm.1 hm.2 ?_)
   have hstp:=hq.step _ (QpS hq hnx.1)
   have hw:0≤(Zn b p).Wait∧(Zn b p).Wait≤900:=hstp.wait
   have hlen:(Zn b p).Targets.length≤2:=hstp.len
   show Ok (optc (Qb4 1000 c b (Zn b p).Targets p.Due) _) _
   refine Ok.oe (Qro h hn hb hstp.target (by omega)) ?_
   have hpl:=Qfy (c:=c) (b:=b) (l:=(Zn b p).Targets) (t:=p.Due)
   obtain⟨l,hl3⟩:∃l,WF c b (Zn b p).Targets p.Due=l:=⟨_,rfl⟩
   rw[hl3]at hpl ⊢
   have hcall:Qa3 c b (Zn b p) p.Due=l.filter fun z=>WB c z p.Due (Zn b p).Urgent:=by unfold Qa3;rw[hl3]
   refine Ok.run l.length (fun i=>((p.Due,p.Next % ((YS b p).Steps.length:Int),l,(i:Int),()),c,p,page0,(p.ID,p.Policy,p.Start,p.Next,p.Due,p.State,p.By,p.Until,max p.Due p.Last,p.Snoozes,p.Hands,()),YS b p,(p.Next,p.Due,()),p.Starts,p.Declined,p.Seen,(l.take i).filter (fun z=>WB c z p.Due (Zn b p).Urgent),())) rfl (by omega) (fun i hi k hk=>?_) (fun k=>?_)
   ·dsimp only
    have hfl:=List.length_filter_le (fun z=>WB c z p.Due (Zn b p).Urgent) (l.take i)
    have htl:=List.length_take_le i l
    refine Ok.P (Ok.j (Ok.atn hi (Ok.at hm.1 hm.2 (Ok.oe (QtL h hn) ?_))))
    show Ok (AM.cnd (WB c (nth l i) p.Due (Zn b p).Urgent) _ _) _
    rw[Qpe hi]at hk
    refine Ok.cnd (fun g=>Ok.atn hi (Ok.LS ?_)) (fun g=>?_)
    ·dsimp only
     rw[if_pos g]at hk
     rw[Qa (by omega)]
     exact hk
    ·dsimp only
     rw[if_neg (by rw[g];simp),List.append_nil]at hk
     rw[Qa (by omega)]
     exact hk
   ·dsimp only
    rw[List.take_length,←hcall]
    unfold stepQ
    rw[if_neg h2,if_neg (by omega)]
    refine Ok.N (Ok.LS (Ok.j (Ok.ite (fun g=>Ok.at hm.1 hm.2 (Ok.s ?_)) (fun g=>Ok.s ?_))))
    ·have hne:Qa3 c b (Zn b p) p.Due≠[]:=fun e=>by rw[e]at g;simp at g
     unfold farV at hdu
     show _=_
     rw[if_neg hne,Qc (by omega)]
     have:IntKind.wrap .i64 (p.Due+(Zn b p).Wait)=p.Due+(Zn b p).Wait:=Qc (by omega)
     unfold Zn at this
     rw[this]
     rfl
    ·have he':Qa3 c b (Zn b p) p.Due=[]:=List.eq_nil_iff_length_eq_zero.2 (by omega)
     show _=_
     rw[if_pos he',Qc (by omega)]
  ·rw[if_neg (by omega)]
   dsimp only
   refine Ok.t (Ok.s ?_)
   unfold stepQ
   rw[if_neg h2,if_pos (by omega)]
theorem Qvq(h:Q3 n c)(hn:n≤48)(hb:QM b)(hp:QA p):Qms 1000 c b p now=some (runV c b p now):=by
 refine Ok.eq ?_
 unfold Qms
 refine Ok.oe (Qea hb hp) (Ok.ncnd (fun hc=>Ok.s ?_) (fun hc=>?_))
 ·unfold runV;rw[if_pos hc];rfl
 rw[Qhe hc]
 have hf:=Ye hc
 have hcn:=Yr (hf.polOK hb)
 have hnx:=hf.next
 have hle:UE b p≤11:=by
  unfold UE
  split
  ·omega
  ·split<;>omega
 refine Ok.oe (QbS hp) ?_
 refine Ok.loop (fun m x=>∃(q:D.Page) (k:Nat),x=((now,()),c,b,q,page0,())∧QA q∧UE b q+1≤k∧runN c b now k q=runN c b now 100 p∧m=UE b q) (m:=UE b p) (by omega) ⟨p,100,rfl,hp,by omega,rfl,rfl⟩ ?_
 rintro m x ⟨q,k,rfl,hq,hk,he,rfl⟩ K hK
 dsimp only
 obtain⟨k,rfl⟩:∃k',k=k'+1:=⟨k - 1,by omega⟩
 rw[runN]at he
 refine Ok.oe Qec ?_
 have hwv:Yw q now=((dueV q).2 && decide ((dueV q).1≤now)):=rfl
 refine Ok.join (fun y=>y=((now,()),c,b,q,page0,())∧Yw q now=true) (fun y hy=>?_) (fun J hJ=>?_)
 ·obtain⟨rfl,hw⟩:=hy
  dsimp only
  rw[if_pos hw]at he
  refine Ok.oe (Qt4 h hn hb hq) (Ok.ite (fun h1=>Ok.s ?_) (fun h1=>?_))
  ·rw[if_pos h1]at he;exact he
  ·rw[if_neg h1]at he
   have hd:=UP hw
   have hst:stepV c b q=(stepQ c b q,0):=by
    revert h1
    unfold stepV
    split
    ·simp
    ·split
     ·simp
     ·split
      ·simp
      ·intro _;rfl
   have hl:=Qcg (c:=c) (b:=b) hd.1
   rw[hst]at he ⊢
   refine hK (UE b (stepQ c b q)) _ hl ⟨stepQ c b q,k,rfl,?_,by omega,he,rfl⟩
   have:=hq.stepV (c:=c) hb
   rw[hst]at this;exact this
 ·refine Ok.cnd (fun h1=>Ok.ite (fun h2=>Ok.s ?_) (fun h2=>hJ _ ⟨rfl,by rw[hwv,h1];simp;omega⟩)) (fun h1=>Ok.s ?_)
  ·rw[if_neg (by rw[hwv,h1];simp;omega)]at he;exact he
  ·rw[if_neg (by rw[hwv,h1];simp)]at he;exact he
end
end
/-
  Pages on their way: what the program's answers compute.
-/
section
variable {n:Nat} {c:D.Config} {b:D.Book} {p q:D.Page} {now:Int} {a:D.Answer}
theorem QwK:Yy 1000 p=some (dueV p):=by
 unfold Yy
 simp only[Wn]
 exact QkL
theorem Que{t:Int}:Yb 1000 p t=some (Yw p t):=by
 unfold Yb Yw
 simp only[Wn]
 rw[QwK,ZL]
 obtain⟨a,d⟩:=dueV p
 cases d<;>by_cases h:a≤t<;>simp[cd,AM.cnd,h]
theorem Qq1(h:QA p):Z1 1000 p=some (Xy p):=by
 have h1:=h.st
 refine Ok.eq ?_
 unfold Z1 Xy
 refine Ok.ite (fun h0=>Ok.sameC (Ok.sameC (Ok.sameC (Ok.s ?_)))) (fun h0=>?_)
 ·rw[if_pos (List.eq_nil_iff_length_eq_zero.2 (by omega))]
 ·have hne:p.Starts≠[]:=fun e=>h0 (by rw[e];rfl)
  have hpos:=List.length_pos_iff.2 hne
  rw[show IntKind.wrap .i64 (((p.Starts.length:Nat):Int) - 1)=((p.Starts.length - 1:Nat):Int)by rw[Qc (by omega)];omega]
  have hp:=(h.pe _ (Qi (l:=p.Starts) (i:=p.Starts.length - 1) (by omega))).1
  refine Ok.natn (Ok.E (Ok.G (Ok.oe (QiP (by omega)) (Ok.sameC (Ok.sameC (Ok.sameC (Ok.s ?_)))))))
  rw[if_neg hne]
theorem QkH(h:QA p):(Xy p).length≤40:=by
 unfold Xy
 split
 ·simp
 ·rename_i hne
  have hpos:=List.length_pos_iff.2 hne
  exact(h.pe _ (Qi (by omega))).1
theorem QrD:ZO 1000 p a=some (XC p a):=by
 refine Ok.eq ?_
 unfold ZO
 refine Ok.join (fun y=>y.1.1=decide ((a.Kind=3∧p.Snoozes=4)∨(a.Kind=4∧(p.Hands=4∨p.Starts.length=200)))∧y.2=(pgA p,a,p.Starts,p.Declined,p.Seen,())) (fun y hy=>?_) (fun J hJ=>?_)
 ·obtain⟨⟨full,⟨⟩⟩,r⟩:=y
  obtain⟨h1,h2⟩:=hy
  dsimp only at h1 h2
  subst h2
  dsimp only[pgA]
  refine Ok.j (Ok.ite (fun g1=>Ok.sameC (Ok.sameC (Ok.sameC (Ok.s ?_)))) (fun g1=>?_))
  ·unfold XC;rw[if_pos (.inl g1)]
  refine Ok.oe (Que (p:=p)) (Ok.cnd (fun g2=>Ok.sameC (Ok.sameC (Ok.sameC (Ok.s ?_)))) (fun g2=>?_))
  ·unfold XC;rw[if_pos (.inr g2)]
  unfold XC
  rw[if_neg (by rw[g2];simp;omega)]
  refine Ok.join (fun y=>y.1.1=full∧y.1.2.1=decide (p.State=4∨(p.State=3∧a.Kind≠5)∨(p.State=1∧a.Kind=2))∧y.2=(pgA p,p.Starts,p.Declined,p.Seen,())) (fun y hy=>?_) (fun J hJ=>?_)
  ·obtain⟨⟨f2,s2,⟨⟩⟩,r⟩:=y
   obtain⟨k1,k2,k3⟩:=hy
   dsimp only at k1 k2 k3
   subst k3;subst k1
   dsimp only[pgA]
   refine Ok.cnd (fun g3=>Ok.sameC (Ok.sameC (Ok.sameC (Ok.s ?_)))) (fun g3=>?_)
   ·rw[k2]at g3;rw[if_pos (of_decide_eq_true g3)]
   ·rw[k2]at g3;rw[if_neg (of_decide_eq_false g3)]
    refine Ok.ite (fun g4=>Ok.sameC (Ok.sameC (Ok.sameC (Ok.s ?_)))) (fun g4=>?_)
    ·rw[if_pos (.inl (by omega))]
    ·refine Ok.cnd (fun g5=>Ok.sameC (Ok.sameC (Ok.sameC (Ok.s ?_)))) (fun g5=>Ok.sameC (Ok.sameC (Ok.sameC (Ok.s ?_))))
     ·rw[h1]at g5;have:=of_decide_eq_true g5;rw[if_pos (.inr this)]
     ·rw[h1]at g5;have:=of_decide_eq_false g5;rw[if_neg (by omega)]
  ·refine Ok.ite (fun g3=>hJ _ ⟨rfl,?_,rfl⟩) (fun g3=>Ok.ite (fun g4=>Ok.ite (fun g5=>hJ _ ⟨rfl,?_,rfl⟩) (fun g5=>Ok.ite (fun g6=>Ok.ite (fun g7=>hJ _ ⟨rfl,?_,rfl⟩) (fun g7=>hJ _ ⟨rfl,?_,rfl⟩)) (fun g6=>hJ _ ⟨rfl,?_,rfl⟩))) (fun g4=>Ok.ite (fun g6=>Ok.ite (fun g7=>hJ _ ⟨rfl,?_,rfl⟩) (fun g7=>hJ _ ⟨rfl,?_,rfl⟩)) (fun g6=>hJ _ ⟨rfl,?_,rfl⟩)))
   all_goals (dsimp only;first|exact(decide_eq_true (by omega)).symm|exact(decide_eq_false (by omega)).symm|exact decide_eq_decide.2 (by omega))
 ·refine Ok.ite (fun g1=>Ok.ite (fun g2=>hJ _ ⟨?_,rfl⟩) (fun g2=>Ok.ite (fun g3=>Ok.ite (fun g4=>hJ _ ⟨?_,rfl⟩) (fun g4=>Ok.ite (fun g5=>hJ _ ⟨?_,rfl⟩) (fun g5=>hJ _ ⟨?_,rfl⟩))) (fun g3=>hJ _ ⟨?_,rfl⟩)))
   (fun g1=>Ok.ite (fun g3=>Ok.ite (fun g4=>hJ _ ⟨?_,rfl⟩) (fun g4=>Ok.ite (fun g5=>hJ _ ⟨?_,rfl⟩) (fun g5=>hJ _ ⟨?_,rfl⟩))) (fun g3=>hJ _ ⟨?_,rfl⟩))
  all_goals (dsimp only;first|exact(decide_eq_true (by omega)).symm|exact(decide_eq_false (by omega)).symm)
theorem QqM{l0:List Int}(hs:l0.length≤1000):
  Ok (QL 1000 l0) fun r=>r.Perm l0∧X1 r l0.length:=by
 unfold QL
 split
 ·rename_i g
  rw[List.eq_nil_of_length_eq_zero g]
  exact Ok.of (v:=[]) (by kernel_rfl) ⟨.refl _,fun a b _ h=>by simp at h⟩
 ·refine Ok.L (Ok.s ⟨List.mergeSort_perm ..,fun a b h1 h2=>?_⟩)
  have hl:=List.length_mergeSort (le:=fun x y:Int=>decide (x≤y)) l0
  have hp:=List.pairwise_iff_getElem.1 (List.pairwise_mergeSort (le:=fun x y:Int=>decide (x≤y)) (fun a b c h1 h2=>by simp at h1 h2 ⊢;omega) (fun a b=>by simp;omega) l0) a b (by omega) (by omega) h1
  simpa [nth,List.getD_eq_getElem?_getD,List.getElem?_eq_getElem (show b<(l0.mergeSort fun x y=>decide (x≤y)).length by omega),List.getElem?_eq_getElem (show a<(l0.mergeSort fun x y=>decide (x≤y)).length by omega)]using hp
theorem QqU{l:List Int}(h:X1 l l.length)(hd:l.Nodup):Asc l:=by
 refine QvM h fun k h1 h2 e=>?_
 have e1:nth l (k - 1)=l[k - 1]:=by simp[nth,List.getD_eq_getElem?_getD,List.getElem?_eq_getElem (show k - 1<l.length by omega)]
 have e2:nth l k=l[k]:=by simp[nth,List.getD_eq_getElem?_getD,List.getElem?_eq_getElem h2]
 rw[e1,e2]at e
 have:=(List.nodup_iff_pairwise_ne.1 hd)
 exact(List.pairwise_iff_getElem.1 this (k - 1) k (by omega) h2 (by omega)) e
theorem Qsa{l:List Int}(h:Asc l):l.Nodup:=List.Pairwise.imp (fun h=>by omega) h
theorem Qt1{l r:List Int}{x:Int}(hl:Asc l)(hx:l.contains x=false)(hp:r.Perm (l++[x]))(hs:X1 r r.length):r=Qgj l x:=by
 have hnd:(l++[x]).Nodup:=List.nodup_append.2 ⟨Qsa hl,by simp,fun y hy z hz e=>by
  rw[List.mem_singleton.1 hz]at e
  subst e
  rw[List.contains_iff_mem.2 hy]at hx;simp at hx⟩
 refine Qcp (QqU hs (hp.nodup_iff.2 hnd)) (Qbp hl).1 fun z=>?_
 rw[hp.mem_iff,(Qbp hl).2];simp
theorem Qp5{x:Int}(h:p.Declined.length≤40):ZC 1000 x p=some (!p.Declined.contains x,p):=by
 unfold ZC
 rw[UA (by omega),ZL]
theorem Qnm{l:List Int}(hl:l.length≤900)(h:p.Declined.length≤40):Qr 1000 l p=some (l.any fun z=>!p.Declined.contains z,p):=by
 refine Ok.eq ?_
 unfold Qr QN
 refine Ok.opt (P:=fun(r:Int×D.Page)=>decide (0≤r.1)=(l.any fun z=>!p.Declined.contains z)∧r.2=p) ?_ fun⟨r,p'⟩ ⟨e1,e2⟩=>Ok.s (by dsimp only at e1 e2;rw[e1,e2])
 refine Ok.scan2 l.length (fun i=>(l,((l.length:Nat):Int),(i:Int),())) (fun i=>!p.Declined.contains (nth l i)) rfl (by omega) (fun i hi hq _ k=>?_) (fun i hi hq k hk=>?_) (fun hq k=>?_)
 ·refine Ok.P (Ok.atn hi (Ok.oe (Qp5 (p:=p) h) (Ok.bt hq (Ok.s ⟨?_,rfl⟩))))
  rw[Qis hi hq];simp
 ·refine Ok.P (Ok.atn hi (Ok.oe (Qp5 (p:=p) h) (Ok.bf hq ?_)))
  rw[Qa (by omega)];exact hk
 ·refine Ok.N (Ok.s ⟨?_,rfl⟩)
  rw[QmZ hq];rfl
theorem QsF(hs:setV p.Declined=true)(hd:p.Declined.length≤11):(V1 p a).length≤40:=by
 unfold V1
 split
 ·have hde:=VW.1 hs
  unfold Qgj
  have h1:=List.length_filter_le (fun z=>decide (z<a.Person)) p.Declined
  have h2:=List.length_filter_le (fun z=>decide (a.Person<z)) p.Declined
  simp only[List.length_append,List.length_cons];omega
 ·omega
theorem Qpc(h:QA p)(hd:p.Declined.length≤11)(hs:setV p.Declined=true):
  ZI 1000 p a=some { p with Declined:=V1 p a,Due:=if V9 p a=true∧p.State=0 then a.At else p.Due }:=by
 have hcl:=QkH h
 refine Ok.eq ?_
 unfold ZI
 refine Ok.oe (Qq1 h) ?_
 refine Ok.join (fun y=>y=((Xy p,()),pgA p,a,page0,p.Starts,V1 p a,p.Seen,())) (fun y hy=>?_) (fun J hJ=>?_)
 ·subst hy
  dsimp only[pgA]
  have hdl:=QsF (a:=a) hs hd
  refine Ok.j (Ok.ite (fun g1=>Ok.ite (fun g2=>?_) (fun g2=>Ok.s ?_)) (fun g1=>Ok.s ?_))
  ·refine Ok.oe (Qnm (p:={ p with Declined:=V1 p a }) (by omega) hdl) (Ok.cnd (fun g3=>Ok.s ?_) (fun g3=>Ok.s ?_))
   ·have:V9 p a=false:=by
     unfold V9
     rw[Bool.and_eq_false_iff]
     refine .inr ?_
     obtain⟨z,hz1,hz2⟩:=List.any_eq_true.1 g3
     refine List.all_eq_false.2 ⟨z,hz1,?_⟩
     simpa using hz2
    rw[this,if_neg (by simp)]
   ·have:V9 p a=true:=by
     unfold V9
     rw[bae]
     refine⟨decide_eq_true fun e=>by rw[e]at g2;simp at g2,List.all_eq_true.2 fun z hz=>?_⟩
     have:=List.any_eq_false.1 g3 z hz
     simpa using this
    rw[this,if_pos ⟨rfl,g1⟩]
  ·have:V9 p a=false:=by
    unfold V9
    rw[decide_eq_false (fun hne=>hne (List.eq_nil_iff_length_eq_zero.2 (by omega)))];rfl
   rw[this,if_neg (by simp)]
  ·rw[if_neg (fun hx=>g1 hx.2)]
 ·refine Ok.oe (Qcr (by omega)) (Ok.cnd (fun g1=>?_) (fun g1=>?_))
  ·refine Ok.oe (UA (by omega)) (Ok.cnd (fun g2=>?_) (fun g2=>?_))
   ·refine hJ _ ?_
    have:V1 p a=p.Declined:=by
     unfold V1
     rw[if_pos g1];exact QtA (VW.1 hs).1 (List.contains_iff_mem.1 g2)
    rw[this];rfl
   ·refine Ok.LS (Ok.opt (QqM (by simp;omega)) fun r ⟨hr1,hr2⟩=>Ok.ck hr1.length_eq (hJ _ ?_))
    have:r=V1 p a:=by
     unfold V1
     rw[if_pos g1]
     exact Qt1 (VW.1 hs).1 g2 hr1 (by rw[hr1.length_eq];exact hr2)
    rw[this];rfl
  ·refine hJ _ ?_
   have:V1 p a=p.Declined:=by unfold V1;rw[if_neg (by rw[g1];simp)]
   rw[this];rfl
theorem Qr5(hb:QM b)(h:QA p)(hd:p.Declined.length≤11):VA 1000 c b p a=some (answerV b p a):=by
 have hse:=h.se;have hst:=h.st
 refine Ok.eq ?_
 unfold VA
 refine Ok.join (fun y=>y=((),p,a,page0,())∧QQ b p=true∧YF a=true) (fun y hy=>?_) (fun J hJ=>?_)
 ·obtain⟨rfl,hc,hv⟩:=hy
  dsimp only
  unfold answerV
  rw[if_neg (by rw[hc,hv];simp)]
  have hf:=Ye hc
  have hv':=hv
  unfold YF at hv'
  simp only[bae,Qx]at hv'
  obtain⟨⟨⟨⟨⟨v1,v2⟩,v3⟩,v4⟩,v5⟩,v6⟩:=hv'
  have hsn:=hf.snoozes;have hha:=hf.hands
  refine Ok.ite (fun g1=>Ok.s ?_) (fun g1=>?_)
  ·rw[if_pos g1];rfl
  rw[if_neg g1]
  refine Ok.oe (QiS h) (Ok.oe (UA (by omega)) (Ok.cnd (fun g2=>Ok.s ?_) (fun g2=>?_)))
  ·rw[if_pos g2]
  rw[if_neg (by rw[g2];simp)]
  refine Ok.oe QrD (Ok.ite (fun g3=>Ok.s ?_) (fun g3=>?_))
  ·rw[if_pos g3];rfl
  rw[if_neg g3]
  refine Ok.LS ?_
  refine Ok.join (fun y=>y=((),pgA p,a,page0,p.Starts,p.Declined,p.Seen++[a.ID],())∧¬(a.Kind=1∧p.State=1)) (fun y hy=>?_) (fun J hJ=>?_)
  ·obtain⟨rfl,hn⟩:=hy
   dsimp only[pgA]
   unfold Xa
   refine Ok.j (Ok.ite (fun k1=>Ok.s ?_) (fun k1=>Ok.ite (fun k2=>?_) (fun k2=>Ok.ite (fun k3=>Ok.s ?_) (fun k3=>Ok.ite (fun k4=>Ok.LS (Ok.s ?_)) (fun k4=>Ok.ite (fun k5=>Ok.s ?_) (fun k5=>absurd v5 (by omega)))))))
   ·rw[if_pos k1,if_neg (by omega)]
   ·rw[if_neg k1,if_pos k2]
    have hp':QA { p with Last:=a.At,Seen:=p.Seen++[a.ID] }:=⟨h.st,h.pe,h.de,by have:=hf.seen;dsimp only;simp;omega,h.nx⟩
    exact Ok.oe (Qpc (p:={ p with Last:=a.At,Seen:=p.Seen++[a.ID] }) hp' hd hf.declined) (Ok.s rfl)
   ·rw[if_neg k1,if_neg k2,if_pos k3]
    rw[if_pos k3]at v6
    have v6:=Qx.1 v6
    rw[Qc (by omega),Qc (by omega)]
   ·rw[if_neg k1,if_neg k2,if_neg k3,if_pos k4,Qc (by omega),Qc (by omega)]
   ·rw[if_neg k1,if_neg k2,if_neg k3,if_neg k4]
  ·refine Ok.ite (fun k1=>Ok.ite (fun k2=>Ok.s ?_) (fun k2=>hJ _ ⟨rfl,by omega⟩)) (fun k1=>hJ _ ⟨rfl,by omega⟩)
   unfold Xa
   rw[if_pos k1,if_pos k2]
 ·refine Ok.oe (QhZ hb h) (Ok.cnd (fun g1=>Ok.oe QqO (Ok.cnd (fun g2=>hJ _ ⟨rfl,g1,g2⟩) (fun g2=>Ok.s ?_))) (fun g1=>Ok.s ?_))
  ·unfold answerV;rw[if_pos (.inr g2)];rfl
  ·unfold answerV;rw[if_pos (.inl g1)];rfl
end
/-
  Pages on their way: what the reference's answers compute; pages compared.
-/
open Go AM
section
variable {n:Nat} {c:D.Config} {b:D.Book} {p q:D.Page} {now:Int} {a:D.Answer}
theorem Qle:QdO 1000 a=some (YF a):=by
 refine Ok.eq ?_
 unfold QdO
 refine Ok.j (Ok.oe rin (Ok.cnd (fun h1=>Ok.oe rin (Ok.cnd (fun h2=>Ok.oe rin (Ok.cnd (fun h3=>Ok.oe rin (Ok.cnd (fun h4=>?_) (fun h4=>Ok.s ?_))) (fun h3=>Ok.s ?_))) (fun h2=>Ok.s ?_))) (fun h1=>Ok.s ?_)))
 ·dsimp only
  refine Ok.join (fun y=>y.1.1=a.Kind∧y.1.2.1=decide (a.Kind=1∨a.Kind=2∨a.Kind=5)∧y.2=(a,())) (fun y hy=>?_) (fun J hJ=>?_)
  ·obtain⟨⟨k,z,⟨⟩⟩,r⟩:=y
   obtain⟨e1,e2,e3⟩:=hy
   dsimp only at e1 e2 e3
   subst e3;subst e1
   dsimp only
   refine Ok.cnd (fun g=>Ok.s ?_) (fun g=>Ok.ite (fun k3=>Ok.oe rin (Ok.s ?_)) (fun k3=>Ok.ite (fun k4=>Ok.oe rin (Ok.s ?_)) (fun k4=>Ok.s ?_)))
   ·rw[e2]at g
    have g:=of_decide_eq_true g
    have hk:inV a.Kind 1 5=true:=Qx.2 (by omega)
    unfold YF
    rw[if_neg (by omega),if_neg (by omega),h1,h2,h3,h4,hk];rfl
   ·have hk:inV a.Kind 1 5=true:=Qx.2 (by omega)
    unfold YF
    rw[if_pos k3,h1,h2,h3,h4,hk];rfl
   ·have hk:inV a.Kind 1 5=true:=Qx.2 (by omega)
    unfold YF
    rw[if_neg k3,if_pos k4,h1,h2,h3,h4,hk];rfl
   ·rw[e2]at g
    have g:=of_decide_eq_false g
    have hk:inV a.Kind 1 5=false:=Bool.eq_false_iff.2 fun h=>by have:=Qx.1 h;omega
    unfold YF
    rw[hk];simp
  ·refine Ok.ite (fun g1=>hJ _ ⟨rfl,?_,rfl⟩) (fun g1=>Ok.ite (fun g2=>hJ _ ⟨rfl,?_,rfl⟩) (fun g2=>hJ _ ⟨rfl,?_,rfl⟩))
   all_goals exact decide_eq_decide.2 (by omega)
 ·unfold YF;rw[h4];simp
 ·unfold YF;rw[h3];simp
 ·unfold YF;rw[h2];simp
 ·unfold YF;rw[h1];simp
theorem Qon(hf:CkF b p):QcI 1000 p a=some (XC p a):=by
 have hs1:=hf.seen;have hs2:=hf.snoozes;have hs3:=hf.hands;have hs4:=hf.starts
 refine Ok.eq ?_
 unfold QcI
 refine Ok.oe Qec ?_
 rcases hdv:dueV p with⟨da,dd⟩
 dsimp only
 refine Ok.j (Ok.ite (fun g1=>Ok.s ?_) (fun g1=>Ok.cnd (fun g2=>Ok.ite (fun g3=>Ok.s ?_) (fun g3=>?_)) (fun g2=>?_)))
 ·unfold XC;rw[if_pos (.inl g1)]
 ·unfold XC;rw[if_pos (.inr (by unfold Yw;rw[hdv,g2];simp;omega))]
 all_goals
  have hw:Yw p a.At=false:=by
   unfold Yw
   rw[hdv,g2]
   first|rfl|(simp;omega)
  unfold XC
  rw[if_neg (by rw[hw];simp;omega)]
  refine Ok.join (fun y=>y.1.1=decide (p.State=4∨(p.State=3∧a.Kind≠5)∨(p.State=1∧a.Kind=2))∧y.2=(p,a,())) (fun y hy=>?_) (fun J hJ=>?_)
  ·obtain⟨⟨s2,⟨⟩⟩,r⟩:=y
   obtain⟨k2,k3⟩:=hy
   dsimp only at k2 k3
   subst k3
   dsimp only
   refine Ok.cnd (fun g3=>Ok.s ?_) (fun g3=>?_)
   ·rw[k2]at g3;rw[if_pos (of_decide_eq_true g3)]
   ·rw[k2]at g3;rw[if_neg (of_decide_eq_false g3)]
    refine Ok.join (fun y=>y.1.1=decide (p.Seen.length=64∨(a.Kind=3∧p.Snoozes=4)∨(a.Kind=4∧(p.Hands=4∨p.Starts.length=200)))) (fun y hy=>?_) (fun J hJ=>?_)
    ·obtain⟨⟨s3,⟨⟩⟩,⟨⟩⟩:=y
     dsimp only at hy ⊢
     refine Ok.cnd (fun g4=>Ok.s ?_) (fun g4=>Ok.s ?_)
     ·rw[hy]at g4;rw[if_pos (of_decide_eq_true g4)]
     ·rw[hy]at g4;rw[if_neg (of_decide_eq_false g4)]
    ·refine Ok.ite (fun g4=>hJ _ ?_) (fun g4=>Ok.ite (fun g5=>Ok.ite (fun g6=>hJ _ ?_) (fun g6=>Ok.ite (fun g7=>Ok.ite (fun g8=>hJ _ ?_) (fun g8=>Ok.ite (fun g9=>hJ _ ?_) (fun g9=>hJ _ ?_))) (fun g7=>hJ _ ?_))) (fun g5=>Ok.ite (fun g7=>Ok.ite (fun g8=>hJ _ ?_) (fun g8=>Ok.ite (fun g9=>hJ _ ?_) (fun g9=>hJ _ ?_))) (fun g7=>hJ _ ?_)))
     all_goals (dsimp only;first|exact(decide_eq_true (by omega)).symm|exact(decide_eq_false (by omega)).symm|exact decide_eq_decide.2 (by omega))
  ·refine Ok.ite (fun g3=>hJ _ ⟨?_,rfl⟩) (fun g3=>Ok.ite (fun g4=>Ok.ite (fun g5=>hJ _ ⟨?_,rfl⟩) (fun g5=>Ok.ite (fun g6=>Ok.ite (fun g7=>hJ _ ⟨?_,rfl⟩) (fun g7=>hJ _ ⟨?_,rfl⟩)) (fun g6=>hJ _ ⟨?_,rfl⟩))) (fun g4=>Ok.ite (fun g6=>Ok.ite (fun g7=>hJ _ ⟨?_,rfl⟩) (fun g7=>hJ _ ⟨?_,rfl⟩)) (fun g6=>hJ _ ⟨?_,rfl⟩)))
   all_goals (dsimp only;first|exact(decide_eq_true (by omega)).symm|exact(decide_eq_false (by omega)).symm|exact decide_eq_decide.2 (by omega))
theorem QpW{l:List Int}{x:Int}(hl:l.length≤400)(h:Asc l):Wv 1000 l x=some (Qgj l x):=by
 rw[Qug hl]
 congr 1
 exact Qcp (QcU h).1 (Qbp h).1 fun z=>by rw[(QcU h).2,(Qbp h).2]
theorem QoX(hb:QM b)(h:QA p):Qey 1000 c b p a=some (answerV b p a):=by
 have hse:=h.se;have hst:=h.st;have hde:=h.de
 refine Ok.eq ?_
 unfold Qey
 refine Ok.join (fun y=>y=((),p,a,page0,())∧QQ b p=true∧YF a=true) (fun y hy=>?_) (fun J hJ=>?_)
 ·obtain⟨rfl,hc,hv⟩:=hy
  dsimp only
  unfold answerV
  rw[if_neg (by rw[hc,hv];simp)]
  have hf:=Ye hc
  have hv':=hv
  unfold YF at hv'
  simp only[bae,Qx]at hv'
  obtain⟨⟨⟨⟨⟨v1,v2⟩,v3⟩,v4⟩,v5⟩,v6⟩:=hv'
  have hsn:=hf.snoozes;have hha:=hf.hands
  refine Ok.ite (fun g1=>Ok.s ?_) (fun g1=>?_)
  ·rw[if_pos g1];rfl
  rw[if_neg g1]
  refine Ok.oe (QbS h) (Ok.oe (Qbi (by omega)) (Ok.cnd (fun g2=>Ok.s ?_) (fun g2=>?_)))
  ·rw[if_pos g2]
  rw[if_neg (by rw[g2];simp)]
  refine Ok.oe (Qon hf) (Ok.ite (fun g3=>Ok.s ?_) (fun g3=>?_))
  ·rw[if_pos g3];rfl
  rw[if_neg g3]
  refine Ok.LS (Ok.j ?_)
  unfold Xa
  refine Ok.ite (fun k1=>Ok.ite (fun k2=>Ok.s ?_) (fun k2=>Ok.s ?_)) (fun k1=>Ok.ite (fun k2=>?_) (fun k2=>Ok.ite (fun k3=>Ok.s ?_) (fun k3=>Ok.ite (fun k4=>Ok.LS (Ok.s ?_)) (fun k4=>Ok.ite (fun k5=>Ok.s ?_) (fun k5=>absurd v5 (by omega))))))
  ·rw[if_pos k1,if_pos k2]
  ·rw[if_pos k1,if_neg k2]
  ·rw[if_neg k1,if_pos k2]
   have hcl:=QkH h
   refine Ok.oe (Qo7 h) ?_
   refine Ok.join (fun y=>y=((Xy p,()),p,a,page0,(p.ID,p.Policy,p.Start,p.Next,p.Due,p.State,p.By,p.Until,a.At,p.Snoozes,p.Hands,V1 p a,()),p.Starts,p.Seen++[a.ID],())) (fun y hy=>?_) (fun J hJ=>?_)
   ·subst hy
    dsimp only
    have hdl:(V1 p a).length≤900:=by
     unfold V1 Qgj
     split
     ·have h1:=List.length_filter_le (fun z=>decide (z<a.Person)) p.Declined
      have h2:=List.length_filter_le (fun z=>decide (a.Person<z)) p.Declined
      simp only[List.length_append,List.length_cons];omega
     ·omega
    obtain⟨aD,haD⟩:∃aD:Nat→Bool,∀i,aD i=(decide ((0:Int)<(((Xy p).length:Nat):Int)) && ((Xy p).take i).all fun z=>(V1 p a).contains z):=⟨fun i=>_,fun i=>rfl⟩
    have hall:∀i,i<(Xy p).length→aD (i+1)=(aD i && (V1 p a).contains (nth (Xy p) i)):=fun i hi=>by
     rw[haD,haD,←Qs hi,List.all_append,Bool.and_assoc]
     simp
    have hlast:V9 p a=aD (Xy p).length:=by
     rw[haD,List.take_length]
     unfold V9
     congr 1
     refine decide_eq_decide.2 ⟨fun hne=>by have:=List.length_pos_iff.2 hne;omega,fun hpos e=>by rw[e]at hpos;simp at hpos⟩
    refine Ok.run2 (Xy p).length (fun i=>(Xy p,aD i,(i:Int),())) (by rw[haD];simp) (by omega) (fun i hi k hk=>?_) (fun k=>?_)
    ·dsimp only at hk ⊢
     rw[hall i hi]at hk
     refine Ok.P (Ok.j (Ok.cnd (fun g=>Ok.atn hi (Ok.oe (Qbi hdl) (Ok.cnd (fun g'=>?_) (fun g'=>?_)))) (fun g=>?_)))
     ·dsimp only
      rw[Qa (by omega)]
      rw[g,g']at hk;exact hk
     ·dsimp only
      rw[Qa (by omega)]
      rw[g,g']at hk;exact hk
     ·dsimp only
      rw[Qa (by omega)]
      rw[g]at hk;exact hk
    ·dsimp only
     rw[hlast]
     refine Ok.N (Ok.cnd (fun g=>Ok.ite (fun g0=>Ok.s ?_) (fun g0=>Ok.s ?_)) (fun g=>Ok.s ?_))
     ·rw[if_pos ⟨g,g0⟩]
     ·rw[if_neg (fun hx=>g0 hx.2)]
     ·rw[if_neg (by rw[g];simp)]
   ·refine Ok.oe (Qbi (by omega)) (Ok.cnd (fun g4=>?_) (fun g4=>?_))
    ·have hd:=(VW.1 hf.declined).1
     refine Ok.oe (QpW (by omega) hd) (hJ _ ?_)
     have:V1 p a=Qgj p.Declined a.Person:=by unfold V1;rw[if_pos g4]
     rw[this]
    ·refine hJ _ ?_
     have:V1 p a=p.Declined:=by unfold V1;rw[if_neg (by rw[g4];simp)]
     rw[this]
  ·rw[if_neg k1,if_neg k2,if_pos k3]
   rw[if_pos k3]at v6
   have v6:=Qx.1 v6
   rw[Qc (by omega),Qc (by omega)]
  ·rw[if_neg k1,if_neg k2,if_neg k3,if_pos k4,Qc (by omega),Qc (by omega)]
  ·rw[if_neg k1,if_neg k2,if_neg k3,if_neg k4]
 ·refine Ok.oe (Qea hb h) (Ok.cnd (fun g1=>Ok.oe Qle (Ok.cnd (fun g2=>hJ _ ⟨rfl,g1,g2⟩) (fun g2=>Ok.s ?_))) (fun g1=>Ok.s ?_))
  ·unfold answerV;rw[if_pos (.inr g2)];rfl
  ·unfold answerV;rw[if_pos (.inl g1)];rfl
end
/-
  What else is kept of made pages: who declined, which answers were seen. Plain Lean.
-/
section
variable {n:Nat} {c:D.Config} {b:D.Book} {p q:D.Page} {now k M:Int} {a:D.Answer} {Q:Int→D.Start→Prop}
structure PgX (k:Int) (p:D.Page):Prop where
 decl:∀x∈p.Declined,x<4
 seen:∀x∈p.Seen,1≤x∧x≤k
theorem PgX.mono{k':Int}(h:PgX k p)(hk:k≤k'):PgX k' p:=⟨h.decl,fun x hx=>⟨(h.seen x hx).1,Int.le_trans (h.seen x hx).2 hk⟩⟩
theorem PgX.step(h:PgX k p):PgX k (stepQ c b p):=by
 unfold stepQ
 split
 ·exact⟨h.decl,h.seen⟩
 ·split
  ·exact⟨h.decl,h.seen⟩
  ·exact⟨by simp,h.seen⟩
theorem PgX.run(h:PgX k p)(hb:QM b)(hQ:QhG Q M c b)(hi:QI Q M b p):PgX k (runV c b p now).1:=
 Qih hb hQ (fun q _ _ hr=>hr.step) hi h
theorem Qtz{l:List Int}{x z:Int}(h:z∈Qgj l x):z∈l∨z=x:=by
 unfold Qgj at h
 rcases List.mem_append.1 h with h|h
 ·exact .inl (List.mem_filter.1 h).1
 ·rcases List.mem_cons.1 h with h|h
  ·exact .inr h
  ·exact .inl (List.mem_filter.1 h).1
theorem PgX.answer(h:PgX k p)(ha:a.Person<4)(hi:1≤a.ID∧a.ID≤k):PgX k (Xa p a):=by
 have hs:∀x∈p.Seen++[a.ID],1≤x∧x≤k:=WY h.seen hi
 have hd:∀x∈V1 p a,x<4:=by
  unfold V1
  split
  ·intro x hx
   rcases Qtz hx with hx|rfl
   ·exact h.decl x hx
   ·exact ha
  ·exact h.decl
 unfold Xa
 split
 ·split
  ·exact⟨h.decl,hs⟩
  ·exact⟨h.decl,hs⟩
 ·split
  ·exact⟨hd,hs⟩
  ·split
   ·exact⟨h.decl,hs⟩
   ·split
    ·exact⟨by simp,hs⟩
    ·exact⟨h.decl,hs⟩
theorem PgX.dlen(h:PgX k p)(hi:setV p.Declined=true):p.Declined.length≤4:=by
 have hs:=VW.1 hi
 exact QpZ hs.1 fun z hz=>⟨(hs.2 z hz).1,h.decl z hz⟩
theorem PgX.new{id pol start:Int}:PgX k (newP id pol start):=⟨by simp[newP],by simp[newP]⟩
end
/-
  How the statements begin: light inputs, dice.
-/
open Go AM
theorem Qu6{t:List Int}:QgY 1000 t=some (decide (((t.length:Nat):Int)≤500)):=rfl
theorem Qxq{t:List Int}:Qdy 1000 t=some ⟨t,0⟩:=rfl
theorem dice0{t:List Int}:ZG t ⟨t,0⟩:=⟨rfl,Int.le_refl _,by dsimp only;omega⟩
theorem Qtb{t:List Int}(h:decide (((t.length:Nat):Int)≤500)=true):t.length≤500:=by have:=of_decide_eq_true h;omega
/-
  Pages and answers that are made by dice: what holds of them.
-/
section
attribute [local irreducible] dueV stepV runV QQ answerV
section
variable {n:Nat} {c:D.Config} {b:D.Book} {p q:D.Page} {now k M:Int} {a:D.Answer} {Q:Int→D.Start→Prop} {L:List Int} {d:D.Dice}
structure Qwg (a:D.Answer):Prop where
 pers : -1≤a.Person∧a.Person<4
 kind:1≤a.Kind∧a.Kind≤5
 arg3:a.Kind=3→1≤a.Arg∧a.Arg≤5000
 arg4:a.Kind=4→0≤a.Arg∧a.Arg<4
 arg0:a.Kind≠3→a.Kind≠4→a.Arg=0
theorem Qwg.valid(h:Qwg a)(h1:1≤a.ID∧a.ID≤999999)(h2:1≤a.Page∧a.Page≤999999)(h3:0≤a.At∧a.At≤8589934592):YF a=true:=by
 have hp:=h.pers;have hk:=h.kind
 unfold YF
 rw[Qx.2 h1,Qx.2 h2,Qx.2 (show -1≤a.Person∧a.Person≤31 by omega),Qx.2 h3,Qx.2 hk]
 simp only[Bool.true_and]
 split
 ·rename_i k3;have:=h.arg3 k3;exact Qx.2 (by omega)
 ·split
  ·rename_i k4;have:=h.arg4 k4;exact Qx.2 (by omega)
  ·rename_i k3 k4;exact decide_eq_true (h.arg0 k3 k4)
theorem Qr6{id page at_:Int}(hL:L.length≤500)(hd:ZG L d):Ok (WW 1000 d id page at_) fun r=>ZG L r.2∧Qwg r.1∧r.1.ID=id∧r.1.Page=page∧r.1.At=at_:=by
 unfold WW
 refine Ok.opt (nx hL hd (by omega) (by omega)) fun⟨a0,d1⟩ ⟨h1,l1,u1⟩=>?_
 dsimp only at h1 l1 u1 ⊢
 refine Ok.opt (nx hL h1 (by omega) (by omega)) fun⟨a2,d3⟩ ⟨h3,l3,u3⟩=>?_
 dsimp only at h3 l3 u3 ⊢
 rw[Qc (x:=1+a2) (by omega),Qc (x:=a0 - 1) (by omega)]
 refine Ok.j (Ok.ite (fun g=>?_) (fun g=>Ok.ite (fun g'=>?_) (fun g'=>?_)))
 ·refine Ok.opt (QaP hL h3 (by simp) (by simp)) fun⟨a8,d9⟩ ⟨h9,m9⟩=>Ok.s ⟨h9,⟨by dsimp only;omega,by dsimp only;omega,fun _=>?_,fun e=>?_,fun e=>absurd g e⟩,rfl,rfl,rfl⟩
  ·dsimp only at m9 ⊢
   simp only[List.mem_cons,List.not_mem_nil,or_false]at m9
   omega
  ·dsimp only at e;omega
 ·refine Ok.opt (nx hL h3 (by omega) (by omega)) fun⟨a10,d11⟩ ⟨h11,l11,u11⟩=>Ok.s ⟨h11,⟨by dsimp only;omega,by dsimp only;omega,fun e=>?_,fun _=>⟨l11,u11⟩,fun _ e=>absurd g' e⟩,rfl,rfl,rfl⟩
  dsimp only at e;omega
 ·exact Ok.s ⟨h3,⟨by dsimp only;omega,by dsimp only;omega,fun e=>absurd e g,fun e=>absurd e g',fun _ _=>rfl⟩,rfl,rfl,rfl⟩
theorem QtU(hb:QM b)(hQ:QhG Q M c b)(h:QI Q M b p)(now:Int):∃q,runV c b p now=(q,0)∧QI Q M b q∧Yw q now=false∧Kept p q:=by
 have h1:=QcM (now:=now) hb hQ h
 have h2:=QdY (now:=now) hb hQ h
 rcases hr:runV c b p now with⟨q,e⟩
 rw[hr]at h1 h2
 obtain⟨a1,a2,a3⟩:=h1
 dsimp only at a1 a2 a3 h2
 subst a2
 exact⟨q,rfl,a1,a3,h2⟩
end
end
/-
  Ledgers, in plain Lean: what operations make of them, and what they keep.
-/
open Go AM
def QG(id f:Int)(l:List D.Start):List D.Call:=l.flatMap fun s=>s.People.map fun x=>D.Call.mk id s.K s.At x f
theorem QbD{id f:Int}{a b:List D.Start}:QG id f (a++b)=QG id f a++QG id f b:=by unfold QG;rw[List.flatMap_append]
def unf(c:D.Call):D.Call:={ c with Fence:=0 }
theorem Qo9{id f:Int}{l:List D.Start}:(QG id f l).map unf=QG id 0 l:=by
 unfold QG
 rw[List.map_flatMap]
 congr 1
 funext s
 rw[List.map_map];rfl
def ownC(id:Int)(l:List D.Call):List D.Call:=l.filter fun c=>decide (c.Page=id)
theorem Uf{id:Int}{a b:List D.Call}:ownC id (a++b)=ownC id a++ownC id b:=List.filter_append ..
theorem X8{id f:Int}{l:List D.Start}:∀c∈QG id f l,c.Page=id∧c.Fence=f:=by
 intro c hc
 unfold QG at hc
 grind
theorem Qjs{id f:Int}{l:List D.Start}:ownC id (QG id f l)=QG id f l:=by
 unfold ownC
 exact List.filter_eq_self.2 fun c hc=>by simpa using(X8 c hc).1
theorem Qrl{id i f:Int}{l:List D.Start}(h:i≠id):ownC i (QG id f l)=[]:=by
 unfold ownC
 exact List.filter_eq_nil_iff.2 fun c hc=>by have:=(X8 c hc).1;simp;omega
structure Told (fence:Int) (p:D.Page) (l:List D.Call):Prop where
 same:(ownC p.ID l).map unf=QG p.ID 0 p.Starts
 up:(ownC p.ID l).Pairwise fun x y=>x.Fence≤y.Fence
 fit:∀c∈ownC p.ID l,0≤c.Fence∧c.Fence≤fence
theorem Told.mono{f g:Int}{p:D.Page}{l:List D.Call}(h:Told f p l)(hg:f≤g):Told g p l:=⟨h.same,h.up,fun c hc=>by have:=h.fit c hc;omega⟩
theorem Told.more{f:Int}{p q:D.Page}{l:List D.Call}{m:List D.Start}(h:Told f p l)(hf:0≤f)(hid:q.ID=p.ID)(hs:q.Starts=p.Starts++m):Told f q (l++QG p.ID f m):=by
 refine⟨?_,?_,?_⟩
 ·rw[hid,Uf,Qjs,List.map_append,h.same,Qo9,hs,QbD]
 ·rw[hid,Uf,Qjs]
  refine List.pairwise_append.2 ⟨h.up,?_,fun x hx y hy=>?_⟩
  ·refine List.pairwise_iff_forall_sublist.2 fun{x y} hxy=>?_
   have h1:=(X8 x (hxy.subset (by simp))).2
   have h2:=(X8 y (hxy.subset (by simp))).2
   omega
  ·have h1:=(h.fit x hx).2
   have h2:=(X8 y hy).2
   omega
 ·rw[hid,Uf,Qjs]
  intro c hc
  rcases List.mem_append.1 hc with hc|hc
  ·exact h.fit c hc
  ·have:=(X8 c hc).2;omega
theorem Told.other{f id:Int}{p:D.Page}{l:List D.Call}{m:List D.Start}(h:Told f p l)(hid:p.ID≠id):Told f p (l++QG id f m):=by
 have e:ownC p.ID (l++QG id f m)=ownC p.ID l:=by rw[Uf,Qrl hid,List.append_nil]
 exact⟨by rw[e];exact h.same,by rw[e];exact h.up,by rw[e];exact h.fit⟩
def AscP(l:List D.Page):Prop:=l.Pairwise fun p q=>p.ID<q.ID
def posV(id:Int):List D.Page→Nat
 |[]=>0
 |p::r=>if p.ID<id then posV id r+1 else 0
theorem QbH{id:Int}:∀{l:List D.Page},posV id l≤l.length
 |[]=>Nat.le_refl _
 |p::r=>by
  rw[posV]
  split
  ·have:=QbH (id:=id) (l:=r);rw[List.length_cons];omega
  ·exact Nat.zero_le _
def hasV(id:Int)(l:List D.Page):Bool:=decide (posV id l<l.length∧(nth l (posV id l)).ID=id)
theorem Qag{α:Type}[Inhabited α]{x:α}{l:List α}{i:Nat}:nth (x::l) (i+1)=nth l i:=by simp[nth]
theorem Qcy{α:Type}[Inhabited α]{x:α}{l:List α}:nth (x::l) 0=x:=by simp[nth]
theorem QjC{id:Int}:∀{l:List D.Page} {i:Nat},i<posV id l→(nth l i).ID<id
 |[],i,h=>by simp[posV]at h
 |p::r,i,h=>by
  rw[posV]at h
  split at h
  ·rename_i hp
   cases i with
   |zero=>rw[Qcy];exact hp
   |succ i=>rw[Qag];exact QjC (by omega)
  ·omega
theorem QjB{id:Int}:∀{l:List D.Page},AscP l→∀{i:Nat},posV id l≤i→i<l.length→id≤(nth l i).ID
 |[],_,i,_,h=>by simp at h
 |p::r,ha,i,h1,h2=>by
  have ha':=List.pairwise_cons.1 ha
  rw[posV]at h1
  split at h1
  ·cases i with
   |zero=>omega
   |succ i=>rw[Qag];exact QjB ha'.2 (by omega) (by simpa using h2)
  ·cases i with
   |zero=>rw[Qcy];omega
   |succ i=>
    rw[Qag]
    have:=ha'.1 (nth r i) (Qi (by simpa using h2))
    omega
theorem Qco{l:List D.Page}(h:AscP l){i j:Nat}(hij:i<j)(hj:j<l.length):(nth l i).ID<(nth l j).ID:=by
 have:=List.pairwise_iff_getElem.1 h i j (by omega) hj hij
 simpa [nth,List.getD_eq_getElem?_getD,List.getElem?_eq_getElem hj,List.getElem?_eq_getElem (show i<l.length by omega)]using this
theorem Qg9{l:List D.Page}(h:AscP l){i:Nat}(hi:i<l.length):posV (nth l i).ID l=i:=by
 rcases Nat.lt_trichotomy (posV (nth l i).ID l) i with g|g|g
 ·have:=QjB h (Nat.le_refl (posV (nth l i).ID l)) (by omega)
  have:=Qco h g hi
  omega
 ·exact g
 ·have:=QjC g;omega
theorem QlN{l:List D.Page}(h:AscP l){i:Nat}(hi:i<l.length):hasV (nth l i).ID l=true:=by
 unfold hasV;rw[Qg9 h hi];simp[hi]
theorem QsZ{id:Int}{l:List D.Page}(ha:AscP l)(h:hasV id l=false):∀p∈l,p.ID≠id:=by
 intro p hp e
 obtain⟨i,hi,rfl⟩:=List.getElem_of_mem hp
 have e1:nth l i=l[i]:=by simp[nth,List.getD_eq_getElem?_getD,List.getElem?_eq_getElem hi]
 have:=QlN ha hi
 simp_all
def insP(l:List D.Page)(p:D.Page):List D.Page:=l.take (posV p.ID l)++p::l.drop (posV p.ID l)
theorem QtB{id:Int}:∀{l:List D.Page},∀p∈l.take (posV id l),p.ID<id
 |[],p,h=>by simp at h
 |q::r,p,h=>by
  rw[posV]at h
  split at h
  ·rename_i hq
   rw[List.take_succ_cons]at h
   rcases List.mem_cons.1 h with rfl|h
   ·exact hq
   ·exact QtB p h
  ·simp at h
theorem Qpu{id:Int}:∀{l:List D.Page},AscP l→∀p∈l.drop (posV id l),id≤p.ID
 |[],_,p,h=>by simp at h
 |q::r,ha,p,h=>by
  have ha':=List.pairwise_cons.1 ha
  rw[posV]at h
  split at h
  ·rw[List.drop_succ_cons]at h;exact Qpu ha'.2 p h
  ·rename_i hq
   rw[List.drop_zero]at h
   rcases List.mem_cons.1 h with rfl|h
   ·omega
   ·have:=ha'.1 p h;omega
theorem QuW{l:List D.Page}{p:D.Page}(h:AscP l)(hn:hasV p.ID l=false):AscP (insP l p):=by
 have hne:=QsZ h hn
 refine List.pairwise_append.2 ⟨h.sublist (List.take_sublist ..),List.pairwise_cons.2 ⟨fun q hq=>?_,h.sublist (List.drop_sublist ..)⟩,fun q hq r hr=>?_⟩
 ·have:=Qpu h q hq
  grind
 ·have h1:=QtB q hq
  rcases List.mem_cons.1 hr with rfl|hr
  ·exact h1
  ·have:=Qpu h r hr;omega
theorem Qf7{l:List D.Page}{p q:D.Page}:q∈insP l p↔q=p∨q∈l:=by
 unfold insP
 rw[List.mem_append,List.mem_cons]
 constructor
 ·grind
 ·rintro(h|h)
  ·exact .inr (.inl h)
  ·have h2:=h
   rw[←List.take_append_drop (posV p.ID l) l]at h2
   grind
theorem Qvv{l:List D.Page}{i:Nat}{p:D.Page}(h:AscP l)(hi:i<l.length)(hp:p.ID=(nth l i).ID):AscP (l.set i p):=by
 have e:∀j,j<l.length→(nth (l.set i p) j).ID=(nth l j).ID:=fun j hj=>by
  by_cases hij:j=i
  ·subst hij;simp[nth,List.getD_eq_getElem?_getD,hi]at hp ⊢;exact hp
  ·simp[nth,List.getD_eq_getElem?_getD,List.getElem?_set,Ne.symm hij]
 refine List.pairwise_iff_getElem.2 fun j k hj hk hjk=>?_
 have hj':j<l.length:=by simpa using hj
 have hk':k<l.length:=by simpa using hk
 have h1:=e j hj';have h2:=e k hk'
 have h3:=Qco h hjk hk'
 have g1:nth (l.set i p) j=(l.set i p)[j]:=by simp only[nth,List.getD_eq_getElem?_getD,List.getElem?_eq_getElem hj,Option.getD_some]
 have g2:nth (l.set i p) k=(l.set i p)[k]:=by simp only[nth,List.getD_eq_getElem?_getD,List.getElem?_eq_getElem hk,Option.getD_some]
 simp_all
structure QkD (l:List Int) (n:Nat):Prop where
 len:l.length≤n
 nodup:l.Nodup
 fit:∀x∈l,1≤x∧x≤1099511627776
theorem QkD.snoc{l:List Int}{n:Nat}{x:Int}(h:QkD l n)(h1:1≤x∧x≤1099511627776)(h2:l.contains x=false):QkD (l++[x]) (n+1):=by
 refine⟨by have:=h.len;simp;omega,List.nodup_append.2 ⟨h.nodup,by simp,fun y hy z hz e=>?_⟩,fun y hy=>?_⟩
 ·simp_all
 ·rcases List.mem_append.1 hy with hy|hy
  ·exact h.fit y hy
  ·simp_all
def QT:Int→D.Start→Prop:=fun _ s=>s.People.length≤4
theorem QT.step{M:Int}{c:D.Config}{b:D.Book}:QhG QT M c b:=fun _ _ _ _=>Qna
theorem Goes.short{Q:D.Start→Prop}{st k t h:Int}{l:List D.Start}(hq:∀s,Q s→s.People.length≤4)(g:Goes Q st l k t h):∀s∈l,s.People.length≤4:=by
 induction g with
 |nil=>intro s hs;simp at hs
 |step g h1 h2 h3 h4 ih=>
  grind
 |hand g h1 h2 h3 h4 ih=>
  grind
structure Qe (M:Int) (n:Nat) (l:D.Ledger):Prop where
 top:M≤8000000000
 now:0≤l.Now∧l.Now≤M - 20000
 small:n≤48
 cfg:Q3 n l.Config
 book:QM l.Book
 page:∀p∈l.Pages,QI QT M l.Book p∧p.Last≤l.Now
 asc:AscP l.Pages
 len:l.Pages.length≤64
 owner : -1≤l.Owner∧l.Owner≤4
 fence:0≤l.Fence∧l.Fence≤(l.Seen.length:Int)
 seen:QkD l.Seen 256
 told:∀p∈l.Pages,Told l.Fence p l.Calls
 all:∀c∈l.Calls,∃p∈l.Pages,p.ID=c.Page
structure LW (M:Int) (n:Nat) (l:D.Ledger):Prop where
 top:M≤8000000000
 now:0≤l.Now∧l.Now≤8589934592
 small:n≤48
 cfg:Q3 n l.Config
 book:QM l.Book
 page:∀p∈l.Pages,QI QT M l.Book p∧p.Last≤l.Now
 asc:AscP l.Pages
 len:l.Pages.length≤64
 owner : -1≤l.Owner∧l.Owner≤4
 fence:0≤l.Fence∧l.Fence≤1048576
 seen:QkD l.Seen 256
 told:∀p∈l.Pages,Told l.Fence p l.Calls
 all:∀c∈l.Calls,∃p∈l.Pages,p.ID=c.Page
theorem Qe.w{M:Int}{n:Nat}{l:D.Ledger}(h:Qe M n l):LW M n l:=by
 have h1:=h.top;have h2:=h.now;have h3:=h.fence;have h4:=h.seen.len
 exact⟨h1,by omega,h.small,h.cfg,h.book,h.page,h.asc,h.len,h.owner,by omega,h.seen,h.told,h.all⟩
def putV(l:D.Ledger)(i:Nat)(p:D.Page):D.Ledger:=
 { l with Pages:=l.Pages.set i p,Calls:=l.Calls++QG p.ID l.Fence (p.Starts.drop (nth l.Pages i).Starts.length) }
def runI(l:D.Ledger)(i:Nat):D.Ledger:=if (runV l.Config l.Book (nth l.Pages i) l.Now).2≠0 then l else putV l i (runV l.Config l.Book (nth l.Pages i) l.Now).1
def Zl(l:D.Ledger):Nat→D.Ledger
 |0=>l
 |k+1=>runI (Zl l k) k
def Qi0(c:D.Config)(i:Int)(x:D.Edit):D.Config:=
 { c with Schedules:=c.Schedules.set i.toNat { nth c.Schedules i.toNat with Edits:=(nth c.Schedules i.toNat).Edits++[x] } }
def opV(l:D.Ledger)(o:D.Op):D.Ledger×Int:=
  if o.Kind=1 then
    (if hasV o.Page l.Pages=true then(l,4)else if l.Pages.length=64 then(l,5)else if o.Page<1 then(l,1)
     else if 0≤o.Policy∧o.Policy<(l.Book.Policies.length:Int)then(runI { l with Pages:=insP l.Pages (newP o.Page o.Policy l.Now) } (posV o.Page l.Pages),0)else(l,3))
  else if o.Kind=2 then(if o.Fence=l.Fence+1 then({ l with Owner:=o.Region,Fence:=o.Fence },0)else(l,23))
  else if o.Kind=3 then
    (if o.Region=l.Owner∧o.Fence=l.Fence then
      (if hasV o.Page l.Pages=true then
        (if Yw (nth l.Pages (posV o.Page l.Pages)) l.Now=true∧o.K=(if (nth l.Pages (posV o.Page l.Pages)).State=2 then -1 else(nth l.Pages (posV o.Page l.Pages)).Next)then(runI l (posV o.Page l.Pages),0)else(l,9))
       else(l,3))
     else(l,23))
  else if o.Kind=4 then
    (if hasV o.Answer.Page l.Pages=true then
      (if (answerV l.Book (nth (runI l (posV o.Answer.Page l.Pages)).Pages (posV o.Answer.Page l.Pages)) { o.Answer with At:=l.Now }).2=0 then
         (putV (runI l (posV o.Answer.Page l.Pages)) (posV o.Answer.Page l.Pages) (answerV l.Book (nth (runI l (posV o.Answer.Page l.Pages)).Pages (posV o.Answer.Page l.Pages)) { o.Answer with At:=l.Now }).1,0)
       else(runI l (posV o.Answer.Page l.Pages),(answerV l.Book (nth (runI l (posV o.Answer.Page l.Pages)).Pages (posV o.Answer.Page l.Pages)) { o.Answer with At:=l.Now }).2))
     else(l,3))
  else if 0≤o.Schedule∧o.Schedule<2 then({ Zl l l.Pages.length with Config:=Qi0 l.Config o.Schedule o.Edit },0)else(Zl l l.Pages.length,3)
def Zb(l:D.Ledger)(o:D.Op):D.Ledger×Int:=
 if l.Seen.contains o.ID=true then(l,0)else opV { l with Now:=max l.Now o.At,Seen:=l.Seen++[o.ID] } o
section
variable {M:Int} {n:Nat} {l:D.Ledger} {i:Nat} {p q:D.Page} {b:D.Book} {c:D.Config} {now:Int}
def Ext(p q:D.Page):Prop:=∃m,q.Starts=p.Starts++m
theorem Ext.refl(p:D.Page):Ext p p:=⟨[],by simp⟩
theorem Ext.step(h:Ext p q):Ext p (stepQ c b q):=by
 obtain⟨m,hm⟩:=h
 unfold stepQ
 split
 ·exact⟨m,hm⟩
 ·split
  ·exact⟨m,hm⟩
  ·exact⟨m++[_],by dsimp only;rw[hm,List.append_assoc]⟩
theorem QmD(hb:QM b)(h:QI QT M b p):Ext p (runV c b p now).1:=
 Qih hb QT.step (fun q _ _ hr=>hr.step) h (Ext.refl p)
theorem Qfa{a:D.Answer}:Ext p (Xa p a):=by
 by_cases h:a.Kind=4
 ·exact⟨_,Qir.1 h⟩
 ·exact⟨[],by rw[Qir.2 h];simp⟩
theorem Qrs(hx:Ext (nth l.Pages i) p):∃m,p.Starts=(nth l.Pages i).Starts++m∧(putV l i p).Calls=l.Calls++QG p.ID l.Fence m:=by
 obtain⟨m,hm⟩:=hx
 refine⟨m,hm,?_⟩
 unfold putV
 simp_all
theorem Xv{α:Type}[Inhabited α]{l:List α}{i:Nat}{x:α}(h:i<l.length):nth (l.set i x) i=x:=by
 simp[nth,List.getD_eq_getElem?_getD,h]
theorem Qat{α:Type}[Inhabited α]{l:List α}{i j:Nat}{x:α}(h:j≠i):nth (l.set i x) j=nth l j:=by
 simp[nth,List.getD_eq_getElem?_getD,List.getElem?_set,Ne.symm h]
theorem QlX{α:Type}[Inhabited α]{l:List α}{x:α}(h:x∈l):∃i,i<l.length∧nth l i=x:=by
 obtain⟨i,hi,e⟩:=List.getElem_of_mem h
 exact⟨i,hi,by simp[nth,List.getD_eq_getElem?_getD,List.getElem?_eq_getElem hi,e]⟩
theorem Qe.put(h:Qe M n l)(hi:i<l.Pages.length)(hp:QI QT M l.Book p)(hl:p.Last≤l.Now)(hid:p.ID=(nth l.Pages i).ID)(hx:Ext (nth l.Pages i) p):Qe M n (putV l i p):=by
 obtain⟨m,hm,hc⟩:=Qrs hx
 have hf:=h.fence
 have hpage:∀q∈(l.Pages.set i p),q=p∨(q∈l.Pages∧q.ID≠p.ID):=by
  intro q hq
  obtain⟨j,hj,rfl⟩:=QlX hq
  rw[List.length_set]at hj
  by_cases e:j=i
  ·subst e;rw[Xv hj];exact .inl rfl
  ·rw[Qat e]
   refine .inr ⟨Qi hj,fun e2=>?_⟩
   rw[hid]at e2
   have h1:=Qg9 h.asc hj
   have h2:=Qg9 h.asc hi
   rw[e2]at h1;omega
 refine⟨h.top,h.now,h.small,h.cfg,h.book,fun q hq=>?_,Qvv h.asc hi hid,by show(l.Pages.set i p).length≤64;rw[List.length_set];exact h.len,h.owner,h.fence,h.seen,fun q hq=>?_,fun x hx=>?_⟩
 ·rcases hpage q hq with rfl|⟨hq,_⟩
  ·exact⟨hp,hl⟩
  ·exact h.page q hq
 ·rw[hc]
  show Told l.Fence q _
  rcases hpage q hq with rfl|⟨hq,hne⟩
  ·exact hid ▸ (h.told _ (Qi hi)).more hf.1 hid hm
  ·exact(h.told q hq).other hne
 ·rw[hc]at hx
  show ∃q∈l.Pages.set i p,q.ID=x.Page
  rcases List.mem_append.1 hx with hx|hx
  ·obtain⟨q,hq,e⟩:=h.all x hx
   obtain⟨j,hj,rfl⟩:=QlX hq
   by_cases e2:j=i
   ·subst e2;exact⟨p,by have:=Qi (l:=l.Pages.set j p) (i:=j) (by simpa using hj);rwa [Xv hj]at this,by rw[hid,e]⟩
   ·exact⟨_,by have:=Qi (l:=l.Pages.set i p) (i:=j) (by simpa using hj);rwa [Qat e2]at this,e⟩
  ·exact⟨p,by have:=Qi (l:=l.Pages.set i p) (i:=i) (by simpa using hi);rwa [Xv hi]at this,(X8 x hx).1.symm⟩
theorem Qe.at(h:Qe M n l)(hi:i<l.Pages.length):QI QT M l.Book (nth l.Pages i)∧(nth l.Pages i).Last≤l.Now:=h.page _ (Qi hi)
theorem LW.at(h:LW M n l)(hi:i<l.Pages.length):QI QT M l.Book (nth l.Pages i)∧(nth l.Pages i).Last≤l.Now:=h.page _ (Qi hi)
theorem LW.runEq(h:LW M n l)(hi:i<l.Pages.length):runI l i=putV l i (runV l.Config l.Book (nth l.Pages i) l.Now).1:=by
 unfold runI
 rw[(QcM h.book QT.step (h.at hi).1).2.1,if_neg (by simp)]
theorem Qe.runEq(h:Qe M n l)(hi:i<l.Pages.length):runI l i=putV l i (runV l.Config l.Book (nth l.Pages i) l.Now).1:=h.w.runEq hi
theorem Qe.run(h:Qe M n l)(hi:i<l.Pages.length):Qe M n (runI l i):=by
 rw[h.runEq hi]
 have hp:=h.at hi
 exact h.put hi (QcM h.book QT.step hp.1).1 (QtT h.book QT.step hp.1 hp.2) (QdY h.book QT.step hp.1).id (QmD h.book hp.1)
theorem Y3:(runI l i).Now=l.Now∧(runI l i).Config=l.Config∧(runI l i).Book=l.Book∧(runI l i).Owner=l.Owner∧(runI l i).Fence=l.Fence∧(runI l i).Seen=l.Seen∧(runI l i).Pages.length=l.Pages.length:=by
 unfold runI putV
 grind
theorem Qcc(h:Qe M n l)(hi:i<l.Pages.length){j:Nat}:nth (runI l i).Pages j=if j=i then(runV l.Config l.Book (nth l.Pages i) l.Now).1 else nth l.Pages j:=by
 rw[h.runEq hi]
 unfold putV
 dsimp only
 split
 ·rename_i e;subst e;rw[Xv hi]
 ·rename_i e;rw[Qat e]
theorem Yn:∀{k:Nat},(Zl l k).Now=l.Now∧(Zl l k).Config=l.Config∧(Zl l k).Book=l.Book∧(Zl l k).Owner=l.Owner∧(Zl l k).Fence=l.Fence∧(Zl l k).Seen=l.Seen∧(Zl l k).Pages.length=l.Pages.length
 |0=>⟨rfl,rfl,rfl,rfl,rfl,rfl,rfl⟩
 |k+1=>by
  have h1:=Y3 (l:=Zl l k) (i:=k)
  have h2:=Yn (k:=k)
  rw[Zl]
  exact⟨h1.1.trans h2.1,h1.2.1.trans h2.2.1,h1.2.2.1.trans h2.2.2.1,h1.2.2.2.1.trans h2.2.2.2.1,h1.2.2.2.2.1.trans h2.2.2.2.2.1,h1.2.2.2.2.2.1.trans h2.2.2.2.2.2.1,h1.2.2.2.2.2.2.trans h2.2.2.2.2.2.2⟩
theorem Qe.runs(h:Qe M n l):∀{k:Nat},k≤l.Pages.length→Qe M n (Zl l k)
 |0,_=>h
 |k+1,hk=>by
  have h2:=Yn (l:=l) (k:=k)
  exact(h.runs (k:=k) (by omega)).run (by omega)
theorem QlD{x:D.Edit}{s:Int}(h:Q3 n c)(hx:QaB x)(hs:0≤s∧s<2):Q3 (n+1) (Qi0 c s x):=by
 have hsl:=h.slen
 have hi:s.toNat<c.Schedules.length:=by omega
 have hso:=h.sched _ (Qi hi)
 refine⟨h.zone,h.pname,h.person,h.cal,?_,fun y hy=>?_⟩
 ·rw[←h.sname]
  unfold Qi0
  dsimp only
  refine List.ext_getElem (by simp) fun j h1 h2=>?_
  simp only[List.getElem_map,List.getElem_set]
  split
  ·rename_i e;subst e
   simp[nth,List.getD_eq_getElem?_getD,List.getElem?_eq_getElem hi]
  ·rfl
 ·obtain⟨j,hj,rfl⟩:=QlX hy
  have hj:j<(c.Schedules.set s.toNat _).length:=hj
  rw[List.length_set]at hj
  show Qdd (n+1) (nth (c.Schedules.set s.toNat _) j)
  by_cases e:j=s.toNat
  ·subst e
   rw[Xv hi]
   exact⟨hso.layers,by have:=hso.len;simp;omega,fun z hz=>by
    rcases List.mem_append.1 hz with hz|hz
    ·exact hso.edit z hz
    ·rw[List.mem_singleton.1 hz];exact hx⟩
  ·rw[Qat e]
   have:=h.sched _ (Qi hj)
   exact⟨this.layers,by have:=this.len;omega,this.edit⟩
structure OpIn (o:D.Op):Prop where
 id:1≤o.ID∧o.ID≤1099511627776
 kind:1≤o.Kind∧o.Kind≤5
 region:0≤o.Region∧o.Region≤4
 fence:0≤o.Fence∧o.Fence≤1048576
 at_:0≤o.At∧o.At≤8589934592
 page:0≤o.Page∧o.Page≤999999
 k : -1≤o.K∧o.K≤1000
 answer:o.Kind=4→YF o.Answer=true∧(o.Answer.Kind=3→o.Answer.Arg≤5000)
 edit:o.Kind=5→QaB o.Edit
theorem Quc{a:D.Answer}{t:Int}(h:YF a=true)(ht:0≤t∧t≤8589934592):YF { a with At:=t }=true:=by
 unfold YF at h ⊢
 simp only[bae,Qx]at h ⊢
 simp_all
theorem Qe.see{o:D.Op}(h:Qe M n l)(ho:OpIn o)(hn:max l.Now o.At≤M - 20000)(hs:l.Seen.contains o.ID=false)(hl:l.Seen.length<256):Qe M n { l with Now:=max l.Now o.At,Seen:=l.Seen++[o.ID] }:=by
 have hnow:=h.now;have hf:=h.fence
 refine⟨h.top,⟨by dsimp only;omega,hn⟩,h.small,h.cfg,h.book,fun p hp=>⟨(h.page p hp).1,by have:=(h.page p hp).2;dsimp only;omega⟩,h.asc,h.len,h.owner,⟨hf.1,by dsimp only;rw[List.length_append];simp;omega⟩,?_,h.told,h.all⟩
 have:=h.seen.snoc ho.id hs
 exact⟨by dsimp only;simp;omega,this.nodup,this.fit⟩
theorem LW.see{o:D.Op}(h:LW M n l)(ho:OpIn o)(hs:l.Seen.contains o.ID=false)(hl:l.Seen.length<256):LW M n { l with Now:=max l.Now o.At,Seen:=l.Seen++[o.ID] }:=by
 have hnow:=h.now;have hat:=ho.at_
 refine⟨h.top,⟨by dsimp only;omega,by dsimp only;omega⟩,h.small,h.cfg,h.book,fun p hp=>⟨(h.page p hp).1,by have:=(h.page p hp).2;dsimp only;omega⟩,h.asc,h.len,h.owner,h.fence,?_,h.told,h.all⟩
 have:=h.seen.snoc ho.id hs
 exact⟨by dsimp only;simp;omega,this.nodup,this.fit⟩
theorem Qe.open{o:D.Op}(h:Qe M n l)(hp:hasV o.Page l.Pages=false)(h1:1≤o.Page∧o.Page≤999999)(h2:0≤o.Policy∧o.Policy<(l.Book.Policies.length:Int))(hl:l.Pages.length<64):
  Qe M n { l with Pages:=insP l.Pages (newP o.Page o.Policy l.Now) }∧posV o.Page l.Pages<(insP l.Pages (newP o.Page o.Policy l.Now)).length∧nth (insP l.Pages (newP o.Page o.Policy l.Now)) (posV o.Page l.Pages)=newP o.Page o.Policy l.Now:=by
 have hnow:=h.now
 have hnew:QI QT M l.Book (newP o.Page o.Policy l.Now):=Qxb h.top h.book h1 h2 hnow
 have hlen:(insP l.Pages (newP o.Page o.Policy l.Now)).length=l.Pages.length+1:=by
  unfold insP;rw[List.length_append,List.length_cons,List.length_take,List.length_drop]
  omega
 have hpos:=QbH (id:=o.Page) (l:=l.Pages)
 refine⟨⟨h.top,h.now,h.small,h.cfg,h.book,fun q hq=>?_,QuW h.asc hp,by dsimp only;omega,h.owner,h.fence,h.seen,fun q hq=>?_,fun x hx=>?_⟩,by omega,?_⟩
 ·rcases Qf7.1 hq with rfl|hq
  ·exact⟨hnew,Int.le_refl _⟩
  ·exact h.page q hq
 ·rcases Qf7.1 hq with rfl|hq
  ·have e:ownC o.Page l.Calls=[]:=List.filter_eq_nil_iff.2 fun x hx=>by
    obtain⟨q,hq,e⟩:=h.all x hx
    have:=QsZ h.asc hp q hq
    simp;omega
   exact⟨by show(ownC o.Page l.Calls).map unf=_;rw[e];rfl,by show(ownC o.Page l.Calls).Pairwise _;rw[e];exact List.Pairwise.nil,by show ∀x∈ownC o.Page l.Calls,_;rw[e];simp⟩
  ·exact h.told q hq
 ·obtain⟨q,hq,e⟩:=h.all x hx
  exact⟨q,Qf7.2 (.inr hq),e⟩
 ·unfold insP
  show nth (l.Pages.take (posV o.Page l.Pages)++_::_) (posV o.Page l.Pages)=_
  simp[nth,List.getD_eq_getElem?_getD,List.getElem?_append,Nat.min_eq_left hpos]
theorem Qe.own{o:D.Op}(h:Qe M n l)(ho:OpIn o)(hf:o.Fence=l.Fence+1)(hs:l.Fence<(l.Seen.length:Int)):Qe M n { l with Owner:=o.Region,Fence:=o.Fence }:=by
 have hr:=ho.region;have h0:=h.fence
 exact⟨h.top,h.now,h.small,h.cfg,h.book,h.page,h.asc,h.len,⟨by dsimp only;omega,by dsimp only;omega⟩,⟨by dsimp only;omega,by dsimp only;omega⟩,h.seen,fun p hp=>(h.told p hp).mono (by dsimp only;omega),h.all⟩
theorem Qe.edit{o:D.Op}(h:Qe M n l)(hn:n<48)(hx:QaB o.Edit)(hs:0≤o.Schedule∧o.Schedule<2):Qe M (n+1) { l with Config:=Qi0 l.Config o.Schedule o.Edit }:=
 ⟨h.top,h.now,by omega,QlD h.cfg hx hs,h.book,h.page,h.asc,h.len,h.owner,h.fence,h.seen,h.told,h.all⟩
theorem Qe.wide(h:Qe M n l)(hn:n<48):Qe M (n+1) l:=
 ⟨h.top,h.now,by omega,h.cfg.mono (by omega),h.book,h.page,h.asc,h.len,h.owner,h.fence,h.seen,h.told,h.all⟩
theorem VD{id:Int}(h:hasV id l.Pages=true):posV id l.Pages<l.Pages.length∧(nth l.Pages (posV id l.Pages)).ID=id:=by
 unfold hasV at h;exact of_decide_eq_true h
theorem Qe.answer{a:D.Answer}(h:Qe M n l)(hi:i<l.Pages.length)(ha:a.At=l.Now)(hv:YF a=true)(hs:a.Kind=3→a.Arg≤5000)(hr:(answerV l.Book (nth l.Pages i) a).2=0):Qe M n (putV l i (answerV l.Book (nth l.Pages i) a).1):=by
 have hp:=h.at hi
 have hc:=hp.1.check h.book
 have hnow:=h.now
 revert hr
 unfold answerV
 rw[hc,hv,if_neg (by simp)]
 split
 ·intro e;simp at e
 ·split
  ·intro _;exact h.put hi hp.1 hp.2 rfl (Ext.refl _)
  ·rename_i hs2
   split
   ·omega
   ·rename_i hre
    intro _
    have hre:XC (nth l.Pages i) a=0:=by simpa using hre
    have h0:=Qoo hre
    exact h.put hi (hp.1.answerQ_inv h.book hv (by omega) hs (by simpa using hs2) hre) (by rw[←ha];exact QmX h0.1) QgF.1 Qfa
theorem Qe.op{o:D.Op}(h:Qe M n l)(hn:n<48)(ho:OpIn o)(hs:l.Fence<(l.Seen.length:Int)):Qe M (n+1) (opV l o).1:=by
 have hw:=h.wide hn
 have hk:=ho.kind
 unfold opV
 split
 ·split
  ·exact hw
  ·rename_i hp
   split
   ·exact hw
   ·split
    ·exact hw
    ·split
     ·rename_i h1 h2 h3
      have h4:=ho.page;have h5:=h.len
      have:=hw.open (o:=o) (by simpa using hp) (by omega) h3 (by omega)
      exact this.1.run this.2.1
     ·exact hw
 ·split
  ·split
   ·rename_i hf
    exact hw.own ho hf hs
   ·exact hw
  ·split
   ·split
    ·split
     ·rename_i hp
      generalize (if (nth l.Pages (posV o.Page l.Pages)).State=2 then(-1:Int)else(nth l.Pages (posV o.Page l.Pages)).Next)=kk
      split
      ·exact hw.run (VD hp).1
      ·exact hw
     ·exact hw
    ·exact hw
   ·split
    ·rename_i k4
     split
     ·rename_i hp
      have hi:=(VD hp).1
      have hr:=hw.run hi
      have hkp:=Y3 (l:=l) (i:=posV o.Answer.Page l.Pages)
      have ha:=ho.answer k4
      have hnow:=h.now;have htop:=h.top
      split
      ·rename_i he
       have:=hr.answer (i:=posV o.Answer.Page l.Pages) (a:={ o.Answer with At:=l.Now }) (by omega) hkp.1.symm (Quc ha.1 (by omega)) ha.2 (by rw[hkp.2.2.1];exact he)
       simp_all
      ·exact hr
     ·exact hw
    ·have he:=ho.edit (by omega)
     split
     ·rename_i hsch
      have h3:=h.runs (Nat.le_refl _)
      have h4:=Yn (l:=l) (k:=l.Pages.length)
      have:=h3.edit hn he hsch
      simp_all
     ·exact hw.runs (Nat.le_refl _)
theorem Qe.apply{o:D.Op}(h:Qe M n l)(hn:n<48)(ho:OpIn o)(ht:max l.Now o.At≤M - 20000)(hl:l.Seen.length<256):Qe M (n+1) (Zb l o).1:=by
 unfold Zb
 split
 ·exact h.wide hn
 ·rename_i hs
  exact(h.see ho ht (by simpa using hs) hl).op hn ho (by dsimp only;have:=h.fence;rw[List.length_append];simp;omega)
end
end Go.Proofs.YtadlpefpehjcoaaGreat
