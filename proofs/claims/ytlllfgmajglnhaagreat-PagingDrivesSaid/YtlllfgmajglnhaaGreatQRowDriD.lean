/-
  What functions do, reckoned from their code, and their contracts. Printed by wip/gen/brun.py.
-/
import Derived.Test.YtlllfgmajglnhaaGreatQRowDriC
set_option maxRecDepth 100000
set_option linter.defProp false
set_option linter.constructorNameAsVariable false
set_option linter.unusedVariables false
namespace Go.Proofs.YtlllfgmajglnhaaGreat
open Go AM IntKind
section
noncomputable section
open fk Tryz
variable (u:Nat)
def QjJ(u:Nat)(a:Y Int):I AH:=some (decide ((a.length:Int)<=500))
def Qo1:o 10 (s [lI] [h] (QjJ u)):=f u g t func10
def QfC(u:Nat)(a:Y Int):I D.FC:=some (D.FC.mk a 0)
def Qke:o 12 (Qn [lI] [] [.one (.TM 1005)] [w 1005 .FC] [] D.FC kz6 (fun x y=>QfC u x.1)):=i u g kz10 t func12
def Wm(u:Nat)(a:Int)(b:Int)(c:Int):I AH:=cd (b<=a) (cd (a<=c) sT sF) sF
def Qei:o 114 (s [d,d,d] [h] (Wm u)):=f u g t func114
def Qbm(b:Y Int)(g:Int):I Int:=Qe (fun h ((c,e,f,a,_),_)=>cd (a<f) (TN c a fun i=>cd (e=i) (some a) (h ((c,e,f,(J (a+1)),()),()))) (some (-1))) u ((b,g,(b.length:Int),0,()),())
def Qh7:o 239 (s [lI,d] [d] (Qbm u)):=f u (c g (m [.s 0 lI,.n 1,.n 7,.n 8] g)) t func239
def Yo(a:Y Int)(b:Int):I AH:=O (Qbm u a b) fun c=>some (decide (0<=c))
def WP:o 171 (s [lI,d] [h] (Yo u)):=f u g (e (Qh7 u) t) func171
def Qgx(f:Y Int):I AH:=Qe (fun k ((a,g,h,b,_),_)=>cd (b<h) (TG (fun((l,m,n,o,_),_)=>k ((l,m,n,(J (o+1)),()),())) fun p=>TN g b fun c=>O (Wm u c 1 1099511627776) fun i=>C i (TK b fun e=>TO e a.length (O (Yo u (List.take e a) c) fun j=>C j sF (p ((a,g,h,b,()),())))) sF) (some (decide ((a.length:Int)<=256)))) u ((f,f,(f.length:Int),0,()),())
def Qpb:o 115 (s [lI] [h] (Qgx u)):=f u (c g (m [.s 0 lI,.s 5 lI,.n 6,.n 7] (n 2 (c (j [.s 0 lI,.s 5 lI,.n 6,.n 7] g) g)))) (e (Qei u) (e (WP u) t)) func115
def Yx(u:Nat)(a:Int)(b:Int)(c:Int):I AH:=cd (b<=a) (cd (a<=c) sT sF) sF
def Vi:o 255 (s [d,d,d] [h] (Yx u)):=f u g t func255
def QgC(g:D.F)(e:Y Int):I Int:=cd ((e.length:Int)=0) (some 7) (Qe (fun h ((a,b,_),c,_)=>cd (b<(a.length:Int)) (TN a b fun i=>TN a (J (b - 1)) fun j=>cd (i<=j) (some 6) (h ((a,(J (b+1)),()),c,()))) (TG (fun(_,_)=>some 0) fun k=>TN a 0 fun l=>O (Yx u l 0 (J ((c.l.length:Int) - 1))) fun m=>C m (TN a (J ((a.length:Int) - 1)) fun n=>O (Yx u n 0 (J ((c.l.length:Int) - 1))) fun f=>C f (k ((),())) (some 3)) (some 3))) u ((e,1,()),g,()))
def Qph:o 176 (s [tO,lI] [d] (QgC u)):=f u (n 2 (c (c g (.one (k [.s 1 lI,.r 2 .F,.n 5] g))) (c (j [] g) g))) (e (Vi u) t) func176
def Vj(u:Nat)(a:D.F)(b:D.b):I D.Fq:=some (D.Fq.mk (a.l.length:Int) (a.f.length:Int) (b.v.length:Int))
def QfM:o 325 (s [tO,L] [.st .Fq] (Vj u)):=f u g t func325
def Qem(v:D.F)(w:D.b)(e:D.y):I Int:=O (Yx u e.Fs 0 86400) fun y=>C (!y) (some 1) (cd (6<(e.Fe.length:Int)) (some 5) (O (Vj u v w) fun k=>Qe (fun z ((f,g,b,_),(h,i,j,_),_)=>cd (b<g) (TG (fun((A,l,m,_),(n,o,p,_),_)=>z ((A,l,(J (m+1)),()),(n,o,p,()),())) fun c=>TN f b fun a=>O (Yx u a.Z 0 2) fun q=>C q (cd (a.Z=((0:Nat):Int)) (O (Yx u a.FW 0 (J (h - 1))) fun r=>C r (c ((f,g,b,()),(h,i,j,()),())) (some 3)) (cd (a.Z=(((0+1):Nat):Int)) (O (Yx u a.FW 0 (J (i - 1))) fun s=>C s (c ((f,g,b,()),(h,i,j,()),())) (some 3)) (cd (a.Z=((((0+1)+1):Nat):Int)) (O (Yx u a.FW 0 (J (j - 1))) fun t=>C t (c ((f,g,b,()),(h,i,j,()),())) (some 3)) none))) (some 3)) (some 0)) u ((e.Fe,(e.Fe.length:Int),0,()),(k.a0,k.a1,k.a2,()),())))
def Qnm:o 257 (s [tO,L,.st .y] [d] (Qem u)):=f u (n 4 (m [.s 7 (.one (.TM 1007)),.l 22 .FL,.n 23,.n 24] (n 2 (c (j [.s 7 (.one (.TM 1007)),.l 22 .FL,.n 23,.n 24] g [(1007,.box [v,v,v])]) g)) [(1007,.box [v,v,v])])) (e (Vi u) (e (QfM u) t)) func257
def VW(u:Nat)(b:Int)(a:D.b):I AJ:=TN a.k b fun c=>TF a a (some c.Name)
def QjQ:o 256 (Qn [d,.one (.TM 101)] [w 101 .b] [tx] [] [101] AJ kz2 (fun x y=>VW u x.1 y.1)):=i u g kz4 t func256
def ZD(c:Int)(c101:D.b):I AH:=Qe (fun g ((e,f,b,_),a,_)=>cd (b<f) (O (VW u b a) fun h=>O (VW u e a) fun i=>cd (h=i) (TF a c101 sT) (g ((e,f,(J (b+1)),()),a,()))) (TF a c101 sF)) u ((c,c,0,()),c101,())
def UC:o 174 (Qn [d,.one (.clo 256 [101])] [w 101 .b] [h] [] [101] AH kz2 (fun x y=>ZD u x.1 y.1)):=i u (c g (m [.n 0,.s 1 (.one (.clo 256 [101])),.n 6,.n 7] g [w 101 .b])) kz4 (e (QjQ u) t) func174
def QfL(l:D.F)(c:D.b)(f:Int):I Int:=TN c.k f fun a=>O (QbV u a.Name) fun m=>C (!m) (some 8) (O (ZD u f c) fun n=>C n (some 4) (cd ((a.Steps.length:Int)=0) (some 7) (cd (8<(a.Steps.length:Int)) (some 5) (O (Yx u a.Fh 0 8) fun o=>C (!o) (some 1) (Qe (fun p ((g,h,e,_),i,j,_)=>cd (e<h) (TN g e fun k=>O (Qem u i j k) fun b=>cd (b≠0) (some b) (p ((g,h,(J (e+1)),()),i,j,()))) (some 0)) u ((a.Steps,(a.Steps.length:Int),0,()),l,c,()))))))
def Qmk:o 177 (s [tO,L,d] [d] (QfL u)):=f u (n 3 (m [.r 3 .F,.r 4 .b,.l 41 .y,.n 42,.n 43] g)) (e (Qed u) (e (UC u) (e (Vi u) (e (Qnm u) t)))) func177
def VV(u:Nat)(b:Int)(a:D.b):I AJ:=TN a.v b fun c=>TF a a (some c.Name)
def QjP:o 175 (Qn [d,.one (.TM 101)] [w 101 .b] [tx] [] [101] AJ kz2 (fun x y=>VV u x.1 y.1)):=i u g kz4 t func175
def ZC(c:Int)(c101:D.b):I AH:=Qe (fun g ((e,f,b,_),a,_)=>cd (b<f) (O (VV u b a) fun h=>O (VV u e a) fun i=>cd (h=i) (TF a c101 sT) (g ((e,f,(J (b+1)),()),a,()))) (TF a c101 sF)) u ((c,c,0,()),c101,())
def UB:o 174 (Qn [d,.one (.clo 175 [101])] [w 101 .b] [h] [] [101] AH kz2 (fun x y=>ZC u x.1 y.1)):=i u (c g (m [.n 0,.s 1 (.one (.clo 175 [101])),.n 6,.n 7] g [w 101 .b])) kz4 (e (QjP u) t) func174
def QcP(m:D.F)(j:D.b):I Int:=O (Q6 u m) fun v=>cd (v≠0) (some 8) (TG (fun(_,w,k,_)=>Qe (fun y ((n,o,b,_),l,c,_)=>cd (b<o) (TN n b fun p=>O (QbV u p.Name) fun q=>C (!q) (some 8) (O (ZC u b c) fun r=>C r (some 4) (O (QgC u l p.s) fun e=>cd (e≠0) (some e) (y ((n,o,(J (b+1)),()),l,c,()))))) (Qe (fun s ((f,a,_),g,h,_)=>cd (a<f) (O (QfL u g h a) fun i=>cd (i≠0) (some i) (s ((f,(J (a+1)),()),g,h,()))) (some 0)) u (((c.k.length:Int),0,()),l,c,()))) u ((k.v,(k.v.length:Int),0,()),w,k,())) fun t=>cd (8<(j.v.length:Int)) (some 5) (cd (12<(j.k.length:Int)) (some 5) (t ((),m,j,()))))
def Qmj:o 116 (s [tO,L] [d] (QcP u)):=f u (n 2 (c (j [.r 2 .F,.r 3 .b] g) (c (c g (.one (k [.r 2 .F,.r 3 .b,.l 24 .FU,.n 25,.n 26] g))) (m [.r 2 .F,.r 3 .b,.n 48,.n 49] g)))) (e (Qbk u) (e (Qed u) (e (UB u) (e (Qph u) (e (Qmk u) t))))) func116
def Q7(u:Nat)(a:Int)(b:Int)(c:Int):I AH:=cd (b<=a) (cd (a<=c) sT sF) sF
def WJ:o 258 (s [d,d,d] [h] (Q7 u)):=f u g t func258
def Vg(a:D.W):I Int:=TG (fun(_,b,_)=>some (J ((b.Steps.length:Int)*(J (b.Fh+1))))) fun c=>O (Yx u a.Fh 0 8) fun e=>C e (cd (8<(a.Steps.length:Int)) (some 0) (c ((),a,()))) (some 0)
def Qcg:o 261 (s [t15] [d] (Vg u)):=f u (c g (c (j [.r 1 .W] g) g)) (e (Vi u) t) func261
def QaO(a:D.Page):I AH:=O (Q7 u a.FM a.T 17179869184) fun b=>C b (O (Q7 u a.FJ 0 17179869184) fun c=>C c (O (Q7 u a.FK 0 17179869184) fun e=>C e (O (Q7 u a.E6 0 4) fun f=>C f (O (Q7 u a.FI 0 4) fun g=>C g sT sF) sF) sF) sF) sF
def QjC:o 262 (s [E] [h] (QaO u)):=f u g (e (WJ u) t) func262
def QaY(c:Y Int):I AH:=Qe (fun k ((e,f,g,a,_),_)=>cd (a<g) (TG (fun((l,m,n,o,_),_)=>k ((l,m,n,(J (o+1)),()),())) fun h=>TN f a fun b=>O (Q7 u b 0 31) fun i=>C i (cd (0<a) (TN e (J (a - 1)) fun j=>cd (b<=j) sF (h ((e,f,g,a,()),()))) (h ((e,f,g,a,()),()))) sF) sT) u ((c,c,(c.length:Int),0,()),())
def Qfw:o 264 (s [lI] [h] (QaY u)):=f u (c g (m [.s 0 lI,.s 5 lI,.n 6,.n 7] (n 2 (c (j [.s 0 lI,.s 5 lI,.n 6,.n 7] g) g)))) (e (WJ u) t) func264
def V1(b:D.Page):I AH:=Qe (fun p ((q,h,i,j,c,_),e,_)=>cd (c<j) (TN i c fun a=>TG (fun((r,s,k,l,_),m,f,_)=>p ((f.At,(max r f.K),s,k,(J (l+1)),()),m,())) fun g=>cd (a.At<q) sF (O (QaY u a.l) fun n=>C n (cd (a.K≠(-1)) (O (Q7 u a.K (J (h+1)) (J (e.E7 - 1))) fun o=>C o (g ((h,i,j,c,()),e,a,())) sF) (g ((h,i,j,c,()),e,a,()))) sF)) (some (decide ((e.P.length:Int)<=200)))) u ((b.T,(-1),b.P,(b.P.length:Int),0,()),b,())
def QhC:o 263 (s [E] [h] (V1 u)):=f u (n 2 (m [.r 1 .Page,.n 3,.n 4,.l 10 .T,.n 11,.n 12] (n 2 (c (.one (c g (c (j [.r 1 .Page,.n 4,.r 6 .T,.l 10 .T,.n 11,.n 12] g) g))) g)))) (e (WJ u) (e (Qfw u) t)) func263
def QbB(c:Y Int):I AH:=Qe (fun h ((a,e,f,b,_),_)=>cd (b<f) (TN e b fun i=>TK b fun g=>TO g a.length (O (Yo u (List.take g a) i) fun j=>C j sF (h ((a,e,f,(J (b+1)),()),())))) (some (decide ((a.length:Int)<=64)))) u ((c,c,(c.length:Int),0,()),())
def Qkx:o 265 (s [lI] [h] (QbB u)):=f u (c g (m [.s 0 lI,.s 5 lI,.n 6,.n 7] g)) (e (WP u) t) func265
def Qbi(a:D.y):I AH:=O (Q7 u a.Fs 0 86400) fun b=>some (!b)
def QhB:o 260 (s [.st .y] [h] (Qbi u)):=f u g (e (WJ u) t) func260
def Q4(b:Y D.y):I Int:=Qe (fun f ((c,e,a,_),_)=>cd (a<e) (TN c a fun g=>O (Qbi u g) fun h=>C h (some a) (f ((c,e,(J (a+1)),()),()))) (some (-1))) u ((b,(b.length:Int),0,()),())
def Xk:o 326 (s [l .y,.one (.fv 260)] [d] (Q4 u)):=f u (c g (m [.l 0 .y,.s 1 (.one (.fv 260)),.n 7,.n 8] g)) (e (QhB u) t) func326
def Qr(a:Y D.y):I AH:=O (Q4 u a) fun b=>some (decide (0<=b))
def Y0:o 259 (s [l .y,.one (.fv 260)] [h] (Qr u)):=f u g (e (Xk u) t) func259
def Yq(e:D.b)(b:D.Page):I AH:=TG (fun(_,o,c,_)=>TN o.k c.W fun f=>TG (fun(_,a,_)=>O (Q7 u a.p 0 4) fun p=>C p (O (Q7 u a.By (-1) 31) fun q=>C q (O (QaO u a) fun r=>C r (O (V1 u a) fun s=>C s (O (QaY u a.i) fun t=>C t (O (QbB u a.h) fun v=>C v sT sF) sF) sF) sF) sF) sF) fun g=>O (Qr u f.Steps) fun h=>C h sF (O (Vg u f) fun i=>O (Q7 u c.E7 0 i) fun j=>C j (g ((),c,())) sF)) fun k=>O (Q7 u b.S 1 999999) fun l=>C l (O (Q7 u b.W 0 (J ((e.k.length:Int) - 1))) fun m=>C m (O (Q7 u b.T 0 8589934592) fun n=>C n (k ((),e,b,())) sF) sF) sF
def Vx:o 178 (s [L,E] [h] (Yq u)):=f u (c g (c (j [.r 2 .b,.r 3 .Page] g) (c g (c (j [.r 3 .Page] g) g)))) (e (WJ u) (e (Y0 u) (e (Qcg u) (e (QjC u) (e (QhC u) (e (Qfw u) (e (Qkx u) t))))))) func178
def X8(u:Nat)(a:Y D.Call):I (Y D.Call):=TR a (TU (some []) (TO a.length 34359738368 (some a))) (TO a.length 34359738368 (some a))
def Qbt:o 180 (Qn [l .Call] [] [.one (.own 1007)] [p 1007 .Call] [] (Y D.Call) kz6 (fun x y=>X8 u x.1)):=i u g kz10 t func180
def Qeh(q:D.Page)(p1:Y D.Call)(p2:Int):I AH:=Qe (fun L0 ((t,a2,v,a4,w,y,r,_),a8,_)=>cd (r<y) (TN w r fun s=>Qe (fun z ((a,e,b,i,j,k,l,m,n,f,_),g,h,_)=>cd (f<n) (TN m f fun A=>TG (fun((o,B,p,zH,E,F,G,H,zE,_),zG,L,_)=>TN o p fun zC=>z ((o,B,(J (p+1)),zC.Fence,zH,E,F,G,H,(J (zE+1)),()),zG,L,())) fun zI=>cd (b=(a.length:Int)) sF (TN a b fun W=>O (Wm u W.Fence i e) fun Z=>C Z (TN a b fun c=>TN a b fun a0=>cd ([c.Page,c.K,c.At,c.R,c.Fence]≠[g.S,h.K,h.At,A,a0.Fence]) sF (zI ((a,e,b,j,k,l,m,n,f,()),g,h,()))) sF)) (L0 ((a,e,b,i,j,k,(J (l+1)),()),g,()))) u ((t,a2,v,a4,w,y,r,s.l,(s.l.length:Int),0,()),a8,s,())) (some (decide (v=(t.length:Int))))) u ((p1,p2,0,0,q.P,(q.P.length:Int),0,()),q,())
def Qne:o 182 (s [E,l .Call,d] [h] (Qeh u)):=f u (n 2 (m [.l 1 .Call,.n 2,.r 3 .Page,.n 7,.n 8,.l 14 .T,.n 15,.n 16] (n 2 (c (.one (n 2 (.one (k [.l 1 .Call,.n 2,.r 3 .Page,.n 7,.n 8,.r 10 .T,.l 14 .T,.n 15,.n 16,.s 21 lI,.n 22,.n 23] (n 2 (c (.one (c g (c (j [.l 1 .Call,.n 2,.r 3 .Page,.n 7,.r 10 .T,.l 14 .T,.n 15,.n 16,.s 21 lI,.n 22,.n 23] g) g))) g)))))) g)))) (e (Qei u) t) func182
def UV(u:Nat)(b:D.Call)(a:D.Page):I AH:=TF a a (some (decide (b.Page≠a.S)))
def QeV:o 181 (Qn [.st .Call,.one (.TM 101)] [w 101 .Page] [h] [] [101] AH kz2 (fun x y=>UV u x.1 y.1)):=i u g kz4 t func181
def Q0(b:Y D.Call)(c102:D.Page):I Int:=Qe (fun h ((f,c,_),e,a,_)=>cd (c<f) (TK c fun g=>TP g a.length (O a[g]? fun i=>O (UV u i e) fun j=>C j (TF a b (TF e c102 (some c))) (h ((f,(J (c+1)),()),e,a,())))) (TF a b (TF e c102 (some (-1))))) u (((b.length:Int),0,()),c102,b,())
def WE:o 266 (Qn [.one (.own 101),.one (.clo 181 [102])] [p 101 .Call,w 102 .Page] [d] [] [101,102] Int kz2 (fun x y=>Q0 u y.1 y.2.1)):=i u (c g (lp [(0,.one (.own 101)),(1,.one (.clo 181 [102])),G 7,G 8] [w 102 .Page,p 101 .Call] g)) kz4 (e (QeV u) t) func266
def QW(f:Y D.Call)(c102:D.Page):I (Nat×Nat×Y D.Call):=O (Q0 u f c102) fun m=>cd (m=(-1)) (TF c102 c102 (some (0,f.length,f))) (Qe (fun o ((c,g,_),h,a,_)=>cd (g<(a.length:Int)) (TG (fun((p,q,_),r,s,_)=>o ((p,(J (q+1)),()),r,s,())) fun i=>TK g fun j=>TP j a.length (O a[j]? fun k=>O (UV u k h) fun n=>C (!n) (TK c fun e=>TP e a.length (O a[e]? fun t=>i (((J (c+1)),g,()),h,(List.set a e k),()))) (i ((c,g,()),h,a,())))) (TK c fun b=>TO b a.length (TO b a.length (TO a.length a.length (TK c fun l=>TO l (((List.take b a)++(List.replicate (a.length - b) (D.Call.mk 0 0 0 0 0)))++(List.drop a.length a)).length (TF h c102 (some (0,l,(((List.take b a)++(List.replicate (a.length - b) (D.Call.mk 0 0 0 0 0)))++(List.drop a.length a)))))))))) u ((m,(J (m+1)),()),c102,f,()))
def Ww:o 179 (Qn [.one (.own 101),.one (.clo 181 [102])] [p 101 .Call,w 102 .Page] [.one (.view 101)] [p 101 .Call] [102] (Nat×Nat×Y D.Call) kz18 (fun x y=>QW u y.1 y.2.1)):=i u (n 3 (lp [(0,.one (.own 101)),(1,.one (.clo 181 [102])),G 5,G 6] [w 102 .Page,p 101 .Call] (c g (c (.TG [(0,.one (.own 101)),(1,.one (.clo 181 [102])),G 5,G 6] [w 102 .Page,p 101 .Call] g) g)))) kz20 (e (QeV u) (e (WE u) t)) func179
def QhN(k:D.G):I AH:=Qe (fun v ((l,m,n,c,_),a,_)=>cd (c<n) (TN m c fun b=>TG (fun((w,y,z,o,_),e,f,_)=>O (X8 u e.Calls) fun p=>O (QW u p f) fun(g,h,i)=>O (Qeh u f (List.drop g (List.take h i)) e.Fence) fun q=>C (!q) sF (v (((J (w+(((List.drop g (List.take h i)).length:Nat):Int))),y,z,(J (o+1)),()),e,()))) fun j=>cd (0<c) (TN a.H (J (c - 1)) fun r=>cd (b.S<=r.S) sF (O (Yq u a.b b) fun s=>C s (cd (a.E9<b.FM) sF (j ((l,m,n,c,()),a,b,()))) sF)) (O (Yq u a.b b) fun t=>C t (cd (a.E9<b.FM) sF (j ((l,m,n,c,()),a,b,()))) sF)) (some (decide (l=(a.Calls.length:Int))))) u ((0,k.H,(k.H.length:Int),0,()),k,())
def Qng:o 117 (s [H] [h] (QhN u)):=f u (n 2 (m [.r 1 .G,.n 3,.l 8 .Page,.n 9,.n 10] (n 2 (c (.one (c g (c (j [.r 1 .G,.n 3,.r 5 .Page,.l 8 .Page,.n 9,.n 10] g) g))) g)))) (e (Vx u) (e (Ww u) (e (Qbt u) (e (Qne u) t)))) func117
def XM(a:D.G):I AH:=TG (fun(_,b,_)=>O (QcP u b.F b.b) fun c=>cd (c=0) (O (QhN u b) fun e=>C e sT sF) sF) fun f=>O (Wm u a.E9 0 8589934592) fun g=>C g (cd (64<(a.H.length:Int)) sF (O (Wm u a.E5 (-1) 4) fun h=>C h (O (Wm u a.Fence 0 1048576) fun i=>C i (O (Qgx u a.h) fun j=>C j (f ((),a,())) sF) sF) sF)) sF
def VT:o 68 (s [H] [h] (XM u)):=f u (c g (c (j [.r 1 .G] g) g)) (e (Qei u) (e (Qpb u) (e (Qmj u) (e (Qng u) t)))) func68
def Qdy(u:Nat)(a:Int)(b:Int)(c:Int):I AH:=cd (b<=a) (cd (a<=c) sT sF) sF
def QfJ:o 78 (s [d,d,d] [h] (Qdy u)):=f u g t func78
def U4(u:Nat)(a:Int)(b:Int)(c:Int):I AH:=cd (b<=a) (cd (a<=c) sT sF) sF
def Qf3:o 118 (s [d,d,d] [h] (U4 u)):=f u g t func118
def QaK(u:Nat)(a:Int)(b:Int)(c:Int):I AH:=cd (b<=a) (cd (a<=c) sT sF) sF
def Qd1:o 183 (s [d,d,d] [h] (QaK u)):=f u g t func183
def QeO(b:D.N):I AH:=Qe (fun h ((i,e,f,c,_),a,_)=>cd (c<f) (TN e c fun g=>O (QaK u g.Q i a.Q) fun j=>C (!j) sF (h ((g.Q,e,f,(J (c+1)),()),a,()))) (cd ((a.j.length:Int)<=256) (O (QaK u a.d 0 (a.j.length:Int)) fun k=>C k sT sF) sF)) u ((1,b.j,(b.j.length:Int),0,()),b,())
def Qny:o 223 (s [zG] [h] (QeO u)):=f u (n 2 (m [.r 1 .N,.n 3,.l 7 .m,.n 8,.n 9] g)) (e (Qd1 u) t) func223
def Qd2(u:Nat)(b:Int)(a:D.N):I AH:=cd ((a.FQ.length:Int)=b) (TN a.FQ a.S fun c=>C c sT sF) sF
def Qp5:o 224 (s [d,zG] [h] (Qd2 u)):=f u g t func224
def Qdj(b:Int)(a:D.N):I AH:=O (QaK u b 0 (a.j.length:Int)) fun c=>TF a a (some (!c))
def Qj2:o 308 (Qn [d,.one (.TM 101)] [w 101 .N] [h] [] [101] AH kz2 (fun x y=>Qdj u x.1 y.1)):=i u g kz4 (e (Qd1 u) t) func308
def ZI(c:Y Int)(c101:D.N):I Int:=Qe (fun g ((e,f,a,_),b,_)=>cd (a<f) (TN e a fun h=>O (Qdj u h b) fun i=>C i (TF b c101 (some a)) (g ((e,f,(J (a+1)),()),b,()))) (TF b c101 (some (-1)))) u ((c,(c.length:Int),0,()),c101,())
def W6:o 341 (Qn [lI,.one (.clo 308 [101])] [w 101 .N] [d] [] [101] Int kz2 (fun x y=>ZI u x.1 y.1)):=i u (c g (m [.s 0 lI,.s 1 (.one (.clo 308 [101])),.n 7,.n 8] g [w 101 .N])) kz4 (e (Qj2 u) t) func341
def Zo(a:Y Int)(c101:D.N):I AH:=O (ZI u a c101) fun b=>TF c101 c101 (some (decide (0<=b)))
def Wv:o 307 (Qn [lI,.one (.clo 308 [101])] [w 101 .N] [h] [] [101] AH kz2 (fun x y=>Zo u x.1 y.1)):=i u g kz4 (e (W6 u) t) func307
def Qgi(b:Int)(a:D.N):I AH:=cd ((a.E8.length:Int)=b) (TN a.E8 a.S fun c=>cd (c=(a.j.length:Int)) (O (Zo u a.E8 a) fun e=>C e sF sT) sF) sF
def QmY:o 225 (s [d,zG] [h] (Qgi u)):=f u g (e (Wv u) t) func225
def Uz(c:Int)(b:D.N):I AH:=TG (fun((e,_),a,_)=>cd (a.FA=0) (cd ((a.FQ.length:Int)=0) (cd ((a.E8.length:Int)=0) sT sF) sF) (cd (a.FA=1) (O (Qd2 u e a) fun g=>C g (cd ((a.E8.length:Int)=0) sT sF) sF) (cd (a.FA=2) (O (Qd2 u e a) fun h=>C h (O (Qgi u e a) fun i=>C i sT sF) sF) sF))) fun j=>O (QaK u c 1 5) fun k=>C k (O (QaK u b.S 0 (J (c - 1))) fun l=>C l (O (QaK u b.Q 0 1048576) fun m=>C m (O (QaK u b.FZ (-1) (J (c - 1))) fun n=>C n (O (QeO u b) fun f=>C f (j ((c,()),b,())) sF) sF) sF) sF) sF
def Qjk:o 160 (s [d,zG] [h] (Uz u)):=f u (c g (c (j [.n 0,.r 3 .N] g) g)) (e (Qd1 u) (e (Qny u) (e (Qp5 u) (e (QmY u) t)))) func160
def Qac(b:Y D.FD)(c:D.FD):I Int:=Qe (fun j ((e,f,a,_),(g,h,_),_)=>cd (a<f) (TN e a fun i=>cd ([g,h]=[i.a0,i.a1]) (some a) (j ((e,f,(J (a+1)),()),(g,h,()),()))) (some (-1))) u ((b,(b.length:Int),0,()),(c.a0,c.a1,()),())
def Qge:o 226 (s [l .FD,.st .FD] [d] (Qac u)):=f u (c g (m [.l 0 .FD,.s 3 (.one (.TM 1003)),.n 7,.n 8] g [(1003,.box [v,v])])) t func226
def XE(a:Y D.FD)(b:D.FD):I AH:=O (Qac u a b) fun c=>some (decide (0<=c))
def QdU:o 161 (s [l .FD,.st .FD] [h] (XE u)):=f u g (e (Qge u) t) func161
def Vo(g:D.M):I AH:=TG (fun((a0,_),s,_)=>Qe (fun L2 ((t,v,w,k,_),l,_)=>cd (k<w) (TG (fun((a8,a9,y,z,_),A,_)=>L2 ((a8,a9,y,(J (z+1)),()),A,())) fun B=>TN v k fun m=>cd (m.S≠k) sF (O (Uz u t m) fun zH=>C zH (B ((t,v,w,k,()),l,())) sF)) (Qe (fun E ((a,n,o,h,_),b,_)=>cd (h<o) (TG (fun((F,G,H,zE,_),zG,_)=>E ((F,G,H,(J (zE+1)),()),zG,())) fun L=>TN n h fun c=>O (U4 u c.w 0 (J (a - 1))) fun zC=>C zC (O (U4 u c.To 0 (J (a - 1))) fun zI=>C zI (cd (c.w=c.To) sF (L ((a,n,o,h,()),b,()))) sF) sF) (Qe (fun W ((i,p,q,e,_),j,_)=>cd (e<q) (TG (fun((Z,a2,aA,aB,_),aC,_)=>W ((Z,a2,aA,(J (aB+1)),()),aC,())) fun aD=>TN p e fun f=>O (U4 u f.a0 0 (J (i - 1))) fun aE=>C aE (O (U4 u f.a1 (J (f.a0+1)) (J (i - 1))) fun aF=>C aF (TK e fun r=>TO r j.Fg.length (O (XE u (List.take r j.Fg) f) fun aG=>C aG sF (aD ((i,p,q,e,()),j,())))) sF) sF) sT) u ((a,b.Fg,(b.Fg.length:Int),0,()),b,()))) u ((t,l.u,(l.u.length:Int),0,()),l,()))) u ((a0,s.E,(s.E.length:Int),0,()),s,())) fun aH=>O (U4 u (g.E.length:Int) 1 5) fun aI=>C aI (cd ((g.FP.length:Int)≠(g.E.length:Int)) sF (cd (256<(g.u.length:Int)) sF (aH (((g.E.length:Int),()),g,())))) sF
def Qcp:o 104 (s [K] [h] (Vo u)):=f u (n 2 (c (j [.r 1 .M,.n 3] g) (c (c g (.one (k [.r 1 .M,.n 3,.l 30 .N,.n 31,.n 32] (n 2 (c (j [.r 1 .M,.n 3,.l 30 .N,.n 31,.n 32] g) g))))) (c (c g (.one (k [.r 1 .M,.n 3,.l 49 .c,.n 50,.n 51] (n 2 (c (j [.r 1 .M,.n 3,.l 49 .c,.n 50,.n 51] g) g))))) (m [.r 1 .M,.n 3,.l 78 .FD,.n 79,.n 80] (n 2 (c (j [.r 1 .M,.n 3,.l 78 .FD,.n 79,.n 80] g) g))))))) (e (Qf3 u) (e (Qjk u) (e (QdU u) t))) func104
def UE(u:Nat)(a:Int)(b:Int)(c:Int):I AH:=cd (b<=a) (cd (a<=c) sT sF) sF
def Qqd:o 227 (s [d,d,d] [h] (UE u)):=f u g t func227
def QaU(b:D.a):I AH:=TG (fun((e,f,_),a,_)=>O (UE u a.S 1 999999) fun g=>C g (O (UE u a.Page 1 999999) fun h=>C h (O (UE u a.R (-1) 31) fun i=>C i (O (UE u a.At 0 8589934592) fun j=>C j (O (UE u a.Z 1 5) fun k=>C k (O (UE u a.Fo e f) fun l=>C l sT sF) sF) sF) sF) sF) sF) fun c=>cd (b.Z=3) (c ((1,86400,()),b,())) (cd (b.Z=4) (c ((0,31,()),b,())) (c ((0,0,()),b,())))
def Qfe:o 162 (s [t12] [h] (QaU u)):=f u (n 2 (c (j [.r 1 .a,.n 3,.n 4] g) g)) (e (Qqd u) t) func162
def Qax(a:D.Op):I AH:=O (Wm u a.S 1 1099511627776) fun b=>C b (O (Wm u a.Z 1 5) fun c=>C c (O (Wm u a.Region 0 4) fun e=>C e (O (Wm u a.Fence 0 1048576) fun f=>C f (O (Wm u a.At 0 8589934592) fun g=>C g (O (Wm u a.Page 0 999999) fun h=>C h (O (Wm u a.K (-1) 1000) fun i=>C i (cd (a.Z≠4) sT (O (QaU u a.a) fun j=>C j sT sF)) sF) sF) sF) sF) sF) sF) sF
def Qdc:o 105 (s [t6] [h] (Qax u)):=f u g (e (Qei u) (e (Qfe u) t)) func105
def Xs(c:D.g):I AH:=TG (fun(_,i,_)=>Qe (fun F ((k,l,j,_),G,_)=>cd (j<l) (TN k j fun m=>Qe (fun H ((n,o,e,f,g,a,_),b,_)=>cd (a<g) (TG (fun((p,q,r,s,t,v,_),w,_)=>H ((p,q,r,s,t,(J (v+1)),()),w,())) fun y=>TN f a fun h=>O (Qax u h.Op) fun z=>C z (cd (b.FN<=h.Op.S) sF (y ((n,o,e,f,g,a,()),b,()))) sF) (F ((n,o,(J (e+1)),()),b,()))) u ((k,l,j,m.j,(m.j.length:Int),0,()),G,())) sT) u ((i.M.E,(i.M.E.length:Int),0,()),i,())) fun A=>O (XM u c.FR) fun B=>C B (O (Vo u c.M) fun zH=>C zH (O (Qdy u c.FN 1 1099511627776) fun E=>C E (A ((),c,())) sF) sF) sF
def Ve:o 54 (s [t8] [h] (Xs u)):=f u (c g (c (j [.r 1 .g] g) (m [.r 1 .g,.l 25 .N,.n 26,.n 27] (n 2 (c (.one (n 2 (.one (k [.r 1 .g,.l 25 .N,.n 26,.n 27,.l 32 .m,.n 33,.n 34] (n 2 (c (j [.r 1 .g,.l 25 .N,.n 26,.n 27,.l 32 .m,.n 33,.n 34] g) g)))))) g))))) (e (VT u) (e (QfJ u) (e (Qcp u) (e (Qdc u) t)))) func54
def X5(a:D.N):I (Y D.Op):=TK (max 0 (min a.d (a.j.length:Int))) fun b=>TO b a.j.length (Qe (fun i ((f,g,c,_),e,_)=>cd (c<g) (TN f c fun h=>TO (e.length+[h.Op].length) 34359738368 (i ((f,g,(J (c+1)),()),(e++[h.Op]),()))) (some e)) u (((List.take b a.j),(((List.take b a.j).length:Nat):Int),0,()),[],()))
def Qbs:o 111 (s [zG] [l .Op] (X5 u)):=f u (n 2 (m [.o 3 1025 .Op,.l 15 .m,.n 16,.n 17] g)) t func111
def Qey(e:D.M):I (Y D.Op):=O (Vo u e) fun j=>C (!j) (some []) (Qe (fun k ((f,g,h,a,_),_)=>cd (a<h) (TG (fun((l,m,n,o,_),_)=>k ((l,m,n,(J (o+1)),()),())) fun b=>TN g a fun i=>O (X5 u i) fun c=>cd ((f.length:Int)<(c.length:Int)) (b ((c,g,h,a,()),())) (b ((f,g,h,a,()),()))) (some f)) u (([],e.E,(e.E.length:Int),0,()),()))
def QeW:o 62 (s [K] [l .Op] (Qey u)):=f u (n 3 (m [.l 3 .Op,.l 11 .N,.n 12,.n 13] (n 2 (c (j [.l 3 .Op,.l 11 .N,.n 12,.n 13] g) g)))) (e (Qcp u) (e (Qbs u) t)) func62
def Qdx(u:Nat)(b:D.Op)(a:Int):I AH:=TF a a (some (decide (b.S=a)))
def Qg3:o 63 (Qn [t6,.one (.TM 101)] [w 101 .int] [h] [] [101] AH kz2 (fun x y=>Qdx u x.1 y.1)):=i u g kz4 t func63
def YB(c:Y D.Op)(c101:Int):I Int:=Qe (fun g ((e,f,a,_),(b,_),_)=>cd (a<f) (TN e a fun h=>O (Qdx u h b) fun i=>C i (TF b c101 (some a)) (g ((e,f,(J (a+1)),()),(b,()),()))) (TF b c101 (some (-1)))) u ((c,(c.length:Int),0,()),(c101,()),())
def WF:o 110 (Qn [l .Op,.one (.clo 63 [101])] [w 101 .int] [d] [] [101] Int kz2 (fun x y=>YB u x.1 y.1)):=i u (c g (m [.l 0 .Op,.s 1 (.one (.clo 63 [101])),.n 7,.n 8] g [(101,.box [v])])) kz4 (e (Qg3 u) t) func110
def Ye(a:Y D.Op)(c101:Int):I AH:=O (YB u a c101) fun b=>TF c101 c101 (some (decide (0<=b)))
def Wb:o 61 (Qn [l .Op,.one (.clo 63 [101])] [w 101 .int] [h] [] [101] AH kz2 (fun x y=>Ye u x.1 y.1)):=i u g kz4 (e (WF u) t) func61
def QfI(a:D.g)(b:Int):I AH:=O (Xs u a) fun c=>C c (O (Qey u a.M) fun e=>O (Ye u e b) fun f=>C f sT sF) sF
def QiK:o 14 (s [t8,d] [h] (QfI u)):=f u g (e (Ve u) (e (Wb u) (e (QeW u) t))) func14
def QgG(b:AJ):I AH:=TG (zB:=((AJ×Unit)×Unit)) (fun((i,_),_)=>Qe (zF:=((AJ×Int×Unit)×Unit)) (fun j ((a,c,_),_)=>cd (c<(((ByteArray.size a):Nat):Int)) (TK c fun f=>TP f (ByteArray.size a) (cd ((((bAt a f):Nat):Int)<97) (TK c fun k=>TP k (ByteArray.size a) none) (TK c fun g=>TP g (ByteArray.size a) (cd (122<(((bAt a g):Nat):Int)) (TK c fun l=>TP l (ByteArray.size a) none) (j ((a,(J (c+1)),()),())))))) sT) u ((i,0,()),())) fun m=>cd ((((ByteArray.size b):Nat):Int)<1) sF (cd (24<(((ByteArray.size b):Nat):Int)) sF (TK 0 fun h=>TP h (ByteArray.size b) (cd ((((bAt b h):Nat):Int)<97) sF (TK 0 fun e=>TP e (ByteArray.size b) (cd (122<(((bAt b e):Nat):Int)) sF (m ((b,()),())))))))
def QhY:o 237 (s [tx] [h] (QgG u)):=f u (c g (c (j [.s 0 tx] g) (m [.s 0 tx,.n 3] g))) t func237
def Qkk(u:Nat)(a:Int)(b:Int)(c:Int):I AH:=cd (b<=a) (cd (a<=c) sT sF) sF
def QiO:o 342 (s [d,d,d] [h] (Qkk u)):=f u g t func342
def Qt0(u:Nat)(a:Int):I Int:=nzc 4 (nzc 100 (nzc 400 (some (J ((J ((J ((J ((J (a - 1970))*365))+(J (Int.tdiv (J (a - 1969)) 4)))) - (J (Int.tdiv (J (a - 1901)) 100))))+(J (Int.tdiv (J (a - 1601)) 400)))))))
def QsC:o 310 (s [d] [d] (Qt0 u)):=f u g t func310
def QhX(u:Nat)(a:Int):I Int:=nzc 7 (nzc 7 (some (Int.tmod (J ((Int.tmod a 7)+10)) 7)))
def Qnn:o 376 (s [d] [d] (QhX u)):=f u g t func376
def QfO(h:Y D.FF):I (Y D.FV):=Qe (zF:=((Y D.FF×Y D.FV×Int×Unit)×Unit)) (fun i ((c,f,e,_),_)=>cd (e<(c.length:Int)) (TN c e fun j=>Qe (zF:=((Y D.FF×Y D.FV×Int×Int×Unit)×Unit)) (fun p ((a,k,b,l,_),_)=>TN a b fun g=>cd (l<=g.To) (TN a b fun m=>TN a b fun n=>TN a b fun o=>none) (i ((a,k,(J (b+1)),()),()))) u ((c,f,e,j.w,()),())) (some f)) u ((h,[],0,()),())
def QiP:o 344 (s [l .FF] [l .FV] (QfO u)):=f u (n 2 (m [.l 0 .FF,.l 3 .FV,.n 4] (c g (c (.one (c g (.one (k [.l 0 .FF,.l 3 .FV,.n 4,.n 5] g)))) g)))) t func344
def Vk(n:D.r):I (Y D.FB×Int):=O (Qkk u n.Fa (-64800) 64800) fun B=>C (!B) (some ([],1)) (cd (16<(n.Fp.length:Int)) (some ([],5)) (Qe (zF:=((Int×Int×Unit)×D.r×Unit)) (fun G ((zH,o,_),i,_)=>cd (o<(i.Fp.length:Int)) (TN i.Fp o fun H=>none) (cd (640<zH) (some ([],5)) (O (QfO u i.Fp) fun E=>Qe (zF:=((Y D.FV×Int×Int×Unit)×Y D.FB×Unit)) (fun F ((c,e,b,_),a,_)=>cd (b<(c.length:Int)) (TG (zB:=((Y D.FV×Int×Int×Unit)×Y D.FB×Unit)) (fun((p,q,r,_),s,_)=>F ((p,q,(J (r+1)),()),s,())) fun j=>TN c b fun t=>cd (t.Fa=e) (j ((c,e,b,()),a,())) (TN c b fun f=>TN c b fun g=>TG (zB:=((Y D.FV×Int×Unit)×D.FB×Y D.FB×Unit)) (fun((v,w,_),h,k,_)=>TO (k.length+[h].length) 34359738368 (j ((v,h.Fa,w,()),(k++[h]),()))) fun l=>O (Qkk u (J (g.Fa - e)) (-86399) 86399) fun y=>C y (O (Qkk u (J (f.At - e)) 0 8589934592) fun z=>C z (cd (0<(a.length:Int)) (TK (J ((a.length:Int) - 1)) fun m=>TP m a.length (O a[m]? fun A=>cd ((J ((J (f.At - e)) - A.At))<604800) (some ([],6)) (l ((c,b,()),(D.FB.mk (J (f.At - e)) g.Fa),a,())))) (l ((c,b,()),(D.FB.mk (J (f.At - e)) g.Fa),a,()))) (some ([],6))) (some ([],6)))) (some (a,0))) u ((E,i.Fa,0,()),[],())))) u ((0,0,()),n,())))
def UY:o 309 (s [t7] [l .FB,d] (Vk u)):=f u (n 4 (c (c g (.one (k [.r 1 .r,.n 4,.n 5] g))) (n 4 (m [.o 6 1115 .FB,.l 7 .FV,.n 8,.n 9] (c g (c (j [.o 6 1115 .FB,.l 7 .FV,.n 8,.n 9] (.one (n 2 (c (.TG [(6,.one (.own 1115)),li 7 .FV,G 9,r 10] [w 1010 .FB,p 1115 .FB] g) g)))) g)))))) (e (QiO u) (e (QiP u) t)) func309
def QdA(a:D.r):I Int:=O (Vk u a) fun(c,b)=>some b
def Qki:o 229 (s [t7] [d] (QdA u)):=f u g (e (UY u) t) func229
def QhZ(e:D.r):I AH:=nzc 60 (Qe (fun g ((f,a,_),b,_)=>cd (a<(b.Fp.length:Int)) (TG (fun((h,i,_),j,_)=>g ((h,(J (i+1)),()),j,())) fun c=>C f (TN b.Fp a fun k=>nzc 60 (cd ((Int.tmod k.Fa 60)=0) (c ((true,a,()),b,())) (c ((false,a,()),b,())))) (c ((false,a,()),b,()))) (some f)) u (((decide ((Int.tmod e.Fa 60)=0)),0,()),e,()))
def Qno:o 230 (s [t7] [h] (QhZ u)):=f u (n 2 (m [.r 1 .r,.s 3 h,.n 4] (c g (c (j [.r 1 .r,.s 3 h,.n 4] g) g)))) t func230
def WK(a:Y AJ)(f:Int):I Int:=TK f fun g=>TP g a.length (O a[g]? fun k=>O (QgG u k) fun l=>C (!l) (TF a a (some 2)) (Qe (fun m ((c,e,_),b,_)=>cd (e<c) (TK e fun h=>TP h b.length (O b[h]? fun n=>TK c fun i=>TP i b.length (O b[i]? fun j=>cd (n=j) (TF b a (some 4)) (m ((c,(J (e+1)),()),b,()))))) (TF b a (some 0))) u ((f,0,()),a,())))
def QbJ:o 228 (Qn [.one (.own 101),d] [p 101 .TY] [d] [] [101] Int kz2 (fun x y=>WK u y.1 x.1)):=i u (n 2 (m [.o 0 101 .TY,.n 1,.n 5] g)) kz4 (e (QhY u) t) func228
def QiR(k:D.F):I Int:=Qe (fun l ((a,_),b,c,_)=>cd (a<(b.FG.length:Int)) (TG (fun((m,_),n,o,_)=>l (((J (m+1)),()),n,o,())) fun p=>TN b.FG a fun e=>TO (c.length+[e.Name].length) 34359738368 (O (WK u (c++[e.Name]) a) fun f=>cd (f≠0) (some f) (TN b.FG a fun g=>O (QdA u g) fun h=>cd (h≠0) (some 8) (TN b.FG a fun i=>O (QhZ u i) fun j=>C j (p ((a,()),b,(c++[e.Name]),())) (some 8))))) (some 0)) u ((0,()),k,[],())
def Qri:o 165 (s [tO] [d] (QiR u)):=f u (n 2 (m [.r 1 .F,.o 3 1021 .TY,.n 4] (c g (c (j [.r 1 .F,.o 3 1021 .TY,.n 4] g) g)))) (e (QbJ u) (e (Qki u) (e (Qno u) t))) func165
def U0(u:Nat)(a:Int)(b:Int)(c:Int):I AH:=cd (b<=a) (cd (a<=c) sT sF) sF
def QfQ:o 231 (s [d,d,d] [h] (U0 u)):=f u g t func231
def Qci(f:Y D.FE):I Int:=cd (14<(f.length:Int)) (some 5) (Qe (fun m ((a,b,_),_)=>cd (b<(a.length:Int)) (TG (fun((n,o,_),_)=>m ((n,(J (o+1)),()),())) fun g=>TG (fun((e,c,_),_)=>cd (0<c) (TN e c fun p=>TN e (J (c - 1)) fun q=>cd (p.w<q.To) (some 6) (g ((e,c,()),()))) (g ((e,c,()),()))) fun h=>TN a b fun i=>cd (i.w<0) (some 1) (TN a b fun j=>TN a b fun k=>cd (k.To<=j.w) (some 1) (TN a b fun l=>cd (604800<l.To) (some 1) (h ((a,b,()),()))))) (some 0)) u ((f,0,()),()))
def QfP:o 232 (s [l .FE] [d] (Qci u)):=f u (n 2 (m [.l 0 .FE,.n 3] (c g (c (j [.l 0 .FE,.n 3] (.one (c (j [.l 0 .FE,.n 3] g) g))) g)))) t func232
def QdC(a:Int):I AH:=O (U0 u a 0 604800) fun b=>C b (nzc 3600 (cd ((Int.tmod a 3600)=0) sT sF)) sF
def Qrg:o 233 (s [d] [h] (QdC u)):=f u g (e (QfQ u) t) func233
def QgH(k:D.F):I Int:=Qe (fun l ((b,_),c,e,_)=>cd (b<(c.l.length:Int)) (TG (fun((m,_),n,o,_)=>l (((J (m+1)),()),n,o,())) fun p=>TN c.l b fun a=>TO (e.length+[a.Name].length) 34359738368 (cd (a.Name=(ByteArray.mk (List.toArray [110,111,98,111,100,121]))) (some 2) (O (WK u (e++[a.Name]) b) fun f=>cd (f≠0) (some f) (O (U0 u a.r 0 (J ((c.FG.length:Int) - 1))) fun g=>C (!g) (some 3) (O (Qci u a.Ff) fun h=>cd (h≠0) (some 8) (O (QdC u a.Fv) fun i=>C i (O (QdC u a.Fw) fun j=>C j (p ((b,()),c,(e++[a.Name]),())) (some 1)) (some 1))))))) (some 0)) u ((0,()),k,[],())
def Qpr:o 166 (s [tO] [d] (QgH u)):=f u (n 2 (m [.r 1 .F,.o 3 1023 .TY,.n 4] (c g (c (j [.r 1 .F,.o 3 1023 .TY,.n 4] g) g)))) (e (QbJ u) (e (QfQ u) (e (QfP u) (e (Qrg u) t)))) func166
def Zp:I Int:=O (Qt0 u 2241) fun a=>some (J (a - 1))
def Qen:o 234 (s [] [d] (Zp u)):=f u g (e (QsC u) t) func234
def QbI(y:D.F):I Int:=Qe (fun z ((f,_),g,m,_)=>cd (f<(g.o.length:Int)) (TN g.o f fun e=>TO (m.length+[e.Name].length) 34359738368 (O (WK u (m++[e.Name]) f) fun o=>cd (o≠0) (some o) (O (U0 u e.r 0 (J ((g.FG.length:Int) - 1))) fun A=>C (!A) (some 3) (cd (64<(e.Fy.length:Int)) (some 5) (Qe (fun B ((p,n,_),h,a,i,_)=>cd (n<(a.Fy.length:Int)) (TN a.Fy n fun q=>O (Zp u) fun r=>O (U0 u q 0 r) fun s=>C (!s) (some 1) (B ((p,(J (n+1)),()),h,a,i,()))) (Qe (fun t ((j,b,_),k,c,l,_)=>cd (b<(c.Fy.length:Int)) (TN c.Fy b fun v=>TN c.Fy (J (b - 1)) fun w=>cd (v<=w) (some 6) (t ((j,(J (b+1)),()),k,c,l,()))) (z (((J (j+1)),()),k,l,()))) u ((p,1,()),h,a,i,()))) u ((f,0,()),g,e,(m++[e.Name]),())))))) (some 0)) u ((0,()),y,[],())
def QkE:o 167 (s [tO] [d] (QbI u)):=f u (n 2 (m [.r 1 .F,.o 3 1025 .TY,.n 4] (c g (c (.one (n 5 (c (c g (.one (.loop [r 1,(3,.one (.own 1025)),G 4,r 5,G 7] [w 1001 .F,w 1005 .n,p 1025 .TY] g))) (c g (.one (.loop [r 1,(3,.one (.own 1025)),G 4,r 5,G 8] [w 1001 .F,w 1005 .n,p 1025 .TY] g)))))) g)))) (e (QbJ u) (e (QfQ u) (e (Qen u) t))) func167
def QfR(g:D.F)(b:D.x):I Int:=TG (fun(_,q,r,_)=>Qe (fun s ((e,_),f,a,_)=>cd (e<(a.s.length:Int)) (TN a.s e fun t=>O (U0 u t 0 (J ((f.l.length:Int) - 1))) fun v=>C (!v) (some 3) (s (((J (e+1)),()),f,a,()))) (TG (fun(_,_)=>some 0) fun c=>O (Qci u a.Fi) fun w=>cd (w≠0) (some 8) (O (U0 u a.Fx 0 2) fun h=>C (!h) (some 1) (cd (a.Fx≠0) (O (U0 u a.n 0 (J ((f.o.length:Int) - 1))) fun i=>C i (cd (a.Fx=0) (cd (a.n≠0) (some 1) (c ((),()))) (c ((),()))) (some 3)) (cd (a.Fx=0) (cd (a.n≠0) (some 1) (c ((),()))) (c ((),()))))))) u ((0,()),q,r,())) fun j=>O (U0 u b.r 0 (J ((g.FG.length:Int) - 1))) fun k=>C (!k) (some 3) (O (Zp u) fun l=>O (U0 u b.T.Fj 1 l) fun m=>C m (O (U0 u b.T.Fb 0 86399) fun n=>C n (O (U0 u b.Unit 0 2) fun o=>C o (O (U0 u b.FH 1 400) fun p=>C p (cd ((b.s.length:Int)=0) (some 7) (cd (12<(b.s.length:Int)) (some 5) (j ((),g,b,())))) (some 1)) (some 1)) (some 1)) (some 1))
def Qrh:o 235 (s [tO,t9] [d] (QfR u)):=f u (c g (c (j [.r 2 .F,.r 3 .x] g) (c (c g (.one (k [.r 2 .F,.r 3 .x,.n 5] g))) (c (j [] g) g)))) (e (QfQ u) (e (QfP u) (e (Qen u) t))) func235
def Qk0(c:D.F)(a:D.t):I Int:=TG (fun(_,_)=>some 0) fun b=>O (U0 u a.Z 0 2) fun p=>C (!p) (some 1) (O (U0 u a.A 0 (J ((c.l.length:Int) - 1))) fun q=>C q (cd (a.Z=2) (O (U0 u a.B 0 (J ((c.l.length:Int) - 1))) fun r=>C r (cd (a.Z≠2) (cd (a.B≠0) (some 1) (cd (a.Z=2) (cd (a.A=a.B) (some 4) (cd (a.w<0) (some 1) (cd (a.To<0) (some 1) (nzc 86400 (O (Zp u) fun s=>cd (s<(J (Int.tdiv a.To 86400))) (some 1) (cd (a.To<=a.w) (some 6) (b ((),())))))))) (cd (a.w<0) (some 1) (cd (a.To<0) (some 1) (nzc 86400 (O (Zp u) fun t=>cd (t<(J (Int.tdiv a.To 86400))) (some 1) (cd (a.To<=a.w) (some 6) (b ((),()))))))))) (cd (a.Z=2) (cd (a.A=a.B) (some 4) (cd (a.w<0) (some 1) (cd (a.To<0) (some 1) (nzc 86400 (O (Zp u) fun v=>cd (v<(J (Int.tdiv a.To 86400))) (some 1) (cd (a.To<=a.w) (some 6) (b ((),())))))))) (cd (a.w<0) (some 1) (cd (a.To<0) (some 1) (nzc 86400 (O (Zp u) fun w=>cd (w<(J (Int.tdiv a.To 86400))) (some 1) (cd (a.To<=a.w) (some 6) (b ((),()))))))))) (some 3)) (cd (a.Z≠2) (cd (a.B≠0) (some 1) (cd (a.Z=2) (cd (a.A=a.B) (some 4) (cd (a.w<0) (some 1) (cd (a.To<0) (some 1) (nzc 86400 (O (Zp u) fun y=>cd (y<(J (Int.tdiv a.To 86400))) (some 1) (cd (a.To<=a.w) (some 6) (b ((),())))))))) (cd (a.w<0) (some 1) (cd (a.To<0) (some 1) (nzc 86400 (O (Zp u) fun z=>cd (z<(J (Int.tdiv a.To 86400))) (some 1) (cd (a.To<=a.w) (some 6) (b ((),()))))))))) (cd (a.Z=2) (cd (a.A=a.B) (some 4) (cd (a.w<0) (some 1) (cd (a.To<0) (some 1) (nzc 86400 (O (Zp u) fun e=>cd (e<(J (Int.tdiv a.To 86400))) (some 1) (cd (a.To<=a.w) (some 6) (b ((),())))))))) (cd (a.w<0) (some 1) (cd (a.To<0) (some 1) (nzc 86400 (O (Zp u) fun f=>cd (f<(J (Int.tdiv a.To 86400))) (some 1) (cd (a.To<=a.w) (some 6) (b ((),())))))))))) (cd (a.Z≠1) (some 3) (cd (a.A≠(-1)) (some 3) (cd (a.Z=2) (O (U0 u a.B 0 (J ((c.l.length:Int) - 1))) fun g=>C g (cd (a.Z≠2) (cd (a.B≠0) (some 1) (cd (a.Z=2) (cd (a.A=a.B) (some 4) (cd (a.w<0) (some 1) (cd (a.To<0) (some 1) (nzc 86400 (O (Zp u) fun h=>cd (h<(J (Int.tdiv a.To 86400))) (some 1) (cd (a.To<=a.w) (some 6) (b ((),())))))))) (cd (a.w<0) (some 1) (cd (a.To<0) (some 1) (nzc 86400 (O (Zp u) fun i=>cd (i<(J (Int.tdiv a.To 86400))) (some 1) (cd (a.To<=a.w) (some 6) (b ((),()))))))))) (cd (a.Z=2) (cd (a.A=a.B) (some 4) (cd (a.w<0) (some 1) (cd (a.To<0) (some 1) (nzc 86400 (O (Zp u) fun j=>cd (j<(J (Int.tdiv a.To 86400))) (some 1) (cd (a.To<=a.w) (some 6) (b ((),())))))))) (cd (a.w<0) (some 1) (cd (a.To<0) (some 1) (nzc 86400 (O (Zp u) fun k=>cd (k<(J (Int.tdiv a.To 86400))) (some 1) (cd (a.To<=a.w) (some 6) (b ((),()))))))))) (some 3)) (cd (a.Z≠2) (cd (a.B≠0) (some 1) (cd (a.Z=2) (cd (a.A=a.B) (some 4) (cd (a.w<0) (some 1) (cd (a.To<0) (some 1) (nzc 86400 (O (Zp u) fun l=>cd (l<(J (Int.tdiv a.To 86400))) (some 1) (cd (a.To<=a.w) (some 6) (b ((),())))))))) (cd (a.w<0) (some 1) (cd (a.To<0) (some 1) (nzc 86400 (O (Zp u) fun m=>cd (m<(J (Int.tdiv a.To 86400))) (some 1) (cd (a.To<=a.w) (some 6) (b ((),()))))))))) (cd (a.Z=2) (cd (a.A=a.B) (some 4) (cd (a.w<0) (some 1) (cd (a.To<0) (some 1) (nzc 86400 (O (Zp u) fun n=>cd (n<(J (Int.tdiv a.To 86400))) (some 1) (cd (a.To<=a.w) (some 6) (b ((),())))))))) (cd (a.w<0) (some 1) (cd (a.To<0) (some 1) (nzc 86400 (O (Zp u) fun o=>cd (o<(J (Int.tdiv a.To 86400))) (some 1) (cd (a.To<=a.w) (some 6) (b ((),())))))))))))))
def QsD:o 236 (s [tO,.st .t] [d] (Qk0 u)):=f u (n 2 (c (j [] g) g)) (e (QfQ u) (e (Qen u) t)) func236
def QbK(zH:D.F):I Int:=Qe (fun E ((k,_),s,t,_)=>cd (k<(s.f.length:Int)) (TN s.f k fun c=>TO (t.length+[c.Name].length) 34359738368 (O (WK u (t++[c.Name]) k) fun v=>cd (v≠0) (some v) (TG (fun((F,_),G,H,zE,_)=>Qe (fun w ((l,a,_),e,b,m,f,_)=>cd (a<(b.Fk.length:Int)) (TN b.Fk a fun g=>TO (f.length+[g.Name].length) 34359738368 (O (WK u (f++[g.Name]) a) fun n=>cd (n≠0) (some n) (TN b.Fk a fun y=>O (QfR u e y) fun o=>cd (o≠0) (some o) (w ((l,(J (a+1)),()),e,b,m,(f++[g.Name]),()))))) (Qe (fun z ((p,h,_),i,j,q,_)=>cd (h<(j.FS.length:Int)) (TN j.FS h fun A=>O (Qk0 u i A) fun r=>cd (r≠0) (some r) (z ((p,(J (h+1)),()),i,j,q,()))) (E (((J (p+1)),()),i,q,()))) u ((l,0,()),e,b,m,()))) u ((F,0,()),G,H,zE,[],())) fun B=>cd (6<(c.Fk.length:Int)) (some 5) (cd (48<(c.FS.length:Int)) (some 5) (B ((k,()),s,c,(t++[c.Name]),())))))) (some 0)) u ((0,()),zH,[],())
def QkF:o 168 (s [tO] [d] (QbK u)):=f u (n 2 (m [.r 1 .F,.o 3 1029 .TY,.n 4] (c g (c (.one (n 3 (c (.TG [r 1,(3,.one (.own 1029)),G 4,r 5] [w 1001 .F,w 1005 .e,p 1029 .TY] g) (c g (c (c g (.one (.loop [r 1,(3,.one (.own 1029)),G 4,r 5,(7,.one (.own 1061)),G 8] [w 1001 .F,w 1005 .e,p 1029 .TY,p 1061 .TY] g))) (c g (.one (.loop [r 1,(3,.one (.own 1029)),G 4,r 5,G 11] [w 1001 .F,w 1005 .e,p 1029 .TY] g)))))))) g)))) (e (QbJ u) (e (Qrh u) (e (QsD u) t))) func168
def UZ(a:D.F):I Int:=TG (fun(_,b,_)=>O (QiR u b) fun c=>cd (c≠0) (some c) (O (QgH u b) fun e=>cd (e≠0) (some e) (O (QbI u b) fun f=>cd (f≠0) (some f) (O (QbK u b) fun g=>some g)))) fun h=>cd (16<(a.FG.length:Int)) (some 5) (cd (32<(a.l.length:Int)) (some 5) (cd (8<(a.o.length:Int)) (some 5) (cd (12<(a.f.length:Int)) (some 5) (h ((),a,())))))
def QcT:o 112 (s [tO] [d] (UZ u)):=f u (c g (c (j [.r 1 .F] g) g)) (e (Qri u) (e (Qpr u) (e (QkE u) (e (QkF u) t)))) func112
def Qep(h:Y Int)(i:Int):I AH:=Qe (fun j ((b,c,a,_),_)=>cd (a<(b.length:Int)) (TG (fun((k,l,m,_),_)=>j ((k,l,(J (m+1)),()),())) fun e=>TN b a fun n=>cd (n<0) sF (TN b a fun o=>cd (c<=o) sF (cd (0<a) (TN b (J (a - 1)) fun f=>TN b a fun g=>cd (g<=f) sF (e ((b,c,a,()),()))) (e ((b,c,a,()),()))))) sT) u ((h,i,0,()),())
def QjT:o 154 (s [lI,d] [h] (Qep u)):=f u (c g (m [.s 0 lI,.n 1,.n 5] (c g (c (j [.s 0 lI,.n 1,.n 5] g) g)))) t func154
def Qk4(p:D.F)(g:D.b)(h:Int):I Int:=TN g.v h fun i=>O (QgG u i.Name) fun q=>C (!q) (some 8) (Qe (fun r ((j,f,_),k,l,c,_)=>cd (f<j) (TN l.v f fun s=>cd (s.Name=c.Name) (some 4) (r ((j,(J (f+1)),()),k,l,c,()))) (cd ((c.s.length:Int)=0) (some 7) (Qe (fun t ((b,_),e,a,_)=>cd (b<(a.s.length:Int)) (TN a.s (J (b - 1)) fun m=>TN a.s b fun n=>cd (n<=m) (some 6) (t (((J (b+1)),()),e,a,()))) (O (Qep u a.s (e.l.length:Int)) fun o=>C (!o) (some 3) (some 0))) u ((1,()),k,c,())))) u ((h,0,()),p,g,i,()))
def QsL:o 169 (s [tO,L,d] [d] (Qk4 u)):=f u (n 3 (c (c g (.one (k [.n 2,.r 3 .F,.r 4 .b,.r 7 .FU,.n 8] g))) (c g (m [.r 3 .F,.r 7 .FU,.n 9] g)))) (e (QjT u) (e (QhY u) t)) func169
def QJ(u:Nat)(a:Int)(b:Int)(c:Int):I AH:=cd (b<=a) (cd (a<=c) sT sF) sF
def ZF:o 64 (s [d,d,d] [h] (QJ u)):=f u g t func64
def Qeq(p:D.F)(q:D.b)(j:Y D.FL):I Int:=cd (6<(j.length:Int)) (some 5) (Qe (fun r ((b,c,_),e,f,_)=>cd (c<(b.length:Int)) (TG (fun((s,t,_),v,w,_)=>r ((s,(J (t+1)),()),v,w,())) fun y=>TG (fun((g,h,k,_),l,m,_)=>TN g h fun n=>cd (n.FW<0) (some 3) (TN g h fun o=>cd (k<=o.FW) (some 3) (y ((g,h,()),l,m,())))) fun a=>TN b c fun i=>cd (i.Z=0) (a ((b,c,(e.l.length:Int),()),e,f,())) (cd (i.Z=1) (a ((b,c,(e.f.length:Int),()),e,f,())) (cd (i.Z=2) (a ((b,c,(f.v.length:Int),()),e,f,())) (a ((b,c,(-1),()),e,f,()))))) (some 0)) u ((j,0,()),p,q,()))
def Qnp:o 238 (s [tO,L,l .FL] [d] (Qeq u)):=f u (n 2 (m [.l 2 .FL,.r 3 .F,.r 4 .b,.n 7] (c g (c (j [.l 2 .FL,.r 3 .F,.r 4 .b,.n 7] (.one (c g (c (j [.l 2 .FL,.r 3 .F,.r 4 .b,.n 7,.n 8] g) g)))) g)))) t func238
def QgJ(s:D.F)(j:D.b)(k:Int):I Int:=TN j.k k fun l=>O (QgG u l.Name) fun t=>C (!t) (some 8) (Qe (fun v ((m,h,_),n,i,c,_)=>cd (h<m) (TN i.k h fun w=>cd (w.Name=c.Name) (some 4) (v ((m,(J (h+1)),()),n,i,c,()))) (cd ((c.Steps.length:Int)=0) (some 7) (cd (8<(c.Steps.length:Int)) (some 5) (O (QJ u c.Fh 0 8) fun y=>C (!y) (some 1) (Qe (fun o ((a,_),e,f,b,_)=>cd (a<(b.Steps.length:Int)) (TN b.Steps a fun p=>O (QJ u p.Fs 0 86400) fun q=>C (!q) (some 1) (TN b.Steps a fun r=>O (Qeq u e f r.Fe) fun g=>cd (g≠0) (some g) (o (((J (a+1)),()),e,f,b,())))) (some 0)) u ((0,()),n,i,c,())))))) u ((k,0,()),s,j,l,()))
def Qpx:o 170 (s [tO,L,d] [d] (QgJ u)):=f u (n 3 (c (c g (.one (k [.n 2,.r 3 .F,.r 4 .b,.r 7 .W,.n 8] g))) (c g (m [.r 3 .F,.r 4 .b,.r 7 .W,.n 9] g)))) (e (ZF u) (e (QhY u) (e (Qnp u) t))) func170
def Qpw(l:D.F)(e:D.b):I Int:=TG (fun(_,m,n,_)=>Qe (fun o ((f,_),g,b,_)=>cd (f<(b.v.length:Int)) (O (Qk4 u g b f) fun i=>cd (i≠0) (some i) (o (((J (f+1)),()),g,b,()))) (Qe (fun p ((h,_),j,a,_)=>cd (h<(a.k.length:Int)) (O (QgJ u j a h) fun c=>cd (c≠0) (some c) (p (((J (h+1)),()),j,a,()))) (some 0)) u ((0,()),g,b,()))) u ((0,()),m,n,())) fun k=>cd (8<(e.v.length:Int)) (some 5) (cd (12<(e.k.length:Int)) (some 5) (k ((),l,e,())))
def QsK:o 113 (s [tO,L] [d] (Qpw u)):=f u (c g (c (j [.r 2 .F,.r 3 .b] g) (c (c g (.one (k [.r 2 .F,.r 3 .b,.n 5] g))) (m [.r 2 .F,.r 3 .b,.n 7] g)))) (e (QsL u) (e (Qpx u) t)) func113
def QfT(a:D.F)(b:D.b):I Int:=O (UZ u a) fun c=>cd (c≠0) (some 8) (O (Qpw u a b) fun e=>some e)
def Qkl:o 65 (s [tO,L] [d] (QfT u)):=f u g (e (QcT u) (e (QsK u) t)) func65
def Qmz(a:D.F)(b:D.b):I (D.G×Int):=O (QfT u a b) fun c=>cd (c≠0) (some (z2,c)) (some ((D.G.mk 0 a b [] (-1) 0 [] []),0))
def Qn6:o 16 (s [tO,L] [H,d] (Qmz u)):=f u g (e (Qkl u) t) func16
def Qc(u:Nat)(b:D.FC)(f:Int):I (Int×D.FC):=TG (fun((c,_),a,_)=>TN a.L a.At fun e=>nzc c (TG (fun((h,_),i,_)=>some (h,i)) fun g=>cd ((Int.tmod e c)<0) (g (((J ((Int.tmod e c)+c)),()),(D.FC.mk a.L (J (a.At+1))),())) (g (((Int.tmod e c),()),(D.FC.mk a.L (J (a.At+1))),())))) fun j=>cd ((b.L.length:Int)<=b.At) (some (0,b)) (cd (f<1) (some (0,b)) (j ((f,()),b,())))
def Q8:o 22 (Qn [.one (.TM 1),d] [w 1 .FC] [d] [w 1 .FC] [] (Int×D.FC) kz15 (fun x y=>Qc u y.1 x.1)):=i u (c g (c (j [.s 0 (.one (.TM 1)),.n 1] g [w 1 .FC]) (n 2 (c (j [.n 5] g [w 1 .FC]) g)))) kz17 t func22
def QZ(b:D.FC)(a:Y Int):I (Int×D.FC):=O (Qc u b (a.length:Int)) fun(c,e)=>TN a c fun f=>some (f,e)
def YE:o 45 (Qn [.one (.TM 1),lI] [w 1 .FC] [d] [w 1 .FC] [] (Int×D.FC) kz15 (fun x y=>QZ u y.1 x.1)):=i u g kz17 (e (Q8 u) t) func45
def Xr(m:D.FC):I (D.t×D.FC):=O (QZ u m [0,300,1200,3600]) fun(a,n)=>O (Qc u n 3) fun(b,o)=>O (Qc u o 4) fun(e,p)=>O (QZ u p [300,1800,7200]) fun(f,g)=>TG (fun(_,r,q,h,_)=>some (q,h)) fun c=>cd (b=2) (O (Qc u g 3) fun(i,j)=>nzc 4 (c ((),z7,(D.t.mk b e (Int.tmod (J ((J (e+1))+i)) 4) (J (864000+a)) (J ((J (864000+a))+f))),j,()))) (cd (b=1) (O (Qc u g 5) fun(k,l)=>c ((),z7,(D.t.mk b (J (k - 1)) 0 (J (864000+a)) (J ((J (864000+a))+f))),l,())) (c ((),z7,(D.t.mk b e 0 (J (864000+a)) (J ((J (864000+a))+f))),g,())))
def Qa0:o 66 (Qn [.one (.TM 1)] [w 1 .FC] [.st .t] [w 1 .FC] [] (D.t×D.FC) kz15 (fun x y=>Xr u y.1)):=i u (n 3 (c (j [.r 2 .t,.r 4 .t] g [w 1 .FC]) g)) kz17 (e (Q8 u) (e (YE u) t)) func66
def VS(p0:D.FC):I (D.F×D.FC):=O (QZ u p0 [0,3600,(-7200)]) fun(a0,a1)=>Qe (fun L2 ((Z,h,_),a5,_,(a6,_),a7,_)=>cd (h<4) (TN Z h fun a8=>O (Qc u a5 2) fun(a9,a2)=>TG (fun((aA,aB,_),aC,_,(aD,_),i,j,_)=>TO (j.length+[i].length) 34359738368 (L2 ((aA,(J (aB+1)),()),aC,(),(aD,()),(j++[i]),()))) fun k=>O (Qc u a2 4) fun(aE,l)=>cd (aE=0) (O (QZ u l [0,3600]) fun(aF,aG)=>O (QZ u aG [7200,86400,604800]) fun(aH,aI)=>k ((Z,h,()),aI,(),(a6,()),(D.R.mk a8 0 [(D.FE.mk aF aH)] 0 0 (decide (a9=0))),a7,())) (k ((Z,h,()),l,(),(a6,()),(D.R.mk a8 0 [] 0 0 (decide (a9=0))),a7,()))) (Qe (fun aJ ((m,_),n,_,(o,_),p,q,_)=>cd (m<2) (O (QZ u n [1,9,10]) fun(aK,aL)=>O (QZ u aL [0,1800,43200]) fun(aM,aN)=>O (QZ u aN [0,0,1]) fun(aO,aP)=>O (Qc u aP 3) fun(aQ,aR)=>O (Qc u aR 3) fun(aS,aT)=>Qe (fun aU ((b,r,_),s,_,(t,_),(v,w,y,z,A,B,zH,E,_),F,G,c,_)=>cd (0<r) (O (Qc u s 4) fun(H,aV)=>TO (c.length+[H].length) 34359738368 (aU ((b,(J (r - 1)),()),aV,(),(t,()),(v,w,y,z,A,B,zH,E,()),F,G,(c++[H]),()))) (TN [(ByteArray.mk (List.toArray [102,105,114,115,116])),(ByteArray.mk (List.toArray [115,101,99,111,110,100]))] b fun aW=>O (Qc u s 3) fun(aX,aY)=>Qe (fun aZ ((zE,zG,_),L,_,(zC,_),(e,f,_),zI,g,a,_)=>cd (0<zG) (O (Xr u L) fun(W,b0)=>TO (a.length+[W].length) 34359738368 (aZ ((zE,(J (zG - 1)),()),b0,(),(zC,()),(e,f,()),zI,g,(a++[W]),()))) (TO (g.length+[(D.e.mk e f a)].length) 34359738368 (aJ (((J (zE+1)),()),L,(),(zC,()),zI,(g++[(D.e.mk e f a)]),())))) u ((b,aX,()),aY,(),(t,()),(aW,[(D.x.mk v w (D.Fd.mk y z) A B c [] zH E)],()),F,G,[],()))) u ((m,(J (1+aS)),()),aT,(),(o,()),((ByteArray.mk (List.toArray [108])),0,aK,aM,aO,(J (1+aQ)),0,0,()),p,q,[],())) (some ((D.F.mk o p [] q),n))) u ((0,()),a5,(),(a6,()),a7,[],()))) u (([(ByteArray.mk (List.toArray [97,110,110])),(ByteArray.mk (List.toArray [98,111,98])),(ByteArray.mk (List.toArray [99,97,116])),(ByteArray.mk (List.toArray [100,97,110]))],0,()),a1,(),([(D.r.mk (ByteArray.mk (List.toArray [122])) a0 [])],()),[],())
def Qdt:o 17 (Qn [.one (.TM 1)] [w 1 .FC] [tO] [w 1 .FC] [] (D.F×D.FC) kz15 (fun x y=>VS u y.1)):=i u (n 3 (c (c g (.one (k [.s 0 (.one (.TM 1)),.s 2 (.one (.TM 1002)),.s 3 (.one (.TM 1003)),.l 4 .TY,.n 5] (c g (c (.one (c g (c (.TG [(0,.one (.TM 1)),r 2,r 3,li 4 .TY,G 5,r 6] [w 1 .FC,(1002,.box [.nul,.nul,.nul,.nul]),(1003,.box [.TQ .r,.own 1047,.nul,.nul]),w 1006 .R,p 1047 .R] g) g))) g)) [w 1 .FC,(1002,.box [.nul,.nul,.nul,.nul]),(1003,.box [.TQ .r,.own 1047,.nul,.nul]),p 1047 .R]))) (m [.s 0 (.one (.TM 1)),.s 2 (.one (.TM 1002)),.s 3 (.one (.TM 1003)),.n 7] (c g (c (.one (c g (c (c g (.one (k [.s 0 (.one (.TM 1)),.s 2 (.one (.TM 1002)),.s 3 (.one (.TM 1003)),.n 7,.s 8 (.one (.TM 1008)),.n 9] g [w 1 .FC,(1002,.box [.nul,.nul,.nul,.nul]),(1003,.box [.TQ .r,.own 1047,.nul,.own 1105]),(1008,.box [.TY,v,v,v,v,v,.own 1079,.nul,v,v]),p 1047 .R,p 1105 .e,p 1079 .int]))) (c (.frz [1079] g) (m [.s 0 (.one (.TM 1)),.s 2 (.one (.TM 1002)),.s 3 (.one (.TM 1003)),.n 7,.s 10 (.one (.TM 1010)),.n 11] g [w 1 .FC,(1002,.box [.nul,.nul,.nul,.nul]),(1003,.box [.TQ .r,.own 1047,.nul,.own 1105]),(1010,.box [.TY,.TQ .x,.own 1099]),p 1047 .R,p 1105 .e,p 1099 .t]))))) g)) [w 1 .FC,(1002,.box [.nul,.nul,.nul,.nul]),(1003,.box [.TQ .r,.own 1047,.nul,.own 1105]),p 1047 .R,p 1105 .e]))) kz17 (e (Q8 u) (e (YE u) (e (Qa0 u) t))) func17
def Qg2(h:D.FC)(a:D.b):I (D.FL×D.FC):=O (Qc u h 3) fun(c,e)=>TG (fun((f,_),i,(m,_),n,g,_)=>TN [4,2,(g.length:Int)] f fun j=>O (Qc u i j) fun(k,l)=>TF g a.v (some ((D.FL.mk f k),l))) fun b=>cd (c=2) (cd ((a.v.length:Int)=0) (b ((0,()),e,(a.k,()),z9,a.v,())) (b ((c,()),e,(a.k,()),z9,a.v,()))) (b ((c,()),e,(a.k,()),z9,a.v,()))
def Qef:o 67 (Qn [.one (.TM 1),.agg [.own 101,.TQ .W]] [w 1 .FC,p 101 .FU] [.st .FL] [w 1 .FC] [101] (D.FL×D.FC) kz15 (fun x y=>Qg2 u y.1 (D.b.mk y.2.1 x.1.1))):=i u (n 2 (c (.TG [(0,.one (.TM 1)),r 3,r 4,G 5] [w 1 .FC,(1003,.box [.own 101,.TQ .W]),w 1004 .FL,p 101 .FU] g) g)) kz17 (e (Q8 u) t) func67
def Xb(h:D.FC)(a:D.b):I (D.FL×D.FC):=O (Qc u h 3) fun(c,e)=>TG (fun((f,_),i,_,n,g,j,_)=>TN [4,2,(g.length:Int)] f fun k=>O (Qc u i k) fun(l,m)=>TF g a.v (TF j a.k (some ((D.FL.mk f l),m)))) fun b=>cd (c=2) (cd ((a.v.length:Int)=0) (b ((0,()),e,(),z9,a.v,a.k,())) (b ((c,()),e,(),z9,a.v,a.k,()))) (b ((c,()),e,(),z9,a.v,a.k,()))
def Qda:o 67 (Qn [.one (.TM 1),.agg [.own 101,.own 102]] [w 1 .FC,p 101 .FU,p 102 .W] [.st .FL] [w 1 .FC] [101,102] (D.FL×D.FC) kz15 (fun x y=>Xb u y.1 (D.b.mk y.2.1 y.2.2.1))):=i u (n 2 (c (.TG [(0,.one (.TM 1)),r 3,r 4,G 5] [w 1 .FC,(1003,.box [.own 101,.own 102]),w 1004 .FL,p 101 .FU,p 102 .W] g) g)) kz17 (e (Q8 u) t) func67
def VR(p0:D.FC):I (D.b×D.FC):=O (Qc u p0 3) fun(a0,a1)=>Qe (fun L2 ((zG,_),zC,_,_,m,_)=>cd (0<zG) (TN [(ByteArray.mk (List.toArray [99,111,114,101])),(ByteArray.mk (List.toArray [119,101,98]))] (m.length:Int) fun zI=>O (Qc u zC 2) fun(L,a8)=>TG (fun((a9,_),W,_,_,n,o,_)=>TO (o.length+[n].length) 34359738368 (L2 (((J (a9 - 1)),()),W,(),(),(o++[n]),()))) fun p=>O (Qc u a8 2) fun(Z,q)=>cd (Z=0) (O (Qc u q 2) fun(r,a2)=>TO ([L].length+[(J (2+r))].length) 34359738368 (p ((zG,()),a2,(),(),(D.FU.mk zI ([L]++[(J (2+r))])),m,()))) (p ((zG,()),q,(),(),(D.FU.mk zI [L]),m,()))) (O (Qc u zC 3) fun(aA,aB)=>Qe (fun aC ((s,_),t,_,_,v,b,_)=>cd (0<s) (TN [(ByteArray.mk (List.toArray [112])),(ByteArray.mk (List.toArray [113])),(ByteArray.mk (List.toArray [114]))] (b.length:Int) fun aD=>O (QZ u t [0,0,1,2]) fun(aE,aF)=>O (Qc u aF 3) fun(aG,aH)=>Qe (fun aI ((w,y,_),z,_,_,(c,e,_),A,f,g,_)=>cd (0<y) (O (QZ u z [0,60,300,600,900]) fun(aJ,aK)=>O (Qc u aK 2) fun(aL,aM)=>O (Qc u aM 3) fun(aN,aO)=>Qe (fun aP ((B,zH,E,_),F,_,_,(G,H,_),(h,i,_),j,k,l,a,_)=>cd (0<E) (O (Xb u F (D.b.mk j k)) fun(zE,aQ)=>TO (a.length+[zE].length) 34359738368 (aP ((B,zH,(J (E - 1)),()),aQ,(),(),(G,H,()),(h,i,()),j,k,l,(a++[zE]),()))) (TO (l.length+[(D.y.mk h i a)].length) 34359738368 (aI ((B,(J (zH - 1)),()),F,(),(),(G,H,()),j,k,(l++[(D.y.mk h i a)]),())))) u ((w,y,aN,()),aO,(),(),(c,e,()),(aJ,(decide (aL=0)),()),A,f,g,[],())) (TO (f.length+[(D.W.mk c g e)].length) 34359738368 (aC (((J (w - 1)),()),z,(),(),A,(f++[(D.W.mk c g e)]),())))) u ((s,(J (1+aG)),()),aH,(),(),(aD,aE,()),v,b,[],())) (some ((D.b.mk v b),t))) u (((J (1+aA)),()),aB,(),(),m,[],()))) u ((a0,()),a1,(),(),[],())
def Qds:o 18 (Qn [.one (.TM 1)] [w 1 .FC] [L] [w 1 .FC] [] (D.b×D.FC) kz15 (fun x y=>VR u y.1)):=i u (n 2 (c (c g (.one (k [.s 0 (.one (.TM 1)),.s 2 (.one (.TM 1002)),.s 3 (.one (.TM 1003)),.n 4] (c g (c (.one (c g (c (.TG [(0,.one (.TM 1)),r 2,r 3,G 4,r 5] [w 1 .FC,(1002,.box [.nul,.nul]),(1003,.box [.own 1042,.nul]),w 1005 .FU,p 1042 .FU] g) g))) g)) [w 1 .FC,(1002,.box [.nul,.nul]),(1003,.box [.own 1042,.nul]),p 1042 .FU]))) (m [.s 0 (.one (.TM 1)),.s 2 (.one (.TM 1002)),.s 3 (.one (.TM 1003)),.n 6] (c g (c (.one (c g (m [.s 0 (.one (.TM 1)),.s 2 (.one (.TM 1002)),.s 3 (.one (.TM 1003)),.n 6,.s 7 (.one (.TM 1007)),.n 8] (c g (c (.one (c g (m [.s 0 (.one (.TM 1)),.s 2 (.one (.TM 1002)),.s 3 (.one (.TM 1003)),.n 6,.s 7 (.one (.TM 1007)),.n 8,.s 9 (.one (.TM 1009)),.n 10] g [w 1 .FC,(1002,.box [.nul,.nul]),(1003,.box [.own 1042,.own 1099]),(1007,.box [.TY,.own 1093,v]),(1009,.box [v,.Tc,.own 1087]),p 1042 .FU,p 1099 .W,p 1093 .y,p 1087 .FL]))) g)) [w 1 .FC,(1002,.box [.nul,.nul]),(1003,.box [.own 1042,.own 1099]),(1007,.box [.TY,.own 1093,v]),p 1042 .FU,p 1099 .W,p 1093 .y]))) g)) [w 1 .FC,(1002,.box [.nul,.nul]),(1003,.box [.own 1042,.own 1099]),p 1042 .FU,p 1099 .W]))) kz17 (e (Q8 u) (e (YE u) (e (Qda u) (e (Qef u) t)))) func18
def Qub(a:Int)(b:Int):I (D.N×Int):=TG (fun((c,_),h,_)=>some ((D.N.mk c 0 (-1) 0 [] 0 [] []),0)) fun e=>O (QaK u b 1 5) fun f=>C f (O (QaK u a 0 (J (b - 1))) fun g=>C g (e ((a,()),z4,())) (some (z4,1))) (some (z4,1))
def Qs5:o 119 (s [d,d] [zG,d] (Qub u)):=f u (c g (c (j [.n 0,.r 4 .N] g) g)) (e (Qd1 u) t) func119
def Qn8(a:Int):I (D.M×Int):=O (U4 u a 1 5) fun l=>C (!l) (some (z5,1)) (TK a fun g=>TO g 1048576 (Qe (fun m ((h,i,e,_),n,(j,k,_),f,b,_)=>cd (e<i) (O (Qub u e h) fun(c,o)=>TO (f.length+[c].length) 34359738368 (m ((h,i,(J (e+1)),()),n,(j,k,()),(f++[c]),b,()))) (some ((D.M.mk f j b k),0))) u ((a,a,0,()),z5,([],[],()),[],(List.replicate g false),())))
def QpJ:o 69 (s [d] [K,d] (Qn8 u)):=f u (n 3 (m [.n 0,.r 2 .M,.s 4 (.one (.TM 1004)),.n 15,.n 16] g [(1004,.box [.own 1029,.TQ .c,.own 1013,.TQ .FD]),p 1029 .N,p 1013 .bool])) (e (Qf3 u) (e (Qs5 u) t)) func69
def VC(u:Nat)(a:Y D.FU):I (Y D.FU):=TR a (TU (some []) (TO a.length 34359738368 (some a))) (TO a.length 34359738368 (some a))
def Qg8:o 276 (Qn [l .FU] [] [.one (.own 1007)] [p 1007 .FU] [] (Y D.FU) kz6 (fun x y=>VC u x.1)):=i u g kz10 t func276
def Wt(u:Nat)(a:Y D.W):I (Y D.W):=TR a (TU (some []) (TO a.length 34359738368 (some a))) (TO a.length 34359738368 (some a))
def Qe8:o 277 (Qn [l .W] [] [.one (.own 1007)] [p 1007 .W] [] (Y D.W) kz6 (fun x y=>Wt u x.1)):=i u g kz10 t func277
def VB(u:Nat)(a:Y D.Page):I (Y D.Page):=TR a (TU (some []) (TO a.length 34359738368 (some a))) (TO a.length 34359738368 (some a))
def Qg7:o 280 (Qn [l .Page] [] [.one (.own 1007)] [p 1007 .Page] [] (Y D.Page) kz6 (fun x y=>VB u x.1)):=i u g kz10 t func280
def QgA(a:D.r):I D.r:=O (XB u a.Fp) fun b=>some (D.r.mk a.Name a.Fa b)
def Qpe:o 185 (s [t7] [t7] (QgA u)):=f u g (e (Uy u) t) func185
def ZL(h:Y D.r):I (Y D.r):=O (Wa u h) fun e=>Qe (fun i ((f,b,_),a,_)=>cd (b<f) (TK b fun g=>TP g a.length (O a[g]? fun j=>O (QgA u j) fun k=>TK b fun c=>TP c a.length (O a[c]? fun l=>i ((f,(J (b+1)),()),(List.set a c k),())))) (some a)) u (((e.length:Int),0,()),e,())
def UU:o 184 (s [l .r,.one (.fv 185)] [l .r] (ZL u)):=f u (n 2 (m [.s 1 (.one (.fv 185)),.o 5 1009007 .r,.n 10,.n 11] g)) (e (Qpe u) (e (Qbv u) t)) func184
def QcM(a:D.R):I D.R:=O (Yn u a.Ff) fun b=>some (D.R.mk a.Name a.r b a.Fv a.Fw a.Ft)
def Qma:o 187 (s [.st .R] [.st .R] (QcM u)):=f u g (e (WO u) t) func187
def Zh(h:Y D.R):I (Y D.R):=O (Y8 u h) fun e=>Qe (fun i ((f,b,_),a,_)=>cd (b<f) (TK b fun g=>TP g a.length (O a[g]? fun j=>O (QcM u j) fun k=>TK b fun c=>TP c a.length (O a[c]? fun l=>i ((f,(J (b+1)),()),(List.set a c k),())))) (some a)) u (((e.length:Int),0,()),e,())
def VI:o 186 (s [l .R,.one (.fv 187)] [l .R] (Zh u)):=f u (n 2 (m [.s 1 (.one (.fv 187)),.o 5 1009007 .R,.n 10,.n 11] g)) (e (Qma u) (e (Qaq u) t)) func186
def ZA(f:Y D.n):I (Y D.n):=O (Vr u f) fun b=>Qe (zF:=((Int×Int×Unit)×Y D.n×Unit)) (fun h ((g,c,_),a,_)=>cd (c<g) (TK c fun e=>TP e a.length (O a[e]? fun i=>none)) (some a)) u (((b.length:Int),0,()),b,())
def WM:o 188 (s [l .n,.one (.fv 189)] [l .n] (ZA u)):=f u (n 2 (m [.s 1 (.one (.fv 189)),.o 5 1009007 .n,.n 10,.n 11] g)) (e (Uw u) t) func188
def Qej(a:D.x):I D.x:=O (Qy u a.s) fun b=>O (Yn u a.Fi) fun c=>some (D.x.mk a.Name a.r a.T a.Unit a.FH b c a.n a.Fx)
def Qnf:o 274 (s [t9] [t9] (Qej u)):=f u g (e (Q1 u) (e (WO u) t)) func274
def Zs(h:Y D.x):I (Y D.x):=O (Xz u h) fun e=>Qe (fun i ((f,b,_),a,_)=>cd (b<f) (TK b fun g=>TP g a.length (O a[g]? fun j=>O (Qej u j) fun k=>TK b fun c=>TP c a.length (O a[c]? fun l=>i ((f,(J (b+1)),()),(List.set a c k),())))) (some a)) u (((e.length:Int),0,()),e,())
def Ub:o 273 (s [l .x,.one (.fv 274)] [l .x] (Zs u)):=f u (n 2 (m [.s 1 (.one (.fv 274)),.o 5 1009007 .x,.n 10,.n 11] g)) (e (Qnf u) (e (Qbc u) t)) func273
def QaR(a:D.e):I D.e:=O (Zs u a.Fk) fun b=>O (X9 u a.FS) fun c=>some (D.e.mk a.Name b c)
def QjM:o 191 (s [t13] [t13] (QaR u)):=f u g (e (Ub u) (e (Qbu u) t)) func191
def Q3(h:Y D.e):I (Y D.e):=O (Yz u h) fun e=>Qe (fun i ((f,b,_),a,_)=>cd (b<f) (TK b fun g=>TP g a.length (O a[g]? fun j=>O (QaR u j) fun k=>TK b fun c=>TP c a.length (O a[c]? fun l=>i ((f,(J (b+1)),()),(List.set a c k),())))) (some a)) u (((e.length:Int),0,()),e,())
def WN:o 190 (s [l .e,.one (.fv 191)] [l .e] (Q3 u)):=f u (n 2 (m [.s 1 (.one (.fv 191)),.o 5 1009007 .e,.n 10,.n 11] g)) (e (QjM u) (e (Ux u) t)) func190
def Qgz(a:D.FU):I D.FU:=O (Qy u a.s) fun b=>some (D.FU.mk a.Name b)
def Qpd:o 193 (s [.st .FU] [.st .FU] (Qgz u)):=f u g (e (Q1 u) t) func193
def ZK(h:Y D.FU):I (Y D.FU):=O (VC u h) fun e=>Qe (fun i ((f,b,_),a,_)=>cd (b<f) (TK b fun g=>TP g a.length (O a[g]? fun j=>O (Qgz u j) fun k=>TK b fun c=>TP c a.length (O a[c]? fun l=>i ((f,(J (b+1)),()),(List.set a c k),())))) (some a)) u (((e.length:Int),0,()),e,())
def UT:o 192 (s [l .FU,.one (.fv 193)] [l .FU] (ZK u)):=f u (n 2 (m [.s 1 (.one (.fv 193)),.o 5 1009007 .FU,.n 10,.n 11] g)) (e (Qpd u) (e (Qg8 u) t)) func192
def YT(u:Nat)(a:Y D.y):I (Y D.y):=TR a (TU (some []) (TO a.length 34359738368 (some a))) (TO a.length 34359738368 (some a))
def QcD:o 328 (Qn [l .y] [] [.one (.own 1007)] [p 1007 .y] [] (Y D.y) kz6 (fun x y=>YT u x.1)):=i u g kz10 t func328
def Wu(u:Nat)(a:Y D.FL):I (Y D.FL):=TR a (TU (some []) (TO a.length 34359738368 (some a))) (TO a.length 34359738368 (some a))
def Qe9:o 329 (Qn [l .FL] [] [.one (.own 1007)] [p 1007 .FL] [] (Y D.FL) kz6 (fun x y=>Wu u x.1)):=i u g kz10 t func329
def Qgy(a:D.y):I D.y:=O (Wu u a.Fe) fun b=>some (D.y.mk a.Fs a.Fm b)
def Qpc:o 279 (s [.st .y] [.st .y] (Qgy u)):=f u g (e (Qe9 u) t) func279
def Zb(h:Y D.y):I (Y D.y):=O (YT u h) fun e=>Qe (fun i ((f,b,_),a,_)=>cd (b<f) (TK b fun g=>TP g a.length (O a[g]? fun j=>O (Qgy u j) fun k=>TK b fun c=>TP c a.length (O a[c]? fun l=>i ((f,(J (b+1)),()),(List.set a c k),())))) (some a)) u (((e.length:Int),0,()),e,())
def Vd:o 278 (s [l .y,.one (.fv 279)] [l .y] (Zb u)):=f u (n 2 (m [.s 1 (.one (.fv 279)),.o 5 1009007 .y,.n 10,.n 11] g)) (e (Qpc u) (e (QcD u) t)) func278
def QiJ(a:D.W):I D.W:=O (Zb u a.Steps) fun b=>some (D.W.mk a.Name b a.Fh)
def Qq8:o 195 (s [t15] [t15] (QiJ u)):=f u g (e (Vd u) t) func195
def ZB(h:Y D.W):I (Y D.W):=O (Wt u h) fun e=>Qe (fun i ((f,b,_),a,_)=>cd (b<f) (TK b fun g=>TP g a.length (O a[g]? fun j=>O (QiJ u j) fun k=>TK b fun c=>TP c a.length (O a[c]? fun l=>i ((f,(J (b+1)),()),(List.set a c k),())))) (some a)) u (((e.length:Int),0,()),e,())
def UA:o 194 (s [l .W,.one (.fv 195)] [l .W] (ZB u)):=f u (n 2 (m [.s 1 (.one (.fv 195)),.o 5 1009007 .W,.n 10,.n 11] g)) (e (Qq8 u) (e (Qe8 u) t)) func194
def XA(u:Nat)(a:Y D.T):I (Y D.T):=TR a (TU (some []) (TO a.length 34359738368 (some a))) (TO a.length 34359738368 (some a))
def Qbd:o 330 (Qn [l .T] [] [.one (.own 1007)] [p 1007 .T] [] (Y D.T) kz6 (fun x y=>XA u x.1)):=i u g kz10 t func330
def QcL(a:D.T):I D.T:=O (Qy u a.l) fun b=>some (D.T.mk a.K a.At b)
def Ql9:o 282 (s [.st .T] [.st .T] (QcL u)):=f u g (e (Q1 u) t) func282
def Z3(h:Y D.T):I (Y D.T):=O (XA u h) fun e=>Qe (fun i ((f,b,_),a,_)=>cd (b<f) (TK b fun g=>TP g a.length (O a[g]? fun j=>O (QcL u j) fun k=>TK b fun c=>TP c a.length (O a[c]? fun l=>i ((f,(J (b+1)),()),(List.set a c k),())))) (some a)) u (((e.length:Int),0,()),e,())
def VU:o 281 (s [l .T,.one (.fv 282)] [l .T] (Z3 u)):=f u (n 2 (m [.s 1 (.one (.fv 282)),.o 5 1009007 .T,.n 10,.n 11] g)) (e (Ql9 u) (e (Qbd u) t)) func281
def QbW(a:D.Page):I D.Page:=O (Z3 u a.P) fun b=>O (Qy u a.i) fun c=>O (Qy u a.h) fun e=>some (D.Page.mk a.S a.W a.T a.E7 a.FJ a.p a.By a.FK a.FM a.E6 a.FI b c e)
def QiI:o 197 (s [E] [E] (QbW u)):=f u g (e (Q1 u) (e (VU u) t)) func197
def ZJ(h:Y D.Page):I (Y D.Page):=O (VB u h) fun e=>Qe (fun i ((f,b,_),a,_)=>cd (b<f) (TK b fun g=>TP g a.length (O a[g]? fun j=>O (QbW u j) fun k=>TK b fun c=>TP c a.length (O a[c]? fun l=>i ((f,(J (b+1)),()),(List.set a c k),())))) (some a)) u (((e.length:Int),0,()),e,())
def US:o 196 (Qn [l .Page,.one (.fv 197)] [] [.one (.own 1009007)] [p 1009007 .Page] [] (Y D.Page) kz6 (fun x y=>ZJ u x.1)):=i u (n 2 (m [.s 1 (.one (.fv 197)),.o 5 1009007 .Page,.n 10,.n 11] g)) kz10 (e (QiI u) (e (Qg7 u) t)) func196
def Qa2(a:D.G):I D.G:=O (ZL u a.F.FG) fun b=>O (Zh u a.F.l) fun c=>O (ZA u a.F.o) fun e=>O (Q3 u a.F.f) fun f=>O (ZK u a.b.v) fun g=>O (ZB u a.b.k) fun h=>O (ZJ u a.H) fun i=>O (Qy u a.h) fun j=>O (X8 u a.Calls) fun k=>some (D.G.mk a.E9 (D.F.mk b c e f) (D.b.mk g h) i a.E5 a.Fence j k)
def QfF:o 120 (Qn [H] [] [.agg [v,.TQ .r,.TQ .R,.TQ .n,.TQ .e,.TQ .FU,.TQ .W,.own 2060007,v,v,.own 1055007,.own 1058007]] [p 2060007 .Page,p 1055007 .int,p 1058007 .Call] [] D.G kz5 (fun x y=>Qa2 u x.1)):=i u g (fun a b=>D.G.mk a.1.1 (D.F.mk a.1.2.1 a.1.2.2.1 a.1.2.2.2.1 a.1.2.2.2.2.1) (D.b.mk a.1.2.2.2.2.2.1 a.1.2.2.2.2.2.2.1) b.1 a.1.2.2.2.2.2.2.2.1 a.1.2.2.2.2.2.2.2.2.1 b.2.1 b.2.2.1) (e (Qbt u) (e (UU u) (e (VI u) (e (WM u) (e (WN u) (e (UT u) (e (UA u) (e (US u) (e (Q1 u) t))))))))) func120
def Vc(u:Nat)(a:D.Page)(b:Int):I Int:=some (J (a.S - b))
def QfG:o 306 (s [E,d] [d] (Vc u)):=f u g t func306
def QP(f:Y D.Page)(k:Int):I (Int×AH):=Qe (fun i ((c,e,g,a,b,_),_)=>cd (a<b) (TK 1 fun h=>TN c (J (Int.fdiv (IntKind.wrap .u64 (J (a+b))) (HPow.hPow 2 (min h (Go.IntKind.bits Go.IntKind.u64))))) fun l=>O (Vc u l e) fun m=>cd (m<0) (i ((c,e,g,(J ((J (Int.fdiv (IntKind.wrap .u64 (J (a+b))) (HPow.hPow 2 (min h (Go.IntKind.bits Go.IntKind.u64)))))+1)),b,()),())) (i ((c,e,g,a,(J (Int.fdiv (IntKind.wrap .u64 (J (a+b))) (HPow.hPow 2 (min h (Go.IntKind.bits Go.IntKind.u64))))),()),()))) (cd (a<g) (TN c a fun n=>O (Vc u n e) fun j=>cd (j=0) (some (a,true)) (some (a,false))) (some (a,false)))) u ((f,k,(f.length:Int),0,(f.length:Int),()),())
def X7:o 305 (s [l .Page,d,.one (.fv 306)] [d,h] (QP u)):=f u (n 3 (c (.one (k [.l 0 .Page,.n 1,.s 2 (.one (.fv 306)),.n 8,.n 9,.n 10] g)) g)) (e (QfG u) t) func305
def QjL(a:D.G)(b:Int):I (Int×AH):=O (QP u a.H b) fun(c,e)=>some (c,e)
def Qo9:o 220 (s [H,d] [d,h] (QjL u)):=f u g (e (X7 u) t) func220
def Qfv(f:D.b)(b:Int)(g:Int)(c:Int):I (D.Page×Int):=TG (fun((h,e,a,_),i,n,_)=>O (Q7 u e 0 (J ((i.k.length:Int) - 1))) fun j=>C (!j) (some (z1,3)) (some ((D.Page.mk h e a 0 a 0 (-1) 0 a 0 0 [] [] []),0))) fun k=>O (Q7 u b 1 999999) fun l=>C l (O (Q7 u c 0 8589934592) fun m=>C m (k ((b,g,c,()),f,z1,())) (some (z1,1))) (some (z1,1))
def QlK:o 283 (s [L,d,d,d] [E,d] (Qfv u)):=f u (c g (c (j [.n 1,.n 2,.n 3,.r 4 .b,.r 8 .Page] g) g)) (e (WJ u) t) func283
def WZ(u:Nat)(a:Y Int):I (Y Int):=TR a (TU (some []) (TO a.length 34359738368 (some a))) (TO a.length 34359738368 (some a))
def Qgd:o 198 (s [lI] [lI] (WZ u)):=f u g t func198
def X1(a:D.Page):I D.Page:=O (XA u a.P) fun o=>Qe (fun E ((p,e,_),(q,r,s,t,v,w,f,g,h,i,j,k,l,_),y,b,_)=>cd (e<p) (TK e fun m=>TP m b.length (O b[m]? fun z=>O (WZ u z.l) fun A=>TK e fun c=>TP c b.length (O b[c]? fun n=>E ((p,(J (e+1)),()),(q,r,s,t,v,w,f,g,h,i,j,k,l,()),y,(List.set b c (D.T.mk n.K n.At A)),())))) (O (Qy u k) fun B=>O (Qy u l) fun zH=>some (D.Page.mk q r s t v w f g h i j b B zH))) u (((o.length:Int),0,()),(a.S,a.W,a.T,a.E7,a.FJ,a.p,a.By,a.FK,a.FM,a.E6,a.FI,a.i,a.h,()),z1,o,())
def UJ:o 334 (Qn [E] [] [.agg [v,v,v,v,v,v,v,v,v,v,v,.own 1007007,.own 1030007,.own 1033007]] [p 1007007 .T,p 1030007 .int,p 1033007 .int] [] D.Page kz12 (fun x y=>X1 u x.1)):=i u (n 2 (lp [r 1,r 2,G 10,G 11] [(1001,.box [v,v,v,v,v,v,v,v,v,v,v,.own 1007007,.TQ .int,.TQ .int]),w 1002 .Page,p 1007007 .T] g)) (fun a b=>D.Page.mk a.1.1 a.1.2.1 a.1.2.2.1 a.1.2.2.2.1 a.1.2.2.2.2.1 a.1.2.2.2.2.2.1 a.1.2.2.2.2.2.2.1 a.1.2.2.2.2.2.2.2.1 a.1.2.2.2.2.2.2.2.2.1 a.1.2.2.2.2.2.2.2.2.2.1 a.1.2.2.2.2.2.2.2.2.2.2.1 b.1 b.2.1 b.2.2.1) (eD 24 (Qgd u) (e (Q1 u) (e (Qbd u) t))) func334
def Va(u:Nat)(a:D.Page):I (Int×AH):=cd (a.p=0) (some (a.FJ,true)) (cd (a.p=2) (some (a.FK,true)) (some (0,false)))
def UI:o 286 (s [E] [d,h] (Va u)):=f u g t func286
def QaP(a:D.Page)(b:Int):I AH:=O (Va u a) fun(c,e)=>C e (cd (c<=b) sT sF) sF
def QjD:o 351 (s [E,d] [h] (QaP u)):=f u g (e (UI u) t) func351
def Qch(a:D.W)(b:Int):I (Int×Int×AH):=O (Vg u a) fun c=>O (Yx u b 0 (J (c - 1))) fun e=>C (!e) (some (0,0,false)) (nzc (a.Steps.length:Int) (nzc (a.Steps.length:Int) (some ((Int.tmod b (a.Steps.length:Int)),(J (Int.tdiv b (a.Steps.length:Int))),true))))
def Qnl:o 384 (s [t15,d] [d,d,h] (Qch u)):=f u g (e (Vi u) (e (Qcg u) t)) func384
def QfD(u:Nat)(b:Int):I Int:=TG (zB:=((Int×Int×Unit)×Unit)) (fun((c,f,_),_)=>TG (zB:=((Int×Int×Unit)×Unit)) (fun((e,g,_),_)=>TG (zB:=((Int×Int×Unit)×Unit)) (fun((m,n,_),_)=>TK (IntKind.wrap .u8 m) fun h=>TP h (ByteArray.size (ByteArray.mk (List.toArray (List.append (List.append [0,1,2,2,3,3,3,3,4,4,4,4,4,4,4,4,5,5,5,5,5,5,5,5,5,5,5,5,5,5,5,5,6,6,6,6,6,6,6,6,6,6,6,6,6,6,6,6,6,6,6,6,6,6,6,6,6,6,6,6,6,6,6,6] [7,7,7,7,7,7,7,7,7,7,7,7,7,7,7,7,7,7,7,7,7,7,7,7,7,7,7,7,7,7,7,7,7,7,7,7,7,7,7,7,7,7,7,7,7,7,7,7,7,7,7,7,7,7,7,7,7,7,7,7,7,7,7,7]) (List.append [8,8,8,8,8,8,8,8,8,8,8,8,8,8,8,8,8,8,8,8,8,8,8,8,8,8,8,8,8,8,8,8,8,8,8,8,8,8,8,8,8,8,8,8,8,8,8,8,8,8,8,8,8,8,8,8,8,8,8,8,8,8,8,8] [8,8,8,8,8,8,8,8,8,8,8,8,8,8,8,8,8,8,8,8,8,8,8,8,8,8,8,8,8,8,8,8,8,8,8,8,8,8,8,8,8,8,8,8,8,8,8,8,8,8,8,8,8,8,8,8,8,8,8,8,8,8,8,8]))))) (some (J (n+(J (((bAt (ByteArray.mk (List.toArray (List.append (List.append [0,1,2,2,3,3,3,3,4,4,4,4,4,4,4,4,5,5,5,5,5,5,5,5,5,5,5,5,5,5,5,5,6,6,6,6,6,6,6,6,6,6,6,6,6,6,6,6,6,6,6,6,6,6,6,6,6,6,6,6,6,6,6,6] [7,7,7,7,7,7,7,7,7,7,7,7,7,7,7,7,7,7,7,7,7,7,7,7,7,7,7,7,7,7,7,7,7,7,7,7,7,7,7,7,7,7,7,7,7,7,7,7,7,7,7,7,7,7,7,7,7,7,7,7,7,7,7,7]) (List.append [8,8,8,8,8,8,8,8,8,8,8,8,8,8,8,8,8,8,8,8,8,8,8,8,8,8,8,8,8,8,8,8,8,8,8,8,8,8,8,8,8,8,8,8,8,8,8,8,8,8,8,8,8,8,8,8,8,8,8,8,8,8,8,8] [8,8,8,8,8,8,8,8,8,8,8,8,8,8,8,8,8,8,8,8,8,8,8,8,8,8,8,8,8,8,8,8,8,8,8,8,8,8,8,8,8,8,8,8,8,8,8,8,8,8,8,8,8,8,8,8,8,8,8,8,8,8,8,8])))) h):Nat):Int)))))) fun i=>cd (256<=e) (TK 8 fun o=>i (((Int.fdiv e (HPow.hPow 2 (min o (Go.IntKind.bits Go.IntKind.u64)))),(J (g+8)),()),())) (i ((e,g,()),()))) fun j=>cd (65536<=c) (TK 16 fun k=>j (((Int.fdiv c (HPow.hPow 2 (min k (Go.IntKind.bits Go.IntKind.u64)))),(J (f+16)),()),())) (j ((c,f,()),()))) fun a=>cd (4294967296<=b) (TK 32 fun l=>a (((Int.fdiv b (HPow.hPow 2 (min l (Go.IntKind.bits Go.IntKind.u64)))),32,()),())) (a ((b,0,()),()))
def QiF:o 399 (s [.one (.TZ .u64)] [d] (QfD u)):=f u (c g (c (j [.s 0 (.one (.TZ .u64)),.n 2] g) (c (j [.s 0 (.one (.TZ .u64)),.n 2] g) (c (j [.s 0 (.one (.TZ .u64)),.n 2] g) g)))) t func399
def QbF(a:Int):I Int:=O (QfD u a) fun b=>some b
def QeU:o 370 (s [.one (.TZ .u64)] [d] (QbF u)):=f u g (e (QiF u) t) func370
def Qyb(a:D.r):I (D.FY×Int):=O (Qbo u a) fun(b,c)=>some ((D.FY.mk a.Fa b),c)
def Qvq:o 453 (s [t7] [t10,d] (Qyb u)):=f u g (e (Qct u) t) func453
def Qif(c:Y D.r):I (Y D.FY):=Qe (fun h ((e,f,a,_),b,_)=>cd (a<f) (TN e a fun i=>O (Qyb u i) fun(g,j)=>TO (b.length+[g].length) 34359738368 (h ((e,f,(J (a+1)),()),(b++[g]),()))) (some b)) u ((c,(c.length:Int),0,()),[],())
def Qnz:o 447 (s [l .r] [l .FY] (Qif u)):=f u (n 2 (m [.o 3 1022 .FY,.l 8 .r,.n 9,.n 10] g)) (e (Qvq u) t) func447
def QlH(a:D.F):I D.Fl:=O (Qif u a.FG) fun b=>some (D.Fl.mk a b)
def QqA:o 441 (s [tO] [.st .Fl] (QlH u)):=f u g (e (Qnz u) t) func441
def QlF(a:D.F):I (D.Fl×AH):=O (Q6 u a) fun b=>cd (b≠0) (some (z10,false)) (O (QlH u a) fun c=>some (c,true))
def QnQ:o 431 (s [tO] [.st .Fl,h] (QlF u)):=f u g (e (Qbk u) (e (QqA u) t)) func431
def QhA(u:Nat)(a:D.t)(b:Int):I AH:=cd (a.w<=b) (cd (b<a.To) sT sF) sF
def Qna:o 459 (s [.st .t,d] [h] (QhA u)):=f u g t func459
def Qin(i:Y D.t)(l:Int)(m:Int):I Int:=Qe (fun n ((h,e,f,g,c,_),_)=>cd (c<g) (TG (fun((o,p,q,r,j,_),_)=>n ((o,p,q,r,(J (j+1)),()),())) fun b=>TN f c fun a=>O (QhA u a e) fun k=>C k (cd (a.Z=0) (b ((h,e,f,g,c,()),())) (cd (a.Z=1) (b ((a.A,e,f,g,c,()),())) (cd (a.Z≠2) (b ((h,e,f,g,c,()),())) (cd (h=a.A) (b ((a.B,e,f,g,c,()),())) (cd (h=a.B) (b ((a.A,e,f,g,c,()),())) (b ((h,e,f,g,c,()),()))))))) (b ((h,e,f,g,c,()),()))) (some h)) u ((l,m,i,(i.length:Int),0,()),())
def QqF:o 452 (s [l .t,d,d] [d] (Qin u)):=f u (c g (m [.n 1,.n 2,.l 9 .t,.n 10,.n 11] (n 2 (c (j [.n 1,.n 2,.l 9 .t,.n 10,.n 11] g) g)))) (e (Qna u) t) func452
def Qgr(e:D.Fl)(f:D.e)(a:Int):I Int:=TG (fun((b,_),g,c,_)=>O (XH u g c b) fun(k,h)=>O (Qin u c.FS h b) fun i=>some i) fun j=>cd (a<0) (some (-1)) (cd (8589934592<a) (some (-1)) (j ((a,()),e,f,())))
def QoN:o 446 (s [.st .Fl,t13,d] [d] (Qgr u)):=f u (c g (c (j [.n 2,.r 3 .Fl,.r 4 .e] g) g)) (e (QkL u) (e (QqF u) t)) func446
end
end
noncomputable section
open fk Tryz
abbrev bH0:Y Sh:=[kI,.TQ .r,.TQ .R,.TQ .n,.TQ .e,.TQ .FU,.TQ .W,.own 102,kI,kI,.own 103,.own 104]
abbrev bH1:Y Sh:=[kI,kI,kI,kI,kI,kI,kI,kI,kI,kI,kI,.own 2035007,.own 2058007,.own 2061007]
abbrev bH2:Y Sh:=[kI,kI,kI,kI,kI,kI,kI,kI,kI,kI,kI,.own 101,.TQ .int,.own 103]
abbrev bH3:Y Sh:=[kI,kI,kI,kI,kI,kI,kI,kI,kI,kI,kI,.own 103,.own 104,.own 105]
abbrev bH4:Y Sh:=[kI,kI,kI,kI,kI,kI,kI,kI,kI,kI,kI,.own 104,.own 105,.own 106]
abbrev bH5:Y Sh:=[kI,kI,kI,kI,kI,kI,kI,kI,kI,kI,kI,.own 101,.own 102,.own 103]
abbrev bH6:Y Sh:=[kI,kI,kI,kI,kI,kI,kI,kI,kI,kI,kI,.own 102,.own 103,.own 104]
variable (u:Nat)
def QkT(a:D.F)(b:Int)(c:Int):I Int:=O (QlF u a) fun(e,f)=>TG (fun((g,h,_),i,j,_)=>TN i.f g fun k=>O (Qgr u j k h) fun l=>some l) fun m=>C f (O (Ue u a b) fun n=>C n (m ((b,c,()),a,e,())) (some (-1))) (some (-1))
def Qsg:o 440 (s [tO,d,d] [d] (QkT u)):=f u (n 2 (c (j [.n 1,.n 2,.r 3 .F,.r 7 .Fl] g) g)) (e (Qhr u) (e (QnQ u) (e (QoN u) t))) func440
def QgU(a:D.F)(b:Int)(c:Int):I Int:=O (QkT u a b c) fun e=>some e
def QpL:o 430 (s [tO,d,d] [d] (QgU u)):=f u g (e (Qsg u) t) func430
def QcR(c:D.F)(e:D.b)(a:D.FL)(f:Int):I (Y Int):=TG (fun((k,_),l,m,b,_)=>cd (b.Z=1) (O (QgU u l b.FW k) fun n=>some [n]) (cd (b.Z=2) (TN m.v b.FW fun o=>some o.s) (some [b.FW]))) fun g=>O (Yx u a.Z 0 2) fun p=>C p (O (Vj u c e) fun h=>cd (a.Z=((0:Nat):Int)) (O (Yx u a.FW 0 (J (h.a0 - 1))) fun q=>C q (g ((f,()),c,e,a,())) (some [])) (cd (a.Z=(((0+1):Nat):Int)) (O (Yx u a.FW 0 (J (h.a1 - 1))) fun i=>C i (g ((f,()),c,e,a,())) (some [])) (cd (a.Z=((((0+1)+1):Nat):Int)) (O (Yx u a.FW 0 (J (h.a2 - 1))) fun j=>C j (g ((f,()),c,e,a,())) (some [])) none))) (some [])
def Qml:o 410 (s [tO,L,.st .FL,d] [lI] (QcR u)):=f u (c g (c (j [.n 3,.r 4 .F,.r 5 .b,.r 6 .FL] g) g)) (e (Vi u) (e (QfM u) (e (QpL u) t))) func410
def Vh(b:Int)(a:D.F):I AH:=O (Yx u b 0 (J ((a.l.length:Int) - 1))) fun c=>TF a a (some (!c))
def QcQ:o 411 (Qn [d,.one (.TM 101)] [w 101 .F] [h] [] [101] AH kz2 (fun x y=>Vh u x.1 y.1)):=i u g kz4 (e (Vi u) t) func411
def QX(b:Y Int)(c102:D.F):I Int:=Qe (fun h ((f,c,_),e,a,_)=>cd (c<f) (TK c fun g=>TP g a.length (O a[g]? fun i=>O (Vh u i e) fun j=>C j (TF a b (TF e c102 (some c))) (h ((f,(J (c+1)),()),e,a,())))) (TF a b (TF e c102 (some (-1))))) u (((b.length:Int),0,()),c102,b,())
def Wx:o 341 (Qn [.one (.own 101),.one (.clo 411 [102])] [p 101 .int,w 102 .F] [d] [] [101,102] Int kz2 (fun x y=>QX u y.1 y.2.1)):=i u (c g (lp [(0,.one (.own 101)),(1,.one (.clo 411 [102])),G 7,G 8] [w 102 .F,p 101 .int] g)) kz4 (e (QcQ u) t) func341
def QS(f:Y Int)(c102:D.F):I (Nat×Nat×Y Int):=O (QX u f c102) fun m=>cd (m=(-1)) (TF c102 c102 (some (0,f.length,f))) (Qe (fun o ((c,g,_),h,a,_)=>cd (g<(a.length:Int)) (TG (fun((p,q,_),r,s,_)=>o ((p,(J (q+1)),()),r,s,())) fun i=>TK g fun j=>TP j a.length (O a[j]? fun k=>O (Vh u k h) fun n=>C (!n) (TK c fun e=>TP e a.length (O a[e]? fun t=>i (((J (c+1)),g,()),h,(List.set a e k),()))) (i ((c,g,()),h,a,())))) (TK c fun b=>TO b a.length (TO b a.length (TO a.length a.length (TK c fun l=>TO l (((List.take b a)++(List.replicate (a.length - b) 0))++(List.drop a.length a)).length (TF h c102 (some (0,l,(((List.take b a)++(List.replicate (a.length - b) 0))++(List.drop a.length a)))))))))) u ((m,(J (m+1)),()),c102,f,()))
def We:o 385 (Qn [.one (.own 101),.one (.clo 411 [102])] [p 101 .int,w 102 .F] [.one (.view 101)] [p 101 .int] [102] (Nat×Nat×Y Int) kz18 (fun x y=>QS u y.1 y.2.1)):=i u (n 3 (lp [(0,.one (.own 101)),(1,.one (.clo 411 [102])),G 5,G 6] [w 102 .F,p 101 .int] (c g (c (.TG [(0,.one (.own 101)),(1,.one (.clo 411 [102])),G 5,G 6] [w 102 .F,p 101 .int] g) g)))) kz20 (e (Wx u) (e (QcQ u) t)) func385
def Zi(l0:Nat)(h0:Nat)(W:Y Int)(w:Int)(Z:Int):I (Y Int):=Qe (fun L0 ((a1,a2,a3,y,v,_),z,_)=>cd (v<y) (TG (fun((a7,a8,a9,A,B,_),zH,_)=>L0 ((a7,a8,a9,A,(J (B+1)),()),zH,())) fun o=>Qe (fun E ((b,c,i,l,m,j,_),e,_)=>TG (fun((a,f,F,G,H,g,_),h,_)=>TK (J (g - 1)) fun p=>TP p (f - a) (O (GetElem?.getElem? h (a+p)) fun q=>TK g fun r=>TP r (f - a) (O (GetElem?.getElem? h (a+r)) fun zE=>TK g fun k=>TP k (f - a) (O (GetElem?.getElem? h (a+k)) fun a0=>TK (J (g - 1)) fun n=>TP n (f - a) (O (GetElem?.getElem? (List.set h (a+k) q) (a+n)) fun aA=>E ((a,f,F,G,H,(J (g - 1)),()),(List.set (List.set h (a+k) q) (a+n) zE),())))))) fun zG=>cd (i<j) (TK j fun s=>TP s (c - b) (O (GetElem?.getElem? e (b+s)) fun L=>TK (J (j - 1)) fun t=>TP t (c - b) (O (GetElem?.getElem? e (b+t)) fun zC=>O (Un u L zC) fun zI=>C zI (zG ((b,c,i,l,m,j,()),e,())) (o ((b,c,i,l,m,()),e,()))))) (o ((b,c,i,l,m,()),e,()))) u ((a1,a2,a3,y,v,v,()),z,())) (some z)) u ((l0,h0,w,Z,(J (w+1)),()),W,())
def VN:o 389 (Qn [.one (.view 101),d,d] [p 101 .int] [] [(101,.arrs .int)] [] (Y Int) kz6 (fun x y=>Zi u x.1 x.2.1 y.1 x.2.2.1 x.2.2.2.1)):=i u (c g (.one (k [.s 0 (.one (.view 101)),.n 1,.n 2,.n 6] (c g (c (j [.s 0 (.one (.view 101)),.n 1,.n 2,.n 6] (.one (c g (.one (k [.s 0 (.one (.view 101)),.n 1,.n 2,.n 6,.n 7] (c (j [.s 0 (.one (.view 101)),.n 1,.n 2,.n 6,.n 7] g [p 101 .int]) g) [p 101 .int])))) [p 101 .int]) g)) [p 101 .int]))) kz10 (e (Qb9 u) t) func389
def YW(l0:Nat)(h0:Nat)(f:Y Int)(g:Int)(h:Int)(i:Int):I (Y Int):=Qe (fun n ((j,k,a,b,l,m,o,_),c,_)=>cd ((J (b - a))<=12) (O (Zi u j k c a b) fun e=>chk e.length c.length (some e)) (cd (l=0) none (C (!m) none none))) u ((l0,h0,g,h,i,true,true,()),f,())
def QaI:o 369 (Qn [.one (.view 101),d,d,d] [p 101 .int] [] [(101,.arrs .int)] [] (Y Int) kz6 (fun x y=>YW u x.1 x.2.1 y.1 x.2.2.1 x.2.2.2.1 x.2.2.2.2.1)):=i u (n 2 (.one (k [.s 0 (.one (.view 101)),.n 1,.n 2,.n 3,.s 8 h,.s 9 h] g [p 101 .int]))) kz10 (e (VN u) t) func369
def W1(l0:Nat)(h0:Nat)(a:Y Int):I (Y Int):=O (QbF u (IntKind.wrap .u64 (((h0 - l0):Nat):Int))) fun c=>O (YW u l0 h0 a 0 (((h0 - l0):Nat):Int) c) fun b=>chk b.length a.length (some b)
def Qgg:o 354 (Qn [.one (.view 101)] [p 101 .int] [] [(101,.arrs .int)] [] (Y Int) kz6 (fun x y=>W1 u x.1 x.2.1 y.1)):=i u g kz10 (e (QaI u) (e (QeU u) t)) func354
def XC(l0:Nat)(h0:Nat)(t:Y Int):I (Nat×Nat×Y Int):=cd ((((h0 - l0):Nat):Int)<2) (some (l0,h0,t)) (Qe (fun zC ((f,i,l,_),m,_)=>cd (l<(((i - f):Nat):Int)) (TK l fun v=>TP v (i - f) (O (GetElem?.getElem? m (f+v)) fun zI=>TK (J (l - 1)) fun w=>TP w (i - f) (O (GetElem?.getElem? m (f+w)) fun W=>cd (zI=W) (TK l fun y=>TP y (i - f) (Qe (fun z ((a,b,j,c,g,h,_),e,_)=>cd (h<(((g - c):Nat):Int)) (TG (fun((A,B,zH,E,F,G,_),H,_)=>z ((A,B,zH,E,F,(J (G+1)),()),H,())) fun o=>TK h fun p=>TP p (g - c) (O (GetElem?.getElem? e (c+p)) fun zE=>TK (J (h - 1)) fun q=>TP q (g - c) (O (GetElem?.getElem? e (c+q)) fun zG=>cd (zE≠zG) (TK h fun r=>TP r (g - c) (O (GetElem?.getElem? e (c+r)) fun L=>TK j fun n=>TP n (b - a) (O (GetElem?.getElem? e (a+n)) fun Z=>o ((a,b,(J (j+1)),c,g,h,()),(List.set e (a+n) L),())))) (o ((a,b,j,c,g,h,()),e,()))))) (TK j fun k=>TP k (b - a) (TO (a+k) (a+(b - a)) (TO (a+(b - a)) e.length (TK j fun s=>TO s (b - a) (some ((a+0),(a+s),(((List.take (a+k) e)++(List.replicate ((a+(b - a)) - (a+k)) 0))++(List.drop (a+(b - a)) e))))))))) u ((f,i,l,(f+y),(f+(i - f)),1,()),m,()))) (zC ((f,i,(J (l+1)),()),m,()))))) (some (f,i,m))) u ((l0,h0,1,()),t,()))
def QdT:o 412 (Qn [.one (.view 101)] [p 101 .int] [.one (.view 101)] [p 101 .int] [] (Nat×Nat×Y Int) kz18 (fun x y=>XC u x.1 x.2.1 y.1)):=i u (n 2 (m [.s 0 (.one (.view 101)),.n 3] (c g (c (.one (c g (c (c g (m [.s 0 (.one (.view 101)),.n 3,.s 4 (.one (.view 101)),.n 5] (c g (c (j [.s 0 (.one (.view 101)),.n 3,.s 4 (.one (.view 101)),.n 5] g [p 101 .int]) g)) [p 101 .int])) g))) g)) [p 101 .int])) kz20 t func412
def QbH(r:D.F)(s:D.b)(i:Y D.FL)(t:Int):I (Nat×Nat×Y Int):=Qe (fun v ((j,k,l,f,_),g,m,h,_)=>cd (f<l) (TN k f fun w=>O (QcR u g m w j) fun n=>TO (h.length+n.length) 34359738368 (v ((j,k,l,(J (f+1)),()),g,m,(h++n),()))) (O (QS u h g) fun(a,b,c)=>O (W1 u a b c) fun e=>chk e.length c.length (O (XC u a b e) fun(o,p,q)=>some (o,p,q)))) u ((t,i,(i.length:Int),0,()),r,s,[],())
def QkD:o 386 (Qn [tO,L,l .FL,d] [] [.one (.view 1024)] [p 1024 .int] [] (Nat×Nat×Y Int) kz18 (fun x y=>QbH u x.1 x.2.1 x.2.2.1 x.2.2.2.1)):=i u (n 2 (m [.n 3,.r 4 .F,.r 5 .b,.o 9 1024 .int,.l 12 .FL,.n 13,.n 14] g)) kz20 (e (Qgg u) (e (We u) (e (Qml u) (e (QdT u) t)))) func386
def Qjz(u:Nat)(a:Int)(b:Int):I AH:=cd (0<=a) (cd (a<=8589934592) (cd (a<=b) (cd (b<=8589934592) (cd ((J (b - a))<=34560000) sT sF) sF) sF) sF) sF
def QoI:o 432 (s [d,d] [h] (Qjz u)):=f u g t func432
def Qee(b:D.F)(c:Int)(e:Int)(f:Int):I (D.Fl×Int):=O (QlF u b) fun(a,g)=>TG (fun(_,k,h,_)=>some (h,0)) fun i=>C (!g) (some (a,8)) (cd (c<0) (some (a,3)) (cd ((b.l.length:Int)<=c) (some (a,3)) (O (Qjz u e f) fun j=>C (!j) (some (a,1)) (i ((),z10,a,())))))
def Qnc:o 413 (s [tO,d,d,d] [.st .Fl,d] (Qee u)):=f u (n 2 (c (j [.r 8 .Fl,.r 10 .Fl] g) g)) (e (QnQ u) (e (QoI u) t)) func413
def XZ(u:Nat)(a:D.Fl)(b:Int):I D.FY:=TN a.tables b fun c=>some c
def Qim:o 416 (s [.st .Fl,d] [t10] (XZ u)):=f u g t func416
def V2(c:D.F)(e:Int)(b:Int)(h:AH):I AH:=O (Qee u c e b b) fun(f,i)=>cd (i≠0) sF (TN c.l e fun a=>C h (C a.Ft sT (O (XZ u f a.r) fun j=>O (ZS u j b) fun k=>O (Wy u k) fun l=>O (QeQ u a.Ff l) fun m=>C m sF sT)) (O (XZ u f a.r) fun n=>O (ZS u n b) fun o=>O (Wy u o) fun p=>O (QeQ u a.Ff p) fun g=>C g sF sT))
def QhH:o 388 (s [tO,d,d,h] [h] (V2 u)):=f u g (e (Qnc u) (e (Qm2 u) (e (QeZ u) (e (Qim u) (e (Uj u) t))))) func388
def ZE(e:Int)(a:D.F)(c:D.Page)(b:D.y):I (AH×D.Page):=O (V2 u a e c.FJ b.Fm) fun f=>TF a a (TF b b (some ((!f),c)))
def WA:o 387 (Qn [d,.one (.TM 101),.one (.TM 102),.one (.TM 106)] [w 101 .F,(102,.box bH3),p 103 .T,p 104 .int,p 105 .int,w 106 .y] [h] [(102,.box bH3),p 103 .T,p 104 .int,p 105 .int] [101,106] (AH×D.Page) kz8 (fun x y=>ZE u x.1 y.1 (D.Page.mk y.2.1.1 y.2.1.2.1 y.2.1.2.2.1 y.2.1.2.2.2.1 y.2.1.2.2.2.2.1 y.2.1.2.2.2.2.2.1 y.2.1.2.2.2.2.2.2.1 y.2.1.2.2.2.2.2.2.2.1 y.2.1.2.2.2.2.2.2.2.2.1 y.2.1.2.2.2.2.2.2.2.2.2.1 y.2.1.2.2.2.2.2.2.2.2.2.2.1 y.2.2.1 y.2.2.2.1 y.2.2.2.2.1) y.2.2.2.2.2.1)):=i u g (fun a b=>(a.1,(D.Page.mk b.1.1 b.1.2.1 b.1.2.2.1 b.1.2.2.2.1 b.1.2.2.2.2.1 b.1.2.2.2.2.2.1 b.1.2.2.2.2.2.2.1 b.1.2.2.2.2.2.2.2.1 b.1.2.2.2.2.2.2.2.2.1 b.1.2.2.2.2.2.2.2.2.2.1 b.1.2.2.2.2.2.2.2.2.2.2.1 b.2.1 b.2.2.1 b.2.2.2.1))) (e (QhH u) t) func387
def Qx(l0:Nat)(h0:Nat)(r:Y Int)(c102:D.F)(c103:D.Page)(c107:D.y):I (Int×D.Page):=Qe (fun E ((s,t,v,e,_),f,(w,y,z,A,g,h,i,j,k,l,m,_),b,c,n,o,p,_)=>cd (e<v) (TK e fun q=>TP q (t - s) (O (GetElem?.getElem? c (s+q)) fun B=>O (ZE u B f (D.Page.mk w y z A g h i j k l m n o p) b) fun(zH,a)=>C zH (TF c r (TF f c102 (TF b c107 (some (e,a))))) (E ((s,t,v,(J (e+1)),()),f,(a.S,a.W,a.T,a.E7,a.FJ,a.p,a.By,a.FK,a.FM,a.E6,a.FI,()),b,c,a.P,a.i,a.h,())))) (TF c r (TF f c102 (TF b c107 (some ((-1),(D.Page.mk w y z A g h i j k l m n o p))))))) u ((l0,h0,(((h0 - l0):Nat):Int),0,()),c102,((D.Page.S c103),(D.Page.W c103),(D.Page.T c103),(D.Page.E7 c103),(D.Page.FJ c103),(D.Page.p c103),(D.Page.By c103),(D.Page.FK c103),(D.Page.FM c103),(D.Page.E6 c103),(D.Page.FI c103),()),c107,r,(D.Page.P c103),(D.Page.i c103),(D.Page.h c103),())
def YN:o 341 (Qn [.one (.view 101),.one (.clo 387 [102,103,107])] [p 101 .int,w 102 .F,(103,.box bH4),p 104 .T,p 105 .int,p 106 .int,w 107 .y] [d] [(103,.box bH4),p 104 .T,p 105 .int,p 106 .int] [101,102,107] (Int×D.Page) kz16 (fun x y=>Qx u x.1 x.2.1 y.1 y.2.1 (D.Page.mk y.2.2.1.1 y.2.2.1.2.1 y.2.2.1.2.2.1 y.2.2.1.2.2.2.1 y.2.2.1.2.2.2.2.1 y.2.2.1.2.2.2.2.2.1 y.2.2.1.2.2.2.2.2.2.1 y.2.2.1.2.2.2.2.2.2.2.1 y.2.2.1.2.2.2.2.2.2.2.2.1 y.2.2.1.2.2.2.2.2.2.2.2.2.1 y.2.2.1.2.2.2.2.2.2.2.2.2.2.1 y.2.2.2.1 y.2.2.2.2.1 y.2.2.2.2.2.1) y.2.2.2.2.2.2.1)):=i u (c g (m [.s 0 (.one (.view 101)),.s 1 (.one (.clo 387 [102,103,107])),.n 7,.n 8] g [w 102 .F,(103,.box bH4),w 107 .y,p 101 .int,p 104 .T,p 105 .int,p 106 .int])) (fun a b=>(a.1,(D.Page.mk b.1.1 b.1.2.1 b.1.2.2.1 b.1.2.2.2.1 b.1.2.2.2.2.1 b.1.2.2.2.2.2.1 b.1.2.2.2.2.2.2.1 b.1.2.2.2.2.2.2.2.1 b.1.2.2.2.2.2.2.2.2.1 b.1.2.2.2.2.2.2.2.2.2.1 b.1.2.2.2.2.2.2.2.2.2.2.1 b.2.1 b.2.2.1 b.2.2.2.1))) (e (WA u) t) func341
def Qw(l0:Nat)(h0:Nat)(F:Y Int)(c102:D.F)(c103:D.Page)(c107:D.y):I (Nat×Nat×D.Page×Y Int):=O (Qx u l0 h0 F c102 c103 c107) fun(G,c)=>cd (G=(-1)) (TF c102 c102 (TF c107 c107 (some (l0,h0,c,F)))) (Qe (fun L2 ((b,e,i,k,_),l,(H,zE,m,n,o,p,q,r,s,t,v,_),g,f,w,y,z,_)=>cd (k<(((e - b):Nat):Int)) (TG (fun((zG,L,zC,zI,_),W,(Z,a2,aA,aB,aC,aD,aE,aF,aG,aH,aI,_),aJ,aK,aL,aM,aN,_)=>L2 ((zG,L,zC,(J (zI+1)),()),W,(Z,a2,aA,aB,aC,aD,aE,aF,aG,aH,aI,()),aJ,aK,aL,aM,aN,())) fun A=>TK k fun B=>TP B (e - b) (O (GetElem?.getElem? f (b+B)) fun zH=>O (ZE u zH l (D.Page.mk H zE m n o p q r s t v w y z) g) fun(aO,a)=>C (!aO) (TK i fun j=>TP j (e - b) (O (GetElem?.getElem? f (b+j)) fun aP=>A ((b,e,(J (i+1)),k,()),l,(a.S,a.W,a.T,a.E7,a.FJ,a.p,a.By,a.FK,a.FM,a.E6,a.FI,()),g,(List.set f (b+j) zH),a.P,a.i,a.h,()))) (A ((b,e,i,k,()),l,(a.S,a.W,a.T,a.E7,a.FJ,a.p,a.By,a.FK,a.FM,a.E6,a.FI,()),g,f,a.P,a.i,a.h,())))) (TK i fun h=>TP h (e - b) (TO (b+h) (b+(e - b)) (TO (b+(e - b)) f.length (TK i fun E=>TO E (e - b) (TF l c102 (TF g c107 (some ((b+0),(b+E),(D.Page.mk H zE m n o p q r s t v w y z),(((List.take (b+h) f)++(List.replicate ((b+(e - b)) - (b+h)) 0))++(List.drop (b+(e - b)) f))))))))))) u ((l0,h0,G,(J (G+1)),()),c102,(c.S,c.W,c.T,c.E7,c.FJ,c.p,c.By,c.FK,c.FM,c.E6,c.FI,()),c107,F,c.P,c.i,c.h,()))
def YH:o 385 (Qn [.one (.view 101),.one (.clo 387 [102,103,107])] [p 101 .int,w 102 .F,(103,.box bH4),p 104 .T,p 105 .int,p 106 .int,w 107 .y] [.one (.view 101)] [(103,.box bH4),p 104 .T,p 105 .int,p 106 .int,p 101 .int] [102,107] (Nat×Nat×D.Page×Y Int) (fun q=>((q.1,q.2.1,()),(q.2.2.1.S,q.2.2.1.W,q.2.2.1.T,q.2.2.1.E7,q.2.2.1.FJ,q.2.2.1.p,q.2.2.1.By,q.2.2.1.FK,q.2.2.1.FM,q.2.2.1.E6,q.2.2.1.FI,()),q.2.2.1.P,q.2.2.1.i,q.2.2.1.h,q.2.2.2,())) (fun x y=>Qw u x.1 x.2.1 y.1 y.2.1 (D.Page.mk y.2.2.1.1 y.2.2.1.2.1 y.2.2.1.2.2.1 y.2.2.1.2.2.2.1 y.2.2.1.2.2.2.2.1 y.2.2.1.2.2.2.2.2.1 y.2.2.1.2.2.2.2.2.2.1 y.2.2.1.2.2.2.2.2.2.2.1 y.2.2.1.2.2.2.2.2.2.2.2.1 y.2.2.1.2.2.2.2.2.2.2.2.2.1 y.2.2.1.2.2.2.2.2.2.2.2.2.2.1 y.2.2.2.1 y.2.2.2.2.1 y.2.2.2.2.2.1) y.2.2.2.2.2.2.1)):=i u (n 3 (m [.s 0 (.one (.view 101)),.s 1 (.one (.clo 387 [102,103,107])),.n 5,.n 6] (c g (c (j [.s 0 (.one (.view 101)),.s 1 (.one (.clo 387 [102,103,107])),.n 5,.n 6] g [w 102 .F,(103,.box bH4),w 107 .y,p 101 .int,p 104 .T,p 105 .int,p 106 .int]) g)) [w 102 .F,(103,.box bH4),w 107 .y,p 101 .int,p 104 .T,p 105 .int,p 106 .int])) (fun a b=>(a.1,a.2.1,(D.Page.mk b.1.1 b.1.2.1 b.1.2.2.1 b.1.2.2.2.1 b.1.2.2.2.2.1 b.1.2.2.2.2.2.1 b.1.2.2.2.2.2.2.1 b.1.2.2.2.2.2.2.2.1 b.1.2.2.2.2.2.2.2.2.1 b.1.2.2.2.2.2.2.2.2.2.1 b.1.2.2.2.2.2.2.2.2.2.2.1 b.2.1 b.2.2.1 b.2.2.2.1),b.2.2.2.2.1)) (e (YN u) (e (WA u) t)) func385
def Yr(i:D.F)(j:D.b)(c:D.Page):I (D.Page×Y Int):=TN j.k c.W fun k=>O (Qch u k c.E7) fun(zH,zE,zG)=>TN k.Steps zH fun h=>O (QbH u i j h.Fe c.FJ) fun(E,F,G)=>O (Qw u E F G i c h) fun(e,f,a,b)=>TO (a.P.length+[(D.T.mk a.E7 a.FJ (List.drop e (List.take f b)))].length) 34359738368 (TG (fun(_,(l,m,n,o,p,q,r,s,t,v,w,y,_),H,z,A,B,_)=>some ((D.Page.mk l m n o p q r s t v w z y A),B)) fun g=>cd (0<(((List.drop e (List.take f b)).length:Nat):Int)) (g ((),(a.S,a.W,a.T,(J (a.E7+1)),(J (a.FJ+h.Fs)),a.p,a.By,a.FK,a.FM,a.E6,a.FI,[],()),z1,(a.P++[(D.T.mk a.E7 a.FJ (List.drop e (List.take f b)))]),a.h,a.i,())) (g ((),(a.S,a.W,a.T,(J (a.E7+1)),a.FJ,a.p,a.By,a.FK,a.FM,a.E6,a.FI,[],()),z1,(a.P++[(D.T.mk a.E7 a.FJ (List.drop e (List.take f b)))]),a.h,a.i,())))
def QbA:o 368 (Qn [tO,L,.agg bH5] [p 101 .T,p 102 .int,p 103 .int] [.agg bH2] [p 101 .T,p 102 .int,p 103 .int] [] (D.Page×Y Int) (fun q=>(((q.1.S,q.1.W,q.1.T,q.1.E7,q.1.FJ,q.1.p,q.1.By,q.1.FK,q.1.FM,q.1.E6,q.1.FI,q.1.i,()),()),q.1.P,q.2,q.1.h,())) (fun x y=>Yr u x.1 x.2.1 (D.Page.mk x.2.2.1.1 x.2.2.1.2.1 x.2.2.1.2.2.1 x.2.2.1.2.2.2.1 x.2.2.1.2.2.2.2.1 x.2.2.1.2.2.2.2.2.1 x.2.2.1.2.2.2.2.2.2.1 x.2.2.1.2.2.2.2.2.2.2.1 x.2.2.1.2.2.2.2.2.2.2.2.1 x.2.2.1.2.2.2.2.2.2.2.2.2.1 x.2.2.1.2.2.2.2.2.2.2.2.2.2.1 y.1 y.2.1 y.2.2.1))):=i u (n 8 (c (.TG [r 5,r 6] [(1005,.box bH2),w 1006 .Page,p 101 .T,p 103 .int,p 102 .int] g) g)) (fun a b=>((D.Page.mk a.1.1 a.1.2.1 a.1.2.2.1 a.1.2.2.2.1 a.1.2.2.2.2.1 a.1.2.2.2.2.2.1 a.1.2.2.2.2.2.2.1 a.1.2.2.2.2.2.2.2.1 a.1.2.2.2.2.2.2.2.2.1 a.1.2.2.2.2.2.2.2.2.2.1 a.1.2.2.2.2.2.2.2.2.2.2.1 b.1 a.1.2.2.2.2.2.2.2.2.2.2.2.1 b.2.2.1),b.2.1)) (e (Qnl u) (e (YH u) (e (QkD u) t))) func368
def Qbz(r:D.F)(g:D.b)(e:D.Page):I (D.Page×Int):=O (Va u e) fun(f,s)=>O (Yq u g e) fun t=>C (!t) (some (z1,8)) (C (!s) (some (z1,9)) (cd ((e.P.length:Int)=200) (some (z1,5)) (O (X1 u e) fun a=>TG (fun(_,(v,w,y,z,A,B,h,i,j,k,l,m,_),zH,n,o,_)=>some ((D.Page.mk v w y z A B h i j k l n m o),0)) fun c=>cd (a.p=2) (c ((),(a.S,a.W,a.T,a.E7,f,0,a.By,a.FK,(max a.FM f),a.E6,a.FI,a.i,()),z1,a.P,a.h,())) (TN g.k a.W fun p=>O (Vg u p) fun q=>cd (a.E7=q) (c ((),(a.S,a.W,a.T,a.E7,a.FJ,3,a.By,a.FK,(max a.FM f),a.E6,a.FI,a.i,()),z1,a.P,a.h,())) (O (Yr u r g (D.Page.mk a.S a.W a.T a.E7 a.FJ a.p a.By a.FK (max a.FM f) a.E6 a.FI a.P a.i a.h)) fun(b,E)=>c ((),(b.S,b.W,b.T,b.E7,b.FJ,b.p,b.By,b.FK,b.FM,b.E6,b.FI,b.i,()),z1,b.P,b.h,()))))))
def Qkw:o 352 (s [tO,L,E] [E,d] (Qbz u)):=f u (n 5 (c (.TG [r 5,r 6] [(1005,.box [v,v,v,v,v,v,v,v,v,v,v,.own 2039007,.TQ .int,.own 2065007]),w 1006 .Page,p 2039007 .T,p 2065007 .int] g) g)) (e (Vx u) (e (Qcg u) (e (UI u) (e (UJ u) (e (QbA u) t))))) func352
def QcG(i:D.F)(c:D.b)(e:D.Page)(j:Int):I (D.Page×Int):=O (Yq u c e) fun k=>C (!k) (some (z1,8)) (O (X1 u e) fun l=>Qe (fun m ((f,_),g,h,b,n,_)=>O (QaP u b f) fun o=>C o (O (Qbz u g h b) fun(p,a)=>cd (a≠0) (some (z1,a)) (m ((f,()),g,h,p,n,()))) (some (b,0))) u ((j,()),i,c,l,z1,()))
def QlL:o 333 (s [tO,L,E,d] [E,d] (QcG u)):=f u (n 3 (m [.n 3,.r 4 .F,.r 5 .b,.r 6 .Page,.r 8 .Page] g)) (e (Vx u) (e (UJ u) (e (QjD u) (e (Qkw u) t)))) func333
def Qgw(u:Nat)(a:D.Page):I Int:=cd (a.p=2) (some (-1)) (some a.E7)
def Qpa:o 287 (s [E] [d] (Qgw u)):=f u g t func287
def Qad(b:Y Int)(h:Int):I Int:=Qe (fun i ((e,f,c,_),a,_)=>cd (c<f) (TK c fun g=>TP g a.length (O a[g]? fun j=>cd (e=j) (TF a b (some c)) (i ((e,f,(J (c+1)),()),a,())))) (TF a b (some (-1)))) u ((h,(b.length:Int),0,()),b,())
def Qgf:o 239 (Qn [.one (.own 101),d] [p 101 .int] [d] [] [101] Int kz2 (fun x y=>Qad u y.1 x.1)):=i u (c g (m [.o 0 101 .int,.n 1,.n 7,.n 8] g)) kz4 t func239
def Zw(a:Y Int)(b:Int):I AH:=O (Qad u a b) fun c=>TF a a (some (decide (0<=c)))
def YD:o 171 (Qn [.one (.own 101),d] [p 101 .int] [h] [] [101] AH kz2 (fun x y=>Zw u y.1 x.1)):=i u g kz4 (e (Qgf u) t) func171
def YQ(u:Nat)(a:D.Page):I (Int×AH):=cd (a.p=0) (TF a.P a.P (TF a.i a.i (TF a.h a.h (some (a.FJ,true))))) (cd (a.p=2) (TF a.P a.P (TF a.i a.i (TF a.h a.h (some (a.FK,true))))) (TF a.P a.P (TF a.i a.i (TF a.h a.h (some (0,false))))))
def Qcx:o 286 (Qn [.agg bH5] [p 101 .T,p 102 .int,p 103 .int] [d,h] [] [101,102,103] (Int×AH) kz22 (fun x y=>YQ u (D.Page.mk x.1.1 x.1.2.1 x.1.2.2.1 x.1.2.2.2.1 x.1.2.2.2.2.1 x.1.2.2.2.2.2.1 x.1.2.2.2.2.2.2.1 x.1.2.2.2.2.2.2.2.1 x.1.2.2.2.2.2.2.2.2.1 x.1.2.2.2.2.2.2.2.2.2.1 x.1.2.2.2.2.2.2.2.2.2.2.1 y.1 y.2.1 y.2.2.1))):=i u g kz23 t func286
def Ys(a:D.Page)(b:Int):I AH:=O (YQ u a) fun(c,e)=>C e (cd (c<=b) (TF a.P a.P (TF a.i a.i (TF a.h a.h sT))) (TF a.P a.P (TF a.i a.i (TF a.h a.h sF)))) (TF a.P a.P (TF a.i a.i (TF a.h a.h sF)))
def QbC:o 351 (Qn [.agg bH5,d] [p 101 .T,p 102 .int,p 103 .int] [h] [] [101,102,103] AH kz2 (fun x y=>Ys u (D.Page.mk x.1.1 x.1.2.1 x.1.2.2.1 x.1.2.2.2.1 x.1.2.2.2.2.1 x.1.2.2.2.2.2.1 x.1.2.2.2.2.2.2.1 x.1.2.2.2.2.2.2.2.1 x.1.2.2.2.2.2.2.2.2.1 x.1.2.2.2.2.2.2.2.2.2.1 x.1.2.2.2.2.2.2.2.2.2.2.1 y.1 y.2.1 y.2.2.1) x.2.1)):=i u g kz4 (e (Qcx u) t) func351
def Z1(a:D.Page)(k:D.a):I Int:=TG (fun((t,_),(m,n,o,p,q,f,r,s,l,g,h,_),v,b,c,e,_)=>TG (fun(_,A,B,zH,_)=>TF A a.P (TF B a.i (TF zH a.h (some 0)))) fun E=>cd (v.At<l) (TF b a.P (TF c a.i (TF e a.h (some 6)))) (O (Ys u (D.Page.mk m n o p q f r s l g h b c e) v.At) fun F=>C F (TF b a.P (TF c a.i (TF e a.h (some 6)))) (TG (fun((G,H,_),(zE,zG,L,zC,zI,W,Z,aA,aB,aC,aD,_),y,z,w,_)=>C H (TF y a.P (TF z a.i (TF w a.h (some 9)))) (cd ((w.length:Int)=64) (TF y a.P (TF z a.i (TF w a.h (some 5)))) (C G (TF y a.P (TF z a.i (TF w a.h (some 5)))) (E ((),y,z,w,()))))) fun j=>cd (f=4) (j ((t,(decide (f=4)),()),(m,n,o,p,q,f,r,s,l,g,h,()),b,c,e,())) (cd (f=3) (cd (v.Z≠5) (j ((t,true,()),(m,n,o,p,q,f,r,s,l,g,h,()),b,c,e,())) (cd (f=1) (cd (v.Z=2) (j ((t,true,()),(m,n,o,p,q,f,r,s,l,g,h,()),b,c,e,())) (j ((t,false,()),(m,n,o,p,q,f,r,s,l,g,h,()),b,c,e,()))) (j ((t,false,()),(m,n,o,p,q,f,r,s,l,g,h,()),b,c,e,())))) (cd (f=1) (cd (v.Z=2) (j ((t,true,()),(m,n,o,p,q,f,r,s,l,g,h,()),b,c,e,())) (j ((t,false,()),(m,n,o,p,q,f,r,s,l,g,h,()),b,c,e,()))) (j ((t,false,()),(m,n,o,p,q,f,r,s,l,g,h,()),b,c,e,()))))))) fun i=>cd (k.Z=3) (cd (a.E6=4) (i ((true,()),(a.S,a.W,a.T,a.E7,a.FJ,a.p,a.By,a.FK,a.FM,a.E6,a.FI,()),k,a.P,a.i,a.h,())) (cd (k.Z=4) (cd (a.FI=4) (i ((true,()),(a.S,a.W,a.T,a.E7,a.FJ,a.p,a.By,a.FK,a.FM,a.E6,a.FI,()),k,a.P,a.i,a.h,())) (cd ((a.P.length:Int)=200) (i ((true,()),(a.S,a.W,a.T,a.E7,a.FJ,a.p,a.By,a.FK,a.FM,a.E6,a.FI,()),k,a.P,a.i,a.h,())) (i ((false,()),(a.S,a.W,a.T,a.E7,a.FJ,a.p,a.By,a.FK,a.FM,a.E6,a.FI,()),k,a.P,a.i,a.h,())))) (i ((false,()),(a.S,a.W,a.T,a.E7,a.FJ,a.p,a.By,a.FK,a.FM,a.E6,a.FI,()),k,a.P,a.i,a.h,())))) (cd (k.Z=4) (cd (a.FI=4) (i ((true,()),(a.S,a.W,a.T,a.E7,a.FJ,a.p,a.By,a.FK,a.FM,a.E6,a.FI,()),k,a.P,a.i,a.h,())) (cd ((a.P.length:Int)=200) (i ((true,()),(a.S,a.W,a.T,a.E7,a.FJ,a.p,a.By,a.FK,a.FM,a.E6,a.FI,()),k,a.P,a.i,a.h,())) (i ((false,()),(a.S,a.W,a.T,a.E7,a.FJ,a.p,a.By,a.FK,a.FM,a.E6,a.FI,()),k,a.P,a.i,a.h,())))) (i ((false,()),(a.S,a.W,a.T,a.E7,a.FJ,a.p,a.By,a.FK,a.FM,a.E6,a.FI,()),k,a.P,a.i,a.h,())))
def QaX:o 335 (Qn [.agg bH5,t12] [p 101 .T,p 102 .int,p 103 .int] [d] [] [101,102,103] Int kz2 (fun x y=>Z1 u (D.Page.mk x.1.1 x.1.2.1 x.1.2.2.1 x.1.2.2.2.1 x.1.2.2.2.2.1 x.1.2.2.2.2.2.1 x.1.2.2.2.2.2.2.1 x.1.2.2.2.2.2.2.2.1 x.1.2.2.2.2.2.2.2.2.1 x.1.2.2.2.2.2.2.2.2.2.1 x.1.2.2.2.2.2.2.2.2.2.2.1 y.1 y.2.1 y.2.2.1) x.2.1)):=i u (c g (c (.TG [r 2,r 3,(5,h)] [(1002,.box bH5),w 1003 .a,p 101 .T,p 102 .int,p 103 .int] g) (c (j [] (.one (n 2 (c (j [.s 2 (.one (.TM 1002)),.s 5 h,.s 42 h] g [(1002,.box bH5),p 101 .T,p 102 .int,p 103 .int]) g))) [p 101 .T,p 102 .int,p 103 .int]) g))) kz4 (e (QbC u) t) func335
def Yi(a:D.Page):I (Y Int):=cd ((a.P.length:Int)=0) (TF a.P a.P (TF a.i a.i (TF a.h a.h (some [])))) (TK (J ((a.P.length:Int) - 1)) fun b=>TP b a.P.length (O a.P[b]? fun c=>O (Qy u c.l) fun e=>TF a.P a.P (TF a.i a.i (TF a.h a.h (some e)))))
def Qbh:o 353 (Qn [.agg bH5] [p 101 .T,p 102 .int,p 103 .int] [lI] [] [101,102,103] (Y Int) kz2 (fun x y=>Yi u (D.Page.mk x.1.1 x.1.2.1 x.1.2.2.1 x.1.2.2.2.1 x.1.2.2.2.2.1 x.1.2.2.2.2.2.1 x.1.2.2.2.2.2.2.1 x.1.2.2.2.2.2.2.2.1 x.1.2.2.2.2.2.2.2.2.1 x.1.2.2.2.2.2.2.2.2.2.1 x.1.2.2.2.2.2.2.2.2.2.2.1 y.1 y.2.1 y.2.2.1))):=i u g kz4 (e (Q1 u) t) func353
def Zn(G:Y Int)(q:Int)(H:Int):I (Y Int):=Qe (fun zE ((zG,r,p,_),s,_)=>cd (p<r) (TG (fun((L,zC,zI,_),W,_)=>zE ((L,zC,(J (zI+1)),()),W,())) fun t=>Qe (fun v ((f,h,i,g,_),b,_)=>TG (fun((w,y,z,c,_),a,_)=>TK (J (c - 1)) fun l=>TP l a.length (O a[l]? fun j=>TK c fun m=>TP m a.length (O a[m]? fun A=>TK c fun e=>TP e a.length (O a[e]? fun Z=>TK (J (c - 1)) fun k=>TP k (List.set a e j).length (O (GetElem?.getElem? (List.set a e j) k) fun a0=>v ((w,y,z,(J (c - 1)),()),(List.set (List.set a e j) k A),())))))) fun B=>cd (f<g) (TK g fun n=>TP n b.length (O b[n]? fun zH=>TK (J (g - 1)) fun o=>TP o b.length (O b[o]? fun E=>O (Un u zH E) fun F=>C F (B ((f,h,i,g,()),b,())) (t ((f,h,i,()),b,()))))) (t ((f,h,i,()),b,()))) u ((zG,r,p,p,()),s,())) (some s)) u ((q,H,(J (q+1)),()),G,())
def V0:o 389 (Qn [.one (.own 101),d,d] [p 101 .int] [] [(101,.arrs .int)] [] (Y Int) kz6 (fun x y=>Zn u y.1 x.1 x.2.1)):=i u (c g (.one (k [.o 0 101 .int,.n 1,.n 2,.n 6] (c g (c (j [.o 0 101 .int,.n 1,.n 2,.n 6] (.one (c g (.one (k [.o 0 101 .int,.n 1,.n 2,.n 6,.n 7] (c (j [.o 0 101 .int,.n 1,.n 2,.n 6,.n 7] g) g)))))) g))))) kz10 (e (Qb9 u) t) func389
def Xa(f:Y Int)(g:Int)(h:Int)(i:Int):I (Y Int):=Qe (fun l ((a,b,j,k,m,_),c,_)=>cd ((J (b - a))<=12) (O (Zn u c a b) fun e=>chk e.length c.length (some e)) (cd (j=0) none (C (!k) none none))) u ((g,h,i,true,true,()),f,())
def Qbe:o 369 (Qn [.one (.own 101),d,d,d] [p 101 .int] [] [(101,.arrs .int)] [] (Y Int) kz6 (fun x y=>Xa u y.1 x.1 x.2.1 x.2.2.1)):=i u (n 2 (.one (k [.o 0 101 .int,.n 1,.n 2,.n 3,.s 8 h,.s 9 h] g))) kz10 (e (V0 u) t) func369
def VD(a:Y Int):I (Y Int):=O (QbF u (IntKind.wrap .u64 (a.length:Int))) fun c=>O (Xa u a 0 (a.length:Int) c) fun b=>chk b.length a.length (some b)
def Qg9:o 354 (Qn [.one (.own 101)] [p 101 .int] [] [(101,.arrs .int)] [] (Y Int) kz6 (fun x y=>VD u y.1)):=i u g kz10 (e (Qbe u) (e (QeU u) t)) func354
def ZO(b:Int)(a:D.Page):I (AH×D.Page):=O (Zw u a.i b) fun c=>some ((!c),a)
def Qaj:o 355 (Qn [d,.one (.TM 101)] [(101,.box bH6),p 102 .T,p 103 .int,p 104 .int] [h] [(101,.box bH6),p 102 .T,p 103 .int,p 104 .int] [] (AH×D.Page) kz8 (fun x y=>ZO u x.1 (D.Page.mk y.1.1 y.1.2.1 y.1.2.2.1 y.1.2.2.2.1 y.1.2.2.2.2.1 y.1.2.2.2.2.2.1 y.1.2.2.2.2.2.2.1 y.1.2.2.2.2.2.2.2.1 y.1.2.2.2.2.2.2.2.2.1 y.1.2.2.2.2.2.2.2.2.2.1 y.1.2.2.2.2.2.2.2.2.2.2.1 y.2.1 y.2.2.1 y.2.2.2.1))):=i u g kz11 (e (YD u) t) func355
def QR(l:Y Int)(c101:D.Page):I (Int×D.Page):=Qe (fun y ((m,n,b,_),(o,p,q,r,s,t,c,e,f,g,h,_),i,j,k,_)=>cd (b<n) (TN m b fun v=>O (ZO u v (D.Page.mk o p q r s t c e f g h i j k)) fun(w,a)=>C w (some (b,a)) (y ((m,n,(J (b+1)),()),(a.S,a.W,a.T,a.E7,a.FJ,a.p,a.By,a.FK,a.FM,a.E6,a.FI,()),a.P,a.i,a.h,()))) (some ((-1),(D.Page.mk o p q r s t c e f g h i j k)))) u ((l,(l.length:Int),0,()),((D.Page.S c101),(D.Page.W c101),(D.Page.T c101),(D.Page.E7 c101),(D.Page.FJ c101),(D.Page.p c101),(D.Page.By c101),(D.Page.FK c101),(D.Page.FM c101),(D.Page.E6 c101),(D.Page.FI c101),()),(D.Page.P c101),(D.Page.i c101),(D.Page.h c101),())
def YO:o 341 (Qn [lI,.one (.clo 355 [101])] [(101,.box bH6),p 102 .T,p 103 .int,p 104 .int] [d] [(101,.box bH6),p 102 .T,p 103 .int,p 104 .int] [] (Int×D.Page) kz16 (fun x y=>QR u x.1 (D.Page.mk y.1.1 y.1.2.1 y.1.2.2.1 y.1.2.2.2.1 y.1.2.2.2.2.1 y.1.2.2.2.2.2.1 y.1.2.2.2.2.2.2.1 y.1.2.2.2.2.2.2.2.1 y.1.2.2.2.2.2.2.2.2.1 y.1.2.2.2.2.2.2.2.2.2.1 y.1.2.2.2.2.2.2.2.2.2.2.1 y.2.1 y.2.2.1 y.2.2.2.1))):=i u (c g (m [.s 0 lI,.s 1 (.one (.clo 355 [101])),.n 7,.n 8] g [(101,.box bH6),p 102 .T,p 103 .int,p 104 .int])) (fun a b=>(a.1,(D.Page.mk b.1.1 b.1.2.1 b.1.2.2.1 b.1.2.2.2.1 b.1.2.2.2.2.1 b.1.2.2.2.2.2.1 b.1.2.2.2.2.2.2.1 b.1.2.2.2.2.2.2.2.1 b.1.2.2.2.2.2.2.2.2.1 b.1.2.2.2.2.2.2.2.2.2.1 b.1.2.2.2.2.2.2.2.2.2.2.1 b.2.1 b.2.2.1 b.2.2.2.1))) (e (Qaj u) t) func341
def Qv(a:Y Int)(c101:D.Page):I (AH×D.Page):=O (QR u a c101) fun(b,c)=>some ((decide (0<=b)),c)
def YA:o 307 (Qn [lI,.one (.clo 355 [101])] [(101,.box bH6),p 102 .T,p 103 .int,p 104 .int] [h] [(101,.box bH6),p 102 .T,p 103 .int,p 104 .int] [] (AH×D.Page) kz8 (fun x y=>Qv u x.1 (D.Page.mk y.1.1 y.1.2.1 y.1.2.2.1 y.1.2.2.2.1 y.1.2.2.2.2.1 y.1.2.2.2.2.2.1 y.1.2.2.2.2.2.2.1 y.1.2.2.2.2.2.2.2.1 y.1.2.2.2.2.2.2.2.2.1 y.1.2.2.2.2.2.2.2.2.2.1 y.1.2.2.2.2.2.2.2.2.2.2.1 y.2.1 y.2.2.1 y.2.2.2.1))):=i u g kz11 (e (YO u) t) func307
def ZX(a:D.Page)(c:D.a):I D.Page:=O (Yi u a) fun n=>TG (fun((z,_),(q,r,s,t,v,o,w,y,g,h,i,_),A,e,j,k,l,_)=>TG (fun(_,(B,zH,E,F,G,H,zE,zG,L,zC,zI,_),aE,W,Z,aA,_)=>some (D.Page.mk B zH E F G H zE zG L zC zI W Z aA)) fun f=>cd (o=0) (cd (0<(z.length:Int)) (O (Qv u z (D.Page.mk q r s t v o w y g h i j k l)) fun(aB,b)=>C aB (f ((),(b.S,b.W,b.T,b.E7,b.FJ,b.p,b.By,b.FK,b.FM,b.E6,b.FI,()),e,b.P,b.i,b.h,())) (f ((),(b.S,b.W,b.T,b.E7,A.At,b.p,b.By,b.FK,b.FM,b.E6,b.FI,()),e,b.P,b.i,b.h,()))) (f ((),(q,r,s,t,v,o,w,y,g,h,i,()),e,j,k,l,()))) (f ((),(q,r,s,t,v,o,w,y,g,h,i,()),e,j,k,l,()))) fun m=>O (Yo u n c.R) fun aC=>C aC (O (Zw u a.i c.R) fun aD=>C aD (m ((n,()),(a.S,a.W,a.T,a.E7,a.FJ,a.p,a.By,a.FK,a.FM,a.E6,a.FI,()),c,z1,a.P,a.i,a.h,())) (TO (a.i.length+[c.R].length) 34359738368 (O (VD u (a.i++[c.R])) fun p=>chk p.length (a.i++[c.R]).length (m ((n,()),(a.S,a.W,a.T,a.E7,a.FJ,a.p,a.By,a.FK,a.FM,a.E6,a.FI,()),c,z1,a.P,p,a.h,()))))) (m ((n,()),(a.S,a.W,a.T,a.E7,a.FJ,a.p,a.By,a.FK,a.FM,a.E6,a.FI,()),c,z1,a.P,a.i,a.h,()))
def Qav:o 336 (Qn [.agg bH5,t12] [p 101 .T,p 102 .int,p 103 .int] [.agg bH5] [p 101 .T,p 102 .int,p 103 .int] [] D.Page kz12 (fun x y=>ZX u (D.Page.mk x.1.1 x.1.2.1 x.1.2.2.1 x.1.2.2.2.1 x.1.2.2.2.2.1 x.1.2.2.2.2.2.1 x.1.2.2.2.2.2.2.1 x.1.2.2.2.2.2.2.2.1 x.1.2.2.2.2.2.2.2.2.1 x.1.2.2.2.2.2.2.2.2.2.1 x.1.2.2.2.2.2.2.2.2.2.2.1 y.1 y.2.1 y.2.2.1) x.2.1)):=i u (n 2 (c (.TG [r 2,r 3,r 4,(5,lI)] [(1002,.box bH5),w 1003 .a,w 1004 .Page,p 101 .T,p 102 .int,p 103 .int] g) (c (.TG [r 2,r 4] [(1002,.box bH5),w 1004 .Page,p 101 .T,p 102 .int,p 103 .int] g) g))) (fun a b=>D.Page.mk a.1.1 a.1.2.1 a.1.2.2.1 a.1.2.2.2.1 a.1.2.2.2.2.1 a.1.2.2.2.2.2.1 a.1.2.2.2.2.2.2.1 a.1.2.2.2.2.2.2.2.1 a.1.2.2.2.2.2.2.2.2.1 a.1.2.2.2.2.2.2.2.2.2.1 a.1.2.2.2.2.2.2.2.2.2.2.1 b.1 b.2.1 b.2.2.1) (e (YD u) (e (WP u) (e (YA u) (e (Qbh u) (e (Qg9 u) t))))) func336
def UH(p0:D.F)(p1:D.b)(w:D.Page)(y:D.a):I (D.Page×Int):=TG (fun(_,z,f,A,_)=>cd (f.Page≠z.S) (some (z1,3)) (O (X1 u z) fun a=>O (Zw u a.h f.S) fun a4=>C a4 (some (a,0)) (O (Z1 u a f) fun B=>cd (B≠0) (some (z1,B)) (TO (a.h.length+[f.S].length) 34359738368 (TG (fun(_,(o,p,q,r,l,t,s,m,aF,g,h,_),b,i,e,n,j,_)=>TG (fun(_,(zH,E,F,G,H,zE,zG,L,zC,zI,W,_),aG,Z,aA,aB,_)=>some ((D.Page.mk zH E F G H zE zG L zC zI W Z aA aB),0)) fun k=>cd (b.Z=1) (k ((),(o,p,q,r,l,1,b.R,m,b.At,g,h,()),i,e,n,j,())) (cd (b.Z=2) (O (ZX u (D.Page.mk o p q r l t s m b.At g h e n j) b) fun c=>k ((),(c.S,c.W,c.T,c.E7,c.FJ,c.p,c.By,c.FK,c.FM,c.E6,c.FI,()),i,c.P,c.i,c.h,())) (cd (b.Z=3) (k ((),(o,p,q,r,l,2,b.R,(J (b.At+b.Fo)),b.At,(J (g+1)),h,()),i,e,n,j,())) (cd (b.Z=4) (TO (e.length+[(D.T.mk (-1) b.At [b.Fo])].length) 34359738368 (k ((),(o,p,q,r,(J (b.At+600)),0,s,m,b.At,g,(J (h+1)),()),i,(e++[(D.T.mk (-1) b.At [b.Fo])]),[],j,()))) (cd (b.Z=5) (k ((),(o,p,q,r,l,4,b.R,m,b.At,g,h,()),i,e,n,j,())) (k ((),(o,p,q,r,l,t,s,m,b.At,g,h,()),i,e,n,j,()))))))) fun v=>cd (f.Z=1) (cd (a.p=1) (some ((D.Page.mk a.S a.W a.T a.E7 a.FJ a.p a.By a.FK a.FM a.E6 a.FI a.P a.i (a.h++[f.S])),0)) (v ((),(a.S,a.W,a.T,a.E7,a.FJ,a.p,a.By,a.FK,a.FM,a.E6,a.FI,()),f,A,a.P,a.i,(a.h++[f.S]),()))) (v ((),(a.S,a.W,a.T,a.E7,a.FJ,a.p,a.By,a.FK,a.FM,a.E6,a.FI,()),f,A,a.P,a.i,(a.h++[f.S]),()))))))) fun aC=>O (Yq u p1 w) fun aD=>C aD (O (QaU u y) fun aE=>C aE (aC ((),w,y,z1,())) (some (z1,8))) (some (z1,8))
def Qiq:o 288 (s [tO,L,E,t12] [E,d] (UH u)):=f u (c g (c (j [.r 6 .Page,.r 7 .a,.r 8 .Page] g) (n 5 (c (.TG [r 6,r 7,r 8] [(1006,.box bH1),w 1007 .a,w 1008 .Page,p 2035007 .T,p 2058007 .int,p 2061007 .int] g) (c g (c (.TG [r 6,r 8] [(1006,.box bH1),w 1008 .Page,p 2035007 .T,p 2058007 .int,p 2061007 .int] g) g)))))) (e (Qfe u) (e (YD u) (e (Vx u) (e (UJ u) (e (QaX u) (e (Qav u) t)))))) func288
def QL(c:Y D.Page)(n:Int):I (Int×AH):=Qe (fun j ((f,h,a,e,_),b,_)=>cd (a<e) (TK 1 fun i=>TK (J (Int.fdiv (IntKind.wrap .u64 (J (a+e))) (HPow.hPow 2 (min i (Go.IntKind.bits Go.IntKind.u64))))) fun k=>TP k b.length (O b[k]? fun o=>O (Vc u o f) fun p=>cd (p<0) (j ((f,h,(J ((J (Int.fdiv (IntKind.wrap .u64 (J (a+e))) (HPow.hPow 2 (min i (Go.IntKind.bits Go.IntKind.u64)))))+1)),e,()),b,())) (j ((f,h,a,(J (Int.fdiv (IntKind.wrap .u64 (J (a+e))) (HPow.hPow 2 (min i (Go.IntKind.bits Go.IntKind.u64))))),()),b,())))) (cd (a<h) (TK a fun g=>TP g b.length (O b[g]? fun l=>O (Vc u l f) fun m=>cd (m=0) (TF b c (some (a,true))) (TF b c (some (a,false))))) (TF b c (some (a,false))))) u ((n,(c.length:Int),0,(c.length:Int),()),c,())
def XO:o 305 (Qn [.one (.own 101),d,.one (.fv 306)] [p 101 .Page] [d,h] [] [101] (Int×AH) kz22 (fun x y=>QL u y.1 x.1)):=i u (n 3 (c (.one (k [.o 0 101 .Page,.n 1,.s 2 (.one (.fv 306)),.n 8,.n 9,.n 10] g)) g)) kz23 (e (QfG u) t) func305
def Ya(a:D.G)(b:Int):I (Int×AH):=O (QL u a.H b) fun(c,e)=>TF a.H a.H (TF a.h a.h (TF a.Calls a.Calls (some (c,e))))
def Wl:o 220 (Qn [.agg [v,.TQ .r,.TQ .R,.TQ .n,.TQ .e,.TQ .FU,.TQ .W,.own 101,v,v,.own 102,.own 103],d] [p 101 .Page,p 102 .int,p 103 .Call] [d,h] [] [101,102,103] (Int×AH) kz22 (fun x y=>Ya u (D.G.mk x.1.1 (D.F.mk x.1.2.1 x.1.2.2.1 x.1.2.2.2.1 x.1.2.2.2.2.1) (D.b.mk x.1.2.2.2.2.2.1 x.1.2.2.2.2.2.2.1) y.1 x.1.2.2.2.2.2.2.2.1 x.1.2.2.2.2.2.2.2.2.1 y.2.1 y.2.2.1) x.2.1)):=i u g kz23 (e (XO u) t) func220
def Q9(a:D.worker)(p1:Int)(p2:Int):I D.worker:=TK p1 fun W=>TP W a.G.H.length (O a.G.H[W]? fun i=>TK p2 fun zC=>TO zC i.P.length (Qe (fun L3 ((Z,a5,zI,_),(a7,a8,a9,j,k,l,m,n,o,_),a3,p,q,r,_)=>cd (zI<a5) (TN Z zI fun f=>Qe (fun aA ((s,t,v,w,y,g,_),(z,A,B,zH,E,F,G,H,c,_),e,b,zE,zG,h,_)=>cd (g<y) (TN w g fun L=>TO (h.length+[(D.Call.mk e.S b.K b.At L c)].length) 34359738368 (aA ((s,t,v,w,y,(J (g+1)),()),(z,A,B,zH,E,F,G,H,c,()),e,b,zE,zG,(h++[(D.Call.mk e.S b.K b.At L c)]),()))) (L3 ((s,t,(J (v+1)),()),(z,A,B,zH,E,F,G,H,c,()),e,zE,zG,h,()))) u ((Z,a5,zI,f.l,(f.l.length:Int),0,()),(a7,a8,a9,j,k,l,m,n,o,()),a3,f,p,q,r,())) (some (D.worker.mk (D.G.mk a7 (D.F.mk a8 a9 j k) (D.b.mk l m) p n o q r)))) u (((List.drop zC i.P),(((List.drop zC i.P).length:Nat):Int),0,()),(a.G.E9,a.G.F.FG,a.G.F.l,a.G.F.o,a.G.F.f,a.G.b.v,a.G.b.k,a.G.E5,a.G.Fence,()),i,a.G.H,a.G.h,a.G.Calls,())))
def Wf:o 289 (Qn [.one (.TM 101),d,d] [(101,.box bH0),p 102 .Page,p 103 .int,p 104 .Call] [] [(101,.box bH0),p 102 .Page,p 103 .int,p 104 .Call] [] D.worker kz9 (fun x y=>Q9 u (D.worker.mk (D.G.mk y.1.1 (D.F.mk y.1.2.1 y.1.2.2.1 y.1.2.2.2.1 y.1.2.2.2.2.1) (D.b.mk y.1.2.2.2.2.2.1 y.1.2.2.2.2.2.2.1) y.2.1 y.1.2.2.2.2.2.2.2.1 y.1.2.2.2.2.2.2.2.2.1 y.2.2.1 y.2.2.2.1)) x.1 x.2.1)):=i u (n 2 (.one (.loop [(0,.one (.TM 101)),r 6,li 22 .T,G 23,G 24] [(101,.box bH0),w 1006 .Page,p 102 .Page,p 103 .int,p 104 .Call] (n 2 (c (.one (n 2 (.one (.loop [(0,.one (.TM 101)),r 6,r 8,li 22 .T,G 23,G 24,(29,lI),G 30,G 31] [(101,.box bH0),w 1006 .Page,w 1008 .T,p 102 .Page,p 103 .int,p 104 .Call] g)))) g))))) kz13 t func289
def QI(a:D.worker)(b:Int):I D.worker:=TK b fun e=>TP e a.G.H.length (O a.G.H[e]? fun g=>O (QcG u a.G.F a.G.b g a.G.E9) fun(h,i)=>cd (i≠0) (some a) (TK b fun f=>TP f a.G.H.length (O a.G.H[f]? fun j=>TK b fun c=>TP c a.G.H.length (O a.G.H[c]? fun l=>O (Q9 u (D.worker.mk (D.G.mk a.G.E9 a.G.F a.G.b (List.set a.G.H c h) a.G.E5 a.G.Fence a.G.h a.G.Calls)) b (j.P.length:Int)) fun k=>some k))))
def ZR:o 285 (Qn [.one (.TM 101),d] [(101,.box bH0),p 102 .Page,p 103 .int,p 104 .Call] [] [(101,.box bH0),p 102 .Page,p 103 .int,p 104 .Call] [] D.worker kz9 (fun x y=>QI u (D.worker.mk (D.G.mk y.1.1 (D.F.mk y.1.2.1 y.1.2.2.1 y.1.2.2.2.1 y.1.2.2.2.2.1) (D.b.mk y.1.2.2.2.2.2.1 y.1.2.2.2.2.2.2.1) y.2.1 y.1.2.2.2.2.2.2.2.1 y.1.2.2.2.2.2.2.2.2.1 y.2.2.1 y.2.2.2.1)) x.1)):=i u g kz13 (e (Wf u) (e (QlL u) t)) func285
def Z5(a:D.worker)(b:D.Op):I (Int×D.worker):=O (Ya u a.G b.Page) fun(c,f)=>C f (some (4,a)) (cd ((a.G.H.length:Int)=64) (some (5,a)) (O (Qfv u a.G.b b.Page b.W a.G.E9) fun(g,e)=>cd (e≠0) (some (e,a)) (O (QD u a.G.H c [g]) fun h=>O (QI u (D.worker.mk (D.G.mk a.G.E9 a.G.F a.G.b h a.G.E5 a.G.Fence a.G.h a.G.Calls)) c) fun i=>some (0,i))))
def Qa4:o 199 (Qn [.one (.TM 101),t6] [(101,.box bH0),p 102 .Page,p 103 .int,p 104 .Call] [d] [(101,.box bH0),p 102 .Page,p 103 .int,p 104 .Call] [] (Int×D.worker) kz0 (fun x y=>Z5 u (D.worker.mk (D.G.mk y.1.1 (D.F.mk y.1.2.1 y.1.2.2.1 y.1.2.2.2.1 y.1.2.2.2.2.1) (D.b.mk y.1.2.2.2.2.2.1 y.1.2.2.2.2.2.2.1) y.2.1 y.1.2.2.2.2.2.2.2.1 y.1.2.2.2.2.2.2.2.2.1 y.2.2.1 y.2.2.2.1)) x.1)):=i u g kz1 (e (Wl u) (e (QlK u) (e (QdV u) (e (ZR u) t)))) func199
def Yj(u:Nat)(a:D.worker)(b:D.Op):I (Int×D.worker):=cd (b.Fence≠(J (a.G.Fence+1))) (some (23,a)) (some (0,(D.worker.mk (D.G.mk a.G.E9 a.G.F a.G.b a.G.H b.Region b.Fence a.G.h a.G.Calls))))
def Qbj:o 200 (Qn [.one (.TM 101),t6] [(101,.box bH0),p 102 .Page,p 103 .int,p 104 .Call] [d] [(101,.box bH0),p 102 .Page,p 103 .int,p 104 .Call] [] (Int×D.worker) kz0 (fun x y=>Yj u (D.worker.mk (D.G.mk y.1.1 (D.F.mk y.1.2.1 y.1.2.2.1 y.1.2.2.2.1 y.1.2.2.2.2.1) (D.b.mk y.1.2.2.2.2.2.1 y.1.2.2.2.2.2.2.1) y.2.1 y.1.2.2.2.2.2.2.2.1 y.1.2.2.2.2.2.2.2.2.1 y.2.2.1 y.2.2.2.1)) x.1)):=i u g kz1 t func200
def ZZ(a:D.worker)(r:D.Op):I (Int×D.worker):=TG (fun(_,(f,g,h,i,j,k,l,m,n,_),s,b,c,e,_)=>O (Ya u (D.G.mk f (D.F.mk g h i j) (D.b.mk k l) b m n c e) s.Page) fun(o,t)=>C (!t) (some (3,(D.worker.mk (D.G.mk f (D.F.mk g h i j) (D.b.mk k l) b m n c e)))) (TK o fun p=>TP p b.length (O b[p]? fun q=>TG (fun((v,_),(w,y,z,A,B,zH,E,F,G,_),H,zE,zG,_)=>O (QI u (D.worker.mk (D.G.mk w (D.F.mk y z A B) (D.b.mk zH E) H F G zE zG)) v) fun L=>some (0,L)) fun zC=>O (Va u q) fun(zI,W)=>C W (cd (f<zI) (some (9,(D.worker.mk (D.G.mk f (D.F.mk g h i j) (D.b.mk k l) b m n c e)))) (O (Qgw u q) fun Z=>cd (Z≠s.K) (some (9,(D.worker.mk (D.G.mk f (D.F.mk g h i j) (D.b.mk k l) b m n c e)))) (zC ((o,()),(f,g,h,i,j,k,l,m,n,()),b,c,e,())))) (some (9,(D.worker.mk (D.G.mk f (D.F.mk g h i j) (D.b.mk k l) b m n c e))))))) fun aA=>cd (r.Region≠a.G.E5) (some (23,a)) (cd (r.Fence≠a.G.Fence) (some (23,a)) (aA ((),(a.G.E9,a.G.F.FG,a.G.F.l,a.G.F.o,a.G.F.f,a.G.b.v,a.G.b.k,a.G.E5,a.G.Fence,()),r,a.G.H,a.G.h,a.G.Calls,())))
def Qaz:o 201 (Qn [.one (.TM 101),t6] [(101,.box bH0),p 102 .Page,p 103 .int,p 104 .Call] [d] [(101,.box bH0),p 102 .Page,p 103 .int,p 104 .Call] [] (Int×D.worker) kz0 (fun x y=>ZZ u (D.worker.mk (D.G.mk y.1.1 (D.F.mk y.1.2.1 y.1.2.2.1 y.1.2.2.2.1 y.1.2.2.2.2.1) (D.b.mk y.1.2.2.2.2.2.1 y.1.2.2.2.2.2.2.1) y.2.1 y.1.2.2.2.2.2.2.2.1 y.1.2.2.2.2.2.2.2.2.1 y.2.2.1 y.2.2.2.1)) x.1)):=i u (c g (c (.TG [(0,.one (.TM 101)),r 3] [(101,.box bH0),w 1003 .Op,p 102 .Page,p 103 .int,p 104 .Call] g) (n 3 (c (j [.s 0 (.one (.TM 101)),.n 5] g [(101,.box bH0),p 102 .Page,p 103 .int,p 104 .Call]) g)))) kz1 (e (Wl u) (e (ZR u) (e (UI u) (e (Qpa u) t)))) func201
def ZQ(e:D.worker)(b:D.Op):I (Int×D.worker):=O (Ya u e.G b.a.Page) fun(c,k)=>C (!k) (some (3,e)) (O (QI u e c) fun a=>TK c fun g=>TP g a.G.H.length (O a.G.H[g]? fun l=>O (UH u a.G.F a.G.b l (D.a.mk b.a.S b.a.Page b.a.R b.a.Z b.a.Fo a.G.E9)) fun(m,h)=>cd (h≠0) (some (h,a)) (TK c fun i=>TP i a.G.H.length (O a.G.H[i]? fun n=>TK c fun f=>TP f a.G.H.length (O a.G.H[f]? fun o=>O (Q9 u (D.worker.mk (D.G.mk a.G.E9 a.G.F a.G.b (List.set a.G.H f m) a.G.E5 a.G.Fence a.G.h a.G.Calls)) c (n.P.length:Int)) fun j=>some (0,j))))))
def Qak:o 202 (Qn [.one (.TM 101),t6] [(101,.box bH0),p 102 .Page,p 103 .int,p 104 .Call] [d] [(101,.box bH0),p 102 .Page,p 103 .int,p 104 .Call] [] (Int×D.worker) kz0 (fun x y=>ZQ u (D.worker.mk (D.G.mk y.1.1 (D.F.mk y.1.2.1 y.1.2.2.1 y.1.2.2.2.1 y.1.2.2.2.2.1) (D.b.mk y.1.2.2.2.2.2.1 y.1.2.2.2.2.2.2.1) y.2.1 y.1.2.2.2.2.2.2.2.1 y.1.2.2.2.2.2.2.2.2.1 y.2.2.1 y.2.2.2.1)) x.1)):=i u g kz1 (e (Wl u) (e (ZR u) (e (Qiq u) (e (Wf u) t)))) func202
def Z4(b:D.worker)(zC:D.Op):I (Int×D.worker):=Qe (fun zI ((v,m,_),(n,o,p,q,r,s,t,e,f,_),g,h,i,j,_)=>cd (m<v) (O (QI u (D.worker.mk (D.G.mk n (D.F.mk o p q r) (D.b.mk s t) h e f i j)) m) fun a=>zI ((v,(J (m+1)),()),(a.G.E9,a.G.F.FG,a.G.F.l,a.G.F.o,a.G.F.f,a.G.b.v,a.G.b.k,a.G.E5,a.G.Fence,()),g,a.G.H,a.G.h,a.G.Calls,())) (O (Uo u (D.F.mk o p q r) g.e g.t) fun(c,k)=>TG (fun((w,_),(y,z,A,B,zH,E,F,G,H,_),zE,zG,L,_)=>some (w,(D.worker.mk (D.G.mk y (D.F.mk z A B zH) (D.b.mk E F) zE G H zG L)))) fun l=>cd (k=0) (l ((k,()),(n,c.FG,c.l,c.o,c.f,s,t,e,f,()),h,i,j,())) (l ((k,()),(n,o,p,q,r,s,t,e,f,()),h,i,j,())))) u (((b.G.H.length:Int),0,()),(b.G.E9,b.G.F.FG,b.G.F.l,b.G.F.o,b.G.F.f,b.G.b.v,b.G.b.k,b.G.E5,b.G.Fence,()),zC,b.G.H,b.G.h,b.G.Calls,())
def Qa3:o 203 (Qn [.one (.TM 101),t6] [(101,.box bH0),p 102 .Page,p 103 .int,p 104 .Call] [d] [(101,.box bH0),p 102 .Page,p 103 .int,p 104 .Call] [] (Int×D.worker) kz0 (fun x y=>Z4 u (D.worker.mk (D.G.mk y.1.1 (D.F.mk y.1.2.1 y.1.2.2.1 y.1.2.2.2.1 y.1.2.2.2.2.1) (D.b.mk y.1.2.2.2.2.2.1 y.1.2.2.2.2.2.2.1) y.2.1 y.1.2.2.2.2.2.2.2.1 y.1.2.2.2.2.2.2.2.2.1 y.2.2.1 y.2.2.2.1)) x.1)):=i u (c g (c (c g (.one (.loop [(0,.one (.TM 101)),r 3,G 13,G 14] [(101,.box bH0),w 1003 .Op,p 102 .Page,p 103 .int,p 104 .Call] g))) (c g (c (j [.n 7] g [(101,.box bH0),p 102 .Page,p 103 .int,p 104 .Call]) g)))) kz1 (e (ZR u) (e (QoM u) t)) func203
def Qay(k:D.G)(l:D.Op):I (D.G×Int×AH):=TG (fun(_,m,b,j,_)=>O (Qa2 u m) fun a=>O (Zw u a.h b.S) fun H=>C H (some (a,0,true)) (cd ((a.h.length:Int)=256) (some (m,5,false)) (TO (a.h.length+[b.S].length) 34359738368 (TG (fun((zE,_),zI,(zG,L,zC,n,o,p,q,r,s,_),t,v,w,_)=>some ((D.G.mk zG (D.F.mk L zC n o) (D.b.mk p q) t r s v w),zE,true)) fun i=>cd (b.Z=1) (O (Z5 u (D.worker.mk (D.G.mk (max a.E9 b.At) a.F a.b a.H a.E5 a.Fence (a.h++[b.S]) a.Calls)) b) fun(y,c)=>i ((y,()),j,(c.G.E9,c.G.F.FG,c.G.F.l,c.G.F.o,c.G.F.f,c.G.b.v,c.G.b.k,c.G.E5,c.G.Fence,()),c.G.H,c.G.h,c.G.Calls,())) (cd (b.Z=2) (O (Yj u (D.worker.mk (D.G.mk (max a.E9 b.At) a.F a.b a.H a.E5 a.Fence (a.h++[b.S]) a.Calls)) b) fun(z,e)=>i ((z,()),j,(e.G.E9,e.G.F.FG,e.G.F.l,e.G.F.o,e.G.F.f,e.G.b.v,e.G.b.k,e.G.E5,e.G.Fence,()),e.G.H,e.G.h,e.G.Calls,())) (cd (b.Z=3) (O (ZZ u (D.worker.mk (D.G.mk (max a.E9 b.At) a.F a.b a.H a.E5 a.Fence (a.h++[b.S]) a.Calls)) b) fun(A,f)=>i ((A,()),j,(f.G.E9,f.G.F.FG,f.G.F.l,f.G.F.o,f.G.F.f,f.G.b.v,f.G.b.k,f.G.E5,f.G.Fence,()),f.G.H,f.G.h,f.G.Calls,())) (cd (b.Z=4) (O (ZQ u (D.worker.mk (D.G.mk (max a.E9 b.At) a.F a.b a.H a.E5 a.Fence (a.h++[b.S]) a.Calls)) b) fun(B,g)=>i ((B,()),j,(g.G.E9,g.G.F.FG,g.G.F.l,g.G.F.o,g.G.F.f,g.G.b.v,g.G.b.k,g.G.E5,g.G.Fence,()),g.G.H,g.G.h,g.G.Calls,())) (O (Z4 u (D.worker.mk (D.G.mk (max a.E9 b.At) a.F a.b a.H a.E5 a.Fence (a.h++[b.S]) a.Calls)) b) fun(zH,h)=>i ((zH,()),j,(h.G.E9,h.G.F.FG,h.G.F.l,h.G.F.o,h.G.F.f,h.G.b.v,h.G.b.k,h.G.E5,h.G.Fence,()),h.G.H,h.G.h,h.G.Calls,()))))))))) fun E=>O (XM u k) fun F=>C F (O (Qax u l) fun G=>C G (E ((),k,l,z2,())) (some (k,8,false))) (some (k,8,false))
def Qnd:o 121 (s [H,t6] [H,d,h] (Qay u)):=f u (c g (c (j [.r 2 .G,.r 3 .Op,.r 4 .G] g) (n 5 (c (j [.r 4 .G,.s 7 (.one (.TM 1021)),.n 8] g [(1021,.box [v,.TQ .r,.TQ .R,.TQ .n,.TQ .e,.TQ .FU,.TQ .W,.own 3079007,v,v,.own 2074007,.own 2077007]),p 3079007 .Page,p 2074007 .int,p 2077007 .Call]) g)))) (e (VT u) (e (Qdc u) (e (QfF u) (e (YD u) (e (Qa4 u) (e (Qbj u) (e (Qaz u) (e (Qak u) (e (Qa3 u) t))))))))) func121
def YX(i:D.G)(e:Y D.Op):I (D.G×Y Int):=O (Qa2 u i) fun j=>Qe (fun k ((f,g,b,_),h,l,c,_)=>cd (b<g) (TN f b fun m=>O (Qay u h m) fun(n,a,o)=>TO (c.length+[a].length) 34359738368 (k ((f,g,(J (b+1)),()),n,l,(c++[a]),()))) (some (h,c))) u ((e,(e.length:Int),0,()),j,z2,[],())
def UQ:o 70 (s [H,l .Op] [H,lI] (YX u)):=f u (n 3 (m [.r 2 .G,.r 4 .G,.o 6 1028 .int,.l 12 .Op,.n 13,.n 14] g)) (e (QfF u) (e (Qnd u) t)) func70
def QeY(a:Y Int):I Int:=cd ((a.length:Int)<1) none (TK 0 fun e=>TP e a.length (O a[e]? fun h=>Qe (fun i ((f,c,_),b,_)=>cd (c<(b.length:Int)) (TK c fun g=>TP g b.length (O b[g]? fun j=>i (((max f j),(J (c+1)),()),b,()))) (TF b a (some f))) u ((h,1,()),a,())))
def Qh8:o 71 (Qn [.one (.own 101)] [p 101 .int] [d] [] [101] Int kz2 (fun x y=>QeY u y.1)):=i u (n 3 (m [.o 0 101 .int,.n 3,.n 4] g)) kz4 t func71
def Qn1(a:D.G)(c:Int):I (D.g×Int):=O (XM u a) fun e=>C (!e) (some (z0,8)) (O (Qn8 u c) fun(f,b)=>cd (b≠0) (some (z0,b)) (O (YX u a []) fun(g,i)=>TO ([0].length+a.h.length) 34359738368 (O (QeY u ([0]++a.h)) fun h=>some ((D.g.mk g f (J (h+1))),0))))
def Qpg:o 19 (s [H,d] [t8,d] (Qn1 u)):=f u g (e (VT u) (e (QpJ u) (e (UQ u) (e (Qh8 u) t)))) func19
def Wq(u:Nat)(a:D.N):I D.N:=TO a.j.length 34359738368 (TO a.FQ.length 34359738368 (TO a.E8.length 34359738368 (some a)))
def Uc:o 95 (Qn [zG] [] [.agg [v,v,v,v,.own 1005,v,.own 1008,.own 1011]] [p 1005 .m,p 1008 .bool,p 1011 .int] [] D.N kz19 (fun x y=>Wq u x.1)):=i u g (fun a b=>D.N.mk a.1.1 a.1.2.1 a.1.2.2.1 a.1.2.2.2.1 b.1 a.1.2.2.2.2.1 b.2.1 b.2.2.1) t func95
def QdI(u:Nat)(a:D.N):I D.N:=TO a.j.length 34359738368 (TO a.FQ.length 34359738368 (TO a.E8.length 34359738368 (some a)))
def Qes:o 95 (s [zG] [zG] (QdI u)):=f u g t func95
def Xc(k:D.M):I D.M:=Qe (fun l ((f,_),e,_,_,g,_)=>cd (f<(e.E.length:Int)) (TN e.E f fun m=>O (QdI u m) fun i=>TO (g.length+[i].length) 34359738368 (l (((J (f+1)),()),e,(),(),(g++[i]),()))) (Qe (fun n ((h,_),a,_,_,j,b,_)=>cd (h<(a.u.length:Int)) (TN a.u h fun c=>TO c.q.length 34359738368 (TO (b.length+[c].length) 34359738368 (n (((J (h+1)),()),a,(),(),j,(b++[c]),())))) (TO a.FP.length 34359738368 (TO a.Fg.length 34359738368 (some (D.M.mk j b a.FP a.Fg))))) u ((0,()),e,(),(),g,[],()))) u ((0,()),k,(),(),[],())
def YF:o 44 (Qn [K] [] [.agg [.own 1023,.own 1045,.own 1049,.own 1052]] [p 1023 .N,p 1045 .c,p 1049 .bool,p 1052 .FD] [] D.M kz21 (fun x y=>Xc u x.1)):=i u (n 2 (c (c g (.one (k [.r 1 .M,.s 2 (.one (.TM 1002)),.s 3 (.one (.TM 1003)),.n 4] g [(1002,.box [.nul,.nul,.nul,.nul]),(1003,.box [.own 1023,.nul,.nul,.nul]),p 1023 .N]))) (m [.r 1 .M,.s 2 (.one (.TM 1002)),.s 3 (.one (.TM 1003)),.n 5] g [(1002,.box [.nul,.nul,.nul,.nul]),(1003,.box [.own 1023,.own 1045,.nul,.nul]),p 1023 .N,p 1045 .c]))) (fun a b=>D.M.mk b.1 b.2.1 b.2.2.1 b.2.2.2.1) (eD 22 (Qes u) t) func44
def X4(a:Int):I Int:=O (QJ u a 1 5) fun b=>C (!b) (some 0) (nzc 2 (some (J ((J (Int.tdiv a 2))+1))))
def Xu:o 15 (s [d] [d] (X4 u)):=f u g (e (ZF u) t) func15
def Y6(i:Y D.m)(j:Int):I AH:=Qe (fun k ((a,c,l,b,_),_)=>cd (b<(a.length:Int)) (TG (fun((e,m,f,_),_)=>TN e f fun n=>k ((e,m,n.Q,(J (f+1)),()),())) fun o=>TN a b fun g=>cd (g.Q<l) sF (TN a b fun h=>cd (c<h.Q) sF (o ((a,c,b,()),())))) (some (decide ((a.length:Int)<=256)))) u ((i,j,1,0,()),())
def Qhm:o 208 (s [l .m,d] [h] (Y6 u)):=f u (n 2 (m [.l 0 .m,.n 1,.n 5,.n 6] (c g (c (.one (c (j [.l 0 .m,.n 1,.n 6] g) g)) g)))) t func208
def Yy(c:Int)(b:D.N):I AH:=TG (fun((e,_),a,_)=>cd (a.FA=0) (cd ((a.FQ.length:Int)=0) (cd ((a.E8.length:Int)=0) sT sF) sF) (cd (a.FA=1) (cd ((a.FQ.length:Int)=e) (TN a.FQ a.S fun t=>C t (cd ((a.E8.length:Int)=0) sT sF) sF) sF) (cd (a.FA=2) (TG (fun((v,_),w,_)=>Qe (fun y ((h,f,_),g,_)=>cd (f<h) (TN g.E8 f fun z=>O (QJ u z 0 (g.j.length:Int)) fun i=>C (!i) sF (y ((h,(J (f+1)),()),g,()))) sT) u ((v,0,()),w,())) fun j=>cd ((a.FQ.length:Int)≠e) sF (TN a.FQ a.S fun k=>C k (cd ((a.E8.length:Int)≠e) sF (TN a.E8 a.S fun l=>cd (l≠(a.j.length:Int)) sF (j ((e,()),a,())))) sF)) sF))) fun m=>O (X4 u c) fun n=>cd (n=0) sF (O (QJ u b.S 0 (J (c - 1))) fun o=>C o (O (QJ u b.Q 0 1048576) fun p=>C p (O (QJ u b.FZ (-1) (J (c - 1))) fun q=>C q (O (Y6 u b.j b.Q) fun r=>C r (O (QJ u b.d 0 (b.j.length:Int)) fun s=>C s (m ((c,()),b,())) sF) sF) sF) sF) sF)
def Ut:o 125 (s [d,zG] [h] (Yy u)):=f u (c g (c (j [.n 0,.r 3 .N] g) (c (c g (.one (n 5 (c (c (j [.n 0,.r 3 .N] g) (m [.n 0,.r 3 .N,.n 5] g)) g)))) g))) (e (Xu u) (e (ZF u) (e (Qhm u) t))) func125
def QdL(g:Y D.FD)(h:Int)(i:Int):I AH:=Qe (fun j ((a,b,c,e,_),_)=>cd (e<(a.length:Int)) (TN a e fun f=>cd ([f.a0,f.a1]=[(min b c),(max b c)]) sT (j ((a,b,c,(J (e+1)),()),()))) sF) u ((g,h,i,0,()),())
def Qf1:o 126 (s [l .FD,d,d] [h] (QdL u)):=f u (c g (m [.l 0 .FD,.n 1,.n 2,.n 7] g)) t func126
def Qa6(h:D.M):I AH:=TG (fun((zG,_),L,_)=>Qe (fun zC ((k,i,_),l,_)=>cd (i<k) (TG (fun((zI,W,_),Z,_)=>zC ((zI,(J (W+1)),()),Z,())) fun J9=>TN l.E i fun o=>cd (o.S≠i) sF (TN l.E i fun p=>O (Yy u k p) fun q=>C q (J9 ((k,i,()),l,())) sF)) (Qe (fun r ((c,j,_),e,_)=>cd (j<(e.u.length:Int)) (TG (fun((s,t,_),v,_)=>r ((s,(J (t+1)),()),v,())) fun w=>TN e.u j fun f=>O (QJ u f.w 0 (J (c - 1))) fun y=>C y (O (QJ u f.To 0 (J (c - 1))) fun z=>C z (cd (f.w=f.To) sF (w ((c,j,()),e,()))) sF) sF) (Qe (fun A ((m,g,_),b,_)=>cd (g<(b.Fg.length:Int)) (TG (fun((B,zH,_),E,_)=>A ((B,(J (zH+1)),()),E,())) fun F=>TN b.Fg g fun a=>cd (a.a0<0) sF (cd (a.a1<=a.a0) sF (cd (m<=a.a1) sF (TK g fun n=>TO n b.Fg.length (O (QdL u (List.take n b.Fg) a.a0 a.a1) fun G=>C G sF (F ((m,g,()),b,()))))))) sT) u ((c,0,()),e,()))) u ((k,0,()),l,()))) u ((zG,0,()),L,())) fun H=>O (X4 u (h.E.length:Int)) fun zE=>cd (zE=0) sF (cd ((h.FP.length:Int)≠(h.E.length:Int)) sF (cd (256<(h.u.length:Int)) sF (H (((h.E.length:Int),()),h,()))))
def Qa7:o 84 (s [K] [h] (Qa6 u)):=f u (n 2 (c (j [.r 1 .M,.n 3] g) (c (c g (.one (k [.r 1 .M,.n 3,.n 4] (c g (c (j [.r 1 .M,.n 3,.n 4] g) g))))) (c (c g (.one (k [.r 1 .M,.n 3,.n 5] (c g (c (j [.r 1 .M,.n 3,.n 5] g) g))))) (m [.r 1 .M,.n 3,.n 7] (c g (c (j [.r 1 .M,.n 3,.n 7] g) g))))))) (e (Xu u) (e (ZF u) (e (Ut u) (e (Qf1 u) t)))) func84
def VX(a:D.M)(b:Int):I Int:=O (Qa6 u a) fun c=>C (!c) (some 8) (O (QJ u b 0 (J ((a.E.length:Int) - 1))) fun e=>C (!e) (some 3) (some 0))
def Vn:o 72 (s [K,d] [d] (VX u)):=f u g (e (ZF u) (e (Qa7 u) t)) func72
def Qeu(v:Int)(t:D.N):I (Y D.c):=TG (fun((F,_),G,_)=>Qe (fun H ((f,b,_),a,g,_)=>cd (b<f) (TG (fun((zE,zG,_),L,w,_)=>H ((zE,(J (zG+1)),()),L,w,())) fun h=>cd (b=a.S) (h ((f,b,()),a,g,())) (TN a.E8 b fun c=>TK c fun e=>TO e a.j.length (TO (List.drop e a.j).length 34359738368 (TG (fun((y,z,_),A,(i,j,k,l,m,n,o,p,_),q,r,_)=>TO (q.length+[(D.c.mk i j k l m n o r p)].length) 34359738368 (h ((y,z,()),A,(q++[(D.c.mk i j k l m n o r p)]),()))) fun s=>cd (0<c) (TN a.j (J (c - 1)) fun B=>s ((f,b,()),a,(3,a.S,b,a.Q,c,B.Q,a.d,false,()),g,(List.drop e a.j),())) (s ((f,b,()),a,(3,a.S,b,a.Q,c,0,a.d,false,()),g,(List.drop e a.j),())))))) (some g)) u ((F,0,()),G,[],())) fun zH=>O (Yy u v t) fun E=>C E (cd (t.FA≠2) (some []) (zH ((v,()),t,()))) (some [])
def Qnr:o 76 (s [d,zG] [l .c] (Qeu u)):=f u (c g (c (j [.n 0,.r 3 .N] g) (c g (m [.n 0,.r 3 .N,.o 5 1059 .c,.n 6] (c g (c (j [.n 0,.r 3 .N,.o 5 1059 .c,.n 6] (.one (n 3 (c (.TG [G 0,r 3,(5,.one (.own 1059)),G 6,r 8] [w 1003 .N,(1008,.box [v,v,v,v,v,v,v,.own 1044,.Tc]),p 1059 .c,p 1044 .m] g) g)))) g)))))) (e (Ut u) t) func76
def V7(b:D.M)(c:Int):I (D.M×Int):=O (VX u b c) fun f=>cd (f≠0) (some (z5,f)) (TN b.FP c fun h=>C h (some (z5,21)) (TN b.E c fun i=>cd (i.FA≠2) (some (z5,22)) (O (Xc u b) fun a=>TK c fun g=>TP g a.E.length (O a.E[g]? fun j=>O (Qeu u (b.E.length:Int) j) fun e=>cd (256<(J ((a.u.length:Int)+(e.length:Int)))) (some (z5,5)) (TO (a.u.length+e.length) 34359738368 (some ((D.M.mk a.E (a.u++e) a.FP a.Fg),0)))))))
def Qck:o 23 (s [K,d] [K,d] (V7 u)):=f u g (e (YF u) (e (Vn u) (e (Qnr u) t))) func23
def Qi5(a:D.M)(b:Int):I Int:=O (Qa6 u a) fun c=>C (!c) (some 8) (O (QJ u b 0 (J ((a.u.length:Int) - 1))) fun e=>C (!e) (some 3) (some 0))
def QmE:o 146 (s [K,d] [d] (Qi5 u)):=f u g (e (ZF u) (e (Qa7 u) t)) func146
def Qi2(f:D.M)(e:Int):I (D.M×Int):=O (Qi5 u f e) fun g=>cd (g≠0) (some (z5,g)) (O (Xc u f) fun a=>TK e fun b=>TK e fun h=>chk b h (TO b a.u.length (TK (J (e+1)) fun c=>TO c a.u.length (TO b a.u.length (TO a.u.length a.u.length (TO c a.u.length (TR (List.drop c (List.take a.u.length a.u)) (TO b a.u.length (some ((D.M.mk a.E (List.take b a.u) a.FP a.Fg),0))) (TO ((List.take b a.u)++(List.drop c (List.take a.u.length a.u))).length 34359738368 (some ((D.M.mk a.E ((List.take b a.u)++(List.drop c (List.take a.u.length a.u))) a.FP a.Fg),0))))))))))
def QmC:o 89 (Qn [K,d] [] [.agg [.own 1017023,.own 1027,.own 1017049,.own 1017052],d] [p 1017023 .N,p 1027 .c,p 1017049 .bool,p 1017052 .FD] [] (D.M×Int) (fun q=>(((),q.2,()),q.1.E,q.1.u,q.1.FP,q.1.Fg,())) (fun x y=>Qi2 u x.1 x.2.1)):=i u g (fun a b=>((D.M.mk b.1 b.2.1 b.2.2.1 b.2.2.2.1),a.2.1)) (e (YF u) (e (QmE u) t)) func89
def U2(c:Int)(b:D.N)(a:D.c)(e:Int):I AH:=O (Yy u c b) fun f=>C f (cd (a.Z=e) (cd (a.To=b.S) (O (QJ u a.w 0 (J (c - 1))) fun g=>C g (cd (a.w≠b.S) (O (QJ u a.Q 1 1048576) fun h=>C h sT sF) sF) sF) sF) sF) sF
def QiY:o 209 (s [d,zG,t16,d] [h] (U2 u)):=f u g (e (ZF u) (e (Ut u) t)) func209
def QaF(u:Nat)(a:D.N)(b:Int):I D.N:=TG (fun(_,e,f,_)=>some e) fun c=>cd (a.Q<b) (c ((),(D.N.mk a.S b (-1) 0 a.j a.d [] []),z4,())) (c ((),a,z4,()))
def QbO:o 210 (s [zG,d] [zG] (QaF u)):=f u (c g (c (j [.r 2 .N,.r 4 .N] g) g)) t func210
def Qet(u:Nat)(a:D.N):I Int:=cd ((a.j.length:Int)=0) (some 0) (TN a.j (J ((a.j.length:Int) - 1)) fun b=>some b.Q)
def Qh1:o 100 (s [zG] [d] (Qet u)):=f u g t func100
def QdJ(a:D.N)(c:Int)(b:Int):I AH:=O (Qet u a) fun e=>cd (e<b) sT (O (Qet u a) fun f=>cd (b=f) (cd ((a.j.length:Int)<=c) sT sF) sF)
def Qrq:o 211 (s [zG,d,d] [h] (QdJ u)):=f u g (e (Qh1 u) t) func211
def Qk6(s:Int)(e:D.N)(a:D.c):I (D.N×D.c×AH):=O (U2 u s e a 1) fun t=>C (!t) (O (Wq u e) fun v=>some (v,(D.c.mk 0 0 0 0 0 0 0 [] false),false)) (O (QdI u e) fun w=>O (QaF u w a.Q) fun b=>TG (fun((i,_),k,j,l,m,f,_)=>TG (fun((n,_),o,p,y,z,g,_)=>some (g,(D.c.mk 2 o.S p.w g.Q 0 0 0 [] n),true)) fun h=>C i (h ((i,()),k,j,l,m,(D.N.mk f.S f.Q j.w f.FA f.j f.d f.FQ f.E8),())) (h ((i,()),k,j,l,m,f,()))) fun c=>cd (b.Q=a.Q) (cd (b.FZ=(-1)) (cd (b.FA=0) (O (QdJ u b a.z a.FT) fun q=>C q (c ((true,()),e,a,z4,(D.c.mk 0 0 0 0 0 0 0 [] false),b,())) (c ((false,()),e,a,z4,(D.c.mk 0 0 0 0 0 0 0 [] false),b,()))) (c ((false,()),e,a,z4,(D.c.mk 0 0 0 0 0 0 0 [] false),b,()))) (cd (b.FZ=a.w) (cd (b.FA=0) (O (QdJ u b a.z a.FT) fun r=>C r (c ((true,()),e,a,z4,(D.c.mk 0 0 0 0 0 0 0 [] false),b,())) (c ((false,()),e,a,z4,(D.c.mk 0 0 0 0 0 0 0 [] false),b,()))) (c ((false,()),e,a,z4,(D.c.mk 0 0 0 0 0 0 0 [] false),b,()))) (c ((false,()),e,a,z4,(D.c.mk 0 0 0 0 0 0 0 [] false),b,())))) (c ((false,()),e,a,z4,(D.c.mk 0 0 0 0 0 0 0 [] false),b,())))
def QsO:o 127 (s [d,zG,t16] [zG,t16,h] (Qk6 u)):=f u (n 3 (c (j [.r 4 .N,.r 5 .c,.r 6 .N,.r 7 .c,.r 9 .N,.s 10 h] g) (c (j [.r 4 .N,.r 5 .c,.r 6 .N,.r 7 .c,.r 9 .N,.s 10 h] g) g))) (eD 21 (Qes u) (e (Uc u) (e (QiY u) (e (QbO u) (e (Qrq u) t))))) func127
def Qi0(u:Nat)(e:Int)(a:D.N):I D.N:=TK e fun b=>TO b 1048576 (TK a.S fun c=>TP c (List.replicate b (0:Int)).length (O (GetElem?.getElem? (List.replicate b (0:Int)) c) fun f=>some (D.N.mk a.S a.Q a.FZ 2 a.j a.d a.FQ (List.set (List.replicate b (0:Int)) c (a.j.length:Int)))))
def QmA:o 204 (s [d,zG] [zG] (Qi0 u)):=f u g t func204
end
open Go AM IntKind
noncomputable section
open fk Tryz
abbrev bI0:Y Sh:=[kI,.TQ .r,.TQ .R,.TQ .n,.TQ .e,.TQ .FU,.TQ .W,.own 101,kI,kI,.own 102,.own 103]
abbrev bI1:Y Sh:=[kI,kI,kI,kI,kI,kI,kI,kI,kI,kI,kI,.own 1038025,.own 1038030,.own 1038033]
abbrev bI2:Y Sh:=[kI,kI,kI,kI,kI,kI,kI,kI,kI,kI,kI,.own 1033025,.TQ .int,.own 1033033]
abbrev bI3:Y Sh:=[kI,kI,kI,kI,.own 1012005,kI,.own 1012008,.own 1012011]
abbrev bI4:Y Sh:=[kI,kI,kI,kI,.own 1013005,kI,.own 1013008,.own 1013011]
variable (u:Nat)
def QiZ(w:Int)(o:D.N)(n:D.c):I D.N:=O (Wq u o) fun a=>O (U2 u w o n 2) fun a1=>C (!a1) (some a) (cd (o.Q<n.Q) (O (QaF u a n.Q) fun a2=>some a2) (TG (fun((a3,_),a4,a5,(a6,a7,a8,a9,y,_),z,p,A,_)=>TK a4.w fun q=>TP q p.length (O p[q]? fun aF=>Qe (fun B ((c,r,e,_),f,(g,h,i,j,k,_),l,b,m,_)=>cd (e<c) (TG (fun((zH,E,F,_),G,(H,zE,zG,L,zC,_),zI,W,Z,_)=>B ((zH,E,(J (F+1)),()),G,(H,zE,zG,L,zC,()),zI,W,Z,())) fun s=>TK e fun t=>TP t b.length (O b[t]? fun aA=>C aA (s ((c,(J (r+1)),e,()),f,(g,h,i,j,k,()),l,b,m,())) (s ((c,r,e,()),f,(g,h,i,j,k,()),l,b,m,())))) (TG (fun(_,aG,aB,_)=>some aB) fun v=>O (X4 u c) fun aC=>cd (aC<=r) (O (Qi0 u c (D.N.mk g h i j l k b m)) fun aD=>v ((),f,aD,())) (v ((),f,(D.N.mk g h i j l k b m),())))) u ((a3,0,0,()),a5,(a6,a7,a8,a9,y,()),z,(List.set p q true),A,()))) fun aE=>cd (o.FA≠1) (some a) (cd (n.Q≠o.Q) (some a) (C n.OK (aE ((w,()),n,z4,(a.S,a.Q,a.FZ,a.FA,a.d,()),a.j,a.FQ,a.E8,())) (some a)))))
def Qrs:o 128 (s [d,zG,t16] [zG] (QiZ u)):=f u (n 4 (c (j [.n 0,.r 5 .c,.r 6 .N,.s 7 (.one (.TM 1007))] g [(1007,.box bI3),p 1012005 .m,p 1012008 .bool,p 1012011 .int]) (n 2 (c (c g (.one (k [.n 0,.r 6 .N,.s 7 (.one (.TM 1007)),.n 8,.n 9] (c g (c (j [.n 0,.r 6 .N,.s 7 (.one (.TM 1007)),.n 8,.n 9] g [(1007,.box bI3),p 1012005 .m,p 1012008 .bool,p 1012011 .int]) g)) [(1007,.box bI3),p 1012005 .m,p 1012008 .bool,p 1012011 .int]))) (c (j [.r 6 .N,.r 7 .N] g) g))))) (e (Xu u) (e (Uc u) (e (QmA u) (e (QiY u) (e (QbO u) t))))) func128
def QgR(l:Y D.m)(m:Int)(n:Y D.m):I (Y D.m×Int):=Qe (fun o ((a,e,c,b,_),_)=>cd (b<(c.length:Int)) (TG (fun((p,q,r,s,_),_)=>o ((p,q,r,(J (s+1)),()),())) fun t=>cd ((a.length:Int)<=(J (e+b))) (TK (min (J (e+b)) (a.length:Int)) fun f=>TO f a.length (TO (List.take f a).length 34359738368 (TK b fun h=>TO h c.length (TO ((List.take f a).length+(List.drop h c).length) 34359738368 (some (((List.take f a)++(List.drop h c)),(min (J (e+b)) (a.length:Int)))))))) (TN a (J (e+b)) fun j=>TN c b fun k=>cd (j.Q≠k.Q) (TK (min (J (e+b)) (a.length:Int)) fun g=>TO g a.length (TO (List.take g a).length 34359738368 (TK b fun i=>TO i c.length (TO ((List.take g a).length+(List.drop i c).length) 34359738368 (some (((List.take g a)++(List.drop i c)),(min (J (e+b)) (a.length:Int)))))))) (t ((a,e,c,b,()),())))) (TO a.length 34359738368 (some (a,(a.length:Int))))) u ((l,m,n,0,()),())
def QpE:o 212 (s [l .m,d,l .m] [l .m,d] (QgR u)):=f u (c g (m [.l 0 .m,.n 1,.l 2 .m,.n 8] (c g (c (j [.l 0 .m,.n 1,.l 2 .m,.n 8] g) g)))) t func212
def QgQ(p0:Int)(l:D.N)(p:D.c):I (D.N×D.c×AH):=TG (fun(_,s,q,v,w,_)=>O (QdI u s) fun a4=>O (QaF u a4 q.Q) fun f=>TG (fun(_,m,b,n,o,a,_)=>TG (fun((y,_),k,g,z,A,h,_)=>C (!y) (some (h,(D.c.mk 4 k.S g.w h.Q 0 0 0 [] false),true)) (O (QgR u h.j g.z g.q) fun(t,B)=>TG (fun((zH,_),j,aA,aB,c,e,_)=>some ((D.N.mk c.S c.Q c.FZ c.FA zH (max c.d (min j.d (J (j.z+(j.q.length:Int))))) c.FQ c.E8),(D.c.mk e.Z e.w e.To e.Q (J (j.z+(j.q.length:Int))) e.FT e.d e.q true),true)) fun E=>O (Y6 u t g.Q) fun F=>C F (cd (B<h.d) (O (Wq u k) fun G=>some (G,(D.c.mk 0 0 0 0 0 0 0 [] false),false)) (E ((t,()),g,z,A,h,(D.c.mk 4 k.S g.w h.Q 0 0 0 [] false),()))) (O (Wq u k) fun H=>some (H,(D.c.mk 0 0 0 0 0 0 0 [] false),false)))) fun i=>cd (b.Q=a.Q) (cd (a.FA≠2) (cd (b.z<=(a.j.length:Int)) (cd (b.z=0) (i ((true,()),m,b,n,o,a,())) (TN a.j (J (b.z - 1)) fun zE=>cd (zE.Q=b.FT) (i ((true,()),m,b,n,o,a,())) (i ((false,()),m,b,n,o,a,())))) (i ((false,()),m,b,n,o,a,()))) (i ((false,()),m,b,n,o,a,()))) (i ((false,()),m,b,n,o,a,()))) fun r=>cd (f.FA=1) (cd (f.Q=q.Q) (r ((),s,q,v,w,(D.N.mk f.S f.Q f.FZ 0 f.j f.d [] f.E8),())) (r ((),s,q,v,w,f,()))) (r ((),s,q,v,w,f,()))) fun zG=>O (U2 u p0 l p 3) fun L=>C L (cd (p.z<0) (O (Wq u l) fun zC=>some (zC,(D.c.mk 0 0 0 0 0 0 0 [] false),false)) (cd (p.FT<0) (O (Wq u l) fun zI=>some (zI,(D.c.mk 0 0 0 0 0 0 0 [] false),false)) (cd (p.d<0) (O (Wq u l) fun W=>some (W,(D.c.mk 0 0 0 0 0 0 0 [] false),false)) (zG ((),l,p,z4,(D.c.mk 0 0 0 0 0 0 0 [] false),()))))) (O (Wq u l) fun Z=>some (Z,(D.c.mk 0 0 0 0 0 0 0 [] false),false))
def QpD:o 129 (s [d,zG,t16] [zG,t16,h] (QgQ u)):=f u (c g (c (j [.r 4 .N,.r 5 .c,.r 6 .N,.r 7 .c] g) (c g (c (j [.r 4 .N,.r 5 .c,.r 6 .N,.r 7 .c,.r 9 .N] g) (c (j [.r 4 .N,.r 5 .c,.r 6 .N,.r 7 .c,.r 9 .N,.s 10 h] g) (n 3 (c (j [.r 5 .c,.r 6 .N,.r 7 .c,.r 9 .N,.r 11 .c,.l 12 .m] g) g))))))) (eD 40 (Qes u) (e (Uc u) (e (Qhm u) (e (QiY u) (e (QbO u) (e (QpE u) t)))))) func129
def QcW(Z:Int)(q:D.N)(n:D.c):I D.N:=O (Wq u q) fun a=>O (U2 u Z q n 4) fun a1=>C (!a1) (some a) (cd (q.Q<n.Q) (O (QaF u a n.Q) fun a2=>some a2) (TG (fun((a3,_),W,a5,(a6,a7,a8,a9,aA,_),v,aB,h,_)=>TK W.w fun w=>TP w h.length (O h[w]? fun aC=>TK W.w fun r=>TP r h.length (O h[r]? fun bH=>TG (fun(_,bI,(aD,aE,aF,aG,aH,_),aI,aJ,aK,_)=>some (D.N.mk aD aE aF aG aI aH aJ aK)) fun y=>Qe (fun aL ((aM,z,_),A,(B,zH,E,F,s,_),G,H,zE,_)=>cd (s<z) (TG (fun((aN,aO,_),aP,(aQ,aR,aS,aT,aU,_),aV,aW,aX,_)=>aL ((aN,(J (aO - 1)),()),aP,(aQ,aR,aS,aT,aU,()),aV,aW,aX,())) fun zG=>Qe (fun aY ((f,b,t,o,_),i,(j,g,k,l,p,_),c,m,e,_)=>cd (o<f) (TG (fun((aZ,b0,b1,b2,_),b3,(b4,b5,b6,b7,b8,_),b9,bA,bB,_)=>aY ((aZ,b0,b1,(J (b2+1)),()),b3,(b4,b5,b6,b7,b8,()),b9,bA,bB,())) fun L=>TK o fun zC=>TP zC e.length (O e[zC]? fun bC=>cd (b<=bC) (L ((f,b,(J (t+1)),o,()),i,(j,g,k,l,p,()),c,m,e,())) (L ((f,b,t,o,()),i,(j,g,k,l,p,()),c,m,e,())))) (O (X4 u f) fun bD=>cd (bD<=t) (TK (J (b - 1)) fun zI=>TP zI c.length (O c[zI]? fun bE=>cd (bE.Q=g) (y ((),i,(j,g,k,l,b,()),c,m,e,())) (zG ((f,b,()),i,(j,g,k,l,p,()),c,m,e,())))) (zG ((f,b,()),i,(j,g,k,l,p,()),c,m,e,())))) u ((aM,z,0,0,()),A,(B,zH,E,F,s,()),G,H,zE,())) (y ((),A,(B,zH,E,F,s,()),G,H,zE,()))) u ((a3,(v.length:Int),()),a5,(a6,a7,a8,a9,aA,()),v,aB,(List.set h r (max aC W.z)),())))) fun bF=>cd (q.FA≠2) (some a) (cd (n.Q≠q.Q) (some a) (C n.OK (O (QJ u n.z 0 (q.j.length:Int)) fun bG=>C bG (bF ((Z,()),n,z4,(a.S,a.Q,a.FZ,a.FA,a.d,()),a.j,a.FQ,a.E8,())) (some a)) (some a)))))
def QmB:o 130 (s [d,zG,t16] [zG] (QcW u)):=f u (n 4 (c (j [.n 0,.r 5 .c,.r 6 .N,.s 7 (.one (.TM 1007))] g [(1007,.box bI4),p 1013005 .m,p 1013008 .bool,p 1013011 .int]) (c g (c (j [.r 6 .N,.s 7 (.one (.TM 1007))] (c g (.one (k [.n 0,.r 6 .N,.s 7 (.one (.TM 1007)),.n 8] (c g (c (j [.n 0,.r 6 .N,.s 7 (.one (.TM 1007)),.n 8] (.one (c g (m [.n 0,.r 6 .N,.s 7 (.one (.TM 1007)),.n 8,.n 9,.n 10] (c g (c (j [.n 0,.r 6 .N,.s 7 (.one (.TM 1007)),.n 8,.n 9,.n 10] g [(1007,.box bI4),p 1013005 .m,p 1013008 .bool,p 1013011 .int]) g)) [(1007,.box bI4),p 1013005 .m,p 1013008 .bool,p 1013011 .int]))) [(1007,.box bI4),p 1013005 .m,p 1013008 .bool,p 1013011 .int]) g)) [(1007,.box bI4),p 1013005 .m,p 1013008 .bool,p 1013011 .int]))) [(1007,.box bI4),p 1013005 .m,p 1013008 .bool,p 1013011 .int]) g)))) (e (Xu u) (e (ZF u) (e (Uc u) (e (QiY u) (e (QbO u) t))))) func130
def QaG(k:D.M)(z:Int):I (D.M×Int):=O (Qi2 u k z) fun(j,A)=>cd (A≠0) (some (z5,A)) (O (Xc u k) fun B=>TK z fun zH=>TP zH B.u.length (O B.u[zH]? fun o=>TG (fun(_,p,l,_,a,g,m,b,c,_)=>TK a.To fun q=>TP q g.length (O g[q]? fun e=>TG (fun((E,_),r,_,F,s,t,h,n,v,w,_)=>TK F.To fun i=>TP i h.length (O h[i]? fun aG=>TG (fun(_,aH,_,G,H,zE,zG,_)=>some ((D.M.mk G H zE zG),0)) fun y=>C E (TO (n.length+[t].length) 34359738368 (y ((),r,(),(List.set h i s),(n++[t]),v,w,()))) (y ((),r,(),(List.set h i s),n,v,w,())))) fun f=>cd (a.Z=1) (O (Qk6 u (p.E.length:Int) e a) fun(L,zC,zI)=>f ((zI,()),l,(),a,L,zC,g,m,b,c,())) (cd (a.Z=2) (O (QiZ u (p.E.length:Int) e a) fun W=>f ((false,()),l,(),a,W,(D.c.mk 0 0 0 0 0 0 0 [] false),g,m,b,c,())) (cd (a.Z=3) (O (QgQ u (p.E.length:Int) e a) fun(Z,aA,aB)=>f ((aB,()),l,(),a,Z,aA,g,m,b,c,())) (cd (a.Z=4) (O (QcW u (p.E.length:Int) e a) fun aC=>f ((false,()),l,(),a,aC,(D.c.mk 0 0 0 0 0 0 0 [] false),g,m,b,c,())) (f ((false,()),l,(),a,e,(D.c.mk 0 0 0 0 0 0 0 [] false),g,m,b,c,()))))))) fun aD=>TN k.FP o.To fun aE=>C aE (some (j,0)) (O (QdL u k.Fg o.w o.To) fun aF=>C aF (some (j,0)) (aD ((),k,z5,(),o,j.E,j.u,j.FP,j.Fg,())))))
def Qhn:o 77 (s [K,d] [K,d] (QaG u)):=f u (n 4 (c (.TG [r 2,r 4,r 6,r 8] [w 1002 .M,w 1004 .M,(1006,.box [.own 2033023,.own 1017027,.own 2033049,.own 2033052]),w 1008 .c,p 2033023 .N,p 1017027 .c,p 2033049 .bool,p 2033052 .FD] g) (n 3 (c (.TG [r 4,r 6,r 8,r 10,r 11,(12,h)] [w 1004 .M,(1006,.box [.own 2033023,.own 1017027,.own 2033049,.own 2033052]),w 1008 .c,w 1010 .N,w 1011 .c,p 2033023 .N,p 1017027 .c,p 2033049 .bool,p 2033052 .FD] g) (c g (c (j [.r 4 .M,.s 6 (.one (.TM 1006))] g [(1006,.box [.own 2033023,.own 1017027,.own 2033049,.own 2033052]),p 2033023 .N,p 1017027 .c,p 2033049 .bool,p 2033052 .FD]) g)))))) (e (YF u) (e (QmC u) (e (Qf1 u) (e (QsO u) (e (Qrs u) (e (QpD u) (e (QmB u) t))))))) func77
def Xv(e:D.M):I D.M:=TG (fun(_,f,j,_)=>some f) fun c=>Qe (fun g (_,a,b,_)=>cd (0<(a.u.length:Int)) (O (QaG u a 0) fun(h,i)=>cd (i≠0) (c ((),a,b,())) (g ((),h,b,()))) (c ((),a,b,()))) u ((),e,z5,())
def QcX:o 24 (s [K] [K] (Xv u)):=f u (c g (c (j [.r 1 .M,.r 2 .M] (.one (k [.r 1 .M,.r 2 .M] g))) g)) (e (Qhn u) t) func24
def QiX(g:Int)(b:D.N):I (D.N×Y D.c×Int):=O (Yy u g b) fun z=>C (!z) (some (z4,[],8)) (cd (b.Q=1048576) (some (z4,[],5)) (O (Wq u b) fun h=>TK g fun i=>TO i 1048576 (TK b.S fun k=>TP k (List.replicate i false).length (O (GetElem?.getElem? (List.replicate i false) k) fun G=>TG (fun((A,_),B,zH,E,_)=>Qe (fun F ((j,c,_),a,l,e,f,_)=>cd (c<j) (TG (fun((p,q,_),r,s,t,v,_)=>F ((p,(J (q+1)),()),r,s,t,v,())) fun m=>cd (c≠a.S) (O (Qet u a) fun n=>TO (f.length+[(D.c.mk 1 a.S c e.Q (a.j.length:Int) n 0 [] false)].length) 34359738368 (m ((j,c,()),a,l,e,(f++[(D.c.mk 1 a.S c e.Q (a.j.length:Int) n 0 [] false)]),()))) (m ((j,c,()),a,l,e,f,()))) (some (e,f,0))) u ((A,0,()),B,zH,E,[],())) fun o=>O (X4 u g) fun w=>cd (w=1) (O (Qi0 u g (D.N.mk h.S (J (b.Q+1)) b.S 1 h.j h.d (List.set (List.replicate i false) k true) [])) fun y=>o ((g,()),b,z4,y,())) (o ((g,()),b,z4,(D.N.mk h.S (J (b.Q+1)) b.S 1 h.j h.d (List.set (List.replicate i false) k true) []),()))))))
def Qrr:o 122 (s [d,zG] [zG,l .c,d] (QiX u)):=f u (n 7 (c (j [.n 0,.r 3 .N,.r 4 .N,.r 7 .N] g) (c g (m [.n 0,.r 3 .N,.r 4 .N,.r 7 .N,.o 8 1066 .c,.n 9] (c g (c (j [.n 0,.r 3 .N,.r 4 .N,.r 7 .N,.o 8 1066 .c,.n 9] g) g)))))) (e (Xu u) (e (Uc u) (e (Qh1 u) (e (Ut u) (e (QmA u) t))))) func122
def Qf0(b:D.M)(c:Int):I (D.M×Int):=O (VX u b c) fun g=>cd (g≠0) (some (z5,g)) (TN b.FP c fun j=>C j (some (z5,21)) (O (Xc u b) fun a=>TK c fun h=>TP h a.E.length (O a.E[h]? fun k=>O (QiX u (b.E.length:Int) k) fun(l,e,i)=>cd (i≠0) (some (z5,i)) (cd (256<(J ((a.u.length:Int)+(e.length:Int)))) (some (z5,5)) (TO (a.u.length+e.length) 34359738368 (TK c fun f=>TP f a.E.length (O a.E[f]? fun m=>some ((D.M.mk (List.set a.E f l) (a.u++e) a.FP a.Fg),0))))))))
def Qko:o 73 (s [K,d] [K,d] (Qf0 u)):=f u g (e (YF u) (e (Vn u) (e (Qrr u) t))) func73
def Uu(h:D.M)(f:Int):I (D.M×Int):=O (VX u h f) fun i=>cd (i≠0) (some (z5,i)) (O (Xc u h) fun g=>O (Qf0 u (D.M.mk g.E [] g.FP g.Fg) f) fun(t,j)=>cd (j≠0) (some (z5,j)) (O (Xv u t) fun v=>TG (fun(_,w,A,_)=>some (w,0)) fun k=>Qe (fun y ((l,c,_),a,b,_)=>TG (fun((e,m,_),n,o,_)=>O (V7 u n e) fun(p,z)=>O (Xv u p) fun q=>y ((e,(J (m+1)),()),q,o,())) fun r=>cd (c<2) (TN a.E l fun s=>cd (s.FA=2) (r ((l,c,()),a,b,())) (k ((),a,b,()))) (k ((),a,b,()))) u ((f,0,()),v,z5,())))
def Qex:o 20 (s [K,d] [K,d] (Uu u)):=f u (n 7 (c (j [.r 2 .M,.r 4 .M] (c g (.one (k [.n 1,.r 2 .M,.r 4 .M,.n 8] (c (j [.n 1,.r 2 .M,.r 4 .M,.n 8] g) g))))) g)) (e (Qck u) (e (QcX u) (e (YF u) (e (Vn u) (e (Qko u) t))))) func20
def XX(u:Nat)(a:Y D.N):I (Y D.N):=TR a (TU (some []) (TO a.length 34359738368 (some a))) (TO a.length 34359738368 (some a))
def QeH:o 291 (Qn [l .N] [] [.one (.own 1007)] [p 1007 .N] [] (Y D.N) kz6 (fun x y=>XX u x.1)):=i u g kz10 t func291
def XW(u:Nat)(a:Y D.c):I (Y D.c):=TR a (TU (some []) (TO a.length 34359738368 (some a))) (TO a.length 34359738368 (some a))
def QeG:o 292 (Qn [l .c] [] [.one (.own 1007)] [p 1007 .c] [] (Y D.c) kz6 (fun x y=>XW u x.1)):=i u g kz10 t func292
def YZ(u:Nat)(a:Y AH):I (Y AH):=TR a (TU (some []) (TO a.length 34359738368 (some a))) (TO a.length 34359738368 (some a))
def VM:o 293 (Qn [l .bool] [] [.one (.own 1007)] [p 1007 .bool] [] (Y AH) kz6 (fun x y=>YZ u x.1)):=i u g kz10 t func293
def WY(u:Nat)(a:Y D.FD):I (Y D.FD):=TR a (TU (some []) (TO a.length 34359738368 (some a))) (TO a.length 34359738368 (some a))
def Qgc:o 294 (Qn [l .FD] [] [.one (.own 1007)] [p 1007 .FD] [] (Y D.FD) kz6 (fun x y=>WY u x.1)):=i u g kz10 t func294
def Xy(u:Nat)(a:Y D.m):I (Y D.m):=TR a (TU (some []) (TO a.length 34359738368 (some a))) (TO a.length 34359738368 (some a))
def Qbb:o 296 (Qn [l .m] [] [.one (.own 1007)] [p 1007 .m] [] (Y D.m) kz6 (fun x y=>Xy u x.1)):=i u g kz10 t func296
def Uh(a:D.N):I D.N:=O (Xy u a.j) fun b=>O (YZ u a.FQ) fun c=>O (Qy u a.E8) fun e=>some (D.N.mk a.S a.Q a.FZ a.FA b a.d c e)
def Qnw:o 295 (Qn [zG] [] [.agg [v,v,v,v,.own 1006007,v,.own 1009007,.own 1012007]] [p 1006007 .m,p 1009007 .bool,p 1012007 .int] [] D.N kz19 (fun x y=>Uh u x.1)):=i u g (fun a b=>D.N.mk a.1.1 a.1.2.1 a.1.2.2.1 a.1.2.2.2.1 b.1 a.1.2.2.2.2.1 b.2.1 b.2.2.1) (e (Q1 u) (e (VM u) (e (Qbb u) t))) func295
def Qaf(a:D.N):I D.N:=O (Xy u a.j) fun b=>O (YZ u a.FQ) fun c=>O (Qy u a.E8) fun e=>some (D.N.mk a.S a.Q a.FZ a.FA b a.d c e)
def QkN:o 295 (s [zG] [zG] (Qaf u)):=f u g (e (Q1 u) (e (VM u) (e (Qbb u) t))) func295
def XV(u:Nat)(a:Y D.m):I (Y D.m):=TR a (TU (some []) (TO a.length 34359738368 (some a))) (TO a.length 34359738368 (some a))
def QeF:o 296 (s [l .m] [l .m] (XV u)):=f u g t func296
def Vy(h:D.M):I D.M:=O (XX u h.E) fun s=>O (XW u h.u) fun E=>O (YZ u h.FP) fun F=>O (WY u h.Fg) fun G=>Qe (fun H ((t,i,_),_,v,e,r,j,k,_)=>cd (i<t) (TK i fun l=>TP l e.length (O e[l]? fun w=>O (Qaf u w) fun y=>TK i fun f=>TP f e.length (O e[f]? fun zE=>H ((t,(J (i+1)),()),(),v,(List.set e f y),r,j,k,())))) (Qe (fun z ((m,c,_),_,A,n,b,o,p,_)=>cd (c<m) (TK c fun q=>TP q b.length (O b[q]? fun B=>O (XV u B.q) fun zH=>TK c fun g=>TP g b.length (O b[g]? fun a=>z ((m,(J (c+1)),()),(),A,n,(List.set b g (D.c.mk a.Z a.w a.To a.Q a.z a.FT a.d zH a.OK)),o,p,())))) (some (D.M.mk n b o p))) u (((r.length:Int),0,()),(),v,e,r,j,k,()))) u (((s.length:Int),0,()),(),z5,s,E,F,G,())
def QeX:o 205 (Qn [K] [] [.agg [.own 1008007,.own 1011007,.own 1014007,.own 1017007]] [p 1008007 .N,p 1011007 .c,p 1014007 .bool,p 1017007 .FD] [] D.M kz21 (fun x y=>Vy u x.1)):=i u (n 2 (c (c g (.one (.loop [r 1,r 2,G 23,G 24] [(1001,.box [.own 1008007,.own 1011007,.own 1014007,.own 1017007]),w 1002 .M,p 1008007 .N,p 1011007 .c,p 1014007 .bool,p 1017007 .FD] g))) (lp [r 1,r 2,G 40,G 41] [(1001,.box [.own 1008007,.own 1011007,.own 1014007,.own 1017007]),w 1002 .M,p 1008007 .N,p 1011007 .c,p 1014007 .bool,p 1017007 .FD] g))) (fun a b=>D.M.mk b.1 b.2.1 b.2.2.1 b.2.2.2.1) (e (QeH u) (e (QeG u) (e (VM u) (e (Qgc u) (eD 36 (QkN u) (eD 54 (QeF u) t)))))) func205
def QbQ(a:D.M):I D.M:=O (Vy u a) fun b=>some b
def QkJ:o 123 (Qn [K] [] [.agg [.own 2012007,.own 2015007,.own 2018007,.own 2021007]] [p 2012007 .N,p 2015007 .c,p 2018007 .bool,p 2021007 .FD] [] D.M kz21 (fun x y=>QbQ u x.1)):=i u g (fun a b=>D.M.mk b.1 b.2.1 b.2.2.1 b.2.2.2.1) (e (QeX u) t) func123
def Qcd(a:D.g)(b:Int):I D.site:=O (YX u a.FR []) fun(c,f)=>O (QbQ u a.M) fun e=>some (D.site.mk (D.g.mk c e a.FN) b 0)
def Qhk:o 74 (Qn [t8,d] [] [.one (.TM 1019)] [w 1019 .site] [] D.site kz6 (fun x y=>Qcd u x.1 x.2.1)):=i u g kz10 (e (UQ u) (e (QkJ u) t)) func74
def Qa8(a:D.M)(b:Int)(c:Int):I Int:=O (Vo u a) fun e=>C (!e) (some 8) (O (U4 u b 0 (J (c - 1))) fun f=>C (!f) (some 3) (some 0))
def QmH:o 297 (s [K,d,d] [d] (Qa8 u)):=f u g (e (Qcp u) (e (Qf3 u) t)) func297
def QdO(a:D.M)(b:Int):I Int:=O (Qa8 u a b (a.E.length:Int)) fun c=>cd (c≠0) (some c) (TN a.FP b fun e=>C e (some 21) (some 0))
def Qrx:o 206 (s [K,d] [d] (QdO u)):=f u g (e (QmH u) t) func206
def QeN(a:Int):I Int:=O (QaK u a 1 5) fun b=>C (!b) (some 0) (nzc 2 (some (J ((J (Int.tdiv a 2))+1))))
def Qnx:o 299 (s [d] [d] (QeN u)):=f u g (e (Qd1 u) t) func299
def Vz(u:Nat)(b:D.m)(a:D.Op):I AH:=TF a a (some (decide (b.Op.S=a.S)))
def Qg4:o 298 (Qn [.st .m,.one (.TM 101)] [w 101 .Op] [h] [] [101] AH kz2 (fun x y=>Vz u x.1 y.1)):=i u g kz4 t func298
def QQ(c:Y D.m)(c101:D.Op):I Int:=Qe (fun g ((e,f,a,_),b,_)=>cd (a<f) (TN e a fun h=>O (Vz u h b) fun i=>C i (TF b c101 (some a)) (g ((e,f,(J (a+1)),()),b,()))) (TF b c101 (some (-1)))) u ((c,(c.length:Int),0,()),c101,())
def Wc:o 213 (Qn [l .m,.one (.clo 298 [101])] [w 101 .Op] [d] [] [101] Int kz2 (fun x y=>QQ u x.1 y.1)):=i u (c g (m [.l 0 .m,.s 1 (.one (.clo 298 [101])),.n 7,.n 8] g [w 101 .Op])) kz4 (e (Qg4 u) t) func213
def Qo(a:Y D.m)(c101:D.Op):I AH:=O (QQ u a c101) fun b=>TF c101 c101 (some (decide (0<=b)))
def XD:o 132 (Qn [l .m,.one (.clo 298 [101])] [w 101 .Op] [h] [] [101] AH kz2 (fun x y=>Qo u x.1 y.1)):=i u g kz4 (e (Wc u) t) func132
def X6(g:Int)(c:D.N)(b:D.Op):I (D.N×Int):=O (Uz u g c) fun l=>C (!l) (some (z4,8)) (cd (c.FA≠2) (some (z4,22)) (O (Qo u c.j b) fun m=>C m (some (z4,4)) (cd ((c.j.length:Int)=256) (some (z4,5)) (O (Uh u c) fun a=>TO (a.j.length+[(D.m.mk a.Q b)].length) 34359738368 (TK a.S fun e=>TP e a.E8.length (O a.E8[e]? fun t=>TG (fun(_,(n,o,p,q,r,_),s,h,i,j,_)=>some ((D.N.mk n o p q h r i j),0)) fun f=>O (QeN u g) fun k=>cd (k=1) (f ((),(a.S,a.Q,a.FZ,a.FA,(((a.j++[(D.m.mk a.Q b)]).length:Nat):Int),()),z4,(a.j++[(D.m.mk a.Q b)]),a.FQ,(List.set a.E8 e (((a.j++[(D.m.mk a.Q b)]).length:Nat):Int)),())) (f ((),(a.S,a.Q,a.FZ,a.FA,a.d,()),z4,(a.j++[(D.m.mk a.Q b)]),a.FQ,(List.set a.E8 e (((a.j++[(D.m.mk a.Q b)]).length:Nat):Int)),()))))))))
def Qja:o 207 (s [d,zG,t6] [zG,d] (X6 u)):=f u (n 5 (c (.TG [r 4,r 6] [(1004,.box [v,v,v,v,.own 2038007,v,.own 2041007,.own 2044007]),w 1006 .N,p 2038007 .m,p 2041007 .bool,p 2044007 .int] g) g)) (e (XD u) (e (Qjk u) (e (Qnw u) (e (Qnx u) t)))) func207
def WL(e:D.M)(b:Int)(i:D.Op):I (D.M×Int):=O (QdO u e b) fun f=>cd (f≠0) (some (z5,f)) (O (Vy u e) fun a=>TK b fun g=>TP g a.E.length (O a.E[g]? fun j=>O (X6 u (a.E.length:Int) j i) fun(k,h)=>cd (h≠0) (some (z5,h)) (TK b fun c=>TP c a.E.length (O a.E[c]? fun l=>some ((D.M.mk (List.set a.E c k) a.u a.FP a.Fg),0)))))
def QjU:o 124 (s [K,d,t6] [K,d] (WL u)):=f u g (e (QeX u) (e (Qrx u) (e (Qja u) t))) func124
def ZM(b:D.site)(a:D.Op):I (Int×D.site):=O (Qax u (D.Op.mk b.g.FN a.Z a.Region a.Fence a.At a.Page a.K a.W a.e a.a a.t)) fun e=>C (!e) (some (8,b)) (cd (b.g.FN=1099511627776) (some (5,b)) (O (WL u b.g.M b.region (D.Op.mk b.g.FN a.Z a.Region a.Fence a.At a.Page a.K a.W a.e a.a a.t)) fun(f,c)=>cd (c≠0) (some (c,b)) (some (0,(D.site.mk (D.g.mk b.g.FR f (J (b.g.FN+1))) b.region (J (b.count+1)))))))
def Qa5:o 75 (Qn [.one (.TM 1),t6] [w 1 .site] [d] [w 1 .site] [] (Int×D.site) kz15 (fun x y=>ZM u y.1 x.1)):=i u g kz17 (e (Qdc u) (e (QjU u) t)) func75
def QiL(a:D.g)(e:Int)(f:D.Op):I (D.g×Int×Int):=O (Xs u a) fun g=>C (!g) (some (z0,0,8)) (O (Qcd u a e) fun h=>O (ZM u h f) fun(b,c)=>cd (b≠0) (some (z0,0,b)) (some (c.g,(J (c.g.FN - 1)),0)))
def QkC:o 21 (s [t8,d,t6] [t8,d,d] (QiL u)):=f u g (e (Ve u) (e (Qhk u) (e (Qa5 u) t))) func21
def Qkh(a:D.g):I D.G:=O (Xs u a) fun b=>C (!b) (some z2) (O (Qey u a.M) fun c=>O (YX u a.FR c) fun(e,f)=>some e)
def Qmh:o 33 (s [t8] [H] (Qkh u)):=f u g (e (Ve u) (e (QeW u) (e (UQ u) t))) func33
def Qdr:I AH:=O (QfC u []) fun m=>O (VS u m) fun(n,s)=>O (QfC u []) fun o=>O (VR u o) fun(p,t)=>O (Qmz u n p) fun(q,v)=>O (Qn1 u q 3) fun(c,r)=>O (Uu u c.M 0) fun(e,f)=>O (QiL u (D.g.mk c.FR e c.FN) 0 (D.Op.mk 0 1 0 0 864000 1 0 0 0 (D.a.mk 0 0 0 0 0 0) (D.t.mk 0 0 0 0 0))) fun(a,g,h)=>O (V7 u a.M 0) fun(i,j)=>O (Xv u i) fun b=>cd (r=0) (cd (f=0) (cd (h=0) (cd (j=0) (O (QfI u (D.g.mk a.FR b a.FN) g) fun k=>C k (O (Qkh u (D.g.mk a.FR b a.FN)) fun l=>cd ((l.H.length:Int)=1) sT sF) sF) sF) sF) sF) sF
def QoY:o 11 (s [] [h] (Qdr u)):=f u g (e (Qke u) (e (QiK u) (e (Qn6 u) (e (Qdt u) (e (Qds u) (e (Qpg u) (e (Qex u) (e (QkC u) (e (Qck u) (e (QcX u) (e (Qmh u) t))))))))))) func11
def Qeo(e:Y Int)(f:Int):I AH:=Qe (fun g ((a,c,b,_),_)=>cd (b<(a.length:Int)) (TN a b fun h=>cd (h=c) sT (g ((a,c,(J (b+1)),()),()))) sF) u ((e,f,0,()),())
def QgI:o 36 (s [lI,d] [h] (Qeo u)):=f u (c g (m [.s 0 lI,.n 1,.n 5] g)) t func36
def Qmx(f:D.b)(b:Int)(g:Int)(c:Int):I (D.Page×Int):=TG (fun((h,e,a,_),i,n,_)=>O (QJ u e 0 (J ((i.k.length:Int) - 1))) fun j=>C (!j) (some (z1,3)) (some ((D.Page.mk h e a 0 a 0 (-1) 0 a 0 0 [] [] []),0))) fun k=>O (QJ u b 1 999999) fun l=>C l (O (QJ u c 0 8589934592) fun m=>C m (k ((b,g,c,()),f,z1,())) (some (z1,1))) (some (z1,1))
def Qn5:o 150 (s [L,d,d,d] [E,d] (Qmx u)):=f u (c g (c (j [.n 1,.n 2,.n 3,.r 4 .b,.r 8 .Page] g) g)) (e (ZF u) t) func150
def QfU(c:D.W):I AH:=Qe (fun e ((a,_),b,_)=>cd (a<(b.Steps.length:Int)) (TN b.Steps a fun f=>O (QJ u f.Fs 0 86400) fun g=>C (!g) sF (e (((J (a+1)),()),b,()))) sT) u ((0,()),c,())
def Qro:o 151 (s [t15] [h] (QfU u)):=f u (c g (m [.r 1 .W,.n 3] g)) (e (ZF u) t) func151
def QdD(a:D.W):I Int:=TG (fun(_,b,_)=>some (J ((b.Steps.length:Int)*(J (b.Fh+1))))) fun c=>O (QJ u a.Fh 0 8) fun e=>C e (cd (8<(a.Steps.length:Int)) (some 0) (c ((),a,()))) (some 0)
def Qkm:o 152 (s [t15] [d] (QdD u)):=f u (c g (c (j [.r 1 .W] g) g)) (e (ZF u) t) func152
def QgM(j:D.Page):I AH:=Qe (fun o ((i,p,e,_),c,_)=>cd (e<(c.P.length:Int)) (TG (fun((q,r,s,_),t,_)=>o ((q,r,(J (s+1)),()),t,())) fun k=>TN c.P e fun a=>TG (fun((l,f,_),g,b,_)=>cd (0<=b.K) (k ((b.K,b.At,f,()),g,())) (k ((l,b.At,f,()),g,()))) fun h=>cd (a.At<p) sF (cd (a.K<(-1)) sF (cd (0<=a.K) (cd (a.K<=i) sF (cd (c.E7<=a.K) sF (O (Qep u a.l 32) fun m=>C m (h ((i,e,()),c,a,())) sF))) (O (Qep u a.l 32) fun n=>C n (h ((i,e,()),c,a,())) sF)))) (some (decide ((c.P.length:Int)<=200)))) u (((-1),j.T,0,()),j,())
def QpB:o 153 (s [E] [h] (QgM u)):=f u (n 2 (m [.r 1 .Page,.n 3,.n 4,.n 5] (c g (c (j [.r 1 .Page,.n 3,.n 4,.n 5] (.one (c g (c (j [.r 1 .Page,.n 3,.n 5,.r 6 .T] g) g)))) g)))) (e (QjT u) t) func153
def U1(g:D.b)(a:D.Page):I AH:=TG (fun(_,b,_)=>TG (fun(_,c,_)=>TG (fun(_,B,_)=>Qe (fun zH ((f,_),e,_)=>cd (f<(e.h.length:Int)) (TK f fun h=>TO h e.h.length (TN e.h f fun E=>O (Qeo u (List.take h e.h) E) fun F=>C F sF (zH (((J (f+1)),()),e,())))) sT) u ((0,()),B,())) fun G=>O (QJ u c.E6 0 4) fun i=>C i (O (QJ u c.FI 0 4) fun j=>C j (O (QgM u c) fun k=>C k (O (Qep u c.i 32) fun l=>C l (cd (64<(c.h.length:Int)) sF (G ((),c,()))) sF) sF) sF) sF) fun m=>O (QJ u b.p 0 4) fun n=>C n (O (QJ u b.By (-1) 31) fun o=>C o (O (QJ u b.FM b.T 17179869184) fun p=>C p (O (QJ u b.FJ 0 17179869184) fun q=>C q (O (QJ u b.FK 0 17179869184) fun r=>C r (m ((),b,())) sF) sF) sF) sF) sF) fun s=>O (Qmx u g a.S a.W a.T) fun(H,t)=>cd (t≠0) sF (TN g.k a.W fun v=>O (QfU u v) fun w=>C w (TN g.k a.W fun y=>O (QdD u y) fun z=>O (QJ u a.E7 0 z) fun A=>C A (s ((),a,())) sF) sF)
def QcV:o 92 (s [L,E] [h] (U1 u)):=f u (c g (c (j [.r 3 .Page] g) (c (j [.r 3 .Page] g) (c (j [.r 3 .Page] g) (m [.r 3 .Page,.n 7] g))))) (e (QgI u) (e (ZF u) (e (Qn5 u) (e (Qro u) (e (Qkm u) (e (QpB u) (e (QjT u) t))))))) func92
def QdH(l:D.Page)(m:Int)(n:Int):I (Y D.Call):=Qe (fun o ((p,g,_),h,j,_)=>cd (g<(h.P.length:Int)) (TN h.P g fun q=>Qe (fun r ((e,k,i,_),b,a,c,_)=>cd (i<(a.l.length:Int)) (TN a.l i fun f=>TO (c.length+[(D.Call.mk b.S a.K a.At f e)].length) 34359738368 (r ((e,k,(J (i+1)),()),b,a,(c++[(D.Call.mk b.S a.K a.At f e)]),()))) (o ((e,(J (k+1)),()),b,c,()))) u ((p,g,0,()),h,q,j,())) (some j)) u ((n,m,()),l,[],())
def QfY:o 94 (s [E,d,d] [l .Call] (QdH u)):=f u (n 2 (m [.n 2,.r 3 .Page,.o 7 1046 .Call,.n 8] (c g (c (.one (n 2 (.one (.loop [G 2,r 3,(7,.one (.own 1046)),G 8,r 9,G 10] [w 1003 .Page,w 1009 .T,p 1046 .Call] g)))) g)))) t func94
def QgP(y:D.G)(m:D.Page):I AH:=O (QdH u m 0 0) fun z=>Qe (fun A ((f,g,n,h,_),e,l,_)=>cd (h<(e.Calls.length:Int)) (TG (fun((B,zH,o,p,_),q,r,_)=>A ((B,zH,o,(J (p+1)),()),q,r,())) fun i=>TN e.Calls h fun c=>cd (c.Page≠l.S) (i ((f,g,n,h,()),e,l,())) (TG (fun((j,k,s,_),t,v,a,_)=>TN j k fun b=>cd ([a.Page,a.K,a.At,a.R,0]≠[b.Page,b.K,b.At,b.R,b.Fence]) sF (i ((j,(J (k+1)),a.Fence,s,()),t,v,()))) fun w=>cd ((f.length:Int)<=g) sF (cd (c.Fence<n) sF (cd (e.Fence<c.Fence) sF (w ((f,g,h,()),e,l,c,())))))) (some (decide (g=(f.length:Int))))) u ((z,0,0,0,()),y,m,())
def QsN:o 93 (s [H,E] [h] (QgP u)):=f u (n 3 (m [.r 2 .G,.r 3 .Page,.l 5 .Call,.n 6,.n 7,.n 8] (c g (c (j [.r 2 .G,.r 3 .Page,.l 5 .Call,.n 6,.n 7,.n 8] (.one (n 2 (c (j [.r 2 .G,.r 3 .Page,.l 5 .Call,.n 6,.n 8,.r 9 .Call] g) g)))) g)))) (e (QfY u) t) func93
def Vl(e:D.G):I AH:=TG (fun(_,zE,_)=>Qe (fun zG ((k,g,_),a,_)=>cd (g<(a.H.length:Int)) (TN a.H g fun c=>TG (fun((L,zC,_),zI,W,_)=>O (QdH u W 0 0) fun l=>zG (((J (L+(l.length:Int))),(J (zC+1)),()),zI,())) fun h=>cd (0<g) (TN a.H (J (g - 1)) fun m=>cd (c.S<=m.S) sF (O (U1 u a.b c) fun n=>C n (cd (a.E9<c.FM) sF (O (QgP u a c) fun o=>C o (h ((k,g,()),a,c,())) sF)) sF)) (O (U1 u a.b c) fun p=>C p (cd (a.E9<c.FM) sF (O (QgP u a c) fun q=>C q (h ((k,g,()),a,c,())) sF)) sF)) (Qe (fun r ((i,f,_),b,_)=>cd (f<(b.h.length:Int)) (TG (fun((s,t,_),v,_)=>r ((s,(J (t+1)),()),v,())) fun w=>TN b.h f fun y=>O (QJ u y 1 1099511627776) fun z=>C z (TK f fun j=>TO j b.h.length (TN b.h f fun A=>O (Qeo u (List.take j b.h) A) fun B=>C B sF (w ((i,f,()),b,())))) sF) (some (decide (i=(b.Calls.length:Int))))) u ((k,0,()),a,()))) u ((0,0,()),zE,())) fun zH=>O (QfT u e.F e.b) fun E=>cd (E≠0) sF (O (QJ u e.E9 0 8589934592) fun F=>C F (cd (64<(e.H.length:Int)) sF (O (QJ u e.E5 (-1) 4) fun G=>C G (O (QJ u e.Fence 0 1048576) fun H=>C H (cd (256<(e.h.length:Int)) sF (zH ((),e,()))) sF) sF)) sF)
def Us:o 42 (s [H] [h] (Vl u)):=f u (c g (c (j [.r 1 .G] g) (c g (c (c g (.one (k [.r 1 .G,.n 3,.n 4] (c g (c (.one (c g (c (j [.r 1 .G,.n 3,.n 4,.r 5 .Page] g) g))) g))))) (m [.r 1 .G,.n 3,.n 6] (c g (c (j [.r 1 .G,.n 3,.n 6] g) g))))))) (e (QgI u) (e (ZF u) (e (Qkl u) (e (QcV u) (e (QsN u) (e (QfY u) t)))))) func42
def QbM(f:D.Page):I D.Page:=Qe (fun g ((b,_),a,h,c,_)=>cd (b<(a.P.length:Int)) (TN a.P b fun e=>TO e.l.length 34359738368 (TO (c.length+[e].length) 34359738368 (g (((J (b+1)),()),a,h,(c++[e]),())))) (TO a.i.length 34359738368 (TO a.h.length 34359738368 (some (D.Page.mk a.S a.W a.T a.E7 a.FJ a.p a.By a.FK a.FM a.E6 a.FI c a.i a.h))))) u ((0,()),f,z1,[],())
def QaE:o 83 (Qn [E] [] [.agg [v,v,v,v,v,v,v,v,v,v,v,.own 1025,.own 1030,.own 1033]] [p 1025 .T,p 1030 .int,p 1033 .int] [] D.Page kz12 (fun x y=>QbM u x.1)):=i u (n 2 (m [.r 1 .Page,.r 2 .Page,.o 3 1025 .T,.n 4] g)) (fun a b=>D.Page.mk a.1.1 a.1.2.1 a.1.2.2.1 a.1.2.2.2.1 a.1.2.2.2.2.1 a.1.2.2.2.2.2.1 a.1.2.2.2.2.2.2.1 a.1.2.2.2.2.2.2.2.1 a.1.2.2.2.2.2.2.2.2.1 a.1.2.2.2.2.2.2.2.2.2.1 a.1.2.2.2.2.2.2.2.2.2.2.1 b.1 b.2.1 b.2.2.1) t func83
def QbN(f:D.G):I D.G:=Qe (fun g ((b,_),a,h,c,_)=>cd (b<(a.H.length:Int)) (TN a.H b fun i=>O (QbM u i) fun e=>TO (c.length+[e].length) 34359738368 (g (((J (b+1)),()),a,h,(c++[e]),()))) (TO a.h.length 34359738368 (TO a.Calls.length 34359738368 (some (D.G.mk a.E9 a.F a.b c a.E5 a.Fence a.h a.Calls))))) u ((0,()),f,z2,[],())
def Qcj:o 43 (Qn [H] [] [.agg [v,.TQ .r,.TQ .R,.TQ .n,.TQ .e,.TQ .FU,.TQ .W,.own 1020,v,v,.own 1025,.own 1028]] [p 1020 .Page,p 1025 .int,p 1028 .Call] [] D.G kz5 (fun x y=>QbN u x.1)):=i u (n 2 (m [.r 1 .G,.r 2 .G,.o 3 1020 .Page,.n 4] g)) (fun a b=>D.G.mk a.1.1 (D.F.mk a.1.2.1 a.1.2.2.1 a.1.2.2.2.1 a.1.2.2.2.2.1) (D.b.mk a.1.2.2.2.2.2.1 a.1.2.2.2.2.2.2.1) b.1 a.1.2.2.2.2.2.2.2.1 a.1.2.2.2.2.2.2.2.2.1 b.2.1 b.2.2.1) (e (QaE u) t) func43
def Qxu(a:Int)(b:Int):I (D.N×Int):=TG (fun((c,_),h,_)=>some ((D.N.mk c 0 (-1) 0 [] 0 [] []),0)) fun e=>O (X4 u b) fun f=>cd (f=0) (some (z4,1)) (O (QJ u a 0 (J (b - 1))) fun g=>C g (e ((a,()),z4,())) (some (z4,1)))
def QuX:o 163 (s [d,d] [zG,d] (Qxu u)):=f u (c g (c (j [.n 0,.r 4 .N] g) g)) (e (Xu u) (e (ZF u) t)) func163
def QsP(b:Int):I (D.M×Int):=O (X4 u b) fun k=>cd (k=0) (some (z5,1)) (TK b fun g=>TO g 1048576 (Qe (fun l ((c,e,_),m,(h,i,_),f,j,_)=>cd (e<c) (O (Qxu u e c) fun(a,n)=>TO (f.length+[a].length) 34359738368 (l ((c,(J (e+1)),()),m,(h,i,()),(f++[a]),j,()))) (some ((D.M.mk f h j i),0))) u ((b,0,()),z5,([],[],()),[],(List.replicate g false),())))
def QuZ:o 106 (s [d] [K,d] (QsP u)):=f u (n 3 (m [.n 0,.r 2 .M,.s 4 (.one (.TM 1004)),.n 5] g [(1004,.box [.own 1030,.TQ .c,.own 1013,.TQ .FD]),p 1030 .N,p 1013 .bool])) (e (Xu u) (e (QuX u) t)) func106
def QpI(s:D.G)(B:Int):I (D.g×Int):=O (Vl u s) fun zH=>C (!zH) (some (z0,8)) (O (QsP u B) fun(b,w)=>cd (w≠0) (some (z0,w)) (O (QbN u s) fun a=>Qe (fun E ((t,_),v,F,(y,z,c,e,f,g,h,i,j,k,l,m,n,o,_),p,q,r,_)=>cd (t<(v.h.length:Int)) (TN v.h t fun A=>E (((J (t+1)),()),v,F,(y,z,c,e,f,g,h,i,j,k,l,m,n,(max o (J (A+1))),()),p,q,r,())) (some ((D.g.mk (D.G.mk y (D.F.mk z c e f) (D.b.mk g h) p i j q r) (D.M.mk k l m n) o),0))) u ((0,()),s,z0,(a.E9,a.F.FG,a.F.l,a.F.o,a.F.f,a.b.v,a.b.k,a.E5,a.Fence,b.E,b.u,b.FP,b.Fg,1,()),a.H,a.h,a.Calls,())))
def Qu0:o 56 (s [H,d] [t8,d] (QpI u)):=f u (n 5 (m [.r 2 .G,.r 4 .g,.s 8 (.one (.TM 1008)),.n 9] g [(1008,.box [v,.TQ .r,.TQ .R,.TQ .n,.TQ .e,.TQ .FU,.TQ .W,.own 1025020,v,v,.own 1025025,.own 1025028,.TQ .N,.TQ .c,.TQ .bool,.TQ .FD,v]),p 1025020 .Page,p 1025025 .int,p 1025028 .Call])) (e (Us u) (e (Qcj u) (e (QuZ u) t))) func56
def QfV(b:D.a):I AH:=TG (fun(_,a,_)=>TG (fun((f,i,_),c,_)=>C i (some (decide (c.Fo=0))) (cd (f=3) (O (QJ u c.Fo 1 86400) fun j=>some j) (cd (f=4) (O (QJ u c.Fo 0 31) fun k=>some k) sF))) fun e=>cd (a.Z=1) (e ((a.Z,(decide (a.Z=1)),()),a,())) (cd (a.Z=2) (e ((a.Z,(decide (a.Z=2)),()),a,())) (e ((a.Z,(decide (a.Z=5)),()),a,())))) fun l=>O (QJ u b.S 1 999999) fun m=>C m (O (QJ u b.Page 1 999999) fun n=>C n (O (QJ u b.R (-1) 31) fun g=>C g (O (QJ u b.At 0 8589934592) fun h=>C h (l ((),b,())) sF) sF) sF) sF
def Qkn:o 139 (s [t12] [h] (QfV u)):=f u (c g (c (j [.r 1 .a] g) (c (c g (.one (c (j [.r 1 .a,.n 26,.s 27 h] g) g))) g))) (e (ZF u) t) func139
def QdG(a:D.Op):I AH:=O (QJ u a.S 1 1099511627776) fun b=>C b (O (QJ u a.Z 1 5) fun c=>C c (O (QJ u a.Region 0 4) fun e=>C e (O (QJ u a.Fence 0 1048576) fun f=>C f (O (QJ u a.At 0 8589934592) fun g=>C g (O (QJ u a.Page 0 999999) fun h=>C h (O (QJ u a.K (-1) 1000) fun i=>C i (cd (a.Z≠4) sT (O (QfV u a.a) fun j=>C j sT sF)) sF) sF) sF) sF) sF) sF) sF
def QfX:o 81 (s [t6] [h] (QdG u)):=f u g (e (ZF u) (e (Qkn u) t)) func81
def Qco(a:D.g):I AH:=TG (fun(_,v,_)=>Qe (fun w ((e,_),f,_)=>cd (e<(f.M.E.length:Int)) (TN f.M.E e fun y=>Qe (fun z ((h,b,c,_),g,_)=>cd (c<(b.length:Int)) (TG (fun((i,j,k,_),l,_)=>z ((i,j,(J (k+1)),()),l,())) fun m=>TN b c fun n=>O (QdG u n.Op) fun o=>C o (TN b c fun p=>cd (g.FN<=p.Op.S) sF (m ((h,b,c,()),g,()))) sF) (w (((J (h+1)),()),g,()))) u ((e,y.j,0,()),f,())) sT) u ((0,()),v,())) fun q=>O (Vl u a.FR) fun r=>C r (O (Qa6 u a.M) fun s=>C s (O (QJ u a.FN 1 1099511627776) fun t=>C t (q ((),a,())) sF) sF) sF
def Qf2:o 31 (s [t8] [h] (Qco u)):=f u (c g (c (j [.r 1 .g] g) (m [.r 1 .g,.n 3] (c g (c (.one (n 2 (.one (k [.r 1 .g,.n 3,.l 4 .m,.n 5] (c g (c (j [.r 1 .g,.n 3,.l 4 .m,.n 5] g) g)))))) g))))) (e (Us u) (e (ZF u) (e (QfX u) (e (Qa7 u) t)))) func31
def QbP(k:D.N):I (Y D.Op):=TG (fun(_,l,_)=>some l) fun e=>Qe (fun m ((a,_),b,c,_)=>TG (fun((f,_),g,h,_)=>TN g.j f fun i=>TO (h.length+[i.Op].length) 34359738368 (m (((J (f+1)),()),g,(h++[i.Op]),()))) fun j=>cd (a<b.d) (cd (a<(b.j.length:Int)) (j ((a,()),b,c,())) (e ((),c,()))) (e ((),c,()))) u ((0,()),k,[],())
def QkH:o 38 (s [zG] [l .Op] (QbP u)):=f u (n 2 (c (j [.o 3 1026 .Op] (c g (.one (k [.r 1 .N,.o 3 1026 .Op,.n 4] (c (j [.r 1 .N,.o 3 1026 .Op,.n 4] g) g))))) g)) t func38
def QgN(e:D.G)(f:Int):I (D.Page×AH):=Qe (fun g ((c,a,_),b,h,_)=>cd (a<(b.H.length:Int)) (TN b.H a fun i=>cd (i.S=c) (TN b.H a fun j=>O (QbM u j) fun k=>some (k,true)) (g ((c,(J (a+1)),()),b,h,()))) (some (z1,false))) u ((f,0,()),e,z1,())
def Qmy:o 30 (s [H,d] [E,h] (QgN u)):=f u (c g (m [.n 1,.r 2 .G,.r 4 .Page,.n 6] g)) (e (QaE u) t) func30
def Qh0(u:Nat)(a:D.Page):I (Int×AH):=cd (a.p=0) (some (a.FJ,true)) (cd (a.p=2) (some (a.FK,true)) (some (0,false)))
def QdF:o 108 (s [E] [d,h] (Qh0 u)):=f u g t func108
def QiW(c:D.W)(b:Int):I (Int×Int×AH):=TG (fun((e,_),a,_)=>nzc (a.Steps.length:Int) (nzc (a.Steps.length:Int) (some ((Int.tmod e (a.Steps.length:Int)),(J (Int.tdiv e (a.Steps.length:Int))),true)))) fun f=>cd (b<0) (some (0,0,false)) (O (QdD u c) fun g=>cd (g<=b) (some (0,0,false)) (f ((b,()),c,())))
def QsJ:o 338 (s [t15,d] [d,d,h] (QiW u)):=f u (c g (c (j [.n 1,.r 2 .W] g) g)) (e (Qkm u) t) func338
def V6(t:Y Int)(v:Int):I (Y Int):=Qe (fun w ((f,a,k,g,_),b,_)=>cd (g<(f.length:Int)) (TG (fun((y,z,A,B,_),p,_)=>w ((y,z,A,(J (B+1)),()),p,())) fun l=>TG (fun((c,h,m,e,_),i,_)=>TN c e fun q=>cd (q≠h) (TN c e fun n=>TO (i.length+[n].length) 34359738368 (l ((c,h,m,e,()),(i++[n]),()))) (l ((c,h,m,e,()),i,()))) fun j=>C k (j ((f,a,k,g,()),b,())) (TN f g fun r=>cd (a<=r) (TO (b.length+[a].length) 34359738368 (j ((f,a,true,g,()),(b++[a]),()))) (j ((f,a,k,g,()),b,())))) (TG (fun(_,s,_)=>some s) fun o=>C (!k) (TO (b.length+[a].length) 34359738368 (o ((),(b++[a]),()))) (o ((),b,())))) u ((t,v,false,0,()),[],())
def Qmw:o 304 (s [lI,d] [lI] (V6 u)):=f u (n 3 (c (c g (.one (k [.s 0 lI,.n 1,.o 5 1027 .int,.s 6 h,.n 7] (c g (c (j [.s 0 lI,.n 1,.o 5 1027 .int,.s 6 h,.n 7] (.one (c (j [.s 0 lI,.n 1,.o 5 1027 .int,.s 6 h,.n 7] g) g))) g))))) (c (j [.o 5 1027 .int] g) g))) t func304
def Qxs(a:D.F)(b:Int)(c:Int):I AH:=cd (0<=b) (cd (b<(a.f.length:Int)) (cd (0<=c) (cd (c<=8589934592) (O (UZ u a) fun e=>cd (e=0) sT sF) sF) sF) sF) sF
def Qxt:o 400 (s [tO,d,d] [h] (Qxs u)):=f u g (e (QcT u) t) func400
def QgD(l:D.r)(m:Y D.FB)(n:Int):I Int:=TG (fun((o,_),_)=>some o) fun c=>Qe (fun p ((a,e,f,b,_),_)=>TG (fun((g,q,h,_),_)=>TN g h fun i=>p ((g,q,i.Fa,(J (h+1)),()),())) fun j=>cd (b<(a.length:Int)) (TN a b fun k=>cd (k.At<=e) (j ((a,e,b,()),())) (c ((f,()),()))) (c ((f,()),()))) u ((m,n,l.Fa,0,()),())
def Qpn:o 438 (s [t7,l .FB,d] [d] (QgD u)):=f u (n 2 (c (j [.n 7] (c g (.one (k [.l 1 .FB,.n 2,.n 7,.n 8] (c (j [.l 1 .FB,.n 2,.n 8] g) g))))) g)) t func438
def QcS(a:D.r)(b:Int):I (Int×Int):=O (Vk u a) fun(c,e)=>cd (e≠0) (some (0,8)) (O (Qkk u b 0 8589934592) fun f=>C (!f) (some (0,1)) (O (QgD u a c b) fun g=>some (g,0)))
def Qmq:o 426 (s [t7,d] [d,d] (QcS u)):=f u g (e (UY u) (e (QiO u) (e (Qpn u) t))) func426
def Qmr(u:Nat)(a:Int)(b:Int):I D.Fd:=nzc 86400 (nzc 86400 (some (D.Fd.mk (J ((J (Int.tdiv (J ((J (a+b))+864000)) 86400)) - 10)) (Int.tmod (J ((J (a+b))+864000)) 86400))))
def Qrc:o 427 (s [d,d] [t11] (Qmr u)):=f u g t func427
def QaD(c:D.r)(a:Int):I (D.Fd×Int):=O (QcS u c a) fun(e,b)=>cd (b≠0) (some (z13,b)) (O (Qmr u a e) fun f=>some (f,0))
def Qdg:o 402 (s [t7,d] [t11,d] (QaD u)):=f u g (e (Qmq u) (e (Qrc u) t)) func402
def QgF(a:D.Fd):I Int:=O (QhX u a.Fj) fun b=>some (J ((J (b*86400))+a.Fb))
def Qpq:o 403 (s [t11] [d] (QgF u)):=f u g (e (Qnn u) t) func403
def QjS(b:D.r)(c:Int):I (Int×Int):=O (QaD u b c) fun(e,a)=>cd (a≠0) (some (0,a)) (O (QgF u e) fun f=>some (f,0))
def Qpo:o 373 (s [t7,d] [d,d] (QjS u)):=f u g (e (Qdg u) (e (Qpq u) t)) func373
def QgE(f:Y D.FE)(g:Int):I AH:=Qe (fun h ((a,c,b,_),_)=>cd (b<(a.length:Int)) (TG (fun((i,j,k,_),_)=>h ((i,j,(J (k+1)),()),())) fun e=>TN a b fun l=>cd (l.w<=c) (TN a b fun m=>cd (c<m.To) sT (e ((a,c,b,()),()))) (e ((a,c,b,()),()))) sF) u ((f,g,0,()),())
def Qpp:o 374 (s [l .FE,d] [h] (QgE u)):=f u (c g (m [.l 0 .FE,.n 1,.n 5] (c g (c (j [.l 0 .FE,.n 1,.n 5] g) g)))) t func374
def Qn4(b:D.r)(a:Y D.FE)(c:Int):I AH:=O (QjS u b c) fun(e,f)=>cd (f=0) (O (Qci u a) fun g=>cd (g=0) (O (QgE u a e) fun h=>C h sT sF) sF) sF
def Qre:o 360 (s [t7,l .FE,d] [h] (Qn4 u)):=f u g (e (QfP u) (e (Qpo u) (e (Qpp u) t))) func360
def QiS(b:D.r)(a:D.x):I Int:=TG (fun(_,_)=>some 0) fun c=>O (QdA u b) fun e=>cd (e≠0) (some 8) (cd (a.T.Fj<1) (some 8) (cd (100000<a.T.Fj) (some 8) (cd (a.T.Fb<0) (some 8) (cd (86400<=a.T.Fb) (some 8) (cd (a.Unit<0) (some 8) (cd (2<a.Unit) (some 8) (cd (a.FH<1) (some 8) (cd (400<a.FH) (some 8) (cd ((a.s.length:Int)=0) (some 8) (c ((),())))))))))))
def Qrj:o 454 (s [t7,t9] [d] (QiS u)):=f u (c g (c (j [] g) g)) (e (Qki u) t) func454
def QiQ(a:Int):I AH:=O (Qkk u a (-2) 99422) fun b=>some b
def Qrd:o 466 (s [d] [h] (QiQ u)):=f u g (e (QiO u) t) func466
def QdB(q:D.r)(f:D.Fd):I (Int×Int):=O (Vk u q) fun(zH,E)=>cd (E≠0) (some (0,8)) (O (Qkk u f.Fb 0 86399) fun F=>C (!F) (some (0,1)) (cd (f.Fj<(-2)) (some (0,0)) (O (QiQ u f.Fj) fun G=>C (!G) (some (0,10)) (Qe (fun H ((e,c,_),p,r,_)=>cd (c<(e.length:Int)) (TG (fun((g,b,h,i,s,_),j,k,_)=>TG (fun((t,v,l,m,w,_),y,a,_)=>cd ((max m (J ((J ((J (a.Fj*86400))+a.Fb)) - l)))<w) (some ((max m (J ((J ((J (a.Fj*86400))+a.Fb)) - l))),0)) (H ((t,(J (v+1)),()),y,a,()))) fun n=>cd ((J (b+1))<(g.length:Int)) (TN g (J (b+1)) fun z=>n ((g,b,h,i,z.At,()),j,k,())) (n ((g,b,h,i,s,()),j,k,()))) fun o=>cd (0<=c) (TN e c fun A=>TN e c fun B=>o ((e,c,A.Fa,B.At,8589934593,()),p,r,())) (o ((e,c,p.Fa,0,8589934593,()),p,r,()))) (some (0,10))) u ((zH,(-1),()),q,f,())))))
def Qkj:o 460 (s [t7,t11] [d,d] (QdB u)):=f u (n 6 (m [.r 2 .r,.r 3 .Fd,.l 6 .FB,.n 8] (c g (c (.one (c g (c (j [.r 2 .r,.r 3 .Fd,.l 6 .FB,.n 8,.n 9,.n 10,.n 11] g) (c (j [.r 2 .r,.r 3 .Fd,.l 6 .FB,.n 8,.n 9,.n 10,.n 11] g) g)))) g)))) (e (UY u) (e (QiO u) (e (Qrd u) t))) func460
def QcU(e:D.r)(a:D.x)(b:Int):I (Int×AH):=cd (a.Unit=0) (O (QdB u e a.T) fun(c,h)=>cd (h=0) (cd ((J (c+(J ((J (b*a.FH))*3600))))<=8589934592) (some ((J (c+(J ((J (b*a.FH))*3600)))),true)) (some ((J (c+(J ((J (b*a.FH))*3600)))),false))) (some ((J (c+(J ((J (b*a.FH))*3600)))),false))) (TG (fun((i,_),j,f,_)=>O (QdB u j (D.Fd.mk (J (f.T.Fj+i)) f.T.Fb)) fun(k,l)=>some (k,(decide (l=0)))) fun g=>cd (a.Unit=2) (g (((J ((J (b*a.FH))*7)),()),e,a,())) (g (((J (b*a.FH)),()),e,a,())))
def Qmt:o 461 (s [t7,t9,d] [d,h] (QcU u)):=f u (n 3 (c (j [.r 3 .r,.r 4 .x,.n 11] g) g)) (e (Qkj u) t) func461
def QiT(h:D.r)(b:D.x)(c:Int):I Int:=cd (b.Unit=0) (TG (fun((B,_),_)=>some B) fun l=>O (QdB u h b.T) fun(m,zH)=>cd (zH=0) (cd (m<=c) (nzc (J (3600*b.FH)) (l (((J (Int.tdiv (J (c - m)) (J (3600*b.FH)))),()),()))) (l (((-1),()),()))) (l (((-1),()),()))) (O (QaD u h c) fun(n,G)=>TG (fun((E,o,_),F,p,q,_)=>TG (fun((r,_),_)=>some r) fun i=>nzc o (Qe (fun s ((e,a,_),f,g,_)=>cd (0<=a) (TG (fun((t,v,_),w,y,_)=>s ((t,(J (v - 1)),()),w,y,())) fun j=>O (QcU u f g a) fun(z,A)=>C A (cd (z<=e) (i ((a,()),())) (j ((e,a,()),f,g,()))) (j ((e,a,()),f,g,()))) (i ((a,()),()))) u ((E,(J (Int.tdiv (max (J ((J (q.Fj+2)) - p.T.Fj)) 0) o)),()),F,p,()))) fun k=>cd (b.Unit=2) (k ((c,(J (b.FH*7)),()),h,b,n,())) (k ((c,b.FH,()),h,b,n,())))
def Qrl:o 455 (s [t7,t9,d] [d] (QiT u)):=f u (n 2 (c (c g (c (c (j [.n 7] g) g) g)) (n 2 (c (j [.n 2,.r 3 .r,.r 4 .x,.r 10 .Fd,.n 12] g) (c (j [.n 7] (c g (.one (k [.n 2,.r 3 .r,.r 4 .x,.n 7] (c g (c (j [.n 2,.r 3 .r,.r 4 .x,.n 7] g) g)))))) g))))) (e (Qdg u) (e (Qkj u) (e (Qmt u) t))) func455
def QfS(b:D.r)(c:D.x)(a:Int):I (Int×Int):=O (QiS u b c) fun e=>cd (e≠0) (some (0,8)) (TG (fun((f,_),g,h,_)=>O (QiT u g h f) fun i=>some (i,0)) fun j=>cd (a<0) (some (0,1)) (cd (8589934592<a) (some (0,1)) (j ((a,()),b,c,()))))
def Qrk:o 450 (s [t7,t9,d] [d,d] (QfS u)):=f u (n 2 (c (j [.n 2,.r 3 .r,.r 4 .x] g) g)) (e (Qrj u) (e (Qrl u) t)) func450
def Qk1(l:D.F)(g:D.x)(i:Int):I (Int×AH):=TN l.FG g.r fun o=>O (QfS u o g i) fun(m,E)=>TG (fun((F,p,_),q,n,_)=>cd (n.Fx=0) (some (p,true)) (TN q.o n.n fun r=>TN q.FG r.r fun G=>O (QaD u G F) fun(H,zE)=>Qe (fun s ((c,j,a,_),e,b,f,_)=>cd (a<(b.Fy.length:Int)) (TG (fun((t,v,w,_),y,z,A,_)=>s ((t,v,(J (w+1)),()),y,z,A,())) fun h=>C j (h ((c,true,a,()),e,b,f,())) (TN b.Fy a fun B=>cd (B=f.Fj) (h ((c,true,a,()),e,b,f,())) (h ((c,false,a,()),e,b,f,())))) (some (c,(decide (j=(decide (e.Fx=2))))))) u ((p,false,0,()),n,r,H,()))) fun k=>cd (E≠0) (some (0,false)) (cd (m<0) (some (0,false)) (cd (0<(g.Fi.length:Int)) (O (Qn4 u o g.Fi i) fun zH=>C zH (k ((i,m,()),l,g,())) (some (0,false))) (k ((i,m,()),l,g,()))))
def QsE:o 444 (s [tO,t9,d] [d,h] (Qk1 u)):=f u (n 3 (c (j [.n 2,.r 3 .F,.r 4 .x,.n 9] g) (n 4 (m [.r 4 .x,.n 9,.r 11 .n,.r 12 .Fd,.s 14 h,.n 15] (c g (c (j [.r 4 .x,.n 9,.r 11 .n,.r 12 .Fd,.s 14 h,.n 15] g) g)))))) (e (Qre u) (e (Qdg u) (e (Qrk u) t))) func444
def Qmu(b:D.F)(a:D.x)(c:Int):I Int:=O (Qk1 u b a c) fun(e,f)=>C (!f) (some (-1)) (nzc (a.s.length:Int) (TN a.s (Int.tmod e (a.s.length:Int)) fun g=>some g))
def QuR:o 436 (s [tO,t9,d] [d] (Qmu u)):=f u g (e (QsE u) t) func436
def Qk2(h:D.e)(i:Int)(j:Int):I AH:=Qe (fun k ((f,b,c,_),e,_)=>cd (c<(e.FS.length:Int)) (TG (fun((l,m,n,_),o,_)=>k ((l,m,(J (n+1)),()),o,())) fun g=>TN e.FS c fun a=>cd (a.Z=0) (cd (a.A=f) (cd (a.w<=b) (cd (b<a.To) sT (g ((f,b,c,()),e,()))) (g ((f,b,c,()),e,()))) (g ((f,b,c,()),e,()))) (g ((f,b,c,()),e,()))) sF) u ((i,j,0,()),h,())
def QsF:o 437 (s [t13,d,d] [h] (Qk2 u)):=f u (c g (m [.n 1,.n 2,.r 3 .e,.n 7] (c g (c (j [.n 1,.n 2,.r 3 .e,.n 7] g) g)))) t func437
def Qps(h:D.F)(l:Int)(m:Int):I (Int×Int):=TN h.f l fun i=>Qe (fun n ((c,a,_),g,e,_)=>cd (0<=a) (TG (fun((o,p,_),q,r,_)=>n ((o,(J (p - 1)),()),q,r,())) fun f=>TN e.Fk a fun j=>O (Qmu u g j c) fun b=>cd (0<=b) (O (Qk2 u e b c) fun k=>C k (f ((c,a,()),g,e,())) (some (a,b))) (f ((c,a,()),g,e,()))) (some ((-1),(-1)))) u ((m,(J ((i.Fk.length:Int) - 1)),()),h,i,())
def QuS:o 424 (s [tO,d,d] [d,d] (Qps u)):=f u (n 2 (m [.n 2,.r 3 .F,.r 8 .e,.n 9] (c g (c (j [.n 2,.r 3 .F,.r 8 .e,.n 9] g) g)))) (e (QuR u) (e (QsF u) t)) func424
def Qk3(h:Y D.t)(i:Int)(j:Int):I Int:=Qe (fun k ((b,f,c,e,_),_)=>cd (e<(b.length:Int)) (TG (fun((l,m,n,o,_),_)=>k ((l,m,n,(J (o+1)),()),())) fun g=>TN b e fun a=>cd (c<a.w) (g ((b,f,c,e,()),())) (cd (a.To<=c) (g ((b,f,c,e,()),())) (cd (a.Z=1) (g ((b,a.A,c,e,()),())) (cd (a.Z=2) (cd (f=a.A) (g ((b,a.B,c,e,()),())) (cd (a.Z=2) (cd (f=a.B) (g ((b,a.A,c,e,()),())) (g ((b,f,c,e,()),()))) (g ((b,f,c,e,()),())))) (cd (a.Z=2) (cd (f=a.B) (g ((b,a.A,c,e,()),())) (g ((b,f,c,e,()),()))) (g ((b,f,c,e,()),()))))))) (some f)) u ((h,i,j,0,()),())
def QsG:o 425 (s [l .t,d,d] [d] (Qk3 u)):=f u (c g (m [.l 0 .t,.n 1,.n 2,.n 7] (c g (c (j [.l 0 .t,.n 1,.n 2,.n 7] g) g)))) t func425
def QsH(a:D.F)(b:Int)(c:Int):I Int:=O (Qps u a b c) fun(h,e)=>TN a.f b fun f=>O (Qk3 u f.FS e c) fun g=>some g
def QuT:o 401 (s [tO,d,d] [d] (QsH u)):=f u g (e (QuS u) (e (QsG u) t)) func401
def Qpt(a:D.F)(b:Int)(c:Int):I Int:=O (Qxs u a b c) fun e=>C (!e) (some (-1)) (O (QsH u a b c) fun f=>some f)
def QuU:o 371 (s [tO,d,d] [d] (Qpt u)):=f u g (e (Qxt u) (e (QuT u) t)) func371
def Qmv(a:D.F)(b:Int)(c:Int):I Int:=O (Qpt u a b c) fun e=>some e
def QuV:o 358 (s [tO,d,d] [d] (Qmv u)):=f u g (e (QuU u) t) func358
def QdE(p0:D.F)(p1:D.b)(p2:Y D.FL)(p3:Int):I (Y Int):=Qe (fun L0 ((f,g,i,h,_),c,e,_)=>cd (h<(f.length:Int)) (TG (fun((a7,a8,a9,b0,_),b1,b2,_)=>L0 ((a7,a8,a9,(J (b0+1)),()),b1,b2,())) fun b=>TN f h fun a=>cd (a.Z=0) (O (QJ u a.FW 0 (J ((c.l.length:Int) - 1))) fun b3=>C b3 (O (V6 u i a.FW) fun b4=>b ((f,g,b4,h,()),c,e,())) (cd (a.Z=1) (O (QJ u a.FW 0 (J ((c.f.length:Int) - 1))) fun b5=>C b5 (O (Qmv u c a.FW g) fun aD=>cd (0<=aD) (O (V6 u i aD) fun b6=>b ((f,g,b6,h,()),c,e,())) (b ((f,g,i,h,()),c,e,()))) (cd (a.Z=2) (O (QJ u a.FW 0 (J ((e.v.length:Int) - 1))) fun b7=>C b7 (Qe (fun b8 ((G,H,zE,zG,q,_),zH,m,r,_)=>TN m.v r.FW fun b9=>cd (q<(b9.s.length:Int)) (TG (fun((bA,bB,bC,bD,bE,_),bF,bG,bH,_)=>b8 ((bA,bB,bC,bD,(J (bE+1)),()),bF,bG,bH,())) fun aE=>TN m.v r.FW fun bI=>TN bI.s q fun bJ=>O (QJ u bJ 0 (J ((zH.l.length:Int) - 1))) fun bK=>C bK (TN m.v r.FW fun bL=>TN bL.s q fun bM=>O (V6 u zE bM) fun bN=>aE ((G,H,bN,zG,q,()),zH,m,r,())) (aE ((G,H,zE,zG,q,()),zH,m,r,()))) (b ((G,H,zE,zG,()),zH,m,()))) u ((f,g,i,h,0,()),c,e,a,())) (b ((f,g,i,h,()),c,e,()))) (b ((f,g,i,h,()),c,e,())))) (cd (a.Z=2) (O (QJ u a.FW 0 (J ((e.v.length:Int) - 1))) fun bO=>C bO (Qe (fun bP ((L,zC,zI,W,s,_),E,n,t,_)=>TN n.v t.FW fun bQ=>cd (s<(bQ.s.length:Int)) (TG (fun((bR,bS,bT,bU,bV,_),bW,bX,bY,_)=>bP ((bR,bS,bT,bU,(J (bV+1)),()),bW,bX,bY,())) fun aF=>TN n.v t.FW fun c0=>TN c0.s s fun c1=>O (QJ u c1 0 (J ((E.l.length:Int) - 1))) fun c2=>C c2 (TN n.v t.FW fun c3=>TN c3.s s fun c4=>O (V6 u zI c4) fun c5=>aF ((L,zC,c5,W,s,()),E,n,t,())) (aF ((L,zC,zI,W,s,()),E,n,t,()))) (b ((L,zC,zI,W,()),E,n,()))) u ((f,g,i,h,0,()),c,e,a,())) (b ((f,g,i,h,()),c,e,()))) (b ((f,g,i,h,()),c,e,()))))) (cd (a.Z=1) (O (QJ u a.FW 0 (J ((c.f.length:Int) - 1))) fun c6=>C c6 (O (Qmv u c a.FW g) fun aG=>cd (0<=aG) (O (V6 u i aG) fun c7=>b ((f,g,c7,h,()),c,e,())) (b ((f,g,i,h,()),c,e,()))) (cd (a.Z=2) (O (QJ u a.FW 0 (J ((e.v.length:Int) - 1))) fun c8=>C c8 (Qe (fun c9 ((Z,a0,aA,aB,v,_),F,o,w,_)=>TN o.v w.FW fun cA=>cd (v<(cA.s.length:Int)) (TG (fun((cB,cC,cD,cE,cF,_),cG,cH,cI,_)=>c9 ((cB,cC,cD,cE,(J (cF+1)),()),cG,cH,cI,())) fun aH=>TN o.v w.FW fun cJ=>TN cJ.s v fun cL=>O (QJ u cL 0 (J ((F.l.length:Int) - 1))) fun cM=>C cM (TN o.v w.FW fun cN=>TN cN.s v fun cO=>O (V6 u aA cO) fun aI=>aH ((Z,a0,aI,aB,v,()),F,o,w,())) (aH ((Z,a0,aA,aB,v,()),F,o,w,()))) (b ((Z,a0,aA,aB,()),F,o,()))) u ((f,g,i,h,0,()),c,e,a,())) (b ((f,g,i,h,()),c,e,()))) (b ((f,g,i,h,()),c,e,())))) (cd (a.Z=2) (O (QJ u a.FW 0 (J ((e.v.length:Int) - 1))) fun aJ=>C aJ (Qe (fun aK ((y,z,A,B,k,_),p,j,l,_)=>TN j.v l.FW fun aL=>cd (k<(aL.s.length:Int)) (TG (fun((aM,aN,aO,aP,aQ,_),aR,aS,aT,_)=>aK ((aM,aN,aO,aP,(J (aQ+1)),()),aR,aS,aT,())) fun aC=>TN j.v l.FW fun aU=>TN aU.s k fun aV=>O (QJ u aV 0 (J ((p.l.length:Int) - 1))) fun aW=>C aW (TN j.v l.FW fun aX=>TN aX.s k fun aY=>O (V6 u A aY) fun aZ=>aC ((y,z,aZ,B,k,()),p,j,l,())) (aC ((y,z,A,B,k,()),p,j,l,()))) (b ((y,z,A,B,()),p,j,()))) u ((f,g,i,h,0,()),c,e,a,())) (b ((f,g,i,h,()),c,e,()))) (b ((f,g,i,h,()),c,e,()))))) (some i)) u ((p2,p3,[],0,()),p0,p1,())
def Qpv:o 339 (s [tO,L,l .FL,d] [lI] (QdE u)):=f u (n 2 (m [.l 2 .FL,.n 3,.r 4 .F,.r 5 .b,.s 9 lI,.n 10] (c g (c (j [.l 2 .FL,.n 3,.r 4 .F,.r 5 .b,.s 9 lI,.n 10] (.one (c g (.one (n 5 (m [.l 2 .FL,.n 3,.r 4 .F,.r 5 .b,.s 9 lI,.n 10,.r 11 .FL,.n 13] (c g (c (j [.l 2 .FL,.n 3,.r 4 .F,.r 5 .b,.s 9 lI,.n 10,.r 11 .FL,.n 13] g) g)))))))) g)))) (e (ZF u) (e (Qmw u) (e (QuV u) t))) func339
def Qms(u:Nat)(a:Int)(b:Int):I AH:=cd (0<=a) (cd (a<=8589934592) (cd (a<=b) (cd (b<=8589934592) (cd ((J (b - a))<=34560000) sT sF) sF) sF) sF) sF
def Qrf:o 372 (s [d,d] [h] (Qms u)):=f u g t func372
def QiV(a:D.F)(b:Int)(c:Int)(e:Int):I Int:=TG (fun(_,_)=>some 0) fun f=>O (UZ u a) fun g=>cd (g≠0) (some 8) (cd (b<0) (some 3) (cd ((a.l.length:Int)<=b) (some 3) (O (Qms u c e) fun h=>C (!h) (some 1) (f ((),())))))
def Qrn:o 359 (s [tO,d,d,d] [d] (QiV u)):=f u (c g (c (j [] g) g)) (e (QcT u) (e (Qrf u) t)) func359
def QbL(a:D.F)(e:Int)(b:Int)(f:AH):I AH:=O (QiV u a e b b) fun g=>cd (g≠0) sF (TN a.l e fun c=>TN a.FG c.r fun h=>O (Qn4 u h c.Ff b) fun i=>C i (C f (C c.Ft sT sF) sF) sT)
def QkG:o 340 (s [tO,d,d,h] [h] (QbL u)):=f u g (e (Qrn u) (e (Qre u) t)) func340
def Qk5(zC:D.F)(zG:D.b)(b:D.Page):I (D.Page×Int):=O (U1 u zG b) fun a0=>C (!a0) (some (z1,8)) (O (Qh0 u b) fun(j,a2)=>C (!a2) (some (z1,9)) (cd (200<=(b.P.length:Int)) (some (z1,5)) (O (QbM u b) fun a=>cd (b.p=2) (some ((D.Page.mk a.S a.W a.T a.E7 j 0 a.By a.FK (max j b.FM) a.E6 a.FI a.P a.i a.h),0)) (TN zG.k b.W fun L=>O (QiW u L b.E7) fun(zI,a6,a7)=>C (!a7) (some ((D.Page.mk a.S a.W a.T a.E7 a.FJ 3 a.By a.FK (max j b.FM) a.E6 a.FI a.P a.i a.h),0)) (TN L.Steps zI fun a8=>O (QdE u zC zG a8.Fe j) fun a9=>Qe (fun W ((B,k,e,f,_),zH,l,m,(n,o,p,E,q,r,s,t,v,w,y,_),z,(g,h,_),i,F,A,c,_)=>cd (f<(e.length:Int)) (TG (fun((Z,aA,aB,aC,_),aD,aE,aF,(aG,aH,aI,aJ,aK,aL,aM,aN,aO,aP,aQ,_),aR,(aS,aT,_),aU,aV,aW,aX,_)=>W ((Z,aA,aB,(J (aC+1)),()),aD,aE,aF,(aG,aH,aI,aJ,aK,aL,aM,aN,aO,aP,aQ,()),aR,(aS,aT,()),aU,aV,aW,aX,())) fun G=>TN e f fun aY=>TN z.Steps k fun aZ=>O (QbL u zH aY B aZ.Fm) fun b0=>C b0 (TN e f fun H=>TO (c.length+[H].length) 34359738368 (G ((B,k,e,f,()),zH,l,m,(n,o,p,E,q,r,s,t,v,w,y,()),z,(g,h,()),i,F,A,(c++[H]),()))) (G ((B,k,e,f,()),zH,l,m,(n,o,p,E,q,r,s,t,v,w,y,()),z,(g,h,()),i,F,A,c,()))) (TO (i.length+[(D.T.mk g h c)].length) 34359738368 (TG (fun(_,bG,(b1,b2,b3,b4,b5,b6,b7,b8,b9,bA,bB,bC,_),bD,bE,_)=>some ((D.Page.mk b1 b2 b3 b4 b5 b6 b7 b8 b9 bA bB bD bC bE),0)) fun zE=>cd (0<(c.length:Int)) (TN z.Steps k fun bF=>zE ((),m,(n,o,p,(J (l.E7+1)),(J (q+bF.Fs)),r,s,t,v,w,y,[],()),(i++[(D.T.mk g h c)]),A,())) (zE ((),m,(n,o,p,(J (l.E7+1)),q,r,s,t,v,w,y,[],()),(i++[(D.T.mk g h c)]),A,()))))) u ((j,zI,a9,0,()),zC,b,z1,(a.S,a.W,a.T,a.E7,a.FJ,a.p,a.By,a.FK,(max j b.FM),a.E6,a.FI,()),L,(b.E7,j,()),a.P,a.i,a.h,[],()))))))
def QsM:o 301 (s [tO,L,E] [E,d] (Qk5 u)):=f u (n 13 (c (c g (.one (.loop [r 3,r 5,r 6,G 8,r 10,r 11,G 12,r 15,(16,lI),G 17] [w 1003 .F,w 1005 .Page,w 1006 .Page,(1010,.box bI1),w 1011 .W,(1015,.box [v,v,.own 1108]),p 1038025 .T,p 1038030 .int,p 1038033 .int,p 1108 .int] (c g (c (.TG [r 3,r 5,r 6,G 8,r 10,r 11,G 12,r 15,(16,lI),G 17] [w 1003 .F,w 1005 .Page,w 1006 .Page,(1010,.box bI1),w 1011 .W,(1015,.box [v,v,.own 1108]),p 1038025 .T,p 1038030 .int,p 1038033 .int,p 1108 .int] g) g))))) (c (.frz [1108] g) (c (j [.r 6 .Page,.s 10 (.one (.TM 1010))] g [(1010,.box [v,v,v,v,v,v,v,v,v,v,v,.own 1038025,.TQ .int,.own 1038033]),p 1038025 .T,p 1038033 .int]) g)))) (e (QaE u) (e (QcV u) (e (QdF u) (e (QsJ u) (e (Qpv u) (e (QkG u) t)))))) func301
def QpA(n:D.F)(f:D.b)(g:D.Page)(o:Int):I (D.Page×Int):=O (U1 u f g) fun p=>C (!p) (some (z1,8)) (O (QbM u g) fun q=>Qe (fun r ((h,_),s,t,a,v,_)=>O (Qh0 u a) fun(w,y)=>TG (fun((i,_),b,c,j,k,_)=>O (Qk5 u b c j) fun(l,e)=>cd (e≠0) (some (z1,e)) (r ((i,()),b,c,l,k,()))) fun m=>C y (cd (h<w) (some (a,0)) (m ((h,()),s,t,a,v,()))) (some (a,0))) u ((o,()),n,f,q,z1,()))
def QuW:o 216 (s [tO,L,E,d] [E,d] (QpA u)):=f u (n 3 (.one (k [.n 3,.r 4 .F,.r 5 .b,.r 6 .Page,.r 8 .Page] (.one (c g (c (j [.n 3,.r 4 .F,.r 5 .b,.r 6 .Page,.r 8 .Page] g) g)))))) (e (QaE u) (e (QcV u) (e (QdF u) (e (QsM u) t)))) func216
def Qer(a:D.Page)(b:D.a):I Int:=O (Qh0 u a) fun(n,o)=>TG (fun(_,_)=>some 0) fun l=>cd (b.At<a.FM) (some 6) (C o (cd (n<=b.At) (some 6) (TG (fun((p,_),i,k,_)=>C p (some 9) (TG (fun((q,_),_)=>C q (some 5) (l ((),()))) fun g=>cd (64<=(i.h.length:Int)) (g (((decide (64<=(i.h.length:Int))),()),())) (cd (k.Z=3) (cd (4<=i.E6) (g ((true,()),())) (cd (k.Z=4) (cd (4<=i.FI) (g ((true,()),())) (cd (200<=(i.P.length:Int)) (g ((true,()),())) (g ((false,()),())))) (g ((false,()),())))) (cd (k.Z=4) (cd (4<=i.FI) (g ((true,()),())) (cd (200<=(i.P.length:Int)) (g ((true,()),())) (g ((false,()),())))) (g ((false,()),())))))) fun h=>cd (a.p=4) (h (((decide (a.p=4)),()),a,b,())) (cd (a.p=3) (cd (b.Z≠5) (h ((true,()),a,b,())) (cd (a.p=1) (cd (b.Z=2) (h ((true,()),a,b,())) (h ((false,()),a,b,()))) (h ((false,()),a,b,())))) (cd (a.p=1) (cd (b.Z=2) (h ((true,()),a,b,())) (h ((false,()),a,b,()))) (h ((false,()),a,b,())))))) (TG (fun((r,_),f,j,_)=>C r (some 9) (TG (fun((m,_),_)=>C m (some 5) (l ((),()))) fun c=>cd (64<=(f.h.length:Int)) (c (((decide (64<=(f.h.length:Int))),()),())) (cd (j.Z=3) (cd (4<=f.E6) (c ((true,()),())) (cd (j.Z=4) (cd (4<=f.FI) (c ((true,()),())) (cd (200<=(f.P.length:Int)) (c ((true,()),())) (c ((false,()),())))) (c ((false,()),())))) (cd (j.Z=4) (cd (4<=f.FI) (c ((true,()),())) (cd (200<=(f.P.length:Int)) (c ((true,()),())) (c ((false,()),())))) (c ((false,()),())))))) fun e=>cd (a.p=4) (e (((decide (a.p=4)),()),a,b,())) (cd (a.p=3) (cd (b.Z≠5) (e ((true,()),a,b,())) (cd (a.p=1) (cd (b.Z=2) (e ((true,()),a,b,())) (e ((false,()),a,b,()))) (e ((false,()),a,b,())))) (cd (a.p=1) (cd (b.Z=2) (e ((true,()),a,b,())) (e ((false,()),a,b,()))) (e ((false,()),a,b,()))))))
def Qnq:o 302 (s [E,t12] [d] (Qer u)):=f u (n 2 (c (j [] (.one (n 2 (c (j [.r 2 .Page,.r 3 .a,.s 27 h] g) (c g (c (j [.s 47 h] g) g)))))) g)) (e (QdF u) t) func302
def QgL(u:Nat)(a:D.Page):I (Y Int):=cd ((a.P.length:Int)=0) (some []) (TN a.P (J ((a.P.length:Int) - 1)) fun b=>TO b.l.length 34359738368 (some b.l))
def Qpz:o 303 (s [E] [lI] (QgL u)):=f u g t func303
def QgK(p0:D.F)(p1:D.b)(H:D.Page)(zE:D.a):I (D.Page×Int):=TG (fun(_,e,b,t,_)=>cd (b.Page≠e.S) (some (z1,3)) (O (QbM u e) fun a=>O (Qeo u e.h b.S) fun a4=>C a4 (some (a,0)) (O (Qer u e b) fun zG=>cd (zG≠0) (some (z1,zG)) (TO (a.h.length+[b.S].length) 34359738368 (TG (fun(_,a6,(a7,a8,a9,L,zC,zI,W,Z,aA,aB,aC,aD,_),aE,aF,_)=>some ((D.Page.mk a7 a8 a9 L zC zI W Z aA aB aC aE aD aF),0)) fun c=>cd (b.Z=1) (cd (e.p=1) (c ((),t,(a.S,a.W,a.T,a.E7,a.FJ,a.p,a.By,a.FK,e.FM,a.E6,a.FI,a.i,()),a.P,(a.h++[b.S]),())) (c ((),t,(a.S,a.W,a.T,a.E7,a.FJ,1,b.R,a.FK,b.At,a.E6,a.FI,a.i,()),a.P,(a.h++[b.S]),()))) (cd (b.Z=2) (O (QgL u e) fun B=>TG (fun((E,_),aG,aH,aI,(aJ,aK,aL,aM,aN,aO,aP,aQ,aR,aS,aT,aU,_),aV,aW,_)=>Qe (fun aX ((v,F,w,_),z,A,g,(h,i,j,k,y,l,m,n,o,p,q,f,_),r,s,_)=>cd (w<(v.length:Int)) (TG (fun((aY,aZ,b0,_),b1,b2,b3,(b4,b5,b6,b7,b8,b9,bA,bB,bC,bD,bE,bF,_),bG,bH,_)=>aX ((aY,aZ,(J (b0+1)),()),b1,b2,b3,(b4,b5,b6,b7,b8,b9,bA,bB,bC,bD,bE,bF,()),bG,bH,())) fun zH=>C F (TN v w fun bI=>O (Qeo u f bI) fun bJ=>C bJ (zH ((v,true,w,()),z,A,g,(h,i,j,k,y,l,m,n,o,p,q,f,()),r,s,())) (zH ((v,false,w,()),z,A,g,(h,i,j,k,y,l,m,n,o,p,q,f,()),r,s,()))) (zH ((v,false,w,()),z,A,g,(h,i,j,k,y,l,m,n,o,p,q,f,()),r,s,()))) (C F (cd (z.p=0) (c ((),g,(h,i,j,k,A.At,l,m,n,o,p,q,f,()),r,s,())) (c ((),g,(h,i,j,k,y,l,m,n,o,p,q,f,()),r,s,()))) (c ((),g,(h,i,j,k,y,l,m,n,o,p,q,f,()),r,s,())))) u ((E,(decide (0<(E.length:Int))),0,()),aG,aH,aI,(aJ,aK,aL,aM,aN,aO,aP,aQ,aR,aS,aT,aU,()),aV,aW,())) fun G=>O (Qeo u B b.R) fun bK=>C bK (O (V6 u a.i b.R) fun bL=>G ((B,()),e,b,t,(a.S,a.W,a.T,a.E7,a.FJ,a.p,a.By,a.FK,b.At,a.E6,a.FI,bL,()),a.P,(a.h++[b.S]),())) (G ((B,()),e,b,t,(a.S,a.W,a.T,a.E7,a.FJ,a.p,a.By,a.FK,b.At,a.E6,a.FI,a.i,()),a.P,(a.h++[b.S]),()))) (cd (b.Z=3) (c ((),t,(a.S,a.W,a.T,a.E7,a.FJ,2,b.R,(J (b.At+b.Fo)),b.At,(J (e.E6+1)),a.FI,a.i,()),a.P,(a.h++[b.S]),())) (cd (b.Z=4) (TO (a.P.length+[(D.T.mk (-1) b.At [b.Fo])].length) 34359738368 (c ((),t,(a.S,a.W,a.T,a.E7,(J (b.At+600)),0,a.By,a.FK,b.At,a.E6,(J (e.FI+1)),[],()),(a.P++[(D.T.mk (-1) b.At [b.Fo])]),(a.h++[b.S]),()))) (cd (b.Z=5) (c ((),t,(a.S,a.W,a.T,a.E7,a.FJ,4,b.R,a.FK,b.At,a.E6,a.FI,a.i,()),a.P,(a.h++[b.S]),())) (c ((),t,(a.S,a.W,a.T,a.E7,a.FJ,a.p,a.By,a.FK,b.At,a.E6,a.FI,a.i,()),a.P,(a.h++[b.S]),()))))))))))) fun bM=>O (U1 u p1 H) fun bN=>C bN (O (QfV u zE) fun bO=>C bO (bM ((),H,zE,z1,())) (some (z1,8))) (some (z1,8))
def Qpy:o 218 (s [tO,L,E,t12] [E,d] (QgK u)):=f u (c g (c (j [.r 6 .Page,.r 7 .a,.r 8 .Page] g) (n 5 (c (j [.r 8 .Page,.s 10 (.one (.TM 1010))] (c g (.one (n 3 (c (c g (c (j [.r 6 .Page,.r 7 .a,.r 8 .Page,.s 10 (.one (.TM 1010)),.s 12 lI] g [(1010,.box bI2),p 1033025 .T,p 1033033 .int]) (c g (m [.r 6 .Page,.r 7 .a,.r 8 .Page,.s 10 (.one (.TM 1010)),.s 12 lI,.s 13 h,.n 14] (c g (c (j [.r 6 .Page,.r 7 .a,.r 8 .Page,.s 10 (.one (.TM 1010)),.s 12 lI,.s 13 h,.n 14] g [(1010,.box bI2),p 1033025 .T,p 1033033 .int]) g)) [(1010,.box bI2),p 1033025 .T,p 1033033 .int])))) g)))) [(1010,.box bI2),p 1033025 .T,p 1033033 .int]) g)))) (e (QgI u) (e (QaE u) (e (QcV u) (e (Qkn u) (e (Qnq u) (e (Qpz u) (e (Qmw u) t))))))) func218
def Qpu(u:Nat)(a:D.F)(e:Int)(f:Y D.t):I D.F:=TO a.f.length 34359738368 (TK e fun b=>TP b a.f.length (O a.f[b]? fun c=>some (D.F.mk a.FG a.l a.o (List.set a.f b (D.e.mk c.Name c.Fk f)))))
def QsI:o 219 (s [tO,d,l .t] [tO] (Qpu u)):=f u g t func219
def QiU(a:D.F)(b:Int)(j:D.t):I (D.F×Int):=TG (fun((e,_),f,g,m,_)=>TN f.f e fun c=>TO c.FS.length 34359738368 (TO (c.FS.length+[g].length) 34359738368 (O (Qpu u f e (c.FS++[g])) fun h=>O (UZ u h) fun i=>cd (i≠0) (some (z8,i)) (some (h,0))))) fun k=>O (UZ u a) fun l=>cd (l≠0) (some (z8,8)) (cd (b<0) (some (z8,3)) (cd ((a.f.length:Int)<=b) (some (z8,3)) (k ((b,()),a,j,z8,()))))
def Qrm:o 143 (s [tO,d,.st .t] [tO,d] (QiU u)):=f u (c g (c (j [.n 1,.r 3 .F,.r 5 .t,.r 6 .F] g) g)) (e (QcT u) (e (QsI u) t)) func143
def Z6(a:D.G)(p:Int):I (D.Page×AH):=Qe (fun q ((i,f,_),(r,s,t,v,w,y,z,j,k,_),l,b,c,e,_)=>cd (f<(b.length:Int)) (TK f fun g=>TP g b.length (O b[g]? fun m=>cd (m.S=i) (TK f fun h=>TP h b.length (O b[h]? fun n=>O (QbM u n) fun o=>TF b a.H (TF c a.h (TF e a.Calls (some (o,true)))))) (q ((i,(J (f+1)),()),(r,s,t,v,w,y,z,j,k,()),l,b,c,e,())))) (TF b a.H (TF c a.h (TF e a.Calls (some (z1,false)))))) u ((p,0,()),(a.E9,a.F.FG,a.F.l,a.F.o,a.F.f,a.b.v,a.b.k,a.E5,a.Fence,()),z1,a.H,a.h,a.Calls,())
def Vm:o 30 (Qn [.agg bI0,d] [p 101 .Page,p 102 .int,p 103 .Call] [E,h] [] [101,102,103] (D.Page×AH) kz22 (fun x y=>Z6 u (D.G.mk x.1.1 (D.F.mk x.1.2.1 x.1.2.2.1 x.1.2.2.2.1 x.1.2.2.2.2.1) (D.b.mk x.1.2.2.2.2.2.1 x.1.2.2.2.2.2.2.1) y.1 x.1.2.2.2.2.2.2.2.1 x.1.2.2.2.2.2.2.2.2.1 y.2.1 y.2.2.1) x.2.1)):=i u (c g (lp [G 1,r 2,r 4,G 6] [(1002,.box bI0),w 1004 .Page,p 101 .Page,p 102 .int,p 103 .Call] g)) kz23 (e (QaE u) t) func30
def X3(b:D.G)(p1:D.Page):I D.G:=Qe (fun L0 ((g,_),(o,p,q,r,s,t,v,w,e,_),c,j,a,h,f,_)=>cd (g<(a.length:Int)) (TG (fun((y,_),(z,A,B,zH,E,F,G,H,zE,_),zG,L,zC,zI,W,_)=>L0 (((J (y+1)),()),(z,A,B,zH,E,F,G,H,zE,()),zG,L,zC,zI,W,())) fun k=>TK g fun l=>TP l a.length (O a[l]? fun Z=>cd (Z.S=c.S) (TK g fun m=>TP m a.length (O a[m]? fun a0=>O (QdH u c (a0.P.length:Int) e) fun n=>TO (f.length+n.length) 34359738368 (TK g fun i=>TP i a.length (O a[i]? fun aA=>k ((g,()),(o,p,q,r,s,t,v,w,e,()),c,j,(List.set a i c),h,(f++n),()))))) (k ((g,()),(o,p,q,r,s,t,v,w,e,()),c,j,a,h,f,())))) (some (D.G.mk o (D.F.mk p q r s) (D.b.mk t v) a w e h f))) u ((0,()),(b.E9,b.F.FG,b.F.l,b.F.o,b.F.f,b.b.v,b.b.k,b.E5,b.Fence,()),p1,z2,b.H,b.h,b.Calls,())
def Qbr:o 217 (Qn [.agg bI0,E] [p 101 .Page,p 102 .int,p 103 .Call] [.agg bI0] [p 101 .Page,p 102 .int,p 103 .Call] [] D.G kz5 (fun x y=>X3 u (D.G.mk x.1.1 (D.F.mk x.1.2.1 x.1.2.2.1 x.1.2.2.2.1 x.1.2.2.2.2.1) (D.b.mk x.1.2.2.2.2.2.1 x.1.2.2.2.2.2.2.1) y.1 x.1.2.2.2.2.2.2.2.1 x.1.2.2.2.2.2.2.2.2.1 y.2.1 y.2.2.1) x.2.1)):=i u (c g (lp [r 2,r 3,r 4,G 5] [(1002,.box bI0),w 1003 .Page,w 1004 .G,p 101 .Page,p 102 .int,p 103 .Call] (c g (c (.TG [r 2,r 3,r 4,G 5] [(1002,.box bI0),w 1003 .Page,w 1004 .G,p 101 .Page,p 102 .int,p 103 .Call] g) g)))) kz14 (e (QfY u) t) func217
def Yl(a:D.G)(b:Int)(c:Int):I D.G:=O (Z6 u a b) fun(e,f)=>C (!f) (some a) (O (QpA u a.F a.b e c) fun(g,h)=>cd (h≠0) (some a) (O (X3 u a g) fun i=>some i))
def VL:o 141 (Qn [.agg bI0,d,d] [p 101 .Page,p 102 .int,p 103 .Call] [.agg bI0] [p 101 .Page,p 102 .int,p 103 .Call] [] D.G kz5 (fun x y=>Yl u (D.G.mk x.1.1 (D.F.mk x.1.2.1 x.1.2.2.1 x.1.2.2.2.1 x.1.2.2.2.2.1) (D.b.mk x.1.2.2.2.2.2.1 x.1.2.2.2.2.2.2.1) y.1 x.1.2.2.2.2.2.2.2.1 x.1.2.2.2.2.2.2.2.2.1 y.2.1 y.2.2.1) x.2.1 x.2.2.1)):=i u g kz14 (e (Vm u) (e (QuW u) (e (Qbr u) t))) func141
end
noncomputable section
open fk Tryz
abbrev bJ0:Y Sh:=[kI,.TQ .r,.TQ .R,.TQ .n,.TQ .e,.TQ .FU,.TQ .W,.own 101,kI,kI,.own 102,.own 103]
variable (u:Nat)
def WW(c:D.G)(zH:D.Op)(E:Int)(p3:AH):I (D.G×Int):=C p3 (some (c,4)) (cd (64<=(c.H.length:Int)) (some (c,5)) (O (Qmx u c.b zH.Page zH.W E) fun(a0,F)=>cd (F≠0) (some (c,F)) (TG (fun((a2,B,_),(a4,a5,a6,a7,a8,a9,G,H,zE,_),aQ,a,b,zG,L,_)=>TO (b.length+[a].length) 34359738368 (TK (J (B+1)) fun e=>TO e (b++[a]).length (TK B fun g=>TO g (b++[a]).length (chk (b++[a]).length (b++[a]).length (chk (b++[a]).length (b++[a]).length (TO e (b++[a]).length (TO g e (TK B fun j=>TP j ((List.take e (b++[a]))++(List.take ((b++[a]).length - e) (List.drop g (b++[a])))).length (O (GetElem?.getElem? ((List.take e (b++[a]))++(List.take ((b++[a]).length - e) (List.drop g (b++[a])))) j) fun aR=>O (Yl u (D.G.mk a4 (D.F.mk a5 a6 a7 a8) (D.b.mk a9 G) (List.set ((List.take e (b++[a]))++(List.take ((b++[a]).length - e) (List.drop g (b++[a])))) j a) H zE zG L) a.S a2) fun zC=>some (zC,0)))))))))) fun z=>Qe (fun zI ((k,h,_),(l,m,n,o,p,q,r,s,t,_),v,i,f,w,y,_)=>TG (fun((W,Z,_),(aA,aB,aC,aD,aE,aF,aG,aH,aI,_),aJ,aK,aL,aM,aN,_)=>zI ((W,(J (Z+1)),()),(aA,aB,aC,aD,aE,aF,aG,aH,aI,()),aJ,aK,aL,aM,aN,())) fun aO=>cd (h<(f.length:Int)) (TK h fun A=>TP A f.length (O f[A]? fun aP=>cd (aP.S<i.S) (aO ((k,h,()),(l,m,n,o,p,q,r,s,t,()),v,i,f,w,y,())) (z ((k,h,()),(l,m,n,o,p,q,r,s,t,()),v,i,f,w,y,())))) (z ((k,h,()),(l,m,n,o,p,q,r,s,t,()),v,i,f,w,y,()))) u ((E,0,()),(c.E9,c.F.FG,c.F.l,c.F.o,c.F.f,c.b.v,c.b.k,c.E5,c.Fence,()),z2,a0,c.H,c.h,c.Calls,()))))
def QfZ:o 140 (Qn [.agg bJ0,t6,d,h] [p 101 .Page,p 102 .int,p 103 .Call] [.agg bJ0,d] [p 101 .Page,p 102 .int,p 103 .Call] [] (D.G×Int) kz3 (fun x y=>WW u (D.G.mk x.1.1 (D.F.mk x.1.2.1 x.1.2.2.1 x.1.2.2.2.1 x.1.2.2.2.2.1) (D.b.mk x.1.2.2.2.2.2.1 x.1.2.2.2.2.2.2.1) y.1 x.1.2.2.2.2.2.2.2.1 x.1.2.2.2.2.2.2.2.2.1 y.2.1 y.2.2.1) x.2.1 x.2.2.1 x.2.2.2.1)):=i u (n 6 (c (.TG [G 2,r 4,r 8,r 10,G 12] [(1004,.box bJ0),w 1008 .G,w 1010 .Page,p 101 .Page,p 102 .int,p 103 .Call] (.one (.loop [G 2,r 4,r 8,r 10,G 12] [(1004,.box bJ0),w 1008 .G,w 1010 .Page,p 101 .Page,p 102 .int,p 103 .Call] (c (.TG [G 2,r 4,r 8,r 10,G 12] [(1004,.box bJ0),w 1008 .G,w 1010 .Page,p 101 .Page,p 102 .int,p 103 .Call] g) g)))) g)) kz7 (e (VL u) (e (Qn5 u) t)) func140
def Wp(c:D.G)(a:D.a)(e:Int):I (D.G×Int):=O (Z6 u c a.Page) fun(k,g)=>C (!g) (some (c,3)) (O (Yl u c a.Page e) fun b=>O (Z6 u b a.Page) fun(h,l)=>O (QgK u b.F b.b h (D.a.mk a.S a.Page a.R a.Z a.Fo e)) fun(i,f)=>cd (f≠0) (some (b,f)) (O (X3 u b i) fun j=>some (j,0)))
def Qe5:o 142 (Qn [.agg bJ0,t12,d] [p 101 .Page,p 102 .int,p 103 .Call] [.agg bJ0,d] [p 101 .Page,p 102 .int,p 103 .Call] [] (D.G×Int) kz3 (fun x y=>Wp u (D.G.mk x.1.1 (D.F.mk x.1.2.1 x.1.2.2.1 x.1.2.2.2.1 x.1.2.2.2.2.1) (D.b.mk x.1.2.2.2.2.2.1 x.1.2.2.2.2.2.2.1) y.1 x.1.2.2.2.2.2.2.2.1 x.1.2.2.2.2.2.2.2.2.1 y.2.1 y.2.2.1) x.2.1 x.2.2.1)):=i u g kz7 (e (Vm u) (e (VL u) (e (Qbr u) (e (Qpy u) t)))) func142
def Yk(a:D.G)(c:D.Op)(p2:Int):I (D.G×Int):=O (Z6 u a c.Page) fun(a0,a1)=>TG (fun(_,(a2,a3,a4,a5,a6,a7,a8,a9,aT,_),bP,aU,aV,aW,_)=>some ((D.G.mk a2 (D.F.mk a3 a4 a5 a6) (D.b.mk a7 a8) aU a9 aT aV aW),0)) fun s=>cd (c.Z=1) (O (WW u a c p2 a1) fun(aX,aY)=>some (aX,aY)) (cd (c.Z=2) (cd (c.Fence≠(J (a.Fence+1))) (some (a,23)) (s ((),(a.E9,a.F.FG,a.F.l,a.F.o,a.F.f,a.b.v,a.b.k,c.Region,c.Fence,()),z2,a.H,a.h,a.Calls,()))) (cd (c.Z=3) (TG (fun((aH,aZ,_),(t,v,w,y,z,A,B,zH,E,_),aI,aJ,F,G,H,zE,_)=>C (!aZ) (some ((D.G.mk t (D.F.mk v w y z) (D.b.mk A B) G zH E H zE),3)) (O (Qh0 u F) fun(aK,aL)=>TG (fun((aM,b0,b1,b2,_),(f,g,h,i,j,k,l,m,n,_),aN,b3,o,p,q,_)=>TG (fun((b4,_),(b5,b6,b7,b8,b9,bA,bB,bC,bD,_),bE,bQ,bF,bG,bH,_)=>O (Yl u (D.G.mk b5 (D.F.mk b6 b7 b8 b9) (D.b.mk bA bB) bF bC bD bG bH) bE.Page b4) fun bI=>some (bI,0)) fun bJ=>C b1 (cd (aM<b0) (some ((D.G.mk f (D.F.mk g h i j) (D.b.mk k l) o m n p q),9)) (cd (b2≠aN.K) (some ((D.G.mk f (D.F.mk g h i j) (D.b.mk k l) o m n p q),9)) (bJ ((aM,()),(f,g,h,i,j,k,l,m,n,()),aN,b3,o,p,q,())))) (some ((D.G.mk f (D.F.mk g h i j) (D.b.mk k l) o m n p q),9))) fun aO=>cd (F.p=2) (aO ((aH,aK,aL,(-1),()),(t,v,w,y,z,A,B,zH,E,()),aI,aJ,G,H,zE,())) (aO ((aH,aK,aL,F.E7,()),(t,v,w,y,z,A,B,zH,E,()),aI,aJ,G,H,zE,())))) fun bK=>cd (c.Region≠a.E5) (some (a,23)) (cd (c.Fence≠a.Fence) (some (a,23)) (bK ((p2,a1,()),(a.E9,a.F.FG,a.F.l,a.F.o,a.F.f,a.b.v,a.b.k,a.E5,a.Fence,()),c,z2,a0,a.H,a.h,a.Calls,())))) (cd (c.Z=4) (O (Wp u a c.a p2) fun(bL,bM)=>some (bL,bM)) (cd (c.Z=5) (Qe (fun bN ((aP,zG,_),(L,zC,zI,W,Z,aA,aB,aC,aD,_),aE,aQ,e,aF,aG,_)=>cd (zG<(e.length:Int)) (TK zG fun aR=>TP aR e.length (O e[aR]? fun bO=>O (Yl u (D.G.mk L (D.F.mk zC zI W Z) (D.b.mk aA aB) e aC aD aF aG) bO.S aP) fun b=>bN ((aP,(J (zG+1)),()),(b.E9,b.F.FG,b.F.l,b.F.o,b.F.f,b.b.v,b.b.k,b.E5,b.Fence,()),aE,aQ,b.H,b.h,b.Calls,()))) (O (QiU u (D.F.mk zC zI W Z) aE.e aE.t) fun(r,aS)=>cd (aS≠0) (some ((D.G.mk L (D.F.mk zC zI W Z) (D.b.mk aA aB) e aC aD aF aG),aS)) (s ((),(L,r.FG,r.l,r.o,r.f,aA,aB,aC,aD,()),aQ,e,aF,aG,())))) u ((p2,0,()),(a.E9,a.F.FG,a.F.l,a.F.o,a.F.f,a.b.v,a.b.k,a.E5,a.Fence,()),c,z2,a.H,a.h,a.Calls,())) (s ((),(a.E9,a.F.FG,a.F.l,a.F.o,a.F.f,a.b.v,a.b.k,a.E5,a.Fence,()),z2,a.H,a.h,a.Calls,()))))))
def Qe4:o 82 (Qn [.agg bJ0,t6,d] [p 101 .Page,p 102 .int,p 103 .Call] [.agg bJ0,d] [p 101 .Page,p 102 .int,p 103 .Call] [] (D.G×Int) kz3 (fun x y=>Yk u (D.G.mk x.1.1 (D.F.mk x.1.2.1 x.1.2.2.1 x.1.2.2.2.1 x.1.2.2.2.2.1) (D.b.mk x.1.2.2.2.2.2.1 x.1.2.2.2.2.2.2.1) y.1 x.1.2.2.2.2.2.2.2.1 x.1.2.2.2.2.2.2.2.2.1 y.2.1 y.2.2.1) x.2.1 x.2.2.1)):=i u (n 2 (c (.TG [r 3,r 6] [(1003,.box bJ0),w 1006 .G,p 101 .Page,p 102 .int,p 103 .Call] (c g (.one (n 5 (c (c (.TG [G 2,r 3,r 4,r 6,r 8,(9,h)] [(1003,.box bJ0),w 1004 .Op,w 1006 .G,w 1008 .Page,p 101 .Page,p 102 .int,p 103 .Call] g) (n 3 (c (.TG [G 2,r 3,r 4,r 6,G 10,(11,h),G 12] [(1003,.box bJ0),w 1004 .Op,w 1006 .G,p 101 .Page,p 102 .int,p 103 .Call] g) (c (.TG [G 2,r 3,r 4,r 6] [(1003,.box bJ0),w 1004 .Op,w 1006 .G,p 101 .Page,p 102 .int,p 103 .Call] g) g)))) (n 3 (c (lp [G 2,r 3,r 4,r 6,G 13] [(1003,.box bJ0),w 1004 .Op,w 1006 .G,p 101 .Page,p 102 .int,p 103 .Call] g) g))))))) g)) kz7 (e (Vm u) (e (QdF u) (e (QfZ u) (e (VL u) (e (Qe5 u) (e (Qrm u) t)))))) func82
def QfW(e:D.G)(f:D.Op):I (D.G×Int):=TG (fun(_,c,b,m,_)=>O (QbN u c) fun a=>O (Qeo u c.h b.S) fun g=>C g (some (a,0)) (cd (256<=(c.h.length:Int)) none (TO (a.h.length+[b.S].length) 34359738368 (O (Yk u (D.G.mk (max c.E9 b.At) a.F a.b a.H a.E5 a.Fence (a.h++[b.S]) a.Calls) b (max c.E9 b.At)) fun(h,i)=>some (h,i))))) fun j=>O (Vl u e) fun k=>C k (O (QdG u f) fun l=>C l (j ((),e,f,z2,())) (some (z2,8))) (some (z2,8))
def Qrp:o 28 (Qn [H,t6] [] [.agg [v,.TQ .r,.TQ .R,.TQ .n,.TQ .e,.TQ .FU,.TQ .W,.own 1018020,v,v,.own 1018025,.own 1018028],d] [p 1018020 .Page,p 1018025 .int,p 1018028 .Call] [] (D.G×Int) kz3 (fun x y=>QfW u x.1 x.2.1)):=i u (c g (c (j [.r 2 .G,.r 3 .Op,.r 4 .G] g) g)) (fun a b=>((D.G.mk a.1.1 (D.F.mk a.1.2.1 a.1.2.2.1 a.1.2.2.2.1 a.1.2.2.2.2.1) (D.b.mk a.1.2.2.2.2.2.1 a.1.2.2.2.2.2.2.1) b.1 a.1.2.2.2.2.2.2.2.1 a.1.2.2.2.2.2.2.2.2.1 b.2.1 b.2.2.1),a.2.1)) (e (QgI u) (e (Us u) (e (Qcj u) (e (QfX u) (e (Qe4 u) t))))) func28
def QgO(q:D.G)(r:Y D.Op):I (D.G×Y Int):=O (QbN u q) fun s=>Qe (fun t ((a,b,_),g,i,h,_)=>cd (b<(a.length:Int)) (TN a b fun v=>O (QfW u g v) fun(j,k)=>TG (fun((l,m,c,_),n,o,e,_)=>TO (e.length+[c].length) 34359738368 (t ((l,(J (m+1)),()),n,o,(e++[c]),()))) fun f=>O (Vl u j) fun p=>C p (f ((a,b,k,()),j,i,h,())) (f ((a,b,k,()),g,i,h,()))) (some (g,h))) u ((r,0,()),s,z2,[],())
def QpC:o 40 (s [H,l .Op] [H,lI] (QgO u)):=f u (n 3 (m [.l 1 .Op,.r 2 .G,.r 4 .G,.o 6 1033 .int,.n 7] (c g (c (.one (c g (c (j [.l 1 .Op,.r 2 .G,.r 4 .G,.o 6 1033 .int,.n 7,.n 9] g) g))) g)))) (e (Qrp u) (e (Us u) (e (Qcj u) t))) func40
def Qi8(a:D.g)(b:Int):I (D.G×Int):=O (Qco u a) fun c=>C (!c) (some (z2,8)) (O (QJ u b 0 (J ((a.M.E.length:Int) - 1))) fun e=>C (!e) (some (z2,3)) (TN a.M.E b fun f=>O (QbP u f) fun g=>O (QgO u a.FR g) fun(h,i)=>some (h,0)))
def QmF:o 46 (s [t8,d] [H,d] (Qi8 u)):=f u g (e (Qf2 u) (e (QkH u) (e (QpC u) (e (ZF u) t)))) func46
def Qev(j:Int)(g:D.N)(v:D.Op):I (D.N×Int):=O (Yy u j g) fun w=>C (!w) (some (z4,8)) (cd (g.FA≠2) (some (z4,22)) (Qe (fun y ((k,h,_),b,c,i,_)=>cd (h<(b.j.length:Int)) (TN b.j h fun z=>cd (z.Op.S=c.S) (some (z4,4)) (y ((k,(J (h+1)),()),b,c,i,()))) (cd (256<=(b.j.length:Int)) (some (z4,5)) (O (Wq u b) fun a=>TO (a.j.length+[(D.m.mk b.Q c)].length) 34359738368 (TK b.S fun e=>TP e a.E8.length (O a.E8[e]? fun A=>TG (fun(_,B,(l,m,n,o,p,_),q,r,s,_)=>some ((D.N.mk l m n o q p r s),0)) fun f=>O (X4 u k) fun t=>cd (t=1) (f ((),i,(a.S,a.Q,a.FZ,a.FA,(((a.j++[(D.m.mk b.Q c)]).length:Nat):Int),()),(a.j++[(D.m.mk b.Q c)]),a.FQ,(List.set a.E8 e (((a.j++[(D.m.mk b.Q c)]).length:Nat):Int)),())) (f ((),i,(a.S,a.Q,a.FZ,a.FA,a.d,()),(a.j++[(D.m.mk b.Q c)]),a.FQ,(List.set a.E8 e (((a.j++[(D.m.mk b.Q c)]).length:Nat):Int)),()))))))) u ((j,0,()),g,v,z4,())))
def Qns:o 157 (s [d,zG,t6] [zG,d] (Qev u)):=f u (n 3 (c (c g (.one (k [.n 0,.r 4 .N,.r 5 .Op,.r 6 .N,.n 8] g))) (n 4 (c (j [.r 6 .N,.s 9 (.one (.TM 1009))] g [(1009,.box [v,v,v,v,.own 1044005,v,.own 1044008,.own 1044011]),p 1044005 .m,p 1044008 .bool,p 1044011 .int]) g)))) (e (Xu u) (e (Uc u) (e (Ut u) t))) func157
def Qcl(b:D.M)(c:Int)(i:D.Op):I (D.M×Int):=O (VX u b c) fun f=>cd (f≠0) (some (z5,f)) (TN b.FP c fun j=>C j (some (z5,21)) (O (Xc u b) fun a=>TK c fun g=>TP g a.E.length (O a.E[g]? fun k=>O (Qev u (b.E.length:Int) k i) fun(l,h)=>cd (h≠0) (some (z5,h)) (TK c fun e=>TP e a.E.length (O a.E[e]? fun m=>some ((D.M.mk (List.set a.E e l) a.u a.FP a.Fg),0))))))
def Qho:o 98 (s [K,d,t6] [K,d] (Qcl u)):=f u g (e (YF u) (e (Vn u) (e (Qns u) t))) func98
def QdM(b:D.g)(g:Int)(a:D.Op):I (D.g×Int×Int):=TG (fun((h,_),c,e,n,_)=>cd (c.FN=1099511627776) (some (z0,0,5)) (O (Qcl u c.M h e) fun(i,f)=>cd (f≠0) (some (z0,0,f)) (O (QbN u c.FR) fun j=>some ((D.g.mk j i (J (c.FN+1))),e.S,0)))) fun k=>O (Qco u b) fun l=>C l (O (QdG u (D.Op.mk b.FN a.Z a.Region a.Fence a.At a.Page a.K a.W a.e a.a a.t)) fun m=>C m (k ((g,()),b,(D.Op.mk b.FN a.Z a.Region a.Fence a.At a.Page a.K a.W a.e a.a a.t),z0,())) (some (z0,0,8))) (some (z0,0,8))
def Qi7:o 50 (s [t8,d,t6] [t8,d,d] (QdM u)):=f u (n 2 (c (j [.n 1,.r 3 .g,.r 5 .Op,.r 6 .g] g) g)) (e (Qf2 u) (e (Qcj u) (e (QfX u) (e (Qho u) t)))) func50
def Qcn(a:D.G)(b:Int)(c:Int)(e:Int):I (D.Op×Int):=TG (fun((f,g,h,_),i,o,_)=>some ((D.Op.mk g 2 f (J (i.Fence+1)) h 0 0 0 0 z6 z7),0)) fun j=>O (Vl u a) fun k=>C (!k) (some (z3,8)) (O (QJ u b 0 4) fun l=>C l (O (QJ u c 1 1099511627776) fun m=>C m (O (QJ u e 0 8589934592) fun n=>C n (cd (a.Fence=1048576) (some (z3,5)) (j ((b,c,e,()),a,z3,()))) (some (z3,1))) (some (z3,1))) (some (z3,1)))
def Qkp:o 101 (s [H,d,d,d] [t6,d] (Qcn u)):=f u (c g (c (j [.n 1,.n 2,.n 3,.r 4 .G,.r 8 .Op] g) g)) (e (Us u) (e (ZF u) t)) func101
def Wo(v:D.G)(w:Int):I (Y D.T):=TG (fun(_,y,_)=>some y) fun k=>Qe (fun z ((A,l,_),i,j,_)=>TG (fun((g,b,_),c,a,_)=>TG (fun((m,n,_),o,p,_)=>z ((m,(J (n+1)),()),o,p,())) fun e=>TN c.H b fun q=>O (Qh0 u q) fun(f,r)=>C r (cd (f<=g) (TN c.H b fun h=>TO (a.length+[(D.T.mk h.S f [])].length) 34359738368 (e ((g,b,()),c,(a++[(D.T.mk h.S f [])]),()))) (e ((g,b,()),c,a,()))) (e ((g,b,()),c,a,()))) fun s=>cd (l<(i.H.length:Int)) (O (Vl u i) fun t=>C t (s ((A,l,()),i,j,())) (k ((),j,()))) (k ((),j,()))) u ((w,0,()),v,[],())
def Qdh:o 59 (s [H,d] [l .T] (Wo u)):=f u (n 2 (c (j [.o 5 1045 .T] (c g (.one (k [.n 1,.r 2 .G,.o 5 1045 .T,.n 6] (c (j [.n 1,.r 2 .G,.o 5 1045 .T,.n 6] g) (c (j [.n 1,.r 2 .G,.o 5 1045 .T,.n 6] g) g)))))) g)) (e (Us u) (e (QdF u) t)) func59
def QbX(k:D.G)(r:Int)(s:Int)(t:Int):I (Y D.Op):=TG (fun((F,G,v,_),w,_)=>O (Wo u w v) fun H=>Qe (fun zE ((y,z,A,l,a,_),c,e,_)=>cd (a<(l.length:Int)) (TN l a fun B=>O (QgN u c B.K) fun(b,zG)=>TG (fun((f,g,h,zH,i,m,_),j,n,o,_)=>TO (o.length+[(D.Op.mk (J (g+i)) 3 f j.Fence h n.S m 0 0 z6 z7)].length) 34359738368 (zE ((f,g,h,zH,(J (i+1)),()),j,(o++[(D.Op.mk (J (g+i)) 3 f j.Fence h n.S m 0 0 z6 z7)]),()))) fun p=>cd (b.p=2) (p ((y,z,A,l,a,(-1),()),c,b,e,())) (p ((y,z,A,l,a,b.E7,()),c,b,e,()))) (some e)) u ((F,G,v,H,0,()),w,[],())) fun E=>O (Qcn u k r s t) fun(L,q)=>cd (q=8) (some []) (cd (q=1) (some []) (cd (r≠k.E5) (some []) (cd (1099511627776<(J (s+(k.H.length:Int)))) (some []) (E ((r,s,t,()),k,())))))
def QpH:o 102 (s [H,d,d,d] [l .Op] (QbX u)):=f u (c g (c (j [.n 1,.n 2,.n 3,.r 4 .G] g) (n 2 (m [.n 1,.n 2,.n 3,.r 4 .G,.o 11 1082 .Op,.l 12 .T,.n 13] (c g (c (.one (n 2 (c (.TG [G 1,G 2,G 3,r 4,(11,.one (.own 1082)),li 12 .T,G 13,r 14,G 16] [w 1004 .G,w 1014 .Page,p 1082 .Op] g) g))) g)))))) (e (Qmy u) (e (Qdh u) (e (Qkp u) t))) func102
def QcY(g:D.N)(h:D.Op):I AH:=Qe (fun i ((c,_),b,a,_)=>cd (c<(b.j.length:Int)) (TG (fun((j,_),k,l,_)=>i (((J (j+1)),()),k,l,())) fun e=>TN b.j c fun f=>cd (f.Op.Z=a.Z) (cd (a.Z=2) (cd (f.Op.Region=a.Region) (TN b.j c fun m=>cd (m.Q=b.Q) sT (cd (a.Z=3) (cd (f.Op.Page=a.Page) (cd (f.Op.K=a.K) sT (e ((c,()),b,a,()))) (e ((c,()),b,a,()))) (e ((c,()),b,a,())))) (cd (a.Z=3) (cd (f.Op.Page=a.Page) (cd (f.Op.K=a.K) sT (e ((c,()),b,a,()))) (e ((c,()),b,a,()))) (e ((c,()),b,a,())))) (cd (a.Z=3) (cd (f.Op.Page=a.Page) (cd (f.Op.K=a.K) sT (e ((c,()),b,a,()))) (e ((c,()),b,a,()))) (e ((c,()),b,a,())))) (e ((c,()),b,a,()))) sF) u ((g.d,()),g,h,())
def QmG:o 103 (s [zG,t6] [h] (QcY u)):=f u (c g (m [.r 2 .N,.r 3 .Op,.n 5] (c g (c (j [.r 2 .N,.r 3 .Op,.n 5] g) g)))) t func103
def Qi6(b:D.g)(a:Int)(h:Int):I (D.g×Int×Int):=O (Qi8 u b a) fun(i,w)=>cd (w≠0) (some (z0,0,w)) (TN b.M.E a fun c=>TN b.M.FP a fun a3=>C a3 (some (z0,0,21)) (cd (c.FA≠2) (some (z0,0,22)) (O (QJ u h 0 8589934592) fun a4=>C (!a4) (some (z0,0,1)) (TG (fun((a5,a6,_),v,a8,a9,_)=>O (QbN u v.FR) fun y=>O (Xc u v.M) fun z=>Qe (fun A ((j,e,k,f,_),n,l,m,_)=>cd (f<(e.length:Int)) (TG (fun((B,zH,E,F,_),G,H,zE,_)=>A ((B,zH,E,(J (F+1)),()),G,H,zE,())) fun o=>TN e f fun zG=>O (QcY u l zG) fun L=>C L (o ((j,e,k,f,()),n,l,m,())) (TN e f fun zC=>O (QdM u m j zC) fun(zI,aB,p)=>cd (p≠0) (some (z0,0,p)) (o ((j,e,(J (k+1)),f,()),n,l,zI,())))) (some (m,k,0))) u ((a5,a6,0,0,()),a8,a9,(D.g.mk y z v.FN),())) fun g=>cd (i.E5≠a) (O (Qcn u i a b.FN h) fun(q,r)=>cd (r≠0) (some (z0,0,r)) (TO [q].length 34359738368 (g ((a,[q],()),b,z0,c,())))) (cd (c.d<(c.j.length:Int)) (O (Qet u c) fun W=>cd (W≠c.Q) (O (Qcn u i a b.FN h) fun(s,t)=>cd (t≠0) (some (z0,0,t)) (TO [s].length 34359738368 (g ((a,[s],()),b,z0,c,())))) (O (QbX u i a b.FN h) fun Z=>g ((a,Z,()),b,z0,c,()))) (O (QbX u i a b.FN h) fun aA=>g ((a,aA,()),b,z0,c,())))))))
def Qru:o 52 (s [t8,d,d] [t8,d,d] (Qi6 u)):=f u (n 6 (c (j [.n 1,.r 3 .g,.r 6 .g,.r 11 .N,.l 12 .Op] g) (n 2 (m [.n 1,.r 6 .g,.r 11 .N,.l 12 .Op,.r 15 .g,.n 16,.n 17] (c g (c (j [.n 1,.r 6 .g,.r 11 .N,.l 12 .Op,.r 15 .g,.n 16,.n 17] g) g)))))) (e (Qcj u) (e (YF u) (e (QmF u) (e (Qi7 u) (e (ZF u) (e (Qh1 u) (e (Qkp u) (e (QpH u) (e (QmG u) t))))))))) func52
def QdK(v:D.M):I (Int×AH):=TG (fun((w,y,_),_)=>some (w,y)) fun k=>Qe (fun z ((h,i,l,_),j,_)=>TG (fun((e,f,a,_),b,_)=>TG (fun((m,n,o,_),p,_)=>z ((m,n,(J (o+1)),()),p,())) fun c=>TN b.E a fun g=>cd (g.FA=2) (TN b.FP a fun q=>C q (c ((e,f,a,()),b,())) (C f (TN b.E e fun r=>cd (r.Q<g.Q) (c ((a,true,a,()),b,())) (c ((e,f,a,()),b,()))) (c ((a,true,a,()),b,())))) (c ((e,f,a,()),b,()))) fun s=>cd (l<(j.E.length:Int)) (O (Qa6 u j) fun t=>C t (s ((h,i,l,()),j,())) (k ((h,i,()),()))) (k ((h,i,()),()))) u ((0,false,0,()),v,())
def Qi4:o 86 (s [K] [d,h] (QdK u)):=f u (n 2 (c (j [.n 4,.s 5 h] (c g (.one (k [.r 1 .M,.n 4,.s 5 h,.n 6] (c (j [.r 1 .M,.n 4,.s 5 h,.n 6] g) (c (j [.r 1 .M,.n 4,.s 5 h,.n 6] g) g)))))) g)) (e (Qa7 u) t) func86
def V3(k:D.FC)(b:Int)(c:Int)(e:Int):I (D.a×D.FC):=O (Qc u k 5) fun(f,l)=>O (Qc u l 5) fun(a,g)=>TG (fun(_,q,m,n,_)=>some (m,n)) fun h=>cd ((J (1+a))=3) (O (QZ u g [1,60,600,5000]) fun(o,p)=>h ((),z6,(D.a.mk b c (J (f - 1)) (J (1+a)) o e),p,())) (cd ((J (1+a))=4) (O (Qc u g 4) fun(i,j)=>h ((),z6,(D.a.mk b c (J (f - 1)) (J (1+a)) i e),j,())) (h ((),z6,(D.a.mk b c (J (f - 1)) (J (1+a)) 0 e),g,())))
def QhI:o 145 (Qn [.one (.TM 1),d,d,d] [w 1 .FC] [t12] [w 1 .FC] [] (D.a×D.FC) kz15 (fun x y=>V3 u y.1 x.1 x.2.1 x.2.2.1)):=i u (n 2 (c (j [.r 8 .a,.r 9 .a] g [w 1 .FC]) g)) kz17 (e (Q8 u) (e (YE u) t)) func145
def QcI(p0:D.FC)(f:D.G)(i:Int)(g:Int):I (D.Op×D.FC):=O (Qc u p0 5) fun(e,a1)=>O (Qc u a1 3) fun(k,a3)=>O (Qc u a3 3) fun(p,j)=>TG (fun(_,a6,a7,a8,_)=>some (a7,a8)) fun h=>cd ((J (1+e))=1) (O (Qc u j 2) fun(F,G)=>O (Qc u G (J ((J ((f.b.k.length:Int)+1)) - F))) fun(H,zE)=>h ((),z3,(D.Op.mk i (J (1+e)) k f.Fence g (J (1+p)) 0 H 0 z6 z7),zE,())) (cd ((J (1+e))=2) (O (QZ u j [1,1,1,0]) fun(zG,L)=>h ((),z3,(D.Op.mk i (J (1+e)) k (J (f.Fence+zG)) g 0 0 0 0 z6 z7),L,())) (cd ((J (1+e))=3) (TG (fun((q,r,_),zC,s,t,c,_)=>TG (fun((zI,W,_),v,l,w,b,_)=>TG (fun(_,Z,m,a,n,_)=>O (QgN u Z a.Page) fun(y,a9)=>C a9 (cd (y.p=2) (h ((),m,(D.Op.mk a.S a.Z a.Region a.Fence a.At a.Page (-1) a.W a.e a.a a.t),n,())) (h ((),m,(D.Op.mk a.S a.Z a.Region a.Fence a.At a.Page y.E7 a.W a.e a.a a.t),n,()))) (h ((),m,a,n,()))) fun z=>O (Wo u l zI) fun o=>cd (0<(o.length:Int)) (O (Qc u v (o.length:Int)) fun(aA,aB)=>TN o aA fun aC=>z ((),l,w,(D.Op.mk b.S b.Z b.Region b.Fence b.At aC.K b.K b.W b.e b.a b.t),aB,())) (z ((),l,w,(D.Op.mk b.S b.Z b.Region b.Fence b.At W b.K b.W b.e b.a b.t),v,()))) fun A=>O (Qc u zC 8) fun(aD,B)=>cd (aD=0) (O (Qc u B 3) fun(aE,aF)=>A ((q,r,()),aF,s,t,(D.Op.mk c.S c.Z c.Region aE c.At c.Page c.K c.W c.e c.a c.t),())) (A ((q,r,()),B,s,t,c,()))) fun zH=>O (Qc u j 6) fun(aG,E)=>cd (aG=0) (O (Qc u E 3) fun(aH,aI)=>zH ((g,(J (1+p)),()),aI,f,z3,(D.Op.mk i (J (1+e)) aH f.Fence g 0 0 0 0 z6 z7),())) (zH ((g,(J (1+p)),()),E,f,z3,(D.Op.mk i (J (1+e)) (max f.E5 0) f.Fence g 0 0 0 0 z6 z7),()))) (cd ((J (1+e))=4) (O (Qc u j 30) fun(aJ,aK)=>O (V3 u aK (J (1+aJ)) (J (1+p)) g) fun(aL,aM)=>h ((),z3,(D.Op.mk i (J (1+e)) k f.Fence g 0 0 0 0 aL z7),aM,())) (cd ((J (1+e))=5) (O (Qc u j 3) fun(aN,aO)=>O (Xr u aO) fun(aP,aQ)=>h ((),z3,(D.Op.mk i (J (1+e)) k f.Fence g 0 0 0 aN z6 aP),aQ,())) (h ((),z3,(D.Op.mk i (J (1+e)) k f.Fence g 0 0 0 0 z6 z7),j,()))))))
def Ql3:o 87 (Qn [.one (.TM 1),H,d,d] [w 1 .FC] [t6] [w 1 .FC] [] (D.Op×D.FC) kz15 (fun x y=>QcI u y.1 x.1 x.2.1 x.2.2.1)):=i u (n 3 (c (j [.r 8 .Op,.r 9 .Op] (c g (.one (n 5 (c (c g (c (.TG [(0,.one (.TM 1)),G 3,r 5,r 8,r 9,G 10] [w 1 .FC,w 1005 .G,w 1008 .Op,w 1009 .Op] g) (c (.TG [(0,.one (.TM 1)),G 3,r 5,r 8,r 9,G 10] [w 1 .FC,w 1005 .G,w 1008 .Op,w 1009 .Op] g) (c g (c (j [.r 5 .G,.r 8 .Op,.r 9 .Op] g [w 1 .FC]) g))))) g)))) [w 1 .FC]) g)) kz17 (e (Q8 u) (e (Qmy u) (e (YE u) (e (Qdh u) (e (Qa0 u) (e (QhI u) t)))))) func87
def Qi1(b:D.M)(c:Int):I (D.M×Int):=O (VX u b c) fun f=>cd (f≠0) (some (z5,f)) (TN b.FP c fun g=>C g (some (z5,9)) (O (Xc u b) fun a=>TK c fun e=>TP e a.FP.length (O a.FP[e]? fun h=>some ((D.M.mk a.E a.u (List.set a.FP e true) a.Fg),0))))
def Qrt:o 25 (s [K,d] [K,d] (Qi1 u)):=f u g (e (YF u) (e (Vn u) t)) func25
def Qi3(b:D.M):I D.M:=O (Qa6 u b) fun c=>C (!c) (some z5) (O (Xc u b) fun a=>some (D.M.mk a.E a.u a.FP []))
def QmD:o 57 (s [K] [K] (Qi3 u)):=f u g (e (YF u) (e (Qa7 u) t)) func57
def Qew(c:Int)(b:D.N):I (D.N×Int):=O (Yy u c b) fun e=>C (!e) (some (z4,8)) (O (Wq u b) fun a=>some ((D.N.mk a.S a.Q a.FZ 0 a.j a.d [] []),0))
def Qnt:o 107 (s [d,zG] [zG,d] (Qew u)):=f u g (e (Uc u) (e (Ut u) t)) func107
def Qcm(c:D.M)(b:Int):I (D.M×Int):=O (VX u c b) fun g=>cd (g≠0) (some (z5,g)) (TN c.FP b fun i=>C (!i) (some (z5,9)) (O (Xc u c) fun a=>TK b fun e=>TP e a.FP.length (O a.FP[e]? fun m=>TK b fun h=>TP h a.E.length (O a.E[h]? fun j=>O (Qew u (c.E.length:Int) j) fun(k,n)=>TK b fun f=>TP f a.E.length (O a.E[f]? fun l=>some ((D.M.mk (List.set a.E f k) a.u (List.set a.FP e false) a.Fg),0))))))
def Qhp:o 58 (s [K,d] [K,d] (Qcm u)):=f u g (e (YF u) (e (Vn u) (e (Qnt u) t))) func58
def QpF(e:D.M)(a:Int)(b:Int):I (D.M×Int):=O (VX u e a) fun f=>cd (f≠0) (some (z5,f)) (O (QJ u b 0 (J ((e.E.length:Int) - 1))) fun g=>C (!g) (some (z5,3)) (cd (a=b) (some (z5,1)) (O (QdL u e.Fg a b) fun h=>C h (some (z5,9)) (O (Xc u e) fun c=>TO (c.Fg.length+[(D.FD.mk (min a b) (max a b))].length) 34359738368 (some ((D.M.mk c.E c.u c.FP (c.Fg++[(D.FD.mk (min a b) (max a b))])),0))))))
def QuY:o 88 (s [K,d,d] [K,d] (QpF u)):=f u g (e (YF u) (e (ZF u) (e (Vn u) (e (Qf1 u) t)))) func88
def QgS(b:D.M)(c:Int):I (D.M×Int):=O (Qi5 u b c) fun e=>cd (e≠0) (some (z5,e)) (cd (256<=(b.u.length:Int)) (some (z5,5)) (O (Xc u b) fun a=>O (Xc u b) fun f=>TK c fun g=>TP g f.u.length (O f.u[g]? fun h=>TO (a.u.length+[h].length) 34359738368 (some ((D.M.mk a.E (a.u++[h]) a.FP a.Fg),0)))))
def QpG:o 164 (s [K,d] [K,d] (QgS u)):=f u g (e (YF u) (e (QmE u) t)) func164
def QbE(p0:D.FC)(t:D.M):I (D.M×D.FC):=O (Qc u p0 (t.E.length:Int)) fun(a0,a1)=>TG (fun((a2,_),a3,a4,a5,_)=>O (Qc u a3 (a4.u.length:Int)) fun(a6,a7)=>TG (fun((a8,a9,_),aB,k,v,_)=>TG (fun((aC,_),aD,bD,aE,E,_)=>cd (aC≠0) (some (aD,E)) (some (aE,E))) fun c=>O (Qc u aB 16) fun(l,w)=>cd (l=0) (O (Qf0 u k a8) fun(aF,aG)=>c ((aG,()),k,v,aF,w,())) (TG (fun((y,F,G,q,aH,_),z,s,A,H,_)=>C aH (O (Qc u z 60) fun(aI,aJ)=>O (Qcl u s y (D.Op.mk (J (1+aI)) 2 0 0 0 0 0 0 0 z6 z7)) fun(aK,aL)=>c ((aL,()),s,A,aK,aJ,())) (TG (fun((g,m,n,a,aM,_),h,e,i,o,_)=>C aM (O (V7 u e g) fun(aN,aO)=>c ((aO,()),e,i,aN,h,())) (TG (fun((zE,B,zG,r,aP,_),j,b,f,aQ,_)=>C aP (O (QaG u b B) fun(aR,aS)=>c ((aS,()),b,f,aR,j,())) (cd (r=11) (O (Qi2 u b B) fun(aT,aU)=>c ((aU,()),b,f,aT,j,())) (cd (r=12) (O (QgS u b B) fun(aV,aW)=>c ((aW,()),b,f,aV,j,())) (cd (r=13) (O (Qi1 u b zE) fun(aX,aY)=>c ((aY,()),b,f,aX,j,())) (cd (r=14) (O (Qc u j (b.E.length:Int)) fun(aZ,b0)=>O (Qcm u b aZ) fun(b1,b2)=>c ((b2,()),b,f,b1,b0,())) (cd (r=15) (O (Qi3 u b) fun b3=>O (Qc u j 2) fun(b4,L)=>cd (b4=0) (O (Qc u L (b.E.length:Int)) fun(b5,b6)=>O (QpF u b zE b5) fun(b7,b8)=>c ((b8,()),b,f,b7,b6,())) (c ((zG,()),b,f,b3,L,()))) (c ((zG,()),b,f,aQ,j,())))))))) fun p=>cd (a=5) (p ((g,m,n,a,(decide (a=5)),()),h,e,i,o,())) (cd (a=6) (p ((g,m,n,a,(decide (a=6)),()),h,e,i,o,())) (cd (a=7) (p ((g,m,n,a,(decide (a=7)),()),h,e,i,o,())) (cd (a=8) (p ((g,m,n,a,(decide (a=8)),()),h,e,i,o,())) (cd (a=9) (p ((g,m,n,a,(decide (a=9)),()),h,e,i,o,())) (p ((g,m,n,a,(decide (a=10)),()),h,e,i,o,())))))))) fun zC=>cd (q=3) (zC ((y,F,G,q,(decide (q=3)),()),z,s,A,H,())) (zC ((y,F,G,q,(decide (q=4)),()),z,s,A,H,())))) fun zI=>cd (l=1) (zI ((a8,a9,0,l,(decide (l=1)),()),w,k,v,k,())) (zI ((a8,a9,0,l,(decide (l=2)),()),w,k,v,k,())))) fun W=>O (Qc u a7 2) fun(b9,Z)=>cd (b9=0) (W ((a2,0,()),Z,a4,a5,())) (W ((a2,a6,()),Z,a4,a5,()))) fun zH=>O (QdK u t) fun(bA,bB)=>C bB (O (Qc u a1 3) fun(bC,aA)=>cd (0<bC) (zH ((bA,()),aA,t,z5,())) (zH ((a0,()),aA,t,z5,()))) (zH ((a0,()),a1,t,z5,()))
def QkA:o 109 (Qn [.one (.TM 1),K] [w 1 .FC] [K] [w 1 .FC] [] (D.M×D.FC) kz15 (fun x y=>QbE u y.1 x.1)):=i u (n 2 (c (.TG [(0,.one (.TM 1)),r 3,r 4,G 5] [w 1 .FC,w 1003 .M,w 1004 .M] g) (c g (c (.TG [(0,.one (.TM 1)),r 3,r 4,G 5,G 8] [w 1 .FC,w 1003 .M,w 1004 .M] g) (c g (c (j [.r 3 .M,.r 4 .M,.r 9 .M,.n 10] (c g (.one (n 2 (c (.TG [(0,.one (.TM 1)),r 3,r 4,G 5,G 8,r 9,G 10,G 38,(47,h)] [w 1 .FC,w 1003 .M,w 1004 .M,w 1009 .M] g) (c g (c (.TG [(0,.one (.TM 1)),r 3,r 4,G 5,G 8,r 9,G 10,G 38,(60,h)] [w 1 .FC,w 1003 .M,w 1004 .M,w 1009 .M] g) (c g (c (.TG [(0,.one (.TM 1)),r 3,r 4,G 5,G 8,r 9,G 10,G 38,(69,h)] [w 1 .FC,w 1003 .M,w 1004 .M,w 1009 .M] g) g)))))))) [w 1 .FC]) g)))))) kz17 (e (Q8 u) (e (Qck u) (e (Qrt u) (e (QmD u) (e (Qhp u) (e (Qko u) (e (Qhn u) (e (Qi4 u) (e (QuY u) (e (QmC u) (e (Qho u) (e (QpG u) t)))))))))))) func109
def UN(p0:D.FC)(m:D.g)(G:Int):I (D.g×Int×D.FC):=O (Qc u p0 (m.M.E.length:Int)) fun(H,zE)=>TG (fun((zG,L,_),a4,zC,zI,_)=>O (QZ u a4 [0,0,30,300]) fun(W,a8)=>TG (fun((a9,_),Z,aW,aA,_)=>some (Z,a9,aA)) fun b=>O (Qc u a8 8) fun(i,s)=>TG (fun((c,f,j,aB,_),n,g,k,_)=>C aB (O (Qi8 u g f) fun(aC,aX)=>O (QcI u n aC 1 c) fun(o,p)=>TG (fun((t,aD,_),v,w,aE,y,_)=>O (QdM u v aD aE) fun(aF,aY,aG)=>cd (aG=0) (b ((t,()),aF,w,y,())) (b ((t,()),v,w,y,()))) fun q=>cd (o.Z=3) (O (Qc u p 3) fun(aH,aI)=>q ((c,f,()),g,k,(D.Op.mk 0 1 0 0 c (J (1+aH)) 0 0 0 z6 z7),aI,())) (cd (o.Z=2) (O (Qc u p 3) fun(aJ,aK)=>q ((c,f,()),g,k,(D.Op.mk 0 1 0 0 c (J (1+aJ)) 0 0 0 z6 z7),aK,())) (q ((c,f,()),g,k,o,p,())))) (TG (fun((e,z,aL,aM,_),l,a,h,_)=>C aM (O (Qi6 u a z e) fun(aN,aZ,aO)=>cd (aO=0) (b ((e,()),aN,h,l,())) (b ((e,()),a,h,l,()))) (cd (aL=4) (O (V7 u a.M z) fun(aP,aQ)=>cd (aQ=0) (O (Xv u aP) fun aR=>b ((e,()),(D.g.mk a.FR aR a.FN),h,l,())) (b ((e,()),a,h,l,()))) (O (QbE u l a.M) fun(A,B)=>O (Qco u (D.g.mk a.FR A a.FN)) fun aS=>C aS (b ((e,()),(D.g.mk a.FR A a.FN),h,B,())) (b ((e,()),a,h,B,()))))) fun zH=>cd (j=2) (zH ((c,f,j,(decide (j=2)),()),n,g,k,())) (zH ((c,f,j,(decide (j=3)),()),n,g,k,())))) fun E=>cd (i=0) (E (((J (zG+W)),L,i,(decide (i=0)),()),s,zC,zI,())) (E (((J (zG+W)),L,i,(decide (i=1)),()),s,zC,zI,()))) fun r=>O (QdK u m.M) fun(aT,aU)=>C aU (O (Qc u zE 4) fun(aV,F)=>cd (0<aV) (r ((G,aT,()),F,m,z0,())) (r ((G,H,()),F,m,z0,()))) (r ((G,H,()),zE,m,z0,()))
def QiE:o 60 (Qn [.one (.TM 1),t8,d] [w 1 .FC] [t8,d] [w 1 .FC] [] (D.g×Int×D.FC) kz18 (fun x y=>UN u y.1 x.1 x.2.1)):=i u (n 2 (c (.TG [(0,.one (.TM 1)),G 2,r 4,r 6,G 8] [w 1 .FC,w 1004 .g,w 1006 .g] g) (c g (c (j [.n 2,.r 4 .g,.r 6 .g] (c g (.one (c (.TG [(0,.one (.TM 1)),G 2,r 4,r 6,G 8,G 48,(62,h)] [w 1 .FC,w 1004 .g,w 1006 .g] g) (c (n 2 (c (j [.n 2,.r 4 .g,.r 6 .g,.n 8,.r 13 .Op] g [w 1 .FC]) g)) (c (.TG [(0,.one (.TM 1)),G 2,r 4,r 6,G 8,G 48,(99,h)] [w 1 .FC,w 1004 .g,w 1006 .g] g) g))))) [w 1 .FC]) g)))) kz20 (e (Q8 u) (e (Qck u) (e (QcX u) (e (Qf2 u) (e (YE u) (e (QmF u) (e (Qi7 u) (e (Qru u) (e (Qi4 u) (e (Ql3 u) (e (QkA u) t))))))))))) func60
def V4(A:D.FC)(i:Int):I (D.g×Int×D.FC):=O (VS u A) fun(B,zH)=>O (VR u zH) fun(E,F)=>O (Qmz u B E) fun(G,zG)=>O (QZ u F [3,3,5,1]) fun(H,zE)=>O (QpI u G H) fun(a,L)=>TG (fun((j,k,_),l,m,n,_)=>O (Qc u l (J (j+1))) fun(o,p)=>Qe (fun q ((b,c,_),e,r,f,_)=>cd (0<c) (O (UN u e f b) fun(s,t,v)=>q ((t,(J (c - 1)),()),v,r,s,())) (some (f,b,e))) u ((k,o,()),p,m,n,())) fun g=>O (Qc u zE (a.M.E.length:Int)) fun(w,h)=>O (Uu u a.M w) fun(y,z)=>cd (z=0) (g ((i,864000,()),h,z0,(D.g.mk a.FR y a.FN),())) (g ((i,864000,()),h,z0,a,()))
def QhJ:o 13 (Qn [.one (.TM 1),d] [w 1 .FC] [t8,d] [w 1 .FC] [] (D.g×Int×D.FC) kz18 (fun x y=>V4 u y.1 x.1)):=i u (n 4 (c (.TG [(0,.one (.TM 1)),G 1,r 4,r 8,G 10] [w 1 .FC,w 1004 .g,w 1008 .g] g) (lp [(0,.one (.TM 1)),r 4,r 8,G 10,G 13] [w 1 .FC,w 1004 .g,w 1008 .g] g))) kz20 (e (Qn6 u) (e (Qdt u) (e (Qds u) (e (Qex u) (e (Q8 u) (e (YE u) (e (Qu0 u) (e (QiE u) t)))))))) func13
def Qce(a:D.g)(b:Int):I D.G:=TN a.M.E b fun c=>O (X5 u c) fun e=>O (YX u a.FR e) fun(f,g)=>some f
def Qhl:o 80 (s [t8,d] [H] (Qce u)):=f u g (e (UQ u) (e (Qbs u) t)) func80
def Qek(a:D.g)(b:Int):I (D.G×Int):=O (Xs u a) fun c=>C (!c) (some (z2,8)) (O (Qdy u b 0 (J ((a.M.E.length:Int) - 1))) fun e=>C (!e) (some (z2,3)) (O (Qce u a b) fun f=>some (f,0)))
def Qnk:o 27 (s [t8,d] [H,d] (Qek u)):=f u g (e (Ve u) (e (QfJ u) (e (Qhl u) t))) func27
def Wn(u:Nat)(a:D.site):I (Y D.m):=TN a.g.M.E a.region fun b=>TK b.d fun c=>TO c b.j.length (TF a a (some (List.drop c b.j)))
def Qe3:o 131 (Qn [.one (.TM 1)] [w 1 .site] [l .m] [] [1] (Y D.m) kz2 (fun x y=>Wn u y.1)):=i u g kz4 t func131
def QgB(u:Nat)(a:Int)(b:Int)(c:Int):I AH:=cd (b<=a) (cd (a<=c) sT sF) sF
def Qsy:o 300 (s [d,d,d] [h] (QgB u)):=f u g t func300
def Qcc(a:D.G)(b:Int)(c:Int)(e:Int):I Int:=O (XM u a) fun f=>C (!f) (some 8) (TG (fun(_,_)=>some 0) fun g=>O (QgB u b 0 4) fun h=>C h (O (QgB u c 1 1099511627776) fun i=>C i (O (QgB u e 0 8589934592) fun j=>C j (g ((),())) (some 1)) (some 1)) (some 1))
def Qhj:o 214 (s [H,d,d,d] [d] (Qcc u)):=f u (n 2 (c (j [] g) g)) (e (VT u) (e (Qsy u) t)) func214
def QaB(a:D.G)(b:Int)(c:Int)(e:Int):I (D.Op×Int):=O (Qcc u a b c e) fun f=>cd (f≠0) (some (z3,f)) (cd (a.Fence=1048576) (some (z3,5)) (some ((D.Op.mk c 2 b (J (a.Fence+1)) e 0 0 0 0 z6 z7),0)))
def Qnj:o 134 (s [H,d,d,d] [t6,d] (QaB u)):=f u g (e (Qhj u) t) func134
def Qdw(a:D.G)(b:Int):I (D.Page×AH):=O (QjL u a b) fun(c,e)=>C (!e) (some (z1,false)) (TN a.H c fun f=>O (QbW u f) fun g=>some (g,true))
def Qo8:o 156 (s [H,d] [E,h] (Qdw u)):=f u g (e (QiI u) (e (Qo9 u) t)) func156
def UR(j:D.G)(n:Int):I (Y D.T):=O (XM u j) fun o=>C (!o) (some []) (Qe (fun p ((g,h,i,a,_),b,_)=>cd (a<i) (TG (fun((q,r,s,k,_),l,_)=>p ((q,r,s,(J (k+1)),()),l,())) fun c=>TN h a fun e=>O (Va u e) fun(f,m)=>C m (cd (f<=g) (TO (b.length+[(D.T.mk e.S f [])].length) 34359738368 (c ((g,h,i,a,()),(b++[(D.T.mk e.S f [])]),()))) (c ((g,h,i,a,()),b,()))) (c ((g,h,i,a,()),b,()))) (some b)) u ((n,j.H,(j.H.length:Int),0,()),[],()))
def QkB:o 215 (s [H,d] [l .T] (UR u)):=f u (n 3 (m [.n 1,.o 5 1037 .T,.l 14 .Page,.n 15,.n 16] (n 2 (c (j [.n 1,.o 5 1037 .T,.l 14 .Page,.n 15,.n 16] g) g)))) (e (VT u) (e (UI u) t)) func215
def QcN(k:D.G)(q:Int)(r:Int)(t:Int):I (Y D.Op):=TG (fun((zG,L,v,_),w,_)=>O (UR u w v) fun y=>Qe (fun zC ((z,A,B,s,c,a,_),e,f,_)=>cd (a<c) (TN s a fun zH=>O (Qdw u e zH.K) fun(b,zI)=>TG (fun((g,h,i,l,m,E,F,G,_),j,n,o,_)=>TO (o.length+[(D.Op.mk (J (h+l)) 3 g j.Fence i n.S m 0 0 z6 z7)].length) 34359738368 (zC ((g,h,i,E,F,(J (G+1)),()),j,(o++[(D.Op.mk (J (h+l)) 3 g j.Fence i n.S m 0 0 z6 z7)]),()))) fun p=>cd (b.p=2) (p ((z,A,B,a,(-1),s,c,a,()),e,b,f,())) (p ((z,A,B,a,b.E7,s,c,a,()),e,b,f,()))) (some f)) u ((zG,L,v,y,(y.length:Int),0,()),w,[],())) fun H=>O (Qcc u k q r t) fun zE=>cd (zE≠0) (some []) (cd (q≠k.E5) (some []) (cd (1099511627776<(J (r+(k.H.length:Int)))) (some []) (H ((q,r,t,()),k,()))))
def Qme:o 135 (Qn [H,d,d,d] [] [.one (.own 1069)] [p 1069 .Op] [] (Y D.Op) kz6 (fun x y=>QcN u x.1 x.2.1 x.2.2.1 x.2.2.2.1)):=i u (c g (c (j [.n 1,.n 2,.n 3,.r 4 .G] g) (c g (m [.n 1,.n 2,.n 3,.r 4 .G,.o 9 1069 .Op,.l 37 .T,.n 38,.n 39] (n 2 (c (.one (n 3 (c (.TG [G 1,G 2,G 3,r 4,(9,.one (.own 1069)),G 10,r 12,G 14,li 37 .T,G 38,G 39] [w 1004 .G,w 1012 .Page,p 1069 .Op] g) g))) g)))))) kz10 (e (Qo8 u) (e (Qhj u) (e (QkB u) t))) func135
def VJ(u:Nat)(c:D.m)(a:D.site)(b:Int):I AH:=cd (c.Op.Z=2) (cd (c.Op.Region=a.region) (cd (c.Q=b) (TF a a (TF b b sT)) (TF a a (TF b b sF))) (TF a a (TF b b sF))) (TF a a (TF b b sF))
def Qel:o 133 (Qn [.st .m,.one (.TM 101),.one (.TM 103)] [(101,.box [.TM 102]),w 102 .site,w 103 .int] [h] [(101,.box [.TM 102])] [102,103] AH kz24 (fun x y=>VJ u x.1 y.2.1 y.2.2.1)):=i u g kz4 t func133
def Za(e:Y D.m)(c102:D.site)(c103:Int):I Int:=Qe (fun h ((f,g,a,_),_,b,(c,_),_)=>cd (a<g) (TN f a fun i=>O (VJ u i b c) fun j=>C j (TF b c102 (TF c c103 (some a))) (h ((f,g,(J (a+1)),()),(),b,(c,()),()))) (TF b c102 (TF c c103 (some (-1))))) u ((e,(e.length:Int),0,()),(),c102,(c103,()),())
def XG:o 213 (Qn [l .m,.one (.clo 133 [101,103])] [(101,.box [.TM 102]),w 102 .site,w 103 .int] [d] [(101,.box [.TM 102])] [102,103] Int kz24 (fun x y=>Za u x.1 y.2.1 y.2.2.1)):=i u (c g (m [.l 0 .m,.s 1 (.one (.clo 133 [101,103])),.n 7,.n 8] g [(101,.box [.TM 102]),w 102 .site,(103,.box [v])])) kz4 (e (Qel u) t) func213
def Qm(a:Y D.m)(c102:D.site)(c103:Int):I AH:=O (Za u a c102 c103) fun b=>TF c102 c102 (TF c103 c103 (some (decide (0<=b))))
def Y9:o 132 (Qn [l .m,.one (.clo 133 [101,103])] [(101,.box [.TM 102]),w 102 .site,w 103 .int] [h] [(101,.box [.TM 102])] [102,103] AH kz24 (fun x y=>Qm u x.1 y.2.1 y.2.2.1)):=i u g kz4 (e (XG u) t) func132
def Qao(u:Nat)(b:D.m)(a:D.Op):I AH:=cd (b.Op.Z=3) (cd (b.Op.Page=a.Page) (cd (b.Op.K=a.K) (TF a a sT) (TF a a sF)) (TF a a sF)) (TF a a sF)
def Qdd:o 138 (Qn [.st .m,.one (.TM 101)] [w 101 .Op] [h] [] [101] AH kz2 (fun x y=>Qao u x.1 y.1)):=i u g kz4 t func138
def Q2(c:Y D.m)(c101:D.Op):I Int:=Qe (fun g ((e,f,a,_),b,_)=>cd (a<f) (TN e a fun h=>O (Qao u h b) fun i=>C i (TF b c101 (some a)) (g ((e,f,(J (a+1)),()),b,()))) (TF b c101 (some (-1)))) u ((c,(c.length:Int),0,()),c101,())
def Xg:o 213 (Qn [l .m,.one (.clo 138 [101])] [w 101 .Op] [d] [] [101] Int kz2 (fun x y=>Q2 u x.1 y.1)):=i u (c g (m [.l 0 .m,.s 1 (.one (.clo 138 [101])),.n 7,.n 8] g [w 101 .Op])) kz4 (e (Qdd u) t) func213
def QV(a:Y D.m)(c101:D.Op):I AH:=O (Q2 u a c101) fun b=>TF c101 c101 (some (decide (0<=b)))
def YU:o 132 (Qn [l .m,.one (.clo 138 [101])] [w 101 .Op] [h] [] [101] AH kz2 (fun x y=>QV u x.1 y.1)):=i u g kz4 (e (Xg u) t) func132
def YM(b:D.Op)(a:Y D.m):I (AH×Y D.m):=O (QV u a b) fun c=>some (c,a)
def UX:o 137 (Qn [t6,.one (.TM 101)] [(101,.box [.TQ .m])] [h] [(101,.box [.TQ .m])] [] (AH×Y D.m) (fun q=>((q.1,()),(q.2,()),())) (fun x y=>YM u x.1 y.1.1)):=i u g (fun a b=>(a.1,b.1.1)) (e (YU u) t) func137
def Zd(b:Y D.Op)(c102:Y D.m):I (Int×Y D.m):=Qe (fun i ((e,c,_),(f,_),a,_)=>cd (c<e) (TK c fun g=>TP g a.length (O a[g]? fun j=>O (YM u j f) fun(k,h)=>C k (TF a b (some (c,h))) (i ((e,(J (c+1)),()),(h,()),a,())))) (TF a b (some ((-1),f)))) u (((b.length:Int),0,()),(c102,()),b,())
def XP:o 110 (Qn [.one (.own 101),.one (.clo 137 [102])] [p 101 .Op,(102,.box [.TQ .m])] [d] [(102,.box [.TQ .m])] [101] (Int×Y D.m) (fun q=>((q.1,()),(q.2,()),())) (fun x y=>Zd u y.1 y.2.1.1)):=i u (c g (lp [(0,.one (.own 101)),(1,.one (.clo 137 [102])),G 7,G 8] [(102,.box [.TQ .m]),p 101 .Op] g)) (fun a b=>(a.1,b.1.1)) (e (UX u) t) func110
def QH(f:Y D.Op)(c102:Y D.m):I (Nat×Nat×Y D.m×Y D.Op):=O (Zd u f c102) fun(m,n)=>cd (m=(-1)) (some (0,f.length,n,f)) (Qe (fun r ((c,g,_),(o,_),a,_)=>cd (g<(a.length:Int)) (TG (fun((s,t,_),(v,_),p,_)=>r ((s,(J (t+1)),()),(v,()),p,())) fun h=>TK g fun i=>TP i a.length (O a[i]? fun j=>O (YM u j o) fun(q,k)=>C (!q) (TK c fun e=>TP e a.length (O a[e]? fun w=>h (((J (c+1)),g,()),(k,()),(List.set a e j),()))) (h ((c,g,()),(k,()),a,())))) (TK c fun b=>TO b a.length (TO b a.length (TO a.length a.length (TK c fun l=>TO l (((List.take b a)++(List.replicate (a.length - b) z3))++(List.drop a.length a)).length (some (0,l,o,(((List.take b a)++(List.replicate (a.length - b) z3))++(List.drop a.length a))))))))) u ((m,(J (m+1)),()),(n,()),f,()))
def XF:o 136 (Qn [.one (.own 101),.one (.clo 137 [102])] [p 101 .Op,(102,.box [.TQ .m])] [.one (.view 101)] [(102,.box [.TQ .m]),p 101 .Op] [] (Nat×Nat×Y D.m×Y D.Op) (fun q=>((q.1,q.2.1,()),(q.2.2.1,()),q.2.2.2,())) (fun x y=>QH u y.1 y.2.1.1)):=i u (n 3 (lp [(0,.one (.own 101)),(1,.one (.clo 137 [102])),G 5,G 6] [(102,.box [.TQ .m]),p 101 .Op] (c g (c (.TG [(0,.one (.own 101)),(1,.one (.clo 137 [102])),G 5,G 6] [(102,.box [.TQ .m]),p 101 .Op] g) g)))) (fun a b=>(a.1,a.2.1,b.1.1,b.2.1)) (e (XP u) (e (UX u) t)) func136
def Xt(a:D.site)(e:Int):I (Y D.Op×Int):=O (Qce u a.g a.region) fun c=>TN a.g.M.E a.region fun g=>O (Wn u a) fun b=>TG (fun((q,_),_,h,r,(s,_),_)=>O (QcN u r h.region h.g.FN q) fun t=>O (QH u t s) fun(v,w,y,i)=>TF h a (some ((List.drop v (List.take w i)),0))) fun f=>cd (c.E5≠a.region) (O (Qm u b a g.Q) fun j=>C j (TF a a (some ([],0))) (O (QaB u c a.region a.g.FN e) fun(k,l)=>TF a a (some ([k],l)))) (cd (0<(b.length:Int)) (TN b (J ((b.length:Int) - 1)) fun m=>cd (m.Q≠g.Q) (O (Qm u b a g.Q) fun n=>C n (TF a a (some ([],0))) (O (QaB u c a.region a.g.FN e) fun(o,p)=>TF a a (some ([o],p)))) (f ((e,()),(),a,c,(b,()),()))) (f ((e,()),(),a,c,(b,()),())))
def QfK:o 79 (Qn [.one (.TM 1),d] [w 1 .site] [l .Op,d] [] [1] (Y D.Op×Int) kz22 (fun x y=>Xt u y.1 x.1)):=i u (n 3 (c (.TG [G 1,r 2,r 6,r 8] [(1002,.box [.TM 1]),w 1 .site,w 1006 .G,(1008,.box [.TQ .m])] g) g)) kz23 (e (Qhl u) (e (Qe3 u) (e (Y9 u) (e (Qnj u) (e (Qme u) (e (XF u) t)))))) func79
def Vf(a:D.g)(f:Int)(m:Int):I (D.g×Int×Int):=O (Xs u a) fun y=>C (!y) (some (z0,0,8)) (O (Qdy u f 0 (J ((a.M.E.length:Int) - 1))) fun z=>C (!z) (some (z0,0,3)) (TN a.M.FP f fun A=>C A (some (z0,0,21)) (TN a.M.E f fun B=>cd (B.FA≠2) (some (z0,0,22)) (O (Qdy u m 0 8589934592) fun zH=>C (!zH) (some (z0,0,1)) (O (Qcd u a f) fun n=>O (Xt u n m) fun(E,F)=>TG (fun((o,_),G,g,_)=>cd (o≠0) (some (z0,0,o)) (some (g.g,g.count,0))) fun h=>Qe (fun p ((i,b,j,_),c,e,_)=>TG (fun((k,l,_),q,r,_)=>TN k l fun s=>O (ZM u r s) fun(t,v)=>p ((k,t,(J (l+1)),()),q,v,())) fun w=>cd (j<(i.length:Int)) (cd (b=0) (w ((i,j,()),c,e,())) (h ((b,()),c,e,()))) (h ((b,()),c,e,()))) u ((E,F,0,()),z0,n,()))))))
def Qmg:o 26 (s [t8,d,d] [t8,d,d] (Vf u)):=f u (n 4 (c (j [.r 6 .g,.s 9 (.one (.TM 1054019)),.n 11] (c g (.one (k [.r 6 .g,.s 9 (.one (.TM 1054019)),.l 10 .Op,.n 11,.n 12] (c (j [.r 6 .g,.s 9 (.one (.TM 1054019)),.l 10 .Op,.n 12] g [w 1054019 .site]) g) [w 1054019 .site]))) [w 1054019 .site]) g)) (e (Ve u) (e (Qhk u) (e (Qa5 u) (e (QfJ u) (e (QfK u) t))))) func26
def WV(G:Y Int):I AH:=O (QjJ u G) fun a0=>C (!a0) (O (Qdr u) fun a1=>some a1) (O (QfC u G) fun a2=>O (V4 u a2 8) fun(zH,a4,a5)=>O (Qi3 u zH.M) fun H=>Qe (fun L7 ((E,F,i,_),b,_)=>cd (i<F) (TG (fun((zE,zG,L,_),zC,_)=>L7 ((zE,zG,(J (L+1)),()),zC,())) fun r=>O (Qcm u b.M i) fun(zI,W)=>cd (W=0) (r ((E,F,i,()),(D.g.mk b.FR zI b.FN),())) (r ((E,F,i,()),b,()))) (Qe (fun Z ((e,j,f,g,a,_),c,_)=>cd (a<g) (TG (fun((a7,aA,aB,aC,aD,_),aE,_)=>Z ((a7,aA,aB,aC,(J (aD+1)),()),aE,())) fun k=>TN f a fun m=>TN c.M.E j fun n=>cd (n.d<m.d) (k ((e,a,f,g,a,()),c,())) (cd (m.d=n.d) (cd ((n.j.length:Int)<(m.j.length:Int)) (k ((e,a,f,g,a,()),c,())) (k ((e,j,f,g,a,()),c,()))) (k ((e,j,f,g,a,()),c,())))) (Qe (fun aF ((s,o,t,_),l,_)=>cd (t<3) (O (Uu u l.M o) fun(aG,aH)=>cd (aH≠0) sF (aF ((s,o,(J (t+1)),()),(D.g.mk l.FR aG l.FN),()))) (Qe (fun aI ((p,h,v,_),q,_)=>cd (v<4) (O (Vf u q h p) fun(w,aX,y)=>cd (y=22) (O (Qdr u) fun aJ=>some aJ) (O (V7 u w.M h) fun(aK,aL)=>TG (fun((aM,z,aN,_),aY,A,aO,_)=>O (Xv u aO) fun aP=>O (V7 u aP z) fun(aQ,aR)=>cd (aR≠0) sF (O (Xv u aQ) fun aS=>aI ((aM,z,(J (aN+1)),()),(D.g.mk A.FR aS A.FN),()))) fun aT=>cd (y≠0) sF (cd (aL≠0) sF (aT ((p,h,v,()),q,w,aK,()))))) (O (Qek u q h) fun(B,aU)=>cd (aU=0) (O (Wo u B p) fun aV=>cd ((aV.length:Int)=0) (cd (B.E5=h) (O (Qdr u) fun aW=>C aW sT sF) sF) sF) sF)) u (((J (s+5000)),o,0,()),l,()))) u ((e,j,0,()),c,()))) u ((E,0,b.M.E,(b.M.E.length:Int),0,()),b,()))) u ((a4,(H.E.length:Int),0,()),(D.g.mk zH.FR H zH.FN),()))
def QfA:o 9 (sB [lI] fun x=>WV u x.1):=i u (n 5 (c (c g (.one (k [.r 4 .g,.n 5,.n 42,.n 43] (n 2 (c (j [.r 4 .g,.n 5,.n 42,.n 43] g) g))))) (c g (c (c g (.one (k [.r 4 .g,.n 5,.n 9,.l 60 .N,.n 61,.n 62] (n 2 (c (j [.r 4 .g,.n 5,.n 9,.l 60 .N,.n 61,.n 62] g) g))))) (c (c g (.one (k [.r 4 .g,.n 5,.n 9,.n 13] g))) (c g (m [.r 4 .g,.n 5,.n 9,.n 16] (c g (c (.one (n 3 (c (j [.r 4 .g,.n 5,.n 9,.n 16,.r 17 .g,.r 20 .M] g) g))) g))))))))) kz4 (e (Qo1 u) (e (QoY u) (e (Qke u) (e (QhJ u) (e (Qex u) (e (Qck u) (e (QcX u) (e (Qmg u) (e (Qnk u) (e (QmD u) (e (Qhp u) (e (Qdh u) t)))))))))))) func9
end
end Go.Proofs.YtlllfgmajglnhaaGreat
set_option linter.unusedSimpArgs false
set_option autoImplicit true
set_option relaxedAutoImplicit true
namespace Go.Proofs.YtlllfgmajglnhaaGreat
open Go AM
section
def QmT{a n:Int}(hn:1<=n): -n<a.tmod n/\a.tmod n<n:=by
 rcases(show a<0\/0<=a by omega)with h|h
 .have e:a.tmod n = - ((-a).tmod n):=by rw[ER,ES]
  rw[e,Bq U]
  have h1:=Cp (-a) (b:=n) U
  have h2:=Co (-a) (b:=n) U
  omega
 .rw[Bq h]
  have h1:=Cp a (b:=n) U
  have h2:=Co a (b:=n) U
  omega
structure QY (L:Y Int) (d:D.FC):Prop where
 l:d.L=L
 lo:0<=d.At
 hi:d.At<=(L.length:Int)
def Qsw(hL:L.length<=500)(hd:QY L d)(hn:n<=1000000):
  Ok (Qc fu d n) fun r=>QY L r.2/\0<=r.1/\(1<=n->r.1<n)/\(n<1->r.1=0):=by
 unfold Qc AM.TG
 have h0:=hd.lo
 have h1:=hd.hi
 have hl:(d.L.length:Int)=(L.length:Int):=by rw[hd.l]
 refine Ok.ite (fun h=>Ok.s ⟨hd,Aj _,fun h=>by show(0:Int)<n;omega,fun _=>rfl⟩) fun h2=>Ok.ite (fun h=>Ok.s ⟨hd,Aj _,fun h=>by show(0:Int)<n;omega,fun _=>rfl⟩) fun h3=>?_
 dsimp only
 refine Ok.at hd.lo U (Ok.Z ?_)
 have ht:=QmT (a:=V d.L d.At.toNat) (n:=n) U
 rw[Qjn (x:=d.At+1) U U]
 refine Ok.ite (fun h4=>?_) (fun h4=>?_)
 .rw[Qjn U U]
  exact Ok.s ⟨⟨hd.l,by show 0<=d.At+1;omega,by show d.At+1<=_;omega⟩,by dsimp only;omega,fun _=>by dsimp only;omega,fun h=>U⟩
 .exact Ok.s ⟨⟨hd.l,by show 0<=d.At+1;omega,by show d.At+1<=_;omega⟩,by dsimp only;omega,fun _=>by dsimp only;omega,fun h=>U⟩
def nx(hL:L.length<=500)(hd:QY L d)(h1:1<=n)(hn:n<=1000000):
  Ok (Qc fu d n) fun r=>QY L r.2/\0<=r.1/\r.1<n:=(Qsw hL hd hn).mono fun r h=>⟨h.1,h.2.1,h.2.2.1 h1⟩
def QcK(hL:L.length<=500)(hd:QY L d)(hl:1<=l.length)(hl2:l.length<=1000):
  Ok (QZ fu d l) fun r=>QY L r.2/\r.1∈l:=by
 unfold QZ
 refine Ok.opt (Qsw hL hd U) fun⟨v,d1⟩ ⟨h1,h2,h3,_⟩=>?_
 have h4:=h3 U
 dsimp only at h2 h4 |-
 exact Ok.at h2 h4 (Ok.s ⟨h1,Qf U⟩)
def Qmc(hL:L.length<=500)(hd:QY L d):Ok (Xr fu d) fun r=>QY L r.2/\Qb0 r.1:=by
 unfold Xr
 refine Ok.opt (QcK hL hd Ob Ob) fun⟨a0,d1⟩ ⟨h1,m1⟩=>?_
 dsimp only at h1 m1 |-
 refine Ok.opt (nx hL h1 U U) fun⟨a2,d2⟩ ⟨h2,l2,u2⟩=>?_
 dsimp only at h2 l2 u2 |-
 refine Ok.opt (nx hL h2 U U) fun⟨a4,d3⟩ ⟨h3,l3,u3⟩=>?_
 dsimp only at h3 l3 u3 |-
 refine Ok.opt (QcK hL h3 Ob Ob) fun⟨a6,d4⟩ ⟨h4,m4⟩=>?_
 dsimp only at h4 m4 |-
 simp only[AZ,BI,or_false]at m1 m4
 rw[Qb (x:=864000+a0) U,Qb (x:=864000+a0+a6) U]
 refine Ok.j (Ok.ite (fun h=>?_) (fun h=>Ok.ite (fun h'=>?_) (fun h'=>?_)))
 .refine Ok.opt (nx hL h4 U U) fun⟨a7,d5⟩ ⟨h5,l5,u5⟩=>?_
  dsimp only at h5 l5 u5 |-
  rw[Qb (x:=a4+1) U,Qb (x:=a4+1+a7) U,Bq U]
  exact Ok.Z (Ok.s ⟨h5,⟨by dsimp only;omega,.inl (by dsimp only;omega),fun _=>by dsimp only;omega,fun h=>by dsimp only at h;omega,by dsimp only;omega⟩⟩)
 .refine Ok.opt (nx hL h4 U U) fun⟨a7,d5⟩ ⟨h5,l5,u5⟩=>?_
  dsimp only at h5 l5 u5 |-
  rw[Qb (x:=a7 - 1) U]
  exact Ok.s ⟨h5,⟨by dsimp only;omega,by dsimp only;omega,fun h=>by dsimp only at h;omega,fun _=>rfl,by dsimp only;omega⟩⟩
 .exact Ok.s ⟨h4,⟨by dsimp only;omega,.inl (by dsimp only;omega),fun h=>by dsimp only at h;omega,fun _=>rfl,by dsimp only;omega⟩⟩
def Qp[AK α]{l:Y α}(h:i<l.length):l.take i++[V l i]=l.take (i+1):=by
 rw[Cu h]
 simp[V,AQ,AR h]
def V5{P:α->Prop}{l:Y α}{x:α}(h:∀y∈l,P y)(hx:P x):∀y∈l++[x],P y:=fun y hy=>by
 rcases Af.1 hy with hy|hy
 .exact h y hy
 .rw[Ai.1 hy];exact hx
def QAT(hL:L.length<=500)(hd:QY L d)(hf:10<=fu):Ok (VS fu d) fun r=>QY L r.2/\Zg 2 r.1:=by
 unfold VS
 refine Ok.opt (QcK hL hd Ob Ob) fun⟨a0,d1⟩ ⟨h1,m1⟩=>?_
 dsimp only at h1 m1 |-
 simp only[AZ,BI,or_false]at m1
 refine Ok.loop (fun m x=>x.1.1=Yw/\0<=x.1.2.1/\x.1.2.1<=4/\QY L x.2.1/\x.2.2.2.1.1=[⟨bZ,a0,[]⟩]/\x.2.2.2.2.1.map (·.Name)=Yw.take x.1.2.1.toNat/\(∀p∈x.2.2.2.2.1,QaN p)/\(4 - x.1.2.1).toNat=m) (m:=4) U
  ⟨rfl,by dsimp only;omega,by dsimp only;omega,h1,rfl,rfl,Ob,rfl⟩ ?_
 rintro m ⟨⟨a3,a4,⟨⟩⟩,a5,⟨⟩,⟨a6,⟨⟩⟩,a7,⟨⟩⟩ ⟨i1,i2,i3,i4,i5,i6,i7,i8⟩ k hk
 dsimp only at i1 i2 i3 i4 i5 i6 i7 i8 |-
 subst i1;subst i5
 refine Ok.ite (fun h4=>?_) (fun h4=>?_)
 .have hlen:Yw.length=4:=rfl
  have hal:a7.length=a4.toNat:=by have:=BC List.length i6;rw[AX,Ae,hlen]at this;omega
  refine Ok.at U U ?_
  refine Ok.opt (nx hL i4 U U) fun⟨a9,d2⟩ ⟨h2,_⟩=>?_
  dsimp only at h2 |-
  refine Ok.TG (fun y=>y.1.1=Yw/\y.1.2.1=a4/\QY L y.2.1/\y.2.2.2.1.1=[⟨bZ,a0,[]⟩]/\y.2.2.2.2.1.Name=V Yw a4.toNat/\QaN y.2.2.2.2.1/\y.2.2.2.2.2.1=a7) (fun y hy=>?_) (fun zG hJ=>?_)
  .obtain⟨⟨a11,a12,⟨⟩⟩,a13,⟨⟩,⟨a14,⟨⟩⟩,a15,a16,⟨⟩⟩:=y
   obtain⟨g1,g2,g3,g4,g5,g6,g7⟩:=hy
   dsimp only at g1 g2 g3 g4 g5 g6 g7 |-
   subst g1;subst g2;subst g4;subst g7
   refine Ok.LS ?_
   rw[Qb U]
   refine hk (4 - (a12+1)).toNat _ U ⟨rfl,by dsimp only;omega,by dsimp only;omega,g3,rfl,?_,V5 i7 g6,rfl⟩
   dsimp only
   rw[Aq,i6,AU,Al,g5,Qp (by rw[hlen];omega),show(a12+1).toNat=a12.toNat+1 by omega]
  .refine Ok.opt (nx hL h2 U U) fun⟨a18,d3⟩ ⟨h3,_⟩=>?_
   dsimp only at h3 |-
   refine Ok.ite (fun h5=>?_) (fun h5=>hJ _ ⟨rfl,rfl,h3,rfl,rfl,⟨rfl,⟨rfl,rfl⟩,.inl rfl⟩,rfl⟩)
   refine Ok.opt (QcK hL h3 Ob Ob) fun⟨a20,d4⟩ ⟨h6,m6⟩=>?_
   dsimp only at h6 m6 |-
   refine Ok.opt (QcK hL h6 Ob Ob) fun⟨a22,d5⟩ ⟨h7,m7⟩=>?_
   dsimp only at h7 m7 |-
   simp only[AZ,BI,or_false]at m6 m7
   exact hJ _ ⟨rfl,rfl,h7,rfl,rfl,⟨rfl,⟨rfl,rfl⟩,.inr ⟨a20,a22,rfl,m6,m7⟩⟩,rfl⟩
 .have e4:a4=4:=U
  subst e4
  refine Ok.loop (fun m x=>0<=x.1.1/\x.1.1<=2/\QY L x.2.1/\x.2.2.2.1.1=[⟨bZ,a0,[]⟩]/\x.2.2.2.2.1=a7/\x.2.2.2.2.2.1.map (·.Name)=YS.take x.1.1.toNat/\(∀s∈x.2.2.2.2.2.1,Qfd 2 s)/\(2 - x.1.1).toNat=m) (m:=2) U
   ⟨by dsimp only;omega,by dsimp only;omega,i4,rfl,rfl,rfl,Ob,rfl⟩ ?_
  rintro m2 ⟨⟨a25,⟨⟩⟩,a26,⟨⟩,⟨a27,⟨⟩⟩,a28,a29,⟨⟩⟩ ⟨j1,j2,j3,j4,j5,j6,j7,j8⟩ k2 hk2
  dsimp only at j1 j2 j3 j4 j5 j6 j7 j8 |-
  subst j4;subst j5
  refine Ok.ite (fun h5=>?_) (fun h5=>?_)
  .have hlen:YS.length=2:=rfl
   have hal:a29.length=a25.toNat:=by have:=BC List.length j6;rw[AX,Ae,hlen]at this;omega
   refine Ok.opt (QcK hL j3 Ob Ob) fun⟨a30,d2⟩ ⟨h2,m2⟩=>?_
   dsimp only at h2 m2 |-
   refine Ok.opt (QcK hL h2 Ob Ob) fun⟨a32,d3⟩ ⟨h3,m3⟩=>?_
   dsimp only at h3 m3 |-
   refine Ok.opt (QcK hL h3 Ob Ob) fun⟨a34,d4⟩ ⟨h4',m4⟩=>?_
   dsimp only at h4' m4 |-
   refine Ok.opt (nx hL h4' U U) fun⟨a36,d5⟩ ⟨h6,l6,u6⟩=>?_
   dsimp only at h6 l6 u6 |-
   refine Ok.opt (nx hL h6 U U) fun⟨a38,d6⟩ ⟨h7,l7,u7⟩=>?_
   dsimp only at h7 l7 u7 |-
   simp only[AZ,BI,or_false]at m2 m3 m4
   rw[Qb (x:=1+a36) U,Qb (x:=1+a38) U]
   refine Ok.loop (fun m x=>x.1.1=a25/\0<=x.1.2.1/\QY L x.2.1/\x.2.2.2.1.1=[⟨bZ,a0,[]⟩]/\x.2.2.2.2.1=(ByteArray.mk #[108],0,a30,a32,a34,1+a36,0,0,())/\x.2.2.2.2.2.1=a28/\x.2.2.2.2.2.2.1=a29/\
    (∀z∈x.2.2.2.2.2.2.2.1,0<=z/\z<4)/\x.1.2.1+(x.2.2.2.2.2.2.2.1.length:Int)=1+a38/\x.1.2.1.toNat=m) (m:=(1+a38).toNat) U ⟨rfl,by dsimp only;omega,h7,rfl,rfl,rfl,rfl,Ob,by dsimp only;simp,rfl⟩ ?_
   rintro m3' ⟨⟨a41,a42,⟨⟩⟩,a43,⟨⟩,⟨a44,⟨⟩⟩,⟨a45,a46,a47,a48,a49,a50,a51,a52,⟨⟩⟩,a53,a54,a55,⟨⟩⟩ ⟨n1,n2,n3,n4,n5,n6,n7,n8,n9,n10⟩ k3 hk3
   dsimp only at n1 n2 n3 n4 n5 n6 n7 n8 n9 n10 |-
   cases n5;subst n1;subst n4;subst n6;subst n7
   refine Ok.ite (fun h8=>?_) (fun h8=>?_)
   .refine Ok.opt (nx hL n3 U U) fun⟨a56,d7⟩ ⟨h9,l9,u9⟩=>?_
    dsimp only at h9 l9 u9 |-
    refine Ok.LS ?_
    rw[Qb U]
    exact hk3 (a42 - 1).toNat _ U ⟨rfl,by dsimp only;omega,h9,rfl,rfl,rfl,rfl,V5 n8 ⟨l9,u9⟩,by dsimp only;rw[List.length_append];simp only[Ad,Ao];omega,rfl⟩
   .refine Ok.at U (by simp only[Ad,Ao];omega) ?_
    refine Ok.opt (nx hL n3 U U) fun⟨a59,d7⟩ ⟨h9,l9,u9⟩=>?_
    dsimp only at h9 l9 u9 |-
    refine Ok.loop (fun m x=>x.1.1=a41/\0<=x.1.2.1/\QY L x.2.1/\x.2.2.2.1.1=[⟨bZ,a0,[]⟩]/\x.2.2.2.2.1=(V YS a41.toNat,[(⟨ByteArray.mk #[108],0,⟨a30,a32⟩,a34,1+a36,a55,[],0,0⟩:D.x)],())/\x.2.2.2.2.2.1=a53/\x.2.2.2.2.2.2.1=a54/\
     (∀z∈x.2.2.2.2.2.2.2.1,Qb0 z)/\x.1.2.1+(x.2.2.2.2.2.2.2.1.length:Int)=a59/\x.1.2.1.toNat=m) (m:=a59.toNat) U ⟨rfl,by dsimp only;omega,h9,rfl,rfl,rfl,rfl,Ob,by dsimp only;simp,rfl⟩ ?_
    rintro m4' ⟨⟨a62,a63,⟨⟩⟩,a64,⟨⟩,⟨a65,⟨⟩⟩,⟨a66,a67,⟨⟩⟩,a68,a69,a70,⟨⟩⟩ ⟨p1,p2,p3,p4,p5,p6,p7,p8,p9,p10⟩ k4 hk4
    dsimp only at p1 p2 p3 p4 p5 p6 p7 p8 p9 p10 |-
    cases p5;subst p1;subst p4;subst p6;subst p7
    refine Ok.ite (fun h10=>?_) (fun h10=>?_)
    .refine Ok.opt (Qmc hL p3) fun⟨a71,d8⟩ ⟨h11,e11⟩=>?_
     dsimp only at h11 e11 |-
     refine Ok.LS ?_
     rw[Qb U]
     exact hk4 (a63 - 1).toNat _ U ⟨rfl,by dsimp only;omega,h11,rfl,rfl,rfl,rfl,V5 p8 e11,by dsimp only;rw[List.length_append];simp only[Ad,Ao];omega,rfl⟩
    .refine Ok.LS ?_
     rw[Qb U]
     refine hk2 (2 - (a62+1)).toNat _ U ⟨by dsimp only;omega,by dsimp only;omega,p3,rfl,rfl,?_,V5 j7 ⟨⟨_,rfl,⟨rfl,rfl,m2,by dsimp only;omega,by dsimp only;omega,by dsimp only;omega,by dsimp only;omega,n8,rfl,⟨rfl,rfl⟩⟩⟩,by dsimp only;omega,p8⟩,rfl⟩
     dsimp only
     rw[Aq,j6,AU,Al,Qp (by rw[hlen];omega),show(a62+1).toNat=a62.toNat+1 by omega]
  .have e2:a25=2:=U
   subst e2
   exact Ok.s ⟨j3,⟨⟨a0,rfl,m1⟩,i6,i7,rfl,j6,j7⟩⟩
def QxW(hL:L.length<=500)(hd:QY L d)(hb:b.v.length<=100):
  Ok (Xb fu d b) fun r=>QY L r.2/\UD b.v.length r.1:=by
 unfold Xb
 refine Ok.opt (nx hL hd U U) fun⟨v,d1⟩ ⟨h1,h2,h4⟩=>?_
 dsimp only at h1 h2 h4 |-
 refine Ok.TG (fun y=>0<=y.1.1/\y.1.1<3/\(y.1.1=2->1<=b.v.length)/\QY L y.2.1/\y.2.2.2.2.1=b.v/\y.2.2.2.2.2.1=b.k) (fun y hy=>?_) (fun zG hJ=>?_)
 .obtain⟨⟨a2,⟨⟩⟩,d2,⟨⟩,tg,ts,ps,⟨⟩⟩:=y
  obtain⟨g1,g2,g0,g3,g4,g5⟩:=hy
  dsimp only at g1 g2 g0 g3 g4 g5 |-
  subst g4;subst g5
  refine Ok.at g1 (by simp;omega) ?_
  have h3:a2=0\/a2=1\/a2=2:=U
  have e:V [4,2,(b.v.length:Int)] a2.toNat=if a2=0 then 4 else if a2=1 then 2 else(b.v.length:Int):=by rcases h3 with h3|h3|h3<;>subst h3<;>rfl
  rw[e]
  refine Ok.opt (nx hL g3 (by(repeat' split)<;>omega) (by(repeat' split)<;>omega)) fun⟨v2,d3⟩ ⟨k1,k2,k3⟩=>?_
  dsimp only at k1 k2 k3 |-
  refine Ok.TF (Ok.TF (Ok.s ⟨k1,⟨h3,k2,fun h=>?_,fun h=>?_,fun h=>?_⟩⟩))<;>dsimp only at h|-<;>subst h<;>simpa using k3
 .refine Ok.ite (fun h5=>Ok.ite (fun h6=>hJ _ ⟨by dsimp only;omega,by dsimp only;omega,fun h=>by dsimp only at h;omega,h1,rfl,rfl⟩) (fun h6=>hJ _ ⟨h2,h4,fun h=>U,h1,rfl,rfl⟩)) (fun h5=>hJ _ ⟨h2,h4,fun h=>absurd h h5,h1,rfl,rfl⟩)
def QAL(hL:L.length<=500)(hd:QY L d)(hf:10<=fu):
  Ok (VR fu d) fun r=>QY L r.2/\QU r.1:=by
 unfold VR
 refine Ok.opt (nx hL hd U U) fun⟨v,d1⟩ ⟨h1,h2,h4⟩=>?_
 dsimp only at h1 h2 h4 |-
 refine Ok.loop (fun m x=>QY L x.2.1/\0<=x.1.1/\x.1.1+(x.2.2.2.2.1.length:Int)<=2/\x.2.2.2.2.1.map (·.Name)=Qii.take x.2.2.2.2.1.length/\(∀t∈x.2.2.2.2.1,Qqa t)/\x.1.1.toNat=m) (m:=v.toNat) U ⟨h1,h2,by dsimp only;simp;omega,rfl,Ob,rfl⟩ ?_
 rintro m ⟨⟨a3,⟨⟩⟩,d2,⟨⟩,⟨⟩,ts,⟨⟩⟩ ⟨i1,i2,i3,i5,i6,i4⟩ k hk
 dsimp only at i1 i2 i3 i5 i6 i4 |-
 refine Ok.ite (fun h5=>?_) (fun h5=>?_)
 .refine Ok.at U (by simp only[Ad,Ao];omega) ?_
  refine Ok.opt (nx hL i1 U U) fun⟨v2,d3⟩ ⟨j1,j2,j3⟩=>?_
  dsimp only at j1 j2 j3 |-
  refine Ok.TG (fun y=>QY L y.2.1/\y.1.1=a3/\y.2.2.2.2.2.1=ts/\y.2.2.2.2.1.Name=V Qii ts.length/\Qqa y.2.2.2.2.1) (fun y hy=>?_) (fun zG hJ=>?_)
  .obtain⟨⟨a9,⟨⟩⟩,d4,⟨⟩,⟨⟩,tm,ts2,⟨⟩⟩:=y
   obtain⟨q1,q2,q3,q4,q5⟩:=hy
   dsimp only at q1 q2 q3 q4 q5 |-
   subst q2;subst q3
   refine Ok.LS ?_
   rw[Qjn U U]
   refine hk (a9 - 1).toNat _ U ⟨q1,by dsimp only;omega,by dsimp only;rw[List.length_append];simp only[Ad,Ao];omega,?_,V5 i6 q5,rfl⟩
   dsimp only
   rw[Aq,i5,AU,Al,q4,Qp (by show _<2;omega),Ab];rfl
  .refine Ok.opt (nx hL j1 U U) fun⟨v3,d4⟩ ⟨k1,_⟩=>?_
   dsimp only at k1 |-
   refine Ok.ite (fun _=>?_) (fun _=>hJ _ ⟨k1,rfl,rfl,rfl,⟨by simp[Asc],Ob,by simp;omega⟩⟩)
   refine Ok.opt (nx hL k1 U U) fun⟨v4,d5⟩ ⟨l1,l2,l3⟩=>?_
   dsimp only at l1 l2 l3 |-
   rw[Qb U]
   exact Ok.TO Ob (hJ _ ⟨l1,rfl,rfl,rfl,⟨by simp[Asc];omega,Ob,by simp;omega⟩⟩)
 .refine Ok.opt (nx hL i1 U U) fun⟨v2,d3⟩ ⟨j1,j2,j4⟩=>?_
  dsimp only at j1 j2 j4 |-
  rw[Qjn U U]
  refine Ok.loop (fun m x=>QY L x.2.1/\0<=x.1.1/\x.2.2.2.2.1=ts/\x.1.1+(x.2.2.2.2.2.1.length:Int)=1+v2/\x.2.2.2.2.2.1.map (·.Name)=Qm8.take x.2.2.2.2.2.1.length/\(∀p∈x.2.2.2.2.2.1,Qdl ts.length p)/\x.1.1.toNat=m) (m:=(1+v2).toNat) U ⟨j1,by dsimp only;omega,rfl,by dsimp only;simp,rfl,Ob,rfl⟩ ?_
  rintro m ⟨⟨a21,⟨⟩⟩,d4,⟨⟩,⟨⟩,ts2,ps,⟨⟩⟩ ⟨n1,n2,n3,n4,n6,n7,n5⟩ k2 hk2
  dsimp only at n1 n2 n3 n4 n5 n6 n7 |-
  subst n3
  refine Ok.ite (fun h6=>?_) (fun h6=>Ok.s ⟨n1,⟨by dsimp only;omega,i5,i6,by dsimp only;omega,n6,n7⟩⟩)
  refine Ok.at U (by simp only[Ad,Ao];omega) ?_
  refine Ok.opt (QcK hL n1 Ob Ob) fun⟨v3,d5⟩ ⟨o1,r1⟩=>?_
  dsimp only at o1 r1 |-
  refine Ok.opt (nx hL o1 U U) fun⟨v4,d6⟩ ⟨o2,o3,o5⟩=>?_
  dsimp only at o2 o3 o5 |-
  simp only[AZ,BI,or_false]at r1
  rw[Qjn (x:=1+v4) U U]
  refine Ok.loop (fun m x=>QY L x.2.1/\x.1.1=a21/\0<=x.1.2.1/\x.2.2.2.2.1=(V Qm8 ps.length,v3,())/\x.2.2.2.2.2.1=ts2/\x.2.2.2.2.2.2.1=ps/\x.1.2.1+(x.2.2.2.2.2.2.2.1.length:Int)=1+v4/\(∀s∈x.2.2.2.2.2.2.2.1,StepOK' ts2.length s)/\x.1.2.1.toNat=m) (m:=(1+v4).toNat) U ⟨o2,rfl,by dsimp only;omega,rfl,rfl,rfl,by dsimp only;simp,Ob,rfl⟩ ?_
  rintro m3 ⟨⟨a31,a32,⟨⟩⟩,d7,⟨⟩,⟨⟩,⟨nm,rp,⟨⟩⟩,ts3,ps3,ss,⟨⟩⟩ ⟨p1,p2,p3,p0,p4,p5,p6,p8,p7⟩ k3 hk3
  dsimp only at p1 p2 p3 p0 p4 p5 p6 p7 p8 |-
  cases p0
  subst p2;subst p4;subst p5
  refine Ok.ite (fun h7=>?_) (fun h7=>?_)
  .refine Ok.opt (QcK hL p1 Ob Ob) fun⟨v5,d8⟩ ⟨s1,s2⟩=>?_
   dsimp only at s1 s2 |-
   refine Ok.opt (nx hL s1 U U) fun⟨v6,d9⟩ ⟨r2,_⟩=>?_
   dsimp only at r2 |-
   refine Ok.opt (nx hL r2 U U) fun⟨v7,d10⟩ ⟨r3,r4,r6⟩=>?_
   dsimp only at r3 r4 r6 |-
   simp only[AZ,BI,or_false]at s2
   refine Ok.loop (fun m x=>QY L x.2.1/\x.1.1=a31/\x.1.2.1=a32/\0<=x.1.2.2.1/\x.2.2.2.2.1=(V Qm8 ps3.length,v3,())/\x.2.2.2.2.2.1=(v5,decide (v6=0),())/\x.2.2.2.2.2.2.1=ts3/\x.2.2.2.2.2.2.2.1=ps3/\x.2.2.2.2.2.2.2.2.1=ss/\x.1.2.2.1+(x.2.2.2.2.2.2.2.2.2.1.length:Int)<=2/\(∀t∈x.2.2.2.2.2.2.2.2.2.1,UD ts3.length t)/\x.1.2.2.1.toNat=m) (m:=v7.toNat) U ⟨r3,rfl,rfl,by dsimp only;omega,rfl,rfl,rfl,rfl,rfl,by dsimp only;simp;omega,Ob,rfl⟩ ?_
   rintro m4 ⟨⟨a46,a47,a48,⟨⟩⟩,d11,⟨⟩,⟨⟩,⟨nm2,rp2,⟨⟩⟩,⟨wt,ur,⟨⟩⟩,ts4,ps4,ss4,tg,⟨⟩⟩ ⟨u1,u2,u3,u4,w1,w2,u5,u6,u7,u8,w3,u9⟩ k4 hk4
   dsimp only at u1 u2 u3 u4 u5 u6 u7 u8 u9 w1 w2 w3 |-
   cases w1;cases w2
   subst u2;subst u3;subst u5;subst u6;subst u7
   refine Ok.ite (fun h8=>?_) (fun h8=>?_)
   .refine Ok.opt (QxW hL u1 (by dsimp only;omega)) fun⟨v8,d12⟩ ⟨x1,x2⟩=>?_
    dsimp only at x1 x2 |-
    refine Ok.LS ?_
    rw[Qjn U U]
    exact hk4 (a48 - 1).toNat _ U ⟨x1,rfl,rfl,by dsimp only;omega,rfl,rfl,rfl,rfl,rfl,by dsimp only;rw[List.length_append];simp only[Ad,Ao];omega,V5 w3 x2,rfl⟩
   .refine Ok.LS ?_
    rw[Qjn U U]
    exact hk3 (a47 - 1).toNat _ U ⟨u1,rfl,by dsimp only;omega,rfl,rfl,rfl,by dsimp only;rw[List.length_append];simp only[Ad,Ao];omega,V5 p8 ⟨by dsimp only;omega,by dsimp only;omega,w3⟩,rfl⟩
  .refine Ok.LS ?_
   rw[Qjn U U]
   refine hk2 (a31 - 1).toNat _ U ⟨p1,by dsimp only;omega,rfl,by dsimp only;rw[List.length_append];simp only[Ad,Ao];omega,?_,V5 n7 ⟨by dsimp only;omega,by dsimp only;omega,p8⟩,rfl⟩
   dsimp only
   rw[Aq,n6,AU,Al,Qp (by show _<3;omega),Ab];rfl
end
def Qa{i:Nat}(h:i<1000000000):J ((i:Int)+1)=((i+1:Nat):Int):=by rw[Qb U];omega
def forall4{P:Nat->Prop}(h0:P 0)(h1:P 1)(h2:P 2)(h3:P 3):∀i,i<4->P i:=fun i hi=>by
 rcases(show i=0\/i=1\/i=2\/i=3 by omega)with rfl|rfl|rfl|rfl<;>assumption
def forall2{P:Nat->Prop}(h0:P 0)(h1:P 1):∀i,i<2->P i:=fun i hi=>by
 rcases(show i=0\/i=1 by omega)with rfl|rfl<;>assumption
def QkZ[AK α][AK β]{f:α->β}{l:Y α}{m:Y β}(h:l.map f=m)(hi:i<l.length):f (V l i)=V m i:=by
 subst h
 simp[V,AQ,AR hi]
def Zg.pnm(h:Zg n c)(hi:i<4):(V c.l i).Name=V Yw i:=QkZ h.pname (by rw[h.plen];exact hi)
def Zg.snm(h:Zg n c)(hi:i<2):(V c.f i).Name=V YS i:=QkZ h.sname (by rw[h.slen];exact hi)
def Zg.per(h:Zg n c)(hi:i<4):QaN (V c.l i):=h.person _ (Qf (by rw[h.plen];exact hi))
def Zg.sch(h:Zg n c)(hi:i<2):Qfd n (V c.f i):=h.sched _ (Qf (by rw[h.slen];exact hi))
def rIn:Uv fu n lo hi=some (decide (lo<=n/\n<=hi)):=cnd2
def rIdx:Yu fu i n=some (decide (0<=i/\i<n)):=cnd2
def r8In:U0 fu n lo hi=some (decide (lo<=n/\n<=hi)):=cnd2
def QB1(h:QaN p):Qd4 1000 p.Ff=some 0:=by
 rcases h.quiet with h|⟨a,b,h,ha,hb⟩
 .rw[h];kernel_rfl
 .rw[h]
  rcases ha with rfl|rfl<;>rcases hb with rfl|rfl|rfl<;>kernel_rfl
def Quc(h:QaN p):Qci 1000 p.Ff=some 0:=by
 rcases h.quiet with h|⟨a,b,h,ha,hb⟩
 .rw[h];kernel_rfl
 .rw[h]
  rcases ha with rfl|rfl<;>rcases hb with rfl|rfl|rfl<;>kernel_rfl
def hours0:QbR 1000 0=some true:=by kernel_rfl
def hours8:QdC 1000 0=some true:=by kernel_rfl
def Qm9(h:Zg n c)(hp:QaN p):Ws 1000 c p=some 0:=by
 refine Ok.eq ?_
 unfold Ws
 rw[hp.zone,hp.max.1,hp.max.2,h.zones.1]
 (repeat(first|with_reducible refine Ok.j ?_|with_reducible refine Ok.t ?_|with_reducible refine Ok.f ?_|with_reducible refine Ok.nt rfl ?_|with_reducible refine Ok.oe (rIdx) ?_|with_reducible refine Ok.oe (QB1 hp) ?_|with_reducible refine Ok.oe (hours0) ?_|(with_reducible refine Ok.p ?hh ?_;case hh=>(first|omega|decide|assumption|(dsimp only;omega)|(simp;done)))|(with_reducible refine Ok.n ?hh ?_;case hh=>(first|omega|decide|assumption|(dsimp only;omega)|(simp;done)))|with_reducible refine Ok.os ?_))
 exact Ok.s rfl
def day10:XN 1000 (J 10)=some true:=by kernel_rfl
def Qz2:Zp 1000=some 98980:=by kernel_rfl
def Qb0.day(h:Qb0 x):Int.tdiv x.To 86400=10:=by
 have:=h.time
 grind
def dayE(h:Qb0 x):XN 1000 (J (Int.tdiv x.To 86400))=some true:=by rw[h.day];exact day10
def Qqo(h:Zg n c)(hx:Qb0 x):VA 1000 c x=some 0:=by
 refine Ok.eq ?_
 have h1:=hx.kind;have h2:=hx.a;have h3:=hx.b;have h4:=hx.b0;have h5:=hx.time
 have hpl:=h.plen
 unfold VA
 rcases(show x.Z=0\/x.Z=1\/x.Z=2 by omega)with hk|hk|hk<;>rcases h2 with h2|h2<;>first|(exfalso;omega)|((repeat(first|with_reducible refine Ok.j ?_|with_reducible refine Ok.t ?_|with_reducible refine Ok.f ?_|with_reducible refine Ok.oe (rIn) ?_|with_reducible refine Ok.oe (rIdx) ?_|with_reducible refine Ok.oe (dayE hx) ?_|(with_reducible refine Ok.p ?hh ?_;case hh=>(first|omega|decide|assumption|(dsimp only;omega)|(simp;done)))|(with_reducible refine Ok.n ?hh ?_;case hh=>(first|omega|decide|assumption|(dsimp only;omega)|(simp;done)))|(with_reducible refine Ok.np ?hh ?_;case hh=>(first|omega|decide|assumption|(dsimp only;omega)|(simp;done)))|(with_reducible refine Ok.nzc ?hh ?_;case hh=>first|omega|decide)));exact Ok.s rfl)
def QyH(h:Zg n c)(hx:Qb0 x):Qk0 1000 c x=some 0:=by
 refine Ok.eq ?_
 have h1:=hx.kind;have h2:=hx.a;have h3:=hx.b;have h4:=hx.b0;have h5:=hx.time
 unfold Qk0
 rw[hx.day,h.plen,Qb (x:=10) U,show J (((4:Nat):Int) - 1)=3 from rfl]
 rcases(show x.Z=0\/x.Z=1\/x.Z=2 by omega)with hk|hk|hk<;>rcases h2 with h2|h2<;>first|(exfalso;omega)|((repeat(first|with_reducible refine Ok.j ?_|with_reducible refine Ok.oe (r8In) ?_|with_reducible refine Ok.oe (Qz2) ?_|(with_reducible refine Ok.p ?hh ?_;case hh=>(first|omega|decide|assumption|(dsimp only;omega)|(simp;done)))|(with_reducible refine Ok.n ?hh ?_;case hh=>(first|omega|decide|assumption|(dsimp only;omega)|(simp;done)))|(with_reducible refine Ok.np ?hh ?_;case hh=>(first|omega|decide|assumption|(dsimp only;omega)|(simp;done)))|(with_reducible refine Ok.nzc ?hh ?_;case hh=>first|omega|decide)));exact Ok.s rfl)
def dayL(h:Y2 l):XN 1000 l.T.Fj=some true:=by
 rcases h.day with h|h|h<;>rw[h]<;>kernel_rfl
def Qw2:XU 1000 x c=some (!decide (0<=x/\x<(c.l.length:Int))):=by
 unfold XU;rw[rIdx,Z0,Vq]
def QuG(h:Zg n c)(hm:∀x∈l,0<=x/\x<4)(hl:l.length<900):QE 1000 l c=some false:=by
 have key:QM 1000 l c=some (-1):=by
  refine Ok.eq ?_
  unfold QM
  refine Ok.run l.length (fun i=>((l,(l.length:Int),(i:Int),()),c,())) rfl U (fun i hi k hk=>?_) (fun k=>?_)
  .dsimp only
   have hx:=hm _ (Qf hi)
   refine Ok.P (Ok.atn hi (Ok.oe Qw2 (Ok.bf ?_ ?_)))
   .rw[h.plen];simp;omega
   .rw[Qa U];exact hk
  .dsimp only
   exact Ok.N (Ok.TF (Ok.s rfl))
 unfold QE
 rw[key,Z0,Vq];rfl
def wins0:Qd4 1000 []=some 0:=by kernel_rfl
def wins5:Qci 1000 []=some 0:=by kernel_rfl
def QoC(h:Zg n c)(hl:Y2 l):WX 1000 c l=some 0:=by
 refine Ok.eq ?_
 unfold WX
 have h1:=hl.day;have h2:=hl.second;have h3:=hl.unit;have h4:=hl.every;have h5:=hl.len
 rw[hl.zone,hl.win,hl.cal.1,hl.cal.2,h.zones.1]
 (repeat(first|with_reducible refine Ok.j ?_|with_reducible refine Ok.t ?_|with_reducible refine Ok.f ?_|with_reducible refine Ok.nt rfl ?_|with_reducible refine Ok.nf rfl ?_|with_reducible refine Ok.oe (rIdx) ?_|with_reducible refine Ok.oe (rIn) ?_|with_reducible refine Ok.oe (dayL hl) ?_|with_reducible refine Ok.oe (QuG h hl.mem U) ?_|with_reducible refine Ok.oe (wins0) ?_|(with_reducible refine Ok.p ?hh ?_;case hh=>(first|omega|decide|assumption|(dsimp only;omega)|(simp;done)))|(with_reducible refine Ok.n ?hh ?_;case hh=>(first|omega|decide|assumption|(dsimp only;omega)|(simp;done)))|with_reducible refine Ok.os ?_))
 exact Ok.s rfl
def ents(l:Y AJ)(i:Nat):Y (AJ×AH):=(l.take i).map fun s=>(s,true)
def Qw4:∀i,i<4->Xx 1000 (V Yw i) (ents Yw i)=some (0,ents Yw (i+1)):=forall4 (by kernel_rfl) (by kernel_rfl) (by kernel_rfl) (by kernel_rfl)
def Qy8:∀i,i<2->Xx 1000 (V YS i) (ents YS i)=some (0,ents YS (i+1)):=forall2 (by kernel_rfl) (by kernel_rfl)
def QCu:Xx 1000 (ByteArray.mk #[108]) []=some (0,[(ByteArray.mk #[108],true)]):=by kernel_rfl
def QlD:∀i,i<4->¬V Yw i=ByteArray.mk (List.toArray (110::(111::(98::(111::(100::(121::[]))))))):=by decide
def QwY(h:Zg n c)(hl:Y2 l):Qk 1000 [l] c=some 0:=by
 have hc:Z8 1000 (V [l] 0) c=some 0:=by show Z8 1000 l c=some 0;unfold Z8;rw[QoC h hl,Z0,Vq]
 have hn:Z7 1000 (V [l] 0)=some (ByteArray.mk #[108]):=by show Z7 1000 l=_;unfold Z7;rw[hl.name]
 refine Ok.eq ?_
 unfold Qk
 refine Ok.run 1 (fun i=>(([l],1,(i:Int),()),c,ents [ByteArray.mk #[108]] i,())) rfl U (fun i hi k hk=>?_) (fun k=>?_)
 .obtain rfl:i=0:=U
  dsimp only
  refine Ok.p (by decide) (Ok.atn Ob (Ok.oe hn (Ok.oe QCu ?_)))
  (repeat(first|with_reducible refine Ok.oe (hc) ?_|(with_reducible refine Ok.n ?hh ?_;case hh=>(first|omega|decide|assumption|(dsimp only;omega)|(simp;done)))))
  exact hk
 .dsimp only
  exact Ok.n (by decide) (Ok.TF (Ok.s rfl))
def Qks(h:Zg n c)(hn:n<=48)(hs:Qfd n s):Xw 1000 c s=some 0:=by
 obtain⟨l,hl1,hl2⟩:=hs.layers
 have hlen:=hs.len
 refine Ok.eq ?_
 unfold Xw
 rw[hl1]
 refine Ok.j (Ok.NS (Ok.N ?_))
 dsimp only
 rw[hl1]
 refine Ok.oe (QwY h hl2) (Ok.n (by decide) ?_)
 refine Ok.run s.FS.length (fun i=>((s.FS,(s.FS.length:Int),(i:Int),()),c,())) rfl U (fun i hi k hk=>?_) (fun k=>?_)
 .dsimp only
  refine Ok.P (Ok.atn hi (Ok.oe (Qqo h (hs.edit _ (Qf hi))) (Ok.n (by decide) ?_)))
  rw[Qa U];exact hk
 .dsimp only
  exact Ok.N (Ok.s rfl)
def QxG(h:Zg n c)(hn:n<=48):Qt 1000 c.f c=some 0:=by
 refine Ok.eq ?_
 unfold Qt
 rw[h.slen]
 refine Ok.run 2 (fun i=>((c.f,2,(i:Int),()),c,ents YS i,())) rfl U (fun i hi k hk=>?_) (fun k=>?_)
 .dsimp only
  have hc:U6 1000 (V c.f i) c=some 0:=by unfold U6;rw[Qks h hn (h.sch hi),Z0,Vq]
  have hn:U5 1000 (V c.f i)=some (V YS i):=by unfold U5;rw[h.snm hi]
  refine Ok.P (Ok.atn (by rw[h.slen];exact hi) (Ok.oe hn (Ok.oe (Qy8 i hi) ?_)))
  (repeat(first|with_reducible refine Ok.oe (hc) ?_|(with_reducible refine Ok.n ?hh ?_;case hh=>(first|omega|decide|assumption|(dsimp only;omega)|(simp;done)))))
  rw[Qa U];exact hk
 .dsimp only
  exact Ok.n (by decide) (Ok.TF (Ok.s rfl))
def QzR(h:Zg n c):QF 1000 c.FG=some 0:=by
 obtain⟨h1,h2⟩:=h.zones
 rw[h1]
 rcases h2 with h2|h2|h2<;>rw[h2]<;>kernel_rfl
def QAO(h:Zg n c):Qs 1000 c.o c=some 0:=by
 refine Ok.eq ?_
 unfold Qs
 rw[h.cal]
 refine Ok.run 0 (fun i=>(([],0,0,()),c,[],())) rfl U (fun i hi=>absurd hi U) (fun k=>?_)
 exact Ok.n (by decide) (Ok.TF (Ok.s rfl))
def QkQ(h:Zg n c)(hn:n<=48):Q6 1000 c=some 0:=by
 refine Ok.eq ?_
 unfold Q6
 have hz:=BC List.length h.zones.1
 have hp:=h.plen
 have hs:=h.slen
 have hc:=BC List.length h.cal
 simp only[Ad,Ao]at hz hc
 refine Ok.j (Ok.N (Ok.N (Ok.N (Ok.N ?_))))
 dsimp only
 refine Ok.oe (QzR h) (Ok.n (by decide) ?_)
 rw[hp]
 refine Ok.run 4 (fun i=>((c.l,4,(i:Int),()),c,ents Yw i,())) rfl U (fun i hi k hk=>?_) (fun k=>?_)
 .dsimp only
  refine Ok.P (Ok.A ?_)
  rw[h.pnm hi]
  refine Ok.oe (Qw4 i hi) (Ok.j (Ok.n (QlD i hi) ?_))
  (repeat(first|with_reducible refine Ok.j ?_|with_reducible refine Ok.oe (Qm9 h (h.per hi)) ?_|(with_reducible refine Ok.p ?hh ?_;case hh=>(first|omega|decide|assumption|(dsimp only;omega)|(simp;done)))|(with_reducible refine Ok.n ?hh ?_;case hh=>(first|omega|decide|assumption|(dsimp only;omega)|(simp;done)))))
  rw[Qa U];exact hk
 .dsimp only
  refine Ok.n (by decide) ?_
  (repeat(first|with_reducible refine Ok.j ?_|with_reducible refine Ok.oe (QAO h) ?_|with_reducible refine Ok.oe (QxG h hn) ?_|(with_reducible refine Ok.p ?hh ?_;case hh=>(first|omega|decide|assumption|(dsimp only;omega)|(simp;done)))|(with_reducible refine Ok.n ?hh ?_;case hh=>(first|omega|decide|assumption|(dsimp only;omega)|(simp;done)))))
  exact Ok.s rfl
def QuO(hp:QaN p):U0 1000 p.r 0 (J (((1:Nat):Int) - 1))=some true/\Qci 1000 p.Ff=some 0/\QdC 1000 p.Fv=some true/\QdC 1000 p.Fw=some true:=by
 rw[hp.zone,hp.max.1,hp.max.2]
 exact⟨by kernel_rfl,Quc hp,hours8,hours8⟩
def QuH:∀i,i<4->WK 1000 (Yw.take i++[V Yw i]) (i:Int)=some 0:=forall4 (by kernel_rfl) (by kernel_rfl) (by kernel_rfl) (by kernel_rfl)
def Qw3:∀i,i<2->WK 1000 (YS.take i++[V YS i]) (i:Int)=some 0:=forall2 (by kernel_rfl) (by kernel_rfl)
def QBl:WK 1000 ([]++[ByteArray.mk #[108]]) ((0:Nat):Int)=some 0:=by kernel_rfl
def Qyc(h:Zg n c):QiR 1000 c=some 0:=by
 obtain⟨h1,h2⟩:=h.zones
 refine Ok.eq ?_
 unfold QiR
 have hz:QdA 1000 (⟨bZ,Xe c,[]⟩:D.r)=some 0/\QhZ 1000 (⟨bZ,Xe c,[]⟩:D.r)=some true/\WK 1000 ([]++[bZ]) ((0:Nat):Int)=some 0:=by
  rcases h2 with h2|h2|h2<;>rw[h2]<;>exact⟨by kernel_rfl,by kernel_rfl,by kernel_rfl⟩
 refine Ok.run 1 (fun i=>(((i:Int),()),c,[bZ].take i,())) rfl U (fun i hi k hk=>?_) (fun k=>?_)
 .obtain rfl:i=0:=U
  dsimp only
  rw[h1]
  refine Ok.PS (Ok.j (Ok.atn Ob (Ok.TO Ob ?_)))
  refine Ok.oe hz.2.2 (Ok.n (by decide) (Ok.atn Ob (Ok.oe hz.1 (Ok.n (by decide) (Ok.atn Ob (Ok.oe hz.2.1 ?_))))))
  exact hk
 .dsimp only
  rw[h1]
  exact Ok.NS (Ok.s rfl)
def QuM(h:Zg n c):QgH 1000 c=some 0:=by
 have hp:=h.plen
 refine Ok.eq ?_
 unfold QgH
 refine Ok.run 4 (fun i=>(((i:Int),()),c,Yw.take i,())) rfl U (fun i hi k hk=>?_) (fun k=>?_)
 .dsimp only
  obtain⟨g1,g2,g3,g4⟩:=QuO (h.per hi)
  refine Ok.P (Ok.j (Ok.A (Ok.LS ?_)))
  rw[h.pnm hi,h.zones.1]
  refine Ok.n (QlD i hi) (Ok.oe (QuH i hi) (Ok.n (by decide) (Ok.oe g1 ?_)))
  refine Ok.nt rfl (Ok.oe g2 (Ok.n (by decide) (Ok.oe g3 (Ok.t (Ok.oe g4 (Ok.t ?_))))))
  dsimp only
  rw[Qa U,Qp (show i<Yw.length from hi)];exact hk
 .dsimp only
  exact Ok.N (Ok.s rfl)
def QyC(h:Zg n c):QbI 1000 c=some 0:=by
 refine Ok.eq ?_
 unfold QbI
 refine Ok.run 0 (fun i=>((0,()),c,[],())) rfl U (fun i hi=>absurd hi U) (fun k=>?_)
 dsimp only
 rw[h.cal]
 exact Ok.n (by decide) (Ok.s rfl)
def QwX(h:Zg n c)(hl:Y2 l):QfR 1000 c l=some 0:=by
 refine Ok.eq ?_
 unfold QfR
 have h1:=hl.day;have h2:=hl.second;have h3:=hl.unit;have h4:=hl.every;have h5:=hl.len
 have hp:=h.plen
 rw[hl.zone,h.zones.1,Qb (x:=(([(⟨bZ,Xe c,[]⟩:D.r)].length:Nat):Int) - 1) Ob]
 refine Ok.j (Ok.oe r8In (Ok.np Ob ?_))
 (repeat(first|with_reducible refine Ok.oe (r8In) ?_|with_reducible refine Ok.oe (Qz2) ?_|(with_reducible refine Ok.p ?hh ?_;case hh=>(first|omega|decide|assumption|(dsimp only;omega)|(simp;done)))|(with_reducible refine Ok.n ?hh ?_;case hh=>(first|omega|decide|assumption|(dsimp only;omega)|(simp;done)))))
 refine Ok.run l.s.length (fun i=>(((i:Int),()),c,l,())) rfl U (fun i hi k hk=>?_) (fun k=>?_)
 .dsimp only
  have hx:=hl.mem _ (Qf hi)
  rw[hp]
  refine Ok.P (Ok.atn hi (Ok.oe r8In (Ok.np ?_ ?_)))
  .rw[Qb U];omega
  .rw[Qa U];exact hk
 .dsimp only
  rw[hl.win,hl.cal.1,hl.cal.2]
  refine Ok.N ?_
  (repeat(first|with_reducible refine Ok.oe (wins5) ?_|with_reducible refine Ok.oe (r8In) ?_|(with_reducible refine Ok.p ?hh ?_;case hh=>(first|omega|decide|assumption|(dsimp only;omega)|(simp;done)))|(with_reducible refine Ok.n ?hh ?_;case hh=>(first|omega|decide|assumption|(dsimp only;omega)|(simp;done)))))
  exact Ok.s rfl
def QpS(h:Zg n c)(hn:n<=48):QbK 1000 c=some 0:=by
 have hs:=h.slen
 refine Ok.eq ?_
 unfold QbK
 refine Ok.run 2 (fun i=>(((i:Int),()),c,YS.take i,())) rfl U (fun i hi k hk=>?_) (fun k=>?_)
 .dsimp only
  have hsc:=h.sch hi
  obtain⟨l,hl1,hl2⟩:=hsc.layers
  have hlen:=hsc.len
  refine Ok.P (Ok.A (Ok.LS ?_))
  rw[h.snm hi]
  refine Ok.oe (Qw3 i hi) (Ok.n (by decide) (Ok.j ?_))
  rw[hl1]
  refine Ok.NS (Ok.N ?_)
  dsimp only
  refine Ok.run 1 (fun j=>(((i:Int),(j:Int),()),c,V c.f i,YS.take i++[V YS i],[ByteArray.mk #[108]].take j,())) rfl U (fun j hj k2 hk2=>?_) (fun k2=>?_)
  .obtain rfl:j=0:=U
   dsimp only
   rw[hl1]
   refine Ok.PS (Ok.atn Ob (Ok.TO Ob ?_))
   rw[show(V [l] 0).Name=ByteArray.mk #[108]from hl2.name]
   refine Ok.oe QBl (Ok.n (by decide) (Ok.atn Ob (Ok.oe (QwX h hl2:QfR 1000 c (V [l] 0)=some 0) (Ok.n (by decide) ?_))))
   exact hk2
  .dsimp only
   rw[hl1]
   refine Ok.NS ?_
   refine Ok.run (V c.f i).FS.length (fun j=>(((i:Int),(j:Int),()),c,V c.f i,YS.take i++[V YS i],())) rfl U (fun j hj k3 hk3=>?_) (fun k3=>?_)
   .dsimp only
    refine Ok.P (Ok.atn hj (Ok.oe (QyH h (hsc.edit _ (Qf hj))) (Ok.n (by decide) ?_)))
    rw[Qa U];exact hk3
   .dsimp only
    refine Ok.N ?_
    rw[Qa U,Qp (show i<YS.length from hi)];exact hk
 .dsimp only
  exact Ok.N (Ok.s rfl)
def Qfk(h:Zg n c)(hn:n<=48):UZ 1000 c=some 0:=by
 refine Ok.eq ?_
 unfold UZ
 have hz:=BC List.length h.zones.1
 have hp:=h.plen
 have hs:=h.slen
 have hc:=BC List.length h.cal
 simp only[Ad,Ao]at hz hc
 (repeat(first|with_reducible refine Ok.j ?_|with_reducible refine Ok.oe (Qyc h) ?_|with_reducible refine Ok.oe (QuM h) ?_|with_reducible refine Ok.oe (QyC h) ?_|with_reducible refine Ok.oe (QpS h hn) ?_|(with_reducible refine Ok.n ?hh ?_;case hh=>(first|omega|decide|assumption|(dsimp only;omega)|(simp;done)))))
 exact Ok.s rfl
open Go AM
def Qe1(off:Int):Prop:=off=0\/off=3600\/off = -7200
def tabV(off:Int):D.FY:=⟨off,[]⟩
def QBT:VE 1000 (tabV off) t=some off:=by
 have h1:Zt 1000 0 (tabV off) t=some 0:=by
  refine Ok.eq ?_
  unfold Zt
  refine Ok.run 0 (fun _=>((0,(0,())),(tabV off,((t,()),())))) rfl U (fun i hi=>absurd hi U) (fun k=>?_)
  exact Ok.N (Ok.TF (Ok.TF (Ok.s rfl)))
 have h2:WI 1000 (tabV off) t=some 0:=by unfold WI;rw[show(((List.length (D.FY.list (tabV off))):Nat):Int)=0 from rfl,h1,Z0]
 unfold VE
 rw[h2,Z0]
 rfl
def Qy4(h : -1099511627776<=n/\n<=1099511627776):QgZ 1000 n=some ⟨n / 86400,n % 86400⟩:=by
 refine Ok.eq ?_
 unfold QgZ
 refine Ok.Z (Ok.j (Ok.Z ?_))
 by_cases h0:0<=n
 .rw[Bq h0,Bv h0]
  refine Ok.N ?_
  dsimp only
  rw[Qb (x:=n / 86400) U,Qb (x:=n / 86400*86400) U,Qb U]
  exact Ok.s (by congr 1;omega)
 .have e1:Int.tmod n 86400 = -((-n) % 86400):=by
   rw[show n = -(-n)by omega,ER,Bq U,ES]
  have e2:Int.tdiv n 86400 = -((-n) / 86400):=by
   grind
  rw[e1,e2]
  by_cases h1 : -((-n) % 86400)<0
  .refine Ok.p h1 ?_
   dsimp only
   rw[Qb (x:=-((-n) / 86400)) U,Qb (x:=-((-n) / 86400) - 1) U,Qb (x:=(-((-n) / 86400) - 1)*86400) U,Qb U]
   exact Ok.s (by rw[D.Fd.mk.injEq];omega)
  .refine Ok.n h1 ?_
   dsimp only
   rw[Qb (x:=-((-n) / 86400)) U,Qb (x:=-((-n) / 86400)*86400) U,Qb U]
   exact Ok.s (by rw[D.Fd.mk.injEq];omega)
def Qe1.le(h:Qe1 off): -7200<=off/\off<=3600:=by unfold Qe1 at h;omega
def QAf(ho:Qe1 off)(ht:0<=t/\t<=8589934592):ZS 1000 (tabV off) t=some ⟨(t+off) / 86400,(t+off) % 86400⟩:=by
 have:=ho.le
 unfold ZS
 rw[QBT,Z0,Qb U,Qy4 U,Z0]
def QBV(ho:Qe1 off):QaL 1000 (tabV off) 0 8589934593=some [⟨0,8589934593,off⟩]:=by
 rcases ho with rfl|rfl|rfl<;>kernel_rfl
def QAe(ho:Qe1 off)(hd:1<=d/\d<=1000000)(hs:0<=s/\s<=86399):
  Ok (WH 1000 (tabV off) ⟨d,s⟩) fun r=>r.2=decide (d*86400+s - off<=8589934592)/\(r.2=true->r.1=d*86400+s - off):=by
 have:=ho.le
 unfold WH Qgm
 refine Ok.oe (QBV ho) ?_
 have e:J (J (min (max d (-1048576)) 1048576*86400)+s)=d*86400+s:=by rw[Qb (x:=min (max d (-1048576)) 1048576*86400) U,Qb U];omega
 by_cases h:d*86400+s - off<=8589934592
 .refine Ok.scan 1 (fun i=>(([⟨0,8589934593,off⟩],1,(i:Int),()),⟨d,s⟩,())) (fun _=>true) rfl U (fun i hi _ _ k=>?_) (fun i hi hq=>by simp at hq) (fun hq=>by have:=hq 0 U;simp at this)
  obtain rfl:i=0:=U
  refine Ok.PS (Ok.atn Ob (Ok.os ?_))
  dsimp only
  rw[e,show(V [(⟨0,8589934593,off⟩:D.Fr)] 0)=⟨0,8589934593,off⟩from rfl]
  dsimp only
  rw[Qb (x:=d*86400+s - off) U,show max 0 (d*86400+s - off)=d*86400+s - off by omega]
  exact Ok.P (Ok.s ⟨by simp[h],fun _=>rfl⟩)
 .refine Ok.run 1 (fun i=>(([⟨0,8589934593,off⟩],1,(i:Int),()),⟨d,s⟩,())) rfl U (fun i hi k hk=>?_) (fun k=>?_)
  .obtain rfl:i=0:=U
   refine Ok.PS (Ok.atn Ob (Ok.os ?_))
   dsimp only
   rw[e,show(V [(⟨0,8589934593,off⟩:D.Fr)] 0)=⟨0,8589934593,off⟩from rfl]
   dsimp only
   rw[Qb (x:=d*86400+s - off) U,show max 0 (d*86400+s - off)=d*86400+s - off by omega]
   exact Ok.N hk
  .exact Ok.NS (Ok.s ⟨by simp[h],fun h=>by simp at h⟩)
def QtA(hl:Y2 l):(l.Unit=0->Xd off l k=YL off l+3600*l.FH*k)/\(l.Unit=1->Xd off l k=YL off l+86400*l.FH*k):=by
 refine⟨fun h=>?_,fun h=>?_⟩
 .unfold Xd;rw[QjZ h]
 .unfold Xd;rw[QmO h]
def QCG(hl:Y2 l)(ho:Qe1 off)(hk:0<=k/\k<=200000)(hu:l.Unit=1\/k=0):
  Ok (Yd 1000 (tabV off) l k) fun r=>r.2=decide (Xd off l k<=8589934592)/\(r.2=true->r.1=Xd off l k):=by
 have:=ho.le
 have h1:=hl.day;have h2:=hl.second;have h4:=hl.every
 unfold Yd QdN
 refine Ok.N ?_
 rcases hl.unit with hu0|hu1
 .obtain rfl:k=0:=U
  refine Ok.N ?_
  have hf:=Qiu (off:=off) hl ho
  have hh:Xd off l 0=l.T.Fj*86400+l.T.Fb - off:=by unfold Xd YL;omega
  refine Ok.opt (QAe (d:=l.T.Fj) (s:=l.T.Fb) ho U U) fun⟨v,b⟩ ⟨g1,g2⟩=>?_
  dsimp only at g1 g2 |-
  have hb:b=true:=by rw[g1];unfold YL at hf;simp;omega
  subst hb
  have hv:=g2 rfl
  have hw:J (v+J (J (3600*l.FH)*0))=Xd off l 0:=by
   rw[Int.mul_zero,Qb (x:=0) U,Qb (by unfold YL at hf;omega),hh,hv];omega
  rw[hw]
  have hm:Xd off l 0<=8589934592:=by rw[hh];unfold YL at hf;omega
  exact Ok.t (Ok.p hm (Ok.s ⟨by simp[hm],fun _=>rfl⟩))
 .refine Ok.P ?_
  (try unfold cd);rw[Qkv (show ¬l.Unit=2 by omega),Z0]
  have hE:l.FH=1\/l.FH=2\/l.FH=3:=U
  have hh:Xd off l k=(l.T.Fj+k*l.FH)*86400+l.T.Fb - off:=(Qtz (QmO hu1)).symm
  have hb:0<=k*l.FH/\k*l.FH<=600000:=by rcases hE with e|e|e<;>rw[e]<;>omega
  rw[Qb (x:=k*l.FH) U,Qb (x:=l.T.Fj+k*l.FH) U]
  refine Ok.opt (QAe (d:=l.T.Fj+k*l.FH) (s:=l.T.Fb) ho U U) fun⟨v,b⟩ ⟨g1,g2⟩=>?_
  rw[<-hh]at g1 g2
  exact Ok.s ⟨g1,g2⟩
def QCH(hl:Y2 l)(ho:Qe1 off)(ht:0<=t/\t<=8589934592):U3 1000 (tabV off) l t=some (Z9 off l t):=by
  have hoo:=ho.le
  have h1:=hl.day;have h2:=hl.second;have h4:=hl.every
  have hf:=Qiu (off:=off) hl ho
  have h0:Xd off l 0=YL off l:=by unfold Xd;omega
  refine Ok.eq ?_
  unfold U3
  refine Ok.opt (QCG (k:=0) hl ho U (.inr rfl)) fun⟨v,b⟩ ⟨g1,g2⟩=>?_
  dsimp only at g1 g2 |-
  have hb:b=true:=by rw[g1,h0];simp;omega
  subst hb
  have hv:=g2 rfl
  rw[hv,h0]
  refine Ok.j (Ok.t ?_)
  by_cases hlt:t<YL off l
  · exact Ok.p hlt (Ok.s (by rw[QpW (by rw[h0];exact hlt)]))
  refine Ok.n hlt ?_
  dsimp only
  rcases hl.unit with hu|hu
  · have e1:J (3600*l.FH)=3600*l.FH:=Qb U
    rw[e1]
    refine Ok.p hu (Ok.Z ?_)
    rw[Qb (x:=t - YL off l) U,Bv U]
    have e2:(t - YL off l) / (3600*l.FH)=Z9 off l t:=by unfold Z9;rw[iA hlt,QjZ hu]
    have e3:=QrI (t:=t) hl ho U
    rw[e2,Qb U]
    exact Ok.s rfl
  · refine Ok.N (Ok.oe (QAf ho ht) ?_)
    unfold QdN
    (try unfold cd);rw[Qkv (show ¬l.Unit=2 by omega),Z0]
    refine Ok.Z (Ok.j ?_)
    dsimp only
    obtain⟨dy,hD⟩:∃dy,(t+off) / 86400=dy:=⟨_,rfl⟩
    rw[hD]
    have hDb : -1<=dy/\dy<=99422:=U
    rw[Qb (x:=dy - l.T.Fj) U]
    obtain⟨k0,hk0⟩:∃k0,max 0 (J (Int.tdiv (dy - l.T.Fj) l.FH))=k0:=⟨_,rfl⟩
    rw[hk0]
    have hE:l.FH=1\/l.FH=2\/l.FH=3:=U
    have hlin:∀k,Xd off l k=YL off l+86400*l.FH*k:=fun k=>(QtA hl).2 hu
    have hfd:YL off l=l.T.Fj*86400+l.T.Fb - off:=rfl
    have hk:0<=k0/\k0<=99422/\(1<=k0->Xd off l (k0 - 1)<=t)/\t<Xd off l (k0+1):=by
      have hq:Int.tdiv (dy - l.T.Fj) l.FH<=0/\dy - l.T.Fj<l.FH\/Int.tdiv (dy - l.T.Fj) l.FH=(dy - l.T.Fj) / l.FH/\0<=dy - l.T.Fj:=by
        grind
      have hw:J (Int.tdiv (dy - l.T.Fj) l.FH)=Int.tdiv (dy - l.T.Fj) l.FH:=by
        refine Qb ?_
        rcases hq with⟨q1,_⟩|⟨q1,q2⟩
        · by_cases hn:0<=dy - l.T.Fj
          · rw[Bv hn];rcases hE with e|e|e<;>rw[e]<;>omega
          · omega
        · rw[q1];rcases hE with e|e|e<;>rw[e]<;>omega
      rw[hw]at hk0
      rw[hlin,hlin,hfd]
      rcases hE with e|e|e<;>rw[e]at hq hk0|-<;>omega
    obtain⟨k1,k2,k3,k4⟩:=hk
    have hhand:∀k,0<=k->k<=k0+1->Ok (Yd 1000 (tabV off) l k) fun r=>r.2=decide (Xd off l k<=8589934592)/\(r.2=true->r.1=Xd off l k):=fun k a b=>QCG hl ho U (.inl hu)
    have up:∀k,0<=k->k0 - 1<=k->k<=k0->Xd off l k<=t->Ok (Qe (zF:=((Int×(Int×Unit))×(D.FY×(D.x×Unit)))) (fun L12 ((a13,(a14,_)),(a15,(a16,_)))=>
           (TG (zB:=((Int×(Int×Unit))×(D.FY×(D.x×Unit)))) (fun((a17,(a18,_)),(a19,(a20,_)))=>
             (L12 ((a17,((J (a18+1)),())),(a19,(a20,()))))) fun J21=>
            (O (Yd 1000 a15 a16 (J (a14+1))) fun(a22,a23)=>
             (C a23
              (C (decide (a13<a22))
               (some a14)
               (J21 ((a13,(a14,())),(a15,(a16,())))))
              (some a14))))) 1000 ((t,(k,())),(tabV off,(l,())))) (·=Z9 off l t):=by
      intro k a1 a2 a3 a4
      refine Ok.loop (fun m x=>∃k,x=((t,k,()),tabV off,l,())/\0<=k/\k0 - 1<=k/\k<=k0/\Xd off l k<=t/\(k0 - k).toNat=m) (m:=(k0 - k).toNat) U ⟨k,rfl,a1,a2,a3,a4,rfl⟩ ?_
      rintro m x ⟨k,rfl,a1,a2,a3,a4,rfl⟩ K hK
      dsimp only
      rw[Qb (x:=k+1) U]
      refine Ok.j (Ok.opt (hhand (k+1) U U) fun⟨v,b⟩ ⟨g1,g2⟩=>?_)
      dsimp only at g1 g2 |-
      by_cases hm:Xd off l (k+1)<=8589934592
      · have hb:b=true:=by rw[g1];simp[hm]
        subst hb
        rw[g2 rfl]
        refine Ok.t (Ok.ite (fun hlt=>Ok.s (QpV hl a1 a4 hlt).symm) (fun hge=>?_))
        have:k≠k0:=fun e=>by rw[e]at hge;omega
        rw[Qb (x:=k+1) U]
        exact hK _ _ U ⟨k+1,rfl,U,U,U,U,rfl⟩
      · have hb:b=false:=by rw[g1];simp[hm]
        subst hb
        exact Ok.f (Ok.s (QpV hl a1 a4 U).symm)
    have h00:Xd off l 0<=t:=by rw[h0];omega
    refine Ok.loop (fun m x=>∃k,x=((t,k,()),tabV off,l,())/\0<=k/\(m=1/\k=k0\/m=0/\k=k0 - 1)) (m:=1) U ⟨k0,rfl,k1,.inl ⟨rfl,rfl⟩⟩ ?_
    rintro m x ⟨k,rfl,a1,a2⟩ K hK
    dsimp only
    refine Ok.ite (fun hpos=>?_) (fun hz=>?_)
    · refine Ok.j (Ok.opt (hhand k U U) fun⟨v,b⟩ ⟨g1,g2⟩=>?_)
      dsimp only at g1 g2 |-
      have down:¬Xd off l k<=t->Ok (K ((t,J (k - 1),()),tabV off,l,())) (·=Z9 off l t):=fun hgt=>by
        rw[Qb (x:=k - 1) U]
        rcases a2 with⟨rfl,rfl⟩|⟨rfl,rfl⟩
        · grind
        · omega
      by_cases hm:Xd off l k<=8589934592
      · have hb:b=true:=by rw[g1];simp[hm]
        subst hb
        rw[g2 rfl]
        refine Ok.t (Ok.ite (fun hle=>?_) (fun hgt=>down hgt))
        grind
      · have hb:b=false:=by rw[g1];simp[hm]
        subst hb
        exact Ok.f (down U)
    · grind
def tOn(hl:Y2 l)(ho:Qe1 off)(hv:v.tables=[tabV off])(ht:0<=t/\t<=8589934592):QcF 1000 v l t=some (if Z9 off l t<0 then(0,false)else(Z9 off l t,true)):=by
 refine Ok.eq ?_
 unfold QcF
 refine Ok.j (Ok.N (Ok.N ?_))
 dsimp only
 rw[hv,hl.zone]
 refine Ok.atn (i:=0) Ob (Ok.oe (QCH hl ho ht:U3 1000 (V [tabV off] 0) l t=_) ?_)
 refine Ok.j ?_
 by_cases h:Z9 off l t<0
 .refine Ok.p h (Ok.s ?_)
  rw[iB h]
 .refine Ok.n h ?_
  rw[hl.win]
  refine Ok.NS ?_
  dsimp only
  exact Ok.p hl.cal.2 (Ok.s (by rw[iA h]))
def QzX(hl:Y2 l)(h:¬Z9 off l t<0):TN l.s (Int.tmod (Z9 off l t) (((List.length l.s):Nat):Int)) (fun a2=>some a2)=some (Qd8 off l t):=by
 have hlen:=hl.len
 have e:Int.tmod (Z9 off l t) (((List.length l.s):Nat):Int)=(((Z9 off l t).toNat % l.s.length:Nat):Int):=by
  grind
 rw[e,QCb (Cj _ U)]
 unfold Qd8
 rw[iA h]
def QBU(hl:Y2 l)(ho:Qe1 off)(hv:v.tables=[tabV off])(ht:0<=t/\t<=8589934592):Wz 1000 v l t=some (Qd8 off l t):=by
 have hlen:=hl.len
 refine Ok.eq ?_
 unfold Wz
 refine Ok.oe (tOn hl ho hv ht) ?_
 by_cases h:Z9 off l t<0
 .rw[iB h]
  refine Ok.nf rfl (Ok.s ?_)
  unfold Qd8
  rw[iB h]
 .rw[iA h]
  refine Ok.nt rfl (Ok.Z ?_)
  rw[QzX hl h]
  exact Ok.s rfl
def away1:Qc2 1000 x p t=some (Qr3 p t x):=by
 unfold Qc2 Qr3
 simp only[Vq,QzV]
 grind
def QDa(hs:s.FS.length<900):QaJ 1000 s p t=some (Qlk s.FS p t):=by
 have key:Ok (Zc 1000 s.FS p t) fun r=>decide (0<=r)=Qlk s.FS p t:=by
  unfold Zc
  refine Ok.scan s.FS.length (fun i=>((s.FS,(s.FS.length:Int),(i:Int),()),(p,()),(t,()),())) (fun i=>Qr3 p t (V s.FS i)) rfl U (fun i hi hq _ k=>?_) (fun i hi hq k hk=>?_) (fun hq k=>?_)
  .refine Ok.P (Ok.atn hi (Ok.oe away1 (Ok.bt hq (Ok.TF (Ok.TF (Ok.s ?_))))))
   unfold Qlk
   rw[Qjs hi hq];simp
  .refine Ok.P (Ok.atn hi (Ok.oe away1 (Ok.bf hq ?_)))
   rw[Qa U];exact hk
  .refine Ok.N (Ok.TF (Ok.TF (Ok.s ?_)))
   unfold Qlk
   rw[QnF hq];simp
 obtain⟨r,h1,h2⟩:=key
 unfold QaJ Zv
 rw[h1,Z0,Vq,Vq,Z0,h2]
def QDb(hs:es.length<900):Qin 1000 es p t=some (Qiw es p t):=by
 refine Ok.eq ?_
 unfold Qin
 refine Ok.run es.length (fun i=>((Qiw (es.take i) p t,t,es,(es.length:Int),(i:Int),()),())) (by simp[Qiw]) U (fun i hi k hk=>?_) (fun k=>?_)
 .refine Ok.P (Ok.j (Ok.atn hi ?_))
  dsimp only
  have ha:QhA 1000 (V es i) t=some (decide ((V es i).w<=t/\t<(V es i).To)):=cnd2
  refine Ok.oe ha ?_
  rw[Qa U]
  rw[QnT hi]at hk
  unfold QqP at hk
  refine Ok.ite (fun h1=>?_) (fun h1=>?_)
  .refine Ok.ite (fun h2=>?_) (fun h2=>?_)
   .simp_all
   .rw[iA (by simp[h1,h2])]at hk
    refine Ok.ite (fun h3=>?_) (fun h3=>?_)
    .simp_all
    .rw[iA h3]at hk
     refine Ok.ite (fun h4=>?_) (fun h4=>?_)
     .simp_all
     .rw[iA h4]at hk
      refine Ok.ite (fun h5=>?_) (fun h5=>?_)
      .simp_all
      .rw[iA h5]at hk
       refine Ok.ite (fun h6=>?_) (fun h6=>?_)
       .simp_all
       .simp_all
  .simp_all
 .refine Ok.N (Ok.s ?_)
  rw[Ac]
def Zg.offs(h:Zg n c):Qe1 (Xe c):=h.zones.2
def tOf(h:Zg n c)(hn:n<=48):QlF 1000 c=some (⟨c,[tabV (Xe c)]⟩,true):=by
 have hz:Qif 1000 c.FG=some [tabV (Xe c)]:=by
  obtain⟨h1,h2⟩:=h.zones
  rw[h1]
  rcases h2 with h2|h2|h2<;>rw[h2]<;>kernel_rfl
 unfold QlF QlH
 (try unfold cd);rw[QkQ h hn,Z0,Qkv (by decide),hz,Z0,Z0]
def QCI(h:Zg n c)(hn:n<=48)(hs:Qfd n s):Qgr 1000 ⟨c,[tabV (Xe c)]⟩ s t=some (if 0<=t/\t<=8589934592 then whoS (Xe c) s t else -1):=by
 obtain⟨l,hl1,hl2⟩:=hs.layers
 have hlen:=hs.len
 refine Ok.eq ?_
 unfold Qgr
 refine Ok.j (Ok.ite (fun h1=>Ok.s (by rw[iA U])) fun h1=>Ok.ite (fun h2=>Ok.s (by rw[iA U])) fun h2=>?_)
 dsimp only
 rw[iB U]
 have hlay:Ok (XH 1000 ⟨c,[tabV (Xe c)]⟩ s t) fun r=>r.2=layP (Xe c) s t:=by
  unfold XH layP
  rw[hl1,show V [l] 0=l from rfl]
  refine Ok.oe (QBU hl2 h.offs rfl U) (Ok.ite (fun h3=>Ok.s (by rw[iA U])) fun h3=>?_)
  refine Ok.oe (QDa U) (Ok.C (fun h4=>Ok.s (by rw[iA (by rw[h4];simp)])) fun h4=>Ok.s (by rw[iB ⟨U,h4⟩]))
 refine Ok.opt hlay fun⟨i,p⟩ hp=>?_
 dsimp only at hp |-
 refine Ok.oe (QDb U) (Ok.s ?_)
 unfold whoS
 rw[hp]
def QCO(h:Zg n c)(hn:n<=48):QgU 1000 c i t=some (whoV c i t):=by
 have hsl:=h.slen
 have key:Ok (QkT 1000 c i t) (·=whoV c i t):=by
  unfold QkT whoV
  refine Ok.oe (tOf h hn) (Ok.j (Ok.t ?_))
  have hi:Ue 1000 c i=some (decide (0<=i/\i<(c.f.length:Int))):=cnd2
  refine Ok.oe hi (Ok.ite (fun h1=>?_) (fun h1=>Ok.s (by rw[iA U])))
  dsimp only
  refine Ok.at h1.1 h1.2 (Ok.oe (QCI h hn (h.sch U)) (Ok.s ?_))
  omega
 unfold QgU
 rw[Ok.eq key,Z0]
def Qid(off:Int):D.r:=⟨bZ,off,[]⟩
def r4In:Qkk fu n lo hi=some (decide (lo<=n/\n<=hi)):=cnd2
def Qxq(ho:Qe1 off):Vk 1000 (Qid off)=some ([],0):=by
 rcases ho with rfl|rfl|rfl<;>kernel_rfl
def QBE:QgD 1000 (Qid off) [] t=some off:=by
 refine Ok.eq ?_
 unfold QgD
 refine Ok.j (Ok.run 0 (fun _=>(([],(t,(off,(0,())))),())) rfl U (fun i hi=>absurd hi U) (fun k=>?_))
 exact Ok.j (Ok.NS (Ok.s rfl))
def Qz9(ho:Qe1 off)(ht:0<=t/\t<=8589934592):QaD 1000 (Qid off) t=some (⟨(t+off) / 86400,(t+off) % 86400⟩,0):=by
 have:=ho.le
 have h1:QcS 1000 (Qid off) t=some (off,0):=by
  refine Ok.eq ?_
  unfold QcS
  exact Ok.oe (Qxq ho) (Ok.n (by decide) (Ok.oe r4In (Ok.np U (Ok.oe QBE (Ok.s rfl)))))
 refine Ok.eq ?_
 unfold QaD
 refine Ok.oe h1 (Ok.n (by decide) ?_)
 unfold Qmr
 rw[Qb (x:=t+off) U,Qb (x:=t+off+864000) U,Bv U,Bq U,Qb (x:=(t+off+864000) / 86400) U,Qb U,Qw7 U,Qw7 U,Z0]
 exact Ok.s (by rw[Bb,D.Fd.mk.injEq];omega)
def Qz8(ho:Qe1 off)(hd:1<=d/\d<=1000000)(hs:0<=s/\s<=86399):
  Ok (QdB 1000 (Qid off) ⟨d,s⟩) fun r=>decide (r.2=0)=decide (d*86400+s - off<=8589934592)/\(r.2=0->r.1=d*86400+s - off):=by
 have:=ho.le
 unfold QdB
 refine Ok.oe (Qxq ho) (Ok.n (by decide) (Ok.oe r4In (Ok.np (by dsimp only;omega) (Ok.n (by dsimp only;omega) ?_))))
 have hsm:QiQ 1000 d=some (decide (-2<=d/\d<=99422)):=by unfold QiQ;rw[r4In,Z0]
 refine Ok.oe hsm ?_
 by_cases hd2:d<=99422
 .refine Ok.np U ?_
  refine Ok.loop (fun m x=>x=(([],(-1,())),(Qid off,(⟨d,s⟩,())))/\m=1\/x=(([],(0,())),(Qid off,(⟨d,s⟩,())))/\m=0/\¬d*86400+s - off<=8589934592) (m:=1) U (.inl ⟨rfl,rfl⟩) ?_
  rintro m x (⟨rfl,rfl⟩|⟨rfl,rfl,hno⟩) K hK
  .dsimp only
   refine Ok.PS (Ok.j (Ok.n (by decide) ?_))
   dsimp only
   refine Ok.j (Ok.n (by rw[Qb U];simp) ?_)
   have ew:max 0 (J (J (J (d*86400)+s) - off))=d*86400+s - off:=by
    rw[Qb (x:=d*86400) U,Qb (x:=d*86400+s) U,Qb (x:=d*86400+s - off) U];omega
   by_cases h:d*86400+s - off<=8589934592
   .exact Ok.p (show max 0 (J (J (J (d*86400)+s) - off))<8589934593 by rw[ew];omega) (Ok.s ⟨by simp[h],fun _=>ew⟩)
   .exact Ok.n (show ¬max 0 (J (J (J (d*86400)+s) - off))<8589934593 by rw[ew];omega) (hK 0 _ U (.inr ⟨rfl,rfl,h⟩))
  .dsimp only
   exact Ok.NS (Ok.s ⟨by simp;omega,fun h=>by simp at h⟩)
 .refine Ok.nn U (Ok.s ⟨by simp;omega,fun h=>by simp at h⟩)
def QC6(hl:Y2 l)(ho:Qe1 off)(hk:0<=k/\k<=200000)(hu:l.Unit=1):
  Ok (QcU 1000 (Qid off) l k) fun r=>r.2=decide (Xd off l k<=8589934592)/\(r.2=true->r.1=Xd off l k):=by
 have:=ho.le
 have h1:=hl.day;have h2:=hl.second;have h4:=hl.every
 unfold QcU
 refine Ok.N (Ok.j (Ok.N ?_))
 dsimp only
 have hE:l.FH=1\/l.FH=2\/l.FH=3:=U
 have hh:Xd off l k=(l.T.Fj+k*l.FH)*86400+l.T.Fb - off:=(Qtz (QmO hu)).symm
 have hb:0<=k*l.FH/\k*l.FH<=600000:=by rcases hE with e|e|e<;>rw[e]<;>omega
 rw[Qb (x:=k*l.FH) U,Qb (x:=l.T.Fj+k*l.FH) U]
 refine Ok.opt (Qz8 (d:=l.T.Fj+k*l.FH) (s:=l.T.Fb) ho U U) fun⟨v,b⟩ ⟨g1,g2⟩=>?_
 rw[<-hh]at g1 g2
 refine Ok.s ⟨g1,fun h=>g2 (BF h)⟩
def QCz(hl:Y2 l)(ho:Qe1 off)(ht:0<=t/\t<=8589934592):QiT 1000 (Qid off) l t=some (Z9 off l t):=by
 have hoo:=ho.le
 have h1:=hl.day;have h2:=hl.second;have h4:=hl.every
 have hf:=Qiu (off:=off) hl ho
 have h0:Xd off l 0=YL off l:=by unfold Xd;omega
 have hfd:YL off l=l.T.Fj*86400+l.T.Fb - off:=rfl
 have e3:=QrI (t:=t) hl ho U
 refine Ok.eq ?_
 unfold QiT
 rcases hl.unit with hu|hu
 .refine Ok.p hu (Ok.j ?_)
  refine Ok.opt (Qz8 (d:=l.T.Fj) (s:=l.T.Fb) ho U U) fun⟨v,b⟩ ⟨g1,g2⟩=>?_
  dsimp only at g1 g2 |-
  have hb:b=0:=by
   grind
  rw[g2 hb,<-hfd]
  refine Ok.p hb (Ok.ite (fun hle=>?_) (fun hgt=>Ok.s ?_))
  .have e1:J (3600*l.FH)=3600*l.FH:=Qb U
   rw[e1]
   refine Ok.Z ?_
   rw[Qb (x:=t - YL off l) U,Bv U]
   have e2:(t - YL off l) / (3600*l.FH)=Z9 off l t:=by unfold Z9;rw[iA U,QjZ hu]
   rw[e2,Qb U]
   exact Ok.s rfl
  .exact(QpW (by rw[h0];omega)).symm
 .refine Ok.N (Ok.oe (Qz9 ho ht) (Ok.j (Ok.N ?_)))
  dsimp only
  obtain⟨dy,hD⟩:∃dy,(t+off) / 86400=dy:=⟨_,rfl⟩
  rw[hD]
  have hDb : -1<=dy/\dy<=99422:=U
  refine Ok.j (Ok.Z ?_)
  rw[Qb (x:=dy+2) U,Qb (x:=dy+2 - l.T.Fj) U,Bv U]
  obtain⟨k0,hk0⟩:∃k0,max (dy+2 - l.T.Fj) 0 / l.FH=k0:=⟨_,rfl⟩
  rw[hk0]
  have hE:l.FH=1\/l.FH=2\/l.FH=3:=U
  have hlin:∀k,Xd off l k=YL off l+86400*l.FH*k:=fun k=>(QtA hl).2 hu
  have hk:0<=k0/\k0<=99424/\(∀k,0<=k->k<=k0 - 3->Xd off l k<=t)/\t<Xd off l (k0+1):=by
   grind
  obtain⟨k1,k2,k3,k4⟩:=hk
  rw[Qb (x:=k0) U]
  refine Ok.loop (fun m x=>∃k,x=((t,k,()),Qid off,l,())/\-1<=k/\k<=k0/\(k = -1\/k0 - 3<=k)/\t<Xd off l (k+1)/\m=(k - (k0 - 4)).toNat) (m:=4) U ⟨k0,rfl,U,U,U,k4,U⟩ ?_
  rintro m x ⟨k,rfl,a1,a2,a3,a4,rfl⟩ K hK
  dsimp only
  refine Ok.ite (fun hpos=>?_) (fun hz=>?_)
  .refine Ok.j (Ok.opt (QC6 (k:=k) hl ho U hu) fun⟨v,b⟩ ⟨g1,g2⟩=>?_)
   dsimp only at g1 g2 |-
   have down:¬Xd off l k<=t->Ok (K ((t,J (k - 1),()),Qid off,l,())) (·=Z9 off l t):=fun hgt=>by
    rw[Qb (x:=k - 1) U]
    have hne:¬k<=k0 - 3:=fun h=>hgt (k3 k hpos h)
    exact hK _ _ U ⟨k - 1,rfl,U,U,U,by rw[show k - 1+1=k by omega];omega,rfl⟩
   by_cases hm:Xd off l k<=8589934592
   .have hb:b=true:=by rw[g1];simp[hm]
    subst hb
    rw[g2 rfl]
    refine Ok.t (Ok.ite (fun hle=>?_) (fun hgt=>down hgt))
    exact Ok.s (QpV hl hpos hle a4).symm
   .have hb:b=false:=by rw[g1];simp[hm]
    subst hb
    exact Ok.f (down U)
  .obtain rfl:k = -1:=U
   exact Ok.s (QpW (by simpa using a4)).symm
def Qzm(hl:Y2 l)(ho:Qe1 off):QiS 1000 (Qid off) l=some 0:=by
 have h1:=hl.day;have h2:=hl.second;have h3:=hl.unit;have h4:=hl.every;have h5:=hl.len
 have hz:QdA 1000 (Qid off)=some 0:=by unfold QdA;rw[Qxq ho,Z0]
 refine Ok.eq ?_
 unfold QiS
 (repeat(first|with_reducible refine Ok.j ?_|with_reducible refine Ok.oe (hz) ?_|(with_reducible refine Ok.n ?hh ?_;case hh=>(first|omega|decide|assumption|(dsimp only;omega)|(simp;done)))))
 exact Ok.s rfl
def QC7(h:Zg n c)(hl:Y2 l)(ht:0<=t/\t<=8589934592):Qk1 1000 c l t=some (if Z9 (Xe c) l t<0 then(0,false)else(Z9 (Xe c) l t,true)):=by
 have hS:QfS 1000 (Qid (Xe c)) l t=some (Z9 (Xe c) l t,0):=by
  refine Ok.eq ?_
  unfold QfS
  refine Ok.oe (Qzm hl h.offs) (Ok.n (by decide) (Ok.j (Ok.N (Ok.N ?_))))
  exact Ok.oe (QCz hl h.offs ht) (Ok.s rfl)
 refine Ok.eq ?_
 unfold Qk1
 rw[h.zones.1,hl.zone]
 refine Ok.atn (i:=0) Ob (Ok.oe (hS:QfS 1000 (V [(⟨bZ,Xe c,[]⟩:D.r)] 0) l t=_) ?_)
 refine Ok.j (Ok.n (by decide) ?_)
 by_cases hs:Z9 (Xe c) l t<0
 .exact Ok.p hs (Ok.s (by rw[iB hs]))
 .refine Ok.n hs ?_
  rw[hl.win]
  refine Ok.NS ?_
  dsimp only
  exact Ok.p hl.cal.2 (Ok.s (by rw[iA hs]))
def qRaw(h:Zg n c)(hl:Y2 l)(ht:0<=t/\t<=8589934592):Qmu 1000 c l t=some (Qd8 (Xe c) l t):=by
 have hlen:=hl.len
 refine Ok.eq ?_
 unfold Qmu
 refine Ok.oe (QC7 h hl ht) ?_
 by_cases hs:Z9 (Xe c) l t<0
 .rw[iB hs]
  refine Ok.nf rfl (Ok.s ?_)
  unfold Qd8
  rw[iB hs]
 .rw[iA hs]
  refine Ok.nt rfl (Ok.Z ?_)
  rw[QzX hl hs]
  exact Ok.s rfl
def QC4(hs:s.FS.length<900):Qk2 1000 s p t=some (Qlk s.FS p t):=by
 refine Ok.eq ?_
 unfold Qk2
 refine Ok.scan s.FS.length (fun i=>((p,t,(i:Int),()),s,())) (fun i=>Qr3 p t (V s.FS i)) rfl U (fun i hi hq _ k=>?_) (fun i hi hq k hk=>?_) (fun hq k=>?_)
 .refine Ok.P (Ok.j (Ok.atn hi ?_))
  have hq':=hq
  simp only[Qr3,bae,BK]at hq'
  exact Ok.p hq'.1.1.1 (Ok.p hq'.1.1.2 (Ok.p hq'.1.2 (Ok.p hq'.2 (Ok.s (by unfold Qlk;rw[Qjs hi hq])))))
 .refine Ok.P (Ok.j (Ok.atn hi ?_))
  dsimp only
  rw[Qa U]
  have hq':¬((V s.FS i).Z=0/\(V s.FS i).A=p/\(V s.FS i).w<=t/\t<(V s.FS i).To):=fun⟨a,b,c,d⟩=>by
   simp[Qr3,a,b,c,d]at hq
  refine Ok.ite (fun g1=>Ok.ite (fun g2=>Ok.ite (fun g3=>Ok.ite (fun g4=>absurd ⟨g1,g2,g3,g4⟩ hq') (fun _=>hk)) (fun _=>hk)) (fun _=>hk)) (fun _=>hk)
 .refine Ok.N (Ok.s ?_)
  unfold Qlk
  rw[QnF hq]
def QC5(hs:es.length<900):Qk3 1000 es p t=some (Qiw es p t):=by
 refine Ok.eq ?_
 unfold Qk3
 refine Ok.run es.length (fun i=>((es,Qiw (es.take i) p t,t,(i:Int),()),())) (by simp[Qiw]) U (fun i hi k hk=>?_) (fun k=>?_)
 .refine Ok.P (Ok.j (Ok.atn hi ?_))
  dsimp only
  rw[Qa U]
  rw[QnT hi]at hk
  have hfold:∀v,v=QqP t (Qiw (es.take i) p t) (V es i)->Ok (k ((es,v,t,((i+1:Nat):Int),()),())) (·=Qiw es p t):=fun v e=>by rw[e];exact hk
  refine Ok.ite (fun h1=>hfold _ ?_) fun h1=>Ok.ite (fun h2=>hfold _ ?_) fun h2=>Ok.ite (fun h3=>hfold _ ?_) fun h3=>Ok.ite (fun h4=>Ok.ite (fun h5=>hfold _ ?_) fun h5=>Ok.p h4 (Ok.ite (fun h6=>hfold _ ?_) fun h6=>hfold _ ?_)) fun h4=>Ok.n h4 (hfold _ ?_)
  all_goals unfold QqP
  .rw[iB U]
  .rw[iB U]
  .omega
  .omega
  .omega
  .omega
  .omega
 .refine Ok.N (Ok.s ?_)
  rw[Ac]
def qTop(h:Zg n c)(hn:n<=48)(hi:0<=i/\i<2)(ht:0<=t/\t<=8589934592):Ok (Qps 1000 c i t) fun r=>r.2=layP (Xe c) (V c.f i.toNat) t:=by
 have hsl:=h.slen
 have hs:=h.sch (i:=i.toNat) U
 obtain⟨l,hl1,hl2⟩:=hs.layers
 have hlen:=hs.len
 unfold Qps layP
 refine Ok.at U U ?_
 rw[hl1,show V [l] 0=l from rfl,show J (((List.length [l]:Nat):Int) - 1)=0 from by rw[Qb Ob];simp]
 obtain⟨s,hsd⟩:∃s,V c.f i.toNat=s:=⟨_,rfl⟩
 rw[hsd]at hl1 hlen |-
 refine Ok.loop (fun m x=>x=((t,0,()),c,s,())/\m=1\/x=((t,-1,()),c,s,())/\m=0/\¬(0<=Qd8 (Xe c) l t/\Qlk s.FS (Qd8 (Xe c) l t) t=false)) (m:=1) U (.inl ⟨rfl,rfl⟩) ?_
 rintro m x (⟨rfl,rfl⟩|⟨rfl,rfl,hno⟩) K hK
 .dsimp only
  rw[hl1]
  refine Ok.P (Ok.j (Ok.atn (i:=0) Ob (Ok.oe (qRaw h hl2 ht:Qmu 1000 c (V [l] 0) t=_) ?_)))
  have hnx:¬(0<=Qd8 (Xe c) l t/\Qlk s.FS (Qd8 (Xe c) l t) t=false)->Ok (K ((t,J (0 - 1),()),c,s,())) fun r=>r.2=if 0<=Qd8 (Xe c) l t/\Qlk s.FS (Qd8 (Xe c) l t) t=false then Qd8 (Xe c) l t else -1:=fun hno=>hK 0 _ U (.inr ⟨rfl,rfl,hno⟩)
  refine Ok.ite (fun h1=>Ok.oe (QC4 U) (Ok.C (fun h2=>hnx (fun h=>by have:=h.2.symm.trans h2;simp at this)) (fun h2=>Ok.s (by rw[iB ⟨h1,h2⟩];rfl)))) (fun h1=>hnx (fun h=>h1 h.1))
 .dsimp only
  exact Ok.N (Ok.s (by rw[iA hno]))
def QB2(h:Zg n c)(hn:n<=48):Qmv 1000 c i t=some (whoV c i t):=by
 have hsl:=h.slen
 have key:Ok (Qpt 1000 c i t) (·=whoV c i t):=by
  unfold Qpt Qxs whoV
  by_cases hc:0<=i/\i<2/\0<=t/\t<=8589934592
  ·(try unfold cd);rw[iB hc,Qfn hc.1,Qfn U,Qfn hc.2.2.1,Qfn hc.2.2.2,Qfk h hn,Z0,Qfn rfl,Z0]
   refine Ok.nt rfl ?_
   unfold QsH
   have hs:=h.sch (i:=i.toNat) U
   have hlen:=hs.len
   refine Ok.opt (P:=(·=whoS (Xe c) (V c.f i.toNat) t)) ?_ fun r hr=>Ok.s hr
   refine Ok.opt (qTop h hn ⟨hc.1,hc.2.1⟩ hc.2.2) fun⟨a,p⟩ hp=>?_
   dsimp only at hp |-
   refine Ok.at U U (Ok.oe (QC5 U) (Ok.s ?_))
   unfold whoS
   rw[hp]
  .rw[iA hc]
   have hf:AM.C (decide (0<=i)) (AM.C (decide (i<(c.f.length:Int))) (AM.C (decide (0<=t)) (AM.C (decide (t<=8589934592)) (O (UZ 1000 c) fun a0=>AM.C (decide (a0=0)) (some true) (some false)) (some false)) (some false)) (some false)) (some false)=some false:=by
    rw[hsl]
    by_cases h1:0<=i
    ·(try unfold cd);rw[Qfn h1]
     by_cases h2:i<((2:Nat):Int)
     ·(try unfold cd);rw[Qfn h2]
      by_cases h3:0<=t
      ·(try unfold cd);rw[Qfn h3,Qkv U]
      ·(try unfold cd);rw[Qkv h3]
     ·(try unfold cd);rw[Qkv h2]
    ·(try unfold cd);rw[Qkv h1]
   (try unfold cd);rw[hf,Z0]
   exact Ok.nf rfl (Ok.s rfl)
 unfold Qmv
 rw[Ok.eq key,Z0]
end Go.Proofs.YtlllfgmajglnhaaGreat
