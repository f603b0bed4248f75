/-
  What functions do, reckoned from their code, and their contracts. Printed by wip/gen/brun.py.
-/
import Derived.Test.YtlllfgmajglnhaaGreatQRowOncC
set_option maxRecDepth 100000
set_option linter.defProp false
set_option linter.constructorNameAsVariable false
set_option linter.unusedVariables false
namespace Go.Proofs.YtlllfgmajglnhaaGreat
open Go AM IntKind
section
noncomputable section
open fk Tryz
variable (u:Nat)
def QjK(u:Nat)(a:Y Int):I AH:=some (decide ((a.length:Int)<=500))
def Qpk:o 10 (s [lI] [h] (QjK u)):=f u g t func10
def QfH(u:Nat)(a:Y Int):I D.y:=some (D.y.mk a 0)
def Qkl:o 12 (Ql [lI] [] [.one (.TM 1005)] [w 1005 .y] [] D.y kz5 (fun x y=>QfH u x.1)):=i u g kz8 t func12
def We(u:Nat)(a:Int)(b:Int)(c:Int):I AH:=cd (b<=a) (cd (a<=c) sT sF) sF
def Qel:o 114 (s [d,d,d] [h] (We u)):=f u g t func114
def Qbg(b:Y Int)(g:Int):I Int:=Qe (fun h ((c,e,f,a,_),_)=>cd (a<f) (TN c a fun i=>cd (e=i) (some a) (h ((c,e,f,(X (a+1)),()),()))) (some (-1))) u ((b,g,(b.length:Int),0,()),())
def Qia:o 239 (s [lI,d] [d] (Qbg u)):=f u (c g (m [.s 0 lI,.n 1,.n 7,.n 8] g)) t func239
def Yo(a:Y Int)(b:Int):I AH:=V (Qbg u a b) fun c=>some (decide (0<=c))
def WI:o 171 (s [lI,d] [h] (Yo u)):=f u g (e (Qia u) t) func171
def QgE(f:Y Int):I AH:=Qe (fun k ((a,g,h,b,_),_)=>cd (b<h) (TG (fun((l,m,n,o,_),_)=>k ((l,m,n,(X (o+1)),()),())) fun p=>TN g b fun c=>V (We u c 1 1099511627776) fun i=>J i (TK b fun e=>TO e a.length (V (Yo u (List.take e a) c) fun j=>J j sF (p ((a,g,h,b,()),())))) sF) (some (decide ((a.length:Int)<=256)))) u ((f,f,(f.length:Int),0,()),())
def Qpv:o 115 (s [lI] [h] (QgE u)):=f u (c g (m [.s 0 lI,.s 5 lI,.n 6,.n 7] (n 2 (c (j [.s 0 lI,.s 5 lI,.n 6,.n 7] g) g)))) (e (Qel u) (e (WI u) t)) func115
def Yx(u:Nat)(a:Int)(b:Int)(c:Int):I AH:=cd (b<=a) (cd (a<=c) sT sF) sF
def W7:o 255 (s [d,d,d] [h] (Yx u)):=f u g t func255
def QgJ(g:D.E)(e:Y Int):I Int:=cd ((e.length:Int)=0) (some 7) (Qe (fun h ((a,b,_),c,_)=>cd (b<(a.length:Int)) (TN a b fun i=>TN a (X (b - 1)) fun j=>cd (i<=j) (some 6) (h ((a,(X (b+1)),()),c,()))) (TG (fun(_,_)=>some 0) fun k=>TN a 0 fun l=>V (Yx u l 0 (X ((c.k.length:Int) - 1))) fun m=>J m (TN a (X ((a.length:Int) - 1)) fun n=>V (Yx u n 0 (X ((c.k.length:Int) - 1))) fun f=>J f (k ((),())) (some 3)) (some 3))) u ((e,1,()),g,()))
def QpA:o 176 (s [tO,lI] [d] (QgJ u)):=f u (n 2 (c (c g (.one (k [.s 1 lI,.r 2 .E,.n 5] g))) (c (j [] g) g))) (e (W7 u) t) func176
def W8(u:Nat)(a:D.E)(b:D.b):I D.Fx:=some (D.Fx.mk (a.k.length:Int) (a.f.length:Int) (b.t.length:Int))
def QfR:o 325 (s [tO,L] [.st .Fx] (W8 u)):=f u g t func325
def Qep(v:D.E)(w:D.b)(e:D.w):I Int:=V (Yx u e.Fz 0 86400) fun y=>J (!y) (some 1) (cd (6<(e.Fk.length:Int)) (some 5) (V (W8 u v w) fun k=>Qe (fun z ((f,g,b,_),(h,i,j,_),_)=>cd (b<g) (TG (fun((A,l,m,_),(n,o,p,_),_)=>z ((A,l,(X (m+1)),()),(n,o,p,()),())) fun c=>TN f b fun a=>V (Yx u a.a 0 2) fun q=>J q (cd (a.a=((0:Nat):Int)) (V (Yx u a.Fd 0 (X (h - 1))) fun r=>J r (c ((f,g,b,()),(h,i,j,()),())) (some 3)) (cd (a.a=(((0+1):Nat):Int)) (V (Yx u a.Fd 0 (X (i - 1))) fun s=>J s (c ((f,g,b,()),(h,i,j,()),())) (some 3)) (cd (a.a=((((0+1)+1):Nat):Int)) (V (Yx u a.Fd 0 (X (j - 1))) fun t=>J t (c ((f,g,b,()),(h,i,j,()),())) (some 3)) none))) (some 3)) (some 0)) u ((e.Fk,(e.Fk.length:Int),0,()),(k.a0,k.a1,k.a2,()),())))
def QnB:o 257 (s [tO,L,.st .w] [d] (Qep u)):=f u (n 4 (m [.s 7 (.one (.TM 1007)),.l 22 .FS,.n 23,.n 24] (n 2 (c (j [.s 7 (.one (.TM 1007)),.l 22 .FS,.n 23,.n 24] g [(1007,.box [v,v,v])]) g)) [(1007,.box [v,v,v])])) (e (W7 u) (e (QfR u) t)) func257
def VJ(u:Nat)(b:Int)(a:D.b):I AJ:=TN a.j b fun c=>TF a a (some c.Name)
def QjU:o 256 (Ql [d,.one (.TM 101)] [w 101 .b] [tx] [] [101] AJ kz2 (fun x y=>VJ u x.1 y.1)):=i u g kz4 t func256
def ZC(c:Int)(c101:D.b):I AH:=Qe (fun g ((e,f,b,_),a,_)=>cd (b<f) (V (VJ u b a) fun h=>V (VJ u e a) fun i=>cd (h=i) (TF a c101 sT) (g ((e,f,(X (b+1)),()),a,()))) (TF a c101 sF)) u ((c,c,0,()),c101,())
def Un:o 174 (Ql [d,.one (.clo 256 [101])] [w 101 .b] [h] [] [101] AH kz2 (fun x y=>ZC u x.1 y.1)):=i u (c g (m [.n 0,.s 1 (.one (.clo 256 [101])),.n 6,.n 7] g [w 101 .b])) kz4 (e (QjU u) t) func174
def QfQ(l:D.E)(c:D.b)(f:Int):I Int:=TN c.j f fun a=>V (QbW u a.Name) fun m=>J (!m) (some 8) (V (ZC u f c) fun n=>J n (some 4) (cd ((a.Steps.length:Int)=0) (some 7) (cd (8<(a.Steps.length:Int)) (some 5) (V (Yx u a.Fo 0 8) fun o=>J (!o) (some 1) (Qe (fun p ((g,h,e,_),i,j,_)=>cd (e<h) (TN g e fun k=>V (Qep u i j k) fun b=>cd (b≠0) (some b) (p ((g,h,(X (e+1)),()),i,j,()))) (some 0)) u ((a.Steps,(a.Steps.length:Int),0,()),l,c,()))))))
def Qmr:o 177 (s [tO,L,d] [d] (QfQ u)):=f u (n 3 (m [.r 3 .E,.r 4 .b,.l 41 .w,.n 42,.n 43] g)) (e (Qeg u) (e (Un u) (e (W7 u) (e (QnB u) t)))) func177
def VI(u:Nat)(b:Int)(a:D.b):I AJ:=TN a.t b fun c=>TF a a (some c.Name)
def QjT:o 175 (Ql [d,.one (.TM 101)] [w 101 .b] [tx] [] [101] AJ kz2 (fun x y=>VI u x.1 y.1)):=i u g kz4 t func175
def ZB(c:Int)(c101:D.b):I AH:=Qe (fun g ((e,f,b,_),a,_)=>cd (b<f) (V (VI u b a) fun h=>V (VI u e a) fun i=>cd (h=i) (TF a c101 sT) (g ((e,f,(X (b+1)),()),a,()))) (TF a c101 sF)) u ((c,c,0,()),c101,())
def Um:o 174 (Ql [d,.one (.clo 175 [101])] [w 101 .b] [h] [] [101] AH kz2 (fun x y=>ZB u x.1 y.1)):=i u (c g (m [.n 0,.s 1 (.one (.clo 175 [101])),.n 6,.n 7] g [w 101 .b])) kz4 (e (QjT u) t) func174
def QcU(m:D.E)(j:D.b):I Int:=V (Q6 u m) fun v=>cd (v≠0) (some 8) (TG (fun(_,w,k,_)=>Qe (fun y ((n,o,b,_),l,c,_)=>cd (b<o) (TN n b fun p=>V (QbW u p.Name) fun q=>J (!q) (some 8) (V (ZB u b c) fun r=>J r (some 4) (V (QgJ u l p.r) fun e=>cd (e≠0) (some e) (y ((n,o,(X (b+1)),()),l,c,()))))) (Qe (fun s ((f,a,_),g,h,_)=>cd (a<f) (V (QfQ u g h a) fun i=>cd (i≠0) (some i) (s ((f,(X (a+1)),()),g,h,()))) (some 0)) u (((c.j.length:Int),0,()),l,c,()))) u ((k.t,(k.t.length:Int),0,()),w,k,())) fun t=>cd (8<(j.t.length:Int)) (some 5) (cd (12<(j.j.length:Int)) (some 5) (t ((),m,j,()))))
def Qmq:o 116 (s [tO,L] [d] (QcU u)):=f u (n 2 (c (j [.r 2 .E,.r 3 .b] g) (c (c g (.one (k [.r 2 .E,.r 3 .b,.l 24 .Fc,.n 25,.n 26] g))) (m [.r 2 .E,.r 3 .b,.n 48,.n 49] g)))) (e (Qbe u) (e (Qeg u) (e (Um u) (e (QpA u) (e (Qmr u) t))))) func116
def Q7(u:Nat)(a:Int)(b:Int)(c:Int):I AH:=cd (b<=a) (cd (a<=c) sT sF) sF
def WC:o 258 (s [d,d,d] [h] (Q7 u)):=f u g t func258
def W2(a:D.W):I Int:=TG (fun(_,b,_)=>some (X ((b.Steps.length:Int)*(X (b.Fo+1))))) fun c=>V (Yx u a.Fo 0 8) fun e=>J e (cd (8<(a.Steps.length:Int)) (some 0) (c ((),a,()))) (some 0)
def Qcj:o 261 (s [t15] [d] (W2 u)):=f u (c g (c (j [.r 1 .W] g) g)) (e (W7 u) t) func261
def QaC(a:D.Page):I AH:=V (Q7 u a.FT a.R 17179869184) fun b=>J b (V (Q7 u a.FQ 0 17179869184) fun c=>J c (V (Q7 u a.FR 0 17179869184) fun e=>J e (V (Q7 u a.z 0 4) fun f=>J f (V (Q7 u a.FP 0 4) fun g=>J g sT sF) sF) sF) sF) sF
def QjD:o 262 (s [E] [h] (QaC u)):=f u g (e (WC u) t) func262
def QaO(c:Y Int):I AH:=Qe (fun k ((e,f,g,a,_),_)=>cd (a<g) (TG (fun((l,m,n,o,_),_)=>k ((l,m,n,(X (o+1)),()),())) fun h=>TN f a fun b=>V (Q7 u b 0 31) fun i=>J i (cd (0<a) (TN e (X (a - 1)) fun j=>cd (b<=j) sF (h ((e,f,g,a,()),()))) (h ((e,f,g,a,()),()))) sF) sT) u ((c,c,(c.length:Int),0,()),())
def QfB:o 264 (s [lI] [h] (QaO u)):=f u (c g (m [.s 0 lI,.s 5 lI,.n 6,.n 7] (n 2 (c (j [.s 0 lI,.s 5 lI,.n 6,.n 7] g) g)))) (e (WC u) t) func264
def VP(b:D.Page):I AH:=Qe (fun p ((q,h,i,j,c,_),e,_)=>cd (c<j) (TN i c fun a=>TG (fun((r,s,k,l,_),m,f,_)=>p ((f.At,(max r f.K),s,k,(X (l+1)),()),m,())) fun g=>cd (a.At<q) sF (V (QaO u a.k) fun n=>J n (cd (a.K≠(-1)) (V (Q7 u a.K (X (h+1)) (X (e.FB - 1))) fun o=>J o (g ((h,i,j,c,()),e,a,())) sF) (g ((h,i,j,c,()),e,a,()))) sF)) (some (decide ((e.P.length:Int)<=200)))) u ((b.R,(-1),b.P,(b.P.length:Int),0,()),b,())
def QhI:o 263 (s [E] [h] (VP u)):=f u (n 2 (m [.r 1 .Page,.n 3,.n 4,.l 10 .R,.n 11,.n 12] (n 2 (c (.one (c g (c (j [.r 1 .Page,.n 4,.r 6 .R,.l 10 .R,.n 11,.n 12] g) g))) g)))) (e (WC u) (e (QfB u) t)) func263
def QbA(c:Y Int):I AH:=Qe (fun h ((a,e,f,b,_),_)=>cd (b<f) (TN e b fun i=>TK b fun g=>TO g a.length (V (Yo u (List.take g a) i) fun j=>J j sF (h ((a,e,f,(X (b+1)),()),())))) (some (decide ((a.length:Int)<=64)))) u ((c,c,(c.length:Int),0,()),())
def QkC:o 265 (s [lI] [h] (QbA u)):=f u (c g (m [.s 0 lI,.s 5 lI,.n 6,.n 7] g)) (e (WI u) t) func265
def Qbc(a:D.w):I AH:=V (Q7 u a.Fz 0 86400) fun b=>some (!b)
def QhH:o 260 (s [.st .w] [h] (Qbc u)):=f u g (e (WC u) t) func260
def Q2(b:Y D.w):I Int:=Qe (fun f ((c,e,a,_),_)=>cd (a<e) (TN c a fun g=>V (Qbc u g) fun h=>J h (some a) (f ((c,e,(X (a+1)),()),()))) (some (-1))) u ((b,(b.length:Int),0,()),())
def Xi:o 326 (s [l .w,.one (.fv 260)] [d] (Q2 u)):=f u (c g (m [.l 0 .w,.s 1 (.one (.fv 260)),.n 7,.n 8] g)) (e (QhH u) t) func326
def Qo(a:Y D.w):I AH:=V (Q2 u a) fun b=>some (decide (0<=b))
def Y0:o 259 (s [l .w,.one (.fv 260)] [h] (Qo u)):=f u g (e (Xi u) t) func259
def Yp(e:D.b)(b:D.Page):I AH:=TG (fun(_,o,c,_)=>TN o.j c.W fun f=>TG (fun(_,a,_)=>V (Q7 u a.p 0 4) fun p=>J p (V (Q7 u a.By (-1) 31) fun q=>J q (V (QaC u a) fun r=>J r (V (VP u a) fun s=>J s (V (QaO u a.g) fun t=>J t (V (QbA u a.h) fun v=>J v sT sF) sF) sF) sF) sF) sF) fun g=>V (Qo u f.Steps) fun h=>J h sF (V (W2 u f) fun i=>V (Q7 u c.FB 0 i) fun j=>J j (g ((),c,())) sF)) fun k=>V (Q7 u b.S 1 999999) fun l=>J l (V (Q7 u b.W 0 (X ((e.j.length:Int) - 1))) fun m=>J m (V (Q7 u b.R 0 8589934592) fun n=>J n (k ((),e,b,())) sF) sF) sF
def Vm:o 178 (s [L,E] [h] (Yp u)):=f u (c g (c (j [.r 2 .b,.r 3 .Page] g) (c g (c (j [.r 3 .Page] g) g)))) (e (WC u) (e (Y0 u) (e (Qcj u) (e (QjD u) (e (QhI u) (e (QfB u) (e (QkC u) t))))))) func178
def X2(u:Nat)(a:Y D.Call):I (Y D.Call):=TR a (TU (some []) (TO a.length 34359738368 (some a))) (TO a.length 34359738368 (some a))
def Qbp:o 180 (Ql [l .Call] [] [.one (.own 1007)] [p 1007 .Call] [] (Y D.Call) kz5 (fun x y=>X2 u x.1)):=i u g kz8 t func180
def Qek(q:D.Page)(p1:Y D.Call)(p2:Int):I AH:=Qe (fun L0 ((t,a2,v,a4,w,y,r,_),a8,_)=>cd (r<y) (TN w r fun s=>Qe (fun z ((a,e,b,i,j,k,l,m,n,f,_),g,h,_)=>cd (f<n) (TN m f fun A=>TG (fun((o,B,p,zH,E,F,G,H,zE,_),zG,L,_)=>TN o p fun zD=>z ((o,B,(X (p+1)),zD.Fence,zH,E,F,G,H,(X (zE+1)),()),zG,L,())) fun zI=>cd (b=(a.length:Int)) sF (TN a b fun W=>V (We u W.Fence i e) fun Z=>J Z (TN a b fun c=>TN a b fun a0=>cd ([c.Page,c.K,c.At,c.Q,c.Fence]≠[g.S,h.K,h.At,A,a0.Fence]) sF (zI ((a,e,b,j,k,l,m,n,f,()),g,h,()))) sF)) (L0 ((a,e,b,i,j,k,(X (l+1)),()),g,()))) u ((t,a2,v,a4,w,y,r,s.k,(s.k.length:Int),0,()),a8,s,())) (some (decide (v=(t.length:Int))))) u ((p1,p2,0,0,q.P,(q.P.length:Int),0,()),q,())
def Qnt:o 182 (s [E,l .Call,d] [h] (Qek u)):=f u (n 2 (m [.l 1 .Call,.n 2,.r 3 .Page,.n 7,.n 8,.l 14 .R,.n 15,.n 16] (n 2 (c (.one (n 2 (.one (k [.l 1 .Call,.n 2,.r 3 .Page,.n 7,.n 8,.r 10 .R,.l 14 .R,.n 15,.n 16,.s 21 lI,.n 22,.n 23] (n 2 (c (.one (c g (c (j [.l 1 .Call,.n 2,.r 3 .Page,.n 7,.r 10 .R,.l 14 .R,.n 15,.n 16,.s 21 lI,.n 22,.n 23] g) g))) g)))))) g)))) (e (Qel u) t) func182
def UG(u:Nat)(b:D.Call)(a:D.Page):I AH:=TF a a (some (decide (b.Page≠a.S)))
def QeZ:o 181 (Ql [.st .Call,.one (.TM 101)] [w 101 .Page] [h] [] [101] AH kz2 (fun x y=>UG u x.1 y.1)):=i u g kz4 t func181
def QZ(b:Y D.Call)(c102:D.Page):I Int:=Qe (fun h ((f,c,_),e,a,_)=>cd (c<f) (TK c fun g=>TP g a.length (V a[g]? fun i=>V (UG u i e) fun j=>J j (TF a b (TF e c102 (some c))) (h ((f,(X (c+1)),()),e,a,())))) (TF a b (TF e c102 (some (-1))))) u (((b.length:Int),0,()),c102,b,())
def Wy:o 266 (Ql [.one (.own 101),.one (.clo 181 [102])] [p 101 .Call,w 102 .Page] [d] [] [101,102] Int kz2 (fun x y=>QZ u y.1 y.2.1)):=i u (c g (lp [(0,.one (.own 101)),(1,.one (.clo 181 [102])),G 7,G 8] [w 102 .Page,p 101 .Call] g)) kz4 (e (QeZ u) t) func266
def QW(f:Y D.Call)(c102:D.Page):I (Nat×Nat×Y D.Call):=V (QZ u f c102) fun m=>cd (m=(-1)) (TF c102 c102 (some (0,f.length,f))) (Qe (fun o ((c,g,_),h,a,_)=>cd (g<(a.length:Int)) (TG (fun((p,q,_),r,s,_)=>o ((p,(X (q+1)),()),r,s,())) fun i=>TK g fun j=>TP j a.length (V a[j]? fun k=>V (UG u k h) fun n=>J (!n) (TK c fun e=>TP e a.length (V a[e]? fun t=>i (((X (c+1)),g,()),h,(List.set a e k),()))) (i ((c,g,()),h,a,())))) (TK c fun b=>TO b a.length (TO b a.length (TO a.length a.length (TK c fun l=>TO l (((List.take b a)++(List.replicate (a.length - b) (D.Call.mk 0 0 0 0 0)))++(List.drop a.length a)).length (TF h c102 (some (0,l,(((List.take b a)++(List.replicate (a.length - b) (D.Call.mk 0 0 0 0 0)))++(List.drop a.length a)))))))))) u ((m,(X (m+1)),()),c102,f,()))
def Wo:o 179 (Ql [.one (.own 101),.one (.clo 181 [102])] [p 101 .Call,w 102 .Page] [.one (.view 101)] [p 101 .Call] [102] (Nat×Nat×Y D.Call) kz18 (fun x y=>QW u y.1 y.2.1)):=i u (n 3 (lp [(0,.one (.own 101)),(1,.one (.clo 181 [102])),G 5,G 6] [w 102 .Page,p 101 .Call] (c g (c (.TG [(0,.one (.own 101)),(1,.one (.clo 181 [102])),G 5,G 6] [w 102 .Page,p 101 .Call] g) g)))) kz20 (e (QeZ u) (e (Wy u) t)) func179
def QhU(k:D.F):I AH:=Qe (fun v ((l,m,n,c,_),a,_)=>cd (c<n) (TN m c fun b=>TG (fun((w,y,z,o,_),e,f,_)=>V (X2 u e.Calls) fun p=>V (QW u p f) fun(g,h,i)=>V (Qek u f (List.drop g (List.take h i)) e.Fence) fun q=>J (!q) sF (v (((X (w+(((List.drop g (List.take h i)).length:Nat):Int))),y,z,(X (o+1)),()),e,()))) fun j=>cd (0<c) (TN a.G (X (c - 1)) fun r=>cd (b.S<=r.S) sF (V (Yp u a.b b) fun s=>J s (cd (a.FC<b.FT) sF (j ((l,m,n,c,()),a,b,()))) sF)) (V (Yp u a.b b) fun t=>J t (cd (a.FC<b.FT) sF (j ((l,m,n,c,()),a,b,()))) sF)) (some (decide (l=(a.Calls.length:Int))))) u ((0,k.G,(k.G.length:Int),0,()),k,())
def Qnv:o 117 (s [H] [h] (QhU u)):=f u (n 2 (m [.r 1 .F,.n 3,.l 8 .Page,.n 9,.n 10] (n 2 (c (.one (c g (c (j [.r 1 .F,.n 3,.r 5 .Page,.l 8 .Page,.n 9,.n 10] g) g))) g)))) (e (Vm u) (e (Wo u) (e (Qbp u) (e (Qnt u) t)))) func117
def XJ(a:D.F):I AH:=TG (fun(_,b,_)=>V (QcU u b.E b.b) fun c=>cd (c=0) (V (QhU u b) fun e=>J e sT sF) sF) fun f=>V (We u a.FC 0 8589934592) fun g=>J g (cd (64<(a.G.length:Int)) sF (V (We u a.FE (-1) 4) fun h=>J h (V (We u a.Fence 0 1048576) fun i=>J i (V (QgE u a.h) fun j=>J j (f ((),a,())) sF) sF) sF)) sF
def VG:o 68 (s [H] [h] (XJ u)):=f u (c g (c (j [.r 1 .F] g) g)) (e (Qel u) (e (Qpv u) (e (Qmq u) (e (Qnv u) t)))) func68
def QdD(u:Nat)(a:Int)(b:Int)(c:Int):I AH:=cd (b<=a) (cd (a<=c) sT sF) sF
def QfO:o 78 (s [d,d,d] [h] (QdD u)):=f u g t func78
def UP(u:Nat)(a:Int)(b:Int)(c:Int):I AH:=cd (b<=a) (cd (a<=c) sT sF) sF
def Qga:o 118 (s [d,d,d] [h] (UP u)):=f u g t func118
def Qay(u:Nat)(a:Int)(b:Int)(c:Int):I AH:=cd (b<=a) (cd (a<=c) sT sF) sF
def Qd4:o 183 (s [d,d,d] [h] (Qay u)):=f u g t func183
def QeS(b:D.N):I AH:=Qe (fun h ((i,e,f,c,_),a,_)=>cd (c<f) (TN e c fun g=>V (Qay u g.T i a.T) fun j=>J (!j) sF (h ((g.T,e,f,(X (c+1)),()),a,()))) (cd ((a.l.length:Int)<=256) (V (Qay u a.i 0 (a.l.length:Int)) fun k=>J k sT sF) sF)) u ((1,b.l,(b.l.length:Int),0,()),b,())
def QnM:o 223 (s [zG] [h] (QeS u)):=f u (n 2 (m [.r 1 .N,.n 3,.l 7 .n,.n 8,.n 9] g)) (e (Qd4 u) t) func223
def Qd5(u:Nat)(b:Int)(a:D.N):I AH:=cd ((a.FV.length:Int)=b) (TN a.FV a.S fun c=>J c sT sF) sF
def Qqo:o 224 (s [d,zG] [h] (Qd5 u)):=f u g t func224
def Qdo(b:Int)(a:D.N):I AH:=V (Qay u b 0 (a.l.length:Int)) fun c=>TF a a (some (!c))
def Qj7:o 308 (Ql [d,.one (.TM 101)] [w 101 .N] [h] [] [101] AH kz2 (fun x y=>Qdo u x.1 y.1)):=i u g kz4 (e (Qd4 u) t) func308
def ZG(c:Y Int)(c101:D.N):I Int:=Qe (fun g ((e,f,a,_),b,_)=>cd (a<f) (TN e a fun h=>V (Qdo u h b) fun i=>J i (TF b c101 (some a)) (g ((e,f,(X (a+1)),()),b,()))) (TF b c101 (some (-1)))) u ((c,(c.length:Int),0,()),c101,())
def WU:o 341 (Ql [lI,.one (.clo 308 [101])] [w 101 .N] [d] [] [101] Int kz2 (fun x y=>ZG u x.1 y.1)):=i u (c g (m [.s 0 lI,.s 1 (.one (.clo 308 [101])),.n 7,.n 8] g [w 101 .N])) kz4 (e (Qj7 u) t) func341
def Zn(a:Y Int)(c101:D.N):I AH:=V (ZG u a c101) fun b=>TF c101 c101 (some (decide (0<=b)))
def Wn:o 307 (Ql [lI,.one (.clo 308 [101])] [w 101 .N] [h] [] [101] AH kz2 (fun x y=>Zn u x.1 y.1)):=i u g kz4 (e (WU u) t) func307
def Qgp(b:Int)(a:D.N):I AH:=cd ((a.FH.length:Int)=b) (TN a.FH a.S fun c=>cd (c=(a.l.length:Int)) (V (Zn u a.FH a) fun e=>J e sF sT) sF) sF
def Qm8:o 225 (s [d,zG] [h] (Qgp u)):=f u g (e (Wn u) t) func225
def Uk(c:Int)(b:D.N):I AH:=TG (fun((e,_),a,_)=>cd (a.FM=0) (cd ((a.FV.length:Int)=0) (cd ((a.FH.length:Int)=0) sT sF) sF) (cd (a.FM=1) (V (Qd5 u e a) fun g=>J g (cd ((a.FH.length:Int)=0) sT sF) sF) (cd (a.FM=2) (V (Qd5 u e a) fun h=>J h (V (Qgp u e a) fun i=>J i sT sF) sF) sF))) fun j=>V (Qay u c 1 5) fun k=>J k (V (Qay u b.S 0 (X (c - 1))) fun l=>J l (V (Qay u b.T 0 1048576) fun m=>J m (V (Qay u b.Fh (-1) (X (c - 1))) fun n=>J n (V (QeS u b) fun f=>J f (j ((c,()),b,())) sF) sF) sF) sF) sF
def Qjl:o 160 (s [d,zG] [h] (Uk u)):=f u (c g (c (j [.n 0,.r 3 .N] g) g)) (e (Qd4 u) (e (QnM u) (e (Qqo u) (e (Qm8 u) t)))) func160
def UY(b:Y D.FG)(c:D.FG):I Int:=Qe (fun j ((e,f,a,_),(g,h,_),_)=>cd (a<f) (TN e a fun i=>cd ([g,h]=[i.a0,i.a1]) (some a) (j ((e,f,(X (a+1)),()),(g,h,()),()))) (some (-1))) u ((b,(b.length:Int),0,()),(c.a0,c.a1,()),())
def Qgl:o 226 (s [l .FG,.st .FG] [d] (UY u)):=f u (c g (m [.l 0 .FG,.s 3 (.one (.TM 1003)),.n 7,.n 8] g [(1003,.box [v,v])])) t func226
def XC(a:Y D.FG)(b:D.FG):I AH:=V (UY u a b) fun c=>some (decide (0<=c))
def QdX:o 161 (s [l .FG,.st .FG] [h] (XC u)):=f u g (e (Qgl u) t) func161
def Ve(g:D.H):I AH:=TG (fun((a0,_),s,_)=>Qe (fun L2 ((t,v,w,k,_),l,_)=>cd (k<w) (TG (fun((a8,a9,y,z,_),A,_)=>L2 ((a8,a9,y,(X (z+1)),()),A,())) fun B=>TN v k fun m=>cd (m.S≠k) sF (V (Uk u t m) fun zH=>J zH (B ((t,v,w,k,()),l,())) sF)) (Qe (fun E ((a,n,o,h,_),b,_)=>cd (h<o) (TG (fun((F,G,H,zE,_),zG,_)=>E ((F,G,H,(X (zE+1)),()),zG,())) fun L=>TN n h fun c=>V (UP u c.v 0 (X (a - 1))) fun zD=>J zD (V (UP u c.To 0 (X (a - 1))) fun zI=>J zI (cd (c.v=c.To) sF (L ((a,n,o,h,()),b,()))) sF) sF) (Qe (fun W ((i,p,q,e,_),j,_)=>cd (e<q) (TG (fun((Z,a2,aA,aB,_),aC,_)=>W ((Z,a2,aA,(X (aB+1)),()),aC,())) fun aD=>TN p e fun f=>V (UP u f.a0 0 (X (i - 1))) fun aE=>J aE (V (UP u f.a1 (X (f.a0+1)) (X (i - 1))) fun aF=>J aF (TK e fun r=>TO r j.Fq.length (V (XC u (List.take r j.Fq) f) fun aG=>J aG sF (aD ((i,p,q,e,()),j,())))) sF) sF) sT) u ((a,b.Fq,(b.Fq.length:Int),0,()),b,()))) u ((t,l.FF,(l.FF.length:Int),0,()),l,()))) u ((a0,s.M,(s.M.length:Int),0,()),s,())) fun aH=>V (UP u (g.M.length:Int) 1 5) fun aI=>J aI (cd ((g.FW.length:Int)≠(g.M.length:Int)) sF (cd (256<(g.FF.length:Int)) sF (aH (((g.M.length:Int),()),g,())))) sF
def Qcs:o 104 (s [K] [h] (Ve u)):=f u (n 2 (c (j [.r 1 .H,.n 3] g) (c (c g (.one (k [.r 1 .H,.n 3,.l 30 .N,.n 31,.n 32] (n 2 (c (j [.r 1 .H,.n 3,.l 30 .N,.n 31,.n 32] g) g))))) (c (c g (.one (k [.r 1 .H,.n 3,.l 49 .c,.n 50,.n 51] (n 2 (c (j [.r 1 .H,.n 3,.l 49 .c,.n 50,.n 51] g) g))))) (m [.r 1 .H,.n 3,.l 78 .FG,.n 79,.n 80] (n 2 (c (j [.r 1 .H,.n 3,.l 78 .FG,.n 79,.n 80] g) g))))))) (e (Qga u) (e (Qjl u) (e (QdX u) t))) func104
def Uq(u:Nat)(a:Int)(b:Int)(c:Int):I AH:=cd (b<=a) (cd (a<=c) sT sF) sF
def Qqw:o 227 (s [d,d,d] [h] (Uq u)):=f u g t func227
def QaK(b:D.Z):I AH:=TG (fun((e,f,_),a,_)=>V (Uq u a.S 1 999999) fun g=>J g (V (Uq u a.Page 1 999999) fun h=>J h (V (Uq u a.Q (-1) 31) fun i=>J i (V (Uq u a.At 0 8589934592) fun j=>J j (V (Uq u a.a 1 5) fun k=>J k (V (Uq u a.Fw e f) fun l=>J l sT sF) sF) sF) sF) sF) sF) fun c=>cd (b.a=3) (c ((1,86400,()),b,())) (cd (b.a=4) (c ((0,31,()),b,())) (c ((0,0,()),b,())))
def Qfk:o 162 (s [t12] [h] (QaK u)):=f u (n 2 (c (j [.r 1 .Z,.n 3,.n 4] g) g)) (e (Qqw u) t) func162
def Qak(a:D.Op):I AH:=V (We u a.S 1 1099511627776) fun b=>J b (V (We u a.a 1 5) fun c=>J c (V (We u a.Region 0 4) fun e=>J e (V (We u a.Fence 0 1048576) fun f=>J f (V (We u a.At 0 8589934592) fun g=>J g (V (We u a.Page 0 999999) fun h=>J h (V (We u a.K (-1) 1000) fun i=>J i (cd (a.a≠4) sT (V (QaK u a.Z) fun j=>J j sT sF)) sF) sF) sF) sF) sF) sF) sF
def Qdh:o 105 (s [t6] [h] (Qak u)):=f u g (e (Qel u) (e (Qfk u) t)) func105
def Xq(c:D.d):I AH:=TG (fun(_,i,_)=>Qe (fun F ((k,l,j,_),G,_)=>cd (j<l) (TN k j fun m=>Qe (fun H ((n,o,e,f,g,a,_),b,_)=>cd (a<g) (TG (fun((p,q,r,s,t,v,_),w,_)=>H ((p,q,r,s,t,(X (v+1)),()),w,())) fun y=>TN f a fun h=>V (Qak u h.Op) fun z=>J z (cd (b.FU<=h.Op.S) sF (y ((n,o,e,f,g,a,()),b,()))) sF) (F ((n,o,(X (e+1)),()),b,()))) u ((k,l,j,m.l,(m.l.length:Int),0,()),G,())) sT) u ((i.H.M,(i.H.M.length:Int),0,()),i,())) fun A=>V (XJ u c.FZ) fun B=>J B (V (Ve u c.H) fun zH=>J zH (V (QdD u c.FU 1 1099511627776) fun E=>J E (A ((),c,())) sF) sF) sF
def W1:o 54 (s [t7] [h] (Xq u)):=f u (c g (c (j [.r 1 .d] g) (m [.r 1 .d,.l 25 .N,.n 26,.n 27] (n 2 (c (.one (n 2 (.one (k [.r 1 .d,.l 25 .N,.n 26,.n 27,.l 32 .n,.n 33,.n 34] (n 2 (c (j [.r 1 .d,.l 25 .N,.n 26,.n 27,.l 32 .n,.n 33,.n 34] g) g)))))) g))))) (e (VG u) (e (QfO u) (e (Qcs u) (e (Qdh u) t)))) func54
def X0(a:D.N):I (Y D.Op):=TK (max 0 (min a.i (a.l.length:Int))) fun b=>TO b a.l.length (Qe (fun i ((f,g,c,_),e,_)=>cd (c<g) (TN f c fun h=>TO (e.length+[h.Op].length) 34359738368 (i ((f,g,(X (c+1)),()),(e++[h.Op]),()))) (some e)) u (((List.take b a.l),(((List.take b a.l).length:Nat):Int),0,()),[],()))
def Qbo:o 111 (s [zG] [l .Op] (X0 u)):=f u (n 2 (m [.o 3 1025 .Op,.l 15 .n,.n 16,.n 17] g)) t func111
def UO(e:D.H):I (Y D.Op):=V (Ve u e) fun j=>J (!j) (some []) (Qe (fun k ((f,g,h,a,_),_)=>cd (a<h) (TG (fun((l,m,n,o,_),_)=>k ((l,m,n,(X (o+1)),()),())) fun b=>TN g a fun i=>V (X0 u i) fun c=>cd ((f.length:Int)<(c.length:Int)) (b ((c,g,h,a,()),())) (b ((f,g,h,a,()),()))) (some f)) u (([],e.M,(e.M.length:Int),0,()),()))
def Qe1:o 62 (s [K] [l .Op] (UO u)):=f u (n 3 (m [.l 3 .Op,.l 11 .N,.n 12,.n 13] (n 2 (c (j [.l 3 .Op,.l 11 .N,.n 12,.n 13] g) g)))) (e (Qcs u) (e (Qbo u) t)) func62
def QdC(u:Nat)(b:D.Op)(a:Int):I AH:=TF a a (some (decide (b.S=a)))
def Qg9:o 63 (Ql [t6,.one (.TM 101)] [w 101 .int] [h] [] [101] AH kz2 (fun x y=>QdC u x.1 y.1)):=i u g kz4 t func63
def YA(c:Y D.Op)(c101:Int):I Int:=Qe (fun g ((e,f,a,_),(b,_),_)=>cd (a<f) (TN e a fun h=>V (QdC u h b) fun i=>J i (TF b c101 (some a)) (g ((e,f,(X (a+1)),()),(b,()),()))) (TF b c101 (some (-1)))) u ((c,(c.length:Int),0,()),(c101,()),())
def Wz:o 110 (Ql [l .Op,.one (.clo 63 [101])] [w 101 .int] [d] [] [101] Int kz2 (fun x y=>YA u x.1 y.1)):=i u (c g (m [.l 0 .Op,.s 1 (.one (.clo 63 [101])),.n 7,.n 8] g [(101,.box [v])])) kz4 (e (Qg9 u) t) func110
def Ye(a:Y D.Op)(c101:Int):I AH:=V (YA u a c101) fun b=>TF c101 c101 (some (decide (0<=b)))
def X5:o 61 (Ql [l .Op,.one (.clo 63 [101])] [w 101 .int] [h] [] [101] AH kz2 (fun x y=>Ye u x.1 y.1)):=i u g kz4 (e (Wz u) t) func61
def QfM(a:D.d)(b:Int):I AH:=V (Xq u a) fun c=>J c (V (UO u a.H) fun e=>V (Ye u e b) fun f=>J f sT sF) sF
def QiR:o 14 (s [t7,d] [h] (QfM u)):=f u g (e (W1 u) (e (X5 u) (e (Qe1 u) t))) func14
def QmA(u:Nat)(a:Int):I AH:=cd (48<=a) (cd (a<=57) sT sF) sF
def QrE:o 311 (s [.one (.TZ .u8)] [h] (QmA u)):=f u g t func311
def QgN(c:AJ):I AH:=TG (fun((r,_),_)=>Qe (fun s ((a,b,_),_)=>cd (b<(((ByteArray.size a):Nat):Int)) (TG (fun((t,v,_),_)=>s ((t,(X (v+1)),()),())) fun e=>TK b fun n=>TP n (ByteArray.size a) (cd ((((bAt a n):Nat):Int)<97) (TK b fun o=>TP o (ByteArray.size a) (V (QmA u (((bAt a o):Nat):Int)) fun w=>J w (e ((a,b,()),())) (TK b fun f=>TP f (ByteArray.size a) (cd ((((bAt a f):Nat):Int)≠95) (TK b fun g=>TP g (ByteArray.size a) (cd ((((bAt a g):Nat):Int)≠45) sF (e ((a,b,()),())))) (e ((a,b,()),())))))) (TK b fun h=>TP h (ByteArray.size a) (cd (122<(((bAt a h):Nat):Int)) (TK b fun i=>TP i (ByteArray.size a) (V (QmA u (((bAt a i):Nat):Int)) fun p=>J p (e ((a,b,()),())) (TK b fun j=>TP j (ByteArray.size a) (cd ((((bAt a j):Nat):Int)≠95) (TK b fun k=>TP k (ByteArray.size a) (cd ((((bAt a k):Nat):Int)≠45) sF (e ((a,b,()),())))) (e ((a,b,()),())))))) (e ((a,b,()),())))))) sT) u ((r,0,()),())) fun q=>cd ((((ByteArray.size c):Nat):Int)<1) sF (cd (24<(((ByteArray.size c):Nat):Int)) sF (TK 0 fun l=>TP l (ByteArray.size c) (cd ((((bAt c l):Nat):Int)<97) sF (TK 0 fun m=>TP m (ByteArray.size c) (cd (122<(((bAt c m):Nat):Int)) sF (q ((c,()),())))))))
def Qh2:o 237 (s [tx] [h] (QgN u)):=f u (c g (c (j [.s 0 tx] g) (m [.s 0 tx,.n 3] (c g (c (j [.s 0 tx,.n 3] g) g))))) (e (QrE u) t) func237
def Qcl(u:Nat)(a:Int)(b:Int)(c:Int):I AH:=cd (b<=a) (cd (a<=c) sT sF) sF
def QfT:o 342 (s [d,d,d] [h] (Qcl u)):=f u g t func342
def Qrz(a:D.FJ):I AH:=V (Qcl u a.v 1970 2240) fun b=>J b (V (Qcl u a.To a.v 2240) fun c=>J c (V (Qcl u a.F0 1 12) fun e=>J e (V (Qcl u a.F8 1 5) fun f=>J f (V (Qcl u a.F7 0 6) fun g=>J g (V (Qcl u a.Fb 0 86399) fun h=>J h (V (Qcl u a.Fa (-64800) 64800) fun i=>J i sT sF) sF) sF) sF) sF) sF) sF
def QrA:o 343 (s [.st .FJ] [h] (Qrz u)):=f u g (e (QfT u) t) func343
def QpF(u:Nat)(a:Int):I Int:=nzc 4 (nzc 100 (nzc 400 (some (X ((X ((X ((X ((X (a - 1970))*365))+(X (Int.tdiv (X (a - 1969)) 4)))) - (X (Int.tdiv (X (a - 1901)) 100))))+(X (Int.tdiv (X (a - 1601)) 400)))))))
def Qmw:o 310 (s [d] [d] (QpF u)):=f u g t func310
def Quo(u:Nat)(a:Int):I AH:=nzc 4 (cd ((Int.tmod a 4)=0) (nzc 100 (cd ((Int.tmod a 100)≠0) sT (nzc 400 (cd ((Int.tmod a 400)=0) sT sF)))) sF)
def Qs4:o 405 (s [d] [h] (Quo u)):=f u g t func405
def Qk5(c:Int)(a:Int):I Int:=TG (fun((f,b,h,_),_)=>J h (some 31) (TG (fun((i,j,k,_),_)=>J k (some 30) (cd (j=2) (V (Quo u i) fun l=>J l (some 29) (some 28)) (some 0))) fun g=>cd (b=4) (g ((f,b,(decide (b=4)),()),())) (cd (b=6) (g ((f,b,(decide (b=6)),()),())) (cd (b=9) (g ((f,b,(decide (b=9)),()),())) (g ((f,b,(decide (b=11)),()),())))))) fun e=>cd (a=1) (e ((c,a,(decide (a=1)),()),())) (cd (a=3) (e ((c,a,(decide (a=3)),()),())) (cd (a=5) (e ((c,a,(decide (a=5)),()),())) (cd (a=7) (e ((c,a,(decide (a=7)),()),())) (cd (a=8) (e ((c,a,(decide (a=8)),()),())) (cd (a=10) (e ((c,a,(decide (a=10)),()),())) (e ((c,a,(decide (a=12)),()),())))))))
def Qh1:o 377 (s [d,d] [d] (Qk5 u)):=f u (c g (c (c g (.one (c (j [.n 0,.n 5,.s 6 h] g) (c g (c (j [.n 0,.n 5,.s 14 h] g) g))))) g)) (e (Qs4 u) t) func377
def Qrw(a:D.Ft):I AH:=cd (1970<=a.F6) (cd (a.F6<=2240) (cd (1<=a.F0) (cd (a.F0<=12) (cd (1<=a.Fm) (V (Qk5 u a.F6 a.F0) fun b=>cd (a.Fm<=b) sT sF) sF) sF) sF) sF) sF
def Qrx:o 404 (s [.st .Ft] [h] (Qrw u)):=f u g (e (Qh1 u) t) func404
def QxG(b:D.Ft):I (Int×Int):=V (Qrw u b) fun f=>J (!f) (some (0,1)) (V (QpF u b.F6) fun g=>Qe (fun h ((e,c,_),a,_)=>cd (c<a.F0) (V (Qk5 u a.F6 c) fun i=>h (((X (e+i)),(X (c+1)),()),a,())) (some ((X ((X (e+a.Fm)) - 1)),0))) u ((g,1,()),b,()))
def Qvb:o 375 (s [.st .Ft] [d,d] (QxG u)):=f u (n 3 (m [.r 1 .Ft,.n 4,.n 5] g)) (e (Qmw u) (e (Qh1 u) (e (Qrx u) t))) func375
def Qer(u:Nat)(a:Int):I Int:=nzc 7 (nzc 7 (some (Int.tmod (X ((Int.tmod a 7)+10)) 7)))
def Qhr:o 376 (s [d] [d] (Qer u)):=f u g t func376
def QxH(l:Int)(m:Int)(j:Int)(k:Int):I (Int×Int):=V (QxG u (D.Ft.mk l m 1)) fun(v,w)=>TG (fun((y,z,A,B,n,_),_)=>Qe (fun zH ((o,p,b,e,f,a,_),_)=>V (Qer u a) fun q=>cd (q≠e) (zH ((o,p,b,e,f,(X (a+1)),()),())) (cd (b<5) (some ((X (a+(X (7*(X (b - 1)))))),0)) (Qe (fun r ((g,h,i,c,_),_)=>V (Qk5 u g h) fun s=>cd ((X (c+7))<(X (i+s))) (r ((g,h,i,(X (c+7)),()),())) (some (c,0))) u ((o,p,f,a,()),())))) u ((y,z,A,B,n,n,()),())) fun t=>cd (w≠0) (some (0,1)) (cd (j<1) (some (0,1)) (cd (5<j) (some (0,1)) (cd (k<0) (some (0,1)) (cd (6<k) (some (0,1)) (t ((l,m,j,k,v,()),()))))))
def Qvc:o 361 (s [d,d,d,d] [d,d] (QxH u)):=f u (n 2 (c (j [.n 0,.n 1,.n 2,.n 3,.n 10] g) (c g (c (.one (k [.n 0,.n 1,.n 2,.n 3,.n 10,.n 12] g)) (c g (c (.one (k [.n 0,.n 1,.n 10,.n 12] g)) g)))))) (e (Qvb u) (e (Qhr u) (e (Qh1 u) t))) func361
def QfU(p0:Y D.FJ):I (Y D.FY):=Qe (fun L0 ((r,s,_),w,_)=>cd (s<(r.length:Int)) (TN r s fun a4=>Qe (fun L5 ((e,f,t,_),v,_)=>TN e f fun y=>cd (t<=y.To) (TN e f fun z=>TN e f fun A=>TN e f fun B=>V (QxH u t z.F0 A.F8 B.F7) fun(zH,aB)=>TN e f fun E=>TN e f fun F=>TG (fun((G,H,zE,k,_),a,b,_)=>TO (b.length+[a].length) 34359738368 (TK (X (k+1)) fun c=>TO c (b++[a]).length (TK k fun g=>TO g (b++[a]).length (chk (b++[a]).length (b++[a]).length (chk (b++[a]).length (b++[a]).length (TO c (b++[a]).length (TO g c (TK k fun l=>TP l ((List.take c (b++[a]))++(List.take ((b++[a]).length - c) (List.drop g (b++[a])))).length (V (GetElem?.getElem? ((List.take c (b++[a]))++(List.take ((b++[a]).length - c) (List.drop g (b++[a])))) l) fun aC=>L5 ((G,H,(X (zE+1)),()),(List.set ((List.take c (b++[a]))++(List.take ((b++[a]).length - c) (List.drop g (b++[a])))) l a),())))))))))) fun p=>Qe (fun zG ((m,n,o,h,_),j,i,_)=>TG (fun((L,zD,zI,W,_),Z,a0,_)=>zG ((L,zD,zI,(X (W - 1)),()),Z,a0,())) fun a5=>cd (0<h) (TK (X (h - 1)) fun q=>TP q i.length (V i[q]? fun aA=>cd (j.At<aA.At) (a5 ((m,n,o,h,()),j,i,())) (p ((m,n,o,h,()),j,i,())))) (p ((m,n,o,h,()),j,i,()))) u ((e,f,t,(v.length:Int),()),(D.FY.mk (X ((X (zH*86400))+E.Fb)) F.Fa),v,())) (L0 ((e,(X (f+1)),()),v,()))) u ((r,s,a4.v,()),w,())) (some w)) u ((p0,0,()),[],())
def QiT:o 344 (s [l .FJ] [l .FY] (QfU u)):=f u (n 2 (m [.l 0 .FJ,.o 3 1084 .FY,.n 4] (c g (c (.one (c g (.one (k [.l 0 .FJ,.o 3 1084 .FY,.n 4,.n 5] (c g (c (.one (n 3 (c (.TG [li 0 .FJ,(3,.one (.own 1084)),G 4,G 5,r 8,G 9] [w 1008 .FY,p 1084 .FY] (.one (.loop [li 0 .FJ,(3,.one (.own 1084)),G 4,G 5,r 8,G 9] [w 1008 .FY,p 1084 .FY] (c (.TG [li 0 .FJ,(3,.one (.own 1084)),G 4,G 5,r 8,G 9] [w 1008 .FY,p 1084 .FY] g) g)))) g))) g)))))) g)))) (e (Qvc u) t) func344
def W9(o:D.q):I (Y D.FK×Int):=V (Qcl u o.Fa (-64800) 64800) fun E=>J (!E) (some ([],1)) (cd (16<(o.Fu.length:Int)) (some ([],5)) (Qe (fun F ((p,h,_),f,_)=>cd (h<(f.Fu.length:Int)) (TN f.Fu h fun G=>V (Qrz u G) fun H=>J (!H) (some ([],1)) (TN f.Fu h fun zE=>TN f.Fu h fun zG=>F (((X (p+(X ((X (zE.To - zG.v))+1)))),(X (h+1)),()),f,()))) (cd (640<p) (some ([],5)) (V (QfU u f.Fu) fun L=>Qe (fun q ((b,c,e,_),a,_)=>cd (e<(b.length:Int)) (TG (fun((r,s,t,_),v,_)=>q ((r,s,(X (t+1)),()),v,())) fun k=>TN b e fun w=>cd (w.Fa=c) (k ((b,c,e,()),a,())) (TN b e fun g=>TN b e fun i=>TG (fun((y,z,_),j,l,_)=>TO (l.length+[j].length) 34359738368 (k ((y,j.Fa,z,()),(l++[j]),()))) fun m=>V (Qcl u (X (i.Fa - c)) (-86399) 86399) fun A=>J A (V (Qcl u (X (g.At - c)) 0 8589934592) fun B=>J B (cd (0<(a.length:Int)) (TK (X ((a.length:Int) - 1)) fun n=>TP n a.length (V a[n]? fun zH=>cd ((X ((X (g.At - c)) - zH.At))<604800) (some ([],6)) (m ((b,e,()),(D.FK.mk (X (g.At - c)) i.Fa),a,())))) (m ((b,e,()),(D.FK.mk (X (g.At - c)) i.Fa),a,()))) (some ([],6))) (some ([],6)))) (some (a,0))) u ((L,f.Fa,0,()),[],())))) u ((0,0,()),o,())))
def UJ:o 309 (s [t8] [l .FK,d] (W9 u)):=f u (n 4 (c (c g (.one (k [.r 1 .q,.n 4,.n 5] g))) (n 4 (m [.o 6 1115 .FK,.l 7 .FY,.n 8,.n 9] (c g (c (j [.o 6 1115 .FK,.l 7 .FY,.n 8,.n 9] (.one (n 2 (c (.TG [(6,.one (.own 1115)),li 7 .FY,G 9,r 10] [w 1010 .FK,p 1115 .FK] g) g)))) g)))))) (e (QfT u) (e (QrA u) (e (QiT u) t))) func309
def QdF(a:D.q):I Int:=V (W9 u a) fun(c,b)=>some b
def Qko:o 229 (s [t8] [d] (QdF u)):=f u g (e (UJ u) t) func229
def Qh3(e:D.q):I AH:=nzc 60 (Qe (fun g ((f,a,_),b,_)=>cd (a<(b.Fu.length:Int)) (TG (fun((h,i,_),j,_)=>g ((h,(X (i+1)),()),j,())) fun c=>J f (TN b.Fu a fun k=>nzc 60 (cd ((Int.tmod k.Fa 60)=0) (c ((true,a,()),b,())) (c ((false,a,()),b,())))) (c ((false,a,()),b,()))) (some f)) u (((decide ((Int.tmod e.Fa 60)=0)),0,()),e,()))
def QnC:o 230 (s [t8] [h] (Qh3 u)):=f u (n 2 (m [.r 1 .q,.s 3 h,.n 4] (c g (c (j [.r 1 .q,.s 3 h,.n 4] g) g)))) t func230
def WD(a:Y AJ)(f:Int):I Int:=TK f fun g=>TP g a.length (V a[g]? fun k=>V (QgN u k) fun l=>J (!l) (TF a a (some 2)) (Qe (fun m ((c,e,_),b,_)=>cd (e<c) (TK e fun h=>TP h b.length (V b[h]? fun n=>TK c fun i=>TP i b.length (V b[i]? fun j=>cd (n=j) (TF b a (some 4)) (m ((c,(X (e+1)),()),b,()))))) (TF b a (some 0))) u ((f,0,()),a,())))
def QbK:o 228 (Ql [.one (.own 101),d] [p 101 .TY] [d] [] [101] Int kz2 (fun x y=>WD u y.1 x.1)):=i u (n 2 (m [.o 0 101 .TY,.n 1,.n 5] g)) kz4 (e (Qh2 u) t) func228
def QiV(k:D.E):I Int:=Qe (fun l ((a,_),b,c,_)=>cd (a<(b.FL.length:Int)) (TG (fun((m,_),n,o,_)=>l (((X (m+1)),()),n,o,())) fun p=>TN b.FL a fun e=>TO (c.length+[e.Name].length) 34359738368 (V (WD u (c++[e.Name]) a) fun f=>cd (f≠0) (some f) (TN b.FL a fun g=>V (QdF u g) fun h=>cd (h≠0) (some 8) (TN b.FL a fun i=>V (Qh3 u i) fun j=>J j (p ((a,()),b,(c++[e.Name]),())) (some 8))))) (some 0)) u ((0,()),k,[],())
def QrH:o 165 (s [tO] [d] (QiV u)):=f u (n 2 (m [.r 1 .E,.o 3 1021 .TY,.n 4] (c g (c (j [.r 1 .E,.o 3 1021 .TY,.n 4] g) g)))) (e (QbK u) (e (Qko u) (e (QnC u) t))) func165
def UL(u:Nat)(a:Int)(b:Int)(c:Int):I AH:=cd (b<=a) (cd (a<=c) sT sF) sF
def QfW:o 231 (s [d,d,d] [h] (UL u)):=f u g t func231
def Qcm(f:Y D.FI):I Int:=cd (14<(f.length:Int)) (some 5) (Qe (fun m ((a,b,_),_)=>cd (b<(a.length:Int)) (TG (fun((n,o,_),_)=>m ((n,(X (o+1)),()),())) fun g=>TG (fun((e,c,_),_)=>cd (0<c) (TN e c fun p=>TN e (X (c - 1)) fun q=>cd (p.v<q.To) (some 6) (g ((e,c,()),()))) (g ((e,c,()),()))) fun h=>TN a b fun i=>cd (i.v<0) (some 1) (TN a b fun j=>TN a b fun k=>cd (k.To<=j.v) (some 1) (TN a b fun l=>cd (604800<l.To) (some 1) (h ((a,b,()),()))))) (some 0)) u ((f,0,()),()))
def QfV:o 232 (s [l .FI] [d] (Qcm u)):=f u (n 2 (m [.l 0 .FI,.n 3] (c g (c (j [.l 0 .FI,.n 3] (.one (c (j [.l 0 .FI,.n 3] g) g))) g)))) t func232
def QdH(a:Int):I AH:=V (UL u a 0 604800) fun b=>J b (nzc 3600 (cd ((Int.tmod a 3600)=0) sT sF)) sF
def QrF:o 233 (s [d] [h] (QdH u)):=f u g (e (QfW u) t) func233
def QgO(k:D.E):I Int:=Qe (fun l ((b,_),c,e,_)=>cd (b<(c.k.length:Int)) (TG (fun((m,_),n,o,_)=>l (((X (m+1)),()),n,o,())) fun p=>TN c.k b fun a=>TO (e.length+[a.Name].length) 34359738368 (cd (a.Name=(ByteArray.mk (List.toArray [110,111,98,111,100,121]))) (some 2) (V (WD u (e++[a.Name]) b) fun f=>cd (f≠0) (some f) (V (UL u a.q 0 (X ((c.FL.length:Int) - 1))) fun g=>J (!g) (some 3) (V (Qcm u a.Fl) fun h=>cd (h≠0) (some 8) (V (QdH u a.F2) fun i=>J i (V (QdH u a.F3) fun j=>J j (p ((b,()),c,(e++[a.Name]),())) (some 1)) (some 1))))))) (some 0)) u ((0,()),k,[],())
def QpK:o 166 (s [tO] [d] (QgO u)):=f u (n 2 (m [.r 1 .E,.o 3 1023 .TY,.n 4] (c g (c (j [.r 1 .E,.o 3 1023 .TY,.n 4] g) g)))) (e (QbK u) (e (QfW u) (e (QfV u) (e (QrF u) t)))) func166
def Zo:I Int:=V (QpF u 2241) fun a=>some (X (a - 1))
def Qeq:o 234 (s [] [d] (Zo u)):=f u g (e (Qmw u) t) func234
def QbJ(y:D.E):I Int:=Qe (fun z ((f,_),g,m,_)=>cd (f<(g.o.length:Int)) (TN g.o f fun e=>TO (m.length+[e.Name].length) 34359738368 (V (WD u (m++[e.Name]) f) fun o=>cd (o≠0) (some o) (V (UL u e.q 0 (X ((g.FL.length:Int) - 1))) fun A=>J (!A) (some 3) (cd (64<(e.F5.length:Int)) (some 5) (Qe (fun B ((p,n,_),h,a,i,_)=>cd (n<(a.F5.length:Int)) (TN a.F5 n fun q=>V (Zo u) fun r=>V (UL u q 0 r) fun s=>J (!s) (some 1) (B ((p,(X (n+1)),()),h,a,i,()))) (Qe (fun t ((j,b,_),k,c,l,_)=>cd (b<(c.F5.length:Int)) (TN c.F5 b fun v=>TN c.F5 (X (b - 1)) fun w=>cd (v<=w) (some 6) (t ((j,(X (b+1)),()),k,c,l,()))) (z (((X (j+1)),()),k,l,()))) u ((p,1,()),h,a,i,()))) u ((f,0,()),g,e,(m++[e.Name]),())))))) (some 0)) u ((0,()),y,[],())
def QkH:o 167 (s [tO] [d] (QbJ u)):=f u (n 2 (m [.r 1 .E,.o 3 1025 .TY,.n 4] (c g (c (.one (n 5 (c (c g (.one (.loop [r 1,(3,.one (.own 1025)),G 4,r 5,G 7] [w 1001 .E,w 1005 .m,p 1025 .TY] g))) (c g (.one (.loop [r 1,(3,.one (.own 1025)),G 4,r 5,G 8] [w 1001 .E,w 1005 .m,p 1025 .TY] g)))))) g)))) (e (QbK u) (e (QfW u) (e (Qeq u) t))) func167
def QfX(g:D.E)(b:D.u):I Int:=TG (fun(_,q,r,_)=>Qe (fun s ((e,_),f,a,_)=>cd (e<(a.r.length:Int)) (TN a.r e fun t=>V (UL u t 0 (X ((f.k.length:Int) - 1))) fun v=>J (!v) (some 3) (s (((X (e+1)),()),f,a,()))) (TG (fun(_,_)=>some 0) fun c=>V (Qcm u a.Fp) fun w=>cd (w≠0) (some 8) (V (UL u a.F4 0 2) fun h=>J (!h) (some 1) (cd (a.F4≠0) (V (UL u a.m 0 (X ((f.o.length:Int) - 1))) fun i=>J i (cd (a.F4=0) (cd (a.m≠0) (some 1) (c ((),()))) (c ((),()))) (some 3)) (cd (a.F4=0) (cd (a.m≠0) (some 1) (c ((),()))) (c ((),()))))))) u ((0,()),q,r,())) fun j=>V (UL u b.q 0 (X ((g.FL.length:Int) - 1))) fun k=>J (!k) (some 3) (V (Zo u) fun l=>V (UL u b.R.Fm 1 l) fun m=>J m (V (UL u b.R.Fb 0 86399) fun n=>J n (V (UL u b.Unit 0 2) fun o=>J o (V (UL u b.FN 1 400) fun p=>J p (cd ((b.r.length:Int)=0) (some 7) (cd (12<(b.r.length:Int)) (some 5) (j ((),g,b,())))) (some 1)) (some 1)) (some 1)) (some 1))
def QrG:o 235 (s [tO,t9] [d] (QfX u)):=f u (c g (c (j [.r 2 .E,.r 3 .u] g) (c (c g (.one (k [.r 2 .E,.r 3 .u,.n 5] g))) (c (j [] g) g)))) (e (QfW u) (e (QfV u) (e (Qeq u) t))) func235
def Qk6(c:D.E)(a:D.s):I Int:=TG (fun(_,_)=>some 0) fun b=>V (UL u a.a 0 2) fun p=>J (!p) (some 1) (V (UL u a.A 0 (X ((c.k.length:Int) - 1))) fun q=>J q (cd (a.a=2) (V (UL u a.B 0 (X ((c.k.length:Int) - 1))) fun r=>J r (cd (a.a≠2) (cd (a.B≠0) (some 1) (cd (a.a=2) (cd (a.A=a.B) (some 4) (cd (a.v<0) (some 1) (cd (a.To<0) (some 1) (nzc 86400 (V (Zo u) fun s=>cd (s<(X (Int.tdiv a.To 86400))) (some 1) (cd (a.To<=a.v) (some 6) (b ((),())))))))) (cd (a.v<0) (some 1) (cd (a.To<0) (some 1) (nzc 86400 (V (Zo u) fun t=>cd (t<(X (Int.tdiv a.To 86400))) (some 1) (cd (a.To<=a.v) (some 6) (b ((),()))))))))) (cd (a.a=2) (cd (a.A=a.B) (some 4) (cd (a.v<0) (some 1) (cd (a.To<0) (some 1) (nzc 86400 (V (Zo u) fun v=>cd (v<(X (Int.tdiv a.To 86400))) (some 1) (cd (a.To<=a.v) (some 6) (b ((),())))))))) (cd (a.v<0) (some 1) (cd (a.To<0) (some 1) (nzc 86400 (V (Zo u) fun w=>cd (w<(X (Int.tdiv a.To 86400))) (some 1) (cd (a.To<=a.v) (some 6) (b ((),()))))))))) (some 3)) (cd (a.a≠2) (cd (a.B≠0) (some 1) (cd (a.a=2) (cd (a.A=a.B) (some 4) (cd (a.v<0) (some 1) (cd (a.To<0) (some 1) (nzc 86400 (V (Zo u) fun y=>cd (y<(X (Int.tdiv a.To 86400))) (some 1) (cd (a.To<=a.v) (some 6) (b ((),())))))))) (cd (a.v<0) (some 1) (cd (a.To<0) (some 1) (nzc 86400 (V (Zo u) fun z=>cd (z<(X (Int.tdiv a.To 86400))) (some 1) (cd (a.To<=a.v) (some 6) (b ((),()))))))))) (cd (a.a=2) (cd (a.A=a.B) (some 4) (cd (a.v<0) (some 1) (cd (a.To<0) (some 1) (nzc 86400 (V (Zo u) fun e=>cd (e<(X (Int.tdiv a.To 86400))) (some 1) (cd (a.To<=a.v) (some 6) (b ((),())))))))) (cd (a.v<0) (some 1) (cd (a.To<0) (some 1) (nzc 86400 (V (Zo u) fun f=>cd (f<(X (Int.tdiv a.To 86400))) (some 1) (cd (a.To<=a.v) (some 6) (b ((),())))))))))) (cd (a.a≠1) (some 3) (cd (a.A≠(-1)) (some 3) (cd (a.a=2) (V (UL u a.B 0 (X ((c.k.length:Int) - 1))) fun g=>J g (cd (a.a≠2) (cd (a.B≠0) (some 1) (cd (a.a=2) (cd (a.A=a.B) (some 4) (cd (a.v<0) (some 1) (cd (a.To<0) (some 1) (nzc 86400 (V (Zo u) fun h=>cd (h<(X (Int.tdiv a.To 86400))) (some 1) (cd (a.To<=a.v) (some 6) (b ((),())))))))) (cd (a.v<0) (some 1) (cd (a.To<0) (some 1) (nzc 86400 (V (Zo u) fun i=>cd (i<(X (Int.tdiv a.To 86400))) (some 1) (cd (a.To<=a.v) (some 6) (b ((),()))))))))) (cd (a.a=2) (cd (a.A=a.B) (some 4) (cd (a.v<0) (some 1) (cd (a.To<0) (some 1) (nzc 86400 (V (Zo u) fun j=>cd (j<(X (Int.tdiv a.To 86400))) (some 1) (cd (a.To<=a.v) (some 6) (b ((),())))))))) (cd (a.v<0) (some 1) (cd (a.To<0) (some 1) (nzc 86400 (V (Zo u) fun k=>cd (k<(X (Int.tdiv a.To 86400))) (some 1) (cd (a.To<=a.v) (some 6) (b ((),()))))))))) (some 3)) (cd (a.a≠2) (cd (a.B≠0) (some 1) (cd (a.a=2) (cd (a.A=a.B) (some 4) (cd (a.v<0) (some 1) (cd (a.To<0) (some 1) (nzc 86400 (V (Zo u) fun l=>cd (l<(X (Int.tdiv a.To 86400))) (some 1) (cd (a.To<=a.v) (some 6) (b ((),())))))))) (cd (a.v<0) (some 1) (cd (a.To<0) (some 1) (nzc 86400 (V (Zo u) fun m=>cd (m<(X (Int.tdiv a.To 86400))) (some 1) (cd (a.To<=a.v) (some 6) (b ((),()))))))))) (cd (a.a=2) (cd (a.A=a.B) (some 4) (cd (a.v<0) (some 1) (cd (a.To<0) (some 1) (nzc 86400 (V (Zo u) fun n=>cd (n<(X (Int.tdiv a.To 86400))) (some 1) (cd (a.To<=a.v) (some 6) (b ((),())))))))) (cd (a.v<0) (some 1) (cd (a.To<0) (some 1) (nzc 86400 (V (Zo u) fun o=>cd (o<(X (Int.tdiv a.To 86400))) (some 1) (cd (a.To<=a.v) (some 6) (b ((),())))))))))))))
def Qs5:o 236 (s [tO,.st .s] [d] (Qk6 u)):=f u (n 2 (c (j [] g) g)) (e (QfW u) (e (Qeq u) t)) func236
def QbL(zH:D.E):I Int:=Qe (fun E ((k,_),s,t,_)=>cd (k<(s.f.length:Int)) (TN s.f k fun c=>TO (t.length+[c.Name].length) 34359738368 (V (WD u (t++[c.Name]) k) fun v=>cd (v≠0) (some v) (TG (fun((F,_),G,H,zE,_)=>Qe (fun w ((l,a,_),e,b,m,f,_)=>cd (a<(b.Fr.length:Int)) (TN b.Fr a fun g=>TO (f.length+[g.Name].length) 34359738368 (V (WD u (f++[g.Name]) a) fun n=>cd (n≠0) (some n) (TN b.Fr a fun y=>V (QfX u e y) fun o=>cd (o≠0) (some o) (w ((l,(X (a+1)),()),e,b,m,(f++[g.Name]),()))))) (Qe (fun z ((p,h,_),i,j,q,_)=>cd (h<(j.FX.length:Int)) (TN j.FX h fun A=>V (Qk6 u i A) fun r=>cd (r≠0) (some r) (z ((p,(X (h+1)),()),i,j,q,()))) (E (((X (p+1)),()),i,q,()))) u ((l,0,()),e,b,m,()))) u ((F,0,()),G,H,zE,[],())) fun B=>cd (6<(c.Fr.length:Int)) (some 5) (cd (48<(c.FX.length:Int)) (some 5) (B ((k,()),s,c,(t++[c.Name]),())))))) (some 0)) u ((0,()),zH,[],())
def QkI:o 168 (s [tO] [d] (QbL u)):=f u (n 2 (m [.r 1 .E,.o 3 1029 .TY,.n 4] (c g (c (.one (n 3 (c (.TG [r 1,(3,.one (.own 1029)),G 4,r 5] [w 1001 .E,w 1005 .e,p 1029 .TY] g) (c g (c (c g (.one (.loop [r 1,(3,.one (.own 1029)),G 4,r 5,(7,.one (.own 1061)),G 8] [w 1001 .E,w 1005 .e,p 1029 .TY,p 1061 .TY] g))) (c g (.one (.loop [r 1,(3,.one (.own 1029)),G 4,r 5,G 11] [w 1001 .E,w 1005 .e,p 1029 .TY] g)))))))) g)))) (e (QbK u) (e (QrG u) (e (Qs5 u) t))) func168
def UK(a:D.E):I Int:=TG (fun(_,b,_)=>V (QiV u b) fun c=>cd (c≠0) (some c) (V (QgO u b) fun e=>cd (e≠0) (some e) (V (QbJ u b) fun f=>cd (f≠0) (some f) (V (QbL u b) fun g=>some g)))) fun h=>cd (16<(a.FL.length:Int)) (some 5) (cd (32<(a.k.length:Int)) (some 5) (cd (8<(a.o.length:Int)) (some 5) (cd (12<(a.f.length:Int)) (some 5) (h ((),a,())))))
def QcY:o 112 (s [tO] [d] (UK u)):=f u (c g (c (j [.r 1 .E] g) g)) (e (QrH u) (e (QpK u) (e (QkH u) (e (QkI u) t)))) func112
def Qet(h:Y Int)(i:Int):I AH:=Qe (fun j ((b,c,a,_),_)=>cd (a<(b.length:Int)) (TG (fun((k,l,m,_),_)=>j ((k,l,(X (m+1)),()),())) fun e=>TN b a fun n=>cd (n<0) sF (TN b a fun o=>cd (c<=o) sF (cd (0<a) (TN b (X (a - 1)) fun f=>TN b a fun g=>cd (g<=f) sF (e ((b,c,a,()),()))) (e ((b,c,a,()),()))))) sT) u ((h,i,0,()),())
def QjY:o 154 (s [lI,d] [h] (Qet u)):=f u (c g (m [.s 0 lI,.n 1,.n 5] (c g (c (j [.s 0 lI,.n 1,.n 5] g) g)))) t func154
def Qla(p:D.E)(g:D.b)(h:Int):I Int:=TN g.t h fun i=>V (QgN u i.Name) fun q=>J (!q) (some 8) (Qe (fun r ((j,f,_),k,l,c,_)=>cd (f<j) (TN l.t f fun s=>cd (s.Name=c.Name) (some 4) (r ((j,(X (f+1)),()),k,l,c,()))) (cd ((c.r.length:Int)=0) (some 7) (Qe (fun t ((b,_),e,a,_)=>cd (b<(a.r.length:Int)) (TN a.r (X (b - 1)) fun m=>TN a.r b fun n=>cd (n<=m) (some 6) (t (((X (b+1)),()),e,a,()))) (V (Qet u a.r (e.k.length:Int)) fun o=>J (!o) (some 3) (some 0))) u ((1,()),k,c,())))) u ((h,0,()),p,g,i,()))
def Qtd:o 169 (s [tO,L,d] [d] (Qla u)):=f u (n 3 (c (c g (.one (k [.n 2,.r 3 .E,.r 4 .b,.r 7 .Fc,.n 8] g))) (c g (m [.r 3 .E,.r 7 .Fc,.n 9] g)))) (e (QjY u) (e (Qh2 u) t)) func169
def QH(u:Nat)(a:Int)(b:Int)(c:Int):I AH:=cd (b<=a) (cd (a<=c) sT sF) sF
def ZE:o 64 (s [d,d,d] [h] (QH u)):=f u g t func64
def Qeu(p:D.E)(q:D.b)(j:Y D.FS):I Int:=cd (6<(j.length:Int)) (some 5) (Qe (fun r ((b,c,_),e,f,_)=>cd (c<(b.length:Int)) (TG (fun((s,t,_),v,w,_)=>r ((s,(X (t+1)),()),v,w,())) fun y=>TG (fun((g,h,k,_),l,m,_)=>TN g h fun n=>cd (n.Fd<0) (some 3) (TN g h fun o=>cd (k<=o.Fd) (some 3) (y ((g,h,()),l,m,())))) fun a=>TN b c fun i=>cd (i.a=0) (a ((b,c,(e.k.length:Int),()),e,f,())) (cd (i.a=1) (a ((b,c,(e.f.length:Int),()),e,f,())) (cd (i.a=2) (a ((b,c,(f.t.length:Int),()),e,f,())) (a ((b,c,(-1),()),e,f,()))))) (some 0)) u ((j,0,()),p,q,()))
def QnD:o 238 (s [tO,L,l .FS] [d] (Qeu u)):=f u (n 2 (m [.l 2 .FS,.r 3 .E,.r 4 .b,.n 7] (c g (c (j [.l 2 .FS,.r 3 .E,.r 4 .b,.n 7] (.one (c g (c (j [.l 2 .FS,.r 3 .E,.r 4 .b,.n 7,.n 8] g) g)))) g)))) t func238
def QgQ(s:D.E)(j:D.b)(k:Int):I Int:=TN j.j k fun l=>V (QgN u l.Name) fun t=>J (!t) (some 8) (Qe (fun v ((m,h,_),n,i,c,_)=>cd (h<m) (TN i.j h fun w=>cd (w.Name=c.Name) (some 4) (v ((m,(X (h+1)),()),n,i,c,()))) (cd ((c.Steps.length:Int)=0) (some 7) (cd (8<(c.Steps.length:Int)) (some 5) (V (QH u c.Fo 0 8) fun y=>J (!y) (some 1) (Qe (fun o ((a,_),e,f,b,_)=>cd (a<(b.Steps.length:Int)) (TN b.Steps a fun p=>V (QH u p.Fz 0 86400) fun q=>J (!q) (some 1) (TN b.Steps a fun r=>V (Qeu u e f r.Fk) fun g=>cd (g≠0) (some g) (o (((X (a+1)),()),e,f,b,())))) (some 0)) u ((0,()),n,i,c,())))))) u ((k,0,()),s,j,l,()))
def QpQ:o 170 (s [tO,L,d] [d] (QgQ u)):=f u (n 3 (c (c g (.one (k [.n 2,.r 3 .E,.r 4 .b,.r 7 .W,.n 8] g))) (c g (m [.r 3 .E,.r 4 .b,.r 7 .W,.n 9] g)))) (e (ZE u) (e (Qh2 u) (e (QnD u) t))) func170
def QpP(l:D.E)(e:D.b):I Int:=TG (fun(_,m,n,_)=>Qe (fun o ((f,_),g,b,_)=>cd (f<(b.t.length:Int)) (V (Qla u g b f) fun i=>cd (i≠0) (some i) (o (((X (f+1)),()),g,b,()))) (Qe (fun p ((h,_),j,a,_)=>cd (h<(a.j.length:Int)) (V (QgQ u j a h) fun c=>cd (c≠0) (some c) (p (((X (h+1)),()),j,a,()))) (some 0)) u ((0,()),g,b,()))) u ((0,()),m,n,())) fun k=>cd (8<(e.t.length:Int)) (some 5) (cd (12<(e.j.length:Int)) (some 5) (k ((),l,e,())))
def Qtc:o 113 (s [tO,L] [d] (QpP u)):=f u (c g (c (j [.r 2 .E,.r 3 .b] g) (c (c g (.one (k [.r 2 .E,.r 3 .b,.n 5] g))) (m [.r 2 .E,.r 3 .b,.n 7] g)))) (e (Qtd u) (e (QpQ u) t)) func113
def QfZ(a:D.E)(b:D.b):I Int:=V (UK u a) fun c=>cd (c≠0) (some 8) (V (QpP u a b) fun e=>some e)
def Qkq:o 65 (s [tO,L] [d] (QfZ u)):=f u g (e (QcY u) (e (Qtc u) t)) func65
def QmH(a:D.E)(b:D.b):I (D.F×Int):=V (QfZ u a b) fun c=>cd (c≠0) (some (z2,c)) (some ((D.F.mk 0 a b [] (-1) 0 [] []),0))
def Qol:o 16 (s [tO,L] [H,d] (QmH u)):=f u g (e (Qkq u) t) func16
def Qb(u:Nat)(b:D.y)(f:Int):I (Int×D.y):=TG (fun((c,_),a,_)=>TN a.L a.At fun e=>nzc c (TG (fun((h,_),i,_)=>some (h,i)) fun g=>cd ((Int.tmod e c)<0) (g (((X ((Int.tmod e c)+c)),()),(D.y.mk a.L (X (a.At+1))),())) (g (((Int.tmod e c),()),(D.y.mk a.L (X (a.At+1))),())))) fun j=>cd ((b.L.length:Int)<=b.At) (some (0,b)) (cd (f<1) (some (0,b)) (j ((f,()),b,())))
def QY:o 22 (Ql [.one (.TM 1),d] [w 1 .y] [d] [w 1 .y] [] (Int×D.y) kz15 (fun x y=>Qb u y.1 x.1)):=i u (c g (c (j [.s 0 (.one (.TM 1)),.n 1] g [w 1 .y]) (n 2 (c (j [.n 5] g [w 1 .y]) g)))) kz17 t func22
def QR(b:D.y)(a:Y Int):I (Int×D.y):=V (Qb u b (a.length:Int)) fun(c,e)=>TN a c fun f=>some (f,e)
def Yc:o 45 (Ql [.one (.TM 1),lI] [w 1 .y] [d] [w 1 .y] [] (Int×D.y) kz15 (fun x y=>QR u y.1 x.1)):=i u g kz17 (e (QY u) t) func45
def Xp(m:D.y):I (D.s×D.y):=V (QR u m [0,300,1200,3600]) fun(a,n)=>V (Qb u n 3) fun(b,o)=>V (Qb u o 4) fun(e,p)=>V (QR u p [300,1800,7200]) fun(f,g)=>TG (fun(_,r,q,h,_)=>some (q,h)) fun c=>cd (b=2) (V (Qb u g 3) fun(i,j)=>nzc 4 (c ((),z7,(D.s.mk b e (Int.tmod (X ((X (e+1))+i)) 4) (X (864000+a)) (X ((X (864000+a))+f))),j,()))) (cd (b=1) (V (Qb u g 5) fun(k,l)=>c ((),z7,(D.s.mk b (X (k - 1)) 0 (X (864000+a)) (X ((X (864000+a))+f))),l,())) (c ((),z7,(D.s.mk b e 0 (X (864000+a)) (X ((X (864000+a))+f))),g,())))
def QaR:o 66 (Ql [.one (.TM 1)] [w 1 .y] [.st .s] [w 1 .y] [] (D.s×D.y) kz15 (fun x y=>Xp u y.1)):=i u (n 3 (c (j [.r 2 .s,.r 4 .s] g [w 1 .y]) g)) kz17 (e (QY u) (e (Yc u) t)) func66
def VF(p0:D.y):I (D.E×D.y):=V (QR u p0 [0,3600,(-7200)]) fun(a0,a1)=>Qe (fun L2 ((Z,h,_),a5,_,(a6,_),a7,_)=>cd (h<4) (TN Z h fun a8=>V (Qb u a5 2) fun(a9,a2)=>TG (fun((aA,aB,_),aC,_,(aD,_),i,j,_)=>TO (j.length+[i].length) 34359738368 (L2 ((aA,(X (aB+1)),()),aC,(),(aD,()),(j++[i]),()))) fun k=>V (Qb u a2 4) fun(aE,l)=>cd (aE=0) (V (QR u l [0,3600]) fun(aF,aG)=>V (QR u aG [7200,86400,604800]) fun(aH,aI)=>k ((Z,h,()),aI,(),(a6,()),(D.Q.mk a8 0 [(D.FI.mk aF aH)] 0 0 (decide (a9=0))),a7,())) (k ((Z,h,()),l,(),(a6,()),(D.Q.mk a8 0 [] 0 0 (decide (a9=0))),a7,()))) (Qe (fun aJ ((m,_),n,_,(o,_),p,q,_)=>cd (m<2) (V (QR u n [1,9,10]) fun(aK,aL)=>V (QR u aL [0,1800,43200]) fun(aM,aN)=>V (QR u aN [0,0,1]) fun(aO,aP)=>V (Qb u aP 3) fun(aQ,aR)=>V (Qb u aR 3) fun(aS,aT)=>Qe (fun aU ((b,r,_),s,_,(t,_),(v,w,y,z,A,B,zH,E,_),F,G,c,_)=>cd (0<r) (V (Qb u s 4) fun(H,aV)=>TO (c.length+[H].length) 34359738368 (aU ((b,(X (r - 1)),()),aV,(),(t,()),(v,w,y,z,A,B,zH,E,()),F,G,(c++[H]),()))) (TN [(ByteArray.mk (List.toArray [102,105,114,115,116])),(ByteArray.mk (List.toArray [115,101,99,111,110,100]))] b fun aW=>V (Qb u s 3) fun(aX,aY)=>Qe (fun aZ ((zE,zG,_),L,_,(zD,_),(e,f,_),zI,g,a,_)=>cd (0<zG) (V (Xp u L) fun(W,b0)=>TO (a.length+[W].length) 34359738368 (aZ ((zE,(X (zG - 1)),()),b0,(),(zD,()),(e,f,()),zI,g,(a++[W]),()))) (TO (g.length+[(D.e.mk e f a)].length) 34359738368 (aJ (((X (zE+1)),()),L,(),(zD,()),zI,(g++[(D.e.mk e f a)]),())))) u ((b,aX,()),aY,(),(t,()),(aW,[(D.u.mk v w (D.Fj.mk y z) A B c [] zH E)],()),F,G,[],()))) u ((m,(X (1+aS)),()),aT,(),(o,()),((ByteArray.mk (List.toArray [108])),0,aK,aM,aO,(X (1+aQ)),0,0,()),p,q,[],())) (some ((D.E.mk o p [] q),n))) u ((0,()),a5,(),(a6,()),a7,[],()))) u (([(ByteArray.mk (List.toArray [97,110,110])),(ByteArray.mk (List.toArray [98,111,98])),(ByteArray.mk (List.toArray [99,97,116])),(ByteArray.mk (List.toArray [100,97,110]))],0,()),a1,(),([(D.q.mk (ByteArray.mk (List.toArray [122])) a0 [])],()),[],())
def Qdy:o 17 (Ql [.one (.TM 1)] [w 1 .y] [tO] [w 1 .y] [] (D.E×D.y) kz15 (fun x y=>VF u y.1)):=i u (n 3 (c (c g (.one (k [.s 0 (.one (.TM 1)),.s 2 (.one (.TM 1002)),.s 3 (.one (.TM 1003)),.l 4 .TY,.n 5] (c g (c (.one (c g (c (.TG [(0,.one (.TM 1)),r 2,r 3,li 4 .TY,G 5,r 6] [w 1 .y,(1002,.box [.nul,.nul,.nul,.nul]),(1003,.box [.TQ .q,.own 1047,.nul,.nul]),w 1006 .Q,p 1047 .Q] g) g))) g)) [w 1 .y,(1002,.box [.nul,.nul,.nul,.nul]),(1003,.box [.TQ .q,.own 1047,.nul,.nul]),p 1047 .Q]))) (m [.s 0 (.one (.TM 1)),.s 2 (.one (.TM 1002)),.s 3 (.one (.TM 1003)),.n 7] (c g (c (.one (c g (c (c g (.one (k [.s 0 (.one (.TM 1)),.s 2 (.one (.TM 1002)),.s 3 (.one (.TM 1003)),.n 7,.s 8 (.one (.TM 1008)),.n 9] g [w 1 .y,(1002,.box [.nul,.nul,.nul,.nul]),(1003,.box [.TQ .q,.own 1047,.nul,.own 1105]),(1008,.box [.TY,v,v,v,v,v,.own 1079,.nul,v,v]),p 1047 .Q,p 1105 .e,p 1079 .int]))) (c (.frz [1079] g) (m [.s 0 (.one (.TM 1)),.s 2 (.one (.TM 1002)),.s 3 (.one (.TM 1003)),.n 7,.s 10 (.one (.TM 1010)),.n 11] g [w 1 .y,(1002,.box [.nul,.nul,.nul,.nul]),(1003,.box [.TQ .q,.own 1047,.nul,.own 1105]),(1010,.box [.TY,.TQ .u,.own 1099]),p 1047 .Q,p 1105 .e,p 1099 .s]))))) g)) [w 1 .y,(1002,.box [.nul,.nul,.nul,.nul]),(1003,.box [.TQ .q,.own 1047,.nul,.own 1105]),p 1047 .Q,p 1105 .e]))) kz17 (e (QY u) (e (Yc u) (e (QaR u) t))) func17
def Qg8(h:D.y)(a:D.b):I (D.FS×D.y):=V (Qb u h 3) fun(c,e)=>TG (fun((f,_),i,(m,_),n,g,_)=>TN [4,2,(g.length:Int)] f fun j=>V (Qb u i j) fun(k,l)=>TF g a.t (some ((D.FS.mk f k),l))) fun b=>cd (c=2) (cd ((a.t.length:Int)=0) (b ((0,()),e,(a.j,()),z9,a.t,())) (b ((c,()),e,(a.j,()),z9,a.t,()))) (b ((c,()),e,(a.j,()),z9,a.t,()))
def Qei:o 67 (Ql [.one (.TM 1),.agg [.own 101,.TQ .W]] [w 1 .y,p 101 .Fc] [.st .FS] [w 1 .y] [101] (D.FS×D.y) kz15 (fun x y=>Qg8 u y.1 (D.b.mk y.2.1 x.1.1))):=i u (n 2 (c (.TG [(0,.one (.TM 1)),r 3,r 4,G 5] [w 1 .y,(1003,.box [.own 101,.TQ .W]),w 1004 .FS,p 101 .Fc] g) g)) kz17 (e (QY u) t) func67
def Xa(h:D.y)(a:D.b):I (D.FS×D.y):=V (Qb u h 3) fun(c,e)=>TG (fun((f,_),i,_,n,g,j,_)=>TN [4,2,(g.length:Int)] f fun k=>V (Qb u i k) fun(l,m)=>TF g a.t (TF j a.j (some ((D.FS.mk f l),m)))) fun b=>cd (c=2) (cd ((a.t.length:Int)=0) (b ((0,()),e,(),z9,a.t,a.j,())) (b ((c,()),e,(),z9,a.t,a.j,()))) (b ((c,()),e,(),z9,a.t,a.j,()))
def Qdg:o 67 (Ql [.one (.TM 1),.agg [.own 101,.own 102]] [w 1 .y,p 101 .Fc,p 102 .W] [.st .FS] [w 1 .y] [101,102] (D.FS×D.y) kz15 (fun x y=>Xa u y.1 (D.b.mk y.2.1 y.2.2.1))):=i u (n 2 (c (.TG [(0,.one (.TM 1)),r 3,r 4,G 5] [w 1 .y,(1003,.box [.own 101,.own 102]),w 1004 .FS,p 101 .Fc,p 102 .W] g) g)) kz17 (e (QY u) t) func67
def VE(p0:D.y):I (D.b×D.y):=V (Qb u p0 3) fun(a0,a1)=>Qe (fun L2 ((zG,_),zD,_,_,m,_)=>cd (0<zG) (TN [(ByteArray.mk (List.toArray [99,111,114,101])),(ByteArray.mk (List.toArray [119,101,98]))] (m.length:Int) fun zI=>V (Qb u zD 2) fun(L,a8)=>TG (fun((a9,_),W,_,_,n,o,_)=>TO (o.length+[n].length) 34359738368 (L2 (((X (a9 - 1)),()),W,(),(),(o++[n]),()))) fun p=>V (Qb u a8 2) fun(Z,q)=>cd (Z=0) (V (Qb u q 2) fun(r,a2)=>TO ([L].length+[(X (2+r))].length) 34359738368 (p ((zG,()),a2,(),(),(D.Fc.mk zI ([L]++[(X (2+r))])),m,()))) (p ((zG,()),q,(),(),(D.Fc.mk zI [L]),m,()))) (V (Qb u zD 3) fun(aA,aB)=>Qe (fun aC ((s,_),t,_,_,v,b,_)=>cd (0<s) (TN [(ByteArray.mk (List.toArray [112])),(ByteArray.mk (List.toArray [113])),(ByteArray.mk (List.toArray [114]))] (b.length:Int) fun aD=>V (QR u t [0,0,1,2]) fun(aE,aF)=>V (Qb u aF 3) fun(aG,aH)=>Qe (fun aI ((w,y,_),z,_,_,(c,e,_),A,f,g,_)=>cd (0<y) (V (QR u z [0,60,300,600,900]) fun(aJ,aK)=>V (Qb u aK 2) fun(aL,aM)=>V (Qb u aM 3) fun(aN,aO)=>Qe (fun aP ((B,zH,E,_),F,_,_,(G,H,_),(h,i,_),j,k,l,a,_)=>cd (0<E) (V (Xa u F (D.b.mk j k)) fun(zE,aQ)=>TO (a.length+[zE].length) 34359738368 (aP ((B,zH,(X (E - 1)),()),aQ,(),(),(G,H,()),(h,i,()),j,k,l,(a++[zE]),()))) (TO (l.length+[(D.w.mk h i a)].length) 34359738368 (aI ((B,(X (zH - 1)),()),F,(),(),(G,H,()),j,k,(l++[(D.w.mk h i a)]),())))) u ((w,y,aN,()),aO,(),(),(c,e,()),(aJ,(decide (aL=0)),()),A,f,g,[],())) (TO (f.length+[(D.W.mk c g e)].length) 34359738368 (aC (((X (w - 1)),()),z,(),(),A,(f++[(D.W.mk c g e)]),())))) u ((s,(X (1+aG)),()),aH,(),(),(aD,aE,()),v,b,[],())) (some ((D.b.mk v b),t))) u (((X (1+aA)),()),aB,(),(),m,[],()))) u ((a0,()),a1,(),(),[],())
def Qdx:o 18 (Ql [.one (.TM 1)] [w 1 .y] [L] [w 1 .y] [] (D.b×D.y) kz15 (fun x y=>VE u y.1)):=i u (n 2 (c (c g (.one (k [.s 0 (.one (.TM 1)),.s 2 (.one (.TM 1002)),.s 3 (.one (.TM 1003)),.n 4] (c g (c (.one (c g (c (.TG [(0,.one (.TM 1)),r 2,r 3,G 4,r 5] [w 1 .y,(1002,.box [.nul,.nul]),(1003,.box [.own 1042,.nul]),w 1005 .Fc,p 1042 .Fc] g) g))) g)) [w 1 .y,(1002,.box [.nul,.nul]),(1003,.box [.own 1042,.nul]),p 1042 .Fc]))) (m [.s 0 (.one (.TM 1)),.s 2 (.one (.TM 1002)),.s 3 (.one (.TM 1003)),.n 6] (c g (c (.one (c g (m [.s 0 (.one (.TM 1)),.s 2 (.one (.TM 1002)),.s 3 (.one (.TM 1003)),.n 6,.s 7 (.one (.TM 1007)),.n 8] (c g (c (.one (c g (m [.s 0 (.one (.TM 1)),.s 2 (.one (.TM 1002)),.s 3 (.one (.TM 1003)),.n 6,.s 7 (.one (.TM 1007)),.n 8,.s 9 (.one (.TM 1009)),.n 10] g [w 1 .y,(1002,.box [.nul,.nul]),(1003,.box [.own 1042,.own 1099]),(1007,.box [.TY,.own 1093,v]),(1009,.box [v,.Tc,.own 1087]),p 1042 .Fc,p 1099 .W,p 1093 .w,p 1087 .FS]))) g)) [w 1 .y,(1002,.box [.nul,.nul]),(1003,.box [.own 1042,.own 1099]),(1007,.box [.TY,.own 1093,v]),p 1042 .Fc,p 1099 .W,p 1093 .w]))) g)) [w 1 .y,(1002,.box [.nul,.nul]),(1003,.box [.own 1042,.own 1099]),p 1042 .Fc,p 1099 .W]))) kz17 (e (QY u) (e (Yc u) (e (Qdg u) (e (Qei u) t)))) func18
def Qux(a:Int)(b:Int):I (D.N×Int):=TG (fun((c,_),h,_)=>some ((D.N.mk c 0 (-1) 0 [] 0 [] []),0)) fun e=>V (Qay u b 1 5) fun f=>J f (V (Qay u a 0 (X (b - 1))) fun g=>J g (e ((a,()),z4,())) (some (z4,1))) (some (z4,1))
def Qtw:o 119 (s [d,d] [zG,d] (Qux u)):=f u (c g (c (j [.n 0,.r 4 .N] g) g)) (e (Qd4 u) t) func119
def Qop(a:Int):I (D.H×Int):=V (UP u a 1 5) fun l=>J (!l) (some (z5,1)) (TK a fun g=>TO g 1048576 (Qe (fun m ((h,i,e,_),n,(j,k,_),f,b,_)=>cd (e<i) (V (Qux u e h) fun(c,o)=>TO (f.length+[c].length) 34359738368 (m ((h,i,(X (e+1)),()),n,(j,k,()),(f++[c]),b,()))) (some ((D.H.mk f j b k),0))) u ((a,a,0,()),z5,([],[],()),[],(List.replicate g false),())))
def Qp1:o 69 (s [d] [K,d] (Qop u)):=f u (n 3 (m [.n 0,.r 2 .H,.s 4 (.one (.TM 1004)),.n 15,.n 16] g [(1004,.box [.own 1029,.TQ .c,.own 1013,.TQ .FG]),p 1029 .N,p 1013 .bool])) (e (Qga u) (e (Qtw u) t)) func69
def Vq(u:Nat)(a:Y D.Fc):I (Y D.Fc):=TR a (TU (some []) (TO a.length 34359738368 (some a))) (TO a.length 34359738368 (some a))
def Qhe:o 276 (Ql [l .Fc] [] [.one (.own 1007)] [p 1007 .Fc] [] (Y D.Fc) kz5 (fun x y=>Vq u x.1)):=i u g kz8 t func276
def Wl(u:Nat)(a:Y D.W):I (Y D.W):=TR a (TU (some []) (TO a.length 34359738368 (some a))) (TO a.length 34359738368 (some a))
def Qfd:o 277 (Ql [l .W] [] [.one (.own 1007)] [p 1007 .W] [] (Y D.W) kz5 (fun x y=>Wl u x.1)):=i u g kz8 t func277
def Vp(u:Nat)(a:Y D.Page):I (Y D.Page):=TR a (TU (some []) (TO a.length 34359738368 (some a))) (TO a.length 34359738368 (some a))
def Qhd:o 280 (Ql [l .Page] [] [.one (.own 1007)] [p 1007 .Page] [] (Y D.Page) kz5 (fun x y=>Vp u x.1)):=i u g kz8 t func280
def QgH(a:D.q):I D.q:=V (Xz u a.Fu) fun b=>some (D.q.mk a.Name a.Fa b)
def Qpy:o 185 (s [t8] [t8] (QgH u)):=f u g (e (Uj u) t) func185
def ZJ(h:Y D.q):I (Y D.q):=V (X4 u h) fun e=>Qe (fun i ((f,b,_),a,_)=>cd (b<f) (TK b fun g=>TP g a.length (V a[g]? fun j=>V (QgH u j) fun k=>TK b fun c=>TP c a.length (V a[c]? fun l=>i ((f,(X (b+1)),()),(List.set a c k),())))) (some a)) u (((e.length:Int),0,()),e,())
def UF:o 184 (s [l .q,.one (.fv 185)] [l .q] (ZJ u)):=f u (n 2 (m [.s 1 (.one (.fv 185)),.o 5 1009007 .q,.n 10,.n 11] g)) (e (Qpy u) (e (Qbr u) t)) func184
def QcQ(a:D.Q):I D.Q:=V (Yn u a.Fl) fun b=>some (D.Q.mk a.Name a.q b a.F2 a.F3 a.F1)
def Qmi:o 187 (s [.st .Q] [.st .Q] (QcQ u)):=f u g (e (WH u) t) func187
def Zh(h:Y D.Q):I (Y D.Q):=V (Y7 u h) fun e=>Qe (fun i ((f,b,_),a,_)=>cd (b<f) (TK b fun g=>TP g a.length (V a[g]? fun j=>V (QcQ u j) fun k=>TK b fun c=>TP c a.length (V a[c]? fun l=>i ((f,(X (b+1)),()),(List.set a c k),())))) (some a)) u (((e.length:Int),0,()),e,())
def Vw:o 186 (s [l .Q,.one (.fv 187)] [l .Q] (Zh u)):=f u (n 2 (m [.s 1 (.one (.fv 187)),.o 5 1009007 .Q,.n 10,.n 11] g)) (e (Qmi u) (e (Qab u) t)) func186
def Qhn(a:D.m):I D.m:=V (Qu u a.F5) fun b=>some (D.m.mk a.Name a.q b)
def QjN:o 189 (s [t19] [t19] (Qhn u)):=f u g (e (QP u) t) func189
def Zz(h:Y D.m):I (Y D.m):=V (Vi u h) fun e=>Qe (fun i ((f,b,_),a,_)=>cd (b<f) (TK b fun g=>TP g a.length (V a[g]? fun j=>V (Qhn u j) fun k=>TK b fun c=>TP c a.length (V a[c]? fun l=>i ((f,(X (b+1)),()),(List.set a c k),())))) (some a)) u (((e.length:Int),0,()),e,())
def WE:o 188 (s [l .m,.one (.fv 189)] [l .m] (Zz u)):=f u (n 2 (m [.s 1 (.one (.fv 189)),.o 5 1009007 .m,.n 10,.n 11] g)) (e (QjN u) (e (Uh u) t)) func188
def Qem(a:D.u):I D.u:=V (Qu u a.r) fun b=>V (Yn u a.Fp) fun c=>some (D.u.mk a.Name a.q a.R a.Unit a.FN b c a.m a.F4)
def Qnu:o 274 (s [t9] [t9] (Qem u)):=f u g (e (QP u) (e (WH u) t)) func274
def Zq(h:Y D.u):I (Y D.u):=V (Xx u h) fun e=>Qe (fun i ((f,b,_),a,_)=>cd (b<f) (TK b fun g=>TP g a.length (V a[g]? fun j=>V (Qem u j) fun k=>TK b fun c=>TP c a.length (V a[c]? fun l=>i ((f,(X (b+1)),()),(List.set a c k),())))) (some a)) u (((e.length:Int),0,()),e,())
def V1:o 273 (s [l .u,.one (.fv 274)] [l .u] (Zq u)):=f u (n 2 (m [.s 1 (.one (.fv 274)),.o 5 1009007 .u,.n 10,.n 11] g)) (e (Qnu u) (e (Qa6 u) t)) func273
def QaF(a:D.e):I D.e:=V (Zq u a.Fr) fun b=>V (X3 u a.FX) fun c=>some (D.e.mk a.Name b c)
def QjP:o 191 (s [t13] [t13] (QaF u)):=f u g (e (V1 u) (e (Qbq u) t)) func191
def Q1(h:Y D.e):I (Y D.e):=V (Yy u h) fun e=>Qe (fun i ((f,b,_),a,_)=>cd (b<f) (TK b fun g=>TP g a.length (V a[g]? fun j=>V (QaF u j) fun k=>TK b fun c=>TP c a.length (V a[c]? fun l=>i ((f,(X (b+1)),()),(List.set a c k),())))) (some a)) u (((e.length:Int),0,()),e,())
def WF:o 190 (s [l .e,.one (.fv 191)] [l .e] (Q1 u)):=f u (n 2 (m [.s 1 (.one (.fv 191)),.o 5 1009007 .e,.n 10,.n 11] g)) (e (QjP u) (e (Ui u) t)) func190
def QgG(a:D.Fc):I D.Fc:=V (Qu u a.r) fun b=>some (D.Fc.mk a.Name b)
def Qpx:o 193 (s [.st .Fc] [.st .Fc] (QgG u)):=f u g (e (QP u) t) func193
def ZI(h:Y D.Fc):I (Y D.Fc):=V (Vq u h) fun e=>Qe (fun i ((f,b,_),a,_)=>cd (b<f) (TK b fun g=>TP g a.length (V a[g]? fun j=>V (QgG u j) fun k=>TK b fun c=>TP c a.length (V a[c]? fun l=>i ((f,(X (b+1)),()),(List.set a c k),())))) (some a)) u (((e.length:Int),0,()),e,())
def UE:o 192 (s [l .Fc,.one (.fv 193)] [l .Fc] (ZI u)):=f u (n 2 (m [.s 1 (.one (.fv 193)),.o 5 1009007 .Fc,.n 10,.n 11] g)) (e (Qpx u) (e (Qhe u) t)) func192
def YT(u:Nat)(a:Y D.w):I (Y D.w):=TR a (TU (some []) (TO a.length 34359738368 (some a))) (TO a.length 34359738368 (some a))
def QcJ:o 328 (Ql [l .w] [] [.one (.own 1007)] [p 1007 .w] [] (Y D.w) kz5 (fun x y=>YT u x.1)):=i u g kz8 t func328
def Wm(u:Nat)(a:Y D.FS):I (Y D.FS):=TR a (TU (some []) (TO a.length 34359738368 (some a))) (TO a.length 34359738368 (some a))
def Qfe:o 329 (Ql [l .FS] [] [.one (.own 1007)] [p 1007 .FS] [] (Y D.FS) kz5 (fun x y=>Wm u x.1)):=i u g kz8 t func329
def QgF(a:D.w):I D.w:=V (Wm u a.Fk) fun b=>some (D.w.mk a.Fz a.Fv b)
def Qpw:o 279 (s [.st .w] [.st .w] (QgF u)):=f u g (e (Qfe u) t) func279
def Za(h:Y D.w):I (Y D.w):=V (YT u h) fun e=>Qe (fun i ((f,b,_),a,_)=>cd (b<f) (TK b fun g=>TP g a.length (V a[g]? fun j=>V (QgF u j) fun k=>TK b fun c=>TP c a.length (V a[c]? fun l=>i ((f,(X (b+1)),()),(List.set a c k),())))) (some a)) u (((e.length:Int),0,()),e,())
def WZ:o 278 (s [l .w,.one (.fv 279)] [l .w] (Za u)):=f u (n 2 (m [.s 1 (.one (.fv 279)),.o 5 1009007 .w,.n 10,.n 11] g)) (e (Qpw u) (e (QcJ u) t)) func278
def QiP(a:D.W):I D.W:=V (Za u a.Steps) fun b=>some (D.W.mk a.Name b a.Fo)
def Qrs:o 195 (s [t15] [t15] (QiP u)):=f u g (e (WZ u) t) func195
def ZA(h:Y D.W):I (Y D.W):=V (Wl u h) fun e=>Qe (fun i ((f,b,_),a,_)=>cd (b<f) (TK b fun g=>TP g a.length (V a[g]? fun j=>V (QiP u j) fun k=>TK b fun c=>TP c a.length (V a[c]? fun l=>i ((f,(X (b+1)),()),(List.set a c k),())))) (some a)) u (((e.length:Int),0,()),e,())
def Ul:o 194 (s [l .W,.one (.fv 195)] [l .W] (ZA u)):=f u (n 2 (m [.s 1 (.one (.fv 195)),.o 5 1009007 .W,.n 10,.n 11] g)) (e (Qrs u) (e (Qfd u) t)) func194
def Xy(u:Nat)(a:Y D.R):I (Y D.R):=TR a (TU (some []) (TO a.length 34359738368 (some a))) (TO a.length 34359738368 (some a))
def Qa7:o 330 (Ql [l .R] [] [.one (.own 1007)] [p 1007 .R] [] (Y D.R) kz5 (fun x y=>Xy u x.1)):=i u g kz8 t func330
def QcP(a:D.R):I D.R:=V (Qu u a.k) fun b=>some (D.R.mk a.K a.At b)
def Qmh:o 282 (s [.st .R] [.st .R] (QcP u)):=f u g (e (QP u) t) func282
def Z3(h:Y D.R):I (Y D.R):=V (Xy u h) fun e=>Qe (fun i ((f,b,_),a,_)=>cd (b<f) (TK b fun g=>TP g a.length (V a[g]? fun j=>V (QcP u j) fun k=>TK b fun c=>TP c a.length (V a[c]? fun l=>i ((f,(X (b+1)),()),(List.set a c k),())))) (some a)) u (((e.length:Int),0,()),e,())
def VH:o 281 (s [l .R,.one (.fv 282)] [l .R] (Z3 u)):=f u (n 2 (m [.s 1 (.one (.fv 282)),.o 5 1009007 .R,.n 10,.n 11] g)) (e (Qmh u) (e (Qa7 u) t)) func281
def QbX(a:D.Page):I D.Page:=V (Z3 u a.P) fun b=>V (Qu u a.g) fun c=>V (Qu u a.h) fun e=>some (D.Page.mk a.S a.W a.R a.FB a.FQ a.p a.By a.FR a.FT a.z a.FP b c e)
def QiO:o 197 (s [E] [E] (QbX u)):=f u g (e (QP u) (e (VH u) t)) func197
def ZH(h:Y D.Page):I (Y D.Page):=V (Vp u h) fun e=>Qe (fun i ((f,b,_),a,_)=>cd (b<f) (TK b fun g=>TP g a.length (V a[g]? fun j=>V (QbX u j) fun k=>TK b fun c=>TP c a.length (V a[c]? fun l=>i ((f,(X (b+1)),()),(List.set a c k),())))) (some a)) u (((e.length:Int),0,()),e,())
def UD:o 196 (Ql [l .Page,.one (.fv 197)] [] [.one (.own 1009007)] [p 1009007 .Page] [] (Y D.Page) kz5 (fun x y=>ZH u x.1)):=i u (n 2 (m [.s 1 (.one (.fv 197)),.o 5 1009007 .Page,.n 10,.n 11] g)) kz8 (e (QiO u) (e (Qhd u) t)) func196
def QaT(a:D.F):I D.F:=V (ZJ u a.E.FL) fun b=>V (Zh u a.E.k) fun c=>V (Zz u a.E.o) fun e=>V (Q1 u a.E.f) fun f=>V (ZI u a.b.t) fun g=>V (ZA u a.b.j) fun h=>V (ZH u a.G) fun i=>V (Qu u a.h) fun j=>V (X2 u a.Calls) fun k=>some (D.F.mk a.FC (D.E.mk b c e f) (D.b.mk g h) i a.FE a.Fence j k)
def QfK:o 120 (Ql [H] [] [.agg [v,.TQ .q,.TQ .Q,.TQ .m,.TQ .e,.TQ .Fc,.TQ .W,.own 2060007,v,v,.own 1055007,.own 1058007]] [p 2060007 .Page,p 1055007 .int,p 1058007 .Call] [] D.F kz6 (fun x y=>QaT u x.1)):=i u g (fun a b=>D.F.mk a.1.1 (D.E.mk a.1.2.1 a.1.2.2.1 a.1.2.2.2.1 a.1.2.2.2.2.1) (D.b.mk a.1.2.2.2.2.2.1 a.1.2.2.2.2.2.2.1) b.1 a.1.2.2.2.2.2.2.2.1 a.1.2.2.2.2.2.2.2.2.1 b.2.1 b.2.2.1) (e (Qbp u) (e (UF u) (e (Vw u) (e (WE u) (e (WF u) (e (UE u) (e (Ul u) (e (UD u) (e (QP u) t))))))))) func120
def WY(u:Nat)(a:D.Page)(b:Int):I Int:=some (X (a.S - b))
def QfL:o 306 (s [E,d] [d] (WY u)):=f u g t func306
def QO(f:Y D.Page)(k:Int):I (Int×AH):=Qe (fun i ((c,e,g,a,b,_),_)=>cd (a<b) (TK 1 fun h=>TN c (X (Int.fdiv (IntKind.wrap .u64 (X (a+b))) (HPow.hPow 2 (min h (Go.IntKind.bits Go.IntKind.u64))))) fun l=>V (WY u l e) fun m=>cd (m<0) (i ((c,e,g,(X ((X (Int.fdiv (IntKind.wrap .u64 (X (a+b))) (HPow.hPow 2 (min h (Go.IntKind.bits Go.IntKind.u64)))))+1)),b,()),())) (i ((c,e,g,a,(X (Int.fdiv (IntKind.wrap .u64 (X (a+b))) (HPow.hPow 2 (min h (Go.IntKind.bits Go.IntKind.u64))))),()),()))) (cd (a<g) (TN c a fun n=>V (WY u n e) fun j=>cd (j=0) (some (a,true)) (some (a,false))) (some (a,false)))) u ((f,k,(f.length:Int),0,(f.length:Int),()),())
def X1:o 305 (s [l .Page,d,.one (.fv 306)] [d,h] (QO u)):=f u (n 3 (c (.one (k [.l 0 .Page,.n 1,.s 2 (.one (.fv 306)),.n 8,.n 9,.n 10] g)) g)) (e (QfL u) t) func305
def QjO(a:D.F)(b:Int):I (Int×AH):=V (QO u a.G b) fun(c,e)=>some (c,e)
def Qpt:o 220 (s [H,d] [d,h] (QjO u)):=f u g (e (X1 u) t) func220
def QfA(f:D.b)(b:Int)(g:Int)(c:Int):I (D.Page×Int):=TG (fun((h,e,a,_),i,n,_)=>V (Q7 u e 0 (X ((i.j.length:Int) - 1))) fun j=>J (!j) (some (z1,3)) (some ((D.Page.mk h e a 0 a 0 (-1) 0 a 0 0 [] [] []),0))) fun k=>V (Q7 u b 1 999999) fun l=>J l (V (Q7 u c 0 8589934592) fun m=>J m (k ((b,g,c,()),f,z1,())) (some (z1,1))) (some (z1,1))
def QlU:o 283 (s [L,d,d,d] [E,d] (QfA u)):=f u (c g (c (j [.n 1,.n 2,.n 3,.r 4 .b,.r 8 .Page] g) g)) (e (WC u) t) func283
def WQ(u:Nat)(a:Y Int):I (Y Int):=TR a (TU (some []) (TO a.length 34359738368 (some a))) (TO a.length 34359738368 (some a))
def Qgk:o 198 (s [lI] [lI] (WQ u)):=f u g t func198
def XW(a:D.Page):I D.Page:=V (Xy u a.P) fun o=>Qe (fun E ((p,e,_),(q,r,s,t,v,w,f,g,h,i,j,k,l,_),y,b,_)=>cd (e<p) (TK e fun m=>TP m b.length (V b[m]? fun z=>V (WQ u z.k) fun A=>TK e fun c=>TP c b.length (V b[c]? fun n=>E ((p,(X (e+1)),()),(q,r,s,t,v,w,f,g,h,i,j,k,l,()),y,(List.set b c (D.R.mk n.K n.At A)),())))) (V (Qu u k) fun B=>V (Qu u l) fun zH=>some (D.Page.mk q r s t v w f g h i j b B zH))) u (((o.length:Int),0,()),(a.S,a.W,a.R,a.FB,a.FQ,a.p,a.By,a.FR,a.FT,a.z,a.FP,a.g,a.h,()),z1,o,())
def Uv:o 334 (Ql [E] [] [.agg [v,v,v,v,v,v,v,v,v,v,v,.own 1007007,.own 1030007,.own 1033007]] [p 1007007 .R,p 1030007 .int,p 1033007 .int] [] D.Page kz12 (fun x y=>XW u x.1)):=i u (n 2 (lp [r 1,r 2,G 10,G 11] [(1001,.box [v,v,v,v,v,v,v,v,v,v,v,.own 1007007,.TQ .int,.TQ .int]),w 1002 .Page,p 1007007 .R] g)) (fun a b=>D.Page.mk a.1.1 a.1.2.1 a.1.2.2.1 a.1.2.2.2.1 a.1.2.2.2.2.1 a.1.2.2.2.2.2.1 a.1.2.2.2.2.2.2.1 a.1.2.2.2.2.2.2.2.1 a.1.2.2.2.2.2.2.2.2.1 a.1.2.2.2.2.2.2.2.2.2.1 a.1.2.2.2.2.2.2.2.2.2.2.1 b.1 b.2.1 b.2.2.1) (eD 24 (Qgk u) (e (QP u) (e (Qa7 u) t))) func334
def WX(u:Nat)(a:D.Page):I (Int×AH):=cd (a.p=0) (some (a.FQ,true)) (cd (a.p=2) (some (a.FR,true)) (some (0,false)))
def Uu:o 286 (s [E] [d,h] (WX u)):=f u g t func286
def QaD(a:D.Page)(b:Int):I AH:=V (WX u a) fun(c,e)=>J e (cd (c<=b) sT sF) sF
def QjE:o 351 (s [E,d] [h] (QaD u)):=f u g (e (Uu u) t) func351
def Qck(a:D.W)(b:Int):I (Int×Int×AH):=V (W2 u a) fun c=>V (Yx u b 0 (X (c - 1))) fun e=>J (!e) (some (0,0,false)) (nzc (a.Steps.length:Int) (nzc (a.Steps.length:Int) (some ((Int.tmod b (a.Steps.length:Int)),(X (Int.tdiv b (a.Steps.length:Int))),true))))
def QnA:o 384 (s [t15,d] [d,d,h] (Qck u)):=f u g (e (W7 u) (e (Qcj u) t)) func384
end
end
noncomputable section
open fk Tryz
abbrev bH0:Y Sh:=[kI,.TQ .q,.TQ .Q,.TQ .m,.TQ .e,.TQ .Fc,.TQ .W,.own 102,kI,kI,.own 103,.own 104]
abbrev bH1:Y Sh:=[kI,kI,kI,kI,kI,kI,kI,kI,kI,kI,kI,.own 2035007,.own 2058007,.own 2061007]
abbrev bH2:Y Sh:=[kI,kI,kI,kI,kI,kI,kI,kI,kI,kI,kI,.own 101,.TQ .int,.own 103]
abbrev bH3:Y Sh:=[kI,kI,kI,kI,kI,kI,kI,kI,kI,kI,kI,.own 103,.own 104,.own 105]
abbrev bH4:Y Sh:=[kI,kI,kI,kI,kI,kI,kI,kI,kI,kI,kI,.own 104,.own 105,.own 106]
abbrev bH5:Y Sh:=[kI,kI,kI,kI,kI,kI,kI,kI,kI,kI,kI,.own 101,.own 102,.own 103]
abbrev bH6:Y Sh:=[kI,kI,kI,kI,kI,kI,kI,kI,kI,kI,kI,.own 102,.own 103,.own 104]
variable (u:Nat)
def QfI(u:Nat)(b:Int):I Int:=TG (zB:=((Int×Int×Unit)×Unit)) (fun((c,f,_),_)=>TG (zB:=((Int×Int×Unit)×Unit)) (fun((e,g,_),_)=>TG (zB:=((Int×Int×Unit)×Unit)) (fun((m,n,_),_)=>TK (IntKind.wrap .u8 m) fun h=>TP h (ByteArray.size (ByteArray.mk (List.toArray (List.append (List.append [0,1,2,2,3,3,3,3,4,4,4,4,4,4,4,4,5,5,5,5,5,5,5,5,5,5,5,5,5,5,5,5,6,6,6,6,6,6,6,6,6,6,6,6,6,6,6,6,6,6,6,6,6,6,6,6,6,6,6,6,6,6,6,6] [7,7,7,7,7,7,7,7,7,7,7,7,7,7,7,7,7,7,7,7,7,7,7,7,7,7,7,7,7,7,7,7,7,7,7,7,7,7,7,7,7,7,7,7,7,7,7,7,7,7,7,7,7,7,7,7,7,7,7,7,7,7,7,7]) (List.append [8,8,8,8,8,8,8,8,8,8,8,8,8,8,8,8,8,8,8,8,8,8,8,8,8,8,8,8,8,8,8,8,8,8,8,8,8,8,8,8,8,8,8,8,8,8,8,8,8,8,8,8,8,8,8,8,8,8,8,8,8,8,8,8] [8,8,8,8,8,8,8,8,8,8,8,8,8,8,8,8,8,8,8,8,8,8,8,8,8,8,8,8,8,8,8,8,8,8,8,8,8,8,8,8,8,8,8,8,8,8,8,8,8,8,8,8,8,8,8,8,8,8,8,8,8,8,8,8]))))) (some (X (n+(X (((bAt (ByteArray.mk (List.toArray (List.append (List.append [0,1,2,2,3,3,3,3,4,4,4,4,4,4,4,4,5,5,5,5,5,5,5,5,5,5,5,5,5,5,5,5,6,6,6,6,6,6,6,6,6,6,6,6,6,6,6,6,6,6,6,6,6,6,6,6,6,6,6,6,6,6,6,6] [7,7,7,7,7,7,7,7,7,7,7,7,7,7,7,7,7,7,7,7,7,7,7,7,7,7,7,7,7,7,7,7,7,7,7,7,7,7,7,7,7,7,7,7,7,7,7,7,7,7,7,7,7,7,7,7,7,7,7,7,7,7,7,7]) (List.append [8,8,8,8,8,8,8,8,8,8,8,8,8,8,8,8,8,8,8,8,8,8,8,8,8,8,8,8,8,8,8,8,8,8,8,8,8,8,8,8,8,8,8,8,8,8,8,8,8,8,8,8,8,8,8,8,8,8,8,8,8,8,8,8] [8,8,8,8,8,8,8,8,8,8,8,8,8,8,8,8,8,8,8,8,8,8,8,8,8,8,8,8,8,8,8,8,8,8,8,8,8,8,8,8,8,8,8,8,8,8,8,8,8,8,8,8,8,8,8,8,8,8,8,8,8,8,8,8])))) h):Nat):Int)))))) fun i=>cd (256<=e) (TK 8 fun o=>i (((Int.fdiv e (HPow.hPow 2 (min o (Go.IntKind.bits Go.IntKind.u64)))),(X (g+8)),()),())) (i ((e,g,()),()))) fun j=>cd (65536<=c) (TK 16 fun k=>j (((Int.fdiv c (HPow.hPow 2 (min k (Go.IntKind.bits Go.IntKind.u64)))),(X (f+16)),()),())) (j ((c,f,()),()))) fun a=>cd (4294967296<=b) (TK 32 fun l=>a (((Int.fdiv b (HPow.hPow 2 (min l (Go.IntKind.bits Go.IntKind.u64)))),32,()),())) (a ((b,0,()),()))
def QiK:o 399 (s [.one (.TZ .u64)] [d] (QfI u)):=f u (c g (c (j [.s 0 (.one (.TZ .u64)),.n 2] g) (c (j [.s 0 (.one (.TZ .u64)),.n 2] g) (c (j [.s 0 (.one (.TZ .u64)),.n 2] g) g)))) t func399
def QbF(a:Int):I Int:=V (QfI u a) fun b=>some b
def QeY:o 370 (s [.one (.TZ .u64)] [d] (QbF u)):=f u g (e (QiK u) t) func370
def Qyq(a:D.q):I (D.Fg×Int):=V (Qbj u a) fun(b,c)=>some ((D.Fg.mk a.Fa b),c)
def QvJ:o 453 (s [t8] [t10,d] (Qyq u)):=f u g (e (Qcy u) t) func453
def Qik(c:Y D.q):I (Y D.Fg):=Qe (fun h ((e,f,a,_),b,_)=>cd (a<f) (TN e a fun i=>V (Qyq u i) fun(g,j)=>TO (b.length+[g].length) 34359738368 (h ((e,f,(X (a+1)),()),(b++[g]),()))) (some b)) u ((c,(c.length:Int),0,()),[],())
def QnN:o 447 (s [l .q] [l .Fg] (Qik u)):=f u (n 2 (m [.o 3 1022 .Fg,.l 8 .q,.n 9,.n 10] g)) (e (QvJ u) t) func447
def QlR(a:D.E):I D.Fs:=V (Qik u a.FL) fun b=>some (D.Fs.mk a b)
def QqV:o 441 (s [tO] [.st .Fs] (QlR u)):=f u g (e (QnN u) t) func441
def QlP(a:D.E):I (D.Fs×AH):=V (Q6 u a) fun b=>cd (b≠0) (some (z10,false)) (V (QlR u a) fun c=>some (c,true))
def Qn5:o 431 (s [tO] [.st .Fs,h] (QlP u)):=f u g (e (Qbe u) (e (QqV u) t)) func431
def QhG(u:Nat)(a:D.s)(b:Int):I AH:=cd (a.v<=b) (cd (b<a.To) sT sF) sF
def Qnm:o 459 (s [.st .s,d] [h] (QhG u)):=f u g t func459
def Qit(i:Y D.s)(l:Int)(m:Int):I Int:=Qe (fun n ((h,e,f,g,c,_),_)=>cd (c<g) (TG (fun((o,p,q,r,j,_),_)=>n ((o,p,q,r,(X (j+1)),()),())) fun b=>TN f c fun a=>V (QhG u a e) fun k=>J k (cd (a.a=0) (b ((h,e,f,g,c,()),())) (cd (a.a=1) (b ((a.A,e,f,g,c,()),())) (cd (a.a≠2) (b ((h,e,f,g,c,()),())) (cd (h=a.A) (b ((a.B,e,f,g,c,()),())) (cd (h=a.B) (b ((a.A,e,f,g,c,()),())) (b ((h,e,f,g,c,()),()))))))) (b ((h,e,f,g,c,()),()))) (some h)) u ((l,m,i,(i.length:Int),0,()),())
def Qq0:o 452 (s [l .s,d,d] [d] (Qit u)):=f u (c g (m [.n 1,.n 2,.l 9 .s,.n 10,.n 11] (n 2 (c (j [.n 1,.n 2,.l 9 .s,.n 10,.n 11] g) g)))) (e (Qnm u) t) func452
def Qgx(e:D.Fs)(f:D.e)(a:Int):I Int:=TG (fun((b,_),g,c,_)=>V (XF u g c b) fun(k,h)=>V (Qit u c.FX h b) fun i=>some i) fun j=>cd (a<0) (some (-1)) (cd (8589934592<a) (some (-1)) (j ((a,()),e,f,())))
def Qo4:o 446 (s [.st .Fs,t13,d] [d] (Qgx u)):=f u (c g (c (j [.n 2,.r 3 .Fs,.r 4 .e] g) g)) (e (QkO u) (e (Qq0 u) t)) func446
def QkW(a:D.E)(b:Int)(c:Int):I Int:=V (QlP u a) fun(e,f)=>TG (fun((g,h,_),i,j,_)=>TN i.f g fun k=>V (Qgx u j k h) fun l=>some l) fun m=>J f (V (V4 u a b) fun n=>J n (m ((b,c,()),a,e,())) (some (-1))) (some (-1))
def QsI:o 440 (s [tO,d,d] [d] (QkW u)):=f u (n 2 (c (j [.n 1,.n 2,.r 3 .E,.r 7 .Fs] g) g)) (e (Qhx u) (e (Qn5 u) (e (Qo4 u) t))) func440
def Qg2(a:D.E)(b:Int)(c:Int):I Int:=V (QkW u a b c) fun e=>some e
def Qp3:o 430 (s [tO,d,d] [d] (Qg2 u)):=f u g (e (QsI u) t) func430
def QcW(c:D.E)(e:D.b)(a:D.FS)(f:Int):I (Y Int):=TG (fun((k,_),l,m,b,_)=>cd (b.a=1) (V (Qg2 u l b.Fd k) fun n=>some [n]) (cd (b.a=2) (TN m.t b.Fd fun o=>some o.r) (some [b.Fd]))) fun g=>V (Yx u a.a 0 2) fun p=>J p (V (W8 u c e) fun h=>cd (a.a=((0:Nat):Int)) (V (Yx u a.Fd 0 (X (h.a0 - 1))) fun q=>J q (g ((f,()),c,e,a,())) (some [])) (cd (a.a=(((0+1):Nat):Int)) (V (Yx u a.Fd 0 (X (h.a1 - 1))) fun i=>J i (g ((f,()),c,e,a,())) (some [])) (cd (a.a=((((0+1)+1):Nat):Int)) (V (Yx u a.Fd 0 (X (h.a2 - 1))) fun j=>J j (g ((f,()),c,e,a,())) (some [])) none))) (some [])
def Qms:o 410 (s [tO,L,.st .FS,d] [lI] (QcW u)):=f u (c g (c (j [.n 3,.r 4 .E,.r 5 .b,.r 6 .FS] g) g)) (e (W7 u) (e (QfR u) (e (Qp3 u) t))) func410
def W6(b:Int)(a:D.E):I AH:=V (Yx u b 0 (X ((a.k.length:Int) - 1))) fun c=>TF a a (some (!c))
def QcV:o 411 (Ql [d,.one (.TM 101)] [w 101 .E] [h] [] [101] AH kz2 (fun x y=>W6 u x.1 y.1)):=i u g kz4 (e (W7 u) t) func411
def QX(b:Y Int)(c102:D.E):I Int:=Qe (fun h ((f,c,_),e,a,_)=>cd (c<f) (TK c fun g=>TP g a.length (V a[g]? fun i=>V (W6 u i e) fun j=>J j (TF a b (TF e c102 (some c))) (h ((f,(X (c+1)),()),e,a,())))) (TF a b (TF e c102 (some (-1))))) u (((b.length:Int),0,()),c102,b,())
def Wp:o 341 (Ql [.one (.own 101),.one (.clo 411 [102])] [p 101 .int,w 102 .E] [d] [] [101,102] Int kz2 (fun x y=>QX u y.1 y.2.1)):=i u (c g (lp [(0,.one (.own 101)),(1,.one (.clo 411 [102])),G 7,G 8] [w 102 .E,p 101 .int] g)) kz4 (e (QcV u) t) func341
def QS(f:Y Int)(c102:D.E):I (Nat×Nat×Y Int):=V (QX u f c102) fun m=>cd (m=(-1)) (TF c102 c102 (some (0,f.length,f))) (Qe (fun o ((c,g,_),h,a,_)=>cd (g<(a.length:Int)) (TG (fun((p,q,_),r,s,_)=>o ((p,(X (q+1)),()),r,s,())) fun i=>TK g fun j=>TP j a.length (V a[j]? fun k=>V (W6 u k h) fun n=>J (!n) (TK c fun e=>TP e a.length (V a[e]? fun t=>i (((X (c+1)),g,()),h,(List.set a e k),()))) (i ((c,g,()),h,a,())))) (TK c fun b=>TO b a.length (TO b a.length (TO a.length a.length (TK c fun l=>TO l (((List.take b a)++(List.replicate (a.length - b) 0))++(List.drop a.length a)).length (TF h c102 (some (0,l,(((List.take b a)++(List.replicate (a.length - b) 0))++(List.drop a.length a)))))))))) u ((m,(X (m+1)),()),c102,f,()))
def X7:o 385 (Ql [.one (.own 101),.one (.clo 411 [102])] [p 101 .int,w 102 .E] [.one (.view 101)] [p 101 .int] [102] (Nat×Nat×Y Int) kz18 (fun x y=>QS u y.1 y.2.1)):=i u (n 3 (lp [(0,.one (.own 101)),(1,.one (.clo 411 [102])),G 5,G 6] [w 102 .E,p 101 .int] (c g (c (.TG [(0,.one (.own 101)),(1,.one (.clo 411 [102])),G 5,G 6] [w 102 .E,p 101 .int] g) g)))) kz20 (e (Wp u) (e (QcV u) t)) func385
def Zi(l0:Nat)(h0:Nat)(W:Y Int)(w:Int)(Z:Int):I (Y Int):=Qe (fun L0 ((a1,a2,a3,y,v,_),z,_)=>cd (v<y) (TG (fun((a7,a8,a9,A,B,_),zH,_)=>L0 ((a7,a8,a9,A,(X (B+1)),()),zH,())) fun o=>Qe (fun E ((b,c,i,l,m,j,_),e,_)=>TG (fun((a,f,F,G,H,g,_),h,_)=>TK (X (g - 1)) fun p=>TP p (f - a) (V (GetElem?.getElem? h (a+p)) fun q=>TK g fun r=>TP r (f - a) (V (GetElem?.getElem? h (a+r)) fun zE=>TK g fun k=>TP k (f - a) (V (GetElem?.getElem? h (a+k)) fun a0=>TK (X (g - 1)) fun n=>TP n (f - a) (V (GetElem?.getElem? (List.set h (a+k) q) (a+n)) fun aA=>E ((a,f,F,G,H,(X (g - 1)),()),(List.set (List.set h (a+k) q) (a+n) zE),())))))) fun zG=>cd (i<j) (TK j fun s=>TP s (c - b) (V (GetElem?.getElem? e (b+s)) fun L=>TK (X (j - 1)) fun t=>TP t (c - b) (V (GetElem?.getElem? e (b+t)) fun zD=>V (Ub u L zD) fun zI=>J zI (zG ((b,c,i,l,m,j,()),e,())) (o ((b,c,i,l,m,()),e,()))))) (o ((b,c,i,l,m,()),e,()))) u ((a1,a2,a3,y,v,v,()),z,())) (some z)) u ((l0,h0,w,Z,(X (w+1)),()),W,())
def VB:o 389 (Ql [.one (.view 101),d,d] [p 101 .int] [] [(101,.arrs .int)] [] (Y Int) kz5 (fun x y=>Zi u x.1 x.2.1 y.1 x.2.2.1 x.2.2.2.1)):=i u (c g (.one (k [.s 0 (.one (.view 101)),.n 1,.n 2,.n 6] (c g (c (j [.s 0 (.one (.view 101)),.n 1,.n 2,.n 6] (.one (c g (.one (k [.s 0 (.one (.view 101)),.n 1,.n 2,.n 6,.n 7] (c (j [.s 0 (.one (.view 101)),.n 1,.n 2,.n 6,.n 7] g [p 101 .int]) g) [p 101 .int])))) [p 101 .int]) g)) [p 101 .int]))) kz8 (e (Qca u) t) func389
def YW(l0:Nat)(h0:Nat)(f:Y Int)(g:Int)(h:Int)(i:Int):I (Y Int):=Qe (fun n ((j,k,a,b,l,m,o,_),c,_)=>cd ((X (b - a))<=12) (V (Zi u j k c a b) fun e=>chk e.length c.length (some e)) (cd (l=0) none (J (!m) none none))) u ((l0,h0,g,h,i,true,true,()),f,())
def Qaw:o 369 (Ql [.one (.view 101),d,d,d] [p 101 .int] [] [(101,.arrs .int)] [] (Y Int) kz5 (fun x y=>YW u x.1 x.2.1 y.1 x.2.2.1 x.2.2.2.1 x.2.2.2.2.1)):=i u (n 2 (.one (k [.s 0 (.one (.view 101)),.n 1,.n 2,.n 3,.s 8 h,.s 9 h] g [p 101 .int]))) kz8 (e (VB u) t) func369
def WS(l0:Nat)(h0:Nat)(a:Y Int):I (Y Int):=V (QbF u (IntKind.wrap .u64 (((h0 - l0):Nat):Int))) fun c=>V (YW u l0 h0 a 0 (((h0 - l0):Nat):Int) c) fun b=>chk b.length a.length (some b)
def Qgn:o 354 (Ql [.one (.view 101)] [p 101 .int] [] [(101,.arrs .int)] [] (Y Int) kz5 (fun x y=>WS u x.1 x.2.1 y.1)):=i u g kz8 (e (Qaw u) (e (QeY u) t)) func354
def XA(l0:Nat)(h0:Nat)(t:Y Int):I (Nat×Nat×Y Int):=cd ((((h0 - l0):Nat):Int)<2) (some (l0,h0,t)) (Qe (fun zD ((f,i,l,_),m,_)=>cd (l<(((i - f):Nat):Int)) (TK l fun v=>TP v (i - f) (V (GetElem?.getElem? m (f+v)) fun zI=>TK (X (l - 1)) fun w=>TP w (i - f) (V (GetElem?.getElem? m (f+w)) fun W=>cd (zI=W) (TK l fun y=>TP y (i - f) (Qe (fun z ((a,b,j,c,g,h,_),e,_)=>cd (h<(((g - c):Nat):Int)) (TG (fun((A,B,zH,E,F,G,_),H,_)=>z ((A,B,zH,E,F,(X (G+1)),()),H,())) fun o=>TK h fun p=>TP p (g - c) (V (GetElem?.getElem? e (c+p)) fun zE=>TK (X (h - 1)) fun q=>TP q (g - c) (V (GetElem?.getElem? e (c+q)) fun zG=>cd (zE≠zG) (TK h fun r=>TP r (g - c) (V (GetElem?.getElem? e (c+r)) fun L=>TK j fun n=>TP n (b - a) (V (GetElem?.getElem? e (a+n)) fun Z=>o ((a,b,(X (j+1)),c,g,h,()),(List.set e (a+n) L),())))) (o ((a,b,j,c,g,h,()),e,()))))) (TK j fun k=>TP k (b - a) (TO (a+k) (a+(b - a)) (TO (a+(b - a)) e.length (TK j fun s=>TO s (b - a) (some ((a+0),(a+s),(((List.take (a+k) e)++(List.replicate ((a+(b - a)) - (a+k)) 0))++(List.drop (a+(b - a)) e))))))))) u ((f,i,l,(f+y),(f+(i - f)),1,()),m,()))) (zD ((f,i,(X (l+1)),()),m,()))))) (some (f,i,m))) u ((l0,h0,1,()),t,()))
def QdW:o 412 (Ql [.one (.view 101)] [p 101 .int] [.one (.view 101)] [p 101 .int] [] (Nat×Nat×Y Int) kz18 (fun x y=>XA u x.1 x.2.1 y.1)):=i u (n 2 (m [.s 0 (.one (.view 101)),.n 3] (c g (c (.one (c g (c (c g (m [.s 0 (.one (.view 101)),.n 3,.s 4 (.one (.view 101)),.n 5] (c g (c (j [.s 0 (.one (.view 101)),.n 3,.s 4 (.one (.view 101)),.n 5] g [p 101 .int]) g)) [p 101 .int])) g))) g)) [p 101 .int])) kz20 t func412
def QbI(r:D.E)(s:D.b)(i:Y D.FS)(t:Int):I (Nat×Nat×Y Int):=Qe (fun v ((j,k,l,f,_),g,m,h,_)=>cd (f<l) (TN k f fun w=>V (QcW u g m w j) fun n=>TO (h.length+n.length) 34359738368 (v ((j,k,l,(X (f+1)),()),g,m,(h++n),()))) (V (QS u h g) fun(a,b,c)=>V (WS u a b c) fun e=>chk e.length c.length (V (XA u a b e) fun(o,p,q)=>some (o,p,q)))) u ((t,i,(i.length:Int),0,()),r,s,[],())
def QkG:o 386 (Ql [tO,L,l .FS,d] [] [.one (.view 1024)] [p 1024 .int] [] (Nat×Nat×Y Int) kz18 (fun x y=>QbI u x.1 x.2.1 x.2.2.1 x.2.2.2.1)):=i u (n 2 (m [.n 3,.r 4 .E,.r 5 .b,.o 9 1024 .int,.l 12 .FS,.n 13,.n 14] g)) kz20 (e (Qgn u) (e (X7 u) (e (Qms u) (e (QdW u) t)))) func386
def QjA(u:Nat)(a:Int)(b:Int):I AH:=cd (0<=a) (cd (a<=8589934592) (cd (a<=b) (cd (b<=8589934592) (cd ((X (b - a))<=34560000) sT sF) sF) sF) sF) sF
def QoZ:o 432 (s [d,d] [h] (QjA u)):=f u g t func432
def Qeh(b:D.E)(c:Int)(e:Int)(f:Int):I (D.Fs×Int):=V (QlP u b) fun(a,g)=>TG (fun(_,k,h,_)=>some (h,0)) fun i=>J (!g) (some (a,8)) (cd (c<0) (some (a,3)) (cd ((b.k.length:Int)<=c) (some (a,3)) (V (QjA u e f) fun j=>J (!j) (some (a,1)) (i ((),z10,a,())))))
def Qnr:o 413 (s [tO,d,d,d] [.st .Fs,d] (Qeh u)):=f u (n 2 (c (j [.r 8 .Fs,.r 10 .Fs] g) g)) (e (Qn5 u) (e (QoZ u) t)) func413
def XU(u:Nat)(a:D.Fs)(b:Int):I D.Fg:=TN a.tables b fun c=>some c
def Qis:o 416 (s [.st .Fs,d] [t10] (XU u)):=f u g t func416
def VR(c:D.E)(e:Int)(b:Int)(h:AH):I AH:=V (Qeh u c e b b) fun(f,i)=>cd (i≠0) sF (TN c.k e fun a=>J h (J a.F1 sT (V (XU u f a.q) fun j=>V (ZQ u j b) fun k=>V (Wr u k) fun l=>V (QeT u a.Fl l) fun m=>J m sF sT)) (V (XU u f a.q) fun n=>V (ZQ u n b) fun o=>V (Wr u o) fun p=>V (QeT u a.Fl p) fun g=>J g sF sT))
def QhP:o 388 (s [tO,d,d,h] [h] (VR u)):=f u g (e (Qnr u) (e (Qnd u) (e (Qe4 u) (e (Qis u) (e (V8 u) t))))) func388
def ZD(e:Int)(a:D.E)(c:D.Page)(b:D.w):I (AH×D.Page):=V (VR u a e c.FQ b.Fv) fun f=>TF a a (TF b b (some ((!f),c)))
def Wt:o 387 (Ql [d,.one (.TM 101),.one (.TM 102),.one (.TM 106)] [w 101 .E,(102,.box bH3),p 103 .R,p 104 .int,p 105 .int,w 106 .w] [h] [(102,.box bH3),p 103 .R,p 104 .int,p 105 .int] [101,106] (AH×D.Page) kz9 (fun x y=>ZD u x.1 y.1 (D.Page.mk y.2.1.1 y.2.1.2.1 y.2.1.2.2.1 y.2.1.2.2.2.1 y.2.1.2.2.2.2.1 y.2.1.2.2.2.2.2.1 y.2.1.2.2.2.2.2.2.1 y.2.1.2.2.2.2.2.2.2.1 y.2.1.2.2.2.2.2.2.2.2.1 y.2.1.2.2.2.2.2.2.2.2.2.1 y.2.1.2.2.2.2.2.2.2.2.2.2.1 y.2.2.1 y.2.2.2.1 y.2.2.2.2.1) y.2.2.2.2.2.1)):=i u g (fun a b=>(a.1,(D.Page.mk b.1.1 b.1.2.1 b.1.2.2.1 b.1.2.2.2.1 b.1.2.2.2.2.1 b.1.2.2.2.2.2.1 b.1.2.2.2.2.2.2.1 b.1.2.2.2.2.2.2.2.1 b.1.2.2.2.2.2.2.2.2.1 b.1.2.2.2.2.2.2.2.2.2.1 b.1.2.2.2.2.2.2.2.2.2.2.1 b.2.1 b.2.2.1 b.2.2.2.1))) (e (QhP u) t) func387
def Qw(l0:Nat)(h0:Nat)(r:Y Int)(c102:D.E)(c103:D.Page)(c107:D.w):I (Int×D.Page):=Qe (fun E ((s,t,v,e,_),f,(w,y,z,A,g,h,i,j,k,l,m,_),b,c,n,o,p,_)=>cd (e<v) (TK e fun q=>TP q (t - s) (V (GetElem?.getElem? c (s+q)) fun B=>V (ZD u B f (D.Page.mk w y z A g h i j k l m n o p) b) fun(zH,a)=>J zH (TF c r (TF f c102 (TF b c107 (some (e,a))))) (E ((s,t,v,(X (e+1)),()),f,(a.S,a.W,a.R,a.FB,a.FQ,a.p,a.By,a.FR,a.FT,a.z,a.FP,()),b,c,a.P,a.g,a.h,())))) (TF c r (TF f c102 (TF b c107 (some ((-1),(D.Page.mk w y z A g h i j k l m n o p))))))) u ((l0,h0,(((h0 - l0):Nat):Int),0,()),c102,((D.Page.S c103),(D.Page.W c103),(D.Page.R c103),(D.Page.FB c103),(D.Page.FQ c103),(D.Page.p c103),(D.Page.By c103),(D.Page.FR c103),(D.Page.FT c103),(D.Page.z c103),(D.Page.FP c103),()),c107,r,(D.Page.P c103),(D.Page.g c103),(D.Page.h c103),())
def YM:o 341 (Ql [.one (.view 101),.one (.clo 387 [102,103,107])] [p 101 .int,w 102 .E,(103,.box bH4),p 104 .R,p 105 .int,p 106 .int,w 107 .w] [d] [(103,.box bH4),p 104 .R,p 105 .int,p 106 .int] [101,102,107] (Int×D.Page) kz16 (fun x y=>Qw u x.1 x.2.1 y.1 y.2.1 (D.Page.mk y.2.2.1.1 y.2.2.1.2.1 y.2.2.1.2.2.1 y.2.2.1.2.2.2.1 y.2.2.1.2.2.2.2.1 y.2.2.1.2.2.2.2.2.1 y.2.2.1.2.2.2.2.2.2.1 y.2.2.1.2.2.2.2.2.2.2.1 y.2.2.1.2.2.2.2.2.2.2.2.1 y.2.2.1.2.2.2.2.2.2.2.2.2.1 y.2.2.1.2.2.2.2.2.2.2.2.2.2.1 y.2.2.2.1 y.2.2.2.2.1 y.2.2.2.2.2.1) y.2.2.2.2.2.2.1)):=i u (c g (m [.s 0 (.one (.view 101)),.s 1 (.one (.clo 387 [102,103,107])),.n 7,.n 8] g [w 102 .E,(103,.box bH4),w 107 .w,p 101 .int,p 104 .R,p 105 .int,p 106 .int])) (fun a b=>(a.1,(D.Page.mk b.1.1 b.1.2.1 b.1.2.2.1 b.1.2.2.2.1 b.1.2.2.2.2.1 b.1.2.2.2.2.2.1 b.1.2.2.2.2.2.2.1 b.1.2.2.2.2.2.2.2.1 b.1.2.2.2.2.2.2.2.2.1 b.1.2.2.2.2.2.2.2.2.2.1 b.1.2.2.2.2.2.2.2.2.2.2.1 b.2.1 b.2.2.1 b.2.2.2.1))) (e (Wt u) t) func341
def Qv(l0:Nat)(h0:Nat)(F:Y Int)(c102:D.E)(c103:D.Page)(c107:D.w):I (Nat×Nat×D.Page×Y Int):=V (Qw u l0 h0 F c102 c103 c107) fun(G,c)=>cd (G=(-1)) (TF c102 c102 (TF c107 c107 (some (l0,h0,c,F)))) (Qe (fun L2 ((b,e,i,k,_),l,(H,zE,m,n,o,p,q,r,s,t,v,_),g,f,w,y,z,_)=>cd (k<(((e - b):Nat):Int)) (TG (fun((zG,L,zD,zI,_),W,(Z,a2,aA,aB,aC,aD,aE,aF,aG,aH,aI,_),aJ,aK,aL,aM,aN,_)=>L2 ((zG,L,zD,(X (zI+1)),()),W,(Z,a2,aA,aB,aC,aD,aE,aF,aG,aH,aI,()),aJ,aK,aL,aM,aN,())) fun A=>TK k fun B=>TP B (e - b) (V (GetElem?.getElem? f (b+B)) fun zH=>V (ZD u zH l (D.Page.mk H zE m n o p q r s t v w y z) g) fun(aO,a)=>J (!aO) (TK i fun j=>TP j (e - b) (V (GetElem?.getElem? f (b+j)) fun aP=>A ((b,e,(X (i+1)),k,()),l,(a.S,a.W,a.R,a.FB,a.FQ,a.p,a.By,a.FR,a.FT,a.z,a.FP,()),g,(List.set f (b+j) zH),a.P,a.g,a.h,()))) (A ((b,e,i,k,()),l,(a.S,a.W,a.R,a.FB,a.FQ,a.p,a.By,a.FR,a.FT,a.z,a.FP,()),g,f,a.P,a.g,a.h,())))) (TK i fun h=>TP h (e - b) (TO (b+h) (b+(e - b)) (TO (b+(e - b)) f.length (TK i fun E=>TO E (e - b) (TF l c102 (TF g c107 (some ((b+0),(b+E),(D.Page.mk H zE m n o p q r s t v w y z),(((List.take (b+h) f)++(List.replicate ((b+(e - b)) - (b+h)) 0))++(List.drop (b+(e - b)) f))))))))))) u ((l0,h0,G,(X (G+1)),()),c102,(c.S,c.W,c.R,c.FB,c.FQ,c.p,c.By,c.FR,c.FT,c.z,c.FP,()),c107,F,c.P,c.g,c.h,()))
def YG:o 385 (Ql [.one (.view 101),.one (.clo 387 [102,103,107])] [p 101 .int,w 102 .E,(103,.box bH4),p 104 .R,p 105 .int,p 106 .int,w 107 .w] [.one (.view 101)] [(103,.box bH4),p 104 .R,p 105 .int,p 106 .int,p 101 .int] [102,107] (Nat×Nat×D.Page×Y Int) (fun q=>((q.1,q.2.1,()),(q.2.2.1.S,q.2.2.1.W,q.2.2.1.R,q.2.2.1.FB,q.2.2.1.FQ,q.2.2.1.p,q.2.2.1.By,q.2.2.1.FR,q.2.2.1.FT,q.2.2.1.z,q.2.2.1.FP,()),q.2.2.1.P,q.2.2.1.g,q.2.2.1.h,q.2.2.2,())) (fun x y=>Qv u x.1 x.2.1 y.1 y.2.1 (D.Page.mk y.2.2.1.1 y.2.2.1.2.1 y.2.2.1.2.2.1 y.2.2.1.2.2.2.1 y.2.2.1.2.2.2.2.1 y.2.2.1.2.2.2.2.2.1 y.2.2.1.2.2.2.2.2.2.1 y.2.2.1.2.2.2.2.2.2.2.1 y.2.2.1.2.2.2.2.2.2.2.2.1 y.2.2.1.2.2.2.2.2.2.2.2.2.1 y.2.2.1.2.2.2.2.2.2.2.2.2.2.1 y.2.2.2.1 y.2.2.2.2.1 y.2.2.2.2.2.1) y.2.2.2.2.2.2.1)):=i u (n 3 (m [.s 0 (.one (.view 101)),.s 1 (.one (.clo 387 [102,103,107])),.n 5,.n 6] (c g (c (j [.s 0 (.one (.view 101)),.s 1 (.one (.clo 387 [102,103,107])),.n 5,.n 6] g [w 102 .E,(103,.box bH4),w 107 .w,p 101 .int,p 104 .R,p 105 .int,p 106 .int]) g)) [w 102 .E,(103,.box bH4),w 107 .w,p 101 .int,p 104 .R,p 105 .int,p 106 .int])) (fun a b=>(a.1,a.2.1,(D.Page.mk b.1.1 b.1.2.1 b.1.2.2.1 b.1.2.2.2.1 b.1.2.2.2.2.1 b.1.2.2.2.2.2.1 b.1.2.2.2.2.2.2.1 b.1.2.2.2.2.2.2.2.1 b.1.2.2.2.2.2.2.2.2.1 b.1.2.2.2.2.2.2.2.2.2.1 b.1.2.2.2.2.2.2.2.2.2.2.1 b.2.1 b.2.2.1 b.2.2.2.1),b.2.2.2.2.1)) (e (YM u) (e (Wt u) t)) func385
def Yq(i:D.E)(j:D.b)(c:D.Page):I (D.Page×Y Int):=TN j.j c.W fun k=>V (Qck u k c.FB) fun(zH,zE,zG)=>TN k.Steps zH fun h=>V (QbI u i j h.Fk c.FQ) fun(E,F,G)=>V (Qv u E F G i c h) fun(e,f,a,b)=>TO (a.P.length+[(D.R.mk a.FB a.FQ (List.drop e (List.take f b)))].length) 34359738368 (TG (fun(_,(l,m,n,o,p,q,r,s,t,v,w,y,_),H,z,A,B,_)=>some ((D.Page.mk l m n o p q r s t v w z y A),B)) fun g=>cd (0<(((List.drop e (List.take f b)).length:Nat):Int)) (g ((),(a.S,a.W,a.R,(X (a.FB+1)),(X (a.FQ+h.Fz)),a.p,a.By,a.FR,a.FT,a.z,a.FP,[],()),z1,(a.P++[(D.R.mk a.FB a.FQ (List.drop e (List.take f b)))]),a.h,a.g,())) (g ((),(a.S,a.W,a.R,(X (a.FB+1)),a.FQ,a.p,a.By,a.FR,a.FT,a.z,a.FP,[],()),z1,(a.P++[(D.R.mk a.FB a.FQ (List.drop e (List.take f b)))]),a.h,a.g,())))
def Qbz:o 368 (Ql [tO,L,.agg bH5] [p 101 .R,p 102 .int,p 103 .int] [.agg bH2] [p 101 .R,p 102 .int,p 103 .int] [] (D.Page×Y Int) (fun q=>(((q.1.S,q.1.W,q.1.R,q.1.FB,q.1.FQ,q.1.p,q.1.By,q.1.FR,q.1.FT,q.1.z,q.1.FP,q.1.g,()),()),q.1.P,q.2,q.1.h,())) (fun x y=>Yq u x.1 x.2.1 (D.Page.mk x.2.2.1.1 x.2.2.1.2.1 x.2.2.1.2.2.1 x.2.2.1.2.2.2.1 x.2.2.1.2.2.2.2.1 x.2.2.1.2.2.2.2.2.1 x.2.2.1.2.2.2.2.2.2.1 x.2.2.1.2.2.2.2.2.2.2.1 x.2.2.1.2.2.2.2.2.2.2.2.1 x.2.2.1.2.2.2.2.2.2.2.2.2.1 x.2.2.1.2.2.2.2.2.2.2.2.2.2.1 y.1 y.2.1 y.2.2.1))):=i u (n 8 (c (.TG [r 5,r 6] [(1005,.box bH2),w 1006 .Page,p 101 .R,p 103 .int,p 102 .int] g) g)) (fun a b=>((D.Page.mk a.1.1 a.1.2.1 a.1.2.2.1 a.1.2.2.2.1 a.1.2.2.2.2.1 a.1.2.2.2.2.2.1 a.1.2.2.2.2.2.2.1 a.1.2.2.2.2.2.2.2.1 a.1.2.2.2.2.2.2.2.2.1 a.1.2.2.2.2.2.2.2.2.2.1 a.1.2.2.2.2.2.2.2.2.2.2.1 b.1 a.1.2.2.2.2.2.2.2.2.2.2.2.1 b.2.2.1),b.2.1)) (e (QnA u) (e (YG u) (e (QkG u) t))) func368
def Qby(r:D.E)(g:D.b)(e:D.Page):I (D.Page×Int):=V (WX u e) fun(f,s)=>V (Yp u g e) fun t=>J (!t) (some (z1,8)) (J (!s) (some (z1,9)) (cd ((e.P.length:Int)=200) (some (z1,5)) (V (XW u e) fun a=>TG (fun(_,(v,w,y,z,A,B,h,i,j,k,l,m,_),zH,n,o,_)=>some ((D.Page.mk v w y z A B h i j k l n m o),0)) fun c=>cd (a.p=2) (c ((),(a.S,a.W,a.R,a.FB,f,0,a.By,a.FR,(max a.FT f),a.z,a.FP,a.g,()),z1,a.P,a.h,())) (TN g.j a.W fun p=>V (W2 u p) fun q=>cd (a.FB=q) (c ((),(a.S,a.W,a.R,a.FB,a.FQ,3,a.By,a.FR,(max a.FT f),a.z,a.FP,a.g,()),z1,a.P,a.h,())) (V (Yq u r g (D.Page.mk a.S a.W a.R a.FB a.FQ a.p a.By a.FR (max a.FT f) a.z a.FP a.P a.g a.h)) fun(b,E)=>c ((),(b.S,b.W,b.R,b.FB,b.FQ,b.p,b.By,b.FR,b.FT,b.z,b.FP,b.g,()),z1,b.P,b.h,()))))))
def QkB:o 352 (s [tO,L,E] [E,d] (Qby u)):=f u (n 5 (c (.TG [r 5,r 6] [(1005,.box [v,v,v,v,v,v,v,v,v,v,v,.own 2039007,.TQ .int,.own 2065007]),w 1006 .Page,p 2039007 .R,p 2065007 .int] g) g)) (e (Vm u) (e (Qcj u) (e (Uu u) (e (Uv u) (e (Qbz u) t))))) func352
def QcM(i:D.E)(c:D.b)(e:D.Page)(j:Int):I (D.Page×Int):=V (Yp u c e) fun k=>J (!k) (some (z1,8)) (V (XW u e) fun l=>Qe (fun m ((f,_),g,h,b,n,_)=>V (QaD u b f) fun o=>J o (V (Qby u g h b) fun(p,a)=>cd (a≠0) (some (z1,a)) (m ((f,()),g,h,p,n,()))) (some (b,0))) u ((j,()),i,c,l,z1,()))
def QlV:o 333 (s [tO,L,E,d] [E,d] (QcM u)):=f u (n 3 (m [.n 3,.r 4 .E,.r 5 .b,.r 6 .Page,.r 8 .Page] g)) (e (Vm u) (e (Uv u) (e (QjE u) (e (QkB u) t)))) func333
def QgD(u:Nat)(a:D.Page):I Int:=cd (a.p=2) (some (-1)) (some a.FB)
def Qpu:o 287 (s [E] [d] (QgD u)):=f u g t func287
def UZ(b:Y Int)(h:Int):I Int:=Qe (fun i ((e,f,c,_),a,_)=>cd (c<f) (TK c fun g=>TP g a.length (V a[g]? fun j=>cd (e=j) (TF a b (some c)) (i ((e,f,(X (c+1)),()),a,())))) (TF a b (some (-1)))) u ((h,(b.length:Int),0,()),b,())
def Qgm:o 239 (Ql [.one (.own 101),d] [p 101 .int] [d] [] [101] Int kz2 (fun x y=>UZ u y.1 x.1)):=i u (c g (m [.o 0 101 .int,.n 1,.n 7,.n 8] g)) kz4 t func239
def Zu(a:Y Int)(b:Int):I AH:=V (UZ u a b) fun c=>TF a a (some (decide (0<=c)))
def YD:o 171 (Ql [.one (.own 101),d] [p 101 .int] [h] [] [101] AH kz2 (fun x y=>Zu u y.1 x.1)):=i u g kz4 (e (Qgm u) t) func171
def YP(u:Nat)(a:D.Page):I (Int×AH):=cd (a.p=0) (TF a.P a.P (TF a.g a.g (TF a.h a.h (some (a.FQ,true))))) (cd (a.p=2) (TF a.P a.P (TF a.g a.g (TF a.h a.h (some (a.FR,true))))) (TF a.P a.P (TF a.g a.g (TF a.h a.h (some (0,false))))))
def QcC:o 286 (Ql [.agg bH5] [p 101 .R,p 102 .int,p 103 .int] [d,h] [] [101,102,103] (Int×AH) kz22 (fun x y=>YP u (D.Page.mk x.1.1 x.1.2.1 x.1.2.2.1 x.1.2.2.2.1 x.1.2.2.2.2.1 x.1.2.2.2.2.2.1 x.1.2.2.2.2.2.2.1 x.1.2.2.2.2.2.2.2.1 x.1.2.2.2.2.2.2.2.2.1 x.1.2.2.2.2.2.2.2.2.2.1 x.1.2.2.2.2.2.2.2.2.2.2.1 y.1 y.2.1 y.2.2.1))):=i u g kz23 t func286
def Yr(a:D.Page)(b:Int):I AH:=V (YP u a) fun(c,e)=>J e (cd (c<=b) (TF a.P a.P (TF a.g a.g (TF a.h a.h sT))) (TF a.P a.P (TF a.g a.g (TF a.h a.h sF)))) (TF a.P a.P (TF a.g a.g (TF a.h a.h sF)))
def QbB:o 351 (Ql [.agg bH5,d] [p 101 .R,p 102 .int,p 103 .int] [h] [] [101,102,103] AH kz2 (fun x y=>Yr u (D.Page.mk x.1.1 x.1.2.1 x.1.2.2.1 x.1.2.2.2.1 x.1.2.2.2.2.1 x.1.2.2.2.2.2.1 x.1.2.2.2.2.2.2.1 x.1.2.2.2.2.2.2.2.1 x.1.2.2.2.2.2.2.2.2.1 x.1.2.2.2.2.2.2.2.2.2.1 x.1.2.2.2.2.2.2.2.2.2.2.1 y.1 y.2.1 y.2.2.1) x.2.1)):=i u g kz4 (e (QcC u) t) func351
def Z1(a:D.Page)(k:D.Z):I Int:=TG (fun((t,_),(m,n,o,p,q,f,r,s,l,g,h,_),v,b,c,e,_)=>TG (fun(_,A,B,zH,_)=>TF A a.P (TF B a.g (TF zH a.h (some 0)))) fun E=>cd (v.At<l) (TF b a.P (TF c a.g (TF e a.h (some 6)))) (V (Yr u (D.Page.mk m n o p q f r s l g h b c e) v.At) fun F=>J F (TF b a.P (TF c a.g (TF e a.h (some 6)))) (TG (fun((G,H,_),(zE,zG,L,zD,zI,W,Z,aA,aB,aC,aD,_),y,z,w,_)=>J H (TF y a.P (TF z a.g (TF w a.h (some 9)))) (cd ((w.length:Int)=64) (TF y a.P (TF z a.g (TF w a.h (some 5)))) (J G (TF y a.P (TF z a.g (TF w a.h (some 5)))) (E ((),y,z,w,()))))) fun j=>cd (f=4) (j ((t,(decide (f=4)),()),(m,n,o,p,q,f,r,s,l,g,h,()),b,c,e,())) (cd (f=3) (cd (v.a≠5) (j ((t,true,()),(m,n,o,p,q,f,r,s,l,g,h,()),b,c,e,())) (cd (f=1) (cd (v.a=2) (j ((t,true,()),(m,n,o,p,q,f,r,s,l,g,h,()),b,c,e,())) (j ((t,false,()),(m,n,o,p,q,f,r,s,l,g,h,()),b,c,e,()))) (j ((t,false,()),(m,n,o,p,q,f,r,s,l,g,h,()),b,c,e,())))) (cd (f=1) (cd (v.a=2) (j ((t,true,()),(m,n,o,p,q,f,r,s,l,g,h,()),b,c,e,())) (j ((t,false,()),(m,n,o,p,q,f,r,s,l,g,h,()),b,c,e,()))) (j ((t,false,()),(m,n,o,p,q,f,r,s,l,g,h,()),b,c,e,()))))))) fun i=>cd (k.a=3) (cd (a.z=4) (i ((true,()),(a.S,a.W,a.R,a.FB,a.FQ,a.p,a.By,a.FR,a.FT,a.z,a.FP,()),k,a.P,a.g,a.h,())) (cd (k.a=4) (cd (a.FP=4) (i ((true,()),(a.S,a.W,a.R,a.FB,a.FQ,a.p,a.By,a.FR,a.FT,a.z,a.FP,()),k,a.P,a.g,a.h,())) (cd ((a.P.length:Int)=200) (i ((true,()),(a.S,a.W,a.R,a.FB,a.FQ,a.p,a.By,a.FR,a.FT,a.z,a.FP,()),k,a.P,a.g,a.h,())) (i ((false,()),(a.S,a.W,a.R,a.FB,a.FQ,a.p,a.By,a.FR,a.FT,a.z,a.FP,()),k,a.P,a.g,a.h,())))) (i ((false,()),(a.S,a.W,a.R,a.FB,a.FQ,a.p,a.By,a.FR,a.FT,a.z,a.FP,()),k,a.P,a.g,a.h,())))) (cd (k.a=4) (cd (a.FP=4) (i ((true,()),(a.S,a.W,a.R,a.FB,a.FQ,a.p,a.By,a.FR,a.FT,a.z,a.FP,()),k,a.P,a.g,a.h,())) (cd ((a.P.length:Int)=200) (i ((true,()),(a.S,a.W,a.R,a.FB,a.FQ,a.p,a.By,a.FR,a.FT,a.z,a.FP,()),k,a.P,a.g,a.h,())) (i ((false,()),(a.S,a.W,a.R,a.FB,a.FQ,a.p,a.By,a.FR,a.FT,a.z,a.FP,()),k,a.P,a.g,a.h,())))) (i ((false,()),(a.S,a.W,a.R,a.FB,a.FQ,a.p,a.By,a.FR,a.FT,a.z,a.FP,()),k,a.P,a.g,a.h,())))
def QaN:o 335 (Ql [.agg bH5,t12] [p 101 .R,p 102 .int,p 103 .int] [d] [] [101,102,103] Int kz2 (fun x y=>Z1 u (D.Page.mk x.1.1 x.1.2.1 x.1.2.2.1 x.1.2.2.2.1 x.1.2.2.2.2.1 x.1.2.2.2.2.2.1 x.1.2.2.2.2.2.2.1 x.1.2.2.2.2.2.2.2.1 x.1.2.2.2.2.2.2.2.2.1 x.1.2.2.2.2.2.2.2.2.2.1 x.1.2.2.2.2.2.2.2.2.2.2.1 y.1 y.2.1 y.2.2.1) x.2.1)):=i u (c g (c (.TG [r 2,r 3,(5,h)] [(1002,.box bH5),w 1003 .Z,p 101 .R,p 102 .int,p 103 .int] g) (c (j [] (.one (n 2 (c (j [.s 2 (.one (.TM 1002)),.s 5 h,.s 42 h] g [(1002,.box bH5),p 101 .R,p 102 .int,p 103 .int]) g))) [p 101 .R,p 102 .int,p 103 .int]) g))) kz4 (e (QbB u) t) func335
def Yi(a:D.Page):I (Y Int):=cd ((a.P.length:Int)=0) (TF a.P a.P (TF a.g a.g (TF a.h a.h (some [])))) (TK (X ((a.P.length:Int) - 1)) fun b=>TP b a.P.length (V a.P[b]? fun c=>V (Qu u c.k) fun e=>TF a.P a.P (TF a.g a.g (TF a.h a.h (some e)))))
def Qbb:o 353 (Ql [.agg bH5] [p 101 .R,p 102 .int,p 103 .int] [lI] [] [101,102,103] (Y Int) kz2 (fun x y=>Yi u (D.Page.mk x.1.1 x.1.2.1 x.1.2.2.1 x.1.2.2.2.1 x.1.2.2.2.2.1 x.1.2.2.2.2.2.1 x.1.2.2.2.2.2.2.1 x.1.2.2.2.2.2.2.2.1 x.1.2.2.2.2.2.2.2.2.1 x.1.2.2.2.2.2.2.2.2.2.1 x.1.2.2.2.2.2.2.2.2.2.2.1 y.1 y.2.1 y.2.2.1))):=i u g kz4 (e (QP u) t) func353
def Zm(G:Y Int)(q:Int)(H:Int):I (Y Int):=Qe (fun zE ((zG,r,p,_),s,_)=>cd (p<r) (TG (fun((L,zD,zI,_),W,_)=>zE ((L,zD,(X (zI+1)),()),W,())) fun t=>Qe (fun v ((f,h,i,g,_),b,_)=>TG (fun((w,y,z,c,_),a,_)=>TK (X (c - 1)) fun l=>TP l a.length (V a[l]? fun j=>TK c fun m=>TP m a.length (V a[m]? fun A=>TK c fun e=>TP e a.length (V a[e]? fun Z=>TK (X (c - 1)) fun k=>TP k (List.set a e j).length (V (GetElem?.getElem? (List.set a e j) k) fun a0=>v ((w,y,z,(X (c - 1)),()),(List.set (List.set a e j) k A),())))))) fun B=>cd (f<g) (TK g fun n=>TP n b.length (V b[n]? fun zH=>TK (X (g - 1)) fun o=>TP o b.length (V b[o]? fun E=>V (Ub u zH E) fun F=>J F (B ((f,h,i,g,()),b,())) (t ((f,h,i,()),b,()))))) (t ((f,h,i,()),b,()))) u ((zG,r,p,p,()),s,())) (some s)) u ((q,H,(X (q+1)),()),G,())
def VN:o 389 (Ql [.one (.own 101),d,d] [p 101 .int] [] [(101,.arrs .int)] [] (Y Int) kz5 (fun x y=>Zm u y.1 x.1 x.2.1)):=i u (c g (.one (k [.o 0 101 .int,.n 1,.n 2,.n 6] (c g (c (j [.o 0 101 .int,.n 1,.n 2,.n 6] (.one (c g (.one (k [.o 0 101 .int,.n 1,.n 2,.n 6,.n 7] (c (j [.o 0 101 .int,.n 1,.n 2,.n 6,.n 7] g) g)))))) g))))) kz8 (e (Qca u) t) func389
def Y9(f:Y Int)(g:Int)(h:Int)(i:Int):I (Y Int):=Qe (fun l ((a,b,j,k,m,_),c,_)=>cd ((X (b - a))<=12) (V (Zm u c a b) fun e=>chk e.length c.length (some e)) (cd (j=0) none (J (!k) none none))) u ((g,h,i,true,true,()),f,())
def Qa8:o 369 (Ql [.one (.own 101),d,d,d] [p 101 .int] [] [(101,.arrs .int)] [] (Y Int) kz5 (fun x y=>Y9 u y.1 x.1 x.2.1 x.2.2.1)):=i u (n 2 (.one (k [.o 0 101 .int,.n 1,.n 2,.n 3,.s 8 h,.s 9 h] g))) kz8 (e (VN u) t) func369
def Vr(a:Y Int):I (Y Int):=V (QbF u (IntKind.wrap .u64 (a.length:Int))) fun c=>V (Y9 u a 0 (a.length:Int) c) fun b=>chk b.length a.length (some b)
def Qhf:o 354 (Ql [.one (.own 101)] [p 101 .int] [] [(101,.arrs .int)] [] (Y Int) kz5 (fun x y=>Vr u y.1)):=i u g kz8 (e (Qa8 u) (e (QeY u) t)) func354
def ZM(b:Int)(a:D.Page):I (AH×D.Page):=V (Zu u a.g b) fun c=>some ((!c),a)
def U5:o 355 (Ql [d,.one (.TM 101)] [(101,.box bH6),p 102 .R,p 103 .int,p 104 .int] [h] [(101,.box bH6),p 102 .R,p 103 .int,p 104 .int] [] (AH×D.Page) kz9 (fun x y=>ZM u x.1 (D.Page.mk y.1.1 y.1.2.1 y.1.2.2.1 y.1.2.2.2.1 y.1.2.2.2.2.1 y.1.2.2.2.2.2.1 y.1.2.2.2.2.2.2.1 y.1.2.2.2.2.2.2.2.1 y.1.2.2.2.2.2.2.2.2.1 y.1.2.2.2.2.2.2.2.2.2.1 y.1.2.2.2.2.2.2.2.2.2.2.1 y.2.1 y.2.2.1 y.2.2.2.1))):=i u g kz11 (e (YD u) t) func355
def QQ(l:Y Int)(c101:D.Page):I (Int×D.Page):=Qe (fun y ((m,n,b,_),(o,p,q,r,s,t,c,e,f,g,h,_),i,j,k,_)=>cd (b<n) (TN m b fun v=>V (ZM u v (D.Page.mk o p q r s t c e f g h i j k)) fun(w,a)=>J w (some (b,a)) (y ((m,n,(X (b+1)),()),(a.S,a.W,a.R,a.FB,a.FQ,a.p,a.By,a.FR,a.FT,a.z,a.FP,()),a.P,a.g,a.h,()))) (some ((-1),(D.Page.mk o p q r s t c e f g h i j k)))) u ((l,(l.length:Int),0,()),((D.Page.S c101),(D.Page.W c101),(D.Page.R c101),(D.Page.FB c101),(D.Page.FQ c101),(D.Page.p c101),(D.Page.By c101),(D.Page.FR c101),(D.Page.FT c101),(D.Page.z c101),(D.Page.FP c101),()),(D.Page.P c101),(D.Page.g c101),(D.Page.h c101),())
def YN:o 341 (Ql [lI,.one (.clo 355 [101])] [(101,.box bH6),p 102 .R,p 103 .int,p 104 .int] [d] [(101,.box bH6),p 102 .R,p 103 .int,p 104 .int] [] (Int×D.Page) kz16 (fun x y=>QQ u x.1 (D.Page.mk y.1.1 y.1.2.1 y.1.2.2.1 y.1.2.2.2.1 y.1.2.2.2.2.1 y.1.2.2.2.2.2.1 y.1.2.2.2.2.2.2.1 y.1.2.2.2.2.2.2.2.1 y.1.2.2.2.2.2.2.2.2.1 y.1.2.2.2.2.2.2.2.2.2.1 y.1.2.2.2.2.2.2.2.2.2.2.1 y.2.1 y.2.2.1 y.2.2.2.1))):=i u (c g (m [.s 0 lI,.s 1 (.one (.clo 355 [101])),.n 7,.n 8] g [(101,.box bH6),p 102 .R,p 103 .int,p 104 .int])) (fun a b=>(a.1,(D.Page.mk b.1.1 b.1.2.1 b.1.2.2.1 b.1.2.2.2.1 b.1.2.2.2.2.1 b.1.2.2.2.2.2.1 b.1.2.2.2.2.2.2.1 b.1.2.2.2.2.2.2.2.1 b.1.2.2.2.2.2.2.2.2.1 b.1.2.2.2.2.2.2.2.2.2.1 b.1.2.2.2.2.2.2.2.2.2.2.1 b.2.1 b.2.2.1 b.2.2.2.1))) (e (U5 u) t) func341
def Qs(a:Y Int)(c101:D.Page):I (AH×D.Page):=V (QQ u a c101) fun(b,c)=>some ((decide (0<=b)),c)
def Yz:o 307 (Ql [lI,.one (.clo 355 [101])] [(101,.box bH6),p 102 .R,p 103 .int,p 104 .int] [h] [(101,.box bH6),p 102 .R,p 103 .int,p 104 .int] [] (AH×D.Page) kz9 (fun x y=>Qs u x.1 (D.Page.mk y.1.1 y.1.2.1 y.1.2.2.1 y.1.2.2.2.1 y.1.2.2.2.2.1 y.1.2.2.2.2.2.1 y.1.2.2.2.2.2.2.1 y.1.2.2.2.2.2.2.2.1 y.1.2.2.2.2.2.2.2.2.1 y.1.2.2.2.2.2.2.2.2.2.1 y.1.2.2.2.2.2.2.2.2.2.2.1 y.2.1 y.2.2.1 y.2.2.2.1))):=i u g kz11 (e (YN u) t) func307
def ZV(a:D.Page)(c:D.Z):I D.Page:=V (Yi u a) fun n=>TG (fun((z,_),(q,r,s,t,v,o,w,y,g,h,i,_),A,e,j,k,l,_)=>TG (fun(_,(B,zH,E,F,G,H,zE,zG,L,zD,zI,_),aE,W,Z,aA,_)=>some (D.Page.mk B zH E F G H zE zG L zD zI W Z aA)) fun f=>cd (o=0) (cd (0<(z.length:Int)) (V (Qs u z (D.Page.mk q r s t v o w y g h i j k l)) fun(aB,b)=>J aB (f ((),(b.S,b.W,b.R,b.FB,b.FQ,b.p,b.By,b.FR,b.FT,b.z,b.FP,()),e,b.P,b.g,b.h,())) (f ((),(b.S,b.W,b.R,b.FB,A.At,b.p,b.By,b.FR,b.FT,b.z,b.FP,()),e,b.P,b.g,b.h,()))) (f ((),(q,r,s,t,v,o,w,y,g,h,i,()),e,j,k,l,()))) (f ((),(q,r,s,t,v,o,w,y,g,h,i,()),e,j,k,l,()))) fun m=>V (Yo u n c.Q) fun aC=>J aC (V (Zu u a.g c.Q) fun aD=>J aD (m ((n,()),(a.S,a.W,a.R,a.FB,a.FQ,a.p,a.By,a.FR,a.FT,a.z,a.FP,()),c,z1,a.P,a.g,a.h,())) (TO (a.g.length+[c.Q].length) 34359738368 (V (Vr u (a.g++[c.Q])) fun p=>chk p.length (a.g++[c.Q]).length (m ((n,()),(a.S,a.W,a.R,a.FB,a.FQ,a.p,a.By,a.FR,a.FT,a.z,a.FP,()),c,z1,a.P,p,a.h,()))))) (m ((n,()),(a.S,a.W,a.R,a.FB,a.FQ,a.p,a.By,a.FR,a.FT,a.z,a.FP,()),c,z1,a.P,a.g,a.h,()))
def Qaj:o 336 (Ql [.agg bH5,t12] [p 101 .R,p 102 .int,p 103 .int] [.agg bH5] [p 101 .R,p 102 .int,p 103 .int] [] D.Page kz12 (fun x y=>ZV u (D.Page.mk x.1.1 x.1.2.1 x.1.2.2.1 x.1.2.2.2.1 x.1.2.2.2.2.1 x.1.2.2.2.2.2.1 x.1.2.2.2.2.2.2.1 x.1.2.2.2.2.2.2.2.1 x.1.2.2.2.2.2.2.2.2.1 x.1.2.2.2.2.2.2.2.2.2.1 x.1.2.2.2.2.2.2.2.2.2.2.1 y.1 y.2.1 y.2.2.1) x.2.1)):=i u (n 2 (c (.TG [r 2,r 3,r 4,(5,lI)] [(1002,.box bH5),w 1003 .Z,w 1004 .Page,p 101 .R,p 102 .int,p 103 .int] g) (c (.TG [r 2,r 4] [(1002,.box bH5),w 1004 .Page,p 101 .R,p 102 .int,p 103 .int] g) g))) (fun a b=>D.Page.mk a.1.1 a.1.2.1 a.1.2.2.1 a.1.2.2.2.1 a.1.2.2.2.2.1 a.1.2.2.2.2.2.1 a.1.2.2.2.2.2.2.1 a.1.2.2.2.2.2.2.2.1 a.1.2.2.2.2.2.2.2.2.1 a.1.2.2.2.2.2.2.2.2.2.1 a.1.2.2.2.2.2.2.2.2.2.2.1 b.1 b.2.1 b.2.2.1) (e (YD u) (e (WI u) (e (Yz u) (e (Qbb u) (e (Qhf u) t))))) func336
def Ut(p0:D.E)(p1:D.b)(w:D.Page)(y:D.Z):I (D.Page×Int):=TG (fun(_,z,f,A,_)=>cd (f.Page≠z.S) (some (z1,3)) (V (XW u z) fun a=>V (Zu u a.h f.S) fun a4=>J a4 (some (a,0)) (V (Z1 u a f) fun B=>cd (B≠0) (some (z1,B)) (TO (a.h.length+[f.S].length) 34359738368 (TG (fun(_,(o,p,q,r,l,t,s,m,aF,g,h,_),b,i,e,n,j,_)=>TG (fun(_,(zH,E,F,G,H,zE,zG,L,zD,zI,W,_),aG,Z,aA,aB,_)=>some ((D.Page.mk zH E F G H zE zG L zD zI W Z aA aB),0)) fun k=>cd (b.a=1) (k ((),(o,p,q,r,l,1,b.Q,m,b.At,g,h,()),i,e,n,j,())) (cd (b.a=2) (V (ZV u (D.Page.mk o p q r l t s m b.At g h e n j) b) fun c=>k ((),(c.S,c.W,c.R,c.FB,c.FQ,c.p,c.By,c.FR,c.FT,c.z,c.FP,()),i,c.P,c.g,c.h,())) (cd (b.a=3) (k ((),(o,p,q,r,l,2,b.Q,(X (b.At+b.Fw)),b.At,(X (g+1)),h,()),i,e,n,j,())) (cd (b.a=4) (TO (e.length+[(D.R.mk (-1) b.At [b.Fw])].length) 34359738368 (k ((),(o,p,q,r,(X (b.At+600)),0,s,m,b.At,g,(X (h+1)),()),i,(e++[(D.R.mk (-1) b.At [b.Fw])]),[],j,()))) (cd (b.a=5) (k ((),(o,p,q,r,l,4,b.Q,m,b.At,g,h,()),i,e,n,j,())) (k ((),(o,p,q,r,l,t,s,m,b.At,g,h,()),i,e,n,j,()))))))) fun v=>cd (f.a=1) (cd (a.p=1) (some ((D.Page.mk a.S a.W a.R a.FB a.FQ a.p a.By a.FR a.FT a.z a.FP a.P a.g (a.h++[f.S])),0)) (v ((),(a.S,a.W,a.R,a.FB,a.FQ,a.p,a.By,a.FR,a.FT,a.z,a.FP,()),f,A,a.P,a.g,(a.h++[f.S]),()))) (v ((),(a.S,a.W,a.R,a.FB,a.FQ,a.p,a.By,a.FR,a.FT,a.z,a.FP,()),f,A,a.P,a.g,(a.h++[f.S]),()))))))) fun aC=>V (Yp u p1 w) fun aD=>J aD (V (QaK u y) fun aE=>J aE (aC ((),w,y,z1,())) (some (z1,8))) (some (z1,8))
def Qiw:o 288 (s [tO,L,E,t12] [E,d] (Ut u)):=f u (c g (c (j [.r 6 .Page,.r 7 .Z,.r 8 .Page] g) (n 5 (c (.TG [r 6,r 7,r 8] [(1006,.box bH1),w 1007 .Z,w 1008 .Page,p 2035007 .R,p 2058007 .int,p 2061007 .int] g) (c g (c (.TG [r 6,r 8] [(1006,.box bH1),w 1008 .Page,p 2035007 .R,p 2058007 .int,p 2061007 .int] g) g)))))) (e (Qfk u) (e (YD u) (e (Vm u) (e (Uv u) (e (QaN u) (e (Qaj u) t)))))) func288
def QI(c:Y D.Page)(n:Int):I (Int×AH):=Qe (fun j ((f,h,a,e,_),b,_)=>cd (a<e) (TK 1 fun i=>TK (X (Int.fdiv (IntKind.wrap .u64 (X (a+e))) (HPow.hPow 2 (min i (Go.IntKind.bits Go.IntKind.u64))))) fun k=>TP k b.length (V b[k]? fun o=>V (WY u o f) fun p=>cd (p<0) (j ((f,h,(X ((X (Int.fdiv (IntKind.wrap .u64 (X (a+e))) (HPow.hPow 2 (min i (Go.IntKind.bits Go.IntKind.u64)))))+1)),e,()),b,())) (j ((f,h,a,(X (Int.fdiv (IntKind.wrap .u64 (X (a+e))) (HPow.hPow 2 (min i (Go.IntKind.bits Go.IntKind.u64))))),()),b,())))) (cd (a<h) (TK a fun g=>TP g b.length (V b[g]? fun l=>V (WY u l f) fun m=>cd (m=0) (TF b c (some (a,true))) (TF b c (some (a,false))))) (TF b c (some (a,false))))) u ((n,(c.length:Int),0,(c.length:Int),()),c,())
def XL:o 305 (Ql [.one (.own 101),d,.one (.fv 306)] [p 101 .Page] [d,h] [] [101] (Int×AH) kz22 (fun x y=>QI u y.1 x.1)):=i u (n 3 (c (.one (k [.o 0 101 .Page,.n 1,.s 2 (.one (.fv 306)),.n 8,.n 9,.n 10] g)) g)) kz23 (e (QfL u) t) func305
def Ya(a:D.F)(b:Int):I (Int×AH):=V (QI u a.G b) fun(c,e)=>TF a.G a.G (TF a.h a.h (TF a.Calls a.Calls (some (c,e))))
def Wd:o 220 (Ql [.agg [v,.TQ .q,.TQ .Q,.TQ .m,.TQ .e,.TQ .Fc,.TQ .W,.own 101,v,v,.own 102,.own 103],d] [p 101 .Page,p 102 .int,p 103 .Call] [d,h] [] [101,102,103] (Int×AH) kz22 (fun x y=>Ya u (D.F.mk x.1.1 (D.E.mk x.1.2.1 x.1.2.2.1 x.1.2.2.2.1 x.1.2.2.2.2.1) (D.b.mk x.1.2.2.2.2.2.1 x.1.2.2.2.2.2.2.1) y.1 x.1.2.2.2.2.2.2.2.1 x.1.2.2.2.2.2.2.2.2.1 y.2.1 y.2.2.1) x.2.1)):=i u g kz23 (e (XL u) t) func220
def Q8(a:D.worker)(p1:Int)(p2:Int):I D.worker:=TK p1 fun W=>TP W a.F.G.length (V a.F.G[W]? fun i=>TK p2 fun zD=>TO zD i.P.length (Qe (fun L3 ((Z,a5,zI,_),(a7,a8,a9,j,k,l,m,n,o,_),a3,p,q,r,_)=>cd (zI<a5) (TN Z zI fun f=>Qe (fun aA ((s,t,v,w,y,g,_),(z,A,B,zH,E,F,G,H,c,_),e,b,zE,zG,h,_)=>cd (g<y) (TN w g fun L=>TO (h.length+[(D.Call.mk e.S b.K b.At L c)].length) 34359738368 (aA ((s,t,v,w,y,(X (g+1)),()),(z,A,B,zH,E,F,G,H,c,()),e,b,zE,zG,(h++[(D.Call.mk e.S b.K b.At L c)]),()))) (L3 ((s,t,(X (v+1)),()),(z,A,B,zH,E,F,G,H,c,()),e,zE,zG,h,()))) u ((Z,a5,zI,f.k,(f.k.length:Int),0,()),(a7,a8,a9,j,k,l,m,n,o,()),a3,f,p,q,r,())) (some (D.worker.mk (D.F.mk a7 (D.E.mk a8 a9 j k) (D.b.mk l m) p n o q r)))) u (((List.drop zD i.P),(((List.drop zD i.P).length:Nat):Int),0,()),(a.F.FC,a.F.E.FL,a.F.E.k,a.F.E.o,a.F.E.f,a.F.b.t,a.F.b.j,a.F.FE,a.F.Fence,()),i,a.F.G,a.F.h,a.F.Calls,())))
def X8:o 289 (Ql [.one (.TM 101),d,d] [(101,.box bH0),p 102 .Page,p 103 .int,p 104 .Call] [] [(101,.box bH0),p 102 .Page,p 103 .int,p 104 .Call] [] D.worker kz10 (fun x y=>Q8 u (D.worker.mk (D.F.mk y.1.1 (D.E.mk y.1.2.1 y.1.2.2.1 y.1.2.2.2.1 y.1.2.2.2.2.1) (D.b.mk y.1.2.2.2.2.2.1 y.1.2.2.2.2.2.2.1) y.2.1 y.1.2.2.2.2.2.2.2.1 y.1.2.2.2.2.2.2.2.2.1 y.2.2.1 y.2.2.2.1)) x.1 x.2.1)):=i u (n 2 (.one (.loop [(0,.one (.TM 101)),r 6,li 22 .R,G 23,G 24] [(101,.box bH0),w 1006 .Page,p 102 .Page,p 103 .int,p 104 .Call] (n 2 (c (.one (n 2 (.one (.loop [(0,.one (.TM 101)),r 6,r 8,li 22 .R,G 23,G 24,(29,lI),G 30,G 31] [(101,.box bH0),w 1006 .Page,w 1008 .R,p 102 .Page,p 103 .int,p 104 .Call] g)))) g))))) kz13 t func289
def QG(a:D.worker)(b:Int):I D.worker:=TK b fun e=>TP e a.F.G.length (V a.F.G[e]? fun g=>V (QcM u a.F.E a.F.b g a.F.FC) fun(h,i)=>cd (i≠0) (some a) (TK b fun f=>TP f a.F.G.length (V a.F.G[f]? fun j=>TK b fun c=>TP c a.F.G.length (V a.F.G[c]? fun l=>V (Q8 u (D.worker.mk (D.F.mk a.F.FC a.F.E a.F.b (List.set a.F.G c h) a.F.FE a.F.Fence a.F.h a.F.Calls)) b (j.P.length:Int)) fun k=>some k))))
def ZP:o 285 (Ql [.one (.TM 101),d] [(101,.box bH0),p 102 .Page,p 103 .int,p 104 .Call] [] [(101,.box bH0),p 102 .Page,p 103 .int,p 104 .Call] [] D.worker kz10 (fun x y=>QG u (D.worker.mk (D.F.mk y.1.1 (D.E.mk y.1.2.1 y.1.2.2.1 y.1.2.2.2.1 y.1.2.2.2.2.1) (D.b.mk y.1.2.2.2.2.2.1 y.1.2.2.2.2.2.2.1) y.2.1 y.1.2.2.2.2.2.2.2.1 y.1.2.2.2.2.2.2.2.2.1 y.2.2.1 y.2.2.2.1)) x.1)):=i u g kz13 (e (X8 u) (e (QlV u) t)) func285
def Z5(a:D.worker)(b:D.Op):I (Int×D.worker):=V (Ya u a.F b.Page) fun(c,f)=>J f (some (4,a)) (cd ((a.F.G.length:Int)=64) (some (5,a)) (V (QfA u a.F.b b.Page b.W a.F.FC) fun(g,e)=>cd (e≠0) (some (e,a)) (V (QB u a.F.G c [g]) fun h=>V (QG u (D.worker.mk (D.F.mk a.F.FC a.F.E a.F.b h a.F.FE a.F.Fence a.F.h a.F.Calls)) c) fun i=>some (0,i))))
def QaV:o 199 (Ql [.one (.TM 101),t6] [(101,.box bH0),p 102 .Page,p 103 .int,p 104 .Call] [d] [(101,.box bH0),p 102 .Page,p 103 .int,p 104 .Call] [] (Int×D.worker) kz0 (fun x y=>Z5 u (D.worker.mk (D.F.mk y.1.1 (D.E.mk y.1.2.1 y.1.2.2.1 y.1.2.2.2.1 y.1.2.2.2.2.1) (D.b.mk y.1.2.2.2.2.2.1 y.1.2.2.2.2.2.2.1) y.2.1 y.1.2.2.2.2.2.2.2.1 y.1.2.2.2.2.2.2.2.2.1 y.2.2.1 y.2.2.2.1)) x.1)):=i u g kz1 (e (Wd u) (e (QlU u) (e (QdY u) (e (ZP u) t)))) func199
def Yj(u:Nat)(a:D.worker)(b:D.Op):I (Int×D.worker):=cd (b.Fence≠(X (a.F.Fence+1))) (some (23,a)) (some (0,(D.worker.mk (D.F.mk a.F.FC a.F.E a.F.b a.F.G b.Region b.Fence a.F.h a.F.Calls))))
def Qbd:o 200 (Ql [.one (.TM 101),t6] [(101,.box bH0),p 102 .Page,p 103 .int,p 104 .Call] [d] [(101,.box bH0),p 102 .Page,p 103 .int,p 104 .Call] [] (Int×D.worker) kz0 (fun x y=>Yj u (D.worker.mk (D.F.mk y.1.1 (D.E.mk y.1.2.1 y.1.2.2.1 y.1.2.2.2.1 y.1.2.2.2.2.1) (D.b.mk y.1.2.2.2.2.2.1 y.1.2.2.2.2.2.2.1) y.2.1 y.1.2.2.2.2.2.2.2.1 y.1.2.2.2.2.2.2.2.2.1 y.2.2.1 y.2.2.2.1)) x.1)):=i u g kz1 t func200
def ZX(a:D.worker)(r:D.Op):I (Int×D.worker):=TG (fun(_,(f,g,h,i,j,k,l,m,n,_),s,b,c,e,_)=>V (Ya u (D.F.mk f (D.E.mk g h i j) (D.b.mk k l) b m n c e) s.Page) fun(o,t)=>J (!t) (some (3,(D.worker.mk (D.F.mk f (D.E.mk g h i j) (D.b.mk k l) b m n c e)))) (TK o fun p=>TP p b.length (V b[p]? fun q=>TG (fun((v,_),(w,y,z,A,B,zH,E,F,G,_),H,zE,zG,_)=>V (QG u (D.worker.mk (D.F.mk w (D.E.mk y z A B) (D.b.mk zH E) H F G zE zG)) v) fun L=>some (0,L)) fun zD=>V (WX u q) fun(zI,W)=>J W (cd (f<zI) (some (9,(D.worker.mk (D.F.mk f (D.E.mk g h i j) (D.b.mk k l) b m n c e)))) (V (QgD u q) fun Z=>cd (Z≠s.K) (some (9,(D.worker.mk (D.F.mk f (D.E.mk g h i j) (D.b.mk k l) b m n c e)))) (zD ((o,()),(f,g,h,i,j,k,l,m,n,()),b,c,e,())))) (some (9,(D.worker.mk (D.F.mk f (D.E.mk g h i j) (D.b.mk k l) b m n c e))))))) fun aA=>cd (r.Region≠a.F.FE) (some (23,a)) (cd (r.Fence≠a.F.Fence) (some (23,a)) (aA ((),(a.F.FC,a.F.E.FL,a.F.E.k,a.F.E.o,a.F.E.f,a.F.b.t,a.F.b.j,a.F.FE,a.F.Fence,()),r,a.F.G,a.F.h,a.F.Calls,())))
def Qam:o 201 (Ql [.one (.TM 101),t6] [(101,.box bH0),p 102 .Page,p 103 .int,p 104 .Call] [d] [(101,.box bH0),p 102 .Page,p 103 .int,p 104 .Call] [] (Int×D.worker) kz0 (fun x y=>ZX u (D.worker.mk (D.F.mk y.1.1 (D.E.mk y.1.2.1 y.1.2.2.1 y.1.2.2.2.1 y.1.2.2.2.2.1) (D.b.mk y.1.2.2.2.2.2.1 y.1.2.2.2.2.2.2.1) y.2.1 y.1.2.2.2.2.2.2.2.1 y.1.2.2.2.2.2.2.2.2.1 y.2.2.1 y.2.2.2.1)) x.1)):=i u (c g (c (.TG [(0,.one (.TM 101)),r 3] [(101,.box bH0),w 1003 .Op,p 102 .Page,p 103 .int,p 104 .Call] g) (n 3 (c (j [.s 0 (.one (.TM 101)),.n 5] g [(101,.box bH0),p 102 .Page,p 103 .int,p 104 .Call]) g)))) kz1 (e (Wd u) (e (ZP u) (e (Uu u) (e (Qpu u) t)))) func201
def ZO(e:D.worker)(b:D.Op):I (Int×D.worker):=V (Ya u e.F b.Z.Page) fun(c,k)=>J (!k) (some (3,e)) (V (QG u e c) fun a=>TK c fun g=>TP g a.F.G.length (V a.F.G[g]? fun l=>V (Ut u a.F.E a.F.b l (D.Z.mk b.Z.S b.Z.Page b.Z.Q b.Z.a b.Z.Fw a.F.FC)) fun(m,h)=>cd (h≠0) (some (h,a)) (TK c fun i=>TP i a.F.G.length (V a.F.G[i]? fun n=>TK c fun f=>TP f a.F.G.length (V a.F.G[f]? fun o=>V (Q8 u (D.worker.mk (D.F.mk a.F.FC a.F.E a.F.b (List.set a.F.G f m) a.F.FE a.F.Fence a.F.h a.F.Calls)) c (n.P.length:Int)) fun j=>some (0,j))))))
def U6:o 202 (Ql [.one (.TM 101),t6] [(101,.box bH0),p 102 .Page,p 103 .int,p 104 .Call] [d] [(101,.box bH0),p 102 .Page,p 103 .int,p 104 .Call] [] (Int×D.worker) kz0 (fun x y=>ZO u (D.worker.mk (D.F.mk y.1.1 (D.E.mk y.1.2.1 y.1.2.2.1 y.1.2.2.2.1 y.1.2.2.2.2.1) (D.b.mk y.1.2.2.2.2.2.1 y.1.2.2.2.2.2.2.1) y.2.1 y.1.2.2.2.2.2.2.2.1 y.1.2.2.2.2.2.2.2.2.1 y.2.2.1 y.2.2.2.1)) x.1)):=i u g kz1 (e (Wd u) (e (ZP u) (e (Qiw u) (e (X8 u) t)))) func202
def Z4(b:D.worker)(zD:D.Op):I (Int×D.worker):=Qe (fun zI ((v,m,_),(n,o,p,q,r,s,t,e,f,_),g,h,i,j,_)=>cd (m<v) (V (QG u (D.worker.mk (D.F.mk n (D.E.mk o p q r) (D.b.mk s t) h e f i j)) m) fun a=>zI ((v,(X (m+1)),()),(a.F.FC,a.F.E.FL,a.F.E.k,a.F.E.o,a.F.E.f,a.F.b.t,a.F.b.j,a.F.FE,a.F.Fence,()),g,a.F.G,a.F.h,a.F.Calls,())) (V (Uc u (D.E.mk o p q r) g.e g.s) fun(c,k)=>TG (fun((w,_),(y,z,A,B,zH,E,F,G,H,_),zE,zG,L,_)=>some (w,(D.worker.mk (D.F.mk y (D.E.mk z A B zH) (D.b.mk E F) zE G H zG L)))) fun l=>cd (k=0) (l ((k,()),(n,c.FL,c.k,c.o,c.f,s,t,e,f,()),h,i,j,())) (l ((k,()),(n,o,p,q,r,s,t,e,f,()),h,i,j,())))) u (((b.F.G.length:Int),0,()),(b.F.FC,b.F.E.FL,b.F.E.k,b.F.E.o,b.F.E.f,b.F.b.t,b.F.b.j,b.F.FE,b.F.Fence,()),zD,b.F.G,b.F.h,b.F.Calls,())
def QaU:o 203 (Ql [.one (.TM 101),t6] [(101,.box bH0),p 102 .Page,p 103 .int,p 104 .Call] [d] [(101,.box bH0),p 102 .Page,p 103 .int,p 104 .Call] [] (Int×D.worker) kz0 (fun x y=>Z4 u (D.worker.mk (D.F.mk y.1.1 (D.E.mk y.1.2.1 y.1.2.2.1 y.1.2.2.2.1 y.1.2.2.2.2.1) (D.b.mk y.1.2.2.2.2.2.1 y.1.2.2.2.2.2.2.1) y.2.1 y.1.2.2.2.2.2.2.2.1 y.1.2.2.2.2.2.2.2.2.1 y.2.2.1 y.2.2.2.1)) x.1)):=i u (c g (c (c g (.one (.loop [(0,.one (.TM 101)),r 3,G 13,G 14] [(101,.box bH0),w 1003 .Op,p 102 .Page,p 103 .int,p 104 .Call] g))) (c g (c (j [.n 7] g [(101,.box bH0),p 102 .Page,p 103 .int,p 104 .Call]) g)))) kz1 (e (ZP u) (e (Qo3 u) t)) func203
def Qal(k:D.F)(l:D.Op):I (D.F×Int×AH):=TG (fun(_,m,b,j,_)=>V (QaT u m) fun a=>V (Zu u a.h b.S) fun H=>J H (some (a,0,true)) (cd ((a.h.length:Int)=256) (some (m,5,false)) (TO (a.h.length+[b.S].length) 34359738368 (TG (fun((zE,_),zI,(zG,L,zD,n,o,p,q,r,s,_),t,v,w,_)=>some ((D.F.mk zG (D.E.mk L zD n o) (D.b.mk p q) t r s v w),zE,true)) fun i=>cd (b.a=1) (V (Z5 u (D.worker.mk (D.F.mk (max a.FC b.At) a.E a.b a.G a.FE a.Fence (a.h++[b.S]) a.Calls)) b) fun(y,c)=>i ((y,()),j,(c.F.FC,c.F.E.FL,c.F.E.k,c.F.E.o,c.F.E.f,c.F.b.t,c.F.b.j,c.F.FE,c.F.Fence,()),c.F.G,c.F.h,c.F.Calls,())) (cd (b.a=2) (V (Yj u (D.worker.mk (D.F.mk (max a.FC b.At) a.E a.b a.G a.FE a.Fence (a.h++[b.S]) a.Calls)) b) fun(z,e)=>i ((z,()),j,(e.F.FC,e.F.E.FL,e.F.E.k,e.F.E.o,e.F.E.f,e.F.b.t,e.F.b.j,e.F.FE,e.F.Fence,()),e.F.G,e.F.h,e.F.Calls,())) (cd (b.a=3) (V (ZX u (D.worker.mk (D.F.mk (max a.FC b.At) a.E a.b a.G a.FE a.Fence (a.h++[b.S]) a.Calls)) b) fun(A,f)=>i ((A,()),j,(f.F.FC,f.F.E.FL,f.F.E.k,f.F.E.o,f.F.E.f,f.F.b.t,f.F.b.j,f.F.FE,f.F.Fence,()),f.F.G,f.F.h,f.F.Calls,())) (cd (b.a=4) (V (ZO u (D.worker.mk (D.F.mk (max a.FC b.At) a.E a.b a.G a.FE a.Fence (a.h++[b.S]) a.Calls)) b) fun(B,g)=>i ((B,()),j,(g.F.FC,g.F.E.FL,g.F.E.k,g.F.E.o,g.F.E.f,g.F.b.t,g.F.b.j,g.F.FE,g.F.Fence,()),g.F.G,g.F.h,g.F.Calls,())) (V (Z4 u (D.worker.mk (D.F.mk (max a.FC b.At) a.E a.b a.G a.FE a.Fence (a.h++[b.S]) a.Calls)) b) fun(zH,h)=>i ((zH,()),j,(h.F.FC,h.F.E.FL,h.F.E.k,h.F.E.o,h.F.E.f,h.F.b.t,h.F.b.j,h.F.FE,h.F.Fence,()),h.F.G,h.F.h,h.F.Calls,()))))))))) fun E=>V (XJ u k) fun F=>J F (V (Qak u l) fun G=>J G (E ((),k,l,z2,())) (some (k,8,false))) (some (k,8,false))
def Qns:o 121 (s [H,t6] [H,d,h] (Qal u)):=f u (c g (c (j [.r 2 .F,.r 3 .Op,.r 4 .F] g) (n 5 (c (j [.r 4 .F,.s 7 (.one (.TM 1021)),.n 8] g [(1021,.box [v,.TQ .q,.TQ .Q,.TQ .m,.TQ .e,.TQ .Fc,.TQ .W,.own 3079007,v,v,.own 2074007,.own 2077007]),p 3079007 .Page,p 2074007 .int,p 2077007 .Call]) g)))) (e (VG u) (e (Qdh u) (e (QfK u) (e (YD u) (e (QaV u) (e (Qbd u) (e (Qam u) (e (U6 u) (e (QaU u) t))))))))) func121
def YX(i:D.F)(e:Y D.Op):I (D.F×Y Int):=V (QaT u i) fun j=>Qe (fun k ((f,g,b,_),h,l,c,_)=>cd (b<g) (TN f b fun m=>V (Qal u h m) fun(n,a,o)=>TO (c.length+[a].length) 34359738368 (k ((f,g,(X (b+1)),()),n,l,(c++[a]),()))) (some (h,c))) u ((e,(e.length:Int),0,()),j,z2,[],())
def UB:o 70 (s [H,l .Op] [H,lI] (YX u)):=f u (n 3 (m [.r 2 .F,.r 4 .F,.o 6 1028 .int,.l 12 .Op,.n 13,.n 14] g)) (e (QfK u) (e (Qns u) t)) func70
def Qe3(a:Y Int):I Int:=cd ((a.length:Int)<1) none (TK 0 fun e=>TP e a.length (V a[e]? fun h=>Qe (fun i ((f,c,_),b,_)=>cd (c<(b.length:Int)) (TK c fun g=>TP g b.length (V b[g]? fun j=>i (((max f j),(X (c+1)),()),b,()))) (TF b a (some f))) u ((h,1,()),a,())))
def Qib:o 71 (Ql [.one (.own 101)] [p 101 .int] [d] [] [101] Int kz2 (fun x y=>Qe3 u y.1)):=i u (n 3 (m [.o 0 101 .int,.n 3,.n 4] g)) kz4 t func71
def Qog(a:D.F)(c:Int):I (D.d×Int):=V (XJ u a) fun e=>J (!e) (some (z0,8)) (V (Qop u c) fun(f,b)=>cd (b≠0) (some (z0,b)) (V (YX u a []) fun(g,i)=>TO ([0].length+a.h.length) 34359738368 (V (Qe3 u ([0]++a.h)) fun h=>some ((D.d.mk g f (X (h+1))),0))))
def Qpz:o 19 (s [H,d] [t7,d] (Qog u)):=f u g (e (VG u) (e (Qp1 u) (e (UB u) (e (Qib u) t)))) func19
def Wh(u:Nat)(a:D.N):I D.N:=TO a.l.length 34359738368 (TO a.FV.length 34359738368 (TO a.FH.length 34359738368 (some a)))
def V2:o 95 (Ql [zG] [] [.agg [v,v,v,v,.own 1005,v,.own 1008,.own 1011]] [p 1005 .n,p 1008 .bool,p 1011 .int] [] D.N kz19 (fun x y=>Wh u x.1)):=i u g (fun a b=>D.N.mk a.1.1 a.1.2.1 a.1.2.2.1 a.1.2.2.2.1 b.1 a.1.2.2.2.2.1 b.2.1 b.2.2.1) t func95
def QdN(u:Nat)(a:D.N):I D.N:=TO a.l.length 34359738368 (TO a.FV.length 34359738368 (TO a.FH.length 34359738368 (some a)))
def Qew:o 95 (s [zG] [zG] (QdN u)):=f u g t func95
def Xb(k:D.H):I D.H:=Qe (fun l ((f,_),e,_,_,g,_)=>cd (f<(e.M.length:Int)) (TN e.M f fun m=>V (QdN u m) fun i=>TO (g.length+[i].length) 34359738368 (l (((X (f+1)),()),e,(),(),(g++[i]),()))) (Qe (fun n ((h,_),a,_,_,j,b,_)=>cd (h<(a.FF.length:Int)) (TN a.FF h fun c=>TO c.x.length 34359738368 (TO (b.length+[c].length) 34359738368 (n (((X (h+1)),()),a,(),(),j,(b++[c]),())))) (TO a.FW.length 34359738368 (TO a.Fq.length 34359738368 (some (D.H.mk j b a.FW a.Fq))))) u ((0,()),e,(),(),g,[],()))) u ((0,()),k,(),(),[],())
def YE:o 44 (Ql [K] [] [.agg [.own 1023,.own 1045,.own 1049,.own 1052]] [p 1023 .N,p 1045 .c,p 1049 .bool,p 1052 .FG] [] D.H kz21 (fun x y=>Xb u x.1)):=i u (n 2 (c (c g (.one (k [.r 1 .H,.s 2 (.one (.TM 1002)),.s 3 (.one (.TM 1003)),.n 4] g [(1002,.box [.nul,.nul,.nul,.nul]),(1003,.box [.own 1023,.nul,.nul,.nul]),p 1023 .N]))) (m [.r 1 .H,.s 2 (.one (.TM 1002)),.s 3 (.one (.TM 1003)),.n 5] g [(1002,.box [.nul,.nul,.nul,.nul]),(1003,.box [.own 1023,.own 1045,.nul,.nul]),p 1023 .N,p 1045 .c]))) (fun a b=>D.H.mk b.1 b.2.1 b.2.2.1 b.2.2.2.1) (eD 22 (Qew u) t) func44
def XZ(a:Int):I Int:=V (QH u a 1 5) fun b=>J (!b) (some 0) (nzc 2 (some (X ((X (Int.tdiv a 2))+1))))
def Xs:o 15 (s [d] [d] (XZ u)):=f u g (e (ZE u) t) func15
def Wi(i:Y D.n)(j:Int):I AH:=Qe (fun k ((a,c,l,b,_),_)=>cd (b<(a.length:Int)) (TG (fun((e,m,f,_),_)=>TN e f fun n=>k ((e,m,n.T,(X (f+1)),()),())) fun o=>TN a b fun g=>cd (g.T<l) sF (TN a b fun h=>cd (c<h.T) sF (o ((a,c,b,()),())))) (some (decide ((a.length:Int)<=256)))) u ((i,j,1,0,()),())
def Qht:o 208 (s [l .n,d] [h] (Wi u)):=f u (n 2 (m [.l 0 .n,.n 1,.n 5,.n 6] (c g (c (.one (c (j [.l 0 .n,.n 1,.n 6] g) g)) g)))) t func208
def YL(c:Int)(b:D.N):I AH:=TG (fun((e,_),a,_)=>cd (a.FM=0) (cd ((a.FV.length:Int)=0) (cd ((a.FH.length:Int)=0) sT sF) sF) (cd (a.FM=1) (cd ((a.FV.length:Int)=e) (TN a.FV a.S fun t=>J t (cd ((a.FH.length:Int)=0) sT sF) sF) sF) (cd (a.FM=2) (TG (fun((v,_),w,_)=>Qe (fun y ((h,f,_),g,_)=>cd (f<h) (TN g.FH f fun z=>V (QH u z 0 (g.l.length:Int)) fun i=>J (!i) sF (y ((h,(X (f+1)),()),g,()))) sT) u ((v,0,()),w,())) fun j=>cd ((a.FV.length:Int)≠e) sF (TN a.FV a.S fun k=>J k (cd ((a.FH.length:Int)≠e) sF (TN a.FH a.S fun l=>cd (l≠(a.l.length:Int)) sF (j ((e,()),a,())))) sF)) sF))) fun m=>V (XZ u c) fun n=>cd (n=0) sF (V (QH u b.S 0 (X (c - 1))) fun o=>J o (V (QH u b.T 0 1048576) fun p=>J p (V (QH u b.Fh (-1) (X (c - 1))) fun q=>J q (V (Wi u b.l b.T) fun r=>J r (V (QH u b.i 0 (b.l.length:Int)) fun s=>J s (m ((c,()),b,())) sF) sF) sF) sF) sF)
def Uf:o 125 (s [d,zG] [h] (YL u)):=f u (c g (c (j [.n 0,.r 3 .N] g) (c (c g (.one (n 5 (c (c (j [.n 0,.r 3 .N] g) (m [.n 0,.r 3 .N,.n 5] g)) g)))) g))) (e (Xs u) (e (ZE u) (e (Qht u) t))) func125
def QdP(g:Y D.FG)(h:Int)(i:Int):I AH:=Qe (fun j ((a,b,c,e,_),_)=>cd (e<(a.length:Int)) (TN a e fun f=>cd ([f.a0,f.a1]=[(min b c),(max b c)]) sT (j ((a,b,c,(X (e+1)),()),()))) sF) u ((g,h,i,0,()),())
def Qf8:o 126 (s [l .FG,d,d] [h] (QdP u)):=f u (c g (m [.l 0 .FG,.n 1,.n 2,.n 7] g)) t func126
def QaZ(h:D.H):I AH:=TG (fun((zG,_),L,_)=>Qe (fun zD ((k,i,_),l,_)=>cd (i<k) (TG (fun((zI,W,_),Z,_)=>zD ((zI,(X (W+1)),()),Z,())) fun J9=>TN l.M i fun o=>cd (o.S≠i) sF (TN l.M i fun p=>V (YL u k p) fun q=>J q (J9 ((k,i,()),l,())) sF)) (Qe (fun r ((c,j,_),e,_)=>cd (j<(e.FF.length:Int)) (TG (fun((s,t,_),v,_)=>r ((s,(X (t+1)),()),v,())) fun w=>TN e.FF j fun f=>V (QH u f.v 0 (X (c - 1))) fun y=>J y (V (QH u f.To 0 (X (c - 1))) fun z=>J z (cd (f.v=f.To) sF (w ((c,j,()),e,()))) sF) sF) (Qe (fun A ((m,g,_),b,_)=>cd (g<(b.Fq.length:Int)) (TG (fun((B,zH,_),E,_)=>A ((B,(X (zH+1)),()),E,())) fun F=>TN b.Fq g fun a=>cd (a.a0<0) sF (cd (a.a1<=a.a0) sF (cd (m<=a.a1) sF (TK g fun n=>TO n b.Fq.length (V (QdP u (List.take n b.Fq) a.a0 a.a1) fun G=>J G sF (F ((m,g,()),b,()))))))) sT) u ((c,0,()),e,()))) u ((k,0,()),l,()))) u ((zG,0,()),L,())) fun H=>V (XZ u (h.M.length:Int)) fun zE=>cd (zE=0) sF (cd ((h.FW.length:Int)≠(h.M.length:Int)) sF (cd (256<(h.FF.length:Int)) sF (H (((h.M.length:Int),()),h,()))))
def Qa0:o 84 (s [K] [h] (QaZ u)):=f u (n 2 (c (j [.r 1 .H,.n 3] g) (c (c g (.one (k [.r 1 .H,.n 3,.n 4] (c g (c (j [.r 1 .H,.n 3,.n 4] g) g))))) (c (c g (.one (k [.r 1 .H,.n 3,.n 5] (c g (c (j [.r 1 .H,.n 3,.n 5] g) g))))) (m [.r 1 .H,.n 3,.n 7] (c g (c (j [.r 1 .H,.n 3,.n 7] g) g))))))) (e (Xs u) (e (ZE u) (e (Uf u) (e (Qf8 u) t)))) func84
def VK(a:D.H)(b:Int):I Int:=V (QaZ u a) fun c=>J (!c) (some 8) (V (QH u b 0 (X ((a.M.length:Int) - 1))) fun e=>J (!e) (some 3) (some 0))
def Vd:o 72 (s [K,d] [d] (VK u)):=f u g (e (ZE u) (e (Qa0 u) t)) func72
end
open Go AM IntKind
noncomputable section
open fk Tryz
abbrev bI0:Y Sh:=[kI,kI,kI,kI,kI,kI,kI,kI,kI,kI,kI,.own 1038025,.own 1038030,.own 1038033]
abbrev bI1:Y Sh:=[kI,kI,kI,kI,kI,kI,kI,kI,kI,kI,kI,.own 1033025,.TQ .int,.own 1033033]
abbrev bI2:Y Sh:=[kI,kI,kI,kI,.own 1012005,kI,.own 1012008,.own 1012011]
abbrev bI3:Y Sh:=[kI,kI,kI,kI,.own 1013005,kI,.own 1013008,.own 1013011]
variable (u:Nat)
def Qey(v:Int)(t:D.N):I (Y D.c):=TG (fun((F,_),G,_)=>Qe (fun H ((f,b,_),a,g,_)=>cd (b<f) (TG (fun((zE,zG,_),L,w,_)=>H ((zE,(X (zG+1)),()),L,w,())) fun h=>cd (b=a.S) (h ((f,b,()),a,g,())) (TN a.FH b fun c=>TK c fun e=>TO e a.l.length (TO (List.drop e a.l).length 34359738368 (TG (fun((y,z,_),A,(i,j,k,l,m,n,o,p,_),q,r,_)=>TO (q.length+[(D.c.mk i j k l m n o r p)].length) 34359738368 (h ((y,z,()),A,(q++[(D.c.mk i j k l m n o r p)]),()))) fun s=>cd (0<c) (TN a.l (X (c - 1)) fun B=>s ((f,b,()),a,(3,a.S,b,a.T,c,B.T,a.i,false,()),g,(List.drop e a.l),())) (s ((f,b,()),a,(3,a.S,b,a.T,c,0,a.i,false,()),g,(List.drop e a.l),())))))) (some g)) u ((F,0,()),G,[],())) fun zH=>V (YL u v t) fun E=>J E (cd (t.FM≠2) (some []) (zH ((v,()),t,()))) (some [])
def QnF:o 76 (s [d,zG] [l .c] (Qey u)):=f u (c g (c (j [.n 0,.r 3 .N] g) (c g (m [.n 0,.r 3 .N,.o 5 1059 .c,.n 6] (c g (c (j [.n 0,.r 3 .N,.o 5 1059 .c,.n 6] (.one (n 3 (c (.TG [G 0,r 3,(5,.one (.own 1059)),G 6,r 8] [w 1003 .N,(1008,.box [v,v,v,v,v,v,v,.own 1044,.Tc]),p 1059 .c,p 1044 .n] g) g)))) g)))))) (e (Uf u) t) func76
def Qc2(b:D.H)(c:Int):I (D.H×Int):=V (VK u b c) fun f=>cd (f≠0) (some (z5,f)) (TN b.FW c fun h=>J h (some (z5,21)) (TN b.M c fun i=>cd (i.FM≠2) (some (z5,22)) (V (Xb u b) fun a=>TK c fun g=>TP g a.M.length (V a.M[g]? fun j=>V (Qey u (b.M.length:Int) j) fun e=>cd (256<(X ((a.FF.length:Int)+(e.length:Int)))) (some (z5,5)) (TO (a.FF.length+e.length) 34359738368 (some ((D.H.mk a.M (a.FF++e) a.FW a.Fq),0)))))))
def Qco:o 23 (s [K,d] [K,d] (Qc2 u)):=f u g (e (YE u) (e (Vd u) (e (QnF u) t))) func23
def Qi6(a:D.H)(b:Int):I Int:=V (QaZ u a) fun c=>J (!c) (some 8) (V (QH u b 0 (X ((a.FF.length:Int) - 1))) fun e=>J (!e) (some 3) (some 0))
def QmM:o 146 (s [K,d] [d] (Qi6 u)):=f u g (e (ZE u) (e (Qa0 u) t)) func146
def Qg0(f:D.H)(e:Int):I (D.H×Int):=V (Qi6 u f e) fun g=>cd (g≠0) (some (z5,g)) (V (Xb u f) fun a=>TK e fun b=>TK e fun h=>chk b h (TO b a.FF.length (TK (X (e+1)) fun c=>TO c a.FF.length (TO b a.FF.length (TO a.FF.length a.FF.length (TO c a.FF.length (TR (List.drop c (List.take a.FF.length a.FF)) (TO b a.FF.length (some ((D.H.mk a.M (List.take b a.FF) a.FW a.Fq),0))) (TO ((List.take b a.FF)++(List.drop c (List.take a.FF.length a.FF))).length 34359738368 (some ((D.H.mk a.M ((List.take b a.FF)++(List.drop c (List.take a.FF.length a.FF))) a.FW a.Fq),0))))))))))
def Qh6:o 89 (Ql [K,d] [] [.agg [.own 1017023,.own 1027,.own 1017049,.own 1017052],d] [p 1017023 .N,p 1027 .c,p 1017049 .bool,p 1017052 .FG] [] (D.H×Int) (fun q=>(((),q.2,()),q.1.M,q.1.FF,q.1.FW,q.1.Fq,())) (fun x y=>Qg0 u x.1 x.2.1)):=i u g (fun a b=>((D.H.mk b.1 b.2.1 b.2.2.1 b.2.2.2.1),a.2.1)) (e (YE u) (e (QmM u) t)) func89
def Qbn(c:Int)(b:D.N)(a:D.c)(e:Int):I AH:=V (YL u c b) fun f=>J f (cd (a.a=e) (cd (a.To=b.S) (V (QH u a.v 0 (X (c - 1))) fun g=>J g (cd (a.v≠b.S) (V (QH u a.T 1 1048576) fun h=>J h sT sF) sF) sF) sF) sF) sF
def Qi2:o 209 (s [d,zG,t16,d] [h] (Qbn u)):=f u g (e (ZE u) (e (Uf u) t)) func209
def Qas(u:Nat)(a:D.N)(b:Int):I D.N:=TG (fun(_,e,f,_)=>some e) fun c=>cd (a.T<b) (c ((),(D.N.mk a.S b (-1) 0 a.l a.i [] []),z4,())) (c ((),a,z4,()))
def QbP:o 210 (s [zG,d] [zG] (Qas u)):=f u (c g (c (j [.r 2 .N,.r 4 .N] g) g)) t func210
def Qex(u:Nat)(a:D.N):I Int:=cd ((a.l.length:Int)=0) (some 0) (TN a.l (X ((a.l.length:Int) - 1)) fun b=>some b.T)
def Qh5:o 100 (s [zG] [d] (Qex u)):=f u g t func100
def QdO(a:D.N)(c:Int)(b:Int):I AH:=V (Qex u a) fun e=>cd (e<b) sT (V (Qex u a) fun f=>cd (b=f) (cd ((a.l.length:Int)<=c) sT sF) sF)
def QrP:o 211 (s [zG,d,d] [h] (QdO u)):=f u g (e (Qh5 u) t) func211
def Qlc(s:Int)(e:D.N)(a:D.c):I (D.N×D.c×AH):=V (Qbn u s e a 1) fun t=>J (!t) (V (Wh u e) fun v=>some (v,(D.c.mk 0 0 0 0 0 0 0 [] false),false)) (V (QdN u e) fun w=>V (Qas u w a.T) fun b=>TG (fun((i,_),k,j,l,m,f,_)=>TG (fun((n,_),o,p,y,z,g,_)=>some (g,(D.c.mk 2 o.S p.v g.T 0 0 0 [] n),true)) fun h=>J i (h ((i,()),k,j,l,m,(D.N.mk f.S f.T j.v f.FM f.l f.i f.FV f.FH),())) (h ((i,()),k,j,l,m,f,()))) fun c=>cd (b.T=a.T) (cd (b.Fh=(-1)) (cd (b.FM=0) (V (QdO u b a.FD a.Ff) fun q=>J q (c ((true,()),e,a,z4,(D.c.mk 0 0 0 0 0 0 0 [] false),b,())) (c ((false,()),e,a,z4,(D.c.mk 0 0 0 0 0 0 0 [] false),b,()))) (c ((false,()),e,a,z4,(D.c.mk 0 0 0 0 0 0 0 [] false),b,()))) (cd (b.Fh=a.v) (cd (b.FM=0) (V (QdO u b a.FD a.Ff) fun r=>J r (c ((true,()),e,a,z4,(D.c.mk 0 0 0 0 0 0 0 [] false),b,())) (c ((false,()),e,a,z4,(D.c.mk 0 0 0 0 0 0 0 [] false),b,()))) (c ((false,()),e,a,z4,(D.c.mk 0 0 0 0 0 0 0 [] false),b,()))) (c ((false,()),e,a,z4,(D.c.mk 0 0 0 0 0 0 0 [] false),b,())))) (c ((false,()),e,a,z4,(D.c.mk 0 0 0 0 0 0 0 [] false),b,())))
def Qtg:o 127 (s [d,zG,t16] [zG,t16,h] (Qlc u)):=f u (n 3 (c (j [.r 4 .N,.r 5 .c,.r 6 .N,.r 7 .c,.r 9 .N,.s 10 h] g) (c (j [.r 4 .N,.r 5 .c,.r 6 .N,.r 7 .c,.r 9 .N,.s 10 h] g) g))) (eD 21 (Qew u) (e (V2 u) (e (Qi2 u) (e (QbP u) (e (QrP u) t))))) func127
def Qi4(u:Nat)(e:Int)(a:D.N):I D.N:=TK e fun b=>TO b 1048576 (TK a.S fun c=>TP c (List.replicate b (0:Int)).length (V (GetElem?.getElem? (List.replicate b (0:Int)) c) fun f=>some (D.N.mk a.S a.T a.Fh 2 a.l a.i a.FV (List.set (List.replicate b (0:Int)) c (a.l.length:Int)))))
def QmI:o 204 (s [d,zG] [zG] (Qi4 u)):=f u g t func204
def Qi3(w:Int)(o:D.N)(n:D.c):I D.N:=V (Wh u o) fun a=>V (Qbn u w o n 2) fun a1=>J (!a1) (some a) (cd (o.T<n.T) (V (Qas u a n.T) fun a2=>some a2) (TG (fun((a3,_),a4,a5,(a6,a7,a8,a9,y,_),z,p,A,_)=>TK a4.v fun q=>TP q p.length (V p[q]? fun aF=>Qe (fun B ((c,r,e,_),f,(g,h,i,j,k,_),l,b,m,_)=>cd (e<c) (TG (fun((zH,E,F,_),G,(H,zE,zG,L,zD,_),zI,W,Z,_)=>B ((zH,E,(X (F+1)),()),G,(H,zE,zG,L,zD,()),zI,W,Z,())) fun s=>TK e fun t=>TP t b.length (V b[t]? fun aA=>J aA (s ((c,(X (r+1)),e,()),f,(g,h,i,j,k,()),l,b,m,())) (s ((c,r,e,()),f,(g,h,i,j,k,()),l,b,m,())))) (TG (fun(_,aG,aB,_)=>some aB) fun v=>V (XZ u c) fun aC=>cd (aC<=r) (V (Qi4 u c (D.N.mk g h i j l k b m)) fun aD=>v ((),f,aD,())) (v ((),f,(D.N.mk g h i j l k b m),())))) u ((a3,0,0,()),a5,(a6,a7,a8,a9,y,()),z,(List.set p q true),A,()))) fun aE=>cd (o.FM≠1) (some a) (cd (n.T≠o.T) (some a) (J n.OK (aE ((w,()),n,z4,(a.S,a.T,a.Fh,a.FM,a.i,()),a.l,a.FV,a.FH,())) (some a)))))
def QrR:o 128 (s [d,zG,t16] [zG] (Qi3 u)):=f u (n 4 (c (j [.n 0,.r 5 .c,.r 6 .N,.s 7 (.one (.TM 1007))] g [(1007,.box bI2),p 1012005 .n,p 1012008 .bool,p 1012011 .int]) (n 2 (c (c g (.one (k [.n 0,.r 6 .N,.s 7 (.one (.TM 1007)),.n 8,.n 9] (c g (c (j [.n 0,.r 6 .N,.s 7 (.one (.TM 1007)),.n 8,.n 9] g [(1007,.box bI2),p 1012005 .n,p 1012008 .bool,p 1012011 .int]) g)) [(1007,.box bI2),p 1012005 .n,p 1012008 .bool,p 1012011 .int]))) (c (j [.r 6 .N,.r 7 .N] g) g))))) (e (Xs u) (e (V2 u) (e (QmI u) (e (Qi2 u) (e (QbP u) t))))) func128
def QgY(l:Y D.n)(m:Int)(n:Y D.n):I (Y D.n×Int):=Qe (fun o ((a,e,c,b,_),_)=>cd (b<(c.length:Int)) (TG (fun((p,q,r,s,_),_)=>o ((p,q,r,(X (s+1)),()),())) fun t=>cd ((a.length:Int)<=(X (e+b))) (TK (min (X (e+b)) (a.length:Int)) fun f=>TO f a.length (TO (List.take f a).length 34359738368 (TK b fun h=>TO h c.length (TO ((List.take f a).length+(List.drop h c).length) 34359738368 (some (((List.take f a)++(List.drop h c)),(min (X (e+b)) (a.length:Int)))))))) (TN a (X (e+b)) fun j=>TN c b fun k=>cd (j.T≠k.T) (TK (min (X (e+b)) (a.length:Int)) fun g=>TO g a.length (TO (List.take g a).length 34359738368 (TK b fun i=>TO i c.length (TO ((List.take g a).length+(List.drop i c).length) 34359738368 (some (((List.take g a)++(List.drop i c)),(min (X (e+b)) (a.length:Int)))))))) (t ((a,e,c,b,()),())))) (TO a.length 34359738368 (some (a,(a.length:Int))))) u ((l,m,n,0,()),())
def QpX:o 212 (s [l .n,d,l .n] [l .n,d] (QgY u)):=f u (c g (m [.l 0 .n,.n 1,.l 2 .n,.n 8] (c g (c (j [.l 0 .n,.n 1,.l 2 .n,.n 8] g) g)))) t func212
def QgX(p0:Int)(l:D.N)(p:D.c):I (D.N×D.c×AH):=TG (fun(_,s,q,v,w,_)=>V (QdN u s) fun a4=>V (Qas u a4 q.T) fun f=>TG (fun(_,m,b,n,o,a,_)=>TG (fun((y,_),k,g,z,A,h,_)=>J (!y) (some (h,(D.c.mk 4 k.S g.v h.T 0 0 0 [] false),true)) (V (QgY u h.l g.FD g.x) fun(t,B)=>TG (fun((zH,_),j,aA,aB,c,e,_)=>some ((D.N.mk c.S c.T c.Fh c.FM zH (max c.i (min j.i (X (j.FD+(j.x.length:Int))))) c.FV c.FH),(D.c.mk e.a e.v e.To e.T (X (j.FD+(j.x.length:Int))) e.Ff e.i e.x true),true)) fun E=>V (Wi u t g.T) fun F=>J F (cd (B<h.i) (V (Wh u k) fun G=>some (G,(D.c.mk 0 0 0 0 0 0 0 [] false),false)) (E ((t,()),g,z,A,h,(D.c.mk 4 k.S g.v h.T 0 0 0 [] false),()))) (V (Wh u k) fun H=>some (H,(D.c.mk 0 0 0 0 0 0 0 [] false),false)))) fun i=>cd (b.T=a.T) (cd (a.FM≠2) (cd (b.FD<=(a.l.length:Int)) (cd (b.FD=0) (i ((true,()),m,b,n,o,a,())) (TN a.l (X (b.FD - 1)) fun zE=>cd (zE.T=b.Ff) (i ((true,()),m,b,n,o,a,())) (i ((false,()),m,b,n,o,a,())))) (i ((false,()),m,b,n,o,a,()))) (i ((false,()),m,b,n,o,a,()))) (i ((false,()),m,b,n,o,a,()))) fun r=>cd (f.FM=1) (cd (f.T=q.T) (r ((),s,q,v,w,(D.N.mk f.S f.T f.Fh 0 f.l f.i [] f.FH),())) (r ((),s,q,v,w,f,()))) (r ((),s,q,v,w,f,()))) fun zG=>V (Qbn u p0 l p 3) fun L=>J L (cd (p.FD<0) (V (Wh u l) fun zD=>some (zD,(D.c.mk 0 0 0 0 0 0 0 [] false),false)) (cd (p.Ff<0) (V (Wh u l) fun zI=>some (zI,(D.c.mk 0 0 0 0 0 0 0 [] false),false)) (cd (p.i<0) (V (Wh u l) fun W=>some (W,(D.c.mk 0 0 0 0 0 0 0 [] false),false)) (zG ((),l,p,z4,(D.c.mk 0 0 0 0 0 0 0 [] false),()))))) (V (Wh u l) fun Z=>some (Z,(D.c.mk 0 0 0 0 0 0 0 [] false),false))
def QpW:o 129 (s [d,zG,t16] [zG,t16,h] (QgX u)):=f u (c g (c (j [.r 4 .N,.r 5 .c,.r 6 .N,.r 7 .c] g) (c g (c (j [.r 4 .N,.r 5 .c,.r 6 .N,.r 7 .c,.r 9 .N] g) (c (j [.r 4 .N,.r 5 .c,.r 6 .N,.r 7 .c,.r 9 .N,.s 10 h] g) (n 3 (c (j [.r 5 .c,.r 6 .N,.r 7 .c,.r 9 .N,.r 11 .c,.l 12 .n] g) g))))))) (eD 40 (Qew u) (e (V2 u) (e (Qht u) (e (Qi2 u) (e (QbP u) (e (QpX u) t)))))) func129
def Qc1(Z:Int)(q:D.N)(n:D.c):I D.N:=V (Wh u q) fun a=>V (Qbn u Z q n 4) fun a1=>J (!a1) (some a) (cd (q.T<n.T) (V (Qas u a n.T) fun a2=>some a2) (TG (fun((a3,_),W,a5,(a6,a7,a8,a9,aA,_),v,aB,h,_)=>TK W.v fun w=>TP w h.length (V h[w]? fun aC=>TK W.v fun r=>TP r h.length (V h[r]? fun bH=>TG (fun(_,bI,(aD,aE,aF,aG,aH,_),aI,aJ,aK,_)=>some (D.N.mk aD aE aF aG aI aH aJ aK)) fun y=>Qe (fun aL ((aM,z,_),A,(B,zH,E,F,s,_),G,H,zE,_)=>cd (s<z) (TG (fun((aN,aO,_),aP,(aQ,aR,aS,aT,aU,_),aV,aW,aX,_)=>aL ((aN,(X (aO - 1)),()),aP,(aQ,aR,aS,aT,aU,()),aV,aW,aX,())) fun zG=>Qe (fun aY ((f,b,t,o,_),i,(j,g,k,l,p,_),c,m,e,_)=>cd (o<f) (TG (fun((aZ,b0,b1,b2,_),b3,(b4,b5,b6,b7,b8,_),b9,bA,bB,_)=>aY ((aZ,b0,b1,(X (b2+1)),()),b3,(b4,b5,b6,b7,b8,()),b9,bA,bB,())) fun L=>TK o fun zD=>TP zD e.length (V e[zD]? fun bC=>cd (b<=bC) (L ((f,b,(X (t+1)),o,()),i,(j,g,k,l,p,()),c,m,e,())) (L ((f,b,t,o,()),i,(j,g,k,l,p,()),c,m,e,())))) (V (XZ u f) fun bD=>cd (bD<=t) (TK (X (b - 1)) fun zI=>TP zI c.length (V c[zI]? fun bE=>cd (bE.T=g) (y ((),i,(j,g,k,l,b,()),c,m,e,())) (zG ((f,b,()),i,(j,g,k,l,p,()),c,m,e,())))) (zG ((f,b,()),i,(j,g,k,l,p,()),c,m,e,())))) u ((aM,z,0,0,()),A,(B,zH,E,F,s,()),G,H,zE,())) (y ((),A,(B,zH,E,F,s,()),G,H,zE,()))) u ((a3,(v.length:Int),()),a5,(a6,a7,a8,a9,aA,()),v,aB,(List.set h r (max aC W.FD)),())))) fun bF=>cd (q.FM≠2) (some a) (cd (n.T≠q.T) (some a) (J n.OK (V (QH u n.FD 0 (q.l.length:Int)) fun bG=>J bG (bF ((Z,()),n,z4,(a.S,a.T,a.Fh,a.FM,a.i,()),a.l,a.FV,a.FH,())) (some a)) (some a)))))
def QmJ:o 130 (s [d,zG,t16] [zG] (Qc1 u)):=f u (n 4 (c (j [.n 0,.r 5 .c,.r 6 .N,.s 7 (.one (.TM 1007))] g [(1007,.box bI3),p 1013005 .n,p 1013008 .bool,p 1013011 .int]) (c g (c (j [.r 6 .N,.s 7 (.one (.TM 1007))] (c g (.one (k [.n 0,.r 6 .N,.s 7 (.one (.TM 1007)),.n 8] (c g (c (j [.n 0,.r 6 .N,.s 7 (.one (.TM 1007)),.n 8] (.one (c g (m [.n 0,.r 6 .N,.s 7 (.one (.TM 1007)),.n 8,.n 9,.n 10] (c g (c (j [.n 0,.r 6 .N,.s 7 (.one (.TM 1007)),.n 8,.n 9,.n 10] g [(1007,.box bI3),p 1013005 .n,p 1013008 .bool,p 1013011 .int]) g)) [(1007,.box bI3),p 1013005 .n,p 1013008 .bool,p 1013011 .int]))) [(1007,.box bI3),p 1013005 .n,p 1013008 .bool,p 1013011 .int]) g)) [(1007,.box bI3),p 1013005 .n,p 1013008 .bool,p 1013011 .int]))) [(1007,.box bI3),p 1013005 .n,p 1013008 .bool,p 1013011 .int]) g)))) (e (Xs u) (e (ZE u) (e (V2 u) (e (Qi2 u) (e (QbP u) t))))) func130
def Qat(k:D.H)(z:Int):I (D.H×Int):=V (Qg0 u k z) fun(j,A)=>cd (A≠0) (some (z5,A)) (V (Xb u k) fun B=>TK z fun zH=>TP zH B.FF.length (V B.FF[zH]? fun o=>TG (fun(_,p,l,_,a,g,m,b,c,_)=>TK a.To fun q=>TP q g.length (V g[q]? fun e=>TG (fun((E,_),r,_,F,s,t,h,n,v,w,_)=>TK F.To fun i=>TP i h.length (V h[i]? fun aG=>TG (fun(_,aH,_,G,H,zE,zG,_)=>some ((D.H.mk G H zE zG),0)) fun y=>J E (TO (n.length+[t].length) 34359738368 (y ((),r,(),(List.set h i s),(n++[t]),v,w,()))) (y ((),r,(),(List.set h i s),n,v,w,())))) fun f=>cd (a.a=1) (V (Qlc u (p.M.length:Int) e a) fun(L,zD,zI)=>f ((zI,()),l,(),a,L,zD,g,m,b,c,())) (cd (a.a=2) (V (Qi3 u (p.M.length:Int) e a) fun W=>f ((false,()),l,(),a,W,(D.c.mk 0 0 0 0 0 0 0 [] false),g,m,b,c,())) (cd (a.a=3) (V (QgX u (p.M.length:Int) e a) fun(Z,aA,aB)=>f ((aB,()),l,(),a,Z,aA,g,m,b,c,())) (cd (a.a=4) (V (Qc1 u (p.M.length:Int) e a) fun aC=>f ((false,()),l,(),a,aC,(D.c.mk 0 0 0 0 0 0 0 [] false),g,m,b,c,())) (f ((false,()),l,(),a,e,(D.c.mk 0 0 0 0 0 0 0 [] false),g,m,b,c,()))))))) fun aD=>TN k.FW o.To fun aE=>J aE (some (j,0)) (V (QdP u k.Fq o.v o.To) fun aF=>J aF (some (j,0)) (aD ((),k,z5,(),o,j.M,j.FF,j.FW,j.Fq,())))))
def Qdm:o 77 (s [K,d] [K,d] (Qat u)):=f u (n 4 (c (.TG [r 2,r 4,r 6,r 8] [w 1002 .H,w 1004 .H,(1006,.box [.own 2033023,.own 1017027,.own 2033049,.own 2033052]),w 1008 .c,p 2033023 .N,p 1017027 .c,p 2033049 .bool,p 2033052 .FG] g) (n 3 (c (.TG [r 4,r 6,r 8,r 10,r 11,(12,h)] [w 1004 .H,(1006,.box [.own 2033023,.own 1017027,.own 2033049,.own 2033052]),w 1008 .c,w 1010 .N,w 1011 .c,p 2033023 .N,p 1017027 .c,p 2033049 .bool,p 2033052 .FG] g) (c g (c (j [.r 4 .H,.s 6 (.one (.TM 1006))] g [(1006,.box [.own 2033023,.own 1017027,.own 2033049,.own 2033052]),p 2033023 .N,p 1017027 .c,p 2033049 .bool,p 2033052 .FG]) g)))))) (e (YE u) (e (Qh6 u) (e (Qf8 u) (e (Qtg u) (e (QrR u) (e (QpW u) (e (QmJ u) t))))))) func77
def Qa1(e:D.H):I D.H:=TG (fun(_,f,j,_)=>some f) fun c=>Qe (fun g (_,a,b,_)=>cd (0<(a.FF.length:Int)) (V (Qat u a 0) fun(h,i)=>cd (i≠0) (c ((),a,b,())) (g ((),h,b,()))) (c ((),a,b,()))) u ((),e,z5,())
def Qc3:o 24 (s [K] [K] (Qa1 u)):=f u (c g (c (j [.r 1 .H,.r 2 .H] (.one (k [.r 1 .H,.r 2 .H] g))) g)) (e (Qdm u) t) func24
def Qi1(g:Int)(b:D.N):I (D.N×Y D.c×Int):=V (YL u g b) fun z=>J (!z) (some (z4,[],8)) (cd (b.T=1048576) (some (z4,[],5)) (V (Wh u b) fun h=>TK g fun i=>TO i 1048576 (TK b.S fun k=>TP k (List.replicate i false).length (V (GetElem?.getElem? (List.replicate i false) k) fun G=>TG (fun((A,_),B,zH,E,_)=>Qe (fun F ((j,c,_),a,l,e,f,_)=>cd (c<j) (TG (fun((p,q,_),r,s,t,v,_)=>F ((p,(X (q+1)),()),r,s,t,v,())) fun m=>cd (c≠a.S) (V (Qex u a) fun n=>TO (f.length+[(D.c.mk 1 a.S c e.T (a.l.length:Int) n 0 [] false)].length) 34359738368 (m ((j,c,()),a,l,e,(f++[(D.c.mk 1 a.S c e.T (a.l.length:Int) n 0 [] false)]),()))) (m ((j,c,()),a,l,e,f,()))) (some (e,f,0))) u ((A,0,()),B,zH,E,[],())) fun o=>V (XZ u g) fun w=>cd (w=1) (V (Qi4 u g (D.N.mk h.S (X (b.T+1)) b.S 1 h.l h.i (List.set (List.replicate i false) k true) [])) fun y=>o ((g,()),b,z4,y,())) (o ((g,()),b,z4,(D.N.mk h.S (X (b.T+1)) b.S 1 h.l h.i (List.set (List.replicate i false) k true) []),()))))))
def QrQ:o 122 (s [d,zG] [zG,l .c,d] (Qi1 u)):=f u (n 7 (c (j [.n 0,.r 3 .N,.r 4 .N,.r 7 .N] g) (c g (m [.n 0,.r 3 .N,.r 4 .N,.r 7 .N,.o 8 1066 .c,.n 9] (c g (c (j [.n 0,.r 3 .N,.r 4 .N,.r 7 .N,.o 8 1066 .c,.n 9] g) g)))))) (e (Xs u) (e (V2 u) (e (Qh5 u) (e (Uf u) (e (QmI u) t))))) func122
def Qf7(b:D.H)(c:Int):I (D.H×Int):=V (VK u b c) fun g=>cd (g≠0) (some (z5,g)) (TN b.FW c fun j=>J j (some (z5,21)) (V (Xb u b) fun a=>TK c fun h=>TP h a.M.length (V a.M[h]? fun k=>V (Qi1 u (b.M.length:Int) k) fun(l,e,i)=>cd (i≠0) (some (z5,i)) (cd (256<(X ((a.FF.length:Int)+(e.length:Int)))) (some (z5,5)) (TO (a.FF.length+e.length) 34359738368 (TK c fun f=>TP f a.M.length (V a.M[f]? fun m=>some ((D.H.mk (List.set a.M f l) (a.FF++e) a.FW a.Fq),0))))))))
def Qku:o 73 (s [K,d] [K,d] (Qf7 u)):=f u g (e (YE u) (e (Vd u) (e (QrQ u) t))) func73
def QbZ(h:D.H)(f:Int):I (D.H×Int):=V (VK u h f) fun i=>cd (i≠0) (some (z5,i)) (V (Xb u h) fun g=>V (Qf7 u (D.H.mk g.M [] g.FW g.Fq) f) fun(t,j)=>cd (j≠0) (some (z5,j)) (V (Qa1 u t) fun v=>TG (fun(_,w,A,_)=>some (w,0)) fun k=>Qe (fun y ((l,c,_),a,b,_)=>TG (fun((e,m,_),n,o,_)=>V (Qc2 u n e) fun(p,z)=>V (Qa1 u p) fun q=>y ((e,(X (m+1)),()),q,o,())) fun r=>cd (c<2) (TN a.M l fun s=>cd (s.FM=2) (r ((l,c,()),a,b,())) (k ((),a,b,()))) (k ((),a,b,()))) u ((f,0,()),v,z5,())))
def QeC:o 20 (s [K,d] [K,d] (QbZ u)):=f u (n 7 (c (j [.r 2 .H,.r 4 .H] (c g (.one (k [.n 1,.r 2 .H,.r 4 .H,.n 8] (c (j [.n 1,.r 2 .H,.r 4 .H,.n 8] g) g))))) g)) (e (Qco u) (e (Qc3 u) (e (YE u) (e (Vd u) (e (Qku u) t))))) func20
def XS(u:Nat)(a:Y D.N):I (Y D.N):=TR a (TU (some []) (TO a.length 34359738368 (some a))) (TO a.length 34359738368 (some a))
def QeM:o 291 (Ql [l .N] [] [.one (.own 1007)] [p 1007 .N] [] (Y D.N) kz5 (fun x y=>XS u x.1)):=i u g kz8 t func291
def XR(u:Nat)(a:Y D.c):I (Y D.c):=TR a (TU (some []) (TO a.length 34359738368 (some a))) (TO a.length 34359738368 (some a))
def QeL:o 292 (Ql [l .c] [] [.one (.own 1007)] [p 1007 .c] [] (Y D.c) kz5 (fun x y=>XR u x.1)):=i u g kz8 t func292
def YZ(u:Nat)(a:Y AH):I (Y AH):=TR a (TU (some []) (TO a.length 34359738368 (some a))) (TO a.length 34359738368 (some a))
def VA:o 293 (Ql [l .bool] [] [.one (.own 1007)] [p 1007 .bool] [] (Y AH) kz5 (fun x y=>YZ u x.1)):=i u g kz8 t func293
def WP(u:Nat)(a:Y D.FG):I (Y D.FG):=TR a (TU (some []) (TO a.length 34359738368 (some a))) (TO a.length 34359738368 (some a))
def Qgj:o 294 (Ql [l .FG] [] [.one (.own 1007)] [p 1007 .FG] [] (Y D.FG) kz5 (fun x y=>WP u x.1)):=i u g kz8 t func294
def Xw(u:Nat)(a:Y D.n):I (Y D.n):=TR a (TU (some []) (TO a.length 34359738368 (some a))) (TO a.length 34359738368 (some a))
def Qa5:o 296 (Ql [l .n] [] [.one (.own 1007)] [p 1007 .n] [] (Y D.n) kz5 (fun x y=>Xw u x.1)):=i u g kz8 t func296
def V6(a:D.N):I D.N:=V (Xw u a.l) fun b=>V (YZ u a.FV) fun c=>V (Qu u a.FH) fun e=>some (D.N.mk a.S a.T a.Fh a.FM b a.i c e)
def QnK:o 295 (Ql [zG] [] [.agg [v,v,v,v,.own 1006007,v,.own 1009007,.own 1012007]] [p 1006007 .n,p 1009007 .bool,p 1012007 .int] [] D.N kz19 (fun x y=>V6 u x.1)):=i u g (fun a b=>D.N.mk a.1.1 a.1.2.1 a.1.2.2.1 a.1.2.2.2.1 b.1 a.1.2.2.2.2.1 b.2.1 b.2.2.1) (e (QP u) (e (VA u) (e (Qa5 u) t))) func295
def U1(a:D.N):I D.N:=V (Xw u a.l) fun b=>V (YZ u a.FV) fun c=>V (Qu u a.FH) fun e=>some (D.N.mk a.S a.T a.Fh a.FM b a.i c e)
def QkQ:o 295 (s [zG] [zG] (U1 u)):=f u g (e (QP u) (e (VA u) (e (Qa5 u) t))) func295
def XQ(u:Nat)(a:Y D.n):I (Y D.n):=TR a (TU (some []) (TO a.length 34359738368 (some a))) (TO a.length 34359738368 (some a))
def QeK:o 296 (s [l .n] [l .n] (XQ u)):=f u g t func296
def Vn(h:D.H):I D.H:=V (XS u h.M) fun s=>V (XR u h.FF) fun E=>V (YZ u h.FW) fun F=>V (WP u h.Fq) fun G=>Qe (fun H ((t,i,_),_,v,e,r,j,k,_)=>cd (i<t) (TK i fun l=>TP l e.length (V e[l]? fun w=>V (U1 u w) fun y=>TK i fun f=>TP f e.length (V e[f]? fun zE=>H ((t,(X (i+1)),()),(),v,(List.set e f y),r,j,k,())))) (Qe (fun z ((m,c,_),_,A,n,b,o,p,_)=>cd (c<m) (TK c fun q=>TP q b.length (V b[q]? fun B=>V (XQ u B.x) fun zH=>TK c fun g=>TP g b.length (V b[g]? fun a=>z ((m,(X (c+1)),()),(),A,n,(List.set b g (D.c.mk a.a a.v a.To a.T a.FD a.Ff a.i zH a.OK)),o,p,())))) (some (D.H.mk n b o p))) u (((r.length:Int),0,()),(),v,e,r,j,k,()))) u (((s.length:Int),0,()),(),z5,s,E,F,G,())
def Qe2:o 205 (Ql [K] [] [.agg [.own 1008007,.own 1011007,.own 1014007,.own 1017007]] [p 1008007 .N,p 1011007 .c,p 1014007 .bool,p 1017007 .FG] [] D.H kz21 (fun x y=>Vn u x.1)):=i u (n 2 (c (c g (.one (.loop [r 1,r 2,G 23,G 24] [(1001,.box [.own 1008007,.own 1011007,.own 1014007,.own 1017007]),w 1002 .H,p 1008007 .N,p 1011007 .c,p 1014007 .bool,p 1017007 .FG] g))) (lp [r 1,r 2,G 40,G 41] [(1001,.box [.own 1008007,.own 1011007,.own 1014007,.own 1017007]),w 1002 .H,p 1008007 .N,p 1011007 .c,p 1014007 .bool,p 1017007 .FG] g))) (fun a b=>D.H.mk b.1 b.2.1 b.2.2.1 b.2.2.2.1) (e (QeM u) (e (QeL u) (e (VA u) (e (Qgj u) (eD 36 (QkQ u) (eD 54 (QeK u) t)))))) func205
def QbR(a:D.H):I D.H:=V (Vn u a) fun b=>some b
def QkM:o 123 (Ql [K] [] [.agg [.own 2012007,.own 2015007,.own 2018007,.own 2021007]] [p 2012007 .N,p 2015007 .c,p 2018007 .bool,p 2021007 .FG] [] D.H kz21 (fun x y=>QbR u x.1)):=i u g (fun a b=>D.H.mk b.1 b.2.1 b.2.2.1 b.2.2.2.1) (e (Qe2 u) t) func123
def Qcg(a:D.d)(b:Int):I D.site:=V (YX u a.FZ []) fun(c,f)=>V (QbR u a.H) fun e=>some (D.site.mk (D.d.mk c e a.FU) b 0)
def Qhp:o 74 (Ql [t7,d] [] [.one (.TM 1019)] [w 1019 .site] [] D.site kz5 (fun x y=>Qcg u x.1 x.2.1)):=i u g kz8 (e (UB u) (e (QkM u) t)) func74
def Qf9(a:D.H)(b:Int)(c:Int):I Int:=V (Ve u a) fun e=>J (!e) (some 8) (V (UP u b 0 (X (c - 1))) fun f=>J (!f) (some 3) (some 0))
def QmP:o 297 (s [K,d,d] [d] (Qf9 u)):=f u g (e (Qcs u) (e (Qga u) t)) func297
def Qjb(a:D.H)(b:Int):I Int:=V (Qf9 u a b (a.M.length:Int)) fun c=>cd (c≠0) (some c) (TN a.FW b fun e=>J e (some 21) (some 0))
def QrV:o 206 (s [K,d] [d] (Qjb u)):=f u g (e (QmP u) t) func206
def QeR(a:Int):I Int:=V (Qay u a 1 5) fun b=>J (!b) (some 0) (nzc 2 (some (X ((X (Int.tdiv a 2))+1))))
def QnL:o 299 (s [d] [d] (QeR u)):=f u g (e (Qd4 u) t) func299
def Qau(u:Nat)(b:D.n)(a:D.Op):I AH:=TF a a (some (decide (b.Op.S=a.S)))
def Qha:o 298 (Ql [.st .n,.one (.TM 101)] [w 101 .Op] [h] [] [101] AH kz2 (fun x y=>Qau u x.1 y.1)):=i u g kz4 t func298
def Zf(c:Y D.n)(c101:D.Op):I Int:=Qe (fun g ((e,f,a,_),b,_)=>cd (a<f) (TN e a fun h=>V (Qau u h b) fun i=>J i (TF b c101 (some a)) (g ((e,f,(X (a+1)),()),b,()))) (TF b c101 (some (-1)))) u ((c,(c.length:Int),0,()),c101,())
def X6:o 213 (Ql [l .n,.one (.clo 298 [101])] [w 101 .Op] [d] [] [101] Int kz2 (fun x y=>Zf u x.1 y.1)):=i u (c g (m [.l 0 .n,.s 1 (.one (.clo 298 [101])),.n 7,.n 8] g [w 101 .Op])) kz4 (e (Qha u) t) func213
def QE(a:Y D.n)(c101:D.Op):I AH:=V (Zf u a c101) fun b=>TF c101 c101 (some (decide (0<=b)))
def XB:o 132 (Ql [l .n,.one (.clo 298 [101])] [w 101 .Op] [h] [] [101] AH kz2 (fun x y=>QE u x.1 y.1)):=i u g kz4 (e (X6 u) t) func132
def UQ(g:Int)(c:D.N)(b:D.Op):I (D.N×Int):=V (Uk u g c) fun l=>J (!l) (some (z4,8)) (cd (c.FM≠2) (some (z4,22)) (V (QE u c.l b) fun m=>J m (some (z4,4)) (cd ((c.l.length:Int)=256) (some (z4,5)) (V (V6 u c) fun a=>TO (a.l.length+[(D.n.mk a.T b)].length) 34359738368 (TK a.S fun e=>TP e a.FH.length (V a.FH[e]? fun t=>TG (fun(_,(n,o,p,q,r,_),s,h,i,j,_)=>some ((D.N.mk n o p q h r i j),0)) fun f=>V (QeR u g) fun k=>cd (k=1) (f ((),(a.S,a.T,a.Fh,a.FM,(((a.l++[(D.n.mk a.T b)]).length:Nat):Int),()),z4,(a.l++[(D.n.mk a.T b)]),a.FV,(List.set a.FH e (((a.l++[(D.n.mk a.T b)]).length:Nat):Int)),())) (f ((),(a.S,a.T,a.Fh,a.FM,a.i,()),z4,(a.l++[(D.n.mk a.T b)]),a.FV,(List.set a.FH e (((a.l++[(D.n.mk a.T b)]).length:Nat):Int)),()))))))))
def Qjc:o 207 (s [d,zG,t6] [zG,d] (UQ u)):=f u (n 5 (c (.TG [r 4,r 6] [(1004,.box [v,v,v,v,.own 2038007,v,.own 2041007,.own 2044007]),w 1006 .N,p 2038007 .n,p 2041007 .bool,p 2044007 .int] g) g)) (e (XB u) (e (Qjl u) (e (QnK u) (e (QnL u) t)))) func207
def QaH(e:D.H)(b:Int)(i:D.Op):I (D.H×Int):=V (Qjb u e b) fun f=>cd (f≠0) (some (z5,f)) (V (Vn u e) fun a=>TK b fun g=>TP g a.M.length (V a.M[g]? fun j=>V (UQ u (a.M.length:Int) j i) fun(k,h)=>cd (h≠0) (some (z5,h)) (TK b fun c=>TP c a.M.length (V a.M[c]? fun l=>some ((D.H.mk (List.set a.M c k) a.FF a.FW a.Fq),0)))))
def QjZ:o 124 (s [K,d,t6] [K,d] (QaH u)):=f u g (e (Qe2 u) (e (QrV u) (e (Qjc u) t))) func124
def Xr(b:D.site)(a:D.Op):I (Int×D.site):=V (Qak u (D.Op.mk b.d.FU a.a a.Region a.Fence a.At a.Page a.K a.W a.e a.Z a.s)) fun e=>J (!e) (some (8,b)) (cd (b.d.FU=1099511627776) (some (5,b)) (V (QaH u b.d.H b.region (D.Op.mk b.d.FU a.a a.Region a.Fence a.At a.Page a.K a.W a.e a.Z a.s)) fun(f,c)=>cd (c≠0) (some (c,b)) (some (0,(D.site.mk (D.d.mk b.d.FZ f (X (b.d.FU+1))) b.region (X (b.count+1)))))))
def QaY:o 75 (Ql [.one (.TM 1),t6] [w 1 .site] [d] [w 1 .site] [] (Int×D.site) kz15 (fun x y=>Xr u y.1 x.1)):=i u g kz17 (e (Qdh u) (e (QjZ u) t)) func75
def UH(a:D.d)(e:Int)(f:D.Op):I (D.d×Int×Int):=V (Xq u a) fun g=>J (!g) (some (z0,0,8)) (V (Qcg u a e) fun h=>V (Xr u h f) fun(b,c)=>cd (b≠0) (some (z0,0,b)) (some (c.d,(X (c.d.FU - 1)),0)))
def Qe0:o 21 (s [t7,d,t6] [t7,d,d] (UH u)):=f u g (e (W1 u) (e (Qhp u) (e (QaY u) t))) func21
def QaX(a:D.d):I D.F:=V (Xq u a) fun b=>J (!b) (some z2) (V (UO u a.H) fun c=>V (YX u a.FZ c) fun(e,f)=>some e)
def QfN:o 33 (s [t7] [H] (QaX u)):=f u g (e (W1 u) (e (Qe1 u) (e (UB u) t))) func33
def Qgz:I AH:=V (QfH u []) fun m=>V (VF u m) fun(n,s)=>V (QfH u []) fun o=>V (VE u o) fun(p,t)=>V (QmH u n p) fun(q,v)=>V (Qog u q 3) fun(c,r)=>V (QbZ u c.H 0) fun(e,f)=>V (UH u (D.d.mk c.FZ e c.FU) 0 (D.Op.mk 0 1 0 0 864000 1 0 0 0 (D.Z.mk 0 0 0 0 0 0) (D.s.mk 0 0 0 0 0))) fun(a,g,h)=>V (Qc2 u a.H 0) fun(i,j)=>V (Qa1 u i) fun b=>cd (r=0) (cd (f=0) (cd (h=0) (cd (j=0) (V (QfM u (D.d.mk a.FZ b a.FU) g) fun k=>J k (V (QaX u (D.d.mk a.FZ b a.FU)) fun l=>cd ((l.G.length:Int)=1) sT sF) sF) sF) sF) sF) sF
def Qpg:o 11 (s [] [h] (Qgz u)):=f u g (e (Qkl u) (e (QiR u) (e (Qol u) (e (Qdy u) (e (Qdx u) (e (Qpz u) (e (QeC u) (e (Qe0 u) (e (Qco u) (e (Qc3 u) (e (QfN u) t))))))))))) func11
def Qes(e:Y Int)(f:Int):I AH:=Qe (fun g ((a,c,b,_),_)=>cd (b<(a.length:Int)) (TN a b fun h=>cd (h=c) sT (g ((a,c,(X (b+1)),()),()))) sF) u ((e,f,0,()),())
def QgP:o 36 (s [lI,d] [h] (Qes u)):=f u (c g (m [.s 0 lI,.n 1,.n 5] g)) t func36
def QmF(f:D.b)(b:Int)(g:Int)(c:Int):I (D.Page×Int):=TG (fun((h,e,a,_),i,n,_)=>V (QH u e 0 (X ((i.j.length:Int) - 1))) fun j=>J (!j) (some (z1,3)) (some ((D.Page.mk h e a 0 a 0 (-1) 0 a 0 0 [] [] []),0))) fun k=>V (QH u b 1 999999) fun l=>J l (V (QH u c 0 8589934592) fun m=>J m (k ((b,g,c,()),f,z1,())) (some (z1,1))) (some (z1,1))
def Qok:o 150 (s [L,d,d,d] [E,d] (QmF u)):=f u (c g (c (j [.n 1,.n 2,.n 3,.r 4 .b,.r 8 .Page] g) g)) (e (ZE u) t) func150
def Qf0(c:D.W):I AH:=Qe (fun e ((a,_),b,_)=>cd (a<(b.Steps.length:Int)) (TN b.Steps a fun f=>V (QH u f.Fz 0 86400) fun g=>J (!g) sF (e (((X (a+1)),()),b,()))) sT) u ((0,()),c,())
def QrN:o 151 (s [t15] [h] (Qf0 u)):=f u (c g (m [.r 1 .W,.n 3] g)) (e (ZE u) t) func151
def QdI(a:D.W):I Int:=TG (fun(_,b,_)=>some (X ((b.Steps.length:Int)*(X (b.Fo+1))))) fun c=>V (QH u a.Fo 0 8) fun e=>J e (cd (8<(a.Steps.length:Int)) (some 0) (c ((),a,()))) (some 0)
def Qkr:o 152 (s [t15] [d] (QdI u)):=f u (c g (c (j [.r 1 .W] g) g)) (e (ZE u) t) func152
def QgT(j:D.Page):I AH:=Qe (fun o ((i,p,e,_),c,_)=>cd (e<(c.P.length:Int)) (TG (fun((q,r,s,_),t,_)=>o ((q,r,(X (s+1)),()),t,())) fun k=>TN c.P e fun a=>TG (fun((l,f,_),g,b,_)=>cd (0<=b.K) (k ((b.K,b.At,f,()),g,())) (k ((l,b.At,f,()),g,()))) fun h=>cd (a.At<p) sF (cd (a.K<(-1)) sF (cd (0<=a.K) (cd (a.K<=i) sF (cd (c.FB<=a.K) sF (V (Qet u a.k 32) fun m=>J m (h ((i,e,()),c,a,())) sF))) (V (Qet u a.k 32) fun n=>J n (h ((i,e,()),c,a,())) sF)))) (some (decide ((c.P.length:Int)<=200)))) u (((-1),j.R,0,()),j,())
def QpU:o 153 (s [E] [h] (QgT u)):=f u (n 2 (m [.r 1 .Page,.n 3,.n 4,.n 5] (c g (c (j [.r 1 .Page,.n 3,.n 4,.n 5] (.one (c g (c (j [.r 1 .Page,.n 3,.n 5,.r 6 .R] g) g)))) g)))) (e (QjY u) t) func153
def UM(g:D.b)(a:D.Page):I AH:=TG (fun(_,b,_)=>TG (fun(_,c,_)=>TG (fun(_,B,_)=>Qe (fun zH ((f,_),e,_)=>cd (f<(e.h.length:Int)) (TK f fun h=>TO h e.h.length (TN e.h f fun E=>V (Qes u (List.take h e.h) E) fun F=>J F sF (zH (((X (f+1)),()),e,())))) sT) u ((0,()),B,())) fun G=>V (QH u c.z 0 4) fun i=>J i (V (QH u c.FP 0 4) fun j=>J j (V (QgT u c) fun k=>J k (V (Qet u c.g 32) fun l=>J l (cd (64<(c.h.length:Int)) sF (G ((),c,()))) sF) sF) sF) sF) fun m=>V (QH u b.p 0 4) fun n=>J n (V (QH u b.By (-1) 31) fun o=>J o (V (QH u b.FT b.R 17179869184) fun p=>J p (V (QH u b.FQ 0 17179869184) fun q=>J q (V (QH u b.FR 0 17179869184) fun r=>J r (m ((),b,())) sF) sF) sF) sF) sF) fun s=>V (QmF u g a.S a.W a.R) fun(H,t)=>cd (t≠0) sF (TN g.j a.W fun v=>V (Qf0 u v) fun w=>J w (TN g.j a.W fun y=>V (QdI u y) fun z=>V (QH u a.FB 0 z) fun A=>J A (s ((),a,())) sF) sF)
def Qc0:o 92 (s [L,E] [h] (UM u)):=f u (c g (c (j [.r 3 .Page] g) (c (j [.r 3 .Page] g) (c (j [.r 3 .Page] g) (m [.r 3 .Page,.n 7] g))))) (e (QgP u) (e (ZE u) (e (Qok u) (e (QrN u) (e (Qkr u) (e (QpU u) (e (QjY u) t))))))) func92
def QdM(l:D.Page)(m:Int)(n:Int):I (Y D.Call):=Qe (fun o ((p,g,_),h,j,_)=>cd (g<(h.P.length:Int)) (TN h.P g fun q=>Qe (fun r ((e,k,i,_),b,a,c,_)=>cd (i<(a.k.length:Int)) (TN a.k i fun f=>TO (c.length+[(D.Call.mk b.S a.K a.At f e)].length) 34359738368 (r ((e,k,(X (i+1)),()),b,a,(c++[(D.Call.mk b.S a.K a.At f e)]),()))) (o ((e,(X (k+1)),()),b,c,()))) u ((p,g,0,()),h,q,j,())) (some j)) u ((n,m,()),l,[],())
def Qf4:o 94 (s [E,d,d] [l .Call] (QdM u)):=f u (n 2 (m [.n 2,.r 3 .Page,.o 7 1046 .Call,.n 8] (c g (c (.one (n 2 (.one (.loop [G 2,r 3,(7,.one (.own 1046)),G 8,r 9,G 10] [w 1003 .Page,w 1009 .R,p 1046 .Call] g)))) g)))) t func94
def QgW(y:D.F)(m:D.Page):I AH:=V (QdM u m 0 0) fun z=>Qe (fun A ((f,g,n,h,_),e,l,_)=>cd (h<(e.Calls.length:Int)) (TG (fun((B,zH,o,p,_),q,r,_)=>A ((B,zH,o,(X (p+1)),()),q,r,())) fun i=>TN e.Calls h fun c=>cd (c.Page≠l.S) (i ((f,g,n,h,()),e,l,())) (TG (fun((j,k,s,_),t,v,a,_)=>TN j k fun b=>cd ([a.Page,a.K,a.At,a.Q,0]≠[b.Page,b.K,b.At,b.Q,b.Fence]) sF (i ((j,(X (k+1)),a.Fence,s,()),t,v,()))) fun w=>cd ((f.length:Int)<=g) sF (cd (c.Fence<n) sF (cd (e.Fence<c.Fence) sF (w ((f,g,h,()),e,l,c,())))))) (some (decide (g=(f.length:Int))))) u ((z,0,0,0,()),y,m,())
def Qtf:o 93 (s [H,E] [h] (QgW u)):=f u (n 3 (m [.r 2 .F,.r 3 .Page,.l 5 .Call,.n 6,.n 7,.n 8] (c g (c (j [.r 2 .F,.r 3 .Page,.l 5 .Call,.n 6,.n 7,.n 8] (.one (n 2 (c (j [.r 2 .F,.r 3 .Page,.l 5 .Call,.n 6,.n 8,.r 9 .Call] g) g)))) g)))) (e (Qf4 u) t) func93
def Wu(e:D.F):I AH:=TG (fun(_,zE,_)=>Qe (fun zG ((k,g,_),a,_)=>cd (g<(a.G.length:Int)) (TN a.G g fun c=>TG (fun((L,zD,_),zI,W,_)=>V (QdM u W 0 0) fun l=>zG (((X (L+(l.length:Int))),(X (zD+1)),()),zI,())) fun h=>cd (0<g) (TN a.G (X (g - 1)) fun m=>cd (c.S<=m.S) sF (V (UM u a.b c) fun n=>J n (cd (a.FC<c.FT) sF (V (QgW u a c) fun o=>J o (h ((k,g,()),a,c,())) sF)) sF)) (V (UM u a.b c) fun p=>J p (cd (a.FC<c.FT) sF (V (QgW u a c) fun q=>J q (h ((k,g,()),a,c,())) sF)) sF)) (Qe (fun r ((i,f,_),b,_)=>cd (f<(b.h.length:Int)) (TG (fun((s,t,_),v,_)=>r ((s,(X (t+1)),()),v,())) fun w=>TN b.h f fun y=>V (QH u y 1 1099511627776) fun z=>J z (TK f fun j=>TO j b.h.length (TN b.h f fun A=>V (Qes u (List.take j b.h) A) fun B=>J B sF (w ((i,f,()),b,())))) sF) (some (decide (i=(b.Calls.length:Int))))) u ((k,0,()),a,()))) u ((0,0,()),zE,())) fun zH=>V (QfZ u e.E e.b) fun E=>cd (E≠0) sF (V (QH u e.FC 0 8589934592) fun F=>J F (cd (64<(e.G.length:Int)) sF (V (QH u e.FE (-1) 4) fun G=>J G (V (QH u e.Fence 0 1048576) fun H=>J H (cd (256<(e.h.length:Int)) sF (zH ((),e,()))) sF) sF)) sF)
def Va:o 42 (s [H] [h] (Wu u)):=f u (c g (c (j [.r 1 .F] g) (c g (c (c g (.one (k [.r 1 .F,.n 3,.n 4] (c g (c (.one (c g (c (j [.r 1 .F,.n 3,.n 4,.r 5 .Page] g) g))) g))))) (m [.r 1 .F,.n 3,.n 6] (c g (c (j [.r 1 .F,.n 3,.n 6] g) g))))))) (e (QgP u) (e (ZE u) (e (Qkq u) (e (Qc0 u) (e (Qtf u) (e (Qf4 u) t)))))) func42
def QbN(f:D.Page):I D.Page:=Qe (fun g ((b,_),a,h,c,_)=>cd (b<(a.P.length:Int)) (TN a.P b fun e=>TO e.k.length 34359738368 (TO (c.length+[e].length) 34359738368 (g (((X (b+1)),()),a,h,(c++[e]),())))) (TO a.g.length 34359738368 (TO a.h.length 34359738368 (some (D.Page.mk a.S a.W a.R a.FB a.FQ a.p a.By a.FR a.FT a.z a.FP c a.g a.h))))) u ((0,()),f,z1,[],())
def Qar:o 83 (Ql [E] [] [.agg [v,v,v,v,v,v,v,v,v,v,v,.own 1025,.own 1030,.own 1033]] [p 1025 .R,p 1030 .int,p 1033 .int] [] D.Page kz12 (fun x y=>QbN u x.1)):=i u (n 2 (m [.r 1 .Page,.r 2 .Page,.o 3 1025 .R,.n 4] g)) (fun a b=>D.Page.mk a.1.1 a.1.2.1 a.1.2.2.1 a.1.2.2.2.1 a.1.2.2.2.2.1 a.1.2.2.2.2.2.1 a.1.2.2.2.2.2.2.1 a.1.2.2.2.2.2.2.2.1 a.1.2.2.2.2.2.2.2.2.1 a.1.2.2.2.2.2.2.2.2.2.1 a.1.2.2.2.2.2.2.2.2.2.2.1 b.1 b.2.1 b.2.2.1) t func83
def QbO(f:D.F):I D.F:=Qe (fun g ((b,_),a,h,c,_)=>cd (b<(a.G.length:Int)) (TN a.G b fun i=>V (QbN u i) fun e=>TO (c.length+[e].length) 34359738368 (g (((X (b+1)),()),a,h,(c++[e]),()))) (TO a.h.length 34359738368 (TO a.Calls.length 34359738368 (some (D.F.mk a.FC a.E a.b c a.FE a.Fence a.h a.Calls))))) u ((0,()),f,z2,[],())
def Qcn:o 43 (Ql [H] [] [.agg [v,.TQ .q,.TQ .Q,.TQ .m,.TQ .e,.TQ .Fc,.TQ .W,.own 1020,v,v,.own 1025,.own 1028]] [p 1020 .Page,p 1025 .int,p 1028 .Call] [] D.F kz6 (fun x y=>QbO u x.1)):=i u (n 2 (m [.r 1 .F,.r 2 .F,.o 3 1020 .Page,.n 4] g)) (fun a b=>D.F.mk a.1.1 (D.E.mk a.1.2.1 a.1.2.2.1 a.1.2.2.2.1 a.1.2.2.2.2.1) (D.b.mk a.1.2.2.2.2.2.1 a.1.2.2.2.2.2.2.1) b.1 a.1.2.2.2.2.2.2.2.1 a.1.2.2.2.2.2.2.2.2.1 b.2.1 b.2.2.1) (e (Qar u) t) func43
def QxK(a:Int)(b:Int):I (D.N×Int):=TG (fun((c,_),h,_)=>some ((D.N.mk c 0 (-1) 0 [] 0 [] []),0)) fun e=>V (XZ u b) fun f=>cd (f=0) (some (z4,1)) (V (QH u a 0 (X (b - 1))) fun g=>J g (e ((a,()),z4,())) (some (z4,1)))
def Qvj:o 163 (s [d,d] [zG,d] (QxK u)):=f u (c g (c (j [.n 0,.r 4 .N] g) g)) (e (Xs u) (e (ZE u) t)) func163
def Qth(b:Int):I (D.H×Int):=V (XZ u b) fun k=>cd (k=0) (some (z5,1)) (TK b fun g=>TO g 1048576 (Qe (fun l ((c,e,_),m,(h,i,_),f,j,_)=>cd (e<c) (V (QxK u e c) fun(a,n)=>TO (f.length+[a].length) 34359738368 (l ((c,(X (e+1)),()),m,(h,i,()),(f++[a]),j,()))) (some ((D.H.mk f h j i),0))) u ((b,0,()),z5,([],[],()),[],(List.replicate g false),())))
def Qvk:o 106 (s [d] [K,d] (Qth u)):=f u (n 3 (m [.n 0,.r 2 .H,.s 4 (.one (.TM 1004)),.n 5] g [(1004,.box [.own 1030,.TQ .c,.own 1013,.TQ .FG]),p 1030 .N,p 1013 .bool])) (e (Xs u) (e (Qvj u) t)) func106
def Qp0(s:D.F)(B:Int):I (D.d×Int):=V (Wu u s) fun zH=>J (!zH) (some (z0,8)) (V (Qth u B) fun(b,w)=>cd (w≠0) (some (z0,w)) (V (QbO u s) fun a=>Qe (fun E ((t,_),v,F,(y,z,c,e,f,g,h,i,j,k,l,m,n,o,_),p,q,r,_)=>cd (t<(v.h.length:Int)) (TN v.h t fun A=>E (((X (t+1)),()),v,F,(y,z,c,e,f,g,h,i,j,k,l,m,n,(max o (X (A+1))),()),p,q,r,())) (some ((D.d.mk (D.F.mk y (D.E.mk z c e f) (D.b.mk g h) p i j q r) (D.H.mk k l m n) o),0))) u ((0,()),s,z0,(a.FC,a.E.FL,a.E.k,a.E.o,a.E.f,a.b.t,a.b.j,a.FE,a.Fence,b.M,b.FF,b.FW,b.Fq,1,()),a.G,a.h,a.Calls,())))
def Qvl:o 56 (s [H,d] [t7,d] (Qp0 u)):=f u (n 5 (m [.r 2 .F,.r 4 .d,.s 8 (.one (.TM 1008)),.n 9] g [(1008,.box [v,.TQ .q,.TQ .Q,.TQ .m,.TQ .e,.TQ .Fc,.TQ .W,.own 1025020,v,v,.own 1025025,.own 1025028,.TQ .N,.TQ .c,.TQ .bool,.TQ .FG,v]),p 1025020 .Page,p 1025025 .int,p 1025028 .Call])) (e (Va u) (e (Qcn u) (e (Qvk u) t))) func56
def Qf1(b:D.Z):I AH:=TG (fun(_,a,_)=>TG (fun((f,i,_),c,_)=>J i (some (decide (c.Fw=0))) (cd (f=3) (V (QH u c.Fw 1 86400) fun j=>some j) (cd (f=4) (V (QH u c.Fw 0 31) fun k=>some k) sF))) fun e=>cd (a.a=1) (e ((a.a,(decide (a.a=1)),()),a,())) (cd (a.a=2) (e ((a.a,(decide (a.a=2)),()),a,())) (e ((a.a,(decide (a.a=5)),()),a,())))) fun l=>V (QH u b.S 1 999999) fun m=>J m (V (QH u b.Page 1 999999) fun n=>J n (V (QH u b.Q (-1) 31) fun g=>J g (V (QH u b.At 0 8589934592) fun h=>J h (l ((),b,())) sF) sF) sF) sF
def Qks:o 139 (s [t12] [h] (Qf1 u)):=f u (c g (c (j [.r 1 .Z] g) (c (c g (.one (c (j [.r 1 .Z,.n 26,.s 27 h] g) g))) g))) (e (ZE u) t) func139
def QdL(a:D.Op):I AH:=V (QH u a.S 1 1099511627776) fun b=>J b (V (QH u a.a 1 5) fun c=>J c (V (QH u a.Region 0 4) fun e=>J e (V (QH u a.Fence 0 1048576) fun f=>J f (V (QH u a.At 0 8589934592) fun g=>J g (V (QH u a.Page 0 999999) fun h=>J h (V (QH u a.K (-1) 1000) fun i=>J i (cd (a.a≠4) sT (V (Qf1 u a.Z) fun j=>J j sT sF)) sF) sF) sF) sF) sF) sF) sF
def Qf3:o 81 (s [t6] [h] (QdL u)):=f u g (e (ZE u) (e (Qks u) t)) func81
def Qa2(a:D.d):I AH:=TG (fun(_,v,_)=>Qe (fun w ((e,_),f,_)=>cd (e<(f.H.M.length:Int)) (TN f.H.M e fun y=>Qe (fun z ((h,b,c,_),g,_)=>cd (c<(b.length:Int)) (TG (fun((i,j,k,_),l,_)=>z ((i,j,(X (k+1)),()),l,())) fun m=>TN b c fun n=>V (QdL u n.Op) fun o=>J o (TN b c fun p=>cd (g.FU<=p.Op.S) sF (m ((h,b,c,()),g,()))) sF) (w (((X (h+1)),()),g,()))) u ((e,y.l,0,()),f,())) sT) u ((0,()),v,())) fun q=>V (Wu u a.FZ) fun r=>J r (V (QaZ u a.H) fun s=>J s (V (QH u a.FU 1 1099511627776) fun t=>J t (q ((),a,())) sF) sF) sF
def Qc4:o 31 (s [t7] [h] (Qa2 u)):=f u (c g (c (j [.r 1 .d] g) (m [.r 1 .d,.n 3] (c g (c (.one (n 2 (.one (k [.r 1 .d,.n 3,.l 4 .n,.n 5] (c g (c (j [.r 1 .d,.n 3,.l 4 .n,.n 5] g) g)))))) g))))) (e (Va u) (e (ZE u) (e (Qf3 u) (e (Qa0 u) t)))) func31
def QbQ(k:D.N):I (Y D.Op):=TG (fun(_,l,_)=>some l) fun e=>Qe (fun m ((a,_),b,c,_)=>TG (fun((f,_),g,h,_)=>TN g.l f fun i=>TO (h.length+[i.Op].length) 34359738368 (m (((X (f+1)),()),g,(h++[i.Op]),()))) fun j=>cd (a<b.i) (cd (a<(b.l.length:Int)) (j ((a,()),b,c,())) (e ((),c,()))) (e ((),c,()))) u ((0,()),k,[],())
def QkK:o 38 (s [zG] [l .Op] (QbQ u)):=f u (n 2 (c (j [.o 3 1026 .Op] (c g (.one (k [.r 1 .N,.o 3 1026 .Op,.n 4] (c (j [.r 1 .N,.o 3 1026 .Op,.n 4] g) g))))) g)) t func38
def QgU(e:D.F)(f:Int):I (D.Page×AH):=Qe (fun g ((c,a,_),b,h,_)=>cd (a<(b.G.length:Int)) (TN b.G a fun i=>cd (i.S=c) (TN b.G a fun j=>V (QbN u j) fun k=>some (k,true)) (g ((c,(X (a+1)),()),b,h,()))) (some (z1,false))) u ((f,0,()),e,z1,())
def QmG:o 30 (s [H,d] [E,h] (QgU u)):=f u (c g (m [.n 1,.r 2 .F,.r 4 .Page,.n 6] g)) (e (Qar u) t) func30
def Qh4(u:Nat)(a:D.Page):I (Int×AH):=cd (a.p=0) (some (a.FQ,true)) (cd (a.p=2) (some (a.FR,true)) (some (0,false)))
def QdK:o 108 (s [E] [d,h] (Qh4 u)):=f u g t func108
def Qi0(c:D.W)(b:Int):I (Int×Int×AH):=TG (fun((e,_),a,_)=>nzc (a.Steps.length:Int) (nzc (a.Steps.length:Int) (some ((Int.tmod e (a.Steps.length:Int)),(X (Int.tdiv e (a.Steps.length:Int))),true)))) fun f=>cd (b<0) (some (0,0,false)) (V (QdI u c) fun g=>cd (g<=b) (some (0,0,false)) (f ((b,()),c,())))
def Qtb:o 338 (s [t15,d] [d,d,h] (Qi0 u)):=f u (c g (c (j [.n 1,.r 2 .W] g) g)) (e (Qkr u) t) func338
def VV(t:Y Int)(v:Int):I (Y Int):=Qe (fun w ((f,a,k,g,_),b,_)=>cd (g<(f.length:Int)) (TG (fun((y,z,A,B,_),p,_)=>w ((y,z,A,(X (B+1)),()),p,())) fun l=>TG (fun((c,h,m,e,_),i,_)=>TN c e fun q=>cd (q≠h) (TN c e fun n=>TO (i.length+[n].length) 34359738368 (l ((c,h,m,e,()),(i++[n]),()))) (l ((c,h,m,e,()),i,()))) fun j=>J k (j ((f,a,k,g,()),b,())) (TN f g fun r=>cd (a<=r) (TO (b.length+[a].length) 34359738368 (j ((f,a,true,g,()),(b++[a]),()))) (j ((f,a,k,g,()),b,())))) (TG (fun(_,s,_)=>some s) fun o=>J (!k) (TO (b.length+[a].length) 34359738368 (o ((),(b++[a]),()))) (o ((),b,())))) u ((t,v,false,0,()),[],())
def QmE:o 304 (s [lI,d] [lI] (VV u)):=f u (n 3 (c (c g (.one (k [.s 0 lI,.n 1,.o 5 1027 .int,.s 6 h,.n 7] (c g (c (j [.s 0 lI,.n 1,.o 5 1027 .int,.s 6 h,.n 7] (.one (c (j [.s 0 lI,.n 1,.o 5 1027 .int,.s 6 h,.n 7] g) g))) g))))) (c (j [.o 5 1027 .int] g) g))) t func304
def QxI(a:D.E)(b:Int)(c:Int):I AH:=cd (0<=b) (cd (b<(a.f.length:Int)) (cd (0<=c) (cd (c<=8589934592) (V (UK u a) fun e=>cd (e=0) sT sF) sF) sF) sF) sF
def QxJ:o 400 (s [tO,d,d] [h] (QxI u)):=f u g (e (QcY u) t) func400
def QgK(l:D.q)(m:Y D.FK)(n:Int):I Int:=TG (fun((o,_),_)=>some o) fun c=>Qe (fun p ((a,e,f,b,_),_)=>TG (fun((g,q,h,_),_)=>TN g h fun i=>p ((g,q,i.Fa,(X (h+1)),()),())) fun j=>cd (b<(a.length:Int)) (TN a b fun k=>cd (k.At<=e) (j ((a,e,b,()),())) (c ((f,()),()))) (c ((f,()),()))) u ((m,n,l.Fa,0,()),())
def QpG:o 438 (s [t8,l .FK,d] [d] (QgK u)):=f u (n 2 (c (j [.n 7] (c g (.one (k [.l 1 .FK,.n 2,.n 7,.n 8] (c (j [.l 1 .FK,.n 2,.n 8] g) g))))) g)) t func438
def QcX(a:D.q)(b:Int):I (Int×Int):=V (W9 u a) fun(c,e)=>cd (e≠0) (some (0,8)) (V (Qcl u b 0 8589934592) fun f=>J (!f) (some (0,1)) (V (QgK u a c b) fun g=>some (g,0)))
def Qmx:o 426 (s [t8,d] [d,d] (QcX u)):=f u g (e (UJ u) (e (QfT u) (e (QpG u) t))) func426
def Qmy(u:Nat)(a:Int)(b:Int):I D.Fj:=nzc 86400 (nzc 86400 (some (D.Fj.mk (X ((X (Int.tdiv (X ((X (a+b))+864000)) 86400)) - 10)) (Int.tmod (X ((X (a+b))+864000)) 86400))))
def Qry:o 427 (s [d,d] [t11] (Qmy u)):=f u g t func427
def Qaq(c:D.q)(a:Int):I (D.Fj×Int):=V (QcX u c a) fun(e,b)=>cd (b≠0) (some (z13,b)) (V (Qmy u a e) fun f=>some (f,0))
def Qdl:o 402 (s [t8,d] [t11,d] (Qaq u)):=f u g (e (Qmx u) (e (Qry u) t)) func402
def QgM(a:D.Fj):I Int:=V (Qer u a.Fm) fun b=>some (X ((X (b*86400))+a.Fb))
def QpJ:o 403 (s [t11] [d] (QgM u)):=f u g (e (Qhr u) t) func403
def QjX(b:D.q)(c:Int):I (Int×Int):=V (Qaq u b c) fun(e,a)=>cd (a≠0) (some (0,a)) (V (QgM u e) fun f=>some (f,0))
def QpH:o 373 (s [t8,d] [d,d] (QjX u)):=f u g (e (Qdl u) (e (QpJ u) t)) func373
def QgL(f:Y D.FI)(g:Int):I AH:=Qe (fun h ((a,c,b,_),_)=>cd (b<(a.length:Int)) (TG (fun((i,j,k,_),_)=>h ((i,j,(X (k+1)),()),())) fun e=>TN a b fun l=>cd (l.v<=c) (TN a b fun m=>cd (c<m.To) sT (e ((a,c,b,()),()))) (e ((a,c,b,()),()))) sF) u ((f,g,0,()),())
def QpI:o 374 (s [l .FI,d] [h] (QgL u)):=f u (c g (m [.l 0 .FI,.n 1,.n 5] (c g (c (j [.l 0 .FI,.n 1,.n 5] g) g)))) t func374
def Qoj(b:D.q)(a:Y D.FI)(c:Int):I AH:=V (QjX u b c) fun(e,f)=>cd (f=0) (V (Qcm u a) fun g=>cd (g=0) (V (QgL u a e) fun h=>J h sT sF) sF) sF
def QrC:o 360 (s [t8,l .FI,d] [h] (Qoj u)):=f u g (e (QfV u) (e (QpH u) (e (QpI u) t))) func360
def QiW(b:D.q)(a:D.u):I Int:=TG (fun(_,_)=>some 0) fun c=>V (QdF u b) fun e=>cd (e≠0) (some 8) (cd (a.R.Fm<1) (some 8) (cd (100000<a.R.Fm) (some 8) (cd (a.R.Fb<0) (some 8) (cd (86400<=a.R.Fb) (some 8) (cd (a.Unit<0) (some 8) (cd (2<a.Unit) (some 8) (cd (a.FN<1) (some 8) (cd (400<a.FN) (some 8) (cd ((a.r.length:Int)=0) (some 8) (c ((),())))))))))))
def QrI:o 454 (s [t8,t9] [d] (QiW u)):=f u (c g (c (j [] g) g)) (e (Qko u) t) func454
def QiU(a:Int):I AH:=V (Qcl u a (-2) 99422) fun b=>some b
def QrB:o 466 (s [d] [h] (QiU u)):=f u g (e (QfT u) t) func466
def QdG(q:D.q)(f:D.Fj):I (Int×Int):=V (W9 u q) fun(zH,E)=>cd (E≠0) (some (0,8)) (V (Qcl u f.Fb 0 86399) fun F=>J (!F) (some (0,1)) (cd (f.Fm<(-2)) (some (0,0)) (V (QiU u f.Fm) fun G=>J (!G) (some (0,10)) (Qe (fun H ((e,c,_),p,r,_)=>cd (c<(e.length:Int)) (TG (fun((g,b,h,i,s,_),j,k,_)=>TG (fun((t,v,l,m,w,_),y,a,_)=>cd ((max m (X ((X ((X (a.Fm*86400))+a.Fb)) - l)))<w) (some ((max m (X ((X ((X (a.Fm*86400))+a.Fb)) - l))),0)) (H ((t,(X (v+1)),()),y,a,()))) fun n=>cd ((X (b+1))<(g.length:Int)) (TN g (X (b+1)) fun z=>n ((g,b,h,i,z.At,()),j,k,())) (n ((g,b,h,i,s,()),j,k,()))) fun o=>cd (0<=c) (TN e c fun A=>TN e c fun B=>o ((e,c,A.Fa,B.At,8589934593,()),p,r,())) (o ((e,c,p.Fa,0,8589934593,()),p,r,()))) (some (0,10))) u ((zH,(-1),()),q,f,())))))
def Qkp:o 460 (s [t8,t11] [d,d] (QdG u)):=f u (n 6 (m [.r 2 .q,.r 3 .Fj,.l 6 .FK,.n 8] (c g (c (.one (c g (c (j [.r 2 .q,.r 3 .Fj,.l 6 .FK,.n 8,.n 9,.n 10,.n 11] g) (c (j [.r 2 .q,.r 3 .Fj,.l 6 .FK,.n 8,.n 9,.n 10,.n 11] g) g)))) g)))) (e (UJ u) (e (QfT u) (e (QrB u) t))) func460
def QcZ(e:D.q)(a:D.u)(b:Int):I (Int×AH):=cd (a.Unit=0) (V (QdG u e a.R) fun(c,h)=>cd (h=0) (cd ((X (c+(X ((X (b*a.FN))*3600))))<=8589934592) (some ((X (c+(X ((X (b*a.FN))*3600)))),true)) (some ((X (c+(X ((X (b*a.FN))*3600)))),false))) (some ((X (c+(X ((X (b*a.FN))*3600)))),false))) (TG (fun((i,_),j,f,_)=>V (QdG u j (D.Fj.mk (X (f.R.Fm+i)) f.R.Fb)) fun(k,l)=>some (k,(decide (l=0)))) fun g=>cd (a.Unit=2) (g (((X ((X (b*a.FN))*7)),()),e,a,())) (g (((X (b*a.FN)),()),e,a,())))
def QmB:o 461 (s [t8,t9,d] [d,h] (QcZ u)):=f u (n 3 (c (j [.r 3 .q,.r 4 .u,.n 11] g) g)) (e (Qkp u) t) func461
def QiX(h:D.q)(b:D.u)(c:Int):I Int:=cd (b.Unit=0) (TG (fun((B,_),_)=>some B) fun l=>V (QdG u h b.R) fun(m,zH)=>cd (zH=0) (cd (m<=c) (nzc (X (3600*b.FN)) (l (((X (Int.tdiv (X (c - m)) (X (3600*b.FN)))),()),()))) (l (((-1),()),()))) (l (((-1),()),()))) (V (Qaq u h c) fun(n,G)=>TG (fun((E,o,_),F,p,q,_)=>TG (fun((r,_),_)=>some r) fun i=>nzc o (Qe (fun s ((e,a,_),f,g,_)=>cd (0<=a) (TG (fun((t,v,_),w,y,_)=>s ((t,(X (v - 1)),()),w,y,())) fun j=>V (QcZ u f g a) fun(z,A)=>J A (cd (z<=e) (i ((a,()),())) (j ((e,a,()),f,g,()))) (j ((e,a,()),f,g,()))) (i ((a,()),()))) u ((E,(X (Int.tdiv (max (X ((X (q.Fm+2)) - p.R.Fm)) 0) o)),()),F,p,()))) fun k=>cd (b.Unit=2) (k ((c,(X (b.FN*7)),()),h,b,n,())) (k ((c,b.FN,()),h,b,n,())))
def QrK:o 455 (s [t8,t9,d] [d] (QiX u)):=f u (n 2 (c (c g (c (c (j [.n 7] g) g) g)) (n 2 (c (j [.n 2,.r 3 .q,.r 4 .u,.r 10 .Fj,.n 12] g) (c (j [.n 7] (c g (.one (k [.n 2,.r 3 .q,.r 4 .u,.n 7] (c g (c (j [.n 2,.r 3 .q,.r 4 .u,.n 7] g) g)))))) g))))) (e (Qdl u) (e (Qkp u) (e (QmB u) t))) func455
def QfY(b:D.q)(c:D.u)(a:Int):I (Int×Int):=V (QiW u b c) fun e=>cd (e≠0) (some (0,8)) (TG (fun((f,_),g,h,_)=>V (QiX u g h f) fun i=>some (i,0)) fun j=>cd (a<0) (some (0,1)) (cd (8589934592<a) (some (0,1)) (j ((a,()),b,c,()))))
def QrJ:o 450 (s [t8,t9,d] [d,d] (QfY u)):=f u (n 2 (c (j [.n 2,.r 3 .q,.r 4 .u] g) g)) (e (QrI u) (e (QrK u) t)) func450
def Qk7(l:D.E)(g:D.u)(i:Int):I (Int×AH):=TN l.FL g.q fun o=>V (QfY u o g i) fun(m,E)=>TG (fun((F,p,_),q,n,_)=>cd (n.F4=0) (some (p,true)) (TN q.o n.m fun r=>TN q.FL r.q fun G=>V (Qaq u G F) fun(H,zE)=>Qe (fun s ((c,j,a,_),e,b,f,_)=>cd (a<(b.F5.length:Int)) (TG (fun((t,v,w,_),y,z,A,_)=>s ((t,v,(X (w+1)),()),y,z,A,())) fun h=>J j (h ((c,true,a,()),e,b,f,())) (TN b.F5 a fun B=>cd (B=f.Fm) (h ((c,true,a,()),e,b,f,())) (h ((c,false,a,()),e,b,f,())))) (some (c,(decide (j=(decide (e.F4=2))))))) u ((p,false,0,()),n,r,H,()))) fun k=>cd (E≠0) (some (0,false)) (cd (m<0) (some (0,false)) (cd (0<(g.Fp.length:Int)) (V (Qoj u o g.Fp i) fun zH=>J zH (k ((i,m,()),l,g,())) (some (0,false))) (k ((i,m,()),l,g,()))))
def Qs6:o 444 (s [tO,t9,d] [d,h] (Qk7 u)):=f u (n 3 (c (j [.n 2,.r 3 .E,.r 4 .u,.n 9] g) (n 4 (m [.r 4 .u,.n 9,.r 11 .m,.r 12 .Fj,.s 14 h,.n 15] (c g (c (j [.r 4 .u,.n 9,.r 11 .m,.r 12 .Fj,.s 14 h,.n 15] g) g)))))) (e (QrC u) (e (Qdl u) (e (QrJ u) t))) func444
def QmC(b:D.E)(a:D.u)(c:Int):I Int:=V (Qk7 u b a c) fun(e,f)=>J (!f) (some (-1)) (nzc (a.r.length:Int) (TN a.r (Int.tmod e (a.r.length:Int)) fun g=>some g))
def Qvd:o 436 (s [tO,t9,d] [d] (QmC u)):=f u g (e (Qs6 u) t) func436
def Qk8(h:D.e)(i:Int)(j:Int):I AH:=Qe (fun k ((f,b,c,_),e,_)=>cd (c<(e.FX.length:Int)) (TG (fun((l,m,n,_),o,_)=>k ((l,m,(X (n+1)),()),o,())) fun g=>TN e.FX c fun a=>cd (a.a=0) (cd (a.A=f) (cd (a.v<=b) (cd (b<a.To) sT (g ((f,b,c,()),e,()))) (g ((f,b,c,()),e,()))) (g ((f,b,c,()),e,()))) (g ((f,b,c,()),e,()))) sF) u ((i,j,0,()),h,())
def Qs7:o 437 (s [t13,d,d] [h] (Qk8 u)):=f u (c g (m [.n 1,.n 2,.r 3 .e,.n 7] (c g (c (j [.n 1,.n 2,.r 3 .e,.n 7] g) g)))) t func437
def QpL(h:D.E)(l:Int)(m:Int):I (Int×Int):=TN h.f l fun i=>Qe (fun n ((c,a,_),g,e,_)=>cd (0<=a) (TG (fun((o,p,_),q,r,_)=>n ((o,(X (p - 1)),()),q,r,())) fun f=>TN e.Fr a fun j=>V (QmC u g j c) fun b=>cd (0<=b) (V (Qk8 u e b c) fun k=>J k (f ((c,a,()),g,e,())) (some (a,b))) (f ((c,a,()),g,e,()))) (some ((-1),(-1)))) u ((m,(X ((i.Fr.length:Int) - 1)),()),h,i,())
def Qve:o 424 (s [tO,d,d] [d,d] (QpL u)):=f u (n 2 (m [.n 2,.r 3 .E,.r 8 .e,.n 9] (c g (c (j [.n 2,.r 3 .E,.r 8 .e,.n 9] g) g)))) (e (Qvd u) (e (Qs7 u) t)) func424
def Qk9(h:Y D.s)(i:Int)(j:Int):I Int:=Qe (fun k ((b,f,c,e,_),_)=>cd (e<(b.length:Int)) (TG (fun((l,m,n,o,_),_)=>k ((l,m,n,(X (o+1)),()),())) fun g=>TN b e fun a=>cd (c<a.v) (g ((b,f,c,e,()),())) (cd (a.To<=c) (g ((b,f,c,e,()),())) (cd (a.a=1) (g ((b,a.A,c,e,()),())) (cd (a.a=2) (cd (f=a.A) (g ((b,a.B,c,e,()),())) (cd (a.a=2) (cd (f=a.B) (g ((b,a.A,c,e,()),())) (g ((b,f,c,e,()),()))) (g ((b,f,c,e,()),())))) (cd (a.a=2) (cd (f=a.B) (g ((b,a.A,c,e,()),())) (g ((b,f,c,e,()),()))) (g ((b,f,c,e,()),()))))))) (some f)) u ((h,i,j,0,()),())
def Qs8:o 425 (s [l .s,d,d] [d] (Qk9 u)):=f u (c g (m [.l 0 .s,.n 1,.n 2,.n 7] (c g (c (j [.l 0 .s,.n 1,.n 2,.n 7] g) g)))) t func425
def Qs9(a:D.E)(b:Int)(c:Int):I Int:=V (QpL u a b c) fun(h,e)=>TN a.f b fun f=>V (Qk9 u f.FX e c) fun g=>some g
def Qvf:o 401 (s [tO,d,d] [d] (Qs9 u)):=f u g (e (Qve u) (e (Qs8 u) t)) func401
def QpM(a:D.E)(b:Int)(c:Int):I Int:=V (QxI u a b c) fun e=>J (!e) (some (-1)) (V (Qs9 u a b c) fun f=>some f)
def Qvg:o 371 (s [tO,d,d] [d] (QpM u)):=f u g (e (QxJ u) (e (Qvf u) t)) func371
def QmD(a:D.E)(b:Int)(c:Int):I Int:=V (QpM u a b c) fun e=>some e
def Qvh:o 358 (s [tO,d,d] [d] (QmD u)):=f u g (e (Qvg u) t) func358
def QdJ(p0:D.E)(p1:D.b)(p2:Y D.FS)(p3:Int):I (Y Int):=Qe (fun L0 ((f,g,i,h,_),c,e,_)=>cd (h<(f.length:Int)) (TG (fun((a7,a8,a9,b0,_),b1,b2,_)=>L0 ((a7,a8,a9,(X (b0+1)),()),b1,b2,())) fun b=>TN f h fun a=>cd (a.a=0) (V (QH u a.Fd 0 (X ((c.k.length:Int) - 1))) fun b3=>J b3 (V (VV u i a.Fd) fun b4=>b ((f,g,b4,h,()),c,e,())) (cd (a.a=1) (V (QH u a.Fd 0 (X ((c.f.length:Int) - 1))) fun b5=>J b5 (V (QmD u c a.Fd g) fun aD=>cd (0<=aD) (V (VV u i aD) fun b6=>b ((f,g,b6,h,()),c,e,())) (b ((f,g,i,h,()),c,e,()))) (cd (a.a=2) (V (QH u a.Fd 0 (X ((e.t.length:Int) - 1))) fun b7=>J b7 (Qe (fun b8 ((G,H,zE,zG,q,_),zH,m,r,_)=>TN m.t r.Fd fun b9=>cd (q<(b9.r.length:Int)) (TG (fun((bA,bB,bC,bD,bE,_),bF,bG,bH,_)=>b8 ((bA,bB,bC,bD,(X (bE+1)),()),bF,bG,bH,())) fun aE=>TN m.t r.Fd fun bI=>TN bI.r q fun bJ=>V (QH u bJ 0 (X ((zH.k.length:Int) - 1))) fun bK=>J bK (TN m.t r.Fd fun bL=>TN bL.r q fun bM=>V (VV u zE bM) fun bN=>aE ((G,H,bN,zG,q,()),zH,m,r,())) (aE ((G,H,zE,zG,q,()),zH,m,r,()))) (b ((G,H,zE,zG,()),zH,m,()))) u ((f,g,i,h,0,()),c,e,a,())) (b ((f,g,i,h,()),c,e,()))) (b ((f,g,i,h,()),c,e,())))) (cd (a.a=2) (V (QH u a.Fd 0 (X ((e.t.length:Int) - 1))) fun bO=>J bO (Qe (fun bP ((L,zD,zI,W,s,_),E,n,t,_)=>TN n.t t.Fd fun bQ=>cd (s<(bQ.r.length:Int)) (TG (fun((bR,bS,bT,bU,bV,_),bW,bX,bY,_)=>bP ((bR,bS,bT,bU,(X (bV+1)),()),bW,bX,bY,())) fun aF=>TN n.t t.Fd fun c0=>TN c0.r s fun c1=>V (QH u c1 0 (X ((E.k.length:Int) - 1))) fun c2=>J c2 (TN n.t t.Fd fun c3=>TN c3.r s fun c4=>V (VV u zI c4) fun c5=>aF ((L,zD,c5,W,s,()),E,n,t,())) (aF ((L,zD,zI,W,s,()),E,n,t,()))) (b ((L,zD,zI,W,()),E,n,()))) u ((f,g,i,h,0,()),c,e,a,())) (b ((f,g,i,h,()),c,e,()))) (b ((f,g,i,h,()),c,e,()))))) (cd (a.a=1) (V (QH u a.Fd 0 (X ((c.f.length:Int) - 1))) fun c6=>J c6 (V (QmD u c a.Fd g) fun aG=>cd (0<=aG) (V (VV u i aG) fun c7=>b ((f,g,c7,h,()),c,e,())) (b ((f,g,i,h,()),c,e,()))) (cd (a.a=2) (V (QH u a.Fd 0 (X ((e.t.length:Int) - 1))) fun c8=>J c8 (Qe (fun c9 ((Z,a0,aA,aB,v,_),F,o,w,_)=>TN o.t w.Fd fun cA=>cd (v<(cA.r.length:Int)) (TG (fun((cB,cC,cD,cE,cF,_),cG,cH,cI,_)=>c9 ((cB,cC,cD,cE,(X (cF+1)),()),cG,cH,cI,())) fun aH=>TN o.t w.Fd fun cJ=>TN cJ.r v fun cL=>V (QH u cL 0 (X ((F.k.length:Int) - 1))) fun cM=>J cM (TN o.t w.Fd fun cN=>TN cN.r v fun cO=>V (VV u aA cO) fun aI=>aH ((Z,a0,aI,aB,v,()),F,o,w,())) (aH ((Z,a0,aA,aB,v,()),F,o,w,()))) (b ((Z,a0,aA,aB,()),F,o,()))) u ((f,g,i,h,0,()),c,e,a,())) (b ((f,g,i,h,()),c,e,()))) (b ((f,g,i,h,()),c,e,())))) (cd (a.a=2) (V (QH u a.Fd 0 (X ((e.t.length:Int) - 1))) fun aJ=>J aJ (Qe (fun aK ((y,z,A,B,k,_),p,j,l,_)=>TN j.t l.Fd fun aL=>cd (k<(aL.r.length:Int)) (TG (fun((aM,aN,aO,aP,aQ,_),aR,aS,aT,_)=>aK ((aM,aN,aO,aP,(X (aQ+1)),()),aR,aS,aT,())) fun aC=>TN j.t l.Fd fun aU=>TN aU.r k fun aV=>V (QH u aV 0 (X ((p.k.length:Int) - 1))) fun aW=>J aW (TN j.t l.Fd fun aX=>TN aX.r k fun aY=>V (VV u A aY) fun aZ=>aC ((y,z,aZ,B,k,()),p,j,l,())) (aC ((y,z,A,B,k,()),p,j,l,()))) (b ((y,z,A,B,()),p,j,()))) u ((f,g,i,h,0,()),c,e,a,())) (b ((f,g,i,h,()),c,e,()))) (b ((f,g,i,h,()),c,e,()))))) (some i)) u ((p2,p3,[],0,()),p0,p1,())
def QpO:o 339 (s [tO,L,l .FS,d] [lI] (QdJ u)):=f u (n 2 (m [.l 2 .FS,.n 3,.r 4 .E,.r 5 .b,.s 9 lI,.n 10] (c g (c (j [.l 2 .FS,.n 3,.r 4 .E,.r 5 .b,.s 9 lI,.n 10] (.one (c g (.one (n 5 (m [.l 2 .FS,.n 3,.r 4 .E,.r 5 .b,.s 9 lI,.n 10,.r 11 .FS,.n 13] (c g (c (j [.l 2 .FS,.n 3,.r 4 .E,.r 5 .b,.s 9 lI,.n 10,.r 11 .FS,.n 13] g) g)))))))) g)))) (e (ZE u) (e (QmE u) (e (Qvh u) t))) func339
def Qmz(u:Nat)(a:Int)(b:Int):I AH:=cd (0<=a) (cd (a<=8589934592) (cd (a<=b) (cd (b<=8589934592) (cd ((X (b - a))<=34560000) sT sF) sF) sF) sF) sF
def QrD:o 372 (s [d,d] [h] (Qmz u)):=f u g t func372
def QiZ(a:D.E)(b:Int)(c:Int)(e:Int):I Int:=TG (fun(_,_)=>some 0) fun f=>V (UK u a) fun g=>cd (g≠0) (some 8) (cd (b<0) (some 3) (cd ((a.k.length:Int)<=b) (some 3) (V (Qmz u c e) fun h=>J (!h) (some 1) (f ((),())))))
def QrM:o 359 (s [tO,d,d,d] [d] (QiZ u)):=f u (c g (c (j [] g) g)) (e (QcY u) (e (QrD u) t)) func359
def QbM(a:D.E)(e:Int)(b:Int)(f:AH):I AH:=V (QiZ u a e b b) fun g=>cd (g≠0) sF (TN a.k e fun c=>TN a.FL c.q fun h=>V (Qoj u h c.Fl b) fun i=>J i (J f (J c.F1 sT sF) sF) sT)
def QkJ:o 340 (s [tO,d,d,h] [h] (QbM u)):=f u g (e (QrM u) (e (QrC u) t)) func340
def Qlb(zD:D.E)(zG:D.b)(b:D.Page):I (D.Page×Int):=V (UM u zG b) fun a0=>J (!a0) (some (z1,8)) (V (Qh4 u b) fun(j,a2)=>J (!a2) (some (z1,9)) (cd (200<=(b.P.length:Int)) (some (z1,5)) (V (QbN u b) fun a=>cd (b.p=2) (some ((D.Page.mk a.S a.W a.R a.FB j 0 a.By a.FR (max j b.FT) a.z a.FP a.P a.g a.h),0)) (TN zG.j b.W fun L=>V (Qi0 u L b.FB) fun(zI,a6,a7)=>J (!a7) (some ((D.Page.mk a.S a.W a.R a.FB a.FQ 3 a.By a.FR (max j b.FT) a.z a.FP a.P a.g a.h),0)) (TN L.Steps zI fun a8=>V (QdJ u zD zG a8.Fk j) fun a9=>Qe (fun W ((B,k,e,f,_),zH,l,m,(n,o,p,E,q,r,s,t,v,w,y,_),z,(g,h,_),i,F,A,c,_)=>cd (f<(e.length:Int)) (TG (fun((Z,aA,aB,aC,_),aD,aE,aF,(aG,aH,aI,aJ,aK,aL,aM,aN,aO,aP,aQ,_),aR,(aS,aT,_),aU,aV,aW,aX,_)=>W ((Z,aA,aB,(X (aC+1)),()),aD,aE,aF,(aG,aH,aI,aJ,aK,aL,aM,aN,aO,aP,aQ,()),aR,(aS,aT,()),aU,aV,aW,aX,())) fun G=>TN e f fun aY=>TN z.Steps k fun aZ=>V (QbM u zH aY B aZ.Fv) fun b0=>J b0 (TN e f fun H=>TO (c.length+[H].length) 34359738368 (G ((B,k,e,f,()),zH,l,m,(n,o,p,E,q,r,s,t,v,w,y,()),z,(g,h,()),i,F,A,(c++[H]),()))) (G ((B,k,e,f,()),zH,l,m,(n,o,p,E,q,r,s,t,v,w,y,()),z,(g,h,()),i,F,A,c,()))) (TO (i.length+[(D.R.mk g h c)].length) 34359738368 (TG (fun(_,bG,(b1,b2,b3,b4,b5,b6,b7,b8,b9,bA,bB,bC,_),bD,bE,_)=>some ((D.Page.mk b1 b2 b3 b4 b5 b6 b7 b8 b9 bA bB bD bC bE),0)) fun zE=>cd (0<(c.length:Int)) (TN z.Steps k fun bF=>zE ((),m,(n,o,p,(X (l.FB+1)),(X (q+bF.Fz)),r,s,t,v,w,y,[],()),(i++[(D.R.mk g h c)]),A,())) (zE ((),m,(n,o,p,(X (l.FB+1)),q,r,s,t,v,w,y,[],()),(i++[(D.R.mk g h c)]),A,()))))) u ((j,zI,a9,0,()),zD,b,z1,(a.S,a.W,a.R,a.FB,a.FQ,a.p,a.By,a.FR,(max j b.FT),a.z,a.FP,()),L,(b.FB,j,()),a.P,a.g,a.h,[],()))))))
def Qte:o 301 (s [tO,L,E] [E,d] (Qlb u)):=f u (n 13 (c (c g (.one (.loop [r 3,r 5,r 6,G 8,r 10,r 11,G 12,r 15,(16,lI),G 17] [w 1003 .E,w 1005 .Page,w 1006 .Page,(1010,.box bI0),w 1011 .W,(1015,.box [v,v,.own 1108]),p 1038025 .R,p 1038030 .int,p 1038033 .int,p 1108 .int] (c g (c (.TG [r 3,r 5,r 6,G 8,r 10,r 11,G 12,r 15,(16,lI),G 17] [w 1003 .E,w 1005 .Page,w 1006 .Page,(1010,.box bI0),w 1011 .W,(1015,.box [v,v,.own 1108]),p 1038025 .R,p 1038030 .int,p 1038033 .int,p 1108 .int] g) g))))) (c (.frz [1108] g) (c (j [.r 6 .Page,.s 10 (.one (.TM 1010))] g [(1010,.box [v,v,v,v,v,v,v,v,v,v,v,.own 1038025,.TQ .int,.own 1038033]),p 1038025 .R,p 1038033 .int]) g)))) (e (Qar u) (e (Qc0 u) (e (QdK u) (e (Qtb u) (e (QpO u) (e (QkJ u) t)))))) func301
def QpT(n:D.E)(f:D.b)(g:D.Page)(o:Int):I (D.Page×Int):=V (UM u f g) fun p=>J (!p) (some (z1,8)) (V (QbN u g) fun q=>Qe (fun r ((h,_),s,t,a,v,_)=>V (Qh4 u a) fun(w,y)=>TG (fun((i,_),b,c,j,k,_)=>V (Qlb u b c j) fun(l,e)=>cd (e≠0) (some (z1,e)) (r ((i,()),b,c,l,k,()))) fun m=>J y (cd (h<w) (some (a,0)) (m ((h,()),s,t,a,v,()))) (some (a,0))) u ((o,()),n,f,q,z1,()))
def Qvi:o 216 (s [tO,L,E,d] [E,d] (QpT u)):=f u (n 3 (.one (k [.n 3,.r 4 .E,.r 5 .b,.r 6 .Page,.r 8 .Page] (.one (c g (c (j [.n 3,.r 4 .E,.r 5 .b,.r 6 .Page,.r 8 .Page] g) g)))))) (e (Qar u) (e (Qc0 u) (e (QdK u) (e (Qte u) t)))) func216
def Qev(a:D.Page)(b:D.Z):I Int:=V (Qh4 u a) fun(n,o)=>TG (fun(_,_)=>some 0) fun l=>cd (b.At<a.FT) (some 6) (J o (cd (n<=b.At) (some 6) (TG (fun((p,_),i,k,_)=>J p (some 9) (TG (fun((q,_),_)=>J q (some 5) (l ((),()))) fun g=>cd (64<=(i.h.length:Int)) (g (((decide (64<=(i.h.length:Int))),()),())) (cd (k.a=3) (cd (4<=i.z) (g ((true,()),())) (cd (k.a=4) (cd (4<=i.FP) (g ((true,()),())) (cd (200<=(i.P.length:Int)) (g ((true,()),())) (g ((false,()),())))) (g ((false,()),())))) (cd (k.a=4) (cd (4<=i.FP) (g ((true,()),())) (cd (200<=(i.P.length:Int)) (g ((true,()),())) (g ((false,()),())))) (g ((false,()),())))))) fun h=>cd (a.p=4) (h (((decide (a.p=4)),()),a,b,())) (cd (a.p=3) (cd (b.a≠5) (h ((true,()),a,b,())) (cd (a.p=1) (cd (b.a=2) (h ((true,()),a,b,())) (h ((false,()),a,b,()))) (h ((false,()),a,b,())))) (cd (a.p=1) (cd (b.a=2) (h ((true,()),a,b,())) (h ((false,()),a,b,()))) (h ((false,()),a,b,())))))) (TG (fun((r,_),f,j,_)=>J r (some 9) (TG (fun((m,_),_)=>J m (some 5) (l ((),()))) fun c=>cd (64<=(f.h.length:Int)) (c (((decide (64<=(f.h.length:Int))),()),())) (cd (j.a=3) (cd (4<=f.z) (c ((true,()),())) (cd (j.a=4) (cd (4<=f.FP) (c ((true,()),())) (cd (200<=(f.P.length:Int)) (c ((true,()),())) (c ((false,()),())))) (c ((false,()),())))) (cd (j.a=4) (cd (4<=f.FP) (c ((true,()),())) (cd (200<=(f.P.length:Int)) (c ((true,()),())) (c ((false,()),())))) (c ((false,()),())))))) fun e=>cd (a.p=4) (e (((decide (a.p=4)),()),a,b,())) (cd (a.p=3) (cd (b.a≠5) (e ((true,()),a,b,())) (cd (a.p=1) (cd (b.a=2) (e ((true,()),a,b,())) (e ((false,()),a,b,()))) (e ((false,()),a,b,())))) (cd (a.p=1) (cd (b.a=2) (e ((true,()),a,b,())) (e ((false,()),a,b,()))) (e ((false,()),a,b,()))))))
def QnE:o 302 (s [E,t12] [d] (Qev u)):=f u (n 2 (c (j [] (.one (n 2 (c (j [.r 2 .Page,.r 3 .Z,.s 27 h] g) (c g (c (j [.s 47 h] g) g)))))) g)) (e (QdK u) t) func302
def QgS(u:Nat)(a:D.Page):I (Y Int):=cd ((a.P.length:Int)=0) (some []) (TN a.P (X ((a.P.length:Int) - 1)) fun b=>TO b.k.length 34359738368 (some b.k))
def QpS:o 303 (s [E] [lI] (QgS u)):=f u g t func303
def QgR(p0:D.E)(p1:D.b)(H:D.Page)(zE:D.Z):I (D.Page×Int):=TG (fun(_,e,b,t,_)=>cd (b.Page≠e.S) (some (z1,3)) (V (QbN u e) fun a=>V (Qes u e.h b.S) fun a4=>J a4 (some (a,0)) (V (Qev u e b) fun zG=>cd (zG≠0) (some (z1,zG)) (TO (a.h.length+[b.S].length) 34359738368 (TG (fun(_,a6,(a7,a8,a9,L,zD,zI,W,Z,aA,aB,aC,aD,_),aE,aF,_)=>some ((D.Page.mk a7 a8 a9 L zD zI W Z aA aB aC aE aD aF),0)) fun c=>cd (b.a=1) (cd (e.p=1) (c ((),t,(a.S,a.W,a.R,a.FB,a.FQ,a.p,a.By,a.FR,e.FT,a.z,a.FP,a.g,()),a.P,(a.h++[b.S]),())) (c ((),t,(a.S,a.W,a.R,a.FB,a.FQ,1,b.Q,a.FR,b.At,a.z,a.FP,a.g,()),a.P,(a.h++[b.S]),()))) (cd (b.a=2) (V (QgS u e) fun B=>TG (fun((E,_),aG,aH,aI,(aJ,aK,aL,aM,aN,aO,aP,aQ,aR,aS,aT,aU,_),aV,aW,_)=>Qe (fun aX ((v,F,w,_),z,A,g,(h,i,j,k,y,l,m,n,o,p,q,f,_),r,s,_)=>cd (w<(v.length:Int)) (TG (fun((aY,aZ,b0,_),b1,b2,b3,(b4,b5,b6,b7,b8,b9,bA,bB,bC,bD,bE,bF,_),bG,bH,_)=>aX ((aY,aZ,(X (b0+1)),()),b1,b2,b3,(b4,b5,b6,b7,b8,b9,bA,bB,bC,bD,bE,bF,()),bG,bH,())) fun zH=>J F (TN v w fun bI=>V (Qes u f bI) fun bJ=>J bJ (zH ((v,true,w,()),z,A,g,(h,i,j,k,y,l,m,n,o,p,q,f,()),r,s,())) (zH ((v,false,w,()),z,A,g,(h,i,j,k,y,l,m,n,o,p,q,f,()),r,s,()))) (zH ((v,false,w,()),z,A,g,(h,i,j,k,y,l,m,n,o,p,q,f,()),r,s,()))) (J F (cd (z.p=0) (c ((),g,(h,i,j,k,A.At,l,m,n,o,p,q,f,()),r,s,())) (c ((),g,(h,i,j,k,y,l,m,n,o,p,q,f,()),r,s,()))) (c ((),g,(h,i,j,k,y,l,m,n,o,p,q,f,()),r,s,())))) u ((E,(decide (0<(E.length:Int))),0,()),aG,aH,aI,(aJ,aK,aL,aM,aN,aO,aP,aQ,aR,aS,aT,aU,()),aV,aW,())) fun G=>V (Qes u B b.Q) fun bK=>J bK (V (VV u a.g b.Q) fun bL=>G ((B,()),e,b,t,(a.S,a.W,a.R,a.FB,a.FQ,a.p,a.By,a.FR,b.At,a.z,a.FP,bL,()),a.P,(a.h++[b.S]),())) (G ((B,()),e,b,t,(a.S,a.W,a.R,a.FB,a.FQ,a.p,a.By,a.FR,b.At,a.z,a.FP,a.g,()),a.P,(a.h++[b.S]),()))) (cd (b.a=3) (c ((),t,(a.S,a.W,a.R,a.FB,a.FQ,2,b.Q,(X (b.At+b.Fw)),b.At,(X (e.z+1)),a.FP,a.g,()),a.P,(a.h++[b.S]),())) (cd (b.a=4) (TO (a.P.length+[(D.R.mk (-1) b.At [b.Fw])].length) 34359738368 (c ((),t,(a.S,a.W,a.R,a.FB,(X (b.At+600)),0,a.By,a.FR,b.At,a.z,(X (e.FP+1)),[],()),(a.P++[(D.R.mk (-1) b.At [b.Fw])]),(a.h++[b.S]),()))) (cd (b.a=5) (c ((),t,(a.S,a.W,a.R,a.FB,a.FQ,4,b.Q,a.FR,b.At,a.z,a.FP,a.g,()),a.P,(a.h++[b.S]),())) (c ((),t,(a.S,a.W,a.R,a.FB,a.FQ,a.p,a.By,a.FR,b.At,a.z,a.FP,a.g,()),a.P,(a.h++[b.S]),()))))))))))) fun bM=>V (UM u p1 H) fun bN=>J bN (V (Qf1 u zE) fun bO=>J bO (bM ((),H,zE,z1,())) (some (z1,8))) (some (z1,8))
def QpR:o 218 (s [tO,L,E,t12] [E,d] (QgR u)):=f u (c g (c (j [.r 6 .Page,.r 7 .Z,.r 8 .Page] g) (n 5 (c (j [.r 8 .Page,.s 10 (.one (.TM 1010))] (c g (.one (n 3 (c (c g (c (j [.r 6 .Page,.r 7 .Z,.r 8 .Page,.s 10 (.one (.TM 1010)),.s 12 lI] g [(1010,.box bI1),p 1033025 .R,p 1033033 .int]) (c g (m [.r 6 .Page,.r 7 .Z,.r 8 .Page,.s 10 (.one (.TM 1010)),.s 12 lI,.s 13 h,.n 14] (c g (c (j [.r 6 .Page,.r 7 .Z,.r 8 .Page,.s 10 (.one (.TM 1010)),.s 12 lI,.s 13 h,.n 14] g [(1010,.box bI1),p 1033025 .R,p 1033033 .int]) g)) [(1010,.box bI1),p 1033025 .R,p 1033033 .int])))) g)))) [(1010,.box bI1),p 1033025 .R,p 1033033 .int]) g)))) (e (QgP u) (e (Qar u) (e (Qc0 u) (e (Qks u) (e (QnE u) (e (QpS u) (e (QmE u) t))))))) func218
def QpN(u:Nat)(a:D.E)(e:Int)(f:Y D.s):I D.E:=TO a.f.length 34359738368 (TK e fun b=>TP b a.f.length (V a.f[b]? fun c=>some (D.E.mk a.FL a.k a.o (List.set a.f b (D.e.mk c.Name c.Fr f)))))
def Qta:o 219 (s [tO,d,l .s] [tO] (QpN u)):=f u g t func219
def QiY(a:D.E)(b:Int)(j:D.s):I (D.E×Int):=TG (fun((e,_),f,g,m,_)=>TN f.f e fun c=>TO c.FX.length 34359738368 (TO (c.FX.length+[g].length) 34359738368 (V (QpN u f e (c.FX++[g])) fun h=>V (UK u h) fun i=>cd (i≠0) (some (z8,i)) (some (h,0))))) fun k=>V (UK u a) fun l=>cd (l≠0) (some (z8,8)) (cd (b<0) (some (z8,3)) (cd ((a.f.length:Int)<=b) (some (z8,3)) (k ((b,()),a,j,z8,()))))
def QrL:o 143 (s [tO,d,.st .s] [tO,d] (QiY u)):=f u (c g (c (j [.n 1,.r 3 .E,.r 5 .s,.r 6 .E] g) g)) (e (QcY u) (e (Qta u) t)) func143
end
noncomputable section
open fk Tryz
abbrev bJ0:Y Sh:=[kI,.TQ .q,.TQ .Q,.TQ .m,.TQ .e,.TQ .Fc,.TQ .W,.own 101,kI,kI,.own 102,.own 103]
variable (u:Nat)
def Z6(a:D.F)(p:Int):I (D.Page×AH):=Qe (fun q ((i,f,_),(r,s,t,v,w,y,z,j,k,_),l,b,c,e,_)=>cd (f<(b.length:Int)) (TK f fun g=>TP g b.length (V b[g]? fun m=>cd (m.S=i) (TK f fun h=>TP h b.length (V b[h]? fun n=>V (QbN u n) fun o=>TF b a.G (TF c a.h (TF e a.Calls (some (o,true)))))) (q ((i,(X (f+1)),()),(r,s,t,v,w,y,z,j,k,()),l,b,c,e,())))) (TF b a.G (TF c a.h (TF e a.Calls (some (z1,false)))))) u ((p,0,()),(a.FC,a.E.FL,a.E.k,a.E.o,a.E.f,a.b.t,a.b.j,a.FE,a.Fence,()),z1,a.G,a.h,a.Calls,())
def Vb:o 30 (Ql [.agg bJ0,d] [p 101 .Page,p 102 .int,p 103 .Call] [E,h] [] [101,102,103] (D.Page×AH) kz22 (fun x y=>Z6 u (D.F.mk x.1.1 (D.E.mk x.1.2.1 x.1.2.2.1 x.1.2.2.2.1 x.1.2.2.2.2.1) (D.b.mk x.1.2.2.2.2.2.1 x.1.2.2.2.2.2.2.1) y.1 x.1.2.2.2.2.2.2.2.1 x.1.2.2.2.2.2.2.2.2.1 y.2.1 y.2.2.1) x.2.1)):=i u (c g (lp [G 1,r 2,r 4,G 6] [(1002,.box bJ0),w 1004 .Page,p 101 .Page,p 102 .int,p 103 .Call] g)) kz23 (e (Qar u) t) func30
def XY(b:D.F)(p1:D.Page):I D.F:=Qe (fun L0 ((g,_),(o,p,q,r,s,t,v,w,e,_),c,j,a,h,f,_)=>cd (g<(a.length:Int)) (TG (fun((y,_),(z,A,B,zH,E,F,G,H,zE,_),zG,L,zD,zI,W,_)=>L0 (((X (y+1)),()),(z,A,B,zH,E,F,G,H,zE,()),zG,L,zD,zI,W,())) fun k=>TK g fun l=>TP l a.length (V a[l]? fun Z=>cd (Z.S=c.S) (TK g fun m=>TP m a.length (V a[m]? fun a0=>V (QdM u c (a0.P.length:Int) e) fun n=>TO (f.length+n.length) 34359738368 (TK g fun i=>TP i a.length (V a[i]? fun aA=>k ((g,()),(o,p,q,r,s,t,v,w,e,()),c,j,(List.set a i c),h,(f++n),()))))) (k ((g,()),(o,p,q,r,s,t,v,w,e,()),c,j,a,h,f,())))) (some (D.F.mk o (D.E.mk p q r s) (D.b.mk t v) a w e h f))) u ((0,()),(b.FC,b.E.FL,b.E.k,b.E.o,b.E.f,b.b.t,b.b.j,b.FE,b.Fence,()),p1,z2,b.G,b.h,b.Calls,())
def Qbm:o 217 (Ql [.agg bJ0,E] [p 101 .Page,p 102 .int,p 103 .Call] [.agg bJ0] [p 101 .Page,p 102 .int,p 103 .Call] [] D.F kz6 (fun x y=>XY u (D.F.mk x.1.1 (D.E.mk x.1.2.1 x.1.2.2.1 x.1.2.2.2.1 x.1.2.2.2.2.1) (D.b.mk x.1.2.2.2.2.2.1 x.1.2.2.2.2.2.2.1) y.1 x.1.2.2.2.2.2.2.2.1 x.1.2.2.2.2.2.2.2.2.1 y.2.1 y.2.2.1) x.2.1)):=i u (c g (lp [r 2,r 3,r 4,G 5] [(1002,.box bJ0),w 1003 .Page,w 1004 .F,p 101 .Page,p 102 .int,p 103 .Call] (c g (c (.TG [r 2,r 3,r 4,G 5] [(1002,.box bJ0),w 1003 .Page,w 1004 .F,p 101 .Page,p 102 .int,p 103 .Call] g) g)))) kz14 (e (Qf4 u) t) func217
def Yl(a:D.F)(b:Int)(c:Int):I D.F:=V (Z6 u a b) fun(e,f)=>J (!f) (some a) (V (QpT u a.E a.b e c) fun(g,h)=>cd (h≠0) (some a) (V (XY u a g) fun i=>some i))
def Vz:o 141 (Ql [.agg bJ0,d,d] [p 101 .Page,p 102 .int,p 103 .Call] [.agg bJ0] [p 101 .Page,p 102 .int,p 103 .Call] [] D.F kz6 (fun x y=>Yl u (D.F.mk x.1.1 (D.E.mk x.1.2.1 x.1.2.2.1 x.1.2.2.2.1 x.1.2.2.2.2.1) (D.b.mk x.1.2.2.2.2.2.1 x.1.2.2.2.2.2.2.1) y.1 x.1.2.2.2.2.2.2.2.1 x.1.2.2.2.2.2.2.2.2.1 y.2.1 y.2.2.1) x.2.1 x.2.2.1)):=i u g kz14 (e (Vb u) (e (Qvi u) (e (Qbm u) t))) func141
def WN(c:D.F)(zH:D.Op)(E:Int)(p3:AH):I (D.F×Int):=J p3 (some (c,4)) (cd (64<=(c.G.length:Int)) (some (c,5)) (V (QmF u c.b zH.Page zH.W E) fun(a0,F)=>cd (F≠0) (some (c,F)) (TG (fun((a2,B,_),(a4,a5,a6,a7,a8,a9,G,H,zE,_),aQ,a,b,zG,L,_)=>TO (b.length+[a].length) 34359738368 (TK (X (B+1)) fun e=>TO e (b++[a]).length (TK B fun g=>TO g (b++[a]).length (chk (b++[a]).length (b++[a]).length (chk (b++[a]).length (b++[a]).length (TO e (b++[a]).length (TO g e (TK B fun j=>TP j ((List.take e (b++[a]))++(List.take ((b++[a]).length - e) (List.drop g (b++[a])))).length (V (GetElem?.getElem? ((List.take e (b++[a]))++(List.take ((b++[a]).length - e) (List.drop g (b++[a])))) j) fun aR=>V (Yl u (D.F.mk a4 (D.E.mk a5 a6 a7 a8) (D.b.mk a9 G) (List.set ((List.take e (b++[a]))++(List.take ((b++[a]).length - e) (List.drop g (b++[a])))) j a) H zE zG L) a.S a2) fun zD=>some (zD,0)))))))))) fun z=>Qe (fun zI ((k,h,_),(l,m,n,o,p,q,r,s,t,_),v,i,f,w,y,_)=>TG (fun((W,Z,_),(aA,aB,aC,aD,aE,aF,aG,aH,aI,_),aJ,aK,aL,aM,aN,_)=>zI ((W,(X (Z+1)),()),(aA,aB,aC,aD,aE,aF,aG,aH,aI,()),aJ,aK,aL,aM,aN,())) fun aO=>cd (h<(f.length:Int)) (TK h fun A=>TP A f.length (V f[A]? fun aP=>cd (aP.S<i.S) (aO ((k,h,()),(l,m,n,o,p,q,r,s,t,()),v,i,f,w,y,())) (z ((k,h,()),(l,m,n,o,p,q,r,s,t,()),v,i,f,w,y,())))) (z ((k,h,()),(l,m,n,o,p,q,r,s,t,()),v,i,f,w,y,()))) u ((E,0,()),(c.FC,c.E.FL,c.E.k,c.E.o,c.E.f,c.b.t,c.b.j,c.FE,c.Fence,()),z2,a0,c.G,c.h,c.Calls,()))))
def Qf5:o 140 (Ql [.agg bJ0,t6,d,h] [p 101 .Page,p 102 .int,p 103 .Call] [.agg bJ0,d] [p 101 .Page,p 102 .int,p 103 .Call] [] (D.F×Int) kz3 (fun x y=>WN u (D.F.mk x.1.1 (D.E.mk x.1.2.1 x.1.2.2.1 x.1.2.2.2.1 x.1.2.2.2.2.1) (D.b.mk x.1.2.2.2.2.2.1 x.1.2.2.2.2.2.2.1) y.1 x.1.2.2.2.2.2.2.2.1 x.1.2.2.2.2.2.2.2.2.1 y.2.1 y.2.2.1) x.2.1 x.2.2.1 x.2.2.2.1)):=i u (n 6 (c (.TG [G 2,r 4,r 8,r 10,G 12] [(1004,.box bJ0),w 1008 .F,w 1010 .Page,p 101 .Page,p 102 .int,p 103 .Call] (.one (.loop [G 2,r 4,r 8,r 10,G 12] [(1004,.box bJ0),w 1008 .F,w 1010 .Page,p 101 .Page,p 102 .int,p 103 .Call] (c (.TG [G 2,r 4,r 8,r 10,G 12] [(1004,.box bJ0),w 1008 .F,w 1010 .Page,p 101 .Page,p 102 .int,p 103 .Call] g) g)))) g)) kz7 (e (Vz u) (e (Qok u) t)) func140
def Wg(c:D.F)(a:D.Z)(e:Int):I (D.F×Int):=V (Z6 u c a.Page) fun(k,g)=>J (!g) (some (c,3)) (V (Yl u c a.Page e) fun b=>V (Z6 u b a.Page) fun(h,l)=>V (QgR u b.E b.b h (D.Z.mk a.S a.Page a.Q a.a a.Fw e)) fun(i,f)=>cd (f≠0) (some (b,f)) (V (XY u b i) fun j=>some (j,0)))
def Qfa:o 142 (Ql [.agg bJ0,t12,d] [p 101 .Page,p 102 .int,p 103 .Call] [.agg bJ0,d] [p 101 .Page,p 102 .int,p 103 .Call] [] (D.F×Int) kz3 (fun x y=>Wg u (D.F.mk x.1.1 (D.E.mk x.1.2.1 x.1.2.2.1 x.1.2.2.2.1 x.1.2.2.2.2.1) (D.b.mk x.1.2.2.2.2.2.1 x.1.2.2.2.2.2.2.1) y.1 x.1.2.2.2.2.2.2.2.1 x.1.2.2.2.2.2.2.2.2.1 y.2.1 y.2.2.1) x.2.1 x.2.2.1)):=i u g kz7 (e (Vb u) (e (Vz u) (e (Qbm u) (e (QpR u) t)))) func142
def Yk(a:D.F)(c:D.Op)(p2:Int):I (D.F×Int):=V (Z6 u a c.Page) fun(a0,a1)=>TG (fun(_,(a2,a3,a4,a5,a6,a7,a8,a9,aT,_),bP,aU,aV,aW,_)=>some ((D.F.mk a2 (D.E.mk a3 a4 a5 a6) (D.b.mk a7 a8) aU a9 aT aV aW),0)) fun s=>cd (c.a=1) (V (WN u a c p2 a1) fun(aX,aY)=>some (aX,aY)) (cd (c.a=2) (cd (c.Fence≠(X (a.Fence+1))) (some (a,23)) (s ((),(a.FC,a.E.FL,a.E.k,a.E.o,a.E.f,a.b.t,a.b.j,c.Region,c.Fence,()),z2,a.G,a.h,a.Calls,()))) (cd (c.a=3) (TG (fun((aH,aZ,_),(t,v,w,y,z,A,B,zH,E,_),aI,aJ,F,G,H,zE,_)=>J (!aZ) (some ((D.F.mk t (D.E.mk v w y z) (D.b.mk A B) G zH E H zE),3)) (V (Qh4 u F) fun(aK,aL)=>TG (fun((aM,b0,b1,b2,_),(f,g,h,i,j,k,l,m,n,_),aN,b3,o,p,q,_)=>TG (fun((b4,_),(b5,b6,b7,b8,b9,bA,bB,bC,bD,_),bE,bQ,bF,bG,bH,_)=>V (Yl u (D.F.mk b5 (D.E.mk b6 b7 b8 b9) (D.b.mk bA bB) bF bC bD bG bH) bE.Page b4) fun bI=>some (bI,0)) fun bJ=>J b1 (cd (aM<b0) (some ((D.F.mk f (D.E.mk g h i j) (D.b.mk k l) o m n p q),9)) (cd (b2≠aN.K) (some ((D.F.mk f (D.E.mk g h i j) (D.b.mk k l) o m n p q),9)) (bJ ((aM,()),(f,g,h,i,j,k,l,m,n,()),aN,b3,o,p,q,())))) (some ((D.F.mk f (D.E.mk g h i j) (D.b.mk k l) o m n p q),9))) fun aO=>cd (F.p=2) (aO ((aH,aK,aL,(-1),()),(t,v,w,y,z,A,B,zH,E,()),aI,aJ,G,H,zE,())) (aO ((aH,aK,aL,F.FB,()),(t,v,w,y,z,A,B,zH,E,()),aI,aJ,G,H,zE,())))) fun bK=>cd (c.Region≠a.FE) (some (a,23)) (cd (c.Fence≠a.Fence) (some (a,23)) (bK ((p2,a1,()),(a.FC,a.E.FL,a.E.k,a.E.o,a.E.f,a.b.t,a.b.j,a.FE,a.Fence,()),c,z2,a0,a.G,a.h,a.Calls,())))) (cd (c.a=4) (V (Wg u a c.Z p2) fun(bL,bM)=>some (bL,bM)) (cd (c.a=5) (Qe (fun bN ((aP,zG,_),(L,zD,zI,W,Z,aA,aB,aC,aD,_),aE,aQ,e,aF,aG,_)=>cd (zG<(e.length:Int)) (TK zG fun aR=>TP aR e.length (V e[aR]? fun bO=>V (Yl u (D.F.mk L (D.E.mk zD zI W Z) (D.b.mk aA aB) e aC aD aF aG) bO.S aP) fun b=>bN ((aP,(X (zG+1)),()),(b.FC,b.E.FL,b.E.k,b.E.o,b.E.f,b.b.t,b.b.j,b.FE,b.Fence,()),aE,aQ,b.G,b.h,b.Calls,()))) (V (QiY u (D.E.mk zD zI W Z) aE.e aE.s) fun(r,aS)=>cd (aS≠0) (some ((D.F.mk L (D.E.mk zD zI W Z) (D.b.mk aA aB) e aC aD aF aG),aS)) (s ((),(L,r.FL,r.k,r.o,r.f,aA,aB,aC,aD,()),aQ,e,aF,aG,())))) u ((p2,0,()),(a.FC,a.E.FL,a.E.k,a.E.o,a.E.f,a.b.t,a.b.j,a.FE,a.Fence,()),c,z2,a.G,a.h,a.Calls,())) (s ((),(a.FC,a.E.FL,a.E.k,a.E.o,a.E.f,a.b.t,a.b.j,a.FE,a.Fence,()),z2,a.G,a.h,a.Calls,()))))))
def Qe9:o 82 (Ql [.agg bJ0,t6,d] [p 101 .Page,p 102 .int,p 103 .Call] [.agg bJ0,d] [p 101 .Page,p 102 .int,p 103 .Call] [] (D.F×Int) kz3 (fun x y=>Yk u (D.F.mk x.1.1 (D.E.mk x.1.2.1 x.1.2.2.1 x.1.2.2.2.1 x.1.2.2.2.2.1) (D.b.mk x.1.2.2.2.2.2.1 x.1.2.2.2.2.2.2.1) y.1 x.1.2.2.2.2.2.2.2.1 x.1.2.2.2.2.2.2.2.2.1 y.2.1 y.2.2.1) x.2.1 x.2.2.1)):=i u (n 2 (c (.TG [r 3,r 6] [(1003,.box bJ0),w 1006 .F,p 101 .Page,p 102 .int,p 103 .Call] (c g (.one (n 5 (c (c (.TG [G 2,r 3,r 4,r 6,r 8,(9,h)] [(1003,.box bJ0),w 1004 .Op,w 1006 .F,w 1008 .Page,p 101 .Page,p 102 .int,p 103 .Call] g) (n 3 (c (.TG [G 2,r 3,r 4,r 6,G 10,(11,h),G 12] [(1003,.box bJ0),w 1004 .Op,w 1006 .F,p 101 .Page,p 102 .int,p 103 .Call] g) (c (.TG [G 2,r 3,r 4,r 6] [(1003,.box bJ0),w 1004 .Op,w 1006 .F,p 101 .Page,p 102 .int,p 103 .Call] g) g)))) (n 3 (c (lp [G 2,r 3,r 4,r 6,G 13] [(1003,.box bJ0),w 1004 .Op,w 1006 .F,p 101 .Page,p 102 .int,p 103 .Call] g) g))))))) g)) kz7 (e (Vb u) (e (QdK u) (e (Qf5 u) (e (Vz u) (e (Qfa u) (e (QrL u) t)))))) func82
def Qf2(e:D.F)(f:D.Op):I (D.F×Int):=TG (fun(_,c,b,m,_)=>V (QbO u c) fun a=>V (Qes u c.h b.S) fun g=>J g (some (a,0)) (cd (256<=(c.h.length:Int)) none (TO (a.h.length+[b.S].length) 34359738368 (V (Yk u (D.F.mk (max c.FC b.At) a.E a.b a.G a.FE a.Fence (a.h++[b.S]) a.Calls) b (max c.FC b.At)) fun(h,i)=>some (h,i))))) fun j=>V (Wu u e) fun k=>J k (V (QdL u f) fun l=>J l (j ((),e,f,z2,())) (some (z2,8))) (some (z2,8))
def QrO:o 28 (Ql [H,t6] [] [.agg [v,.TQ .q,.TQ .Q,.TQ .m,.TQ .e,.TQ .Fc,.TQ .W,.own 1018020,v,v,.own 1018025,.own 1018028],d] [p 1018020 .Page,p 1018025 .int,p 1018028 .Call] [] (D.F×Int) kz3 (fun x y=>Qf2 u x.1 x.2.1)):=i u (c g (c (j [.r 2 .F,.r 3 .Op,.r 4 .F] g) g)) (fun a b=>((D.F.mk a.1.1 (D.E.mk a.1.2.1 a.1.2.2.1 a.1.2.2.2.1 a.1.2.2.2.2.1) (D.b.mk a.1.2.2.2.2.2.1 a.1.2.2.2.2.2.2.1) b.1 a.1.2.2.2.2.2.2.2.1 a.1.2.2.2.2.2.2.2.2.1 b.2.1 b.2.2.1),a.2.1)) (e (QgP u) (e (Va u) (e (Qcn u) (e (Qf3 u) (e (Qe9 u) t))))) func28
def QgV(q:D.F)(r:Y D.Op):I (D.F×Y Int):=V (QbO u q) fun s=>Qe (fun t ((a,b,_),g,i,h,_)=>cd (b<(a.length:Int)) (TN a b fun v=>V (Qf2 u g v) fun(j,k)=>TG (fun((l,m,c,_),n,o,e,_)=>TO (e.length+[c].length) 34359738368 (t ((l,(X (m+1)),()),n,o,(e++[c]),()))) fun f=>V (Wu u j) fun p=>J p (f ((a,b,k,()),j,i,h,())) (f ((a,b,k,()),g,i,h,()))) (some (g,h))) u ((r,0,()),s,z2,[],())
def QpV:o 40 (s [H,l .Op] [H,lI] (QgV u)):=f u (n 3 (m [.l 1 .Op,.r 2 .F,.r 4 .F,.o 6 1033 .int,.n 7] (c g (c (.one (c g (c (j [.l 1 .Op,.r 2 .F,.r 4 .F,.o 6 1033 .int,.n 7,.n 9] g) g))) g)))) (e (QrO u) (e (Va u) (e (Qcn u) t))) func40
def Qi9(a:D.d)(b:Int):I (D.F×Int):=V (Qa2 u a) fun c=>J (!c) (some (z2,8)) (V (QH u b 0 (X ((a.H.M.length:Int) - 1))) fun e=>J (!e) (some (z2,3)) (TN a.H.M b fun f=>V (QbQ u f) fun g=>V (QgV u a.FZ g) fun(h,i)=>some (h,0)))
def QmN:o 46 (s [t7,d] [H,d] (Qi9 u)):=f u g (e (Qc4 u) (e (QkK u) (e (QpV u) (e (ZE u) t)))) func46
def Qez(j:Int)(g:D.N)(v:D.Op):I (D.N×Int):=V (YL u j g) fun w=>J (!w) (some (z4,8)) (cd (g.FM≠2) (some (z4,22)) (Qe (fun y ((k,h,_),b,c,i,_)=>cd (h<(b.l.length:Int)) (TN b.l h fun z=>cd (z.Op.S=c.S) (some (z4,4)) (y ((k,(X (h+1)),()),b,c,i,()))) (cd (256<=(b.l.length:Int)) (some (z4,5)) (V (Wh u b) fun a=>TO (a.l.length+[(D.n.mk b.T c)].length) 34359738368 (TK b.S fun e=>TP e a.FH.length (V a.FH[e]? fun A=>TG (fun(_,B,(l,m,n,o,p,_),q,r,s,_)=>some ((D.N.mk l m n o q p r s),0)) fun f=>V (XZ u k) fun t=>cd (t=1) (f ((),i,(a.S,a.T,a.Fh,a.FM,(((a.l++[(D.n.mk b.T c)]).length:Nat):Int),()),(a.l++[(D.n.mk b.T c)]),a.FV,(List.set a.FH e (((a.l++[(D.n.mk b.T c)]).length:Nat):Int)),())) (f ((),i,(a.S,a.T,a.Fh,a.FM,a.i,()),(a.l++[(D.n.mk b.T c)]),a.FV,(List.set a.FH e (((a.l++[(D.n.mk b.T c)]).length:Nat):Int)),()))))))) u ((j,0,()),g,v,z4,())))
def QnG:o 157 (s [d,zG,t6] [zG,d] (Qez u)):=f u (n 3 (c (c g (.one (k [.n 0,.r 4 .N,.r 5 .Op,.r 6 .N,.n 8] g))) (n 4 (c (j [.r 6 .N,.s 9 (.one (.TM 1009))] g [(1009,.box [v,v,v,v,.own 1044005,v,.own 1044008,.own 1044011]),p 1044005 .n,p 1044008 .bool,p 1044011 .int]) g)))) (e (Xs u) (e (V2 u) (e (Uf u) t))) func157
def Qcp(b:D.H)(c:Int)(i:D.Op):I (D.H×Int):=V (VK u b c) fun f=>cd (f≠0) (some (z5,f)) (TN b.FW c fun j=>J j (some (z5,21)) (V (Xb u b) fun a=>TK c fun g=>TP g a.M.length (V a.M[g]? fun k=>V (Qez u (b.M.length:Int) k i) fun(l,h)=>cd (h≠0) (some (z5,h)) (TK c fun e=>TP e a.M.length (V a.M[e]? fun m=>some ((D.H.mk (List.set a.M e l) a.FF a.FW a.Fq),0))))))
def Qhu:o 98 (s [K,d,t6] [K,d] (Qcp u)):=f u g (e (YE u) (e (Vd u) (e (QnG u) t))) func98
def QdQ(b:D.d)(g:Int)(a:D.Op):I (D.d×Int×Int):=TG (fun((h,_),c,e,n,_)=>cd (c.FU=1099511627776) (some (z0,0,5)) (V (Qcp u c.H h e) fun(i,f)=>cd (f≠0) (some (z0,0,f)) (V (QbO u c.FZ) fun j=>some ((D.d.mk j i (X (c.FU+1))),e.S,0)))) fun k=>V (Qa2 u b) fun l=>J l (V (QdL u (D.Op.mk b.FU a.a a.Region a.Fence a.At a.Page a.K a.W a.e a.Z a.s)) fun m=>J m (k ((g,()),b,(D.Op.mk b.FU a.a a.Region a.Fence a.At a.Page a.K a.W a.e a.Z a.s),z0,())) (some (z0,0,8))) (some (z0,0,8))
def Qi8:o 50 (s [t7,d,t6] [t7,d,d] (QdQ u)):=f u (n 2 (c (j [.n 1,.r 3 .d,.r 5 .Op,.r 6 .d] g) g)) (e (Qc4 u) (e (Qcn u) (e (Qf3 u) (e (Qhu u) t)))) func50
def Qcr(a:D.F)(b:Int)(c:Int)(e:Int):I (D.Op×Int):=TG (fun((f,g,h,_),i,o,_)=>some ((D.Op.mk g 2 f (X (i.Fence+1)) h 0 0 0 0 z6 z7),0)) fun j=>V (Wu u a) fun k=>J (!k) (some (z3,8)) (V (QH u b 0 4) fun l=>J l (V (QH u c 1 1099511627776) fun m=>J m (V (QH u e 0 8589934592) fun n=>J n (cd (a.Fence=1048576) (some (z3,5)) (j ((b,c,e,()),a,z3,()))) (some (z3,1))) (some (z3,1))) (some (z3,1)))
def Qkv:o 101 (s [H,d,d,d] [t6,d] (Qcr u)):=f u (c g (c (j [.n 1,.n 2,.n 3,.r 4 .F,.r 8 .Op] g) g)) (e (Va u) (e (ZE u) t)) func101
def Vc(v:D.F)(w:Int):I (Y D.R):=TG (fun(_,y,_)=>some y) fun k=>Qe (fun z ((A,l,_),i,j,_)=>TG (fun((g,b,_),c,a,_)=>TG (fun((m,n,_),o,p,_)=>z ((m,(X (n+1)),()),o,p,())) fun e=>TN c.G b fun q=>V (Qh4 u q) fun(f,r)=>J r (cd (f<=g) (TN c.G b fun h=>TO (a.length+[(D.R.mk h.S f [])].length) 34359738368 (e ((g,b,()),c,(a++[(D.R.mk h.S f [])]),()))) (e ((g,b,()),c,a,()))) (e ((g,b,()),c,a,()))) fun s=>cd (l<(i.G.length:Int)) (V (Wu u i) fun t=>J t (s ((A,l,()),i,j,())) (k ((),j,()))) (k ((),j,()))) u ((w,0,()),v,[],())
def Qhs:o 59 (s [H,d] [l .R] (Vc u)):=f u (n 2 (c (j [.o 5 1045 .R] (c g (.one (k [.n 1,.r 2 .F,.o 5 1045 .R,.n 6] (c (j [.n 1,.r 2 .F,.o 5 1045 .R,.n 6] g) (c (j [.n 1,.r 2 .F,.o 5 1045 .R,.n 6] g) g)))))) g)) (e (Va u) (e (QdK u) t)) func59
def Qb0(k:D.F)(r:Int)(s:Int)(t:Int):I (Y D.Op):=TG (fun((F,G,v,_),w,_)=>V (Vc u w v) fun H=>Qe (fun zE ((y,z,A,l,a,_),c,e,_)=>cd (a<(l.length:Int)) (TN l a fun B=>V (QgU u c B.K) fun(b,zG)=>TG (fun((f,g,h,zH,i,m,_),j,n,o,_)=>TO (o.length+[(D.Op.mk (X (g+i)) 3 f j.Fence h n.S m 0 0 z6 z7)].length) 34359738368 (zE ((f,g,h,zH,(X (i+1)),()),j,(o++[(D.Op.mk (X (g+i)) 3 f j.Fence h n.S m 0 0 z6 z7)]),()))) fun p=>cd (b.p=2) (p ((y,z,A,l,a,(-1),()),c,b,e,())) (p ((y,z,A,l,a,b.FB,()),c,b,e,()))) (some e)) u ((F,G,v,H,0,()),w,[],())) fun E=>V (Qcr u k r s t) fun(L,q)=>cd (q=8) (some []) (cd (q=1) (some []) (cd (r≠k.FE) (some []) (cd (1099511627776<(X (s+(k.G.length:Int)))) (some []) (E ((r,s,t,()),k,())))))
def QpZ:o 102 (s [H,d,d,d] [l .Op] (Qb0 u)):=f u (c g (c (j [.n 1,.n 2,.n 3,.r 4 .F] g) (n 2 (m [.n 1,.n 2,.n 3,.r 4 .F,.o 11 1082 .Op,.l 12 .R,.n 13] (c g (c (.one (n 2 (c (.TG [G 1,G 2,G 3,r 4,(11,.one (.own 1082)),li 12 .R,G 13,r 14,G 16] [w 1004 .F,w 1014 .Page,p 1082 .Op] g) g))) g)))))) (e (QmG u) (e (Qhs u) (e (Qkv u) t))) func102
def Qc5(g:D.N)(h:D.Op):I AH:=Qe (fun i ((c,_),b,a,_)=>cd (c<(b.l.length:Int)) (TG (fun((j,_),k,l,_)=>i (((X (j+1)),()),k,l,())) fun e=>TN b.l c fun f=>cd (f.Op.a=a.a) (cd (a.a=2) (cd (f.Op.Region=a.Region) (TN b.l c fun m=>cd (m.T=b.T) sT (cd (a.a=3) (cd (f.Op.Page=a.Page) (cd (f.Op.K=a.K) sT (e ((c,()),b,a,()))) (e ((c,()),b,a,()))) (e ((c,()),b,a,())))) (cd (a.a=3) (cd (f.Op.Page=a.Page) (cd (f.Op.K=a.K) sT (e ((c,()),b,a,()))) (e ((c,()),b,a,()))) (e ((c,()),b,a,())))) (cd (a.a=3) (cd (f.Op.Page=a.Page) (cd (f.Op.K=a.K) sT (e ((c,()),b,a,()))) (e ((c,()),b,a,()))) (e ((c,()),b,a,())))) (e ((c,()),b,a,()))) sF) u ((g.i,()),g,h,())
def QmO:o 103 (s [zG,t6] [h] (Qc5 u)):=f u (c g (m [.r 2 .N,.r 3 .Op,.n 5] (c g (c (j [.r 2 .N,.r 3 .Op,.n 5] g) g)))) t func103
def Qi7(b:D.d)(a:Int)(h:Int):I (D.d×Int×Int):=V (Qi9 u b a) fun(i,w)=>cd (w≠0) (some (z0,0,w)) (TN b.H.M a fun c=>TN b.H.FW a fun a3=>J a3 (some (z0,0,21)) (cd (c.FM≠2) (some (z0,0,22)) (V (QH u h 0 8589934592) fun a4=>J (!a4) (some (z0,0,1)) (TG (fun((a5,a6,_),v,a8,a9,_)=>V (QbO u v.FZ) fun y=>V (Xb u v.H) fun z=>Qe (fun A ((j,e,k,f,_),n,l,m,_)=>cd (f<(e.length:Int)) (TG (fun((B,zH,E,F,_),G,H,zE,_)=>A ((B,zH,E,(X (F+1)),()),G,H,zE,())) fun o=>TN e f fun zG=>V (Qc5 u l zG) fun L=>J L (o ((j,e,k,f,()),n,l,m,())) (TN e f fun zD=>V (QdQ u m j zD) fun(zI,aB,p)=>cd (p≠0) (some (z0,0,p)) (o ((j,e,(X (k+1)),f,()),n,l,zI,())))) (some (m,k,0))) u ((a5,a6,0,0,()),a8,a9,(D.d.mk y z v.FU),())) fun g=>cd (i.FE≠a) (V (Qcr u i a b.FU h) fun(q,r)=>cd (r≠0) (some (z0,0,r)) (TO [q].length 34359738368 (g ((a,[q],()),b,z0,c,())))) (cd (c.i<(c.l.length:Int)) (V (Qex u c) fun W=>cd (W≠c.T) (V (Qcr u i a b.FU h) fun(s,t)=>cd (t≠0) (some (z0,0,t)) (TO [s].length 34359738368 (g ((a,[s],()),b,z0,c,())))) (V (Qb0 u i a b.FU h) fun Z=>g ((a,Z,()),b,z0,c,()))) (V (Qb0 u i a b.FU h) fun aA=>g ((a,aA,()),b,z0,c,())))))))
def QrS:o 52 (s [t7,d,d] [t7,d,d] (Qi7 u)):=f u (n 6 (c (j [.n 1,.r 3 .d,.r 6 .d,.r 11 .N,.l 12 .Op] g) (n 2 (m [.n 1,.r 6 .d,.r 11 .N,.l 12 .Op,.r 15 .d,.n 16,.n 17] (c g (c (j [.n 1,.r 6 .d,.r 11 .N,.l 12 .Op,.r 15 .d,.n 16,.n 17] g) g)))))) (e (Qcn u) (e (YE u) (e (QmN u) (e (Qi8 u) (e (ZE u) (e (Qh5 u) (e (Qkv u) (e (QpZ u) (e (QmO u) t))))))))) func52
def QbY(v:D.H):I (Int×AH):=TG (fun((w,y,_),_)=>some (w,y)) fun k=>Qe (fun z ((h,i,l,_),j,_)=>TG (fun((e,f,a,_),b,_)=>TG (fun((m,n,o,_),p,_)=>z ((m,n,(X (o+1)),()),p,())) fun c=>TN b.M a fun g=>cd (g.FM=2) (TN b.FW a fun q=>J q (c ((e,f,a,()),b,())) (J f (TN b.M e fun r=>cd (r.T<g.T) (c ((a,true,a,()),b,())) (c ((e,f,a,()),b,()))) (c ((a,true,a,()),b,())))) (c ((e,f,a,()),b,()))) fun s=>cd (l<(j.M.length:Int)) (V (QaZ u j) fun t=>J t (s ((h,i,l,()),j,())) (k ((h,i,()),()))) (k ((h,i,()),()))) u ((0,false,0,()),v,())
def QeB:o 86 (s [K] [d,h] (QbY u)):=f u (n 2 (c (j [.n 4,.s 5 h] (c g (.one (k [.r 1 .H,.n 4,.s 5 h,.n 6] (c (j [.r 1 .H,.n 4,.s 5 h,.n 6] g) (c (j [.r 1 .H,.n 4,.s 5 h,.n 6] g) g)))))) g)) (e (Qa0 u) t) func86
def VS(k:D.y)(b:Int)(c:Int)(e:Int):I (D.Z×D.y):=V (Qb u k 5) fun(f,l)=>V (Qb u l 5) fun(a,g)=>TG (fun(_,q,m,n,_)=>some (m,n)) fun h=>cd ((X (1+a))=3) (V (QR u g [1,60,600,5000]) fun(o,p)=>h ((),z6,(D.Z.mk b c (X (f - 1)) (X (1+a)) o e),p,())) (cd ((X (1+a))=4) (V (Qb u g 4) fun(i,j)=>h ((),z6,(D.Z.mk b c (X (f - 1)) (X (1+a)) i e),j,())) (h ((),z6,(D.Z.mk b c (X (f - 1)) (X (1+a)) 0 e),g,())))
def QhQ:o 145 (Ql [.one (.TM 1),d,d,d] [w 1 .y] [t12] [w 1 .y] [] (D.Z×D.y) kz15 (fun x y=>VS u y.1 x.1 x.2.1 x.2.2.1)):=i u (n 2 (c (j [.r 8 .Z,.r 9 .Z] g [w 1 .y]) g)) kz17 (e (QY u) (e (Yc u) t)) func145
def QaQ(p0:D.y)(f:D.F)(i:Int)(g:Int):I (D.Op×D.y):=V (Qb u p0 5) fun(e,a1)=>V (Qb u a1 3) fun(k,a3)=>V (Qb u a3 3) fun(p,j)=>TG (fun(_,a6,a7,a8,_)=>some (a7,a8)) fun h=>cd ((X (1+e))=1) (V (Qb u j 2) fun(F,G)=>V (Qb u G (X ((X ((f.b.j.length:Int)+1)) - F))) fun(H,zE)=>h ((),z3,(D.Op.mk i (X (1+e)) k f.Fence g (X (1+p)) 0 H 0 z6 z7),zE,())) (cd ((X (1+e))=2) (V (QR u j [1,1,1,0]) fun(zG,L)=>h ((),z3,(D.Op.mk i (X (1+e)) k (X (f.Fence+zG)) g 0 0 0 0 z6 z7),L,())) (cd ((X (1+e))=3) (TG (fun((q,r,_),zD,s,t,c,_)=>TG (fun((zI,W,_),v,l,w,b,_)=>TG (fun(_,Z,m,a,n,_)=>V (QgU u Z a.Page) fun(y,a9)=>J a9 (cd (y.p=2) (h ((),m,(D.Op.mk a.S a.a a.Region a.Fence a.At a.Page (-1) a.W a.e a.Z a.s),n,())) (h ((),m,(D.Op.mk a.S a.a a.Region a.Fence a.At a.Page y.FB a.W a.e a.Z a.s),n,()))) (h ((),m,a,n,()))) fun z=>V (Vc u l zI) fun o=>cd (0<(o.length:Int)) (V (Qb u v (o.length:Int)) fun(aA,aB)=>TN o aA fun aC=>z ((),l,w,(D.Op.mk b.S b.a b.Region b.Fence b.At aC.K b.K b.W b.e b.Z b.s),aB,())) (z ((),l,w,(D.Op.mk b.S b.a b.Region b.Fence b.At W b.K b.W b.e b.Z b.s),v,()))) fun A=>V (Qb u zD 8) fun(aD,B)=>cd (aD=0) (V (Qb u B 3) fun(aE,aF)=>A ((q,r,()),aF,s,t,(D.Op.mk c.S c.a c.Region aE c.At c.Page c.K c.W c.e c.Z c.s),())) (A ((q,r,()),B,s,t,c,()))) fun zH=>V (Qb u j 6) fun(aG,E)=>cd (aG=0) (V (Qb u E 3) fun(aH,aI)=>zH ((g,(X (1+p)),()),aI,f,z3,(D.Op.mk i (X (1+e)) aH f.Fence g 0 0 0 0 z6 z7),())) (zH ((g,(X (1+p)),()),E,f,z3,(D.Op.mk i (X (1+e)) (max f.FE 0) f.Fence g 0 0 0 0 z6 z7),()))) (cd ((X (1+e))=4) (V (Qb u j 30) fun(aJ,aK)=>V (VS u aK (X (1+aJ)) (X (1+p)) g) fun(aL,aM)=>h ((),z3,(D.Op.mk i (X (1+e)) k f.Fence g 0 0 0 0 aL z7),aM,())) (cd ((X (1+e))=5) (V (Qb u j 3) fun(aN,aO)=>V (Xp u aO) fun(aP,aQ)=>h ((),z3,(D.Op.mk i (X (1+e)) k f.Fence g 0 0 0 aN z6 aP),aQ,())) (h ((),z3,(D.Op.mk i (X (1+e)) k f.Fence g 0 0 0 0 z6 z7),j,()))))))
def QfG:o 87 (Ql [.one (.TM 1),H,d,d] [w 1 .y] [t6] [w 1 .y] [] (D.Op×D.y) kz15 (fun x y=>QaQ u y.1 x.1 x.2.1 x.2.2.1)):=i u (n 3 (c (j [.r 8 .Op,.r 9 .Op] (c g (.one (n 5 (c (c g (c (.TG [(0,.one (.TM 1)),G 3,r 5,r 8,r 9,G 10] [w 1 .y,w 1005 .F,w 1008 .Op,w 1009 .Op] g) (c (.TG [(0,.one (.TM 1)),G 3,r 5,r 8,r 9,G 10] [w 1 .y,w 1005 .F,w 1008 .Op,w 1009 .Op] g) (c g (c (j [.r 5 .F,.r 8 .Op,.r 9 .Op] g [w 1 .y]) g))))) g)))) [w 1 .y]) g)) kz17 (e (QY u) (e (QmG u) (e (Yc u) (e (Qhs u) (e (QaR u) (e (QhQ u) t)))))) func87
def Qf6(b:D.H)(c:Int):I (D.H×Int):=V (VK u b c) fun f=>cd (f≠0) (some (z5,f)) (TN b.FW c fun g=>J g (some (z5,9)) (V (Xb u b) fun a=>TK c fun e=>TP e a.FW.length (V a.FW[e]? fun h=>some ((D.H.mk a.M a.FF (List.set a.FW e true) a.Fq),0))))
def Qkt:o 25 (s [K,d] [K,d] (Qf6 u)):=f u g (e (YE u) (e (Vd u) t)) func25
def Qi5(b:D.H):I D.H:=V (QaZ u b) fun c=>J (!c) (some z5) (V (Xb u b) fun a=>some (D.H.mk a.M a.FF a.FW []))
def QmL:o 57 (s [K] [K] (Qi5 u)):=f u g (e (YE u) (e (Qa0 u) t)) func57
def QeA(c:Int)(b:D.N):I (D.N×Int):=V (YL u c b) fun e=>J (!e) (some (z4,8)) (V (Wh u b) fun a=>some ((D.N.mk a.S a.T a.Fh 0 a.l a.i [] []),0))
def QnH:o 107 (s [d,zG] [zG,d] (QeA u)):=f u g (e (V2 u) (e (Uf u) t)) func107
def Qcq(c:D.H)(b:Int):I (D.H×Int):=V (VK u c b) fun g=>cd (g≠0) (some (z5,g)) (TN c.FW b fun i=>J (!i) (some (z5,9)) (V (Xb u c) fun a=>TK b fun e=>TP e a.FW.length (V a.FW[e]? fun m=>TK b fun h=>TP h a.M.length (V a.M[h]? fun j=>V (QeA u (c.M.length:Int) j) fun(k,n)=>TK b fun f=>TP f a.M.length (V a.M[f]? fun l=>some ((D.H.mk (List.set a.M f k) a.FF (List.set a.FW e false) a.Fq),0))))))
def Qhv:o 58 (s [K,d] [K,d] (Qcq u)):=f u g (e (YE u) (e (Vd u) (e (QnH u) t))) func58
def QmK(e:D.H)(a:Int)(b:Int):I (D.H×Int):=V (VK u e a) fun f=>cd (f≠0) (some (z5,f)) (V (QH u b 0 (X ((e.M.length:Int) - 1))) fun g=>J (!g) (some (z5,3)) (cd (a=b) (some (z5,1)) (V (QdP u e.Fq a b) fun h=>J h (some (z5,9)) (V (Xb u e) fun c=>TO (c.Fq.length+[(D.FG.mk (min a b) (max a b))].length) 34359738368 (some ((D.H.mk c.M c.FF c.FW (c.Fq++[(D.FG.mk (min a b) (max a b))])),0))))))
def Qom:o 88 (s [K,d,d] [K,d] (QmK u)):=f u g (e (YE u) (e (ZE u) (e (Vd u) (e (Qf8 u) t)))) func88
def QgZ(b:D.H)(c:Int):I (D.H×Int):=V (Qi6 u b c) fun e=>cd (e≠0) (some (z5,e)) (cd (256<=(b.FF.length:Int)) (some (z5,5)) (V (Xb u b) fun a=>V (Xb u b) fun f=>TK c fun g=>TP g f.FF.length (V f.FF[g]? fun h=>TO (a.FF.length+[h].length) 34359738368 (some ((D.H.mk a.M (a.FF++[h]) a.FW a.Fq),0)))))
def QpY:o 164 (s [K,d] [K,d] (QgZ u)):=f u g (e (YE u) (e (QmM u) t)) func164
def QbE(p0:D.y)(t:D.H):I (D.H×D.y):=V (Qb u p0 (t.M.length:Int)) fun(a0,a1)=>TG (zB:=((Int×Unit)×D.y×D.H×D.H×Unit)) (fun((a2,_),a3,a4,a5,_)=>V (Qb u a3 (a4.FF.length:Int)) fun(a6,a7)=>TG (zB:=((Int×Int×Unit)×D.y×D.H×D.H×Unit)) (fun((a8,a9,_),aB,k,v,_)=>TG (zB:=((Int×Unit)×D.H×D.H×D.H×D.y×Unit)) (fun((aC,_),aD,bD,aE,E,_)=>cd (aC≠0) (some (aD,E)) (some (aE,E))) fun c=>V (Qb u aB 16) fun(l,w)=>cd (l=0) (V (Qf7 u k a8) fun(aF,aG)=>c ((aG,()),k,v,aF,w,())) (TG (zB:=((Int×Int×Int×Int×AH×Unit)×D.y×D.H×D.H×D.H×Unit)) (fun((y,F,G,q,aH,_),z,s,A,H,_)=>J aH (V (Qb u z 60) fun(aI,aJ)=>V (Qcp u s y (D.Op.mk (X (1+aI)) 2 0 0 0 0 0 0 0 z6 z7)) fun(aK,aL)=>c ((aL,()),s,A,aK,aJ,())) (TG (zB:=((Int×Int×Int×Int×AH×Unit)×D.y×D.H×D.H×D.H×Unit)) (fun((g,m,n,a,aM,_),h,e,i,o,_)=>J aM (V (Qc2 u e g) fun(aN,aO)=>c ((aO,()),e,i,aN,h,())) (TG (zB:=((Int×Int×Int×Int×AH×Unit)×D.y×D.H×D.H×D.H×Unit)) (fun((zE,B,zG,r,aP,_),j,b,f,aQ,_)=>J aP (V (Qat u b B) fun(aR,aS)=>c ((aS,()),b,f,aR,j,())) (cd (r=11) (V (Qg0 u b B) fun(aT,aU)=>c ((aU,()),b,f,aT,j,())) (cd (r=12) (V (QgZ u b B) fun(aV,aW)=>c ((aW,()),b,f,aV,j,())) (cd (r=13) (V (Qf6 u b zE) fun(aX,aY)=>c ((aY,()),b,f,aX,j,())) (cd (r=14) (V (Qb u j (b.M.length:Int)) fun(aZ,b0)=>V (Qcq u b aZ) fun(b1,b2)=>c ((b2,()),b,f,b1,b0,())) (cd (r=15) (V (Qi5 u b) fun b3=>V (Qb u j 2) fun(b4,L)=>cd (b4=0) (V (Qb u L (b.M.length:Int)) fun(b5,b6)=>V (QmK u b zE b5) fun(b7,b8)=>c ((b8,()),b,f,b7,b6,())) (c ((zG,()),b,f,b3,L,()))) (c ((zG,()),b,f,aQ,j,())))))))) fun p=>cd (a=5) (p ((g,m,n,a,(decide (a=5)),()),h,e,i,o,())) (cd (a=6) (p ((g,m,n,a,(decide (a=6)),()),h,e,i,o,())) (cd (a=7) (p ((g,m,n,a,(decide (a=7)),()),h,e,i,o,())) (cd (a=8) (p ((g,m,n,a,(decide (a=8)),()),h,e,i,o,())) (cd (a=9) (p ((g,m,n,a,(decide (a=9)),()),h,e,i,o,())) (p ((g,m,n,a,(decide (a=10)),()),h,e,i,o,())))))))) fun zD=>cd (q=3) (zD ((y,F,G,q,(decide (q=3)),()),z,s,A,H,())) (zD ((y,F,G,q,(decide (q=4)),()),z,s,A,H,())))) fun zI=>cd (l=1) (zI ((a8,a9,0,l,(decide (l=1)),()),w,k,v,k,())) (zI ((a8,a9,0,l,(decide (l=2)),()),w,k,v,k,())))) fun W=>V (Qb u a7 2) fun(b9,Z)=>cd (b9=0) (W ((a2,0,()),Z,a4,a5,())) (W ((a2,a6,()),Z,a4,a5,()))) fun zH=>V (QbY u t) fun(bA,bB)=>J bB (V (Qb u a1 3) fun(bC,aA)=>cd (0<bC) (zH ((bA,()),aA,t,z5,())) (zH ((a0,()),aA,t,z5,()))) (zH ((a0,()),a1,t,z5,()))
def QkE:o 109 (Ql [.one (.TM 1),K] [w 1 .y] [K] [w 1 .y] [] (D.H×D.y) kz15 (fun x y=>QbE u y.1 x.1)):=i u (n 2 (c (.TG [(0,.one (.TM 1)),r 3,r 4,G 5] [w 1 .y,w 1003 .H,w 1004 .H] g) (c g (c (.TG [(0,.one (.TM 1)),r 3,r 4,G 5,G 8] [w 1 .y,w 1003 .H,w 1004 .H] g) (c g (c (j [.r 3 .H,.r 4 .H,.r 9 .H,.n 10] (c g (.one (n 2 (c (.TG [(0,.one (.TM 1)),r 3,r 4,G 5,G 8,r 9,G 10,G 38,(47,h)] [w 1 .y,w 1003 .H,w 1004 .H,w 1009 .H] g) (c g (c (.TG [(0,.one (.TM 1)),r 3,r 4,G 5,G 8,r 9,G 10,G 38,(60,h)] [w 1 .y,w 1003 .H,w 1004 .H,w 1009 .H] g) (c g (c (.TG [(0,.one (.TM 1)),r 3,r 4,G 5,G 8,r 9,G 10,G 38,(69,h)] [w 1 .y,w 1003 .H,w 1004 .H,w 1009 .H] g) g)))))))) [w 1 .y]) g)))))) kz17 (e (QY u) (e (Qco u) (e (Qkt u) (e (QmL u) (e (Qhv u) (e (Qku u) (e (Qdm u) (e (QeB u) (e (Qom u) (e (Qh6 u) (e (Qhu u) (e (QpY u) t)))))))))))) func109
def Uz(p0:D.y)(m:D.d)(G:Int):I (D.d×Int×D.y):=V (Qb u p0 (m.H.M.length:Int)) fun(H,zE)=>TG (fun((zG,L,_),a4,zD,zI,_)=>V (QR u a4 [0,0,30,300]) fun(W,a8)=>TG (fun((a9,_),Z,aW,aA,_)=>some (Z,a9,aA)) fun b=>V (Qb u a8 8) fun(i,s)=>TG (fun((c,f,j,aB,_),n,g,k,_)=>J aB (V (Qi9 u g f) fun(aC,aX)=>V (QaQ u n aC 1 c) fun(o,p)=>TG (fun((t,aD,_),v,w,aE,y,_)=>V (QdQ u v aD aE) fun(aF,aY,aG)=>cd (aG=0) (b ((t,()),aF,w,y,())) (b ((t,()),v,w,y,()))) fun q=>cd (o.a=3) (V (Qb u p 3) fun(aH,aI)=>q ((c,f,()),g,k,(D.Op.mk 0 1 0 0 c (X (1+aH)) 0 0 0 z6 z7),aI,())) (cd (o.a=2) (V (Qb u p 3) fun(aJ,aK)=>q ((c,f,()),g,k,(D.Op.mk 0 1 0 0 c (X (1+aJ)) 0 0 0 z6 z7),aK,())) (q ((c,f,()),g,k,o,p,())))) (TG (fun((e,z,aL,aM,_),l,a,h,_)=>J aM (V (Qi7 u a z e) fun(aN,aZ,aO)=>cd (aO=0) (b ((e,()),aN,h,l,())) (b ((e,()),a,h,l,()))) (cd (aL=4) (V (Qc2 u a.H z) fun(aP,aQ)=>cd (aQ=0) (V (Qa1 u aP) fun aR=>b ((e,()),(D.d.mk a.FZ aR a.FU),h,l,())) (b ((e,()),a,h,l,()))) (V (QbE u l a.H) fun(A,B)=>V (Qa2 u (D.d.mk a.FZ A a.FU)) fun aS=>J aS (b ((e,()),(D.d.mk a.FZ A a.FU),h,B,())) (b ((e,()),a,h,B,()))))) fun zH=>cd (j=2) (zH ((c,f,j,(decide (j=2)),()),n,g,k,())) (zH ((c,f,j,(decide (j=3)),()),n,g,k,())))) fun E=>cd (i=0) (E (((X (zG+W)),L,i,(decide (i=0)),()),s,zD,zI,())) (E (((X (zG+W)),L,i,(decide (i=1)),()),s,zD,zI,()))) fun r=>V (QbY u m.H) fun(aT,aU)=>J aU (V (Qb u zE 4) fun(aV,F)=>cd (0<aV) (r ((G,aT,()),F,m,z0,())) (r ((G,H,()),F,m,z0,()))) (r ((G,H,()),zE,m,z0,()))
def QiJ:o 60 (Ql [.one (.TM 1),t7,d] [w 1 .y] [t7,d] [w 1 .y] [] (D.d×Int×D.y) kz18 (fun x y=>Uz u y.1 x.1 x.2.1)):=i u (n 2 (c (.TG [(0,.one (.TM 1)),G 2,r 4,r 6,G 8] [w 1 .y,w 1004 .d,w 1006 .d] g) (c g (c (j [.n 2,.r 4 .d,.r 6 .d] (c g (.one (c (.TG [(0,.one (.TM 1)),G 2,r 4,r 6,G 8,G 48,(62,h)] [w 1 .y,w 1004 .d,w 1006 .d] g) (c (n 2 (c (j [.n 2,.r 4 .d,.r 6 .d,.n 8,.r 13 .Op] g [w 1 .y]) g)) (c (.TG [(0,.one (.TM 1)),G 2,r 4,r 6,G 8,G 48,(99,h)] [w 1 .y,w 1004 .d,w 1006 .d] g) g))))) [w 1 .y]) g)))) kz20 (e (QY u) (e (Qco u) (e (Qc3 u) (e (Qc4 u) (e (Yc u) (e (QmN u) (e (Qi8 u) (e (QrS u) (e (QeB u) (e (QfG u) (e (QkE u) t))))))))))) func60
def VT(A:D.y)(i:Int):I (D.d×Int×D.y):=V (VF u A) fun(B,zH)=>V (VE u zH) fun(E,F)=>V (QmH u B E) fun(G,zG)=>V (QR u F [3,3,5,1]) fun(H,zE)=>V (Qp0 u G H) fun(a,L)=>TG (fun((j,k,_),l,m,n,_)=>V (Qb u l (X (j+1))) fun(o,p)=>Qe (fun q ((b,c,_),e,r,f,_)=>cd (0<c) (V (Uz u e f b) fun(s,t,v)=>q ((t,(X (c - 1)),()),v,r,s,())) (some (f,b,e))) u ((k,o,()),p,m,n,())) fun g=>V (Qb u zE (a.H.M.length:Int)) fun(w,h)=>V (QbZ u a.H w) fun(y,z)=>cd (z=0) (g ((i,864000,()),h,z0,(D.d.mk a.FZ y a.FU),())) (g ((i,864000,()),h,z0,a,()))
def QhR:o 13 (Ql [.one (.TM 1),d] [w 1 .y] [t7,d] [w 1 .y] [] (D.d×Int×D.y) kz18 (fun x y=>VT u y.1 x.1)):=i u (n 4 (c (.TG [(0,.one (.TM 1)),G 1,r 4,r 8,G 10] [w 1 .y,w 1004 .d,w 1008 .d] g) (lp [(0,.one (.TM 1)),r 4,r 8,G 10,G 13] [w 1 .y,w 1004 .d,w 1008 .d] g))) kz20 (e (Qol u) (e (Qdy u) (e (Qdx u) (e (QeC u) (e (QY u) (e (Yc u) (e (Qvl u) (e (QiJ u) t)))))))) func13
def Qch(a:D.d)(b:Int):I D.F:=TN a.H.M b fun c=>V (X0 u c) fun e=>V (YX u a.FZ e) fun(f,g)=>some f
def Qhq:o 80 (s [t7,d] [H] (Qch u)):=f u g (e (UB u) (e (Qbo u) t)) func80
def Qen(a:D.d)(b:Int):I (D.F×Int):=V (Xq u a) fun c=>J (!c) (some (z2,8)) (V (QdD u b 0 (X ((a.H.M.length:Int) - 1))) fun e=>J (!e) (some (z2,3)) (V (Qch u a b) fun f=>some (f,0)))
def Qnz:o 27 (s [t7,d] [H,d] (Qen u)):=f u g (e (W1 u) (e (QfO u) (e (Qhq u) t))) func27
def Wf(u:Nat)(a:D.site):I (Y D.n):=TN a.d.H.M a.region fun b=>TK b.i fun c=>TO c b.l.length (TF a a (some (List.drop c b.l)))
def Qe8:o 131 (Ql [.one (.TM 1)] [w 1 .site] [l .n] [] [1] (Y D.n) kz2 (fun x y=>Wf u y.1)):=i u g kz4 t func131
def QgI(u:Nat)(a:Int)(b:Int)(c:Int):I AH:=cd (b<=a) (cd (a<=c) sT sF) sF
def Qs0:o 300 (s [d,d,d] [h] (QgI u)):=f u g t func300
def Qcf(a:D.F)(b:Int)(c:Int)(e:Int):I Int:=V (XJ u a) fun f=>J (!f) (some 8) (TG (fun(_,_)=>some 0) fun g=>V (QgI u b 0 4) fun h=>J h (V (QgI u c 1 1099511627776) fun i=>J i (V (QgI u e 0 8589934592) fun j=>J j (g ((),())) (some 1)) (some 1)) (some 1))
def Qho:o 214 (s [H,d,d,d] [d] (Qcf u)):=f u (n 2 (c (j [] g) g)) (e (VG u) (e (Qs0 u) t)) func214
def Qao(a:D.F)(b:Int)(c:Int)(e:Int):I (D.Op×Int):=V (Qcf u a b c e) fun f=>cd (f≠0) (some (z3,f)) (cd (a.Fence=1048576) (some (z3,5)) (some ((D.Op.mk c 2 b (X (a.Fence+1)) e 0 0 0 0 z6 z7),0)))
def Qny:o 134 (s [H,d,d,d] [t6,d] (Qao u)):=f u g (e (Qho u) t) func134
def QdB(a:D.F)(b:Int):I (D.Page×AH):=V (QjO u a b) fun(c,e)=>J (!e) (some (z1,false)) (TN a.G c fun f=>V (QbX u f) fun g=>some (g,true))
def Qps:o 156 (s [H,d] [E,h] (QdB u)):=f u g (e (QiO u) (e (Qpt u) t)) func156
def UC(j:D.F)(n:Int):I (Y D.R):=V (XJ u j) fun o=>J (!o) (some []) (Qe (fun p ((g,h,i,a,_),b,_)=>cd (a<i) (TG (fun((q,r,s,k,_),l,_)=>p ((q,r,s,(X (k+1)),()),l,())) fun c=>TN h a fun e=>V (WX u e) fun(f,m)=>J m (cd (f<=g) (TO (b.length+[(D.R.mk e.S f [])].length) 34359738368 (c ((g,h,i,a,()),(b++[(D.R.mk e.S f [])]),()))) (c ((g,h,i,a,()),b,()))) (c ((g,h,i,a,()),b,()))) (some b)) u ((n,j.G,(j.G.length:Int),0,()),[],()))
def QkF:o 215 (s [H,d] [l .R] (UC u)):=f u (n 3 (m [.n 1,.o 5 1037 .R,.l 14 .Page,.n 15,.n 16] (n 2 (c (j [.n 1,.o 5 1037 .R,.l 14 .Page,.n 15,.n 16] g) g)))) (e (VG u) (e (Uu u) t)) func215
def QcR(k:D.F)(q:Int)(r:Int)(t:Int):I (Y D.Op):=TG (fun((zG,L,v,_),w,_)=>V (UC u w v) fun y=>Qe (fun zD ((z,A,B,s,c,a,_),e,f,_)=>cd (a<c) (TN s a fun zH=>V (QdB u e zH.K) fun(b,zI)=>TG (fun((g,h,i,l,m,E,F,G,_),j,n,o,_)=>TO (o.length+[(D.Op.mk (X (h+l)) 3 g j.Fence i n.S m 0 0 z6 z7)].length) 34359738368 (zD ((g,h,i,E,F,(X (G+1)),()),j,(o++[(D.Op.mk (X (h+l)) 3 g j.Fence i n.S m 0 0 z6 z7)]),()))) fun p=>cd (b.p=2) (p ((z,A,B,a,(-1),s,c,a,()),e,b,f,())) (p ((z,A,B,a,b.FB,s,c,a,()),e,b,f,()))) (some f)) u ((zG,L,v,y,(y.length:Int),0,()),w,[],())) fun H=>V (Qcf u k q r t) fun zE=>cd (zE≠0) (some []) (cd (q≠k.FE) (some []) (cd (1099511627776<(X (r+(k.G.length:Int)))) (some []) (H ((q,r,t,()),k,()))))
def Qml:o 135 (Ql [H,d,d,d] [] [.one (.own 1069)] [p 1069 .Op] [] (Y D.Op) kz5 (fun x y=>QcR u x.1 x.2.1 x.2.2.1 x.2.2.2.1)):=i u (c g (c (j [.n 1,.n 2,.n 3,.r 4 .F] g) (c g (m [.n 1,.n 2,.n 3,.r 4 .F,.o 9 1069 .Op,.l 37 .R,.n 38,.n 39] (n 2 (c (.one (n 3 (c (.TG [G 1,G 2,G 3,r 4,(9,.one (.own 1069)),G 10,r 12,G 14,li 37 .R,G 38,G 39] [w 1004 .F,w 1012 .Page,p 1069 .Op] g) g))) g)))))) kz8 (e (Qps u) (e (Qho u) (e (QkF u) t))) func135
def Vx(u:Nat)(c:D.n)(a:D.site)(b:Int):I AH:=cd (c.Op.a=2) (cd (c.Op.Region=a.region) (cd (c.T=b) (TF a a (TF b b sT)) (TF a a (TF b b sF))) (TF a a (TF b b sF))) (TF a a (TF b b sF))
def Qeo:o 133 (Ql [.st .n,.one (.TM 101),.one (.TM 103)] [(101,.box [.TM 102]),w 102 .site,w 103 .int] [h] [(101,.box [.TM 102])] [102,103] AH kz24 (fun x y=>Vx u x.1 y.2.1 y.2.2.1)):=i u g kz4 t func133
def Q9(e:Y D.n)(c102:D.site)(c103:Int):I Int:=Qe (fun h ((f,g,a,_),_,b,(c,_),_)=>cd (a<g) (TN f a fun i=>V (Vx u i b c) fun j=>J j (TF b c102 (TF c c103 (some a))) (h ((f,g,(X (a+1)),()),(),b,(c,()),()))) (TF b c102 (TF c c103 (some (-1))))) u ((e,(e.length:Int),0,()),(),c102,(c103,()),())
def XE:o 213 (Ql [l .n,.one (.clo 133 [101,103])] [(101,.box [.TM 102]),w 102 .site,w 103 .int] [d] [(101,.box [.TM 102])] [102,103] Int kz24 (fun x y=>Q9 u x.1 y.2.1 y.2.2.1)):=i u (c g (m [.l 0 .n,.s 1 (.one (.clo 133 [101,103])),.n 7,.n 8] g [(101,.box [.TM 102]),w 102 .site,(103,.box [v])])) kz4 (e (Qeo u) t) func213
def Qr(a:Y D.n)(c102:D.site)(c103:Int):I AH:=V (Q9 u a c102 c103) fun b=>TF c102 c102 (TF c103 c103 (some (decide (0<=b))))
def Y8:o 132 (Ql [l .n,.one (.clo 133 [101,103])] [(101,.box [.TM 102]),w 102 .site,w 103 .int] [h] [(101,.box [.TM 102])] [102,103] AH kz24 (fun x y=>Qr u x.1 y.2.1 y.2.2.1)):=i u g kz4 (e (XE u) t) func132
def WG(u:Nat)(b:D.n)(a:D.Op):I AH:=cd (b.Op.a=3) (cd (b.Op.Page=a.Page) (cd (b.Op.K=a.K) (TF a a sT) (TF a a sF)) (TF a a sF)) (TF a a sF)
def Qdi:o 138 (Ql [.st .n,.one (.TM 101)] [w 101 .Op] [h] [] [101] AH kz2 (fun x y=>WG u x.1 y.1)):=i u g kz4 t func138
def Q0(c:Y D.n)(c101:D.Op):I Int:=Qe (fun g ((e,f,a,_),b,_)=>cd (a<f) (TN e a fun h=>V (WG u h b) fun i=>J i (TF b c101 (some a)) (g ((e,f,(X (a+1)),()),b,()))) (TF b c101 (some (-1)))) u ((c,(c.length:Int),0,()),c101,())
def Xf:o 213 (Ql [l .n,.one (.clo 138 [101])] [w 101 .Op] [d] [] [101] Int kz2 (fun x y=>Q0 u x.1 y.1)):=i u (c g (m [.l 0 .n,.s 1 (.one (.clo 138 [101])),.n 7,.n 8] g [w 101 .Op])) kz4 (e (Qdi u) t) func213
def QV(a:Y D.n)(c101:D.Op):I AH:=V (Q0 u a c101) fun b=>TF c101 c101 (some (decide (0<=b)))
def YU:o 132 (Ql [l .n,.one (.clo 138 [101])] [w 101 .Op] [h] [] [101] AH kz2 (fun x y=>QV u x.1 y.1)):=i u g kz4 (e (Xf u) t) func132
def YK(b:D.Op)(a:Y D.n):I (AH×Y D.n):=V (QV u a b) fun c=>some (c,a)
def UI:o 137 (Ql [t6,.one (.TM 101)] [(101,.box [.TQ .n])] [h] [(101,.box [.TQ .n])] [] (AH×Y D.n) (fun q=>((q.1,()),(q.2,()),())) (fun x y=>YK u x.1 y.1.1)):=i u g (fun a b=>(a.1,b.1.1)) (e (YU u) t) func137
def Zc(b:Y D.Op)(c102:Y D.n):I (Int×Y D.n):=Qe (fun i ((e,c,_),(f,_),a,_)=>cd (c<e) (TK c fun g=>TP g a.length (V a[g]? fun j=>V (YK u j f) fun(k,h)=>J k (TF a b (some (c,h))) (i ((e,(X (c+1)),()),(h,()),a,())))) (TF a b (some ((-1),f)))) u (((b.length:Int),0,()),(c102,()),b,())
def XM:o 110 (Ql [.one (.own 101),.one (.clo 137 [102])] [p 101 .Op,(102,.box [.TQ .n])] [d] [(102,.box [.TQ .n])] [101] (Int×Y D.n) (fun q=>((q.1,()),(q.2,()),())) (fun x y=>Zc u y.1 y.2.1.1)):=i u (c g (lp [(0,.one (.own 101)),(1,.one (.clo 137 [102])),G 7,G 8] [(102,.box [.TQ .n]),p 101 .Op] g)) (fun a b=>(a.1,b.1.1)) (e (UI u) t) func110
def QF(f:Y D.Op)(c102:Y D.n):I (Nat×Nat×Y D.n×Y D.Op):=V (Zc u f c102) fun(m,n)=>cd (m=(-1)) (some (0,f.length,n,f)) (Qe (fun r ((c,g,_),(o,_),a,_)=>cd (g<(a.length:Int)) (TG (fun((s,t,_),(v,_),p,_)=>r ((s,(X (t+1)),()),(v,()),p,())) fun h=>TK g fun i=>TP i a.length (V a[i]? fun j=>V (YK u j o) fun(q,k)=>J (!q) (TK c fun e=>TP e a.length (V a[e]? fun w=>h (((X (c+1)),g,()),(k,()),(List.set a e j),()))) (h ((c,g,()),(k,()),a,())))) (TK c fun b=>TO b a.length (TO b a.length (TO a.length a.length (TK c fun l=>TO l (((List.take b a)++(List.replicate (a.length - b) z3))++(List.drop a.length a)).length (some (0,l,o,(((List.take b a)++(List.replicate (a.length - b) z3))++(List.drop a.length a))))))))) u ((m,(X (m+1)),()),(n,()),f,()))
def XD:o 136 (Ql [.one (.own 101),.one (.clo 137 [102])] [p 101 .Op,(102,.box [.TQ .n])] [.one (.view 101)] [(102,.box [.TQ .n]),p 101 .Op] [] (Nat×Nat×Y D.n×Y D.Op) (fun q=>((q.1,q.2.1,()),(q.2.2.1,()),q.2.2.2,())) (fun x y=>QF u y.1 y.2.1.1)):=i u (n 3 (lp [(0,.one (.own 101)),(1,.one (.clo 137 [102])),G 5,G 6] [(102,.box [.TQ .n]),p 101 .Op] (c g (c (.TG [(0,.one (.own 101)),(1,.one (.clo 137 [102])),G 5,G 6] [(102,.box [.TQ .n]),p 101 .Op] g) g)))) (fun a b=>(a.1,a.2.1,b.1.1,b.2.1)) (e (XM u) (e (UI u) t)) func136
def WM(a:D.site)(e:Int):I (Y D.Op×Int):=V (Qch u a.d a.region) fun c=>TN a.d.H.M a.region fun g=>V (Wf u a) fun b=>TG (fun((q,_),_,h,r,(s,_),_)=>V (QcR u r h.region h.d.FU q) fun t=>V (QF u t s) fun(v,w,y,i)=>TF h a (some ((List.drop v (List.take w i)),0))) fun f=>cd (c.FE≠a.region) (V (Qr u b a g.T) fun j=>J j (TF a a (some ([],0))) (V (Qao u c a.region a.d.FU e) fun(k,l)=>TF a a (some ([k],l)))) (cd (0<(b.length:Int)) (TN b (X ((b.length:Int) - 1)) fun m=>cd (m.T≠g.T) (V (Qr u b a g.T) fun n=>J n (TF a a (some ([],0))) (V (Qao u c a.region a.d.FU e) fun(o,p)=>TF a a (some ([o],p)))) (f ((e,()),(),a,c,(b,()),()))) (f ((e,()),(),a,c,(b,()),())))
def QfP:o 79 (Ql [.one (.TM 1),d] [w 1 .site] [l .Op,d] [] [1] (Y D.Op×Int) kz22 (fun x y=>WM u y.1 x.1)):=i u (n 3 (c (.TG [G 1,r 2,r 6,r 8] [(1002,.box [.TM 1]),w 1 .site,w 1006 .F,(1008,.box [.TQ .n])] g) g)) kz23 (e (Qhq u) (e (Qe8 u) (e (Y8 u) (e (Qny u) (e (Qml u) (e (XD u) t)))))) func79
def QcS(a:D.d)(f:Int)(m:Int):I (D.d×Int×Int):=V (Xq u a) fun y=>J (!y) (some (z0,0,8)) (V (QdD u f 0 (X ((a.H.M.length:Int) - 1))) fun z=>J (!z) (some (z0,0,3)) (TN a.H.FW f fun A=>J A (some (z0,0,21)) (TN a.H.M f fun B=>cd (B.FM≠2) (some (z0,0,22)) (V (QdD u m 0 8589934592) fun zH=>J (!zH) (some (z0,0,1)) (V (Qcg u a f) fun n=>V (WM u n m) fun(E,F)=>TG (fun((o,_),G,g,_)=>cd (o≠0) (some (z0,0,o)) (some (g.d,g.count,0))) fun h=>Qe (fun p ((i,b,j,_),c,e,_)=>TG (fun((k,l,_),q,r,_)=>TN k l fun s=>V (Xr u r s) fun(t,v)=>p ((k,t,(X (l+1)),()),q,v,())) fun w=>cd (j<(i.length:Int)) (cd (b=0) (w ((i,j,()),c,e,())) (h ((b,()),c,e,()))) (h ((b,()),c,e,()))) u ((E,F,0,()),z0,n,()))))))
def Qmo:o 26 (s [t7,d,d] [t7,d,d] (QcS u)):=f u (n 4 (c (j [.r 6 .d,.s 9 (.one (.TM 1054019)),.n 11] (c g (.one (k [.r 6 .d,.s 9 (.one (.TM 1054019)),.l 10 .Op,.n 11,.n 12] (c (j [.r 6 .d,.s 9 (.one (.TM 1054019)),.l 10 .Op,.n 12] g [w 1054019 .site]) g) [w 1054019 .site]))) [w 1054019 .site]) g)) (e (W1 u) (e (Qhp u) (e (QaY u) (e (QfO u) (e (QfP u) t))))) func26
def Qee(p0:D.y)(s:D.d)(p2:Int):I (D.d×Int×Int×D.y):=V (Qb u p0 (s.H.M.length:Int)) fun(a0,a1)=>TG (fun((a2,a3,_),a4,a5,a6,_)=>V (QR u a4 [0,0,30,300]) fun(a7,a8)=>TG (fun((a9,aB,_),aC,bJ,aD,_)=>some (aC,a9,aB,aD)) fun f=>V (Qb u a8 8) fun(n,B)=>TG (fun((g,k,o,p,aE,_),t,l,q,_)=>J aE (V (Qen u l k) fun(aF,bK)=>V (QaQ u t aF 1 g) fun(v,w)=>TG (fun((zH,aG,aH,_),E,F,aI,G,_)=>V (UH u E aG aI) fun(aJ,aK,aL)=>cd (aL=0) (f ((zH,aK,()),aJ,F,G,())) (f ((zH,aH,()),E,F,G,()))) fun y=>cd (v.a=3) (V (Qb u w 3) fun(aM,aN)=>y ((g,k,o,()),l,q,(D.Op.mk 0 1 0 0 g (X (1+aM)) 0 0 0 z6 z7),aN,())) (cd (v.a=2) (V (Qb u w 3) fun(aO,aP)=>y ((g,k,o,()),l,q,(D.Op.mk 0 1 0 0 g (X (1+aO)) 0 0 0 z6 z7),aP,())) (y ((g,k,o,()),l,q,v,w,())))) (TG (fun((b,r,c,H,aQ,_),h,a,e,_)=>J aQ (V (QcS u a r b) fun(aR,bL,aS)=>cd (aS=0) (f ((b,c,()),aR,e,h,())) (f ((b,c,()),a,e,h,()))) (cd (H=4) (V (Qc2 u a.H r) fun(aT,aU)=>cd (aU=0) (V (Qa1 u aT) fun aV=>f ((b,c,()),(D.d.mk a.FZ aV a.FU),e,h,())) (f ((b,c,()),a,e,h,()))) (cd (H=5) (V (QbZ u a.H r) fun(aW,aX)=>cd (aX=0) (f ((b,c,()),(D.d.mk a.FZ aW a.FU),e,h,())) (f ((b,c,()),a,e,h,()))) (V (Qb u h (a.H.FF.length:Int)) fun(zE,aY)=>TG (fun((zG,L,aZ,_),z,zD,b0,zI,_)=>cd (aZ=0) (f ((zG,L,()),(D.d.mk z.FZ b0 z.FU),zD,zI,())) (f ((zG,L,()),z,zD,zI,()))) fun i=>V (Qb u aY 6) fun(m,j)=>cd (m=0) (V (Qf6 u a.H r) fun(b1,b2)=>i ((b,c,b2,()),a,e,b1,j,())) (cd (m=1) (V (Qb u j (a.H.M.length:Int)) fun(b3,b4)=>V (Qcq u a.H b3) fun(b5,b6)=>i ((b,c,b6,()),a,e,b5,b4,())) (cd (m=2) (V (Qb u j (a.H.M.length:Int)) fun(b7,b8)=>V (QmK u a.H r b7) fun(b9,bA)=>i ((b,c,bA,()),a,e,b9,b8,())) (cd (m=3) (V (Qi5 u a.H) fun bB=>i ((b,c,0,()),a,e,bB,j,())) (cd (m=4) (V (Qg0 u a.H zE) fun(bC,bD)=>i ((b,c,bD,()),a,e,bC,j,())) (cd (m=5) (V (Qat u a.H zE) fun(bE,bF)=>i ((b,c,bF,()),a,e,bE,j,())) (i ((b,c,0,()),a,e,a.H,j,()))))))))))) fun W=>cd (p=2) (W ((g,k,o,p,(decide (p=2)),()),t,l,q,())) (W ((g,k,o,p,(decide (p=3)),()),t,l,q,())))) fun Z=>cd (n=0) (Z (((X (a2+a7)),a3,0,n,(decide (n=0)),()),B,a5,a6,())) (Z (((X (a2+a7)),a3,0,n,(decide (n=1)),()),B,a5,a6,()))) fun A=>V (QbY u s.H) fun(bG,bH)=>J bH (V (Qb u a1 4) fun(bI,aA)=>cd (0<bI) (A ((p2,bG,()),aA,s,z0,())) (A ((p2,a0,()),aA,s,z0,()))) (A ((p2,a0,()),a1,s,z0,()))
def Qnn:o 34 (Ql [.one (.TM 1),t7,d] [w 1 .y] [t7,d,d] [w 1 .y] [] (D.d×Int×Int×D.y) (fun q=>((q.1,q.2.1,q.2.2.1,()),q.2.2.2,())) (fun x y=>Qee u y.1 x.1 x.2.1)):=i u (n 2 (c (.TG [(0,.one (.TM 1)),G 2,r 4,r 6,G 9] [w 1 .y,w 1004 .d,w 1006 .d] g) (n 2 (c (j [.n 2,.r 4 .d,.r 6 .d,.n 12] (c g (.one (c (.TG [(0,.one (.TM 1)),G 2,r 4,r 6,G 9,G 12,G 54,(121,h)] [w 1 .y,w 1004 .d,w 1006 .d] g) (c (n 2 (c (j [.n 2,.r 4 .d,.r 6 .d,.n 9,.n 12,.r 15 .Op] g [w 1 .y]) g)) (c (.TG [(0,.one (.TM 1)),G 2,r 4,r 6,G 9,G 12,G 54,(159,h)] [w 1 .y,w 1004 .d,w 1006 .d] g) (n 8 (c (j [.n 2,.r 4 .d,.r 6 .d,.n 12,.r 26 .H,.n 27] g [w 1 .y]) g))))))) [w 1 .y]) g)))) (fun a b=>(a.1,a.2.1,a.2.2.1,b.1)) (e (QeC u) (e (Qe0 u) (e (QY u) (e (Qco u) (e (Qc3 u) (e (Qkt u) (e (Qmo u) (e (Qnz u) (e (Yc u) (e (QmL u) (e (Qhv u) (e (Qdm u) (e (QeB u) (e (QfG u) (e (Qom u) (e (Qh6 u) t)))))))))))))))) func34
def VQ(zI:Y Int):I AH:=V (QjK u zI) fun a0=>J (!a0) (V (Qgz u) fun a1=>some a1) (V (QfH u zI) fun a2=>V (VT u a2 6) fun(a3,a4,a5)=>Qe (fun L6 ((a7,W,_),a9,f,_)=>cd (W<10) (V (Qee u a9 f a7) fun(Z,a6,aZ,aA)=>L6 ((a6,(X (W+1)),()),aA,Z,())) (V (QaX u f) fun s=>TG (fun(_,g,_)=>Qe (fun aB ((t,v,h,_),a,_)=>cd (h<v) (TN t h fun i=>Qe (fun aC ((b,j,k,l,m,n,c,_),o,p,_)=>cd (c<n) (TG (fun((aD,aE,aF,aG,aH,aI,aJ,_),aK,aL,_)=>aC ((aD,aE,aF,aG,aH,aI,(X (aJ+1)),()),aK,aL,())) fun w=>TN m c fun e=>TG (fun((y,z,A,B,zH,E,F,_),G,H,aM,_)=>cd (0<=aM.K) (w (((X (y+1)),z,A,B,zH,E,F,()),G,H,())) (w ((y,z,A,B,zH,E,F,()),G,H,()))) fun zE=>cd (0<=e.K) (cd (e.K≠b) sF (zE ((b,j,k,l,m,n,c,()),o,p,e,()))) (zE ((b,j,k,l,m,n,c,()),o,p,e,()))) (cd (b≠p.FB) sF (aB ((j,k,(X (l+1)),()),o,())))) u ((0,t,v,h,i.P,(i.P.length:Int),0,()),a,i,())) (Qe (fun aN ((aO,zG,L,q,_),zD,_)=>cd (q<L) (TN zG q fun r=>TG (fun((aP,aQ,aR,_),aS,aT,_)=>aN ((aT.Fence,aP,aQ,(X (aR+1)),()),aS,())) fun aU=>cd (r.Fence<aO) sF (cd (zD.Fence<r.Fence) sF (aU ((zG,L,q,()),zD,r,())))) (V (Qgz u) fun aV=>some aV)) u ((0,a.Calls,(a.Calls.length:Int),0,()),a,()))) u ((g.G,(g.G.length:Int),0,()),g,())) fun aW=>V (Qa2 u f) fun aX=>J aX (V (Wu u s) fun aY=>J aY (aW ((),s,())) sF) sF)) u ((a4,0,()),a5,a3,()))
def QhM:o 7 (sB [lI] fun x=>VQ u x.1):=i u (n 4 (c (c g (.one (.loop [(3,.one (.TM 1022005)),r 4,G 5,G 6] [w 1022005 .y,w 1004 .d] g))) (c g (c (j [.r 7 .F] g) (c (c g (.one (k [.r 7 .F,.l 50 .Page,.n 51,.n 52] (n 2 (c (.one (n 2 (m [.r 7 .F,.r 9 .Page,.n 10,.l 50 .Page,.n 51,.n 52,.l 57 .R,.n 58,.n 59] (n 2 (c (j [.r 7 .F,.r 9 .Page,.n 10,.l 50 .Page,.n 51,.n 52,.l 57 .R,.n 58,.n 59] (.one (c g (c (j [.r 7 .F,.r 9 .Page,.n 10,.r 12 .R,.l 50 .Page,.n 51,.n 52,.l 57 .R,.n 58,.n 59] g) g)))) g))))) g))))) (c g (m [.r 7 .F,.n 13,.l 84 .Call,.n 85,.n 86] (n 2 (c (.one (c g (c (j [.r 7 .F,.r 15 .Call,.l 84 .Call,.n 85,.n 86] g) g))) g))))))))) kz4 (e (Qpk u) (e (Qpg u) (e (Qkl u) (e (QhR u) (e (Qc4 u) (e (QfN u) (e (Qnn u) (e (Va u) t)))))))) func7
end
open Go AM IntKind
noncomputable section
open fk Tryz
variable (u:Nat)
end
end Go.Proofs.YtlllfgmajglnhaaGreat
set_option linter.unusedSimpArgs false
set_option autoImplicit true
set_option relaxedAutoImplicit true
namespace Go.Proofs.YtlllfgmajglnhaaGreat
open Go AM
section
def Qm3{a n:Int}(hn:1<=n): -n<a.tmod n/\a.tmod n<n:=by
 rcases(show a<0\/0<=a by omega)with h|h
 .have e:a.tmod n = - ((-a).tmod n):=by rw[EW,EX]
  rw[e,Bq U]
  have h1:=Cq (-a) (b:=n) U
  have h2:=Cp (-a) (b:=n) U
  omega
 .rw[Bq h]
  have h1:=Cq a (b:=n) U
  have h2:=Cp a (b:=n) U
  omega
structure Qz (L:Y Int) (d:D.y):Prop where
 l:d.L=L
 lo:0<=d.At
 hi:d.At<=(L.length:Int)
def Qpo(hL:L.length<=500)(hd:Qz L d)(hn:n<=1000000):
  Ok (Qb fu d n) fun r=>Qz L r.2/\0<=r.1/\(1<=n->r.1<n)/\(n<1->r.1=0):=by
 unfold Qb AM.TG
 have h0:=hd.lo
 have h1:=hd.hi
 have hl:(d.L.length:Int)=(L.length:Int):=by rw[hd.l]
 refine Ok.ite (fun h=>Ok.s ⟨hd,Al _,fun h=>by show(0:Int)<n;omega,fun _=>rfl⟩) fun h2=>Ok.ite (fun h=>Ok.s ⟨hd,Al _,fun h=>by show(0:Int)<n;omega,fun _=>rfl⟩) fun h3=>?_
 dsimp only
 refine Ok.at hd.lo U (Ok.Z ?_)
 have ht:=Qm3 (a:=O d.L d.At.toNat) (n:=n) U
 rw[Qjo (x:=d.At+1) U U]
 refine Ok.ite (fun h4=>?_) (fun h4=>?_)
 .rw[Qjo U U]
  exact Ok.s ⟨⟨hd.l,by show 0<=d.At+1;omega,by show d.At+1<=_;omega⟩,by dsimp only;omega,fun _=>by dsimp only;omega,fun h=>U⟩
 .exact Ok.s ⟨⟨hd.l,by show 0<=d.At+1;omega,by show d.At+1<=_;omega⟩,by dsimp only;omega,fun _=>by dsimp only;omega,fun h=>U⟩
def nx(hL:L.length<=500)(hd:Qz L d)(h1:1<=n)(hn:n<=1000000):
  Ok (Qb fu d n) fun r=>Qz L r.2/\0<=r.1/\r.1<n:=(Qpo hL hd hn).mono fun r h=>⟨h.1,h.2.1,h.2.2.1 h1⟩
def Qce(hL:L.length<=500)(hd:Qz L d)(hl:1<=l.length)(hl2:l.length<=1000):
  Ok (QR fu d l) fun r=>Qz L r.2/\r.1∈l:=by
 unfold QR
 refine Ok.opt (Qpo hL hd U) fun⟨v,d1⟩ ⟨h1,h2,h3,_⟩=>?_
 have h4:=h3 U
 dsimp only at h2 h4 |-
 exact Ok.at h2 h4 (Ok.s ⟨h1,Qf U⟩)
def Qmj(hL:L.length<=500)(hd:Qz L d):Ok (Xp fu d) fun r=>Qz L r.2/\Qb3 r.1:=by
 unfold Xp
 refine Ok.opt (Qce hL hd Ob Ob) fun⟨a0,d1⟩ ⟨h1,m1⟩=>?_
 dsimp only at h1 m1 |-
 refine Ok.opt (nx hL h1 U U) fun⟨a2,d2⟩ ⟨h2,l2,u2⟩=>?_
 dsimp only at h2 l2 u2 |-
 refine Ok.opt (nx hL h2 U U) fun⟨a4,d3⟩ ⟨h3,l3,u3⟩=>?_
 dsimp only at h3 l3 u3 |-
 refine Ok.opt (Qce hL h3 Ob Ob) fun⟨a6,d4⟩ ⟨h4,m4⟩=>?_
 dsimp only at h4 m4 |-
 simp only[AY,BG,or_false]at m1 m4
 rw[Qc (x:=864000+a0) U,Qc (x:=864000+a0+a6) U]
 refine Ok.j (Ok.ite (fun h=>?_) (fun h=>Ok.ite (fun h'=>?_) (fun h'=>?_)))
 .refine Ok.opt (nx hL h4 U U) fun⟨a7,d5⟩ ⟨h5,l5,u5⟩=>?_
  dsimp only at h5 l5 u5 |-
  rw[Qc (x:=a4+1) U,Qc (x:=a4+1+a7) U,Bq U]
  exact Ok.Z (Ok.s ⟨h5,⟨by dsimp only;omega,.inl (by dsimp only;omega),fun _=>by dsimp only;omega,fun h=>by dsimp only at h;omega,by dsimp only;omega⟩⟩)
 .refine Ok.opt (nx hL h4 U U) fun⟨a7,d5⟩ ⟨h5,l5,u5⟩=>?_
  dsimp only at h5 l5 u5 |-
  rw[Qc (x:=a7 - 1) U]
  exact Ok.s ⟨h5,⟨by dsimp only;omega,by dsimp only;omega,fun h=>by dsimp only at h;omega,fun _=>rfl,by dsimp only;omega⟩⟩
 .exact Ok.s ⟨h4,⟨by dsimp only;omega,.inl (by dsimp only;omega),fun h=>by dsimp only at h;omega,fun _=>rfl,by dsimp only;omega⟩⟩
def Qn[AK α]{l:Y α}(h:i<l.length):l.take i++[O l i]=l.take (i+1):=by
 rw[Cv h]
 simp[O,AQ,AU h]
def VU{P:α->Prop}{l:Y α}{x:α}(h:∀y∈l,P y)(hx:P x):∀y∈l++[x],P y:=fun y hy=>by
 rcases Ah.1 hy with hy|hy
 .exact h y hy
 .rw[Af.1 hy];exact hx
def QA7(hL:L.length<=500)(hd:Qz L d)(hf:10<=fu):Ok (VF fu d) fun r=>Qz L r.2/\Ze 2 r.1:=by
 unfold VF
 refine Ok.opt (Qce hL hd Ob Ob) fun⟨a0,d1⟩ ⟨h1,m1⟩=>?_
 dsimp only at h1 m1 |-
 simp only[AY,BG,or_false]at m1
 refine Ok.loop (fun m x=>x.1.1=Yw/\0<=x.1.2.1/\x.1.2.1<=4/\Qz L x.2.1/\x.2.2.2.1.1=[⟨bZ,a0,[]⟩]/\x.2.2.2.2.1.map (·.Name)=Yw.take x.1.2.1.toNat/\(∀p∈x.2.2.2.2.1,QaB p)/\(4 - x.1.2.1).toNat=m) (m:=4) U
  ⟨rfl,by dsimp only;omega,by dsimp only;omega,h1,rfl,rfl,Ob,rfl⟩ ?_
 rintro m ⟨⟨a3,a4,⟨⟩⟩,a5,⟨⟩,⟨a6,⟨⟩⟩,a7,⟨⟩⟩ ⟨i1,i2,i3,i4,i5,i6,i7,i8⟩ k hk
 dsimp only at i1 i2 i3 i4 i5 i6 i7 i8 |-
 subst i1;subst i5
 refine Ok.ite (fun h4=>?_) (fun h4=>?_)
 .have hlen:Yw.length=4:=rfl
  have hal:a7.length=a4.toNat:=by have:=BD List.length i6;rw[AZ,Ae,hlen]at this;omega
  refine Ok.at U U ?_
  refine Ok.opt (nx hL i4 U U) fun⟨a9,d2⟩ ⟨h2,_⟩=>?_
  dsimp only at h2 |-
  refine Ok.TG (fun y=>y.1.1=Yw/\y.1.2.1=a4/\Qz L y.2.1/\y.2.2.2.1.1=[⟨bZ,a0,[]⟩]/\y.2.2.2.2.1.Name=O Yw a4.toNat/\QaB y.2.2.2.2.1/\y.2.2.2.2.2.1=a7) (fun y hy=>?_) (fun zG hJ=>?_)
  .obtain⟨⟨a11,a12,⟨⟩⟩,a13,⟨⟩,⟨a14,⟨⟩⟩,a15,a16,⟨⟩⟩:=y
   obtain⟨g1,g2,g3,g4,g5,g6,g7⟩:=hy
   dsimp only at g1 g2 g3 g4 g5 g6 g7 |-
   subst g1;subst g2;subst g4;subst g7
   refine Ok.LS ?_
   rw[Qc U]
   refine hk (4 - (a12+1)).toNat _ U ⟨rfl,by dsimp only;omega,by dsimp only;omega,g3,rfl,?_,VU i7 g6,rfl⟩
   dsimp only
   rw[Aw,i6,AR,Ak,g5,Qn (by rw[hlen];omega),show(a12+1).toNat=a12.toNat+1 by omega]
  .refine Ok.opt (nx hL h2 U U) fun⟨a18,d3⟩ ⟨h3,_⟩=>?_
   dsimp only at h3 |-
   refine Ok.ite (fun h5=>?_) (fun h5=>hJ _ ⟨rfl,rfl,h3,rfl,rfl,⟨rfl,⟨rfl,rfl⟩,.inl rfl⟩,rfl⟩)
   refine Ok.opt (Qce hL h3 Ob Ob) fun⟨a20,d4⟩ ⟨h6,m6⟩=>?_
   dsimp only at h6 m6 |-
   refine Ok.opt (Qce hL h6 Ob Ob) fun⟨a22,d5⟩ ⟨h7,m7⟩=>?_
   dsimp only at h7 m7 |-
   simp only[AY,BG,or_false]at m6 m7
   exact hJ _ ⟨rfl,rfl,h7,rfl,rfl,⟨rfl,⟨rfl,rfl⟩,.inr ⟨a20,a22,rfl,m6,m7⟩⟩,rfl⟩
 .have e4:a4=4:=U
  subst e4
  refine Ok.loop (fun m x=>0<=x.1.1/\x.1.1<=2/\Qz L x.2.1/\x.2.2.2.1.1=[⟨bZ,a0,[]⟩]/\x.2.2.2.2.1=a7/\x.2.2.2.2.2.1.map (·.Name)=YS.take x.1.1.toNat/\(∀s∈x.2.2.2.2.2.1,Qfi 2 s)/\(2 - x.1.1).toNat=m) (m:=2) U
   ⟨by dsimp only;omega,by dsimp only;omega,i4,rfl,rfl,rfl,Ob,rfl⟩ ?_
  rintro m2 ⟨⟨a25,⟨⟩⟩,a26,⟨⟩,⟨a27,⟨⟩⟩,a28,a29,⟨⟩⟩ ⟨j1,j2,j3,j4,j5,j6,j7,j8⟩ k2 hk2
  dsimp only at j1 j2 j3 j4 j5 j6 j7 j8 |-
  subst j4;subst j5
  refine Ok.ite (fun h5=>?_) (fun h5=>?_)
  .have hlen:YS.length=2:=rfl
   have hal:a29.length=a25.toNat:=by have:=BD List.length j6;rw[AZ,Ae,hlen]at this;omega
   refine Ok.opt (Qce hL j3 Ob Ob) fun⟨a30,d2⟩ ⟨h2,m2⟩=>?_
   dsimp only at h2 m2 |-
   refine Ok.opt (Qce hL h2 Ob Ob) fun⟨a32,d3⟩ ⟨h3,m3⟩=>?_
   dsimp only at h3 m3 |-
   refine Ok.opt (Qce hL h3 Ob Ob) fun⟨a34,d4⟩ ⟨h4',m4⟩=>?_
   dsimp only at h4' m4 |-
   refine Ok.opt (nx hL h4' U U) fun⟨a36,d5⟩ ⟨h6,l6,u6⟩=>?_
   dsimp only at h6 l6 u6 |-
   refine Ok.opt (nx hL h6 U U) fun⟨a38,d6⟩ ⟨h7,l7,u7⟩=>?_
   dsimp only at h7 l7 u7 |-
   simp only[AY,BG,or_false]at m2 m3 m4
   rw[Qc (x:=1+a36) U,Qc (x:=1+a38) U]
   refine Ok.loop (fun m x=>x.1.1=a25/\0<=x.1.2.1/\Qz L x.2.1/\x.2.2.2.1.1=[⟨bZ,a0,[]⟩]/\x.2.2.2.2.1=(ByteArray.mk #[108],0,a30,a32,a34,1+a36,0,0,())/\x.2.2.2.2.2.1=a28/\x.2.2.2.2.2.2.1=a29/\
    (∀z∈x.2.2.2.2.2.2.2.1,0<=z/\z<4)/\x.1.2.1+(x.2.2.2.2.2.2.2.1.length:Int)=1+a38/\x.1.2.1.toNat=m) (m:=(1+a38).toNat) U ⟨rfl,by dsimp only;omega,h7,rfl,rfl,rfl,rfl,Ob,by dsimp only;simp,rfl⟩ ?_
   rintro m3' ⟨⟨a41,a42,⟨⟩⟩,a43,⟨⟩,⟨a44,⟨⟩⟩,⟨a45,a46,a47,a48,a49,a50,a51,a52,⟨⟩⟩,a53,a54,a55,⟨⟩⟩ ⟨n1,n2,n3,n4,n5,n6,n7,n8,n9,n10⟩ k3 hk3
   dsimp only at n1 n2 n3 n4 n5 n6 n7 n8 n9 n10 |-
   cases n5;subst n1;subst n4;subst n6;subst n7
   refine Ok.ite (fun h8=>?_) (fun h8=>?_)
   .refine Ok.opt (nx hL n3 U U) fun⟨a56,d7⟩ ⟨h9,l9,u9⟩=>?_
    dsimp only at h9 l9 u9 |-
    refine Ok.LS ?_
    rw[Qc U]
    exact hk3 (a42 - 1).toNat _ U ⟨rfl,by dsimp only;omega,h9,rfl,rfl,rfl,rfl,VU n8 ⟨l9,u9⟩,by dsimp only;rw[List.length_append];simp only[Ab,Am];omega,rfl⟩
   .refine Ok.at U (by simp only[Ab,Am];omega) ?_
    refine Ok.opt (nx hL n3 U U) fun⟨a59,d7⟩ ⟨h9,l9,u9⟩=>?_
    dsimp only at h9 l9 u9 |-
    refine Ok.loop (fun m x=>x.1.1=a41/\0<=x.1.2.1/\Qz L x.2.1/\x.2.2.2.1.1=[⟨bZ,a0,[]⟩]/\x.2.2.2.2.1=(O YS a41.toNat,[(⟨ByteArray.mk #[108],0,⟨a30,a32⟩,a34,1+a36,a55,[],0,0⟩:D.u)],())/\x.2.2.2.2.2.1=a53/\x.2.2.2.2.2.2.1=a54/\
     (∀z∈x.2.2.2.2.2.2.2.1,Qb3 z)/\x.1.2.1+(x.2.2.2.2.2.2.2.1.length:Int)=a59/\x.1.2.1.toNat=m) (m:=a59.toNat) U ⟨rfl,by dsimp only;omega,h9,rfl,rfl,rfl,rfl,Ob,by dsimp only;simp,rfl⟩ ?_
    rintro m4' ⟨⟨a62,a63,⟨⟩⟩,a64,⟨⟩,⟨a65,⟨⟩⟩,⟨a66,a67,⟨⟩⟩,a68,a69,a70,⟨⟩⟩ ⟨p1,p2,p3,p4,p5,p6,p7,p8,p9,p10⟩ k4 hk4
    dsimp only at p1 p2 p3 p4 p5 p6 p7 p8 p9 p10 |-
    cases p5;subst p1;subst p4;subst p6;subst p7
    refine Ok.ite (fun h10=>?_) (fun h10=>?_)
    .refine Ok.opt (Qmj hL p3) fun⟨a71,d8⟩ ⟨h11,e11⟩=>?_
     dsimp only at h11 e11 |-
     refine Ok.LS ?_
     rw[Qc U]
     exact hk4 (a63 - 1).toNat _ U ⟨rfl,by dsimp only;omega,h11,rfl,rfl,rfl,rfl,VU p8 e11,by dsimp only;rw[List.length_append];simp only[Ab,Am];omega,rfl⟩
    .refine Ok.LS ?_
     rw[Qc U]
     refine hk2 (2 - (a62+1)).toNat _ U ⟨by dsimp only;omega,by dsimp only;omega,p3,rfl,rfl,?_,VU j7 ⟨⟨_,rfl,⟨rfl,rfl,m2,by dsimp only;omega,by dsimp only;omega,by dsimp only;omega,by dsimp only;omega,n8,rfl,⟨rfl,rfl⟩⟩⟩,by dsimp only;omega,p8⟩,rfl⟩
     dsimp only
     rw[Aw,j6,AR,Ak,Qn (by rw[hlen];omega),show(a62+1).toNat=a62.toNat+1 by omega]
  .have e2:a25=2:=U
   subst e2
   exact Ok.s ⟨j3,⟨⟨a0,rfl,m1⟩,i6,i7,rfl,j6,j7⟩⟩
def Qyc(hL:L.length<=500)(hd:Qz L d)(hb:b.t.length<=100):
  Ok (Xa fu d b) fun r=>Qz L r.2/\Uo b.t.length r.1:=by
 unfold Xa
 refine Ok.opt (nx hL hd U U) fun⟨v,d1⟩ ⟨h1,h2,h4⟩=>?_
 dsimp only at h1 h2 h4 |-
 refine Ok.TG (fun y=>0<=y.1.1/\y.1.1<3/\(y.1.1=2->1<=b.t.length)/\Qz L y.2.1/\y.2.2.2.2.1=b.t/\y.2.2.2.2.2.1=b.j) (fun y hy=>?_) (fun zG hJ=>?_)
 .obtain⟨⟨a2,⟨⟩⟩,d2,⟨⟩,tg,ts,ps,⟨⟩⟩:=y
  obtain⟨g1,g2,g0,g3,g4,g5⟩:=hy
  dsimp only at g1 g2 g0 g3 g4 g5 |-
  subst g4;subst g5
  refine Ok.at g1 (by simp;omega) ?_
  have h3:a2=0\/a2=1\/a2=2:=U
  have e:O [4,2,(b.t.length:Int)] a2.toNat=if a2=0 then 4 else if a2=1 then 2 else(b.t.length:Int):=by rcases h3 with h3|h3|h3<;>subst h3<;>rfl
  rw[e]
  refine Ok.opt (nx hL g3 (by(repeat' split)<;>omega) (by(repeat' split)<;>omega)) fun⟨v2,d3⟩ ⟨k1,k2,k3⟩=>?_
  dsimp only at k1 k2 k3 |-
  refine Ok.TF (Ok.TF (Ok.s ⟨k1,⟨h3,k2,fun h=>?_,fun h=>?_,fun h=>?_⟩⟩))<;>dsimp only at h|-<;>subst h<;>simpa using k3
 .refine Ok.ite (fun h5=>Ok.ite (fun h6=>hJ _ ⟨by dsimp only;omega,by dsimp only;omega,fun h=>by dsimp only at h;omega,h1,rfl,rfl⟩) (fun h6=>hJ _ ⟨h2,h4,fun h=>U,h1,rfl,rfl⟩)) (fun h5=>hJ _ ⟨h2,h4,fun h=>absurd h h5,h1,rfl,rfl⟩)
def QA0(hL:L.length<=500)(hd:Qz L d)(hf:10<=fu):
  Ok (VE fu d) fun r=>Qz L r.2/\QU r.1:=by
 unfold VE
 refine Ok.opt (nx hL hd U U) fun⟨v,d1⟩ ⟨h1,h2,h4⟩=>?_
 dsimp only at h1 h2 h4 |-
 refine Ok.loop (fun m x=>Qz L x.2.1/\0<=x.1.1/\x.1.1+(x.2.2.2.2.1.length:Int)<=2/\x.2.2.2.2.1.map (·.Name)=Qin.take x.2.2.2.2.1.length/\(∀t∈x.2.2.2.2.1,Qqt t)/\x.1.1.toNat=m) (m:=v.toNat) U ⟨h1,h2,by dsimp only;simp;omega,rfl,Ob,rfl⟩ ?_
 rintro m ⟨⟨a3,⟨⟩⟩,d2,⟨⟩,⟨⟩,ts,⟨⟩⟩ ⟨i1,i2,i3,i5,i6,i4⟩ k hk
 dsimp only at i1 i2 i3 i5 i6 i4 |-
 refine Ok.ite (fun h5=>?_) (fun h5=>?_)
 .refine Ok.at U (by simp only[Ab,Am];omega) ?_
  refine Ok.opt (nx hL i1 U U) fun⟨v2,d3⟩ ⟨j1,j2,j3⟩=>?_
  dsimp only at j1 j2 j3 |-
  refine Ok.TG (fun y=>Qz L y.2.1/\y.1.1=a3/\y.2.2.2.2.2.1=ts/\y.2.2.2.2.1.Name=O Qin ts.length/\Qqt y.2.2.2.2.1) (fun y hy=>?_) (fun zG hJ=>?_)
  .obtain⟨⟨a9,⟨⟩⟩,d4,⟨⟩,⟨⟩,tm,ts2,⟨⟩⟩:=y
   obtain⟨q1,q2,q3,q4,q5⟩:=hy
   dsimp only at q1 q2 q3 q4 q5 |-
   subst q2;subst q3
   refine Ok.LS ?_
   rw[Qjo U U]
   refine hk (a9 - 1).toNat _ U ⟨q1,by dsimp only;omega,by dsimp only;rw[List.length_append];simp only[Ab,Am];omega,?_,VU i6 q5,rfl⟩
   dsimp only
   rw[Aw,i5,AR,Ak,q4,Qn (by show _<2;omega),Ac];rfl
  .refine Ok.opt (nx hL j1 U U) fun⟨v3,d4⟩ ⟨k1,_⟩=>?_
   dsimp only at k1 |-
   refine Ok.ite (fun _=>?_) (fun _=>hJ _ ⟨k1,rfl,rfl,rfl,⟨by simp[Asc],Ob,by simp;omega⟩⟩)
   refine Ok.opt (nx hL k1 U U) fun⟨v4,d5⟩ ⟨l1,l2,l3⟩=>?_
   dsimp only at l1 l2 l3 |-
   rw[Qc U]
   exact Ok.TO Ob (hJ _ ⟨l1,rfl,rfl,rfl,⟨by simp[Asc];omega,Ob,by simp;omega⟩⟩)
 .refine Ok.opt (nx hL i1 U U) fun⟨v2,d3⟩ ⟨j1,j2,j4⟩=>?_
  dsimp only at j1 j2 j4 |-
  rw[Qjo U U]
  refine Ok.loop (fun m x=>Qz L x.2.1/\0<=x.1.1/\x.2.2.2.2.1=ts/\x.1.1+(x.2.2.2.2.2.1.length:Int)=1+v2/\x.2.2.2.2.2.1.map (·.Name)=Qnj.take x.2.2.2.2.2.1.length/\(∀p∈x.2.2.2.2.2.1,Qdr ts.length p)/\x.1.1.toNat=m) (m:=(1+v2).toNat) U ⟨j1,by dsimp only;omega,rfl,by dsimp only;simp,rfl,Ob,rfl⟩ ?_
  rintro m ⟨⟨a21,⟨⟩⟩,d4,⟨⟩,⟨⟩,ts2,ps,⟨⟩⟩ ⟨n1,n2,n3,n4,n6,n7,n5⟩ k2 hk2
  dsimp only at n1 n2 n3 n4 n5 n6 n7 |-
  subst n3
  refine Ok.ite (fun h6=>?_) (fun h6=>Ok.s ⟨n1,⟨by dsimp only;omega,i5,i6,by dsimp only;omega,n6,n7⟩⟩)
  refine Ok.at U (by simp only[Ab,Am];omega) ?_
  refine Ok.opt (Qce hL n1 Ob Ob) fun⟨v3,d5⟩ ⟨o1,r1⟩=>?_
  dsimp only at o1 r1 |-
  refine Ok.opt (nx hL o1 U U) fun⟨v4,d6⟩ ⟨o2,o3,o5⟩=>?_
  dsimp only at o2 o3 o5 |-
  simp only[AY,BG,or_false]at r1
  rw[Qjo (x:=1+v4) U U]
  refine Ok.loop (fun m x=>Qz L x.2.1/\x.1.1=a21/\0<=x.1.2.1/\x.2.2.2.2.1=(O Qnj ps.length,v3,())/\x.2.2.2.2.2.1=ts2/\x.2.2.2.2.2.2.1=ps/\x.1.2.1+(x.2.2.2.2.2.2.2.1.length:Int)=1+v4/\(∀s∈x.2.2.2.2.2.2.2.1,StepOK' ts2.length s)/\x.1.2.1.toNat=m) (m:=(1+v4).toNat) U ⟨o2,rfl,by dsimp only;omega,rfl,rfl,rfl,by dsimp only;simp,Ob,rfl⟩ ?_
  rintro m3 ⟨⟨a31,a32,⟨⟩⟩,d7,⟨⟩,⟨⟩,⟨nm,rp,⟨⟩⟩,ts3,ps3,ss,⟨⟩⟩ ⟨p1,p2,p3,p0,p4,p5,p6,p8,p7⟩ k3 hk3
  dsimp only at p1 p2 p3 p0 p4 p5 p6 p7 p8 |-
  cases p0
  subst p2;subst p4;subst p5
  refine Ok.ite (fun h7=>?_) (fun h7=>?_)
  .refine Ok.opt (Qce hL p1 Ob Ob) fun⟨v5,d8⟩ ⟨s1,s2⟩=>?_
   dsimp only at s1 s2 |-
   refine Ok.opt (nx hL s1 U U) fun⟨v6,d9⟩ ⟨r2,_⟩=>?_
   dsimp only at r2 |-
   refine Ok.opt (nx hL r2 U U) fun⟨v7,d10⟩ ⟨r3,r4,r6⟩=>?_
   dsimp only at r3 r4 r6 |-
   simp only[AY,BG,or_false]at s2
   refine Ok.loop (fun m x=>Qz L x.2.1/\x.1.1=a31/\x.1.2.1=a32/\0<=x.1.2.2.1/\x.2.2.2.2.1=(O Qnj ps3.length,v3,())/\x.2.2.2.2.2.1=(v5,decide (v6=0),())/\x.2.2.2.2.2.2.1=ts3/\x.2.2.2.2.2.2.2.1=ps3/\x.2.2.2.2.2.2.2.2.1=ss/\x.1.2.2.1+(x.2.2.2.2.2.2.2.2.2.1.length:Int)<=2/\(∀t∈x.2.2.2.2.2.2.2.2.2.1,Uo ts3.length t)/\x.1.2.2.1.toNat=m) (m:=v7.toNat) U ⟨r3,rfl,rfl,by dsimp only;omega,rfl,rfl,rfl,rfl,rfl,by dsimp only;simp;omega,Ob,rfl⟩ ?_
   rintro m4 ⟨⟨a46,a47,a48,⟨⟩⟩,d11,⟨⟩,⟨⟩,⟨nm2,rp2,⟨⟩⟩,⟨wt,ur,⟨⟩⟩,ts4,ps4,ss4,tg,⟨⟩⟩ ⟨u1,u2,u3,u4,w1,w2,u5,u6,u7,u8,w3,u9⟩ k4 hk4
   dsimp only at u1 u2 u3 u4 u5 u6 u7 u8 u9 w1 w2 w3 |-
   cases w1;cases w2
   subst u2;subst u3;subst u5;subst u6;subst u7
   refine Ok.ite (fun h8=>?_) (fun h8=>?_)
   .refine Ok.opt (Qyc hL u1 (by dsimp only;omega)) fun⟨v8,d12⟩ ⟨x1,x2⟩=>?_
    dsimp only at x1 x2 |-
    refine Ok.LS ?_
    rw[Qjo U U]
    exact hk4 (a48 - 1).toNat _ U ⟨x1,rfl,rfl,by dsimp only;omega,rfl,rfl,rfl,rfl,rfl,by dsimp only;rw[List.length_append];simp only[Ab,Am];omega,VU w3 x2,rfl⟩
   .refine Ok.LS ?_
    rw[Qjo U U]
    exact hk3 (a47 - 1).toNat _ U ⟨u1,rfl,by dsimp only;omega,rfl,rfl,rfl,by dsimp only;rw[List.length_append];simp only[Ab,Am];omega,VU p8 ⟨by dsimp only;omega,by dsimp only;omega,w3⟩,rfl⟩
  .refine Ok.LS ?_
   rw[Qjo U U]
   refine hk2 (a31 - 1).toNat _ U ⟨p1,by dsimp only;omega,rfl,by dsimp only;rw[List.length_append];simp only[Ab,Am];omega,?_,VU n7 ⟨by dsimp only;omega,by dsimp only;omega,p8⟩,rfl⟩
   dsimp only
   rw[Aw,n6,AR,Ak,Qn (by show _<3;omega),Ac];rfl
end
def Qa{i:Nat}(h:i<1000000000):X ((i:Int)+1)=((i+1:Nat):Int):=by rw[Qc U];omega
def forall4{P:Nat->Prop}(h0:P 0)(h1:P 1)(h2:P 2)(h3:P 3):∀i,i<4->P i:=fun i hi=>by
 rcases(show i=0\/i=1\/i=2\/i=3 by omega)with rfl|rfl|rfl|rfl<;>assumption
def forall2{P:Nat->Prop}(h0:P 0)(h1:P 1):∀i,i<2->P i:=fun i hi=>by
 rcases(show i=0\/i=1 by omega)with rfl|rfl<;>assumption
def Qk3[AK α][AK β]{f:α->β}{l:Y α}{m:Y β}(h:l.map f=m)(hi:i<l.length):f (O l i)=O m i:=by
 subst h
 simp[O,AQ,AU hi]
def Ze.pnm(h:Ze n c)(hi:i<4):(O c.k i).Name=O Yw i:=Qk3 h.pname (by rw[h.plen];exact hi)
def Ze.snm(h:Ze n c)(hi:i<2):(O c.f i).Name=O YS i:=Qk3 h.sname (by rw[h.slen];exact hi)
def Ze.per(h:Ze n c)(hi:i<4):QaB (O c.k i):=h.person _ (Qf (by rw[h.plen];exact hi))
def Ze.sch(h:Ze n c)(hi:i<2):Qfi n (O c.f i):=h.sched _ (Qf (by rw[h.slen];exact hi))
def rIn:Ug fu n lo hi=some (decide (lo<=n/\n<=hi)):=cnd2
def rIdx:Ys fu i n=some (decide (0<=i/\i<n)):=cnd2
def r8In:UL fu n lo hi=some (decide (lo<=n/\n<=hi)):=cnd2
def QCa(h:QaB p):Qd7 1000 p.Fl=some 0:=by
 rcases h.quiet with h|⟨a,b,h,ha,hb⟩
 .rw[h];kernel_rfl
 .rw[h]
  rcases ha with rfl|rfl<;>rcases hb with rfl|rfl|rfl<;>kernel_rfl
def Quy(h:QaB p):Qcm 1000 p.Fl=some 0:=by
 rcases h.quiet with h|⟨a,b,h,ha,hb⟩
 .rw[h];kernel_rfl
 .rw[h]
  rcases ha with rfl|rfl<;>rcases hb with rfl|rfl|rfl<;>kernel_rfl
def hours0:QbS 1000 0=some true:=by kernel_rfl
def hours8:QdH 1000 0=some true:=by kernel_rfl
def Qnk(h:Ze n c)(hp:QaB p):Wk 1000 c p=some 0:=by
 refine Ok.eq ?_
 unfold Wk
 rw[hp.zone,hp.max.1,hp.max.2,h.zones.1]
 (repeat(first|with_reducible refine Ok.j ?_|with_reducible refine Ok.t ?_|with_reducible refine Ok.f ?_|with_reducible refine Ok.nt rfl ?_|with_reducible refine Ok.oe (rIdx) ?_|with_reducible refine Ok.oe (QCa hp) ?_|with_reducible refine Ok.oe (hours0) ?_|(with_reducible refine Ok.p ?hh ?_;case hh=>(first|omega|decide|assumption|(dsimp only;omega)|(simp;done)))|(with_reducible refine Ok.n ?hh ?_;case hh=>(first|omega|decide|assumption|(dsimp only;omega)|(simp;done)))|with_reducible refine Ok.os ?_))
 exact Ok.s rfl
def day10:XK 1000 (X 10)=some true:=by kernel_rfl
def QAh:Zo 1000=some 98980:=by kernel_rfl
def Qb3.day(h:Qb3 x):Int.tdiv x.To 86400=10:=by
 have:=h.time
 grind
def dayE(h:Qb3 x):XK 1000 (X (Int.tdiv x.To 86400))=some true:=by rw[h.day];exact day10
def QqH(h:Ze n c)(hx:Qb3 x):Vo 1000 c x=some 0:=by
 refine Ok.eq ?_
 have h1:=hx.kind;have h2:=hx.a;have h3:=hx.b;have h4:=hx.b0;have h5:=hx.time
 have hpl:=h.plen
 unfold Vo
 rcases(show x.a=0\/x.a=1\/x.a=2 by omega)with hk|hk|hk<;>rcases h2 with h2|h2<;>first|(exfalso;omega)|((repeat(first|with_reducible refine Ok.j ?_|with_reducible refine Ok.t ?_|with_reducible refine Ok.f ?_|with_reducible refine Ok.oe (rIn) ?_|with_reducible refine Ok.oe (rIdx) ?_|with_reducible refine Ok.oe (dayE hx) ?_|(with_reducible refine Ok.p ?hh ?_;case hh=>(first|omega|decide|assumption|(dsimp only;omega)|(simp;done)))|(with_reducible refine Ok.n ?hh ?_;case hh=>(first|omega|decide|assumption|(dsimp only;omega)|(simp;done)))|(with_reducible refine Ok.np ?hh ?_;case hh=>(first|omega|decide|assumption|(dsimp only;omega)|(simp;done)))|(with_reducible refine Ok.nzc ?hh ?_;case hh=>first|omega|decide)));exact Ok.s rfl)
def QyX(h:Ze n c)(hx:Qb3 x):Qk6 1000 c x=some 0:=by
 refine Ok.eq ?_
 have h1:=hx.kind;have h2:=hx.a;have h3:=hx.b;have h4:=hx.b0;have h5:=hx.time
 unfold Qk6
 rw[hx.day,h.plen,Qc (x:=10) U,show X (((4:Nat):Int) - 1)=3 from rfl]
 rcases(show x.a=0\/x.a=1\/x.a=2 by omega)with hk|hk|hk<;>rcases h2 with h2|h2<;>first|(exfalso;omega)|((repeat(first|with_reducible refine Ok.j ?_|with_reducible refine Ok.oe (r8In) ?_|with_reducible refine Ok.oe (QAh) ?_|(with_reducible refine Ok.p ?hh ?_;case hh=>(first|omega|decide|assumption|(dsimp only;omega)|(simp;done)))|(with_reducible refine Ok.n ?hh ?_;case hh=>(first|omega|decide|assumption|(dsimp only;omega)|(simp;done)))|(with_reducible refine Ok.np ?hh ?_;case hh=>(first|omega|decide|assumption|(dsimp only;omega)|(simp;done)))|(with_reducible refine Ok.nzc ?hh ?_;case hh=>first|omega|decide)));exact Ok.s rfl)
def dayL(h:Y3 l):XK 1000 l.R.Fm=some true:=by
 rcases h.day with h|h|h<;>rw[h]<;>kernel_rfl
def Qxg:XP 1000 x c=some (!decide (0<=x/\x<(c.k.length:Int))):=by
 unfold XP;rw[rIdx,ZY,Vg]
def Qu0(h:Ze n c)(hm:∀x∈l,0<=x/\x<4)(hl:l.length<900):QC 1000 l c=some false:=by
 have key:QL 1000 l c=some (-1):=by
  refine Ok.eq ?_
  unfold QL
  refine Ok.run l.length (fun i=>((l,(l.length:Int),(i:Int),()),c,())) rfl U (fun i hi k hk=>?_) (fun k=>?_)
  .dsimp only
   have hx:=hm _ (Qf hi)
   refine Ok.P (Ok.atn hi (Ok.oe Qxg (Ok.bf ?_ ?_)))
   .rw[h.plen];simp;omega
   .rw[Qa U];exact hk
  .dsimp only
   exact Ok.N (Ok.TF (Ok.s rfl))
 unfold QC
 rw[key,ZY,Vg];rfl
def wins0:Qd7 1000 []=some 0:=by kernel_rfl
def wins5:Qcm 1000 []=some 0:=by kernel_rfl
def QoT(h:Ze n c)(hl:Y3 l):WO 1000 c l=some 0:=by
 refine Ok.eq ?_
 unfold WO
 have h1:=hl.day;have h2:=hl.second;have h3:=hl.unit;have h4:=hl.every;have h5:=hl.len
 rw[hl.zone,hl.win,hl.cal.1,hl.cal.2,h.zones.1]
 (repeat(first|with_reducible refine Ok.j ?_|with_reducible refine Ok.t ?_|with_reducible refine Ok.f ?_|with_reducible refine Ok.nt rfl ?_|with_reducible refine Ok.nf rfl ?_|with_reducible refine Ok.oe (rIdx) ?_|with_reducible refine Ok.oe (rIn) ?_|with_reducible refine Ok.oe (dayL hl) ?_|with_reducible refine Ok.oe (Qu0 h hl.mem U) ?_|with_reducible refine Ok.oe (wins0) ?_|(with_reducible refine Ok.p ?hh ?_;case hh=>(first|omega|decide|assumption|(dsimp only;omega)|(simp;done)))|(with_reducible refine Ok.n ?hh ?_;case hh=>(first|omega|decide|assumption|(dsimp only;omega)|(simp;done)))|with_reducible refine Ok.os ?_))
 exact Ok.s rfl
def ents(l:Y AJ)(i:Nat):Y (AJ×AH):=(l.take i).map fun s=>(s,true)
def Qxi:∀i,i<4->Xu 1000 (O Yw i) (ents Yw i)=some (0,ents Yw (i+1)):=forall4 (by kernel_rfl) (by kernel_rfl) (by kernel_rfl) (by kernel_rfl)
def Qzn:∀i,i<2->Xu 1000 (O YS i) (ents YS i)=some (0,ents YS (i+1)):=forall2 (by kernel_rfl) (by kernel_rfl)
def QCE:Xu 1000 (ByteArray.mk #[108]) []=some (0,[(ByteArray.mk #[108],true)]):=by kernel_rfl
def QlN:∀i,i<4->¬O Yw i=ByteArray.mk (List.toArray (110::(111::(98::(111::(100::(121::[]))))))):=by decide
def Qxc(h:Ze n c)(hl:Y3 l):Qk 1000 [l] c=some 0:=by
 have hc:Z8 1000 (O [l] 0) c=some 0:=by show Z8 1000 l c=some 0;unfold Z8;rw[QoT h hl,ZY,Vg]
 have hn:Z7 1000 (O [l] 0)=some (ByteArray.mk #[108]):=by show Z7 1000 l=_;unfold Z7;rw[hl.name]
 refine Ok.eq ?_
 unfold Qk
 refine Ok.run 1 (fun i=>(([l],1,(i:Int),()),c,ents [ByteArray.mk #[108]] i,())) rfl U (fun i hi k hk=>?_) (fun k=>?_)
 .obtain rfl:i=0:=U
  dsimp only
  refine Ok.p (by decide) (Ok.atn Ob (Ok.oe hn (Ok.oe QCE ?_)))
  (repeat(first|with_reducible refine Ok.oe (hc) ?_|(with_reducible refine Ok.n ?hh ?_;case hh=>(first|omega|decide|assumption|(dsimp only;omega)|(simp;done)))))
  exact hk
 .dsimp only
  exact Ok.n (by decide) (Ok.TF (Ok.s rfl))
def Qky(h:Ze n c)(hn:n<=48)(hs:Qfi n s):Xt 1000 c s=some 0:=by
 obtain⟨l,hl1,hl2⟩:=hs.layers
 have hlen:=hs.len
 refine Ok.eq ?_
 unfold Xt
 rw[hl1]
 refine Ok.j (Ok.NS (Ok.N ?_))
 dsimp only
 rw[hl1]
 refine Ok.oe (Qxc h hl2) (Ok.n (by decide) ?_)
 refine Ok.run s.FX.length (fun i=>((s.FX,(s.FX.length:Int),(i:Int),()),c,())) rfl U (fun i hi k hk=>?_) (fun k=>?_)
 .dsimp only
  refine Ok.P (Ok.atn hi (Ok.oe (QqH h (hs.edit _ (Qf hi))) (Ok.n (by decide) ?_)))
  rw[Qa U];exact hk
 .dsimp only
  exact Ok.N (Ok.s rfl)
def QxW(h:Ze n c)(hn:n<=48):Qq 1000 c.f c=some 0:=by
 refine Ok.eq ?_
 unfold Qq
 rw[h.slen]
 refine Ok.run 2 (fun i=>((c.f,2,(i:Int),()),c,ents YS i,())) rfl U (fun i hi k hk=>?_) (fun k=>?_)
 .dsimp only
  have hc:US 1000 (O c.f i) c=some 0:=by unfold US;rw[Qky h hn (h.sch hi),ZY,Vg]
  have hn:UR 1000 (O c.f i)=some (O YS i):=by unfold UR;rw[h.snm hi]
  refine Ok.P (Ok.atn (by rw[h.slen];exact hi) (Ok.oe hn (Ok.oe (Qzn i hi) ?_)))
  (repeat(first|with_reducible refine Ok.oe (hc) ?_|(with_reducible refine Ok.n ?hh ?_;case hh=>(first|omega|decide|assumption|(dsimp only;omega)|(simp;done)))))
  rw[Qa U];exact hk
 .dsimp only
  exact Ok.n (by decide) (Ok.TF (Ok.s rfl))
def Qz7(h:Ze n c):QD 1000 c.FL=some 0:=by
 obtain⟨h1,h2⟩:=h.zones
 rw[h1]
 rcases h2 with h2|h2|h2<;>rw[h2]<;>kernel_rfl
def QA3(h:Ze n c):Qp 1000 c.o c=some 0:=by
 refine Ok.eq ?_
 unfold Qp
 rw[h.cal]
 refine Ok.run 0 (fun i=>(([],0,0,()),c,[],())) rfl U (fun i hi=>absurd hi U) (fun k=>?_)
 exact Ok.n (by decide) (Ok.TF (Ok.s rfl))
def QkT(h:Ze n c)(hn:n<=48):Q6 1000 c=some 0:=by
 refine Ok.eq ?_
 unfold Q6
 have hz:=BD List.length h.zones.1
 have hp:=h.plen
 have hs:=h.slen
 have hc:=BD List.length h.cal
 simp only[Ab,Am]at hz hc
 refine Ok.j (Ok.N (Ok.N (Ok.N (Ok.N ?_))))
 dsimp only
 refine Ok.oe (Qz7 h) (Ok.n (by decide) ?_)
 rw[hp]
 refine Ok.run 4 (fun i=>((c.k,4,(i:Int),()),c,ents Yw i,())) rfl U (fun i hi k hk=>?_) (fun k=>?_)
 .dsimp only
  refine Ok.P (Ok.A ?_)
  rw[h.pnm hi]
  refine Ok.oe (Qxi i hi) (Ok.j (Ok.n (QlN i hi) ?_))
  (repeat(first|with_reducible refine Ok.j ?_|with_reducible refine Ok.oe (Qnk h (h.per hi)) ?_|(with_reducible refine Ok.p ?hh ?_;case hh=>(first|omega|decide|assumption|(dsimp only;omega)|(simp;done)))|(with_reducible refine Ok.n ?hh ?_;case hh=>(first|omega|decide|assumption|(dsimp only;omega)|(simp;done)))))
  rw[Qa U];exact hk
 .dsimp only
  refine Ok.n (by decide) ?_
  (repeat(first|with_reducible refine Ok.j ?_|with_reducible refine Ok.oe (QA3 h) ?_|with_reducible refine Ok.oe (QxW h hn) ?_|(with_reducible refine Ok.p ?hh ?_;case hh=>(first|omega|decide|assumption|(dsimp only;omega)|(simp;done)))|(with_reducible refine Ok.n ?hh ?_;case hh=>(first|omega|decide|assumption|(dsimp only;omega)|(simp;done)))))
  exact Ok.s rfl
def Qu8(hp:QaB p):UL 1000 p.q 0 (X (((1:Nat):Int) - 1))=some true/\Qcm 1000 p.Fl=some 0/\QdH 1000 p.F2=some true/\QdH 1000 p.F3=some true:=by
 rw[hp.zone,hp.max.1,hp.max.2]
 exact⟨by kernel_rfl,Quy hp,hours8,hours8⟩
def Qu1:∀i,i<4->WD 1000 (Yw.take i++[O Yw i]) (i:Int)=some 0:=forall4 (by kernel_rfl) (by kernel_rfl) (by kernel_rfl) (by kernel_rfl)
def Qxh:∀i,i<2->WD 1000 (YS.take i++[O YS i]) (i:Int)=some 0:=forall2 (by kernel_rfl) (by kernel_rfl)
def QBx:WD 1000 ([]++[ByteArray.mk #[108]]) ((0:Nat):Int)=some 0:=by kernel_rfl
def Qyr(h:Ze n c):QiV 1000 c=some 0:=by
 obtain⟨h1,h2⟩:=h.zones
 refine Ok.eq ?_
 unfold QiV
 have hz:QdF 1000 (⟨bZ,Xd c,[]⟩:D.q)=some 0/\Qh3 1000 (⟨bZ,Xd c,[]⟩:D.q)=some true/\WD 1000 ([]++[bZ]) ((0:Nat):Int)=some 0:=by
  rcases h2 with h2|h2|h2<;>rw[h2]<;>exact⟨by kernel_rfl,by kernel_rfl,by kernel_rfl⟩
 refine Ok.run 1 (fun i=>(((i:Int),()),c,[bZ].take i,())) rfl U (fun i hi k hk=>?_) (fun k=>?_)
 .obtain rfl:i=0:=U
  dsimp only
  rw[h1]
  refine Ok.PS (Ok.j (Ok.atn Ob (Ok.TO Ob ?_)))
  refine Ok.oe hz.2.2 (Ok.n (by decide) (Ok.atn Ob (Ok.oe hz.1 (Ok.n (by decide) (Ok.atn Ob (Ok.oe hz.2.1 ?_))))))
  exact hk
 .dsimp only
  rw[h1]
  exact Ok.NS (Ok.s rfl)
def Qu6(h:Ze n c):QgO 1000 c=some 0:=by
 have hp:=h.plen
 refine Ok.eq ?_
 unfold QgO
 refine Ok.run 4 (fun i=>(((i:Int),()),c,Yw.take i,())) rfl U (fun i hi k hk=>?_) (fun k=>?_)
 .dsimp only
  obtain⟨g1,g2,g3,g4⟩:=Qu8 (h.per hi)
  refine Ok.P (Ok.j (Ok.A (Ok.LS ?_)))
  rw[h.pnm hi,h.zones.1]
  refine Ok.n (QlN i hi) (Ok.oe (Qu1 i hi) (Ok.n (by decide) (Ok.oe g1 ?_)))
  refine Ok.nt rfl (Ok.oe g2 (Ok.n (by decide) (Ok.oe g3 (Ok.t (Ok.oe g4 (Ok.t ?_))))))
  dsimp only
  rw[Qa U,Qn (show i<Yw.length from hi)];exact hk
 .dsimp only
  exact Ok.N (Ok.s rfl)
def QyR(h:Ze n c):QbJ 1000 c=some 0:=by
 refine Ok.eq ?_
 unfold QbJ
 refine Ok.run 0 (fun i=>((0,()),c,[],())) rfl U (fun i hi=>absurd hi U) (fun k=>?_)
 dsimp only
 rw[h.cal]
 exact Ok.n (by decide) (Ok.s rfl)
def Qxb(h:Ze n c)(hl:Y3 l):QfX 1000 c l=some 0:=by
 refine Ok.eq ?_
 unfold QfX
 have h1:=hl.day;have h2:=hl.second;have h3:=hl.unit;have h4:=hl.every;have h5:=hl.len
 have hp:=h.plen
 rw[hl.zone,h.zones.1,Qc (x:=(([(⟨bZ,Xd c,[]⟩:D.q)].length:Nat):Int) - 1) Ob]
 refine Ok.j (Ok.oe r8In (Ok.np Ob ?_))
 (repeat(first|with_reducible refine Ok.oe (r8In) ?_|with_reducible refine Ok.oe (QAh) ?_|(with_reducible refine Ok.p ?hh ?_;case hh=>(first|omega|decide|assumption|(dsimp only;omega)|(simp;done)))|(with_reducible refine Ok.n ?hh ?_;case hh=>(first|omega|decide|assumption|(dsimp only;omega)|(simp;done)))))
 refine Ok.run l.r.length (fun i=>(((i:Int),()),c,l,())) rfl U (fun i hi k hk=>?_) (fun k=>?_)
 .dsimp only
  have hx:=hl.mem _ (Qf hi)
  rw[hp]
  refine Ok.P (Ok.atn hi (Ok.oe r8In (Ok.np ?_ ?_)))
  .rw[Qc U];omega
  .rw[Qa U];exact hk
 .dsimp only
  rw[hl.win,hl.cal.1,hl.cal.2]
  refine Ok.N ?_
  (repeat(first|with_reducible refine Ok.oe (wins5) ?_|with_reducible refine Ok.oe (r8In) ?_|(with_reducible refine Ok.p ?hh ?_;case hh=>(first|omega|decide|assumption|(dsimp only;omega)|(simp;done)))|(with_reducible refine Ok.n ?hh ?_;case hh=>(first|omega|decide|assumption|(dsimp only;omega)|(simp;done)))))
  exact Ok.s rfl
def Qqa(h:Ze n c)(hn:n<=48):QbL 1000 c=some 0:=by
 have hs:=h.slen
 refine Ok.eq ?_
 unfold QbL
 refine Ok.run 2 (fun i=>(((i:Int),()),c,YS.take i,())) rfl U (fun i hi k hk=>?_) (fun k=>?_)
 .dsimp only
  have hsc:=h.sch hi
  obtain⟨l,hl1,hl2⟩:=hsc.layers
  have hlen:=hsc.len
  refine Ok.P (Ok.A (Ok.LS ?_))
  rw[h.snm hi]
  refine Ok.oe (Qxh i hi) (Ok.n (by decide) (Ok.j ?_))
  rw[hl1]
  refine Ok.NS (Ok.N ?_)
  dsimp only
  refine Ok.run 1 (fun j=>(((i:Int),(j:Int),()),c,O c.f i,YS.take i++[O YS i],[ByteArray.mk #[108]].take j,())) rfl U (fun j hj k2 hk2=>?_) (fun k2=>?_)
  .obtain rfl:j=0:=U
   dsimp only
   rw[hl1]
   refine Ok.PS (Ok.atn Ob (Ok.TO Ob ?_))
   rw[show(O [l] 0).Name=ByteArray.mk #[108]from hl2.name]
   refine Ok.oe QBx (Ok.n (by decide) (Ok.atn Ob (Ok.oe (Qxb h hl2:QfX 1000 c (O [l] 0)=some 0) (Ok.n (by decide) ?_))))
   exact hk2
  .dsimp only
   rw[hl1]
   refine Ok.NS ?_
   refine Ok.run (O c.f i).FX.length (fun j=>(((i:Int),(j:Int),()),c,O c.f i,YS.take i++[O YS i],())) rfl U (fun j hj k3 hk3=>?_) (fun k3=>?_)
   .dsimp only
    refine Ok.P (Ok.atn hj (Ok.oe (QyX h (hsc.edit _ (Qf hj))) (Ok.n (by decide) ?_)))
    rw[Qa U];exact hk3
   .dsimp only
    refine Ok.N ?_
    rw[Qa U,Qn (show i<YS.length from hi)];exact hk
 .dsimp only
  exact Ok.N (Ok.s rfl)
def Qfq(h:Ze n c)(hn:n<=48):UK 1000 c=some 0:=by
 refine Ok.eq ?_
 unfold UK
 have hz:=BD List.length h.zones.1
 have hp:=h.plen
 have hs:=h.slen
 have hc:=BD List.length h.cal
 simp only[Ab,Am]at hz hc
 (repeat(first|with_reducible refine Ok.j ?_|with_reducible refine Ok.oe (Qyr h) ?_|with_reducible refine Ok.oe (Qu6 h) ?_|with_reducible refine Ok.oe (QyR h) ?_|with_reducible refine Ok.oe (Qqa h hn) ?_|(with_reducible refine Ok.n ?hh ?_;case hh=>(first|omega|decide|assumption|(dsimp only;omega)|(simp;done)))))
 exact Ok.s rfl
open Go AM
def Qe6(off:Int):Prop:=off=0\/off=3600\/off = -7200
def tabV(off:Int):D.Fg:=⟨off,[]⟩
def QB3:Vs 1000 (tabV off) t=some off:=by
 have h1:Zr 1000 0 (tabV off) t=some 0:=by
  refine Ok.eq ?_
  unfold Zr
  refine Ok.run 0 (fun _=>((0,(0,())),(tabV off,((t,()),())))) rfl U (fun i hi=>absurd hi U) (fun k=>?_)
  exact Ok.N (Ok.TF (Ok.TF (Ok.s rfl)))
 have h2:WB 1000 (tabV off) t=some 0:=by unfold WB;rw[show(((List.length (D.Fg.list (tabV off))):Nat):Int)=0 from rfl,h1,ZY]
 unfold Vs
 rw[h2,ZY]
 rfl
def Qzk(h : -1099511627776<=n/\n<=1099511627776):Qg6 1000 n=some ⟨n / 86400,n % 86400⟩:=by
 refine Ok.eq ?_
 unfold Qg6
 refine Ok.Z (Ok.j (Ok.Z ?_))
 by_cases h0:0<=n
 .rw[Bq h0,Bz h0]
  refine Ok.N ?_
  dsimp only
  rw[Qc (x:=n / 86400) U,Qc (x:=n / 86400*86400) U,Qc U]
  exact Ok.s (by congr 1;omega)
 .have e1:Int.tmod n 86400 = -((-n) % 86400):=by
   rw[show n = -(-n)by omega,EW,Bq U,EX]
  have e2:Int.tdiv n 86400 = -((-n) / 86400):=by
   grind
  rw[e1,e2]
  by_cases h1 : -((-n) % 86400)<0
  .refine Ok.p h1 ?_
   dsimp only
   rw[Qc (x:=-((-n) / 86400)) U,Qc (x:=-((-n) / 86400) - 1) U,Qc (x:=(-((-n) / 86400) - 1)*86400) U,Qc U]
   exact Ok.s (by rw[D.Fj.mk.injEq];omega)
  .refine Ok.n h1 ?_
   dsimp only
   rw[Qc (x:=-((-n) / 86400)) U,Qc (x:=-((-n) / 86400)*86400) U,Qc U]
   exact Ok.s (by rw[D.Fj.mk.injEq];omega)
def Qe6.le(h:Qe6 off): -7200<=off/\off<=3600:=by unfold Qe6 at h;omega
def QAv(ho:Qe6 off)(ht:0<=t/\t<=8589934592):ZQ 1000 (tabV off) t=some ⟨(t+off) / 86400,(t+off) % 86400⟩:=by
 have:=ho.le
 unfold ZQ
 rw[QB3,ZY,Qc U,Qzk U,ZY]
def QB5(ho:Qe6 off):Qaz 1000 (tabV off) 0 8589934593=some [⟨0,8589934593,off⟩]:=by
 rcases ho with rfl|rfl|rfl<;>kernel_rfl
def QAu(ho:Qe6 off)(hd:1<=d/\d<=1000000)(hs:0<=s/\s<=86399):
  Ok (WA 1000 (tabV off) ⟨d,s⟩) fun r=>r.2=decide (d*86400+s - off<=8589934592)/\(r.2=true->r.1=d*86400+s - off):=by
 have:=ho.le
 unfold WA Qgs
 refine Ok.oe (QB5 ho) ?_
 have e:X (X (min (max d (-1048576)) 1048576*86400)+s)=d*86400+s:=by rw[Qc (x:=min (max d (-1048576)) 1048576*86400) U,Qc U];omega
 by_cases h:d*86400+s - off<=8589934592
 .refine Ok.scan 1 (fun i=>(([⟨0,8589934593,off⟩],1,(i:Int),()),⟨d,s⟩,())) (fun _=>true) rfl U (fun i hi _ _ k=>?_) (fun i hi hq=>by simp at hq) (fun hq=>by have:=hq 0 U;simp at this)
  obtain rfl:i=0:=U
  refine Ok.PS (Ok.atn Ob (Ok.os ?_))
  dsimp only
  rw[e,show(O [(⟨0,8589934593,off⟩:D.Fy)] 0)=⟨0,8589934593,off⟩from rfl]
  dsimp only
  rw[Qc (x:=d*86400+s - off) U,show max 0 (d*86400+s - off)=d*86400+s - off by omega]
  exact Ok.P (Ok.s ⟨by simp[h],fun _=>rfl⟩)
 .refine Ok.run 1 (fun i=>(([⟨0,8589934593,off⟩],1,(i:Int),()),⟨d,s⟩,())) rfl U (fun i hi k hk=>?_) (fun k=>?_)
  .obtain rfl:i=0:=U
   refine Ok.PS (Ok.atn Ob (Ok.os ?_))
   dsimp only
   rw[e,show(O [(⟨0,8589934593,off⟩:D.Fy)] 0)=⟨0,8589934593,off⟩from rfl]
   dsimp only
   rw[Qc (x:=d*86400+s - off) U,show max 0 (d*86400+s - off)=d*86400+s - off by omega]
   exact Ok.N hk
  .exact Ok.NS (Ok.s ⟨by simp[h],fun h=>by simp at h⟩)
def QtY(hl:Y3 l):(l.Unit=0->Xc off l k=YJ off l+3600*l.FN*k)/\(l.Unit=1->Xc off l k=YJ off l+86400*l.FN*k):=by
 refine⟨fun h=>?_,fun h=>?_⟩
 .unfold Xc;rw[Qj5 h]
 .unfold Xc;rw[QmZ h]
def QCQ(hl:Y3 l)(ho:Qe6 off)(hk:0<=k/\k<=200000)(hu:l.Unit=1\/k=0):
  Ok (Yd 1000 (tabV off) l k) fun r=>r.2=decide (Xc off l k<=8589934592)/\(r.2=true->r.1=Xc off l k):=by
 have:=ho.le
 have h1:=hl.day;have h2:=hl.second;have h4:=hl.every
 unfold Yd QdR
 refine Ok.N ?_
 rcases hl.unit with hu0|hu1
 .obtain rfl:k=0:=U
  refine Ok.N ?_
  have hf:=QiA (off:=off) hl ho
  have hh:Xc off l 0=l.R.Fm*86400+l.R.Fb - off:=by unfold Xc YJ;omega
  refine Ok.opt (QAu (d:=l.R.Fm) (s:=l.R.Fb) ho U U) fun⟨v,b⟩ ⟨g1,g2⟩=>?_
  dsimp only at g1 g2 |-
  have hb:b=true:=by rw[g1];unfold YJ at hf;simp;omega
  subst hb
  have hv:=g2 rfl
  have hw:X (v+X (X (3600*l.FN)*0))=Xc off l 0:=by
   rw[Int.mul_zero,Qc (x:=0) U,Qc (by unfold YJ at hf;omega),hh,hv];omega
  rw[hw]
  have hm:Xc off l 0<=8589934592:=by rw[hh];unfold YJ at hf;omega
  exact Ok.t (Ok.p hm (Ok.s ⟨by simp[hm],fun _=>rfl⟩))
 .refine Ok.P ?_
  (try unfold cd);rw[QkA (show ¬l.Unit=2 by omega),ZY]
  have hE:l.FN=1\/l.FN=2\/l.FN=3:=U
  have hh:Xc off l k=(l.R.Fm+k*l.FN)*86400+l.R.Fb - off:=(QtX (QmZ hu1)).symm
  have hb:0<=k*l.FN/\k*l.FN<=600000:=by rcases hE with e|e|e<;>rw[e]<;>omega
  rw[Qc (x:=k*l.FN) U,Qc (x:=l.R.Fm+k*l.FN) U]
  refine Ok.opt (QAu (d:=l.R.Fm+k*l.FN) (s:=l.R.Fb) ho U U) fun⟨v,b⟩ ⟨g1,g2⟩=>?_
  rw[<-hh]at g1 g2
  exact Ok.s ⟨g1,g2⟩
def QCR(hl:Y3 l)(ho:Qe6 off)(ht:0<=t/\t<=8589934592):UN 1000 (tabV off) l t=some (Z9 off l t):=by
  have hoo:=ho.le
  have h1:=hl.day;have h2:=hl.second;have h4:=hl.every
  have hf:=QiA (off:=off) hl ho
  have h0:Xc off l 0=YJ off l:=by unfold Xc;omega
  refine Ok.eq ?_
  unfold UN
  refine Ok.opt (QCQ (k:=0) hl ho U (.inr rfl)) fun⟨v,b⟩ ⟨g1,g2⟩=>?_
  dsimp only at g1 g2 |-
  have hb:b=true:=by rw[g1,h0];simp;omega
  subst hb
  have hv:=g2 rfl
  rw[hv,h0]
  refine Ok.j (Ok.t ?_)
  by_cases hlt:t<YJ off l
  · exact Ok.p hlt (Ok.s (by rw[Qqe (by rw[h0];exact hlt)]))
  refine Ok.n hlt ?_
  dsimp only
  rcases hl.unit with hu|hu
  · have e1:X (3600*l.FN)=3600*l.FN:=Qc U
    rw[e1]
    refine Ok.p hu (Ok.Z ?_)
    rw[Qc (x:=t - YJ off l) U,Bz U]
    have e2:(t - YJ off l) / (3600*l.FN)=Z9 off l t:=by unfold Z9;rw[iA hlt,Qj5 hu]
    have e3:=Qr6 (t:=t) hl ho U
    rw[e2,Qc U]
    exact Ok.s rfl
  · refine Ok.N (Ok.oe (QAv ho ht) ?_)
    unfold QdR
    (try unfold cd);rw[QkA (show ¬l.Unit=2 by omega),ZY]
    refine Ok.Z (Ok.j ?_)
    dsimp only
    obtain⟨dy,hD⟩:∃dy,(t+off) / 86400=dy:=⟨_,rfl⟩
    rw[hD]
    have hDb : -1<=dy/\dy<=99422:=U
    rw[Qc (x:=dy - l.R.Fm) U]
    obtain⟨k0,hk0⟩:∃k0,max 0 (X (Int.tdiv (dy - l.R.Fm) l.FN))=k0:=⟨_,rfl⟩
    rw[hk0]
    have hE:l.FN=1\/l.FN=2\/l.FN=3:=U
    have hlin:∀k,Xc off l k=YJ off l+86400*l.FN*k:=fun k=>(QtY hl).2 hu
    have hfd:YJ off l=l.R.Fm*86400+l.R.Fb - off:=rfl
    have hk:0<=k0/\k0<=99422/\(1<=k0->Xc off l (k0 - 1)<=t)/\t<Xc off l (k0+1):=by
      have hq:Int.tdiv (dy - l.R.Fm) l.FN<=0/\dy - l.R.Fm<l.FN\/Int.tdiv (dy - l.R.Fm) l.FN=(dy - l.R.Fm) / l.FN/\0<=dy - l.R.Fm:=by
        grind
      have hw:X (Int.tdiv (dy - l.R.Fm) l.FN)=Int.tdiv (dy - l.R.Fm) l.FN:=by
        refine Qc ?_
        rcases hq with⟨q1,_⟩|⟨q1,q2⟩
        · by_cases hn:0<=dy - l.R.Fm
          · rw[Bz hn];rcases hE with e|e|e<;>rw[e]<;>omega
          · omega
        · rw[q1];rcases hE with e|e|e<;>rw[e]<;>omega
      rw[hw]at hk0
      rw[hlin,hlin,hfd]
      rcases hE with e|e|e<;>rw[e]at hq hk0|-<;>omega
    obtain⟨k1,k2,k3,k4⟩:=hk
    have hhand:∀k,0<=k->k<=k0+1->Ok (Yd 1000 (tabV off) l k) fun r=>r.2=decide (Xc off l k<=8589934592)/\(r.2=true->r.1=Xc off l k):=fun k a b=>QCQ hl ho U (.inl hu)
    have up:∀k,0<=k->k0 - 1<=k->k<=k0->Xc off l k<=t->Ok (Qe (zF:=((Int×(Int×Unit))×(D.Fg×(D.u×Unit)))) (fun L12 ((a13,(a14,_)),(a15,(a16,_)))=>
           (TG (zB:=((Int×(Int×Unit))×(D.Fg×(D.u×Unit)))) (fun((a17,(a18,_)),(a19,(a20,_)))=>
             (L12 ((a17,((X (a18+1)),())),(a19,(a20,()))))) fun J21=>
            (V (Yd 1000 a15 a16 (X (a14+1))) fun(a22,a23)=>
             (J a23
              (J (decide (a13<a22))
               (some a14)
               (J21 ((a13,(a14,())),(a15,(a16,())))))
              (some a14))))) 1000 ((t,(k,())),(tabV off,(l,())))) (·=Z9 off l t):=by
      intro k a1 a2 a3 a4
      refine Ok.loop (fun m x=>∃k,x=((t,k,()),tabV off,l,())/\0<=k/\k0 - 1<=k/\k<=k0/\Xc off l k<=t/\(k0 - k).toNat=m) (m:=(k0 - k).toNat) U ⟨k,rfl,a1,a2,a3,a4,rfl⟩ ?_
      rintro m x ⟨k,rfl,a1,a2,a3,a4,rfl⟩ K hK
      dsimp only
      rw[Qc (x:=k+1) U]
      refine Ok.j (Ok.opt (hhand (k+1) U U) fun⟨v,b⟩ ⟨g1,g2⟩=>?_)
      dsimp only at g1 g2 |-
      by_cases hm:Xc off l (k+1)<=8589934592
      · have hb:b=true:=by rw[g1];simp[hm]
        subst hb
        rw[g2 rfl]
        refine Ok.t (Ok.ite (fun hlt=>Ok.s (Qqd hl a1 a4 hlt).symm) (fun hge=>?_))
        have:k≠k0:=fun e=>by rw[e]at hge;omega
        rw[Qc (x:=k+1) U]
        exact hK _ _ U ⟨k+1,rfl,U,U,U,U,rfl⟩
      · have hb:b=false:=by rw[g1];simp[hm]
        subst hb
        exact Ok.f (Ok.s (Qqd hl a1 a4 U).symm)
    have h00:Xc off l 0<=t:=by rw[h0];omega
    refine Ok.loop (fun m x=>∃k,x=((t,k,()),tabV off,l,())/\0<=k/\(m=1/\k=k0\/m=0/\k=k0 - 1)) (m:=1) U ⟨k0,rfl,k1,.inl ⟨rfl,rfl⟩⟩ ?_
    rintro m x ⟨k,rfl,a1,a2⟩ K hK
    dsimp only
    refine Ok.ite (fun hpos=>?_) (fun hz=>?_)
    · refine Ok.j (Ok.opt (hhand k U U) fun⟨v,b⟩ ⟨g1,g2⟩=>?_)
      dsimp only at g1 g2 |-
      have down:¬Xc off l k<=t->Ok (K ((t,X (k - 1),()),tabV off,l,())) (·=Z9 off l t):=fun hgt=>by
        rw[Qc (x:=k - 1) U]
        rcases a2 with⟨rfl,rfl⟩|⟨rfl,rfl⟩
        · grind
        · omega
      by_cases hm:Xc off l k<=8589934592
      · have hb:b=true:=by rw[g1];simp[hm]
        subst hb
        rw[g2 rfl]
        refine Ok.t (Ok.ite (fun hle=>?_) (fun hgt=>down hgt))
        grind
      · have hb:b=false:=by rw[g1];simp[hm]
        subst hb
        exact Ok.f (down U)
    · grind
def tOn(hl:Y3 l)(ho:Qe6 off)(hv:v.tables=[tabV off])(ht:0<=t/\t<=8589934592):QcL 1000 v l t=some (if Z9 off l t<0 then(0,false)else(Z9 off l t,true)):=by
 refine Ok.eq ?_
 unfold QcL
 refine Ok.j (Ok.N (Ok.N ?_))
 dsimp only
 rw[hv,hl.zone]
 refine Ok.atn (i:=0) Ob (Ok.oe (QCR hl ho ht:UN 1000 (O [tabV off] 0) l t=_) ?_)
 refine Ok.j ?_
 by_cases h:Z9 off l t<0
 .refine Ok.p h (Ok.s ?_)
  rw[iB h]
 .refine Ok.n h ?_
  rw[hl.win]
  refine Ok.NS ?_
  dsimp only
  exact Ok.p hl.cal.2 (Ok.s (by rw[iA h]))
def QAd(hl:Y3 l)(h:¬Z9 off l t<0):TN l.r (Int.tmod (Z9 off l t) (((List.length l.r):Nat):Int)) (fun a2=>some a2)=some (Qea off l t):=by
 have hlen:=hl.len
 have e:Int.tmod (Z9 off l t) (((List.length l.r):Nat):Int)=(((Z9 off l t).toNat % l.r.length:Nat):Int):=by
  grind
 rw[e,QCk (Ck _ U)]
 unfold Qea
 rw[iA h]
def QB4(hl:Y3 l)(ho:Qe6 off)(hv:v.tables=[tabV off])(ht:0<=t/\t<=8589934592):Ws 1000 v l t=some (Qea off l t):=by
 have hlen:=hl.len
 refine Ok.eq ?_
 unfold Ws
 refine Ok.oe (tOn hl ho hv ht) ?_
 by_cases h:Z9 off l t<0
 .rw[iB h]
  refine Ok.nf rfl (Ok.s ?_)
  unfold Qea
  rw[iB h]
 .rw[iA h]
  refine Ok.nt rfl (Ok.Z ?_)
  rw[QAd hl h]
  exact Ok.s rfl
def away1:Qc8 1000 x p t=some (Qsv p t x):=by
 unfold Qc8 Qsv
 simp only[Vg,QAb]
 grind
def QDg(hs:s.FX.length<900):Qax 1000 s p t=some (Qlq s.FX p t):=by
 have key:Ok (Zb 1000 s.FX p t) fun r=>decide (0<=r)=Qlq s.FX p t:=by
  unfold Zb
  refine Ok.scan s.FX.length (fun i=>((s.FX,(s.FX.length:Int),(i:Int),()),(p,()),(t,()),())) (fun i=>Qsv p t (O s.FX i)) rfl U (fun i hi hq _ k=>?_) (fun i hi hq k hk=>?_) (fun hq k=>?_)
  .refine Ok.P (Ok.atn hi (Ok.oe away1 (Ok.bt hq (Ok.TF (Ok.TF (Ok.s ?_))))))
   unfold Qlq
   rw[Qjt hi hq];simp
  .refine Ok.P (Ok.atn hi (Ok.oe away1 (Ok.bf hq ?_)))
   rw[Qa U];exact hk
  .refine Ok.N (Ok.TF (Ok.TF (Ok.s ?_)))
   unfold Qlq
   rw[QnT hq];simp
 obtain⟨r,h1,h2⟩:=key
 unfold Qax Zt
 rw[h1,ZY,Vg,Vg,ZY,h2]
def QDh(hs:es.length<900):Qit 1000 es p t=some (QiD es p t):=by
 refine Ok.eq ?_
 unfold Qit
 refine Ok.run es.length (fun i=>((QiD (es.take i) p t,t,es,(es.length:Int),(i:Int),()),())) (by simp[QiD]) U (fun i hi k hk=>?_) (fun k=>?_)
 .refine Ok.P (Ok.j (Ok.atn hi ?_))
  dsimp only
  have ha:QhG 1000 (O es i) t=some (decide ((O es i).v<=t/\t<(O es i).To)):=cnd2
  refine Ok.oe ha ?_
  rw[Qa U]
  rw[Qn8 hi]at hk
  unfold Qq9 at hk
  refine Ok.ite (fun h1=>?_) (fun h1=>?_)
  .refine Ok.ite (fun h2=>?_) (fun h2=>?_)
   .simp_all
   .rw[iA (by simp[h1,h2])]at hk
    refine Ok.ite (fun h3=>?_) (fun h3=>?_)
    .simp_all
    .rw[iA h3]at hk
     refine Ok.ite (fun h4=>?_) (fun h4=>?_)
     .simp_all
     .rw[iA h4]at hk
      refine Ok.ite (fun h5=>?_) (fun h5=>?_)
      .simp_all
      .rw[iA h5]at hk
       refine Ok.ite (fun h6=>?_) (fun h6=>?_)
       .simp_all
       .simp_all
  .simp_all
 .refine Ok.N (Ok.s ?_)
  rw[Ad]
def Ze.offs(h:Ze n c):Qe6 (Xd c):=h.zones.2
def tOf(h:Ze n c)(hn:n<=48):QlP 1000 c=some (⟨c,[tabV (Xd c)]⟩,true):=by
 have hz:Qik 1000 c.FL=some [tabV (Xd c)]:=by
  obtain⟨h1,h2⟩:=h.zones
  rw[h1]
  rcases h2 with h2|h2|h2<;>rw[h2]<;>kernel_rfl
 unfold QlP QlR
 (try unfold cd);rw[QkT h hn,ZY,QkA (by decide),hz,ZY,ZY]
def QCS(h:Ze n c)(hn:n<=48)(hs:Qfi n s):Qgx 1000 ⟨c,[tabV (Xd c)]⟩ s t=some (if 0<=t/\t<=8589934592 then whoS (Xd c) s t else -1):=by
 obtain⟨l,hl1,hl2⟩:=hs.layers
 have hlen:=hs.len
 refine Ok.eq ?_
 unfold Qgx
 refine Ok.j (Ok.ite (fun h1=>Ok.s (by rw[iA U])) fun h1=>Ok.ite (fun h2=>Ok.s (by rw[iA U])) fun h2=>?_)
 dsimp only
 rw[iB U]
 have hlay:Ok (XF 1000 ⟨c,[tabV (Xd c)]⟩ s t) fun r=>r.2=layP (Xd c) s t:=by
  unfold XF layP
  rw[hl1,show O [l] 0=l from rfl]
  refine Ok.oe (QB4 hl2 h.offs rfl U) (Ok.ite (fun h3=>Ok.s (by rw[iA U])) fun h3=>?_)
  refine Ok.oe (QDg U) (Ok.J (fun h4=>Ok.s (by rw[iA (by rw[h4];simp)])) fun h4=>Ok.s (by rw[iB ⟨U,h4⟩]))
 refine Ok.opt hlay fun⟨i,p⟩ hp=>?_
 dsimp only at hp |-
 refine Ok.oe (QDh U) (Ok.s ?_)
 unfold whoS
 rw[hp]
def QCX(h:Ze n c)(hn:n<=48):Qg2 1000 c i t=some (whoV c i t):=by
 have hsl:=h.slen
 have key:Ok (QkW 1000 c i t) (·=whoV c i t):=by
  unfold QkW whoV
  refine Ok.oe (tOf h hn) (Ok.j (Ok.t ?_))
  have hi:V4 1000 c i=some (decide (0<=i/\i<(c.f.length:Int))):=cnd2
  refine Ok.oe hi (Ok.ite (fun h1=>?_) (fun h1=>Ok.s (by rw[iA U])))
  dsimp only
  refine Ok.at h1.1 h1.2 (Ok.oe (QCS h hn (h.sch U)) (Ok.s ?_))
  omega
 unfold Qg2
 rw[Ok.eq key,ZY]
end Go.Proofs.YtlllfgmajglnhaaGreat
