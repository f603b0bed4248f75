/-
  The typed layer, part A: values with types (BV), what they mean (er), how they are read. No project text.
-/
import Derived.Test.YtlllfgmajglnhaaGreatQRowSurA
import Derived.Maps.RangeRun
import Derived.Laws.StructEq
import Derived.Laws.BytesString
import Derived.Laws.Slices
set_option linter.unusedVariables false
set_option linter.unusedSimpArgs false
namespace Go.Proofs.YtlllfgmajglnhaaGreat.AM
open Go
section
inductive BV where
 |n (k:IntKind) (x:Int)
 |b (x:Bool)
 |s (x:ByteArray)
 |ts (f:Bool) (t:TC) (l:List (TT t))
 |nil
 |agg (cs:List BV)
 |tup (vs:List BV)
 |ref (n:Name) (off:Nat)
 |own (n:Name) (ver:Nat)
 |aref (n:Name) (ver i off:Nat)
 |view (n:Name) (ver lo hi:Nat)
 |cut (n:Name) (ver k:Nat)
 /-- A map. -/
 |mref (n:Name)
 |tep (cs:List BV)
 |clo (f:Fn) (caps:List BV)
 |v (x:Value)
 /-- A truth value that is not known. -/
 |ub
 |any
inductive BO where
 |box (cells:List BV)
 |arr (t:TC) (l:List (TT t)) (ver:Nat)
 /-- A map from texts to truth values. -/
 |sm (es:List (ByteArray×Bool))
abbrev TS:=List (Nat×BV)
abbrev HS:=List (Name×BO)
def BV.pv:BV->PV
 |.n k x=>.v (.int k x)
 |.b x=>.v (.bool x)
 |.s x=>.v (.string x)
 |.ts f t l=>.sl f (tz t) (l.map (tcells t))
 |.nil=>.sl true 0 []
 |.v x=>.v x
 |_=>.v .nilIface
def BV.isP:BV->Bool
 |.n _ _=>true
 |.b _=>true
 |.s _=>true
 |.ts _ _ _=>true
 |.nil=>true
 |.v _=>true
 |_=>false
abbrev Lens:=Name->Nat->Nat
mutual
def BV.er(L:Lens):BV->AV
 |.agg cs=>.agg (erL L cs)
 |.tup vs=>.tup (erL L vs)
 |.ref n o=>.ref n o
 |.own n v=>.own n (L n v)
 |.aref n v i o=>.aref n (L n v) i o
 |.view n v i o=>.view n (L n v) i o
 |.cut n v k=>.cut n (L n v) k
 |.mref n=>.oref true n
 |.tep cs=>.eptr (pvL cs)
 |.clo f caps=>.clo f [] (erL L caps)
 |.any=>.any
 |.ub=>.ub
 |.n k x=>.p (.v (.int k x))
 |.b x=>.p (.v (.bool x))
 |.s x=>.p (.v (.string x))
 |.ts f t l=>.p (.sl f (tz t) (l.map (tcells t)))
 |.nil=>.p (.sl true 0 [])
 |.v x=>.p (.v x)
def erL(L:Lens):List BV->List AV
 |[]=>[]
 |x::r=>x.er L::erL L r
def pvL:List BV->List PV
 |[]=>[]
 |x::r=>x.pv::pvL r
end
variable {L L':Lens}
theorem VF:∀l:List BV,erL L l=l.map (BV.er L)
 |[]=>by simp only[erL,List.map_nil]
 |x::r=>by simp only[erL,List.map_cons,VF r]
theorem Qie:∀l:List BV,pvL l=l.map BV.pv
 |[]=>by simp only[pvL,List.map_nil]
 |x::r=>by simp only[pvL,List.map_cons,Qie r]
theorem Qt0{x:BV}(h:x.isP=true):x.er L=.p x.pv:=by cases x<;>first|(simp only[BV.er,BV.pv];done)|simp[BV.isP]at h
theorem Vn:∀{l:List BV},l.all BV.isP=true->erL L l=pcells (pvL l)
 |[],_=>by simp only[erL,pvL,pcells,List.map_nil]
 |x::r,h=>by
  simp only[List.all_cons,bae]at h
  simp only[erL,pvL,pcells,List.map_cons,Qt0 h.1,Vn h.2]
theorem Qsj(a b:List BV):erL L (a++b)=erL L a++erL L b:=by simp[VF]
theorem Xy(a:List BV):(erL L a).length=a.length:=by simp[VF]
theorem Qri(a:List BV)(k:Nat):erL L (a.drop k)=(erL L a).drop k:=by simp[VF]
theorem Qrj(a:List BV)(k:Nat):erL L (a.take k)=(erL L a).take k:=by simp[VF]
theorem QhX(a:List BV)(k:Nat):(erL L a)[k]?=(a[k]?).map (BV.er L):=by simp[VF]
theorem Qou(a b:List BV)(k:Nat):erL L (QM a k b)=QM (erL L a) k (erL L b):=by simp[VF,QM]
theorem QrN(a:List BV)(k:Nat):pvL (a.drop k)=(pvL a).drop k:=by simp[Qie]
theorem QrO(a:List BV)(k:Nat):pvL (a.take k)=(pvL a).take k:=by simp[Qie]
theorem Qcv(a:List BV):(pvL a).length=a.length:=by simp[Qie]
theorem QuQ(a:List BV)(k:Nat):(pvL a)[k]?=(a[k]?).map BV.pv:=by simp[Qie]
theorem QuR(a b:List BV)(k:Nat):pvL (QM a k b)=QM (pvL a) k (pvL b):=by simp[Qie,QM]
def BO.er(L:Lens):BO->AO
 |.box cells=>.box (erL L cells)
 |.arr t l _=>.arr (tz t) (l.map (tcells t))
 |.sm es=>.obj (smap (es.map fun p=>(p.1,.bool p.2)))
def erT(L:Lens)(ts:TS):List (Nat×AV):=ts.map fun p=>(p.1,p.2.er L)
def erH(L:Lens)(hs:HS):List (Name×AO):=hs.map fun p=>(p.1,p.2.er L)
theorem VJ(k:Nat):∀ts:TS,look k (erT L ts)=(look k ts).map (BV.er L)
 |[]=>rfl
 |(j,x)::r=>by
  show look k ((j,x.er L)::erT L r)=(look k ((j,x)::r)).map (BV.er L)
  simp only[look];split
  .rfl
  .exact VJ k r
theorem ZH(k:Nat):∀hs:HS,look k (erH L hs)=(look k hs).map (BO.er L)
 |[]=>rfl
 |(j,x)::r=>by
  show look k ((j,x.er L)::erH L r)=(look k ((j,x)::r)).map (BO.er L)
  simp only[look];split
  .rfl
  .exact ZH k r
theorem Qfk(a b:HS):erH L (a++b)=erH L a++erH L b:=by simp[erH]
theorem Qc4(a:HS):keys (erH L a)=keys a:=by simp[erH,keys]
mutual
def BV.has(n:Name):BV->Bool
 |.agg cs=>BV.hasL n cs
 |.tup vs=>BV.hasL n vs
 |.clo _ cs=>BV.hasL n cs
 |.ref m _=>m == n
 |.own m _=>m == n
 |.aref m _ _ _=>m == n
 |.view m _ _ _=>m == n
 |.cut m _ _=>m == n
 |.mref m=>m == n
 |_=>false
def BV.hasL(n:Name):List BV->Bool
 |[]=>false
 |x::r=>BV.has n x || BV.hasL n r
end
mutual
theorem Qrs(n:Name):∀x:BV,(x.er L).has n=x.has n
 |.agg cs=>by simp only[BV.er,AV.has,BV.has,Qkk n cs]
 |.tup cs=>by simp only[BV.er,AV.has,BV.has,Qkk n cs]
 |.clo f cs=>by simp only[BV.er,AV.has,BV.has,Qkk n cs,AV.hasL,Bool.false_or]
 |.ref _ _=>by simp only[BV.er,AV.has,BV.has]
 |.own _ _=>by simp only[BV.er,AV.has,BV.has]
 |.aref _ _ _ _=>by simp only[BV.er,AV.has,BV.has]
 |.view _ _ _ _=>by simp only[BV.er,AV.has,BV.has]
 |.cut _ _ _=>by simp only[BV.er,AV.has,BV.has]
 |.mref _=>by simp only[BV.er,AV.has,BV.has]
 |.tep _=>by simp only[BV.er,AV.has,BV.has]
 |.any=>by simp only[BV.er,AV.has,BV.has]
 |.ub=>by simp only[BV.er,AV.has,BV.has]
 |.n _ _=>by simp only[BV.er,AV.has,BV.has]
 |.b _=>by simp only[BV.er,AV.has,BV.has]
 |.s _=>by simp only[BV.er,AV.has,BV.has]
 |.ts _ _ _=>by simp only[BV.er,AV.has,BV.has]
 |.nil=>by simp only[BV.er,AV.has,BV.has]
 |.v _=>by simp only[BV.er,AV.has,BV.has]
theorem Qkk(n:Name):∀l:List BV,AV.hasL n (erL L l)=BV.hasL n l
 |[]=>by simp only[erL,AV.hasL,BV.hasL]
 |x::r=>by simp only[erL,AV.hasL,BV.hasL,Qrs n x,Qkk n r]
end
mutual
def BV.nov(n:Name)(v:Nat):BV->Bool
 |.agg cs=>BV.novL n v cs
 |.tup vs=>BV.novL n v vs
 |.clo _ cs=>BV.novL n v cs
 |.own m u=>!(Nat.beq m n && Nat.beq u v)
 |.aref m u _ _=>!(Nat.beq m n && Nat.beq u v)
 |.view m u _ _=>!(Nat.beq m n && Nat.beq u v)
 |.cut m u _=>!(Nat.beq m n && Nat.beq u v)
 |_=>true
def BV.novL(n:Name)(v:Nat):List BV->Bool
 |[]=>true
 |x::r=>BV.nov n v x && BV.novL n v r
end
mutual
theorem Qrk:∀x:BV,(∀n v,x.nov n v=false->L n v=L' n v)->x.er L=x.er L'
 |.agg cs,h=>by simp only[BV.er,Qek cs (fun n v hn=>h n v (by simpa only[BV.nov]using hn))]
 |.tup cs,h=>by simp only[BV.er,Qek cs (fun n v hn=>h n v (by simpa only[BV.nov]using hn))]
 |.clo f cs,h=>by simp only[BV.er,Qek cs (fun n v hn=>h n v (by simpa only[BV.nov]using hn))]
 |.ref _ _,_=>by simp only[BV.er]
 |.own m u,h=>by simp only[BV.er,h m u (by simp[BV.nov])]
 |.aref m u _ _,h=>by simp only[BV.er,h m u (by simp[BV.nov])]
 |.view m u _ _,h=>by simp only[BV.er,h m u (by simp[BV.nov])]
 |.cut m u _,h=>by simp only[BV.er,h m u (by simp[BV.nov])]
 |.mref _,_=>by simp only[BV.er]
 |.tep _,_=>by simp only[BV.er]
 |.any,_=>by simp only[BV.er]
 |.ub,_=>by simp only[BV.er]
 |.n _ _,_=>by simp only[BV.er]
 |.b _,_=>by simp only[BV.er]
 |.s _,_=>by simp only[BV.er]
 |.ts _ _ _,_=>by simp only[BV.er]
 |.nil,_=>by simp only[BV.er]
 |.v _,_=>by simp only[BV.er]
theorem Qek:∀l:List BV,(∀n v,BV.novL n v l=false->L n v=L' n v)->erL L l=erL L' l
 |[],_=>by simp only[erL]
 |x::r,h=>by
  simp only[erL,Qrk x (fun n v hn=>h n v (by simp only[BV.novL,hn,Bool.false_and])),Qek r (fun n v hn=>h n v (by simp only[BV.novL,hn,Bool.and_false]))]
end
mutual
theorem Qux{n:Name}{v:Nat}:∀x:BV,x.nov n v=false->x.has n=true
 |.agg cs,h=>by simp only[BV.nov]at h;simp only[BV.has,Qhm cs h]
 |.tup cs,h=>by simp only[BV.nov]at h;simp only[BV.has,Qhm cs h]
 |.clo f cs,h=>by simp only[BV.nov]at h;simp only[BV.has,Qhm cs h]
 |.ref _ _,h=>by simp[BV.nov]at h
 |.own m u,h=>by simp only[BV.nov,Bool.not_eq_false',bae,Nat.beq_eq]at h;simp[BV.has,h.1]
 |.view m u _ _,h=>by simp only[BV.nov,Bool.not_eq_false',bae,Nat.beq_eq]at h;simp[BV.has,h.1]
 |.cut m u _,h=>by simp only[BV.nov,Bool.not_eq_false',bae,Nat.beq_eq]at h;simp[BV.has,h.1]
 |.mref _,h=>by simp[BV.nov]at h
 |.aref m u _ _,h=>by simp only[BV.nov,Bool.not_eq_false',bae,Nat.beq_eq]at h;simp[BV.has,h.1]
 |.tep _,h=>by simp[BV.nov]at h
 |.any,h=>by simp[BV.nov]at h
 |.ub,h=>by simp[BV.nov]at h
 |.n _ _,h=>by simp[BV.nov]at h
 |.b _,h=>by simp[BV.nov]at h
 |.s _,h=>by simp[BV.nov]at h
 |.ts _ _ _,h=>by simp[BV.nov]at h
 |.nil,h=>by simp[BV.nov]at h
 |.v _,h=>by simp[BV.nov]at h
theorem Qhm{n:Name}{v:Nat}:∀l:List BV,BV.novL n v l=false->BV.hasL n l=true
 |[],h=>by simp[BV.novL]at h
 |x::r,h=>by
  simp only[BV.novL,Bool.and_eq_false_iff]at h
  simp only[BV.hasL,Bool.or_eq_true]
  exact h.imp (Qux x) (Qhm r)
end
def BO.has(n:Name):BO->Bool
 |.box cells=>BV.hasL n cells
 |.arr _ _ _=>false
 |.sm _=>false
def BO.nov(n:Name)(v:Nat):BO->Bool
 |.box cells=>BV.novL n v cells
 |.arr _ _ _=>true
 |.sm _=>true
theorem Qub(n:Name)(o:BO):(o.er L).has n=o.has n:=by cases o<;>simp only[BO.er,AO.has,BO.has,Qkk]
def QdV(n:Name)(ts:TS)(hs:HS):Bool:=ts.all (fun p=>!p.2.has n) && hs.all (fun p=>!p.2.has n)
theorem Qc2{n:Name}{ts:TS}{hs:HS}:QdK n (erT L ts) (erH L hs)=QdV n ts hs:=by
 simp only[QdK,QdV,erT,erH,List.all_map]
 congr 1
 .congr 1;funext p;simp only[Function.comp,Qrs]
 .congr 1;funext p;simp only[Function.comp,Qub]
def novS(n:Name)(v:Nat)(ts:TS)(hs:HS):Bool:=ts.all (fun p=>p.2.nov n v) && hs.all (fun p=>p.2.nov n v)
theorem QtZ(o:BO)(h:∀n v,o.nov n v=false->L n v=L' n v):o.er L=o.er L':=by
 cases o with
 |box cs=>simp only[BO.er,Qek cs (fun n v hn=>h n v (by simpa only[BO.nov]using hn))]
 |arr t l=>simp only[BO.er]
 |sm es=>simp only[BO.er]
theorem Qws{n:Name}{v:Nat}(o:BO)(h:o.nov n v=false):o.has n=true:=by
 cases o with
 |box cs=>exact Qhm cs h
 |arr t l=>simp[BO.nov]at h
 |sm es=>simp[BO.nov]at h
theorem Qel{nw:List Name}{nv:List (Name×Nat)}{ts:TS}{hs:HS}(h1:∀n,n∈nw->QdV n ts hs=true)(h2:∀p,p∈nv->novS p.1 p.2 ts hs=true)(h:∀n v,n∉nw->(n,v)∉nv->L' n v=L n v):erT L ts=erT L' ts/\erH L hs=erH L' hs:=by
 have key:∀n v,((∃p∈ts,p.2.nov n v=false)\/(∃p∈hs,p.2.nov n v=false))->L n v=L' n v:=fun n v hx=>by
  refine(h n v (fun hn=>?_) (fun hn=>?_)).symm
  .have:=h1 n hn
   simp only[QdV,bae,List.all_eq_true]at this
   rcases hx with⟨p,hp,hq⟩|⟨p,hp,hq⟩
   .have:=this.1 p hp;rw[Qux _ hq]at this;simp at this
   .have:=this.2 p hp;rw[Qws _ hq]at this;simp at this
  .have:=h2 _ hn
   simp only[novS,bae,List.all_eq_true]at this
   grind
 unfold erT erH
 refine⟨List.map_congr_left fun p hp=>?_,List.map_congr_left fun p hp=>?_⟩
 .rw[Qrk p.2 (fun n v hn=>key n v (.inl ⟨p,hp,hn⟩))]
 .rw[QtZ p.2 (fun n v hn=>key n v (.inr ⟨p,hp,hn⟩))]
section
variable {R:Type}
def cnd(c:Bool)(x y:Option R):Option R:=match c with|true=>x|false=>y
def natc(j:Int)(k:Nat->Option R):Option R:=if 0<=j then k j.toNat else none
def optc{α:Type}(o:Option α)(k:α->Option R):Option R:=match o with|some x=>k x|none=>none
def atc{α:Type}(l:List α)(j:Int)(k:α->Option R):Option R:=natc j fun i=>optc l[i]? k
def chk(a b:Nat)(x:Option R):Option R:=if a=b then x else none
def ltc(a b:Nat)(x:Option R):Option R:=if a<b then x else none
def nilC{α:Type}(l:List α)(x y:Option R):Option R:=match l with|[]=>x|_::_=>y
def both[DecidableEq R](x y:Option R):Option R:=if x=y then x else none
def lec(a b:Nat)(x:Option R):Option R:=if a<=b then x else none
def nzc(b:Int)(x:Option R):Option R:=if b=0 then none else x
def Qg{X:Type}(B:(X->Option R)->X->Option R):Nat->X->Option R
 |0,_=>none
 |n+1,x=>B (Qg B n) x
def join{Y:Type}(k:Y->Option R)(f:(Y->Option R)->Option R):Option R:=f k
variable {r:R}
theorem Qg2{c:Bool}{x y:Option R}(h:cnd c x y=some r):c=true/\x=some r\/c=false/\y=some r:=by
 cases c
 .exact .inr ⟨rfl,h⟩
 .exact .inl ⟨rfl,h⟩
theorem QoO{α:Type}{l:List α}{x y:Option R}(h:nilC l x y=some r):l=[]/\x=some r\/l≠[]/\y=some r:=by
 cases l with
 |nil=>exact .inl ⟨rfl,h⟩
 |cons a q=>exact .inr ⟨Ob,h⟩
theorem QtE[DecidableEq R]{x y:Option R}(h:both x y=some r):x=some r/\y=some r:=by
 unfold both at h
 simp_all
theorem UY{j:Int}{k:Nat->Option R}(h:natc j k=some r):∃i:Nat,j=(i:Int)/\k i=some r:=by
 unfold natc at h
 grind
theorem Wx{α:Type}{o:Option α}{k:α->Option R}(h:optc o k=some r):∃x,o=some x/\k x=some r:=by
 cases o with
 |none=>simp[optc]at h
 |some x=>exact⟨x,rfl,h⟩
theorem QvH{α:Type}{l:List α}{j:Int}{k:α->Option R}(h:atc l j k=some r):∃(i:Nat) (x:α),j=(i:Int)/\l[i]?=some x/\k x=some r:=by
 obtain⟨i,hi,h2⟩:=UY h
 obtain⟨x,hx,h3⟩:=Wx h2
 grind
theorem Qfh{a b:Nat}{x:Option R}(h:chk a b x=some r):a=b/\x=some r:=by
 unfold chk at h;split at h
 .simp_all
 .simp at h
theorem Qhj{a b:Nat}{x:Option R}(h:ltc a b x=some r):a<b/\x=some r:=by
 unfold ltc at h;split at h
 .simp_all
 .simp at h
theorem ZP{a b:Nat}{x:Option R}(h:lec a b x=some r):a<=b/\x=some r:=by
 unfold lec at h;split at h
 .simp_all
 .simp at h
theorem Qwt{b:Int}{x:Option R}(h:nzc b x=some r):b≠0/\x=some r:=by
 unfold nzc at h;split at h
 .simp at h
 .simp_all
end
def BV.isQ:BV->Bool
 |.n _ _=>true
 |.b _=>true
 |.s _=>true
 |.ts false _ _=>true
 |_=>false
theorem Qxa{b:Bool}{t:TC}{x:List (TT t)}(h:BV.isQ (.ts b t x)=true):BV.ts b t x=.ts false t x:=by
 cases b
 .rfl
 .simp[BV.isQ]at h
theorem Qx3{x:BV}(h:x.isQ=true):x.isP=true:=by
 cases x<;>first|rfl|simp[BV.isQ]at h
def CLe(x y:BV):Prop:=(∀L,AVle (x.er L) (y.er L))/\(x.isQ=true->x=y)
def Le(a b:List BV):Prop:=(∀L,XN (erL L a) (erL L b))/\(a.all BV.isQ=true->a=b)
theorem XN.refl:∀l:List AV,XN l l
 |[]=>.nil
 |x::r=>.cons (.refl x) (XN.refl r)
theorem Le.refl(l:List BV):Le l l:=⟨fun L=>XN.refl _,fun _=>rfl⟩
theorem Le.cons{x y:BV}{a b:List BV}(h:CLe x y)(h':Le a b):Le (x::a) (y::b):=⟨fun L=>by simp only[erL];exact XN.cons (h.1 L) (h'.1 L),fun hq=>by
 simp only[List.all_cons,bae]at hq
 rw[h.2 hq.1,h'.2 hq.2]⟩
theorem Le.cons'{x:BV}{a b:List BV}(h':Le a b):Le (x::a) (x::b):=⟨fun L=>by simp only[erL];exact XN.cons (.refl _) (h'.1 L),fun hq=>by
 simp only[List.all_cons,bae]at hq
 rw[h'.2 hq.2]⟩
def Qoc{t t0:TC}(h:t=t0)(l:List (TT t)):List (TT t0):=h ▸ l
section
variable {R:Type} {r:R}
def popN(k0:IntKind):List BV->(Int->List BV->Option R)->Option R
 |.n k x::l,K=>if kEq k0 k then K x l else none
 |_,_=>none
def popB:List BV->(Bool->List BV->Option R)->Option R
 |.b x::l,K=>K x l
 |_,_=>none
def popS:List BV->(ByteArray->List BV->Option R)->Option R
 |.s x::l,K=>K x l
 |_,_=>none
def popT(t0:TC):List BV->(List (TT t0)->List BV->Option R)->Option R
 |.ts _ t x::l,K=>if h:t=t0 then K (Qoc h x) l else none
 |.nil::l,K=>K [] l
 |_,_=>none
theorem Qa{k0:IntKind}{cs:List BV}{K:Int->List BV->Option R}(h:popN k0 cs K=some r):∃x l,cs=.n k0 x::l/\K x l=some r:=by
 unfold popN at h
 split at h
 .split at h
  .rename_i he;have:=Qf7 he;subst this;exact⟨_,_,rfl,h⟩
  .simp at h
 .simp at h
theorem Qhs{cs:List BV}{K:Bool->List BV->Option R}(h:popB cs K=some r):∃x l,cs=.b x::l/\K x l=some r:=by
 unfold popB at h
 grind
theorem U5{cs:List BV}{K:ByteArray->List BV->Option R}(h:popS cs K=some r):∃x l,cs=.s x::l/\K x l=some r:=by
 unfold popS at h
 grind
theorem Qxf(t:TC)(L:Lens):AVle (BV.nil.er L) ((BV.ts false t []).er L):=by simp only[BV.er];exact .p (PVle.nil (fun h=>by simp at h))
theorem Qf{t0:TC}{cs:List BV}{K:List (TT t0)->List BV->Option R}(h:popT t0 cs K=some r):∃x l v,cs=v::l/\CLe v (.ts false t0 x)/\K x l=some r:=by
 unfold popT at h
 split at h
 .split at h
  .rename_i he;subst he;exact⟨_,_,_,rfl,⟨fun L=>by simp only[BV.er,Qoc];exact .p (PVle.full _),fun hq=>Qxa hq⟩,h⟩
  .simp at h
 .exact⟨_,_,_,rfl,⟨Qxf t0,fun hq=>by simp[BV.isQ]at hq⟩,h⟩
 .simp at h
end
end
/-
  Typed cells, and typed data read off cells. Written by wip/gen/bdata.py. No project text.
-/
def tb:(t:TC)->TT t->List BV
 |.int,x=>[.n .i64 x]
 |.str,x=>[.s x]
 |.bool,x=>[.b x]
 |.u8,x=>[.n .u8 x]
 |.Arr2Int,x=>[.n .i64 x.a0,.n .i64 x.a1]
 |.Arr3Int,x=>[.n .i64 x.a0,.n .i64 x.a1,.n .i64 x.a2]
 |.YearRule,x=>[.n .i64 x.From,.n .i64 x.To,.n .i64 x.Month,.n .i64 x.Week,.n .i64 x.Weekday,.n .i64 x.Second,.n .i64 x.Offset]
 |.Zone,x=>[.s x.Name,.n .i64 x.Offset,.ts false .YearRule x.Rules]
 |.Window,x=>[.n .i64 x.From,.n .i64 x.To]
 |.Person,x=>[.s x.Name,.n .i64 x.Zone,.ts false .Window x.Quiet,.n .i64 x.MaxWeek,.n .i64 x.MinRest,.b x.Consent]
 |.Calendar,x=>[.s x.Name,.n .i64 x.Zone,.ts false .int x.Days]
 |.Local,x=>[.n .i64 x.Day,.n .i64 x.Second]
 |.Layer,x=>[.s x.Name,.n .i64 x.Zone,.n .i64 x.Start.Day,.n .i64 x.Start.Second,.n .i64 x.Unit,.n .i64 x.Every,.ts false .int x.Members,.ts false .Window x.Windows,.n .i64 x.Calendar,.n .i64 x.Mode]
 |.Edit,x=>[.n .i64 x.Kind,.n .i64 x.A,.n .i64 x.B,.n .i64 x.From,.n .i64 x.To]
 |.Schedule,x=>[.s x.Name,.ts false .Layer x.Layers,.ts false .Edit x.Edits]
 |.Config,x=>[.ts false .Zone x.Zones,.ts false .Person x.People,.ts false .Calendar x.Calendars,.ts false .Schedule x.Schedules]
 |.Team,x=>[.s x.Name,.ts false .int x.Members]
 |.Target,x=>[.n .i64 x.Kind,.n .i64 x.Index]
 |.PolicyStep,x=>[.n .i64 x.Wait,.b x.Urgent,.ts false .Target x.Targets]
 |.Policy,x=>[.s x.Name,.ts false .PolicyStep x.Steps,.n .i64 x.Repeat]
 |.Book,x=>[.ts false .Team x.Teams,.ts false .Policy x.Policies]
 |.Start,x=>[.n .i64 x.K,.n .i64 x.At,.ts false .int x.People]
 |.Page,x=>[.n .i64 x.ID,.n .i64 x.Policy,.n .i64 x.Start,.n .i64 x.Next,.n .i64 x.Due,.n .i64 x.State,.n .i64 x.By,.n .i64 x.Until,.n .i64 x.Last,.n .i64 x.Snoozes,.n .i64 x.Hands,.ts false .Start x.Starts,.ts false .int x.Declined,.ts false .int x.Seen]
 |.Call,x=>[.n .i64 x.Page,.n .i64 x.K,.n .i64 x.At,.n .i64 x.Person,.n .i64 x.Fence]
 |.Ledger,x=>[.n .i64 x.Now,.ts false .Zone x.Config.Zones,.ts false .Person x.Config.People,.ts false .Calendar x.Config.Calendars,.ts false .Schedule x.Config.Schedules,.ts false .Team x.Book.Teams,.ts false .Policy x.Book.Policies,.ts false .Page x.Pages,.n .i64 x.Owner,.n .i64 x.Fence,.ts false .int x.Seen,.ts false .Call x.Calls]
 |.Answer,x=>[.n .i64 x.ID,.n .i64 x.Page,.n .i64 x.Person,.n .i64 x.Kind,.n .i64 x.Arg,.n .i64 x.At]
 |.Op,x=>[.n .i64 x.ID,.n .i64 x.Kind,.n .i64 x.Region,.n .i64 x.Fence,.n .i64 x.At,.n .i64 x.Page,.n .i64 x.K,.n .i64 x.Policy,.n .i64 x.Schedule,.n .i64 x.Answer.ID,.n .i64 x.Answer.Page,.n .i64 x.Answer.Person,.n .i64 x.Answer.Kind,.n .i64 x.Answer.Arg,.n .i64 x.Answer.At,.n .i64 x.Edit.Kind,.n .i64 x.Edit.A,.n .i64 x.Edit.B,.n .i64 x.Edit.From,.n .i64 x.Edit.To]
 |.Entry,x=>[.n .i64 x.Term,.n .i64 x.Op.ID,.n .i64 x.Op.Kind,.n .i64 x.Op.Region,.n .i64 x.Op.Fence,.n .i64 x.Op.At,.n .i64 x.Op.Page,.n .i64 x.Op.K,.n .i64 x.Op.Policy,.n .i64 x.Op.Schedule,.n .i64 x.Op.Answer.ID,.n .i64 x.Op.Answer.Page,.n .i64 x.Op.Answer.Person,.n .i64 x.Op.Answer.Kind,.n .i64 x.Op.Answer.Arg,.n .i64 x.Op.Answer.At,.n .i64 x.Op.Edit.Kind,.n .i64 x.Op.Edit.A,.n .i64 x.Op.Edit.B,.n .i64 x.Op.Edit.From,.n .i64 x.Op.Edit.To]
 |.Replica,x=>[.n .i64 x.ID,.n .i64 x.Term,.n .i64 x.Voted,.n .i64 x.Role,.ts false .Entry x.Log,.n .i64 x.Commit,.ts false .bool x.Votes,.ts false .int x.Match]
 |.Message,x=>[.n .i64 x.Kind,.n .i64 x.From,.n .i64 x.To,.n .i64 x.Term,.n .i64 x.Prev,.n .i64 x.PrevTerm,.n .i64 x.Commit,.ts false .Entry x.Entries,.b x.OK]
 |.Cluster,x=>[.ts false .Replica x.Replicas,.ts false .Message x.Wire,.ts false .bool x.Down,.ts false .Arr2Int x.Cut]
 |.Paging,x=>[.n .i64 x.Base.Now,.ts false .Zone x.Base.Config.Zones,.ts false .Person x.Base.Config.People,.ts false .Calendar x.Base.Config.Calendars,.ts false .Schedule x.Base.Config.Schedules,.ts false .Team x.Base.Book.Teams,.ts false .Policy x.Base.Book.Policies,.ts false .Page x.Base.Pages,.n .i64 x.Base.Owner,.n .i64 x.Base.Fence,.ts false .int x.Base.Seen,.ts false .Call x.Base.Calls,.ts false .Replica x.Cluster.Replicas,.ts false .Message x.Cluster.Wire,.ts false .bool x.Cluster.Down,.ts false .Arr2Int x.Cluster.Cut,.n .i64 x.Serial]
 |.Dice,x=>[.ts false .int x.L,.n .i64 x.At]
 |.site,x=>[.n .i64 x.Paging.Base.Now,.ts false .Zone x.Paging.Base.Config.Zones,.ts false .Person x.Paging.Base.Config.People,.ts false .Calendar x.Paging.Base.Config.Calendars,.ts false .Schedule x.Paging.Base.Config.Schedules,.ts false .Team x.Paging.Base.Book.Teams,.ts false .Policy x.Paging.Base.Book.Policies,.ts false .Page x.Paging.Base.Pages,.n .i64 x.Paging.Base.Owner,.n .i64 x.Paging.Base.Fence,.ts false .int x.Paging.Base.Seen,.ts false .Call x.Paging.Base.Calls,.ts false .Replica x.Paging.Cluster.Replicas,.ts false .Message x.Paging.Cluster.Wire,.ts false .bool x.Paging.Cluster.Down,.ts false .Arr2Int x.Paging.Cluster.Cut,.n .i64 x.Paging.Serial,.n .i64 x.region,.n .i64 x.count]
 |.fence,x=>[.n .i64 x.region,.n .i64 x.number]
 |.worker,x=>[.n .i64 x.Ledger.Now,.ts false .Zone x.Ledger.Config.Zones,.ts false .Person x.Ledger.Config.People,.ts false .Calendar x.Ledger.Config.Calendars,.ts false .Schedule x.Ledger.Config.Schedules,.ts false .Team x.Ledger.Book.Teams,.ts false .Policy x.Ledger.Book.Policies,.ts false .Page x.Ledger.Pages,.n .i64 x.Ledger.Owner,.n .i64 x.Ledger.Fence,.ts false .int x.Ledger.Seen,.ts false .Call x.Ledger.Calls]
 |.Occurrence,x=>[.n .i64 x.At,.n .i64 x.Offset]
 |.Transition,x=>[.n .i64 x.At,.n .i64 x.Offset]
 |.Date,x=>[.n .i64 x.Year,.n .i64 x.Month,.n .i64 x.Day]
 |.occurrence,x=>[.n .i64 x.local_,.n .i64 x.offset]
 |.Table,x=>[.n .i64 x.offset,.ts false .Transition x.list]
 |.View,x=>[.ts false .Zone x.Config.Zones,.ts false .Person x.Config.People,.ts false .Calendar x.Config.Calendars,.ts false .Schedule x.Config.Schedules,.ts false .Table x.tables]
 |.Piece,x=>[.n .i64 x.From,.n .i64 x.To,.n .i64 x.Offset]
theorem QcQ:∀(t:TC) (x:TT t),(tb t x).all BV.isP=true
 |.int,_=>rfl
 |.str,_=>rfl
 |.bool,_=>rfl
 |.u8,_=>rfl
 |.Arr2Int,_=>rfl
 |.Arr3Int,_=>rfl
 |.YearRule,_=>rfl
 |.Zone,_=>rfl
 |.Window,_=>rfl
 |.Person,_=>rfl
 |.Calendar,_=>rfl
 |.Local,_=>rfl
 |.Layer,_=>rfl
 |.Edit,_=>rfl
 |.Schedule,_=>rfl
 |.Config,_=>rfl
 |.Team,_=>rfl
 |.Target,_=>rfl
 |.PolicyStep,_=>rfl
 |.Policy,_=>rfl
 |.Book,_=>rfl
 |.Start,_=>rfl
 |.Page,_=>rfl
 |.Call,_=>rfl
 |.Ledger,_=>rfl
 |.Answer,_=>rfl
 |.Op,_=>rfl
 |.Entry,_=>rfl
 |.Replica,_=>rfl
 |.Message,_=>rfl
 |.Cluster,_=>rfl
 |.Paging,_=>rfl
 |.Dice,_=>rfl
 |.site,_=>rfl
 |.fence,_=>rfl
 |.worker,_=>rfl
 |.Occurrence,_=>rfl
 |.Transition,_=>rfl
 |.Date,_=>rfl
 |.occurrence,_=>rfl
 |.Table,_=>rfl
 |.View,_=>rfl
 |.Piece,_=>rfl
theorem Qs0:∀(t:TC) (x:TT t),pvL (tb t x)=tcells t x
 |.int,_=>rfl
 |.str,_=>rfl
 |.bool,_=>rfl
 |.u8,_=>rfl
 |.Arr2Int,_=>rfl
 |.Arr3Int,_=>rfl
 |.YearRule,_=>rfl
 |.Zone,_=>rfl
 |.Window,_=>rfl
 |.Person,_=>rfl
 |.Calendar,_=>rfl
 |.Local,_=>rfl
 |.Layer,_=>rfl
 |.Edit,_=>rfl
 |.Schedule,_=>rfl
 |.Config,_=>rfl
 |.Team,_=>rfl
 |.Target,_=>rfl
 |.PolicyStep,_=>rfl
 |.Policy,_=>rfl
 |.Book,_=>rfl
 |.Start,_=>rfl
 |.Page,_=>rfl
 |.Call,_=>rfl
 |.Ledger,_=>rfl
 |.Answer,_=>rfl
 |.Op,_=>rfl
 |.Entry,_=>rfl
 |.Replica,_=>rfl
 |.Message,_=>rfl
 |.Cluster,_=>rfl
 |.Paging,_=>rfl
 |.Dice,_=>rfl
 |.site,_=>rfl
 |.fence,_=>rfl
 |.worker,_=>rfl
 |.Occurrence,_=>rfl
 |.Transition,_=>rfl
 |.Date,_=>rfl
 |.occurrence,_=>rfl
 |.Table,_=>rfl
 |.View,_=>rfl
 |.Piece,_=>rfl
section
variable {R:Type} {r:R}
def tpop:(t:TC)->List BV->(TT t->List BV->Option R)->Option R
 |.int,c,K=>popN .i64 c K
 |.str,c,K=>popS c K
 |.bool,c,K=>popB c K
 |.u8,c,K=>popN .u8 c K
 |.Arr2Int,c,K=>popN .i64 c fun a0 c=>popN .i64 c fun a1 c=>K ⟨a0,a1⟩ c
 |.Arr3Int,c,K=>popN .i64 c fun a0 c=>popN .i64 c fun a1 c=>popN .i64 c fun a2 c=>K ⟨a0,a1,a2⟩ c
 |.YearRule,c,K=>popN .i64 c fun a0 c=>popN .i64 c fun a1 c=>popN .i64 c fun a2 c=>popN .i64 c fun a3 c=>popN .i64 c fun a4 c=>popN .i64 c fun a5 c=>popN .i64 c fun a6 c=>K ⟨a0,a1,a2,a3,a4,a5,a6⟩ c
 |.Zone,c,K=>popS c fun a0 c=>popN .i64 c fun a1 c=>popT .YearRule c fun a2 c=>K ⟨a0,a1,a2⟩ c
 |.Window,c,K=>popN .i64 c fun a0 c=>popN .i64 c fun a1 c=>K ⟨a0,a1⟩ c
 |.Person,c,K=>popS c fun a0 c=>popN .i64 c fun a1 c=>popT .Window c fun a2 c=>popN .i64 c fun a3 c=>popN .i64 c fun a4 c=>popB c fun a5 c=>K ⟨a0,a1,a2,a3,a4,a5⟩ c
 |.Calendar,c,K=>popS c fun a0 c=>popN .i64 c fun a1 c=>popT .int c fun a2 c=>K ⟨a0,a1,a2⟩ c
 |.Local,c,K=>popN .i64 c fun a0 c=>popN .i64 c fun a1 c=>K ⟨a0,a1⟩ c
 |.Layer,c,K=>popS c fun a0 c=>popN .i64 c fun a1 c=>popN .i64 c fun a2 c=>popN .i64 c fun a3 c=>popN .i64 c fun a4 c=>popN .i64 c fun a5 c=>popT .int c fun a6 c=>popT .Window c fun a7 c=>popN .i64 c fun a8 c=>popN .i64 c fun a9 c=>K ⟨a0,a1,⟨a2,a3⟩,a4,a5,a6,a7,a8,a9⟩ c
 |.Edit,c,K=>popN .i64 c fun a0 c=>popN .i64 c fun a1 c=>popN .i64 c fun a2 c=>popN .i64 c fun a3 c=>popN .i64 c fun a4 c=>K ⟨a0,a1,a2,a3,a4⟩ c
 |.Schedule,c,K=>popS c fun a0 c=>popT .Layer c fun a1 c=>popT .Edit c fun a2 c=>K ⟨a0,a1,a2⟩ c
 |.Config,c,K=>popT .Zone c fun a0 c=>popT .Person c fun a1 c=>popT .Calendar c fun a2 c=>popT .Schedule c fun a3 c=>K ⟨a0,a1,a2,a3⟩ c
 |.Team,c,K=>popS c fun a0 c=>popT .int c fun a1 c=>K ⟨a0,a1⟩ c
 |.Target,c,K=>popN .i64 c fun a0 c=>popN .i64 c fun a1 c=>K ⟨a0,a1⟩ c
 |.PolicyStep,c,K=>popN .i64 c fun a0 c=>popB c fun a1 c=>popT .Target c fun a2 c=>K ⟨a0,a1,a2⟩ c
 |.Policy,c,K=>popS c fun a0 c=>popT .PolicyStep c fun a1 c=>popN .i64 c fun a2 c=>K ⟨a0,a1,a2⟩ c
 |.Book,c,K=>popT .Team c fun a0 c=>popT .Policy c fun a1 c=>K ⟨a0,a1⟩ c
 |.Start,c,K=>popN .i64 c fun a0 c=>popN .i64 c fun a1 c=>popT .int c fun a2 c=>K ⟨a0,a1,a2⟩ c
 |.Page,c,K=>popN .i64 c fun a0 c=>popN .i64 c fun a1 c=>popN .i64 c fun a2 c=>popN .i64 c fun a3 c=>popN .i64 c fun a4 c=>popN .i64 c fun a5 c=>popN .i64 c fun a6 c=>popN .i64 c fun a7 c=>popN .i64 c fun a8 c=>popN .i64 c fun a9 c=>popN .i64 c fun a10 c=>popT .Start c fun a11 c=>popT .int c fun a12 c=>popT .int c fun a13 c=>K ⟨a0,a1,a2,a3,a4,a5,a6,a7,a8,a9,a10,a11,a12,a13⟩ c
 |.Call,c,K=>popN .i64 c fun a0 c=>popN .i64 c fun a1 c=>popN .i64 c fun a2 c=>popN .i64 c fun a3 c=>popN .i64 c fun a4 c=>K ⟨a0,a1,a2,a3,a4⟩ c
 |.Ledger,c,K=>popN .i64 c fun a0 c=>popT .Zone c fun a1 c=>popT .Person c fun a2 c=>popT .Calendar c fun a3 c=>popT .Schedule c fun a4 c=>popT .Team c fun a5 c=>popT .Policy c fun a6 c=>popT .Page c fun a7 c=>popN .i64 c fun a8 c=>popN .i64 c fun a9 c=>popT .int c fun a10 c=>popT .Call c fun a11 c=>K ⟨a0,⟨a1,a2,a3,a4⟩,⟨a5,a6⟩,a7,a8,a9,a10,a11⟩ c
 |.Answer,c,K=>popN .i64 c fun a0 c=>popN .i64 c fun a1 c=>popN .i64 c fun a2 c=>popN .i64 c fun a3 c=>popN .i64 c fun a4 c=>popN .i64 c fun a5 c=>K ⟨a0,a1,a2,a3,a4,a5⟩ c
 |.Op,c,K=>popN .i64 c fun a0 c=>popN .i64 c fun a1 c=>popN .i64 c fun a2 c=>popN .i64 c fun a3 c=>popN .i64 c fun a4 c=>popN .i64 c fun a5 c=>popN .i64 c fun a6 c=>popN .i64 c fun a7 c=>popN .i64 c fun a8 c=>popN .i64 c fun a9 c=>popN .i64 c fun a10 c=>popN .i64 c fun a11 c=>popN .i64 c fun a12 c=>popN .i64 c fun a13 c=>popN .i64 c fun a14 c=>popN .i64 c fun a15 c=>popN .i64 c fun a16 c=>popN .i64 c fun a17 c=>popN .i64 c fun a18 c=>popN .i64 c fun a19 c=>K ⟨a0,a1,a2,a3,a4,a5,a6,a7,a8,⟨a9,a10,a11,a12,a13,a14⟩,⟨a15,a16,a17,a18,a19⟩⟩ c
 |.Entry,c,K=>popN .i64 c fun a0 c=>popN .i64 c fun a1 c=>popN .i64 c fun a2 c=>popN .i64 c fun a3 c=>popN .i64 c fun a4 c=>popN .i64 c fun a5 c=>popN .i64 c fun a6 c=>popN .i64 c fun a7 c=>popN .i64 c fun a8 c=>popN .i64 c fun a9 c=>popN .i64 c fun a10 c=>popN .i64 c fun a11 c=>popN .i64 c fun a12 c=>popN .i64 c fun a13 c=>popN .i64 c fun a14 c=>popN .i64 c fun a15 c=>popN .i64 c fun a16 c=>popN .i64 c fun a17 c=>popN .i64 c fun a18 c=>popN .i64 c fun a19 c=>popN .i64 c fun a20 c=>K ⟨a0,⟨a1,a2,a3,a4,a5,a6,a7,a8,a9,⟨a10,a11,a12,a13,a14,a15⟩,⟨a16,a17,a18,a19,a20⟩⟩⟩ c
 |.Replica,c,K=>popN .i64 c fun a0 c=>popN .i64 c fun a1 c=>popN .i64 c fun a2 c=>popN .i64 c fun a3 c=>popT .Entry c fun a4 c=>popN .i64 c fun a5 c=>popT .bool c fun a6 c=>popT .int c fun a7 c=>K ⟨a0,a1,a2,a3,a4,a5,a6,a7⟩ c
 |.Message,c,K=>popN .i64 c fun a0 c=>popN .i64 c fun a1 c=>popN .i64 c fun a2 c=>popN .i64 c fun a3 c=>popN .i64 c fun a4 c=>popN .i64 c fun a5 c=>popN .i64 c fun a6 c=>popT .Entry c fun a7 c=>popB c fun a8 c=>K ⟨a0,a1,a2,a3,a4,a5,a6,a7,a8⟩ c
 |.Cluster,c,K=>popT .Replica c fun a0 c=>popT .Message c fun a1 c=>popT .bool c fun a2 c=>popT .Arr2Int c fun a3 c=>K ⟨a0,a1,a2,a3⟩ c
 |.Paging,c,K=>popN .i64 c fun a0 c=>popT .Zone c fun a1 c=>popT .Person c fun a2 c=>popT .Calendar c fun a3 c=>popT .Schedule c fun a4 c=>popT .Team c fun a5 c=>popT .Policy c fun a6 c=>popT .Page c fun a7 c=>popN .i64 c fun a8 c=>popN .i64 c fun a9 c=>popT .int c fun a10 c=>popT .Call c fun a11 c=>popT .Replica c fun a12 c=>popT .Message c fun a13 c=>popT .bool c fun a14 c=>popT .Arr2Int c fun a15 c=>popN .i64 c fun a16 c=>K ⟨⟨a0,⟨a1,a2,a3,a4⟩,⟨a5,a6⟩,a7,a8,a9,a10,a11⟩,⟨a12,a13,a14,a15⟩,a16⟩ c
 |.Dice,c,K=>popT .int c fun a0 c=>popN .i64 c fun a1 c=>K ⟨a0,a1⟩ c
 |.site,c,K=>popN .i64 c fun a0 c=>popT .Zone c fun a1 c=>popT .Person c fun a2 c=>popT .Calendar c fun a3 c=>popT .Schedule c fun a4 c=>popT .Team c fun a5 c=>popT .Policy c fun a6 c=>popT .Page c fun a7 c=>popN .i64 c fun a8 c=>popN .i64 c fun a9 c=>popT .int c fun a10 c=>popT .Call c fun a11 c=>popT .Replica c fun a12 c=>popT .Message c fun a13 c=>popT .bool c fun a14 c=>popT .Arr2Int c fun a15 c=>popN .i64 c fun a16 c=>popN .i64 c fun a17 c=>popN .i64 c fun a18 c=>K ⟨⟨⟨a0,⟨a1,a2,a3,a4⟩,⟨a5,a6⟩,a7,a8,a9,a10,a11⟩,⟨a12,a13,a14,a15⟩,a16⟩,a17,a18⟩ c
 |.fence,c,K=>popN .i64 c fun a0 c=>popN .i64 c fun a1 c=>K ⟨a0,a1⟩ c
 |.worker,c,K=>popN .i64 c fun a0 c=>popT .Zone c fun a1 c=>popT .Person c fun a2 c=>popT .Calendar c fun a3 c=>popT .Schedule c fun a4 c=>popT .Team c fun a5 c=>popT .Policy c fun a6 c=>popT .Page c fun a7 c=>popN .i64 c fun a8 c=>popN .i64 c fun a9 c=>popT .int c fun a10 c=>popT .Call c fun a11 c=>K ⟨⟨a0,⟨a1,a2,a3,a4⟩,⟨a5,a6⟩,a7,a8,a9,a10,a11⟩⟩ c
 |.Occurrence,c,K=>popN .i64 c fun a0 c=>popN .i64 c fun a1 c=>K ⟨a0,a1⟩ c
 |.Transition,c,K=>popN .i64 c fun a0 c=>popN .i64 c fun a1 c=>K ⟨a0,a1⟩ c
 |.Date,c,K=>popN .i64 c fun a0 c=>popN .i64 c fun a1 c=>popN .i64 c fun a2 c=>K ⟨a0,a1,a2⟩ c
 |.occurrence,c,K=>popN .i64 c fun a0 c=>popN .i64 c fun a1 c=>K ⟨a0,a1⟩ c
 |.Table,c,K=>popN .i64 c fun a0 c=>popT .Transition c fun a1 c=>K ⟨a0,a1⟩ c
 |.View,c,K=>popT .Zone c fun a0 c=>popT .Person c fun a1 c=>popT .Calendar c fun a2 c=>popT .Schedule c fun a3 c=>popT .Table c fun a4 c=>K ⟨⟨a0,a1,a2,a3⟩,a4⟩ c
 |.Piece,c,K=>popN .i64 c fun a0 c=>popN .i64 c fun a1 c=>popN .i64 c fun a2 c=>K ⟨a0,a1,a2⟩ c
theorem QcT:∀(t:TC) {cs:List BV} {K:TT t->List BV->Option R},tpop t cs K=some r->∃x l,Le cs (tb t x++l)/\K x l=some r
 |.int,cs,K,h=>by
  obtain⟨a,_,rfl,h⟩:=Qa h
  exact⟨_,_,.refl _,h⟩
 |.str,cs,K,h=>by
  obtain⟨a,_,rfl,h⟩:=U5 h
  exact⟨_,_,.refl _,h⟩
 |.bool,cs,K,h=>by
  obtain⟨a,_,rfl,h⟩:=Qhs h
  exact⟨_,_,.refl _,h⟩
 |.u8,cs,K,h=>by
  obtain⟨a,_,rfl,h⟩:=Qa h
  exact⟨_,_,.refl _,h⟩
 |.Arr2Int,cs,K,h=>by
  obtain⟨a0,_,rfl,h0⟩:=Qa h
  obtain⟨a1,_,rfl,h1⟩:=Qa h0
  exact⟨⟨a0,a1⟩,_,.cons' (.cons' (.refl _)),h1⟩
 |.Arr3Int,cs,K,h=>by
  obtain⟨a0,_,rfl,h0⟩:=Qa h
  obtain⟨a1,_,rfl,h1⟩:=Qa h0
  obtain⟨a2,_,rfl,h2⟩:=Qa h1
  exact⟨⟨a0,a1,a2⟩,_,.cons' (.cons' (.cons' (.refl _))),h2⟩
 |.YearRule,cs,K,h=>by
  obtain⟨a0,_,rfl,h0⟩:=Qa h
  obtain⟨a1,_,rfl,h1⟩:=Qa h0
  obtain⟨a2,_,rfl,h2⟩:=Qa h1
  obtain⟨a3,_,rfl,h3⟩:=Qa h2
  obtain⟨a4,_,rfl,h4⟩:=Qa h3
  obtain⟨a5,_,rfl,h5⟩:=Qa h4
  obtain⟨a6,_,rfl,h6⟩:=Qa h5
  exact⟨⟨a0,a1,a2,a3,a4,a5,a6⟩,_,.cons' (.cons' (.cons' (.cons' (.cons' (.cons' (.cons' (.refl _))))))),h6⟩
 |.Zone,cs,K,h=>by
  obtain⟨a0,_,rfl,h0⟩:=U5 h
  obtain⟨a1,_,rfl,h1⟩:=Qa h0
  obtain⟨a2,_,_,rfl,ha2,h2⟩:=Qf h1
  exact⟨⟨a0,a1,a2⟩,_,.cons' (.cons' (.cons ha2 (.refl _))),h2⟩
 |.Window,cs,K,h=>by
  obtain⟨a0,_,rfl,h0⟩:=Qa h
  obtain⟨a1,_,rfl,h1⟩:=Qa h0
  exact⟨⟨a0,a1⟩,_,.cons' (.cons' (.refl _)),h1⟩
 |.Person,cs,K,h=>by
  obtain⟨a0,_,rfl,h0⟩:=U5 h
  obtain⟨a1,_,rfl,h1⟩:=Qa h0
  obtain⟨a2,_,_,rfl,ha2,h2⟩:=Qf h1
  obtain⟨a3,_,rfl,h3⟩:=Qa h2
  obtain⟨a4,_,rfl,h4⟩:=Qa h3
  obtain⟨a5,_,rfl,h5⟩:=Qhs h4
  exact⟨⟨a0,a1,a2,a3,a4,a5⟩,_,.cons' (.cons' (.cons ha2 (.cons' (.cons' (.cons' (.refl _)))))),h5⟩
 |.Calendar,cs,K,h=>by
  obtain⟨a0,_,rfl,h0⟩:=U5 h
  obtain⟨a1,_,rfl,h1⟩:=Qa h0
  obtain⟨a2,_,_,rfl,ha2,h2⟩:=Qf h1
  exact⟨⟨a0,a1,a2⟩,_,.cons' (.cons' (.cons ha2 (.refl _))),h2⟩
 |.Local,cs,K,h=>by
  obtain⟨a0,_,rfl,h0⟩:=Qa h
  obtain⟨a1,_,rfl,h1⟩:=Qa h0
  exact⟨⟨a0,a1⟩,_,.cons' (.cons' (.refl _)),h1⟩
 |.Layer,cs,K,h=>by
  obtain⟨a0,_,rfl,h0⟩:=U5 h
  obtain⟨a1,_,rfl,h1⟩:=Qa h0
  obtain⟨a2,_,rfl,h2⟩:=Qa h1
  obtain⟨a3,_,rfl,h3⟩:=Qa h2
  obtain⟨a4,_,rfl,h4⟩:=Qa h3
  obtain⟨a5,_,rfl,h5⟩:=Qa h4
  obtain⟨a6,_,_,rfl,ha6,h6⟩:=Qf h5
  obtain⟨a7,_,_,rfl,ha7,h7⟩:=Qf h6
  obtain⟨a8,_,rfl,h8⟩:=Qa h7
  obtain⟨a9,_,rfl,h9⟩:=Qa h8
  exact⟨⟨a0,a1,⟨a2,a3⟩,a4,a5,a6,a7,a8,a9⟩,_,.cons' (.cons' (.cons' (.cons' (.cons' (.cons' (.cons ha6 (.cons ha7 (.cons' (.cons' (.refl _)))))))))),h9⟩
 |.Edit,cs,K,h=>by
  obtain⟨a0,_,rfl,h0⟩:=Qa h
  obtain⟨a1,_,rfl,h1⟩:=Qa h0
  obtain⟨a2,_,rfl,h2⟩:=Qa h1
  obtain⟨a3,_,rfl,h3⟩:=Qa h2
  obtain⟨a4,_,rfl,h4⟩:=Qa h3
  exact⟨⟨a0,a1,a2,a3,a4⟩,_,.cons' (.cons' (.cons' (.cons' (.cons' (.refl _))))),h4⟩
 |.Schedule,cs,K,h=>by
  obtain⟨a0,_,rfl,h0⟩:=U5 h
  obtain⟨a1,_,_,rfl,ha1,h1⟩:=Qf h0
  obtain⟨a2,_,_,rfl,ha2,h2⟩:=Qf h1
  exact⟨⟨a0,a1,a2⟩,_,.cons' (.cons ha1 (.cons ha2 (.refl _))),h2⟩
 |.Config,cs,K,h=>by
  obtain⟨a0,_,_,rfl,ha0,h0⟩:=Qf h
  obtain⟨a1,_,_,rfl,ha1,h1⟩:=Qf h0
  obtain⟨a2,_,_,rfl,ha2,h2⟩:=Qf h1
  obtain⟨a3,_,_,rfl,ha3,h3⟩:=Qf h2
  exact⟨⟨a0,a1,a2,a3⟩,_,.cons ha0 (.cons ha1 (.cons ha2 (.cons ha3 (.refl _)))),h3⟩
 |.Team,cs,K,h=>by
  obtain⟨a0,_,rfl,h0⟩:=U5 h
  obtain⟨a1,_,_,rfl,ha1,h1⟩:=Qf h0
  exact⟨⟨a0,a1⟩,_,.cons' (.cons ha1 (.refl _)),h1⟩
 |.Target,cs,K,h=>by
  obtain⟨a0,_,rfl,h0⟩:=Qa h
  obtain⟨a1,_,rfl,h1⟩:=Qa h0
  exact⟨⟨a0,a1⟩,_,.cons' (.cons' (.refl _)),h1⟩
 |.PolicyStep,cs,K,h=>by
  obtain⟨a0,_,rfl,h0⟩:=Qa h
  obtain⟨a1,_,rfl,h1⟩:=Qhs h0
  obtain⟨a2,_,_,rfl,ha2,h2⟩:=Qf h1
  exact⟨⟨a0,a1,a2⟩,_,.cons' (.cons' (.cons ha2 (.refl _))),h2⟩
 |.Policy,cs,K,h=>by
  obtain⟨a0,_,rfl,h0⟩:=U5 h
  obtain⟨a1,_,_,rfl,ha1,h1⟩:=Qf h0
  obtain⟨a2,_,rfl,h2⟩:=Qa h1
  exact⟨⟨a0,a1,a2⟩,_,.cons' (.cons ha1 (.cons' (.refl _))),h2⟩
 |.Book,cs,K,h=>by
  obtain⟨a0,_,_,rfl,ha0,h0⟩:=Qf h
  obtain⟨a1,_,_,rfl,ha1,h1⟩:=Qf h0
  exact⟨⟨a0,a1⟩,_,.cons ha0 (.cons ha1 (.refl _)),h1⟩
 |.Start,cs,K,h=>by
  obtain⟨a0,_,rfl,h0⟩:=Qa h
  obtain⟨a1,_,rfl,h1⟩:=Qa h0
  obtain⟨a2,_,_,rfl,ha2,h2⟩:=Qf h1
  exact⟨⟨a0,a1,a2⟩,_,.cons' (.cons' (.cons ha2 (.refl _))),h2⟩
 |.Page,cs,K,h=>by
  obtain⟨a0,_,rfl,h0⟩:=Qa h
  obtain⟨a1,_,rfl,h1⟩:=Qa h0
  obtain⟨a2,_,rfl,h2⟩:=Qa h1
  obtain⟨a3,_,rfl,h3⟩:=Qa h2
  obtain⟨a4,_,rfl,h4⟩:=Qa h3
  obtain⟨a5,_,rfl,h5⟩:=Qa h4
  obtain⟨a6,_,rfl,h6⟩:=Qa h5
  obtain⟨a7,_,rfl,h7⟩:=Qa h6
  obtain⟨a8,_,rfl,h8⟩:=Qa h7
  obtain⟨a9,_,rfl,h9⟩:=Qa h8
  obtain⟨a10,_,rfl,h10⟩:=Qa h9
  obtain⟨a11,_,_,rfl,ha11,h11⟩:=Qf h10
  obtain⟨a12,_,_,rfl,ha12,h12⟩:=Qf h11
  obtain⟨a13,_,_,rfl,ha13,h13⟩:=Qf h12
  exact⟨⟨a0,a1,a2,a3,a4,a5,a6,a7,a8,a9,a10,a11,a12,a13⟩,_,.cons' (.cons' (.cons' (.cons' (.cons' (.cons' (.cons' (.cons' (.cons' (.cons' (.cons' (.cons ha11 (.cons ha12 (.cons ha13 (.refl _)))))))))))))),h13⟩
 |.Call,cs,K,h=>by
  obtain⟨a0,_,rfl,h0⟩:=Qa h
  obtain⟨a1,_,rfl,h1⟩:=Qa h0
  obtain⟨a2,_,rfl,h2⟩:=Qa h1
  obtain⟨a3,_,rfl,h3⟩:=Qa h2
  obtain⟨a4,_,rfl,h4⟩:=Qa h3
  exact⟨⟨a0,a1,a2,a3,a4⟩,_,.cons' (.cons' (.cons' (.cons' (.cons' (.refl _))))),h4⟩
 |.Ledger,cs,K,h=>by
  obtain⟨a0,_,rfl,h0⟩:=Qa h
  obtain⟨a1,_,_,rfl,ha1,h1⟩:=Qf h0
  obtain⟨a2,_,_,rfl,ha2,h2⟩:=Qf h1
  obtain⟨a3,_,_,rfl,ha3,h3⟩:=Qf h2
  obtain⟨a4,_,_,rfl,ha4,h4⟩:=Qf h3
  obtain⟨a5,_,_,rfl,ha5,h5⟩:=Qf h4
  obtain⟨a6,_,_,rfl,ha6,h6⟩:=Qf h5
  obtain⟨a7,_,_,rfl,ha7,h7⟩:=Qf h6
  obtain⟨a8,_,rfl,h8⟩:=Qa h7
  obtain⟨a9,_,rfl,h9⟩:=Qa h8
  obtain⟨a10,_,_,rfl,ha10,h10⟩:=Qf h9
  obtain⟨a11,_,_,rfl,ha11,h11⟩:=Qf h10
  exact⟨⟨a0,⟨a1,a2,a3,a4⟩,⟨a5,a6⟩,a7,a8,a9,a10,a11⟩,_,.cons' (.cons ha1 (.cons ha2 (.cons ha3 (.cons ha4 (.cons ha5 (.cons ha6 (.cons ha7 (.cons' (.cons' (.cons ha10 (.cons ha11 (.refl _)))))))))))),h11⟩
 |.Answer,cs,K,h=>by
  obtain⟨a0,_,rfl,h0⟩:=Qa h
  obtain⟨a1,_,rfl,h1⟩:=Qa h0
  obtain⟨a2,_,rfl,h2⟩:=Qa h1
  obtain⟨a3,_,rfl,h3⟩:=Qa h2
  obtain⟨a4,_,rfl,h4⟩:=Qa h3
  obtain⟨a5,_,rfl,h5⟩:=Qa h4
  exact⟨⟨a0,a1,a2,a3,a4,a5⟩,_,.cons' (.cons' (.cons' (.cons' (.cons' (.cons' (.refl _)))))),h5⟩
 |.Op,cs,K,h=>by
  obtain⟨a0,_,rfl,h0⟩:=Qa h
  obtain⟨a1,_,rfl,h1⟩:=Qa h0
  obtain⟨a2,_,rfl,h2⟩:=Qa h1
  obtain⟨a3,_,rfl,h3⟩:=Qa h2
  obtain⟨a4,_,rfl,h4⟩:=Qa h3
  obtain⟨a5,_,rfl,h5⟩:=Qa h4
  obtain⟨a6,_,rfl,h6⟩:=Qa h5
  obtain⟨a7,_,rfl,h7⟩:=Qa h6
  obtain⟨a8,_,rfl,h8⟩:=Qa h7
  obtain⟨a9,_,rfl,h9⟩:=Qa h8
  obtain⟨a10,_,rfl,h10⟩:=Qa h9
  obtain⟨a11,_,rfl,h11⟩:=Qa h10
  obtain⟨a12,_,rfl,h12⟩:=Qa h11
  obtain⟨a13,_,rfl,h13⟩:=Qa h12
  obtain⟨a14,_,rfl,h14⟩:=Qa h13
  obtain⟨a15,_,rfl,h15⟩:=Qa h14
  obtain⟨a16,_,rfl,h16⟩:=Qa h15
  obtain⟨a17,_,rfl,h17⟩:=Qa h16
  obtain⟨a18,_,rfl,h18⟩:=Qa h17
  obtain⟨a19,_,rfl,h19⟩:=Qa h18
  exact⟨⟨a0,a1,a2,a3,a4,a5,a6,a7,a8,⟨a9,a10,a11,a12,a13,a14⟩,⟨a15,a16,a17,a18,a19⟩⟩,_,.cons' (.cons' (.cons' (.cons' (.cons' (.cons' (.cons' (.cons' (.cons' (.cons' (.cons' (.cons' (.cons' (.cons' (.cons' (.cons' (.cons' (.cons' (.cons' (.cons' (.refl _)))))))))))))))))))),h19⟩
 |.Entry,cs,K,h=>by
  obtain⟨a0,_,rfl,h0⟩:=Qa h
  obtain⟨a1,_,rfl,h1⟩:=Qa h0
  obtain⟨a2,_,rfl,h2⟩:=Qa h1
  obtain⟨a3,_,rfl,h3⟩:=Qa h2
  obtain⟨a4,_,rfl,h4⟩:=Qa h3
  obtain⟨a5,_,rfl,h5⟩:=Qa h4
  obtain⟨a6,_,rfl,h6⟩:=Qa h5
  obtain⟨a7,_,rfl,h7⟩:=Qa h6
  obtain⟨a8,_,rfl,h8⟩:=Qa h7
  obtain⟨a9,_,rfl,h9⟩:=Qa h8
  obtain⟨a10,_,rfl,h10⟩:=Qa h9
  obtain⟨a11,_,rfl,h11⟩:=Qa h10
  obtain⟨a12,_,rfl,h12⟩:=Qa h11
  obtain⟨a13,_,rfl,h13⟩:=Qa h12
  obtain⟨a14,_,rfl,h14⟩:=Qa h13
  obtain⟨a15,_,rfl,h15⟩:=Qa h14
  obtain⟨a16,_,rfl,h16⟩:=Qa h15
  obtain⟨a17,_,rfl,h17⟩:=Qa h16
  obtain⟨a18,_,rfl,h18⟩:=Qa h17
  obtain⟨a19,_,rfl,h19⟩:=Qa h18
  obtain⟨a20,_,rfl,h20⟩:=Qa h19
  exact⟨⟨a0,⟨a1,a2,a3,a4,a5,a6,a7,a8,a9,⟨a10,a11,a12,a13,a14,a15⟩,⟨a16,a17,a18,a19,a20⟩⟩⟩,_,.cons' (.cons' (.cons' (.cons' (.cons' (.cons' (.cons' (.cons' (.cons' (.cons' (.cons' (.cons' (.cons' (.cons' (.cons' (.cons' (.cons' (.cons' (.cons' (.cons' (.cons' (.refl _))))))))))))))))))))),h20⟩
 |.Replica,cs,K,h=>by
  obtain⟨a0,_,rfl,h0⟩:=Qa h
  obtain⟨a1,_,rfl,h1⟩:=Qa h0
  obtain⟨a2,_,rfl,h2⟩:=Qa h1
  obtain⟨a3,_,rfl,h3⟩:=Qa h2
  obtain⟨a4,_,_,rfl,ha4,h4⟩:=Qf h3
  obtain⟨a5,_,rfl,h5⟩:=Qa h4
  obtain⟨a6,_,_,rfl,ha6,h6⟩:=Qf h5
  obtain⟨a7,_,_,rfl,ha7,h7⟩:=Qf h6
  exact⟨⟨a0,a1,a2,a3,a4,a5,a6,a7⟩,_,.cons' (.cons' (.cons' (.cons' (.cons ha4 (.cons' (.cons ha6 (.cons ha7 (.refl _)))))))),h7⟩
 |.Message,cs,K,h=>by
  obtain⟨a0,_,rfl,h0⟩:=Qa h
  obtain⟨a1,_,rfl,h1⟩:=Qa h0
  obtain⟨a2,_,rfl,h2⟩:=Qa h1
  obtain⟨a3,_,rfl,h3⟩:=Qa h2
  obtain⟨a4,_,rfl,h4⟩:=Qa h3
  obtain⟨a5,_,rfl,h5⟩:=Qa h4
  obtain⟨a6,_,rfl,h6⟩:=Qa h5
  obtain⟨a7,_,_,rfl,ha7,h7⟩:=Qf h6
  obtain⟨a8,_,rfl,h8⟩:=Qhs h7
  exact⟨⟨a0,a1,a2,a3,a4,a5,a6,a7,a8⟩,_,.cons' (.cons' (.cons' (.cons' (.cons' (.cons' (.cons' (.cons ha7 (.cons' (.refl _))))))))),h8⟩
 |.Cluster,cs,K,h=>by
  obtain⟨a0,_,_,rfl,ha0,h0⟩:=Qf h
  obtain⟨a1,_,_,rfl,ha1,h1⟩:=Qf h0
  obtain⟨a2,_,_,rfl,ha2,h2⟩:=Qf h1
  obtain⟨a3,_,_,rfl,ha3,h3⟩:=Qf h2
  exact⟨⟨a0,a1,a2,a3⟩,_,.cons ha0 (.cons ha1 (.cons ha2 (.cons ha3 (.refl _)))),h3⟩
 |.Paging,cs,K,h=>by
  obtain⟨a0,_,rfl,h0⟩:=Qa h
  obtain⟨a1,_,_,rfl,ha1,h1⟩:=Qf h0
  obtain⟨a2,_,_,rfl,ha2,h2⟩:=Qf h1
  obtain⟨a3,_,_,rfl,ha3,h3⟩:=Qf h2
  obtain⟨a4,_,_,rfl,ha4,h4⟩:=Qf h3
  obtain⟨a5,_,_,rfl,ha5,h5⟩:=Qf h4
  obtain⟨a6,_,_,rfl,ha6,h6⟩:=Qf h5
  obtain⟨a7,_,_,rfl,ha7,h7⟩:=Qf h6
  obtain⟨a8,_,rfl,h8⟩:=Qa h7
  obtain⟨a9,_,rfl,h9⟩:=Qa h8
  obtain⟨a10,_,_,rfl,ha10,h10⟩:=Qf h9
  obtain⟨a11,_,_,rfl,ha11,h11⟩:=Qf h10
  obtain⟨a12,_,_,rfl,ha12,h12⟩:=Qf h11
  obtain⟨a13,_,_,rfl,ha13,h13⟩:=Qf h12
  obtain⟨a14,_,_,rfl,ha14,h14⟩:=Qf h13
  obtain⟨a15,_,_,rfl,ha15,h15⟩:=Qf h14
  obtain⟨a16,_,rfl,h16⟩:=Qa h15
  exact⟨⟨⟨a0,⟨a1,a2,a3,a4⟩,⟨a5,a6⟩,a7,a8,a9,a10,a11⟩,⟨a12,a13,a14,a15⟩,a16⟩,_,.cons' (.cons ha1 (.cons ha2 (.cons ha3 (.cons ha4 (.cons ha5 (.cons ha6 (.cons ha7 (.cons' (.cons' (.cons ha10 (.cons ha11 (.cons ha12 (.cons ha13 (.cons ha14 (.cons ha15 (.cons' (.refl _))))))))))))))))),h16⟩
 |.Dice,cs,K,h=>by
  obtain⟨a0,_,_,rfl,ha0,h0⟩:=Qf h
  obtain⟨a1,_,rfl,h1⟩:=Qa h0
  exact⟨⟨a0,a1⟩,_,.cons ha0 (.cons' (.refl _)),h1⟩
 |.site,cs,K,h=>by
  obtain⟨a0,_,rfl,h0⟩:=Qa h
  obtain⟨a1,_,_,rfl,ha1,h1⟩:=Qf h0
  obtain⟨a2,_,_,rfl,ha2,h2⟩:=Qf h1
  obtain⟨a3,_,_,rfl,ha3,h3⟩:=Qf h2
  obtain⟨a4,_,_,rfl,ha4,h4⟩:=Qf h3
  obtain⟨a5,_,_,rfl,ha5,h5⟩:=Qf h4
  obtain⟨a6,_,_,rfl,ha6,h6⟩:=Qf h5
  obtain⟨a7,_,_,rfl,ha7,h7⟩:=Qf h6
  obtain⟨a8,_,rfl,h8⟩:=Qa h7
  obtain⟨a9,_,rfl,h9⟩:=Qa h8
  obtain⟨a10,_,_,rfl,ha10,h10⟩:=Qf h9
  obtain⟨a11,_,_,rfl,ha11,h11⟩:=Qf h10
  obtain⟨a12,_,_,rfl,ha12,h12⟩:=Qf h11
  obtain⟨a13,_,_,rfl,ha13,h13⟩:=Qf h12
  obtain⟨a14,_,_,rfl,ha14,h14⟩:=Qf h13
  obtain⟨a15,_,_,rfl,ha15,h15⟩:=Qf h14
  obtain⟨a16,_,rfl,h16⟩:=Qa h15
  obtain⟨a17,_,rfl,h17⟩:=Qa h16
  obtain⟨a18,_,rfl,h18⟩:=Qa h17
  exact⟨⟨⟨⟨a0,⟨a1,a2,a3,a4⟩,⟨a5,a6⟩,a7,a8,a9,a10,a11⟩,⟨a12,a13,a14,a15⟩,a16⟩,a17,a18⟩,_,.cons' (.cons ha1 (.cons ha2 (.cons ha3 (.cons ha4 (.cons ha5 (.cons ha6 (.cons ha7 (.cons' (.cons' (.cons ha10 (.cons ha11 (.cons ha12 (.cons ha13 (.cons ha14 (.cons ha15 (.cons' (.cons' (.cons' (.refl _))))))))))))))))))),h18⟩
 |.fence,cs,K,h=>by
  obtain⟨a0,_,rfl,h0⟩:=Qa h
  obtain⟨a1,_,rfl,h1⟩:=Qa h0
  exact⟨⟨a0,a1⟩,_,.cons' (.cons' (.refl _)),h1⟩
 |.worker,cs,K,h=>by
  obtain⟨a0,_,rfl,h0⟩:=Qa h
  obtain⟨a1,_,_,rfl,ha1,h1⟩:=Qf h0
  obtain⟨a2,_,_,rfl,ha2,h2⟩:=Qf h1
  obtain⟨a3,_,_,rfl,ha3,h3⟩:=Qf h2
  obtain⟨a4,_,_,rfl,ha4,h4⟩:=Qf h3
  obtain⟨a5,_,_,rfl,ha5,h5⟩:=Qf h4
  obtain⟨a6,_,_,rfl,ha6,h6⟩:=Qf h5
  obtain⟨a7,_,_,rfl,ha7,h7⟩:=Qf h6
  obtain⟨a8,_,rfl,h8⟩:=Qa h7
  obtain⟨a9,_,rfl,h9⟩:=Qa h8
  obtain⟨a10,_,_,rfl,ha10,h10⟩:=Qf h9
  obtain⟨a11,_,_,rfl,ha11,h11⟩:=Qf h10
  exact⟨⟨⟨a0,⟨a1,a2,a3,a4⟩,⟨a5,a6⟩,a7,a8,a9,a10,a11⟩⟩,_,.cons' (.cons ha1 (.cons ha2 (.cons ha3 (.cons ha4 (.cons ha5 (.cons ha6 (.cons ha7 (.cons' (.cons' (.cons ha10 (.cons ha11 (.refl _)))))))))))),h11⟩
 |.Occurrence,cs,K,h=>by
  obtain⟨a0,_,rfl,h0⟩:=Qa h
  obtain⟨a1,_,rfl,h1⟩:=Qa h0
  exact⟨⟨a0,a1⟩,_,.cons' (.cons' (.refl _)),h1⟩
 |.Transition,cs,K,h=>by
  obtain⟨a0,_,rfl,h0⟩:=Qa h
  obtain⟨a1,_,rfl,h1⟩:=Qa h0
  exact⟨⟨a0,a1⟩,_,.cons' (.cons' (.refl _)),h1⟩
 |.Date,cs,K,h=>by
  obtain⟨a0,_,rfl,h0⟩:=Qa h
  obtain⟨a1,_,rfl,h1⟩:=Qa h0
  obtain⟨a2,_,rfl,h2⟩:=Qa h1
  exact⟨⟨a0,a1,a2⟩,_,.cons' (.cons' (.cons' (.refl _))),h2⟩
 |.occurrence,cs,K,h=>by
  obtain⟨a0,_,rfl,h0⟩:=Qa h
  obtain⟨a1,_,rfl,h1⟩:=Qa h0
  exact⟨⟨a0,a1⟩,_,.cons' (.cons' (.refl _)),h1⟩
 |.Table,cs,K,h=>by
  obtain⟨a0,_,rfl,h0⟩:=Qa h
  obtain⟨a1,_,_,rfl,ha1,h1⟩:=Qf h0
  exact⟨⟨a0,a1⟩,_,.cons' (.cons ha1 (.refl _)),h1⟩
 |.View,cs,K,h=>by
  obtain⟨a0,_,_,rfl,ha0,h0⟩:=Qf h
  obtain⟨a1,_,_,rfl,ha1,h1⟩:=Qf h0
  obtain⟨a2,_,_,rfl,ha2,h2⟩:=Qf h1
  obtain⟨a3,_,_,rfl,ha3,h3⟩:=Qf h2
  obtain⟨a4,_,_,rfl,ha4,h4⟩:=Qf h3
  exact⟨⟨⟨a0,a1,a2,a3⟩,a4⟩,_,.cons ha0 (.cons ha1 (.cons ha2 (.cons ha3 (.cons ha4 (.refl _))))),h4⟩
 |.Piece,cs,K,h=>by
  obtain⟨a0,_,rfl,h0⟩:=Qa h
  obtain⟨a1,_,rfl,h1⟩:=Qa h0
  obtain⟨a2,_,rfl,h2⟩:=Qa h1
  exact⟨⟨a0,a1,a2⟩,_,.cons' (.cons' (.cons' (.refl _))),h2⟩
end
/-
  The typed layer, part B: states, weaker states, headers that grow stale, arrays that are frozen. No project text.
-/
section
open Go
theorem Sim.leS{Γ:Ctx}{s s':AS}{ρ:Name->Loc}{M:Nat->Prop}{a:Act}{w:World}(h:Sim Γ ρ M s a w)(h1:∀t y,s'.slot t=some y->∃x,s.slot t=some x/\AVle x y)(h2:∀n,(∀y,s'.heap n=some y->∃x,s.heap n=some x/\AOle x y)/\(∀x,s.heap n=some x->∃y,s'.heap n=some y/\AOle x y))(hf:∀n x y,s.heap n=some x->s'.heap n=some y->x=y\/(∃cs ds,x=.box cs/\y=.box ds)\/(∃es rs qs,x=.arr es rs/\y=.arr es qs)):Sim Γ ρ M s' a w:=by
 have hst:QfR ρ s.heap ρ s'.heap:=fun n ob hn=>by
  obtain⟨y,hy,hle⟩:=(h2 n).2 ob hn
  rw[hy]
  exact QrY hle (Z4 _ _)
 have hnn:∀n,s.heap n=none->s'.heap n=none:=fun n hn=>by
  cases hc:s'.heap n with
  |none=>rfl
  |some y=>
   grind
 have hconv:∀{x:AV} {u:Value},x.R ρ s.heap M w u->x.R ρ s'.heap M w u:=fun hr=>
  hr.step (Ext.refl (fun _=>False) _) (fun _ hb=>hb.elim) (fun b _ hb=>hb) hst (fun n _=>hnn n)
 have hconvs:∀{xs:List AV} {us:List Value},AV.Rs ρ s.heap M w xs us->AV.Rs ρ s'.heap M w xs us:=fun hr=>
  hr.step (Ext.refl (fun _=>False) _) (fun _ hb=>hb.elim) (fun b _ hb=>hb) hst (fun n _=>hnn n)
 refine⟨h.n,h.d,fun t y hy=>?_,fun n y hy=>?_,fun n m o o' b g1 g2=>?_,fun n o b g1 g2=>?_,fun n hn=>?_,h.ext,h.mext,h.msize,h.m0,h.ground⟩
 .obtain⟨x,hx,hle⟩:=h1 t y hy
  obtain⟨u,hu,hr⟩:=h.slots t x hx
  exact⟨u,hu,hle.sound u (hconv hr)⟩
 .obtain⟨x,hx,hle⟩:=(h2 n).1 y hy
  have hobj:=h.objs n x hx
  rcases hf n x y hx hy with rfl|⟨cs,ds,rfl,rfl⟩|⟨es,rs,qs,rfl,rfl⟩
  .cases x with
   |box cells=>obtain⟨b,T,cs,k1,k2,k3,k4⟩:=hobj;exact⟨b,T,cs,k1,k2,k3,hconvs k4⟩
   |arr es rows=>exact hobj
   |hole es pre row post=>obtain⟨k0,k0',k1,b,T,cs,k3,k4,k5,k6,k7,k8,k9⟩:=hobj;exact⟨k0,k0',k1,b,T,cs,k3,k4,k5,k6,k7,hconvs k8,k9⟩
   |fact a x=>exact⟨hobj.1,hconv hobj.2⟩
   |obj x=>exact hobj
  .obtain⟨b,T,us,k1,k2,k3,k4⟩:=hobj
   refine⟨b,T,us,k1,k2,k3,?_⟩
   cases hle with
   |refl=>exact hconvs k4
   |box hb=>exact Qxr hb _ (hconvs k4)
  .cases hle with
   |refl=>exact hobj
   |arr hr=>
    obtain⟨k0,k1,k2⟩:=hobj
    refine⟨k0,by rw[<-hr.length];exact k1,k2.imp id ?_⟩
    rintro⟨b,T,cs,q1,q2,q3,q4,q5⟩
    exact⟨b,T,cs,q1,q2,q3,q4,hr.rows q5⟩
 .obtain⟨x,hx,_⟩:=(h2 n).1 o g1
  obtain⟨x',hx',_⟩:=(h2 m).1 o' g2
  exact h.inj n m x x' b hx hx'
 .obtain⟨x,hx,_⟩:=(h2 n).1 o g1
  exact h.own0 n x b hx g2
 .obtain⟨x,hx,hst'⟩:=h.keep n hn
  obtain⟨y,hy,hle⟩:=(h2 n).2 x hx
  exact⟨y,hy,QrY hle hst'⟩
def Inv(L:Lens)(hs:HS):Prop:=∀n t l v,look n hs=some (.arr t l v)->L n v=l.length
def BS(L:Lens)(ts:TS)(hs:HS):AS:=mk (erT L ts) (erH L hs)
variable {L L':Lens} {ts ts':TS} {hs hs':HS}
theorem Xk(t:Nat):(BS L ts hs).slot t=(look t ts).map (BV.er L):=VJ t ts
theorem Xj(n:Nat):(BS L ts hs).heap n=(look n hs).map (BO.er L):=ZH n hs
theorem QnN{t:Nat}{y:AV}(h:(BS L ts hs).slot t=some y):∃v,look t ts=some v/\y=v.er L:=by
 rw[Xk]at h
 cases hl:look t ts with
 |none=>rw[hl]at h;simp at h
 |some v=>rw[hl]at h;exact⟨v,rfl,by simpa using h.symm⟩
theorem Qh4{t:Nat}{y:AO}(h:(BS L ts hs).heap t=some y):∃v,look t hs=some v/\y=v.er L:=by
 rw[Xj]at h
 cases hl:look t hs with
 |none=>rw[hl]at h;simp at h
 |some v=>rw[hl]at h;exact⟨v,rfl,by simpa using h.symm⟩
structure SLe (L:Lens) (ts:TS) (hs:HS) (L':Lens) (ts':TS) (hs':HS):Prop where
 slot:∀t y,look t ts'=some y->∃x,look t ts=some x/\AVle (x.er L) (y.er L')
 box:∀n cs',look n hs'=some (.box cs')->∃cs,look n hs=some (.box cs)/\XN (erL L cs) (erL L' cs')
 arr:∀n t l v,look n hs'=some (.arr t l v)->∃u,look n hs=some (.arr t l u)
 sm:∀n es,look n hs'=some (.sm es)->look n hs=some (.sm es)
theorem Sim.sle{Γ:Ctx}{ρ:Name->Loc}{M:Nat->Prop}{a:Act}{w:World}(h:Sim Γ ρ M (BS L ts hs) a w)(h':SLe L ts hs L' ts' hs')(hk:∀n,n∈Γ.names->look n hs'≠none):Sim Γ ρ M (BS L' ts' hs') a w:=by
 have ho:∀n y,look n hs'=some y->∃x,look n hs=some x/\AOle (x.er L) (y.er L')/\(x.er L=y.er L'\/(∃cs ds,x.er L=.box cs/\y.er L'=.box ds)\/∃es rs qs,x.er L=.arr es rs/\y.er L'=.arr es qs):=fun n y hy=>by
  cases y with
  |box cs'=>obtain⟨cs,g1,g2⟩:=h'.box n cs' hy;exact⟨_,g1,.box g2,.inr (.inl ⟨_,_,rfl,rfl⟩)⟩
  |arr t l v=>obtain⟨u,hu⟩:=h'.arr n t l v hy;exact⟨_,hu,.refl _,.inl rfl⟩
  |sm es=>exact⟨_,h'.sm n es hy,.refl _,.inl rfl⟩
 have h0:Sim Γ ρ M ⟨(BS L ts hs).slot,fun n=>if (look n hs').isSome then(BS L ts hs).heap n else none⟩ a w:=by
  refine h.forget (fun t x hx=>hx) (fun n o hn=>?_) (fun n hn hc=>?_)
  .simp_all
  .cases hl:look n hs' with
   |none=>exact hk n hn hl
   |some y=>
    obtain⟨x,hx,_⟩:=ho n y hl
    simp only[hl,Option.isSome_some,if_true,Xj,hx,Option.map_some,reduceCtorEq]at hc
 refine h0.leS (fun t y hy=>?_) (fun n=>⟨fun y hy=>?_,fun x hx=>?_⟩) (fun n x y hx hy=>?_)
 .obtain⟨v,hv,rfl⟩:=QnN hy
  obtain⟨x,hx,hle⟩:=h'.slot t v hv
  exact⟨x.er L,by show(BS L ts hs).slot t=_;rw[Xk,hx];rfl,hle⟩
 .obtain⟨v,hv,rfl⟩:=Qh4 hy
  obtain⟨x,hx,hle,_⟩:=ho n v hv
  exact⟨x.er L,by simp only[hv,Option.isSome_some,if_true,Xj,hx,Option.map_some],hle⟩
 .simp only at hx
  split at hx
  .rename_i hs
   obtain⟨y,hy⟩:=Option.isSome_iff_exists.1 hs
   obtain⟨v,hv,rfl⟩:=Qh4 hx
   obtain⟨x,hx',hle,_⟩:=ho n y hy
   rw[hv]at hx';cases hx'
   exact⟨y.er L',by rw[Xj,hy];rfl,hle⟩
  .simp at hx
 .simp only at hx
  split at hx
  .obtain⟨v,hv,rfl⟩:=Qh4 hx
   obtain⟨y',hy',rfl⟩:=Qh4 hy
   grind
  .simp at hx
theorem QoI{f:BV->BV}(k:Nat):∀ts:TS,look k (ts.map fun p=>(p.1,f p.2))=(look k ts).map f
 |[]=>rfl
 |(j,x)::r=>by
  show look k ((j,f x)::r.map fun p=>(p.1,f p.2))=(look k ((j,x)::r)).map f
  simp only[look];split
  .rfl
  .exact QoI k r
def isIn(m:Name)(ns:List Name):Bool:=ns.any fun n=>Nat.beq n m
theorem XR{m:Name}{ns:List Name}:isIn m ns=true↔m∈ns:=by
 unfold isIn;rw[List.any_eq_true]
 simp_all
mutual
def BV.frz(n:Name)(v:Nat)(t:TC)(l:List (TT t)):BV->BV
 |.own m u=>if Nat.beq m n then(if Nat.beq u v then .ts false t l else .any)else .own m u
 |.aref m u i o=>if Nat.beq m n then .any else .aref m u i o
 |.cut m u k=>if Nat.beq m n then .any else .cut m u k
 |.view m u i o=>if Nat.beq m n then(if Nat.beq u v then .ts false t ((l.take o).drop i)else .any)else .view m u i o
 |.agg cs=>.agg (frzL n v t l cs)
 |x=>x
def frzL(n:Name)(v:Nat)(t:TC)(l:List (TT t)):List BV->List BV
 |[]=>[]
 |x::r=>BV.frz n v t l x::frzL n v t l r
end
mutual
def BV.sh(n:Name)(v:Nat):BV->BV
 |.own m u=>if Nat.beq m n then(if Nat.beq u v then .own m u else .any)else .own m u
 |.aref m u i o=>if Nat.beq m n then .any else .aref m u i o
 |.cut m u k=>if Nat.beq m n then .any else .cut m u k
 |.view m u i o=>if Nat.beq m n then(if Nat.beq u v then .view m u i o else .any)else .view m u i o
 |.agg cs=>.agg (shL n v cs)
 |x=>x
def shL(n:Name)(v:Nat):List BV->List BV
 |[]=>[]
 |x::r=>BV.sh n v x::shL n v r
end
def Qf6(n:Name)(c:BV):Bool:=match c with
 |.own _ _=>true
 |.aref _ _ _ _=>true
 |.cut _ _ _=>true
 |.view _ _ _ _=>true
 |.agg _=>false
 |x=>!x.has n
def BV.fzOK(n:Name):BV->Bool
 |.agg cs=>cs.all (Qf6 n)
 |x=>Qf6 n x
def BO.frz(n:Name)(v:Nat)(t:TC)(l:List (TT t)):BO->BO
 |.box cs=>.box (frzL n v t l cs)
 |.arr t l v=>.arr t l v
 |.sm es=>.sm es
def BO.sh(n:Name)(v:Nat):BO->BO
 |.box cs=>.box (shL n v cs)
 |.arr t l v=>.arr t l v
 |.sm es=>.sm es
def BO.fzOK(n:Name):BO->Bool
 |.box cs=>cs.all (Qf6 n)
 |.arr _ _ _=>true
 |.sm _=>true
def fzT(n:Name)(v:Nat)(t:TC)(l:List (TT t))(ts:TS):TS:=ts.map fun p=>(p.1,p.2.frz n v t l)
def fzH(n:Name)(v:Nat)(t:TC)(l:List (TT t)):HS->HS
 |[]=>[]
 |(k,o)::r=>if Nat.beq k n then fzH n v t l r else(k,o.frz n v t l)::fzH n v t l r
def fzB(n:Name)(ts:TS)(hs:HS):Bool:=ts.all (fun p=>p.2.fzOK n) && hs.all (fun p=>p.2.fzOK n)
section
variable {n:Name} {v:Nat} {t:TC} {l:List (TT t)}
theorem Qvd{x:BV}:Qf6 n x=true->AVle (x.er L) ((x.sh n v).er L):=by
 intro h
 cases x with
 |own m u=>
  simp only[BV.sh]
  split
  .split
   .exact .refl _
   .simp only[BV.er];exact .any rfl Ob
  .exact .refl _
 |aref m u i o=>
  simp only[BV.sh]
  split
  .simp only[BV.er];exact .any rfl Ob
  .exact .refl _
 |cut m u k=>
  simp only[BV.sh]
  split
  .simp only[BV.er];exact .any rfl Ob
  .exact .refl _
 |view m u i o=>
  simp only[BV.sh]
  split
  .split
   .exact .refl _
   .simp only[BV.er];exact .any rfl Ob
  .exact .refl _
 |agg cs=>simp[Qf6]at h
 |_=>simp only[BV.sh];exact .refl _
theorem QjB:∀{cs:List BV},cs.all (Qf6 n)=true->XN (erL L cs) (erL L (shL n v cs))
 |[],_=>by simp only[shL,erL];exact .nil
 |x::r,h=>by
  simp only[List.all_cons,bae]at h
  simp only[shL,erL]
  exact .cons (Qvd h.1) (QjB h.2)
theorem Qze{x:BV}(h:x.fzOK n=true):AVle (x.er L) ((x.sh n v).er L):=by
 cases x with
 |agg cs=>simp only[BV.sh,BV.er];exact .agg (QjB h)
 |_=>exact Qvd h
theorem Qrn{px:Value->Prop}{x:BV}(h:Qf6 n x=true)(hL:L n v=(l.map (tcells t)).length):Frz px n (tz t) (l.map (tcells t)) ((x.sh n v).er L) ((x.frz n v t l).er L):=by
 cases x with
 |own m u=>
  simp only[BV.sh,BV.frz]
  split
  .split
   .rename_i e1 e2
    have:=nbe e1;subst this
    have:=nbe e2;subst this
    simp only[BV.er,hL];exact .own
   .exact .same (by simp only[BV.er,AV.has])
  .rename_i hne
   have:m≠n:=fun e=>by subst e;simp at hne
   exact .same (by simp only[BV.er,AV.has];simpa using this)
 |aref m u i o=>
  simp only[BV.sh,BV.frz]
  split
  .exact .same (by simp only[BV.er,AV.has])
  .rename_i hne
   have:m≠n:=fun e=>by subst e;simp at hne
   exact .same (by simp only[BV.er,AV.has];simpa using this)
 |cut m u k=>
  simp only[BV.sh,BV.frz]
  split
  .exact .same (by simp only[BV.er,AV.has])
  .rename_i hne
   have:m≠n:=fun e=>by subst e;simp at hne
   exact .same (by simp only[BV.er,AV.has];simpa using this)
 |view m u i o=>
  simp only[BV.sh,BV.frz]
  split
  .split
   .rename_i e1 e2
    have:=nbe e1;subst this
    have:=nbe e2;subst this
    simp only[BV.er,hL,List.map_drop,List.map_take];exact .view
   .exact .same (by simp only[BV.er,AV.has])
  .rename_i hne
   have:m≠n:=fun e=>by subst e;simp at hne
   exact .same (by simp only[BV.er,AV.has];simpa using this)
 |agg cs=>simp[Qf6]at h
 |_=>simp only[BV.sh,BV.frz];exact .same (by rw[Qrs];simpa only[Qf6,Bool.not_eq_true']using h)
theorem Qkj{px:Value->Prop}(hL:L n v=(l.map (tcells t)).length):∀{cs:List BV},cs.all (Qf6 n)=true->FrzL px n (tz t) (l.map (tcells t)) (erL L (shL n v cs)) (erL L (frzL n v t l cs))
 |[],_=>by simp only[erL,shL,frzL];exact .nil
 |x::r,h=>by
  simp only[List.all_cons,bae]at h
  simp only[erL,shL,frzL]
  exact .cons (Qrn h.1 hL) (Qkj hL h.2)
theorem QxY{px:Value->Prop}{x:BV}(h:x.fzOK n=true)(hL:L n v=(l.map (tcells t)).length):Frz px n (tz t) (l.map (tcells t)) ((x.sh n v).er L) ((x.frz n v t l).er L):=by
 cases x with
 |agg cs=>simp only[BV.sh,BV.frz,BV.er];exact .agg (Qkj hL h)
 |_=>exact Qrn h hL
theorem Qq5{px:Value->Prop}(hL:L n v=(l.map (tcells t)).length):∀{ts:TS},ts.all (fun p=>p.2.fzOK n)=true->QpU px n (tz t) (l.map (tcells t)) (erT L (ts.map fun p=>(p.1,p.2.sh n v))) (erT L (fzT n v t l ts))
 |[],_=>trivial
 |(k,x)::r,h=>by
  simp only[List.all_cons,bae]at h
  exact⟨rfl,QxY h.1 hL,Qq5 hL h.2⟩
def delH(n:Name)(v:Nat):HS->HS
 |[]=>[]
 |(k,o)::r=>if Nat.beq k n then delH n v r else(k,o.sh n v)::delH n v r
theorem QmE{px:Value->Prop}(hL:L n v=(l.map (tcells t)).length):∀{hs:HS},hs.all (fun p=>p.2.fzOK n)=true->QpT px n (tz t) (l.map (tcells t)) (erH L (delH n v hs)) (erH L (fzH n v t l hs))
 |[],_=>trivial
 |(k,o)::r,h=>by
  simp only[List.all_cons,bae]at h
  simp only[delH,fzH]
  split
  .exact QmE hL h.2
  .rename_i hne
   refine⟨rfl,fun(e:k=n)=>hne (by simp[e]),?_,QmE hL h.2⟩
   cases o with
   |box cs=>exact .box (Qkj hL h.1)
   |arr t' l'=>exact .same rfl
   |sm es=>exact .same rfl
theorem Qks(n k:Nat)(hs:HS):look k (delH n v hs)=if k=n then none else(look k hs).map (BO.sh n v):=by
 induction hs with
 |nil=>simp[delH,look]
 |cons p r ih=>
  obtain⟨j,o⟩:=p
  simp only[delH]
  split
  .rename_i e
   have:=nbe e;subst this
   rw[ih]
   simp only[look]
   grind
  .rename_i e
   simp only[look]
   split
   .simp_all
   .exact ih
theorem Qrx(n k:Nat)(hs:HS):look k (fzH n v t l hs)=if k=n then none else(look k hs).map (BO.frz n v t l):=by
 induction hs with
 |nil=>simp[fzH,look]
 |cons p r ih=>
  obtain⟨j,o⟩:=p
  simp only[fzH]
  split
  .rename_i e
   have:=nbe e;subst this
   rw[ih]
   simp only[look]
   grind
  .rename_i e
   simp only[look]
   split
   .simp_all
   .exact ih
theorem Sim.frz{Γ:Ctx}{ρ:Name->Loc}{M:Nat->Prop}{a:Act}{w:World}(h:Sim Γ ρ M (BS L ts hs) a w)(hi:Inv L hs)(hn:n∉Γ.names)(hl:look n hs=some (.arr t l v))(hb:fzB n ts hs=true):
  (∃ρ' M',Sim Γ ρ' M' (BS L (fzT n v t l ts) (fzH n v t l hs)) a w)/\Inv L (fzH n v t l hs):=by
 simp only[fzB,bae]at hb
 have hL:L n v=(l.map (tcells t)).length:=by rw[hi n t l v hl,List.length_map]
 have h1:Sim Γ ρ M (AM.mk (erT L (ts.map fun p=>(p.1,p.2.sh n v))) ((n,.arr (tz t) (l.map (tcells t)))::erH L (delH n v hs))) a w:=by
  refine h.leS (fun k y hy=>?_) (fun k=>⟨fun y hy=>?_,fun x hx=>?_⟩) (fun k x y hx hy=>?_)
  .obtain⟨y',hy',rfl⟩:=QnN (L:=L) (hs:=hs) hy
   rw[QoI]at hy'
   cases hx:look k ts with
   |none=>rw[hx]at hy';simp at hy'
   |some x=>
    rw[hx]at hy'
    simp only[Option.map_some,Option.some.injEq]at hy'
    subst hy'
    exact⟨x.er L,by rw[Xk,hx];rfl,Qze (List.all_eq_true.1 hb.1 _ (ZB hx))⟩
  .simp only[AM.mk,look]at hy
   split at hy
   .rename_i e;subst e;cases hy;exact⟨_,by rw[Xj,hl];rfl,.refl _⟩
   .rename_i e
    rw[ZH,Qks,if_neg (Ne.symm e)]at hy
    cases hx:look k hs with
    |none=>rw[hx]at hy;simp at hy
    |some x=>
     rw[hx]at hy
     simp only[Option.map_some,Option.some.injEq]at hy
     subst hy
     refine⟨x.er L,by rw[Xj,hx];rfl,?_⟩
     have hx':=List.all_eq_true.1 hb.2 _ (ZB hx)
     cases x with
     |box cs=>exact .box (QjB hx')
     |arr t l=>exact .refl _
     |sm es=>exact .refl _
  .obtain⟨x',hx',rfl⟩:=Qh4 hx
   by_cases e:n=k
   .subst e;rw[hl]at hx';cases hx';exact⟨_,by simp only[AM.mk,look,if_true];rfl,.refl _⟩
   .refine⟨(x'.sh n v).er L,by simp only[AM.mk,look,if_neg e,ZH,Qks,if_neg (Ne.symm e),hx'];rfl,?_⟩
    have hx'':=List.all_eq_true.1 hb.2 _ (ZB hx')
    cases x' with
    |box cs=>exact .box (QjB hx'')
    |arr t l=>exact .refl _
    |sm es=>exact .refl _
  .obtain⟨x',hx',rfl⟩:=Qh4 hx
   by_cases e:n=k
   .subst e
    simp only[AM.mk,look,if_true]at hy
    rw[hl]at hx';cases hx';cases hy;exact .inl rfl
   .simp only[AM.mk,look,if_neg e,ZH,Qks,if_neg (Ne.symm e),hx']at hy
    cases hy
    cases x' with
    |box cs=>exact .inr (.inl ⟨_,_,rfl,rfl⟩)
    |arr t l=>exact .inl rfl
    |sm es=>exact .inl rfl
 refine⟨Weak.freeze hn (Qq5 hL hb.1) (QmE hL hb.2) ρ M a w h1,fun k t' l' u hk=>?_⟩
 rw[Qrx]at hk
 split at hk
 .simp at hk
 .cases hx:look k hs with
  |none=>rw[hx]at hk;simp at hk
  |some x=>
   rw[hx]at hk
   simp only[Option.map_some,Option.some.injEq]at hk
   cases x with
   |box cs=>simp[BO.frz]at hk
   |arr t2 l2=>simp only[BO.frz]at hk;cases hk;exact hi k _ _ _ hx
   |sm es=>simp[BO.frz]at hk
end
end
/-
  The typed layer, part C: what operations do. No project text.
-/
def QuD:List BV->List BV->List BV
 |l,[]=>l
 |[],v::vs=>v::vs
 |_::l,v::vs=>v::QuD l vs
def layB:List BV->Nat->List BV->List BV
 |l,0,vs=>QuD l vs
 |x::l,k+1,vs=>x::layB l k vs
 |[],_+1,vs=>vs
def QoB{α R:Type}:List α->(List α->R)->R
 |[],K=>K []
 |x::r,K=>QoB r fun r=>K (x::r)
theorem Qki{α R:Type}:∀(l:List α) (K:List α->R),QoB l K=K l
 |[],K=>rfl
 |x::r,K=>by simp only[QoB,Qki r]
theorem QrK:∀(l vs:List BV),vs.length<=l.length->QuD l vs=vs++l.drop vs.length
 |l,[],_=>by cases l<;>rfl
 |[],v::vs,h=>by simp at h
 |x::l,v::vs,h=>by simp only[QuD,QrK l vs (by simpa using h),List.length_cons,List.drop_succ_cons,List.cons_append]
theorem Qm0:∀(l:List BV) (k:Nat) (vs:List BV),k+vs.length<=l.length->layB l k vs=QM l k vs
 |l,0,vs,h=>by
  have:layB l 0 vs=QuD l vs:=by cases l<;>rfl
  rw[this,QrK l vs Oa]
  simp[QM]
 |[],k+1,vs,h=>by simp at h
 |x::l,k+1,vs,h=>by
  simp only[layB,Qm0 l k vs (by simp at h;omega),QM,List.take_succ_cons,List.cons_append]
  rw[show k+1+vs.length=(k+vs.length)+1 by omega,List.drop_succ_cons]
structure BEff where
 hp:HS
 v:BV
 upd:HS
 nw:List Name
 nv:List (Name×Nat)
def ev(v:BV):BEff:=⟨[],v,[],[],[]⟩
def Good(P:Program)(o:Oper)(rd:TS)(hs:HS)(e:BEff):Prop:=
 (∀n ob,(n,ob)∈e.hp->look n hs=some ob)/\
 ∀L,Inv L hs->∃L':Lens,(∀m u,m∉e.nw->(m,u)∉e.nv->L' m u=L m u)/\Inv L' (e.upd++hs)/\OpOK P o ⟨erT L rd,erH L e.hp,e.v.er L',erH L' e.upd,e.nw⟩
section
variable {P:Program} {o:Oper} {rd:TS} {hs:HS}
theorem OpOK.outLe{rd:List (Nat×AV)}{hp upd upd':List (Name×AO)}{v v':AV}{nw:List Name}(h:OpOK P o ⟨rd,hp,v,upd,nw⟩)(hv:AVle v v')(hu:∀n,(∀y,look n upd'=some y->∃x,look n upd=some x/\AOle x y/\(x=y\/(∃cs ds,x=.box cs/\y=.box ds)\/(∃es rs qs,x=.arr es rs/\y=.arr es qs)))/\(∀x,look n upd=some x->∃y,look n upd'=some y)):OpOK P o ⟨rd,hp,v',upd',nw⟩:=by
 intro Γ ρ M s a w K Q hs hh hd hK
 refine h Γ ρ M s a w K Q hs ⟨hh.rd,hh.hp,hh.nw⟩ hd (fun ρ' M' a' w' hs'=>hK ρ' M' a' w' ?_)
 have hheap:∀n y,(s.run o.dst ⟨rd,hp,v',upd',nw⟩).heap n=some y->∃x,(s.run o.dst ⟨rd,hp,v,upd,nw⟩).heap n=some x/\AOle x y/\(x=y\/(∃cs ds,x=.box cs/\y=.box ds)\/(∃es rs qs,x=.arr es rs/\y=.arr es qs)):=fun n y hy=>by
  simp only[AS.run]at hy |-
  cases hl:look n upd' with
  |some y'=>
   grind
  |none=>
   rw[hl]at hy
   have hn:look n upd=none:=by
    cases hl2:look n upd with
    |none=>rfl
    |some x=>obtain⟨y,hy⟩:=(hu n).2 x hl2;rw[hl]at hy;simp at hy
   exact⟨y,by rw[hn];exact hy,.refl _,.inl rfl⟩
 refine hs'.leS (fun t y hy=>?_) (fun n=>⟨fun y hy=>?_,fun x hx=>?_⟩) (fun n x y hx hy=>?_)
 .simp only[AS.run]at hy |-
  split at hy
  .simp_all
  .rename_i e;exact⟨y,by rw[if_neg e];exact hy,.refl _⟩
 .grind
 .have:∃y,(s.run o.dst ⟨rd,hp,v',upd',nw⟩).heap n=some y:=by
   simp only[AS.run]at hx |-
   grind
  grind
 .grind
theorem OpOK.vLe{rd:List (Nat×AV)}{hp upd:List (Name×AO)}{v v':AV}{nw:List Name}(h:OpOK P o ⟨rd,hp,v,upd,nw⟩)(hv:AVle v v'):OpOK P o ⟨rd,hp,v',upd,nw⟩:=
 h.outLe hv fun n=>⟨fun y hy=>⟨y,hy,.refl _,.inl rfl⟩,fun x hx=>⟨x,hx⟩⟩
theorem Good.val{hp:HS}{v:BV}(h1:∀n ob,(n,ob)∈hp->look n hs=some ob)(h2:∀L,Inv L hs->OpOK P o ⟨erT L rd,erH L hp,v.er L,[],[]⟩):Good P o rd hs ⟨hp,v,[],[],[]⟩:=
 ⟨h1,fun L hL=>⟨L,fun _ _ _ _=>rfl,hL,h2 L hL⟩⟩
theorem Good.ev{v:BV}(h2:∀L,Inv L hs->OpOK P o ⟨erT L rd,[],v.er L,[],[]⟩):Good P o rd hs (ev v):=Good.val (fun _ _ h=>by simp at h) h2
def Qsd:Value->BV
 |.slice none 0 0=>.nil
 |.int k x=>.n k x
 |.bool b=>.b b
 |.string s=>.s s
 |c=>.v c
theorem Qra(L:Lens)(c:Value):(Qsd c).er L=Yu c:=by
 unfold Qsd
 split
 .simp only[BV.er];rfl
 .simp only[BV.er];rfl
 .simp only[BV.er];rfl
 .simp only[BV.er];rfl
 .rename_i h1 h2 h3 h4
  simp only[BV.er]
  unfold Yu
  simp_all
def QtP:Value->Option BV
 |.agg cs=>if cs.toList.all (fun c=>c.oneCell')then some (.agg (cs.toList.map Qsd))else none
 |c=>if c.oneCell' then some (Qsd c)else none
theorem Qot(L:Lens)(cs:List Value):erL L (cs.map Qsd)=cs.map Yu:=by
 simp only[VF,List.map_map];exact List.map_congr_left fun c _=>Qra L c
theorem QtQ{c:Value}{x:BV}(L:Lens)(h:QtP c=some x):Qeh c=some (x.er L):=by
 unfold QtP at h
 split at h
 .rename_i cs
  unfold Qeh
  split at h
  .rename_i hall;cases h;simp only[hall,if_true,BV.er,Qot]
  .simp at h
 .rename_i hne
  split at h
  .rename_i ho
   cases h
   unfold Qeh
   split
   .simp_all
   .simp only[ho,if_true,Qra]
  .simp at h
def ZN(rd:TS):Operand->Option BV
 |.tmp t=>look t rd
 |.const c=>QtP c
 |.global g=>some (.v (.pointer (some ⟨g,0,none⟩)))
 |.func f=>some (.v (.func (.func f) #[] #[]))
theorem Qh{x:Operand}{v:BV}(L:Lens)(h:ZN rd x=some v):Qm (erT L rd) x=some (v.er L):=by
 cases x with
 |tmp t=>simp only[ZN]at h;simp only[Qm,VJ,h,Option.map_some]
 |const c=>exact QtQ L h
 |global g=>simp only[ZN,Option.some.injEq]at h;subst h;simp only[Qm,BV.er]
 |func f=>simp only[ZN,Option.some.injEq]at h;subst h;simp only[Qm,BV.er]
def QjU:BV->Option (List BV)
 |.agg cs=>some cs
 |.tup _=>none
 |x=>some [x]
theorem Qee{v:BV}{cs:List BV}(L:Lens)(h:QjU v=some cs):Yb (v.er L)=some (erL L cs):=by
 cases v<;>simp only[QjU,Option.some.injEq,reduceCtorEq]at h<;>subst h<;>simp only[BV.er,Yb,erL]
def Qg9(rd:TS):List Operand->Option (List BV)
 |[]=>some []
 |x::r=>match ZN rd x,Qg9 rd r with
  |some v,some vs=>some (v::vs)
  |_,_=>none
theorem Qep(L:Lens):∀{xs:List Operand} {vs:List BV},Qg9 rd xs=some vs->Qi1 (erT L rd) xs=some (erL L vs)
 |[],vs,h=>by simp only[Qg9,Option.some.injEq]at h;subst h;simp only[Qi1,erL]
 |x::r,vs,h=>by
  simp only[Qg9]at h
  split at h
  .rename_i v vs' h1 h2
   cases h
   simp only[Qi1,Qh L h1,Qep L h2,erL]
  .simp at h
end
section
variable {R:Type} (P:Program) (ty:TypeId->Option TC) (rd:TS) (hs:HS) (K:BEff->Option R)
def bVal(x:Operand):Option R:=match ZN rd x with
 |some v=>K (ev v)
 |none=>none
def QxE(c x y:Operand):Option R:=match ZN rd c,ZN rd x,ZN rd y with
 |some (.b q),some u,some v=>cnd q (K (ev u)) (K (ev v))
 |_,_,_=>none
def Qs4(T:TypeId):Option (List BV):=match P.info? T with
 |some i=>match i.zero with
  |some z=>if z.cells.toList.all (fun c=>c.oneCell')then some (z.cells.toList.map Qsd)else none
  |none=>none
 |none=>none
def Qtm(d:Option Nat)(T:TypeId):Option R:=match d,Qs4 P T with
 |some d,some cs=>K ⟨[],.ref (1000+d) 0,[(1000+d,.box cs)],[1000+d],[]⟩
 |_,_=>none
def bBox(d:Option Nat)(x:Operand):Option R:=match d,ZN rd x with
 |some d,some v=>match QjU v with
  |some cs=>K ⟨[],.ref (1000+d) 0,[(1000+d,.box cs)],[1000+d],[]⟩
  |none=>none
 |_,_=>none
def QuO(places:List (Nat×Nat)):List (Nat×Operand)->List BV->Option (List BV)
 |[],cells=>some cells
 |(i,x)::r,cells=>match places[i]?,ZN rd x with
  |some (off,size),some y=>match QjU y with
   |some cs=>if Nat.beq cs.length size && Nat.ble (off+size) cells.length then QoB (layB cells off cs) fun cells=>QuO places r cells else none
   |none=>none
  |_,_=>none
def QuJ(T:TypeId):Option (List (Nat×Nat)):=match P.underlying T with
 |some (.array n e)=>match ZK P e with
  |some es=>some (QjJ n es)
  |none=>none
 |_=>QqX P T
def Qto(T:TypeId)(parts:Array (Nat×Operand)):Option R:=match QuJ P T,Qs4 P T with
 |some pl,some zs=>match QuO rd pl parts.toList zs with
  |some cells=>K (ev (.agg cells))
  |none=>none
 |_,_=>none
def QsU(t:TC):List (Nat×Operand)->Nat->Nat->(List (TT t)->Option R)->Option R
 |[],i,len,K=>if Nat.beq i len then K []else none
 |(j,x)::r,i,len,K=>if Nat.beq j i then match ZN rd x with
   |some v=>match QjU v with
    |some cs=>if Nat.beq cs.length (tz t) && cs.all BV.isP then tpop t cs fun y rest=>match rest with
      |[]=>QsU t r (i+1) len fun ys=>K (y::ys)
      |_=>none
     else none
    |none=>none
   |none=>none
  else none
def Qgj(T:TypeId)(len:Nat)(parts:Array (Nat×Operand)):Option R:=match Vy P T with
 |some e=>match ty e,ZK P e,UH P e with
  |some t,some es,some zr=>if Nat.beq es (tz t) && Nat.ble 1 es && Nat.beq zr.length es && Nat.ble (len*es) 16777216 then QsU rd t parts.toList 0 len fun l=>K (ev (.ts true t l))else none
  |_,_,_=>none
 |none=>none
def Qxz(T:TypeId)(x:Operand):Option R:=match ZN rd x with
 |some (.ref n k)=>match look n hs with
  |some (.box cells)=>if aggT P T then
    match ZK P T with
    |some z=>if Nat.beq ((cells.drop k).take z).length z then K ⟨[(n,.box cells)],.agg ((cells.drop k).take z),[],[],[]⟩else none
    |none=>none
   else if Qer P T then match cells[k]? with
    |some c=>K ⟨[(n,.box cells)],c,[],[],[]⟩
    |none=>none
   else none
  |_=>none
 |some (.tep cells)=>if cells.all BV.isP then if aggT P T then
   match ZK P T with
   |some z=>if Nat.beq (cells.take z).length z then K (ev (.agg (cells.take z)))else none
   |none=>none
  else if Qer P T then match cells[0]? with
   |some c=>K (ev c)
   |none=>none
  else none else none
 |some (.aref n u i k)=>match look n hs with
  |some (.arr t l v)=>if Nat.beq u v then optc l[i]? fun y=>if aggT P T then
    match ZK P T with
    |some z=>if Nat.beq (((tb t y).drop k).take z).length z then K ⟨[(n,.arr t l v)],.agg (((tb t y).drop k).take z),[],[],[]⟩else none
    |none=>none
   else if Qer P T then match (tb t y)[k]? with
    |some c=>K ⟨[(n,.arr t l v)],c,[],[],[]⟩
    |none=>none
   else none else none
  |_=>none
 |_=>none
def Qty(d:Option Nat)(T:TypeId)(x y:Operand):Option R:=match d,ZN rd x,ZN rd y with
 |none,some (.ref n k),some v=>match look n hs,QjU v,ZK P T with
  |some (.box cells),some vs,some z=>if Nat.beq z vs.length && Nat.ble (k+vs.length) cells.length then QoB (layB cells k vs) fun cells'=>K ⟨[(n,.box cells)],.any,[(n,.box cells')],[],[]⟩else none
  |_,_,_=>none
 |none,some (.aref n u i k),some v=>match look n hs,QjU v,ZK P T with
  |some (.arr t l q),some vs,some z=>if Nat.beq u q then optc l[i]? fun y=>if Nat.beq z vs.length && Nat.ble (k+vs.length) (tb t y).length && vs.all BV.isP then tpop t (layB (tb t y) k vs) fun y' rest=>match rest with
    |[]=>K ⟨[(n,.arr t l q)],.any,[(n,.arr t (l.set i y') q)],[],[]⟩
    |_=>none
   else none else none
  |_,_,_=>none
 |_,_,_=>none
def QhS(S:TypeId)(x:Operand)(i:Nat):Option R:=match ZN rd x,Qc0 P S i with
 |some (.ref n k),some fo=>match look n hs with
  |some (.box cells)=>K ⟨[(n,.box cells)],.ref n (k+fo),[],[],[]⟩
  |_=>none
 |some (.tep cells),some fo=>K (ev (.tep (cells.drop fo)))
 |some (.aref n u j k),some fo=>match look n hs with
  |some (.arr t l q)=>if Nat.beq u q then K ⟨[(n,.arr t l q)],.aref n u j (k+fo),[],[],[]⟩else none
  |_=>none
 |_,_=>none
def QjO(x:Operand):Option R:=match ZN rd x with
 |some (.ref n k)=>match look n hs with
  |some (.box cells)=>K ⟨[(n,.box cells)],.ref n k,[],[],[]⟩
  |_=>none
 |some (.tep cells)=>K (ev (.tep cells))
 |some (.aref n u j k)=>match look n hs with
  |some (.arr t l q)=>if Nat.beq u q then K ⟨[(n,.arr t l q)],.aref n u j k,[],[],[]⟩else none
  |_=>none
 |_=>none
def binI(op:BinOp)(k:IntKind)(a b:Int):Option R:=match op with
 |.add=>K (ev (.n k (k.wrap (a+b))))
 |.sub=>K (ev (.n k (k.wrap (a - b))))
 |.mul=>K (ev (.n k (k.wrap (a*b))))
 |.quo=>nzc b (K (ev (.n k (k.wrap (a.tdiv b)))))
 |.rem=>nzc b (K (ev (.n k (a.tmod b))))
 |.shr=>natc b fun n=>K (ev (.n k (a.fdiv (2 ^ (min n k.bits)))))
 |.lss=>K (ev (.b (decide (a<b))))
 |.leq=>K (ev (.b (decide (a<=b))))
 |.gtr=>K (ev (.b (decide (b<a))))
 |.geq=>K (ev (.b (decide (b<=a))))
 |.eql=>K (ev (.b (decide (a=b))))
 |.neq=>K (ev (.b (decide (a≠b))))
 |_=>none
def binS(op:BinOp)(a b:ByteArray):Option R:=match op with
 |.eql=>K (ev (.b (decide (a=b))))
 |.neq=>K (ev (.b (decide (a≠b))))
 |.add=>lec (a.size+b.size) 9223372036854775807 (K (ev (.s (a++b))))
 |_=>none
def QyP(T:TypeId):Bool:=match P.underlying T with|some .bool=>true|_=>false
def binB(op:BinOp)(T:TypeId)(a b:Bool):Option R:=if QyP P T then match op with
 |.eql=>K (ev (.b (decide (a=b))))
 |.neq=>K (ev (.b (decide (a≠b))))
 |_=>none else none
def bBin(op:BinOp)(T:TypeId)(x y:Operand):Option R:=match ZN rd x,ZN rd y with
 |some (.n k a),some (.n k' b)=>if kEq k k' then binI K op k a b else none
 |some (.s a),some (.s b)=>binS K op a b
 |some (.b a),some (.b b)=>binB P K op T a b
 |_,_=>none
def bUn(op:UnOp)(x:Operand):Option R:=match op,ZN rd x with
 |.not,some (.b b)=>K (ev (.b (!b)))
 |.neg,some (.n k a)=>K (ev (.n k (k.wrap (0 - a))))
 |_,_=>none
def Qtu(T:TypeId)(x:Operand)(i:Nat):Option R:=match ZN rd x,P.underlying T with
 |some (.agg cells),some (.struct fs)=>match fs[i]? with
  |some f=>if aggT P f.type then
    match ZK P f.type with
    |some z=>K (ev (.agg ((cells.drop f.offset).take z)))
    |none=>none
   else if Qer P f.type then match cells[f.offset]? with
    |some c=>K (ev c)
    |none=>none
   else none
  |none=>none
 |_,_=>none
def QmI(x:Operand)(i:Nat):Option R:=match ZN rd x with
 |some (.tup vs)=>match vs[i]? with
  |some v=>K (ev v)
  |none=>none
 |_=>none
def QhT(T:TypeId)(x y:Operand):Option R:=match ZN rd x,ZN rd y,Vy P T with
 |some (.ts _ t l),some (.n _ j),some e=>match ZK P e with
  |some es=>if Nat.beq es (tz t)then atc l j fun z=>K (ev (.tep (tb t z)))else none
  |none=>none
 |some (.own n u),some (.n _ j),some e=>match look n hs,ZK P e with
  |some (.arr t l q),some es=>if Nat.beq es (tz t) && Nat.beq u q then natc j fun i=>ltc i l.length (K ⟨[(n,.arr t l q)],.aref n u i 0,[],[],[]⟩)else none
  |_,_=>none
 |some (.view n u lo hi),some (.n _ j),some e=>match look n hs,ZK P e with
  |some (.arr t l q),some es=>if Nat.beq es (tz t) && Nat.beq u q then natc j fun i=>ltc i (hi - lo) (K ⟨[(n,.arr t l q)],.aref n u (lo+i) 0,[],[],[]⟩)else none
  |_,_=>none
 |_,_,_=>none
def bLen(T:TypeId)(x:Operand):Option R:=match ZN rd x with
 |some (.ts _ t l)=>match Vy P T with
  |some _=>K (ev (.n .i64 (l.length:Int)))
  |none=>none
 |some .nil=>match Vy P T with
  |some _=>K (ev (.n .i64 0))
  |none=>none
 |some (.own n u)=>match look n hs,Vy P T with
  |some (.arr t l q),some _=>if Nat.beq u q then K ⟨[(n,.arr t l q)],.n .i64 (l.length:Int),[],[],[]⟩else none
  |_,_=>none
 |some (.view n u lo hi)=>match look n hs,Vy P T with
  |some (.arr t l q),some _=>if Nat.beq u q then K ⟨[(n,.arr t l q)],.n .i64 ((hi - lo:Nat):Int),[],[],[]⟩else none
  |_,_=>none
 |some (.s t)=>match P.underlying T with
  |some .string=>K (ev (.n .i64 (t.size:Int)))
  |_=>none
 |_=>none
def srcB(t0:TC)(y:BV)(K:List (TT t0)->Option R):Option R:=match y with
 |.ts _ t x=>if h:t=t0 then K (Qoc h x)else none
 |_=>none
def Qp0(d:Option Nat)(T:TypeId)(x y:Operand):Option R:=match ZN rd x,ZN rd y,Vy P T with
 |some (.own n u),some v,some e=>match look n hs,ZK P e,QjS P e with
  |some (.arr t l q),some es,some bytes=>if Nat.beq es (tz t) && Qf5 P e es bytes && Nat.ble bytes 4096 && Nat.beq u q then srcB t v fun l'=>lec (l.length+l'.length) 34359738368 (K ⟨[(n,.arr t l q)],.own n (q+1),[(n,.arr t (l++l') (q+1))],[],[(n,q+1)]⟩)else none
  |_,_,_=>none
 |some (.cut n u k),some (.view m v a b),some e=>match d,look n hs,ZK P e,QjS P e with
  |some d,some (.arr t l q),some es,some bytes=>if Nat.beq m n && Nat.beq u q && Nat.beq v q && Nat.beq es (tz t) && Qf5 P e es bytes && Nat.ble bytes 4096 then
    lec k l.length (lec b l.length (lec a b (nilC ((l.take b).drop a) (K ⟨[(n,.arr t l q)],.cut n u k,[],[],[]⟩) (lec (l.take k++(l.take b).drop a).length 34359738368 (K ⟨[(n,.arr t l q)],.own (1000+d) 0,[(1000+d,.arr t (l.take k++(l.take b).drop a) 0)],[1000+d],[]⟩)))))else none
  |_,_,_,_=>none
 |some .nil,some v,some e=>match d,ty e,ZK P e,QjS P e with
  |some d,some t,some es,some bytes=>if Nat.beq es (tz t) && Qf5 P e es bytes && Nat.ble bytes 4096 && Nat.ble 1 es then srcB t v fun l'=>lec l'.length 34359738368 (K ⟨[],.own (1000+d) 0,[(1000+d,.arr t l' 0)],[1000+d],[]⟩)else none
  |_,_,_,_=>none
 |some (.ts true t l),some v,some e=>match d,ZK P e,QjS P e with
  |some d,some es,some bytes=>if Nat.beq es (tz t) && Qf5 P e es bytes && Nat.ble bytes 4096 && Nat.ble 1 es then srcB t v fun l'=>match l with
    |[]=>lec l'.length 34359738368 (K ⟨[],.own (1000+d) 0,[(1000+d,.arr t l' 0)],[1000+d],[]⟩)
    |y::q=>match l' with
     |[]=>none
     |z::r=>lec ((y::q).length+(z::r).length) 34359738368 (K ⟨[],.own (1000+d) 0,[(1000+d,.arr t (y::q++z::r) 0)],[1000+d],[]⟩)else none
  |_,_,_=>none
 |_,_,_=>none
def Qxv(S T:TypeId)(x:Operand):Option R:=match ZN rd x,intT P T with
 |some (.n k a),some k'=>if (P.underlying S).isSome then K (ev (.n k' (k'.wrap a)))else none
 |_,_=>none
def Qp2(T:TypeId)(x y:Operand):Option R:=match ZN rd x,ZN rd y,P.underlying T with
 |some (.s t),some (.n _ j),some .string=>natc j fun i=>ltc i t.size (K (ev (.n .u8 (bAt t i:Int))))
 |_,_,_=>none
end
/-
  The abstract machine, part R: nil errors, a byte as a text, ranging over a map in whatever order. No project text.
-/
open Go
section
variable {P:Program} {o:Oper} {rd:List (Nat×AV)}
theorem Qk9{T e:TypeId}(hT:P.underlying T=some (.slice e))(a:Option Addr)(l c:Nat)(w:World):(Op.equal T (.slice a l c) (.slice none 0 0)).run P w=.ok a.isNone w:=by
 unfold Op.equal
 rw[show Op.maxDepth=(Op.maxDepth - 1)+1 from rfl]
 cases a<;>simp[Op.equalIn,run_underlying hT]
def eqOp(op:BinOp):Option Bool:=match op with
 |.eql=>some true
 |.neq=>some false
 |_=>none
theorem Qpu{op:BinOp}{q:Bool}{T e:TypeId}(hq:eqOp op=some q)(hT:P.underlying T=some (.slice e))(a:Option Addr)(l c:Nat)(w:World):(binOp op T (.slice a l c) (.slice none 0 0)).run P w=.ok (.bool (a.isNone == q)) w:=by
 cases op<;>simp[eqOp]at hq<;>subst hq<;>cases a<;>simp[binOp,Qk9 hT]
theorem OpOK.eqNilU{op:BinOp}{q:Bool}{T T' e:TypeId}{x:Operand}{f:Bool}{es:Nat}{rows:List (List PV)}(ho:o.op=.binOp op T x (.const (.slice none 0 0)) T')(hq:eqOp op=some q)(hT:P.underlying T=some (.slice e))(hx:Qm rd x=some (.p (.sl f es rows))):
  OpOK P o ⟨rd,[],.ub,[],[]⟩:=
 OpOK.quiet fun Γ ρ M s a w hs hh=>by
  have h1:=Qk hs hh hx
  simp only[AV.R,PV.R]at h1
  obtain⟨ad,cap,hu,_⟩:=h1
  refine⟨.bool (ad.isNone == q),?_,by simp only[AV.R];exact⟨_,rfl⟩⟩
  have e:a.eval (.const (.slice none 0 0))=.slice none 0 0:=rfl
  simp[execOp,ho,hu,e,Qpu hq hT,eqGuard_at_slice]
theorem OpOK.eqNilN{op:BinOp}{q:Bool}{T T' e:TypeId}{x:Operand}{f:Bool}{es:Nat}{rows:List (List PV)}(ho:o.op=.binOp op T x (.const (.slice none 0 0)) T')(hq:eqOp op=some q)(hT:P.underlying T=some (.slice e))(hx:Qm rd x=some (.p (.sl f es rows)))(hr:rows≠[]):
  OpOK P o ⟨rd,[],.p (.v (.bool (!q))),[],[]⟩:=
 OpOK.quiet fun Γ ρ M s a w hs hh=>by
  have h1:=Qk hs hh hx
  simp only[AV.R,PV.R]at h1
  obtain⟨ad,cap,hu,hl,_,hn,_⟩:=h1
  refine⟨.bool (!q),?_,by simp only[AV.R,PV.R];exact⟨trivial,rfl⟩⟩
  have e:a.eval (.const (.slice none 0 0))=.slice none 0 0:=rfl
  have had:ad.isNone=false:=by
   cases ad with
   |some x=>rfl
   |none=>
    simp_all
  have:=Qpu (P:=P) hq hT ad rows.length cap w
  rw[had]at this
  simp[execOp,ho,hu,e,this,eqGuard_at_slice]
theorem OpOK.maxI{x y:Operand}{ats:Array TypeId}{m k r:Int}(ho:o.op=.call { callee:=.builtin .max,args:=#[x,y],argTypes:=ats })(hx:Qm rd x=some (.p (.v (.int .i64 m))))(hy:Qm rd y=some (.p (.v (.int .i64 k))))(hr:max m k=r):
  OpOK P o ⟨rd,[],.p (.v (.int .i64 r)),[],[]⟩:=
 OpOK.quiet fun Γ ρ M s a w hs hh=>by
  have h1:=Qk hs hh hx
  have h2:=Qk hs hh hy
  simp only[AV.R,PV.R]at h1 h2
  refine⟨.int .i64 r,?_,by simp only[AV.R,PV.R];exact⟨trivial,rfl⟩⟩
  have e:(if m<k then k else m)=r:=by rw[<-hr];split<;>omega
  simp[execOp,ho,h1.1,h2.1,resolve,invoke,builtin,run_max_int2,e]
theorem OpOK.minI{x y:Operand}{ats:Array TypeId}{m k r:Int}(ho:o.op=.call { callee:=.builtin .min,args:=#[x,y],argTypes:=ats })(hx:Qm rd x=some (.p (.v (.int .i64 m))))(hy:Qm rd y=some (.p (.v (.int .i64 k))))(hr:min m k=r):
  OpOK P o ⟨rd,[],.p (.v (.int .i64 r)),[],[]⟩:=
 OpOK.quiet fun Γ ρ M s a w hs hh=>by
  have h1:=Qk hs hh hx
  have h2:=Qk hs hh hy
  simp only[AV.R,PV.R]at h1 h2
  refine⟨.int .i64 r,?_,by simp only[AV.R,PV.R];exact⟨trivial,rfl⟩⟩
  have e:(if k<m then k else m)=r:=by rw[<-hr];split<;>omega
  simp[execOp,ho,h1.1,h2.1,resolve,invoke,builtin,run_min_int2,e]
def QiF(g:TypeId->Option Nat):List Field->Nat->Option Nat
 |[],i=>some i
 |f::fs,i=>if f.name != "_" && Nat.beq f.offset i then(match g f.type with|some n=>QiF g fs (i+n)|none=>none)else none
def Qsn(P:Program):Nat->TypeId->Option Nat
 |0,_=>none
 |k+1,T=>match P.underlying T with
  |some (.int .i64)=>some 1
  |some (.struct fs)=>(match QiF (Qsn P k) fs.toList 0,ZK P T with
   |some n,some m=>if Nat.beq n m && !P.stoodInHeld T then some n else none
   |_,_=>none)
  |some (.array 2 e)=>(match P.underlying e,ZK P e,ZK P T with
   |some (.int .i64),some 1,some 2=>if Nat.ble 1 k then some 2 else none
   |_,_,_=>none)
  |_=>none
def Quf(P:Program)(T:TypeId)(n:Nat):Bool:=aggT P T && (match Qsn P 5 T with|some m=>Nat.beq m n|none=>false) && !P.eqGuardType P.depth T
theorem QbV{w:World}{T:TypeId}{cs:Array Value}{i:Nat}{v:Value}(hT:P.underlying T=some (.int .i64))(h:cs[i]?=some v):(part T cs i).run P w=.ok v w:=by
 have hf:Qer P T=true:=by simp[Qer,hT]
 simp[part,V9 hf,h]
theorem Qoz{g:TypeId->Option Nat}:∀{fs:List Field} {i m:Nat},QiF g fs i=some m->i<=m
 |[],i,m,h=>by simp only[QiF,Option.some.injEq]at h;omega
 |f::fs,i,m,h=>by
  simp only[QiF]at h
  split at h
  .split at h
   .have:=Qoz h;omega
   .simp at h
  .simp at h
theorem Qg7{g:TypeId->Option Nat}{d:Nat}{w:World}{xs ys:Array Value}(hg:∀T n,g T=some n->∀off (as1 bs:List Int),as1.length=n->bs.length=n->(∀j (a:Int),as1[j]?=some a->xs[off+j]?=some (.int .i64 a))->(∀j (b:Int),bs[j]?=some b->ys[off+j]?=some (.int .i64 b))->
   ∃u v,(part T xs off).run P w=.ok u w/\(part T ys off).run P w=.ok v w/\(Op.equalIn d T u v).run P w=.ok (decide (as1=bs)) w):
  ∀(fs:List Field) (i m:Nat) (as1 bs:List Int),QiF g fs i=some m->i+as1.length=m->bs.length=as1.length->(∀j (a:Int),as1[j]?=some a->xs[i+j]?=some (.int .i64 a))->(∀j (b:Int),bs[j]?=some b->ys[i+j]?=some (.int .i64 b))->
   (Op.eqFields d xs ys fs).run P w=.ok (decide (as1=bs)) w
 |[],i,m,as1,bs,h,h1,h2,_,_=>by
  simp only[QiF,Option.some.injEq]at h
  have e1:as1=[]:=List.eq_nil_of_length_eq_zero Oa
  have e2:bs=[]:=List.eq_nil_of_length_eq_zero Oa
  subst e1;subst e2;simp[Op.eqFields]
 |f::fs,i,m,as1,bs,h,h1,h2,h3,h4=>by
  simp only[QiF]at h
  split at h
  .rename_i g1
   simp only[bae,bne_iff_ne,ne_eq]at g1
   have ho:f.offset=i:=nbe g1.2
   split at h
   .rename_i n hn
    have hle:=Qoz h
    have ht:∀{l:List Int} {j:Nat} {a:Int},(l.take n)[j]?=some a->l[j]?=some a:=fun{l j a} hj=>by
     rw[List.getElem?_take]at hj
     split at hj
     .exact hj
     .simp at hj
    obtain⟨u,v,p1,p2,p3⟩:=hg _ _ hn i (as1.take n) (bs.take n) (by rw[List.length_take];omega) (by rw[List.length_take];omega) (fun j a hj=>h3 j a (ht hj)) (fun j a hj=>h4 j a (ht hj))
    have ih:=Qg7 hg fs (i+n) m (as1.drop n) (bs.drop n) h (by rw[List.length_drop];omega) (by simp[h2]) (fun j a hj=>by
     rw[List.getElem?_drop]at hj;have:=h3 (n+j) a hj;rwa [<-Nat.add_assoc]at this) (fun j a hj=>by
     rw[List.getElem?_drop]at hj;have:=h4 (n+j) a hj;rwa [<-Nat.add_assoc]at this)
    simp only[Op.eqFields,if_pos g1.1,Sem.run_bind,ho,p1,p2,Result.andThen_ok,p3]
    by_cases e:as1.take n=bs.take n
    .have:(as1=bs)↔(as1.drop n=bs.drop n):=⟨fun h=>by rw[h],fun h=>by rw[<-List.take_append_drop n as1,<-List.take_append_drop n bs,e,h]⟩
     simp[e,ih,this]
    .have:as1≠bs:=fun h=>e (by rw[h])
     simp[e,this]
   .simp at h
  .simp at h
theorem Qw8{w:World}:∀(k d:Nat),k<=d->∀(T:TypeId) (n:Nat),Qsn P k T=some n->∀(xs ys:Array Value) (off:Nat) (as1 bs:List Int),as1.length=n->bs.length=n->
  (∀j (a:Int),as1[j]?=some a->xs[off+j]?=some (.int .i64 a))->(∀j (b:Int),bs[j]?=some b->ys[off+j]?=some (.int .i64 b))->
  ∃u v,(part T xs off).run P w=.ok u w/\(part T ys off).run P w=.ok v w/\(Op.equalIn d T u v).run P w=.ok (decide (as1=bs)) w
 |0,d,_,T,n,h,_,_,_,_,_,_,_,_,_=>by simp[Qsn]at h
 |k+1,d,hd,T,n,h,xs,ys,off,as1,bs,h1,h2,h3,h4=>by
  obtain⟨d,rfl⟩:∃d',d=d'+1:=⟨d - 1,Oa⟩
  simp only[Qsn]at h
  split at h
  .rename_i hT
   cases h
   obtain⟨a,rfl⟩:=List.length_eq_one_iff.1 h1
   obtain⟨b,rfl⟩:=List.length_eq_one_iff.1 h2
   refine⟨_,_,QbV hT (h3 0 a Ob),QbV hT (h4 0 b Ob),?_⟩
   rw[run_equalIn_int w d T .i64 .i64 a b hT,show(a == b)=decide ([a]=[b])by by_cases h:a=b<;>simp[h]]
  .rename_i fs hfs
   split at h
   .rename_i z m ha hm
    split at h
    .rename_i hc
     simp only[bae,Bool.not_eq_true']at hc
     have hz:=nbe hc.1
     cases h
     have hp:∀zs:Array Value,(part T zs off).run P w=.ok (.agg (zs.extract off (off+m))) w:=fun zs=>by simp[part,Vg (show aggT P T=true by simp[aggT,hfs]),run_sizeOf hm]
     refine⟨_,_,hp xs,hp ys,?_⟩
     have hF:P.fieldsOf T=fs:=by simp[Program.fieldsOf,hfs]
     rw[run_equalIn_struct w d T _ _ (by rw[hF];exact hfs) hc.2,hF]
     have key:∀{zs:Array Value} {l:List Int},l.length=n->(∀j (a:Int),l[j]?=some a->zs[off+j]?=some (.int .i64 a))->∀j (a:Int),l[j]?=some a->(zs.extract off (off+m))[0+j]?=some (.int .i64 a):=fun{zs l} hl hz2 j a hj=>by
      have hlt:=(Array.getElem?_eq_some_iff.1 (hz2 j a hj)).1
      have hj':=(List.getElem?_eq_some_iff.1 hj).1
      rw[Nat.zero_add,Array.getElem?_extract,if_pos Oa]
      exact hz2 j a hj
     exact Qg7 (fun T n h off as1 bs a1 a2 a3 a4=>Qw8 k d Oa T n h _ _ off as1 bs a1 a2 a3 a4) fs.toList 0 n as1 bs ha Oa Oa (key h1 h3) (key h2 h4)
    .simp at h
   .simp at h
  .rename_i e hfs
   split at h
   .rename_i he hz1 hz2
    split at h
    .rename_i hk
     cases h
     have hk1:=Nat.le_of_ble_eq_true hk
     obtain⟨d',rfl⟩:∃d',d=d'+1:=⟨d - 1,Oa⟩
     have hp:∀zs:Array Value,(part T zs off).run P w=.ok (.agg (zs.extract off (off+2))) w:=fun zs=>by simp[part,Vg (show aggT P T=true by simp[aggT,hfs]),run_sizeOf hz2]
     have two:∀{l:List Int},l.length=2->∃a b,l=[a,b]:=fun{l} hl=>by
      match l,hl with
      |[a,b],_=>exact⟨a,b,rfl⟩
     obtain⟨a0,a1,rfl⟩:=two h1
     obtain⟨b0,b1,rfl⟩:=two h2
     have x0:=h3 0 a0 rfl;have x1:=h3 1 a1 rfl;have y0:=h4 0 b0 rfl;have y1:=h4 1 b1 rfl
     have key:∀{zs:Array Value} {c0 c1:Value},zs[off+0]?=some c0->zs[off+1]?=some c1->zs.extract off (off+2)=#[c0,c1]:=fun{zs c0 c1} z0 z1=>by
      have hlt:=(Array.getElem?_eq_some_iff.1 z1).1
      apply Array.ext_getElem?
      intro j
      rw[Array.getElem?_extract]
      match j with
      |0=>rw[if_pos Oa,z0];rfl
      |1=>rw[if_pos Oa,z1];rfl
      |j+2=>rw[if_neg Oa];rfl
     refine⟨_,_,hp xs,hp ys,?_⟩
     rw[key x0 x1,key y0 y1]
     rw[Op.equalIn]
     simp only[Sem.run_bind,run_underlying hfs,Result.andThen_ok,run_sizeOf hz1]
     simp only[Std.Legacy.Range.forIn_eq_forIn_range',Std.Legacy.Range.size,Nat.sub_zero,Nat.add_one_sub_one,Nat.div_one]
     have r0:∀(u v:Value),(part e #[u,v] 0).run P w=.ok u w:=fun u v=>QbV he rfl
     have r1:∀(u v:Value),(part e #[u,v] 1).run P w=.ok v w:=fun u v=>QbV he rfl
     simp only[show List.range' 0 2=[0,1]from rfl,List.forIn_cons,List.forIn_nil,Sem.run_bind,Nat.mul_one,r0,r1,Result.andThen_ok,run_equalIn_int w d' e .i64 .i64 _ _ he]
     by_cases e0:a0=b0
     .subst e0
      by_cases e1:a1=b1
      .subst e1;simp[r1,run_equalIn_int w d' e .i64 .i64 _ _ he]
      .simp[r1,run_equalIn_int w d' e .i64 .i64 _ _ he,e1]
     .simp[e0]
    .simp at h
   .simp at h
  .simp at h
theorem Qmu{w:World}{T:TypeId}{as1 bs:List Int}{us vs:Array Value}(hT:Quf P T as1.length=true)(hl:Nat.beq bs.length as1.length=true)(k1:us.toList=as1.map (Value.int .i64))(k2:vs.toList=bs.map (Value.int .i64)):
  (Op.equalIn 10000 T (.agg us) (.agg vs)).run P w=.ok (decide (as1=bs)) w/\P.eqGuardType P.depth T=false:=by
 have hl':=nbe hl
 simp only[Quf,bae,Bool.not_eq_true']at hT
 obtain⟨⟨g1,g2⟩,g3⟩:=hT
 split at g2
 .rename_i m hm
  have hmn:=nbe g2
  have hcell:∀{zs:Array Value} {l:List Int},zs.toList=l.map (Value.int .i64)->∀j (a:Int),l[j]?=some a->zs[0+j]?=some (.int .i64 a):=fun{zs l} hz j a hj=>by
   rw[Nat.zero_add,<-Array.getElem?_toList,hz,List.getElem?_map,hj];rfl
  obtain⟨u,v,p1,p2,p3⟩:=Qw8 (w:=w) 5 10000 Oa T m hm us vs 0 as1 bs Oa Oa (hcell k1) (hcell k2)
  have hsz:ZK P T=some m:=by
   simp only[Qsn]at hm
   split at hm
   .rename_i h;simp[aggT,h]at g1
   .split at hm
    .rename_i z y hz hy
     split at hm
     .rename_i hc
      simp only[bae]at hc
      cases hm
      rw[hy,nbe hc.1]
     .simp at hm
    .simp at hm
   .split at hm
    .rename_i hy
     split at hm
     .cases hm;exact hy
     .simp at hm
    .simp at hm
   .simp at hm
  have hp:∀{zs:Array Value} {l:List Int},zs.toList=l.map (Value.int .i64)->l.length=m->(part T zs 0).run P w=.ok (.agg zs) w:=fun{zs l} hz hl=>by
   have:zs.size=m:=by rw[<-Array.length_toList,hz,List.length_map,hl]
   simp[part,Vg g1,run_sizeOf hsz,<-this]
  grind
 .simp at g2
theorem QjF{ρ:Name->Loc}{H:Heap}{M:Nat->Prop}{w:World}:∀{as1:List Int} {us:List Value},AV.Rs ρ H M w (as1.map fun a=>.p (.v (.int .i64 a))) us->us=as1.map (Value.int .i64)
 |[],us,h=>by simpa only[List.map_nil,AV.Rs]using h
 |a::r,us,h=>by
  simp only[List.map_cons,AV.Rs,AV.R,PV.R]at h
  obtain⟨u,us',rfl,_,⟨rfl,_⟩,h2⟩:=h
  rw[QjF h2];rfl
theorem OpOK.eqlInts{T T':TypeId}{x y:Operand}{as1 bs:List Int}{q:Bool}(ho:o.op=.binOp .eql T x y T')(hT:Quf P T as1.length=true)(hl:Nat.beq bs.length as1.length=true)(hx:Qm rd x=some (.agg (as1.map fun a=>.p (.v (.int .i64 a)))))(hy:Qm rd y=some (.agg (bs.map fun a=>.p (.v (.int .i64 a)))))(hr:decide (as1=bs)=q):OpOK P o ⟨rd,[],.p (.v (.bool q)),[],[]⟩:=
 OpOK.quiet fun Γ ρ M s a w hs hh=>by
  have h1:=Qk hs hh hx
  have h2:=Qk hs hh hy
  simp only[AV.R]at h1 h2
  obtain⟨us,hu,k1⟩:=h1
  obtain⟨vs,hv,k2⟩:=h2
  obtain⟨e1,g3⟩:=Qmu (P:=P) (w:=w) hT hl (QjF k1) (QjF k2)
  refine⟨.bool q,?_,by simp only[AV.R,PV.R];exact⟨trivial,rfl⟩⟩
  simp[execOp,ho,hu,hv,run_eqGuard_agg w .eql T x y us vs g3,run_eql_struct,e1,hr]
end
section
variable {P:Program} {Γ:Ctx} {Q:Exit->AS->Prop}
end
/-
  The abstract machine, part S: structs of numbers that differ. No project text.
-/
section
variable {P:Program} {o:Oper} {rd:List (Nat×AV)}
theorem OpOK.neqInts{T T':TypeId}{x y:Operand}{as1 bs:List Int}{q:Bool}(ho:o.op=.binOp .neq T x y T')(hT:Quf P T as1.length=true)(hl:Nat.beq bs.length as1.length=true)(hx:Qm rd x=some (.agg (as1.map fun a=>.p (.v (.int .i64 a)))))(hy:Qm rd y=some (.agg (bs.map fun a=>.p (.v (.int .i64 a)))))(hr:decide (as1≠bs)=q):OpOK P o ⟨rd,[],.p (.v (.bool q)),[],[]⟩:=
 OpOK.quiet fun Γ ρ M s a w hs hh=>by
  have h1:=Qk hs hh hx
  have h2:=Qk hs hh hy
  simp only[AV.R]at h1 h2
  obtain⟨us,hu,k1⟩:=h1
  obtain⟨vs,hv,k2⟩:=h2
  obtain⟨e1,g3⟩:=Qmu (P:=P) (w:=w) hT hl (QjF k1) (QjF k2)
  refine⟨.bool q,?_,by simp only[AV.R,PV.R];exact⟨trivial,rfl⟩⟩
  have hq:(!decide (as1=bs))=q:=by rw[<-hr];simp
  simp[execOp,ho,hu,hv,run_eqGuard_agg w .neq T x y us vs g3,run_neq_struct,e1,hq]
theorem OpOK.sliceLo{T e:TypeId}{x lo:Operand}{full:Bool}{es k:Nat}{rows rows':List (List PV)}{i:Int}(ho:o.op=.slice T x (some lo) none none)(hT:P.underlying T=some (.slice e))(hz:ZK P e=some es)(hx:Qm rd x=some (.p (.sl full es rows)))(hlo:Qm rd lo=some (.p (.v (.int .i64 i))))(hi:i=((k:Nat):Int))(hk:k<=rows.length)(hr:rows.drop k=rows'):OpOK P o ⟨rd,[],.p (.sl full es rows'),[],[]⟩:=
 OpOK.quiet fun Γ ρ M s a w hs hh=>by
  subst hr;subst hi
  have h1:=Qk hs hh hx
  have h2:=Qk hs hh hlo
  simp only[AV.R,PV.R]at h1 h2
  obtain⟨ad,cap,hu,hl,hf,hn,hc⟩:=h1
  refine⟨.slice (if cap=k then ad else ad.map (·.add (k*es))) (rows.length - k) (cap - k),?_,?_⟩
  .have hb:(Instr.sliceBounds true rows.length cap (some (.int .i64 ((k:Nat):Int))) none none).run P w=.ok (k,rows.length,cap) w:=by
    unfold Instr.sliceBounds
    simp[run_sliceBound,hk]
   simp[execOp,ho,hu,h2.1,Instr.sliceAt,Instr.slice,run_underlying hT,hb,run_sizeOf hz]
  .simp only[AV.R,PV.R,List.length_drop]
   refine⟨_,_,rfl,Oa,fun h=>by rw[hf h],fun h=>?_,fun ad' had hcap=>?_⟩
   .split at h
    .omega
    .simp_all
   .have hne:¬cap=k:=Oa
    rw[if_neg hne]at had
    cases ad with
    |none=>simp at had
    |some x=>
     obtain⟨g1,g2,g3,g4⟩:=hc x rfl Oa
     obtain⟨b0,o0,s0⟩:=x
     simp only at g1;subst g1
     simp only[Option.map_some,Option.some.injEq]at had
     rw[Zs]at had
     subst had
     exact⟨rfl,g2,g3,g4.drop k⟩
end
/-
  The abstract machine, part T: an array of ours is copied within itself. No project text.
-/
open Go
section
variable {P:Program} {o:Oper} {rd:List (Nat×AV)}
def subV(X:Value)(k es:Nat):Value:=match X with
 |.slice a l c=>.slice (if c=k then a else a.map (·.add (k*es))) (l - k) (c - k)
 |v=>v
end
/-
  The abstract machine, part V: slices of pure data with any bounds; parts of an array of ours (views). No project text.
-/
section
variable {P:Program} {o:Oper} {rd:List (Nat×AV)}
theorem Qim{Γ:Ctx}{ρ:Name->Loc}{M:Nat->Prop}{s:AS}{a:Act}{w:World}{e:Eff}(hs:Sim Γ ρ M s a w)(hh:s.holds e){lo hi:Option Operand}{len cap k m:Nat}(hlo:optB e.rd 0 lo=some ((k:Nat):Int))(hhi:optB e.rd len hi=some ((m:Nat):Int))(h1:k<=m)(h2:m<=len)(h3:len<=cap):
  (Instr.sliceBounds true len cap (lo.map a.eval) (hi.map a.eval) none).run P w=.ok (k,m,cap) w:=by
 have hb1:=Qpt (P:=P) (w:=w) (y:=cap) (c:=.sliceAcap) hs hh hhi (Nat.le_trans h2 h3)
 have hb2:=Qpt (P:=P) (w:=w) (c:=.sliceB) hs hh hlo h1
 unfold Instr.sliceBounds
 cases lo<;>cases hi<;>simp_all
theorem OpOK.sliceP{T e:TypeId}{x:Operand}{lo hi:Option Operand}{full:Bool}{es k m:Nat}{rows:List (List PV)}(ho:o.op=.slice T x lo hi none)(hT:P.underlying T=some (.slice e))(hz:ZK P e=some es)(hx:Qm rd x=some (.p (.sl full es rows)))(hlo:optB rd 0 lo=some ((k:Nat):Int))(hhi:optB rd rows.length hi=some ((m:Nat):Int))(h1:k<=m)(h2:m<=rows.length):OpOK P o ⟨rd,[],.p (.sl false es ((rows.take m).drop k)),[],[]⟩:=
 OpOK.quiet fun Γ ρ M s a w hs hh=>by
  have hr:=Qk hs hh hx
  simp only[AV.R,PV.R]at hr
  obtain⟨ad,cap,hu,hl,hf,hn,hc⟩:=hr
  have hb:=Qim (P:=P) hs hh hlo hhi h1 h2 hl
  refine⟨.slice (if cap=k then ad else ad.map (·.add (k*es))) (m - k) (cap - k),?_,?_⟩
  .simp[execOp,ho,hu,Instr.sliceAt,Instr.slice,run_underlying hT,hb,run_sizeOf hz]
  .simp only[AV.R,PV.R,List.length_drop,List.length_take,Nat.min_eq_left h2]
   refine⟨_,_,rfl,Oa,fun h=>by simp at h,fun h=>?_,fun ad' had hcap=>?_⟩
   .split at h
    .omega
    .cases ad with
     |none=>rw[hn rfl];omega
     |some x=>simp at h
   .have hne:¬cap=k:=Oa
    rw[if_neg hne]at had
    cases ad with
    |none=>simp at had
    |some x=>
     obtain⟨g1,g2,g3,g4⟩:=hc x rfl Oa
     obtain⟨b0,o0,s0⟩:=x
     simp only at g1;subst g1
     simp only[Option.map_some,Option.some.injEq]at had
     rw[Zs]at had
     subst had
     exact⟨rfl,g2,g3,(g4.take m).drop k⟩
theorem OpOK.sliceView{T e:TypeId}{x:Operand}{lo hi:Option Operand}{n:Name}{es len k m:Nat}{rows:List (List PV)}(ho:o.op=.slice T x lo hi none)(hT:P.underlying T=some (.slice e))(hz:ZK P e=some es)(hx:Qm rd x=some (.own n len))(hlo:optB rd 0 lo=some ((k:Nat):Int))(hhi:optB rd len hi=some ((m:Nat):Int))(hlen:Nat.beq len rows.length=true)(h1:k<=m)(h2:m<=rows.length):
  OpOK P o ⟨rd,[(n,.arr es rows)],.view n len k m,[],[]⟩:=
 OpOK.quiet fun Γ ρ M s a w hs hh=>by
  have hr:=Qk hs hh hx
  simp only[AV.R]at hr
  have hn:=hh.hp n _ (by simp:(n,AO.arr es rows)∈_)
  have hle:=nbe hlen
  have hu:=(hr.2 _ es rows.length hn rfl).2 hle
  obtain⟨hes,hcap,_⟩:=hs.objs n _ hn
  have hb:=Qim (P:=P) (cap:=(ρ n).cap) hs hh hlo hhi h1 (by rw[hle];exact h2) (by rw[hle];exact hcap)
  refine⟨QgT (.slice (ρ n).base len (ρ n).cap) k m es,?_,?_⟩
  .simp[execOp,ho,hu,Instr.sliceAt,Instr.slice,run_underlying hT,hb,run_sizeOf hz,QgT]
  .simp only[AV.R]
   refine⟨rfl,h1,by rw[hle];exact h2,fun ob es' kk hob hsh=>?_⟩
   rw[hn]at hob;cases hob
   simp only[AO.shape,Option.some.injEq,Prod.mk.injEq]at hsh
   obtain⟨rfl,rfl⟩:=hsh
   exact⟨Oa,fun _=>rfl⟩
theorem OpOK.sliceCut{T e:TypeId}{x hi mx:Operand}{n:Name}{len es k:Nat}{i:Int}{rows:List (List PV)}(ho:o.op=.slice T x none (some hi) (some mx))(hT:P.underlying T=some (.slice e))(hz:ZK P e=some es)(hx:Qm rd x=some (.own n len))(hhi:Qm rd hi=some (.p (.v (.int .i64 i))))(hmx:Qm rd mx=some (.p (.v (.int .i64 i))))(hi:i=((k:Nat):Int))(hlen:Nat.beq len rows.length=true)(hk:k<=rows.length):
  OpOK P o ⟨rd,[(n,.arr es rows)],.cut n len k,[],[]⟩:=
 OpOK.quiet fun Γ ρ M s a w hs hh=>by
  subst hi
  have hr:=Qk hs hh hx
  have h2:=Qk hs hh hhi
  have h3:=Qk hs hh hmx
  simp only[AV.R,PV.R]at hr h2 h3
  have hn:=hh.hp n _ (by simp:(n,AO.arr es rows)∈_)
  have hle:=nbe hlen
  have hu:=(hr.2 _ es rows.length hn rfl).2 hle
  obtain⟨hes,hcap,_⟩:=hs.objs n _ hn
  refine⟨.slice (ρ n).base k k,?_,?_⟩
  .have hb:(Instr.sliceBounds true len (ρ n).cap none (some (.int .i64 ((k:Nat):Int))) (some (.int .i64 ((k:Nat):Int)))).run P w=.ok (0,k,k) w:=by
    unfold Instr.sliceBounds
    simp[run_sliceBound,show k<=(ρ n).cap by omega]
   have hz0:∀x:Addr,x.add 0=x:=fun x=>by
    obtain⟨b0,o0,s0⟩:=x
    cases s0<;>simp[Addr.add]
   cases hb0:(ρ n).base with
   |none=>simp[execOp,ho,hu,hb0,h2.1,h3.1,Instr.sliceAt,Instr.slice,run_underlying hT,hb,run_sizeOf hz]
   |some x=>simp[execOp,ho,hu,hb0,h2.1,h3.1,Instr.sliceAt,Instr.slice,run_underlying hT,hb,run_sizeOf hz,hz0]
  .simp only[AV.R]
   refine⟨rfl,Oa,fun ob es' kk hob hsh=>?_⟩
   rw[hn]at hob;cases hob
   simp only[AO.shape,Option.some.injEq,Prod.mk.injEq]at hsh
   obtain⟨rfl,rfl⟩:=hsh
   exact⟨Oa,fun _=>Ob⟩
section
variable {T e:TypeId} {x y:Operand} {n m:Name} {len es bytes k lo hi r:Nat} {rows rows2:List (List PV)}
theorem QtR{Γ:Ctx}{ρ:Name->Loc}{M:Nat->Prop}{s:AS}{a:Act}{w:World}{X Y:Value}{i:TypeInfo}(hs:Sim Γ ρ M s a w)(hT:Vy P T=some e)(hsz:i.size=es)(hn:s.heap n=some (.arr es rows))(hle:len=rows.length)(hk:k<=rows.length)(hh:hi<=rows.length)(hl:lo<=hi)(hX:AV.R ρ s.heap M w (.cut n len k) X)(hY:AV.R ρ s.heap M w (.view n len lo hi) Y):1<=es/\k<=(ρ n).cap/\X=.slice (ρ n).base k k/\
   (∃cr',RR ρ s.heap M w ((rows.take hi).drop lo) cr'/\(∀r∈(rows.take hi).drop lo,r.length=es)/\Src P i.size T Y ((rows.take hi).drop lo).length cr'.flatten w)/\
   ∃cr0,RR ρ s.heap M w (rows.take k) cr0/\(∀r∈rows.take k,r.length=es)/\(Builtin.firstCells i.size k (.slice (ρ n).base k k)).run P w.drew=.ok cr0.flatten.toArray w.drew:=by
 simp only[AV.R]at hX hY
 have hux:=(hX.2.2 _ es rows.length hn rfl).2 hle
 have huy:=(hY.2.2.2 _ es rows.length hn rfl).2 hle
 obtain⟨hes,hcap,hobj⟩:=hs.objs n _ hn
 refine⟨hes,Oa,hux,?_⟩
 have hvl:((rows.take hi).drop lo).length=hi - lo:=by simp;omega
 rcases hobj with hobj|⟨b,T',cs,h3,h4,h5,h6,h7⟩
 .have h0:rows=[]:=List.eq_nil_of_length_eq_zero Oa
  subst h0
  simp only[List.length_nil,Nat.le_zero_eq]at hk hh hle
  subst hh;subst hk;subst hle
  have:lo=0:=Oa
  subst this
  refine⟨⟨[],by simp[RR],Ob,?_⟩,[],by simp[RR],Ob,?_⟩
  .rw[huy,hobj]
   simp only[QgT,if_true]
   cases hb:(ρ n).base with
   |none=>simpa using Src.ofNil (w:=w) (Qr hT) 0
   |some ad=>simpa using Src.ofSlice (w:=w) (Qr hT) ad 0 0 [] Ob Ob Ob
  .cases hb:(ρ n).base with
   |none=>simpa using run_firstCells_none (P:=P) w.drew i.size 0 0 0
   |some ad=>simpa using run_firstCells_some (P:=P) w.drew i.size 0 ad 0 0 [] Ob Ob
 .obtain⟨cr',k1,k2,k3⟩:=RR.of_Rows (ρ:=ρ) (H:=s.heap) ((h7.take hi).drop lo)
  obtain⟨cr0,m1,m2,m3⟩:=RR.of_Rows (ρ:=ρ) (H:=s.heap) (h7.take k)
  refine⟨⟨cr',k1,k2,?_⟩,cr0,m1,m2,?_⟩
  .rw[huy,hvl]
   by_cases hz:hi=lo
   .subst hz
    have:cr'=[]:=List.eq_nil_of_length_eq_zero (by have:=k1.length;rw[hvl]at this;omega)
    subst this
    simp only[QgT,Nat.sub_self,h3]
    split
    .exact Src.ofSlice (w:=w) (Qr hT) _ _ _ [] Ob Ob Ob
    .exact Src.ofSlice (w:=w) (Qr hT) _ _ _ [] Ob Ob Ob
   .simp only[QgT,if_neg (show ¬(ρ n).cap=lo by omega),h3,Option.map_some]
    refine Src.ofSlice (w:=w) (Qr hT) _ _ _ _ (by rw[XQ (k1.len k2),k1.length,hvl,hsz]) (fun j u hj=>?_) k1.one
    rw[Zs,Zs]
    exact k3 j u hj
  .rw[h3]
   exact run_firstCells_some (P:=P) w.drew i.size k _ k k cr0.flatten (by rw[hsz,XQ (m1.len m2),m1.length,List.length_take];congr 1;omega) (fun j u hj=>by
    rw[Zs,Nat.zero_add,World.cell?_drew];have:=m3 j u hj;rwa [Nat.zero_add]at this)
theorem OpOK.appendCut0(ho:o.op=.call { callee:=.builtin .append,args:=#[x,y],argTypes:=#[T,T] })(hT:Vy P T=some e)(hok:Qf5 P e es bytes=true)(hx:Qm rd x=some (.cut n len k))(hy:Qm rd y=some (.view n len lo hi))(hlen:Nat.beq len rows.length=true)(hk:k<=rows.length)(hh:hi<=rows.length)(hl:lo<=hi)(h0:(rows.take hi).drop lo=[]):
  OpOK P o ⟨rd,[(n,.arr es rows)],.cut n len k,[],[]⟩:=
 OpOK.quiet fun Γ ρ M s a w hs hhd=>by
  obtain⟨i,z,hi',hz,hsz,hby,hzs⟩:=Qa8 hok
  have hle:=nbe hlen
  have hn:=hhd.hp n _ (by simp:(n,AO.arr es rows)∈_)
  have hX:=Qk hs hhd hx
  obtain⟨_,_,hux,⟨cr',k1,k2,hsrc⟩,_⟩:=QtR hs hT hsz hn hle hk hh hl hX (Qk hs hhd hy)
  rw[h0]at hsrc k1
  simp only[RR]at k1
  subst k1
  have hrun:=run_append_nothing w T T o.type e i (Qr hT) hi' (ρ n).base k k (Nat.le_refl _) (a.eval y) (by simpa using hsrc)
  refine⟨_,?_,hX⟩
  simp[execOp,ho,resolve,invoke,builtin,hux,hrun]
theorem OpOK.appendCut(ho:o.op=.call { callee:=.builtin .append,args:=#[x,y],argTypes:=#[T,T] })(hT:Vy P T=some e)(hok:Qf5 P e es bytes=true)(hx:Qm rd x=some (.cut n len k))(hy:Qm rd y=some (.view n len lo hi))(hlen:Nat.beq len rows.length=true)(hk:k<=rows.length)(hh:hi<=rows.length)(hl:lo<=hi)(h0:(rows.take hi).drop lo≠[])(h2:rows.take k++(rows.take hi).drop lo=rows2)(hr:rows2.length=r)(hfit:rows2.length*bytes<=140737488355328)(hfit2:rows2.length<=140737488355328):
  OpOK P o ⟨rd,[(n,.arr es rows)],.own m r,[(m,.arr es rows2)],[m]⟩:=
 OpOK.put fun Γ ρ M s a w hs hhd=>by
  subst h2;subst hr
  obtain⟨i,z,hi',hz,hsz,hby,hzs⟩:=Qa8 hok
  have hle:=nbe hlen
  have hn:=hhd.hp n _ (by simp:(n,AO.arr es rows)∈_)
  obtain⟨hm,hfree⟩:=hhd.nw m Ob
  obtain⟨hes',hkc,hux,⟨cr',k1,k2,hsrc⟩,cr0,m1,m2,hold⟩:=QtR hs hT hsz hn hle hk hh hl (Qk hs hhd hx) (Qk hs hhd hy)
  obtain⟨R',hR'⟩:∃R',R'=(rows.take hi).drop lo:=⟨_,rfl⟩
  rw[<-hR']at k1 k2 hsrc h0 hfit hfit2 |-
  have hpos:0<R'.length:=List.length_pos_iff.2 h0
  have hlk:(rows.take k).length=k:=by rw[List.length_take];omega
  simp only[List.length_append,hlk]at hfit hfit2
  have hg:k<k+R'.length:=Oa
  have hrun:=run_append_grow_src (P:=P) w T T o.type e i z (Qr hT) hi' hz (ρ n).base k k cr0.flatten hold (a.eval y) R'.length cr'.flatten hsrc hg Oa (growslice_fits hg (by rw[hby];exact hfit))
  have hge:=grownCap_ge w (k+R'.length) k e
  have happ:(cr0.flatten++cr'.flatten)=(cr0++cr').flatten:=Ob
  rw[happ]at hrun
  obtain⟨M',hsim⟩:=hs.grown (n:=m) (es:=es) (cap:=grownCap w (k+R'.length) k e) (rows:=rows.take k++R') (cr:=cr0++cr') (rest:=Builtin.zeroCells z.cells (grownCap w (k+R'.length) k e - (k+R'.length))) (e:=e)
   hes' (m1.append k1) (fun r hr=>by rcases List.mem_append.1 hr with hr|hr;exact m2 r hr;exact k2 r hr) (by simp only[List.length_append,hlk];exact hge) (by rw[Ub,hzs];simp only[List.length_append,hlk]) (by simp;omega)
   (fun o' ho'=>by rw[hm]at ho';simp at ho') (fun _=>hfree)
  have hexec:∀(u:Value) (w':World),(Builtin.append_ #[T,T] o.type #[.slice (ρ n).base k k,a.eval y]).run P w=.ok u w'->(execOp a.eval o).run P w=.ok (.value u) w':=by
   intro u w' hrun
   simp[execOp,ho,resolve,invoke,builtin,hux,hrun]
  refine⟨_,_,_,M',hexec _ _ hrun,hsim,?_⟩
  .simp only[AV.R]
   refine⟨rfl,fun o' es' k' hc hs'=>?_⟩
   simp only[if_true]at hc
   cases hc
   cases hs'
   exact⟨Nat.le_refl _,fun _=>by simp[hlk]⟩
end
theorem Sim.adopt{Γ:Ctx}{ρ:Name->Loc}{M:Nat->Prop}{s:AS}{a:Act}{w:World}(h:Sim Γ ρ M s a w){n m:Name}{es k t:Nat}{rows:List (List PV)}(hg:n∉Γ.names)(hn:s.heap n=some (.arr es rows))(hm:s.heap m=none)(hf:s.free m)(hk:k<=rows.length)(ht:s.slot t=some (.cut n rows.length k)):
  ∃ρ',Sim Γ ρ' M ⟨fun j=>if j=t then some (.own m k)else s.slot j,fun j=>if j=m then some (.arr es (rows.take k))else if j=n then none else s.heap j⟩ a w:=by
 have hmn:m≠n:=fun e=>by rw[e,hn]at hm;simp at hm
 obtain⟨hes,hcap,hobj⟩:=h.objs n _ hn
 obtain⟨u,hu,hr⟩:=h.slots t _ ht
 simp only[AV.R]at hr
 have hux:=(hr.2.2 _ es rows.length hn rfl).2 rfl
 have hst:QfR ρ s.heap (fun j=>if j=m then⟨(ρ n).base,k⟩else ρ j) (fun j=>if j=m then some (.arr es (rows.take k))else if j=n then none else s.heap j):=fun j ob hj=>by
  have e1:j≠m:=fun e=>by rw[e,hm]at hj;simp at hj
  simp only[e1,if_false]
  by_cases e:j=n
  .simp only[e,if_true];cases ob<;>simp[stays]
  .simp only[e,if_false,hj];exact Z4 _ _
 have h2:=h.update (ρ':=fun j=>if j=m then⟨(ρ n).base,k⟩else ρ j) (M':=M) (H':=fun j=>if j=m then some (.arr es (rows.take k))else if j=n then none else s.heap j) (w':=w) (Ext.refl _ _) (fun _ hb=>hb) (fun _ hb=>.inl hb) h.msize hst
  (fun j hj hc=>by
   obtain⟨o,ho,_⟩:=h.keep j hj
   have e1:j≠m:=fun e=>by rw[e,hm]at ho;simp at ho
   have e2:j≠n:=fun e=>hg (e ▸ hj)
   simp only[e1,e2,if_false,ho]at hc;simp at hc)
  (fun j hj hc=>by
   by_cases e:j=m
   .rw[e];exact hf
   .by_cases e2:j=n
    .rw[e2,hn]at hj;simp at hj
    .simp only[e,e2,if_false,hj]at hc;exact absurd rfl hc)
  (fun j ob hj=>by
   by_cases e:j=m
   .subst e
    simp only[if_true,Option.some.injEq]at hj
    subst hj
    refine .inr ⟨⟨hes,by simp;omega,?_⟩,fun b hb=>?_⟩
    .simp only[if_true]
     rcases Nat.eq_zero_or_pos k with hk0|hk0
     .exact .inl hk0
     .rcases hobj with hobj|⟨b,T',cs,h3,h4,h5,h6,h7⟩
      .omega
      .exact .inr ⟨b,T',cs,h3,h4,h5,Nat.le_trans (Nat.mul_le_mul_right es Oa) h6,h7.take k⟩
    .refine .inr ((h.own0 n _ b hn ?_).resolve_left fun x=>hg x.1)
     simp only[if_true,Loc.blk]at hb |-
     split at hb
     .simp at hb
     .rw[if_neg Oa];exact hb
   .by_cases e2:j=n
    .simp only[e2,Ne.symm hmn,if_false,if_true]at hj;simp at hj
    .simp only[e,e2,if_false]at hj
     exact .inl ⟨hj,by simp only[e,if_false],fun _ _=>rfl⟩)
  (fun i j o1 o2 b h1 h2 h3 h4=>by
   have hb:∀{b},(⟨(ρ n).base,k⟩:Loc).blk=some b->(ρ n).blk=some b:=fun{b} hb=>by
    simp only[Loc.blk]at hb |-
    split at hb
    .simp at hb
    .rw[if_neg Oa];exact hb
   by_cases e:i=m<;>by_cases e2:j=m
   .rw[e,e2]
   .subst e
    simp only[if_true,e2,if_false]at h2 h3 h4
    by_cases e3:j=n
    .simp[e3]at h2
    .simp only[e3,if_false]at h2
     exact absurd (h.inj n j _ _ b hn h2 (hb h3) h4).symm e3
   .subst e2
    simp only[if_true,e,if_false]at h1 h3 h4
    by_cases e3:i=n
    .simp[e3]at h1
    .simp only[e3,if_false]at h1
     exact absurd (h.inj n i _ _ b hn h1 (hb h4) h3).symm e3
   .simp only[e,e2,if_false]at h1 h2 h3 h4
    by_cases e3:i=n
    .simp[e3]at h1
    .by_cases e4:j=n
     .simp[e4]at h2
     .simp only[e3,e4,if_false]at h1 h2
      exact h.inj i j _ _ b h1 h2 h3 h4)
 refine⟨_,h2.n,h2.d,fun j x hj=>?_,h2.objs,h2.inj,h2.own0,h2.keep,h2.ext,h2.mext,h2.msize,h2.m0,h2.ground⟩
 by_cases e:j=t
 .subst e
  simp only[if_true,Option.some.injEq]at hj
  subst hj
  refine⟨u,hu,?_⟩
  simp only[AV.R]
  refine⟨hr.1,fun o' es' k' hc hs'=>?_⟩
  simp only[if_true,Option.some.injEq]at hc
  subst hc
  simp only[AO.shape,Option.some.injEq,Prod.mk.injEq,List.length_take]at hs'
  exact⟨Oa,fun _=>by simp only[if_true];exact hux⟩
 .simp only[e,if_false]at hj
  exact h2.slots j x hj
theorem Qta{ρ:Name->Loc}{H:Heap}{M:Nat->Prop}{w:World}:∀{ps:List PV} {us:List Value},AV.Rs ρ H M w (pcells ps) us->∀(q:Nat) (p:PV),ps[q]?=some p->∃u:Value,us[q]?=some u/\p.R M w u
 |[],us,_,q,p,h=>by simp at h
 |x::ps,us,h,q,p,hq=>by
  simp only[pcells,List.map_cons,AV.Rs]at h
  obtain⟨u,us',rfl,_,h3,h4⟩:=h
  cases q with
  |zero=>simp only[List.getElem?_cons_zero,Option.some.injEq]at hq;subst hq;exact⟨u,rfl,by simpa only[AV.R]using h3⟩
  |succ q=>simpa using Qta (ps:=ps) h4 q p (by simpa using hq)
theorem OpOK.lenView{T e:TypeId}{x:Operand}{ats:Array TypeId}{n:Name}{len lo hi es:Nat}{rows:List (List PV)}(ho:o.op=.call { callee:=.builtin .len,args:=#[x],argTypes:=ats })(hat:ats[0]?=some T)(hT:Vy P T=some e)(hx:Qm rd x=some (.view n len lo hi))(hlen:Nat.beq len rows.length=true):OpOK P o ⟨rd,[(n,.arr es rows)],.p (.v (.int .i64 ((hi - lo:Nat):Int))),[],[]⟩:=
 OpOK.quiet fun Γ ρ M s a w hs hh=>by
  have hr':=Qk hs hh hx
  simp only[AV.R]at hr'
  have hle:=nbe hlen
  have hu:=(hr'.2.2.2 (.arr es rows) es rows.length (hh.hp n _ Ob) rfl).2 hle
  simp only[QgT]at hu
  refine⟨.int .i64 ((hi - lo:Nat):Int),?_,by simp only[AV.R,PV.R];exact⟨trivial,rfl⟩⟩
  simp[execOp,ho,resolve,invoke,builtin,Builtin.len_,hat,hu,run_underlying (Qr hT),goInt]
theorem OpOK.indexView{T e:TypeId}{x y:Operand}{n:Name}{len lo hi es i:Nat}{rows:List (List PV)}{k:IntKind}{j:Int}(ho:o.op=.indexAddr T x y)(hT:Vy P T=some e)(hz:ZK P e=some es)(hx:Qm rd x=some (.view n len lo hi))(hlen:Nat.beq len rows.length=true)(hy:Qm rd y=some (.p (.v (.int k j))))(hj:j=(i:Int))(hi:i<hi - lo):OpOK P o ⟨rd,[(n,.arr es rows)],.aref n len (lo+i) 0,[],[]⟩:=
 OpOK.quiet fun Γ ρ M s a w hs hh=>by
  have hr:=Qk hs hh hx
  simp only[AV.R]at hr
  have hn:=hh.hp n _ (by simp:(n,AO.arr es rows)∈_)
  have hle:=nbe hlen
  have hu:=(hr.2.2.2 _ es rows.length hn rfl).2 hle
  have hhi:=hr.2.2.1
  obtain⟨h0,h1,h2⟩:=hs.objs n _ hn
  rcases h2 with h2|⟨b,T',cs,h3,h4,h5,h6,h7⟩
  .omega
  .have hc:¬(ρ n).cap=lo:=Oa
   simp only[QgT,hc,if_false,h3,Option.map_some,Zs]at hu
   refine⟨.pointer (some ⟨b,(lo+i)*es,none⟩),?_,?_⟩
   .simp[execOp,ho,hu,Qeq hs hh hy,Instr.indexAt,asIntOf,run_underlying (Qr hT),hj,hi,run_sizeOf hz,Zs,Nat.add_mul]
   .simp only[AV.R]
    refine⟨rfl,fun o' es' k' hc hs'=>?_⟩
    rw[hn]at hc;cases hc
    cases hs'
    exact⟨Oa,fun _=>⟨b,h3,Ob⟩⟩
theorem OpOK.sliceView2{T e:TypeId}{x:Operand}{lo hi:Option Operand}{n:Name}{es len a b k m:Nat}{rows:List (List PV)}(ho:o.op=.slice T x lo hi none)(hT:P.underlying T=some (.slice e))(hz:ZK P e=some es)(hx:Qm rd x=some (.view n len a b))(hlo:optB rd 0 lo=some ((k:Nat):Int))(hhi:optB rd (b - a) hi=some ((m:Nat):Int))(hlen:Nat.beq len rows.length=true)(h1:k<=m)(h2:m<=b - a)(h3:a=0\/k=0\/k<m):
  OpOK P o ⟨rd,[(n,.arr es rows)],.view n len (a+k) (a+m),[],[]⟩:=
 OpOK.quiet fun Γ ρ M s w0 w hs hh=>by
  have hr:=Qk hs hh hx
  simp only[AV.R]at hr
  have hn:=hh.hp n _ (by simp:(n,AO.arr es rows)∈_)
  have hle:=nbe hlen
  have hu:=(hr.2.2.2 _ es rows.length hn rfl).2 hle
  have hab:=hr.2.1
  have hbl:=hr.2.2.1
  obtain⟨hes,hcap,hobj⟩:=hs.objs n _ hn
  have hb:=Qim (P:=P) (cap:=(ρ n).cap - a) hs hh hlo hhi h1 h2 Oa
  simp only[QgT]at hu
  obtain⟨ad,had⟩:∃ad,ad=(if (ρ n).cap=a then(ρ n).base else(ρ n).base.map (·.add (a*es))):=⟨_,rfl⟩
  rw[<-had]at hu
  refine⟨.slice (if (ρ n).cap - a=k then ad else ad.map (·.add (k*es))) (m - k) ((ρ n).cap - a - k),?_,?_⟩
  .simp[execOp,ho,hu,Instr.sliceAt,Instr.slice,run_underlying hT,hb,run_sizeOf hz]
  .simp only[AV.R]
   refine⟨rfl,Oa,Oa,fun ob es' kk hob hsh=>?_⟩
   rw[hn]at hob;cases hob
   simp only[AO.shape,Option.some.injEq,Prod.mk.injEq]at hsh
   obtain⟨rfl,rfl⟩:=hsh
   refine⟨Oa,fun _=>?_⟩
   simp only[QgT]
   rw[show a+m - (a+k)=m - k by omega,show(ρ n).cap - a - k=(ρ n).cap - (a+k)by omega]
   congr 1
   by_cases hca:(ρ n).cap=a
   .have hk0:k=0:=Oa
    subst hk0
    rw[if_pos Oa,if_pos Oa,had,if_pos hca]
   .rcases hobj with hobj|⟨b',t,cs,g3,_⟩
    .exact absurd (show(ρ n).cap=a by omega) hca
    .rw[had,if_neg hca]
     by_cases hck:(ρ n).cap=a+k
     .have h4:a=0:=Oa
      subst h4
      rw[if_pos Oa,if_pos hck,g3]
      simp[Zs]
     .rw[if_neg Oa,if_neg hck,g3]
      simp[Zs,Nat.add_mul]
theorem OpOK.clearView{T e:TypeId}{x:Operand}{ats:Array TypeId}{n:Name}{es len i m:Nat}{zr:List PV}{rows rows':List (List PV)}(ho:o.op=.call { callee:=.builtin .clear,args:=#[x],argTypes:=ats })(hat:ats[0]?=some T)(hT:P.underlying T=some (.slice e))(hz:ZK P e=some es)(hzr:UH P e=some zr)(hzl:zr.length=es)(hx:Qm rd x=some (.view n len i m))(hlen:Nat.beq len rows.length=true)(hi:i<=m)(hm:m<=rows.length)(hr:rows.take i++List.replicate (m - i) zr++rows.drop m=rows'):OpOK P o ⟨rd,[(n,.arr es rows)],.tup [],[(n,.arr es rows')],[]⟩:=
 OpOK.upd fun Γ ρ M s a w hs hh=>by
  subst hr
  have hn:=hh.hp n _ (by simp:(n,AO.arr es rows)∈_)
  have hle:=nbe hlen
  have h1:=Qk hs hh hx
  simp only[AV.R]at h1
  have hX:=(h1.2.2.2 _ es rows.length hn rfl).2 hle
  simp only[QgT]at hX
  obtain⟨hes,hcap,hobj⟩:=hs.objs n _ hn
  have hres:∀ρ' H' M' w',AV.R ρ' H' M' w' (.tup []) (.tuple #[]):=fun _ _ _ _=>by simp only[AV.R,AV.Ts];exact⟨#[],rfl,rfl⟩
  unfold UH at hzr
  split at hzr
  case h_2=>simp at hzr
  rename_i zs hcs
  obtain⟨inf,z,hinf,hz',hall,rfl⟩:=Vr hcs
  by_cases hz0:m - i=0
  .have hrows:rows.take i++List.replicate (m - i) zr++rows.drop m=rows:=by rw[hz0,List.replicate_zero,List.append_nil,show m=i by omega];exact List.take_append_drop i rows
   rw[hrows]
   refine⟨_,w,ρ,M,?_,hs.congr (fun t=>rfl) (fun m=>?_),hres _ _ _ _⟩
   .have hl0:m - i=0:=hz0
    have hA:∀(d:Option Addr) (c:Nat),(Builtin.clear_ ats o.type #[.slice d 0 c]).run P w=.ok (.tuple #[]) w:=fun d c=>by
     cases d<;>simp[Builtin.clear_,hat,run_underlying hT]
    rw[hl0]at hX
    simp[execOp,ho,resolve,invoke,builtin,hX,hA]
   .by_cases e:m=n
    .subst e;simp[hn]
    .simp[e]
  .rcases hobj with hobj|⟨b,t,cs,h3,h4,h5,h6,h7⟩
   .omega
   .have hci:¬(ρ n).cap=i:=Oa
    have hdst:a.eval x=.slice (some ⟨b,i*es,none⟩) (m - i) ((ρ n).cap - i):=by rw[hX];simp[hci,h3,Zs]
    have hzR:AV.Rs ρ s.heap M w (pcells zr) z.cells.toList:=by rw[<-Uw hzr];exact Y6 hall
    have hzlen:z.cells.toList.length=es:=by have:=hzR.length;rw[this];simp[pcells,hzl]
    have hN2:i*es+(m - i)*es<=cs.size:=by rw[<-Nat.add_mul];exact Nat.le_trans (Nat.mul_le_mul_right es Oa) h6
    obtain⟨vs,hvs⟩:∃vs,vs=(Builtin.zeroCells z.cells (m - i)).toList:=⟨_,rfl⟩
    have hzsz:z.cells.size=es:=by simpa using hzlen
    have hvl:vs.length=(m - i)*es:=by rw[hvs];simp[Builtin.zeroCells,hzsz]
    have hget:∀q,q<(m - i)*es->vs[q]?=z.cells.toList[q % es]?:=fun q hq=>by
     have hmod:q % es<es:=Nat.mod_lt _ hes
     rw[hvs]
     simp only[Builtin.zeroCells,hzsz,Array.getElem?_toList]
     rw[Array.getElem?_map,Array.getElem?_range]
     simp[hq,hzsz,hmod,getElem!_def]
    have hold:∀q,w.cell? ⟨b,q,none⟩=cs.toList[q]?:=fun q=>by simp[World.cell?,h5]
    have hone:∀v∈vs,v.oneCell'=true:=by
     intro v hv
     obtain⟨q,hq,e⟩:=List.getElem_of_mem hv
     grind
    have hstore:=run_storeCells_at (P:=P) b (i*es) t vs 0 cs w h5 (by rw[hvl];omega) hone
    have hw:(QM cs.toList (i*es) vs).toArray=(cs.toList.take (i*es+0)++vs++cs.toList.drop (i*es+0+vs.length)).toArray:=by unfold QM;rfl
    refine⟨_,w.setRow b (QM cs.toList (i*es) vs).toArray,(fun m=>if m=n then ρ n else ρ m),M,?_,?_,hres _ _ _ _⟩
    .have hne:m - i≠0:=hz0
     have hrun:(Builtin.clear_ ats o.type #[a.eval x]).run P w=.ok (.tuple #[]) (w.setRow b (QM cs.toList (i*es) vs).toArray):=by
      rw[hdst]
      obtain⟨nn,hnn⟩:∃nn,m - i=nn+1:=⟨m - i - 1,Oa⟩
      rw[hnn]at hvs |-
      simp[Builtin.clear_,hat,run_underlying hT,YE hinf hz',<-hvs]
      rw[hstore,hw];rfl
     simp[execOp,ho,resolve,invoke,builtin,hrun]
    .have hblk:(ρ n).blk=some b:=by
      have:(ρ n).cap≠0:=Oa
      simp[Loc.blk,this,h3]
     have he:Ext (fun b'=>b'=b) w (w.setRow b (QM cs.toList (i*es) vs).toArray):=⟨by simp[World.setRow],fun b' hb hne=>setRow_other w b b' _ hne,rfl,rfl⟩
     have hM:M b:=h4
     have hlen':(rows.take i++List.replicate (m - i) zr++rows.drop m).length=rows.length:=by simp;omega
     refine hs.update1 (he.weaken fun b' _ hb=>⟨by rw[hblk,hb],by rw[hn];simp⟩) (fun _ hb=>hb) (fun _ hb=>.inl hb) (fun b' hb=>Nat.lt_of_lt_of_le (hs.msize b' hb) he.size)
      (fun o' ho'=>by rw[hn]at ho';cases ho';simp only[stays];exact⟨trivial,by rw[hlen'];exact Nat.le_refl _,fun _=>trivial⟩) (fun h0=>by rw[hn]at h0;simp at h0) ?_ (fun b' hb=>.inl ⟨_,hn,hb⟩)
     refine⟨hes,by rw[hlen'];simpa using hcap,.inr ⟨b,t,_,by simp[h3],hM,setRow_heap w b cs _ t (0,0) h5,?_,?_⟩⟩
     .grind
     .have hmono:∀{x:PV} {u:Value},x.R M w u->x.R M (w.setRow b (QM cs.toList (i*es) vs).toArray) u:=fun h=>h.mono he (fun b' hb=>by rw[hb];exact hM) (fun b' _ hb=>hb)
      have hcell:∀q,(w.setRow b (QM cs.toList (i*es) vs).toArray).cell? ⟨b,q,none⟩=(QM cs.toList (i*es) vs)[q]?:=fun q=>by
       rw[cell_setRow_same w b q cs _ t (0,0) h5,List.getElem?_toArray]
      have hset:∀q,(QM cs.toList (i*es) vs)[q]?=if i*es<=q/\q<i*es+(m - i)*es then vs[q - i*es]? else cs.toList[q]?:=fun q=>by
       have htl:(List.take (i*es) cs.toList).length=i*es:=by simp;omega
       unfold QM
       by_cases c1:q<i*es
       .grind
       .by_cases c2:q<i*es+(m - i)*es
        .grind
        .rw[if_neg Oa,List.getElem?_append_right (by simp only[List.length_append,htl,hvl];omega),List.getElem?_drop]
         simp_all
      refine PV.Rows.of_get fun i' r' hi'=>?_
      have htk:(rows.take i).length=i:=by simp;omega
      rw[List.append_assoc,List.getElem?_append]at hi'
      by_cases c:i'<i
      .rw[if_pos Oa,List.getElem?_take,if_pos c]at hi'
       obtain⟨g1,g2⟩:=h7.get i' r' hi'
       refine⟨g1,PV.Cells.of_get fun q p hq=>?_⟩
       obtain⟨u,k1,k2⟩:=g2.get q p hq
       have hq':q<es:=by rw[<-g1];exact(List.getElem?_eq_some_iff.1 hq).1
       have hlt:i'*es+q<i*es:=by
        have:(i'+1)*es<=i*es:=Nat.mul_le_mul_right es c
        grind
       grind
      .rw[if_neg Oa,htk,List.getElem?_append,List.length_replicate,List.getElem?_replicate]at hi'
       by_cases hlt:i' - i<m - i
       .rw[if_pos hlt,if_pos hlt]at hi'
        cases hi'
        refine⟨hzl,PV.Cells.of_get fun q p hq=>?_⟩
        have hq':q<es:=by rw[<-hzl];exact(List.getElem?_eq_some_iff.1 hq).1
        obtain⟨u,k1,k2⟩:=Qta hzR q p hq
        have e1:i'*es=i*es+(i' - i)*es:=by rw[<-Nat.add_mul];congr 1;omega
        have hlt2:(i' - i)*es+q<(m - i)*es:=by
         have:(i' - i+1)*es<=(m - i)*es:=Nat.mul_le_mul_right es hlt
         grind
        refine⟨u,?_,hmono k2⟩
        rw[hcell,hset,if_pos Oa,show 0+i'*es+q - i*es=(i' - i)*es+q by omega,hget _ hlt2,<-k1]
        rw[Nat.add_comm,Nat.add_mul_mod_self_right,Nat.mod_eq_of_lt hq']
       .rw[if_neg hlt,List.getElem?_drop,show m+(i' - i - (m - i))=i' by omega]at hi'
        obtain⟨g1,g2⟩:=h7.get i' r' hi'
        refine⟨g1,PV.Cells.of_get fun q p hq=>?_⟩
        obtain⟨u,k1,k2⟩:=g2.get q p hq
        have hge:i*es+(m - i)*es<=i'*es:=by
         rw[<-Nat.add_mul];exact Nat.mul_le_mul_right es Oa
        refine⟨u,?_,hmono k2⟩
        rw[hcell,hset,if_neg Oa,<-hold];exact k1
theorem OpOK.copyView{T e:TypeId}{x y:Operand}{ats:Array TypeId}{n:Name}{es len i j:Nat}{rows rows':List (List PV)}{r:Int}(ho:o.op=.call { callee:=.builtin .copy,args:=#[x,y],argTypes:=ats })(hat:ats=#[T,T])(hT:P.underlying T=some (.slice e))(hz:ZK P e=some es)(hx:Qm rd x=some (.view n len i len))(hy:Qm rd y=some (.view n len j len))(hlen:Nat.beq len rows.length=true)(hi:i<=rows.length)(hj:j<=i)(hr:rows.take i++(rows.drop j).take (rows.length - i)=rows')(hv:((rows.length - i:Nat):Int)=r):
  OpOK P o ⟨rd,[(n,.arr es rows)],.p (.v (.int .i64 r)),[(n,.arr es rows')],[]⟩:=
 OpOK.upd fun Γ ρ M s a w hs hh=>by
  subst hr;subst hv;subst hat
  have hn:=hh.hp n _ (by simp:(n,AO.arr es rows)∈_)
  have hle:=nbe hlen
  have h1:=Qk hs hh hx
  have h2:=Qk hs hh hy
  simp only[AV.R]at h1 h2
  have hX:=(h1.2.2.2 _ es rows.length hn rfl).2 hle
  have hY:=(h2.2.2.2 _ es rows.length hn rfl).2 hle
  simp only[QgT]at hX hY
  obtain⟨hes,hcap,hobj⟩:=hs.objs n _ hn
  have hsz:=run_sizeOf (P:=P) (w:=w) hz
  have hres:∀ρ' H' M' w',AV.R ρ' H' M' w' (.p (.v (.int .i64 ((rows.length - i:Nat):Int)))) (.int .i64 ((rows.length - i:Nat):Int)):=fun _ _ _ _=>by simp only[AV.R,PV.R];exact⟨trivial,rfl⟩
  have hmin:Nat.min (len - j) (len - i)=rows.length - i:=by rw[hle];exact Nat.min_eq_right Oa
  by_cases hz0:rows.length - i=0
  .have hrows:rows.take i++(rows.drop j).take (rows.length - i)=rows:=by rw[hz0,List.take_zero,List.append_nil];exact List.take_of_length_le Oa
   rw[hrows]
   refine⟨_,w,ρ,M,?_,hs.congr (fun t=>rfl) (fun m=>?_),hres _ _ _ _⟩
   .have hl:∀(q:Addr),(loadCells q 0).run P w=.ok #[] w:=fun q=>by simpa using run_loadCells_list (P:=P) w q [] Ob
    have hA:∀(d q:Option Addr) (dc qc:Nat),(Builtin.copy_ #[T,T] o.type #[.slice d (len - i) dc,.slice q (len - j) qc]).run P w=.ok (goInt ((rows.length - i:Nat):Int)) w:=fun d q dc qc=>by
     cases d<;>cases q<;>simp[Builtin.copy_,run_underlying hT,Builtin.lenOf,Builtin.firstCells,hsz,hmin,hz0,storeCells,hl,Result.andThen]
    simp[execOp,ho,resolve,invoke,builtin,hX,hY,hA,goInt]
   .by_cases e:m=n
    .subst e;simp[hn]
    .simp[e]
  .rcases hobj with hobj|⟨b,t,cs,h3,h4,h5,h6,h7⟩
   .omega
   .have hci:¬(ρ n).cap=i:=Oa
    have hcj:¬(ρ n).cap=j:=Oa
    have hdst:a.eval x=.slice (some ⟨b,i*es,none⟩) (len - i) ((ρ n).cap - i):=by rw[hX];simp[hci,h3,Zs]
    have hsrc:a.eval y=.slice (some ⟨b,j*es,none⟩) (len - j) ((ρ n).cap - j):=by rw[hY];simp[hcj,h3,Zs]
    have hN:(rows.length - i)*es+j*es<=cs.size:=by rw[<-Nat.add_mul];exact Nat.le_trans (Nat.mul_le_mul_right es Oa) h6
    have hN2:i*es+(rows.length - i)*es<=cs.size:=by rw[<-Nat.add_mul];exact Nat.le_trans (Nat.mul_le_mul_right es Oa) h6
    obtain⟨vs,hvs⟩:∃vs,vs=(cs.toList.drop (j*es)).take ((rows.length - i)*es):=⟨_,rfl⟩
    have hvl:vs.length=(rows.length - i)*es:=by rw[hvs];simp;omega
    have hget:∀q,q<(rows.length - i)*es->vs[q]?=cs.toList[j*es+q]?:=fun q hq=>by rw[hvs,List.getElem?_take,if_pos hq,List.getElem?_drop]
    have hold:∀q,w.cell? ⟨b,q,none⟩=cs.toList[q]?:=fun q=>by simp[World.cell?,h5]
    have hone:∀v∈vs,v.oneCell'=true:=by
     intro v hv
     obtain⟨q,hq,e⟩:=List.getElem_of_mem hv
     rw[hvl]at hq
     have hdiv:q / es<rows.length - i:=Nat.div_lt_of_lt_mul (by rw[Nat.mul_comm];exact hq)
     have hmod:q % es<es:=Nat.mod_lt _ hes
     have hrow:rows[j+q / es]?=some rows[j+q / es]:=List.getElem?_eq_getElem Oa
     obtain⟨g1,g2⟩:=h7.get _ _ hrow
     have hc:rows[j+q / es][q % es]?=some rows[j+q / es][q % es]:=List.getElem?_eq_getElem Oa
     obtain⟨u,k1,k2⟩:=g2.get _ _ hc
     have hpos:0+(j+q / es)*es+q % es=j*es+q:=by
      have:=Nat.div_add_mod q es
      rw[Nat.add_mul,Nat.mul_comm (q / es)];omega
     rw[hpos,hold]at k1
     have:=hget q hq
     rw[k1,List.getElem?_eq_getElem Oa,e]at this
     have hvu:v=u:=by simpa using this
     rw[hvu];exact k2.flat
    have hload:=run_loadCells_list (P:=P) w ⟨b,j*es,none⟩ vs (fun q v hq=>by
     rw[Zs,hold]
     have hq':q<(rows.length - i)*es:=by rw[<-hvl];exact(List.getElem?_eq_some_iff.1 hq).1
     rw[<-hget q hq'];exact hq)
    have hstore:=run_storeCells_at (P:=P) b (i*es) t vs 0 cs w h5 (by rw[hvl];omega) hone
    rw[hvl]at hload
    have hw:(QM cs.toList (i*es) vs).toArray=(cs.toList.take (i*es+0)++vs++cs.toList.drop (i*es+0+vs.length)).toArray:=by unfold QM;rfl
    refine⟨_,w.setRow b (QM cs.toList (i*es) vs).toArray,(fun m=>if m=n then ρ n else ρ m),M,?_,?_,hres _ _ _ _⟩
    .have hrun:(Builtin.copy_ #[T,T] o.type #[a.eval x,a.eval y]).run P w=.ok (goInt ((rows.length - i:Nat):Int)) (w.setRow b (QM cs.toList (i*es) vs).toArray):=by
      rw[hdst,hsrc]
      simp[Builtin.copy_,run_underlying hT,Builtin.lenOf,Builtin.firstCells,hsz,hmin,hload,Result.andThen]
      rw[hstore,hw]
     simp[execOp,ho,resolve,invoke,builtin,hrun,goInt]
    .have hblk:(ρ n).blk=some b:=by
      have:(ρ n).cap≠0:=Oa
      simp[Loc.blk,this,h3]
     have he:Ext (fun b'=>b'=b) w (w.setRow b (QM cs.toList (i*es) vs).toArray):=⟨by simp[World.setRow],fun b' hb hne=>setRow_other w b b' _ hne,rfl,rfl⟩
     have hM:M b:=h4
     have hlen':(rows.take i++(rows.drop j).take (rows.length - i)).length=rows.length:=by simp;omega
     refine hs.update1 (he.weaken fun b' _ hb=>⟨by rw[hblk,hb],by rw[hn];simp⟩) (fun _ hb=>hb) (fun _ hb=>.inl hb) (fun b' hb=>Nat.lt_of_lt_of_le (hs.msize b' hb) he.size)
      (fun o' ho'=>by rw[hn]at ho';cases ho';simp only[stays];exact⟨trivial,by rw[hlen'];exact Nat.le_refl _,fun _=>trivial⟩) (fun h0=>by rw[hn]at h0;simp at h0) ?_ (fun b' hb=>.inl ⟨_,hn,hb⟩)
     refine⟨hes,by rw[hlen'];simpa using hcap,.inr ⟨b,t,_,by simp[h3],hM,setRow_heap w b cs _ t (0,0) h5,?_,?_⟩⟩
     .simp only[if_true,List.size_toArray,QM,List.length_append,List.length_take,List.length_drop,Array.length_toList,hvl]
      omega
     .have hmono:∀{x:PV} {u:Value},x.R M w u->x.R M (w.setRow b (QM cs.toList (i*es) vs).toArray) u:=fun h=>h.mono he (fun b' hb=>by rw[hb];exact hM) (fun b' _ hb=>hb)
      have hcell:∀q,(w.setRow b (QM cs.toList (i*es) vs).toArray).cell? ⟨b,q,none⟩=(QM cs.toList (i*es) vs)[q]?:=fun q=>by
       rw[cell_setRow_same w b q cs _ t (0,0) h5,List.getElem?_toArray]
      have hset:∀q,(QM cs.toList (i*es) vs)[q]?=if i*es<=q/\q<i*es+(rows.length - i)*es then vs[q - i*es]? else cs.toList[q]?:=fun q=>by
       have htl:(List.take (i*es) cs.toList).length=i*es:=by simp;omega
       unfold QM
       by_cases c1:q<i*es
       .rw[if_neg Oa,List.append_assoc,List.getElem?_append_left Oa,List.getElem?_take_of_lt c1]
       .by_cases c2:q<i*es+(rows.length - i)*es
        .rw[if_pos ⟨Oa,c2⟩,List.append_assoc,List.getElem?_append_right Oa,List.getElem?_append_left (by rw[htl,hvl];omega),htl]
        .rw[if_neg Oa,List.getElem?_append_right (by simp only[List.length_append,htl,hvl];omega),List.getElem?_drop]
         congr 1
         simp only[List.length_append,htl,hvl];omega
      refine PV.Rows.of_get fun i' r' hi'=>?_
      rw[List.getElem?_append]at hi'
      have htk:(rows.take i).length=i:=by simp;omega
      by_cases c:i'<i
      .rw[if_pos Oa,List.getElem?_take,if_pos c]at hi'
       obtain⟨g1,g2⟩:=h7.get i' r' hi'
       refine⟨g1,PV.Cells.of_get fun q p hq=>?_⟩
       obtain⟨u,k1,k2⟩:=g2.get q p hq
       have hq':q<es:=by rw[<-g1];exact(List.getElem?_eq_some_iff.1 hq).1
       have hlt:i'*es+q<i*es:=by
        have:(i'+1)*es<=i*es:=Nat.mul_le_mul_right es c
        rw[Nat.succ_mul]at this;omega
       refine⟨u,?_,hmono k2⟩
       rw[hcell,hset,if_neg Oa,<-hold];exact k1
      .rw[if_neg Oa,htk,List.getElem?_take]at hi'
       split at hi'
       .rename_i hlt
        rw[List.getElem?_drop]at hi'
        obtain⟨g1,g2⟩:=h7.get (j+(i' - i)) r' hi'
        refine⟨g1,PV.Cells.of_get fun q p hq=>?_⟩
        obtain⟨u,k1,k2⟩:=g2.get q p hq
        have hq':q<es:=by rw[<-g1];exact(List.getElem?_eq_some_iff.1 hq).1
        have e1:i'*es=i*es+(i' - i)*es:=by rw[<-Nat.add_mul];congr 1;omega
        have e2:(j+(i' - i))*es=j*es+(i' - i)*es:=Nat.add_mul _ _ _
        have hlt2:(i' - i)*es+q<(rows.length - i)*es:=by
         have:(i' - i+1)*es<=(rows.length - i)*es:=Nat.mul_le_mul_right es hlt
         rw[Nat.succ_mul]at this;omega
        refine⟨u,?_,hmono k2⟩
        rw[hcell,hset,if_pos Oa,show 0+i'*es+q - i*es=(i' - i)*es+q by omega,hget _ hlt2,<-hold,<-k1]
        congr 2;omega
       .simp at hi'
theorem OpOK.indexV{T e:TypeId}{x y:Operand}{len j:Nat}{cells:List AV}{c:AV}(ho:o.op=.index T x y)(hT:P.underlying T=some (.array len e))(hz:ZK P e=some 1)(hfl:Qer P e=true)(hx:Qm rd x=some (.agg cells))(hy:Qm rd y=some (.p (.v (.int .i64 ((j:Nat):Int)))))(hj:j<len)(hc:cells[j]?=some c):OpOK P o ⟨rd,[],c,[],[]⟩:=
 OpOK.quiet fun Γ ρ M s a w hs hh=>by
  have h1:=Qk hs hh hx
  have h2:=Qk hs hh hy
  simp only[AV.R,PV.R]at h1 h2
  obtain⟨us,hu,hr⟩:=h1
  obtain⟨u,hu1,_,hu3⟩:=hr.get j c hc
  refine⟨u,?_,hu3⟩
  have hpart:(part e us j).run P w=.ok u w:=by
   have:us[j]?=some u:=by simpa using hu1
   simp[part,V9 hfl,this]
  simp[execOp,ho,hu,h2.1,Instr.index,asIntOf,run_underlying hT,run_sizeOf hz,hj,hpart]
end
/-
  The typed layer, part D: what operations do is what they do. No project text.
-/
open Go
section
variable {R:Type} {P:Program} {ty:TypeId->Option TC} {rd:TS} {hs:HS} {K:BEff->Option R} {r:R} {o:Oper}
def Does(P:Program)(o:Oper)(rd:TS)(hs:HS)(K:BEff->Option R)(r:R):Prop:=∃e,K e=some r/\Good P o rd hs e
theorem QtA{x:Operand}(ho:o.op=.move x\/o.op=.assign x)(h:bVal rd K x=some r):Does P o rd hs K r:=by
 unfold bVal at h
 split at h
 .rename_i v hv
  exact⟨_,h,.ev fun L _=>ho.elim (fun ho=>OpOK.move ho (Qh L hv)) (fun ho=>OpOK.assign ho (Qh L hv))⟩
 .simp at h
theorem Qgq{x:Operand}{q:Bool}(L:Lens)(h:ZN rd x=some (.b q)):Qm (erT L rd) x=some (.p (.v (.bool q))):=by have:=Qh L h;simpa only[BV.er]using this
theorem Q9{x:Operand}{k:IntKind}{q:Int}(L:Lens)(h:ZN rd x=some (.n k q)):Qm (erT L rd) x=some (.p (.v (.int k q))):=by have:=Qh L h;simpa only[BV.er]using this
theorem Qeo{x:Operand}{q:ByteArray}(L:Lens)(h:ZN rd x=some (.s q)):Qm (erT L rd) x=some (.p (.v (.string q))):=by have:=Qh L h;simpa only[BV.er]using this
theorem QvO{c x y:Operand}(ho:o.op=.pick c x y)(h:QxE rd K c x y=some r):Does P o rd hs K r:=by
 unfold QxE at h
 split at h
 .rename_i q u v hc hx hy
  rcases Qg2 h with⟨rfl,h⟩|⟨rfl,h⟩
  .exact⟨_,h,.ev fun L _=>OpOK.pickT ho (Qgq L hc) (Qh L hx)⟩
  .exact⟨_,h,.ev fun L _=>OpOK.pickF ho (Qgq L hc) (Qh L hy)⟩
 .simp at h
theorem QjD{T:TypeId}{cs:List BV}(L:Lens)(h:Qs4 P T=some cs):QiU P T=some (erL L cs):=by
 unfold Qs4 at h
 unfold QiU
 split at h
 .split at h
  .split at h
   .rename_i hi _ z hz hall;cases h;simp only[hi,hz,hall,if_true,Qot]
   .simp at h
  .simp at h
 .simp at h
theorem Good.new{v:BV}{n:Name}{ob:BO}(L':Lens->Lens)(h1:∀L m u,m≠n->L' L m u=L m u)(h2:∀L,Inv L hs->∀t l u,ob=.arr t l u->L' L n u=l.length)(h3:∀L,Inv L hs->OpOK P o ⟨erT L rd,[],v.er (L' L),[(n,ob.er (L' L))],[n]⟩):
  Good P o rd hs ⟨[],v,[(n,ob)],[n],[]⟩:=
 ⟨fun _ _ hm=>by simp at hm,fun L hL=>⟨L' L,fun m u hm _=>h1 L m u (by simpa using hm),fun m t l u hm=>by
  simp only[List.cons_append,List.nil_append,look]at hm
  split at hm
  .rename_i e;subst e;cases hm;exact h2 L hL t l u rfl
  .rename_i e;rw[h1 L m u (Ne.symm e)];exact hL m t l u hm,h3 L hL⟩⟩
theorem Good.newBox{v:BV}{n:Name}{cs:List BV}(h3:∀L,Inv L hs->OpOK P o ⟨erT L rd,[],v.er L,[(n,.box (erL L cs))],[n]⟩):Good P o rd hs ⟨[],v,[(n,.box cs)],[n],[]⟩:=
 Good.new (fun L=>L) (fun _ _ _ _=>rfl) (fun _ _ t l u h=>by simp at h) h3
theorem Qtn{T:TypeId}(ho:o.op=.alloc T)(h:Qtm P K o.dst T=some r):Does P o rd hs K r:=by
 unfold Qtm at h
 split at h
 .rename_i d cs hd hz
  exact⟨_,h,.newBox fun L _=>by simp only[BV.er];exact OpOK.alloc ho (QjD L hz)⟩
 .simp at h
theorem Qxu{T:TypeId}{x:Operand}(ho:o.op=.box T x)(h:bBox rd K o.dst x=some r):Does P o rd hs K r:=by
 unfold bBox at h
 split at h
 .rename_i d v hd hv
  split at h
  .rename_i cs hc
   exact⟨_,h,.newBox fun L _=>by simp only[BV.er];exact OpOK.box ho (Qh L hv) (Qee L hc)⟩
  .simp at h
 .simp at h
theorem Qnj(L:Lens){pl:List (Nat×Nat)}:∀{ps:List (Nat×Operand)} {cs cs':List BV},QuO rd pl ps cs=some cs'->QaI (erT L rd) pl ps (erL L cs)=some (erL L cs')
 |[],cs,cs',h=>by simp only[QuO,Option.some.injEq]at h;subst h;simp only[QaI]
 |(i,x)::ps,cs,cs',h=>by
  simp only[QuO]at h
  split at h
  .rename_i off size y hp hy
   split at h
   .rename_i c hc
    split at h
    .rename_i hb
     simp only[QaI,hp,Qh L hy,Qee L hc,Xy,hb,if_true]
     rw[<-Qou]
     rw[Qki]at h
     have hb':=hb
     simp only[bae]at hb'
     rw[Qm0 _ _ _ (by rw[nbe hb'.1];exact Nat.le_of_ble_eq_true hb'.2)]at h
     exact Qnj L h
    .simp at h
   .simp at h
  .simp at h
theorem Qtp{T:TypeId}{parts:Array (Nat×Operand)}(ho:o.op=.build T parts)(h:Qto P rd K T parts=some r):Does P o rd hs K r:=by
 unfold Qto at h
 split at h
 .rename_i pl zs h1 h2
  split at h
  .rename_i cells hc
   refine⟨_,h,.ev fun L _=>?_⟩
   simp only[BV.er]
   unfold QuJ at h1
   split at h1
   .rename_i n e hT
    split at h1
    .rename_i es hes
     cases h1
     exact OpOK.buildArr ho hT hes (QjD L h2) (Qnj L hc)
    .simp at h1
   .exact OpOK.build ho h1 (QjD L h2) (Qnj L hc)
  .simp at h
 .simp at h
theorem Qni(L:Lens){cs:List BV}(h:cs.all BV.isP=true):QkK (erL L cs)=some (pvL cs):=by
 rw[Vn h]
 have:∀ps:List PV,QkK (pcells ps)=some ps:=by
  intro ps
  induction ps with
  |nil=>rfl
  |cons x r ih=>simp only[pcells,List.map_cons,QkK]at ih |-;rw[ih]
 exact this _
theorem Qs8:∀{a b:List PV},XN (pcells a) (pcells b)->CsLe a b
 |[],[],_=>trivial
 |[],_::_,h=>by simp only[pcells,List.map_nil,List.map_cons]at h;cases h
 |_::_,[],h=>by simp only[pcells,List.map_nil,List.map_cons]at h;cases h
 |x::xs,y::ys,h=>by
  simp only[pcells,List.map_cons]at h
  cases h with
  |cons h1 h2=>
   refine⟨?_,Qs8 h2⟩
   cases h1 with
   |refl=>exact PVle.refl _
   |p h=>exact h
theorem QmF{cs:List BV}{t:TC}{y:TT t}(h:Le cs (tb t y++[]))(hp:cs.all BV.isP=true):CsLe (pvL cs) (tcells t y):=by
 have:=h.1 (fun _ _=>0)
 rw[List.append_nil,Vn hp,Vn (QcQ t y),Qs0]at this
 exact Qs8 this
theorem Y4.nth:∀{a b:List (List PV)},a.length=b.length->(∀(i:Nat) (x y:List PV),a[i]?=some x->b[i]?=some y->CsLe x y)->Y4 a b
 |[],[],_,_=>trivial
 |[],_::_,h,_=>by simp at h
 |_::_,[],h,_=>by simp at h
 |x::xs,y::ys,h,h2=>⟨h2 0 x y rfl rfl,Y4.nth (by simpa using h) (fun i a b ha hb=>h2 (i+1) a b (by simpa using ha) (by simpa using hb))⟩
theorem Qil{t:TC}:∀{ps:List (Nat×Operand)} {i len:Nat} {K:List (TT t)->Option R},QsU rd t ps i len K=some r->
  ∃l:List (TT t),K l=some r/\i+l.length=len/\∀(L:Lens) (pre rest:List (List PV)),pre.length=i->rest.length=l.length->
   ∃rows,Qdi (erT L rd) (tz t) ps (pre++rest)=some (pre++rows)/\Y4 rows (l.map (tcells t))
 |[],i,len,K,h=>by
  simp only[QsU]at h
  split at h
  .rename_i e
   refine⟨[],h,by simpa using nbe e,fun L pre rest hp hr=>⟨[],?_,trivial⟩⟩
   have:rest=[]:=List.eq_nil_of_length_eq_zero (by simpa using hr)
   subst this;simp only[Qdi]
  .simp at h
 |(j,x)::ps,i,len,K,h=>by
  simp only[QsU]at h
  split at h
  .rename_i e
   have:=nbe e;subst this
   split at h
   .rename_i v hv
    split at h
    .rename_i cs hc
     split at h
     .rename_i hb
      simp only[bae]at hb
      obtain⟨y,rest0,hle,h⟩:=QcT t h
      split at h
      .obtain⟨l,g1,g2,g3⟩:=Qil h
       refine⟨y::l,g1,by simp only[List.length_cons];omega,fun L pre rest hp hr=>?_⟩
       cases rest with
       |nil=>simp at hr
       |cons z rest=>
        obtain⟨rows,k1,k2⟩:=g3 L (pre++[pvL cs]) rest (by simp[hp]) (by simpa using hr)
        refine⟨pvL cs::rows,?_,QmF hle hb.2,k2⟩
        have hset:(pre++z::rest).set j (pvL cs)=pre++[pvL cs]++rest:=by
         simp_all
        have hlt:Nat.blt j (pre++z::rest).length=true:=by simp[Nat.blt,hp]
        simp only[Qdi,Qh L hv,Qee L hc,Qni L hb.2,Qcv,hb.1,hlt,Bool.and_self,if_true,hset]
        rw[k1];simp
      .simp at h
     .simp at h
    .simp at h
   .simp at h
  .simp at h
theorem Qlr{T:TypeId}{len:Nat}{parts:Array (Nat×Operand)}(ho:o.op=.buildSlice T len parts)(h:Qgj P ty rd K T len parts=some r):Does P o rd hs K r:=by
 unfold Qgj at h
 split at h
 .rename_i e he
  split at h
  .rename_i t es zr h0 h1 h2
   split at h
   .rename_i hb
    simp only[bae]at hb
    obtain⟨l,g1,g2,g3⟩:=Qil h
    refine⟨_,g1,.ev fun L _=>?_⟩
    have hes:=nbe hb.1.1.1
    subst hes
    obtain⟨rows,k1,k2⟩:=g3 L [] (List.replicate len zr) rfl (by rw[List.length_replicate];omega)
    simp only[List.nil_append]at k1
    simp only[BV.er]
    exact(OpOK.buildSlice ho he h1 hb.1.1.2 h2 (nbe hb.1.2) hb.2 k1).vLe (.p (PVle.sl (fun h=>h) k2))
   .simp at h
  .simp at h
 .simp at h
theorem hp1{n:Name}{ob:BO}(h:look n hs=some ob):∀m ob',(m,ob')∈[(n,ob)]->look m hs=some ob':=fun m ob' hm=>by simp only[List.mem_singleton,Prod.mk.injEq]at hm;obtain⟨rfl,rfl⟩:=hm;exact h
theorem XO{L:Lens}{n:Name}{t:TC}{l:List (TT t)}{q u:Nat}(hL:Inv L hs)(h:look n hs=some (.arr t l q))(hu:Nat.beq u q=true):Nat.beq (L n u) (l.map (tcells t)).length=true:=by rw[nbe hu,hL n t l q h,List.length_map];exact Nat.beq_refl _
theorem QvM{T:TypeId}{x:Operand}(ho:o.op=.load T x)(h:Qxz P rd hs K T x=some r):Does P o rd hs K r:=by
 unfold Qxz at h
 split at h
 .rename_i n k hx
  split at h
  .rename_i cells hc
   split at h
   .rename_i hT
    split at h
    .rename_i z hz
     split at h
     .rename_i hl
      refine⟨_,h,.val (hp1 hc) fun L _=>?_⟩
      have:=Qh L hx
      simp only[BV.er]at this |-
      exact OpOK.loadBoxAgg ho this hT hz (by rw[<-Qri,<-Qrj]) (by rw[Xy];exact nbe hl)
     .simp at h
    .simp at h
   .split at h
    .rename_i hT
     split at h
     .rename_i c hck
      refine⟨_,h,.val (hp1 hc) fun L _=>?_⟩
      have:=Qh L hx
      simp only[BV.er]at this
      exact OpOK.loadBox ho this hT (by rw[QhX,hck];rfl)
     .simp at h
    .simp at h
  .simp at h
 .rename_i cells hx
  split at h
  .rename_i hP
   split at h
   .rename_i hT
    split at h
    .rename_i z hz
     split at h
     .rename_i hl
      refine⟨_,h,.ev fun L _=>?_⟩
      have:=Qh L hx
      simp only[BV.er]at this |-
      have hP':(cells.take z).all BV.isP=true:=List.all_eq_true.2 fun c hc=>List.all_eq_true.1 hP c (List.mem_of_mem_take hc)
      exact OpOK.loadPtrAgg ho this hT hz (by rw[<-QrO]) (by rw[Qcv];exact nbe hl) (by rw[Vn hP'])
     .simp at h
    .simp at h
   .split at h
    .rename_i hT
     split at h
     .rename_i c hck
      refine⟨_,h,.ev fun L _=>?_⟩
      have:=Qh L hx
      simp only[BV.er]at this
      rw[Qt0 (List.all_eq_true.1 hP c (List.mem_of_getElem? hck))]
      exact OpOK.loadPtr ho this hT (by rw[QuQ,hck];rfl)
     .simp at h
    .simp at h
  .simp at h
 .rename_i n u i k hx
  split at h
  case h_2=>simp at h
  .rename_i t l q hc
   split at h
   case isFalse=>simp at h
   rename_i hq
   obtain⟨y,hy,h⟩:=Wx h
   have hrow:(l.map (tcells t))[i]?=some (tcells t y):=by rw[List.getElem?_map,hy];rfl
   split at h
   .rename_i hT
    split at h
    .rename_i z hz
     split at h
     .rename_i hl
      refine⟨_,h,.val (hp1 hc) fun L hL=>?_⟩
      have:=Qh L hx
      simp only[BV.er]at this |-
      have hP':(((tb t y).drop k).take z).all BV.isP=true:=List.all_eq_true.2 fun c hc=>List.all_eq_true.1 (QcQ t y) c (List.mem_of_mem_drop (List.mem_of_mem_take hc))
      exact OpOK.loadElemAgg ho this hT hz (XO hL hc hq) hrow (by rw[<-Qs0,<-QrN,<-QrO]) (by rw[Qcv];exact nbe hl) (by rw[Vn hP'])
     .simp at h
    .simp at h
   .split at h
    .rename_i hT
     split at h
     .rename_i c hck
      refine⟨_,h,.val (hp1 hc) fun L hL=>?_⟩
      have:=Qh L hx
      simp only[BV.er]at this
      rw[Qt0 (List.all_eq_true.1 (QcQ t y) c (List.mem_of_getElem? hck))]
      exact OpOK.loadElem ho this hT (XO hL hc hq) hrow (by rw[<-Qs0,QuQ,hck];rfl)
     .simp at h
    .simp at h
 .simp at h
theorem Good.wrBox{n:Name}{cells cells':List BV}(hc:look n hs=some (.box cells))(h:∀L,Inv L hs->OpOK P o ⟨erT L rd,[(n,.box (erL L cells))],.any,[(n,.box (erL L cells'))],[]⟩):Good P o rd hs ⟨[(n,.box cells)],.any,[(n,.box cells')],[],[]⟩:=
 ⟨hp1 hc,fun L hL=>⟨L,fun _ _ _ _=>rfl,fun m t l u hm=>by
  simp only[List.cons_append,List.nil_append,look]at hm
  split at hm
  .cases hm
  .exact hL m t l u hm,h L hL⟩⟩
theorem Good.wrArr{n:Name}{t:TC}{l l':List (TT t)}{q:Nat}(hc:look n hs=some (.arr t l q))(hl:l'.length=l.length)(h:∀L,Inv L hs->OpOK P o ⟨erT L rd,[(n,.arr (tz t) (l.map (tcells t)))],.any,[(n,.arr (tz t) (l'.map (tcells t)))],[]⟩):Good P o rd hs ⟨[(n,.arr t l q)],.any,[(n,.arr t l' q)],[],[]⟩:=
 ⟨hp1 hc,fun L hL=>⟨L,fun _ _ _ _=>rfl,fun m t' l2 u hm=>by
  simp only[List.cons_append,List.nil_append,look]at hm
  split at hm
  .rename_i e;subst e;cases hm;rw[hl];exact hL _ t l q hc
  .exact hL m t' l2 u hm,h L hL⟩⟩
theorem OpOK.arrLe{rd:List (Nat×AV)}{hp:List (Name×AO)}{v:AV}{nw:List Name}{n:Name}{es:Nat}{rs qs:List (List PV)}(h:OpOK P o ⟨rd,hp,v,[(n,.arr es rs)],nw⟩)(hr:Y4 rs qs):OpOK P o ⟨rd,hp,v,[(n,.arr es qs)],nw⟩:=
 h.outLe (.refl _) fun m=>by
  simp only[look]
  by_cases e:n=m
  .simp only[e,if_true]
   exact⟨fun y hy=>by cases hy;exact⟨_,rfl,.arr hr,.inr (.inr ⟨_,_,_,rfl,rfl⟩)⟩,fun x hx=>⟨_,rfl⟩⟩
  .simp only[e,if_false]
   exact⟨fun y hy=>by simp at hy,fun x hx=>by simp at hx⟩
theorem Qtz{T:TypeId}{x y:Operand}(ho:o.op=.store T x y)(h:Qty P rd hs K o.dst T x y=some r):Does P o rd hs K r:=by
 unfold Qty at h
 split at h
 .rename_i n k v hd hx hy
  split at h
  .rename_i cells vs z hc hv hz
   split at h
   .rename_i hb
    simp only[bae]at hb
    rw[Qki,Qm0 _ _ _ (Nat.le_of_ble_eq_true hb.2)]at h
    refine⟨_,h,.wrBox hc fun L _=>?_⟩
    have h1:=Qh L hx
    simp only[BV.er]at h1
    exact OpOK.storeBox hd ho h1 (Qh L hy) (Qee L hv) (by rw[Xy,hz,nbe hb.1]) (by rw[Xy,Xy];exact hb.2) (by rw[Qou])
   .simp at h
  .simp at h
 .rename_i n u i k v hd hx hy
  split at h
  .rename_i t l q vs z hc hv hz
   split at h
   case isFalse=>simp at h
   rename_i hq
   obtain⟨y0,hy0,h⟩:=Wx h
   split at h
   .rename_i hb
    simp only[bae]at hb
    rw[Qm0 _ _ _ (Nat.le_of_ble_eq_true hb.1.2)]at h
    obtain⟨y',rest,hle,h⟩:=QcT t h
    split at h
    .refine⟨_,h,.wrArr hc Ob fun L hL=>?_⟩
     have h1:=Qh L hx
     simp only[BV.er]at h1
     have hrow:(l.map (tcells t))[i]?=some (tcells t y0):=by rw[List.getElem?_map,hy0];rfl
     have hP:(QM (tb t y0) k vs).all BV.isP=true:=by
      refine List.all_eq_true.2 fun c hc=>?_
      simp only[QM,List.mem_append]at hc
      rcases hc with(hc|hc)|hc
      .exact List.all_eq_true.1 (QcQ t y0) c (List.mem_of_mem_take hc)
      .simp_all
      .exact List.all_eq_true.1 (QcQ t y0) c (List.mem_of_mem_drop hc)
     refine OpOK.arrLe (OpOK.storeElem hd ho h1 (Qh L hy) (Qee L hv) (Qni L hb.2) (XO hL hc hq) hrow (by rw[Xy,hz,nbe hb.1.1])
      (by rw[Xy,<-Qs0,Qcv];exact hb.1.2) (row':=pvL (QM (tb t y0) k vs)) (by rw[QuR,Qs0]) rfl) ?_
     have hcs:=QmF hle hP
     refine Y4.nth Ob (fun j a b ha hb=>?_)
     rw[List.getElem?_set]at ha
     rw[List.getElem?_map,List.getElem?_set]at hb
     split at ha
     .simp_all
     .rename_i e
      rw[if_neg e]at hb
      rw[List.getElem?_map]at ha
      rw[ha]at hb;cases hb
      exact CsLe.refl _
    .simp at h
   .simp at h
  .simp at h
 .simp at h
theorem QmJ{S:TypeId}{x:Operand}{i:Nat}(ho:o.op=.fieldAddr S x i)(h:QhS P rd hs K S x i=some r):Does P o rd hs K r:=by
 unfold QhS at h
 split at h
 .rename_i n k fo hx hf
  split at h
  .rename_i cells hc
   refine⟨_,h,.val (hp1 hc) fun L _=>?_⟩
   have:=Qh L hx
   simp only[BV.er]at this |-
   exact OpOK.fieldRef ho this hf rfl
  .simp at h
 .rename_i cells fo hx hf
  refine⟨_,h,.ev fun L _=>?_⟩
  have:=Qh L hx
  simp only[BV.er]at this |-
  exact OpOK.fieldPtr ho this hf (by rw[QrN])
 .rename_i n u j k fo hx hf
  split at h
  .rename_i t l q hc
   split at h
   case isFalse=>simp at h
   rename_i hq
   refine⟨_,h,.val (hp1 hc) fun L hL=>?_⟩
   have:=Qh L hx
   simp only[BV.er]at this |-
   exact OpOK.fieldElem ho this hf rfl (XO hL hc hq)
  .simp at h
 .simp at h
theorem Qn8{x:Operand}(ho:o.op=.nilCheck x)(h:QjO rd hs K x=some r):Does P o rd hs K r:=by
 unfold QjO at h
 split at h
 .rename_i n k hx
  split at h
  .rename_i cells hc
   refine⟨_,h,.val (hp1 hc) fun L _=>?_⟩
   have:=Qh L hx
   simp only[BV.er]at this |-
   exact OpOK.nilCheckRef ho this
  .simp at h
 .rename_i cells hx
  refine⟨_,h,.ev fun L _=>?_⟩
  have:=Qh L hx
  simp only[BV.er]at this |-
  exact OpOK.nilCheckPtr ho this
 .rename_i n u j k hx
  split at h
  .rename_i t l q hc
   split at h
   case isFalse=>simp at h
   rename_i hq
   refine⟨_,h,.val (hp1 hc) fun L hL=>?_⟩
   have:=Qh L hx
   simp only[BV.er]at this |-
   exact OpOK.nilCheckElem ho this (XO hL hc hq)
  .simp at h
 .simp at h
theorem Qxt{op:BinOp}{T T':TypeId}{x y:Operand}(ho:o.op=.binOp op T x y T')(h:bBin P rd K op T x y=some r):Does P o rd hs K r:=by
 unfold bBin at h
 split at h
 .rename_i k a k' b hx hy
  split at h
  .rename_i hk
   have:=Qf7 hk;subst this
   cases op<;>simp only[binI,reduceCtorEq]at h
   all_goals first
    |(obtain⟨hb,h⟩:=Qwt h;refine⟨_,h,.ev fun L _=>?_⟩;simp only[BV.er];first|exact OpOK.quo ho (Q9 L hx) (Q9 L hy) hb rfl|exact OpOK.rem ho (Q9 L hx) (Q9 L hy) hb rfl)
    |(obtain⟨i,hi,h⟩:=UY h;refine⟨_,h,.ev fun L _=>?_⟩;simp only[BV.er];exact OpOK.shr ho (Q9 L hx) (Q9 L hy) hi)
    |(refine⟨_,h,.ev fun L _=>?_⟩;simp only[BV.er];first
      |exact OpOK.add ho (Q9 L hx) (Q9 L hy) rfl|exact OpOK.sub ho (Q9 L hx) (Q9 L hy) rfl|exact OpOK.mul ho (Q9 L hx) (Q9 L hy) rfl
      |exact OpOK.lss ho (Q9 L hx) (Q9 L hy) rfl|exact OpOK.leq ho (Q9 L hx) (Q9 L hy) rfl|exact OpOK.gtr ho (Q9 L hx) (Q9 L hy) rfl
      |exact OpOK.geq ho (Q9 L hx) (Q9 L hy) rfl|exact OpOK.eqlI ho (Q9 L hx) (Q9 L hy) rfl|exact OpOK.neqI ho (Q9 L hx) (Q9 L hy) rfl)
  .simp at h
 .rename_i a b hx hy
  cases op<;>simp only[binS,reduceCtorEq]at h
  all_goals first
   |(obtain⟨hb,h⟩:=ZP h;refine⟨_,h,.ev fun L _=>?_⟩;simp only[BV.er];exact OpOK.addS ho (Qeo L hx) (Qeo L hy) hb rfl)
   |(refine⟨_,h,.ev fun L _=>?_⟩;simp only[BV.er];first|exact OpOK.eqlS ho (Qeo L hx) (Qeo L hy) rfl|exact OpOK.neqS ho (Qeo L hx) (Qeo L hy) rfl)
 .rename_i a b hx hy
  unfold binB at h
  split at h
  .rename_i hT
   have hT':P.underlying T=some .bool:=by
    unfold QyP at hT
    grind
   cases op<;>simp only[reduceCtorEq]at h
   all_goals (refine⟨_,h,.ev fun L _=>?_⟩;simp only[BV.er];first|exact OpOK.eqlB ho hT' (Qgq L hx) (Qgq L hy) rfl|exact OpOK.neqB ho hT' (Qgq L hx) (Qgq L hy) rfl)
  .simp at h
 .simp at h
theorem QyN{op:UnOp}{T:TypeId}{x:Operand}(ho:o.op=.unOp op T x)(h:bUn rd K op x=some r):Does P o rd hs K r:=by
 unfold bUn at h
 split at h
 .rename_i b hx
  refine⟨_,h,.ev fun L _=>?_⟩
  simp only[BV.er];exact OpOK.not ho (Qgq L hx) rfl
 .rename_i k a hx
  refine⟨_,h,.ev fun L _=>?_⟩
  simp only[BV.er];exact OpOK.neg ho (Q9 L hx) rfl
 .simp at h
theorem Qtv{T:TypeId}{x:Operand}{i:Nat}(ho:o.op=.field T x i)(h:Qtu P rd K T x i=some r):Does P o rd hs K r:=by
 unfold Qtu at h
 split at h
 .rename_i cells fs hx hu
  split at h
  .rename_i f hf
   split at h
   .rename_i hT
    split at h
    .rename_i z hz
     refine⟨_,h,.ev fun L _=>?_⟩
     have:=Qh L hx
     simp only[BV.er]at this |-
     exact OpOK.fieldAgg (off:=0) (T':=0) ho this hu hf hT hz (by rw[Qrj,Qri])
    .simp at h
   .split at h
    .rename_i hT
     split at h
     .rename_i c hck
      refine⟨_,h,.ev fun L _=>?_⟩
      have:=Qh L hx
      simp only[BV.er]at this
      exact OpOK.field ho this hu hf hT (by rw[QhX,hck];rfl)
     .simp at h
    .simp at h
  .simp at h
 .simp at h
theorem Qp1{x:Operand}{i:Nat}(ho:o.op=.extract x i)(h:QmI rd K x i=some r):Does P o rd hs K r:=by
 unfold QmI at h
 split at h
 .rename_i vs hx
  split at h
  .rename_i v hv
   refine⟨_,h,.ev fun L _=>?_⟩
   have:=Qh L hx
   simp only[BV.er]at this
   exact OpOK.extract ho this (by rw[QhX,hv];rfl)
  .simp at h
 .simp at h
theorem QmK{T:TypeId}{x y:Operand}(ho:o.op=.indexAddr T x y)(h:QhT P rd hs K T x y=some r):Does P o rd hs K r:=by
 unfold QhT at h
 split at h
 .rename_i f t l k j e hx hy he
  split at h
  .rename_i es hz
   split at h
   .rename_i hb
    have:=nbe hb;subst this
    obtain⟨i,z,hj,hi,h⟩:=QvH h
    refine⟨_,h,.ev fun L _=>?_⟩
    have h1:=Qh L hx
    simp only[BV.er]at h1 |-
    rw[Qs0]
    exact OpOK.indexP ho he hz h1 (Q9 L hy) hj (by rw[List.getElem?_map,hi];rfl)
   .simp at h
  .simp at h
 .rename_i n u k j e hx hy he
  split at h
  .rename_i t l q es hc hz
   split at h
   .rename_i hb
    simp only[bae]at hb
    have:=nbe hb.1;subst this
    obtain⟨i,hj,h⟩:=UY h
    obtain⟨hlt,h⟩:=Qhj h
    refine⟨_,h,.val (hp1 hc) fun L hL=>?_⟩
    have h1:=Qh L hx
    simp only[BV.er]at h1 |-
    exact OpOK.indexOwn ho he hz h1 (XO hL hc hb.2) (Q9 L hy) hj (by rw[List.length_map];exact hlt)
   .simp at h
  .simp at h
 .rename_i n u lo hi k j e hx hy he
  split at h
  .rename_i t l q es hc hz
   split at h
   .rename_i hb
    simp only[bae]at hb
    have:=nbe hb.1;subst this
    obtain⟨i,hj,h⟩:=UY h
    obtain⟨hlt,h⟩:=Qhj h
    refine⟨_,h,.val (hp1 hc) fun L hL=>?_⟩
    have h1:=Qh L hx
    simp only[BV.er]at h1 |-
    exact OpOK.indexView ho he hz h1 (XO hL hc hb.2) (Q9 L hy) hj hlt
   .simp at h
  .simp at h
 .simp at h
theorem Qxy{T:TypeId}{x:Operand}{ats:Array TypeId}(ho:o.op=.call { callee:=.builtin .len,args:=#[x],argTypes:=ats })(hat:ats[0]?=some T)(h:bLen P rd hs K T x=some r):Does P o rd hs K r:=by
 unfold bLen at h
 split at h
 .rename_i f t l hx
  split at h
  .rename_i e he
   refine⟨_,h,.ev fun L _=>?_⟩
   have h1:=Qh L hx
   simp only[BV.er]at h1 |-
   exact OpOK.lenP ho hat he h1 (by rw[List.length_map])
  .simp at h
 .rename_i hx
  split at h
  .rename_i e he
   refine⟨_,h,.ev fun L _=>?_⟩
   have h1:=Qh L hx
   simp only[BV.er]at h1 |-
   exact OpOK.lenP ho hat he h1 rfl
  .simp at h
 .rename_i n u hx
  split at h
  .rename_i t l q e hc he
   split at h
   case isFalse=>simp at h
   rename_i hq
   refine⟨_,h,.val (hp1 hc) fun L hL=>?_⟩
   have h1:=Qh L hx
   simp only[BV.er]at h1 |-
   exact OpOK.lenOwn ho hat he h1 (XO hL hc hq) (by rw[List.length_map])
  .simp at h
 .rename_i n u lo hi hx
  split at h
  .rename_i t l q e hc he
   split at h
   case isFalse=>simp at h
   rename_i hq
   refine⟨_,h,.val (hp1 hc) fun L hL=>?_⟩
   have h1:=Qh L hx
   simp only[BV.er]at h1 |-
   exact OpOK.lenView ho hat he h1 (XO hL hc hq)
  .simp at h
 .rename_i t hx
  split at h
  .rename_i hT
   refine⟨_,h,.ev fun L _=>?_⟩
   simp only[BV.er]
   exact OpOK.lenS ho hat hT (Qeo L hx)
  .simp at h
 .simp at h
end
end Go.Proofs.YtlllfgmajglnhaaGreat.AM
/-
  The typed layer, part E: a contract with its objects named otherwise. No project text.
-/
set_option linter.unusedSectionVars false
namespace Go.Proofs.YtlllfgmajglnhaaGreat.AM
open Go
mutual
def AV.ren(σ:Name->Name):AV->AV
 |.p x=>.p x
 |.agg cs=>.agg (renL σ cs)
 |.ref n o=>.ref (σ n) o
 |.own n l=>.own (σ n) l
 |.aref n l i o=>.aref (σ n) l i o
 |.view n l i o=>.view (σ n) l i o
 |.cut n l k=>.cut (σ n) l k
 |.eptr c=>.eptr c
 |.tup vs=>.tup (renL σ vs)
 |.clo f a c=>.clo f (renL σ a) (renL σ c)
 |.oref m n=>.oref m (σ n)
 |.err b=>.err b
 |.ub=>.ub
 |.any=>.any
def renL(σ:Name->Name):List AV->List AV
 |[]=>[]
 |x::r=>x.ren σ::renL σ r
end
theorem QnE(σ:Name->Name):∀l:List AV,renL σ l=l.map (AV.ren σ)
 |[]=>by simp only[renL,List.map_nil]
 |x::r=>by simp only[renL,List.map_cons,QnE σ r]
def AO.ren(σ:Name->Name):AO->AO
 |.box cs=>.box (renL σ cs)
 |.arr es rows=>.arr es rows
 |.hole es pre row post=>.hole es pre (renL σ row) post
 |.fact a x=>.fact (a.ren σ) x
 |.obj x=>.obj x
def renH(σ:Name->Name)(h:List (Name×AO)):List (Name×AO):=h.map fun p=>(σ p.1,p.2.ren σ)
section
variable {σ:Name->Name} (hσ:∀a b,σ a=σ b->a=b)
include hσ
theorem YO(n:Name):∀h:List (Name×AO),look (σ n) (renH σ h)=(look n h).map (AO.ren σ)
 |[]=>rfl
 |(k,o)::r=>by
  show look (σ n) ((σ k,o.ren σ)::renH σ r)=(look n ((k,o)::r)).map (AO.ren σ)
  simp only[look]
  by_cases e:k=n
  .simp[e]
  .rw[if_neg (fun h=>e (hσ _ _ h)),if_neg e];exact YO n r
omit hσ in
theorem VK{m:Name}{o:AO}:∀{h:List (Name×AO)},look m (renH σ h)=some o->∃n,σ n=m
 |[],h=>by simp[renH,look]at h
 |(k,x)::r,h=>by
  change look m ((σ k,x.ren σ)::renH σ r)=some o at h
  simp only[look]at h
  split at h
  .exact⟨k,by assumption⟩
  .exact VK h
omit hσ in
theorem U9(o:AO):(o.ren σ).shape=o.shape:=by cases o<;>rfl
variable {ρ:Name->Loc} {H H':Heap} {M:Nat->Prop} {w:World}
mutual
theorem QwD(hH:∀n,H' (σ n)=(H n).map (AO.ren σ)):∀(x:AV) (u:Value),(x.ren σ).R ρ H' M w u↔x.R (fun n=>ρ (σ n)) H M w u
 |.p x,u=>by simp only[AV.ren,AV.R]
 |.agg cs,u=>by simp only[AV.ren,AV.R,Qmo hH cs]
 |.ref n o,u=>by
  simp only[AV.ren,AV.R,hH]
  refine and_congr_right fun _=>⟨fun h cells hc=>h (renL σ cells) (by rw[hc];rfl),fun h cells hc=>?_⟩
  cases hn:H n with
  |none=>rw[hn]at hc;simp at hc
  |some ob=>
   cases ob with
   |box cs=>exact h cs hn
   |_=>rw[hn]at hc;simp[AO.ren]at hc
 |.own n l,u=>by
  simp only[AV.ren,AV.R,hH]
  refine and_congr_right fun _=>⟨fun h o es k ho hs=>h (o.ren σ) es k (by rw[ho];rfl) (by rw[U9];exact hs),fun h o es k ho hs=>?_⟩
  cases hn:H n with
  |none=>rw[hn]at ho;simp at ho
  |some ob=>rw[hn]at ho;simp only[Option.map_some,Option.some.injEq]at ho;subst ho;rw[U9]at hs;exact h ob es k hn hs
 |.aref n l i o,u=>by
  simp only[AV.ren,AV.R,hH]
  refine and_congr_right fun _=>⟨fun h o es k ho hs=>h (o.ren σ) es k (by rw[ho];rfl) (by rw[U9];exact hs),fun h o es k ho hs=>?_⟩
  cases hn:H n with
  |none=>rw[hn]at ho;simp at ho
  |some ob=>rw[hn]at ho;simp only[Option.map_some,Option.some.injEq]at ho;subst ho;rw[U9]at hs;exact h ob es k hn hs
 |.view n l i o,u=>by
  simp only[AV.ren,AV.R,hH]
  refine and_congr_right fun _=>and_congr_right fun _=>and_congr_right fun _=>⟨fun h o es k ho hs=>h (o.ren σ) es k (by rw[ho];rfl) (by rw[U9];exact hs),fun h o es k ho hs=>?_⟩
  cases hn:H n with
  |none=>rw[hn]at ho;simp at ho
  |some ob=>rw[hn]at ho;simp only[Option.map_some,Option.some.injEq]at ho;subst ho;rw[U9]at hs;exact h ob es k hn hs
 |.cut n l i,u=>by
  simp only[AV.ren,AV.R,hH]
  refine and_congr_right fun _=>and_congr_right fun _=>⟨fun h o es k ho hs=>h (o.ren σ) es k (by rw[ho];rfl) (by rw[U9];exact hs),fun h o es k ho hs=>?_⟩
  cases hn:H n with
  |none=>rw[hn]at ho;simp at ho
  |some ob=>rw[hn]at ho;simp only[Option.map_some,Option.some.injEq]at ho;subst ho;rw[U9]at hs;exact h ob es k hn hs
 |.eptr c,u=>by simp only[AV.ren,AV.R]
 |.tup vs,u=>by simp only[AV.ren,AV.R,Qu3 hH vs]
 |.clo f a c,u=>by simp only[AV.ren,AV.R,Qmo hH a,Qmo hH c]
 |.oref m n,u=>by
  simp only[AV.ren,AV.R,hH]
  refine and_congr_right fun _=>⟨fun h x hx=>h x (by rw[hx];rfl),fun h x hx=>?_⟩
  cases hn:H n with
  |none=>rw[hn]at hx;simp at hx
  |some ob=>
   cases ob with
   |obj y=>rw[hn]at hx;simp only[Option.map_some,AO.ren,Option.some.injEq,AO.obj.injEq]at hx;subst hx;exact h y hn
   |_=>rw[hn]at hx;simp[AO.ren]at hx
 |.err b,u=>by simp only[AV.ren,AV.R]
 |.ub,u=>by simp only[AV.ren,AV.R]
 |.any,u=>by simp only[AV.ren,AV.R]
theorem Qmo(hH:∀n,H' (σ n)=(H n).map (AO.ren σ)):∀(xs:List AV) (us:List Value),AV.Rs ρ H' M w (renL σ xs) us↔AV.Rs (fun n=>ρ (σ n)) H M w xs us
 |[],us=>by simp only[renL,AV.Rs]
 |x::r,us=>by simp only[renL,AV.Rs,QwD hH x,Qmo hH r]
theorem Qu3(hH:∀n,H' (σ n)=(H n).map (AO.ren σ)):∀(xs:List AV) (us:List Value),AV.Ts ρ H' M w (renL σ xs) us↔AV.Ts (fun n=>ρ (σ n)) H M w xs us
 |[],us=>by simp only[renL,AV.Ts]
 |x::r,us=>by simp only[renL,AV.Ts,QwD hH x,Qu3 hH r]
end
omit hσ in
theorem QqL(l:List AV):(renL σ l).length=l.length:=by simp[QnE]
theorem Qu2(hH:∀n,H' (σ n)=(H n).map (AO.ren σ))(n:Name)(o:AO):Qa1 ρ H' M w (σ n) (o.ren σ)↔Qa1 (fun n=>ρ (σ n)) H M w n o:=by
 cases o with
 |box cs=>simp only[AO.ren,Qa1,Qmo hσ hH]
 |arr es rows=>simp only[AO.ren,Qa1]
 |hole es pre row post=>simp only[AO.ren,Qa1,Qmo hσ hH,QqL]
 |fact a x=>simp only[AO.ren,Qa1,QwD hσ hH]
 |obj x=>simp only[AO.ren,Qa1]
theorem Qvi{o o':AO}{l l':Loc}:stays (o.ren σ) l (some (o'.ren σ)) l'↔stays o l (some o') l':=by
 cases o<;>cases o'<;>simp only[AO.ren,stays]
theorem Spec.ren{P:Program}{f:FuncId}{args:List AV}{pre h:List (Name×AO)}{v:AV}(hs:Qcf P f args pre v h):Qcf P f (renL σ args) (renH σ pre) (v.ren σ) (renH σ h):=by
 intro G ρ M w us hG hM hargs hobjs hinj
 have hH:∀n,XA (renH σ pre) (σ n)=(XA pre n).map (AO.ren σ):=fun n=>YO hσ n pre
 have hex:∀b,(∃n o,look n pre=some o/\(ρ (σ n)).blk=some b)↔(∃n o,look n (renH σ pre)=some o/\(ρ n).blk=some b):=fun b=>by
  constructor
  .rintro⟨n,o,h1,h2⟩;exact⟨σ n,o.ren σ,by rw[YO hσ,h1];rfl,h2⟩
  .rintro⟨m,o,h1,h2⟩
   obtain⟨n,rfl⟩:=VK h1
   rw[YO hσ]at h1
   cases hn:look n pre with
   |none=>rw[hn]at h1;simp at h1
   |some ob=>exact⟨n,ob,hn,h2⟩
 have hB:(fun b=>∃n o,look n pre=some o/\(ρ (σ n)).blk=some b)=(fun b=>∃n o,look n (renH σ pre)=some o/\(ρ n).blk=some b):=by funext b;exact propext (hex b)
 refine(hs G (fun n=>ρ (σ n)) M w us ?_ hM ((Qu3 hσ hH args us).1 hargs) (fun n o hn=>?_) (fun n m o o' b h1 h2 h3 h4=>?_)).mono ?_
 .grind
 .exact(Qu2 hσ hH n o).1 (hobjs (σ n) (o.ren σ) (by rw[YO hσ,hn];rfl))
 .exact hσ _ _ (hinj (σ n) (σ m) (o.ren σ) (o'.ren σ) b (by rw[YO hσ,h1];rfl) (by rw[YO hσ,h2];rfl) h3 h4)
 .rintro e w' ⟨u,v',h',ρ',rfl,⟨rfl,rfl⟩,ha⟩
  classical
  let ρ2:Name->Loc:=fun m=>if hm:∃n,σ n=m then ρ' (Classical.choose hm)else ρ m
  have h2:∀n,ρ2 (σ n)=ρ' n:=fun n=>by
   have hm:∃k,σ k=σ n:=⟨n,rfl⟩
   grind
  have h2':(fun n=>ρ2 (σ n))=ρ':=funext h2
  have hH':∀n,XA (renH σ h') (σ n)=(XA h' n).map (AO.ren σ):=fun n=>YO hσ n h'
  have hM':newM M ρ2 (renH σ h')=newM M ρ' h':=by
   funext b
   refine propext (or_congr_right ⟨?_,?_⟩)
   .rintro⟨m,o,g1,g2⟩
    obtain⟨n,rfl⟩:=VK g1
    rw[YO hσ]at g1
    cases hn:look n h' with
    |none=>rw[hn]at g1;simp at g1
    |some ob=>exact⟨n,ob,hn,by rw[<-h2];exact g2⟩
   .rintro⟨n,o,g1,g2⟩;exact⟨σ n,o.ren σ,by rw[YO hσ,g1];rfl,by rw[h2];exact g2⟩
  have hback:∀{m o} {l:List (Name×AO)},look m (renH σ l)=some o->∃n ob,m=σ n/\look n l=some ob/\o=ob.ren σ:=fun{m o l} g1=>by
   obtain⟨n,rfl⟩:=VK g1
   rw[YO hσ]at g1
   cases hn:look n l with
   |none=>rw[hn]at g1;simp at g1
   |some ob=>rw[hn]at g1;exact⟨n,ob,rfl,hn,by simpa using g1.symm⟩
  refine⟨u,v'.ren σ,renH σ h',ρ2,rfl,⟨rfl,rfl⟩,?_,?_,?_,?_,?_,?_⟩
  .rw[hM',QwD hσ hH',h2'];exact ha.val
  .intro m o hm
   obtain⟨n,ob,rfl,hn,rfl⟩:=hback hm
   rw[hM',Qu2 hσ hH',h2'];exact ha.objs n ob hn
  .intro m m' o o' b g1 g2 g3 g4
   obtain⟨n,ob,rfl,hn,rfl⟩:=hback g1
   obtain⟨n',ob',rfl,hn',rfl⟩:=hback g2
   rw[h2]at g3 g4
   rw[ha.inj n n' ob ob' b hn hn' g3 g4]
  .intro m o b g1 g2
   obtain⟨n,ob,rfl,hn,rfl⟩:=hback g1
   rw[h2]at g2
   rcases ha.own n ob b hn g2 with⟨o',k1,k2⟩|k
   .exact .inl ⟨o'.ren σ,by rw[YO hσ,k1];rfl,k2⟩
   .exact .inr k
  .have:=ha.ext
   rw[<-hB];exact this
  .intro m o hm
   obtain⟨n,ob,rfl,hn,rfl⟩:=hback hm
   obtain⟨o',k1,k2⟩:=ha.keep n ob hn
   exact⟨o'.ren σ,by rw[YO hσ,k1];rfl,by rw[h2];exact(Qvi hσ).2 k2⟩
end
theorem Spec.preLe{P:Program}{f:FuncId}{args:List AV}{pre pre':List (Name×AO)}{post:AV->List (Name×AO)->Prop}(hs:Spec P f args pre post)(h1:∀n o,look n pre=some o->∃o',look n pre'=some o'/\(o'=o\/∃cs ds,o'=.box cs/\o=.box ds/\XN cs ds))(h2:∀n o',look n pre'=some o'->∃o,look n pre=some o):Spec P f args pre' post:=by
 intro G ρ M w us hG hM hargs hobjs hinj
 have hB:(fun b=>∃n o,look n pre=some o/\(ρ n).blk=some b)=(fun b=>∃n o,look n pre'=some o/\(ρ n).blk=some b):=by
  grind
 have hst:QfR ρ (XA pre') ρ (XA pre):=fun n o' hn=>by
  obtain⟨o,ho⟩:=h2 n o' hn
  obtain⟨o2,ho2,hle⟩:=h1 n o ho
  change look n pre'=some o' at hn
  rw[hn]at ho2;cases ho2
  change stays o' (ρ n) (look n pre) (ρ n)
  rw[ho]
  rcases hle with rfl|⟨cs,ds,rfl,rfl,_⟩
  .exact Z4 _ _
  .rfl
 have hnn:∀n,XA pre' n=none->XA pre n=none:=fun n hn=>by
  cases hc:XA pre n with
  |none=>rfl
  |some o=>
   obtain⟨o',ho',_⟩:=h1 n o hc
   change look n pre'=none at hn
   simp_all
 have hconvs:∀{xs:List AV} {us:List Value},AV.Rs ρ (XA pre') M w xs us->AV.Rs ρ (XA pre) M w xs us:=fun hr=>
  hr.step (Ext.refl (fun _=>False) _) (fun _ hb=>hb.elim) (fun b _ hb=>hb) hst (fun n _=>hnn n)
 refine(hs G ρ M w us (by rw[hB];exact hG) hM (hargs.step (Ext.refl (fun _=>False) _) (fun _ hb=>hb.elim) (fun b _ hb=>hb) hst (fun n _=>hnn n)) (fun n o hn=>?_)
  (fun n m o o' b g1 g2=>by obtain⟨p,k1,_⟩:=h1 n o g1;obtain⟨q,k2,_⟩:=h1 m o' g2;exact hinj n m p q b k1 k2)).mono ?_
 .obtain⟨o',ho',hle⟩:=h1 n o hn
  have hobj:=hobjs n o' ho'
  rcases hle with rfl|⟨cs,ds,rfl,rfl,hle⟩
  .exact hobj.step (Ext.refl (fun _=>False) _) (fun _ hb=>hb.elim) (fun b _ hb=>hb) (fun b hb=>hb) hst (fun m _=>hnn m) rfl (fun _ _=>rfl) hM
  .obtain⟨b,T,us',k1,k2,k3,k4⟩:=hobj
   exact⟨b,T,us',k1,k2,k3,Qxr hle _ (hconvs k4)⟩
 .rintro e w' ⟨u,v,h,ρ',rfl,hp,ha⟩
  refine⟨u,v,h,ρ',rfl,hp,ha.val,ha.objs,ha.inj,fun n o b g1 g2=>?_,by rw[<-hB];exact ha.ext,fun n o hn=>?_⟩
  .exact(ha.own n o b g1 g2).imp (fun⟨o',k1,k2⟩=>by obtain⟨o2,k3,_⟩:=h1 n o' k1;exact⟨o2,k3,k2⟩) id
  .obtain⟨o1,k1⟩:=h2 n o hn
   obtain⟨o2,k2,k3⟩:=ha.keep n o1 k1
   refine⟨o2,k2,?_⟩
   obtain⟨o3,k4,hle⟩:=h1 n o1 k1
   rw[hn]at k4;cases k4
   rcases hle with rfl|⟨cs,ds,rfl,rfl,_⟩
   .exact k3
   .cases o2<;>simp only[stays]at k3|-<;>exact k3
/-
  The typed layer, part F: shapes: what a value, an object, a state is known to be; typed data off them and back. No project text.
-/
abbrev Ren:=List (Name×(Name×Nat))
inductive Sh where
 |num (k:IntKind)
 |boo
 |str
 |lst (t:TC)
 |nul
 |ref (nm:Name)
 |own (nm:Name)
 |view (nm:Name)
 /-- A closure of that function, with these boxes. -/
 |clo (f:Nat) (caps:List Name)
 |fv (f:Nat)
 |mref (nm:Name)
inductive SSh where
 |one (s:Sh)
 |st (t:TC)
 |agg (l:List Sh)
inductive OSh where
 |box (l:List Sh)
 |boxst (t:TC)
 |arr (t:TC)
 /-- Changed in place: the header stays. -/
 |arrs (t:TC)
 |sm
def Sh.prod:Sh->Type->Type
 |.num _,X=>Int×X
 |.boo,X=>Bool×X
 |.str,X=>ByteArray×X
 |.lst t,X=>List (TT t)×X
 |.nul,X=>X
 |.ref _,X=>X
 |.own _,X=>X
 |.view _,X=>Nat×Nat×X
 |.clo _ _,X=>X
 |.fv _,X=>X
 |.mref _,X=>X
def TL:List Sh->Type
 |[]=>Unit
 |s::r=>s.prod (TL r)
def Sh.put(ver:Nat):(s:Sh)->(X:Type)->s.prod X->BV×X
 |.num k,_,x=>(.n k x.1,x.2)
 |.boo,_,x=>(.b x.1,x.2)
 |.str,_,x=>(.s x.1,x.2)
 |.lst t,_,x=>(.ts false t x.1,x.2)
 |.nul,_,x=>(.nil,x)
 |.ref nm,_,x=>(.ref nm 0,x)
 |.own nm,_,x=>(.own nm ver,x)
 |.view nm,_,x=>(.view nm ver x.1 x.2.1,x.2.2)
 |.clo f caps,_,x=>(.clo (.func f) (caps.map fun n=>.ref n 0),x)
 |.fv f,_,x=>(.v (.func (.func f) #[] #[]),x)
 |.mref nm,_,x=>(.mref nm,x)
def TL.put(ver:Nat):(l:List Sh)->TL l->List BV
 |[],_=>[]
 |s::r,x=>(s.put ver _ x).1::TL.put ver r (s.put ver _ x).2
def SSh.prod:SSh->Type->Type
 |.one s,X=>s.prod X
 |.st t,X=>TT t×X
 |.agg l,X=>TL l×X
def SSh.put(ver:Nat):(s:SSh)->(X:Type)->s.prod X->BV×X
 |.one s,X,x=>s.put ver X x
 |.st t,_,x=>(.agg (tb t x.1),x.2)
 |.agg l,_,x=>(.agg (TL.put ver l x.1),x.2)
def SL:List SSh->Type
 |[]=>Unit
 |s::r=>s.prod (SL r)
def SL.put(ver:Nat):(l:List SSh)->SL l->List BV
 |[],_=>[]
 |s::r,x=>(s.put ver _ x).1::SL.put ver r (s.put ver _ x).2
def OSh.T:OSh->Type
 |.box l=>TL l
 |.boxst t=>TT t
 |.arr t=>List (TT t)
 |.arrs t=>List (TT t)
 |.sm=>List (ByteArray×Bool)
def OSh.put(ver:Nat):(o:OSh)->o.T->BO
 |.box l,x=>.box (TL.put ver l x)
 |.boxst t,x=>.box (tb t x)
 |.arr t,x=>.arr t x ver
 |.arrs t,x=>.arr t x 0
 |.sm,x=>.sm x
def OL:List (Name×OSh)->Type
 |[]=>Unit
 |p::r=>p.2.T×OL r
def OL.put(ver:Nat):(l:List (Name×OSh))->OL l->HS
 |[],_=>[]
 |p::r,x=>(p.1,p.2.put ver x.1)::OL.put ver r x.2
def STL:List (Nat×SSh)->Type
 |[]=>Unit
 |p::r=>p.2.prod (STL r)
def STL.put(ver:Nat):(l:List (Nat×SSh))->STL l->TS
 |[],_=>[]
 |p::r,x=>(p.1,(p.2.put ver _ x).1)::STL.put ver r (p.2.put ver _ x).2
section
variable {R:Type} {r:R}
def Qgl:List Name->List BV->Ren->(Ren->Option R)->Option R
 |[],[],σ,K=>K σ
 |nm::q,.ref m off::vs,σ,K=>if Nat.beq off 0 then Qgl q vs ((nm,(m,0))::σ) K else none
 |_,_,_,_=>none
def Sh.get:(s:Sh)->BV->Ren->(Ren->((X:Type)->X->s.prod X)->Option R)->Option R
 |.num k,.n k' x,σ,K=>if kEq k k' then K σ (fun _ y=>(x,y))else none
 |.boo,.b x,σ,K=>K σ (fun _ y=>(x,y))
 |.str,.s x,σ,K=>K σ (fun _ y=>(x,y))
 |.lst t,.ts _ t' l,σ,K=>if h:t'=t then K σ (fun _ y=>(Qoc h l,y))else none
 |.lst t,.nil,σ,K=>K σ (fun _ y=>([],y))
 |.nul,.nil,σ,K=>K σ (fun _ y=>y)
 |.ref nm,.ref m off,σ,K=>if Nat.beq off 0 then K ((nm,(m,0))::σ) (fun _ y=>y)else none
 |.own nm,.own m u,σ,K=>K ((nm,(m,u))::σ) (fun _ y=>y)
 |.view nm,.view m u lo hi,σ,K=>K ((nm,(m,u))::σ) (fun _ y=>(lo,hi,y))
 |.clo f caps,.clo (.func f') cs,σ,K=>if Nat.beq f f' then Qgl caps cs σ fun σ=>K σ (fun _ y=>y)else none
 |.fv f,.v (.func (.func f') ⟨[]⟩ ⟨[]⟩),σ,K=>if Nat.beq f f' then K σ (fun _ y=>y)else none
 |.mref nm,.mref m,σ,K=>K ((nm,(m,0))::σ) (fun _ y=>y)
 |_,_,_,_=>none
def TL.get:(l:List Sh)->List BV->Ren->(Ren->TL l->Option R)->Option R
 |[],[],σ,K=>K σ ()
 |s::r,v::vs,σ,K=>s.get v σ fun σ f=>TL.get r vs σ fun σ x=>K σ (f _ x)
 |_,_,_,_=>none
def SSh.get:(s:SSh)->BV->Ren->(Ren->((X:Type)->X->s.prod X)->Option R)->Option R
 |.one s,v,σ,K=>s.get v σ K
 |.st t,.agg cs,σ,K=>tpop t cs fun x rest=>match rest with
  |[]=>K σ (fun _ y=>(x,y))
  |_=>none
 |.agg l,.agg cs,σ,K=>TL.get l cs σ fun σ x=>K σ (fun _ y=>(x,y))
 |_,_,_,_=>none
def SL.get:(l:List SSh)->List BV->Ren->(Ren->SL l->Option R)->Option R
 |[],[],σ,K=>K σ ()
 |s::r,v::vs,σ,K=>s.get v σ fun σ f=>SL.get r vs σ fun σ x=>K σ (f _ x)
 |_,_,_,_=>none
def OSh.get:(o:OSh)->BO->Nat->Ren->(Ren->o.T->Option R)->Option R
 |.box l,.box cs,_,σ,K=>TL.get l cs σ K
 |.boxst t,.box cs,_,σ,K=>tpop t cs fun x rest=>match rest with
  |[]=>K σ x
  |_=>none
 |.arr t,.arr t' l q,u,σ,K=>if h:t'=t then if Nat.beq q u then K σ (Qoc h l)else none else none
 |.arrs t,.arr t' l q,u,σ,K=>if h:t'=t then if Nat.beq q u then K σ (Qoc h l)else none else none
 |.sm,.sm es,_,σ,K=>K σ es
 |_,_,_,_,_=>none
def OL.get:(l:List (Name×OSh))->HS->Ren->(Ren->OL l->Option R)->Option R
 |[],_,σ,K=>K σ ()
 |p::r,hs,σ,K=>match look p.1 σ with
  |some m=>match look m.1 hs with
   |some ob=>p.2.get ob m.2 σ fun σ x=>OL.get r hs σ fun σ y=>K σ (x,y)
   |none=>none
  |none=>none
def STL.get:(l:List (Nat×SSh))->TS->Ren->(Ren->STL l->Option R)->Option R
 |[],_,σ,K=>K σ ()
 |p::r,ts,σ,K=>match look p.1 ts with
  |some v=>p.2.get v σ fun σ f=>STL.get r ts σ fun σ x=>K σ (f _ x)
  |none=>none
def Fit(rr:Name->Name)(δ:Name->Nat)(σ:Ren):Prop:=∀nm m,(nm,m)∈σ->rr nm=m.1/\δ nm=m.2
def Qap(L:Lens)(rr:Name->Name)(δ:Name->Nat):Lens:=fun n v=>L (rr n) (δ n+v)
theorem Fit.mono{rr:Name->Name}{δ:Name->Nat}{σ σ':Ren}(h:Fit rr δ σ')(hs:∀p,p∈σ->p∈σ'):Fit rr δ σ:=fun nm m hm=>h nm m (hs _ hm)
variable {L:Lens}
theorem Qiz:∀{ns:List Name} {vs:List BV} {σ:Ren} {K:Ren->Option R},Qgl ns vs σ K=some r->
  ∃σ',K σ'=some r/\(∀p,p∈σ->p∈σ')/\∀(rr:Name->Name) (δ:Name->Nat) (L:Lens),Fit rr δ σ'->erL L vs=renL rr (erL (Qap L rr δ) (ns.map fun n=>.ref n 0))
 |[],[],σ,K,h=>⟨σ,h,fun _ hp=>hp,fun rr δ L _=>by simp only[List.map_nil,erL,renL]⟩
 |[],v::vs,σ,K,h=>by simp[Qgl]at h
 |nm::ns,[],σ,K,h=>by simp[Qgl]at h
 |nm::ns,v::vs,σ,K,h=>by
  cases v with
  |ref m off=>
   simp only[Qgl]at h
   split at h
   .rename_i ho
    have:=nbe ho;subst this
    obtain⟨σ',h1,h2,h3⟩:=Qiz h
    refine⟨σ',h1,fun p hp=>h2 p (List.mem_cons_of_mem _ hp),fun rr δ L hf=>?_⟩
    simp only[List.map_cons,erL,renL,BV.er,AV.ren,(hf nm (m,0) (h2 _ (List.mem_cons_self ..))).1,h3 rr δ L hf]
   .simp at h
  |_=>simp[Qgl]at h
theorem Sh.get_some{s:Sh}{v:BV}{σ:Ren}{K:Ren->((X:Type)->X->s.prod X)->Option R}(h:s.get v σ K=some r):
  ∃σ' f,K σ' f=some r/\(∀p,p∈σ->p∈σ')/\(∀X (y:X),(s.put 0 X (f X y)).2=y)/\(v.isQ=true->∀X (y:X),(s.put 0 X (f X y)).1=v)/\∀X (y:X) (rr:Name->Name) (δ:Name->Nat) (L:Lens),Fit rr δ σ'->AVle (v.er L) (((s.put 0 X (f X y)).1.er (Qap L rr δ)).ren rr):=by
 unfold Sh.get at h
 split at h
 .split at h
  .rename_i hk;have:=Qf7 hk;subst this
   exact⟨_,_,h,fun _ hp=>hp,fun _ _=>rfl,fun _ _ _=>rfl,fun X y rr δ L _=>by simp only[Sh.put,BV.er,AV.ren];exact .refl _⟩
  .simp at h
 .exact⟨_,_,h,fun _ hp=>hp,fun _ _=>rfl,fun _ _ _=>rfl,fun X y rr δ L _=>by simp only[Sh.put,BV.er,AV.ren];exact .refl _⟩
 .exact⟨_,_,h,fun _ hp=>hp,fun _ _=>rfl,fun _ _ _=>rfl,fun X y rr δ L _=>by simp only[Sh.put,BV.er,AV.ren];exact .refl _⟩
 .split at h
  .rename_i he;subst he
   exact⟨_,_,h,fun _ hp=>hp,fun _ _=>rfl,fun hq _ _=>(Qxa hq).symm,fun X y rr δ L _=>by simp only[Sh.put,BV.er,AV.ren,Qoc];exact .p (PVle.full _)⟩
  .simp at h
 .rename_i t K0
  exact⟨_,_,h,fun _ hp=>hp,fun _ _=>rfl,fun hq=>by simp[BV.isQ]at hq,fun X y rr δ L _=>by have:=Qxf t L;simp only[BV.er]at this;simp only[Sh.put,BV.er,AV.ren];exact this⟩
 .exact⟨_,_,h,fun _ hp=>hp,fun _ _=>rfl,fun hq=>by simp[BV.isQ]at hq,fun X y rr δ L _=>by simp only[Sh.put,BV.er,AV.ren];exact .refl _⟩
 .split at h
  .rename_i nm m off σ0 K0 ho
   have:=nbe ho;subst this
   exact⟨_,_,h,fun _ hp=>List.mem_cons_of_mem _ hp,fun _ _=>rfl,fun hq=>by simp[BV.isQ]at hq,fun X y rr δ L hf=>by simp only[Sh.put,BV.er,AV.ren,Qap,(hf _ _ (List.mem_cons_self ..)).1,(hf _ _ (List.mem_cons_self ..)).2,Nat.add_zero];exact .refl _⟩
  .simp at h
 .rename_i nm m σ0 K0
  exact⟨_,_,h,fun _ hp=>List.mem_cons_of_mem _ hp,fun _ _=>rfl,fun hq=>by simp[BV.isQ]at hq,fun X y rr δ L hf=>by simp only[Sh.put,BV.er,AV.ren,Qap,(hf _ _ (List.mem_cons_self ..)).1,(hf _ _ (List.mem_cons_self ..)).2,Nat.add_zero];exact .refl _⟩
 .rename_i nm m u lo hi σ0 K0
  exact⟨_,_,h,fun _ hp=>List.mem_cons_of_mem _ hp,fun _ _=>rfl,fun hq=>by simp[BV.isQ]at hq,fun X y rr δ L hf=>by simp only[Sh.put,BV.er,AV.ren,Qap,(hf _ _ (List.mem_cons_self ..)).1,(hf _ _ (List.mem_cons_self ..)).2,Nat.add_zero];exact .refl _⟩
 .split at h
  .rename_i hk;have:=nbe hk;subst this
   obtain⟨σ',h1,h2,h3⟩:=Qiz h
   exact⟨σ',_,h1,h2,fun _ _=>rfl,fun hq=>by simp[BV.isQ]at hq,fun X y rr δ L hf=>by simp only[Sh.put,BV.er,AV.ren,h3 rr δ L hf,renL];exact .refl _⟩
  .simp at h
 .split at h
  .rename_i hk;have:=nbe hk;subst this
   exact⟨_,_,h,fun _ hp=>hp,fun _ _=>rfl,fun hq=>by simp[BV.isQ]at hq,fun X y rr δ L _=>by simp only[Sh.put,BV.er,AV.ren];exact .refl _⟩
  .simp at h
 .rename_i nm m σ0 K0
  exact⟨_,_,h,fun _ hp=>List.mem_cons_of_mem _ hp,fun _ _=>rfl,fun hq=>by simp[BV.isQ]at hq,fun X y rr δ L hf=>by simp only[Sh.put,BV.er,AV.ren,(hf _ _ (List.mem_cons_self ..)).1];exact .refl _⟩
 .simp at h
theorem TL.get_some:∀{l:List Sh} {vs:List BV} {σ:Ren} {K:Ren->TL l->Option R},TL.get l vs σ K=some r->
  ∃σ' x,K σ' x=some r/\(∀p,p∈σ->p∈σ')/\(vs.all BV.isQ=true->TL.put 0 l x=vs)/\∀(rr:Name->Name) (δ:Name->Nat) (L:Lens),Fit rr δ σ'->XN (erL L vs) (renL rr (erL (Qap L rr δ) (TL.put 0 l x)))
 |[],vs,σ,K,h=>by
  cases vs with
  |nil=>exact⟨_,_,h,fun _ hp=>hp,fun _=>rfl,fun rr δ L _=>by simp only[TL.put,erL,renL];exact .nil⟩
  |cons v vs=>simp[TL.get]at h
 |s::l,vs,σ,K,h=>by
  cases vs with
  |nil=>simp[TL.get]at h
  |cons v vs=>
   simp only[TL.get]at h
   obtain⟨σ1,f,h,hs1,hf1,q1,g1⟩:=Sh.get_some h
   obtain⟨σ2,x,h,hs2,q2,g2⟩:=TL.get_some h
   refine⟨σ2,f _ x,h,fun p hp=>hs2 p (hs1 p hp),fun hq=>?_,fun rr δ L hf=>?_⟩
   .simp only[List.all_cons,bae]at hq
    simp only[TL.put,hf1]
    rw[q1 hq.1,q2 hq.2]
   simp only[TL.put,erL,renL,hf1]
   exact .cons (g1 _ x rr δ L (hf.mono hs2)) (g2 rr δ L hf)
theorem Qxp(rr:Name->Name)(L L':Lens)(t:TC)(x:TT t):renL rr (erL L (tb t x))=erL L' (tb t x):=by
 rw[Vn (QcQ t x),Vn (QcQ t x),QnE]
 simp only[pcells,List.map_map]
 exact List.map_congr_left fun y _=>by simp only[Function.comp,AV.ren]
theorem SSh.get_some{s:SSh}{v:BV}{σ:Ren}{K:Ren->((X:Type)->X->s.prod X)->Option R}(h:s.get v σ K=some r):
  ∃σ' f,K σ' f=some r/\(∀p,p∈σ->p∈σ')/\(∀X (y:X),(s.put 0 X (f X y)).2=y)/\∀X (y:X) (rr:Name->Name) (δ:Name->Nat) (L:Lens),Fit rr δ σ'->AVle (v.er L) (((s.put 0 X (f X y)).1.er (Qap L rr δ)).ren rr):=by
 cases s with
 |one s=>
  obtain⟨a,b,c,d,e,_,g⟩:=Sh.get_some h
  exact⟨a,b,c,d,e,g⟩
 |st t=>
  cases v with
  |agg cs=>
   simp only[SSh.get]at h
   obtain⟨x,l,hle,h⟩:=QcT t h
   split at h
   .refine⟨_,_,h,fun _ hp=>hp,fun _ _=>rfl,fun X y rr δ L _=>?_⟩
    simp only[SSh.put,BV.er,AV.ren,Qxp rr _ L]
    have:=hle.1 L
    rw[List.append_nil]at this
    exact .agg this
   .simp at h
  |_=>simp[SSh.get]at h
 |agg l=>
  cases v with
  |agg cs=>
   simp only[SSh.get]at h
   obtain⟨σ',x,h,hs,_,g⟩:=TL.get_some h
   exact⟨_,_,h,hs,fun _ _=>rfl,fun X y rr δ L hf=>by simp only[SSh.put,BV.er,AV.ren];exact .agg (g rr δ L hf)⟩
  |_=>simp[SSh.get]at h
theorem SL.get_some:∀{l:List SSh} {vs:List BV} {σ:Ren} {K:Ren->SL l->Option R},SL.get l vs σ K=some r->
  ∃σ' x,K σ' x=some r/\(∀p,p∈σ->p∈σ')/\∀(rr:Name->Name) (δ:Name->Nat) (L:Lens),Fit rr δ σ'->XN (erL L vs) (renL rr (erL (Qap L rr δ) (SL.put 0 l x)))
 |[],vs,σ,K,h=>by
  cases vs with
  |nil=>exact⟨_,_,h,fun _ hp=>hp,fun rr δ L _=>by simp only[SL.put,erL,renL];exact .nil⟩
  |cons v vs=>simp[SL.get]at h
 |s::l,vs,σ,K,h=>by
  cases vs with
  |nil=>simp[SL.get]at h
  |cons v vs=>
   simp only[SL.get]at h
   obtain⟨σ1,f,h,hs1,hf1,g1⟩:=SSh.get_some h
   obtain⟨σ2,x,h,hs2,g2⟩:=SL.get_some h
   refine⟨σ2,f _ x,h,fun p hp=>hs2 p (hs1 p hp),fun rr δ L hf=>?_⟩
   simp only[SL.put,erL,renL,hf1]
   exact .cons (g1 _ x rr δ L (hf.mono hs2)) (g2 rr δ L hf)
def OLe(rr:Name->Name)(δ:Name->Nat)(u:Nat)(L:Lens)(a b:BO):Prop:=(∃cs ds,a=.box cs/\b=.box ds/\XN (erL L cs) (renL rr (erL (Qap L rr δ) ds))/\(cs.all BV.isQ=true->ds=cs))\/(∃t l,a=.arr t l u/\b=.arr t l 0)\/∃es,a=.sm es/\b=.sm es
theorem OSh.get_some{o:OSh}{b:BO}{u:Nat}{σ:Ren}{K:Ren->o.T->Option R}(h:o.get b u σ K=some r):
  ∃σ' x,K σ' x=some r/\(∀p,p∈σ->p∈σ')/\∀(rr:Name->Name) (δ:Name->Nat) (L:Lens),Fit rr δ σ'->OLe rr δ u L b (o.put 0 x):=by
 cases o with
 |box l=>
  cases b with
  |box cs=>
   obtain⟨σ',x,h,hs,q,g⟩:=TL.get_some h
   exact⟨σ',x,h,hs,fun rr δ L hf=>.inl ⟨_,_,rfl,rfl,g rr δ L hf,q⟩⟩
  |arr t l=>simp[OSh.get]at h
  |sm es=>simp[OSh.get]at h
 |boxst t=>
  cases b with
  |box cs=>
   simp only[OSh.get]at h
   obtain⟨x,l,hle,h⟩:=QcT t h
   split at h
   .refine⟨_,_,h,fun _ hp=>hp,fun rr δ L _=>.inl ⟨_,_,rfl,rfl,?_,fun hq=>?_⟩⟩
    .rw[Qxp rr _ L]
     have:=hle.1 L
     rw[List.append_nil]at this
     exact this
    .have:=hle.2 hq
     rw[List.append_nil]at this
     exact this.symm
   .simp at h
  |arr t l=>simp[OSh.get]at h
  |sm es=>simp[OSh.get]at h
 |arr t=>
  cases b with
  |box cs=>simp[OSh.get]at h
  |sm es=>simp[OSh.get]at h
  |arr t' l=>
   simp only[OSh.get]at h
   split at h
   .rename_i he;subst he
    split at h
    .rename_i hq
     have:=nbe hq;subst this
     exact⟨_,_,h,fun _ hp=>hp,fun rr δ L _=>.inr (.inl ⟨_,_,rfl,rfl⟩)⟩
    .simp at h
   .simp at h
 |arrs t=>
  cases b with
  |box cs=>simp[OSh.get]at h
  |sm es=>simp[OSh.get]at h
  |arr t' l=>
   simp only[OSh.get]at h
   split at h
   .rename_i he;subst he
    split at h
    .rename_i hq
     have:=nbe hq;subst this
     exact⟨_,_,h,fun _ hp=>hp,fun rr δ L _=>.inr (.inl ⟨_,_,rfl,rfl⟩)⟩
    .simp at h
   .simp at h
 |sm=>
  cases b with
  |sm es=>exact⟨_,_,h,fun _ hp=>hp,fun rr δ L _=>.inr (.inr ⟨_,rfl,rfl⟩)⟩
  |box cs=>simp[OSh.get]at h
  |arr t l=>simp[OSh.get]at h
theorem OL.get_some{hs:HS}:∀{l:List (Name×OSh)} {σ:Ren} {K:Ren->OL l->Option R},OL.get l hs σ K=some r->
  ∃σ' x,K σ' x=some r/\(∀p,p∈σ->p∈σ')/\∀(rr:Name->Name) (δ:Name->Nat) (L:Lens),Fit rr δ σ'->∀n b,look n (OL.put 0 l x)=some b->∃a,look (rr n) hs=some a/\OLe rr δ (δ n) L a b
 |[],σ,K,h=>⟨_,_,h,fun _ hp=>hp,fun rr δ L _ n b hn=>by change look n []=some b at hn;simp[look]at hn⟩
 |p::l,σ,K,h=>by
  simp only[OL.get]at h
  split at h
  .rename_i m hm
   split at h
   .rename_i ob hob
    obtain⟨σ1,x,h,hs1,g1⟩:=OSh.get_some h
    obtain⟨σ2,y,h,hs2,g2⟩:=OL.get_some h
    refine⟨σ2,(x,y),h,fun q hq=>hs2 q (hs1 q hq),fun rr δ L hf n b hn=>?_⟩
    change look n ((p.1,p.2.put 0 x)::OL.put 0 l y)=some b at hn
    simp only[look]at hn
    split at hn
    .rename_i e
     cases hn
     have hfm:=hf p.1 m (hs2 _ (hs1 _ (ZB hm)))
     rw[<-e,hfm.1,hfm.2]
     exact⟨ob,hob,g1 rr δ L (hf.mono hs2)⟩
    .exact g2 rr δ L hf n b hn
   .simp at h
  .simp at h
theorem STL.get_some{ts:TS}:∀{l:List (Nat×SSh)} {σ:Ren} {K:Ren->STL l->Option R},STL.get l ts σ K=some r->
  ∃σ' x,K σ' x=some r/\(∀p,p∈σ->p∈σ')/\∀(rr:Name->Name) (δ:Name->Nat) (L:Lens),Fit rr δ σ'->∀n b,look n (STL.put 0 l x)=some b->∃a,look n ts=some a/\AVle (a.er L) ((b.er (Qap L rr δ)).ren rr)
 |[],σ,K,h=>⟨_,_,h,fun _ hp=>hp,fun rr δ L _ n b hn=>by change look n []=some b at hn;simp[look]at hn⟩
 |p::l,σ,K,h=>by
  simp only[STL.get]at h
  split at h
  .rename_i v hv
   obtain⟨σ1,f,h,hs1,hf1,g1⟩:=SSh.get_some h
   obtain⟨σ2,y,h,hs2,g2⟩:=STL.get_some h
   refine⟨σ2,f _ y,h,fun q hq=>hs2 q (hs1 q hq),fun rr δ L hf n b hn=>?_⟩
   change look n ((p.1,(p.2.put 0 _ (f _ y)).1)::STL.put 0 l (p.2.put 0 _ (f _ y)).2)=some b at hn
   simp only[look,hf1]at hn
   split at hn
   .rename_i e
    cases hn
    exact⟨v,by rw[<-e];exact hv,g1 _ y rr δ L (hf.mono hs2)⟩
   .exact g2 rr δ L hf n b hn
  .simp at h
end
/-
  The typed layer, part G: contracts of functions, calls. No project text.
-/
open Go
mutual
def BV.ren(σ:Name->Name)(δ:Name->Nat):BV->BV
 |.agg cs=>.agg (Qk6 σ δ cs)
 |.tup vs=>.tup (Qk6 σ δ vs)
 |.clo f cs=>.clo f (Qk6 σ δ cs)
 |.ref m o=>.ref (σ m) o
 |.own m u=>.own (σ m) (δ m+u)
 |.aref m u i o=>.aref (σ m) (δ m+u) i o
 |.view m u i o=>.view (σ m) (δ m+u) i o
 |.cut m u k=>.cut (σ m) (δ m+u) k
 |.mref m=>.mref (σ m)
 |x=>x
def Qk6(σ:Name->Name)(δ:Name->Nat):List BV->List BV
 |[]=>[]
 |x::r=>x.ren σ δ::Qk6 σ δ r
end
mutual
def BV.use(p:Name->Nat->Bool):BV->Bool
 |.agg cs=>BV.useL p cs
 |.tup vs=>BV.useL p vs
 |.clo _ cs=>BV.useL p cs
 |.own m u=>p m u
 |.aref m u _ _=>p m u
 |.view m u _ _=>p m u
 |.cut m u _=>p m u
 |_=>true
def BV.useL(p:Name->Nat->Bool):List BV->Bool
 |[]=>true
 |x::r=>x.use p && BV.useL p r
end
mutual
theorem Qxj{σ:Name->Name}{δ:Name->Nat}{L L':Lens}{p:Name->Nat->Bool}(hL:∀n u,p n u=true->L' (σ n) (δ n+u)=L n u):∀x:BV,x.use p=true->(x.er L).ren σ=(x.ren σ δ).er L'
 |.agg cs,h=>by simp only[BV.use]at h;simp only[BV.er,BV.ren,AV.ren,Qk7 hL cs h]
 |.tup cs,h=>by simp only[BV.use]at h;simp only[BV.er,BV.ren,AV.ren,Qk7 hL cs h]
 |.clo f cs,h=>by simp only[BV.use]at h;simp only[BV.er,BV.ren,AV.ren,Qk7 hL cs h,renL]
 |.ref _ _,_=>by simp only[BV.er,BV.ren,AV.ren]
 |.own n u,h=>by simp only[BV.use]at h;simp only[BV.er,BV.ren,AV.ren,hL n u h]
 |.aref n u _ _,h=>by simp only[BV.use]at h;simp only[BV.er,BV.ren,AV.ren,hL n u h]
 |.view n u _ _,h=>by simp only[BV.use]at h;simp only[BV.er,BV.ren,AV.ren,hL n u h]
 |.cut n u _,h=>by simp only[BV.use]at h;simp only[BV.er,BV.ren,AV.ren,hL n u h]
 |.mref _,_=>by simp only[BV.er,BV.ren,AV.ren]
 |.tep _,_=>by simp only[BV.er,BV.ren,AV.ren]
 |.any,_=>by simp only[BV.er,BV.ren,AV.ren]
 |.ub,_=>by simp only[BV.er,BV.ren,AV.ren]
 |.n _ _,_=>by simp only[BV.er,BV.ren,AV.ren]
 |.b _,_=>by simp only[BV.er,BV.ren,AV.ren]
 |.s _,_=>by simp only[BV.er,BV.ren,AV.ren]
 |.ts _ _ _,_=>by simp only[BV.er,BV.ren,AV.ren]
 |.nil,_=>by simp only[BV.er,BV.ren,AV.ren]
 |.v _,_=>by simp only[BV.er,BV.ren,AV.ren]
theorem Qk7{σ:Name->Name}{δ:Name->Nat}{L L':Lens}{p:Name->Nat->Bool}(hL:∀n u,p n u=true->L' (σ n) (δ n+u)=L n u):∀l:List BV,BV.useL p l=true->renL σ (erL L l)=erL L' (Qk6 σ δ l)
 |[],_=>by simp only[erL,renL,Qk6]
 |x::r,h=>by
  simp only[BV.useL,bae]at h
  simp only[erL,renL,Qk6,Qxj hL x h.1,Qk7 hL r h.2]
end
def BO.ren(σ:Name->Name)(δ:Name->Nat)(k:Nat):BO->BO
 |.box cs=>.box (Qk6 σ δ cs)
 |.arr t l v=>.arr t l (k+v)
 |.sm es=>.sm es
def BO.use(p:Name->Nat->Bool):BO->Bool
 |.box cs=>BV.useL p cs
 |.arr _ _ _=>true
 |.sm _=>true
theorem Qyr{σ:Name->Name}{δ:Name->Nat}{L L':Lens}{p:Name->Nat->Bool}(hL:∀n u,p n u=true->L' (σ n) (δ n+u)=L n u)(k:Nat)(o:BO)(h:o.use p=true):(o.er L).ren σ=(o.ren σ δ k).er L':=by
 cases o with
 |box cs=>simp only[BO.er,BO.ren,AO.ren,Qk7 hL cs h]
 |arr t l=>simp only[BO.er,BO.ren,AO.ren]
 |sm es=>simp only[BO.er,BO.ren,AO.ren]
def Qik(σ:Name->Name)(δ:Name->Nat)(hs:HS):HS:=hs.map fun p=>(σ p.1,p.2.ren σ δ (δ p.1))
theorem Qyp{σ:Name->Name}{δ:Name->Nat}{L L':Lens}{p:Name->Nat->Bool}(hL:∀n u,p n u=true->L' (σ n) (δ n+u)=L n u)(hs:HS)(h:hs.all (fun q=>q.2.use p)=true):renH σ (erH L hs)=erH L' (Qik σ δ hs):=by
 unfold renH erH Qik
 simp only[List.map_map]
 refine List.map_congr_left fun q hq=>?_
 simp only[Function.comp,Qyr hL (δ q.1) q.2 (List.all_eq_true.1 h q hq)]
theorem Qfn{σ:Name->Name}{δ:Name->Nat}(hσ:∀a b,σ a=σ b->a=b)(n:Name):∀h:HS,look (σ n) (Qik σ δ h)=(look n h).map (BO.ren σ δ (δ n))
 |[]=>rfl
 |(k,o)::r=>by
  show look (σ n) ((σ k,o.ren σ δ (δ k))::Qik σ δ r)=(look n ((k,o)::r)).map (BO.ren σ δ (δ n))
  simp only[look]
  by_cases e:k=n
  .simp[e]
  .rw[if_neg (fun h=>e (hσ _ _ h)),if_neg e];exact Qfn hσ n r
theorem Qf8{σ:Name->Name}{δ:Name->Nat}{m:Name}{o:BO}:∀{h:HS},look m (Qik σ δ h)=some o->∃n,σ n=m
 |[],h=>by simp[Qik,look]at h
 |(k,x)::r,h=>by
  change look m ((σ k,x.ren σ δ (δ k))::Qik σ δ r)=some o at h
  simp only[look]at h
  split at h
  .exact⟨k,by assumption⟩
  .exact Qf8 h
mutual
def BV.closed(ks:List Name):BV->Bool
 |.agg cs=>BV.closedL ks cs
 |.tup vs=>BV.closedL ks vs
 |.clo _ cs=>BV.closedL ks cs
 |.ref m _=>ks.contains m
 |.own m _=>ks.contains m
 |.aref m _ _ _=>ks.contains m
 |.view m _ _ _=>ks.contains m
 |.cut m _ _=>ks.contains m
 |.mref m=>ks.contains m
 |_=>true
def BV.closedL(ks:List Name):List BV->Bool
 |[]=>true
 |x::r=>x.closed ks && BV.closedL ks r
end
mutual
theorem Qoj(L:Lens)(ks:List Name):∀x:BV,(x.er L).closed ks=x.closed ks
 |.agg cs=>by simp only[BV.er,AV.closed,BV.closed,Qci L ks cs]
 |.tup cs=>by simp only[BV.er,AV.closed,BV.closed,Qci L ks cs]
 |.clo f cs=>by simp only[BV.er,AV.closed,BV.closed,Qci L ks cs,AV.closedL,Bool.true_and]
 |.ref _ _=>by simp only[BV.er,AV.closed,BV.closed]
 |.own _ _=>by simp only[BV.er,AV.closed,BV.closed]
 |.aref _ _ _ _=>by simp only[BV.er,AV.closed,BV.closed]
 |.view _ _ _ _=>by simp only[BV.er,AV.closed,BV.closed]
 |.cut _ _ _=>by simp only[BV.er,AV.closed,BV.closed]
 |.mref _=>by simp only[BV.er,AV.closed,BV.closed]
 |.tep _=>by simp only[BV.er,AV.closed,BV.closed]
 |.any=>by simp only[BV.er,AV.closed,BV.closed]
 |.ub=>by simp only[BV.er,AV.closed,BV.closed]
 |.n _ _=>by simp only[BV.er,AV.closed,BV.closed]
 |.b _=>by simp only[BV.er,AV.closed,BV.closed]
 |.s _=>by simp only[BV.er,AV.closed,BV.closed]
 |.ts _ _ _=>by simp only[BV.er,AV.closed,BV.closed]
 |.nil=>by simp only[BV.er,AV.closed,BV.closed]
 |.v _=>by simp only[BV.er,AV.closed,BV.closed]
theorem Qci(L:Lens)(ks:List Name):∀l:List BV,AV.closedL ks (erL L l)=BV.closedL ks l
 |[]=>by simp only[erL,AV.closedL,BV.closedL]
 |x::r=>by simp only[erL,AV.closedL,BV.closedL,Qoj L ks x,Qci L ks r]
end
def BO.closed(ks:List Name):BO->Bool
 |.box cs=>BV.closedL ks cs
 |.arr _ _ _=>true
 |.sm _=>true
theorem Qse(L:Lens)(ks:List Name)(o:BO):(o.er L).closed ks=o.closed ks:=by cases o<;>simp only[BO.er,AO.closed,BO.closed,Qci]
def QxI(pre h:HS)(nw:List Name)(v:BV):Bool:=
 (keys h).all (fun n=>(keys pre).contains n || nw.contains n) && nw.all (fun n=>(keys h).contains n && !(keys pre).contains n) && v.closed (keys h) && h.all (fun p=>p.2.closed (keys h))
theorem QvS{L0 L1:Lens}{pre h:HS}{nw:List Name}{v:BV}(hb:QxI pre h nw v=true):Qg1 (erH L0 pre) (erH L1 h) nw (v.er L1)=true:=by
 unfold QxI at hb
 unfold Qg1
 rw[Qc4,Qc4,Qoj]
 have:(erH L1 h).all (fun p=>p.2.closed (keys h))=h.all (fun p=>p.2.closed (keys h)):=by
  unfold erH;rw[List.all_map];congr 1;funext p;simp only[Function.comp,Qse]
 rw[this];exact hb
structure Sig where
 args:List SSh
 pre:List (Name×OSh)
 res:List SSh
 post:List (Name×OSh)
 keep:List Name
 F:(R:Type)->SL args->OL pre->(SL res->OL post->Option R)->Option R
def resB:List BV->BV
 |[v]=>v
 |vs=>.tup vs
def Sig.posts(g:Sig)(y:OL g.pre)(b:OL g.post):HS:=OL.put 1 g.post b++(OL.put 0 g.pre y).filter (fun p=>g.keep.contains p.1)
def Qbo:List (Name×OSh)->List Name
 |[]=>[]
 |(n,.arrs _)::r=>n::Qbo r
 |(_,.arr _)::r=>Qbo r
 |(_,.box _)::r=>Qbo r
 |(_,.boxst _)::r=>Qbo r
 |(_,.sm)::r=>Qbo r
structure FnOK (P:Program) (k:FuncId) (g:Sig):Prop where
 nat:∀(R:Type) x y (K:SL g.res->OL g.post->Option R) r,g.F R x y K=some r->∃a b,g.F (SL g.res×OL g.post) x y (fun a b=>some (a,b))=some (a,b)/\K a b=some r
 spec:∀x y a b,g.F (SL g.res×OL g.post) x y (fun a b=>some (a,b))=some (a,b)->∀L0,Inv L0 (OL.put 0 g.pre y)->∃L1:Lens,(∀n,n∈g.keep\/n∈Qbo g.post->L1 n 0=L0 n 0)/\Inv L1 (g.posts y b)/\
  Qcf P k (erL L0 (SL.put 0 g.args x)) (erH L0 (OL.put 0 g.pre y)) ((resB (SL.put 1 g.res a)).er L1) (erH L1 (g.posts y b))
def Qk8(m:Ren):Name->Name:=fun n=>match look n m with|some a=>a.1|none=>n+10000000000
def QhM(m:Ren):Name->Nat:=fun n=>match look n m with|some a=>a.2|none=>0
def Qmd(n a u:Nat):Ren->Bool
 |[]=>false
 |(k,b)::r=>if Nat.beq k n then Nat.beq b.1 a && Nat.beq b.2 u else Qmd n a u r
theorem Qkr{n a u:Nat}:∀{m:Ren},Qmd n a u m=true->look n m=some (a,u)
 |[],h=>by simp[Qmd]at h
 |(k,b)::r,h=>by
  simp only[Qmd]at h
  simp only[look]
  split at h
  .rename_i e
   simp only[bae]at h
   rw[if_pos (nbe e),<-nbe h.1,<-nbe h.2]
  .rename_i e;rw[if_neg (fun e'=>e (by rw[e'];exact Nat.beq_refl _))];exact Qkr h
def Qyq(m:Ren):Bool:=m.all fun p=>Qmd p.1 p.2.1 p.2.2 m && Nat.blt p.2.1 10000000000 && m.all fun q=>Nat.beq p.1 q.1 || !Nat.beq p.2.1 q.2.1
theorem Qu0{m:Ren}(h:Qyq m=true):Fit (Qk8 m) (QhM m) m:=fun nm a hm=>by
 have:=List.all_eq_true.1 h _ hm
 simp only[bae]at this
 unfold Qk8 QhM;rw[Qkr this.1.1];exact⟨rfl,rfl⟩
theorem Qu1{m:Ren}(h:Qyq m=true):∀a b,Qk8 m a=Qk8 m b->a=b:=fun a b e=>by
 unfold Qk8 at e
 have hb:∀{n x},look n m=some x->x.1<10000000000:=fun{n x} hx=>by
  have:=List.all_eq_true.1 h _ (ZB hx)
  simp only[bae,Nat.blt_eq]at this
  exact this.1.2
 cases ha:look a m with
 |none=>
  cases hb':look b m with
  |none=>rw[ha,hb']at e;exact Nat.add_right_cancel e
  |some y=>rw[ha,hb']at e;have h1:(y.1:Nat)<10000000000:=hb hb';have h2:(a:Nat)+10000000000=(y.1:Nat):=e;exact absurd h1 (by rw[<-h2];exact Nat.not_lt.2 (Nat.le_add_left _ _))
 |some x=>
  cases hb':look b m with
  |none=>rw[ha,hb']at e;have h1:(x.1:Nat)<10000000000:=hb ha;have h2:(x.1:Nat)=(b:Nat)+10000000000:=e;exact absurd h1 (by rw[h2];exact Nat.not_lt.2 (Nat.le_add_left _ _))
  |some y=>
   rw[ha,hb']at e
   simp only at e
   have:=List.all_eq_true.1 h _ (ZB ha)
   simp only[bae]at this
   have:=List.all_eq_true.1 this.2 _ (ZB hb')
   simp only[e,Nat.beq_refl,Bool.not_true,Bool.or_false]at this
   exact nbe this
def Qb6(d:Nat)(g:Sig):Ren:=((keys g.post).filter fun n=>!(keys g.pre).contains n).map fun n=>(n,(1000000+1000*d+n,0))
def Wr:List (Name×OSh)->List Name
 |[]=>[]
 |(n,.arr _)::r=>n::Wr r
 |(_,.box _)::r=>Wr r
 |(_,.arrs _)::r=>Wr r
 |(_,.boxst _)::r=>Wr r
 |(_,.sm)::r=>Wr r
def hpOf(rr:Name->Name)(hs:HS):List Name->HS
 |[]=>[]
 |n::r=>match look (rr n) hs with
  |some ob=>(rr n,ob)::hpOf rr hs r
  |none=>hpOf rr hs r
def Qgk(g:Sig)(m:Ren)(d:Nat)(hs:HS)(y:OL g.pre)(a:SL g.res)(b:OL g.post):BEff:=
 ⟨hpOf (Qk8 m) hs (keys g.pre),(resB (SL.put 1 g.res a)).ren (Qk8 m) (QhM m),Qik (Qk8 m) (QhM m) (g.posts y b),(Qb6 d g).map (·.2.1),((Wr g.post).filter fun n=>(keys g.pre).contains n).map fun n=>(Qk8 m n,QhM m n+1)⟩
def Qs2(g:Sig)(n u:Nat):Bool:=match u with
 |0=>isIn n g.keep || isIn n (Qbo g.post)
 |1=>isIn n (Wr g.post)
 |_=>false
def QtF(g:Sig)(m:Ren)(d:Nat)(hs:HS)(y:OL g.pre)(a:SL g.res)(b:OL g.post):Bool:=
 Qyq m && QxI (Qgk g m d hs y a b).hp (Qgk g m d hs y a b).upd (Qgk g m d hs y a b).nw (Qgk g m d hs y a b).v &&
 (resB (SL.put 1 g.res a)).use (Qs2 g) && (g.posts y b).all (fun q=>q.2.use (Qs2 g)) &&
 g.keep.all (fun n=>(keys g.pre).contains n && !(keys g.post).contains n)
/-
  The typed layer, part R: parts of lists and of arrays of ours, clear, copy, closures that are made, arrays that are values. No project text.
-/
section
variable {L L':Lens} {ts ts':TS} {hs hs':HS}
section
variable {R:Type} (P:Program) (ty:TypeId->Option TC) (rd:TS) (hs:HS) (K:BEff->Option R)
def bndB(x:Operand)(k:Nat->Option R):Option R:=match ZN rd x with
 |some (.n k' j)=>if kEq .i64 k' then natc j k else none
 |_=>none
def Qtw(T:TypeId)(x:Operand)(lo hi mx:Option Operand):Option R:=match ZN rd x,Vy P T,mx with
 |some (.ts f t l),some e,none=>match ZK P e,lo,hi with
  |some es,some lo,none=>if Nat.beq es (tz t)then bndB rd lo fun k=>lec k l.length (K (ev (.ts f t (l.drop k))))else none
  |some es,none,some hi=>if Nat.beq es (tz t)then bndB rd hi fun m=>lec m l.length (K (ev (.ts false t (l.take m))))else none
  |some es,some lo,some hi=>if Nat.beq es (tz t)then bndB rd lo fun k=>bndB rd hi fun m=>lec k m (lec m l.length (K (ev (.ts false t ((l.take m).drop k)))))else none
  |_,_,_=>none
 |some (.own n u),some e,none=>match look n hs,ZK P e with
  |some (.arr t l q),some es=>if Nat.beq es (tz t) && Nat.beq u q then(match lo,hi with
    |some lo,none=>bndB rd lo fun k=>lec k l.length (K ⟨[(n,.arr t l q)],.view n u k l.length,[],[],[]⟩)
    |none,some hi=>bndB rd hi fun m=>lec m l.length (K ⟨[(n,.arr t l q)],.view n u 0 m,[],[],[]⟩)
    |_,_=>none)else none
  |_,_=>none
 |some (.own n u),some e,some mx=>match look n hs,ZK P e,lo,hi with
  |some (.arr t l q),some es,none,some hi=>if Nat.beq es (tz t) && Nat.beq u q then bndB rd hi fun k=>bndB rd mx fun m=>chk k m (lec k l.length (K ⟨[(n,.arr t l q)],.cut n u k,[],[],[]⟩))else none
  |_,_,_,_=>none
 |some (.view n u a b),some e,none=>match look n hs,ZK P e with
  |some (.arr t l q),some es=>if Nat.beq es (tz t) && Nat.beq u q then(match lo,hi with
    |some lo,none=>bndB rd lo fun k=>ltc k (b - a) (K ⟨[(n,.arr t l q)],.view n u (a+k) (a+(b - a)),[],[],[]⟩)
    |none,some hi=>bndB rd hi fun m=>lec m (b - a) (K ⟨[(n,.arr t l q)],.view n u (a+0) (a+m),[],[],[]⟩)
    |_,_=>none)else none
  |_,_=>none
 |_,_,_=>none
def Qts(T:TypeId)(x:Operand):Option R:=match ZN rd x,Vy P T with
 |some (.view n u i hi),some e=>match look n hs,ZK P e,Qs4 P e with
  |some (.arr t l q),some es,some zs=>if Nat.beq es (tz t) && Nat.beq zs.length es && zs.all BV.isP && Nat.beq u q then lec i hi (lec hi l.length (tpop t zs fun z rest=>match rest with
    |[]=>K ⟨[(n,.arr t l q)],.tup [],[(n,.arr t (l.take i++List.replicate (hi - i) z++l.drop hi) q)],[],[]⟩
    |_=>none))else none
  |_,_,_=>none
 |_,_=>none
def Qxw(T:TypeId)(x y:Operand):Option R:=match ZN rd x,ZN rd y,Vy P T with
 |some (.view n u i hi),some (.view m v j hj),some e=>match look n hs,ZK P e with
  |some (.arr t l q),some es=>if Nat.beq n m && Nat.beq v q && Nat.beq es (tz t) && Nat.beq u q then chk hi l.length (chk hj l.length (lec i l.length (lec j i
    (K ⟨[(n,.arr t l q)],.n .i64 ((l.length - i:Nat):Int),[(n,.arr t (l.take i++(l.drop j).take (l.length - i)) q)],[],[]⟩))))else none
  |_,_=>none
 |_,_,_=>none
def Qqe:List BV->Option (List Int)
 |[]=>some []
 |.n k x::r=>if kEq .i64 k then(match Qqe r with|some l=>some (x::l)|none=>none)else none
 |_=>none
def bCmp(op:BinOp)(T:TypeId)(a b:List BV):Option R:=match Qqe a,Qqe b with
 |some p,some q=>if Quf P T p.length && Nat.beq q.length p.length then(match op with
   |.eql=>K (ev (.b (decide (p=q))))
   |.neq=>K (ev (.b (decide (p≠q))))
   |_=>none)else none
 |_,_=>none
def nilO:Operand->Bool
 |.const (.slice none 0 0)=>true
 |_=>false
def bNil(op:BinOp)(T:TypeId)(x:BV):Option R:=match eqOp op,Vy P T,x with
 |some q,some _,.ts _ _ l=>nilC l (K (ev .ub)) (K (ev (.b (!q))))
 |some q,some _,.nil=>K (ev .ub)
 |_,_,_=>none
def Qxs(op:BinOp)(T:TypeId)(x y:Operand):Option R:=match ZN rd x,ZN rd y with
 |some (.agg a),some (.agg b)=>bCmp P K op T a b
 |some x,some .nil=>if nilO y then bNil P K op T x else none
 |_,_=>bBin P rd K op T x y
def QsI(c:Int):List BV->Nat->(Nat->BV->Option R)->Option R
 |[],_,_=>none
 |v::r,i,k=>cnd (decide (c=(i:Int))) (k i v) (QsI c r (i+1) k)
def Qp3(T:TypeId)(x y:Operand):Option R:=match ZN rd x,ZN rd y,P.underlying T with
 |some (.agg cs),some (.n k j),some (.array len e)=>if kEq .i64 k && Qer P e && Nat.beq len cs.length then(match ZK P e with
   |some 1=>QsI j cs 0 fun _ v=>K (ev v)
   |_=>none)else none
 |_,_,_=>none
def QjN(T:TypeId)(x y:Operand):Option R:=match ZN rd x,ZN rd y,P.underlying T with
 |some (.ref n k),some (.n _ j),some (.array len e)=>match look n hs,ZK P e with
  |some (.box cells),some es=>QsI j (List.replicate len .any) 0 fun i _=>K ⟨[(n,.box cells)],.ref n (k+i*es),[],[],[]⟩
  |_,_=>none
 |_,_,_=>none
def cntB(k:ByteArray):List (ByteArray×Bool)->Nat
 |[]=>0
 |p::r=>if k=p.1 then cntB k r+1 else cntB k r
def memB(k:ByteArray):List (ByteArray×Bool)->Bool
 |[]=>false
 |p::r=>if k=p.1 then p.2 else memB k r
def isK(P:Program)(T:TypeId):Bool:=match P.underlying T with
 |some (.map K E)=>(match P.underlying K with|some .string=>true|_=>false) && (match Qs5 P E with|some (.bool false)=>true|_=>false)
 |_=>false
def QmL(d:Option Nat)(T:TypeId):Option R:=match d with
 |some d=>if isK P T then K ⟨[],.mref (1000+d),[(1000+d,.sm [])],[1000+d],[]⟩else none
 |none=>none
def Qp4(T:TypeId)(x y:Operand):Option R:=match ZN rd x,ZN rd y with
 |some (.mref n),some (.s k)=>match look n hs with
  |some (.sm es)=>if isK P T then K ⟨[(n,.sm es)],.b (memB k es),[],[],[]⟩else none
  |_=>none
 |_,_=>none
def QxF(d:Option Nat)(T:TypeId)(x y z:Operand):Option R:=match d,ZN rd x,ZN rd y,ZN rd z with
 |none,some (.mref n),some (.s k),some (.b v)=>match look n hs with
  |some (.sm es)=>if isK P T then chk (cntB k es) 0 (K ⟨[(n,.sm es)],.any,[(n,.sm (es++[(k,v)]))],[],[]⟩)else none
  |_=>none
 |_,_,_,_=>none
def QxX:BV->Bool
 |.agg _=>false
 |.tup _=>false
 |_=>true
def Qxx(fn:Fn)(first caps:Array Operand):Option R:=match first.toList,Qg9 rd caps.toList with
 |[],some cs=>if cs.all QxX then K (ev (.clo fn cs))else none
 |_,_=>none
end
section
variable {R:Type} {P:Program} {ty:TypeId->Option TC} {rd:TS} {K:BEff->Option R} {r:R} {o:Oper}
theorem W8{x:Operand}{k:Nat->Option R}(h:bndB rd x k=some r):∃i:Nat,ZN rd x=some (.n .i64 (i:Int))/\k i=some r:=by
 unfold bndB at h
 split at h
 .rename_i k' j hx
  split at h
  .rename_i hk
   have:=Qf7 hk;subst this
   obtain⟨i,rfl,h⟩:=UY h
   exact⟨i,hx,h⟩
  .simp at h
 .simp at h
theorem Qgw{x:Operand}{i d:Nat}(h:ZN rd x=some (.n .i64 (i:Int)))(L:Lens):optB (erT L rd) d (some x)=some (i:Int):=by
 have:=Qh L h
 simp only[BV.er]at this
 simp only[optB,this]
theorem Good.wrArrV{n:Name}{t:TC}{l l':List (TT t)}{q:Nat}{v:BV}(hc:look n hs=some (.arr t l q))(hl:l'.length=l.length)(h:∀L,Inv L hs->OpOK P o ⟨erT L rd,[(n,.arr (tz t) (l.map (tcells t)))],v.er L,[(n,.arr (tz t) (l'.map (tcells t)))],[]⟩):Good P o rd hs ⟨[(n,.arr t l q)],v,[(n,.arr t l' q)],[],[]⟩:=
 ⟨hp1 hc,fun L hL=>⟨L,fun _ _ _ _=>rfl,fun m t' l2 u hm=>by
  simp only[List.cons_append,List.nil_append,look]at hm
  split at hm
  .rename_i e;subst e;cases hm;rw[hl];exact hL _ t l q hc
  .exact hL m t' l2 u hm,h L hL⟩⟩
theorem Qtx{T:TypeId}{x:Operand}{lo hi mx:Option Operand}(ho:o.op=.slice T x lo hi mx)(h:Qtw P rd hs K T x lo hi mx=some r):Does P o rd hs K r:=by
 unfold Qtw at h
 split at h
 .rename_i f t l e hx he
  split at h
  .rename_i es lo hz
   split at h
   .rename_i hb
    have:=nbe hb;subst this
    obtain⟨k,hk,h⟩:=W8 h
    obtain⟨hkl,h⟩:=ZP h
    refine⟨_,h,.ev fun L _=>?_⟩
    have h1:=Qh L hx
    have h2:=Qh L hk
    simp only[BV.er]at h1 h2 |-
    exact OpOK.sliceLo ho (Qr he) hz h1 h2 rfl (by rw[List.length_map];exact hkl) (by rw[List.map_drop])
   .simp at h
  .rename_i es hi hz
   split at h
   .rename_i hb
    have:=nbe hb;subst this
    obtain⟨m,hm,h⟩:=W8 h
    obtain⟨hml,h⟩:=ZP h
    refine⟨_,h,.ev fun L _=>?_⟩
    have h1:=Qh L hx
    simp only[BV.er]at h1 |-
    have:=OpOK.sliceP (P:=P) (o:=o) (k:=0) (m:=m) ho (Qr he) hz h1 (by simp[optB]) (Qgw hm L) (Nat.zero_le _) (by rw[List.length_map];exact hml)
    simp_all
   .simp at h
  .rename_i es lo hi hz
   split at h
   .rename_i hb
    have:=nbe hb;subst this
    obtain⟨k,hk,h⟩:=W8 h
    obtain⟨m,hm,h⟩:=W8 h
    obtain⟨hkm,h⟩:=ZP h
    obtain⟨hml,h⟩:=ZP h
    refine⟨_,h,.ev fun L _=>?_⟩
    have h1:=Qh L hx
    simp only[BV.er]at h1 |-
    have:=OpOK.sliceP (P:=P) (o:=o) (k:=k) (m:=m) ho (Qr he) hz h1 (Qgw hk L) (Qgw hm L) hkm (by rw[List.length_map];exact hml)
    simp_all
   .simp at h
  .simp at h
 .rename_i n u e hx he
  split at h
  .rename_i t l q es hc hz
   split at h
   .rename_i hb
    simp only[bae]at hb
    have:=nbe hb.1;subst this
    have hlen:∀{L:Lens},Inv L hs->L n u=l.length:=fun hL=>by rw[nbe hb.2];exact hL n t l q hc
    split at h
    .rename_i lo
     obtain⟨k,hk,h⟩:=W8 h
     obtain⟨hkl,h⟩:=ZP h
     refine⟨_,h,.val (hp1 hc) fun L hL=>?_⟩
     have h1:=Qh L hx
     simp only[BV.er]at h1 |-
     exact OpOK.sliceView ho (Qr he) hz h1 (Qgw hk L) (by simp[optB,hlen hL]) (XO hL hc hb.2) hkl (by rw[List.length_map];exact Nat.le_refl _)
    .rename_i hi
     obtain⟨m,hm,h⟩:=W8 h
     obtain⟨hml,h⟩:=ZP h
     refine⟨_,h,.val (hp1 hc) fun L hL=>?_⟩
     have h1:=Qh L hx
     simp only[BV.er]at h1 |-
     exact OpOK.sliceView ho (Qr he) hz h1 (by simp[optB]) (Qgw hm L) (XO hL hc hb.2) (Nat.zero_le _) (by rw[List.length_map];exact hml)
    .simp at h
   .simp at h
  .simp at h
 .rename_i n u e mx hx he
  split at h
  .rename_i t l q es hi hc hz
   split at h
   .rename_i hb
    simp only[bae]at hb
    have:=nbe hb.1;subst this
    obtain⟨k,hk,h⟩:=W8 h
    obtain⟨m,hm,h⟩:=W8 h
    obtain⟨hkm,h3⟩:=Qfh h
    subst hkm
    obtain⟨hkl,h4⟩:=ZP h3
    refine⟨_,h4,.val (hp1 hc) fun L hL=>?_⟩
    have h1:=Qh L hx
    simp only[BV.er]at h1 |-
    exact OpOK.sliceCut ho (Qr he) hz h1 (Q9 L hk) (Q9 L hm) rfl (XO hL hc hb.2) (by rw[List.length_map];exact hkl)
   .simp at h
  .simp at h
 .rename_i n u a b e hx he
  split at h
  .rename_i t l q es hc hz
   split at h
   .rename_i hb
    simp only[bae]at hb
    have:=nbe hb.1;subst this
    split at h
    .rename_i lo
     obtain⟨k,hk,h⟩:=W8 h
     obtain⟨hkl,h⟩:=Qhj h
     refine⟨_,h,.val (hp1 hc) fun L hL=>?_⟩
     have h1:=Qh L hx
     simp only[BV.er]at h1 |-
     exact OpOK.sliceView2 ho (Qr he) hz h1 (Qgw hk L) (by simp[optB]) (XO hL hc hb.2) (Nat.le_of_lt hkl) (Nat.le_refl _) (.inr (.inr hkl))
    .rename_i hi
     obtain⟨m,hm,h⟩:=W8 h
     obtain⟨hml,h⟩:=ZP h
     refine⟨_,h,.val (hp1 hc) fun L hL=>?_⟩
     have h1:=Qh L hx
     simp only[BV.er]at h1 |-
     exact OpOK.sliceView2 (k:=0) ho (Qr he) hz h1 (by simp[optB]) (Qgw hm L) (XO hL hc hb.2) (Nat.zero_le _) hml (.inr (.inl rfl))
    .simp at h
   .simp at h
  .simp at h
 .simp at h
theorem QwA{T:TypeId}{cs:List BV}(h:Qs4 P T=some cs)(hp:cs.all BV.isP=true):UH P T=some (pvL cs):=by
 unfold UH
 rw[QjD (fun _ _=>0) h]
 simp only
 exact Qni _ hp
theorem Qtt{T:TypeId}{x:Operand}{ats:Array TypeId}(ho:o.op=.call { callee:=.builtin .clear,args:=#[x],argTypes:=ats })(hat:ats[0]?=some T)(h:Qts P rd hs K T x=some r):Does P o rd hs K r:=by
 unfold Qts at h
 split at h
 case h_2=>simp at h
 rename_i n u i hi e hx he
 split at h
 case h_2=>simp at h
 rename_i t l q es zs hc hz hzs
 split at h
 case isFalse=>simp at h
 rename_i hb
 simp only[bae]at hb
 have:=nbe hb.1.1.1;subst this
 obtain⟨hih,h⟩:=ZP h
 obtain⟨hil,h⟩:=ZP h
 obtain⟨z,rest,hle,h⟩:=QcT t h
 split at h
 case h_2=>simp at h
 refine⟨_,h,.wrArrV hc (by simp;omega) fun L hL=>?_⟩
 have h1:=Qh L hx
 have hlen:L n u=l.length:=by rw[nbe hb.2];exact hL n t l q hc
 simp only[BV.er,erL]at h1 |-
 have hcs:=QmF hle hb.1.2
 refine OpOK.arrLe (OpOK.clearView (P:=P) (rows:=l.map (tcells t)) (i:=i) (m:=hi) ho hat (Qr he) hz (QwA hzs hb.1.2) (by rw[Qcv];exact nbe hb.1.1.2) h1 (XO hL hc hb.2) hih (by rw[List.length_map];exact hil) rfl) ?_
 rw[List.map_append,List.map_append,List.map_take,List.map_drop,List.map_replicate]
 refine Y4.append (Y4.append (Y4.refl _) (Y4.nth Ob fun j a b ha hb=>?_)) (Y4.refl _)
 grind
theorem QvK{T:TypeId}{x y:Operand}(ho:o.op=.call { callee:=.builtin .copy,args:=#[x,y],argTypes:=#[T,T] })(h:Qxw P rd hs K T x y=some r):Does P o rd hs K r:=by
 unfold Qxw at h
 split at h
 case h_2=>simp at h
 rename_i n u i hi m v j hj e hx hy he
 split at h
 case h_2=>simp at h
 rename_i t l q es hc hz
 split at h
 case isFalse=>simp at h
 rename_i hb
 simp only[bae]at hb
 have:=nbe hb.1.1.1;subst this
 have:=nbe hb.1.2;subst this
 replace h:=Qfh h
 obtain⟨e1,h⟩:=h
 subst e1
 replace h:=Qfh h
 obtain⟨e2,h⟩:=h
 subst e2
 obtain⟨hil,h⟩:=ZP h
 obtain⟨hji,h⟩:=ZP h
 have huv:v=u:=by rw[nbe hb.1.1.2,nbe hb.2]
 subst huv
 refine⟨_,h,.wrArrV hc (by simp;omega) fun L hL=>?_⟩
 have h1:=Qh L hx
 have h2:=Qh L hy
 have hlen:L n v=l.length:=by rw[nbe hb.2];exact hL n t l q hc
 simp only[BV.er]at h1 h2 |-
 exact OpOK.copyView (rows:=l.map (tcells t)) ho rfl (Qr he) hz (by rw[h1,hlen]) (by rw[h2,hlen]) (XO hL hc hb.2) (by rw[List.length_map];exact hil) hji (by rw[List.map_append,List.map_take,List.map_take,List.map_drop,List.length_map]) (by rw[List.length_map])
theorem Qru{T:TypeId}(h:isK P T=true):∃K E,P.underlying T=some (.map K E)/\P.underlying K=some .string/\Qs5 P E=some (.bool false):=by
 unfold isK at h
 grind
theorem QoN(k:ByteArray):∀es:List (ByteArray×Bool),(Qi2 k (es.map fun p=>(p.1,Value.bool p.2))).getD (.bool false)=.bool (memB k es)
 |[]=>rfl
 |p::r=>by
  simp only[List.map_cons,Qi2,memB]
  split
  .rfl
  .exact QoN k r
theorem Qok(k:ByteArray):∀es:List (ByteArray×Bool),cntB k es=0->Qi2 k (es.map fun p=>(p.1,Value.bool p.2))=none
 |[],_=>rfl
 |p::r,h=>by
  simp only[cntB]at h
  simp only[List.map_cons,Qi2]
  split at h
  .omega
  .rename_i e;rw[if_neg e];exact Qok k r h
theorem Inv.sm{L:Lens}{n:Name}{es:List (ByteArray×Bool)}(hL:Inv L hs):Inv L ((n,.sm es)::hs):=fun m t l u hm=>by
 simp only[look]at hm
 split at hm
 .cases hm
 .exact hL m t l u hm
theorem Qp5{T:TypeId}(ho:o.op=.makeMap T none)(h:QmL P K o.dst T=some r):Does P o rd hs K r:=by
 unfold QmL at h
 split at h
 .rename_i d hd
  split at h
  .refine⟨_,h,fun _ _ h=>by simp at h,fun L hL=>⟨L,fun _ _ _ _=>rfl,Inv.sm hL,?_⟩⟩
   have:=OpOK.makeMap (P:=P) (o:=o) (rd:=erT L rd) (n:=1000+d) ho
   simpa only[BV.er,erH,List.map_cons,List.map_nil,BO.er]using this
  .simp at h
 .simp at h
theorem Qsa{T:TypeId}{x y:Operand}(ho:o.op=.lookup T x y false)(h:Qp4 P rd hs K T x y=some r):Does P o rd hs K r:=by
 unfold Qp4 at h
 split at h
 .rename_i n k hx hy
  split at h
  .rename_i es hc
   split at h
   .rename_i hk
    obtain⟨Kt,E,h1,h2,h3⟩:=Qru hk
    refine⟨_,h,.val (hp1 hc) fun L hL=>?_⟩
    have k1:=Qh L hx
    have k2:=Qh L hy
    simp only[BV.er]at k1 k2 |-
    exact OpOK.lookup ho h1 h2 h3 k1 k2 (QoN k es) rfl
   .simp at h
  .simp at h
 .simp at h
theorem QvP{T:TypeId}{x y z:Operand}(ho:o.op=.mapUpdate T x y z)(h:QxF P rd hs K o.dst T x y z=some r):Does P o rd hs K r:=by
 unfold QxF at h
 split at h
 .rename_i n k v hd hx hy hz
  split at h
  .rename_i es hc
   split at h
   .rename_i hk
    obtain⟨Kt,E,h1,h2,h3⟩:=Qru hk
    obtain⟨h0,h⟩:=Qfh h
    refine⟨_,h,hp1 hc,fun L hL=>⟨L,fun _ _ _ _=>rfl,Inv.sm hL,?_⟩⟩
    have k1:=Qh L hx
    have k2:=Qh L hy
    have k3:=Qh L hz
    simp only[BV.er]at k1 k2 k3 |-
    have:=OpOK.putS (P:=P) (o:=o) (rd:=erT L rd) hd (.inl ho) h1 h2 k1 k2 k3 (Qok k es h0) (by rw[show es.map (fun p=>(p.1,Value.bool p.2))++[(k,Value.bool v)]=(es++[(k,v)]).map fun p=>(p.1,Value.bool p.2)from by simp])
    simpa only[erH,List.map_cons,List.map_nil,BO.er]using this
   .simp at h
  .simp at h
 .simp at h
theorem Qv0{x:BV}(h:QxX x=true)(L:Lens):QiE (x.er L)=true:=by
 cases x<;>simp only[QxX,BV.er,QiE,Bool.false_eq_true]at h |-
theorem QvL{fn:Fn}{first caps:Array Operand}(ho:o.op=.makeFunc fn first caps)(h:Qxx rd K fn first caps=some r):Does P o rd hs K r:=by
 unfold Qxx at h
 split at h
 .rename_i cs hf hcs
  split at h
  .rename_i hall
   refine⟨_,h,.ev fun L _=>?_⟩
   simp only[BV.er]
   refine OpOK.makeFunc ho (by rw[hf];rfl) (Qep L hcs) rfl ?_
   rw[VF,List.all_map]
   exact List.all_eq_true.2 fun c hc=>Qv0 (List.all_eq_true.1 hall c hc) L
  .simp at h
 .simp at h
theorem Qib{c:Int}:∀{cs:List BV} {i:Nat} {k:Nat->BV->Option R},QsI c cs i k=some r->∃j v,cs[j]?=some v/\c=((i+j:Nat):Int)/\k (i+j) v=some r
 |[],i,k,h=>by simp[QsI]at h
 |v::q,i,k,h=>by
  simp only[QsI]at h
  rcases Qg2 h with⟨e,h⟩|⟨e,h⟩
  .exact⟨0,v,rfl,by simpa using e,h⟩
  .obtain⟨j,v',h1,h2,h3⟩:=Qib h
   exact⟨j+1,v',by simpa using h1,by rw[h2];congr 1;omega,by rw[show i+(j+1)=i+1+j by omega];exact h3⟩
theorem Qr9{T:TypeId}{x y:Operand}(ho:o.op=.index T x y)(h:Qp3 P rd K T x y=some r):Does P o rd hs K r:=by
 unfold Qp3 at h
 split at h
 .rename_i cs k j len e hx hy hT
  split at h
  .rename_i hb
   simp only[bae]at hb
   have:=Qf7 hb.1.1;subst this
   split at h
   .rename_i hz
    obtain⟨i,v,h1,h2,h⟩:=Qib h
    refine⟨_,h,.ev fun L _=>?_⟩
    have k1:=Qh L hx
    have k2:=Qh L hy
    simp only[BV.er,h2,Nat.zero_add]at k1 k2
    have hi:=(List.getElem?_eq_some_iff.1 h1).1
    exact OpOK.indexV ho hT hz hb.1.2 k1 k2 (by rw[nbe hb.2];exact hi) (by rw[QhX,h1];rfl)
   .simp at h
  .simp at h
 .simp at h
theorem Qn7{T:TypeId}{x y:Operand}(ho:o.op=.indexAddr T x y)(h:QjN P rd hs K T x y=some r):Does P o rd hs K r:=by
 unfold QjN at h
 split at h
 .rename_i n k k' j len e hx hy hT
  split at h
  .rename_i cells es hc hz
   obtain⟨i,v,h1,h2,h⟩:=Qib h
   refine⟨_,h,.val (hp1 hc) fun L _=>?_⟩
   have k1:=Qh L hx
   simp only[BV.er]at k1 |-
   rw[Nat.zero_add]at h2
   have hi:=(List.getElem?_eq_some_iff.1 h1).1
   rw[List.length_replicate]at hi
   exact OpOK.indexArr ho hT hz k1 (Q9 L hy) h2 hi (by rw[Nat.zero_add])
  .simp at h
 .simp at h
theorem QmY(L:Lens):∀{cs:List BV} {l:List Int},Qqe cs=some l->erL L cs=l.map fun a=>.p (.v (.int .i64 a))
 |[],l,h=>by simp only[Qqe,Option.some.injEq]at h;subst h;simp only[erL,List.map_nil]
 |c::r,l,h=>by
  cases c with
  |n k x=>
   simp only[Qqe]at h
   split at h
   .rename_i hk
    have:=Qf7 hk;subst this
    split at h
    .rename_i l' hl;cases h;simp only[erL,BV.er,List.map_cons,QmY L hl]
    .simp at h
   .simp at h
  |_=>simp[Qqe]at h
theorem QxD{op:BinOp}{T T':TypeId}{x:Operand}{v:BV}(ho:o.op=.binOp op T x (.const (.slice none 0 0)) T')(hx:ZN rd x=some v)(h:bNil P K op T v=some r):Does P o rd hs K r:=by
 unfold bNil at h
 split at h
 .rename_i q e f t l hq he
  rcases QoO h with⟨_,h⟩|⟨hl,h⟩
  .refine⟨_,h,.ev fun L _=>?_⟩
   have h1:=Qh L hx
   simp only[BV.er]at h1 |-
   exact OpOK.eqNilU ho hq (Qr he) h1
  .refine⟨_,h,.ev fun L _=>?_⟩
   have h1:=Qh L hx
   simp only[BV.er]at h1 |-
   exact OpOK.eqNilN ho hq (Qr he) h1 (by simpa using hl)
 .rename_i q e hq he
  refine⟨_,h,.ev fun L _=>?_⟩
  have h1:=Qh L hx
  simp only[BV.er]at h1 |-
  exact OpOK.eqNilU ho hq (Qr he) h1
 .simp at h
theorem QvI{op:BinOp}{T T':TypeId}{x y:Operand}(ho:o.op=.binOp op T x y T')(h:Qxs P rd K op T x y=some r):Does P o rd hs K r:=by
 unfold Qxs at h
 split at h
 .rename_i a b hx hy
  unfold bCmp at h
  split at h
  .rename_i p q hp hq
   split at h
   .rename_i hb
    simp only[bae]at hb
    have k1:∀L,Qm (erT L rd) x=some (.agg (p.map fun a=>.p (.v (.int .i64 a)))):=fun L=>by have:=Qh L hx;rw[this];simp only[BV.er,QmY L hp]
    have k2:∀L,Qm (erT L rd) y=some (.agg (q.map fun a=>.p (.v (.int .i64 a)))):=fun L=>by have:=Qh L hy;rw[this];simp only[BV.er,QmY L hq]
    split at h
    .exact⟨_,h,.ev fun L _=>by simp only[BV.er];exact OpOK.eqlInts ho hb.1 hb.2 (k1 L) (k2 L) rfl⟩
    .exact⟨_,h,.ev fun L _=>by simp only[BV.er];exact OpOK.neqInts ho hb.1 hb.2 (k1 L) (k2 L) rfl⟩
    .simp at h
   .simp at h
  .simp at h
 .rename_i v hx hy
  split at h
  .rename_i hn
   unfold nilO at hn
   split at hn
   .exact QxD ho hx h
   .simp at hn
  .simp at h
 .exact Qxt ho h
end
end
/-
  The typed layer, part H: one operation, with what goes ahead of it and what follows. No project text.
-/
section
open Go
variable {L L':Lens} {ts ts':TS} {hs hs':HS}
section
variable {R:Type} (P:Program) (ty:TypeId->Option TC) (rd:TS) (hs:HS) (K:BEff->Option R)
def bMax(x y:Operand):Option R:=match ZN rd x,ZN rd y with
 |some (.n k a),some (.n k' b)=>if kEq .i64 k && kEq .i64 k' then K (ev (.n .i64 (max a b)))else none
 |_,_=>none
def bMin(x y:Operand):Option R:=match ZN rd x,ZN rd y with
 |some (.n k a),some (.n k' b)=>if kEq .i64 k && kEq .i64 k' then K (ev (.n .i64 (min a b)))else none
 |_,_=>none
def Qtq(d:Option Nat)(c:Call):Option R:=match c.callee,c.args.toList,c.argTypes.toList with
 |.builtin .len,[x],[T]=>bLen P rd hs K T x
 |.builtin .append,[x,y],[T,T']=>if Nat.beq T T' then Qp0 P ty rd hs K d T x y else none
 |.builtin .max,[x,y],_=>bMax rd K x y
 |.builtin .min,[x,y],_=>bMin rd K x y
 |.builtin .clear,[x],[T]=>Qts P rd hs K T x
 |.builtin .copy,[x,y],[T,T']=>if Nat.beq T T' then Qxw P rd hs K T x y else none
 |_,_,_=>none
def QxZ:List (Nat×Operand)->Bool
 |[(_,.const (.int .i64 (.ofNat 0)))]=>true
 |_=>false
def QjM(d:Option Nat)(T:TypeId)(len:Nat)(parts:Array (Nat×Operand)):Option R:=match d,Vy P T with
 |some d,some e=>match ty e,ZK P e,UH P e with
  |some t,some es,some zr=>if Nat.beq es (tz t) && Nat.ble 1 es && Nat.beq zr.length es && Nat.ble (len*es) 16777216 then QsU rd t parts.toList 0 len fun l=>K ⟨[],.own (1000+d) 0,[(1000+d,.arr t l 0)],[1000+d],[]⟩else none
  |_,_,_=>none
 |_,_=>none
def Qvy:(t:TC)->List PV->Option (TT t)
 |.int,[.v (.int .i64 (.ofNat 0))]=>some (0:Int)
 |.bool,[.v (.bool false)]=>some false
 |_,_=>none
def QxA(d:Option Nat)(T:TypeId)(x y:Operand):Option R:=match d,Vy P T,x,y,ZN rd x with
 |some d,some e,.tmp s,.tmp s',some (.n .i64 j)=>match ty e,ZK P e,UH P e,QjS P e with
  |some t,some es,some zr,some b=>match Qvy t zr with
   |some z=>if Nat.beq es (tz t) && Nat.beq s s' && Nat.ble 1 es && Nat.beq zr.length es && Nat.ble b 4096 then natc j fun k=>lec k 1048576 (K ⟨[],.own (1000+d) 0,[(1000+d,.arr t (List.replicate k z) 0)],[1000+d],[]⟩)else none
   |none=>none
  |_,_,_,_=>none
 |_,_,_,_,_=>none
def bop(o:Oper):Option R:=match o.op with
 |.move x=>bVal rd K x
 |.assign x=>bVal rd K x
 |.pick c x y=>QxE rd K c x y
 |.alloc T=>Qtm P K o.dst T
 |.box _ x=>bBox rd K o.dst x
 |.build T parts=>Qto P rd K T parts
 |.buildSlice T len parts=>if QxZ parts.toList then QjM P ty rd K o.dst T len parts else Qgj P ty rd K T len parts
 |.load T x=>Qxz P rd hs K T x
 |.store T x y=>Qty P rd hs K o.dst T x y
 |.fieldAddr S x i=>QhS P rd hs K S x i
 |.nilCheck x=>QjO rd hs K x
 |.binOp op T x y _=>Qxs P rd K op T x y
 |.unOp op _ x=>bUn rd K op x
 |.field T x i=>Qtu P rd K T x i
 |.extract x i=>QmI rd K x i
 |.indexAddr T x y=>match P.underlying T with
  |some (.array _ _)=>QjN P rd hs K T x y
  |_=>QhT P rd hs K T x y
 |.index T x y=>match P.underlying T with
  |some (.array _ _)=>Qp3 P rd K T x y
  |_=>Qp2 P rd K T x y
 |.convert S T x=>Qxv P rd K S T x
 |.slice T x lo hi mx=>Qtw P rd hs K T x lo hi mx
 |.makeFunc fn first caps=>Qxx rd K fn first caps
 |.makeMap T none=>QmL P K o.dst T
 |.makeSlice T x y=>QxA P ty rd K o.dst T x y
 |.lookup T x y false=>Qp4 P rd hs K T x y
 |.mapUpdate T x y z=>QxF P rd hs K o.dst T x y z
 |.call c=>Qtq P ty rd hs K o.dst c
 |_=>none
end
section
variable {R:Type} {P:Program} {ty:TypeId->Option TC} {rd:TS} {K:BEff->Option R} {r:R} {o:Oper}
theorem Qld{t0:TC}{y:BV}{K:List (TT t0)->Option R}(h:srcB t0 y K=some r):∃f l,y=.ts f t0 l/\K l=some r:=by
 unfold srcB at h
 split at h
 .split at h
  .rename_i he;subst he;exact⟨_,_,rfl,h⟩
  .simp at h
 .simp at h
theorem Qn6{T:TypeId}{len:Nat}{parts:Array (Nat×Operand)}(ho:o.op=.buildSlice T len parts)(h:QjM P ty rd K o.dst T len parts=some r):Does P o rd hs K r:=by
 unfold QjM at h
 split at h
 .rename_i d e hd he
  split at h
  .rename_i t es zr h0 h1 h2
   split at h
   .rename_i hb
    simp only[bae]at hb
    obtain⟨l,g1,g2,g3⟩:=Qil h
    have hes:=nbe hb.1.1.1
    subst hes
    refine⟨_,g1,.new (fun L m u=>if m=1000+d then l.length else L m u) (fun L m u hm=>if_neg hm) (fun L _ t' l2 u hl=>by cases hl;exact if_pos rfl) fun L hL=>?_⟩
    obtain⟨rows,k1,k2⟩:=g3 L [] (List.replicate len zr) rfl (by rw[List.length_replicate];omega)
    simp only[List.nil_append]at k1
    simp only[BV.er,BO.er,if_true]
    have hl:rows.length=l.length:=by have:=k2.length;rwa [List.length_map]at this
    exact(OpOK.buildOwn ho he h1 hb.1.1.2 h2 (nbe hb.1.2) hb.2 k1 hl).arrLe k2
   .simp at h
  .simp at h
 .simp at h
theorem Qvz:∀{t:TC} {zr:List PV} {z:TT t},Qvy t zr=some z->zr=tcells t z:=by
 intro t zr z h
 unfold Qvy at h
 split at h
 .cases h;rfl
 .cases h;rfl
 .simp at h
theorem QvN{T:TypeId}{x y:Operand}(ho:o.op=.makeSlice T x y)(h:QxA P ty rd K o.dst T x y=some r):Does P o rd hs K r:=by
 unfold QxA at h
 split at h
 .rename_i d e s s' j hd he hx
  split at h
  .rename_i t es zr b h0 h1 h2 h3
   split at h
   .rename_i z hz
    split at h
    .rename_i hb
     simp only[bae]at hb
     have:=nbe hb.1.1.1.2
     subst this
     have hes:=nbe hb.1.1.1.1
     subst hes
     obtain⟨k,hk,h⟩:=UY h
     obtain⟨hle,h⟩:=ZP h
     refine⟨_,h,.new (fun L m u=>if m=1000+d then k else L m u) (fun L m u hm=>if_neg hm) (fun L _ t' l2 u hl=>by cases hl;rw[List.length_replicate];exact if_pos rfl) fun L hL=>?_⟩
     simp only[BV.er,BO.er,if_true]
     exact OpOK.makeOwn ho he h1 h3 hb.1.1.2 h2 (nbe hb.1.2) (Q9 L hx) (Q9 L hx) hk hle hb.2 (by rw[List.map_replicate,<-Qvz hz]) rfl
    .simp at h
   .simp at h
  .simp at h
 .simp at h
theorem Qr7{T:TypeId}{x y:Operand}(ho:o.op=.call { callee:=.builtin .append,args:=#[x,y],argTypes:=#[T,T] })(h:Qp0 P ty rd hs K o.dst T x y=some r):Does P o rd hs K r:=by
 have hlim:∀{a b bytes:Nat},a+b<=34359738368->Nat.ble bytes 4096=true->(a+b)*bytes<=140737488355328/\a+b<=140737488355328:=fun{a b bytes} h1 h2=>by
  have:=Nat.mul_le_mul h1 (Nat.le_of_ble_eq_true h2)
  omega
 unfold Qp0 at h
 split at h
 .rename_i n u v e hx hy he
  split at h
  .rename_i t l q es bytes hc hz hby
   split at h
   .rename_i hb
    simp only[bae]at hb
    have:=nbe hb.1.1.1;subst this
    have hq:=hb.2
    have hb:=hb.1
    obtain⟨f,l',hv,h0⟩:=Qld h
    subst hv;clear h
    obtain⟨hle,h⟩:=ZP h0
    refine⟨_,h,hp1 hc,fun L hL=>?_⟩
    let L':Lens:=fun m u=>if m=n/\u=q+1 then(l++l').length else L m u
    have hn:L' n (q+1)=(l++l').length:=if_pos ⟨rfl,rfl⟩
    refine⟨L',fun m u _ hm=>if_neg (by simpa using hm),fun m t2 l2 u2 hm=>?_,?_⟩
    .simp only[List.cons_append,List.nil_append,look]at hm
     split at hm
     .grind
     .rename_i e;show(if m=n/\u2=q+1 then _ else L m u2)=_;rw[if_neg (fun h=>e h.1.symm)];exact hL m t2 l2 u2 hm
    .have h1:=Qh L hx
     have h2:=Qh L hy
     simp only[BV.er]at h1 h2 |-
     rw[hn]
     have hlm:(l.map (tcells t)).length+(l'.map (tcells t)).length<=34359738368:=by simpa using hle
     exact OpOK.appendOwn ho rfl he hb.1.2 h1 (XO hL hc hq) h2 (by rw[<-List.map_append]) (by rw[List.length_map]) (hlim hlm hb.2).1 (hlim hlm hb.2).2
   .simp at h
  .simp at h
 .rename_i n u k m v a b e hx hy he
  split at h
  .rename_i d t l q es bytes hd hc hz hby
   split at h
   .rename_i hb
    simp only[bae]at hb
    obtain⟨⟨⟨⟨⟨b1,b2⟩,b3⟩,b4⟩,b5⟩,b6⟩:=hb
    have:=nbe b1;subst this
    have:=nbe b2;subst this
    have:=nbe b3;subst this
    have:=nbe b4;subst this
    obtain⟨hk,h⟩:=ZP h
    obtain⟨hbl,h⟩:=ZP h
    obtain⟨hab,h⟩:=ZP h
    have hm:∀{c:Nat},c<=l.length->c<=(l.map (tcells t)).length:=fun h=>by rw[List.length_map];exact h
    rcases QoO h with⟨h0,h⟩|⟨h0,h⟩
    .refine⟨_,h,.val (hp1 hc) fun L hL=>?_⟩
     have h1:=Qh L hx
     have h2:=Qh L hy
     simp only[BV.er]at h1 h2 |-
     exact OpOK.appendCut0 ho he b5 h1 h2 (XO hL hc (Nat.beq_refl _)) (hm hk) (hm hbl) hab (by rw[<-List.map_take,<-List.map_drop,h0];rfl)
    .obtain⟨hle,h⟩:=ZP h
     have hle':(l.take k++(l.take b).drop a).length*bytes<=140737488355328:=by
      have:=Nat.mul_le_mul hle (Nat.le_of_ble_eq_true b6);omega
     refine⟨_,h,hp1 hc,fun L hL=>?_⟩
     let L':Lens:=fun m u=>if m=1000+d then(l.take k++(l.take b).drop a).length else L m u
     refine⟨L',fun m u hm _=>if_neg (by simpa using hm),fun m t2 l2 u2 hm=>?_,?_⟩
     .simp only[List.cons_append,List.nil_append,look]at hm
      split at hm
      .rename_i e;subst e;cases hm;exact if_pos rfl
      .rename_i e;show(if m=1000+d then _ else L m u2)=_;rw[if_neg (Ne.symm e)];exact hL m t2 l2 u2 hm
     .have h1:=Qh L hx
      have h2:=Qh L hy
      have hn:L' (1000+d) 0=(l.take k++(l.take b).drop a).length:=if_pos rfl
      simp only[BV.er]at h1 h2 |-
      rw[hn]
      exact OpOK.appendCut ho he b5 h1 h2 (XO hL hc (Nat.beq_refl _)) (hm hk) (hm hbl) hab (by rw[<-List.map_take,<-List.map_drop];simpa using h0) (by rw[<-List.map_take,<-List.map_take,<-List.map_drop,<-List.map_append]) (by rw[List.length_map]) (by rw[List.length_map];exact hle') (by rw[List.length_map];omega)
   .simp at h
  .simp at h
 .rename_i v e hx hy he
  split at h
  .rename_i d t es bytes hd hty hz hby
   split at h
   .rename_i hb
    simp only[bae]at hb
    have:=nbe hb.1.1.1;subst this
    obtain⟨f,l',hv,h0⟩:=Qld h
    subst hv;clear h
    obtain⟨hle,h⟩:=ZP h0
    refine⟨_,h,.new (fun L m u=>if m=1000+d then l'.length else L m u) (fun L m u hm=>if_neg hm) (fun L _ t' l2 u hl=>by cases hl;exact if_pos rfl) fun L hL=>?_⟩
    have h1:=Qh L hx
    have h2:=Qh L hy
    simp only[BV.er,BO.er,if_true]at h1 h2 |-
    have hlm:([]:List (List PV)).length+(l'.map (tcells t)).length<=34359738368:=by simpa using hle
    exact OpOK.appendNew ho rfl he hb.1.1.2 hb.2 h1 h2 (List.nil_append _) (by rw[List.length_map]) (.inl rfl) (hlim hlm hb.1.2).1 (hlim hlm hb.1.2).2
   .simp at h
  .simp at h
 .rename_i t l v e hx hy he
  split at h
  .rename_i d es bytes hd hz hby
   split at h
   .rename_i hb
    simp only[bae]at hb
    have:=nbe hb.1.1.1;subst this
    obtain⟨f,l',hv,h0⟩:=Qld h
    subst hv;clear h
    split at h0
    .obtain⟨hle,h⟩:=ZP h0
     refine⟨_,h,.new (fun L m u=>if m=1000+d then l'.length else L m u) (fun L m u hm=>if_neg hm) (fun L _ t' l2 u hl=>by cases hl;exact if_pos rfl) fun L hL=>?_⟩
     have h1:=Qh L hx
     have h2:=Qh L hy
     simp only[BV.er,BO.er,if_true,List.map_nil]at h1 h2 |-
     have hlm:([]:List (List PV)).length+(l'.map (tcells t)).length<=34359738368:=by simpa using hle
     exact OpOK.appendNew ho rfl he hb.1.1.2 hb.2 h1 h2 (List.nil_append _) (by rw[List.length_map]) (.inl rfl) (hlim hlm hb.1.2).1 (hlim hlm hb.1.2).2
    .rename_i y0 q0
     split at h0
     .simp at h0
     .rename_i z q
      obtain⟨hle,h⟩:=ZP h0
      refine⟨_,h,.new (fun L m u=>if m=1000+d then(y0::q0++z::q).length else L m u) (fun L m u hm=>if_neg hm) (fun L _ t' l2 u hl=>by cases hl;exact if_pos rfl) fun L hL=>?_⟩
      have h1:=Qh L hx
      have h2:=Qh L hy
      simp only[BV.er,BO.er,if_true]at h1 h2 |-
      have hlm:((y0::q0).map (tcells t)).length+((z::q).map (tcells t)).length<=34359738368:=by simpa using hle
      exact OpOK.appendNew ho rfl he hb.1.1.2 hb.2 h1 h2 (by rw[<-List.map_append]) (by rw[List.length_map]) (.inr ⟨Ob,rfl⟩) (hlim hlm hb.1.2).1 (hlim hlm hb.1.2).2
   .simp at h
  .simp at h
 .simp at h
theorem QvJ{S T:TypeId}{x:Operand}(ho:o.op=.convert S T x)(h:Qxv P rd K S T x=some r):Does P o rd hs K r:=by
 unfold Qxv at h
 split at h
 .rename_i k a k' hx hT
  split at h
  .rename_i hS
   refine⟨_,h,.ev fun L _=>?_⟩
   simp only[BV.er];exact OpOK.convI ho hS hT (Q9 L hx) rfl
  .simp at h
 .simp at h
theorem Qr8{T:TypeId}{x y:Operand}(ho:o.op=.index T x y)(h:Qp2 P rd K T x y=some r):Does P o rd hs K r:=by
 unfold Qp2 at h
 split at h
 .rename_i t k j hx hy hT
  obtain⟨i,hj,h⟩:=UY h
  obtain⟨hlt,h⟩:=Qhj h
  refine⟨_,h,.ev fun L _=>?_⟩
  simp only[BV.er];exact OpOK.indexS ho hT (Qeo L hx) (Q9 L hy) hj hlt
 .simp at h
theorem QxB{x y:Operand}{ats:Array TypeId}(ho:o.op=.call { callee:=.builtin .max,args:=#[x,y],argTypes:=ats })(h:bMax rd K x y=some r):Does P o rd hs K r:=by
 unfold bMax at h
 split at h
 .rename_i k a k' b hx hy
  split at h
  case isFalse=>simp at h
  rename_i hk
  simp only[bae]at hk
  have h1:=Qf7 hk.1;subst h1
  have h2:=Qf7 hk.2;subst h2
  refine⟨_,h,.ev fun L _=>?_⟩
  simp only[BV.er];exact OpOK.maxI ho (Q9 L hx) (Q9 L hy) rfl
 .simp at h
theorem QxC{x y:Operand}{ats:Array TypeId}(ho:o.op=.call { callee:=.builtin .min,args:=#[x,y],argTypes:=ats })(h:bMin rd K x y=some r):Does P o rd hs K r:=by
 unfold bMin at h
 split at h
 .rename_i k a k' b hx hy
  split at h
  case isFalse=>simp at h
  rename_i hk
  simp only[bae]at hk
  have h1:=Qf7 hk.1;subst h1
  have h2:=Qf7 hk.2;subst h2
  refine⟨_,h,.ev fun L _=>?_⟩
  simp only[BV.er];exact OpOK.minI ho (Q9 L hx) (Q9 L hy) rfl
 .simp at h
theorem Qtr{c:Call}(ho:o.op=.call c)(h:Qtq P ty rd hs K o.dst c=some r):Does P o rd hs K r:=by
 obtain⟨callee,args,ats⟩:=c
 obtain⟨args⟩:=args
 obtain⟨ats⟩:=ats
 unfold Qtq at h
 split at h
 .rename_i x T h1 h2 h3
  simp only at h1 h2 h3
  subst h1;subst h2;subst h3
  exact Qxy ho rfl h
 .rename_i x y T T' h1 h2 h3
  simp only at h1 h2 h3
  subst h1;subst h2;subst h3
  split at h
  .rename_i hT
   have:=nbe hT;subst this
   exact Qr7 ho h
  .simp at h
 .rename_i x y h1 h2
  simp only at h1 h2
  subst h1;subst h2
  exact QxB ho h
 .rename_i x y h1 h2
  simp only at h1 h2
  subst h1;subst h2
  exact QxC ho h
 .rename_i x T h1 h2 h3
  simp only at h1 h2 h3
  subst h1;subst h2;subst h3
  exact Qtt ho rfl h
 .rename_i x y T T' h1 h2 h3
  simp only at h1 h2 h3
  subst h1;subst h2;subst h3
  split at h
  .rename_i hT
   have:=nbe hT;subst this
   exact QvK ho h
  .simp at h
 .simp at h
theorem QyQ(h:bop P ty rd hs K o=some r):Does P o rd hs K r:=by
 unfold bop at h
 split at h
 .rename_i ho;exact QtA (.inl ho) h
 .rename_i ho;exact QtA (.inr ho) h
 .rename_i ho;exact QvO ho h
 .rename_i ho;exact Qtn ho h
 .rename_i ho;exact Qxu ho h
 .rename_i ho;exact Qtp ho h
 .rename_i ho
  split at h
  .exact Qn6 ho h
  .exact Qlr ho h
 .rename_i ho;exact QvM ho h
 .rename_i ho;exact Qtz ho h
 .rename_i ho;exact QmJ ho h
 .rename_i ho;exact Qn8 ho h
 .rename_i ho;exact QvI ho h
 .rename_i ho;exact QyN ho h
 .rename_i ho;exact Qtv ho h
 .rename_i ho;exact Qp1 ho h
 .rename_i ho
  split at h
  .exact Qn7 ho h
  .exact QmK ho h
 .rename_i ho
  split at h
  .exact Qr9 ho h
  .exact Qr8 ho h
 .rename_i ho;exact QvJ ho h
 .rename_i ho;exact Qtx ho h
 .rename_i ho;exact QvL ho h
 .rename_i ho;exact Qp5 ho h
 .rename_i ho;exact QvN ho h
 .rename_i ho;exact Qsa ho h
 .rename_i ho;exact QvP ho h
 .rename_i ho;exact Qtr ho h
 .simp at h
end
end
/-
  The typed layer, part I: the state behind an operation. No project text.
-/
section
variable {L L':Lens} {ts ts':TS} {hs hs':HS}
section
variable {R:Type}
def Qwn(nw:List Name)(upd:HS)(ts:TS)(hs:HS):Bool:=nw.all fun n=>(look n hs).isNone && QdV n ts hs && (keys upd).contains n
def QzE(nv:List (Name×Nat))(ts:TS)(hs:HS):Bool:=nv.all fun p=>novS p.1 p.2 ts hs
def putB(d:Option Nat)(v:BV)(ts:TS):TS:=match d with
 |some d=>(d,v)::ts
 |none=>ts
def goE1(nn:Nat)(d:Option Nat)(ts:TS)(hs:HS)(K:BEff->TS->HS->Option R)(e:BEff):Option R:=
 if Qwn e.nw e.upd ts hs && Qb5 nn d && QzE e.nv ts hs then K e (putB d e.v ts) (e.upd++hs)else none
def goE(sp:Bool)(nn:Nat)(d:Option Nat)(ts:TS)(hs:HS)(K:BEff->TS->HS->Option R)(e:BEff):Option R:=match e with
 |⟨hp,.b q,upd,nw,nv⟩=>match sp with
  |true=>cnd q (goE1 nn d ts hs K ⟨hp,.b true,upd,nw,nv⟩) (goE1 nn d ts hs K ⟨hp,.b false,upd,nw,nv⟩)
  |false=>goE1 nn d ts hs K ⟨hp,.b q,upd,nw,nv⟩
 |e=>goE1 nn d ts hs K e
variable {r:R} {P:Program} {o:Oper} {rd:TS}
theorem Qv4{e:BEff}{L':Lens}(hrd:∀t v,(t,v)∈rd->look t ts=some v)(hhp:∀n ob,(n,ob)∈e.hp->look n hs=some ob)(hnw:Qwn e.nw e.upd ts hs=true):
  (BS L ts hs).holds ⟨erT L rd,erH L e.hp,e.v.er L',erH L' e.upd,e.nw⟩:=by
 refine⟨fun t x hx=>?_,fun n ob hn=>?_,fun n hn=>?_⟩
 .simp only[erT,List.mem_map]at hx
  obtain⟨⟨t',v⟩,hm,he⟩:=hx
  cases he
  rw[Xk,hrd _ v hm];rfl
 .simp only[erH,List.mem_map]at hn
  obtain⟨⟨t',v⟩,hm,he⟩:=hn
  cases he
  rw[Xj,hhp _ v hm];rfl
 .have:=List.all_eq_true.1 hnw n hn
  simp only[bae,Option.isNone_iff_eq_none]at this
  refine⟨by rw[Xj,this.1.1];rfl,Qh3 ?_⟩
  rw[Qc2];exact this.1.2
structure Step (P:Program) (o:Oper) (rd:TS) (L:Lens) (ts:TS) (hs:HS) (e:BEff) (L':Lens):Prop where
 rds:∀t v,(t,v)∈rd->look t ts=some v
 hps:∀n ob,(n,ob)∈e.hp->look n hs=some ob
 new:Qwn e.nw e.upd ts hs=true
 inv:Inv L' (e.upd++hs)
 ets:erT L ts=erT L' ts
 ehs:erH L hs=erH L' hs
 ok:OpOK P o ⟨erT L rd,erH L e.hp,e.v.er L',erH L' e.upd,e.nw⟩
theorem Qhf{nn:Nat}{K:BEff->TS->HS->Option R}{e:BEff}(hg:Good P o rd hs e)(hrd:∀t v,(t,v)∈rd->look t ts=some v)(h:goE1 nn o.dst ts hs K e=some r)(hi:Inv L hs):
  ∃L',Step P o rd L ts hs e L'/\Qb5 nn o.dst=true/\K e (putB o.dst e.v ts) (e.upd++hs)=some r:=by
 unfold goE1 at h
 split at h
 .rename_i hb
  simp only[bae]at hb
  obtain⟨hhp,hg⟩:=hg
  obtain⟨L',hL',hi',hop⟩:=hg L hi
  obtain⟨e1,e2⟩:=Qel (L:=L) (L':=L') (nw:=e.nw) (nv:=e.nv) (ts:=ts) (hs:=hs) (fun n hn=>by
   have:=List.all_eq_true.1 hb.1.1 n hn
   simp only[bae]at this
   exact this.1.2) (fun p hp=>List.all_eq_true.1 hb.2 p hp) hL'
  exact⟨L',⟨hrd,hhp,hb.1.1,hi',e1,e2,hop⟩,hb.1.2,h⟩
 .simp at h
theorem Qro{sp:Bool}{nn:Nat}{K:BEff->TS->HS->Option R}{e:BEff}(hg:Good P o rd hs e)(hrd:∀t v,(t,v)∈rd->look t ts=some v)(h:goE sp nn o.dst ts hs K e=some r)(hi:Inv L hs):
  ∃L',Step P o rd L ts hs e L'/\Qb5 nn o.dst=true/\K e (putB o.dst e.v ts) (e.upd++hs)=some r:=by
 unfold goE at h
 split at h
 .split at h
  .rcases Qg2 h with⟨rfl,h⟩|⟨rfl,h⟩
   .exact Qhf hg hrd h hi
   .exact Qhf hg hrd h hi
  .exact Qhf hg hrd h hi
 .exact Qhf hg hrd h hi
theorem QyJ{d:Option Nat}{e:BEff}{L0:Lens}(h1:erT L ts=erT L' ts)(h2:erH L hs=erH L' hs):(BS L ts hs).run d ⟨erT L0 rd,erH L0 e.hp,e.v.er L',erH L' e.upd,e.nw⟩=BS L' (putB d e.v ts) (e.upd++hs):=by
 unfold BS
 rw[Qrz,h1,h2,Qfk]
 cases d<;>rfl
theorem Step.go{e:BEff}{nn:Nat}{Γ:Ctx}{ρ:Name->Loc}{M:Nat->Prop}{a:Act}{w:World}{KK:Act->World->Prop}{Q:Exit->Act->World->Prop}(hst:Step P o rd L ts hs e L')(hd:Qb5 nn o.dst=true)(hn:Γ.n=nn)(hs0:Sim Γ ρ M (BS L ts hs) a w)(hK:∀ρ' M' a' w',Sim Γ ρ' M' (BS L' (putB o.dst e.v ts) (e.upd++hs)) a' w'->KK a' w'):o.wp P a w KK Q:=by
 refine hst.ok Γ ρ M _ a w KK Q hs0 (Qv4 hst.rds hst.hps hst.new) (fun d hd'=>?_) (fun ρ' M' a' w' hs'=>hK ρ' M' a' w' ?_)
 .rw[hd']at hd;simp only[Qb5]at hd;rw[hn];exact Nat.le_of_ble_eq_true hd
 .rw[QyJ hst.ets hst.ehs]at hs';exact hs'
end
end
/-
  The typed layer, part J: calls of functions, regions. No project text.
-/
section
open Go
variable {L L':Lens} {ts ts':TS} {hs hs':HS}
abbrev Env:=Option Nat->FuncId->List BV->Option Sig
def QnY(P:Program)(E:Env):Prop:=∀d k vs g,E d k vs=some g->FnOK P k g
def Qn4(hs:HS):BV->BV
 |.own m u=>match look m hs with
  |some (.arr _ l q)=>if Nat.beq u q then .view m u 0 l.length else .own m u
  |_=>.own m u
 |x=>x
def QyD(hs:HS):SSh->BV->BV
 |.one (.view _),v=>Qn4 hs v
 |_,v=>v
def QnS(hs:HS):List SSh->List BV->List BV
 |s::r,v::vs=>QyD hs s v::QnS hs r vs
 |_,vs=>vs
def QpN(t:Nat)(s:List (Nat×SSh)):Bool:=match look t s with
 |some (.one (.view _))=>true
 |_=>false
def QwV(hs:HS)(s:List (Nat×SSh))(ts:TS):TS:=ts.map fun p=>(p.1,match QpN p.1 s with|true=>Qn4 hs p.2|false=>p.2)
theorem QoH{g:Nat->BV->BV}(k:Nat):∀ts:TS,look k (ts.map fun p=>(p.1,g p.1 p.2))=(look k ts).map (g k)
 |[]=>rfl
 |(j,x)::r=>by
  simp only[List.map_cons,look]
  split
  .rename_i e;subst e;rfl
  .exact QoH k r
theorem Qn5{x:BV}(hi:Inv L hs):AVle (x.er L) ((Qn4 hs x).er L):=by
 cases x with
 |own m u=>
  simp only[Qn4]
  split
  .rename_i t l q hl
   split
   .rename_i e
    have:=nbe e;subst this
    simp only[BV.er,hi m t l u hl]
    exact .view m l.length
   .exact .refl _
  .exact .refl _
 |_=>exact .refl _
theorem QwU{s:SSh}{x:BV}(hi:Inv L hs):AVle (x.er L) ((QyD hs s x).er L):=by
 unfold QyD;split
 .exact Qn5 hi
 .exact .refl _
theorem QnT(hi:Inv L hs):∀{ss:List SSh} {vs:List BV},XN (erL L vs) (erL L (QnS hs ss vs))
 |[],vs=>by simp only[QnS];exact XN.refl _
 |s::r,[]=>by simp only[QnS];exact XN.refl _
 |s::r,v::vs=>by simp only[QnS,erL];exact .cons (QwU hi) (QnT hi)
theorem QwW(hi:Inv L hs){s:List (Nat×SSh)}{ts:TS}{t:Nat}{y:BV}(h:look t (QwV hs s ts)=some y):∃x,look t ts=some x/\AVle (x.er L) (y.er L):=by
 unfold QwV at h
 rw[QoH (g:=fun t x=>match QpN t s with|true=>Qn4 hs x|false=>x)]at h
 cases hx:look t ts with
 |none=>rw[hx]at h;simp at h
 |some x=>
  rw[hx]at h
  simp only[Option.map_some,Option.some.injEq]at h
  refine⟨x,rfl,?_⟩
  rw[<-h]
  split
  .exact Qn5 hi
  .exact .refl _
def Qq0(km:List Name)(hs u:HS)(n:Name):Bool:=match isIn n km with
 |true=>match look n hs,look n u with
  |some (.box cs),some (.box _)=>!cs.all BV.isQ
  |_,_=>true
 |false=>true
def BEff.trim(e:BEff)(km:List Name)(hs:HS):BEff:={ e with upd:=e.upd.filter fun p=>Qq0 km hs e.upd p.1 }
theorem Qpr{σ:Name->Name}{δ:Name->Nat}:∀{cs:List BV},cs.all BV.isQ=true->Qk6 σ δ cs=cs
 |[],_=>by simp only[Qk6]
 |x::r,h=>by
  simp only[List.all_cons,bae]at h
  simp only[Qk6]
  rw[Qpr h.2]
  congr 1
  cases x<;>first|simp only[BV.ren];done|simp[BV.isQ]at h
section
variable {R:Type}
def QvU(P:Program)(E:Env)(sp:Bool)(nn:Nat)(dst:Option Nat)(f:FuncId)(vs:List BV)(ts:TS)(hs:HS)(K:BEff->TS->HS->Option R):Option R:=
 match dst with
 |some d=>if callable P f then match E (some d) f vs with
  |some g=>SL.get g.args (QnS hs g.args vs) [] fun σ x=>OL.get g.pre hs σ fun σ y=>g.F R x y fun a b=>
    if QtF g (σ++Qb6 d g) d hs y a b then goE sp nn dst ts hs K ((Qgk g (σ++Qb6 d g) d hs y a b).trim (g.keep.map (Qk8 (σ++Qb6 d g))) hs)else none
  |none=>none
  else none
 |none=>none
variable {r:R} {P:Program} {o:Oper} {rd:TS} {E:Env}
theorem Qfm{u:Nat}{l:List (Name×OSh)}{y:OL l}{n:Name}:n∈keys l->∃b,look n (OL.put u l y)=some b:=by
 induction l with
 |nil=>intro h;simp[keys]at h
 |cons p l ih=>
  intro h
  simp only[keys,List.map_cons,List.mem_cons]at h
  simp only[OL.put,look]
  split
  .exact⟨_,rfl⟩
  .rename_i hne
   rcases h with h|h
   .exact absurd h.symm hne
   .exact ih h
theorem Qjm{u:Nat}{l:List (Name×OSh)}{y:OL l}:keys (OL.put u l y)=keys l:=by
 induction l with
 |nil=>rfl
 |cons p l ih=>simp only[OL.put,keys,List.map_cons]at ih |-;rw[ih]
theorem QjK{u v:Nat}{l:List (Name×OSh)}{y:OL l}{n:Name}{t:TC}{x:List (TT t)}:look n (OL.put u l y)=some (.arr t x v)->n∈Wr l/\v=u\/n∈Qbo l/\v=0:=by
 induction l with
 |nil=>intro h;simp[OL.put,look]at h
 |cons p l ih=>
  intro h
  obtain⟨k,o⟩:=p
  simp only[OL.put,look]at h
  split at h
  .rename_i e
   cases o with
   |box l=>simp[OSh.put]at h
   |boxst t=>simp[OSh.put]at h
   |sm=>simp[OSh.put]at h
   |arr t=>subst e;simp only[OSh.put,Option.some.injEq]at h;cases h;exact .inl ⟨by simp[Wr],rfl⟩
   |arrs t=>subst e;simp only[OSh.put,Option.some.injEq]at h;cases h;exact .inr ⟨by simp[Qbo],rfl⟩
  .rcases ih h with ih|ih
   .refine .inl ⟨?_,ih.2⟩
    cases o<;>simp only[Wr]<;>first|exact ih.1|exact List.mem_cons_of_mem _ ih.1
   .refine .inr ⟨?_,ih.2⟩
    cases o<;>simp only[Qbo]<;>first|exact ih.1|exact List.mem_cons_of_mem _ ih.1
theorem Qa4:∀{l:List (Name×OSh)} {n:Name},n∈Wr l->n∈keys l
 |[],n,h=>by simp[Wr]at h
 |(k,.arr t)::r,n,h=>by
  simp only[Wr,List.mem_cons]at h
  simp only[keys,List.map_cons,List.mem_cons]
  exact h.imp id (fun h=>Qa4 h)
 |(k,.arrs t)::r,n,h=>by simp only[Wr]at h;simp only[keys,List.map_cons,List.mem_cons];exact .inr (Qa4 h)
 |(k,.box t)::r,n,h=>by simp only[Wr]at h;simp only[keys,List.map_cons,List.mem_cons];exact .inr (Qa4 h)
 |(k,.boxst t)::r,n,h=>by simp only[Wr]at h;simp only[keys,List.map_cons,List.mem_cons];exact .inr (Qa4 h)
 |(k,.sm)::r,n,h=>by simp only[Wr]at h;simp only[keys,List.map_cons,List.mem_cons];exact .inr (Qa4 h)
theorem Vo{f:Name->Bool}{n:Name}:∀{h:HS},look n (h.filter fun p=>f p.1)=if f n then look n h else none
 |[]=>by simp[look]
 |(k,o)::q=>by
  have ih:=Vo (f:=f) (n:=n) (h:=q)
  by_cases hk:f k=true
  .rw[List.filter_cons_of_pos (by simpa using hk)]
   simp only[look]
   by_cases e:k=n
   .subst e;simp[hk]
   .simp only[e,if_false,ih]
  .rw[List.filter_cons_of_neg (by simpa using hk),ih]
   simp only[look]
   by_cases e:k=n
   .subst e;simp[hk]
   .simp only[e,if_false]
theorem Qjj{rr:Name->Name}{m:Name}{ob:BO}:∀{ks:List Name},(m,ob)∈hpOf rr hs ks->look m hs=some ob
 |[],h=>by simp[hpOf]at h
 |k::ks,h=>by
  simp only[hpOf]at h
  split at h
  .rename_i hk
   rcases List.mem_cons.1 h with h|h
   .cases h;exact hk
   .exact Qjj h
  .exact Qjj h
theorem Qji{rr:Name->Name}{m:Name}{ob:BO}:∀{ks:List Name},(m,ob)∈hpOf rr hs ks->∃n,n∈ks/\m=rr n
 |[],h=>by simp[hpOf]at h
 |k::ks,h=>by
  simp only[hpOf]at h
  split at h
  .rcases List.mem_cons.1 h with h|h
   .cases h;exact⟨k,Ob,rfl⟩
   .obtain⟨n,h1,h2⟩:=Qji h;exact⟨n,List.mem_cons_of_mem _ h1,h2⟩
  .obtain⟨n,h1,h2⟩:=Qji h;exact⟨n,List.mem_cons_of_mem _ h1,h2⟩
theorem Qcm{rr:Name->Name}(hrr:∀a b,rr a=rr b->a=b){n:Name}{ob:BO}(h:look (rr n) hs=some ob):∀{ks:List Name},n∈ks->look (rr n) (hpOf rr hs ks)=some ob
 |[],hn=>by simp at hn
 |k::ks,hn=>by
  simp only[hpOf]
  by_cases e:k=n
  .subst e;rw[h];simp only[look,if_true]
  .have hn':n∈ks:=by
    rcases List.mem_cons.1 hn with h|h;· exact absurd h.symm e
    .exact h
   split
   .simp only[look];rw[if_neg (fun h=>e (hrr _ _ h))];exact Qcm hrr h hn'
   .exact Qcm hrr h hn'
theorem Qlh{km:List Name}{hs u:HS}{n:Name}(h:Qq0 km hs u n=false):n∈km/\∃cs ds,look n hs=some (.box cs)/\look n u=some (.box ds)/\cs.all BV.isQ=true:=by
 unfold Qq0 at h
 split at h
 .rename_i hk
  split at h
  .rename_i cs ds h1 h2
   exact⟨XR.1 hk,cs,ds,h1,h2,by simpa using h⟩
  .simp at h
 .simp at h
theorem Good.trim{P:Program}{o:Oper}{rd:TS}{km:List Name}{e:BEff}(h:Good P o rd hs e)(hk:∀n cs ds,n∈km->look n hs=some (.box cs)->cs.all BV.isQ=true->look n e.upd=some (.box ds)->ds=cs/\(n,.box cs)∈e.hp):Good P o rd hs (e.trim km hs):=by
 obtain⟨h1,h2⟩:=h
 refine⟨h1,fun L hL=>?_⟩
 obtain⟨L',a,b,c⟩:=h2 L hL
 have hlf:∀m,look m (e.trim km hs).upd=if Qq0 km hs e.upd m then look m e.upd else none:=fun m=>Vo (f:=Qq0 km hs e.upd)
 refine⟨L',a,fun m t l u hm=>b m t l u ?_,?_⟩
 .rw[<-hm,ZV,ZV,hlf]
  by_cases hf:Qq0 km hs e.upd m=true
  .rw[if_pos hf]
  .obtain⟨k0,cs,ds,k1,k2,k3⟩:=Qlh (by simpa using hf)
   rw[if_neg hf,k1,k2,(hk m cs ds k0 k1 k3 k2).1]
 .intro Γ ρ M s w0 w K Q hs' hh hd hK
  refine c Γ ρ M s w0 w K Q hs' ⟨hh.rd,hh.hp,hh.nw⟩ hd fun ρ' M' a' w' hsim=>hK ρ' M' a' w' ?_
  have:s.run o.dst ⟨erT L rd,erH L (e.trim km hs).hp,(e.trim km hs).v.er L',erH L' (e.trim km hs).upd,(e.trim km hs).nw⟩=s.run o.dst ⟨erT L rd,erH L e.hp,e.v.er L',erH L' e.upd,e.nw⟩:=by
   unfold AS.run
   congr 1
   funext n
   simp only[ZH,hlf]
   by_cases hf:Qq0 km hs e.upd n=true
   .rw[if_pos hf]
   .obtain⟨k0,cs,ds,k1,k2,k3⟩:=Qlh (by simpa using hf)
    obtain⟨k4,k5⟩:=hk n cs ds k0 k1 k3 k2
    have:=hh.hp n _ (List.mem_map.2 ⟨_,k5,rfl⟩)
    have hp:cs.all BV.isP=true:=List.all_eq_true.2 fun x hx=>Qx3 (List.all_eq_true.1 k3 x hx)
    rw[if_neg hf,k2,k4]
    simp only[Option.map_none,Option.map_some,this,BO.er,Vn hp]
  rw[this];exact hsim
theorem QhU{sp:Bool}{nn:Nat}{K:BEff->TS->HS->Option R}{f:FuncId}{vs:List BV}(hE:QnY P E)(hop:callable P f=true->∀(L:Lens) (pre h:List (Name×AO)) (v:AV) (nw:List Name),Qcf P f (erL L vs) pre v h->Qg1 pre h nw v=true->OpOK P o ⟨erT L rd,pre,v,h,nw⟩)(hrd:∀t v,(t,v)∈rd->look t ts=some v)(h:QvU P E sp nn o.dst f vs ts hs K=some r)(hi:Inv L hs):
  ∃e L',Step P o rd L ts hs e L'/\Qb5 nn o.dst=true/\K e (putB o.dst e.v ts) (e.upd++hs)=some r:=by
 unfold QvU at h
 split at h
 case h_2=>simp at h
 rename_i d hd
 split at h
 case isFalse=>simp at h
 rename_i hcall
 split at h
 case h_2=>simp at h
 rename_i g hEf
 obtain⟨σ1,x,h,hs1,g1⟩:=SL.get_some h
 obtain⟨σ2,y,h,hs2,g2⟩:=OL.get_some h
 obtain⟨va,vb,hF,h⟩:=(hE (some d) f vs g hEf).nat R x y _ r h
 split at h
 case isFalse=>simp at h
 rename_i hchk
 unfold QtF at hchk
 simp only[bae]at hchk
 obtain⟨⟨⟨⟨hm,hcb⟩,hu1⟩,hu2⟩,hkeep⟩:=hchk
 have hfit:=Qu0 hm
 have hinj:=Qu1 hm
 generalize hrr:Qk8 (σ2++Qb6 d g)=rr at hinj hfit h
 generalize hdd:QhM (σ2++Qb6 d g)=δ at hfit h
 have hfit2:Fit rr δ σ2:=hfit.mono fun p hp=>List.mem_append_left _ hp
 have hfit1:Fit rr δ σ1:=hfit2.mono hs2
 have hwant:∀n b,look n (OL.put 0 g.pre y)=some b->∃a,look (rr n) hs=some a/\((∃cs ds,a=.box cs/\b=.box ds)\/(∃t l,a=.arr t l (δ n)/\b=.arr t l 0)\/∃es,a=.sm es/\b=.sm es)/\∀L,OLe rr δ (δ n) L a b:=fun n b hb=>by
  obtain⟨v,hv,hle⟩:=g2 rr δ (fun _ _=>0) hfit2 n b hb
  refine⟨v,hv,?_,fun L=>?_⟩
  .rcases hle with⟨cs,ds,h1,h2,_⟩|h2
   .grind
   .exact .inr h2
  .obtain⟨v',hv',hle'⟩:=g2 rr δ L hfit2 n b hb
   grind
 have heff:Qgk g (σ2++Qb6 d g) d hs y va vb=⟨hpOf rr hs (keys g.pre),(resB (SL.put 1 g.res va)).ren rr δ,Qik rr δ (g.posts y vb),(Qb6 d g).map (·.2.1),((Wr g.post).filter fun n=>(keys g.pre).contains n).map fun n=>(rr n,δ n+1)⟩:=by unfold Qgk;rw[hrr,hdd]
 rw[heff]at hcb h
 suffices hgood:Good P o rd hs ⟨hpOf rr hs (keys g.pre),(resB (SL.put 1 g.res va)).ren rr δ,Qik rr δ (g.posts y vb),(Qb6 d g).map (·.2.1),((Wr g.post).filter fun n=>(keys g.pre).contains n).map fun n=>(rr n,δ n+1)⟩by
  obtain⟨L',hst,hdd',hK⟩:=Qro (rd:=rd) (L:=L) (hgood.trim (km:=g.keep.map rr) fun n' cs ds hn' hcs hq hds=>by
   obtain⟨n,hn,rfl⟩:=List.mem_map.1 hn'
   have hkn:=List.all_eq_true.1 hkeep n hn
   simp only[bae,Bool.not_eq_true',List.contains_eq_mem,decide_eq_true_eq,decide_eq_false_iff_not]at hkn
   change look (rr n) (Qik rr δ (g.posts y vb))=_ at hds
   rw[Qfn hinj]at hds
   have hno:look n (OL.put 1 g.post vb)=none:=by
    cases hx:look n (OL.put 1 g.post vb)with
    |none=>rfl
    |some x=>exact absurd (by rw[<-Qjm (u:=1) (y:=vb)];exact Zl (by rw[hx];simp)) hkn.2
   unfold Sig.posts at hds
   rw[ZV,hno]at hds
   simp only[Vo (f:=fun n=>g.keep.contains n)]at hds
   rw[if_pos (by simpa using hn)]at hds
   cases hb:look n (OL.put 0 g.pre y)with
   |none=>rw[hb]at hds;simp at hds
   |some b=>
    rw[hb]at hds
    simp only[Option.map_some,Option.some.injEq]at hds
    obtain⟨a,ha,_,hle⟩:=hwant n b hb
    rw[hcs]at ha
    cases ha
    rcases hle L with⟨cs',ds',e1,rfl,_,h3⟩|⟨t,l,e1,_⟩|⟨es,e1,_⟩
    .cases e1
     rw[h3 hq]at hds
     simp only[BO.ren,Qpr hq,BO.box.injEq]at hds
     exact⟨hds.symm,ZB (Qcm hinj hcs hkn.1)⟩
    .cases e1
    .cases e1) hrd h hi
  grind
 refine⟨fun m ob hm'=>Qjj hm',fun L0 hL0=>?_⟩
 .have hinvc:Inv (Qap L0 rr δ) (OL.put 0 g.pre y):=fun n t l u hnl=>by
   obtain⟨a,ha,hk,_⟩:=hwant n _ hnl
   rcases hk with⟨cs,ds,_,h2⟩|⟨t',l',rfl,h2⟩|⟨es,_,h2⟩
   .cases h2
   .cases h2;exact hL0 _ t l _ ha
   .cases h2
  obtain⟨L1,hk1,hinv1,hspec⟩:=(hE (some d) f vs g hEf).spec x y va vb hF _ hinvc
  classical
  let L':Lens:=fun m v=>if h:∃n,n∈Wr g.post/\m=rr n/\v=δ n+1 then L1 (Classical.choose h) 1 else L0 m v
  have hA1:∀n,n∈Wr g.post->L' (rr n) (δ n+1)=L1 n 1:=fun n hn=>by
   have hex:∃k,k∈Wr g.post/\rr n=rr k/\δ n+1=δ k+1:=⟨n,hn,rfl,rfl⟩
   grind
  have hA2:∀m v,¬(∃n,n∈Wr g.post/\m=rr n/\v=δ n+1)->L' m v=L0 m v:=fun m v h=>dif_neg h
  have hkp:∀n,n∈g.keep\/n∈Qbo g.post->L' (rr n) (δ n+0)=L1 n 0:=fun n hn=>by
   rw[hA2,hk1 n hn];· rfl
   grind
  have hLL:∀n u,Qs2 g n u=true->L' (rr n) (δ n+u)=L1 n u:=fun n u hn=>by
   unfold Qs2 at hn
   split at hn
   .exact hkp n (by simp only[Bool.or_eq_true]at hn;exact hn.imp XR.1 XR.1)
   .exact hA1 n (XR.1 hn)
   .simp at hn
  refine⟨L',fun m v h1 h2=>hA2 m v ?_,fun m t l v hml=>?_,?_⟩
  .rintro⟨n,hn,rfl,rfl⟩
   by_cases hp:n∈keys g.pre
   .grind
   .have hmem:(n,(1000000+1000*d+n,0))∈Qb6 d g:=List.mem_map.2 ⟨n,List.mem_filter.2 ⟨Qa4 hn,by simpa using hp⟩,rfl⟩
    have:=(hfit n _ (List.mem_append_right _ hmem)).1
    grind
  .rw[ZV]at hml
   cases hu:look m (Qik rr δ (g.posts y vb))with
   |some ob=>
    rw[hu]at hml;cases hml
    obtain⟨n,rfl⟩:=Qf8 hu
    rw[Qfn hinj]at hu
    cases hb:look n (g.posts y vb)with
    |none=>rw[hb]at hu;simp at hu
    |some b=>
     rw[hb]at hu
     simp only[Option.map_some,Option.some.injEq]at hu
     cases b with
     |box cs=>simp[BO.ren]at hu
     |sm es=>simp[BO.ren]at hu
     |arr t' l' v'=>
      simp only[BO.ren]at hu;cases hu
      rw[hLL n v' ?_]
      .exact hinv1 n t l v' hb
      .unfold Sig.posts at hb
       rw[ZV]at hb
       cases hb1:look n (OL.put 1 g.post vb)with
       |some b1=>
        rw[hb1]at hb;cases hb
        rcases QjK hb1 with⟨k1,rfl⟩|⟨k1,rfl⟩
        .exact XR.2 k1
        .simp only[Qs2,XR.2 k1,Bool.or_true]
       |none=>
        rw[hb1]at hb
        simp only[Vo (f:=fun n=>g.keep.contains n)]at hb
        split at hb
        .rename_i hc
         have hv0:v'=0:=(QjK hb).elim (·.2) (·.2)
         subst hv0
         simp only[Qs2,XR.2 (show n∈g.keep by simpa using hc),Bool.true_or]
        .simp at hb
   |none=>
    rw[hu]at hml
    rw[hA2 m v ?_]
    .exact hL0 m t l v hml
    .rintro⟨n,hn,rfl,_⟩
     rw[Qfn hinj]at hu
     obtain⟨b,hb⟩:=Qfm (u:=1) (y:=vb) (Qa4 hn)
     have:look n (g.posts y vb)=some b:=by unfold Sig.posts;rw[ZV,hb]
     grind
  .have h1:=Spec.ren hinj hspec
   rw[Qxj hLL _ hu1,Qyp hLL _ hu2]at h1
   have h2:Qcf P f (renL rr (erL (Qap L0 rr δ) (SL.put 0 g.args x))) (erH L0 (hpOf rr hs (keys g.pre))) (((resB (SL.put 1 g.res va)).ren rr δ).er L') (erH L' (Qik rr δ (g.posts y vb))):=by
    refine Spec.preLe h1 (fun m ob hm=>?_) (fun m ob hm=>?_)
    .obtain⟨n,rfl⟩:=VK hm
     rw[YO hinj,ZH]at hm
     cases hb:look n (OL.put 0 g.pre y)with
     |none=>rw[hb]at hm;simp at hm
     |some b=>
      rw[hb]at hm
      simp only[Option.map_some,Option.some.injEq]at hm
      obtain⟨a,ha,_,hle⟩:=hwant n b hb
      have hkn:n∈keys g.pre:=by rw[<-Qjm (u:=0) (y:=y)];exact Zl (by rw[hb];simp)
      refine⟨a.er L0,by rw[ZH,Qcm hinj ha hkn];rfl,?_⟩
      rcases hle L0 with⟨cs,ds,rfl,rfl,h3⟩|⟨t,l,rfl,rfl⟩|⟨es,rfl,rfl⟩
      .exact .inr ⟨_,_,rfl,by rw[<-hm];simp only[BO.er,AO.ren],h3.1⟩
      .exact .inl (by rw[<-hm];simp only[BO.er,AO.ren])
      .exact .inl (by rw[<-hm];simp only[BO.er,AO.ren])
    .rw[ZH]at hm
     cases hb:look m (hpOf rr hs (keys g.pre))with
     |none=>rw[hb]at hm;simp at hm
     |some b=>
      obtain⟨n,hn,rfl⟩:=Qji (ZB hb)
      obtain⟨b',hb'⟩:=Qfm (u:=0) (y:=y) hn
      exact⟨_,by rw[YO hinj,ZH,hb'];rfl⟩
   exact hop hcall L0 _ _ _ _ (Spec.argsLe (Spec.argsLe h2 (g1 rr δ L0 hfit1)) (QnT hL0)) (QvS hcb)
end
end
/-
  The typed layer, part K: regions. No project text.
-/
section
variable {L L':Lens} {ts ts':TS} {hs hs':HS}
section
variable {R:Type}
def rdB(ts:TS):List Operand->TS
 |[]=>[]
 |.tmp t::r=>match look t ts with
  |some v=>(t,v)::rdB ts r
  |none=>rdB ts r
 |.const _::r=>rdB ts r
 |.global _::r=>rdB ts r
 |.func _::r=>rdB ts r
theorem QfK:∀{l:List Operand} {t:Nat} {v:BV},(t,v)∈rdB ts l->look t ts=some v
 |[],t,v,h=>by simp[rdB]at h
 |.tmp k::r,t,v,h=>by
  simp only[rdB]at h
  split at h
  .rename_i hk
   rcases List.mem_cons.1 h with h|h
   .cases h;exact hk
   .exact QfK h
  .exact QfK h
 |.const _::r,t,v,h=>QfK (l:=r) (by simpa only[rdB]using h)
 |.global _::r,t,v,h=>QfK (l:=r) (by simpa only[rdB]using h)
 |.func _::r,t,v,h=>QfK (l:=r) (by simpa only[rdB]using h)
def Qp7(rd:TS)(x:Operand):Option (FuncId×List BV):=match ZN rd x with
 |some (.v (.func (.func f) ⟨[]⟩ ⟨[]⟩))=>some (f,[])
 |some (.clo (.func f) cs)=>some (f,cs)
 |_=>none
def opK(P:Program)(ty:TypeId->Option TC)(E:Env)(sp:Bool)(nn:Nat)(x:TS)(o:Oper)(ts:TS)(hs:HS)(K:BEff->TS->HS->Option R):Option R:=
 match o.op with
 |.call c=>match c.callee with
  |.value (.func f)=>match Qg9 (x++rdB ts o.op.operands.toList) c.args.toList with
   |some vs=>QvU P E sp nn o.dst f vs ts hs K
   |none=>none
  |.value (.tmp t)=>match Qp7 (x++rdB ts o.op.operands.toList) (.tmp t),Qg9 (x++rdB ts o.op.operands.toList) c.args.toList with
   |some q,some vs=>QvU P E sp nn o.dst q.1 (vs++q.2) ts hs K
   |_,_=>none
  |_=>bop P ty (x++rdB ts o.op.operands.toList) hs (goE sp nn o.dst ts hs K) o
 |_=>bop P ty (x++rdB ts o.op.operands.toList) hs (goE sp nn o.dst ts hs K) o
variable {r:R} {P:Program} {ty:TypeId->Option TC} {E:Env} {nn:Nat}
theorem QrH{sp:Bool}{x:TS}{o:Oper}{K:BEff->TS->HS->Option R}(hE:QnY P E)(hx:∀t v,(t,v)∈x->look t ts=some v)(h:opK P ty E sp nn x o ts hs K=some r)(hi:Inv L hs):
  ∃e L',Step P o (x++rdB ts o.op.operands.toList) L ts hs e L'/\Qb5 nn o.dst=true/\K e (putB o.dst e.v ts) (e.upd++hs)=some r:=by
 have hrd:∀t v,(t,v)∈x++rdB ts o.op.operands.toList->look t ts=some v:=fun t v hm=>by
  rcases List.mem_append.1 hm with hm|hm
  .exact hx t v hm
  .exact QfK hm
 have hb:bop P ty (x++rdB ts o.op.operands.toList) hs (goE sp nn o.dst ts hs K) o=some r->∃e L',Step P o (x++rdB ts o.op.operands.toList) L ts hs e L'/\Qb5 nn o.dst=true/\K e (putB o.dst e.v ts) (e.upd++hs)=some r:=fun h=>by
  obtain⟨e,h,hg⟩:=QyQ h
  obtain⟨L',h1,h2,h3⟩:=Qro (rd:=x++rdB ts o.op.operands.toList) hg hrd h hi
  grind
 unfold opK at h
 split at h
 .rename_i c ho
  split at h
  .rename_i f hf
   obtain⟨callee,args,ats⟩:=c
   simp only at hf;subst hf
   split at h
   .rename_i vs hvs
    exact QhU (rd:=x++rdB ts o.op.operands.toList) hE (fun hcall L pre h v nw hs hc=>OpOK.call ho hcall (Qep L hvs) hs hc) hrd h hi
   .simp at h
  .rename_i t hf
   obtain⟨callee,args,ats⟩:=c
   simp only at hf;subst hf
   split at h
   .rename_i q vs hq hvs
    unfold Qp7 at hq
    split at hq
    .rename_i f hx
     cases hq
     rw[List.append_nil]at h
     exact QhU (rd:=x++rdB ts o.op.operands.toList) hE (fun hcall L pre h v nw hs hc=>OpOK.callFv ho (by have:=Qh L hx;simpa only[BV.er]using this) hcall (Qep L hvs) hs hc) hrd h hi
    .rename_i f cs hx
     cases hq
     exact QhU (rd:=x++rdB ts o.op.operands.toList) hE (fun hcall L pre h v nw hs hc=>OpOK.callClo ho (by have:=Qh L hx;simpa only[BV.er]using this) hcall (Qep L hvs) (by rw[Qsj]at hs;exact hs) hc) hrd h hi
    .simp at hq
   .simp at h
  .exact hb h
 .exact hb h
mutual
def QuE:BV->List Name
 |.own m _=>[m]
 |.view m _ _ _=>[m]
 |.cut m _ _=>[m]
 |.agg cs=>Qyk cs
 |_=>[]
def Qyk:List BV->List Name
 |[]=>[]
 |x::r=>QuE x++Qyk r
end
def Qwy(ts:TS)(x:Operand):List Name:=match ZN ts x with
 |some v=>QuE v
 |none=>[]
def Qzl(ts:TS)(x:Operand):List Name:=match ZN ts x with
 |some (.view m _ _ _)=>[m]
 |_=>[]
def cutO(ts:TS)(x:Operand):Option Name:=match ZN ts x with
 |some (.cut n _ _)=>some n
 |_=>none
def QrB:List Sh->List BV->List Name
 |.lst _::r,v::vs=>QuE v++QrB r vs
 |_::r,_::vs=>QrB r vs
 |_,_=>[]
def Qxe(pre:List (Name×OSh))(hs:HS)(nm m:Name):List Name:=match look nm pre,look m hs with
 |some (.boxst _),some (.box cs)=>Qyk cs
 |some (.box l),some (.box cs)=>QrB l cs
 |_,_=>[]
def QrA(pre:List (Name×OSh))(hs:HS):List Name->List BV->List Name
 |nm::q,.ref m _::vs=>Qxe pre hs nm m++QrA pre hs q vs
 |_,_=>[]
def UN(pre:List (Name×OSh))(hs:HS):List SSh->List BV->List Name
 |.one (.lst _)::r,v::vs=>QuE v++UN pre hs r vs
 |.one (.ref nm)::r,.ref m _::vs=>Qxe pre hs nm m++UN pre hs r vs
 |.one (.clo _ ns)::r,.clo _ cs::vs=>QrA pre hs ns cs++UN pre hs r vs
 |.st _::r,v::vs=>QuE v++UN pre hs r vs
 |.agg l::r,.agg cs::vs=>QrB l cs++UN pre hs r vs
 |_::r,_::vs=>UN pre hs r vs
 |_,_=>[]
def needs(E:Env)(ts:TS)(hs:HS)(o:Oper):List Name:=match o.op with
 |.buildSlice _ _ parts=>parts.toList.flatMap fun p=>Qwy ts p.2
 |.store _ x y=>match ZN ts x with
  |some (.aref _ _ _ _)=>Qwy ts y
  |_=>[]
 |.call c=>match c.callee,c.args.toList with
  |.builtin .append,[x,y]=>match cutO ts x with
   |some n=>(Qwy ts y).filter fun m=>!Nat.beq m n
   |none=>Qzl ts x++Qwy ts y
  |.value (.func f),args=>match Qg9 ts args with
   |some vs=>match E o.dst f vs with
    |some g=>UN g.pre hs g.args vs
    |none=>[]
   |none=>[]
  |.value (.tmp t),args=>match Qp7 ts (.tmp t),Qg9 ts args with
   |some q,some vs=>match E o.dst q.1 (vs++q.2)with
    |some g=>UN g.pre hs g.args (vs++q.2)
    |none=>[]
   |_,_=>[]
  |_,_=>[]
 |_=>[]
def Qd4{α:Type}(f:Nat->Bool):List Nat->List (Nat×α)->List (Nat×α)
 |_,[]=>[]
 |seen,(k,v)::r=>match f k && !isIn k seen with
  |true=>(k,v)::Qd4 f (k::seen) r
  |false=>Qd4 f seen r
def QpF{α R:Type}(f:Nat->Bool):List Nat->List (Nat×α)->(List (Nat×α)->R)->R
 |_,[],K=>K []
 |seen,(k,v)::r,K=>match f k && !isIn k seen with
  |true=>QpF f (k::seen) r fun q=>K ((k,v)::q)
  |false=>QpF f seen r K
theorem QjC{α R:Type}{f:Nat->Bool}:∀(seen:List Nat) (l:List (Nat×α)) (K:List (Nat×α)->R),QpF f seen l K=K (Qd4 f seen l)
 |_,[],K=>rfl
 |seen,(k,v)::r,K=>by
  simp only[QpF,Qd4]
  split
  .rw[QjC (k::seen) r]
  .rw[QjC seen r]
theorem Vw{α:Type}{f:Nat->Bool}(n:Nat):∀(seen:List Nat) (l:List (Nat×α)),look n (Qd4 f seen l)=if f n && !isIn n seen then look n l else none
 |seen,[]=>by simp[Qd4,look]
 |seen,(k,v)::r=>by
  have isIn_cons:∀m,isIn m (k::seen)=(Nat.beq k m || isIn m seen):=fun m=>by simp[isIn]
  simp only[Qd4]
  split
  .rename_i h
   simp only[look]
   rw[Vw n (k::seen) r,isIn_cons]
   by_cases e:k=n
   .subst e;rw[if_pos rfl,if_pos rfl,h];rfl
   .have:Nat.beq k n=false:=Bool.eq_false_iff.2 fun h=>e (nbe h)
    rw[if_neg e,if_neg e,this,Bool.false_or]
  .rename_i h
   rw[Vw n seen r]
   simp only[look]
   by_cases e:k=n
   .subst e;rw[h];rfl
   .rw[if_neg e]
theorem Inv.trim{f:Name->Bool}(hi:Inv L hs):Inv L (Qd4 f [] hs):=fun n t l v hn=>by
 rw[Vw]at hn
 split at hn
 .exact hi n t l v hn
 .simp at hn
theorem Sim.only{f:Nat->Bool}{g:Name->Bool}{ρ:Name->Loc}{M:Nat->Prop}{a:Act}{w:World}{Γ:Ctx}(h:Sim Γ ρ M (BS L ts hs) a w)(hg:∀n,n∈Γ.names->g n=true):Sim Γ ρ M (BS L (Qd4 f [] ts) (Qd4 g [] hs)) a w:=by
 refine h.forget (fun t x hx=>?_) (fun n o hn=>?_) (fun n hn hc=>?_)
 .rw[Xk,Vw]at hx
  rw[Xk]
  grind
 .rw[Xj,Vw]at hn
  rw[Xj]
  grind
 .rw[Xj,Vw,if_pos (by rw[hg n hn];rfl)]at hc
  obtain⟨o,ho,_⟩:=h.keep n hn
  rw[Xj,hc]at ho;simp at ho
def Qy7(n:Name)(ts:TS)(t:Nat):Bool:=match look t ts with
 |some (.tup vs)=>!BV.hasL n vs
 |_=>true
theorem Sim.onlyT{f:Nat->Bool}{ρ:Name->Loc}{M:Nat->Prop}{a:Act}{w:World}{Γ:Ctx}(h:Sim Γ ρ M (BS L ts hs) a w):Sim Γ ρ M (BS L (Qd4 f [] ts) hs) a w:=by
 have h2:=h.only (f:=f) (g:=fun _=>true) fun _ _=>rfl
 refine h2.congr (fun t=>rfl) (fun n=>?_)
 show(BS L (Qd4 f [] ts) hs).heap n=(BS L (Qd4 f [] ts) (Qd4 (fun _=>true) [] hs)).heap n
 rw[Xj,Xj,Vw];rfl
def frzK(gn:List Name):List Name->TS->HS->(TS->HS->Option R)->Option R
 |[],ts,hs,K=>K ts hs
 |n::r,ts,hs,K=>match look n hs with
  |some (.arr t l v)=>QpF (Qy7 n ts) [] ts fun ts=>if !isIn n gn && fzB n ts hs then frzK gn r (fzT n v t l ts) (fzH n v t l hs) K else none
  |_=>frzK gn r ts hs K
theorem Qcl{gn:List Name}{Γ:Ctx}(hgn:Γ.names=gn):∀{ns:List Name} {ts:TS} {hs:HS} {K:TS->HS->Option R},frzK gn ns ts hs K=some r->Inv L hs->
  ∃ts' hs',K ts' hs'=some r/\Inv L hs'/\∀ρ M a w,Sim Γ ρ M (BS L ts hs) a w->∃ρ' M',Sim Γ ρ' M' (BS L ts' hs') a w
 |[],ts,hs,K,h,hi=>⟨ts,hs,h,hi,fun ρ M a w hs0=>⟨ρ,M,hs0⟩⟩
 |n::ns,ts,hs,K,h,hi=>by
  simp only[frzK]at h
  split at h
  .rename_i t l v hl
   rw[QjC]at h
   split at h
   .rename_i hb
    simp only[bae,Bool.not_eq_true']at hb
    have hn:n∉Γ.names:=fun hm=>by
     rw[hgn]at hm
     have:=XR.2 hm
     rw[this]at hb;simp at hb
    have hi':Inv L (fzH n v t l hs):=by
     intro k t' l' u hk
     rw[Qrx]at hk
     split at hk
     .simp at hk
     .cases hx:look k hs with
      |none=>rw[hx]at hk;simp at hk
      |some x=>
       rw[hx]at hk
       simp only[Option.map_some,Option.some.injEq]at hk
       cases x with
       |box cs=>simp[BO.frz]at hk
       |arr t2 l2=>simp only[BO.frz]at hk;cases hk;exact hi k _ _ _ hx
       |sm es=>simp[BO.frz]at hk
    obtain⟨ts',hs',h1,h2,h3⟩:=Qcl hgn h hi'
    refine⟨ts',hs',h1,h2,fun ρ M a w hs0=>?_⟩
    obtain⟨⟨ρ1,M1,hs1⟩,_⟩:=(hs0.onlyT (f:=Qy7 n ts)).frz hi hn hl hb.2
    exact h3 ρ1 M1 a w hs1
   .simp at h
  .exact Qcl hgn h hi
def Qzf(o:Oper):Option Nat:=match o.op with
 |.store _ _ (.tmp d)=>some d
 |_=>none
def delN(n:Name):HS->HS
 |[]=>[]
 |p::r=>if Nat.beq p.1 n then delN n r else p::delN n r
def Qtd(gn:List Name)(o:Oper)(ts:TS)(hs:HS)(K:TS->HS->Option R):Option R:=match Qzf o with
 |some d=>match look d ts with
  |some (.cut n u k)=>match look n hs with
   |some (.arr t l q)=>if Nat.beq u q && !isIn n gn && (look (1000+d) hs).isNone && QdV (1000+d) ts hs then lec k l.length (K ((d,.own (1000+d) 0)::ts) ((1000+d,.arr t (l.take k) 0)::delN n hs))else none
   |_=>none
  |_=>K ts hs
 |_=>K ts hs
theorem Qhi{n m:Name}:∀{hs:HS},look m (delN n hs)=if m=n then none else look m hs
 |[]=>by simp[delN,look]
 |(k,x)::r=>by
  simp only[delN]
  split
  .rename_i h
   have:=nbe h
   subst this
   rw[Qhi]
   simp only[look]
   split
   .rfl
   .rename_i h;rw[if_neg (Ne.symm h)]
  .rename_i h
   simp only[look,Qhi]
   split
   .rename_i e;subst e
    rw[if_neg]
    intro e;subst e;simp at h
   .rfl
theorem QpW{gn:List Name}{Γ:Ctx}{o:Oper}{K:TS->HS->Option R}{r:R}(hgn:Γ.names=gn)(h:Qtd gn o ts hs K=some r)(hi:Inv L hs):
  ∃ts' hs' L',K ts' hs'=some r/\Inv L' hs'/\∀ρ M a w,Sim Γ ρ M (BS L ts hs) a w->∃ρ' M',Sim Γ ρ' M' (BS L' ts' hs') a w:=by
 have same:K ts hs=some r->∃ts' hs' L',K ts' hs'=some r/\Inv L' hs'/\∀ρ M a w,Sim Γ ρ M (BS L ts hs) a w->∃ρ' M',Sim Γ ρ' M' (BS L' ts' hs') a w:=fun h=>⟨ts,hs,L,h,hi,fun ρ M a w hs0=>⟨ρ,M,hs0⟩⟩
 unfold Qtd at h
 split at h
 .rename_i d _
  split at h
  .rename_i n u k hd
   split at h
   .rename_i t l q hn
    split at h
    .rename_i hb
     simp only[bae,Bool.not_eq_true']at hb
     obtain⟨⟨⟨b1,b2⟩,b3⟩,b4⟩:=hb
     have:=nbe b1;subst this
     have hg:n∉Γ.names:=fun hm=>by
      rw[hgn]at hm
      have:=XR.2 hm
      rw[this]at b2;simp at b2
     have hm0:look (1000+d) hs=none:=Option.isNone_iff_eq_none.1 b3
     obtain⟨hle,h⟩:=ZP h
     let L1:Lens:=fun m v=>if m=1000+d then k else L m v
     obtain⟨e1,e2⟩:=Qel (L:=L) (L':=L1) (nw:=[1000+d]) (nv:=[]) (ts:=ts) (hs:=hs) (fun n hn=>by simp only[List.mem_singleton]at hn;subst hn;exact b4) (fun p hp=>by simp at hp) (fun n v hn _=>if_neg (by simpa using hn))
     refine⟨_,_,L1,h,fun m t' l' v hm=>?_,fun ρ M a w hs0=>?_⟩
     .simp only[look]at hm
      split at hm
      .rename_i e;cases hm;subst e
       show(if _=_ then k else _)=_
       rw[if_pos rfl,List.length_take];omega
      .rename_i e
       rw[Qhi]at hm
       split at hm
       .simp at hm
       .show(if m=1000+d then k else L m v)=_
        rw[if_neg (Ne.symm e)];exact hi m t' l' v hm
     .have hLn:L n u=l.length:=hi n t l u hn
      obtain⟨ρ',hs1⟩:=hs0.adopt (n:=n) (m:=1000+d) (es:=tz t) (k:=k) (t:=d) (rows:=l.map (tcells t)) hg (by rw[Xj,hn];rfl) (by rw[Xj,hm0];rfl) (Qh3 (by rw[Qc2];exact b4)) (by rw[List.length_map];exact hle) (by rw[Xk,hd];simp only[Option.map_some,BV.er,hLn,List.length_map])
      refine⟨ρ',M,hs1.congr (fun j=>?_) (fun j=>?_)⟩
      .rw[Xk]
       simp only[look]
       by_cases e:d=j
       .subst e;simp only[if_true,Option.map_some,BV.er];show some (AV.own _ (if _=_ then k else _))=_;rw[if_pos rfl]
       .simp only[e,Ne.symm e,if_false]
        rw[Xk,<-VJ,<-VJ,e1]
      .rw[Xj]
       simp only[look]
       by_cases e:1000+d=j
       .subst e;simp only[if_true,Option.map_some,BO.er,List.map_take]
       .simp only[e,Ne.symm e,if_false,Qhi]
        by_cases e3:j=n
        .simp[e3]
        .simp only[e3,if_false]
         rw[Xj,<-ZH,<-ZH,e2]
    .simp at h
   .simp at h
  .exact same h
 .exact same h
section
variable (P:Program) (ty:TypeId->Option TC) (E:Env) (gn:List Name) (nn:Nat) (ops:Array Oper)
def exK(sp:Bool)(x:TS)(o:Oper)(ts:TS)(hs:HS)(K:TS->HS->Option R):Option R:=
 frzK gn (needs E ts hs o) ts hs fun ts hs=>Qtd gn o ts hs fun ts hs=>opK P ty E sp nn x o (x++ts) hs fun _ ts hs=>K ts hs
def guarded(ops:Array Oper):Bool:=ops.toList.any fun o=>o.guard.isSome
def regK(sp:Bool)(K:TS->HS->Option R):Nat->Nat->TS->HS->Option R
 |0,i,ts,hs=>if Nat.beq ops.size i then K ts hs else none
 |f+1,i,ts,hs=>match ops[i]? with
  |none=>none
  |some o=>match o.guard with
   |none=>exK P ty E gn nn sp [] o ts hs fun ts hs=>regK sp K f (i+1) ts hs
   |some (j,b)=>match (ops[j]?).bind (·.dst)with
    |none=>none
    |some g=>match look g ts with
     |some (.b q)=>cnd q
       (match b with
        |true=>exK P ty E gn nn sp [(g,.b true)] o ts hs fun ts hs=>regK sp K f (i+1) ts hs
        |false=>if Qb5 nn o.dst then regK sp K f (i+1) (putB o.dst (.tup []) ts) hs else none)
       (match b with
        |true=>if Qb5 nn o.dst then regK sp K f (i+1) (putB o.dst (.tup []) ts) hs else none
        |false=>exK P ty E gn nn sp [(g,.b false)] o ts hs fun ts hs=>regK sp K f (i+1) ts hs)
     |some (.tup [])=>if Qb5 nn o.dst then regK sp K f (i+1) (putB o.dst (.tup []) ts) hs else none
     |_=>none
end
theorem QyH{ops:Array Oper}{i:Nat}{o:Oper}{a:Act}{w:World}{K:Act->World->Prop}{Q:Exit->Act->World->Prop}(hi:ops[i]?=some o)(hw:Region.wanted o (yielded ops a.tmps)=true)(h:o.wp P a w K Q):wpOp P ops Q i K a w:=by
 unfold wpOp
 simp_all
theorem Qt2{sp:Bool}{gn:List Name}{ops:Array Oper}{i:Nat}{x:TS}{o:Oper}{K:TS->HS->Option R}{Γ:Ctx}{KK:Act->World->Prop}{Q:Exit->Act->World->Prop}(hE:QnY P E)(hgn:Γ.names=gn)(hn:Γ.n=nn)(h:exK P ty E gn nn sp x o ts hs K=some r)(hx:∀t v,(t,v)∈x->look t ts=some v)(hx1:∀t v,(t,v)∈x->∃q,v=.b q)(hxl:x.length<=1)(hi:Inv L hs)(hop:ops[i]?=some o)(hw:∀ρ M a w,Sim Γ ρ M (BS L ts hs) a w->Region.wanted o (yielded ops a.tmps)=true)(hK:∀ts' hs' L' ρ' M' a' w',K ts' hs'=some r->Inv L' hs'->Sim Γ ρ' M' (BS L' ts' hs') a' w'->KK a' w'):
  ∀ρ M a w,Sim Γ ρ M (BS L ts hs) a w->wpOp P ops Q i KK a w:=by
 intro ρ M a w hs0
 have hw0:=hw ρ M a w hs0
 obtain⟨ts0,hs00,h,hi0,hfz⟩:=Qcl hgn h hi
 obtain⟨ts1,hs1,L,h,hi1,had⟩:=QpW hgn h hi0
 obtain⟨ρ0,M0,hs0'⟩:=hfz ρ M a w hs0
 obtain⟨ρ1,M1,hs1'⟩:=had ρ0 M0 a w hs0'
 have hxx:Sim Γ ρ1 M1 (BS L (x++ts1) hs1) a w:=by
  refine⟨hs1'.n,hs1'.d,fun t y hy=>?_,hs1'.objs,hs1'.inj,hs1'.own0,hs1'.keep,hs1'.ext,hs1'.mext,hs1'.msize,hs1'.m0,hs1'.ground⟩
  obtain⟨v,hv,rfl⟩:=QnN hy
  rw[ZV]at hv
  cases hl:look t x with
  |none=>rw[hl]at hv;simp only at hv;exact hs1'.slots t _ (by rw[Xk,hv];rfl)
  |some v'=>
   rw[hl]at hv;cases hv
   have hm:=ZB hl
   obtain⟨q,rfl⟩:=hx1 t v hm
   obtain⟨u,hu,hr⟩:=hs0.slots t ((BV.b q).er L) (by rw[Xk,hx t _ hm];rfl)
   refine⟨u,hu,?_⟩
   simp only[BV.er,AV.R,PV.R]at hr |-
   exact hr
 obtain⟨e,L',hst,hd,hK'⟩:=QrH hE (fun t v hm=>by
  rw[ZV]
  match x,hxl,hm with
  |[(t0,v0)],_,hm=>
   simp only[List.mem_singleton,Prod.mk.injEq]at hm
   obtain⟨rfl,rfl⟩:=hm
   simp only[look,if_true]) h hi1
 exact QyH hop hw0 (hst.go hd hn hxx fun ρ' M' a' w' hs'=>hK _ _ L' ρ' M' a' w' hK' hst.inv hs')
theorem QyI{ops:Array Oper}{Γ:Ctx}{ρ:Name->Loc}{M:Nat->Prop}{a:Act}{w:World}{j g:Nat}{q:Bool}(hj:(ops[j]?).bind (·.dst)=some g)(hl:look g ts=some (.b q))(hs0:Sim Γ ρ M (BS L ts hs) a w):yielded ops a.tmps j=some q:=by
 obtain⟨oj,h1,h2⟩:=Qg0 hj
 exact Qis hs0 h1 h2 (by rw[Xk,hl];simp only[Option.map_some,BV.er])
theorem Qyw{ops:Array Oper}{i j g:Nat}{o:Oper}{b:Bool}{v:BV}{Γ:Ctx}{KK:Act->World->Prop}{Q:Exit->Act->World->Prop}(hop:ops[i]?=some o)(hg:o.guard=some (j,b))(hj:(ops[j]?).bind (·.dst)=some g)(hl:look g ts=some v)(hv:v=.b (!b)\/v=.tup [])(hd:Qb5 nn o.dst=true)(hn:Γ.n=nn)(hK:∀ρ' M' a' w',Sim Γ ρ' M' (BS L (putB o.dst (.tup []) ts) hs) a' w'->KK a' w'):∀ρ M a w,Sim Γ ρ M (BS L ts hs) a w->wpOp P ops Q i KK a w:=by
 intro ρ M a w hs0
 obtain⟨oj,h1,h2⟩:=Qg0 hj
 have hd':∀d,o.dst=some d->d<Γ.n:=fun d hd'=>by rw[hd']at hd;simp only[Qb5]at hd;rw[hn];exact Nat.le_of_ble_eq_true hd
 have hrun:∀x:AV,(BS L ts hs).run o.dst ⟨[(g,x)],[],.tup [],[],[]⟩=BS L (putB o.dst (.tup []) ts) hs:=fun x=>by
  unfold BS
  rw[Qrz]
  cases o.dst with
  |none=>rfl
  |some d=>simp only[putT,putB,erT,List.map_cons,BV.er,erL,List.nil_append]
 rcases hv with rfl|rfl
 .refine WU.skipped hop hg h1 h2 Γ ρ M _ a w KK Q hs0 ⟨fun t x hx=>?_,fun n ob hn=>by simp at hn,fun n hn=>by simp at hn⟩ hd' (fun ρ' M' a' w' hs'=>hK ρ' M' a' w' (by rw[hrun]at hs';exact hs'))
  simp only[List.mem_singleton,Prod.mk.injEq]at hx
  obtain⟨rfl,rfl⟩:=hx
  rw[Xk,hl];simp only[Option.map_some,BV.er]
 .refine WU.skipped2 hop hg h1 h2 Γ ρ M _ a w KK Q hs0 ⟨fun t x hx=>?_,fun n ob hn=>by simp at hn,fun n hn=>by simp at hn⟩ hd' (fun ρ' M' a' w' hs'=>hK ρ' M' a' w' (by rw[hrun]at hs';exact hs'))
  simp only[List.mem_singleton,Prod.mk.injEq]at hx
  obtain⟨rfl,rfl⟩:=hx
  rw[Xk,hl];simp only[Option.map_some,BV.er,erL]
theorem QuZ{sp:Bool}{gn:List Name}{ops:Array Oper}{K:TS->HS->Option R}{Γ:Ctx}{Q:Exit->Act->World->Prop}(hE:QnY P E)(hgn:Γ.names=gn)(hn:Γ.n=nn)(hQ:∀ts' hs' L' ρ' M' a' w',K ts' hs'=some r->Inv L' hs'->Sim Γ ρ' M' (BS L' ts' hs') a' w'->Q .normal a' w'):
  ∀(f i:Nat) (ts:TS) (hs:HS) (L:Lens),regK P ty E gn nn ops sp K f i ts hs=some r->Inv L hs->∀ρ M a w,Sim Γ ρ M (BS L ts hs) a w->wpOps P ops Q (List.range' i (ops.size - i)) a w
 |0,i,ts,hs,L,h,hi,ρ,M,a,w,hs0=>by
  simp only[regK]at h
  split at h
  .rename_i e
   rw[nbe e,Nat.sub_self]
   simp only[List.range'_zero,wpOps]
   exact hQ ts hs L ρ M a w h hi hs0
  .simp at h
 |f+1,i,ts,hs,L,h,hi,ρ,M,a,w,hs0=>by
  simp only[regK]at h
  split at h
  .simp at h
  .rename_i o hop
   have hlt:i<ops.size:=(Array.getElem?_eq_some_iff.1 hop).1
   rw[show ops.size - i=(ops.size - (i+1))+1 by omega,List.range'_succ,wpOps_cons]
   have ih:=QuZ (sp:=sp) (gn:=gn) (ops:=ops) (K:=K) (Γ:=Γ) (Q:=Q) hE hgn hn hQ f (i+1)
   have hskip:∀{j:Nat} {b:Bool} {g:Nat} {v:BV},o.guard=some (j,b)->(ops[j]?).bind (·.dst)=some g->look g ts=some v->(v=.b (!b)\/v=.tup [])->
     (if Qb5 nn o.dst then regK P ty E gn nn ops sp K f (i+1) (putB o.dst (.tup []) ts) hs else none)=some r->wpOp P ops Q i (wpOps P ops Q (List.range' (i+1) (ops.size - (i+1)))) a w:=fun hg hj hl hv h=>by
    split at h
    .rename_i hd
     exact Qyw hop hg hj hl hv hd hn (fun ρ' M' a' w' hs'=>ih _ _ L h hi ρ' M' a' w' hs') ρ M a w hs0
    .simp at h
   have hex:∀{j:Nat} {b:Bool} {g:Nat},o.guard=some (j,b)->(ops[j]?).bind (·.dst)=some g->look g ts=some (.b b)->
     exK P ty E gn nn sp [(g,.b b)] o ts hs (fun ts hs=>regK P ty E gn nn ops sp K f (i+1) ts hs)=some r->wpOp P ops Q i (wpOps P ops Q (List.range' (i+1) (ops.size - (i+1)))) a w:=fun{j b g} hg hj hl h=>
    Qt2 hE hgn hn h (fun t v hm=>by simp only[List.mem_singleton,Prod.mk.injEq]at hm;obtain⟨rfl,rfl⟩:=hm;exact hl) (fun t v hm=>by simp only[List.mem_singleton,Prod.mk.injEq]at hm;obtain⟨rfl,rfl⟩:=hm;exact⟨b,rfl⟩) (Nat.le_refl _) hi hop
     (fun ρ M a w hs0=>by unfold Region.wanted;simp only[hg,QyI hj hl hs0,beq_self_eq_true]) (fun ts' hs' L' ρ' M' a' w' hK' hi' hs'=>ih _ _ L' hK' hi' ρ' M' a' w' hs') ρ M a w hs0
   split at h
   .rename_i hg
    exact Qt2 hE hgn hn h (fun t v hm=>by simp at hm) (fun t v hm=>by simp at hm) Ob hi hop (fun ρ M a w _=>by unfold Region.wanted;simp only[hg]) (fun ts' hs' L' ρ' M' a' w' hK' hi' hs'=>ih _ _ L' hK' hi' ρ' M' a' w' hs') ρ M a w hs0
   .rename_i j b hg
    split at h
    .simp at h
    .rename_i g hj
     split at h
     .rename_i q hl
      rcases Qg2 h with⟨rfl,h⟩|⟨rfl,h⟩
      .cases b with
       |true=>exact hex hg hj hl h
       |false=>exact hskip hg hj hl (.inl rfl) h
      .cases b with
       |true=>exact hskip hg hj hl (.inl rfl) h
       |false=>exact hex hg hj hl h
     .rename_i hl
      exact hskip hg hj hl (.inr rfl) h
     .simp at h
end
end
/-
  The typed layer, part L: code. No project text.
-/
open Go
abbrev BRow:=Option Nat×TS×BEff
def BRow.row(L:Lens)(b:BRow):Row:=(b.1,⟨erT L b.2.1,erH L b.2.2.hp,b.2.2.v.er L,erH L b.2.2.upd,b.2.2.nw⟩)
def L0:Lens:=fun _ _=>0
def Qkm(ops:Array Oper)(rows:List BRow)(ts:TS)(hs:HS):Bool:=indep ops (rows.map (BRow.row L0)) (erT L0 ts) (erH L0 hs)
section
variable {L L':Lens}
theorem Qwf(a:TS):keys (erT L a)=keys a:=by simp[erT,keys]
theorem Qma(n:Name)(b:BRow):(b.row L).2.has n=(b.row L').2.has n:=by
 simp only[BRow.row,Eff.has,Qrs]
 congr 1
 simp only[erH,List.any_map]
 congr 1;funext p;simp only[Function.comp,Qub]
theorem Qtg(x y:BRow):Ql0 (x.row L) (y.row L)=Ql0 (x.row L') (y.row L'):=by
 simp only[Ql0,BRow.row,Qwf,Qc4]
 have:(fun n=>!Eff.has n ⟨erT L y.2.1,erH L y.2.2.hp,y.2.2.v.er L,erH L y.2.2.upd,y.2.2.nw⟩)=fun n=>!Eff.has n ⟨erT L' y.2.1,erH L' y.2.2.hp,y.2.2.v.er L',erH L' y.2.2.upd,y.2.2.nw⟩:=by
  funext n;have:=Qma (L:=L) (L':=L') n y;simp only[BRow.row]at this;rw[this]
 rw[this]
theorem QoE(i:Nat)(x:BRow):∀(j:Nat) (l:List (BRow×Nat)),Qgr i (x.row L) j (l.map fun p=>(p.1.row L,p.2))=Qgr i (x.row L') j (l.map fun p=>(p.1.row L',p.2))
 |_,[]=>rfl
 |j,(y,m)::r=>by simp only[List.map_cons,Qgr,Qtg (L:=L) (L':=L') x y,QoE i x (j+1) r]
theorem QoR:∀(i:Nat) (l:List (BRow×Nat)),Qgy i (l.map fun p=>(p.1.row L,p.2))=Qgy i (l.map fun p=>(p.1.row L',p.2))
 |_,[]=>rfl
 |i,(x,m)::r=>by simp only[List.map_cons,Qgy,QoE (L:=L) (L':=L') i x (i+1) r,QoR (i+1) r]
theorem QrC(ts:TS)(hs:HS):∀(l past:List BRow),QiI (erT L ts) (erH L hs) (l.map (BRow.row L)) (past.map (BRow.row L))=QiI (erT L' ts) (erH L' hs) (l.map (BRow.row L')) (past.map (BRow.row L'))
 |[],past=>by simp only[List.map_nil,QiI]
 |y::r,past=>by
  have ih:=QrC ts hs r (past++[y])
  simp only[List.map_append,List.map_cons,List.map_nil]at ih
  simp only[List.map_cons,QiI,ih]
  congr 1
  show(y.2.2.nw.all fun n=>_)=(y.2.2.nw.all fun n=>_)
  congr 1;funext n
  simp only[List.all_map,Qc2,BRow.row,Qc4]
  congr 2
  congr 1;funext x
  have:=Qma (L:=L) (L':=L') n x
  simp only[BRow.row]at this
  simp only[Function.comp,BRow.row,this]
theorem QoD{ops:Array Oper}{rows:List BRow}{ts:TS}{hs:HS}(h:Qkm ops rows ts hs=true)(L:Lens):indep ops (rows.map (BRow.row L)) (erT L ts) (erH L hs)=true:=by
 unfold Qkm indep at h
 unfold indep
 have e:∀(L:Lens) (ms:List Nat),(rows.map (BRow.row L)).zip ms=(rows.zip ms).map fun p=>(p.1.row L,p.2):=fun L ms=>by
  rw[List.zip_map_left];rfl
 rw[e,QoR (L:=L) (L':=AM.L0),<-e]
 have:=QrC (L:=L) (L':=AM.L0) ts hs rows []
 simp_all
end
section
variable {R:Type} (P:Program) (ty:TypeId->Option TC) (E:Env) (gn:List Name) (nn:Nat) (ops:Array Oper)
def anyB(d:Option Nat)(v:BV):Bool:=match d,v with
 |some _,_=>true
 |none,.any=>true
 |none,_=>false
def QhV(sp:Bool)(m:Nat)(K:List BRow->TS->HS->Option R):Nat->Nat->List BRow->TS->HS->Option R
 |0,i,acc,ts,hs=>if Nat.beq m i then K acc.reverse ts hs else none
 |f+1,i,acc,ts,hs=>match ops[i]? with
  |none=>none
  |some o=>match o.guard with
   |none=>opK P ty E sp nn [] o ts hs fun e ts' hs'=>if anyB o.dst e.v then QhV sp m K f (i+1) ((o.dst,rdB ts o.op.operands.toList,e)::acc) ts' hs' else none
   |some (j,b)=>match (ops[j]?).bind (·.dst)with
    |none=>none
    |some g=>match look g ts with
     |some (.b q)=>cnd q
       (match b with
        |true=>opK P ty E sp nn [(g,.b true)] o ts hs fun e ts' hs'=>if anyB o.dst e.v then QhV sp m K f (i+1) ((o.dst,(g,.b true)::rdB ts o.op.operands.toList,e)::acc) ts' hs' else none
        |false=>if Qb5 nn o.dst then QhV sp m K f (i+1) ((o.dst,[(g,.b true)],ev (.tup []))::acc) (putB o.dst (.tup []) ts) hs else none)
       (match b with
        |true=>if Qb5 nn o.dst then QhV sp m K f (i+1) ((o.dst,[(g,.b false)],ev (.tup []))::acc) (putB o.dst (.tup []) ts) hs else none
        |false=>opK P ty E sp nn [(g,.b false)] o ts hs fun e ts' hs'=>if anyB o.dst e.v then QhV sp m K f (i+1) ((o.dst,(g,.b false)::rdB ts o.op.operands.toList,e)::acc) ts' hs' else none)
     |some (.tup [])=>if Qb5 nn o.dst then QhV sp m K f (i+1) ((o.dst,[(g,.tup [])],ev (.tup []))::acc) (putB o.dst (.tup []) ts) hs else none
     |_=>none
end
def noB:BRow:=(none,[],ev .any)
def Qx6(ops:Array Oper):Bool:=match ops[ops.size - 1]? with
 |some ⟨_,.store _ _ _,_,_,_,none⟩=>(List.range (ops.size - 1)).all fun j=>((masks ops.toList []).getD (ops.size - 1) 0).testBit j
 |_=>false
inductive Ann where
 |go
 |two (a b:Ann)
 |one (a:Ann)
 /-- The states that come out of it normally are said in this shape; what follows is said once. -/
 |join (s:List (Nat×SSh)) (o:List (Name×OSh)) (a:Ann)
 /-- A loop whose rounds begin in this shape. -/
 |loop (s:List (Nat×SSh)) (o:List (Name×OSh)) (a:Ann)
 /-- Arrays that are frozen ahead of it. -/
 |frz (ns:List Name) (a:Ann)
def Ann.l:Ann->Ann
 |.two a _=>a
 |.one a=>a
 |.loop _ _ a=>a
 |_=>.go
def Ann.r:Ann->Ann
 |.two _ b=>b
 |_=>.go
section
variable {R:Type} (P:Program) (ty:TypeId->Option TC) (E:Env) (gn:List Name) (nn fu:Nat)
abbrev Cont(R:Type):=Exit->TS->HS->Option R
def Qx0(σ:Ren):Bool:=σ.all fun p=>Nat.beq p.1 p.2.1 && Qmd p.1 p.2.1 p.2.2 σ
def Qzk(n:Name)(hs:HS):Nat:=match look n hs with
 |some (.arr _ _ v)=>v
 |_=>0
def getS(s:List (Nat×SSh))(o:List (Name×OSh))(ts:TS)(hs:HS)(K:STL s×OL o->Option R):Option R:=
 STL.get s ts [] fun σ x=>OL.get o hs (gn.map (fun n=>(n,(n,Qzk n hs)))++σ) fun σ y=>if Qx0 σ && gn.all (fun n=>isIn n (keys o))then K (x,y)else none
def thawA(o:List (Name×OSh))(t:Nat):Nat->List Sh->TS->HS->(TS->HS->Option R)->Option R
 |_,[],ts,hs,K=>K ts hs
 |j,.own nm::r,ts,hs,K=>match look t ts with
  |some (.agg cells)=>match cells[j]?,look nm o with
   |some .nil,some (.arr tc)=>if (look nm hs).isNone && QdV nm ts hs && Nat.ble 1 (tz tc)then thawA o t (j+1) r ((t,.agg (cells.set j (.own nm 0)))::ts) ((nm,.arr tc [] 0)::hs) K else none
   |some (.ts true _ []),some (.arr tc)=>if (look nm hs).isNone && QdV nm ts hs && Nat.ble 1 (tz tc)then thawA o t (j+1) r ((t,.agg (cells.set j (.own nm 0)))::ts) ((nm,.arr tc [] 0)::hs) K else none
   |_,_=>thawA o t (j+1) r ts hs K
  |_=>thawA o t (j+1) r ts hs K
 |j,_::r,ts,hs,K=>thawA o t (j+1) r ts hs K
def QlQ(o:List (Name×OSh)):List (Nat×SSh)->TS->HS->(TS->HS->Option R)->Option R
 |(t,.agg l)::r,ts,hs,K=>thawA o t 0 l ts hs fun ts hs=>QlQ o r ts hs K
 |(t,.one (.own nm))::r,ts,hs,K=>match look t ts,look nm o with
  |some .nil,some (.arr tc)=>if (look nm hs).isNone && QdV nm ts hs && Nat.ble 1 (tz tc)then QlQ o r ((t,.own nm 0)::ts) ((nm,.arr tc [] 0)::hs) K else none
  |some (.ts true _ []),some (.arr tc)=>if (look nm hs).isNone && QdV nm ts hs && Nat.ble 1 (tz tc)then QlQ o r ((t,.own nm 0)::ts) ((nm,.arr tc [] 0)::hs) K else none
  |_,_=>QlQ o r ts hs K
 |_::r,ts,hs,K=>QlQ o r ts hs K
 |[],ts,hs,K=>K ts hs
def QnQ(o:List (Name×OSh))(m:Name)(ts:TS):Nat->List Sh->HS->(HS->Option R)->Option R
 |_,[],hs,K=>K hs
 |j,.own nm::r,hs,K=>match look m hs with
  |some (.box cells)=>match cells[j]?,look nm o with
   |some .nil,some (.arr tc)=>if (look nm hs).isNone && QdV nm ts hs && Nat.ble 1 (tz tc)then QnQ o m ts (j+1) r ((m,.box (cells.set j (.own nm 0)))::(nm,.arr tc [] 0)::hs) K else none
   |some (.ts true _ []),some (.arr tc)=>if (look nm hs).isNone && QdV nm ts hs && Nat.ble 1 (tz tc)then QnQ o m ts (j+1) r ((m,.box (cells.set j (.own nm 0)))::(nm,.arr tc [] 0)::hs) K else none
   |_,_=>QnQ o m ts (j+1) r hs K
  |_=>QnQ o m ts (j+1) r hs K
 |j,_::r,hs,K=>QnQ o m ts (j+1) r hs K
def Qs1(o:List (Name×OSh))(ts:TS):List (Name×OSh)->HS->(HS->Option R)->Option R
 |(m,.box l)::r,hs,K=>QnQ o m ts 0 l hs fun hs=>Qs1 o ts r hs K
 |_::r,hs,K=>Qs1 o ts r hs K
 |[],hs,K=>K hs
def QyU(s:List (Nat×SSh))(t:Nat):Bool:=(look t s).isSome
def Quj(gn:List Name)(o:List (Name×OSh))(hs:HS)(n:Name):Bool:=match look n hs with
 |some (.box _)=>(look n o).isSome || isIn n gn
 |_=>true
def QoF(gn:List Name)(o:List (Name×OSh))(ts:TS)(hs:HS)(n:Name):Bool:=match look n hs with
 |some (.arr _ _ _)=>isIn n gn || (look n o).isNone || !QdV n ts hs
 |_=>true
def Qmw(s:List (Nat×SSh))(o:List (Name×OSh))(ts:TS)(hs:HS)(K:STL s×OL o->Option R):Option R:=
 QpF (QyU s) [] ts fun ts'=>QpF (Quj gn o hs) [] hs fun hs'=>frzK gn (UN o hs (s.map (·.2)) (s.map fun p=>(look p.1 ts).getD .any)) ts' hs' fun ts hs=>QpF (QoF gn o ts hs) [] hs fun hs=>QlQ o s ts hs fun ts hs=>Qs1 o ts o hs fun hs=>getS gn s o (QwV hs s ts) hs K
def Qwp(K:Cont R)(N:TS->HS->Option R):Cont R:=fun e ts hs=>match e with
 |.normal=>N ts hs
 |e=>K e ts hs
def Qw3(id:Nat)(K:Cont R):Cont R:=fun e ts hs=>match e with
 |.exit k=>if Nat.beq k id then K .normal ts hs else K (.exit k) ts hs
 |e=>K e ts hs
def around(an:Ann)(ts:TS)(hs:HS)(K:Cont R)(body:Ann->TS->HS->Cont R->Option R):Option R:=match an with
 |.join s o a=>join (fun y:STL s×OL o=>K .normal (STL.put 0 s y.1) (OL.put 0 o y.2)) fun J=>body a ts hs (Qwp K fun ts hs=>Qmw gn s o ts hs J)
 |.frz ns a=>frzK gn ns ts hs fun ts hs=>body a ts hs K
 |a=>body a ts hs K
def vc[DecidableEq R]:Code->Ann->TS->HS->Cont R->Option R
 |.skip,an,ts,hs,K=>K .normal ts hs
 |.label _,an,ts,hs,K=>K .normal ts hs
 |.ret,an,ts,hs,K=>K .ret ts hs
 |.exit id,an,ts,hs,K=>K (.exit id) ts hs
 |.seq a b,an,ts,hs,K=>around gn an ts hs K fun an ts hs K=>vc a an.l ts hs (Qwp K fun ts hs=>vc b an.r ts hs K)
 |.cond (.tmp t) a b,an,ts,hs,K=>around gn an ts hs K fun an ts hs K=>match look t ts with
  |some (.b q)=>cnd q (vc a an.l ts hs K) (vc b an.r ts hs K)
  |some .ub=>both (vc a an.l ts hs K) (vc b an.r ts hs K)
  |_=>none
 |.cond (.const (.bool q)) a b,an,ts,hs,K=>around gn an ts hs K fun an ts hs K=>match q with
  |true=>vc a an.l ts hs K
  |false=>vc b an.r ts hs K
 |.block id a,an,ts,hs,K=>around gn an ts hs K fun an ts hs K=>vc a an.l ts hs (Qw3 id K)
 |.loop a,an,ts,hs,K=>match an with
  |.loop s o an=>Qmw gn s o ts hs fun x=>Qg (fun Lp x=>vc a an (STL.put 0 s x.1) (OL.put 0 o x.2) (Qwp K fun ts hs=>Qmw gn s o ts hs Lp)) fu x
  |_=>none
 |.region _ ops dr,an,ts,hs,K=>around gn an ts hs K fun an ts hs K=>match dr with
  |false=>regK P ty E gn nn ops (guarded ops) (fun ts hs=>K .normal ts hs) ops.size 0 ts hs
  |true=>if P.follows .mixedOrders then(match Qx6 ops with
   |true=>QhV P ty E nn ops (guarded ops) (ops.size - 1) (fun rows ts' hs'=>if Qkm ops (rows++[noB]) ts hs then(match ops[ops.size - 1]? with
    |some o=>exK P ty E gn nn (guarded ops) [] o ts' hs' (fun ts hs=>K .normal ts hs)
    |none=>none)else none) (ops.size - 1) 0 [] ts hs
   |false=>QhV P ty E nn ops (guarded ops) ops.size (fun rows ts' hs'=>if Qkm ops rows ts hs then K .normal ts' hs' else none) ops.size 0 [] ts hs)else none
 |_,_,_,_,_=>none
end
end Go.Proofs.YtlllfgmajglnhaaGreat.AM
