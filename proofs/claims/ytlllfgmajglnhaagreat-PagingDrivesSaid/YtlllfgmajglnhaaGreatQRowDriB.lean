/-
  The structs of the program, as plain data; their cells; kinds of elements. Written by wip/gen/bdata.py. No project text.
-/
import Derived.Test.YtlllfgmajglnhaaGreatQRowDriA
import Derived.Maps.RangeRun
import Derived.Laws.StructEq
import Derived.Laws.BytesString
import Derived.Laws.Slices
set_option linter.defProp false
set_option linter.constructorNameAsVariable false
set_option linter.unusedVariables false
namespace Go.Proofs.YtlllfgmajglnhaaGreat.AM
open Go
namespace D
structure FD where
 a0:Int
 a1:Int
 deriving DecidableEq,Inhabited
abbrev FD.cells(x:FD):Y PV:=[.v (.int .i64 x.a0),.v (.int .i64 x.a1)]
structure Fq where
 a0:Int
 a1:Int
 a2:Int
 deriving DecidableEq,Inhabited
abbrev Fq.cells(x:Fq):Y PV:=[.v (.int .i64 x.a0),.v (.int .i64 x.a1),.v (.int .i64 x.a2)]
structure FF where
 w:Int
 To:Int
 Fz:Int
 F3:Int
 F1:Int
 Fb:Int
 Fa:Int
 deriving DecidableEq,Inhabited
abbrev FF.cells(x:FF):Y PV:=[.v (.int .i64 x.w),.v (.int .i64 x.To),.v (.int .i64 x.Fz),.v (.int .i64 x.F3),.v (.int .i64 x.F1),.v (.int .i64 x.Fb),.v (.int .i64 x.Fa)]
structure r where
 Name:AJ
 Fa:Int
 Fp:Y D.FF
 deriving DecidableEq,Inhabited
abbrev r.cells(x:r):Y PV:=[.v (.string x.Name),.v (.int .i64 x.Fa),.sl false 7 (x.Fp.map D.FF.cells)]
structure FE where
 w:Int
 To:Int
 deriving DecidableEq,Inhabited
abbrev FE.cells(x:FE):Y PV:=[.v (.int .i64 x.w),.v (.int .i64 x.To)]
structure R where
 Name:AJ
 r:Int
 Ff:Y D.FE
 Fv:Int
 Fw:Int
 Ft:AH
 deriving DecidableEq,Inhabited
abbrev R.cells(x:R):Y PV:=[.v (.string x.Name),.v (.int .i64 x.r),.sl false 2 (x.Ff.map D.FE.cells),.v (.int .i64 x.Fv),.v (.int .i64 x.Fw),.v (.bool x.Ft)]
structure n where
 Name:AJ
 r:Int
 Fy:Y Int
 deriving DecidableEq,Inhabited
abbrev n.cells(x:n):Y PV:=[.v (.string x.Name),.v (.int .i64 x.r),.sl false 1 (x.Fy.map D.cInt)]
structure Fd where
 Fj:Int
 Fb:Int
 deriving DecidableEq,Inhabited
abbrev Fd.cells(x:Fd):Y PV:=[.v (.int .i64 x.Fj),.v (.int .i64 x.Fb)]
structure x where
 Name:AJ
 r:Int
 T:D.Fd
 Unit:Int
 FH:Int
 s:Y Int
 Fi:Y D.FE
 n:Int
 Fx:Int
 deriving DecidableEq,Inhabited
abbrev x.cells(x:x):Y PV:=[.v (.string x.Name),.v (.int .i64 x.r),.v (.int .i64 x.T.Fj),.v (.int .i64 x.T.Fb),.v (.int .i64 x.Unit),.v (.int .i64 x.FH),.sl false 1 (x.s.map D.cInt),.sl false 2 (x.Fi.map D.FE.cells),.v (.int .i64 x.n),.v (.int .i64 x.Fx)]
structure t where
 Z:Int
 A:Int
 B:Int
 w:Int
 To:Int
 deriving DecidableEq,Inhabited
abbrev t.cells(x:t):Y PV:=[.v (.int .i64 x.Z),.v (.int .i64 x.A),.v (.int .i64 x.B),.v (.int .i64 x.w),.v (.int .i64 x.To)]
structure e where
 Name:AJ
 Fk:Y D.x
 FS:Y D.t
 deriving DecidableEq,Inhabited
abbrev e.cells(x:e):Y PV:=[.v (.string x.Name),.sl false 10 (x.Fk.map D.x.cells),.sl false 5 (x.FS.map D.t.cells)]
structure F where
 FG:Y D.r
 l:Y D.R
 o:Y D.n
 f:Y D.e
 deriving DecidableEq,Inhabited
abbrev F.cells(x:F):Y PV:=[.sl false 3 (x.FG.map D.r.cells),.sl false 6 (x.l.map D.R.cells),.sl false 3 (x.o.map D.n.cells),.sl false 3 (x.f.map D.e.cells)]
structure FU where
 Name:AJ
 s:Y Int
 deriving DecidableEq,Inhabited
abbrev FU.cells(x:FU):Y PV:=[.v (.string x.Name),.sl false 1 (x.s.map D.cInt)]
structure FL where
 Z:Int
 FW:Int
 deriving DecidableEq,Inhabited
abbrev FL.cells(x:FL):Y PV:=[.v (.int .i64 x.Z),.v (.int .i64 x.FW)]
structure y where
 Fs:Int
 Fm:AH
 Fe:Y D.FL
 deriving DecidableEq,Inhabited
abbrev y.cells(x:y):Y PV:=[.v (.int .i64 x.Fs),.v (.bool x.Fm),.sl false 2 (x.Fe.map D.FL.cells)]
structure W where
 Name:AJ
 Steps:Y D.y
 Fh:Int
 deriving DecidableEq,Inhabited
abbrev W.cells(x:W):Y PV:=[.v (.string x.Name),.sl false 3 (x.Steps.map D.y.cells),.v (.int .i64 x.Fh)]
structure b where
 v:Y D.FU
 k:Y D.W
 deriving DecidableEq,Inhabited
abbrev b.cells(x:b):Y PV:=[.sl false 2 (x.v.map D.FU.cells),.sl false 3 (x.k.map D.W.cells)]
structure T where
 K:Int
 At:Int
 l:Y Int
 deriving DecidableEq,Inhabited
abbrev T.cells(x:T):Y PV:=[.v (.int .i64 x.K),.v (.int .i64 x.At),.sl false 1 (x.l.map D.cInt)]
structure Page where
 S:Int
 W:Int
 T:Int
 E7:Int
 FJ:Int
 p:Int
 By:Int
 FK:Int
 FM:Int
 E6:Int
 FI:Int
 P:Y D.T
 i:Y Int
 h:Y Int
 deriving DecidableEq,Inhabited
abbrev Page.cells(x:Page):Y PV:=[.v (.int .i64 x.S),.v (.int .i64 x.W),.v (.int .i64 x.T),.v (.int .i64 x.E7),.v (.int .i64 x.FJ),.v (.int .i64 x.p),.v (.int .i64 x.By),.v (.int .i64 x.FK),.v (.int .i64 x.FM),.v (.int .i64 x.E6),.v (.int .i64 x.FI),.sl false 3 (x.P.map D.T.cells),.sl false 1 (x.i.map D.cInt),.sl false 1 (x.h.map D.cInt)]
structure Call where
 Page:Int
 K:Int
 At:Int
 R:Int
 Fence:Int
 deriving DecidableEq,Inhabited
abbrev Call.cells(x:Call):Y PV:=[.v (.int .i64 x.Page),.v (.int .i64 x.K),.v (.int .i64 x.At),.v (.int .i64 x.R),.v (.int .i64 x.Fence)]
structure G where
 E9:Int
 F:D.F
 b:D.b
 H:Y D.Page
 E5:Int
 Fence:Int
 h:Y Int
 Calls:Y D.Call
 deriving DecidableEq,Inhabited
abbrev G.cells(x:G):Y PV:=[.v (.int .i64 x.E9),.sl false 3 (x.F.FG.map D.r.cells),.sl false 6 (x.F.l.map D.R.cells),.sl false 3 (x.F.o.map D.n.cells),.sl false 3 (x.F.f.map D.e.cells),.sl false 2 (x.b.v.map D.FU.cells),.sl false 3 (x.b.k.map D.W.cells),.sl false 14 (x.H.map D.Page.cells),.v (.int .i64 x.E5),.v (.int .i64 x.Fence),.sl false 1 (x.h.map D.cInt),.sl false 5 (x.Calls.map D.Call.cells)]
structure a where
 S:Int
 Page:Int
 R:Int
 Z:Int
 Fo:Int
 At:Int
 deriving DecidableEq,Inhabited
abbrev a.cells(x:a):Y PV:=[.v (.int .i64 x.S),.v (.int .i64 x.Page),.v (.int .i64 x.R),.v (.int .i64 x.Z),.v (.int .i64 x.Fo),.v (.int .i64 x.At)]
structure Op where
 S:Int
 Z:Int
 Region:Int
 Fence:Int
 At:Int
 Page:Int
 K:Int
 W:Int
 e:Int
 a:D.a
 t:D.t
 deriving DecidableEq,Inhabited
abbrev Op.cells(x:Op):Y PV:=[.v (.int .i64 x.S),.v (.int .i64 x.Z),.v (.int .i64 x.Region),.v (.int .i64 x.Fence),.v (.int .i64 x.At),.v (.int .i64 x.Page),.v (.int .i64 x.K),.v (.int .i64 x.W),.v (.int .i64 x.e),.v (.int .i64 x.a.S),.v (.int .i64 x.a.Page),.v (.int .i64 x.a.R),.v (.int .i64 x.a.Z),.v (.int .i64 x.a.Fo),.v (.int .i64 x.a.At),.v (.int .i64 x.t.Z),.v (.int .i64 x.t.A),.v (.int .i64 x.t.B),.v (.int .i64 x.t.w),.v (.int .i64 x.t.To)]
structure m where
 Q:Int
 Op:D.Op
 deriving DecidableEq,Inhabited
abbrev m.cells(x:m):Y PV:=[.v (.int .i64 x.Q),.v (.int .i64 x.Op.S),.v (.int .i64 x.Op.Z),.v (.int .i64 x.Op.Region),.v (.int .i64 x.Op.Fence),.v (.int .i64 x.Op.At),.v (.int .i64 x.Op.Page),.v (.int .i64 x.Op.K),.v (.int .i64 x.Op.W),.v (.int .i64 x.Op.e),.v (.int .i64 x.Op.a.S),.v (.int .i64 x.Op.a.Page),.v (.int .i64 x.Op.a.R),.v (.int .i64 x.Op.a.Z),.v (.int .i64 x.Op.a.Fo),.v (.int .i64 x.Op.a.At),.v (.int .i64 x.Op.t.Z),.v (.int .i64 x.Op.t.A),.v (.int .i64 x.Op.t.B),.v (.int .i64 x.Op.t.w),.v (.int .i64 x.Op.t.To)]
structure N where
 S:Int
 Q:Int
 FZ:Int
 FA:Int
 j:Y D.m
 d:Int
 FQ:Y AH
 E8:Y Int
 deriving DecidableEq,Inhabited
abbrev N.cells(x:N):Y PV:=[.v (.int .i64 x.S),.v (.int .i64 x.Q),.v (.int .i64 x.FZ),.v (.int .i64 x.FA),.sl false 21 (x.j.map D.m.cells),.v (.int .i64 x.d),.sl false 1 (x.FQ.map D.cBool),.sl false 1 (x.E8.map D.cInt)]
structure c where
 Z:Int
 w:Int
 To:Int
 Q:Int
 z:Int
 FT:Int
 d:Int
 q:Y D.m
 OK:AH
 deriving DecidableEq,Inhabited
abbrev c.cells(x:c):Y PV:=[.v (.int .i64 x.Z),.v (.int .i64 x.w),.v (.int .i64 x.To),.v (.int .i64 x.Q),.v (.int .i64 x.z),.v (.int .i64 x.FT),.v (.int .i64 x.d),.sl false 21 (x.q.map D.m.cells),.v (.bool x.OK)]
structure M where
 E:Y D.N
 u:Y D.c
 FP:Y AH
 Fg:Y D.FD
 deriving DecidableEq,Inhabited
abbrev M.cells(x:M):Y PV:=[.sl false 8 (x.E.map D.N.cells),.sl false 9 (x.u.map D.c.cells),.sl false 1 (x.FP.map D.cBool),.sl false 2 (x.Fg.map D.FD.cells)]
structure g where
 FR:D.G
 M:D.M
 FN:Int
 deriving DecidableEq,Inhabited
abbrev g.cells(x:g):Y PV:=[.v (.int .i64 x.FR.E9),.sl false 3 (x.FR.F.FG.map D.r.cells),.sl false 6 (x.FR.F.l.map D.R.cells),.sl false 3 (x.FR.F.o.map D.n.cells),.sl false 3 (x.FR.F.f.map D.e.cells),.sl false 2 (x.FR.b.v.map D.FU.cells),.sl false 3 (x.FR.b.k.map D.W.cells),.sl false 14 (x.FR.H.map D.Page.cells),.v (.int .i64 x.FR.E5),.v (.int .i64 x.FR.Fence),.sl false 1 (x.FR.h.map D.cInt),.sl false 5 (x.FR.Calls.map D.Call.cells),.sl false 8 (x.M.E.map D.N.cells),.sl false 9 (x.M.u.map D.c.cells),.sl false 1 (x.M.FP.map D.cBool),.sl false 2 (x.M.Fg.map D.FD.cells),.v (.int .i64 x.FN)]
structure FC where
 L:Y Int
 At:Int
 deriving DecidableEq,Inhabited
abbrev FC.cells(x:FC):Y PV:=[.sl false 1 (x.L.map D.cInt),.v (.int .i64 x.At)]
structure site where
 g:D.g
 region:Int
 count:Int
 deriving DecidableEq,Inhabited
abbrev site.cells(x:site):Y PV:=[.v (.int .i64 x.g.FR.E9),.sl false 3 (x.g.FR.F.FG.map D.r.cells),.sl false 6 (x.g.FR.F.l.map D.R.cells),.sl false 3 (x.g.FR.F.o.map D.n.cells),.sl false 3 (x.g.FR.F.f.map D.e.cells),.sl false 2 (x.g.FR.b.v.map D.FU.cells),.sl false 3 (x.g.FR.b.k.map D.W.cells),.sl false 14 (x.g.FR.H.map D.Page.cells),.v (.int .i64 x.g.FR.E5),.v (.int .i64 x.g.FR.Fence),.sl false 1 (x.g.FR.h.map D.cInt),.sl false 5 (x.g.FR.Calls.map D.Call.cells),.sl false 8 (x.g.M.E.map D.N.cells),.sl false 9 (x.g.M.u.map D.c.cells),.sl false 1 (x.g.M.FP.map D.cBool),.sl false 2 (x.g.M.Fg.map D.FD.cells),.v (.int .i64 x.g.FN),.v (.int .i64 x.region),.v (.int .i64 x.count)]
structure fence where
 region:Int
 number:Int
 deriving DecidableEq,Inhabited
abbrev fence.cells(x:fence):Y PV:=[.v (.int .i64 x.region),.v (.int .i64 x.number)]
structure worker where
 G:D.G
 deriving DecidableEq,Inhabited
abbrev worker.cells(x:worker):Y PV:=[.v (.int .i64 x.G.E9),.sl false 3 (x.G.F.FG.map D.r.cells),.sl false 6 (x.G.F.l.map D.R.cells),.sl false 3 (x.G.F.o.map D.n.cells),.sl false 3 (x.G.F.f.map D.e.cells),.sl false 2 (x.G.b.v.map D.FU.cells),.sl false 3 (x.G.b.k.map D.W.cells),.sl false 14 (x.G.H.map D.Page.cells),.v (.int .i64 x.G.E5),.v (.int .i64 x.G.Fence),.sl false 1 (x.G.h.map D.cInt),.sl false 5 (x.G.Calls.map D.Call.cells)]
structure FV where
 At:Int
 Fa:Int
 deriving DecidableEq,Inhabited
abbrev FV.cells(x:FV):Y PV:=[.v (.int .i64 x.At),.v (.int .i64 x.Fa)]
structure FB where
 At:Int
 Fa:Int
 deriving DecidableEq,Inhabited
abbrev FB.cells(x:FB):Y PV:=[.v (.int .i64 x.At),.v (.int .i64 x.Fa)]
structure Fu where
 F0:Int
 Fz:Int
 Fj:Int
 deriving DecidableEq,Inhabited
abbrev Fu.cells(x:Fu):Y PV:=[.v (.int .i64 x.F0),.v (.int .i64 x.Fz),.v (.int .i64 x.Fj)]
structure occurrence where
 local_:Int
 offset:Int
 deriving DecidableEq,Inhabited
abbrev occurrence.cells(x:occurrence):Y PV:=[.v (.int .i64 x.local_),.v (.int .i64 x.offset)]
structure FY where
 offset:Int
 list:Y D.FB
 deriving DecidableEq,Inhabited
abbrev FY.cells(x:FY):Y PV:=[.v (.int .i64 x.offset),.sl false 2 (x.list.map D.FB.cells)]
structure Fl where
 F:D.F
 tables:Y D.FY
 deriving DecidableEq,Inhabited
abbrev Fl.cells(x:Fl):Y PV:=[.sl false 3 (x.F.FG.map D.r.cells),.sl false 6 (x.F.l.map D.R.cells),.sl false 3 (x.F.o.map D.n.cells),.sl false 3 (x.F.f.map D.e.cells),.sl false 2 (x.tables.map D.FY.cells)]
structure Fr where
 w:Int
 To:Int
 Fa:Int
 deriving DecidableEq,Inhabited
abbrev Fr.cells(x:Fr):Y PV:=[.v (.int .i64 x.w),.v (.int .i64 x.To),.v (.int .i64 x.Fa)]
end D
inductive TC where
 |int
 |TY
 |bool
 |u8
 |FD
 |Fq
 |FF
 |r
 |FE
 |R
 |n
 |Fd
 |x
 |t
 |e
 |F
 |FU
 |FL
 |y
 |W
 |b
 |T
 |Page
 |Call
 |G
 |a
 |Op
 |m
 |N
 |c
 |M
 |g
 |FC
 |site
 |fence
 |worker
 |FV
 |FB
 |Fu
 |occurrence
 |FY
 |Fl
 |Fr
 deriving DecidableEq
abbrev TT:TC->Type
 |.int=>Int
 |.TY=>AJ
 |.bool=>AH
 |.u8=>Int
 |.FD=>D.FD
 |.Fq=>D.Fq
 |.FF=>D.FF
 |.r=>D.r
 |.FE=>D.FE
 |.R=>D.R
 |.n=>D.n
 |.Fd=>D.Fd
 |.x=>D.x
 |.t=>D.t
 |.e=>D.e
 |.F=>D.F
 |.FU=>D.FU
 |.FL=>D.FL
 |.y=>D.y
 |.W=>D.W
 |.b=>D.b
 |.T=>D.T
 |.Page=>D.Page
 |.Call=>D.Call
 |.G=>D.G
 |.a=>D.a
 |.Op=>D.Op
 |.m=>D.m
 |.N=>D.N
 |.c=>D.c
 |.M=>D.M
 |.g=>D.g
 |.FC=>D.FC
 |.site=>D.site
 |.fence=>D.fence
 |.worker=>D.worker
 |.FV=>D.FV
 |.FB=>D.FB
 |.Fu=>D.Fu
 |.occurrence=>D.occurrence
 |.FY=>D.FY
 |.Fl=>D.Fl
 |.Fr=>D.Fr
instance ttDec (t:TC):AL (TT t):=by cases t<;>exact inferInstance
def tz:TC->Nat
 |.int=>1
 |.TY=>1
 |.bool=>1
 |.u8=>1
 |.FD=>2
 |.Fq=>3
 |.FF=>7
 |.r=>3
 |.FE=>2
 |.R=>6
 |.n=>3
 |.Fd=>2
 |.x=>10
 |.t=>5
 |.e=>3
 |.F=>4
 |.FU=>2
 |.FL=>2
 |.y=>3
 |.W=>3
 |.b=>2
 |.T=>3
 |.Page=>14
 |.Call=>5
 |.G=>12
 |.a=>6
 |.Op=>20
 |.m=>21
 |.N=>8
 |.c=>9
 |.M=>4
 |.g=>17
 |.FC=>2
 |.site=>19
 |.fence=>2
 |.worker=>12
 |.FV=>2
 |.FB=>2
 |.Fu=>3
 |.occurrence=>2
 |.FY=>2
 |.Fl=>5
 |.Fr=>3
def tcells:(t:TC)->TT t->Y PV
 |.int=>D.cInt
 |.TY=>D.cStr
 |.bool=>D.cBool
 |.u8=>(D.cK .u8)
 |.FD=>D.FD.cells
 |.Fq=>D.Fq.cells
 |.FF=>D.FF.cells
 |.r=>D.r.cells
 |.FE=>D.FE.cells
 |.R=>D.R.cells
 |.n=>D.n.cells
 |.Fd=>D.Fd.cells
 |.x=>D.x.cells
 |.t=>D.t.cells
 |.e=>D.e.cells
 |.F=>D.F.cells
 |.FU=>D.FU.cells
 |.FL=>D.FL.cells
 |.y=>D.y.cells
 |.W=>D.W.cells
 |.b=>D.b.cells
 |.T=>D.T.cells
 |.Page=>D.Page.cells
 |.Call=>D.Call.cells
 |.G=>D.G.cells
 |.a=>D.a.cells
 |.Op=>D.Op.cells
 |.m=>D.m.cells
 |.N=>D.N.cells
 |.c=>D.c.cells
 |.M=>D.M.cells
 |.g=>D.g.cells
 |.FC=>D.FC.cells
 |.site=>D.site.cells
 |.fence=>D.fence.cells
 |.worker=>D.worker.cells
 |.FV=>D.FV.cells
 |.FB=>D.FB.cells
 |.Fu=>D.Fu.cells
 |.occurrence=>D.occurrence.cells
 |.FY=>D.FY.cells
 |.Fl=>D.Fl.cells
 |.Fr=>D.Fr.cells
end Go.Proofs.YtlllfgmajglnhaaGreat.AM
set_option linter.unusedSimpArgs false
set_option autoImplicit true
set_option relaxedAutoImplicit true
namespace Go.Proofs.YtlllfgmajglnhaaGreat.AM
open Go
section
inductive BV where
 |n (k:IntKind) (x:Int)
 |b (x:Bool)
 |s (x:ByteArray)
 |ts (f:Bool) (t:TC) (l:List (TT t))
 |nil
 |agg (cs:List BV)
 |tup (vs:List BV)
 |TM (n:Name) (off:Nat)
 |own (n:Name) (ver:Nat)
 |aref (n:Name) (ver i off:Nat)
 |view (n:Name) (ver lo hi:Nat)
 |cut (n:Name) (ver k:Nat)
 |mref (n:Name)
 |tep (cs:List BV)
 |clo (f:Fn) (caps:List BV)
 |v (x:Value)
 |ub
 |any
inductive BO where
 |box (cells:List BV)
 |TI (t:TC) (l:List (TT t)) (ver:Nat)
 |sm (es:List (ByteArray×Bool))
abbrev TS:=Y (Nat×BV)
abbrev HS:=Y (Name×BO)
def BV.pv:BV->PV
 |.n k x=>.v (.int k x)
 |.b x=>.v (.bool x)
 |.s x=>.v (.string x)
 |.ts f t l=>.sl f (tz t) (l.map (tcells t))
 |.nil=>.sl true 0 []
 |.v x=>.v x
 |_=>.v .nilIface
def BV.isP:BV->AH
 |.n _ _=>true
 |.b _=>true
 |.s _=>true
 |.ts _ _ _=>true
 |.nil=>true
 |.v _=>true
 |_=>false
abbrev Lens:=Name->Nat->Nat
mutual
def BV.er(L:Lens):BV->AV
 |.agg cs=>.agg (erL L cs)
 |.tup vs=>.tup (erL L vs)
 |.TM n o=>.TM n o
 |.own n v=>.own n (L n v)
 |.aref n v i o=>.aref n (L n v) i o
 |.view n v i o=>.view n (L n v) i o
 |.cut n v k=>.cut n (L n v) k
 |.mref n=>.oref true n
 |.tep cs=>.eptr (pvL cs)
 |.clo f caps=>.clo f [] (erL L caps)
 |.any=>.any
 |.ub=>.ub
 |.n k x=>.p (.v (.int k x))
 |.b x=>.p (.v (.bool x))
 |.s x=>.p (.v (.string x))
 |.ts f t l=>.p (.sl f (tz t) (l.map (tcells t)))
 |.nil=>.p (.sl true 0 [])
 |.v x=>.p (.v x)
def erL(L:Lens):Y BV->Y AV
 |[]=>[]
 |x::r=>x.er L::erL L r
def pvL:Y BV->Y PV
 |[]=>[]
 |x::r=>x.pv::pvL r
end
variable {L L':Lens}
def UG:∀l:Y BV,erL L l=l.map (BV.er L)
 |[]=>by simp only[erL,Al]
 |x::r=>by simp only[erL,AU,UG r]
def QjR:∀l:Y BV,pvL l=l.map BV.pv
 |[]=>by simp only[pvL,Al]
 |x::r=>by simp only[pvL,AU,QjR r]
def Qwv{x:BV}(h:x.isP=true):x.er L=.p x.pv:=by cases x<;>first|(simp only[BV.er,BV.pv];done)|simp[BV.isP]at h
def V9:∀{l:Y BV},l.all BV.isP=true->erL L l=pcells (pvL l)
 |[],_=>by simp only[erL,pvL,pcells,Al]
 |x::r,h=>by
  simp only[BX,bae]at h
  simp only[erL,pvL,pcells,AU,Qwv h.1,V9 h.2]
def Qux(a b):erL L (a++b)=erL L a++erL L b:=by simp[UG]
def X0(a):(erL L a).length=a.length:=by simp[UG]
def Qtp(a)(k):erL L (a.drop k)=(erL L a).drop k:=by simp[UG]
def Qtq(a)(k):erL L (a.take k)=(erL L a).take k:=by simp[UG]
def QjA(a:Y BV)(k:Nat):(erL L a)[k]?=(a[k]?).map (BV.er L):=by simp[UG]
def QqI(a b)(k):erL L (Qz a k b)=Qz (erL L a) k (erL L b):=by simp[UG,Qz]
def QtY(a)(k):pvL (a.drop k)=(pvL a).drop k:=by simp[QjR]
def QtZ(a)(k):pvL (a.take k)=(pvL a).take k:=by simp[QjR]
def Qdz(a):(pvL a).length=a.length:=by simp[QjR]
def Qxo(a:Y BV)(k:Nat):(pvL a)[k]?=(a[k]?).map BV.pv:=by simp[QjR]
def Qxp(a b)(k):pvL (Qz a k b)=Qz (pvL a) k (pvL b):=by simp[QjR,Qz]
def BO.er(L:Lens):BO->AO
 |.box cells=>.box (erL L cells)
 |.TI t l _=>.TI (tz t) (l.map (tcells t))
 |.sm es=>.obj (smap (es.map fun p=>(p.1,.bool p.2)))
def erT(L:Lens)(ts:TS):Y (Nat×AV):=ts.map fun p=>(p.1,p.2.er L)
def erH(L:Lens)(hs:HS):Y (Name×AO):=hs.map fun p=>(p.1,p.2.er L)
def UL(k):∀ts:TS,X k (erT L ts)=(X k ts).map (BV.er L)
 |[]=>rfl
 |(j,x)::r=>by
  show X k ((j,x.er L)::erT L r)=(X k ((j,x)::r)).map (BV.er L)
  simp only[X];split
  .rfl
  .exact UL k r
def ZP(k):∀hs:HS,X k (erH L hs)=(X k hs).map (BO.er L)
 |[]=>rfl
 |(j,x)::r=>by
  show X k ((j,x.er L)::erH L r)=(X k ((j,x)::r)).map (BO.er L)
  simp only[X];split
  .rfl
  .exact ZP k r
def Qgs(a b):erH L (a++b)=erH L a++erH L b:=by simp[erH]
def Qeb(a):keys (erH L a)=keys a:=by simp[erH,keys]
mutual
def BV.has(n:Name):BV->AH
 |.agg cs=>BV.hasL n cs
 |.tup vs=>BV.hasL n vs
 |.clo _ cs=>BV.hasL n cs
 |.TM m _=>m == n
 |.own m _=>m == n
 |.aref m _ _ _=>m == n
 |.view m _ _ _=>m == n
 |.cut m _ _=>m == n
 |.mref m=>m == n
 |_=>false
def BV.hasL(n:Name):Y BV->AH
 |[]=>false
 |x::r=>BV.has n x || BV.hasL n r
end
mutual
def QtB(n):∀x:BV,(x.er L).has n=x.has n
 |.agg cs=>by simp only[BV.er,AV.has,BV.has,QlV n cs]
 |.tup cs=>by simp only[BV.er,AV.has,BV.has,QlV n cs]
 |.clo f cs=>by simp only[BV.er,AV.has,BV.has,QlV n cs,AV.hasL,Bt]
 |.TM _ _=>by simp only[BV.er,AV.has,BV.has]
 |.own _ _=>by simp only[BV.er,AV.has,BV.has]
 |.aref _ _ _ _=>by simp only[BV.er,AV.has,BV.has]
 |.view _ _ _ _=>by simp only[BV.er,AV.has,BV.has]
 |.cut _ _ _=>by simp only[BV.er,AV.has,BV.has]
 |.mref _=>by simp only[BV.er,AV.has,BV.has]
 |.tep _=>by simp only[BV.er,AV.has,BV.has]
 |.any=>by simp only[BV.er,AV.has,BV.has]
 |.ub=>by simp only[BV.er,AV.has,BV.has]
 |.n _ _=>by simp only[BV.er,AV.has,BV.has]
 |.b _=>by simp only[BV.er,AV.has,BV.has]
 |.s _=>by simp only[BV.er,AV.has,BV.has]
 |.ts _ _ _=>by simp only[BV.er,AV.has,BV.has]
 |.nil=>by simp only[BV.er,AV.has,BV.has]
 |.v _=>by simp only[BV.er,AV.has,BV.has]
def QlV(n):∀l:Y BV,AV.hasL n (erL L l)=BV.hasL n l
 |[]=>by simp only[erL,AV.hasL,BV.hasL]
 |x::r=>by simp only[erL,AV.hasL,BV.hasL,QtB n x,QlV n r]
end
mutual
def BV.nov(n:Name)(v:Nat):BV->AH
 |.agg cs=>BV.novL n v cs
 |.tup vs=>BV.novL n v vs
 |.clo _ cs=>BV.novL n v cs
 |.own m u=>!(Nat.beq m n && Nat.beq u v)
 |.aref m u _ _=>!(Nat.beq m n && Nat.beq u v)
 |.view m u _ _=>!(Nat.beq m n && Nat.beq u v)
 |.cut m u _=>!(Nat.beq m n && Nat.beq u v)
 |_=>true
def BV.novL(n:Name)(v:Nat):Y BV->AH
 |[]=>true
 |x::r=>BV.nov n v x && BV.novL n v r
end
mutual
def Qtr:∀x:BV,(∀n v,x.nov n v=false->L n v=L' n v)->x.er L=x.er L'
 |.agg cs,h=>by simp only[BV.er,Qft cs (fun n v hn=>h n v (by simpa only[BV.nov]using hn))]
 |.tup cs,h=>by simp only[BV.er,Qft cs (fun n v hn=>h n v (by simpa only[BV.nov]using hn))]
 |.clo f cs,h=>by simp only[BV.er,Qft cs (fun n v hn=>h n v (by simpa only[BV.nov]using hn))]
 |.TM _ _,_=>by simp only[BV.er]
 |.own m u,h=>by simp only[BV.er,h m u (by simp[BV.nov])]
 |.aref m u _ _,h=>by simp only[BV.er,h m u (by simp[BV.nov])]
 |.view m u _ _,h=>by simp only[BV.er,h m u (by simp[BV.nov])]
 |.cut m u _,h=>by simp only[BV.er,h m u (by simp[BV.nov])]
 |.mref _,_=>by simp only[BV.er]
 |.tep _,_=>by simp only[BV.er]
 |.any,_=>by simp only[BV.er]
 |.ub,_=>by simp only[BV.er]
 |.n _ _,_=>by simp only[BV.er]
 |.b _,_=>by simp only[BV.er]
 |.s _,_=>by simp only[BV.er]
 |.ts _ _ _,_=>by simp only[BV.er]
 |.nil,_=>by simp only[BV.er]
 |.v _,_=>by simp only[BV.er]
def Qft:∀l:Y BV,(∀n v,BV.novL n v l=false->L n v=L' n v)->erL L l=erL L' l
 |[],_=>by simp only[erL]
 |x::r,h=>by
  simp only[erL,Qtr x (fun n v hn=>h n v (by simp only[BV.novL,hn,Bool.false_and])),Qft r (fun n v hn=>h n v (by simp only[BV.novL,hn,Bool.and_false]))]
end
mutual
def Qw6:∀x:BV,x.nov n v=false->x.has n=true
 |.agg cs,h=>by simp only[BV.nov]at h;simp only[BV.has,QiG cs h]
 |.tup cs,h=>by simp only[BV.nov]at h;simp only[BV.has,QiG cs h]
 |.clo f cs,h=>by simp only[BV.nov]at h;simp only[BV.has,QiG cs h]
 |.TM _ _,h=>by simp[BV.nov]at h
 |.own m u,h=>by simp only[BV.nov,Cm,bae,C2]at h;simp[BV.has,h.1]
 |.view m u _ _,h=>by simp only[BV.nov,Cm,bae,C2]at h;simp[BV.has,h.1]
 |.cut m u _,h=>by simp only[BV.nov,Cm,bae,C2]at h;simp[BV.has,h.1]
 |.mref _,h=>by simp[BV.nov]at h
 |.aref m u _ _,h=>by simp only[BV.nov,Cm,bae,C2]at h;simp[BV.has,h.1]
 |.tep _,h=>by simp[BV.nov]at h
 |.any,h=>by simp[BV.nov]at h
 |.ub,h=>by simp[BV.nov]at h
 |.n _ _,h=>by simp[BV.nov]at h
 |.b _,h=>by simp[BV.nov]at h
 |.s _,h=>by simp[BV.nov]at h
 |.ts _ _ _,h=>by simp[BV.nov]at h
 |.nil,h=>by simp[BV.nov]at h
 |.v _,h=>by simp[BV.nov]at h
def QiG:∀l:Y BV,BV.novL n v l=false->BV.hasL n l=true
 |[],h=>by simp[BV.novL]at h
 |x::r,h=>by
  simp only[BV.novL,Bool.and_eq_false_iff]at h
  simp only[BV.hasL,Bz]
  exact h.imp (Qw6 x) (QiG r)
end
def BO.has(n:Name):BO->AH
 |.box cells=>BV.hasL n cells
 |.TI _ _ _=>false
 |.sm _=>false
def BO.nov(n:Name)(v:Nat):BO->AH
 |.box cells=>BV.novL n v cells
 |.TI _ _ _=>true
 |.sm _=>true
def QwI(n:Name)(o:BO):(o.er L).has n=o.has n:=by cases o<;>simp only[BO.er,AO.has,BO.has,QlV]
def Qe2(n:Name)(ts:TS)(hs:HS):AH:=ts.all (fun p=>!p.2.has n) && hs.all (fun p=>!p.2.has n)
def Qd9:QeS n (erT L ts) (erH L hs)=Qe2 n ts hs:=by
 simp only[QeS,Qe2,erT,erH,EJ]
 congr 1
 .congr 1;funext p;simp only[Function.comp,QtB]
 .congr 1;funext p;simp only[Function.comp,QwI]
def novS(n:Name)(v:Nat)(ts:TS)(hs:HS):AH:=ts.all (fun p=>p.2.nov n v) && hs.all (fun p=>p.2.nov n v)
def Qwu(o:BO)(h:∀n v,o.nov n v=false->L n v=L' n v):o.er L=o.er L':=by
 cases o with
 |box cs=>simp only[BO.er,Qft cs (fun n v hn=>h n v (by simpa only[BO.nov]using hn))]
 |TI t l=>simp only[BO.er]
 |sm es=>simp only[BO.er]
def Qzd(o:BO)(h:o.nov n v=false):o.has n=true:=by
 cases o with
 |box cs=>exact QiG cs h
 |TI t l=>simp[BO.nov]at h
 |sm es=>simp[BO.nov]at h
def Qfu{nw:Y Name}{nv:Y (Name×Nat)}(h1:∀n,n∈nw->Qe2 n ts hs=true)(h2:∀p,p∈nv->novS p.1 p.2 ts hs=true)(h:∀n v,n∉nw->(n,v)∉nv->L' n v=L n v):erT L ts=erT L' ts/\erH L hs=erH L' hs:=by
 have key:∀n v,((∃p∈ts,p.2.nov n v=false)\/(∃p∈hs,p.2.nov n v=false))->L n v=L' n v:=fun n v hx=>by
  refine(h n v (fun hn=>?_) (fun hn=>?_)).symm
  .have:=h1 n hn
   simp only[Qe2,bae,AW]at this
   rcases hx with⟨p,hp,hq⟩|⟨p,hp,hq⟩
   .have:=this.1 p hp;rw[Qw6 _ hq]at this;simp at this
   .have:=this.2 p hp;rw[Qzd _ hq]at this;simp at this
  .have:=h2 _ hn
   simp only[novS,bae,AW]at this
   grind
 unfold erT erH
 refine⟨Bn fun p hp=>?_,Bn fun p hp=>?_⟩
 .rw[Qtr p.2 (fun n v hn=>key n v (.inl ⟨p,hp,hn⟩))]
 .rw[Qwu p.2 (fun n v hn=>key n v (.inr ⟨p,hp,hn⟩))]
section
variable {R:Type}
def C(c:AH)(x y:I R):I R:=match c with|true=>x|false=>y
def TK(j:Int)(k:Nat->I R):I R:=if 0<=j then k j.toNat else none
def O(o:I α)(k:α->I R):I R:=match o with|some x=>k x|none=>none
def TN(l:Y α)(j:Int)(k:α->I R):I R:=TK j fun i=>O l[i]? k
def chk(a b:Nat)(x:I R):I R:=if a=b then x else none
def TP(a b:Nat)(x:I R):I R:=if a<b then x else none
def TR(l:Y α)(x y:I R):I R:=match l with|[]=>x|_::_=>y
def TU[AL R](x y:I R):I R:=if x=y then x else none
def TO(a b:Nat)(x:I R):I R:=if a<=b then x else none
def nzc(b:Int)(x:I R):I R:=if b=0 then none else x
def Qe(B:(zF->I R)->zF->I R):Nat->zF->I R
 |0,_=>none
 |n+1,x=>B (Qe B n) x
def TG(k:zB->I R)(f:(zB->I R)->I R):I R:=f k
variable {r:R}
def Qik(h:C c x y=some r):c=true/\x=some r\/c=false/\y=some r:=by
 cases c
 .exact .inr ⟨rfl,h⟩
 .exact .inl ⟨rfl,h⟩
def Qq7(h:TR l x y=some r):l=[]/\x=some r\/l≠[]/\y=some r:=by
 cases l with
 |nil=>exact .inl ⟨rfl,h⟩
 |cons a q=>exact .inr ⟨Ob,h⟩
def Qv7[AL R](h:TU x y=some r):x=some r/\y=some r:=by
 unfold TU at h
 simp_all
def Qa1(h:TK j k=some r):∃i:Nat,j=(i:Int)/\k i=some r:=by
 unfold TK at h
 grind
def Y5(h:O o k=some r):∃x,o=some x/\k x=some r:=by
 cases o with
 |none=>simp[O]at h
 |some x=>exact⟨x,rfl,h⟩
def Qym{l:Y α}{k:α->I R}(h:TN l j k=some r):∃(i:Nat) (x:α),j=(i:Int)/\l[i]?=some x/\k x=some r:=by
 obtain⟨i,hi,h2⟩:=Qa1 h
 obtain⟨x,hx,h3⟩:=Y5 h2
 grind
def Qgo(h:chk a b x=some r):a=b/\x=some r:=by
 unfold chk at h;split at h
 .simp_all
 .simp at h
def QiD(h:TP a b x=some r):a<b/\x=some r:=by
 unfold TP at h;split at h
 .simp_all
 .simp at h
def ZY(h:TO a b x=some r):a<=b/\x=some r:=by
 unfold TO at h;split at h
 .simp_all
 .simp at h
def Qze(h:nzc b x=some r):b≠0/\x=some r:=by
 unfold nzc at h;split at h
 .simp at h
 .simp_all
end
def BV.isQ:BV->AH
 |.n _ _=>true
 |.b _=>true
 |.s _=>true
 |.ts false _ _=>true
 |_=>false
def Qz1(h:BV.isQ (.ts b t x)=true):BV.ts b t x=.ts false t x:=by
 cases b
 .rfl
 .simp[BV.isQ]at h
def QBg{x:BV}(h:x.isQ=true):x.isP=true:=by
 cases x<;>first|rfl|simp[BV.isQ]at h
def CLe(x y:BV):Prop:=(∀L,TW (x.er L) (y.er L))/\(x.isQ=true->x=y)
def Le(a b:Y BV):Prop:=(∀L,Wh (erL L a) (erL L b))/\(a.all BV.isQ=true->a=b)
def Wh.refl:∀l:Y AV,Wh l l
 |[]=>.nil
 |x::r=>.cons (.refl x) (Wh.refl r)
def Le.refl(l):Le l l:=⟨fun L=>Wh.refl _,fun _=>rfl⟩
def Le.cons(h:CLe x y)(h':Le a b):Le (x::a) (y::b):=⟨fun L=>by simp only[erL];exact Wh.cons (h.1 L) (h'.1 L),fun hq=>by
 simp only[BX,bae]at hq
 rw[h.2 hq.1,h'.2 hq.2]⟩
def Le.cons'(h':Le a b):Le (x::a) (x::b):=⟨fun L=>by simp only[erL];exact Wh.cons (.refl _) (h'.1 L),fun hq=>by
 simp only[BX,bae]at hq
 rw[h'.2 hq.2]⟩
def Qqn(h:t=t0)(l:Y (TT t)):Y (TT t0):=h ▸ l
section
variable {R:Type} {r:R}
def popN(k0:IntKind):Y BV->(Int->Y BV->I R)->I R
 |.n k x::l,K=>if kEq k0 k then K x l else none
 |_,_=>none
def popB:Y BV->(AH->Y BV->I R)->I R
 |.b x::l,K=>K x l
 |_,_=>none
def popS:Y BV->(AJ->Y BV->I R)->I R
 |.s x::l,K=>K x l
 |_,_=>none
def popT(t0):Y BV->(Y (TT t0)->Y BV->I R)->I R
 |.ts _ t x::l,K=>if h:t=t0 then K (Qqn h x) l else none
 |.nil::l,K=>K [] l
 |_,_=>none
def Qxi(h:popN k0 cs K=some r):∃x l,cs=.n k0 x::l/\K x l=some r:=by
 unfold popN at h
 split at h
 .split at h
  .rename_i he;have:=QeT he;subst this;exact⟨_,_,rfl,h⟩
  .simp at h
 .simp at h
def Qxh(h:popB cs K=some r):∃x l,cs=.b x::l/\K x l=some r:=by
 unfold popB at h
 grind
def Qxj(h:popS cs K=some r):∃x l,cs=.s x::l/\K x l=some r:=by
 unfold popS at h
 grind
def Qz6(t)(L):TW (BV.nil.er L) ((BV.ts false t []).er L):=by simp only[BV.er];exact .p (PVle.nil (fun h=>by simp at h))
def Qxk(h:popT t0 cs K=some r):∃x l v,cs=v::l/\CLe v (.ts false t0 x)/\K x l=some r:=by
 unfold popT at h
 split at h
 .split at h
  .rename_i he;subst he;exact⟨_,_,_,rfl,⟨fun L=>by simp only[BV.er,Qqn];exact .p (PVle.full _),fun hq=>Qz1 hq⟩,h⟩
  .simp at h
 .exact⟨_,_,_,rfl,⟨Qz6 t0,fun hq=>by simp[BV.isQ]at hq⟩,h⟩
 .simp at h
end
end
def tb:(t:TC)->TT t->Y BV
 |.int,x=>[.n .i64 x]
 |.TY,x=>[.s x]
 |.bool,x=>[.b x]
 |.u8,x=>[.n .u8 x]
 |.FD,x=>[.n .i64 x.a0,.n .i64 x.a1]
 |.Fq,x=>[.n .i64 x.a0,.n .i64 x.a1,.n .i64 x.a2]
 |.FF,x=>[.n .i64 x.w,.n .i64 x.To,.n .i64 x.Fz,.n .i64 x.F3,.n .i64 x.F1,.n .i64 x.Fb,.n .i64 x.Fa]
 |.r,x=>[.s x.Name,.n .i64 x.Fa,.ts false .FF x.Fp]
 |.FE,x=>[.n .i64 x.w,.n .i64 x.To]
 |.R,x=>[.s x.Name,.n .i64 x.r,.ts false .FE x.Ff,.n .i64 x.Fv,.n .i64 x.Fw,.b x.Ft]
 |.n,x=>[.s x.Name,.n .i64 x.r,.ts false .int x.Fy]
 |.Fd,x=>[.n .i64 x.Fj,.n .i64 x.Fb]
 |.x,x=>[.s x.Name,.n .i64 x.r,.n .i64 x.T.Fj,.n .i64 x.T.Fb,.n .i64 x.Unit,.n .i64 x.FH,.ts false .int x.s,.ts false .FE x.Fi,.n .i64 x.n,.n .i64 x.Fx]
 |.t,x=>[.n .i64 x.Z,.n .i64 x.A,.n .i64 x.B,.n .i64 x.w,.n .i64 x.To]
 |.e,x=>[.s x.Name,.ts false .x x.Fk,.ts false .t x.FS]
 |.F,x=>[.ts false .r x.FG,.ts false .R x.l,.ts false .n x.o,.ts false .e x.f]
 |.FU,x=>[.s x.Name,.ts false .int x.s]
 |.FL,x=>[.n .i64 x.Z,.n .i64 x.FW]
 |.y,x=>[.n .i64 x.Fs,.b x.Fm,.ts false .FL x.Fe]
 |.W,x=>[.s x.Name,.ts false .y x.Steps,.n .i64 x.Fh]
 |.b,x=>[.ts false .FU x.v,.ts false .W x.k]
 |.T,x=>[.n .i64 x.K,.n .i64 x.At,.ts false .int x.l]
 |.Page,x=>[.n .i64 x.S,.n .i64 x.W,.n .i64 x.T,.n .i64 x.E7,.n .i64 x.FJ,.n .i64 x.p,.n .i64 x.By,.n .i64 x.FK,.n .i64 x.FM,.n .i64 x.E6,.n .i64 x.FI,.ts false .T x.P,.ts false .int x.i,.ts false .int x.h]
 |.Call,x=>[.n .i64 x.Page,.n .i64 x.K,.n .i64 x.At,.n .i64 x.R,.n .i64 x.Fence]
 |.G,x=>[.n .i64 x.E9,.ts false .r x.F.FG,.ts false .R x.F.l,.ts false .n x.F.o,.ts false .e x.F.f,.ts false .FU x.b.v,.ts false .W x.b.k,.ts false .Page x.H,.n .i64 x.E5,.n .i64 x.Fence,.ts false .int x.h,.ts false .Call x.Calls]
 |.a,x=>[.n .i64 x.S,.n .i64 x.Page,.n .i64 x.R,.n .i64 x.Z,.n .i64 x.Fo,.n .i64 x.At]
 |.Op,x=>[.n .i64 x.S,.n .i64 x.Z,.n .i64 x.Region,.n .i64 x.Fence,.n .i64 x.At,.n .i64 x.Page,.n .i64 x.K,.n .i64 x.W,.n .i64 x.e,.n .i64 x.a.S,.n .i64 x.a.Page,.n .i64 x.a.R,.n .i64 x.a.Z,.n .i64 x.a.Fo,.n .i64 x.a.At,.n .i64 x.t.Z,.n .i64 x.t.A,.n .i64 x.t.B,.n .i64 x.t.w,.n .i64 x.t.To]
 |.m,x=>[.n .i64 x.Q,.n .i64 x.Op.S,.n .i64 x.Op.Z,.n .i64 x.Op.Region,.n .i64 x.Op.Fence,.n .i64 x.Op.At,.n .i64 x.Op.Page,.n .i64 x.Op.K,.n .i64 x.Op.W,.n .i64 x.Op.e,.n .i64 x.Op.a.S,.n .i64 x.Op.a.Page,.n .i64 x.Op.a.R,.n .i64 x.Op.a.Z,.n .i64 x.Op.a.Fo,.n .i64 x.Op.a.At,.n .i64 x.Op.t.Z,.n .i64 x.Op.t.A,.n .i64 x.Op.t.B,.n .i64 x.Op.t.w,.n .i64 x.Op.t.To]
 |.N,x=>[.n .i64 x.S,.n .i64 x.Q,.n .i64 x.FZ,.n .i64 x.FA,.ts false .m x.j,.n .i64 x.d,.ts false .bool x.FQ,.ts false .int x.E8]
 |.c,x=>[.n .i64 x.Z,.n .i64 x.w,.n .i64 x.To,.n .i64 x.Q,.n .i64 x.z,.n .i64 x.FT,.n .i64 x.d,.ts false .m x.q,.b x.OK]
 |.M,x=>[.ts false .N x.E,.ts false .c x.u,.ts false .bool x.FP,.ts false .FD x.Fg]
 |.g,x=>[.n .i64 x.FR.E9,.ts false .r x.FR.F.FG,.ts false .R x.FR.F.l,.ts false .n x.FR.F.o,.ts false .e x.FR.F.f,.ts false .FU x.FR.b.v,.ts false .W x.FR.b.k,.ts false .Page x.FR.H,.n .i64 x.FR.E5,.n .i64 x.FR.Fence,.ts false .int x.FR.h,.ts false .Call x.FR.Calls,.ts false .N x.M.E,.ts false .c x.M.u,.ts false .bool x.M.FP,.ts false .FD x.M.Fg,.n .i64 x.FN]
 |.FC,x=>[.ts false .int x.L,.n .i64 x.At]
 |.site,x=>[.n .i64 x.g.FR.E9,.ts false .r x.g.FR.F.FG,.ts false .R x.g.FR.F.l,.ts false .n x.g.FR.F.o,.ts false .e x.g.FR.F.f,.ts false .FU x.g.FR.b.v,.ts false .W x.g.FR.b.k,.ts false .Page x.g.FR.H,.n .i64 x.g.FR.E5,.n .i64 x.g.FR.Fence,.ts false .int x.g.FR.h,.ts false .Call x.g.FR.Calls,.ts false .N x.g.M.E,.ts false .c x.g.M.u,.ts false .bool x.g.M.FP,.ts false .FD x.g.M.Fg,.n .i64 x.g.FN,.n .i64 x.region,.n .i64 x.count]
 |.fence,x=>[.n .i64 x.region,.n .i64 x.number]
 |.worker,x=>[.n .i64 x.G.E9,.ts false .r x.G.F.FG,.ts false .R x.G.F.l,.ts false .n x.G.F.o,.ts false .e x.G.F.f,.ts false .FU x.G.b.v,.ts false .W x.G.b.k,.ts false .Page x.G.H,.n .i64 x.G.E5,.n .i64 x.G.Fence,.ts false .int x.G.h,.ts false .Call x.G.Calls]
 |.FV,x=>[.n .i64 x.At,.n .i64 x.Fa]
 |.FB,x=>[.n .i64 x.At,.n .i64 x.Fa]
 |.Fu,x=>[.n .i64 x.F0,.n .i64 x.Fz,.n .i64 x.Fj]
 |.occurrence,x=>[.n .i64 x.local_,.n .i64 x.offset]
 |.FY,x=>[.n .i64 x.offset,.ts false .FB x.list]
 |.Fl,x=>[.ts false .r x.F.FG,.ts false .R x.F.l,.ts false .n x.F.o,.ts false .e x.F.f,.ts false .FY x.tables]
 |.Fr,x=>[.n .i64 x.w,.n .i64 x.To,.n .i64 x.Fa]
def QdX(t:TC)(x:TT t):(tb t x).all BV.isP=true:=by cases t<;>rfl
def Qvh(t:TC)(x:TT t):pvL (tb t x)=tcells t x:=by cases t<;>rfl
section
variable {R:Type} {r:R}
def tpop:(t:TC)->Y BV->(TT t->Y BV->I R)->I R
 |.int,c,K=>popN .i64 c K
 |.TY,c,K=>popS c K
 |.bool,c,K=>popB c K
 |.u8,c,K=>popN .u8 c K
 |.FD,c,K=>popN .i64 c fun a0 c=>popN .i64 c fun a1 c=>K ⟨a0,a1⟩ c
 |.Fq,c,K=>popN .i64 c fun a0 c=>popN .i64 c fun a1 c=>popN .i64 c fun a2 c=>K ⟨a0,a1,a2⟩ c
 |.FF,c,K=>popN .i64 c fun a0 c=>popN .i64 c fun a1 c=>popN .i64 c fun a2 c=>popN .i64 c fun a3 c=>popN .i64 c fun a4 c=>popN .i64 c fun a5 c=>popN .i64 c fun a6 c=>K ⟨a0,a1,a2,a3,a4,a5,a6⟩ c
 |.r,c,K=>popS c fun a0 c=>popN .i64 c fun a1 c=>popT .FF c fun a2 c=>K ⟨a0,a1,a2⟩ c
 |.FE,c,K=>popN .i64 c fun a0 c=>popN .i64 c fun a1 c=>K ⟨a0,a1⟩ c
 |.R,c,K=>popS c fun a0 c=>popN .i64 c fun a1 c=>popT .FE c fun a2 c=>popN .i64 c fun a3 c=>popN .i64 c fun a4 c=>popB c fun a5 c=>K ⟨a0,a1,a2,a3,a4,a5⟩ c
 |.n,c,K=>popS c fun a0 c=>popN .i64 c fun a1 c=>popT .int c fun a2 c=>K ⟨a0,a1,a2⟩ c
 |.Fd,c,K=>popN .i64 c fun a0 c=>popN .i64 c fun a1 c=>K ⟨a0,a1⟩ c
 |.x,c,K=>popS c fun a0 c=>popN .i64 c fun a1 c=>popN .i64 c fun a2 c=>popN .i64 c fun a3 c=>popN .i64 c fun a4 c=>popN .i64 c fun a5 c=>popT .int c fun a6 c=>popT .FE c fun a7 c=>popN .i64 c fun a8 c=>popN .i64 c fun a9 c=>K ⟨a0,a1,⟨a2,a3⟩,a4,a5,a6,a7,a8,a9⟩ c
 |.t,c,K=>popN .i64 c fun a0 c=>popN .i64 c fun a1 c=>popN .i64 c fun a2 c=>popN .i64 c fun a3 c=>popN .i64 c fun a4 c=>K ⟨a0,a1,a2,a3,a4⟩ c
 |.e,c,K=>popS c fun a0 c=>popT .x c fun a1 c=>popT .t c fun a2 c=>K ⟨a0,a1,a2⟩ c
 |.F,c,K=>popT .r c fun a0 c=>popT .R c fun a1 c=>popT .n c fun a2 c=>popT .e c fun a3 c=>K ⟨a0,a1,a2,a3⟩ c
 |.FU,c,K=>popS c fun a0 c=>popT .int c fun a1 c=>K ⟨a0,a1⟩ c
 |.FL,c,K=>popN .i64 c fun a0 c=>popN .i64 c fun a1 c=>K ⟨a0,a1⟩ c
 |.y,c,K=>popN .i64 c fun a0 c=>popB c fun a1 c=>popT .FL c fun a2 c=>K ⟨a0,a1,a2⟩ c
 |.W,c,K=>popS c fun a0 c=>popT .y c fun a1 c=>popN .i64 c fun a2 c=>K ⟨a0,a1,a2⟩ c
 |.b,c,K=>popT .FU c fun a0 c=>popT .W c fun a1 c=>K ⟨a0,a1⟩ c
 |.T,c,K=>popN .i64 c fun a0 c=>popN .i64 c fun a1 c=>popT .int c fun a2 c=>K ⟨a0,a1,a2⟩ c
 |.Page,c,K=>popN .i64 c fun a0 c=>popN .i64 c fun a1 c=>popN .i64 c fun a2 c=>popN .i64 c fun a3 c=>popN .i64 c fun a4 c=>popN .i64 c fun a5 c=>popN .i64 c fun a6 c=>popN .i64 c fun a7 c=>popN .i64 c fun a8 c=>popN .i64 c fun a9 c=>popN .i64 c fun a10 c=>popT .T c fun a11 c=>popT .int c fun a12 c=>popT .int c fun a13 c=>K ⟨a0,a1,a2,a3,a4,a5,a6,a7,a8,a9,a10,a11,a12,a13⟩ c
 |.Call,c,K=>popN .i64 c fun a0 c=>popN .i64 c fun a1 c=>popN .i64 c fun a2 c=>popN .i64 c fun a3 c=>popN .i64 c fun a4 c=>K ⟨a0,a1,a2,a3,a4⟩ c
 |.G,c,K=>popN .i64 c fun a0 c=>popT .r c fun a1 c=>popT .R c fun a2 c=>popT .n c fun a3 c=>popT .e c fun a4 c=>popT .FU c fun a5 c=>popT .W c fun a6 c=>popT .Page c fun a7 c=>popN .i64 c fun a8 c=>popN .i64 c fun a9 c=>popT .int c fun a10 c=>popT .Call c fun a11 c=>K ⟨a0,⟨a1,a2,a3,a4⟩,⟨a5,a6⟩,a7,a8,a9,a10,a11⟩ c
 |.a,c,K=>popN .i64 c fun a0 c=>popN .i64 c fun a1 c=>popN .i64 c fun a2 c=>popN .i64 c fun a3 c=>popN .i64 c fun a4 c=>popN .i64 c fun a5 c=>K ⟨a0,a1,a2,a3,a4,a5⟩ c
 |.Op,c,K=>popN .i64 c fun a0 c=>popN .i64 c fun a1 c=>popN .i64 c fun a2 c=>popN .i64 c fun a3 c=>popN .i64 c fun a4 c=>popN .i64 c fun a5 c=>popN .i64 c fun a6 c=>popN .i64 c fun a7 c=>popN .i64 c fun a8 c=>popN .i64 c fun a9 c=>popN .i64 c fun a10 c=>popN .i64 c fun a11 c=>popN .i64 c fun a12 c=>popN .i64 c fun a13 c=>popN .i64 c fun a14 c=>popN .i64 c fun a15 c=>popN .i64 c fun a16 c=>popN .i64 c fun a17 c=>popN .i64 c fun a18 c=>popN .i64 c fun a19 c=>K ⟨a0,a1,a2,a3,a4,a5,a6,a7,a8,⟨a9,a10,a11,a12,a13,a14⟩,⟨a15,a16,a17,a18,a19⟩⟩ c
 |.m,c,K=>popN .i64 c fun a0 c=>popN .i64 c fun a1 c=>popN .i64 c fun a2 c=>popN .i64 c fun a3 c=>popN .i64 c fun a4 c=>popN .i64 c fun a5 c=>popN .i64 c fun a6 c=>popN .i64 c fun a7 c=>popN .i64 c fun a8 c=>popN .i64 c fun a9 c=>popN .i64 c fun a10 c=>popN .i64 c fun a11 c=>popN .i64 c fun a12 c=>popN .i64 c fun a13 c=>popN .i64 c fun a14 c=>popN .i64 c fun a15 c=>popN .i64 c fun a16 c=>popN .i64 c fun a17 c=>popN .i64 c fun a18 c=>popN .i64 c fun a19 c=>popN .i64 c fun a20 c=>K ⟨a0,⟨a1,a2,a3,a4,a5,a6,a7,a8,a9,⟨a10,a11,a12,a13,a14,a15⟩,⟨a16,a17,a18,a19,a20⟩⟩⟩ c
 |.N,c,K=>popN .i64 c fun a0 c=>popN .i64 c fun a1 c=>popN .i64 c fun a2 c=>popN .i64 c fun a3 c=>popT .m c fun a4 c=>popN .i64 c fun a5 c=>popT .bool c fun a6 c=>popT .int c fun a7 c=>K ⟨a0,a1,a2,a3,a4,a5,a6,a7⟩ c
 |.c,c,K=>popN .i64 c fun a0 c=>popN .i64 c fun a1 c=>popN .i64 c fun a2 c=>popN .i64 c fun a3 c=>popN .i64 c fun a4 c=>popN .i64 c fun a5 c=>popN .i64 c fun a6 c=>popT .m c fun a7 c=>popB c fun a8 c=>K ⟨a0,a1,a2,a3,a4,a5,a6,a7,a8⟩ c
 |.M,c,K=>popT .N c fun a0 c=>popT .c c fun a1 c=>popT .bool c fun a2 c=>popT .FD c fun a3 c=>K ⟨a0,a1,a2,a3⟩ c
 |.g,c,K=>popN .i64 c fun a0 c=>popT .r c fun a1 c=>popT .R c fun a2 c=>popT .n c fun a3 c=>popT .e c fun a4 c=>popT .FU c fun a5 c=>popT .W c fun a6 c=>popT .Page c fun a7 c=>popN .i64 c fun a8 c=>popN .i64 c fun a9 c=>popT .int c fun a10 c=>popT .Call c fun a11 c=>popT .N c fun a12 c=>popT .c c fun a13 c=>popT .bool c fun a14 c=>popT .FD c fun a15 c=>popN .i64 c fun a16 c=>K ⟨⟨a0,⟨a1,a2,a3,a4⟩,⟨a5,a6⟩,a7,a8,a9,a10,a11⟩,⟨a12,a13,a14,a15⟩,a16⟩ c
 |.FC,c,K=>popT .int c fun a0 c=>popN .i64 c fun a1 c=>K ⟨a0,a1⟩ c
 |.site,c,K=>popN .i64 c fun a0 c=>popT .r c fun a1 c=>popT .R c fun a2 c=>popT .n c fun a3 c=>popT .e c fun a4 c=>popT .FU c fun a5 c=>popT .W c fun a6 c=>popT .Page c fun a7 c=>popN .i64 c fun a8 c=>popN .i64 c fun a9 c=>popT .int c fun a10 c=>popT .Call c fun a11 c=>popT .N c fun a12 c=>popT .c c fun a13 c=>popT .bool c fun a14 c=>popT .FD c fun a15 c=>popN .i64 c fun a16 c=>popN .i64 c fun a17 c=>popN .i64 c fun a18 c=>K ⟨⟨⟨a0,⟨a1,a2,a3,a4⟩,⟨a5,a6⟩,a7,a8,a9,a10,a11⟩,⟨a12,a13,a14,a15⟩,a16⟩,a17,a18⟩ c
 |.fence,c,K=>popN .i64 c fun a0 c=>popN .i64 c fun a1 c=>K ⟨a0,a1⟩ c
 |.worker,c,K=>popN .i64 c fun a0 c=>popT .r c fun a1 c=>popT .R c fun a2 c=>popT .n c fun a3 c=>popT .e c fun a4 c=>popT .FU c fun a5 c=>popT .W c fun a6 c=>popT .Page c fun a7 c=>popN .i64 c fun a8 c=>popN .i64 c fun a9 c=>popT .int c fun a10 c=>popT .Call c fun a11 c=>K ⟨⟨a0,⟨a1,a2,a3,a4⟩,⟨a5,a6⟩,a7,a8,a9,a10,a11⟩⟩ c
 |.FV,c,K=>popN .i64 c fun a0 c=>popN .i64 c fun a1 c=>K ⟨a0,a1⟩ c
 |.FB,c,K=>popN .i64 c fun a0 c=>popN .i64 c fun a1 c=>K ⟨a0,a1⟩ c
 |.Fu,c,K=>popN .i64 c fun a0 c=>popN .i64 c fun a1 c=>popN .i64 c fun a2 c=>K ⟨a0,a1,a2⟩ c
 |.occurrence,c,K=>popN .i64 c fun a0 c=>popN .i64 c fun a1 c=>K ⟨a0,a1⟩ c
 |.FY,c,K=>popN .i64 c fun a0 c=>popT .FB c fun a1 c=>K ⟨a0,a1⟩ c
 |.Fl,c,K=>popT .r c fun a0 c=>popT .R c fun a1 c=>popT .n c fun a2 c=>popT .e c fun a3 c=>popT .FY c fun a4 c=>K ⟨⟨a0,a1,a2,a3⟩,a4⟩ c
 |.Fr,c,K=>popN .i64 c fun a0 c=>popN .i64 c fun a1 c=>popN .i64 c fun a2 c=>K ⟨a0,a1,a2⟩ c
def Qd0(t:TC){cs:Y BV}{K:TT t->Y BV->I R}(h:tpop t cs K=some r):∃x l,Le cs (tb t x++l)/\K x l=some r:=by
 cases t<;>dsimp only[tpop]at h<;>(repeat' (first|(replace h:=Qxi h;obtain⟨_,_,e,h⟩:=h;subst e)|(replace h:=Qxj h;obtain⟨_,_,e,h⟩:=h;subst e)|(replace h:=Qxh h;obtain⟨_,_,e,h⟩:=h;subst e)|(replace h:=Qxk h;obtain⟨_,_,_,e,_,h⟩:=h;subst e)))<;>(refine⟨_,_,?_,h⟩;repeat' (first|exact .refl _|apply Le.cons'|(apply Le.cons;assumption)))
end
section
open Go
def Sim.leS(h:Sim Γ ρ M s a w)(h1:∀t y,s'.slot t=some y->∃x,s.slot t=some x/\TW x y)(h2:∀n,(∀y,s'.heap n=some y->∃x,s.heap n=some x/\AOle x y)/\(∀x,s.heap n=some x->∃y,s'.heap n=some y/\AOle x y))(hf:∀n x y,s.heap n=some x->s'.heap n=some y->x=y\/(∃cs ds,x=.box cs/\y=.box ds)\/(∃es rs qs,x=.TI es rs/\y=.TI es qs)):Sim Γ ρ M s' a w:=by
 have hst:Qdk ρ s.heap ρ s'.heap:=fun n ob hn=>by
  obtain⟨y,hy,hle⟩:=(h2 n).2 ob hn
  rw[hy]
  exact Qla hle (Zj _ _)
 have hnn:∀n,s.heap n=none->s'.heap n=none:=fun n hn=>by
  cases hc:s'.heap n with
  |none=>rfl
  |some y=>
   grind
 have hconv:∀{x:AV} {u:AE},x.R ρ s.heap M w u->x.R ρ s'.heap M w u:=fun hr=>
  hr.step (Ext.refl (fun _=>False) _) (fun _ hb=>hb.elim) (fun b _ hb=>hb) hst (fun n _=>hnn n)
 have hconvs:∀{xs:Y AV} {us:Y AE},AV.Rs ρ s.heap M w xs us->AV.Rs ρ s'.heap M w xs us:=fun hr=>
  hr.step (Ext.refl (fun _=>False) _) (fun _ hb=>hb.elim) (fun b _ hb=>hb) hst (fun n _=>hnn n)
 refine⟨h.n,h.d,fun t y hy=>?_,fun n y hy=>?_,fun n m o o' b g1 g2=>?_,fun n o b g1 g2=>?_,fun n hn=>?_,h.ext,h.mext,h.msize,h.m0,h.ground⟩
 .obtain⟨x,hx,hle⟩:=h1 t y hy
  obtain⟨u,hu,hr⟩:=h.slots t x hx
  exact⟨u,hu,hle.sound u (hconv hr)⟩
 .obtain⟨x,hx,hle⟩:=(h2 n).1 y hy
  have hobj:=h.objs n x hx
  rcases hf n x y hx hy with rfl|⟨cs,ds,rfl,rfl⟩|⟨es,rs,qs,rfl,rfl⟩
  .cases x with
   |box cells=>obtain⟨b,T,cs,k1,k2,k3,k4⟩:=hobj;exact⟨b,T,cs,k1,k2,k3,hconvs k4⟩
   |TI es rows=>exact hobj
   |hole es pre row post=>obtain⟨k0,k0',k1,b,T,cs,k3,k4,k5,k6,k7,k8,k9⟩:=hobj;exact⟨k0,k0',k1,b,T,cs,k3,k4,k5,k6,k7,hconvs k8,k9⟩
   |fact a x=>exact⟨hobj.1,hconv hobj.2⟩
   |obj x=>exact hobj
  .obtain⟨b,T,us,k1,k2,k3,k4⟩:=hobj
   refine⟨b,T,us,k1,k2,k3,?_⟩
   cases hle with
   |refl=>exact hconvs k4
   |box hb=>exact Qvv hb _ (hconvs k4)
  .cases hle with
   |refl=>exact hobj
   |TI hr=>
    obtain⟨k0,k1,k2⟩:=hobj
    refine⟨k0,by rw[<-hr.length];exact k1,k2.imp id ?_⟩
    rintro⟨b,T,cs,q1,q2,q3,q4,q5⟩
    exact⟨b,T,cs,q1,q2,q3,q4,hr.rows q5⟩
 .obtain⟨x,hx,_⟩:=(h2 n).1 o g1
  obtain⟨x',hx',_⟩:=(h2 m).1 o' g2
  exact h.inj n m x x' b hx hx'
 .obtain⟨x,hx,_⟩:=(h2 n).1 o g1
  exact h.own0 n x b hx g2
 .obtain⟨x,hx,hst'⟩:=h.keep n hn
  obtain⟨y,hy,hle⟩:=(h2 n).2 x hx
  exact⟨y,hy,Qla hle hst'⟩
def Inv(L:Lens)(hs:HS):Prop:=∀n t l v,X n hs=some (.TI t l v)->L n v=l.length
def BS(L:Lens)(ts:TS)(hs:HS):AS:=mk (erT L ts) (erH L hs)
variable {L L':Lens} {ts ts':TS} {hs hs':HS}
def XJ(t):(BS L ts hs).slot t=(X t ts).map (BV.er L):=UL t ts
def XI(n):(BS L ts hs).heap n=(X n hs).map (BO.er L):=ZP n hs
def QpX(h:(BS L ts hs).slot t=some y):∃v,X t ts=some v/\y=v.er L:=by
 rw[XJ]at h
 cases hl:X t ts with
 |none=>rw[hl]at h;simp at h
 |some v=>rw[hl]at h;exact⟨v,rfl,by simpa using h.symm⟩
def QjH(h:(BS L ts hs).heap t=some y):∃v,X t hs=some v/\y=v.er L:=by
 rw[XI]at h
 cases hl:X t hs with
 |none=>rw[hl]at h;simp at h
 |some v=>rw[hl]at h;exact⟨v,rfl,by simpa using h.symm⟩
structure SLe (L:Lens) (ts:TS) (hs:HS) (L':Lens) (ts':TS) (hs':HS):Prop where
 slot:∀t y,X t ts'=some y->∃x,X t ts=some x/\TW (x.er L) (y.er L')
 box:∀n cs',X n hs'=some (.box cs')->∃cs,X n hs=some (.box cs)/\Wh (erL L cs) (erL L' cs')
 TI:∀n t l v,X n hs'=some (.TI t l v)->∃u,X n hs=some (.TI t l u)
 sm:∀n es,X n hs'=some (.sm es)->X n hs=some (.sm es)
def Sim.sle(h:Sim Γ ρ M (BS L ts hs) a w)(h':SLe L ts hs L' ts' hs')(hk:∀n,n∈Γ.names->X n hs'≠none):Sim Γ ρ M (BS L' ts' hs') a w:=by
 have ho:∀n y,X n hs'=some y->∃x,X n hs=some x/\AOle (x.er L) (y.er L')/\(x.er L=y.er L'\/(∃cs ds,x.er L=.box cs/\y.er L'=.box ds)\/∃es rs qs,x.er L=.TI es rs/\y.er L'=.TI es qs):=fun n y hy=>by
  cases y with
  |box cs'=>obtain⟨cs,g1,g2⟩:=h'.box n cs' hy;exact⟨_,g1,.box g2,.inr (.inl ⟨_,_,rfl,rfl⟩)⟩
  |TI t l v=>obtain⟨u,hu⟩:=h'.TI n t l v hy;exact⟨_,hu,.refl _,.inl rfl⟩
  |sm es=>exact⟨_,h'.sm n es hy,.refl _,.inl rfl⟩
 have h0:Sim Γ ρ M ⟨(BS L ts hs).slot,fun n=>if (X n hs').isSome then(BS L ts hs).heap n else none⟩ a w:=by
  refine h.forget (fun t x hx=>hx) (fun n o hn=>?_) (fun n hn hc=>?_)
  .simp_all
  .cases hl:X n hs' with
   |none=>exact hk n hn hl
   |some y=>
    obtain⟨x,hx,_⟩:=ho n y hl
    simp only[hl,Ek,if_true,XI,hx,Aa,reduceCtorEq]at hc
 refine h0.leS (fun t y hy=>?_) (fun n=>⟨fun y hy=>?_,fun x hx=>?_⟩) (fun n x y hx hy=>?_)
 .obtain⟨v,hv,rfl⟩:=QpX hy
  obtain⟨x,hx,hle⟩:=h'.slot t v hv
  exact⟨x.er L,by show(BS L ts hs).slot t=_;rw[XJ,hx];rfl,hle⟩
 .obtain⟨v,hv,rfl⟩:=QjH hy
  obtain⟨x,hx,hle,_⟩:=ho n v hv
  exact⟨x.er L,by simp only[hv,Ek,if_true,XI,hx,Aa],hle⟩
 .simp only at hx
  split at hx
  .rename_i hs
   obtain⟨y,hy⟩:=Cl.1 hs
   obtain⟨v,hv,rfl⟩:=QjH hx
   obtain⟨x,hx',hle,_⟩:=ho n y hy
   rw[hv]at hx';cases hx'
   exact⟨y.er L',by rw[XI,hy];rfl,hle⟩
  .simp at hx
 .simp only at hx
  split at hx
  .obtain⟨v,hv,rfl⟩:=QjH hx
   obtain⟨y',hy',rfl⟩:=QjH hy
   grind
  .simp at hx
def QqY{f:BV->BV}(k:Nat):∀ts:TS,X k (ts.map fun p=>(p.1,f p.2))=(X k ts).map f
 |[]=>rfl
 |(j,x)::r=>by
  show X k ((j,f x)::r.map fun p=>(p.1,f p.2))=(X k ((j,x)::r)).map f
  simp only[X];split
  .rfl
  .exact QqY k r
def isIn(m:Name)(ns:Y Name):AH:=ns.any fun n=>Nat.beq n m
def Wk:isIn m ns=true↔m∈ns:=by
 unfold isIn;rw[List.any_eq_true]
 simp_all
mutual
def BV.frz(n:Name)(v:Nat)(t:TC)(l:Y (TT t)):BV->BV
 |.own m u=>if Nat.beq m n then(if Nat.beq u v then .ts false t l else .any)else .own m u
 |.aref m u i o=>if Nat.beq m n then .any else .aref m u i o
 |.cut m u k=>if Nat.beq m n then .any else .cut m u k
 |.view m u i o=>if Nat.beq m n then(if Nat.beq u v then .ts false t ((l.take o).drop i)else .any)else .view m u i o
 |.agg cs=>.agg (frzL n v t l cs)
 |x=>x
def frzL(n:Name)(v:Nat)(t:TC)(l:Y (TT t)):Y BV->Y BV
 |[]=>[]
 |x::r=>BV.frz n v t l x::frzL n v t l r
end
mutual
def BV.sh(n:Name)(v:Nat):BV->BV
 |.own m u=>if Nat.beq m n then(if Nat.beq u v then .own m u else .any)else .own m u
 |.aref m u i o=>if Nat.beq m n then .any else .aref m u i o
 |.cut m u k=>if Nat.beq m n then .any else .cut m u k
 |.view m u i o=>if Nat.beq m n then(if Nat.beq u v then .view m u i o else .any)else .view m u i o
 |.agg cs=>.agg (shL n v cs)
 |x=>x
def shL(n:Name)(v:Nat):Y BV->Y BV
 |[]=>[]
 |x::r=>BV.sh n v x::shL n v r
end
def Qhh(n:Name)(c:BV):AH:=match c with
 |.own _ _=>true
 |.aref _ _ _ _=>true
 |.cut _ _ _=>true
 |.view _ _ _ _=>true
 |.agg _=>false
 |x=>!x.has n
def BV.fzOK(n:Name):BV->AH
 |.agg cs=>cs.all (Qhh n)
 |x=>Qhh n x
def BO.frz(n:Name)(v:Nat)(t:TC)(l:Y (TT t)):BO->BO
 |.box cs=>.box (frzL n v t l cs)
 |.TI t l v=>.TI t l v
 |.sm es=>.sm es
def BO.sh(n:Name)(v:Nat):BO->BO
 |.box cs=>.box (shL n v cs)
 |.TI t l v=>.TI t l v
 |.sm es=>.sm es
def BO.fzOK(n:Name):BO->AH
 |.box cs=>cs.all (Qhh n)
 |.TI _ _ _=>true
 |.sm _=>true
def fzT(n:Name)(v:Nat)(t:TC)(l:Y (TT t))(ts:TS):TS:=ts.map fun p=>(p.1,p.2.frz n v t l)
def fzH(n:Name)(v:Nat)(t:TC)(l:Y (TT t)):HS->HS
 |[]=>[]
 |(k,o)::r=>if Nat.beq k n then fzH n v t l r else(k,o.frz n v t l)::fzH n v t l r
def fzB(n:Name)(ts:TS)(hs:HS):AH:=ts.all (fun p=>p.2.fzOK n) && hs.all (fun p=>p.2.fzOK n)
section
variable {n:Name} {v:Nat} {t:TC} {l:Y (TT t)}
def QxL:Qhh n x=true->TW (x.er L) ((x.sh n v).er L):=by
 intro h
 cases x with
 |own m u=>
  simp only[BV.sh]
  split
  .split
   .exact .refl _
   .simp only[BV.er];exact .any rfl Ob
  .exact .refl _
 |aref m u i o=>
  simp only[BV.sh]
  split
  .simp only[BV.er];exact .any rfl Ob
  .exact .refl _
 |cut m u k=>
  simp only[BV.sh]
  split
  .simp only[BV.er];exact .any rfl Ob
  .exact .refl _
 |view m u i o=>
  simp only[BV.sh]
  split
  .split
   .exact .refl _
   .simp only[BV.er];exact .any rfl Ob
  .exact .refl _
 |agg cs=>simp[Qhh]at h
 |_=>simp only[BV.sh];exact .refl _
def Qk9:∀{cs:Y BV},cs.all (Qhh n)=true->Wh (erL L cs) (erL L (shL n v cs))
 |[],_=>by simp only[shL,erL];exact .nil
 |x::r,h=>by
  simp only[BX,bae]at h
  simp only[shL,erL]
  exact .cons (QxL h.1) (Qk9 h.2)
def QCD{x:BV}(h:x.fzOK n=true):TW (x.er L) ((x.sh n v).er L):=by
 cases x with
 |agg cs=>simp only[BV.sh,BV.er];exact .agg (Qk9 h)
 |_=>exact QxL h
def Qtw(h:Qhh n x=true)(hL:L n v=(l.map (tcells t)).length):Frz px n (tz t) (l.map (tcells t)) ((x.sh n v).er L) ((x.frz n v t l).er L):=by
 cases x with
 |own m u=>
  simp only[BV.sh,BV.frz]
  split
  .split
   .rename_i e1 e2
    have:=nbe e1;subst this
    have:=nbe e2;subst this
    simp only[BV.er,hL];exact .own
   .exact .same (by simp only[BV.er,AV.has])
  .rename_i hne
   have:m≠n:=fun e=>by subst e;simp at hne
   exact .same (by simp only[BV.er,AV.has];simpa using this)
 |aref m u i o=>
  simp only[BV.sh,BV.frz]
  split
  .exact .same (by simp only[BV.er,AV.has])
  .rename_i hne
   have:m≠n:=fun e=>by subst e;simp at hne
   exact .same (by simp only[BV.er,AV.has];simpa using this)
 |cut m u k=>
  simp only[BV.sh,BV.frz]
  split
  .exact .same (by simp only[BV.er,AV.has])
  .rename_i hne
   have:m≠n:=fun e=>by subst e;simp at hne
   exact .same (by simp only[BV.er,AV.has];simpa using this)
 |view m u i o=>
  simp only[BV.sh,BV.frz]
  split
  .split
   .rename_i e1 e2
    have:=nbe e1;subst this
    have:=nbe e2;subst this
    simp only[BV.er,hL,CM,Bh];exact .view
   .exact .same (by simp only[BV.er,AV.has])
  .rename_i hne
   have:m≠n:=fun e=>by subst e;simp at hne
   exact .same (by simp only[BV.er,AV.has];simpa using this)
 |agg cs=>simp[Qhh]at h
 |_=>simp only[BV.sh,BV.frz];exact .same (by rw[QtB];simpa only[Qhh,BG]using h)
def QlU(hL:L n v=(l.map (tcells t)).length):∀{cs:Y BV},cs.all (Qhh n)=true->FrzL px n (tz t) (l.map (tcells t)) (erL L (shL n v cs)) (erL L (frzL n v t l cs))
 |[],_=>by simp only[erL,shL,frzL];exact .nil
 |x::r,h=>by
  simp only[BX,bae]at h
  simp only[erL,shL,frzL]
  exact .cons (Qtw h.1 hL) (QlU hL h.2)
def QA9{x:BV}(h:x.fzOK n=true)(hL:L n v=(l.map (tcells t)).length):Frz px n (tz t) (l.map (tcells t)) ((x.sh n v).er L) ((x.frz n v t l).er L):=by
 cases x with
 |agg cs=>simp only[BV.sh,BV.frz,BV.er];exact .agg (QlU hL h)
 |_=>exact Qtw h hL
def Qta(hL:L n v=(l.map (tcells t)).length):∀{ts:TS},ts.all (fun p=>p.2.fzOK n)=true->Qjp px n (tz t) (l.map (tcells t)) (erT L (ts.map fun p=>(p.1,p.2.sh n v))) (erT L (fzT n v t l ts))
 |[],_=>trivial
 |(k,x)::r,h=>by
  simp only[BX,bae]at h
  exact⟨rfl,QA9 h.1 hL,Qta hL h.2⟩
def delH(n:Name)(v:Nat):HS->HS
 |[]=>[]
 |(k,o)::r=>if Nat.beq k n then delH n v r else(k,o.sh n v)::delH n v r
def Qoq(hL:L n v=(l.map (tcells t)).length):∀{hs:HS},hs.all (fun p=>p.2.fzOK n)=true->Qjo px n (tz t) (l.map (tcells t)) (erH L (delH n v hs)) (erH L (fzH n v t l hs))
 |[],_=>trivial
 |(k,o)::r,h=>by
  simp only[BX,bae]at h
  simp only[delH,fzH]
  split
  .exact Qoq hL h.2
  .rename_i hne
   refine⟨rfl,fun(e:k=n)=>hne (by simp[e]),?_,Qoq hL h.2⟩
   cases o with
   |box cs=>exact .box (QlU hL h.1)
   |TI t' l'=>exact .same rfl
   |sm es=>exact .same rfl
def Ql2(n k)(hs:HS):X k (delH n v hs)=if k=n then none else(X k hs).map (BO.sh n v):=by
 induction hs with
 |nil=>simp[delH,X]
 |cons p r ih=>
  obtain⟨j,o⟩:=p
  simp only[delH]
  split
  .rename_i e
   have:=nbe e;subst this
   rw[ih]
   simp only[X]
   grind
  .rename_i e
   simp only[X]
   split
   .simp_all
   .exact ih
def QtJ(n k)(hs:HS):X k (fzH n v t l hs)=if k=n then none else(X k hs).map (BO.frz n v t l):=by
 induction hs with
 |nil=>simp[fzH,X]
 |cons p r ih=>
  obtain⟨j,o⟩:=p
  simp only[fzH]
  split
  .rename_i e
   have:=nbe e;subst this
   rw[ih]
   simp only[X]
   grind
  .rename_i e
   simp only[X]
   split
   .simp_all
   .exact ih
def Sim.frz(h:Sim Γ ρ M (BS L ts hs) a w)(hi:Inv L hs)(hn:n∉Γ.names)(hl:X n hs=some (.TI t l v))(hb:fzB n ts hs=true):
  (∃ρ' M',Sim Γ ρ' M' (BS L (fzT n v t l ts) (fzH n v t l hs)) a w)/\Inv L (fzH n v t l hs):=by
 simp only[fzB,bae]at hb
 have hL:L n v=(l.map (tcells t)).length:=by rw[hi n t l v hl,AX]
 have h1:Sim Γ ρ M (AM.mk (erT L (ts.map fun p=>(p.1,p.2.sh n v))) ((n,.TI (tz t) (l.map (tcells t)))::erH L (delH n v hs))) a w:=by
  refine h.leS (fun k y hy=>?_) (fun k=>⟨fun y hy=>?_,fun x hx=>?_⟩) (fun k x y hx hy=>?_)
  .obtain⟨y',hy',rfl⟩:=QpX (L:=L) (hs:=hs) hy
   rw[QqY]at hy'
   cases hx:X k ts with
   |none=>rw[hx]at hy';simp at hy'
   |some x=>
    rw[hx]at hy'
    simp only[Aa,AP]at hy'
    subst hy'
    exact⟨x.er L,by rw[XJ,hx];rfl,QCD (AW.1 hb.1 _ (Q5 hx))⟩
  .simp only[AM.mk,X]at hy
   split at hy
   .rename_i e;subst e;cases hy;exact⟨_,by rw[XI,hl];rfl,.refl _⟩
   .rename_i e
    rw[ZP,Ql2,iA (Ag e)]at hy
    cases hx:X k hs with
    |none=>rw[hx]at hy;simp at hy
    |some x=>
     rw[hx]at hy
     simp only[Aa,AP]at hy
     subst hy
     refine⟨x.er L,by rw[XI,hx];rfl,?_⟩
     have hx':=AW.1 hb.2 _ (Q5 hx)
     cases x with
     |box cs=>exact .box (Qk9 hx')
     |TI t l=>exact .refl _
     |sm es=>exact .refl _
  .obtain⟨x',hx',rfl⟩:=QjH hx
   by_cases e:n=k
   .subst e;rw[hl]at hx';cases hx';exact⟨_,by simp only[AM.mk,X,if_true];rfl,.refl _⟩
   .refine⟨(x'.sh n v).er L,by simp only[AM.mk,X,iA e,ZP,Ql2,iA (Ag e),hx'];rfl,?_⟩
    have hx'':=AW.1 hb.2 _ (Q5 hx')
    cases x' with
    |box cs=>exact .box (Qk9 hx'')
    |TI t l=>exact .refl _
    |sm es=>exact .refl _
  .obtain⟨x',hx',rfl⟩:=QjH hx
   by_cases e:n=k
   .subst e
    simp only[AM.mk,X,if_true]at hy
    rw[hl]at hx';cases hx';cases hy;exact .inl rfl
   .simp only[AM.mk,X,iA e,ZP,Ql2,iA (Ag e),hx']at hy
    cases hy
    cases x' with
    |box cs=>exact .inr (.inl ⟨_,_,rfl,rfl⟩)
    |TI t l=>exact .inl rfl
    |sm es=>exact .inl rfl
 refine⟨Weak.freeze hn (Qta hL hb.1) (Qoq hL hb.2) ρ M a w h1,fun k t' l' u hk=>?_⟩
 rw[QtJ]at hk
 split at hk
 .simp at hk
 .cases hx:X k hs with
  |none=>rw[hx]at hk;simp at hk
  |some x=>
   rw[hx]at hk
   simp at hk
   cases x with
   |box cs=>simp[BO.frz]at hk
   |TI t2 l2=>simp only[BO.frz]at hk;cases hk;exact hi k _ _ _ hx
   |sm es=>simp[BO.frz]at hk
end
end
def Qw8:Y BV->Y BV->Y BV
 |l,[]=>l
 |[],v::vs=>v::vs
 |_::l,v::vs=>v::Qw8 l vs
def layB:Y BV->Nat->Y BV->Y BV
 |l,0,vs=>Qw8 l vs
 |x::l,k+1,vs=>x::layB l k vs
 |[],_+1,vs=>vs
def QqQ:Y α->(Y α->R)->R
 |[],K=>K []
 |x::r,K=>QqQ r fun r=>K (x::r)
def QlT:∀(l:Y α) (K:Y α->R),QqQ l K=K l
 |[],K=>rfl
 |x::r,K=>by simp only[QqQ,QlT r]
def QtU:∀(l vs:Y BV),vs.length<=l.length->Qw8 l vs=vs++l.drop vs.length
 |l,[],_=>by cases l<;>rfl
 |[],v::vs,h=>by simp at h
 |x::l,v::vs,h=>by simp only[Qw8,QtU l vs (by simpa using h),Ad,Ci,BE]
def QoZ:∀(l:Y BV) (k:Nat) (vs:Y BV),k+vs.length<=l.length->layB l k vs=Qz l k vs
 |l,0,vs,h=>by
  have:layB l 0 vs=Qw8 l vs:=by cases l<;>rfl
  rw[this,QtU l vs U]
  simp[Qz]
 |[],k+1,vs,h=>by simp at h
 |x::l,k+1,vs,h=>by
  simp only[layB,QoZ l k vs (by simp at h;omega),Qz,CS,BE]
  rw[show k+1+vs.length=(k+vs.length)+1 by omega,Ci]
structure BEff where
 hp:HS
 v:BV
 upd:HS
 nw:Y Name
 nv:Y (Name×Nat)
def ev(v:BV):BEff:=⟨[],v,[],[],[]⟩
def Good(P:AF)(o:Oper)(rd:TS)(hs:HS)(e:BEff):Prop:=
 (∀n ob,(n,ob)∈e.hp->X n hs=some ob)/\
 ∀L,Inv L hs->∃L':Lens,(∀m u,m∉e.nw->(m,u)∉e.nv->L' m u=L m u)/\Inv L' (e.upd++hs)/\TE P o ⟨erT L rd,erH L e.hp,e.v.er L',erH L' e.upd,e.nw⟩
section
def TE.outLe{hp upd upd':Y (Name×AO)}(h:TE P o ⟨rd,hp,v,upd,nw⟩)(hv:TW v v')(hu:∀n,(∀y,X n upd'=some y->∃x,X n upd=some x/\AOle x y/\(x=y\/(∃cs ds,x=.box cs/\y=.box ds)\/(∃es rs qs,x=.TI es rs/\y=.TI es qs)))/\(∀x,X n upd=some x->∃y,X n upd'=some y)):TE P o ⟨rd,hp,v',upd',nw⟩:=by
 intro Γ ρ M s a w K Q hs hh hd hK
 refine h Γ ρ M s a w K Q hs ⟨hh.rd,hh.hp,hh.nw⟩ hd (fun ρ' M' a' w' hs'=>hK ρ' M' a' w' ?_)
 have hheap:∀n y,(s.run o.dst ⟨rd,hp,v',upd',nw⟩).heap n=some y->∃x,(s.run o.dst ⟨rd,hp,v,upd,nw⟩).heap n=some x/\AOle x y/\(x=y\/(∃cs ds,x=.box cs/\y=.box ds)\/(∃es rs qs,x=.TI es rs/\y=.TI es qs)):=fun n y hy=>by
  simp only[AS.run]at hy |-
  cases hl:X n upd' with
  |some y'=>
   grind
  |none=>
   rw[hl]at hy
   have hn:X n upd=none:=by
    cases hl2:X n upd with
    |none=>rfl
    |some x=>obtain⟨y,hy⟩:=(hu n).2 x hl2;rw[hl]at hy;simp at hy
   exact⟨y,by rw[hn];exact hy,.refl _,.inl rfl⟩
 refine hs'.leS (fun t y hy=>?_) (fun n=>⟨fun y hy=>?_,fun x hx=>?_⟩) (fun n x y hx hy=>?_)
 .simp only[AS.run]at hy |-
  split at hy
  .simp_all
  .rename_i e;exact⟨y,by rw[iA e];exact hy,.refl _⟩
 .grind
 .have:∃y,(s.run o.dst ⟨rd,hp,v',upd',nw⟩).heap n=some y:=by
   simp only[AS.run]at hx |-
   grind
  grind
 .grind
def TE.vLe{hp upd:Y (Name×AO)}(h:TE P o ⟨rd,hp,v,upd,nw⟩)(hv:TW v v'):TE P o ⟨rd,hp,v',upd,nw⟩:=
 h.outLe hv fun n=>⟨fun y hy=>⟨y,hy,.refl _,.inl rfl⟩,fun x hx=>⟨x,hx⟩⟩
def Good.val{P:AF}{o:Oper}{rd:TS}{hs:HS}{hp:HS}{v:BV}(h1:∀n ob,(n,ob)∈hp->X n hs=some ob)(h2:∀L,Inv L hs->TE P o ⟨erT L rd,erH L hp,v.er L,[],[]⟩):Good P o rd hs ⟨hp,v,[],[],[]⟩:=
 ⟨h1,fun L hL=>⟨L,fun _ _ _ _=>rfl,hL,h2 L hL⟩⟩
def Good.ev{P:AF}{o:Oper}{rd:TS}{hs:HS}{v:BV}(h2:∀L,Inv L hs->TE P o ⟨erT L rd,[],v.er L,[],[]⟩):Good P o rd hs (ev v):=Good.val (fun _ _ h=>by simp at h) h2
def Qun:AE->BV
 |.slice none 0 0=>.nil
 |.int k x=>.n k x
 |.bool b=>.b b
 |.string s=>.s s
 |c=>.v c
def Qtf(L)(c):(Qun c).er L=YJ c:=by
 unfold Qun
 split
 .simp only[BV.er];rfl
 .simp only[BV.er];rfl
 .simp only[BV.er];rfl
 .simp only[BV.er];rfl
 .rename_i h1 h2 h3 h4
  simp only[BV.er]
  unfold YJ
  simp_all
def Qwh:AE->I BV
 |.agg cs=>if cs.toList.all (fun c=>c.oneCell')then some (.agg (cs.toList.map Qun))else none
 |c=>if c.oneCell' then some (Qun c)else none
def QqH(L:Lens)(cs:Y AE):erL L (cs.map Qun)=cs.map YJ:=by
 simp only[UG,CN];exact Bn fun c _=>Qtf L c
def Qwi(L)(h:Qwh c=some x):Qfp c=some (x.er L):=by
 unfold Qwh at h
 split at h
 .rename_i cs
  unfold Qfp
  split at h
  .rename_i hall;cases h;simp only[hall,if_true,BV.er,QqH]
  .simp at h
 .rename_i hne
  split at h
  .rename_i ho
   cases h
   unfold Qfp
   split
   .simp_all
   .simp only[ho,if_true,Qtf]
  .simp at h
def ZW(rd:TS):AC->I BV
 |.tmp t=>X t rd
 |.const c=>Qwh c
 |.global g=>some (.v (.pointer (some ⟨g,0,none⟩)))
 |.func f=>some (.v (.func (.func f) #[] #[]))
def Qg(L)(h:ZW rd x=some v):Qi (erT L rd) x=some (v.er L):=by
 cases x with
 |tmp t=>simp only[ZW]at h;simp only[Qi,UL,h,Aa]
 |const c=>exact Qwi L h
 |global g=>simp only[ZW,AP]at h;subst h;simp only[Qi,BV.er]
 |func f=>simp only[ZW,AP]at h;subst h;simp only[Qi,BV.er]
def Qlv:BV->I (Y BV)
 |.agg cs=>some cs
 |.tup _=>none
 |x=>some [x]
def Qfj(L)(h:Qlv v=some cs):ZV (v.er L)=some (erL L cs):=by
 cases v<;>simp only[Qlv,AP,reduceCtorEq]at h<;>subst h<;>simp only[BV.er,ZV,erL]
def Qir(rd:TS):Y AC->I (Y BV)
 |[]=>some []
 |x::r=>match ZW rd x,Qir rd r with
  |some v,some vs=>some (v::vs)
  |_,_=>none
def Qfy(L):∀{xs:Y AC} {vs:Y BV},Qir rd xs=some vs->Qg0 (erT L rd) xs=some (erL L vs)
 |[],vs,h=>by simp only[Qir,AP]at h;subst h;simp only[Qg0,erL]
 |x::r,vs,h=>by
  simp only[Qir]at h
  split at h
  .rename_i v vs' h1 h2
   cases h
   simp only[Qg0,Qg L h1,Qfy L h2,erL]
  .simp at h
end
section
variable (P:AF) (ty:AD->I TC) (rd:TS) (hs:HS) (K:BEff->I R)
def bVal(x:AC):I R:=match ZW rd x with
 |some v=>K (ev v)
 |none=>none
def QAG(c x y:AC):I R:=match ZW rd c,ZW rd x,ZW rd y with
 |some (.b q),some u,some v=>C q (K (ev u)) (K (ev v))
 |_,_,_=>none
def Qvo(T:AD):I (Y BV):=match P.info? T with
 |some i=>match i.zero with
  |some z=>if z.cells.toList.all (fun c=>c.oneCell')then some (z.cells.toList.map Qun)else none
  |none=>none
 |none=>none
def QvP(d:I Nat)(T:AD):I R:=match d,Qvo P T with
 |some d,some cs=>K ⟨[],.TM (1000+d) 0,[(1000+d,.box cs)],[1000+d],[]⟩
 |_,_=>none
def bBox(d:I Nat)(x:AC):I R:=match d,ZW rd x with
 |some d,some v=>match Qlv v with
  |some cs=>K ⟨[],.TM (1000+d) 0,[(1000+d,.box cs)],[1000+d],[]⟩
  |none=>none
 |_,_=>none
def Qxm(places:Y (Nat×Nat)):Y (Nat×AC)->Y BV->I (Y BV)
 |[],cells=>some cells
 |(i,x)::r,cells=>match places[i]?,ZW rd x with
  |some (off,size),some y=>match Qlv y with
   |some cs=>if Nat.beq cs.length size && Nat.ble (off+size) cells.length then QqQ (layB cells off cs) fun cells=>Qxm places r cells else none
   |none=>none
  |_,_=>none
def Qxe(T:AD):I (Y (Nat×Nat)):=match P.underlying T with
 |some (.array n e)=>match Zl P e with
  |some es=>some (Qli n es)
  |none=>none
 |_=>Qp0 P T
def QvR(T:AD)(parts:Array (Nat×AC)):I R:=match Qxe P T,Qvo P T with
 |some pl,some zs=>match Qxm rd pl parts.toList zs with
  |some cells=>K (ev (.agg cells))
  |none=>none
 |_,_=>none
def Qu9(t):Y (Nat×AC)->Nat->Nat->(Y (TT t)->I R)->I R
 |[],i,len,K=>if Nat.beq i len then K []else none
 |(j,x)::r,i,len,K=>if Nat.beq j i then match ZW rd x with
   |some v=>match Qlv v with
    |some cs=>if Nat.beq cs.length (tz t) && cs.all BV.isP then tpop t cs fun y rest=>match rest with
      |[]=>Qu9 t r (i+1) len fun ys=>K (y::ys)
      |_=>none
     else none
    |none=>none
   |none=>none
  else none
def Qhv(T:AD)(len:Nat)(parts:Array (Nat×AC)):I R:=match W9 P T with
 |some e=>match ty e,Zl P e,Qag P e with
  |some t,some es,some zr=>if Nat.beq es (tz t) && Nat.ble 1 es && Nat.beq zr.length es && Nat.ble (len*es) 16777216 then Qu9 rd t parts.toList 0 len fun l=>K (ev (.ts true t l))else none
  |_,_,_=>none
 |none=>none
def QAB(T:AD)(x:AC):I R:=match ZW rd x with
 |some (.TM n k)=>match X n hs with
  |some (.box cells)=>if aggT P T then
    match Zl P T with
    |some z=>if Nat.beq ((cells.drop k).take z).length z then K ⟨[(n,.box cells)],.agg ((cells.drop k).take z),[],[],[]⟩else none
    |none=>none
   else if Qcy P T then match cells[k]? with
    |some c=>K ⟨[(n,.box cells)],c,[],[],[]⟩
    |none=>none
   else none
  |_=>none
 |some (.tep cells)=>if cells.all BV.isP then if aggT P T then
   match Zl P T with
   |some z=>if Nat.beq (cells.take z).length z then K (ev (.agg (cells.take z)))else none
   |none=>none
  else if Qcy P T then match cells[0]? with
   |some c=>K (ev c)
   |none=>none
  else none else none
 |some (.aref n u i k)=>match X n hs with
  |some (.TI t l v)=>if Nat.beq u v then O l[i]? fun y=>if aggT P T then
    match Zl P T with
    |some z=>if Nat.beq (((tb t y).drop k).take z).length z then K ⟨[(n,.TI t l v)],.agg (((tb t y).drop k).take z),[],[],[]⟩else none
    |none=>none
   else if Qcy P T then match (tb t y)[k]? with
    |some c=>K ⟨[(n,.TI t l v)],c,[],[],[]⟩
    |none=>none
   else none else none
  |_=>none
 |_=>none
def Qv1(d:I Nat)(T:AD)(x y:AC):I R:=match d,ZW rd x,ZW rd y with
 |none,some (.TM n k),some v=>match X n hs,Qlv v,Zl P T with
  |some (.box cells),some vs,some z=>if Nat.beq z vs.length && Nat.ble (k+vs.length) cells.length then QqQ (layB cells k vs) fun cells'=>K ⟨[(n,.box cells)],.any,[(n,.box cells')],[],[]⟩else none
  |_,_,_=>none
 |none,some (.aref n u i k),some v=>match X n hs,Qlv v,Zl P T with
  |some (.TI t l q),some vs,some z=>if Nat.beq u q then O l[i]? fun y=>if Nat.beq z vs.length && Nat.ble (k+vs.length) (tb t y).length && vs.all BV.isP then tpop t (layB (tb t y) k vs) fun y' rest=>match rest with
    |[]=>K ⟨[(n,.TI t l q)],.any,[(n,.TI t (l.set i y') q)],[],[]⟩
    |_=>none
   else none else none
  |_,_,_=>none
 |_,_,_=>none
def Qju(zI:AD)(x:AC)(i:Nat):I R:=match ZW rd x,QbD P zI i with
 |some (.TM n k),some fo=>match X n hs with
  |some (.box cells)=>K ⟨[(n,.box cells)],.TM n (k+fo),[],[],[]⟩
  |_=>none
 |some (.tep cells),some fo=>K (ev (.tep (cells.drop fo)))
 |some (.aref n u j k),some fo=>match X n hs with
  |some (.TI t l q)=>if Nat.beq u q then K ⟨[(n,.TI t l q)],.aref n u j (k+fo),[],[],[]⟩else none
  |_=>none
 |_,_=>none
def Qln(x:AC):I R:=match ZW rd x with
 |some (.TM n k)=>match X n hs with
  |some (.box cells)=>K ⟨[(n,.box cells)],.TM n k,[],[],[]⟩
  |_=>none
 |some (.tep cells)=>K (ev (.tep cells))
 |some (.aref n u j k)=>match X n hs with
  |some (.TI t l q)=>if Nat.beq u q then K ⟨[(n,.TI t l q)],.aref n u j k,[],[],[]⟩else none
  |_=>none
 |_=>none
def binI(op:BinOp)(k:IntKind)(a b:Int):I R:=match op with
 |.add=>K (ev (.n k (k.wrap (a+b))))
 |.sub=>K (ev (.n k (k.wrap (a - b))))
 |.mul=>K (ev (.n k (k.wrap (a*b))))
 |.quo=>nzc b (K (ev (.n k (k.wrap (a.tdiv b)))))
 |.rem=>nzc b (K (ev (.n k (a.tmod b))))
 |.shr=>TK b fun n=>K (ev (.n k (a.fdiv (2 ^ (min n k.bits)))))
 |.lss=>K (ev (.b (decide (a<b))))
 |.leq=>K (ev (.b (decide (a<=b))))
 |.gtr=>K (ev (.b (decide (b<a))))
 |.geq=>K (ev (.b (decide (b<=a))))
 |.eql=>K (ev (.b (decide (a=b))))
 |.neq=>K (ev (.b (decide (a≠b))))
 |_=>none
def binS(op:BinOp)(a b:AJ):I R:=match op with
 |.eql=>K (ev (.b (decide (a=b))))
 |.neq=>K (ev (.b (decide (a≠b))))
 |.add=>TO (a.size+b.size) 9223372036854775807 (K (ev (.s (a++b))))
 |_=>none
def QCf(T:AD):AH:=match P.underlying T with|some .bool=>true|_=>false
def binB(op:BinOp)(T:AD)(a b:AH):I R:=if QCf P T then match op with
 |.eql=>K (ev (.b (decide (a=b))))
 |.neq=>K (ev (.b (decide (a≠b))))
 |_=>none else none
def bBin(op:BinOp)(T:AD)(x y:AC):I R:=match ZW rd x,ZW rd y with
 |some (.n k a),some (.n k' b)=>if kEq k k' then binI K op k a b else none
 |some (.s a),some (.s b)=>binS K op a b
 |some (.b a),some (.b b)=>binB P K op T a b
 |_,_=>none
def bUn(op:UnOp)(x:AC):I R:=match op,ZW rd x with
 |.not,some (.b b)=>K (ev (.b (!b)))
 |.neg,some (.n k a)=>K (ev (.n k (k.wrap (0 - a))))
 |_,_=>none
def QvX(T:AD)(x:AC)(i:Nat):I R:=match ZW rd x,P.underlying T with
 |some (.agg cells),some (.struct fs)=>match fs[i]? with
  |some f=>if aggT P f.type then
    match Zl P f.type with
    |some z=>K (ev (.agg ((cells.drop f.offset).take z)))
    |none=>none
   else if Qcy P f.type then match cells[f.offset]? with
    |some c=>K (ev c)
    |none=>none
   else none
  |none=>none
 |_,_=>none
def Qow(x:AC)(i:Nat):I R:=match ZW rd x with
 |some (.tup vs)=>match vs[i]? with
  |some v=>K (ev v)
  |none=>none
 |_=>none
def Qjv(T:AD)(x y:AC):I R:=match ZW rd x,ZW rd y,W9 P T with
 |some (.ts _ t l),some (.n _ j),some e=>match Zl P e with
  |some es=>if Nat.beq es (tz t)then TN l j fun z=>K (ev (.tep (tb t z)))else none
  |none=>none
 |some (.own n u),some (.n _ j),some e=>match X n hs,Zl P e with
  |some (.TI t l q),some es=>if Nat.beq es (tz t) && Nat.beq u q then TK j fun i=>TP i l.length (K ⟨[(n,.TI t l q)],.aref n u i 0,[],[],[]⟩)else none
  |_,_=>none
 |some (.view n u lo hi),some (.n _ j),some e=>match X n hs,Zl P e with
  |some (.TI t l q),some es=>if Nat.beq es (tz t) && Nat.beq u q then TK j fun i=>TP i (hi - lo) (K ⟨[(n,.TI t l q)],.aref n u (lo+i) 0,[],[],[]⟩)else none
  |_,_=>none
 |_,_,_=>none
def bLen(T:AD)(x:AC):I R:=match ZW rd x with
 |some (.ts _ t l)=>match W9 P T with
  |some _=>K (ev (.n .i64 (l.length:Int)))
  |none=>none
 |some .nil=>match W9 P T with
  |some _=>K (ev (.n .i64 0))
  |none=>none
 |some (.own n u)=>match X n hs,W9 P T with
  |some (.TI t l q),some _=>if Nat.beq u q then K ⟨[(n,.TI t l q)],.n .i64 (l.length:Int),[],[],[]⟩else none
  |_,_=>none
 |some (.view n u lo hi)=>match X n hs,W9 P T with
  |some (.TI t l q),some _=>if Nat.beq u q then K ⟨[(n,.TI t l q)],.n .i64 ((hi - lo:Nat):Int),[],[],[]⟩else none
  |_,_=>none
 |some (.s t)=>match P.underlying T with
  |some .string=>K (ev (.n .i64 (t.size:Int)))
  |_=>none
 |_=>none
def srcB(t0:TC)(y:BV)(K:Y (TT t0)->I R):I R:=match y with
 |.ts _ t x=>if h:t=t0 then K (Qqn h x)else none
 |_=>none
def Qr4(d:I Nat)(T:AD)(x y:AC):I R:=match ZW rd x,ZW rd y,W9 P T with
 |some (.own n u),some v,some e=>match X n hs,Zl P e,Qlr P e with
  |some (.TI t l q),some es,some bytes=>if Nat.beq es (tz t) && Qhf P e es bytes && Nat.ble bytes 4096 && Nat.beq u q then srcB t v fun l'=>TO (l.length+l'.length) 34359738368 (K ⟨[(n,.TI t l q)],.own n (q+1),[(n,.TI t (l++l') (q+1))],[],[(n,q+1)]⟩)else none
  |_,_,_=>none
 |some (.cut n u k),some (.view m v a b),some e=>match d,X n hs,Zl P e,Qlr P e with
  |some d,some (.TI t l q),some es,some bytes=>if Nat.beq m n && Nat.beq u q && Nat.beq v q && Nat.beq es (tz t) && Qhf P e es bytes && Nat.ble bytes 4096 then
    TO k l.length (TO b l.length (TO a b (TR ((l.take b).drop a) (K ⟨[(n,.TI t l q)],.cut n u k,[],[],[]⟩) (TO (l.take k++(l.take b).drop a).length 34359738368 (K ⟨[(n,.TI t l q)],.own (1000+d) 0,[(1000+d,.TI t (l.take k++(l.take b).drop a) 0)],[1000+d],[]⟩)))))else none
  |_,_,_,_=>none
 |some .nil,some v,some e=>match d,ty e,Zl P e,Qlr P e with
  |some d,some t,some es,some bytes=>if Nat.beq es (tz t) && Qhf P e es bytes && Nat.ble bytes 4096 && Nat.ble 1 es then srcB t v fun l'=>TO l'.length 34359738368 (K ⟨[],.own (1000+d) 0,[(1000+d,.TI t l' 0)],[1000+d],[]⟩)else none
  |_,_,_,_=>none
 |some (.ts true t l),some v,some e=>match d,Zl P e,Qlr P e with
  |some d,some es,some bytes=>if Nat.beq es (tz t) && Qhf P e es bytes && Nat.ble bytes 4096 && Nat.ble 1 es then srcB t v fun l'=>match l with
    |[]=>TO l'.length 34359738368 (K ⟨[],.own (1000+d) 0,[(1000+d,.TI t l' 0)],[1000+d],[]⟩)
    |y::q=>match l' with
     |[]=>none
     |z::r=>TO ((y::q).length+(z::r).length) 34359738368 (K ⟨[],.own (1000+d) 0,[(1000+d,.TI t (y::q++z::r) 0)],[1000+d],[]⟩)else none
  |_,_,_=>none
 |_,_,_=>none
def QAx(zI T:AD)(x:AC):I R:=match ZW rd x,intT P T with
 |some (.n k a),some k'=>if (P.underlying zI).isSome then K (ev (.n k' (k'.wrap a)))else none
 |_,_=>none
def Qr6(T:AD)(x y:AC):I R:=match ZW rd x,ZW rd y,P.underlying T with
 |some (.s t),some (.n _ j),some .string=>TK j fun i=>TP i t.size (K (ev (.n .u8 (bAt t i:Int))))
 |_,_,_=>none
end
open Go
section
def QmM(hT:P.underlying T=some (.slice e))(a)(l c)(w):(Op.equal T (.slice a l c) (.slice none 0 0)).run P w=.ok a.isNone w:=by
 unfold Op.equal
 rw[show Op.maxDepth=(Op.maxDepth - 1)+1 from rfl]
 cases a<;>simp[Op.equalIn,run_underlying hT]
def eqOp(op:BinOp):I AH:=match op with
 |.eql=>some true
 |.neq=>some false
 |_=>none
def QrC(hq:eqOp op=some q)(hT:P.underlying T=some (.slice e))(a)(l c)(w):(binOp op T (.slice a l c) (.slice none 0 0)).run P w=.ok (.bool (a.isNone == q)) w:=by
 cases op<;>simp[eqOp]at hq<;>subst hq<;>cases a<;>simp[binOp,QmM hT]
def TE.eqNilU(ho:o.op=.binOp op T x (.const (.slice none 0 0)) T')(hq:eqOp op=some q)(hT:P.underlying T=some (.slice e))(hx:Qi rd x=some (.p (.sl f es rows))):
  TE P o ⟨rd,[],.ub,[],[]⟩:=
 TE.quiet fun Γ ρ M s a w hs hh=>by
  have h1:=Qj hs hh hx
  simp only[AV.R,PV.R]at h1
  obtain⟨ad,cap,hu,_⟩:=h1
  refine⟨.bool (ad.isNone == q),?_,by simp only[AV.R];exact⟨_,rfl⟩⟩
  have e:a.eval (.const (.slice none 0 0))=.slice none 0 0:=rfl
  simp[execOp,ho,hu,e,QrC hq hT,eqGuard_at_slice]
def TE.eqNilN(ho:o.op=.binOp op T x (.const (.slice none 0 0)) T')(hq:eqOp op=some q)(hT:P.underlying T=some (.slice e))(hx:Qi rd x=some (.p (.sl f es rows)))(hr:rows≠[]):
  TE P o ⟨rd,[],.p (.v (.bool (!q))),[],[]⟩:=
 TE.quiet fun Γ ρ M s a w hs hh=>by
  have h1:=Qj hs hh hx
  simp only[AV.R,PV.R]at h1
  obtain⟨ad,cap,hu,hl,_,hn,_⟩:=h1
  refine⟨.bool (!q),?_,by simp only[AV.R,PV.R];exact⟨trivial,rfl⟩⟩
  have e:a.eval (.const (.slice none 0 0))=.slice none 0 0:=rfl
  have had:ad.isNone=false:=by
   cases ad with
   |some x=>rfl
   |none=>
    simp_all
  have:=QrC (P:=P) hq hT ad rows.length cap w
  rw[had]at this
  simp[execOp,ho,hu,e,this,eqGuard_at_slice]
def TE.maxI(ho:o.op=.call { callee:=.builtin .max,args:=#[x,y],argTypes:=ats })(hx:Qi rd x=some (.p (.v (.int .i64 m))))(hy:Qi rd y=some (.p (.v (.int .i64 k))))(hr:max m k=r):
  TE P o ⟨rd,[],.p (.v (.int .i64 r)),[],[]⟩:=
 TE.quiet fun Γ ρ M s a w hs hh=>by
  have h1:=Qj hs hh hx
  have h2:=Qj hs hh hy
  simp only[AV.R,PV.R]at h1 h2
  refine⟨.int .i64 r,?_,by simp only[AV.R,PV.R];exact⟨trivial,rfl⟩⟩
  have e:(if m<k then k else m)=r:=by rw[<-hr];split<;>omega
  simp[execOp,ho,h1.1,h2.1,resolve,invoke,builtin,run_max_int2,e]
def TE.minI(ho:o.op=.call { callee:=.builtin .min,args:=#[x,y],argTypes:=ats })(hx:Qi rd x=some (.p (.v (.int .i64 m))))(hy:Qi rd y=some (.p (.v (.int .i64 k))))(hr:min m k=r):
  TE P o ⟨rd,[],.p (.v (.int .i64 r)),[],[]⟩:=
 TE.quiet fun Γ ρ M s a w hs hh=>by
  have h1:=Qj hs hh hx
  have h2:=Qj hs hh hy
  simp only[AV.R,PV.R]at h1 h2
  refine⟨.int .i64 r,?_,by simp only[AV.R,PV.R];exact⟨trivial,rfl⟩⟩
  have e:(if k<m then k else m)=r:=by rw[<-hr];split<;>omega
  simp[execOp,ho,h1.1,h2.1,resolve,invoke,builtin,run_min_int2,e]
def Qkd(g:AD->I Nat):Y Field->Nat->I Nat
 |[],i=>some i
 |f::fs,i=>if f.name != "_" && Nat.beq f.offset i then(match g f.type with|some n=>Qkd g fs (i+n)|none=>none)else none
def QuA(P:AF):Nat->AD->I Nat
 |0,_=>none
 |k+1,T=>match P.underlying T with
  |some (.int .i64)=>some 1
  |some (.struct fs)=>(match Qkd (QuA P k) fs.toList 0,Zl P T with
   |some n,some m=>if Nat.beq n m && !P.stoodInHeld T then some n else none
   |_,_=>none)
  |some (.array 2 e)=>(match P.underlying e,Zl P e,Zl P T with
   |some (.int .i64),some 1,some 2=>if Nat.ble 1 k then some 2 else none
   |_,_,_=>none)
  |_=>none
def QwM(P:AF)(T:AD)(n:Nat):AH:=aggT P T && (match QuA P 5 T with|some m=>Nat.beq m n|none=>false) && !P.eqGuardType P.depth T
def Qc1(hT:P.underlying T=some (.int .i64))(h:cs[i]?=some v):(part T cs i).run P w=.ok v w:=by
 have hf:Qcy P T=true:=by simp[Qcy,hT]
 simp[part,U8 hf,h]
def QqO:∀{fs:Y Field} {i m:Nat},Qkd g fs i=some m->i<=m
 |[],i,m,h=>by simp only[Qkd,AP]at h;omega
 |f::fs,i,m,h=>by
  simp only[Qkd]at h
  split at h
  .split at h
   .have:=QqO h;omega
   .simp at h
  .simp at h
def Qio(hg:∀T n,g T=some n->∀off (as1 bs:Y Int),as1.length=n->bs.length=n->(∀j (a:Int),as1[j]?=some a->xs[off+j]?=some (.int .i64 a))->(∀j (b:Int),bs[j]?=some b->ys[off+j]?=some (.int .i64 b))->
   ∃u v,(part T xs off).run P w=.ok u w/\(part T ys off).run P w=.ok v w/\(Op.equalIn d T u v).run P w=.ok (decide (as1=bs)) w):
  ∀(fs:Y Field) (i m:Nat) (as1 bs:Y Int),Qkd g fs i=some m->i+as1.length=m->bs.length=as1.length->(∀j (a:Int),as1[j]?=some a->xs[i+j]?=some (.int .i64 a))->(∀j (b:Int),bs[j]?=some b->ys[i+j]?=some (.int .i64 b))->
   (Op.eqFields d xs ys fs).run P w=.ok (decide (as1=bs)) w
 |[],i,m,as1,bs,h,h1,h2,_,_=>by
  simp only[Qkd,AP]at h
  have e1:as1=[]:=BP U
  have e2:bs=[]:=BP U
  subst e1;subst e2;simp[Op.eqFields]
 |f::fs,i,m,as1,bs,h,h1,h2,h3,h4=>by
  simp only[Qkd]at h
  split at h
  .rename_i g1
   simp only[bae,bne_iff_ne,ne_eq]at g1
   have ho:f.offset=i:=nbe g1.2
   split at h
   .rename_i n hn
    have hle:=QqO h
    have ht:∀{l:Y Int} {j:Nat} {a:Int},(l.take n)[j]?=some a->l[j]?=some a:=fun{l j a} hj=>by
     rw[Ar]at hj
     split at hj
     .exact hj
     .simp at hj
    obtain⟨u,v,p1,p2,p3⟩:=hg _ _ hn i (as1.take n) (bs.take n) (by rw[Ae];omega) (by rw[Ae];omega) (fun j a hj=>h3 j a (ht hj)) (fun j a hj=>h4 j a (ht hj))
    have ih:=Qio hg fs (i+n) m (as1.drop n) (bs.drop n) h (by rw[Bg];omega) (by simp[h2]) (fun j a hj=>by
     rw[Ap]at hj;have:=h3 (n+j) a hj;rwa [<-B6]at this) (fun j a hj=>by
     rw[Ap]at hj;have:=h4 (n+j) a hj;rwa [<-B6]at this)
    simp only[Op.eqFields,iB g1.1,Sem.run_bind,ho,p1,p2,Result.andThen_ok,p3]
    by_cases e:as1.take n=bs.take n
    .have:(as1=bs)↔(as1.drop n=bs.drop n):=⟨fun h=>by rw[h],fun h=>by rw[<-B2 n as1,<-B2 n bs,e,h]⟩
     simp[e,ih,this]
    .have:as1≠bs:=fun h=>e (by rw[h])
     simp[e,this]
   .simp at h
  .simp at h
def QzY:∀(k d:Nat),k<=d->∀(T:AD) (n:Nat),QuA P k T=some n->∀(xs ys:Array AE) (off:Nat) (as1 bs:Y Int),as1.length=n->bs.length=n->
  (∀j (a:Int),as1[j]?=some a->xs[off+j]?=some (.int .i64 a))->(∀j (b:Int),bs[j]?=some b->ys[off+j]?=some (.int .i64 b))->
  ∃u v,(part T xs off).run P w=.ok u w/\(part T ys off).run P w=.ok v w/\(Op.equalIn d T u v).run P w=.ok (decide (as1=bs)) w
 |0,d,_,T,n,h,_,_,_,_,_,_,_,_,_=>by simp[QuA]at h
 |k+1,d,hd,T,n,h,xs,ys,off,as1,bs,h1,h2,h3,h4=>by
  obtain⟨d,rfl⟩:∃d',d=d'+1:=⟨d - 1,U⟩
  simp only[QuA]at h
  split at h
  .rename_i hT
   cases h
   obtain⟨a,rfl⟩:=El.1 h1
   obtain⟨b,rfl⟩:=El.1 h2
   refine⟨_,_,Qc1 hT (h3 0 a Ob),Qc1 hT (h4 0 b Ob),?_⟩
   rw[run_equalIn_int w d T .i64 .i64 a b hT,show(a == b)=decide ([a]=[b])by by_cases h:a=b<;>simp[h]]
  .rename_i fs hfs
   split at h
   .rename_i z m ha hm
    split at h
    .rename_i hc
     simp only[bae,BG]at hc
     have hz:=nbe hc.1
     cases h
     have hp:∀zs:Array AE,(part T zs off).run P w=.ok (.agg (zs.extract off (off+m))) w:=fun zs=>by simp[part,VZ (show aggT P T=true by simp[aggT,hfs]),run_sizeOf hm]
     refine⟨_,_,hp xs,hp ys,?_⟩
     have hF:P.fieldsOf T=fs:=by simp[Program.fieldsOf,hfs]
     rw[run_equalIn_struct w d T _ _ (by rw[hF];exact hfs) hc.2,hF]
     have key:∀{zs:Array AE} {l:Y Int},l.length=n->(∀j (a:Int),l[j]?=some a->zs[off+j]?=some (.int .i64 a))->∀j (a:Int),l[j]?=some a->(zs.extract off (off+m))[0+j]?=some (.int .i64 a):=fun{zs l} hl hz2 j a hj=>by
      have hlt:=(CE.1 (hz2 j a hj)).1
      have hj':=(Az.1 hj).1
      rw[Ah,Em,iB U]
      exact hz2 j a hj
     exact Qio (fun T n h off as1 bs a1 a2 a3 a4=>QzY k d U T n h _ _ off as1 bs a1 a2 a3 a4) fs.toList 0 n as1 bs ha U U (key h1 h3) (key h2 h4)
    .simp at h
   .simp at h
  .rename_i e hfs
   split at h
   .rename_i he hz1 hz2
    split at h
    .rename_i hk
     cases h
     have hk1:=Am hk
     obtain⟨d',rfl⟩:∃d',d=d'+1:=⟨d - 1,U⟩
     have hp:∀zs:Array AE,(part T zs off).run P w=.ok (.agg (zs.extract off (off+2))) w:=fun zs=>by simp[part,VZ (show aggT P T=true by simp[aggT,hfs]),run_sizeOf hz2]
     have Ta:∀{l:Y Int},l.length=2->∃a b,l=[a,b]:=fun{l} hl=>by
      match l,hl with
      |[a,b],_=>exact⟨a,b,rfl⟩
     obtain⟨a0,a1,rfl⟩:=Ta h1
     obtain⟨b0,b1,rfl⟩:=Ta h2
     have x0:=h3 0 a0 rfl;have x1:=h3 1 a1 rfl;have y0:=h4 0 b0 rfl;have y1:=h4 1 b1 rfl
     have key:∀{zs:Array AE} {c0 c1:AE},zs[off+0]?=some c0->zs[off+1]?=some c1->zs.extract off (off+2)=#[c0,c1]:=fun{zs c0 c1} z0 z1=>by
      have hlt:=(CE.1 z1).1
      apply Array.ext_getElem?
      intro j
      rw[Em]
      match j with
      |0=>rw[iB U,z0];rfl
      |1=>rw[iB U,z1];rfl
      |j+2=>rw[iA U];rfl
     refine⟨_,_,hp xs,hp ys,?_⟩
     rw[key x0 x1,key y0 y1]
     rw[Op.equalIn]
     simp only[Sem.run_bind,run_underlying hfs,Result.andThen_ok,run_sizeOf hz1]
     simp
     have r0:∀(u v:AE),(part e #[u,v] 0).run P w=.ok u w:=fun u v=>Qc1 he rfl
     have r1:∀(u v:AE),(part e #[u,v] 1).run P w=.ok v w:=fun u v=>Qc1 he rfl
     simp only[show List.range' 0 2=[0,1]from rfl,List.forIn_cons,List.forIn_nil,Sem.run_bind,Nat.mul_one,r0,r1,Result.andThen_ok,run_equalIn_int w d' e .i64 .i64 _ _ he]
     by_cases e0:a0=b0
     .subst e0
      by_cases e1:a1=b1
      .subst e1;simp[r1,run_equalIn_int w d' e .i64 .i64 _ _ he]
      .simp[r1,run_equalIn_int w d' e .i64 .i64 _ _ he,e1]
     .simp[e0]
    .simp at h
   .simp at h
  .simp at h
def Qof{as1 bs:Y Int}(hT:QwM P T as1.length=true)(hl:Nat.beq bs.length as1.length=true)(k1:us.toList=as1.map (Value.int .i64))(k2:vs.toList=bs.map (Value.int .i64)):
  (Op.equalIn 10000 T (.agg us) (.agg vs)).run P w=.ok (decide (as1=bs)) w/\P.eqGuardType P.depth T=false:=by
 have hl':=nbe hl
 simp only[QwM,bae,BG]at hT
 obtain⟨⟨g1,g2⟩,g3⟩:=hT
 split at g2
 .rename_i m hm
  have hmn:=nbe g2
  have hcell:∀{zs:Array AE} {l:Y Int},zs.toList=l.map (Value.int .i64)->∀j (a:Int),l[j]?=some a->zs[0+j]?=some (.int .i64 a):=fun{zs l} hz j a hj=>by
   rw[Ah,<-En,hz,Bm,hj];rfl
  obtain⟨u,v,p1,p2,p3⟩:=QzY (w:=w) 5 10000 U T m hm us vs 0 as1 bs U U (hcell k1) (hcell k2)
  have hsz:Zl P T=some m:=by
   simp only[QuA]at hm
   split at hm
   .rename_i h;simp[aggT,h]at g1
   .split at hm
    .rename_i z y hz hy
     split at hm
     .rename_i hc
      simp only[bae]at hc
      cases hm
      rw[hy,nbe hc.1]
     .simp at hm
    .simp at hm
   .grind
   .simp at hm
  have hp:∀{zs:Array AE} {l:Y Int},zs.toList=l.map (Value.int .i64)->l.length=m->(part T zs 0).run P w=.ok (.agg zs) w:=fun{zs l} hz hl=>by
   have:zs.size=m:=by rw[<-BW,hz,AX,hl]
   simp[part,VZ g1,run_sizeOf hsz,<-this]
  grind
 .simp at g2
def Qle:∀{as1:Y Int} {us:Y AE},AV.Rs ρ H M w (as1.map fun a=>.p (.v (.int .i64 a))) us->us=as1.map (Value.int .i64)
 |[],us,h=>by simpa only[Al,AV.Rs]using h
 |a::r,us,h=>by
  simp at h
  obtain⟨u,us',rfl,_,⟨rfl,_⟩,h2⟩:=h
  rw[Qle h2];rfl
def TE.eqlInts{as1 bs:Y Int}(ho:o.op=.binOp .eql T x y T')(hT:QwM P T as1.length=true)(hl:Nat.beq bs.length as1.length=true)(hx:Qi rd x=some (.agg (as1.map fun a=>.p (.v (.int .i64 a)))))(hy:Qi rd y=some (.agg (bs.map fun a=>.p (.v (.int .i64 a)))))(hr:decide (as1=bs)=q):TE P o ⟨rd,[],.p (.v (.bool q)),[],[]⟩:=
 TE.quiet fun Γ ρ M s a w hs hh=>by
  have h1:=Qj hs hh hx
  have h2:=Qj hs hh hy
  simp only[AV.R]at h1 h2
  obtain⟨us,hu,k1⟩:=h1
  obtain⟨vs,hv,k2⟩:=h2
  obtain⟨e1,g3⟩:=Qof (P:=P) (w:=w) hT hl (Qle k1) (Qle k2)
  refine⟨.bool q,?_,by simp only[AV.R,PV.R];exact⟨trivial,rfl⟩⟩
  simp[execOp,ho,hu,hv,run_eqGuard_agg w .eql T x y us vs g3,run_eql_struct,e1,hr]
end
section
end
section
def TE.neqInts{as1 bs:Y Int}(ho:o.op=.binOp .neq T x y T')(hT:QwM P T as1.length=true)(hl:Nat.beq bs.length as1.length=true)(hx:Qi rd x=some (.agg (as1.map fun a=>.p (.v (.int .i64 a)))))(hy:Qi rd y=some (.agg (bs.map fun a=>.p (.v (.int .i64 a)))))(hr:decide (as1≠bs)=q):TE P o ⟨rd,[],.p (.v (.bool q)),[],[]⟩:=
 TE.quiet fun Γ ρ M s a w hs hh=>by
  have h1:=Qj hs hh hx
  have h2:=Qj hs hh hy
  simp only[AV.R]at h1 h2
  obtain⟨us,hu,k1⟩:=h1
  obtain⟨vs,hv,k2⟩:=h2
  obtain⟨e1,g3⟩:=Qof (P:=P) (w:=w) hT hl (Qle k1) (Qle k2)
  refine⟨.bool q,?_,by simp only[AV.R,PV.R];exact⟨trivial,rfl⟩⟩
  have hq:(!decide (as1=bs))=q:=by rw[<-hr];simp
  simp[execOp,ho,hu,hv,run_eqGuard_agg w .neq T x y us vs g3,run_neq_struct,e1,hq]
def TE.sliceLo(ho:o.op=.slice T x (some lo) none none)(hT:P.underlying T=some (.slice e))(hz:Zl P e=some es)(hx:Qi rd x=some (.p (.sl full es rows)))(hlo:Qi rd lo=some (.p (.v (.int .i64 i))))(hi:i=((k:Nat):Int))(hk:k<=rows.length)(hr:rows.drop k=rows'):TE P o ⟨rd,[],.p (.sl full es rows'),[],[]⟩:=
 TE.quiet fun Γ ρ M s a w hs hh=>by
  subst hr;subst hi
  have h1:=Qj hs hh hx
  have h2:=Qj hs hh hlo
  simp only[AV.R,PV.R]at h1 h2
  obtain⟨ad,cap,hu,hl,hf,hn,hc⟩:=h1
  refine⟨.slice (if cap=k then ad else ad.map (·.add (k*es))) (rows.length - k) (cap - k),?_,?_⟩
  .have hb:(Instr.sliceBounds true rows.length cap (some (.int .i64 ((k:Nat):Int))) none none).run P w=.ok (k,rows.length,cap) w:=by
    unfold Instr.sliceBounds
    simp[run_sliceBound,hk]
   simp[execOp,ho,hu,h2.1,Instr.sliceAt,Instr.slice,run_underlying hT,hb,run_sizeOf hz]
  .simp only[AV.R,PV.R,Bg]
   refine⟨_,_,rfl,U,fun h=>by rw[hf h],fun h=>?_,fun ad' had hcap=>?_⟩
   .split at h
    .omega
    .simp_all
   .have hne:¬cap=k:=U
    rw[iA hne]at had
    cases ad with
    |none=>simp at had
    |some x=>
     obtain⟨g1,g2,g3,g4⟩:=hc x rfl U
     obtain⟨b0,o0,s0⟩:=x
     simp only at g1;subst g1
     simp only[Aa,AP]at had
     rw[Zr]at had
     subst had
     exact⟨rfl,g2,g3,g4.drop k⟩
end
open Go
section
end
section
def QjY(hs:Sim Γ ρ M s a w)(hh:s.holds e)(hlo:optB e.rd 0 lo=some ((k:Nat):Int))(hhi:optB e.rd len hi=some ((m:Nat):Int))(h1:k<=m)(h2:m<=len)(h3:len<=cap):
  (Instr.sliceBounds true len cap (lo.map a.eval) (hi.map a.eval) none).run P w=.ok (k,m,cap) w:=by
 have hb1:=QrB (P:=P) (w:=w) (y:=cap) (c:=.sliceAcap) hs hh hhi (AY h2 h3)
 have hb2:=QrB (P:=P) (w:=w) (c:=.sliceB) hs hh hlo h1
 unfold Instr.sliceBounds
 cases lo<;>cases hi<;>simp_all
def TE.sliceP(ho:o.op=.slice T x lo hi none)(hT:P.underlying T=some (.slice e))(hz:Zl P e=some es)(hx:Qi rd x=some (.p (.sl full es rows)))(hlo:optB rd 0 lo=some ((k:Nat):Int))(hhi:optB rd rows.length hi=some ((m:Nat):Int))(h1:k<=m)(h2:m<=rows.length):TE P o ⟨rd,[],.p (.sl false es ((rows.take m).drop k)),[],[]⟩:=
 TE.quiet fun Γ ρ M s a w hs hh=>by
  have hr:=Qj hs hh hx
  simp only[AV.R,PV.R]at hr
  obtain⟨ad,cap,hu,hl,hf,hn,hc⟩:=hr
  have hb:=QjY (P:=P) hs hh hlo hhi h1 h2 hl
  refine⟨.slice (if cap=k then ad else ad.map (·.add (k*es))) (m - k) (cap - k),?_,?_⟩
  .simp[execOp,ho,hu,Instr.sliceAt,Instr.slice,run_underlying hT,hb,run_sizeOf hz]
  .simp only[AV.R,PV.R,Bg,Ae,CC h2]
   refine⟨_,_,rfl,U,fun h=>by simp at h,fun h=>?_,fun ad' had hcap=>?_⟩
   .split at h
    .omega
    .cases ad with
     |none=>rw[hn rfl];omega
     |some x=>simp at h
   .have hne:¬cap=k:=U
    rw[iA hne]at had
    cases ad with
    |none=>simp at had
    |some x=>
     obtain⟨g1,g2,g3,g4⟩:=hc x rfl U
     obtain⟨b0,o0,s0⟩:=x
     simp only at g1;subst g1
     simp only[Aa,AP]at had
     rw[Zr]at had
     subst had
     exact⟨rfl,g2,g3,(g4.take m).drop k⟩
def TE.sliceView(ho:o.op=.slice T x lo hi none)(hT:P.underlying T=some (.slice e))(hz:Zl P e=some es)(hx:Qi rd x=some (.own n len))(hlo:optB rd 0 lo=some ((k:Nat):Int))(hhi:optB rd len hi=some ((m:Nat):Int))(hlen:Nat.beq len rows.length=true)(h1:k<=m)(h2:m<=rows.length):
  TE P o ⟨rd,[(n,.TI es rows)],.view n len k m,[],[]⟩:=
 TE.quiet fun Γ ρ M s a w hs hh=>by
  have hr:=Qj hs hh hx
  simp only[AV.R]at hr
  have hn:=hh.hp n _ (by simp:(n,AO.TI es rows)∈_)
  have hle:=nbe hlen
  have hu:=(hr.2 _ es rows.length hn rfl).2 hle
  obtain⟨hes,hcap,_⟩:=hs.objs n _ hn
  have hb:=QjY (P:=P) (cap:=(ρ n).cap) hs hh hlo hhi h1 (by rw[hle];exact h2) (by rw[hle];exact hcap)
  refine⟨Qic (.slice (ρ n).base len (ρ n).cap) k m es,?_,?_⟩
  .simp[execOp,ho,hu,Instr.sliceAt,Instr.slice,run_underlying hT,hb,run_sizeOf hz,Qic]
  .simp only[AV.R]
   refine⟨rfl,h1,by rw[hle];exact h2,fun ob es' kk hob hsh=>?_⟩
   rw[hn]at hob;cases hob
   simp only[AO.shape,AP,Bb]at hsh
   obtain⟨rfl,rfl⟩:=hsh
   exact⟨U,fun _=>rfl⟩
def TE.sliceCut(ho:o.op=.slice T x none (some hi) (some mx))(hT:P.underlying T=some (.slice e))(hz:Zl P e=some es)(hx:Qi rd x=some (.own n len))(hhi:Qi rd hi=some (.p (.v (.int .i64 i))))(hmx:Qi rd mx=some (.p (.v (.int .i64 i))))(hi:i=((k:Nat):Int))(hlen:Nat.beq len rows.length=true)(hk:k<=rows.length):
  TE P o ⟨rd,[(n,.TI es rows)],.cut n len k,[],[]⟩:=
 TE.quiet fun Γ ρ M s a w hs hh=>by
  subst hi
  have hr:=Qj hs hh hx
  have h2:=Qj hs hh hhi
  have h3:=Qj hs hh hmx
  simp only[AV.R,PV.R]at hr h2 h3
  have hn:=hh.hp n _ (by simp:(n,AO.TI es rows)∈_)
  have hle:=nbe hlen
  have hu:=(hr.2 _ es rows.length hn rfl).2 hle
  obtain⟨hes,hcap,_⟩:=hs.objs n _ hn
  refine⟨.slice (ρ n).base k k,?_,?_⟩
  .have hb:(Instr.sliceBounds true len (ρ n).cap none (some (.int .i64 ((k:Nat):Int))) (some (.int .i64 ((k:Nat):Int)))).run P w=.ok (0,k,k) w:=by
    unfold Instr.sliceBounds
    simp[run_sliceBound,show k<=(ρ n).cap by omega]
   have hz0:∀x:Addr,x.add 0=x:=fun x=>by
    obtain⟨b0,o0,s0⟩:=x
    cases s0<;>simp[Addr.add]
   cases hb0:(ρ n).base with
   |none=>simp[execOp,ho,hu,hb0,h2.1,h3.1,Instr.sliceAt,Instr.slice,run_underlying hT,hb,run_sizeOf hz]
   |some x=>simp[execOp,ho,hu,hb0,h2.1,h3.1,Instr.sliceAt,Instr.slice,run_underlying hT,hb,run_sizeOf hz,hz0]
  .simp only[AV.R]
   refine⟨rfl,U,fun ob es' kk hob hsh=>?_⟩
   simp_all
section
def Qwm{i:TypeInfo}(hs:Sim Γ ρ M s a w)(hT:W9 P T=some e)(hsz:i.size=es)(hn:s.heap n=some (.TI es rows))(hle:len=rows.length)(hk:k<=rows.length)(hh:hi<=rows.length)(hl:lo<=hi)(hX:AV.R ρ s.heap M w (.cut n len k) zF)(hY:AV.R ρ s.heap M w (.view n len lo hi) zB):1<=es/\k<=(ρ n).cap/\zF=.slice (ρ n).base k k/\
   (∃cr',RR ρ s.heap M w ((rows.take hi).drop lo) cr'/\(∀r∈(rows.take hi).drop lo,r.length=es)/\Src P i.size T zB ((rows.take hi).drop lo).length cr'.flatten w)/\
   ∃cr0,RR ρ s.heap M w (rows.take k) cr0/\(∀r∈rows.take k,r.length=es)/\(Builtin.firstCells i.size k (.slice (ρ n).base k k)).run P w.drew=.ok cr0.flatten.toArray w.drew:=by
 simp only[AV.R]at hX hY
 have hux:=(hX.2.2 _ es rows.length hn rfl).2 hle
 have huy:=(hY.2.2.2 _ es rows.length hn rfl).2 hle
 obtain⟨hes,hcap,hobj⟩:=hs.objs n _ hn
 refine⟨hes,U,hux,?_⟩
 have hvl:((rows.take hi).drop lo).length=hi - lo:=by simp;omega
 rcases hobj with hobj|⟨b,T',cs,h3,h4,h5,h6,h7⟩
 .have h0:rows=[]:=BP U
  subst h0
  simp only[Ao,Nat.le_zero_eq]at hk hh hle
  subst hh;subst hk;subst hle
  have:lo=0:=U
  subst this
  refine⟨⟨[],by simp[RR],Ob,?_⟩,[],by simp[RR],Ob,?_⟩
  .rw[huy,hobj]
   simp only[Qic,if_true]
   cases hb:(ρ n).base with
   |none=>simpa using Src.ofNil (w:=w) (Qq hT) 0
   |some ad=>simpa using Src.ofSlice (w:=w) (Qq hT) ad 0 0 [] Ob Ob Ob
  .cases hb:(ρ n).base with
   |none=>simpa using run_firstCells_none (P:=P) w.drew i.size 0 0 0
   |some ad=>simpa using run_firstCells_some (P:=P) w.drew i.size 0 ad 0 0 [] Ob Ob
 .obtain⟨cr',k1,k2,k3⟩:=RR.of_Rows (ρ:=ρ) (H:=s.heap) ((h7.take hi).drop lo)
  obtain⟨cr0,m1,m2,m3⟩:=RR.of_Rows (ρ:=ρ) (H:=s.heap) (h7.take k)
  refine⟨⟨cr',k1,k2,?_⟩,cr0,m1,m2,?_⟩
  .rw[huy,hvl]
   by_cases hz:hi=lo
   .subst hz
    have:cr'=[]:=BP (by have:=k1.length;rw[hvl]at this;omega)
    subst this
    simp only[Qic,EC,h3]
    split
    .exact Src.ofSlice (w:=w) (Qq hT) _ _ _ [] Ob Ob Ob
    .exact Src.ofSlice (w:=w) (Qq hT) _ _ _ [] Ob Ob Ob
   .simp only[Qic,iA (show ¬(ρ n).cap=lo by omega),h3,Aa]
    refine Src.ofSlice (w:=w) (Qq hT) _ _ _ _ (by rw[WU (k1.len k2),k1.length,hvl,hsz]) (fun j u hj=>?_) k1.one
    rw[Zr,Zr]
    exact k3 j u hj
  .rw[h3]
   exact run_firstCells_some (P:=P) w.drew i.size k _ k k cr0.flatten (by rw[hsz,WU (m1.len m2),m1.length,Ae];congr 1;omega) (fun j u hj=>by
    rw[Zr,Ah,World.cell?_drew];have:=m3 j u hj;rwa [Ah]at this)
def TE.appendCut0{P:AF}{o:Oper}{rd:Y (Nat×AV)}{T e:AD}{x y:AC}{n:Name}{len es bytes k lo hi:Nat}{rows:Y (Y PV)}(ho:o.op=.call { callee:=.builtin .append,args:=#[x,y],argTypes:=#[T,T] })(hT:W9 P T=some e)(hok:Qhf P e es bytes=true)(hx:Qi rd x=some (.cut n len k))(hy:Qi rd y=some (.view n len lo hi))(hlen:Nat.beq len rows.length=true)(hk:k<=rows.length)(hh:hi<=rows.length)(hl:lo<=hi)(h0:(rows.take hi).drop lo=[]):
  TE P o ⟨rd,[(n,.TI es rows)],.cut n len k,[],[]⟩:=
 TE.quiet fun Γ ρ M s a w hs hhd=>by
  obtain⟨i,z,hi',hz,hsz,hby,hzs⟩:=Qca hok
  have hle:=nbe hlen
  have hn:=hhd.hp n _ (by simp:(n,AO.TI es rows)∈_)
  have hX:=Qj hs hhd hx
  obtain⟨_,_,hux,⟨cr',k1,k2,hsrc⟩,_⟩:=Qwm hs hT hsz hn hle hk hh hl hX (Qj hs hhd hy)
  rw[h0]at hsrc k1
  simp only[RR]at k1
  subst k1
  have hrun:=run_append_nothing w T T o.type e i (Qq hT) hi' (ρ n).base k k (AN _) (a.eval y) (by simpa using hsrc)
  refine⟨_,?_,hX⟩
  simp[execOp,ho,resolve,invoke,builtin,hux,hrun]
def TE.appendCut{P:AF}{o:Oper}{rd:Y (Nat×AV)}{T e:AD}{x y:AC}{n m:Name}{len es bytes k lo hi r:Nat}{rows rows2:Y (Y PV)}(ho:o.op=.call { callee:=.builtin .append,args:=#[x,y],argTypes:=#[T,T] })(hT:W9 P T=some e)(hok:Qhf P e es bytes=true)(hx:Qi rd x=some (.cut n len k))(hy:Qi rd y=some (.view n len lo hi))(hlen:Nat.beq len rows.length=true)(hk:k<=rows.length)(hh:hi<=rows.length)(hl:lo<=hi)(h0:(rows.take hi).drop lo≠[])(h2:rows.take k++(rows.take hi).drop lo=rows2)(hr:rows2.length=r)(hfit:rows2.length*bytes<=140737488355328)(hfit2:rows2.length<=140737488355328):
  TE P o ⟨rd,[(n,.TI es rows)],.own m r,[(m,.TI es rows2)],[m]⟩:=
 TE.put fun Γ ρ M s a w hs hhd=>by
  subst h2;subst hr
  obtain⟨i,z,hi',hz,hsz,hby,hzs⟩:=Qca hok
  have hle:=nbe hlen
  have hn:=hhd.hp n _ (by simp:(n,AO.TI es rows)∈_)
  obtain⟨hm,hfree⟩:=hhd.nw m Ob
  obtain⟨hes',hkc,hux,⟨cr',k1,k2,hsrc⟩,cr0,m1,m2,hold⟩:=Qwm hs hT hsz hn hle hk hh hl (Qj hs hhd hx) (Qj hs hhd hy)
  obtain⟨R',hR'⟩:∃R',R'=(rows.take hi).drop lo:=⟨_,rfl⟩
  rw[<-hR']at k1 k2 hsrc h0 hfit hfit2 |-
  have hpos:0<R'.length:=B1.2 h0
  have hlk:(rows.take k).length=k:=by rw[Ae];omega
  simp only[Ab,hlk]at hfit hfit2
  have hg:k<k+R'.length:=U
  have hrun:=run_append_grow_src (P:=P) w T T o.type e i z (Qq hT) hi' hz (ρ n).base k k cr0.flatten hold (a.eval y) R'.length cr'.flatten hsrc hg U (growslice_fits hg (by rw[hby];exact hfit))
  have hge:=grownCap_ge w (k+R'.length) k e
  have happ:(cr0.flatten++cr'.flatten)=(cr0++cr').flatten:=Ob
  rw[happ]at hrun
  obtain⟨M',hsim⟩:=hs.grown (n:=m) (es:=es) (cap:=grownCap w (k+R'.length) k e) (rows:=rows.take k++R') (cr:=cr0++cr') (rest:=Builtin.zeroCells z.cells (grownCap w (k+R'.length) k e - (k+R'.length))) (e:=e)
   hes' (m1.append k1) (fun r hr=>by rcases Af.1 hr with hr|hr;exact m2 r hr;exact k2 r hr) (by simp only[Ab,hlk];exact hge) (by rw[Qaa,hzs];simp only[Ab,hlk]) (by simp;omega)
   (fun o' ho'=>by rw[hm]at ho';simp at ho') (fun _=>hfree)
  have hexec:∀(u:AE) (w':AG),(Builtin.append_ #[T,T] o.type #[.slice (ρ n).base k k,a.eval y]).run P w=.ok u w'->(execOp a.eval o).run P w=.ok (.value u) w':=by
   intro u w' hrun
   simp[execOp,ho,resolve,invoke,builtin,hux,hrun]
  refine⟨_,_,_,M',hexec _ _ hrun,hsim,?_⟩
  .simp only[AV.R]
   refine⟨rfl,fun o' es' k' hc hs'=>?_⟩
   simp at hc
   cases hc
   cases hs'
   grind
end
def Sim.adopt(h:Sim Γ ρ M s a w){n m:Name}(hg:n∉Γ.names)(hn:s.heap n=some (.TI es rows))(hm:s.heap m=none)(hf:s.free m)(hk:k<=rows.length)(ht:s.slot t=some (.cut n rows.length k)):
  ∃ρ',Sim Γ ρ' M ⟨fun j=>if j=t then some (.own m k)else s.slot j,fun j=>if j=m then some (.TI es (rows.take k))else if j=n then none else s.heap j⟩ a w:=by
 have hmn:m≠n:=fun e=>by rw[e,hn]at hm;simp at hm
 obtain⟨hes,hcap,hobj⟩:=h.objs n _ hn
 obtain⟨u,hu,hr⟩:=h.slots t _ ht
 simp only[AV.R]at hr
 have hux:=(hr.2.2 _ es rows.length hn rfl).2 rfl
 have hst:Qdk ρ s.heap (fun j=>if j=m then⟨(ρ n).base,k⟩else ρ j) (fun j=>if j=m then some (.TI es (rows.take k))else if j=n then none else s.heap j):=fun j ob hj=>by
  have e1:j≠m:=fun e=>by rw[e,hm]at hj;simp at hj
  simp only[e1,if_false]
  by_cases e:j=n
  .simp only[e,if_true];cases ob<;>simp[stays]
  .simp only[e,if_false,hj];exact Zj _ _
 have h2:=h.update (ρ':=fun j=>if j=m then⟨(ρ n).base,k⟩else ρ j) (M':=M) (H':=fun j=>if j=m then some (.TI es (rows.take k))else if j=n then none else s.heap j) (w':=w) (Ext.refl _ _) (fun _ hb=>hb) (fun _ hb=>.inl hb) h.msize hst
  (fun j hj hc=>by
   obtain⟨o,ho,_⟩:=h.keep j hj
   have e1:j≠m:=fun e=>by rw[e,hm]at ho;simp at ho
   have e2:j≠n:=fun e=>hg (e ▸ hj)
   simp only[e1,e2,if_false,ho]at hc;simp at hc)
  (fun j hj hc=>by
   by_cases e:j=m
   .rw[e];exact hf
   .by_cases e2:j=n
    .rw[e2,hn]at hj;simp at hj
    .simp only[e,e2,if_false,hj]at hc;exact absurd rfl hc)
  (fun j ob hj=>by
   by_cases e:j=m
   .subst e
    simp only[if_true,AP]at hj
    subst hj
    refine .inr ⟨⟨hes,by simp;omega,?_⟩,fun b hb=>?_⟩
    .simp only[if_true]
     rcases CO k with hk0|hk0
     .exact .inl hk0
     .rcases hobj with hobj|⟨b,T',cs,h3,h4,h5,h6,h7⟩
      .omega
      .exact .inr ⟨b,T',cs,h3,h4,h5,AY (As es U) h6,h7.take k⟩
    .refine .inr ((h.own0 n _ b hn ?_).resolve_left fun x=>hg x.1)
     simp only[if_true,Loc.blk]at hb |-
     split at hb
     .simp at hb
     .rw[iA U];exact hb
   .by_cases e2:j=n
    .simp only[e2,Ag hmn,if_false,if_true]at hj;simp at hj
    .simp only[e,e2,if_false]at hj
     exact .inl ⟨hj,by simp only[e,if_false],fun _ _=>rfl⟩)
  (fun i j o1 o2 b h1 h2 h3 h4=>by
   have hb:∀{b},(⟨(ρ n).base,k⟩:Loc).blk=some b->(ρ n).blk=some b:=fun{b} hb=>by
    simp only[Loc.blk]at hb |-
    split at hb
    .simp at hb
    .rw[iA U];exact hb
   by_cases e:i=m<;>by_cases e2:j=m
   .rw[e,e2]
   .subst e
    simp only[if_true,e2,if_false]at h2 h3 h4
    by_cases e3:j=n
    .simp[e3]at h2
    .simp only[e3,if_false]at h2
     exact absurd (h.inj n j _ _ b hn h2 (hb h3) h4).symm e3
   .subst e2
    simp only[if_true,e,if_false]at h1 h3 h4
    by_cases e3:i=n
    .simp[e3]at h1
    .simp only[e3,if_false]at h1
     exact absurd (h.inj n i _ _ b hn h1 (hb h4) h3).symm e3
   .simp only[e,e2,if_false]at h1 h2 h3 h4
    by_cases e3:i=n
    .simp[e3]at h1
    .by_cases e4:j=n
     .simp[e4]at h2
     .simp only[e3,e4,if_false]at h1 h2
      exact h.inj i j _ _ b h1 h2 h3 h4)
 refine⟨_,h2.n,h2.d,fun j x hj=>?_,h2.objs,h2.inj,h2.own0,h2.keep,h2.ext,h2.mext,h2.msize,h2.m0,h2.ground⟩
 by_cases e:j=t
 .subst e
  simp at hj
  subst hj
  refine⟨u,hu,?_⟩
  simp only[AV.R]
  refine⟨hr.1,fun o' es' k' hc hs'=>?_⟩
  simp at hc
  subst hc
  simp only[AO.shape,AP,Bb,Ae]at hs'
  exact⟨U,fun _=>by simp;exact hux⟩
 .simp only[e,if_false]at hj
  exact h2.slots j x hj
def Qvu:∀{ps:Y PV} {us:Y AE},AV.Rs ρ H M w (pcells ps) us->∀(q:Nat) (p:PV),ps[q]?=some p->∃u:AE,us[q]?=some u/\p.R M w u
 |[],us,_,q,p,h=>by simp at h
 |x::ps,us,h,q,p,hq=>by
  simp only[pcells,AU,AV.Rs]at h
  obtain⟨u,us',rfl,_,h3,h4⟩:=h
  cases q with
  |zero=>simp only[List.getElem?_cons_zero,AP]at hq;subst hq;exact⟨u,rfl,by simpa only[AV.R]using h3⟩
  |succ q=>simpa using Qvu (ps:=ps) h4 q p (by simpa using hq)
def TE.lenView(ho:o.op=.call { callee:=.builtin .len,args:=#[x],argTypes:=ats })(hat:ats[0]?=some T)(hT:W9 P T=some e)(hx:Qi rd x=some (.view n len lo hi))(hlen:Nat.beq len rows.length=true):TE P o ⟨rd,[(n,.TI es rows)],.p (.v (.int .i64 ((hi - lo:Nat):Int))),[],[]⟩:=
 TE.quiet fun Γ ρ M s a w hs hh=>by
  have hr':=Qj hs hh hx
  simp only[AV.R]at hr'
  have hle:=nbe hlen
  have hu:=(hr'.2.2.2 (.TI es rows) es rows.length (hh.hp n _ Ob) rfl).2 hle
  simp only[Qic]at hu
  refine⟨.int .i64 ((hi - lo:Nat):Int),?_,by simp only[AV.R,PV.R];exact⟨trivial,rfl⟩⟩
  simp[execOp,ho,resolve,invoke,builtin,Builtin.len_,hat,hu,run_underlying (Qq hT),goInt]
def TE.indexView{len lo hi es i:Nat}(ho:o.op=.indexAddr T x y)(hT:W9 P T=some e)(hz:Zl P e=some es)(hx:Qi rd x=some (.view n len lo hi))(hlen:Nat.beq len rows.length=true)(hy:Qi rd y=some (.p (.v (.int k j))))(hj:j=(i:Int))(hi:i<hi - lo):TE P o ⟨rd,[(n,.TI es rows)],.aref n len (lo+i) 0,[],[]⟩:=
 TE.quiet fun Γ ρ M s a w hs hh=>by
  have hr:=Qj hs hh hx
  simp only[AV.R]at hr
  have hn:=hh.hp n _ (by simp:(n,AO.TI es rows)∈_)
  have hle:=nbe hlen
  have hu:=(hr.2.2.2 _ es rows.length hn rfl).2 hle
  have hhi:=hr.2.2.1
  obtain⟨h0,h1,h2⟩:=hs.objs n _ hn
  rcases h2 with h2|⟨b,T',cs,h3,h4,h5,h6,h7⟩
  .omega
  .have hc:¬(ρ n).cap=lo:=U
   simp only[Qic,hc,if_false,h3,Aa,Zr]at hu
   refine⟨.pointer (some ⟨b,(lo+i)*es,none⟩),?_,?_⟩
   .simp[execOp,ho,hu,QeR hs hh hy,Instr.indexAt,asIntOf,run_underlying (Qq hT),hj,hi,run_sizeOf hz,Zr,Av]
   .simp only[AV.R]
    refine⟨rfl,fun o' es' k' hc hs'=>?_⟩
    rw[hn]at hc;cases hc
    cases hs'
    exact⟨U,fun _=>⟨b,h3,Ob⟩⟩
def TE.sliceView2(ho:o.op=.slice T x lo hi none)(hT:P.underlying T=some (.slice e))(hz:Zl P e=some es)(hx:Qi rd x=some (.view n len a b))(hlo:optB rd 0 lo=some ((k:Nat):Int))(hhi:optB rd (b - a) hi=some ((m:Nat):Int))(hlen:Nat.beq len rows.length=true)(h1:k<=m)(h2:m<=b - a)(h3:a=0\/k=0\/k<m):
  TE P o ⟨rd,[(n,.TI es rows)],.view n len (a+k) (a+m),[],[]⟩:=
 TE.quiet fun Γ ρ M s w0 w hs hh=>by
  have hr:=Qj hs hh hx
  simp only[AV.R]at hr
  have hn:=hh.hp n _ (by simp:(n,AO.TI es rows)∈_)
  have hle:=nbe hlen
  have hu:=(hr.2.2.2 _ es rows.length hn rfl).2 hle
  have hab:=hr.2.1
  have hbl:=hr.2.2.1
  obtain⟨hes,hcap,hobj⟩:=hs.objs n _ hn
  have hb:=QjY (P:=P) (cap:=(ρ n).cap - a) hs hh hlo hhi h1 h2 U
  simp only[Qic]at hu
  obtain⟨ad,had⟩:∃ad,ad=(if (ρ n).cap=a then(ρ n).base else(ρ n).base.map (·.add (a*es))):=⟨_,rfl⟩
  rw[<-had]at hu
  refine⟨.slice (if (ρ n).cap - a=k then ad else ad.map (·.add (k*es))) (m - k) ((ρ n).cap - a - k),?_,?_⟩
  .simp[execOp,ho,hu,Instr.sliceAt,Instr.slice,run_underlying hT,hb,run_sizeOf hz]
  .simp only[AV.R]
   refine⟨rfl,U,U,fun ob es' kk hob hsh=>?_⟩
   rw[hn]at hob;cases hob
   simp only[AO.shape,AP,Bb]at hsh
   obtain⟨rfl,rfl⟩:=hsh
   refine⟨U,fun _=>?_⟩
   simp only[Qic]
   rw[show a+m - (a+k)=m - k by omega,show(ρ n).cap - a - k=(ρ n).cap - (a+k)by omega]
   congr 1
   by_cases hca:(ρ n).cap=a
   .have hk0:k=0:=U
    subst hk0
    rw[iB U,iB U,had,iB hca]
   .rcases hobj with hobj|⟨b',t,cs,g3,_⟩
    .exact absurd (show(ρ n).cap=a by omega) hca
    .rw[had,iA hca]
     by_cases hck:(ρ n).cap=a+k
     .have h4:a=0:=U
      subst h4
      rw[iB U,iB hck,g3]
      simp[Zr]
     .rw[iA U,iA hck,g3]
      simp[Zr,Av]
def TE.clearView(ho:o.op=.call { callee:=.builtin .clear,args:=#[x],argTypes:=ats })(hat:ats[0]?=some T)(hT:P.underlying T=some (.slice e))(hz:Zl P e=some es)(hzr:Qag P e=some zr)(hzl:zr.length=es)(hx:Qi rd x=some (.view n len i m))(hlen:Nat.beq len rows.length=true)(hi:i<=m)(hm:m<=rows.length)(hr:rows.take i++List.replicate (m - i) zr++rows.drop m=rows'):TE P o ⟨rd,[(n,.TI es rows)],.tup [],[(n,.TI es rows')],[]⟩:=
 TE.upd fun Γ ρ M s a w hs hh=>by
  subst hr
  have hn:=hh.hp n _ (by simp:(n,AO.TI es rows)∈_)
  have hle:=nbe hlen
  have h1:=Qj hs hh hx
  simp only[AV.R]at h1
  have hX:=(h1.2.2.2 _ es rows.length hn rfl).2 hle
  simp only[Qic]at hX
  obtain⟨hes,hcap,hobj⟩:=hs.objs n _ hn
  have hres:∀ρ' H' M' w',AV.R ρ' H' M' w' (.tup []) (.tuple #[]):=fun _ _ _ _=>by simp only[AV.R,AV.Ts];exact⟨#[],rfl,rfl⟩
  unfold Qag at hzr
  split at hzr
  case h_2=>simp at hzr
  rename_i zs hcs
  obtain⟨inf,z,hinf,hz',hall,rfl⟩:=Ui hcs
  by_cases hz0:m - i=0
  .have hrows:rows.take i++List.replicate (m - i) zr++rows.drop m=rows:=by rw[hz0,List.replicate_zero,An,show m=i by omega];exact B2 i rows
   rw[hrows]
   refine⟨_,w,ρ,M,?_,hs.congr (fun t=>rfl) (fun m=>?_),hres _ _ _ _⟩
   .have hl0:m - i=0:=hz0
    have hA:∀(d:I Addr) (c:Nat),(Builtin.clear_ ats o.type #[.slice d 0 c]).run P w=.ok (.tuple #[]) w:=fun d c=>by
     cases d<;>simp[Builtin.clear_,hat,run_underlying hT]
    rw[hl0]at hX
    simp[execOp,ho,resolve,invoke,builtin,hX,hA]
   .by_cases e:m=n
    .subst e;simp[hn]
    .simp[e]
  .rcases hobj with hobj|⟨b,t,cs,h3,h4,h5,h6,h7⟩
   .omega
   .have hci:¬(ρ n).cap=i:=U
    have hdst:a.eval x=.slice (some ⟨b,i*es,none⟩) (m - i) ((ρ n).cap - i):=by rw[hX];simp[hci,h3,Zr]
    have hzR:AV.Rs ρ s.heap M w (pcells zr) z.cells.toList:=by rw[<-QaC hzr];exact Xq hall
    have hzlen:z.cells.toList.length=es:=by have:=hzR.length;rw[this];simp[pcells,hzl]
    have hN2:i*es+(m - i)*es<=cs.size:=by rw[<-Av];exact AY (As es U) h6
    obtain⟨vs,hvs⟩:∃vs,vs=(Builtin.zeroCells z.cells (m - i)).toList:=⟨_,rfl⟩
    have hzsz:z.cells.size=es:=by simpa using hzlen
    have hvl:vs.length=(m - i)*es:=by rw[hvs];simp[Builtin.zeroCells,hzsz]
    have hget:∀q,q<(m - i)*es->vs[q]?=z.cells.toList[q % es]?:=fun q hq=>by
     have hmod:q % es<es:=Cj _ hes
     rw[hvs]
     simp only[Builtin.zeroCells,hzsz,En]
     rw[Array.getElem?_map,Array.getElem?_range]
     simp[hq,hzsz,hmod,getElem!_def]
    have hold:∀q,w.cell? ⟨b,q,none⟩=cs.toList[q]?:=fun q=>by simp[World.cell?,h5]
    have hone:∀v∈vs,v.oneCell'=true:=by
     intro v hv
     obtain⟨q,hq,e⟩:=BZ hv
     grind
    have hstore:=run_storeCells_at (P:=P) b (i*es) t vs 0 cs w h5 (by rw[hvl];omega) hone
    have hw:(Qz cs.toList (i*es) vs).toArray=(cs.toList.take (i*es+0)++vs++cs.toList.drop (i*es+0+vs.length)).toArray:=by unfold Qz;rfl
    refine⟨_,w.setRow b (Qz cs.toList (i*es) vs).toArray,(fun m=>if m=n then ρ n else ρ m),M,?_,?_,hres _ _ _ _⟩
    .have hne:m - i≠0:=hz0
     have hrun:(Builtin.clear_ ats o.type #[a.eval x]).run P w=.ok (.tuple #[]) (w.setRow b (Qz cs.toList (i*es) vs).toArray):=by
      rw[hdst]
      obtain⟨nn,hnn⟩:∃nn,m - i=nn+1:=⟨m - i - 1,U⟩
      rw[hnn]at hvs |-
      simp[Builtin.clear_,hat,run_underlying hT,YR hinf hz',<-hvs]
      rw[hstore,hw];rfl
     simp[execOp,ho,resolve,invoke,builtin,hrun]
    .have hblk:(ρ n).blk=some b:=by
      have:(ρ n).cap≠0:=U
      simp[Loc.blk,this,h3]
     have he:Ext (fun b'=>b'=b) w (w.setRow b (Qz cs.toList (i*es) vs).toArray):=⟨by simp[World.setRow],fun b' hb hne=>setRow_other w b b' _ hne,rfl,rfl⟩
     have hM:M b:=h4
     have hlen':(rows.take i++List.replicate (m - i) zr++rows.drop m).length=rows.length:=by simp;omega
     refine hs.update1 (he.weaken fun b' _ hb=>⟨by rw[hblk,hb],by rw[hn];simp⟩) (fun _ hb=>hb) (fun _ hb=>.inl hb) (fun b' hb=>BD (hs.msize b' hb) he.size)
      (fun o' ho'=>by rw[hn]at ho';cases ho';simp only[stays];exact⟨trivial,by rw[hlen'];exact AN _,fun _=>trivial⟩) (fun h0=>by rw[hn]at h0;simp at h0) ?_ (fun b' hb=>.inl ⟨_,hn,hb⟩)
     refine⟨hes,by rw[hlen'];simpa using hcap,.inr ⟨b,t,_,by simp[h3],hM,setRow_heap w b cs _ t (0,0) h5,?_,?_⟩⟩
     .grind
     .have hmono:∀{x:PV} {u:AE},x.R M w u->x.R M (w.setRow b (Qz cs.toList (i*es) vs).toArray) u:=fun h=>h.mono he (fun b' hb=>by rw[hb];exact hM) (fun b' _ hb=>hb)
      have hcell:∀q,(w.setRow b (Qz cs.toList (i*es) vs).toArray).cell? ⟨b,q,none⟩=(Qz cs.toList (i*es) vs)[q]?:=fun q=>by
       rw[cell_setRow_same w b q cs _ t (0,0) h5,CW]
      have hset:∀q,(Qz cs.toList (i*es) vs)[q]?=if i*es<=q/\q<i*es+(m - i)*es then vs[q - i*es]? else cs.toList[q]?:=fun q=>by
       have htl:(List.take (i*es) cs.toList).length=i*es:=by simp;omega
       unfold Qz
       by_cases c1:q<i*es
       .grind
       .by_cases c2:q<i*es+(m - i)*es
        .grind
        .rw[iA U,BR (by simp only[Ab,htl,hvl];omega),Ap]
         simp_all
      refine PV.Rows.of_get fun i' r' hi'=>?_
      have htk:(rows.take i).length=i:=by simp;omega
      rw[Aw,B9]at hi'
      by_cases c:i'<i
      .rw[iB U,Ar,iB c]at hi'
       obtain⟨g1,g2⟩:=h7.get i' r' hi'
       refine⟨g1,PV.Cells.of_get fun q p hq=>?_⟩
       obtain⟨u,k1,k2⟩:=g2.get q p hq
       have hq':q<es:=by rw[<-g1];exact(Az.1 hq).1
       have hlt:i'*es+q<i*es:=by
        have:(i'+1)*es<=i*es:=As es c
        grind
       grind
      .rw[iA U,htk,B9,Cn,Eo]at hi'
       by_cases hlt:i' - i<m - i
       .rw[iB hlt,iB hlt]at hi'
        cases hi'
        refine⟨hzl,PV.Cells.of_get fun q p hq=>?_⟩
        have hq':q<es:=by rw[<-hzl];exact(Az.1 hq).1
        obtain⟨u,k1,k2⟩:=Qvu hzR q p hq
        have e1:i'*es=i*es+(i' - i)*es:=by rw[<-Av];congr 1;omega
        have hlt2:(i' - i)*es+q<(m - i)*es:=by
         have:(i' - i+1)*es<=(m - i)*es:=As es hlt
         grind
        refine⟨u,?_,hmono k2⟩
        rw[hcell,hset,iB U,show 0+i'*es+q - i*es=(i' - i)*es+q by omega,hget _ hlt2,<-k1]
        rw[EA,Nat.add_mul_mod_self_right,Nat.mod_eq_of_lt hq']
       .rw[iA hlt,Ap,show m+(i' - i - (m - i))=i' by omega]at hi'
        obtain⟨g1,g2⟩:=h7.get i' r' hi'
        refine⟨g1,PV.Cells.of_get fun q p hq=>?_⟩
        obtain⟨u,k1,k2⟩:=g2.get q p hq
        have hge:i*es+(m - i)*es<=i'*es:=by
         rw[<-Av];exact As es U
        refine⟨u,?_,hmono k2⟩
        rw[hcell,hset,iA U,<-hold];exact k1
def TE.copyView(ho:o.op=.call { callee:=.builtin .copy,args:=#[x,y],argTypes:=ats })(hat:ats=#[T,T])(hT:P.underlying T=some (.slice e))(hz:Zl P e=some es)(hx:Qi rd x=some (.view n len i len))(hy:Qi rd y=some (.view n len j len))(hlen:Nat.beq len rows.length=true)(hi:i<=rows.length)(hj:j<=i)(hr:rows.take i++(rows.drop j).take (rows.length - i)=rows')(hv:((rows.length - i:Nat):Int)=r):
  TE P o ⟨rd,[(n,.TI es rows)],.p (.v (.int .i64 r)),[(n,.TI es rows')],[]⟩:=
 TE.upd fun Γ ρ M s a w hs hh=>by
  subst hr;subst hv;subst hat
  have hn:=hh.hp n _ (by simp:(n,AO.TI es rows)∈_)
  have hle:=nbe hlen
  have h1:=Qj hs hh hx
  have h2:=Qj hs hh hy
  simp only[AV.R]at h1 h2
  have hX:=(h1.2.2.2 _ es rows.length hn rfl).2 hle
  have hY:=(h2.2.2.2 _ es rows.length hn rfl).2 hle
  simp only[Qic]at hX hY
  obtain⟨hes,hcap,hobj⟩:=hs.objs n _ hn
  have hsz:=run_sizeOf (P:=P) (w:=w) hz
  have hres:∀ρ' H' M' w',AV.R ρ' H' M' w' (.p (.v (.int .i64 ((rows.length - i:Nat):Int)))) (.int .i64 ((rows.length - i:Nat):Int)):=fun _ _ _ _=>by simp only[AV.R,PV.R];exact⟨trivial,rfl⟩
  have hmin:Nat.min (len - j) (len - i)=rows.length - i:=by rw[hle];exact Nat.min_eq_right U
  by_cases hz0:rows.length - i=0
  .have hrows:rows.take i++(rows.drop j).take (rows.length - i)=rows:=by rw[hz0,Bd,An];exact Bf U
   rw[hrows]
   refine⟨_,w,ρ,M,?_,hs.congr (fun t=>rfl) (fun m=>?_),hres _ _ _ _⟩
   .have hl:∀(q:Addr),(loadCells q 0).run P w=.ok #[] w:=fun q=>by simpa using run_loadCells_list (P:=P) w q [] Ob
    have hA:∀(d q:I Addr) (dc qc:Nat),(Builtin.copy_ #[T,T] o.type #[.slice d (len - i) dc,.slice q (len - j) qc]).run P w=.ok (goInt ((rows.length - i:Nat):Int)) w:=fun d q dc qc=>by
     cases d<;>cases q<;>simp[Builtin.copy_,run_underlying hT,Builtin.lenOf,Builtin.firstCells,hsz,hmin,hz0,storeCells,hl,Result.andThen]
    simp[execOp,ho,resolve,invoke,builtin,hX,hY,hA,goInt]
   .by_cases e:m=n
    .subst e;simp[hn]
    .simp[e]
  .rcases hobj with hobj|⟨b,t,cs,h3,h4,h5,h6,h7⟩
   .omega
   .have hci:¬(ρ n).cap=i:=U
    have hcj:¬(ρ n).cap=j:=U
    have hdst:a.eval x=.slice (some ⟨b,i*es,none⟩) (len - i) ((ρ n).cap - i):=by rw[hX];simp[hci,h3,Zr]
    have hsrc:a.eval y=.slice (some ⟨b,j*es,none⟩) (len - j) ((ρ n).cap - j):=by rw[hY];simp[hcj,h3,Zr]
    have hN:(rows.length - i)*es+j*es<=cs.size:=by rw[<-Av];exact AY (As es U) h6
    have hN2:i*es+(rows.length - i)*es<=cs.size:=by rw[<-Av];exact AY (As es U) h6
    obtain⟨vs,hvs⟩:∃vs,vs=(cs.toList.drop (j*es)).take ((rows.length - i)*es):=⟨_,rfl⟩
    have hvl:vs.length=(rows.length - i)*es:=by rw[hvs];simp;omega
    have hget:∀q,q<(rows.length - i)*es->vs[q]?=cs.toList[j*es+q]?:=fun q hq=>by rw[hvs,Ar,iB hq,Ap]
    have hold:∀q,w.cell? ⟨b,q,none⟩=cs.toList[q]?:=fun q=>by simp[World.cell?,h5]
    have hone:∀v∈vs,v.oneCell'=true:=by
     intro v hv
     obtain⟨q,hq,e⟩:=BZ hv
     rw[hvl]at hq
     have hdiv:q / es<rows.length - i:=Nat.div_lt_of_lt_mul (by rw[EI];exact hq)
     have hmod:q % es<es:=Cj _ hes
     have hrow:rows[j+q / es]?=some rows[j+q / es]:=AR U
     obtain⟨g1,g2⟩:=h7.get _ _ hrow
     have hc:rows[j+q / es][q % es]?=some rows[j+q / es][q % es]:=AR U
     obtain⟨u,k1,k2⟩:=g2.get _ _ hc
     have hpos:0+(j+q / es)*es+q % es=j*es+q:=by
      have:=Nat.div_add_mod q es
      rw[Av,EI (q / es)];omega
     rw[hpos,hold]at k1
     have:=hget q hq
     rw[k1,AR U,e]at this
     have hvu:v=u:=by simpa using this
     rw[hvu];exact k2.flat
    have hload:=run_loadCells_list (P:=P) w ⟨b,j*es,none⟩ vs (fun q v hq=>by
     rw[Zr,hold]
     have hq':q<(rows.length - i)*es:=by rw[<-hvl];exact(Az.1 hq).1
     rw[<-hget q hq'];exact hq)
    have hstore:=run_storeCells_at (P:=P) b (i*es) t vs 0 cs w h5 (by rw[hvl];omega) hone
    rw[hvl]at hload
    have hw:(Qz cs.toList (i*es) vs).toArray=(cs.toList.take (i*es+0)++vs++cs.toList.drop (i*es+0+vs.length)).toArray:=by unfold Qz;rfl
    refine⟨_,w.setRow b (Qz cs.toList (i*es) vs).toArray,(fun m=>if m=n then ρ n else ρ m),M,?_,?_,hres _ _ _ _⟩
    .have hrun:(Builtin.copy_ #[T,T] o.type #[a.eval x,a.eval y]).run P w=.ok (goInt ((rows.length - i:Nat):Int)) (w.setRow b (Qz cs.toList (i*es) vs).toArray):=by
      rw[hdst,hsrc]
      simp[Builtin.copy_,run_underlying hT,Builtin.lenOf,Builtin.firstCells,hsz,hmin,hload,Result.andThen]
      rw[hstore,hw]
     simp[execOp,ho,resolve,invoke,builtin,hrun,goInt]
    .have hblk:(ρ n).blk=some b:=by
      have:(ρ n).cap≠0:=U
      simp[Loc.blk,this,h3]
     have he:Ext (fun b'=>b'=b) w (w.setRow b (Qz cs.toList (i*es) vs).toArray):=⟨by simp[World.setRow],fun b' hb hne=>setRow_other w b b' _ hne,rfl,rfl⟩
     have hM:M b:=h4
     have hlen':(rows.take i++(rows.drop j).take (rows.length - i)).length=rows.length:=by simp;omega
     refine hs.update1 (he.weaken fun b' _ hb=>⟨by rw[hblk,hb],by rw[hn];simp⟩) (fun _ hb=>hb) (fun _ hb=>.inl hb) (fun b' hb=>BD (hs.msize b' hb) he.size)
      (fun o' ho'=>by rw[hn]at ho';cases ho';simp only[stays];exact⟨trivial,by rw[hlen'];exact AN _,fun _=>trivial⟩) (fun h0=>by rw[hn]at h0;simp at h0) ?_ (fun b' hb=>.inl ⟨_,hn,hb⟩)
     refine⟨hes,by rw[hlen'];simpa using hcap,.inr ⟨b,t,_,by simp[h3],hM,setRow_heap w b cs _ t (0,0) h5,?_,?_⟩⟩
     .simp only[if_true,CB,Qz,Ab,Ae,Bg,BW,hvl]
      omega
     .have hmono:∀{x:PV} {u:AE},x.R M w u->x.R M (w.setRow b (Qz cs.toList (i*es) vs).toArray) u:=fun h=>h.mono he (fun b' hb=>by rw[hb];exact hM) (fun b' _ hb=>hb)
      have hcell:∀q,(w.setRow b (Qz cs.toList (i*es) vs).toArray).cell? ⟨b,q,none⟩=(Qz cs.toList (i*es) vs)[q]?:=fun q=>by
       rw[cell_setRow_same w b q cs _ t (0,0) h5,CW]
      have hset:∀q,(Qz cs.toList (i*es) vs)[q]?=if i*es<=q/\q<i*es+(rows.length - i)*es then vs[q - i*es]? else cs.toList[q]?:=fun q=>by
       have htl:(List.take (i*es) cs.toList).length=i*es:=by simp;omega
       unfold Qz
       by_cases c1:q<i*es
       .rw[iA U,Aw,BN U,CY c1]
       .by_cases c2:q<i*es+(rows.length - i)*es
        .rw[iB ⟨U,c2⟩,Aw,BR U,BN (by rw[htl,hvl];omega),htl]
        .rw[iA U,BR (by simp only[Ab,htl,hvl];omega),Ap]
         congr 1
         simp only[Ab,htl,hvl];omega
      refine PV.Rows.of_get fun i' r' hi'=>?_
      rw[B9]at hi'
      have htk:(rows.take i).length=i:=by simp;omega
      by_cases c:i'<i
      .rw[iB U,Ar,iB c]at hi'
       obtain⟨g1,g2⟩:=h7.get i' r' hi'
       refine⟨g1,PV.Cells.of_get fun q p hq=>?_⟩
       obtain⟨u,k1,k2⟩:=g2.get q p hq
       have hq':q<es:=by rw[<-g1];exact(Az.1 hq).1
       have hlt:i'*es+q<i*es:=by
        have:(i'+1)*es<=i*es:=As es c
        rw[Ba]at this;omega
       refine⟨u,?_,hmono k2⟩
       rw[hcell,hset,iA U,<-hold];exact k1
      .rw[iA U,htk,Ar]at hi'
       split at hi'
       .rename_i hlt
        rw[Ap]at hi'
        obtain⟨g1,g2⟩:=h7.get (j+(i' - i)) r' hi'
        refine⟨g1,PV.Cells.of_get fun q p hq=>?_⟩
        obtain⟨u,k1,k2⟩:=g2.get q p hq
        have hq':q<es:=by rw[<-g1];exact(Az.1 hq).1
        have e1:i'*es=i*es+(i' - i)*es:=by rw[<-Av];congr 1;omega
        have e2:(j+(i' - i))*es=j*es+(i' - i)*es:=Av _ _ _
        have hlt2:(i' - i)*es+q<(rows.length - i)*es:=by
         have:(i' - i+1)*es<=(rows.length - i)*es:=As es hlt
         rw[Ba]at this;omega
        refine⟨u,?_,hmono k2⟩
        rw[hcell,hset,iB U,show 0+i'*es+q - i*es=(i' - i)*es+q by omega,hget _ hlt2,<-hold,<-k1]
        congr 2;omega
       .simp at hi'
def TE.indexV(ho:o.op=.index T x y)(hT:P.underlying T=some (.array len e))(hz:Zl P e=some 1)(hfl:Qcy P e=true)(hx:Qi rd x=some (.agg cells))(hy:Qi rd y=some (.p (.v (.int .i64 ((j:Nat):Int)))))(hj:j<len)(hc:cells[j]?=some c):TE P o ⟨rd,[],c,[],[]⟩:=
 TE.quiet fun Γ ρ M s a w hs hh=>by
  have h1:=Qj hs hh hx
  have h2:=Qj hs hh hy
  simp only[AV.R,PV.R]at h1 h2
  obtain⟨us,hu,hr⟩:=h1
  obtain⟨u,hu1,_,hu3⟩:=hr.get j c hc
  refine⟨u,?_,hu3⟩
  have hpart:(part e us j).run P w=.ok u w:=by
   have:us[j]?=some u:=by simpa using hu1
   simp[part,U8 hfl,this]
  simp[execOp,ho,hu,h2.1,Instr.index,asIntOf,run_underlying hT,run_sizeOf hz,hj,hpart]
end
open Go
section
variable {R:Type} {P:AF} {ty:AD->I TC} {rd:TS} {hs:HS} {K:BEff->I R} {r:R} {o:Oper}
def Does(P:AF)(o:Oper)(rd:TS)(hs:HS)(K:BEff->I R)(r:R):Prop:=∃e,K e=some r/\Good P o rd hs e
def Qv3{x:AC}(ho:o.op=.move x\/o.op=.assign x)(h:bVal rd K x=some r):Does P o rd hs K r:=by
 unfold bVal at h
 split at h
 .rename_i v hv
  exact⟨_,h,.ev fun L _=>ho.elim (fun ho=>TE.move ho (Qg L hv)) (fun ho=>TE.assign ho (Qg L hv))⟩
 .simp at h
def QhD{x:AC}{q:AH}(L:Lens)(h:ZW rd x=some (.b q)):Qi (erT L rd) x=some (.p (.v (.bool q))):=by have:=Qg L h;simpa only[BV.er]using this
def Ze{x:AC}{k:IntKind}{q:Int}(L:Lens)(h:ZW rd x=some (.n k q)):Qi (erT L rd) x=some (.p (.v (.int k q))):=by have:=Qg L h;simpa only[BV.er]using this
def Qfx{x:AC}{q:AJ}(L:Lens)(h:ZW rd x=some (.s q)):Qi (erT L rd) x=some (.p (.v (.string q))):=by have:=Qg L h;simpa only[BV.er]using this
def Qyu{c x y:AC}(ho:o.op=.pick c x y)(h:QAG rd K c x y=some r):Does P o rd hs K r:=by
 unfold QAG at h
 split at h
 .rename_i q u v hc hx hy
  rcases Qik h with⟨rfl,h⟩|⟨rfl,h⟩
  .exact⟨_,h,.ev fun L _=>TE.pickT ho (QhD L hc) (Qg L hx)⟩
  .exact⟨_,h,.ev fun L _=>TE.pickF ho (QhD L hc) (Qg L hy)⟩
 .simp at h
def Qlc{T:AD}{cs:Y BV}(L:Lens)(h:Qvo P T=some cs):Qhs P T=some (erL L cs):=by
 unfold Qvo at h
 unfold Qhs
 split at h
 .split at h
  .split at h
   .rename_i hi _ z hz hall;cases h;simp only[hi,hz,hall,if_true,QqH]
   .simp at h
  .simp at h
 .simp at h
def Good.new{v:BV}{n:Name}{ob:BO}(L':Lens->Lens)(h1:∀L m u,m≠n->L' L m u=L m u)(h2:∀L,Inv L hs->∀t l u,ob=.TI t l u->L' L n u=l.length)(h3:∀L,Inv L hs->TE P o ⟨erT L rd,[],v.er (L' L),[(n,ob.er (L' L))],[n]⟩):
  Good P o rd hs ⟨[],v,[(n,ob)],[n],[]⟩:=
 ⟨fun _ _ hm=>by simp at hm,fun L hL=>⟨L' L,fun m u hm _=>h1 L m u (by simpa using hm),fun m t l u hm=>by
  simp only[BE,BU,X]at hm
  split at hm
  .rename_i e;subst e;cases hm;exact h2 L hL t l u rfl
  .rename_i e;rw[h1 L m u (Ag e)];exact hL m t l u hm,h3 L hL⟩⟩
def Good.newBox{v:BV}{n:Name}{cs:Y BV}(h3:∀L,Inv L hs->TE P o ⟨erT L rd,[],v.er L,[(n,.box (erL L cs))],[n]⟩):Good P o rd hs ⟨[],v,[(n,.box cs)],[n],[]⟩:=
 Good.new (fun L=>L) (fun _ _ _ _=>rfl) (fun _ _ t l u h=>by simp at h) h3
def QvQ{T:AD}(ho:o.op=.alloc T)(h:QvP P K o.dst T=some r):Does P o rd hs K r:=by
 unfold QvP at h
 split at h
 .rename_i d cs hd hz
  exact⟨_,h,.newBox fun L _=>by simp only[BV.er];exact TE.alloc ho (Qlc L hz)⟩
 .simp at h
def QAw{T:AD}{x:AC}(ho:o.op=.box T x)(h:bBox rd K o.dst x=some r):Does P o rd hs K r:=by
 unfold bBox at h
 split at h
 .rename_i d v hd hv
  split at h
  .rename_i cs hc
   exact⟨_,h,.newBox fun L _=>by simp only[BV.er];exact TE.box ho (Qg L hv) (Qfj L hc)⟩
  .simp at h
 .simp at h
def Qpm(L:Lens){pl:Y (Nat×Nat)}:∀{ps:Y (Nat×AC)} {cs cs':Y BV},Qxm rd pl ps cs=some cs'->QaS (erT L rd) pl ps (erL L cs)=some (erL L cs')
 |[],cs,cs',h=>by simp only[Qxm,AP]at h;subst h;simp only[QaS]
 |(i,x)::ps,cs,cs',h=>by
  simp only[Qxm]at h
  split at h
  .rename_i off size y hp hy
   split at h
   .rename_i c hc
    split at h
    .rename_i hb
     simp only[QaS,hp,Qg L hy,Qfj L hc,X0,hb,if_true]
     rw[<-QqI]
     rw[QlT]at h
     have hb':=hb
     simp only[bae]at hb'
     rw[QoZ _ _ _ (by rw[nbe hb'.1];exact Am hb'.2)]at h
     exact Qpm L h
    .simp at h
   .simp at h
  .simp at h
def QvS{T:AD}{parts:Array (Nat×AC)}(ho:o.op=.build T parts)(h:QvR P rd K T parts=some r):Does P o rd hs K r:=by
 unfold QvR at h
 split at h
 .rename_i pl zs h1 h2
  split at h
  .rename_i cells hc
   refine⟨_,h,.ev fun L _=>?_⟩
   simp only[BV.er]
   unfold Qxe at h1
   split at h1
   .rename_i n e hT
    split at h1
    .rename_i es hes
     cases h1
     exact TE.buildArr ho hT hes (Qlc L h2) (Qpm L hc)
    .simp at h1
   .exact TE.build ho h1 (Qlc L h2) (Qpm L hc)
  .simp at h
 .simp at h
def Qpl(L:Lens){cs:Y BV}(h:cs.all BV.isP=true):Qmp (erL L cs)=some (pvL cs):=by
 rw[V9 h]
 have:∀ps:Y PV,Qmp (pcells ps)=some ps:=by
  intro ps
  induction ps with
  |nil=>rfl
  |cons x r ih=>simp only[pcells,AU,Qmp]at ih |-;rw[ih]
 exact this _
def Qvs:∀{a b:Y PV},Wh (pcells a) (pcells b)->CsLe a b
 |[],[],_=>trivial
 |[],_::_,h=>by simp only[pcells,Al,AU]at h;cases h
 |_::_,[],h=>by simp only[pcells,Al,AU]at h;cases h
 |x::xs,y::ys,h=>by
  simp only[pcells,AU]at h
  cases h with
  |cons h1 h2=>
   refine⟨?_,Qvs h2⟩
   cases h1 with
   |refl=>exact PVle.refl _
   |p h=>exact h
def Qor{cs:Y BV}{t:TC}{y:TT t}(h:Le cs (tb t y++[]))(hp:cs.all BV.isP=true):CsLe (pvL cs) (tcells t y):=by
 have:=h.1 (fun _ _=>0)
 rw[An,V9 hp,V9 (QdX t y),Qvh]at this
 exact Qvs this
def Xo.V:∀{a b:Y (Y PV)},a.length=b.length->(∀(i:Nat) (x y:Y PV),a[i]?=some x->b[i]?=some y->CsLe x y)->Xo a b
 |[],[],_,_=>trivial
 |[],_::_,h,_=>by simp at h
 |_::_,[],h,_=>by simp at h
 |x::xs,y::ys,h,h2=>⟨h2 0 x y rfl rfl,Xo.V (by simpa using h) (fun i a b ha hb=>h2 (i+1) a b (by simpa using ha) (by simpa using hb))⟩
def QjW{t:TC}:∀{ps:Y (Nat×AC)} {i len:Nat} {K:Y (TT t)->I R},Qu9 rd t ps i len K=some r->
  ∃l:Y (TT t),K l=some r/\i+l.length=len/\∀(L:Lens) (pre rest:Y (Y PV)),pre.length=i->rest.length=l.length->
   ∃rows,Qdf (erT L rd) (tz t) ps (pre++rest)=some (pre++rows)/\Xo rows (l.map (tcells t))
 |[],i,len,K,h=>by
  simp only[Qu9]at h
  split at h
  .rename_i e
   refine⟨[],h,by simpa using nbe e,fun L pre rest hp hr=>⟨[],?_,trivial⟩⟩
   have:rest=[]:=BP (by simpa using hr)
   subst this;simp only[Qdf]
  .simp at h
 |(j,x)::ps,i,len,K,h=>by
  simp only[Qu9]at h
  split at h
  .rename_i e
   have:=nbe e;subst this
   split at h
   .rename_i v hv
    split at h
    .rename_i cs hc
     split at h
     .rename_i hb
      simp only[bae]at hb
      obtain⟨y,rest0,hle,h⟩:=Qd0 t h
      split at h
      .obtain⟨l,g1,g2,g3⟩:=QjW h
       refine⟨y::l,g1,by simp;omega,fun L pre rest hp hr=>?_⟩
       cases rest with
       |nil=>simp at hr
       |cons z rest=>
        obtain⟨rows,k1,k2⟩:=g3 L (pre++[pvL cs]) rest (by simp[hp]) (by simpa using hr)
        refine⟨pvL cs::rows,?_,Qor hle hb.2,k2⟩
        have hset:(pre++z::rest).set j (pvL cs)=pre++[pvL cs]++rest:=by
         simp_all
        have hlt:Nat.blt j (pre++z::rest).length=true:=by simp[Nat.blt,hp]
        simp only[Qdf,Qg L hv,Qfj L hc,Qpl L hb.2,Qdz,hb.1,hlt,Bool.and_self,if_true,hset]
        rw[k1];simp
      .simp at h
     .simp at h
    .simp at h
   .simp at h
  .simp at h
def Qm7{T:AD}{len:Nat}{parts:Array (Nat×AC)}(ho:o.op=.buildSlice T len parts)(h:Qhv P ty rd K T len parts=some r):Does P o rd hs K r:=by
 unfold Qhv at h
 split at h
 .rename_i e he
  split at h
  .rename_i t es zr h0 h1 h2
   split at h
   .rename_i hb
    simp only[bae]at hb
    obtain⟨l,g1,g2,g3⟩:=QjW h
    refine⟨_,g1,.ev fun L _=>?_⟩
    have hes:=nbe hb.1.1.1
    subst hes
    obtain⟨rows,k1,k2⟩:=g3 L [] (List.replicate len zr) rfl (by rw[Cn];omega)
    simp at k1
    simp only[BV.er]
    exact(TE.buildSlice ho he h1 hb.1.1.2 h2 (nbe hb.1.2) hb.2 k1).vLe (.p (PVle.sl (fun h=>h) k2))
   .simp at h
  .simp at h
 .simp at h
def hp1{n:Name}{ob:BO}(h:X n hs=some ob):∀m ob',(m,ob')∈[(n,ob)]->X m hs=some ob':=fun m ob' hm=>by simp at hm;obtain⟨rfl,rfl⟩:=hm;exact h
def Wi{L:Lens}{n:Name}{t:TC}{l:Y (TT t)}{q u:Nat}(hL:Inv L hs)(h:X n hs=some (.TI t l q))(hu:Nat.beq u q=true):Nat.beq (L n u) (l.map (tcells t)).length=true:=by rw[nbe hu,hL n t l q h,AX];exact B3 _
def Qys{T:AD}{x:AC}(ho:o.op=.load T x)(h:QAB P rd hs K T x=some r):Does P o rd hs K r:=by
 unfold QAB at h
 split at h
 .rename_i n k hx
  split at h
  .rename_i cells hc
   split at h
   .rename_i hT
    split at h
    .rename_i z hz
     split at h
     .rename_i hl
      refine⟨_,h,.val (hp1 hc) fun L _=>?_⟩
      have:=Qg L hx
      simp only[BV.er]at this |-
      exact TE.loadBoxAgg ho this hT hz (by rw[<-Qtp,<-Qtq]) (by rw[X0];exact nbe hl)
     .simp at h
    .simp at h
   .split at h
    .rename_i hT
     split at h
     .rename_i c hck
      refine⟨_,h,.val (hp1 hc) fun L _=>?_⟩
      have:=Qg L hx
      simp only[BV.er]at this
      exact TE.loadBox ho this hT (by rw[QjA,hck];rfl)
     .simp at h
    .simp at h
  .simp at h
 .rename_i cells hx
  split at h
  .rename_i hP
   split at h
   .rename_i hT
    split at h
    .rename_i z hz
     split at h
     .rename_i hl
      refine⟨_,h,.ev fun L _=>?_⟩
      have:=Qg L hx
      simp only[BV.er]at this |-
      have hP':(cells.take z).all BV.isP=true:=AW.2 fun c hc=>AW.1 hP c (Bo hc)
      exact TE.loadPtrAgg ho this hT hz (by rw[<-QtZ]) (by rw[Qdz];exact nbe hl) (by rw[V9 hP'])
     .simp at h
    .simp at h
   .split at h
    .rename_i hT
     split at h
     .rename_i c hck
      refine⟨_,h,.ev fun L _=>?_⟩
      have:=Qg L hx
      simp only[BV.er]at this
      rw[Qwv (AW.1 hP c (CV hck))]
      exact TE.loadPtr ho this hT (by rw[Qxo,hck];rfl)
     .simp at h
    .simp at h
  .simp at h
 .rename_i n u i k hx
  split at h
  case h_2=>simp at h
  .rename_i t l q hc
   split at h
   case isFalse=>simp at h
   rename_i hq
   obtain⟨y,hy,h⟩:=Y5 h
   have hrow:(l.map (tcells t))[i]?=some (tcells t y):=by rw[Bm,hy];rfl
   split at h
   .rename_i hT
    split at h
    .rename_i z hz
     split at h
     .rename_i hl
      refine⟨_,h,.val (hp1 hc) fun L hL=>?_⟩
      have:=Qg L hx
      simp only[BV.er]at this |-
      have hP':(((tb t y).drop k).take z).all BV.isP=true:=AW.2 fun c hc=>AW.1 (QdX t y) c (Bp (Bo hc))
      exact TE.loadElemAgg ho this hT hz (Wi hL hc hq) hrow (by rw[<-Qvh,<-QtY,<-QtZ]) (by rw[Qdz];exact nbe hl) (by rw[V9 hP'])
     .simp at h
    .simp at h
   .split at h
    .rename_i hT
     split at h
     .rename_i c hck
      refine⟨_,h,.val (hp1 hc) fun L hL=>?_⟩
      have:=Qg L hx
      simp only[BV.er]at this
      rw[Qwv (AW.1 (QdX t y) c (CV hck))]
      exact TE.loadElem ho this hT (Wi hL hc hq) hrow (by rw[<-Qvh,Qxo,hck];rfl)
     .simp at h
    .simp at h
 .simp at h
def Good.wrBox{n:Name}{cells cells':Y BV}(hc:X n hs=some (.box cells))(h:∀L,Inv L hs->TE P o ⟨erT L rd,[(n,.box (erL L cells))],.any,[(n,.box (erL L cells'))],[]⟩):Good P o rd hs ⟨[(n,.box cells)],.any,[(n,.box cells')],[],[]⟩:=
 ⟨hp1 hc,fun L hL=>⟨L,fun _ _ _ _=>rfl,fun m t l u hm=>by
  simp only[BE,BU,X]at hm
  split at hm
  .cases hm
  .exact hL m t l u hm,h L hL⟩⟩
def Good.wrArr{n:Name}{t:TC}{l l':Y (TT t)}{q:Nat}(hc:X n hs=some (.TI t l q))(hl:l'.length=l.length)(h:∀L,Inv L hs->TE P o ⟨erT L rd,[(n,.TI (tz t) (l.map (tcells t)))],.any,[(n,.TI (tz t) (l'.map (tcells t)))],[]⟩):Good P o rd hs ⟨[(n,.TI t l q)],.any,[(n,.TI t l' q)],[],[]⟩:=
 ⟨hp1 hc,fun L hL=>⟨L,fun _ _ _ _=>rfl,fun m t' l2 u hm=>by
  simp only[BE,BU,X]at hm
  split at hm
  .rename_i e;subst e;cases hm;rw[hl];exact hL _ t l q hc
  .exact hL m t' l2 u hm,h L hL⟩⟩
def TE.arrLe{rd:Y (Nat×AV)}{hp:Y (Name×AO)}{v:AV}{nw:Y Name}{n:Name}{es:Nat}{rs qs:Y (Y PV)}(h:TE P o ⟨rd,hp,v,[(n,.TI es rs)],nw⟩)(hr:Xo rs qs):TE P o ⟨rd,hp,v,[(n,.TI es qs)],nw⟩:=
 h.outLe (.refl _) fun m=>by
  simp only[X]
  by_cases e:n=m
  .simp only[e,if_true]
   exact⟨fun y hy=>by cases hy;exact⟨_,rfl,.TI hr,.inr (.inr ⟨_,_,_,rfl,rfl⟩)⟩,fun x hx=>⟨_,rfl⟩⟩
  .simp only[e,if_false]
   exact⟨fun y hy=>by simp at hy,fun x hx=>by simp at hx⟩
def Qv2{T:AD}{x y:AC}(ho:o.op=.store T x y)(h:Qv1 P rd hs K o.dst T x y=some r):Does P o rd hs K r:=by
 unfold Qv1 at h
 split at h
 .rename_i n k v hd hx hy
  split at h
  .rename_i cells vs z hc hv hz
   split at h
   .rename_i hb
    simp only[bae]at hb
    rw[QlT,QoZ _ _ _ (Am hb.2)]at h
    refine⟨_,h,.wrBox hc fun L _=>?_⟩
    have h1:=Qg L hx
    simp only[BV.er]at h1
    exact TE.storeBox hd ho h1 (Qg L hy) (Qfj L hv) (by rw[X0,hz,nbe hb.1]) (by rw[X0,X0];exact hb.2) (by rw[QqI])
   .simp at h
  .simp at h
 .rename_i n u i k v hd hx hy
  split at h
  .rename_i t l q vs z hc hv hz
   split at h
   case isFalse=>simp at h
   rename_i hq
   obtain⟨y0,hy0,h⟩:=Y5 h
   split at h
   .rename_i hb
    simp only[bae]at hb
    rw[QoZ _ _ _ (Am hb.1.2)]at h
    obtain⟨y',rest,hle,h⟩:=Qd0 t h
    split at h
    .refine⟨_,h,.wrArr hc Ob fun L hL=>?_⟩
     have h1:=Qg L hx
     simp only[BV.er]at h1
     have hrow:(l.map (tcells t))[i]?=some (tcells t y0):=by rw[Bm,hy0];rfl
     have hP:(Qz (tb t y0) k vs).all BV.isP=true:=by
      refine AW.2 fun c hc=>?_
      simp only[Qz,Af]at hc
      rcases hc with(hc|hc)|hc
      .exact AW.1 (QdX t y0) c (Bo hc)
      .simp_all
      .exact AW.1 (QdX t y0) c (Bp hc)
     refine TE.arrLe (TE.storeElem hd ho h1 (Qg L hy) (Qfj L hv) (Qpl L hb.2) (Wi hL hc hq) hrow (by rw[X0,hz,nbe hb.1.1])
      (by rw[X0,<-Qvh,Qdz];exact hb.1.2) (row':=pvL (Qz (tb t y0) k vs)) (by rw[Qxp,Qvh]) rfl) ?_
     have hcs:=Qor hle hP
     refine Xo.V Ob (fun j a b ha hb=>?_)
     rw[CA]at ha
     rw[Bm,CA]at hb
     split at ha
     .simp_all
     .rename_i e
      rw[iA e]at hb
      rw[Bm]at ha
      rw[ha]at hb;cases hb
      exact CsLe.refl _
    .simp at h
   .simp at h
  .simp at h
 .simp at h
def Qox{zI:AD}{x:AC}{i:Nat}(ho:o.op=.fieldAddr zI x i)(h:Qju P rd hs K zI x i=some r):Does P o rd hs K r:=by
 unfold Qju at h
 split at h
 .rename_i n k fo hx hf
  split at h
  .rename_i cells hc
   refine⟨_,h,.val (hp1 hc) fun L _=>?_⟩
   have:=Qg L hx
   simp only[BV.er]at this |-
   exact TE.fieldRef ho this hf rfl
  .simp at h
 .rename_i cells fo hx hf
  refine⟨_,h,.ev fun L _=>?_⟩
  have:=Qg L hx
  simp only[BV.er]at this |-
  exact TE.fieldPtr ho this hf (by rw[QtY])
 .rename_i n u j k fo hx hf
  split at h
  .rename_i t l q hc
   split at h
   case isFalse=>simp at h
   rename_i hq
   refine⟨_,h,.val (hp1 hc) fun L hL=>?_⟩
   have:=Qg L hx
   simp only[BV.er]at this |-
   exact TE.fieldElem ho this hf rfl (Wi hL hc hq)
  .simp at h
 .simp at h
def Qqj{x:AC}(ho:o.op=.nilCheck x)(h:Qln rd hs K x=some r):Does P o rd hs K r:=by
 unfold Qln at h
 split at h
 .rename_i n k hx
  split at h
  .rename_i cells hc
   refine⟨_,h,.val (hp1 hc) fun L _=>?_⟩
   have:=Qg L hx
   simp only[BV.er]at this |-
   exact TE.nilCheckRef ho this
  .simp at h
 .rename_i cells hx
  refine⟨_,h,.ev fun L _=>?_⟩
  have:=Qg L hx
  simp only[BV.er]at this |-
  exact TE.nilCheckPtr ho this
 .rename_i n u j k hx
  split at h
  .rename_i t l q hc
   split at h
   case isFalse=>simp at h
   rename_i hq
   refine⟨_,h,.val (hp1 hc) fun L hL=>?_⟩
   have:=Qg L hx
   simp only[BV.er]at this |-
   exact TE.nilCheckElem ho this (Wi hL hc hq)
  .simp at h
 .simp at h
def QAv{op:BinOp}{T T':AD}{x y:AC}(ho:o.op=.binOp op T x y T')(h:bBin P rd K op T x y=some r):Does P o rd hs K r:=by
 unfold bBin at h
 split at h
 .rename_i k a k' b hx hy
  split at h
  .rename_i hk
   have:=QeT hk;subst this
   cases op<;>simp only[binI,reduceCtorEq]at h
   all_goals first
    |(obtain⟨hb,h⟩:=Qze h;refine⟨_,h,.ev fun L _=>?_⟩;simp only[BV.er];first|exact TE.quo ho (Ze L hx) (Ze L hy) hb rfl|exact TE.rem ho (Ze L hx) (Ze L hy) hb rfl)
    |(obtain⟨i,hi,h⟩:=Qa1 h;refine⟨_,h,.ev fun L _=>?_⟩;simp only[BV.er];exact TE.shr ho (Ze L hx) (Ze L hy) hi)
    |(refine⟨_,h,.ev fun L _=>?_⟩;simp only[BV.er];first
      |exact TE.add ho (Ze L hx) (Ze L hy) rfl|exact TE.sub ho (Ze L hx) (Ze L hy) rfl|exact TE.mul ho (Ze L hx) (Ze L hy) rfl
      |exact TE.lss ho (Ze L hx) (Ze L hy) rfl|exact TE.leq ho (Ze L hx) (Ze L hy) rfl|exact TE.gtr ho (Ze L hx) (Ze L hy) rfl
      |exact TE.geq ho (Ze L hx) (Ze L hy) rfl|exact TE.eqlI ho (Ze L hx) (Ze L hy) rfl|exact TE.neqI ho (Ze L hx) (Ze L hy) rfl)
  .simp at h
 .rename_i a b hx hy
  cases op<;>simp only[binS,reduceCtorEq]at h
  all_goals first
   |(obtain⟨hb,h⟩:=ZY h;refine⟨_,h,.ev fun L _=>?_⟩;simp only[BV.er];exact TE.addS ho (Qfx L hx) (Qfx L hy) hb rfl)
   |(refine⟨_,h,.ev fun L _=>?_⟩;simp only[BV.er];first|exact TE.eqlS ho (Qfx L hx) (Qfx L hy) rfl|exact TE.neqS ho (Qfx L hx) (Qfx L hy) rfl)
 .rename_i a b hx hy
  unfold binB at h
  split at h
  .rename_i hT
   have hT':P.underlying T=some .bool:=by
    unfold QCf at hT
    grind
   cases op<;>simp only[reduceCtorEq]at h
   all_goals (refine⟨_,h,.ev fun L _=>?_⟩;simp only[BV.er];first|exact TE.eqlB ho hT' (QhD L hx) (QhD L hy) rfl|exact TE.neqB ho hT' (QhD L hx) (QhD L hy) rfl)
  .simp at h
 .simp at h
def QCd{op:UnOp}{T:AD}{x:AC}(ho:o.op=.unOp op T x)(h:bUn rd K op x=some r):Does P o rd hs K r:=by
 unfold bUn at h
 split at h
 .rename_i b hx
  refine⟨_,h,.ev fun L _=>?_⟩
  simp only[BV.er];exact TE.not ho (QhD L hx) rfl
 .rename_i k a hx
  refine⟨_,h,.ev fun L _=>?_⟩
  simp only[BV.er];exact TE.neg ho (Ze L hx) rfl
 .simp at h
def QvY{T:AD}{x:AC}{i:Nat}(ho:o.op=.field T x i)(h:QvX P rd K T x i=some r):Does P o rd hs K r:=by
 unfold QvX at h
 split at h
 .rename_i cells fs hx hu
  split at h
  .rename_i f hf
   split at h
   .rename_i hT
    split at h
    .rename_i z hz
     refine⟨_,h,.ev fun L _=>?_⟩
     have:=Qg L hx
     simp only[BV.er]at this |-
     exact TE.fieldAgg (off:=0) (T':=0) ho this hu hf hT hz (by rw[Qtq,Qtp])
    .simp at h
   .split at h
    .rename_i hT
     split at h
     .rename_i c hck
      refine⟨_,h,.ev fun L _=>?_⟩
      have:=Qg L hx
      simp only[BV.er]at this
      exact TE.field ho this hu hf hT (by rw[QjA,hck];rfl)
     .simp at h
    .simp at h
  .simp at h
 .simp at h
def Qr5{x:AC}{i:Nat}(ho:o.op=.extract x i)(h:Qow rd K x i=some r):Does P o rd hs K r:=by
 unfold Qow at h
 split at h
 .rename_i vs hx
  split at h
  .rename_i v hv
   refine⟨_,h,.ev fun L _=>?_⟩
   have:=Qg L hx
   simp only[BV.er]at this
   exact TE.extract ho this (by rw[QjA,hv];rfl)
  .simp at h
 .simp at h
def Qoy{T:AD}{x y:AC}(ho:o.op=.indexAddr T x y)(h:Qjv P rd hs K T x y=some r):Does P o rd hs K r:=by
 unfold Qjv at h
 split at h
 .rename_i f t l k j e hx hy he
  split at h
  .rename_i es hz
   split at h
   .rename_i hb
    have:=nbe hb;subst this
    obtain⟨i,z,hj,hi,h⟩:=Qym h
    refine⟨_,h,.ev fun L _=>?_⟩
    have h1:=Qg L hx
    simp only[BV.er]at h1 |-
    rw[Qvh]
    exact TE.indexP ho he hz h1 (Ze L hy) hj (by rw[Bm,hi];rfl)
   .simp at h
  .simp at h
 .rename_i n u k j e hx hy he
  split at h
  .rename_i t l q es hc hz
   split at h
   .rename_i hb
    simp only[bae]at hb
    have:=nbe hb.1;subst this
    obtain⟨i,hj,h⟩:=Qa1 h
    obtain⟨hlt,h⟩:=QiD h
    refine⟨_,h,.val (hp1 hc) fun L hL=>?_⟩
    have h1:=Qg L hx
    simp only[BV.er]at h1 |-
    exact TE.indexOwn ho he hz h1 (Wi hL hc hb.2) (Ze L hy) hj (by rw[AX];exact hlt)
   .simp at h
  .simp at h
 .rename_i n u lo hi k j e hx hy he
  split at h
  .rename_i t l q es hc hz
   split at h
   .rename_i hb
    simp only[bae]at hb
    have:=nbe hb.1;subst this
    obtain⟨i,hj,h⟩:=Qa1 h
    obtain⟨hlt,h⟩:=QiD h
    refine⟨_,h,.val (hp1 hc) fun L hL=>?_⟩
    have h1:=Qg L hx
    simp only[BV.er]at h1 |-
    exact TE.indexView ho he hz h1 (Wi hL hc hb.2) (Ze L hy) hj hlt
   .simp at h
  .simp at h
 .simp at h
def QAA{T:AD}{x:AC}{ats:Array AD}(ho:o.op=.call { callee:=.builtin .len,args:=#[x],argTypes:=ats })(hat:ats[0]?=some T)(h:bLen P rd hs K T x=some r):Does P o rd hs K r:=by
 unfold bLen at h
 split at h
 .rename_i f t l hx
  split at h
  .rename_i e he
   refine⟨_,h,.ev fun L _=>?_⟩
   have h1:=Qg L hx
   simp only[BV.er]at h1 |-
   exact TE.lenP ho hat he h1 (by rw[AX])
  .simp at h
 .rename_i hx
  split at h
  .rename_i e he
   refine⟨_,h,.ev fun L _=>?_⟩
   have h1:=Qg L hx
   simp only[BV.er]at h1 |-
   exact TE.lenP ho hat he h1 rfl
  .simp at h
 .rename_i n u hx
  split at h
  .rename_i t l q e hc he
   split at h
   case isFalse=>simp at h
   rename_i hq
   refine⟨_,h,.val (hp1 hc) fun L hL=>?_⟩
   have h1:=Qg L hx
   simp only[BV.er]at h1 |-
   exact TE.lenOwn ho hat he h1 (Wi hL hc hq) (by rw[AX])
  .simp at h
 .rename_i n u lo hi hx
  split at h
  .rename_i t l q e hc he
   split at h
   case isFalse=>simp at h
   rename_i hq
   refine⟨_,h,.val (hp1 hc) fun L hL=>?_⟩
   have h1:=Qg L hx
   simp only[BV.er]at h1 |-
   exact TE.lenView ho hat he h1 (Wi hL hc hq)
  .simp at h
 .rename_i t hx
  split at h
  .rename_i hT
   refine⟨_,h,.ev fun L _=>?_⟩
   simp only[BV.er]
   exact TE.lenS ho hat hT (Qfx L hx)
  .simp at h
 .simp at h
end
end Go.Proofs.YtlllfgmajglnhaaGreat.AM
set_option linter.unusedSectionVars false
namespace Go.Proofs.YtlllfgmajglnhaaGreat.AM
open Go
mutual
def AV.ren(σ:Name->Name):AV->AV
 |.p x=>.p x
 |.agg cs=>.agg (renL σ cs)
 |.TM n o=>.TM (σ n) o
 |.own n l=>.own (σ n) l
 |.aref n l i o=>.aref (σ n) l i o
 |.view n l i o=>.view (σ n) l i o
 |.cut n l k=>.cut (σ n) l k
 |.eptr c=>.eptr c
 |.tup vs=>.tup (renL σ vs)
 |.clo f a c=>.clo f (renL σ a) (renL σ c)
 |.oref m n=>.oref m (σ n)
 |.err b=>.err b
 |.ub=>.ub
 |.any=>.any
def renL(σ:Name->Name):Y AV->Y AV
 |[]=>[]
 |x::r=>x.ren σ::renL σ r
end
def QpK(σ):∀l:Y AV,renL σ l=l.map (AV.ren σ)
 |[]=>by simp only[renL,Al]
 |x::r=>by simp only[renL,AU,QpK σ r]
def AO.ren(σ:Name->Name):AO->AO
 |.box cs=>.box (renL σ cs)
 |.TI es rows=>.TI es rows
 |.hole es pre row post=>.hole es pre (renL σ row) post
 |.fact a x=>.fact (a.ren σ) x
 |.obj x=>.obj x
def renH(σ:Name->Name)(h:Y (Name×AO)):Y (Name×AO):=h.map fun p=>(σ p.1,p.2.ren σ)
section
variable {σ:Name->Name} (hσ:∀a b,σ a=σ b->a=b)
include hσ
theorem Y4(n):∀h:Y (Name×AO),X (σ n) (renH σ h)=(X n h).map (AO.ren σ)
 |[]=>rfl
 |(k,o)::r=>by
  show X (σ n) ((σ k,o.ren σ)::renH σ r)=(X n ((k,o)::r)).map (AO.ren σ)
  simp only[X]
  by_cases e:k=n
  .simp[e]
  .rw[iA (fun h=>e (hσ _ _ h)),iA e];exact Y4 n r
omit hσ in
theorem UM:∀{h:Y (Name×AO)},X m (renH σ h)=some o->∃n,σ n=m
 |[],h=>by simp[renH,X]at h
 |(k,x)::r,h=>by
  change X m ((σ k,x.ren σ)::renH σ r)=some o at h
  simp only[X]at h
  split at h
  .exact⟨k,by assumption⟩
  .exact UM h
omit hσ in
theorem Qba(o:AO):(o.ren σ).shape=o.shape:=by cases o<;>rfl
variable {ρ:Name->Loc} {H H':Heap} {M:Nat->Prop} {w:AG}
mutual
theorem Qzo(hH:∀n,H' (σ n)=(H n).map (AO.ren σ)):∀(x:AV) (u:AE),(x.ren σ).R ρ H' M w u↔x.R (fun n=>ρ (σ n)) H M w u
 |.p x,u=>by simp only[AV.ren,AV.R]
 |.agg cs,u=>by simp only[AV.ren,AV.R,Qn9 hH cs]
 |.TM n o,u=>by
  simp only[AV.ren,AV.R,hH]
  refine B4 fun _=>⟨fun h cells hc=>h (renL σ cells) (by rw[hc];rfl),fun h cells hc=>?_⟩
  cases hn:H n with
  |none=>rw[hn]at hc;simp at hc
  |some ob=>
   cases ob with
   |box cs=>exact h cs hn
   |_=>rw[hn]at hc;simp[AO.ren]at hc
 |.own n l,u=>by
  simp only[AV.ren,AV.R,hH]
  refine B4 fun _=>⟨fun h o es k ho hs=>h (o.ren σ) es k (by rw[ho];rfl) (by rw[Qba];exact hs),fun h o es k ho hs=>?_⟩
  cases hn:H n with
  |none=>rw[hn]at ho;simp at ho
  |some ob=>rw[hn]at ho;simp only[Aa,AP]at ho;subst ho;rw[Qba]at hs;exact h ob es k hn hs
 |.aref n l i o,u=>by
  simp only[AV.ren,AV.R,hH]
  refine B4 fun _=>⟨fun h o es k ho hs=>h (o.ren σ) es k (by rw[ho];rfl) (by rw[Qba];exact hs),fun h o es k ho hs=>?_⟩
  cases hn:H n with
  |none=>rw[hn]at ho;simp at ho
  |some ob=>rw[hn]at ho;simp only[Aa,AP]at ho;subst ho;rw[Qba]at hs;exact h ob es k hn hs
 |.view n l i o,u=>by
  simp only[AV.ren,AV.R,hH]
  refine B4 fun _=>B4 fun _=>B4 fun _=>⟨fun h o es k ho hs=>h (o.ren σ) es k (by rw[ho];rfl) (by rw[Qba];exact hs),fun h o es k ho hs=>?_⟩
  cases hn:H n with
  |none=>rw[hn]at ho;simp at ho
  |some ob=>rw[hn]at ho;simp only[Aa,AP]at ho;subst ho;rw[Qba]at hs;exact h ob es k hn hs
 |.cut n l i,u=>by
  simp only[AV.ren,AV.R,hH]
  refine B4 fun _=>B4 fun _=>⟨fun h o es k ho hs=>h (o.ren σ) es k (by rw[ho];rfl) (by rw[Qba];exact hs),fun h o es k ho hs=>?_⟩
  cases hn:H n with
  |none=>rw[hn]at ho;simp at ho
  |some ob=>rw[hn]at ho;simp only[Aa,AP]at ho;subst ho;rw[Qba]at hs;exact h ob es k hn hs
 |.eptr c,u=>by simp only[AV.ren,AV.R]
 |.tup vs,u=>by simp only[AV.ren,AV.R,QxB hH vs]
 |.clo f a c,u=>by simp only[AV.ren,AV.R,Qn9 hH a,Qn9 hH c]
 |.oref m n,u=>by
  simp only[AV.ren,AV.R,hH]
  refine B4 fun _=>⟨fun h x hx=>h x (by rw[hx];rfl),fun h x hx=>?_⟩
  cases hn:H n with
  |none=>rw[hn]at hx;simp at hx
  |some ob=>
   cases ob with
   |obj y=>rw[hn]at hx;simp only[Aa,AO.ren,AP,AO.obj.injEq]at hx;subst hx;exact h y hn
   |_=>rw[hn]at hx;simp[AO.ren]at hx
 |.err b,u=>by simp only[AV.ren,AV.R]
 |.ub,u=>by simp only[AV.ren,AV.R]
 |.any,u=>by simp only[AV.ren,AV.R]
theorem Qn9(hH:∀n,H' (σ n)=(H n).map (AO.ren σ)):∀(xs:Y AV) (us:Y AE),AV.Rs ρ H' M w (renL σ xs) us↔AV.Rs (fun n=>ρ (σ n)) H M w xs us
 |[],us=>by simp only[renL,AV.Rs]
 |x::r,us=>by simp only[renL,AV.Rs,Qzo hH x,Qn9 hH r]
theorem QxB(hH:∀n,H' (σ n)=(H n).map (AO.ren σ)):∀(xs:Y AV) (us:Y AE),AV.Ts ρ H' M w (renL σ xs) us↔AV.Ts (fun n=>ρ (σ n)) H M w xs us
 |[],us=>by simp only[renL,AV.Ts]
 |x::r,us=>by simp only[renL,AV.Ts,Qzo hH x,QxB hH r]
end
omit hσ in
theorem QsR(l):(renL σ l).length=l.length:=by simp[QpK]
theorem QxA(hH:∀n,H' (σ n)=(H n).map (AO.ren σ))(n)(o):Qah ρ H' M w (σ n) (o.ren σ)↔Qah (fun n=>ρ (σ n)) H M w n o:=by
 cases o with
 |box cs=>simp only[AO.ren,Qah,Qn9 hσ hH]
 |TI es rows=>simp only[AO.ren,Qah]
 |hole es pre row post=>simp only[AO.ren,Qah,Qn9 hσ hH,QsR]
 |fact a x=>simp only[AO.ren,Qah,Qzo hσ hH]
 |obj x=>simp only[AO.ren,Qah]
theorem QxQ:stays (o.ren σ) l (some (o'.ren σ)) l'↔stays o l (some o') l':=by
 cases o<;>cases o'<;>simp only[AO.ren,stays]
theorem Spec.ren(hs:WT P f args pre v h):WT P f (renL σ args) (renH σ pre) (v.ren σ) (renH σ h):=by
 intro G ρ M w us hG hM hargs hobjs hinj
 have hH:∀n,X2 (renH σ pre) (σ n)=(X2 pre n).map (AO.ren σ):=fun n=>Y4 hσ n pre
 have hex:∀b,(∃n o,X n pre=some o/\(ρ (σ n)).blk=some b)↔(∃n o,X n (renH σ pre)=some o/\(ρ n).blk=some b):=fun b=>by
  constructor
  .rintro⟨n,o,h1,h2⟩;exact⟨σ n,o.ren σ,by rw[Y4 hσ,h1];rfl,h2⟩
  .rintro⟨m,o,h1,h2⟩
   obtain⟨n,rfl⟩:=UM h1
   rw[Y4 hσ]at h1
   cases hn:X n pre with
   |none=>rw[hn]at h1;simp at h1
   |some ob=>exact⟨n,ob,hn,h2⟩
 have hB:(fun b=>∃n o,X n pre=some o/\(ρ (σ n)).blk=some b)=(fun b=>∃n o,X n (renH σ pre)=some o/\(ρ n).blk=some b):=by funext b;exact propext (hex b)
 refine(hs G (fun n=>ρ (σ n)) M w us ?_ hM ((QxB hσ hH args us).1 hargs) (fun n o hn=>?_) (fun n m o o' b h1 h2 h3 h4=>?_)).mono ?_
 .grind
 .exact(QxA hσ hH n o).1 (hobjs (σ n) (o.ren σ) (by rw[Y4 hσ,hn];rfl))
 .exact hσ _ _ (hinj (σ n) (σ m) (o.ren σ) (o'.ren σ) b (by rw[Y4 hσ,h1];rfl) (by rw[Y4 hσ,h2];rfl) h3 h4)
 .rintro e w' ⟨u,v',h',ρ',rfl,⟨rfl,rfl⟩,ha⟩
  classical
  let ρ2:Name->Loc:=fun m=>if hm:∃n,σ n=m then ρ' (Classical.choose hm)else ρ m
  have h2:∀n,ρ2 (σ n)=ρ' n:=fun n=>by
   have hm:∃k,σ k=σ n:=⟨n,rfl⟩
   grind
  have h2':(fun n=>ρ2 (σ n))=ρ':=funext h2
  have hH':∀n,X2 (renH σ h') (σ n)=(X2 h' n).map (AO.ren σ):=fun n=>Y4 hσ n h'
  have hM':newM M ρ2 (renH σ h')=newM M ρ' h':=by
   funext b
   refine propext (or_congr_right ⟨?_,?_⟩)
   .rintro⟨m,o,g1,g2⟩
    obtain⟨n,rfl⟩:=UM g1
    rw[Y4 hσ]at g1
    cases hn:X n h' with
    |none=>rw[hn]at g1;simp at g1
    |some ob=>exact⟨n,ob,hn,by rw[<-h2];exact g2⟩
   .rintro⟨n,o,g1,g2⟩;exact⟨σ n,o.ren σ,by rw[Y4 hσ,g1];rfl,by rw[h2];exact g2⟩
  have hback:∀{m o} {l:Y (Name×AO)},X m (renH σ l)=some o->∃n ob,m=σ n/\X n l=some ob/\o=ob.ren σ:=fun{m o l} g1=>by
   obtain⟨n,rfl⟩:=UM g1
   rw[Y4 hσ]at g1
   cases hn:X n l with
   |none=>rw[hn]at g1;simp at g1
   |some ob=>rw[hn]at g1;exact⟨n,ob,rfl,hn,by simpa using g1.symm⟩
  refine⟨u,v'.ren σ,renH σ h',ρ2,rfl,⟨rfl,rfl⟩,?_,?_,?_,?_,?_,?_⟩
  .rw[hM',Qzo hσ hH',h2'];exact ha.val
  .intro m o hm
   obtain⟨n,ob,rfl,hn,rfl⟩:=hback hm
   rw[hM',QxA hσ hH',h2'];exact ha.objs n ob hn
  .intro m m' o o' b g1 g2 g3 g4
   obtain⟨n,ob,rfl,hn,rfl⟩:=hback g1
   obtain⟨n',ob',rfl,hn',rfl⟩:=hback g2
   rw[h2]at g3 g4
   rw[ha.inj n n' ob ob' b hn hn' g3 g4]
  .intro m o b g1 g2
   obtain⟨n,ob,rfl,hn,rfl⟩:=hback g1
   rw[h2]at g2
   rcases ha.own n ob b hn g2 with⟨o',k1,k2⟩|k
   .exact .inl ⟨o'.ren σ,by rw[Y4 hσ,k1];rfl,k2⟩
   .exact .inr k
  .have:=ha.ext
   rw[<-hB];exact this
  .intro m o hm
   obtain⟨n,ob,rfl,hn,rfl⟩:=hback hm
   obtain⟨o',k1,k2⟩:=ha.keep n ob hn
   exact⟨o'.ren σ,by rw[Y4 hσ,k1];rfl,by rw[h2];exact(QxQ hσ).2 k2⟩
end
def Spec.preLe(hs:Spec P f args pre post)(h1:∀n o,X n pre=some o->∃o',X n pre'=some o'/\(o'=o\/∃cs ds,o'=.box cs/\o=.box ds/\Wh cs ds))(h2:∀n o',X n pre'=some o'->∃o,X n pre=some o):Spec P f args pre' post:=by
 intro G ρ M w us hG hM hargs hobjs hinj
 have hB:(fun b=>∃n o,X n pre=some o/\(ρ n).blk=some b)=(fun b=>∃n o,X n pre'=some o/\(ρ n).blk=some b):=by
  grind
 have hst:Qdk ρ (X2 pre') ρ (X2 pre):=fun n o' hn=>by
  obtain⟨o,ho⟩:=h2 n o' hn
  obtain⟨o2,ho2,hle⟩:=h1 n o ho
  change X n pre'=some o' at hn
  rw[hn]at ho2;cases ho2
  change stays o' (ρ n) (X n pre) (ρ n)
  rw[ho]
  rcases hle with rfl|⟨cs,ds,rfl,rfl,_⟩
  .exact Zj _ _
  .rfl
 have hnn:∀n,X2 pre' n=none->X2 pre n=none:=fun n hn=>by
  cases hc:X2 pre n with
  |none=>rfl
  |some o=>
   obtain⟨o',ho',_⟩:=h1 n o hc
   change X n pre'=none at hn
   simp_all
 have hconvs:∀{xs:Y AV} {us:Y AE},AV.Rs ρ (X2 pre') M w xs us->AV.Rs ρ (X2 pre) M w xs us:=fun hr=>
  hr.step (Ext.refl (fun _=>False) _) (fun _ hb=>hb.elim) (fun b _ hb=>hb) hst (fun n _=>hnn n)
 refine(hs G ρ M w us (by rw[hB];exact hG) hM (hargs.step (Ext.refl (fun _=>False) _) (fun _ hb=>hb.elim) (fun b _ hb=>hb) hst (fun n _=>hnn n)) (fun n o hn=>?_)
  (fun n m o o' b g1 g2=>by obtain⟨p,k1,_⟩:=h1 n o g1;obtain⟨q,k2,_⟩:=h1 m o' g2;exact hinj n m p q b k1 k2)).mono ?_
 .obtain⟨o',ho',hle⟩:=h1 n o hn
  have hobj:=hobjs n o' ho'
  rcases hle with rfl|⟨cs,ds,rfl,rfl,hle⟩
  .exact hobj.step (Ext.refl (fun _=>False) _) (fun _ hb=>hb.elim) (fun b _ hb=>hb) (fun b hb=>hb) hst (fun m _=>hnn m) rfl (fun _ _=>rfl) hM
  .obtain⟨b,T,us',k1,k2,k3,k4⟩:=hobj
   exact⟨b,T,us',k1,k2,k3,Qvv hle _ (hconvs k4)⟩
 .rintro e w' ⟨u,v,h,ρ',rfl,hp,ha⟩
  refine⟨u,v,h,ρ',rfl,hp,ha.val,ha.objs,ha.inj,fun n o b g1 g2=>?_,by rw[<-hB];exact ha.ext,fun n o hn=>?_⟩
  .exact(ha.own n o b g1 g2).imp (fun⟨o',k1,k2⟩=>by obtain⟨o2,k3,_⟩:=h1 n o' k1;exact⟨o2,k3,k2⟩) id
  .obtain⟨o1,k1⟩:=h2 n o hn
   obtain⟨o2,k2,k3⟩:=ha.keep n o1 k1
   refine⟨o2,k2,?_⟩
   obtain⟨o3,k4,hle⟩:=h1 n o1 k1
   rw[hn]at k4;cases k4
   rcases hle with rfl|⟨cs,ds,rfl,rfl,_⟩
   .exact k3
   .cases o2<;>simp only[stays]at k3|-<;>exact k3
abbrev Ren:=Y (Name×(Name×Nat))
inductive Sh where
 |TZ (k:IntKind)
 |Tc
 |TY
 |TQ (t:TC)
 |nul
 |TM (nm:Name)
 |own (nm:Name)
 |view (nm:Name)
 |clo (f:Nat) (caps:List Name)
 |fv (f:Nat)
 |mref (nm:Name)
inductive SSh where
 |one (s:Sh)
 |st (t:TC)
 |agg (l:List Sh)
inductive OSh where
 |box (l:List Sh)
 |TV (t:TC)
 |TI (t:TC)
 |arrs (t:TC)
 |sm
def Sh.prod:Sh->Type->Type
 |.TZ _,zF=>Int×zF
 |.Tc,zF=>AH×zF
 |.TY,zF=>AJ×zF
 |.TQ t,zF=>Y (TT t)×zF
 |.nul,zF=>zF
 |.TM _,zF=>zF
 |.own _,zF=>zF
 |.view _,zF=>Nat×Nat×zF
 |.clo _ _,zF=>zF
 |.fv _,zF=>zF
 |.mref _,zF=>zF
def TL:Y Sh->Type
 |[]=>Unit
 |s::r=>s.prod (TL r)
def Sh.put(ver:Nat):(s:Sh)->(zF:Type)->s.prod zF->BV×zF
 |.TZ k,_,x=>(.n k x.1,x.2)
 |.Tc,_,x=>(.b x.1,x.2)
 |.TY,_,x=>(.s x.1,x.2)
 |.TQ t,_,x=>(.ts false t x.1,x.2)
 |.nul,_,x=>(.nil,x)
 |.TM nm,_,x=>(.TM nm 0,x)
 |.own nm,_,x=>(.own nm ver,x)
 |.view nm,_,x=>(.view nm ver x.1 x.2.1,x.2.2)
 |.clo f caps,_,x=>(.clo (.func f) (caps.map fun n=>.TM n 0),x)
 |.fv f,_,x=>(.v (.func (.func f) #[] #[]),x)
 |.mref nm,_,x=>(.mref nm,x)
def TL.put(ver:Nat):(l:Y Sh)->TL l->Y BV
 |[],_=>[]
 |s::r,x=>(s.put ver _ x).1::TL.put ver r (s.put ver _ x).2
def SSh.prod:SSh->Type->Type
 |.one s,zF=>s.prod zF
 |.st t,zF=>TT t×zF
 |.agg l,zF=>TL l×zF
def SSh.put(ver:Nat):(s:SSh)->(zF:Type)->s.prod zF->BV×zF
 |.one s,zF,x=>s.put ver zF x
 |.st t,_,x=>(.agg (tb t x.1),x.2)
 |.agg l,_,x=>(.agg (TL.put ver l x.1),x.2)
def SL:Y SSh->Type
 |[]=>Unit
 |s::r=>s.prod (SL r)
def SL.put(ver:Nat):(l:Y SSh)->SL l->Y BV
 |[],_=>[]
 |s::r,x=>(s.put ver _ x).1::SL.put ver r (s.put ver _ x).2
def OSh.T:OSh->Type
 |.box l=>TL l
 |.TV t=>TT t
 |.TI t=>Y (TT t)
 |.arrs t=>Y (TT t)
 |.sm=>Y (AJ×AH)
def OSh.put(ver:Nat):(o:OSh)->o.T->BO
 |.box l,x=>.box (TL.put ver l x)
 |.TV t,x=>.box (tb t x)
 |.TI t,x=>.TI t x ver
 |.arrs t,x=>.TI t x 0
 |.sm,x=>.sm x
def OL:Y (Name×OSh)->Type
 |[]=>Unit
 |p::r=>p.2.T×OL r
def OL.put(ver:Nat):(l:Y (Name×OSh))->OL l->HS
 |[],_=>[]
 |p::r,x=>(p.1,p.2.put ver x.1)::OL.put ver r x.2
def STL:Y (Nat×SSh)->Type
 |[]=>Unit
 |p::r=>p.2.prod (STL r)
def STL.put(ver:Nat):(l:Y (Nat×SSh))->STL l->TS
 |[],_=>[]
 |p::r,x=>(p.1,(p.2.put ver _ x).1)::STL.put ver r (p.2.put ver _ x).2
section
def Qhx:Y Name->Y BV->Ren->(Ren->I R)->I R
 |[],[],σ,K=>K σ
 |nm::q,.TM m off::vs,σ,K=>if Nat.beq off 0 then Qhx q vs ((nm,(m,0))::σ) K else none
 |_,_,_,_=>none
def Sh.get:(s:Sh)->BV->Ren->(Ren->((zF:Type)->zF->s.prod zF)->I R)->I R
 |.TZ k,.n k' x,σ,K=>if kEq k k' then K σ (fun _ y=>(x,y))else none
 |.Tc,.b x,σ,K=>K σ (fun _ y=>(x,y))
 |.TY,.s x,σ,K=>K σ (fun _ y=>(x,y))
 |.TQ t,.ts _ t' l,σ,K=>if h:t'=t then K σ (fun _ y=>(Qqn h l,y))else none
 |.TQ t,.nil,σ,K=>K σ (fun _ y=>([],y))
 |.nul,.nil,σ,K=>K σ (fun _ y=>y)
 |.TM nm,.TM m off,σ,K=>if Nat.beq off 0 then K ((nm,(m,0))::σ) (fun _ y=>y)else none
 |.own nm,.own m u,σ,K=>K ((nm,(m,u))::σ) (fun _ y=>y)
 |.view nm,.view m u lo hi,σ,K=>K ((nm,(m,u))::σ) (fun _ y=>(lo,hi,y))
 |.clo f caps,.clo (.func f') cs,σ,K=>if Nat.beq f f' then Qhx caps cs σ fun σ=>K σ (fun _ y=>y)else none
 |.fv f,.v (.func (.func f') ⟨[]⟩ ⟨[]⟩),σ,K=>if Nat.beq f f' then K σ (fun _ y=>y)else none
 |.mref nm,.mref m,σ,K=>K ((nm,(m,0))::σ) (fun _ y=>y)
 |_,_,_,_=>none
def TL.get:(l:Y Sh)->Y BV->Ren->(Ren->TL l->I R)->I R
 |[],[],σ,K=>K σ ()
 |s::r,v::vs,σ,K=>s.get v σ fun σ f=>TL.get r vs σ fun σ x=>K σ (f _ x)
 |_,_,_,_=>none
def SSh.get:(s:SSh)->BV->Ren->(Ren->((zF:Type)->zF->s.prod zF)->I R)->I R
 |.one s,v,σ,K=>s.get v σ K
 |.st t,.agg cs,σ,K=>tpop t cs fun x rest=>match rest with
  |[]=>K σ (fun _ y=>(x,y))
  |_=>none
 |.agg l,.agg cs,σ,K=>TL.get l cs σ fun σ x=>K σ (fun _ y=>(x,y))
 |_,_,_,_=>none
def SL.get:(l:Y SSh)->Y BV->Ren->(Ren->SL l->I R)->I R
 |[],[],σ,K=>K σ ()
 |s::r,v::vs,σ,K=>s.get v σ fun σ f=>SL.get r vs σ fun σ x=>K σ (f _ x)
 |_,_,_,_=>none
def OSh.get:(o:OSh)->BO->Nat->Ren->(Ren->o.T->I R)->I R
 |.box l,.box cs,_,σ,K=>TL.get l cs σ K
 |.TV t,.box cs,_,σ,K=>tpop t cs fun x rest=>match rest with
  |[]=>K σ x
  |_=>none
 |.TI t,.TI t' l q,u,σ,K=>if h:t'=t then if Nat.beq q u then K σ (Qqn h l)else none else none
 |.arrs t,.TI t' l q,u,σ,K=>if h:t'=t then if Nat.beq q u then K σ (Qqn h l)else none else none
 |.sm,.sm es,_,σ,K=>K σ es
 |_,_,_,_,_=>none
def OL.get:(l:Y (Name×OSh))->HS->Ren->(Ren->OL l->I R)->I R
 |[],_,σ,K=>K σ ()
 |p::r,hs,σ,K=>match X p.1 σ with
  |some m=>match X m.1 hs with
   |some ob=>p.2.get ob m.2 σ fun σ x=>OL.get r hs σ fun σ y=>K σ (x,y)
   |none=>none
  |none=>none
def STL.get:(l:Y (Nat×SSh))->TS->Ren->(Ren->STL l->I R)->I R
 |[],_,σ,K=>K σ ()
 |p::r,ts,σ,K=>match X p.1 ts with
  |some v=>p.2.get v σ fun σ f=>STL.get r ts σ fun σ x=>K σ (f _ x)
  |none=>none
def Fit(rr:Name->Name)(δ:Name->Nat)(σ:Ren):Prop:=∀nm m,(nm,m)∈σ->rr nm=m.1/\δ nm=m.2
def Qbq(L:Lens)(rr:Name->Name)(δ:Name->Nat):Lens:=fun n v=>L (rr n) (δ n+v)
def Fit.mono(h:Fit rr δ σ')(hs:∀p,p∈σ->p∈σ'):Fit rr δ σ:=fun nm m hm=>h nm m (hs _ hm)
def Qj8:∀{ns:Y Name} {vs:Y BV} {σ:Ren} {K:Ren->I R},Qhx ns vs σ K=some r->
  ∃σ',K σ'=some r/\(∀p,p∈σ->p∈σ')/\∀(rr:Name->Name) (δ:Name->Nat) (L:Lens),Fit rr δ σ'->erL L vs=renL rr (erL (Qbq L rr δ) (ns.map fun n=>.TM n 0))
 |[],[],σ,K,h=>⟨σ,h,fun _ hp=>hp,fun rr δ L _=>by simp only[Al,erL,renL]⟩
 |[],v::vs,σ,K,h=>by simp[Qhx]at h
 |nm::ns,[],σ,K,h=>by simp[Qhx]at h
 |nm::ns,v::vs,σ,K,h=>by
  cases v with
  |TM m off=>
   simp only[Qhx]at h
   split at h
   .rename_i ho
    have:=nbe ho;subst this
    obtain⟨σ',h1,h2,h3⟩:=Qj8 h
    refine⟨σ',h1,fun p hp=>h2 p (BB _ hp),fun rr δ L hf=>?_⟩
    simp only[AU,erL,renL,BV.er,AV.ren,(hf nm (m,0) (h2 _ (BA ..))).1,h3 rr δ L hf]
   .simp at h
  |_=>simp[Qhx]at h
def Sh.get_some{s:Sh}{K:Ren->((zF:Type)->zF->s.prod zF)->I R}(h:s.get v σ K=some r):
  ∃σ' f,K σ' f=some r/\(∀p,p∈σ->p∈σ')/\(∀zF (y:zF),(s.put 0 zF (f zF y)).2=y)/\(v.isQ=true->∀zF (y:zF),(s.put 0 zF (f zF y)).1=v)/\∀zF (y:zF) (rr:Name->Name) (δ:Name->Nat) (L:Lens),Fit rr δ σ'->TW (v.er L) (((s.put 0 zF (f zF y)).1.er (Qbq L rr δ)).ren rr):=by
 unfold Sh.get at h
 split at h
 .split at h
  .rename_i hk;have:=QeT hk;subst this
   exact⟨_,_,h,fun _ hp=>hp,fun _ _=>rfl,fun _ _ _=>rfl,fun zF y rr δ L _=>by simp only[Sh.put,BV.er,AV.ren];exact .refl _⟩
  .simp at h
 .exact⟨_,_,h,fun _ hp=>hp,fun _ _=>rfl,fun _ _ _=>rfl,fun zF y rr δ L _=>by simp only[Sh.put,BV.er,AV.ren];exact .refl _⟩
 .exact⟨_,_,h,fun _ hp=>hp,fun _ _=>rfl,fun _ _ _=>rfl,fun zF y rr δ L _=>by simp only[Sh.put,BV.er,AV.ren];exact .refl _⟩
 .split at h
  .rename_i he;subst he
   exact⟨_,_,h,fun _ hp=>hp,fun _ _=>rfl,fun hq _ _=>(Qz1 hq).symm,fun zF y rr δ L _=>by simp only[Sh.put,BV.er,AV.ren,Qqn];exact .p (PVle.full _)⟩
  .simp at h
 .rename_i t K0
  exact⟨_,_,h,fun _ hp=>hp,fun _ _=>rfl,fun hq=>by simp[BV.isQ]at hq,fun zF y rr δ L _=>by have:=Qz6 t L;simp only[BV.er]at this;simp only[Sh.put,BV.er,AV.ren];exact this⟩
 .exact⟨_,_,h,fun _ hp=>hp,fun _ _=>rfl,fun hq=>by simp[BV.isQ]at hq,fun zF y rr δ L _=>by simp only[Sh.put,BV.er,AV.ren];exact .refl _⟩
 .split at h
  .rename_i nm m off σ0 K0 ho
   have:=nbe ho;subst this
   exact⟨_,_,h,fun _ hp=>BB _ hp,fun _ _=>rfl,fun hq=>by simp[BV.isQ]at hq,fun zF y rr δ L hf=>by simp only[Sh.put,BV.er,AV.ren,Qbq,(hf _ _ (BA ..)).1,(hf _ _ (BA ..)).2,CK];exact .refl _⟩
  .simp at h
 .rename_i nm m σ0 K0
  exact⟨_,_,h,fun _ hp=>BB _ hp,fun _ _=>rfl,fun hq=>by simp[BV.isQ]at hq,fun zF y rr δ L hf=>by simp only[Sh.put,BV.er,AV.ren,Qbq,(hf _ _ (BA ..)).1,(hf _ _ (BA ..)).2,CK];exact .refl _⟩
 .rename_i nm m u lo hi σ0 K0
  exact⟨_,_,h,fun _ hp=>BB _ hp,fun _ _=>rfl,fun hq=>by simp[BV.isQ]at hq,fun zF y rr δ L hf=>by simp only[Sh.put,BV.er,AV.ren,Qbq,(hf _ _ (BA ..)).1,(hf _ _ (BA ..)).2,CK];exact .refl _⟩
 .split at h
  .rename_i hk;have:=nbe hk;subst this
   obtain⟨σ',h1,h2,h3⟩:=Qj8 h
   exact⟨σ',_,h1,h2,fun _ _=>rfl,fun hq=>by simp[BV.isQ]at hq,fun zF y rr δ L hf=>by simp only[Sh.put,BV.er,AV.ren,h3 rr δ L hf,renL];exact .refl _⟩
  .simp at h
 .split at h
  .rename_i hk;have:=nbe hk;subst this
   exact⟨_,_,h,fun _ hp=>hp,fun _ _=>rfl,fun hq=>by simp[BV.isQ]at hq,fun zF y rr δ L _=>by simp only[Sh.put,BV.er,AV.ren];exact .refl _⟩
  .simp at h
 .rename_i nm m σ0 K0
  exact⟨_,_,h,fun _ hp=>BB _ hp,fun _ _=>rfl,fun hq=>by simp[BV.isQ]at hq,fun zF y rr δ L hf=>by simp only[Sh.put,BV.er,AV.ren,(hf _ _ (BA ..)).1];exact .refl _⟩
 .simp at h
def TL.get_some:∀{l:Y Sh} {vs:Y BV} {σ:Ren} {K:Ren->TL l->I R},TL.get l vs σ K=some r->
  ∃σ' x,K σ' x=some r/\(∀p,p∈σ->p∈σ')/\(vs.all BV.isQ=true->TL.put 0 l x=vs)/\∀(rr:Name->Name) (δ:Name->Nat) (L:Lens),Fit rr δ σ'->Wh (erL L vs) (renL rr (erL (Qbq L rr δ) (TL.put 0 l x)))
 |[],vs,σ,K,h=>by
  cases vs with
  |nil=>exact⟨_,_,h,fun _ hp=>hp,fun _=>rfl,fun rr δ L _=>by simp only[TL.put,erL,renL];exact .nil⟩
  |cons v vs=>simp[TL.get]at h
 |s::l,vs,σ,K,h=>by
  cases vs with
  |nil=>simp[TL.get]at h
  |cons v vs=>
   simp only[TL.get]at h
   obtain⟨σ1,f,h,hs1,hf1,q1,g1⟩:=Sh.get_some h
   obtain⟨σ2,x,h,hs2,q2,g2⟩:=TL.get_some h
   refine⟨σ2,f _ x,h,fun p hp=>hs2 p (hs1 p hp),fun hq=>?_,fun rr δ L hf=>?_⟩
   .simp only[BX,bae]at hq
    simp only[TL.put,hf1]
    rw[q1 hq.1,q2 hq.2]
   simp only[TL.put,erL,renL,hf1]
   exact .cons (g1 _ x rr δ L (hf.mono hs2)) (g2 rr δ L hf)
def QAg(rr)(L L')(t)(x):renL rr (erL L (tb t x))=erL L' (tb t x):=by
 rw[V9 (QdX t x),V9 (QdX t x),QpK]
 simp only[pcells,CN]
 exact Bn fun y _=>by simp only[Function.comp,AV.ren]
def SSh.get_some{s:SSh}{K:Ren->((zF:Type)->zF->s.prod zF)->I R}(h:s.get v σ K=some r):
  ∃σ' f,K σ' f=some r/\(∀p,p∈σ->p∈σ')/\(∀zF (y:zF),(s.put 0 zF (f zF y)).2=y)/\∀zF (y:zF) (rr:Name->Name) (δ:Name->Nat) (L:Lens),Fit rr δ σ'->TW (v.er L) (((s.put 0 zF (f zF y)).1.er (Qbq L rr δ)).ren rr):=by
 cases s with
 |one s=>
  obtain⟨a,b,c,d,e,_,g⟩:=Sh.get_some h
  exact⟨a,b,c,d,e,g⟩
 |st t=>
  cases v with
  |agg cs=>
   simp only[SSh.get]at h
   obtain⟨x,l,hle,h⟩:=Qd0 t h
   split at h
   .refine⟨_,_,h,fun _ hp=>hp,fun _ _=>rfl,fun zF y rr δ L _=>?_⟩
    simp only[SSh.put,BV.er,AV.ren,QAg rr _ L]
    have:=hle.1 L
    rw[An]at this
    exact .agg this
   .simp at h
  |_=>simp[SSh.get]at h
 |agg l=>
  cases v with
  |agg cs=>
   simp only[SSh.get]at h
   obtain⟨σ',x,h,hs,_,g⟩:=TL.get_some h
   exact⟨_,_,h,hs,fun _ _=>rfl,fun zF y rr δ L hf=>by simp only[SSh.put,BV.er,AV.ren];exact .agg (g rr δ L hf)⟩
  |_=>simp[SSh.get]at h
def SL.get_some:∀{l:Y SSh} {vs:Y BV} {σ:Ren} {K:Ren->SL l->I R},SL.get l vs σ K=some r->
  ∃σ' x,K σ' x=some r/\(∀p,p∈σ->p∈σ')/\∀(rr:Name->Name) (δ:Name->Nat) (L:Lens),Fit rr δ σ'->Wh (erL L vs) (renL rr (erL (Qbq L rr δ) (SL.put 0 l x)))
 |[],vs,σ,K,h=>by
  cases vs with
  |nil=>exact⟨_,_,h,fun _ hp=>hp,fun rr δ L _=>by simp only[SL.put,erL,renL];exact .nil⟩
  |cons v vs=>simp[SL.get]at h
 |s::l,vs,σ,K,h=>by
  cases vs with
  |nil=>simp[SL.get]at h
  |cons v vs=>
   simp only[SL.get]at h
   obtain⟨σ1,f,h,hs1,hf1,g1⟩:=SSh.get_some h
   obtain⟨σ2,x,h,hs2,g2⟩:=SL.get_some h
   refine⟨σ2,f _ x,h,fun p hp=>hs2 p (hs1 p hp),fun rr δ L hf=>?_⟩
   simp only[SL.put,erL,renL,hf1]
   exact .cons (g1 _ x rr δ L (hf.mono hs2)) (g2 rr δ L hf)
def OLe(rr:Name->Name)(δ:Name->Nat)(u:Nat)(L:Lens)(a b:BO):Prop:=(∃cs ds,a=.box cs/\b=.box ds/\Wh (erL L cs) (renL rr (erL (Qbq L rr δ) ds))/\(cs.all BV.isQ=true->ds=cs))\/(∃t l,a=.TI t l u/\b=.TI t l 0)\/∃es,a=.sm es/\b=.sm es
def OSh.get_some{o:OSh}{K:Ren->o.T->I R}(h:o.get b u σ K=some r):
  ∃σ' x,K σ' x=some r/\(∀p,p∈σ->p∈σ')/\∀(rr:Name->Name) (δ:Name->Nat) (L:Lens),Fit rr δ σ'->OLe rr δ u L b (o.put 0 x):=by
 cases o with
 |box l=>
  cases b with
  |box cs=>
   obtain⟨σ',x,h,hs,q,g⟩:=TL.get_some h
   exact⟨σ',x,h,hs,fun rr δ L hf=>.inl ⟨_,_,rfl,rfl,g rr δ L hf,q⟩⟩
  |TI t l=>simp[OSh.get]at h
  |sm es=>simp[OSh.get]at h
 |TV t=>
  cases b with
  |box cs=>
   simp only[OSh.get]at h
   obtain⟨x,l,hle,h⟩:=Qd0 t h
   split at h
   .refine⟨_,_,h,fun _ hp=>hp,fun rr δ L _=>.inl ⟨_,_,rfl,rfl,?_,fun hq=>?_⟩⟩
    .rw[QAg rr _ L]
     have:=hle.1 L
     simp_all
    .have:=hle.2 hq
     simp_all
   .simp at h
  |TI t l=>simp[OSh.get]at h
  |sm es=>simp[OSh.get]at h
 |TI t=>
  cases b with
  |box cs=>simp[OSh.get]at h
  |sm es=>simp[OSh.get]at h
  |TI t' l=>
   simp only[OSh.get]at h
   split at h
   .rename_i he;subst he
    split at h
    .rename_i hq
     have:=nbe hq;subst this
     exact⟨_,_,h,fun _ hp=>hp,fun rr δ L _=>.inr (.inl ⟨_,_,rfl,rfl⟩)⟩
    .simp at h
   .simp at h
 |arrs t=>
  cases b with
  |box cs=>simp[OSh.get]at h
  |sm es=>simp[OSh.get]at h
  |TI t' l=>
   simp only[OSh.get]at h
   split at h
   .rename_i he;subst he
    split at h
    .rename_i hq
     have:=nbe hq;subst this
     exact⟨_,_,h,fun _ hp=>hp,fun rr δ L _=>.inr (.inl ⟨_,_,rfl,rfl⟩)⟩
    .simp at h
   .simp at h
 |sm=>
  cases b with
  |sm es=>exact⟨_,_,h,fun _ hp=>hp,fun rr δ L _=>.inr (.inr ⟨_,rfl,rfl⟩)⟩
  |box cs=>simp[OSh.get]at h
  |TI t l=>simp[OSh.get]at h
def OL.get_some:∀{l:Y (Name×OSh)} {σ:Ren} {K:Ren->OL l->I R},OL.get l hs σ K=some r->
  ∃σ' x,K σ' x=some r/\(∀p,p∈σ->p∈σ')/\∀(rr:Name->Name) (δ:Name->Nat) (L:Lens),Fit rr δ σ'->∀n b,X n (OL.put 0 l x)=some b->∃a,X (rr n) hs=some a/\OLe rr δ (δ n) L a b
 |[],σ,K,h=>⟨_,_,h,fun _ hp=>hp,fun rr δ L _ n b hn=>by change X n []=some b at hn;simp[X]at hn⟩
 |p::l,σ,K,h=>by
  simp only[OL.get]at h
  split at h
  .rename_i m hm
   split at h
   .rename_i ob hob
    obtain⟨σ1,x,h,hs1,g1⟩:=OSh.get_some h
    obtain⟨σ2,y,h,hs2,g2⟩:=OL.get_some h
    refine⟨σ2,(x,y),h,fun q hq=>hs2 q (hs1 q hq),fun rr δ L hf n b hn=>?_⟩
    change X n ((p.1,p.2.put 0 x)::OL.put 0 l y)=some b at hn
    simp only[X]at hn
    split at hn
    .rename_i e
     cases hn
     have hfm:=hf p.1 m (hs2 _ (hs1 _ (Q5 hm)))
     rw[<-e,hfm.1,hfm.2]
     exact⟨ob,hob,g1 rr δ L (hf.mono hs2)⟩
    .exact g2 rr δ L hf n b hn
   .simp at h
  .simp at h
def STL.get_some:∀{l:Y (Nat×SSh)} {σ:Ren} {K:Ren->STL l->I R},STL.get l ts σ K=some r->
  ∃σ' x,K σ' x=some r/\(∀p,p∈σ->p∈σ')/\∀(rr:Name->Name) (δ:Name->Nat) (L:Lens),Fit rr δ σ'->∀n b,X n (STL.put 0 l x)=some b->∃a,X n ts=some a/\TW (a.er L) ((b.er (Qbq L rr δ)).ren rr)
 |[],σ,K,h=>⟨_,_,h,fun _ hp=>hp,fun rr δ L _ n b hn=>by change X n []=some b at hn;simp[X]at hn⟩
 |p::l,σ,K,h=>by
  simp only[STL.get]at h
  split at h
  .rename_i v hv
   obtain⟨σ1,f,h,hs1,hf1,g1⟩:=SSh.get_some h
   obtain⟨σ2,y,h,hs2,g2⟩:=STL.get_some h
   refine⟨σ2,f _ y,h,fun q hq=>hs2 q (hs1 q hq),fun rr δ L hf n b hn=>?_⟩
   change X n ((p.1,(p.2.put 0 _ (f _ y)).1)::STL.put 0 l (p.2.put 0 _ (f _ y)).2)=some b at hn
   simp only[X,hf1]at hn
   split at hn
   .rename_i e
    cases hn
    exact⟨v,by rw[<-e];exact hv,g1 _ y rr δ L (hf.mono hs2)⟩
   .exact g2 rr δ L hf n b hn
  .simp at h
end
open Go
mutual
def BV.ren(σ:Name->Name)(δ:Name->Nat):BV->BV
 |.agg cs=>.agg (QmI σ δ cs)
 |.tup vs=>.tup (QmI σ δ vs)
 |.clo f cs=>.clo f (QmI σ δ cs)
 |.TM m o=>.TM (σ m) o
 |.own m u=>.own (σ m) (δ m+u)
 |.aref m u i o=>.aref (σ m) (δ m+u) i o
 |.view m u i o=>.view (σ m) (δ m+u) i o
 |.cut m u k=>.cut (σ m) (δ m+u) k
 |.mref m=>.mref (σ m)
 |x=>x
def QmI(σ:Name->Name)(δ:Name->Nat):Y BV->Y BV
 |[]=>[]
 |x::r=>x.ren σ δ::QmI σ δ r
end
mutual
def BV.use(p:Name->Nat->AH):BV->AH
 |.agg cs=>BV.useL p cs
 |.tup vs=>BV.useL p vs
 |.clo _ cs=>BV.useL p cs
 |.own m u=>p m u
 |.aref m u _ _=>p m u
 |.view m u _ _=>p m u
 |.cut m u _=>p m u
 |_=>true
def BV.useL(p:Name->Nat->AH):Y BV->AH
 |[]=>true
 |x::r=>x.use p && BV.useL p r
end
mutual
def QAa(hL:∀n u,p n u=true->L' (σ n) (δ n+u)=L n u):∀x:BV,x.use p=true->(x.er L).ren σ=(x.ren σ δ).er L'
 |.agg cs,h=>by simp only[BV.use]at h;simp only[BV.er,BV.ren,AV.ren,QmJ hL cs h]
 |.tup cs,h=>by simp only[BV.use]at h;simp only[BV.er,BV.ren,AV.ren,QmJ hL cs h]
 |.clo f cs,h=>by simp only[BV.use]at h;simp only[BV.er,BV.ren,AV.ren,QmJ hL cs h,renL]
 |.TM _ _,_=>by simp only[BV.er,BV.ren,AV.ren]
 |.own n u,h=>by simp only[BV.use]at h;simp only[BV.er,BV.ren,AV.ren,hL n u h]
 |.aref n u _ _,h=>by simp only[BV.use]at h;simp only[BV.er,BV.ren,AV.ren,hL n u h]
 |.view n u _ _,h=>by simp only[BV.use]at h;simp only[BV.er,BV.ren,AV.ren,hL n u h]
 |.cut n u _,h=>by simp only[BV.use]at h;simp only[BV.er,BV.ren,AV.ren,hL n u h]
 |.mref _,_=>by simp only[BV.er,BV.ren,AV.ren]
 |.tep _,_=>by simp only[BV.er,BV.ren,AV.ren]
 |.any,_=>by simp only[BV.er,BV.ren,AV.ren]
 |.ub,_=>by simp only[BV.er,BV.ren,AV.ren]
 |.n _ _,_=>by simp only[BV.er,BV.ren,AV.ren]
 |.b _,_=>by simp only[BV.er,BV.ren,AV.ren]
 |.s _,_=>by simp only[BV.er,BV.ren,AV.ren]
 |.ts _ _ _,_=>by simp only[BV.er,BV.ren,AV.ren]
 |.nil,_=>by simp only[BV.er,BV.ren,AV.ren]
 |.v _,_=>by simp only[BV.er,BV.ren,AV.ren]
def QmJ(hL:∀n u,p n u=true->L' (σ n) (δ n+u)=L n u):∀l:Y BV,BV.useL p l=true->renL σ (erL L l)=erL L' (QmI σ δ l)
 |[],_=>by simp only[erL,renL,QmI]
 |x::r,h=>by
  simp only[BV.useL,bae]at h
  simp only[erL,renL,QmI,QAa hL x h.1,QmJ hL r h.2]
end
def BO.ren(σ:Name->Name)(δ:Name->Nat)(k:Nat):BO->BO
 |.box cs=>.box (QmI σ δ cs)
 |.TI t l v=>.TI t l (k+v)
 |.sm es=>.sm es
def BO.use(p:Name->Nat->AH):BO->AH
 |.box cs=>BV.useL p cs
 |.TI _ _ _=>true
 |.sm _=>true
def QBH(hL:∀n u,p n u=true->L' (σ n) (δ n+u)=L n u)(k:Nat)(o:BO)(h:o.use p=true):(o.er L).ren σ=(o.ren σ δ k).er L':=by
 cases o with
 |box cs=>simp only[BO.er,BO.ren,AO.ren,QmJ hL cs h]
 |TI t l=>simp only[BO.er,BO.ren,AO.ren]
 |sm es=>simp only[BO.er,BO.ren,AO.ren]
def QjV(σ:Name->Name)(δ:Name->Nat)(hs:HS):HS:=hs.map fun p=>(σ p.1,p.2.ren σ δ (δ p.1))
def QBF(hL:∀n u,p n u=true->L' (σ n) (δ n+u)=L n u)(hs:HS)(h:hs.all (fun q=>q.2.use p)=true):renH σ (erH L hs)=erH L' (QjV σ δ hs):=by
 unfold renH erH QjV
 simp only[CN]
 refine Bn fun q hq=>?_
 simp only[Function.comp,QBH hL (δ q.1) q.2 (AW.1 h q hq)]
def Qgu(hσ:∀a b,σ a=σ b->a=b)(n):∀h:HS,X (σ n) (QjV σ δ h)=(X n h).map (BO.ren σ δ (δ n))
 |[]=>rfl
 |(k,o)::r=>by
  show X (σ n) ((σ k,o.ren σ δ (δ k))::QjV σ δ r)=(X n ((k,o)::r)).map (BO.ren σ δ (δ n))
  simp only[X]
  by_cases e:k=n
  .simp[e]
  .rw[iA (fun h=>e (hσ _ _ h)),iA e];exact Qgu hσ n r
def Qhi:∀{h:HS},X m (QjV σ δ h)=some o->∃n,σ n=m
 |[],h=>by simp[QjV,X]at h
 |(k,x)::r,h=>by
  change X m ((σ k,x.ren σ δ (δ k))::QjV σ δ r)=some o at h
  simp only[X]at h
  split at h
  .exact⟨k,by assumption⟩
  .exact Qhi h
mutual
def BV.closed(ks:Y Name):BV->AH
 |.agg cs=>BV.closedL ks cs
 |.tup vs=>BV.closedL ks vs
 |.clo _ cs=>BV.closedL ks cs
 |.TM m _=>ks.contains m
 |.own m _=>ks.contains m
 |.aref m _ _ _=>ks.contains m
 |.view m _ _ _=>ks.contains m
 |.cut m _ _=>ks.contains m
 |.mref m=>ks.contains m
 |_=>true
def BV.closedL(ks:Y Name):Y BV->AH
 |[]=>true
 |x::r=>x.closed ks && BV.closedL ks r
end
mutual
def Qqt(L)(ks):∀x:BV,(x.er L).closed ks=x.closed ks
 |.agg cs=>by simp only[BV.er,AV.closed,BV.closed,Qdn L ks cs]
 |.tup cs=>by simp only[BV.er,AV.closed,BV.closed,Qdn L ks cs]
 |.clo f cs=>by simp only[BV.er,AV.closed,BV.closed,Qdn L ks cs,AV.closedL,B8]
 |.TM _ _=>by simp only[BV.er,AV.closed,BV.closed]
 |.own _ _=>by simp only[BV.er,AV.closed,BV.closed]
 |.aref _ _ _ _=>by simp only[BV.er,AV.closed,BV.closed]
 |.view _ _ _ _=>by simp only[BV.er,AV.closed,BV.closed]
 |.cut _ _ _=>by simp only[BV.er,AV.closed,BV.closed]
 |.mref _=>by simp only[BV.er,AV.closed,BV.closed]
 |.tep _=>by simp only[BV.er,AV.closed,BV.closed]
 |.any=>by simp only[BV.er,AV.closed,BV.closed]
 |.ub=>by simp only[BV.er,AV.closed,BV.closed]
 |.n _ _=>by simp only[BV.er,AV.closed,BV.closed]
 |.b _=>by simp only[BV.er,AV.closed,BV.closed]
 |.s _=>by simp only[BV.er,AV.closed,BV.closed]
 |.ts _ _ _=>by simp only[BV.er,AV.closed,BV.closed]
 |.nil=>by simp only[BV.er,AV.closed,BV.closed]
 |.v _=>by simp only[BV.er,AV.closed,BV.closed]
def Qdn(L)(ks):∀l:Y BV,AV.closedL ks (erL L l)=BV.closedL ks l
 |[]=>by simp only[erL,AV.closedL,BV.closedL]
 |x::r=>by simp only[erL,AV.closedL,BV.closedL,Qqt L ks x,Qdn L ks r]
end
def BO.closed(ks:Y Name):BO->AH
 |.box cs=>BV.closedL ks cs
 |.TI _ _ _=>true
 |.sm _=>true
def Quo(L:Lens)(ks:Y Name)(o:BO):(o.er L).closed ks=o.closed ks:=by cases o<;>simp only[BO.er,AO.closed,BO.closed,Qdn]
def QAN(pre h:HS)(nw:Y Name)(v:BV):AH:=
 (keys h).all (fun n=>(keys pre).contains n || nw.contains n) && nw.all (fun n=>(keys h).contains n && !(keys pre).contains n) && v.closed (keys h) && h.all (fun p=>p.2.closed (keys h))
def Qyz(hb:QAN pre h nw v=true):Qfh (erH L0 pre) (erH L1 h) nw (v.er L1)=true:=by
 unfold QAN at hb
 unfold Qfh
 rw[Qeb,Qeb,Qqt]
 have:(erH L1 h).all (fun p=>p.2.closed (keys h))=h.all (fun p=>p.2.closed (keys h)):=by
  unfold erH;rw[List.all_map];congr 1;funext p;simp only[Function.comp,Quo]
 rw[this];exact hb
structure Sig where
 args:Y SSh
 pre:Y (Name×OSh)
 res:Y SSh
 post:Y (Name×OSh)
 keep:Y Name
 F:(R:Type)->SL args->OL pre->(SL res->OL post->I R)->I R
def resB:Y BV->BV
 |[v]=>v
 |vs=>.tup vs
def Sig.posts(g:Sig)(y:OL g.pre)(b:OL g.post):HS:=OL.put 1 g.post b++(OL.put 0 g.pre y).filter (fun p=>g.keep.contains p.1)
def Qcr:Y (Name×OSh)->Y Name
 |[]=>[]
 |(n,.arrs _)::r=>n::Qcr r
 |(_,.TI _)::r=>Qcr r
 |(_,.box _)::r=>Qcr r
 |(_,.TV _)::r=>Qcr r
 |(_,.sm)::r=>Qcr r
structure FnOK (P:AF) (k:FuncId) (g:Sig):Prop where
 nat:∀(R:Type) x y (K:SL g.res->OL g.post->I R) r,g.F R x y K=some r->∃a b,g.F (SL g.res×OL g.post) x y (fun a b=>some (a,b))=some (a,b)/\K a b=some r
 spec:∀x y a b,g.F (SL g.res×OL g.post) x y (fun a b=>some (a,b))=some (a,b)->∀L0,Inv L0 (OL.put 0 g.pre y)->∃L1:Lens,(∀n,n∈g.keep\/n∈Qcr g.post->L1 n 0=L0 n 0)/\Inv L1 (g.posts y b)/\
  WT P k (erL L0 (SL.put 0 g.args x)) (erH L0 (OL.put 0 g.pre y)) ((resB (SL.put 1 g.res a)).er L1) (erH L1 (g.posts y b))
def QmK(m:Ren):Name->Name:=fun n=>match X n m with|some a=>a.1|none=>n+10000000000
def Qjj(m:Ren):Name->Nat:=fun n=>match X n m with|some a=>a.2|none=>0
def QnW(n a u:Nat):Ren->AH
 |[]=>false
 |(k,b)::r=>if Nat.beq k n then Nat.beq b.1 a && Nat.beq b.2 u else QnW n a u r
def Ql1:∀{m:Ren},QnW n a u m=true->X n m=some (a,u)
 |[],h=>by simp[QnW]at h
 |(k,b)::r,h=>by
  simp only[QnW]at h
  simp only[X]
  split at h
  .rename_i e
   simp only[bae]at h
   rw[iB (nbe e),<-nbe h.1,<-nbe h.2]
  .rename_i e;rw[iA (fun e'=>e (by rw[e'];exact B3 _))];exact Ql1 h
def QBG(m:Ren):AH:=m.all fun p=>QnW p.1 p.2.1 p.2.2 m && Nat.blt p.2.1 10000000000 && m.all fun q=>Nat.beq p.1 q.1 || !Nat.beq p.2.1 q.2.1
def Qxy(h:QBG m=true):Fit (QmK m) (Qjj m) m:=fun nm a hm=>by
 have:=AW.1 h _ hm
 simp at this
 unfold QmK Qjj;rw[Ql1 this.1.1];exact⟨rfl,rfl⟩
def Qxz(h:QBG m=true):∀a b,QmK m a=QmK m b->a=b:=fun a b e=>by
 unfold QmK at e
 have hb:∀{n x},X n m=some x->x.1<10000000000:=fun{n x} hx=>by
  have:=AW.1 h _ (Q5 hx)
  simp at this
  exact this.1.2
 cases ha:X a m with
 |none=>
  cases hb':X b m with
  |none=>rw[ha,hb']at e;exact Nat.add_right_cancel e
  |some y=>rw[ha,hb']at e;have h1:(y.1:Nat)<10000000000:=hb hb';have h2:(a:Nat)+10000000000=(y.1:Nat):=e;exact absurd h1 (by rw[<-h2];exact Nat.not_lt.2 (Nat.le_add_left _ _))
 |some x=>
  cases hb':X b m with
  |none=>rw[ha,hb']at e;have h1:(x.1:Nat)<10000000000:=hb ha;have h2:(x.1:Nat)=(b:Nat)+10000000000:=e;exact absurd h1 (by rw[h2];exact Nat.not_lt.2 (Nat.le_add_left _ _))
  |some y=>
   rw[ha,hb']at e
   simp only at e
   have:=AW.1 h _ (Q5 ha)
   simp only[bae]at this
   have:=AW.1 this.2 _ (Q5 hb')
   simp only[e,B3,CT,Cf]at this
   exact nbe this
def Qc9(d:Nat)(g:Sig):Ren:=((keys g.post).filter fun n=>!(keys g.pre).contains n).map fun n=>(n,(1000000+1000*d+n,0))
def W7:Y (Name×OSh)->Y Name
 |[]=>[]
 |(n,.TI _)::r=>n::W7 r
 |(_,.box _)::r=>W7 r
 |(_,.arrs _)::r=>W7 r
 |(_,.TV _)::r=>W7 r
 |(_,.sm)::r=>W7 r
def hpOf(rr:Name->Name)(hs:HS):Y Name->HS
 |[]=>[]
 |n::r=>match X (rr n) hs with
  |some ob=>(rr n,ob)::hpOf rr hs r
  |none=>hpOf rr hs r
def Qhw(g:Sig)(m:Ren)(d:Nat)(hs:HS)(y:OL g.pre)(a:SL g.res)(b:OL g.post):BEff:=
 ⟨hpOf (QmK m) hs (keys g.pre),(resB (SL.put 1 g.res a)).ren (QmK m) (Qjj m),QjV (QmK m) (Qjj m) (g.posts y b),(Qc9 d g).map (·.2.1),((W7 g.post).filter fun n=>(keys g.pre).contains n).map fun n=>(QmK m n,Qjj m n+1)⟩
def Qvk(g:Sig)(n u:Nat):AH:=match u with
 |0=>isIn n g.keep || isIn n (Qcr g.post)
 |1=>isIn n (W7 g.post)
 |_=>false
def Qv8(g:Sig)(m:Ren)(d:Nat)(hs:HS)(y:OL g.pre)(a:SL g.res)(b:OL g.post):AH:=
 QBG m && QAN (Qhw g m d hs y a b).hp (Qhw g m d hs y a b).upd (Qhw g m d hs y a b).nw (Qhw g m d hs y a b).v &&
 (resB (SL.put 1 g.res a)).use (Qvk g) && (g.posts y b).all (fun q=>q.2.use (Qvk g)) &&
 g.keep.all (fun n=>(keys g.pre).contains n && !(keys g.post).contains n)
section
variable {hs hs':HS}
section
variable {R:Type} (P:AF) (ty:AD->I TC) (rd:TS) (hs:HS) (K:BEff->I R)
def bndB(x:AC)(k:Nat->I R):I R:=match ZW rd x with
 |some (.n k' j)=>if kEq .i64 k' then TK j k else none
 |_=>none
def QvZ(T:AD)(x:AC)(lo hi mx:I AC):I R:=match ZW rd x,W9 P T,mx with
 |some (.ts f t l),some e,none=>match Zl P e,lo,hi with
  |some es,some lo,none=>if Nat.beq es (tz t)then bndB rd lo fun k=>TO k l.length (K (ev (.ts f t (l.drop k))))else none
  |some es,none,some hi=>if Nat.beq es (tz t)then bndB rd hi fun m=>TO m l.length (K (ev (.ts false t (l.take m))))else none
  |some es,some lo,some hi=>if Nat.beq es (tz t)then bndB rd lo fun k=>bndB rd hi fun m=>TO k m (TO m l.length (K (ev (.ts false t ((l.take m).drop k)))))else none
  |_,_,_=>none
 |some (.own n u),some e,none=>match X n hs,Zl P e with
  |some (.TI t l q),some es=>if Nat.beq es (tz t) && Nat.beq u q then(match lo,hi with
    |some lo,none=>bndB rd lo fun k=>TO k l.length (K ⟨[(n,.TI t l q)],.view n u k l.length,[],[],[]⟩)
    |none,some hi=>bndB rd hi fun m=>TO m l.length (K ⟨[(n,.TI t l q)],.view n u 0 m,[],[],[]⟩)
    |_,_=>none)else none
  |_,_=>none
 |some (.own n u),some e,some mx=>match X n hs,Zl P e,lo,hi with
  |some (.TI t l q),some es,none,some hi=>if Nat.beq es (tz t) && Nat.beq u q then bndB rd hi fun k=>bndB rd mx fun m=>chk k m (TO k l.length (K ⟨[(n,.TI t l q)],.cut n u k,[],[],[]⟩))else none
  |_,_,_,_=>none
 |some (.view n u a b),some e,none=>match X n hs,Zl P e with
  |some (.TI t l q),some es=>if Nat.beq es (tz t) && Nat.beq u q then(match lo,hi with
    |some lo,none=>bndB rd lo fun k=>TP k (b - a) (K ⟨[(n,.TI t l q)],.view n u (a+k) (a+(b - a)),[],[],[]⟩)
    |none,some hi=>bndB rd hi fun m=>TO m (b - a) (K ⟨[(n,.TI t l q)],.view n u (a+0) (a+m),[],[],[]⟩)
    |_,_=>none)else none
  |_,_=>none
 |_,_,_=>none
def QvV(T:AD)(x:AC):I R:=match ZW rd x,W9 P T with
 |some (.view n u i hi),some e=>match X n hs,Zl P e,Qvo P e with
  |some (.TI t l q),some es,some zs=>if Nat.beq es (tz t) && Nat.beq zs.length es && zs.all BV.isP && Nat.beq u q then TO i hi (TO hi l.length (tpop t zs fun z rest=>match rest with
    |[]=>K ⟨[(n,.TI t l q)],.tup [],[(n,.TI t (l.take i++List.replicate (hi - i) z++l.drop hi) q)],[],[]⟩
    |_=>none))else none
  |_,_,_=>none
 |_,_=>none
def QAy(T:AD)(x y:AC):I R:=match ZW rd x,ZW rd y,W9 P T with
 |some (.view n u i hi),some (.view m v j hj),some e=>match X n hs,Zl P e with
  |some (.TI t l q),some es=>if Nat.beq n m && Nat.beq v q && Nat.beq es (tz t) && Nat.beq u q then chk hi l.length (chk hj l.length (TO i l.length (TO j i
    (K ⟨[(n,.TI t l q)],.n .i64 ((l.length - i:Nat):Int),[(n,.TI t (l.take i++(l.drop j).take (l.length - i)) q)],[],[]⟩))))else none
  |_,_=>none
 |_,_,_=>none
def Qsm:Y BV->I (Y Int)
 |[]=>some []
 |.n k x::r=>if kEq .i64 k then(match Qsm r with|some l=>some (x::l)|none=>none)else none
 |_=>none
def bCmp(op:BinOp)(T:AD)(a b:Y BV):I R:=match Qsm a,Qsm b with
 |some p,some q=>if QwM P T p.length && Nat.beq q.length p.length then(match op with
   |.eql=>K (ev (.b (decide (p=q))))
   |.neq=>K (ev (.b (decide (p≠q))))
   |_=>none)else none
 |_,_=>none
def nilO:AC->AH
 |.const (.slice none 0 0)=>true
 |_=>false
def bNil(op:BinOp)(T:AD)(x:BV):I R:=match eqOp op,W9 P T,x with
 |some q,some _,.ts _ _ l=>TR l (K (ev .ub)) (K (ev (.b (!q))))
 |some q,some _,.nil=>K (ev .ub)
 |_,_,_=>none
def QAu(op:BinOp)(T:AD)(x y:AC):I R:=match ZW rd x,ZW rd y with
 |some (.agg a),some (.agg b)=>bCmp P K op T a b
 |some x,some .nil=>if nilO y then bNil P K op T x else none
 |_,_=>bBin P rd K op T x y
def QuP(c:Int):Y BV->Nat->(Nat->BV->I R)->I R
 |[],_,_=>none
 |v::r,i,k=>C (decide (c=(i:Int))) (k i v) (QuP c r (i+1) k)
def Qr7(T:AD)(x y:AC):I R:=match ZW rd x,ZW rd y,P.underlying T with
 |some (.agg cs),some (.n k j),some (.array len e)=>if kEq .i64 k && Qcy P e && Nat.beq len cs.length then(match Zl P e with
   |some 1=>QuP j cs 0 fun _ v=>K (ev v)
   |_=>none)else none
 |_,_,_=>none
def Qlm(T:AD)(x y:AC):I R:=match ZW rd x,ZW rd y,P.underlying T with
 |some (.TM n k),some (.n _ j),some (.array len e)=>match X n hs,Zl P e with
  |some (.box cells),some es=>QuP j (List.replicate len .any) 0 fun i _=>K ⟨[(n,.box cells)],.TM n (k+i*es),[],[],[]⟩
  |_,_=>none
 |_,_,_=>none
def cntB(k:AJ):Y (AJ×AH)->Nat
 |[]=>0
 |p::r=>if k=p.1 then cntB k r+1 else cntB k r
def memB(k:AJ):Y (AJ×AH)->AH
 |[]=>false
 |p::r=>if k=p.1 then p.2 else memB k r
def isK(P:AF)(T:AD):AH:=match P.underlying T with
 |some (.map K E)=>(match P.underlying K with|some .string=>true|_=>false) && (match Qvp P E with|some (.bool false)=>true|_=>false)
 |_=>false
def Qoz(d:I Nat)(T:AD):I R:=match d with
 |some d=>if isK P T then K ⟨[],.mref (1000+d),[(1000+d,.sm [])],[1000+d],[]⟩else none
 |none=>none
def Qr8(T:AD)(x y:AC):I R:=match ZW rd x,ZW rd y with
 |some (.mref n),some (.s k)=>match X n hs with
  |some (.sm es)=>if isK P T then K ⟨[(n,.sm es)],.b (memB k es),[],[],[]⟩else none
  |_=>none
 |_,_=>none
def QAH(d:I Nat)(T:AD)(x y z:AC):I R:=match d,ZW rd x,ZW rd y,ZW rd z with
 |none,some (.mref n),some (.s k),some (.b v)=>match X n hs with
  |some (.sm es)=>if isK P T then chk (cntB k es) 0 (K ⟨[(n,.sm es)],.any,[(n,.sm (es++[(k,v)]))],[],[]⟩)else none
  |_=>none
 |_,_,_,_=>none
def QA6:BV->AH
 |.agg _=>false
 |.tup _=>false
 |_=>true
def QAz(fn:Fn)(first caps:Array AC):I R:=match first.toList,Qir rd caps.toList with
 |[],some cs=>if cs.all QA6 then K (ev (.clo fn cs))else none
 |_,_=>none
end
section
variable {R:Type} {P:AF} {ty:AD->I TC} {rd:TS} {K:BEff->I R}
def VO{r:R}{x:AC}{k:Nat->I R}(h:bndB rd x k=some r):∃i:Nat,ZW rd x=some (.n .i64 (i:Int))/\k i=some r:=by
 unfold bndB at h
 split at h
 .rename_i k' j hx
  split at h
  .rename_i hk
   have:=QeT hk;subst this
   obtain⟨i,rfl,h⟩:=Qa1 h
   exact⟨i,hx,h⟩
  .simp at h
 .simp at h
def QhO{x:AC}{i d:Nat}(h:ZW rd x=some (.n .i64 (i:Int)))(L:Lens):optB (erT L rd) d (some x)=some (i:Int):=by
 have:=Qg L h
 simp only[BV.er]at this
 simp only[optB,this]
def Good.wrArrV(hc:X n hs=some (.TI t l q))(hl:l'.length=l.length)(h:∀L,Inv L hs->TE P o ⟨erT L rd,[(n,.TI (tz t) (l.map (tcells t)))],v.er L,[(n,.TI (tz t) (l'.map (tcells t)))],[]⟩):Good P o rd hs ⟨[(n,.TI t l q)],v,[(n,.TI t l' q)],[],[]⟩:=
 ⟨hp1 hc,fun L hL=>⟨L,fun _ _ _ _=>rfl,fun m t' l2 u hm=>by
  simp only[BE,BU,X]at hm
  split at hm
  .rename_i e;subst e;cases hm;rw[hl];exact hL _ t l q hc
  .exact hL m t' l2 u hm,h L hL⟩⟩
def Qv0(ho:o.op=.slice T x lo hi mx)(h:QvZ P rd hs K T x lo hi mx=some r):Does P o rd hs K r:=by
 unfold QvZ at h
 split at h
 .rename_i f t l e hx he
  split at h
  .rename_i es lo hz
   split at h
   .rename_i hb
    have:=nbe hb;subst this
    obtain⟨k,hk,h⟩:=VO h
    obtain⟨hkl,h⟩:=ZY h
    refine⟨_,h,.ev fun L _=>?_⟩
    have h1:=Qg L hx
    have h2:=Qg L hk
    simp only[BV.er]at h1 h2 |-
    exact TE.sliceLo ho (Qq he) hz h1 h2 rfl (by rw[AX];exact hkl) (by rw[CM])
   .simp at h
  .rename_i es hi hz
   split at h
   .rename_i hb
    have:=nbe hb;subst this
    obtain⟨m,hm,h⟩:=VO h
    obtain⟨hml,h⟩:=ZY h
    refine⟨_,h,.ev fun L _=>?_⟩
    have h1:=Qg L hx
    simp only[BV.er]at h1 |-
    have:=TE.sliceP (P:=P) (o:=o) (k:=0) (m:=m) ho (Qq he) hz h1 (by simp[optB]) (QhO hm L) (BL _) (by rw[AX];exact hml)
    simp_all
   .simp at h
  .rename_i es lo hi hz
   split at h
   .rename_i hb
    have:=nbe hb;subst this
    obtain⟨k,hk,h⟩:=VO h
    obtain⟨m,hm,h⟩:=VO h
    obtain⟨hkm,h⟩:=ZY h
    obtain⟨hml,h⟩:=ZY h
    refine⟨_,h,.ev fun L _=>?_⟩
    have h1:=Qg L hx
    simp only[BV.er]at h1 |-
    have:=TE.sliceP (P:=P) (o:=o) (k:=k) (m:=m) ho (Qq he) hz h1 (QhO hk L) (QhO hm L) hkm (by rw[AX];exact hml)
    simp_all
   .simp at h
  .simp at h
 .rename_i n u e hx he
  split at h
  .rename_i t l q es hc hz
   split at h
   .rename_i hb
    simp only[bae]at hb
    have:=nbe hb.1;subst this
    have hlen:∀{L:Lens},Inv L hs->L n u=l.length:=fun hL=>by rw[nbe hb.2];exact hL n t l q hc
    split at h
    .rename_i lo
     obtain⟨k,hk,h⟩:=VO h
     obtain⟨hkl,h⟩:=ZY h
     refine⟨_,h,.val (hp1 hc) fun L hL=>?_⟩
     have h1:=Qg L hx
     simp only[BV.er]at h1 |-
     exact TE.sliceView ho (Qq he) hz h1 (QhO hk L) (by simp[optB,hlen hL]) (Wi hL hc hb.2) hkl (by rw[AX];exact AN _)
    .rename_i hi
     obtain⟨m,hm,h⟩:=VO h
     obtain⟨hml,h⟩:=ZY h
     refine⟨_,h,.val (hp1 hc) fun L hL=>?_⟩
     have h1:=Qg L hx
     simp only[BV.er]at h1 |-
     exact TE.sliceView ho (Qq he) hz h1 (by simp[optB]) (QhO hm L) (Wi hL hc hb.2) (BL _) (by rw[AX];exact hml)
    .simp at h
   .simp at h
  .simp at h
 .rename_i n u e mx hx he
  split at h
  .rename_i t l q es hi hc hz
   split at h
   .rename_i hb
    simp only[bae]at hb
    have:=nbe hb.1;subst this
    obtain⟨k,hk,h⟩:=VO h
    obtain⟨m,hm,h⟩:=VO h
    obtain⟨hkm,h3⟩:=Qgo h
    subst hkm
    obtain⟨hkl,h4⟩:=ZY h3
    refine⟨_,h4,.val (hp1 hc) fun L hL=>?_⟩
    have h1:=Qg L hx
    simp only[BV.er]at h1 |-
    exact TE.sliceCut ho (Qq he) hz h1 (Ze L hk) (Ze L hm) rfl (Wi hL hc hb.2) (by rw[AX];exact hkl)
   .simp at h
  .simp at h
 .rename_i n u a b e hx he
  split at h
  .rename_i t l q es hc hz
   split at h
   .rename_i hb
    simp only[bae]at hb
    have:=nbe hb.1;subst this
    split at h
    .rename_i lo
     obtain⟨k,hk,h⟩:=VO h
     obtain⟨hkl,h⟩:=QiD h
     refine⟨_,h,.val (hp1 hc) fun L hL=>?_⟩
     have h1:=Qg L hx
     simp only[BV.er]at h1 |-
     exact TE.sliceView2 ho (Qq he) hz h1 (QhO hk L) (by simp[optB]) (Wi hL hc hb.2) (EK hkl) (AN _) (.inr (.inr hkl))
    .rename_i hi
     obtain⟨m,hm,h⟩:=VO h
     obtain⟨hml,h⟩:=ZY h
     refine⟨_,h,.val (hp1 hc) fun L hL=>?_⟩
     have h1:=Qg L hx
     simp at h1 |-
     exact TE.sliceView2 (k:=0) ho (Qq he) hz h1 (by simp[optB]) (QhO hm L) (Wi hL hc hb.2) (BL _) hml (.inr (.inl rfl))
    .simp at h
   .simp at h
  .simp at h
 .simp at h
def Qzl(h:Qvo P T=some cs)(hp:cs.all BV.isP=true):Qag P T=some (pvL cs):=by
 unfold Qag
 rw[Qlc (fun _ _=>0) h]
 simp only
 exact Qpl _ hp
def QvW(ho:o.op=.call { callee:=.builtin .clear,args:=#[x],argTypes:=ats })(hat:ats[0]?=some T)(h:QvV P rd hs K T x=some r):Does P o rd hs K r:=by
 unfold QvV at h
 split at h
 case h_2=>simp at h
 rename_i n u i hi e hx he
 split at h
 case h_2=>simp at h
 rename_i t l q es zs hc hz hzs
 split at h
 case isFalse=>simp at h
 rename_i hb
 simp only[bae]at hb
 have:=nbe hb.1.1.1;subst this
 obtain⟨hih,h⟩:=ZY h
 obtain⟨hil,h⟩:=ZY h
 obtain⟨z,rest,hle,h⟩:=Qd0 t h
 split at h
 case h_2=>simp at h
 refine⟨_,h,.wrArrV hc (by simp;omega) fun L hL=>?_⟩
 have h1:=Qg L hx
 have hlen:L n u=l.length:=by rw[nbe hb.2];exact hL n t l q hc
 simp only[BV.er,erL]at h1 |-
 have hcs:=Qor hle hb.1.2
 refine TE.arrLe (TE.clearView (P:=P) (rows:=l.map (tcells t)) (i:=i) (m:=hi) ho hat (Qq he) hz (Qzl hzs hb.1.2) (by rw[Qdz];exact nbe hb.1.1.2) h1 (Wi hL hc hb.2) hih (by rw[AX];exact hil) rfl) ?_
 rw[Aq,Aq,Bh,CM,Ep]
 refine Xo.append (Xo.append (Xo.refl _) (Xo.V Ob fun j a b ha hb=>?_)) (Xo.refl _)
 grind
def Qyq(ho:o.op=.call { callee:=.builtin .copy,args:=#[x,y],argTypes:=#[T,T] })(h:QAy P rd hs K T x y=some r):Does P o rd hs K r:=by
 unfold QAy at h
 split at h
 case h_2=>simp at h
 rename_i n u i hi m v j hj e hx hy he
 split at h
 case h_2=>simp at h
 rename_i t l q es hc hz
 split at h
 case isFalse=>simp at h
 rename_i hb
 simp only[bae]at hb
 have:=nbe hb.1.1.1;subst this
 have:=nbe hb.1.2;subst this
 replace h:=Qgo h
 obtain⟨e1,h⟩:=h
 subst e1
 replace h:=Qgo h
 obtain⟨e2,h⟩:=h
 subst e2
 obtain⟨hil,h⟩:=ZY h
 obtain⟨hji,h⟩:=ZY h
 have huv:v=u:=by rw[nbe hb.1.1.2,nbe hb.2]
 subst huv
 refine⟨_,h,.wrArrV hc (by simp;omega) fun L hL=>?_⟩
 have h1:=Qg L hx
 have h2:=Qg L hy
 have hlen:L n v=l.length:=by rw[nbe hb.2];exact hL n t l q hc
 simp only[BV.er]at h1 h2 |-
 exact TE.copyView (rows:=l.map (tcells t)) ho rfl (Qq he) hz (by rw[h1,hlen]) (by rw[h2,hlen]) (Wi hL hc hb.2) (by rw[AX];exact hil) hji (by rw[Aq,Bh,Bh,CM,AX]) (by rw[AX])
def QtF(h:isK P T=true):∃K E,P.underlying T=some (.map K E)/\P.underlying K=some .string/\Qvp P E=some (.bool false):=by
 unfold isK at h
 grind
def Qq3(k):∀es:Y (AJ×AH),(Qkz k (es.map fun p=>(p.1,Value.bool p.2))).getD (.bool false)=.bool (memB k es)
 |[]=>rfl
 |p::r=>by
  simp only[AU,Qkz,memB]
  split
  .rfl
  .exact Qq3 k r
def Qqu(k):∀es:Y (AJ×AH),cntB k es=0->Qkz k (es.map fun p=>(p.1,Value.bool p.2))=none
 |[],_=>rfl
 |p::r,h=>by
  simp only[cntB]at h
  simp only[AU,Qkz]
  split at h
  .omega
  .rename_i e;rw[iA e];exact Qqu k r h
def Inv.sm(hL:Inv L hs):Inv L ((n,.sm es)::hs):=fun m t l u hm=>by
 simp only[X]at hm
 split at hm
 .cases hm
 .exact hL m t l u hm
def Qr9(ho:o.op=.makeMap T none)(h:Qoz P K o.dst T=some r):Does P o rd hs K r:=by
 unfold Qoz at h
 split at h
 .rename_i d hd
  split at h
  .refine⟨_,h,fun _ _ h=>by simp at h,fun L hL=>⟨L,fun _ _ _ _=>rfl,Inv.sm hL,?_⟩⟩
   have:=TE.makeMap (P:=P) (o:=o) (rd:=erT L rd) (n:=1000+d) ho
   simpa only[BV.er,erH,AU,Al,BO.er]using this
  .simp at h
 .simp at h
def Quk(ho:o.op=.lookup T x y false)(h:Qr8 P rd hs K T x y=some r):Does P o rd hs K r:=by
 unfold Qr8 at h
 split at h
 .rename_i n k hx hy
  split at h
  .rename_i es hc
   split at h
   .rename_i hk
    obtain⟨Kt,E,h1,h2,h3⟩:=QtF hk
    refine⟨_,h,.val (hp1 hc) fun L hL=>?_⟩
    have k1:=Qg L hx
    have k2:=Qg L hy
    simp only[BV.er]at k1 k2 |-
    exact TE.lookup ho h1 h2 h3 k1 k2 (Qq3 k es) rfl
   .simp at h
  .simp at h
 .simp at h
def Qyv(ho:o.op=.mapUpdate T x y z)(h:QAH P rd hs K o.dst T x y z=some r):Does P o rd hs K r:=by
 unfold QAH at h
 split at h
 .rename_i n k v hd hx hy hz
  split at h
  .rename_i es hc
   split at h
   .rename_i hk
    obtain⟨Kt,E,h1,h2,h3⟩:=QtF hk
    obtain⟨h0,h⟩:=Qgo h
    refine⟨_,h,hp1 hc,fun L hL=>⟨L,fun _ _ _ _=>rfl,Inv.sm hL,?_⟩⟩
    have k1:=Qg L hx
    have k2:=Qg L hy
    have k3:=Qg L hz
    simp only[BV.er]at k1 k2 k3 |-
    have:=TE.putS (P:=P) (o:=o) (rd:=erT L rd) hd (.inl ho) h1 h2 k1 k2 k3 (Qqu k es h0) (by rw[show es.map (fun p=>(p.1,Value.bool p.2))++[(k,Value.bool v)]=(es++[(k,v)]).map fun p=>(p.1,Value.bool p.2)from by simp])
    simpa only[erH,AU,Al,BO.er]using this
   .simp at h
  .simp at h
 .simp at h
def QyJ(h:QA6 x=true)(L):Qhg (x.er L)=true:=by
 cases x<;>simp only[QA6,BV.er,Qhg,Bj]at h |-
def Qyr(ho:o.op=.makeFunc fn first caps)(h:QAz rd K fn first caps=some r):Does P o rd hs K r:=by
 unfold QAz at h
 split at h
 .rename_i cs hf hcs
  split at h
  .rename_i hall
   refine⟨_,h,.ev fun L _=>?_⟩
   simp only[BV.er]
   refine TE.makeFunc ho (by rw[hf];rfl) (Qfy L hcs) rfl ?_
   rw[UG,EJ]
   exact AW.2 fun c hc=>QyJ (AW.1 hall c hc) L
  .simp at h
 .simp at h
def QjO:∀{cs:Y BV} {i:Nat} {k:Nat->BV->I R},QuP c cs i k=some r->∃j v,cs[j]?=some v/\c=((i+j:Nat):Int)/\k (i+j) v=some r
 |[],i,k,h=>by simp[QuP]at h
 |v::q,i,k,h=>by
  simp only[QuP]at h
  rcases Qik h with⟨e,h⟩|⟨e,h⟩
  .exact⟨0,v,rfl,by simpa using e,h⟩
  .obtain⟨j,v',h1,h2,h3⟩:=QjO h
   exact⟨j+1,v',by simpa using h1,by rw[h2];congr 1;omega,by rw[show i+(j+1)=i+1+j by omega];exact h3⟩
def Quj(ho:o.op=.index T x y)(h:Qr7 P rd K T x y=some r):Does P o rd hs K r:=by
 unfold Qr7 at h
 split at h
 .rename_i cs k j len e hx hy hT
  split at h
  .rename_i hb
   simp only[bae]at hb
   have:=QeT hb.1.1;subst this
   split at h
   .rename_i hz
    obtain⟨i,v,h1,h2,h⟩:=QjO h
    refine⟨_,h,.ev fun L _=>?_⟩
    have k1:=Qg L hx
    have k2:=Qg L hy
    simp only[BV.er,h2,Ah]at k1 k2
    have hi:=(Az.1 h1).1
    exact TE.indexV ho hT hz hb.1.2 k1 k2 (by rw[nbe hb.2];exact hi) (by rw[QjA,h1];rfl)
   .simp at h
  .simp at h
 .simp at h
def Qqi(ho:o.op=.indexAddr T x y)(h:Qlm P rd hs K T x y=some r):Does P o rd hs K r:=by
 unfold Qlm at h
 split at h
 .rename_i n k k' j len e hx hy hT
  split at h
  .rename_i cells es hc hz
   obtain⟨i,v,h1,h2,h⟩:=QjO h
   refine⟨_,h,.val (hp1 hc) fun L _=>?_⟩
   have k1:=Qg L hx
   simp only[BV.er]at k1 |-
   rw[Ah]at h2
   have hi:=(Az.1 h1).1
   rw[Cn]at hi
   exact TE.indexArr ho hT hz k1 (Ze L hy) h2 hi (by rw[Ah])
  .simp at h
 .simp at h
def QoW(L):∀{cs:Y BV} {l:Y Int},Qsm cs=some l->erL L cs=l.map fun a=>.p (.v (.int .i64 a))
 |[],l,h=>by simp only[Qsm,AP]at h;subst h;simp only[erL,Al]
 |c::r,l,h=>by
  cases c with
  |n k x=>
   simp only[Qsm]at h
   split at h
   .rename_i hk
    have:=QeT hk;subst this
    split at h
    .rename_i l' hl;cases h;simp only[erL,BV.er,AU,QoW L hl]
    .simp at h
   .simp at h
  |_=>simp[Qsm]at h
def QAF(ho:o.op=.binOp op T x (.const (.slice none 0 0)) T')(hx:ZW rd x=some v)(h:bNil P K op T v=some r):Does P o rd hs K r:=by
 unfold bNil at h
 split at h
 .rename_i q e f t l hq he
  rcases Qq7 h with⟨_,h⟩|⟨hl,h⟩
  .refine⟨_,h,.ev fun L _=>?_⟩
   have h1:=Qg L hx
   simp only[BV.er]at h1 |-
   exact TE.eqNilU ho hq (Qq he) h1
  .refine⟨_,h,.ev fun L _=>?_⟩
   have h1:=Qg L hx
   simp only[BV.er]at h1 |-
   exact TE.eqNilN ho hq (Qq he) h1 (by simpa using hl)
 .rename_i q e hq he
  refine⟨_,h,.ev fun L _=>?_⟩
  have h1:=Qg L hx
  simp only[BV.er]at h1 |-
  exact TE.eqNilU ho hq (Qq he) h1
 .simp at h
def Qyo(ho:o.op=.binOp op T x y T')(h:QAu P rd K op T x y=some r):Does P o rd hs K r:=by
 unfold QAu at h
 split at h
 .rename_i a b hx hy
  unfold bCmp at h
  split at h
  .rename_i p q hp hq
   split at h
   .rename_i hb
    simp only[bae]at hb
    have k1:∀L,Qi (erT L rd) x=some (.agg (p.map fun a=>.p (.v (.int .i64 a)))):=fun L=>by have:=Qg L hx;rw[this];simp only[BV.er,QoW L hp]
    have k2:∀L,Qi (erT L rd) y=some (.agg (q.map fun a=>.p (.v (.int .i64 a)))):=fun L=>by have:=Qg L hy;rw[this];simp only[BV.er,QoW L hq]
    split at h
    .exact⟨_,h,.ev fun L _=>by simp only[BV.er];exact TE.eqlInts ho hb.1 hb.2 (k1 L) (k2 L) rfl⟩
    .exact⟨_,h,.ev fun L _=>by simp only[BV.er];exact TE.neqInts ho hb.1 hb.2 (k1 L) (k2 L) rfl⟩
    .simp at h
   .simp at h
  .simp at h
 .rename_i v hx hy
  split at h
  .rename_i hn
   unfold nilO at hn
   split at hn
   .exact QAF ho hx h
   .simp at hn
  .simp at h
 .exact QAv ho h
end
end
section
open Go
variable {hs hs':HS}
section
variable {R:Type} (P:AF) (ty:AD->I TC) (rd:TS) (hs:HS) (K:BEff->I R)
def bMax(x y:AC):I R:=match ZW rd x,ZW rd y with
 |some (.n k a),some (.n k' b)=>if kEq .i64 k && kEq .i64 k' then K (ev (.n .i64 (max a b)))else none
 |_,_=>none
def bMin(x y:AC):I R:=match ZW rd x,ZW rd y with
 |some (.n k a),some (.n k' b)=>if kEq .i64 k && kEq .i64 k' then K (ev (.n .i64 (min a b)))else none
 |_,_=>none
def QvT(d:I Nat)(c:Call):I R:=match c.callee,c.args.toList,c.argTypes.toList with
 |.builtin .len,[x],[T]=>bLen P rd hs K T x
 |.builtin .append,[x,y],[T,T']=>if Nat.beq T T' then Qr4 P ty rd hs K d T x y else none
 |.builtin .max,[x,y],_=>bMax rd K x y
 |.builtin .min,[x,y],_=>bMin rd K x y
 |.builtin .clear,[x],[T]=>QvV P rd hs K T x
 |.builtin .copy,[x,y],[T,T']=>if Nat.beq T T' then QAy P rd hs K T x y else none
 |_,_,_=>none
def QBa:Y (Nat×AC)->AH
 |[(_,.const (.int .i64 (.ofNat 0)))]=>true
 |_=>false
def Qll(d:I Nat)(T:AD)(len:Nat)(parts:Array (Nat×AC)):I R:=match d,W9 P T with
 |some d,some e=>match ty e,Zl P e,Qag P e with
  |some t,some es,some zr=>if Nat.beq es (tz t) && Nat.ble 1 es && Nat.beq zr.length es && Nat.ble (len*es) 16777216 then Qu9 rd t parts.toList 0 len fun l=>K ⟨[],.own (1000+d) 0,[(1000+d,.TI t l 0)],[1000+d],[]⟩else none
  |_,_,_=>none
 |_,_=>none
def Qx9:(t:TC)->Y PV->I (TT t)
 |.int,[.v (.int .i64 (.ofNat 0))]=>some (0:Int)
 |.bool,[.v (.bool false)]=>some false
 |_,_=>none
def QAC(d:I Nat)(T:AD)(x y:AC):I R:=match d,W9 P T,x,y,ZW rd x with
 |some d,some e,.tmp s,.tmp s',some (.n .i64 j)=>match ty e,Zl P e,Qag P e,Qlr P e with
  |some t,some es,some zr,some b=>match Qx9 t zr with
   |some z=>if Nat.beq es (tz t) && Nat.beq s s' && Nat.ble 1 es && Nat.beq zr.length es && Nat.ble b 4096 then TK j fun k=>TO k 1048576 (K ⟨[],.own (1000+d) 0,[(1000+d,.TI t (List.replicate k z) 0)],[1000+d],[]⟩)else none
   |none=>none
  |_,_,_,_=>none
 |_,_,_,_,_=>none
def bop(o:Oper):I R:=match o.op with
 |.move x=>bVal rd K x
 |.assign x=>bVal rd K x
 |.pick c x y=>QAG rd K c x y
 |.alloc T=>QvP P K o.dst T
 |.box _ x=>bBox rd K o.dst x
 |.build T parts=>QvR P rd K T parts
 |.buildSlice T len parts=>if QBa parts.toList then Qll P ty rd K o.dst T len parts else Qhv P ty rd K T len parts
 |.load T x=>QAB P rd hs K T x
 |.store T x y=>Qv1 P rd hs K o.dst T x y
 |.fieldAddr zI x i=>Qju P rd hs K zI x i
 |.nilCheck x=>Qln rd hs K x
 |.binOp op T x y _=>QAu P rd K op T x y
 |.unOp op _ x=>bUn rd K op x
 |.field T x i=>QvX P rd K T x i
 |.extract x i=>Qow rd K x i
 |.indexAddr T x y=>match P.underlying T with
  |some (.array _ _)=>Qlm P rd hs K T x y
  |_=>Qjv P rd hs K T x y
 |.index T x y=>match P.underlying T with
  |some (.array _ _)=>Qr7 P rd K T x y
  |_=>Qr6 P rd K T x y
 |.convert zI T x=>QAx P rd K zI T x
 |.slice T x lo hi mx=>QvZ P rd hs K T x lo hi mx
 |.makeFunc fn first caps=>QAz rd K fn first caps
 |.makeMap T none=>Qoz P K o.dst T
 |.makeSlice T x y=>QAC P ty rd K o.dst T x y
 |.lookup T x y false=>Qr8 P rd hs K T x y
 |.mapUpdate T x y z=>QAH P rd hs K o.dst T x y z
 |.call c=>QvT P ty rd hs K o.dst c
 |_=>none
end
section
variable {R:Type} {P:AF} {ty:AD->I TC} {rd:TS} {K:BEff->I R}
def QmP{K:Y (TT t0)->I R}(h:srcB t0 y K=some r):∃f l,y=.ts f t0 l/\K l=some r:=by
 unfold srcB at h
 split at h
 .split at h
  .rename_i he;subst he;exact⟨_,_,rfl,h⟩
  .simp at h
 .simp at h
def Qqh(ho:o.op=.buildSlice T len parts)(h:Qll P ty rd K o.dst T len parts=some r):Does P o rd hs K r:=by
 unfold Qll at h
 split at h
 .rename_i d e hd he
  split at h
  .rename_i t es zr h0 h1 h2
   split at h
   .rename_i hb
    simp only[bae]at hb
    obtain⟨l,g1,g2,g3⟩:=QjW h
    have hes:=nbe hb.1.1.1
    subst hes
    refine⟨_,g1,.new (fun L m u=>if m=1000+d then l.length else L m u) (fun L m u hm=>iA hm) (fun L _ t' l2 u hl=>by cases hl;exact iB rfl) fun L hL=>?_⟩
    obtain⟨rows,k1,k2⟩:=g3 L [] (List.replicate len zr) rfl (by rw[Cn];omega)
    simp at k1
    simp only[BV.er,BO.er,if_true]
    have hl:rows.length=l.length:=by have:=k2.length;rwa [AX]at this
    exact(TE.buildOwn ho he h1 hb.1.1.2 h2 (nbe hb.1.2) hb.2 k1 hl).arrLe k2
   .simp at h
  .simp at h
 .simp at h
def Qya:∀{t:TC} {zr:Y PV} {z:TT t},Qx9 t zr=some z->zr=tcells t z:=by
 intro t zr z h
 unfold Qx9 at h
 split at h
 .cases h;rfl
 .cases h;rfl
 .simp at h
def Qyt(ho:o.op=.makeSlice T x y)(h:QAC P ty rd K o.dst T x y=some r):Does P o rd hs K r:=by
 unfold QAC at h
 split at h
 .rename_i d e s s' j hd he hx
  split at h
  .rename_i t es zr b h0 h1 h2 h3
   split at h
   .rename_i z hz
    split at h
    .rename_i hb
     simp only[bae]at hb
     have:=nbe hb.1.1.1.2
     subst this
     have hes:=nbe hb.1.1.1.1
     subst hes
     obtain⟨k,hk,h⟩:=Qa1 h
     obtain⟨hle,h⟩:=ZY h
     refine⟨_,h,.new (fun L m u=>if m=1000+d then k else L m u) (fun L m u hm=>iA hm) (fun L _ t' l2 u hl=>by cases hl;rw[Cn];exact iB rfl) fun L hL=>?_⟩
     simp only[BV.er,BO.er,if_true]
     exact TE.makeOwn ho he h1 h3 hb.1.1.2 h2 (nbe hb.1.2) (Ze L hx) (Ze L hx) hk hle hb.2 (by rw[Ep,<-Qya hz]) rfl
    .simp at h
   .simp at h
  .simp at h
 .simp at h
def Quh(ho:o.op=.call { callee:=.builtin .append,args:=#[x,y],argTypes:=#[T,T] })(h:Qr4 P ty rd hs K o.dst T x y=some r):Does P o rd hs K r:=by
 have hlim:∀{a b bytes:Nat},a+b<=34359738368->Nat.ble bytes 4096=true->(a+b)*bytes<=140737488355328/\a+b<=140737488355328:=fun{a b bytes} h1 h2=>by
  have:=Nat.mul_le_mul h1 (Am h2)
  omega
 unfold Qr4 at h
 split at h
 .rename_i n u v e hx hy he
  split at h
  .rename_i t l q es bytes hc hz hby
   split at h
   .rename_i hb
    simp only[bae]at hb
    have:=nbe hb.1.1.1;subst this
    have hq:=hb.2
    have hb:=hb.1
    obtain⟨f,l',hv,h0⟩:=QmP h
    subst hv;clear h
    obtain⟨hle,h⟩:=ZY h0
    refine⟨_,h,hp1 hc,fun L hL=>?_⟩
    let L':Lens:=fun m u=>if m=n/\u=q+1 then(l++l').length else L m u
    have hn:L' n (q+1)=(l++l').length:=iB ⟨rfl,rfl⟩
    refine⟨L',fun m u _ hm=>iA (by simpa using hm),fun m t2 l2 u2 hm=>?_,?_⟩
    .simp only[BE,BU,X]at hm
     split at hm
     .grind
     .rename_i e;show(if m=n/\u2=q+1 then _ else L m u2)=_;rw[iA (fun h=>e h.1.symm)];exact hL m t2 l2 u2 hm
    .have h1:=Qg L hx
     have h2:=Qg L hy
     simp only[BV.er]at h1 h2 |-
     rw[hn]
     have hlm:(l.map (tcells t)).length+(l'.map (tcells t)).length<=34359738368:=by simpa using hle
     exact TE.appendOwn ho rfl he hb.1.2 h1 (Wi hL hc hq) h2 (by rw[<-Aq]) (by rw[AX]) (hlim hlm hb.2).1 (hlim hlm hb.2).2
   .simp at h
  .simp at h
 .rename_i n u k m v a b e hx hy he
  split at h
  .rename_i d t l q es bytes hd hc hz hby
   split at h
   .rename_i hb
    simp only[bae]at hb
    obtain⟨⟨⟨⟨⟨b1,b2⟩,b3⟩,b4⟩,b5⟩,b6⟩:=hb
    have:=nbe b1;subst this
    have:=nbe b2;subst this
    have:=nbe b3;subst this
    have:=nbe b4;subst this
    obtain⟨hk,h⟩:=ZY h
    obtain⟨hbl,h⟩:=ZY h
    obtain⟨hab,h⟩:=ZY h
    have hm:∀{c:Nat},c<=l.length->c<=(l.map (tcells t)).length:=fun h=>by rw[AX];exact h
    rcases Qq7 h with⟨h0,h⟩|⟨h0,h⟩
    .refine⟨_,h,.val (hp1 hc) fun L hL=>?_⟩
     have h1:=Qg L hx
     have h2:=Qg L hy
     simp only[BV.er]at h1 h2 |-
     exact TE.appendCut0 ho he b5 h1 h2 (Wi hL hc (B3 _)) (hm hk) (hm hbl) hab (by rw[<-Bh,<-CM,h0];rfl)
    .obtain⟨hle,h⟩:=ZY h
     have hle':(l.take k++(l.take b).drop a).length*bytes<=140737488355328:=by
      simp_all
     refine⟨_,h,hp1 hc,fun L hL=>?_⟩
     let L':Lens:=fun m u=>if m=1000+d then(l.take k++(l.take b).drop a).length else L m u
     refine⟨L',fun m u hm _=>iA (by simpa using hm),fun m t2 l2 u2 hm=>?_,?_⟩
     .simp only[BE,BU,X]at hm
      split at hm
      .grind
      .rename_i e;show(if m=1000+d then _ else L m u2)=_;rw[iA (Ag e)];exact hL m t2 l2 u2 hm
     .have h1:=Qg L hx
      have h2:=Qg L hy
      have hn:L' (1000+d) 0=(l.take k++(l.take b).drop a).length:=iB rfl
      simp only[BV.er]at h1 h2 |-
      rw[hn]
      exact TE.appendCut ho he b5 h1 h2 (Wi hL hc (B3 _)) (hm hk) (hm hbl) hab (by rw[<-Bh,<-CM];simpa using h0) (by rw[<-Bh,<-Bh,<-CM,<-Aq]) (by rw[AX]) (by rw[AX];exact hle') (by rw[AX];omega)
   .simp at h
  .simp at h
 .rename_i v e hx hy he
  split at h
  .rename_i d t es bytes hd hty hz hby
   split at h
   .rename_i hb
    simp only[bae]at hb
    have:=nbe hb.1.1.1;subst this
    obtain⟨f,l',hv,h0⟩:=QmP h
    subst hv;clear h
    obtain⟨hle,h⟩:=ZY h0
    refine⟨_,h,.new (fun L m u=>if m=1000+d then l'.length else L m u) (fun L m u hm=>iA hm) (fun L _ t' l2 u hl=>by cases hl;exact iB rfl) fun L hL=>?_⟩
    have h1:=Qg L hx
    have h2:=Qg L hy
    simp only[BV.er,BO.er,if_true]at h1 h2 |-
    have hlm:([]:Y (Y PV)).length+(l'.map (tcells t)).length<=34359738368:=by simpa using hle
    exact TE.appendNew ho rfl he hb.1.1.2 hb.2 h1 h2 (BU _) (by rw[AX]) (.inl rfl) (hlim hlm hb.1.2).1 (hlim hlm hb.1.2).2
   .simp at h
  .simp at h
 .rename_i t l v e hx hy he
  split at h
  .rename_i d es bytes hd hz hby
   split at h
   .rename_i hb
    simp only[bae]at hb
    have:=nbe hb.1.1.1;subst this
    obtain⟨f,l',hv,h0⟩:=QmP h
    subst hv;clear h
    split at h0
    .obtain⟨hle,h⟩:=ZY h0
     refine⟨_,h,.new (fun L m u=>if m=1000+d then l'.length else L m u) (fun L m u hm=>iA hm) (fun L _ t' l2 u hl=>by cases hl;exact iB rfl) fun L hL=>?_⟩
     have h1:=Qg L hx
     have h2:=Qg L hy
     simp only[BV.er,BO.er,if_true,Al]at h1 h2 |-
     have hlm:([]:Y (Y PV)).length+(l'.map (tcells t)).length<=34359738368:=by simpa using hle
     exact TE.appendNew ho rfl he hb.1.1.2 hb.2 h1 h2 (BU _) (by rw[AX]) (.inl rfl) (hlim hlm hb.1.2).1 (hlim hlm hb.1.2).2
    .rename_i y0 q0
     split at h0
     .simp at h0
     .rename_i z q
      obtain⟨hle,h⟩:=ZY h0
      refine⟨_,h,.new (fun L m u=>if m=1000+d then(y0::q0++z::q).length else L m u) (fun L m u hm=>iA hm) (fun L _ t' l2 u hl=>by cases hl;exact iB rfl) fun L hL=>?_⟩
      have h1:=Qg L hx
      have h2:=Qg L hy
      simp only[BV.er,BO.er,if_true]at h1 h2 |-
      have hlm:((y0::q0).map (tcells t)).length+((z::q).map (tcells t)).length<=34359738368:=by simpa using hle
      exact TE.appendNew ho rfl he hb.1.1.2 hb.2 h1 h2 (by rw[<-Aq]) (by rw[AX]) (.inr ⟨Ob,rfl⟩) (hlim hlm hb.1.2).1 (hlim hlm hb.1.2).2
   .simp at h
  .simp at h
 .simp at h
def Qyp(ho:o.op=.convert zI T x)(h:QAx P rd K zI T x=some r):Does P o rd hs K r:=by
 unfold QAx at h
 split at h
 .rename_i k a k' hx hT
  split at h
  .rename_i hS
   refine⟨_,h,.ev fun L _=>?_⟩
   simp only[BV.er];exact TE.convI ho hS hT (Ze L hx) rfl
  .simp at h
 .simp at h
def Qui(ho:o.op=.index T x y)(h:Qr6 P rd K T x y=some r):Does P o rd hs K r:=by
 unfold Qr6 at h
 split at h
 .rename_i t k j hx hy hT
  obtain⟨i,hj,h⟩:=Qa1 h
  obtain⟨hlt,h⟩:=QiD h
  refine⟨_,h,.ev fun L _=>?_⟩
  simp only[BV.er];exact TE.indexS ho hT (Qfx L hx) (Ze L hy) hj hlt
 .simp at h
def QAD(ho:o.op=.call { callee:=.builtin .max,args:=#[x,y],argTypes:=ats })(h:bMax rd K x y=some r):Does P o rd hs K r:=by
 unfold bMax at h
 split at h
 .rename_i k a k' b hx hy
  split at h
  case isFalse=>simp at h
  rename_i hk
  simp at hk
  have h1:=QeT hk.1;subst h1
  have h2:=QeT hk.2;subst h2
  refine⟨_,h,.ev fun L _=>?_⟩
  simp only[BV.er];exact TE.maxI ho (Ze L hx) (Ze L hy) rfl
 .simp at h
def QAE(ho:o.op=.call { callee:=.builtin .min,args:=#[x,y],argTypes:=ats })(h:bMin rd K x y=some r):Does P o rd hs K r:=by
 unfold bMin at h
 split at h
 .rename_i k a k' b hx hy
  split at h
  case isFalse=>simp at h
  rename_i hk
  simp at hk
  have h1:=QeT hk.1;subst h1
  have h2:=QeT hk.2;subst h2
  refine⟨_,h,.ev fun L _=>?_⟩
  simp only[BV.er];exact TE.minI ho (Ze L hx) (Ze L hy) rfl
 .simp at h
def QvU(ho:o.op=.call c)(h:QvT P ty rd hs K o.dst c=some r):Does P o rd hs K r:=by
 obtain⟨callee,args,ats⟩:=c
 obtain⟨args⟩:=args
 obtain⟨ats⟩:=ats
 unfold QvT at h
 split at h
 .rename_i x T h1 h2 h3
  simp only at h1 h2 h3
  subst h1;subst h2;subst h3
  exact QAA ho rfl h
 .rename_i x y T T' h1 h2 h3
  simp only at h1 h2 h3
  subst h1;subst h2;subst h3
  split at h
  .rename_i hT
   have:=nbe hT;subst this
   exact Quh ho h
  .simp at h
 .rename_i x y h1 h2
  simp only at h1 h2
  subst h1;subst h2
  exact QAD ho h
 .rename_i x y h1 h2
  simp only at h1 h2
  subst h1;subst h2
  exact QAE ho h
 .rename_i x T h1 h2 h3
  simp only at h1 h2 h3
  subst h1;subst h2;subst h3
  exact QvW ho rfl h
 .rename_i x y T T' h1 h2 h3
  simp only at h1 h2 h3
  subst h1;subst h2;subst h3
  split at h
  .rename_i hT
   have:=nbe hT;subst this
   exact Qyq ho h
  .simp at h
 .simp at h
def QCg(h:bop P ty rd hs K o=some r):Does P o rd hs K r:=by
 unfold bop at h
 split at h
 .rename_i ho;exact Qv3 (.inl ho) h
 .rename_i ho;exact Qv3 (.inr ho) h
 .rename_i ho;exact Qyu ho h
 .rename_i ho;exact QvQ ho h
 .rename_i ho;exact QAw ho h
 .rename_i ho;exact QvS ho h
 .rename_i ho
  split at h
  .exact Qqh ho h
  .exact Qm7 ho h
 .rename_i ho;exact Qys ho h
 .rename_i ho;exact Qv2 ho h
 .rename_i ho;exact Qox ho h
 .rename_i ho;exact Qqj ho h
 .rename_i ho;exact Qyo ho h
 .rename_i ho;exact QCd ho h
 .rename_i ho;exact QvY ho h
 .rename_i ho;exact Qr5 ho h
 .rename_i ho
  split at h
  .exact Qqi ho h
  .exact Qoy ho h
 .rename_i ho
  split at h
  .exact Quj ho h
  .exact Qui ho h
 .rename_i ho;exact Qyp ho h
 .rename_i ho;exact Qv0 ho h
 .rename_i ho;exact Qyr ho h
 .rename_i ho;exact Qr9 ho h
 .rename_i ho;exact Qyt ho h
 .rename_i ho;exact Quk ho h
 .rename_i ho;exact Qyv ho h
 .rename_i ho;exact QvU ho h
 .simp at h
end
end
section
def Qza(nw:Y Name)(upd:HS)(ts:TS)(hs:HS):AH:=nw.all fun n=>(X n hs).isNone && Qe2 n ts hs && (keys upd).contains n
def QC2(nv:Y (Name×Nat))(ts:TS)(hs:HS):AH:=nv.all fun p=>novS p.1 p.2 ts hs
def TX(d:I Nat)(v:BV)(ts:TS):TS:=match d with
 |some d=>(d,v)::ts
 |none=>ts
def goE1(nn:Nat)(d:I Nat)(ts:TS)(hs:HS)(K:BEff->TS->HS->I R)(e:BEff):I R:=
 if Qza e.nw e.upd ts hs && Qcv nn d && QC2 e.nv ts hs then K e (TX d e.v ts) (e.upd++hs)else none
def goE(sp:AH)(nn:Nat)(d:I Nat)(ts:TS)(hs:HS)(K:BEff->TS->HS->I R)(e:BEff):I R:=match e with
 |⟨hp,.b q,upd,nw,nv⟩=>match sp with
  |true=>C q (goE1 nn d ts hs K ⟨hp,.b true,upd,nw,nv⟩) (goE1 nn d ts hs K ⟨hp,.b false,upd,nw,nv⟩)
  |false=>goE1 nn d ts hs K ⟨hp,.b q,upd,nw,nv⟩
 |e=>goE1 nn d ts hs K e
def QyQ{L:Lens}{ts:TS}{hs:HS}{rd:TS}{e:BEff}{L':Lens}(hrd:∀t v,(t,v)∈rd->X t ts=some v)(hhp:∀n ob,(n,ob)∈e.hp->X n hs=some ob)(hnw:Qza e.nw e.upd ts hs=true):
  (BS L ts hs).holds ⟨erT L rd,erH L e.hp,e.v.er L',erH L' e.upd,e.nw⟩:=by
 refine⟨fun t x hx=>?_,fun n ob hn=>?_,fun n hn=>?_⟩
 .simp only[erT,BQ]at hx
  obtain⟨⟨t',v⟩,hm,he⟩:=hx
  cases he
  rw[XJ,hrd _ v hm];rfl
 .simp only[erH,BQ]at hn
  obtain⟨⟨t',v⟩,hm,he⟩:=hn
  cases he
  rw[XI,hhp _ v hm];rfl
 .have:=AW.1 hnw n hn
  simp only[bae,Bk]at this
  refine⟨by rw[XI,this.1.1];rfl,QhE ?_⟩
  rw[Qd9];exact this.1.2
structure Step (P:AF) (o:Oper) (rd:TS) (L:Lens) (ts:TS) (hs:HS) (e:BEff) (L':Lens):Prop where
 rds:∀t v,(t,v)∈rd->X t ts=some v
 hps:∀n ob,(n,ob)∈e.hp->X n hs=some ob
 new:Qza e.nw e.upd ts hs=true
 inv:Inv L' (e.upd++hs)
 ets:erT L ts=erT L' ts
 ehs:erH L hs=erH L' hs
 ok:TE P o ⟨erT L rd,erH L e.hp,e.v.er L',erH L' e.upd,e.nw⟩
def Qix{L:Lens}{ts:TS}{hs:HS}{R:Type}{r:R}{P:AF}{o:Oper}{rd:TS}{nn:Nat}{K:BEff->TS->HS->I R}{e:BEff}(hg:Good P o rd hs e)(hrd:∀t v,(t,v)∈rd->X t ts=some v)(h:goE1 nn o.dst ts hs K e=some r)(hi:Inv L hs):
  ∃L',Step P o rd L ts hs e L'/\Qcv nn o.dst=true/\K e (TX o.dst e.v ts) (e.upd++hs)=some r:=by
 unfold goE1 at h
 split at h
 .rename_i hb
  simp only[bae]at hb
  obtain⟨hhp,hg⟩:=hg
  obtain⟨L',hL',hi',hop⟩:=hg L hi
  obtain⟨e1,e2⟩:=Qfu (L:=L) (L':=L') (nw:=e.nw) (nv:=e.nv) (ts:=ts) (hs:=hs) (fun n hn=>by
   have:=AW.1 hb.1.1 n hn
   simp only[bae]at this
   exact this.1.2) (fun p hp=>AW.1 hb.2 p hp) hL'
  exact⟨L',⟨hrd,hhp,hb.1.1,hi',e1,e2,hop⟩,hb.1.2,h⟩
 .simp at h
def Qtx{L:Lens}{ts:TS}{hs:HS}{R:Type}{r:R}{P:AF}{o:Oper}{rd:TS}{sp:AH}{nn:Nat}{K:BEff->TS->HS->I R}{e:BEff}(hg:Good P o rd hs e)(hrd:∀t v,(t,v)∈rd->X t ts=some v)(h:goE sp nn o.dst ts hs K e=some r)(hi:Inv L hs):
  ∃L',Step P o rd L ts hs e L'/\Qcv nn o.dst=true/\K e (TX o.dst e.v ts) (e.upd++hs)=some r:=by
 unfold goE at h
 split at h
 .split at h
  .rcases Qik h with⟨rfl,h⟩|⟨rfl,h⟩
   .exact Qix hg hrd h hi
   .exact Qix hg hrd h hi
  .exact Qix hg hrd h hi
 .exact Qix hg hrd h hi
def QB6{e:BEff}(h1:erT L ts=erT L' ts)(h2:erH L hs=erH L' hs):(BS L ts hs).run d ⟨erT L0 rd,erH L0 e.hp,e.v.er L',erH L' e.upd,e.nw⟩=BS L' (TX d e.v ts) (e.upd++hs):=by
 unfold BS
 rw[Qq4,h1,h2,Qgs]
 cases d<;>rfl
def Step.go(hst:Step P o rd L ts hs e L')(hd:Qcv nn o.dst=true)(hn:Γ.n=nn)(hs0:Sim Γ ρ M (BS L ts hs) a w)(hK:∀ρ' M' a' w',Sim Γ ρ' M' (BS L' (TX o.dst e.v ts) (e.upd++hs)) a' w'->KK a' w'):o.wp P a w KK Q:=by
 refine hst.ok Γ ρ M _ a w KK Q hs0 (QyQ hst.rds hst.hps hst.new) (fun d hd'=>?_) (fun ρ' M' a' w' hs'=>hK ρ' M' a' w' ?_)
 .rw[hd']at hd;simp only[Qcv]at hd;rw[hn];exact Am hd
 .rw[QB6 hst.ets hst.ehs]at hs';exact hs'
end
open Go
abbrev Env:=I Nat->FuncId->Y BV->I Sig
def Qp9(P:AF)(E:Env):Prop:=∀d k vs g,E d k vs=some g->FnOK P k g
def Qqf(hs:HS):BV->BV
 |.own m u=>match X m hs with
  |some (.TI _ l q)=>if Nat.beq u q then .view m u 0 l.length else .own m u
  |_=>.own m u
 |x=>x
def QBY(hs:HS):SSh->BV->BV
 |.one (.view _),v=>Qqf hs v
 |_,v=>v
def Qp3(hs:HS):Y SSh->Y BV->Y BV
 |s::r,v::vs=>QBY hs s v::Qp3 hs r vs
 |_,vs=>vs
def QrS(t:Nat)(s:Y (Nat×SSh)):AH:=match X t s with
 |some (.one (.view _))=>true
 |_=>false
def QzL(hs:HS)(s:Y (Nat×SSh))(ts:TS):TS:=ts.map fun p=>(p.1,match QrS p.1 s with|true=>Qqf hs p.2|false=>p.2)
def QqX{g:Nat->BV->BV}(k):∀ts:TS,X k (ts.map fun p=>(p.1,g p.1 p.2))=(X k ts).map (g k)
 |[]=>rfl
 |(j,x)::r=>by
  simp only[AU,X]
  split
  .rename_i e;subst e;rfl
  .exact QqX k r
def Qqg(hi:Inv L hs):TW (x.er L) ((Qqf hs x).er L):=by
 cases x with
 |own m u=>
  simp only[Qqf]
  split
  .rename_i t l q hl
   split
   .rename_i e
    have:=nbe e;subst this
    simp only[BV.er,hi m t l u hl]
    exact .view m l.length
   .exact .refl _
  .exact .refl _
 |_=>exact .refl _
def QzK(hi:Inv L hs):TW (x.er L) ((QBY hs s x).er L):=by
 unfold QBY;split
 .exact Qqg hi
 .exact .refl _
def Qp4(hi:Inv L hs):∀{ss:Y SSh} {vs:Y BV},Wh (erL L vs) (erL L (Qp3 hs ss vs))
 |[],vs=>by simp only[Qp3];exact Wh.refl _
 |s::r,[]=>by simp only[Qp3];exact Wh.refl _
 |s::r,v::vs=>by simp only[Qp3,erL];exact .cons (QzK hi) (Qp4 hi)
def QzM(hi:Inv L hs)(h:X t (QzL hs s ts)=some y):∃x,X t ts=some x/\TW (x.er L) (y.er L):=by
 unfold QzL at h
 rw[QqX (g:=fun t x=>match QrS t s with|true=>Qqf hs x|false=>x)]at h
 cases hx:X t ts with
 |none=>rw[hx]at h;simp at h
 |some x=>
  rw[hx]at h
  simp only[Aa,AP]at h
  refine⟨x,rfl,?_⟩
  rw[<-h]
  split
  .exact Qqg hi
  .exact .refl _
def Qs3(km:Y Name)(hs u:HS)(n:Name):AH:=match isIn n km with
 |true=>match X n hs,X n u with
  |some (.box cs),some (.box _)=>!cs.all BV.isQ
  |_,_=>true
 |false=>true
def BEff.trim(e:BEff)(km:Y Name)(hs:HS):BEff:={ e with upd:=e.upd.filter fun p=>Qs3 km hs e.upd p.1 }
def Qry:∀{cs:Y BV},cs.all BV.isQ=true->QmI σ δ cs=cs
 |[],_=>by simp only[QmI]
 |x::r,h=>by
  simp only[BX,bae]at h
  simp only[QmI]
  rw[Qry h.2]
  congr 1
  cases x<;>first|simp only[BV.ren];done|simp[BV.isQ]at h
section
def QyB(P:AF)(E:Env)(sp:AH)(nn:Nat)(dst:I Nat)(f:FuncId)(vs:Y BV)(ts:TS)(hs:HS)(K:BEff->TS->HS->I R):I R:=
 match dst with
 |some d=>if callable P f then match E (some d) f vs with
  |some g=>SL.get g.args (Qp3 hs g.args vs) [] fun σ x=>OL.get g.pre hs σ fun σ y=>g.F R x y fun a b=>
    if Qv8 g (σ++Qc9 d g) d hs y a b then goE sp nn dst ts hs K ((Qhw g (σ++Qc9 d g) d hs y a b).trim (g.keep.map (QmK (σ++Qc9 d g))) hs)else none
  |none=>none
  else none
 |none=>none
def Qgt:n∈keys l->∃b,X n (OL.put u l y)=some b:=by
 induction l with
 |nil=>intro h;simp[keys]at h
 |cons p l ih=>
  intro h
  simp only[keys,AU,AZ]at h
  simp only[OL.put,X]
  split
  .exact⟨_,rfl⟩
  .rename_i hne
   rcases h with h|h
   .exact absurd h.symm hne
   .exact ih h
def QkY:keys (OL.put u l y)=keys l:=by
 induction l with
 |nil=>rfl
 |cons p l ih=>simp only[OL.put,keys,AU]at ih |-;rw[ih]
def Qlj:X n (OL.put u l y)=some (.TI t x v)->n∈W7 l/\v=u\/n∈Qcr l/\v=0:=by
 induction l with
 |nil=>intro h;simp[OL.put,X]at h
 |cons p l ih=>
  intro h
  obtain⟨k,o⟩:=p
  simp only[OL.put,X]at h
  split at h
  .rename_i e
   cases o with
   |box l=>simp[OSh.put]at h
   |TV t=>simp[OSh.put]at h
   |sm=>simp[OSh.put]at h
   |TI t=>subst e;simp only[OSh.put,AP]at h;cases h;exact .inl ⟨by simp[W7],rfl⟩
   |arrs t=>subst e;simp at h;cases h;exact .inr ⟨by simp[Qcr],rfl⟩
  .rcases ih h with ih|ih
   .refine .inl ⟨?_,ih.2⟩
    cases o<;>simp only[W7]<;>first|exact ih.1|exact BB _ ih.1
   .refine .inr ⟨?_,ih.2⟩
    cases o<;>simp only[Qcr]<;>first|exact ih.1|exact BB _ ih.1
def Qb4:∀{l:Y (Name×OSh)} {n:Name},n∈W7 l->n∈keys l
 |[],n,h=>by simp[W7]at h
 |(k,.TI t)::r,n,h=>by
  simp only[W7,AZ]at h
  simp only[keys,AU,AZ]
  exact h.imp id (fun h=>Qb4 h)
 |(k,.arrs t)::r,n,h=>by simp only[W7]at h;simp only[keys,AU,AZ];exact .inr (Qb4 h)
 |(k,.box t)::r,n,h=>by simp only[W7]at h;simp only[keys,AU,AZ];exact .inr (Qb4 h)
 |(k,.TV t)::r,n,h=>by simp only[W7]at h;simp only[keys,AU,AZ];exact .inr (Qb4 h)
 |(k,.sm)::r,n,h=>by simp only[W7]at h;simp only[keys,AU,AZ];exact .inr (Qb4 h)
def Ua{f:Name->AH}:∀{h:HS},X n (h.filter fun p=>f p.1)=if f n then X n h else none
 |[]=>by simp[X]
 |(k,o)::q=>by
  have ih:=Ua (f:=f) (n:=n) (h:=q)
  by_cases hk:f k=true
  .rw[Er (by simpa using hk)]
   simp only[X]
   by_cases e:k=n
   .subst e;simp[hk]
   .simp only[e,if_false,ih]
  .rw[Es (by simpa using hk),ih]
   simp only[X]
   by_cases e:k=n
   .subst e;simp[hk]
   .simp only[e,if_false]
def QkW:∀{ks:Y Name},(m,ob)∈hpOf rr hs ks->X m hs=some ob
 |[],h=>by simp[hpOf]at h
 |k::ks,h=>by
  simp only[hpOf]at h
  split at h
  .rename_i hk
   rcases AZ.1 h with h|h
   .cases h;exact hk
   .exact QkW h
  .exact QkW h
def QkV:∀{ks:Y Name},(m,ob)∈hpOf rr hs ks->∃n,n∈ks/\m=rr n
 |[],h=>by simp[hpOf]at h
 |k::ks,h=>by
  simp only[hpOf]at h
  split at h
  .rcases AZ.1 h with h|h
   .cases h;exact⟨k,Ob,rfl⟩
   .obtain⟨n,h1,h2⟩:=QkV h;exact⟨n,BB _ h1,h2⟩
  .obtain⟨n,h1,h2⟩:=QkV h;exact⟨n,BB _ h1,h2⟩
def Qdq{hs:HS}{rr:Name->Name}(hrr:∀a b,rr a=rr b->a=b){n:Name}{ob:BO}(h:X (rr n) hs=some ob):∀{ks:Y Name},n∈ks->X (rr n) (hpOf rr hs ks)=some ob
 |[],hn=>by simp at hn
 |k::ks,hn=>by
  simp only[hpOf]
  by_cases e:k=n
  .subst e;rw[h];simp only[X,if_true]
  .have hn':n∈ks:=by
    rcases AZ.1 hn with h|h;· exact absurd h.symm e
    .exact h
   split
   .simp only[X];rw[iA (fun h=>e (hrr _ _ h))];exact Qdq hrr h hn'
   .exact Qdq hrr h hn'
def QmV(h:Qs3 km hs u n=false):n∈km/\∃cs ds,X n hs=some (.box cs)/\X n u=some (.box ds)/\cs.all BV.isQ=true:=by
 unfold Qs3 at h
 split at h
 .rename_i hk
  split at h
  .rename_i cs ds h1 h2
   exact⟨Wk.1 hk,cs,ds,h1,h2,by simpa using h⟩
  .simp at h
 .simp at h
def Good.trim(h:Good P o rd hs e)(hk:∀n cs ds,n∈km->X n hs=some (.box cs)->cs.all BV.isQ=true->X n e.upd=some (.box ds)->ds=cs/\(n,.box cs)∈e.hp):Good P o rd hs (e.trim km hs):=by
 obtain⟨h1,h2⟩:=h
 refine⟨h1,fun L hL=>?_⟩
 obtain⟨L',a,b,c⟩:=h2 L hL
 have hlf:∀m,X m (e.trim km hs).upd=if Qs3 km hs e.upd m then X m e.upd else none:=fun m=>Ua (f:=Qs3 km hs e.upd)
 refine⟨L',a,fun m t l u hm=>b m t l u ?_,?_⟩
 .rw[<-hm,Z2,Z2,hlf]
  by_cases hf:Qs3 km hs e.upd m=true
  .rw[iB hf]
  .obtain⟨k0,cs,ds,k1,k2,k3⟩:=QmV (by simpa using hf)
   grind
 .intro Γ ρ M s w0 w K Q hs' hh hd hK
  refine c Γ ρ M s w0 w K Q hs' ⟨hh.rd,hh.hp,hh.nw⟩ hd fun ρ' M' a' w' hsim=>hK ρ' M' a' w' ?_
  have:s.run o.dst ⟨erT L rd,erH L (e.trim km hs).hp,(e.trim km hs).v.er L',erH L' (e.trim km hs).upd,(e.trim km hs).nw⟩=s.run o.dst ⟨erT L rd,erH L e.hp,e.v.er L',erH L' e.upd,e.nw⟩:=by
   unfold AS.run
   congr 1
   funext n
   simp only[ZP,hlf]
   by_cases hf:Qs3 km hs e.upd n=true
   .rw[iB hf]
   .obtain⟨k0,cs,ds,k1,k2,k3⟩:=QmV (by simpa using hf)
    obtain⟨k4,k5⟩:=hk n cs ds k0 k1 k3 k2
    have:=hh.hp n _ (BQ.2 ⟨_,k5,rfl⟩)
    have hp:cs.all BV.isP=true:=AW.2 fun x hx=>QBg (AW.1 k3 x hx)
    rw[iA hf,k2,k4]
    simp only[Option.map_none,Aa,this,BO.er,V9 hp]
  rw[this];exact hsim
def Qjw{L:Lens}{ts:TS}{hs:HS}{R:Type}{r:R}{P:AF}{o:Oper}{rd:TS}{E:Env}{sp:AH}{nn:Nat}{K:BEff->TS->HS->I R}{f:FuncId}{vs:Y BV}(hE:Qp9 P E)(hop:callable P f=true->∀(L:Lens) (pre h:Y (Name×AO)) (v:AV) (nw:Y Name),WT P f (erL L vs) pre v h->Qfh pre h nw v=true->TE P o ⟨erT L rd,pre,v,h,nw⟩)(hrd:∀t v,(t,v)∈rd->X t ts=some v)(h:QyB P E sp nn o.dst f vs ts hs K=some r)(hi:Inv L hs):
  ∃e L',Step P o rd L ts hs e L'/\Qcv nn o.dst=true/\K e (TX o.dst e.v ts) (e.upd++hs)=some r:=by
 unfold QyB at h
 split at h
 case h_2=>simp at h
 rename_i d hd
 split at h
 case isFalse=>simp at h
 rename_i hcall
 split at h
 case h_2=>simp at h
 rename_i g hEf
 obtain⟨σ1,x,h,hs1,g1⟩:=SL.get_some h
 obtain⟨σ2,y,h,hs2,g2⟩:=OL.get_some h
 obtain⟨va,vb,hF,h⟩:=(hE (some d) f vs g hEf).nat R x y _ r h
 split at h
 case isFalse=>simp at h
 rename_i hchk
 unfold Qv8 at hchk
 simp only[bae]at hchk
 obtain⟨⟨⟨⟨hm,hcb⟩,hu1⟩,hu2⟩,hkeep⟩:=hchk
 have hfit:=Qxy hm
 have hinj:=Qxz hm
 generalize hrr:QmK (σ2++Qc9 d g)=rr at hinj hfit h
 generalize hdd:Qjj (σ2++Qc9 d g)=δ at hfit h
 have hfit2:Fit rr δ σ2:=hfit.mono fun p hp=>C1 _ hp
 have hfit1:Fit rr δ σ1:=hfit2.mono hs2
 have hwant:∀n b,X n (OL.put 0 g.pre y)=some b->∃a,X (rr n) hs=some a/\((∃cs ds,a=.box cs/\b=.box ds)\/(∃t l,a=.TI t l (δ n)/\b=.TI t l 0)\/∃es,a=.sm es/\b=.sm es)/\∀L,OLe rr δ (δ n) L a b:=fun n b hb=>by
  obtain⟨v,hv,hle⟩:=g2 rr δ (fun _ _=>0) hfit2 n b hb
  refine⟨v,hv,?_,fun L=>?_⟩
  .rcases hle with⟨cs,ds,h1,h2,_⟩|h2
   .grind
   .exact .inr h2
  .obtain⟨v',hv',hle'⟩:=g2 rr δ L hfit2 n b hb
   grind
 have heff:Qhw g (σ2++Qc9 d g) d hs y va vb=⟨hpOf rr hs (keys g.pre),(resB (SL.put 1 g.res va)).ren rr δ,QjV rr δ (g.posts y vb),(Qc9 d g).map (·.2.1),((W7 g.post).filter fun n=>(keys g.pre).contains n).map fun n=>(rr n,δ n+1)⟩:=by unfold Qhw;rw[hrr,hdd]
 rw[heff]at hcb h
 suffices hgood:Good P o rd hs ⟨hpOf rr hs (keys g.pre),(resB (SL.put 1 g.res va)).ren rr δ,QjV rr δ (g.posts y vb),(Qc9 d g).map (·.2.1),((W7 g.post).filter fun n=>(keys g.pre).contains n).map fun n=>(rr n,δ n+1)⟩by
  obtain⟨L',hst,hdd',hK⟩:=Qtx (rd:=rd) (L:=L) (hgood.trim (km:=g.keep.map rr) fun n' cs ds hn' hcs hq hds=>by
   obtain⟨n,hn,rfl⟩:=BQ.1 hn'
   have hkn:=AW.1 hkeep n hn
   simp only[bae,BG,BT,BK,Cd]at hkn
   change X (rr n) (QjV rr δ (g.posts y vb))=_ at hds
   rw[Qgu hinj]at hds
   have hno:X n (OL.put 1 g.post vb)=none:=by
    cases hx:X n (OL.put 1 g.post vb)with
    |none=>rfl
    |some x=>exact absurd (by rw[<-QkY (u:=1) (y:=vb)];exact Zu (by rw[hx];simp)) hkn.2
   unfold Sig.posts at hds
   rw[Z2,hno]at hds
   simp only[Ua (f:=fun n=>g.keep.contains n)]at hds
   rw[iB (by simpa using hn)]at hds
   cases hb:X n (OL.put 0 g.pre y)with
   |none=>rw[hb]at hds;simp at hds
   |some b=>
    rw[hb]at hds
    simp only[Aa,AP]at hds
    obtain⟨a,ha,_,hle⟩:=hwant n b hb
    rw[hcs]at ha
    cases ha
    rcases hle L with⟨cs',ds',e1,rfl,_,h3⟩|⟨t,l,e1,_⟩|⟨es,e1,_⟩
    .cases e1
     rw[h3 hq]at hds
     simp only[BO.ren,Qry hq,BO.box.injEq]at hds
     exact⟨hds.symm,Q5 (Qdq hinj hcs hkn.1)⟩
    .cases e1
    .cases e1) hrd h hi
  grind
 refine⟨fun m ob hm'=>QkW hm',fun L0 hL0=>?_⟩
 .have hinvc:Inv (Qbq L0 rr δ) (OL.put 0 g.pre y):=fun n t l u hnl=>by
   obtain⟨a,ha,hk,_⟩:=hwant n _ hnl
   rcases hk with⟨cs,ds,_,h2⟩|⟨t',l',rfl,h2⟩|⟨es,_,h2⟩
   .cases h2
   .cases h2;exact hL0 _ t l _ ha
   .cases h2
  obtain⟨L1,hk1,hinv1,hspec⟩:=(hE (some d) f vs g hEf).spec x y va vb hF _ hinvc
  classical
  let L':Lens:=fun m v=>if h:∃n,n∈W7 g.post/\m=rr n/\v=δ n+1 then L1 (Classical.choose h) 1 else L0 m v
  have hA1:∀n,n∈W7 g.post->L' (rr n) (δ n+1)=L1 n 1:=fun n hn=>by
   have hex:∃k,k∈W7 g.post/\rr n=rr k/\δ n+1=δ k+1:=⟨n,hn,rfl,rfl⟩
   grind
  have hA2:∀m v,¬(∃n,n∈W7 g.post/\m=rr n/\v=δ n+1)->L' m v=L0 m v:=fun m v h=>dif_neg h
  have hkp:∀n,n∈g.keep\/n∈Qcr g.post->L' (rr n) (δ n+0)=L1 n 0:=fun n hn=>by
   rw[hA2,hk1 n hn];· rfl
   grind
  have hLL:∀n u,Qvk g n u=true->L' (rr n) (δ n+u)=L1 n u:=fun n u hn=>by
   unfold Qvk at hn
   split at hn
   .exact hkp n (by simp only[Bz]at hn;exact hn.imp Wk.1 Wk.1)
   .exact hA1 n (Wk.1 hn)
   .simp at hn
  refine⟨L',fun m v h1 h2=>hA2 m v ?_,fun m t l v hml=>?_,?_⟩
  .rintro⟨n,hn,rfl,rfl⟩
   by_cases hp:n∈keys g.pre
   .grind
   .have hmem:(n,(1000000+1000*d+n,0))∈Qc9 d g:=BQ.2 ⟨n,Bl.2 ⟨Qb4 hn,by simpa using hp⟩,rfl⟩
    have:=(hfit n _ (CD _ hmem)).1
    grind
  .rw[Z2]at hml
   cases hu:X m (QjV rr δ (g.posts y vb))with
   |some ob=>
    rw[hu]at hml;cases hml
    obtain⟨n,rfl⟩:=Qhi hu
    rw[Qgu hinj]at hu
    cases hb:X n (g.posts y vb)with
    |none=>rw[hb]at hu;simp at hu
    |some b=>
     rw[hb]at hu
     simp only[Aa,AP]at hu
     cases b with
     |box cs=>simp[BO.ren]at hu
     |sm es=>simp[BO.ren]at hu
     |TI t' l' v'=>
      simp only[BO.ren]at hu;cases hu
      rw[hLL n v' ?_]
      .exact hinv1 n t l v' hb
      .unfold Sig.posts at hb
       rw[Z2]at hb
       cases hb1:X n (OL.put 1 g.post vb)with
       |some b1=>
        rw[hb1]at hb;cases hb
        rcases Qlj hb1 with⟨k1,rfl⟩|⟨k1,rfl⟩
        .exact Wk.2 k1
        .simp only[Qvk,Wk.2 k1,CJ]
       |none=>
        rw[hb1]at hb
        simp only[Ua (f:=fun n=>g.keep.contains n)]at hb
        split at hb
        .rename_i hc
         have hv0:v'=0:=(Qlj hb).elim (·.2) (·.2)
         subst hv0
         simp only[Qvk,Wk.2 (show n∈g.keep by simpa using hc),Bc]
        .simp at hb
   |none=>
    rw[hu]at hml
    rw[hA2 m v ?_]
    .exact hL0 m t l v hml
    .rintro⟨n,hn,rfl,_⟩
     rw[Qgu hinj]at hu
     obtain⟨b,hb⟩:=Qgt (u:=1) (y:=vb) (Qb4 hn)
     have:X n (g.posts y vb)=some b:=by unfold Sig.posts;rw[Z2,hb]
     grind
  .have h1:=Spec.ren hinj hspec
   rw[QAa hLL _ hu1,QBF hLL _ hu2]at h1
   have h2:WT P f (renL rr (erL (Qbq L0 rr δ) (SL.put 0 g.args x))) (erH L0 (hpOf rr hs (keys g.pre))) (((resB (SL.put 1 g.res va)).ren rr δ).er L') (erH L' (QjV rr δ (g.posts y vb))):=by
    refine Spec.preLe h1 (fun m ob hm=>?_) (fun m ob hm=>?_)
    .obtain⟨n,rfl⟩:=UM hm
     rw[Y4 hinj,ZP]at hm
     cases hb:X n (OL.put 0 g.pre y)with
     |none=>rw[hb]at hm;simp at hm
     |some b=>
      rw[hb]at hm
      simp only[Aa,AP]at hm
      obtain⟨a,ha,_,hle⟩:=hwant n b hb
      have hkn:n∈keys g.pre:=by rw[<-QkY (u:=0) (y:=y)];exact Zu (by rw[hb];simp)
      refine⟨a.er L0,by rw[ZP,Qdq hinj ha hkn];rfl,?_⟩
      rcases hle L0 with⟨cs,ds,rfl,rfl,h3⟩|⟨t,l,rfl,rfl⟩|⟨es,rfl,rfl⟩
      .exact .inr ⟨_,_,rfl,by rw[<-hm];simp only[BO.er,AO.ren],h3.1⟩
      .exact .inl (by rw[<-hm];simp only[BO.er,AO.ren])
      .exact .inl (by rw[<-hm];simp only[BO.er,AO.ren])
    .rw[ZP]at hm
     cases hb:X m (hpOf rr hs (keys g.pre))with
     |none=>rw[hb]at hm;simp at hm
     |some b=>
      obtain⟨n,hn,rfl⟩:=QkV (Q5 hb)
      obtain⟨b',hb'⟩:=Qgt (u:=0) (y:=y) hn
      exact⟨_,by rw[Y4 hinj,ZP,hb'];rfl⟩
   exact hop hcall L0 _ _ _ _ (Spec.argsLe (Spec.argsLe h2 (g1 rr δ L0 hfit1)) (Qp4 hL0)) (Qyz hcb)
end
section
variable {L L':Lens} {ts ts':TS} {hs hs':HS}
section
variable {R:Type}
def rdB(ts:TS):Y AC->TS
 |[]=>[]
 |.tmp t::r=>match X t ts with
  |some v=>(t,v)::rdB ts r
  |none=>rdB ts r
 |.const _::r=>rdB ts r
 |.global _::r=>rdB ts r
 |.func _::r=>rdB ts r
def QgT:∀{l:Y AC} {t:Nat} {v:BV},(t,v)∈rdB ts l->X t ts=some v
 |[],t,v,h=>by simp[rdB]at h
 |.tmp k::r,t,v,h=>by
  simp only[rdB]at h
  split at h
  .rename_i hk
   rcases AZ.1 h with h|h
   .cases h;exact hk
   .exact QgT h
  .exact QgT h
 |.const _::r,t,v,h=>QgT (l:=r) (by simpa only[rdB]using h)
 |.global _::r,t,v,h=>QgT (l:=r) (by simpa only[rdB]using h)
 |.func _::r,t,v,h=>QgT (l:=r) (by simpa only[rdB]using h)
def Qsb(rd:TS)(x:AC):I (FuncId×Y BV):=match ZW rd x with
 |some (.v (.func (.func f) ⟨[]⟩ ⟨[]⟩))=>some (f,[])
 |some (.clo (.func f) cs)=>some (f,cs)
 |_=>none
def opK(P:AF)(ty:AD->I TC)(E:Env)(sp:AH)(nn:Nat)(x:TS)(o:Oper)(ts:TS)(hs:HS)(K:BEff->TS->HS->I R):I R:=
 match o.op with
 |.call c=>match c.callee with
  |.value (.func f)=>match Qir (x++rdB ts o.op.operands.toList) c.args.toList with
   |some vs=>QyB P E sp nn o.dst f vs ts hs K
   |none=>none
  |.value (.tmp t)=>match Qsb (x++rdB ts o.op.operands.toList) (.tmp t),Qir (x++rdB ts o.op.operands.toList) c.args.toList with
   |some q,some vs=>QyB P E sp nn o.dst q.1 (vs++q.2) ts hs K
   |_,_=>none
  |_=>bop P ty (x++rdB ts o.op.operands.toList) hs (goE sp nn o.dst ts hs K) o
 |_=>bop P ty (x++rdB ts o.op.operands.toList) hs (goE sp nn o.dst ts hs K) o
variable {r:R} {P:AF} {ty:AD->I TC} {E:Env} {nn:Nat}
def QtR(hE:Qp9 P E)(hx:∀t v,(t,v)∈x->X t ts=some v)(h:opK P ty E sp nn x o ts hs K=some r)(hi:Inv L hs):
  ∃e L',Step P o (x++rdB ts o.op.operands.toList) L ts hs e L'/\Qcv nn o.dst=true/\K e (TX o.dst e.v ts) (e.upd++hs)=some r:=by
 have hrd:∀t v,(t,v)∈x++rdB ts o.op.operands.toList->X t ts=some v:=fun t v hm=>by
  rcases Af.1 hm with hm|hm
  .exact hx t v hm
  .exact QgT hm
 have hb:bop P ty (x++rdB ts o.op.operands.toList) hs (goE sp nn o.dst ts hs K) o=some r->∃e L',Step P o (x++rdB ts o.op.operands.toList) L ts hs e L'/\Qcv nn o.dst=true/\K e (TX o.dst e.v ts) (e.upd++hs)=some r:=fun h=>by
  obtain⟨e,h,hg⟩:=QCg h
  obtain⟨L',h1,h2,h3⟩:=Qtx (rd:=x++rdB ts o.op.operands.toList) hg hrd h hi
  grind
 unfold opK at h
 split at h
 .rename_i c ho
  split at h
  .rename_i f hf
   obtain⟨callee,args,ats⟩:=c
   simp only at hf;subst hf
   split at h
   .rename_i vs hvs
    exact Qjw (rd:=x++rdB ts o.op.operands.toList) hE (fun hcall L pre h v nw hs hc=>TE.call ho hcall (Qfy L hvs) hs hc) hrd h hi
   .simp at h
  .rename_i t hf
   obtain⟨callee,args,ats⟩:=c
   simp only at hf;subst hf
   split at h
   .rename_i q vs hq hvs
    unfold Qsb at hq
    split at hq
    .rename_i f hx
     cases hq
     rw[An]at h
     exact Qjw (rd:=x++rdB ts o.op.operands.toList) hE (fun hcall L pre h v nw hs hc=>TE.callFv ho (by have:=Qg L hx;simpa only[BV.er]using this) hcall (Qfy L hvs) hs hc) hrd h hi
    .rename_i f cs hx
     cases hq
     exact Qjw (rd:=x++rdB ts o.op.operands.toList) hE (fun hcall L pre h v nw hs hc=>TE.callClo ho (by have:=Qg L hx;simpa only[BV.er]using this) hcall (Qfy L hvs) (by rw[Qux]at hs;exact hs) hc) hrd h hi
    .simp at hq
   .simp at h
  .exact hb h
 .exact hb h
mutual
def Qw9:BV->Y Name
 |.own m _=>[m]
 |.view m _ _ _=>[m]
 |.cut m _ _=>[m]
 |.agg cs=>QBA cs
 |_=>[]
def QBA:Y BV->Y Name
 |[]=>[]
 |x::r=>Qw9 x++QBA r
end
def Qzh(ts:TS)(x:AC):Y Name:=match ZW ts x with
 |some v=>Qw9 v
 |none=>[]
def QCN(ts:TS)(x:AC):Y Name:=match ZW ts x with
 |some (.view m _ _ _)=>[m]
 |_=>[]
def cutO(ts:TS)(x:AC):I Name:=match ZW ts x with
 |some (.cut n _ _)=>some n
 |_=>none
def QtM:Y Sh->Y BV->Y Name
 |.TQ _::r,v::vs=>Qw9 v++QtM r vs
 |_::r,_::vs=>QtM r vs
 |_,_=>[]
def Qz5(pre:Y (Name×OSh))(hs:HS)(nm m:Name):Y Name:=match X nm pre,X m hs with
 |some (.TV _),some (.box cs)=>QBA cs
 |some (.box l),some (.box cs)=>QtM l cs
 |_,_=>[]
def QtL(pre:Y (Name×OSh))(hs:HS):Y Name->Y BV->Y Name
 |nm::q,.TM m _::vs=>Qz5 pre hs nm m++QtL pre hs q vs
 |_,_=>[]
def QaQ(pre:Y (Name×OSh))(hs:HS):Y SSh->Y BV->Y Name
 |.one (.TQ _)::r,v::vs=>Qw9 v++QaQ pre hs r vs
 |.one (.TM nm)::r,.TM m _::vs=>Qz5 pre hs nm m++QaQ pre hs r vs
 |.one (.clo _ ns)::r,.clo _ cs::vs=>QtL pre hs ns cs++QaQ pre hs r vs
 |.st _::r,v::vs=>Qw9 v++QaQ pre hs r vs
 |.agg l::r,.agg cs::vs=>QtM l cs++QaQ pre hs r vs
 |_::r,_::vs=>QaQ pre hs r vs
 |_,_=>[]
def needs(E:Env)(ts:TS)(hs:HS)(o:Oper):Y Name:=match o.op with
 |.buildSlice _ _ parts=>parts.toList.flatMap fun p=>Qzh ts p.2
 |.store _ x y=>match ZW ts x with
  |some (.aref _ _ _ _)=>Qzh ts y
  |_=>[]
 |.call c=>match c.callee,c.args.toList with
  |.builtin .append,[x,y]=>match cutO ts x with
   |some n=>(Qzh ts y).filter fun m=>!Nat.beq m n
   |none=>QCN ts x++Qzh ts y
  |.value (.func f),args=>match Qir ts args with
   |some vs=>match E o.dst f vs with
    |some g=>QaQ g.pre hs g.args vs
    |none=>[]
   |none=>[]
  |.value (.tmp t),args=>match Qsb ts (.tmp t),Qir ts args with
   |some q,some vs=>match E o.dst q.1 (vs++q.2)with
    |some g=>QaQ g.pre hs g.args (vs++q.2)
    |none=>[]
   |_,_=>[]
  |_,_=>[]
 |_=>[]
def Qfa(f:Nat->AH):Y Nat->Y (Nat×α)->Y (Nat×α)
 |_,[]=>[]
 |seen,(k,v)::r=>match f k && !isIn k seen with
  |true=>(k,v)::Qfa f (k::seen) r
  |false=>Qfa f seen r
def QrN(f:Nat->AH):Y Nat->Y (Nat×α)->(Y (Nat×α)->R)->R
 |_,[],K=>K []
 |seen,(k,v)::r,K=>match f k && !isIn k seen with
  |true=>QrN f (k::seen) r fun q=>K ((k,v)::q)
  |false=>QrN f seen r K
def Qlb:∀(seen:Y Nat) (l:Y (Nat×α)) (K:Y (Nat×α)->R),QrN f seen l K=K (Qfa f seen l)
 |_,[],K=>rfl
 |seen,(k,v)::r,K=>by
  simp only[QrN,Qfa]
  split
  .rw[Qlb (k::seen) r]
  .rw[Qlb seen r]
def Uq(n):∀(seen:Y Nat) (l:Y (Nat×α)),X n (Qfa f seen l)=if f n && !isIn n seen then X n l else none
 |seen,[]=>by simp[Qfa,X]
 |seen,(k,v)::r=>by
  have isIn_cons:∀m,isIn m (k::seen)=(Nat.beq k m || isIn m seen):=fun m=>by simp[isIn]
  simp only[Qfa]
  split
  .rename_i h
   simp only[X]
   rw[Uq n (k::seen) r,isIn_cons]
   by_cases e:k=n
   .subst e;rw[iB rfl,iB rfl,h];rfl
   .have:Nat.beq k n=false:=C3.2 fun h=>e (nbe h)
    rw[iA e,iA e,this,Bt]
  .rename_i h
   rw[Uq n seen r]
   simp only[X]
   by_cases e:k=n
   .subst e;rw[h];rfl
   .rw[iA e]
def Inv.trim(hi:Inv L hs):Inv L (Qfa f [] hs):=fun n t l v hn=>by
 rw[Uq]at hn
 split at hn
 .exact hi n t l v hn
 .simp at hn
def Sim.only(h:Sim Γ ρ M (BS L ts hs) a w)(hg:∀n,n∈Γ.names->g n=true):Sim Γ ρ M (BS L (Qfa f [] ts) (Qfa g [] hs)) a w:=by
 refine h.forget (fun t x hx=>?_) (fun n o hn=>?_) (fun n hn hc=>?_)
 .rw[XJ,Uq]at hx
  rw[XJ]
  grind
 .rw[XI,Uq]at hn
  rw[XI]
  grind
 .rw[XI,Uq,iB (by rw[hg n hn];rfl)]at hc
  obtain⟨o,ho,_⟩:=h.keep n hn
  rw[XI,hc]at ho;simp at ho
def QCw(n:Name)(ts:TS)(t:Nat):AH:=match X t ts with
 |some (.tup vs)=>!BV.hasL n vs
 |_=>true
def Sim.onlyT(h:Sim Γ ρ M (BS L ts hs) a w):Sim Γ ρ M (BS L (Qfa f [] ts) hs) a w:=by
 have h2:=h.only (f:=f) (g:=fun _=>true) fun _ _=>rfl
 refine h2.congr (fun t=>rfl) (fun n=>?_)
 show(BS L (Qfa f [] ts) hs).heap n=(BS L (Qfa f [] ts) (Qfa (fun _=>true) [] hs)).heap n
 rw[XI,XI,Uq];rfl
def Tb(gn:Y Name):Y Name->TS->HS->(TS->HS->I R)->I R
 |[],ts,hs,K=>K ts hs
 |n::r,ts,hs,K=>match X n hs with
  |some (.TI t l v)=>QrN (QCw n ts) [] ts fun ts=>if !isIn n gn && fzB n ts hs then Tb gn r (fzT n v t l ts) (fzH n v t l hs) K else none
  |_=>Tb gn r ts hs K
def Qdp(hgn:Γ.names=gn):∀{ns:Y Name} {ts:TS} {hs:HS} {K:TS->HS->I R},Tb gn ns ts hs K=some r->Inv L hs->
  ∃ts' hs',K ts' hs'=some r/\Inv L hs'/\∀ρ M a w,Sim Γ ρ M (BS L ts hs) a w->∃ρ' M',Sim Γ ρ' M' (BS L ts' hs') a w
 |[],ts,hs,K,h,hi=>⟨ts,hs,h,hi,fun ρ M a w hs0=>⟨ρ,M,hs0⟩⟩
 |n::ns,ts,hs,K,h,hi=>by
  simp only[Tb]at h
  split at h
  .rename_i t l v hl
   rw[Qlb]at h
   split at h
   .rename_i hb
    simp only[bae,BG]at hb
    have hn:n∉Γ.names:=fun hm=>by
     rw[hgn]at hm
     have:=Wk.2 hm
     rw[this]at hb;simp at hb
    have hi':Inv L (fzH n v t l hs):=by
     intro k t' l' u hk
     rw[QtJ]at hk
     split at hk
     .simp at hk
     .cases hx:X k hs with
      |none=>rw[hx]at hk;simp at hk
      |some x=>
       rw[hx]at hk
       simp only[Aa,AP]at hk
       cases x with
       |box cs=>simp[BO.frz]at hk
       |TI t2 l2=>simp only[BO.frz]at hk;cases hk;exact hi k _ _ _ hx
       |sm es=>simp[BO.frz]at hk
    obtain⟨ts',hs',h1,h2,h3⟩:=Qdp hgn h hi'
    refine⟨ts',hs',h1,h2,fun ρ M a w hs0=>?_⟩
    obtain⟨⟨ρ1,M1,hs1⟩,_⟩:=(hs0.onlyT (f:=QCw n ts)).frz hi hn hl hb.2
    exact h3 ρ1 M1 a w hs1
   .simp at h
  .exact Qdp hgn h hi
def QCE(o:Oper):I Nat:=match o.op with
 |.store _ _ (.tmp d)=>some d
 |_=>none
def delN(n:Name):HS->HS
 |[]=>[]
 |p::r=>if Nat.beq p.1 n then delN n r else p::delN n r
def QvH(gn:Y Name)(o:Oper)(ts:TS)(hs:HS)(K:TS->HS->I R):I R:=match QCE o with
 |some d=>match X d ts with
  |some (.cut n u k)=>match X n hs with
   |some (.TI t l q)=>if Nat.beq u q && !isIn n gn && (X (1000+d) hs).isNone && Qe2 (1000+d) ts hs then TO k l.length (K ((d,.own (1000+d) 0)::ts) ((1000+d,.TI t (l.take k) 0)::delN n hs))else none
   |_=>none
  |_=>K ts hs
 |_=>K ts hs
def QiC:∀{hs:HS},X m (delN n hs)=if m=n then none else X m hs
 |[]=>by simp[delN,X]
 |(k,x)::r=>by
  simp only[delN]
  split
  .rename_i h
   have:=nbe h
   subst this
   rw[QiC]
   simp only[X]
   split
   .rfl
   .rename_i h;rw[iA (Ag h)]
  .rename_i h
   simp only[X,QiC]
   split
   .rename_i e;subst e
    rw[iA]
    intro e;subst e;simp at h
   .rfl
def QrZ(hgn:Γ.names=gn)(h:QvH gn o ts hs K=some r)(hi:Inv L hs):
  ∃ts' hs' L',K ts' hs'=some r/\Inv L' hs'/\∀ρ M a w,Sim Γ ρ M (BS L ts hs) a w->∃ρ' M',Sim Γ ρ' M' (BS L' ts' hs') a w:=by
 have same:K ts hs=some r->∃ts' hs' L',K ts' hs'=some r/\Inv L' hs'/\∀ρ M a w,Sim Γ ρ M (BS L ts hs) a w->∃ρ' M',Sim Γ ρ' M' (BS L' ts' hs') a w:=fun h=>⟨ts,hs,L,h,hi,fun ρ M a w hs0=>⟨ρ,M,hs0⟩⟩
 unfold QvH at h
 split at h
 .rename_i d _
  split at h
  .rename_i n u k hd
   split at h
   .rename_i t l q hn
    split at h
    .rename_i hb
     simp only[bae,BG]at hb
     obtain⟨⟨⟨b1,b2⟩,b3⟩,b4⟩:=hb
     have:=nbe b1;subst this
     have hg:n∉Γ.names:=fun hm=>by
      rw[hgn]at hm
      have:=Wk.2 hm
      simp_all
     have hm0:X (1000+d) hs=none:=Bk.1 b3
     obtain⟨hle,h⟩:=ZY h
     let L1:Lens:=fun m v=>if m=1000+d then k else L m v
     obtain⟨e1,e2⟩:=Qfu (L:=L) (L':=L1) (nw:=[1000+d]) (nv:=[]) (ts:=ts) (hs:=hs) (fun n hn=>by simp only[Ai]at hn;subst hn;exact b4) (fun p hp=>by simp at hp) (fun n v hn _=>iA (by simpa using hn))
     refine⟨_,_,L1,h,fun m t' l' v hm=>?_,fun ρ M a w hs0=>?_⟩
     .simp only[X]at hm
      split at hm
      .grind
      .rename_i e
       rw[QiC]at hm
       split at hm
       .simp at hm
       .show(if m=1000+d then k else L m v)=_
        rw[iA (Ag e)];exact hi m t' l' v hm
     .have hLn:L n u=l.length:=hi n t l u hn
      obtain⟨ρ',hs1⟩:=hs0.adopt (n:=n) (m:=1000+d) (es:=tz t) (k:=k) (t:=d) (rows:=l.map (tcells t)) hg (by rw[XI,hn];rfl) (by rw[XI,hm0];rfl) (QhE (by rw[Qd9];exact b4)) (by rw[AX];exact hle) (by rw[XJ,hd];simp only[Aa,BV.er,hLn,AX])
      refine⟨ρ',M,hs1.congr (fun j=>?_) (fun j=>?_)⟩
      .rw[XJ]
       simp only[X]
       by_cases e:d=j
       .subst e;simp only[if_true,Aa,BV.er];show some (AV.own _ (if _=_ then k else _))=_;rw[iB rfl]
       .simp only[e,Ag e,if_false]
        rw[XJ,<-UL,<-UL,e1]
      .rw[XI]
       simp only[X]
       by_cases e:1000+d=j
       .subst e;simp only[if_true,Aa,BO.er,Bh]
       .simp only[e,Ag e,if_false,QiC]
        by_cases e3:j=n
        .simp[e3]
        .simp only[e3,if_false]
         rw[XI,<-ZP,<-ZP,e2]
    .simp at h
   .simp at h
  .exact same h
 .exact same h
section
variable (P:AF) (ty:AD->I TC) (E:Env) (gn:Y Name) (nn:Nat) (ops:Array Oper)
def exK(sp:AH)(x:TS)(o:Oper)(ts:TS)(hs:HS)(K:TS->HS->I R):I R:=
 Tb gn (needs E ts hs o) ts hs fun ts hs=>QvH gn o ts hs fun ts hs=>opK P ty E sp nn x o (x++ts) hs fun _ ts hs=>K ts hs
def guarded(ops:Array Oper):AH:=ops.toList.any fun o=>o.guard.isSome
def regK(sp:AH)(K:TS->HS->I R):Nat->Nat->TS->HS->I R
 |0,i,ts,hs=>if Nat.beq ops.size i then K ts hs else none
 |f+1,i,ts,hs=>match ops[i]? with
  |none=>none
  |some o=>match o.guard with
   |none=>exK P ty E gn nn sp [] o ts hs fun ts hs=>regK sp K f (i+1) ts hs
   |some (j,b)=>match (ops[j]?).bind (·.dst)with
    |none=>none
    |some g=>match X g ts with
     |some (.b q)=>C q
       (match b with
        |true=>exK P ty E gn nn sp [(g,.b true)] o ts hs fun ts hs=>regK sp K f (i+1) ts hs
        |false=>if Qcv nn o.dst then regK sp K f (i+1) (TX o.dst (.tup []) ts) hs else none)
       (match b with
        |true=>if Qcv nn o.dst then regK sp K f (i+1) (TX o.dst (.tup []) ts) hs else none
        |false=>exK P ty E gn nn sp [(g,.b false)] o ts hs fun ts hs=>regK sp K f (i+1) ts hs)
     |some (.tup [])=>if Qcv nn o.dst then regK sp K f (i+1) (TX o.dst (.tup []) ts) hs else none
     |_=>none
end
def QB4(hi:ops[i]?=some o)(hw:Region.wanted o (yielded ops a.tmps)=true)(h:o.wp P a w K Q):wpOp P ops Q i K a w:=by
 unfold wpOp
 simp_all
def Qww(hE:Qp9 P E)(hgn:Γ.names=gn)(hn:Γ.n=nn)(h:exK P ty E gn nn sp x o ts hs K=some r)(hx:∀t v,(t,v)∈x->X t ts=some v)(hx1:∀t v,(t,v)∈x->∃q,v=.b q)(hxl:x.length<=1)(hi:Inv L hs)(hop:ops[i]?=some o)(hw:∀ρ M a w,Sim Γ ρ M (BS L ts hs) a w->Region.wanted o (yielded ops a.tmps)=true)(hK:∀ts' hs' L' ρ' M' a' w',K ts' hs'=some r->Inv L' hs'->Sim Γ ρ' M' (BS L' ts' hs') a' w'->KK a' w'):
  ∀ρ M a w,Sim Γ ρ M (BS L ts hs) a w->wpOp P ops Q i KK a w:=by
 intro ρ M a w hs0
 have hw0:=hw ρ M a w hs0
 obtain⟨ts0,hs00,h,hi0,hfz⟩:=Qdp hgn h hi
 obtain⟨ts1,hs1,L,h,hi1,had⟩:=QrZ hgn h hi0
 obtain⟨ρ0,M0,hs0'⟩:=hfz ρ M a w hs0
 obtain⟨ρ1,M1,hs1'⟩:=had ρ0 M0 a w hs0'
 have hxx:Sim Γ ρ1 M1 (BS L (x++ts1) hs1) a w:=by
  refine⟨hs1'.n,hs1'.d,fun t y hy=>?_,hs1'.objs,hs1'.inj,hs1'.own0,hs1'.keep,hs1'.ext,hs1'.mext,hs1'.msize,hs1'.m0,hs1'.ground⟩
  obtain⟨v,hv,rfl⟩:=QpX hy
  rw[Z2]at hv
  cases hl:X t x with
  |none=>rw[hl]at hv;simp only at hv;exact hs1'.slots t _ (by rw[XJ,hv];rfl)
  |some v'=>
   rw[hl]at hv;cases hv
   have hm:=Q5 hl
   obtain⟨q,rfl⟩:=hx1 t v hm
   obtain⟨u,hu,hr⟩:=hs0.slots t ((BV.b q).er L) (by rw[XJ,hx t _ hm];rfl)
   refine⟨u,hu,?_⟩
   simp only[BV.er,AV.R,PV.R]at hr |-
   exact hr
 obtain⟨e,L',hst,hd,hK'⟩:=QtR hE (fun t v hm=>by
  rw[Z2]
  match x,hxl,hm with
  |[(t0,v0)],_,hm=>
   simp only[Ai,Bb]at hm
   obtain⟨rfl,rfl⟩:=hm
   simp only[X,if_true]) h hi1
 exact QB4 hop hw0 (hst.go hd hn hxx fun ρ' M' a' w' hs'=>hK _ _ L' ρ' M' a' w' hK' hst.inv hs')
def QB5(hj:(ops[j]?).bind (·.dst)=some g)(hl:X g ts=some (.b q))(hs0:Sim Γ ρ M (BS L ts hs) a w):yielded ops a.tmps j=some q:=by
 obtain⟨oj,h1,h2⟩:=UF hj
 exact Qj4 hs0 h1 h2 (by rw[XJ,hl];simp only[Aa,BV.er])
def QBQ(hop:ops[i]?=some o)(hg:o.guard=some (j,b))(hj:(ops[j]?).bind (·.dst)=some g)(hl:X g ts=some v)(hv:v=.b (!b)\/v=.tup [])(hd:Qcv nn o.dst=true)(hn:Γ.n=nn)(hK:∀ρ' M' a' w',Sim Γ ρ' M' (BS L (TX o.dst (.tup []) ts) hs) a' w'->KK a' w'):∀ρ M a w,Sim Γ ρ M (BS L ts hs) a w->wpOp P ops Q i KK a w:=by
 intro ρ M a w hs0
 obtain⟨oj,h1,h2⟩:=UF hj
 have hd':∀d,o.dst=some d->d<Γ.n:=fun d hd'=>by rw[hd']at hd;simp only[Qcv]at hd;rw[hn];exact Am hd
 have hrun:∀x:AV,(BS L ts hs).run o.dst ⟨[(g,x)],[],.tup [],[],[]⟩=BS L (TX o.dst (.tup []) ts) hs:=fun x=>by
  unfold BS
  rw[Qq4]
  cases o.dst with
  |none=>rfl
  |some d=>simp only[putT,TX,erT,AU,BV.er,erL,BU]
 rcases hv with rfl|rfl
 .refine ZT.skipped hop hg h1 h2 Γ ρ M _ a w KK Q hs0 ⟨fun t x hx=>?_,fun n ob hn=>by simp at hn,fun n hn=>by simp at hn⟩ hd' (fun ρ' M' a' w' hs'=>hK ρ' M' a' w' (by rw[hrun]at hs';exact hs'))
  simp at hx
  obtain⟨rfl,rfl⟩:=hx
  rw[XJ,hl];simp only[Aa,BV.er]
 .refine ZT.skipped2 hop hg h1 h2 Γ ρ M _ a w KK Q hs0 ⟨fun t x hx=>?_,fun n ob hn=>by simp at hn,fun n hn=>by simp at hn⟩ hd' (fun ρ' M' a' w' hs'=>hK ρ' M' a' w' (by rw[hrun]at hs';exact hs'))
  simp at hx
  obtain⟨rfl,rfl⟩:=hx
  rw[XJ,hl];simp only[Aa,BV.er,erL]
def Qxx(hE:Qp9 P E)(hgn:Γ.names=gn)(hn:Γ.n=nn)(hQ:∀ts' hs' L' ρ' M' a' w',K ts' hs'=some r->Inv L' hs'->Sim Γ ρ' M' (BS L' ts' hs') a' w'->Q .normal a' w'):
  ∀(f i:Nat) (ts:TS) (hs:HS) (L:Lens),regK P ty E gn nn ops sp K f i ts hs=some r->Inv L hs->∀ρ M a w,Sim Γ ρ M (BS L ts hs) a w->wpOps P ops Q (List.range' i (ops.size - i)) a w
 |0,i,ts,hs,L,h,hi,ρ,M,a,w,hs0=>by
  simp only[regK]at h
  split at h
  .rename_i e
   rw[nbe e,EC]
   simp only[List.range'_zero,wpOps]
   exact hQ ts hs L ρ M a w h hi hs0
  .simp at h
 |f+1,i,ts,hs,L,h,hi,ρ,M,a,w,hs0=>by
  simp only[regK]at h
  split at h
  .simp at h
  .rename_i o hop
   have hlt:i<ops.size:=(CE.1 hop).1
   rw[show ops.size - i=(ops.size - (i+1))+1 by omega,List.range'_succ,wpOps_cons]
   have ih:=Qxx (sp:=sp) (gn:=gn) (ops:=ops) (K:=K) (Γ:=Γ) (Q:=Q) hE hgn hn hQ f (i+1)
   have hskip:∀{j:Nat} {b:AH} {g:Nat} {v:BV},o.guard=some (j,b)->(ops[j]?).bind (·.dst)=some g->X g ts=some v->(v=.b (!b)\/v=.tup [])->
     (if Qcv nn o.dst then regK P ty E gn nn ops sp K f (i+1) (TX o.dst (.tup []) ts) hs else none)=some r->wpOp P ops Q i (wpOps P ops Q (List.range' (i+1) (ops.size - (i+1)))) a w:=fun hg hj hl hv h=>by
    split at h
    .rename_i hd
     exact QBQ hop hg hj hl hv hd hn (fun ρ' M' a' w' hs'=>ih _ _ L h hi ρ' M' a' w' hs') ρ M a w hs0
    .simp at h
   have hex:∀{j:Nat} {b:AH} {g:Nat},o.guard=some (j,b)->(ops[j]?).bind (·.dst)=some g->X g ts=some (.b b)->
     exK P ty E gn nn sp [(g,.b b)] o ts hs (fun ts hs=>regK P ty E gn nn ops sp K f (i+1) ts hs)=some r->wpOp P ops Q i (wpOps P ops Q (List.range' (i+1) (ops.size - (i+1)))) a w:=fun{j b g} hg hj hl h=>
    Qww hE hgn hn h (fun t v hm=>by simp only[Ai,Bb]at hm;obtain⟨rfl,rfl⟩:=hm;exact hl) (fun t v hm=>by simp at hm;obtain⟨rfl,rfl⟩:=hm;exact⟨b,rfl⟩) (AN _) hi hop
     (fun ρ M a w hs0=>by unfold Region.wanted;simp only[hg,QB5 hj hl hs0,beq_self_eq_true]) (fun ts' hs' L' ρ' M' a' w' hK' hi' hs'=>ih _ _ L' hK' hi' ρ' M' a' w' hs') ρ M a w hs0
   split at h
   .rename_i hg
    exact Qww hE hgn hn h (fun t v hm=>by simp at hm) (fun t v hm=>by simp at hm) Ob hi hop (fun ρ M a w _=>by unfold Region.wanted;simp only[hg]) (fun ts' hs' L' ρ' M' a' w' hK' hi' hs'=>ih _ _ L' hK' hi' ρ' M' a' w' hs') ρ M a w hs0
   .rename_i j b hg
    split at h
    .simp at h
    .rename_i g hj
     split at h
     .rename_i q hl
      rcases Qik h with⟨rfl,h⟩|⟨rfl,h⟩
      .cases b with
       |true=>exact hex hg hj hl h
       |false=>exact hskip hg hj hl (.inl rfl) h
      .cases b with
       |true=>exact hskip hg hj hl (.inl rfl) h
       |false=>exact hex hg hj hl h
     .rename_i hl
      exact hskip hg hj hl (.inr rfl) h
     .simp at h
end
end
open Go
abbrev BRow:=I Nat×TS×BEff
def BRow.row(L:Lens)(b:BRow):Row:=(b.1,⟨erT L b.2.1,erH L b.2.2.hp,b.2.2.v.er L,erH L b.2.2.upd,b.2.2.nw⟩)
def L0:Lens:=fun _ _=>0
def QlX(ops:Array Oper)(rows:Y BRow)(ts:TS)(hs:HS):AH:=indep ops (rows.map (BRow.row L0)) (erT L0 ts) (erH L0 hs)
section
variable {L L':Lens}
def Qy1(a):keys (erT L a)=keys a:=by simp[erT,keys]
def QnR(n:Name)(b:BRow):(b.row L).2.has n=(b.row L').2.has n:=by
 simp only[BRow.row,Eff.has,QtB]
 congr 1
 simp only[erH,List.any_map]
 congr 1;funext p;simp only[Function.comp,QwI]
def QvK(x y:BRow):QnH (x.row L) (y.row L)=QnH (x.row L') (y.row L'):=by
 simp only[QnH,BRow.row,Qy1,Qeb]
 have:(fun n=>!Eff.has n ⟨erT L y.2.1,erH L y.2.2.hp,y.2.2.v.er L,erH L y.2.2.upd,y.2.2.nw⟩)=fun n=>!Eff.has n ⟨erT L' y.2.1,erH L' y.2.2.hp,y.2.2.v.er L',erH L' y.2.2.upd,y.2.2.nw⟩:=by
  funext n;have:=QnR (L:=L) (L':=L') n y;simp only[BRow.row]at this;rw[this]
 rw[this]
def QqU(i:Nat)(x:BRow):∀(j:Nat) (l:Y (BRow×Nat)),QhF i (x.row L) j (l.map fun p=>(p.1.row L,p.2))=QhF i (x.row L') j (l.map fun p=>(p.1.row L',p.2))
 |_,[]=>rfl
 |j,(y,m)::r=>by simp only[AU,QhF,QvK (L:=L) (L':=L') x y,QqU i x (j+1) r]
def Qra:∀(i:Nat) (l:Y (BRow×Nat)),QhR i (l.map fun p=>(p.1.row L,p.2))=QhR i (l.map fun p=>(p.1.row L',p.2))
 |_,[]=>rfl
 |i,(x,m)::r=>by simp only[AU,QhR,QqU (L:=L) (L':=L') i x (i+1) r,Qra (i+1) r]
def QtN(ts)(hs:HS):∀(l past:Y BRow),Qkg (erT L ts) (erH L hs) (l.map (BRow.row L)) (past.map (BRow.row L))=Qkg (erT L' ts) (erH L' hs) (l.map (BRow.row L')) (past.map (BRow.row L'))
 |[],past=>by simp only[Al,Qkg]
 |y::r,past=>by
  have ih:=QtN ts hs r (past++[y])
  simp only[Aq,AU,Al]at ih
  simp only[AU,Qkg,ih]
  congr 1
  show(y.2.2.nw.all fun n=>_)=(y.2.2.nw.all fun n=>_)
  congr 1;funext n
  simp only[EJ,Qd9,BRow.row,Qeb]
  congr 2
  congr 1;funext x
  have:=QnR (L:=L) (L':=L') n x
  simp only[BRow.row]at this
  simp only[Function.comp,BRow.row,this]
def QqT(h:QlX ops rows ts hs=true)(L):indep ops (rows.map (BRow.row L)) (erT L ts) (erH L hs)=true:=by
 unfold QlX indep at h
 unfold indep
 have e:∀(L:Lens) (ms:Y Nat),(rows.map (BRow.row L)).zip ms=(rows.zip ms).map fun p=>(p.1.row L,p.2):=fun L ms=>by
  rw[List.zip_map_left];rfl
 rw[e,Qra (L:=L) (L':=AM.L0),<-e]
 have:=QtN (L:=L) (L':=AM.L0) ts hs rows []
 simp_all
end
section
variable {R:Type} (P:AF) (ty:AD->I TC) (E:Env) (gn:Y Name) (nn:Nat) (ops:Array Oper)
def anyB(d:I Nat)(v:BV):AH:=match d,v with
 |some _,_=>true
 |none,.any=>true
 |none,_=>false
def Qjy(sp:AH)(m:Nat)(K:Y BRow->TS->HS->I R):Nat->Nat->Y BRow->TS->HS->I R
 |0,i,acc,ts,hs=>if Nat.beq m i then K acc.reverse ts hs else none
 |f+1,i,acc,ts,hs=>match ops[i]? with
  |none=>none
  |some o=>match o.guard with
   |none=>opK P ty E sp nn [] o ts hs fun e ts' hs'=>if anyB o.dst e.v then Qjy sp m K f (i+1) ((o.dst,rdB ts o.op.operands.toList,e)::acc) ts' hs' else none
   |some (j,b)=>match (ops[j]?).bind (·.dst)with
    |none=>none
    |some g=>match X g ts with
     |some (.b q)=>C q
       (match b with
        |true=>opK P ty E sp nn [(g,.b true)] o ts hs fun e ts' hs'=>if anyB o.dst e.v then Qjy sp m K f (i+1) ((o.dst,(g,.b true)::rdB ts o.op.operands.toList,e)::acc) ts' hs' else none
        |false=>if Qcv nn o.dst then Qjy sp m K f (i+1) ((o.dst,[(g,.b true)],ev (.tup []))::acc) (TX o.dst (.tup []) ts) hs else none)
       (match b with
        |true=>if Qcv nn o.dst then Qjy sp m K f (i+1) ((o.dst,[(g,.b false)],ev (.tup []))::acc) (TX o.dst (.tup []) ts) hs else none
        |false=>opK P ty E sp nn [(g,.b false)] o ts hs fun e ts' hs'=>if anyB o.dst e.v then Qjy sp m K f (i+1) ((o.dst,(g,.b false)::rdB ts o.op.operands.toList,e)::acc) ts' hs' else none)
     |some (.tup [])=>if Qcv nn o.dst then Qjy sp m K f (i+1) ((o.dst,[(g,.tup [])],ev (.tup []))::acc) (TX o.dst (.tup []) ts) hs else none
     |_=>none
end
def noB:BRow:=(none,[],ev .any)
def QBh(ops:Array Oper):AH:=match ops[ops.size - 1]? with
 |some ⟨_,.store _ _ _,_,_,_,none⟩=>(List.range (ops.size - 1)).all fun j=>((masks ops.toList []).getD (ops.size - 1) 0).testBit j
 |_=>false
inductive Ann where
 |go
 |Ta (a b:Ann)
 |one (a:Ann)
 |TG (s:List (Nat×SSh)) (o:List (Name×OSh)) (a:Ann)
 |loop (s:List (Nat×SSh)) (o:List (Name×OSh)) (a:Ann)
 |frz (ns:List Name) (a:Ann)
 |cut
def Ann.l:Ann->Ann
 |.Ta a _=>a
 |.one a=>a
 |.loop _ _ a=>a
 |_=>.go
def Ann.r:Ann->Ann
 |.Ta _ b=>b
 |_=>.go
section
variable {R:Type} (P:AF) (ty:AD->I TC) (E:Env) (gn:Y Name) (nn fu:Nat)
abbrev Cont(R):=Exit->TS->HS->I R
def QBd(σ:Ren):AH:=σ.all fun p=>Nat.beq p.1 p.2.1 && QnW p.1 p.2.1 p.2.2 σ
def QCL(n:Name)(hs:HS):Nat:=match X n hs with
 |some (.TI _ _ v)=>v
 |_=>0
def getS(s:Y (Nat×SSh))(o:Y (Name×OSh))(ts:TS)(hs:HS)(K:STL s×OL o->I R):I R:=
 STL.get s ts [] fun σ x=>OL.get o hs (gn.map (fun n=>(n,(n,QCL n hs)))++σ) fun σ y=>if QBd σ && gn.all (fun n=>isIn n (keys o))then K (x,y)else none
def thawA(o:Y (Name×OSh))(t:Nat):Nat->Y Sh->TS->HS->(TS->HS->I R)->I R
 |_,[],ts,hs,K=>K ts hs
 |j,.own nm::r,ts,hs,K=>match X t ts with
  |some (.agg cells)=>match cells[j]?,X nm o with
   |some .nil,some (.TI tc)=>if (X nm hs).isNone && Qe2 nm ts hs && Nat.ble 1 (tz tc)then thawA o t (j+1) r ((t,.agg (cells.set j (.own nm 0)))::ts) ((nm,.TI tc [] 0)::hs) K else none
   |some (.ts true _ []),some (.TI tc)=>if (X nm hs).isNone && Qe2 nm ts hs && Nat.ble 1 (tz tc)then thawA o t (j+1) r ((t,.agg (cells.set j (.own nm 0)))::ts) ((nm,.TI tc [] 0)::hs) K else none
   |_,_=>thawA o t (j+1) r ts hs K
  |_=>thawA o t (j+1) r ts hs K
 |j,_::r,ts,hs,K=>thawA o t (j+1) r ts hs K
def Qnv(o:Y (Name×OSh)):Y (Nat×SSh)->TS->HS->(TS->HS->I R)->I R
 |(t,.agg l)::r,ts,hs,K=>thawA o t 0 l ts hs fun ts hs=>Qnv o r ts hs K
 |(t,.one (.own nm))::r,ts,hs,K=>match X t ts,X nm o with
  |some .nil,some (.TI tc)=>if (X nm hs).isNone && Qe2 nm ts hs && Nat.ble 1 (tz tc)then Qnv o r ((t,.own nm 0)::ts) ((nm,.TI tc [] 0)::hs) K else none
  |some (.ts true _ []),some (.TI tc)=>if (X nm hs).isNone && Qe2 nm ts hs && Nat.ble 1 (tz tc)then Qnv o r ((t,.own nm 0)::ts) ((nm,.TI tc [] 0)::hs) K else none
  |_,_=>Qnv o r ts hs K
 |_::r,ts,hs,K=>Qnv o r ts hs K
 |[],ts,hs,K=>K ts hs
def Qp1(o:Y (Name×OSh))(m:Name)(ts:TS):Nat->Y Sh->HS->(HS->I R)->I R
 |_,[],hs,K=>K hs
 |j,.own nm::r,hs,K=>match X m hs with
  |some (.box cells)=>match cells[j]?,X nm o with
   |some .nil,some (.TI tc)=>if (X nm hs).isNone && Qe2 nm ts hs && Nat.ble 1 (tz tc)then Qp1 o m ts (j+1) r ((m,.box (cells.set j (.own nm 0)))::(nm,.TI tc [] 0)::hs) K else none
   |some (.ts true _ []),some (.TI tc)=>if (X nm hs).isNone && Qe2 nm ts hs && Nat.ble 1 (tz tc)then Qp1 o m ts (j+1) r ((m,.box (cells.set j (.own nm 0)))::(nm,.TI tc [] 0)::hs) K else none
   |_,_=>Qp1 o m ts (j+1) r hs K
  |_=>Qp1 o m ts (j+1) r hs K
 |j,_::r,hs,K=>Qp1 o m ts (j+1) r hs K
def Qvi(o:Y (Name×OSh))(ts:TS):Y (Name×OSh)->HS->(HS->I R)->I R
 |(m,.box l)::r,hs,K=>Qp1 o m ts 0 l hs fun hs=>Qvi o ts r hs K
 |_::r,hs,K=>Qvi o ts r hs K
 |[],hs,K=>K hs
def QCq(s:Y (Nat×SSh))(t:Nat):AH:=(X t s).isSome
def QwS(gn:Y Name)(o:Y (Name×OSh))(hs:HS)(n:Name):AH:=match X n hs with
 |some (.box _)=>(X n o).isSome || isIn n gn
 |_=>true
def QqV(gn:Y Name)(o:Y (Name×OSh))(ts:TS)(hs:HS)(n:Name):AH:=match X n hs with
 |some (.TI _ _ _)=>isIn n gn || (X n o).isNone || !Qe2 n ts hs
 |_=>true
def Qoh(s:Y (Nat×SSh))(o:Y (Name×OSh))(ts:TS)(hs:HS)(K:STL s×OL o->I R):I R:=
 QrN (QCq s) [] ts fun ts'=>QrN (QwS gn o hs) [] hs fun hs'=>Tb gn (QaQ o hs (s.map (·.2)) (s.map fun p=>(X p.1 ts).getD .any)) ts' hs' fun ts hs=>QrN (QqV gn o ts hs) [] hs fun hs=>Qnv o s ts hs fun ts hs=>Qvi o ts o hs fun hs=>getS gn s o (QzL hs s ts) hs K
def Qzb(K:Cont R)(N:TS->HS->I R):Cont R:=fun e ts hs=>match e with
 |.normal=>N ts hs
 |e=>K e ts hs
def QzU(id:Nat)(K:Cont R):Cont R:=fun e ts hs=>match e with
 |.exit k=>if Nat.beq k id then K .normal ts hs else K (.exit k) ts hs
 |e=>K e ts hs
def around(an:Ann)(ts:TS)(hs:HS)(K:Cont R)(body:Ann->TS->HS->Cont R->I R):I R:=match an with
 |.TG s o a=>TG (fun y:STL s×OL o=>K .normal (STL.put 0 s y.1) (OL.put 0 o y.2)) fun zG=>body a ts hs (Qzb K fun ts hs=>Qoh gn s o ts hs zG)
 |.frz ns a=>Tb gn ns ts hs fun ts hs=>body a ts hs K
 |.cut=>none
 |a=>body a ts hs K
def vc[AL R]:Code->Ann->TS->HS->Cont R->I R
 |.skip,an,ts,hs,K=>K .normal ts hs
 |.label _,an,ts,hs,K=>K .normal ts hs
 |.ret,an,ts,hs,K=>K .ret ts hs
 |.exit id,an,ts,hs,K=>K (.exit id) ts hs
 |.seq a b,an,ts,hs,K=>around gn an ts hs K fun an ts hs K=>vc a an.l ts hs (Qzb K fun ts hs=>vc b an.r ts hs K)
 |.cond (.tmp t) a b,an,ts,hs,K=>around gn an ts hs K fun an ts hs K=>match X t ts with
  |some (.b q)=>C q (vc a an.l ts hs K) (vc b an.r ts hs K)
  |some .ub=>TU (vc a an.l ts hs K) (vc b an.r ts hs K)
  |_=>none
 |.cond (.const (.bool q)) a b,an,ts,hs,K=>around gn an ts hs K fun an ts hs K=>match q with
  |true=>vc a an.l ts hs K
  |false=>vc b an.r ts hs K
 |.block id a,an,ts,hs,K=>around gn an ts hs K fun an ts hs K=>vc a an.l ts hs (QzU id K)
 |.loop a,an,ts,hs,K=>match an with
  |.loop s o an=>Qoh gn s o ts hs fun x=>Qe (fun Lp x=>vc a an (STL.put 0 s x.1) (OL.put 0 o x.2) (Qzb K fun ts hs=>Qoh gn s o ts hs Lp)) fu x
  |_=>none
 |.region _ ops dr,an,ts,hs,K=>around gn an ts hs K fun an ts hs K=>match dr with
  |false=>regK P ty E gn nn ops (guarded ops) (fun ts hs=>K .normal ts hs) ops.size 0 ts hs
  |true=>if P.follows .mixedOrders then(match QBh ops with
   |true=>Qjy P ty E nn ops (guarded ops) (ops.size - 1) (fun rows ts' hs'=>if QlX ops (rows++[noB]) ts hs then(match ops[ops.size - 1]? with
    |some o=>exK P ty E gn nn (guarded ops) [] o ts' hs' (fun ts hs=>K .normal ts hs)
    |none=>none)else none) (ops.size - 1) 0 [] ts hs
   |false=>Qjy P ty E nn ops (guarded ops) ops.size (fun rows ts' hs'=>if QlX ops rows ts hs then K .normal ts' hs' else none) ops.size 0 [] ts hs)else none
 |_,_,_,_,_=>none
end
end Go.Proofs.YtlllfgmajglnhaaGreat.AM
