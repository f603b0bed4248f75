/-
  The abstract machine, part A: pure deep data (PV), abstract values (AV), abstract objects (AO), and what they mean in a world. No project text.
-/
import Derived.Orders
import Derived.Laws.Cells
import Derived.Laws.World
import Derived.Deep.AppendSrc
import Derived.Deep.Upon
import Derived.IntWalk
import Derived.Laws.Strings
import Derived.KernelRfl
import Derived.Below
import Derived.ChangeSame
import Derived.ChangeArms
import Derived.ChangeShapes
import Derived.DataReads
import Derived.OpenShut
import Derived.WideKeyArgs
import Derived.RowKit2
import Derived.JoinedOf
import Derived.JoinedAt
import Derived.Laws.StructEq
set_option linter.defProp false
set_option linter.constructorNameAsVariable false
set_option linter.unusedSimpArgs false
set_option linter.unusedVariables false
set_option autoImplicit true
set_option relaxedAutoImplicit true
namespace Go.Proofs.YtlllfgmajglnhaaGreat.AM
open Go
section
def iA{c:Prop}{h:Decidable c}(n:¬c){a:Sort _}{t e:a}:@ite a c h t e=e:=if_neg n
def iB{c:Prop}{h:Decidable c}(n:c){a:Sort _}{t e:a}:@ite a c h t e=t:=if_pos n
abbrev Y:=List
abbrev I:=Option
abbrev AC:=Operand
abbrev AD:=TypeId
abbrev AE:=Value
abbrev AF:=Program
abbrev AG:=World
abbrev AH:=Bool
abbrev AJ:=ByteArray
abbrev AK:=Inhabited
abbrev AL:=DecidableEq
def AN:=@Nat.le_refl
def AP:=@Option.some.injEq
def AQ:=@List.getD_eq_getElem?_getD
def AR:=@List.getElem?_eq_getElem
def AU:=@List.map_cons
def AW:=@List.all_eq_true
def AX:=@List.length_map
def AY:=@Nat.le_trans
def AZ:=@List.mem_cons
def Aa:=@Option.map_some
def Ab:=@List.length_append
def Ac:=@List.take_length
def Ad:=@List.length_cons
def Ae:=@List.length_take
def Af:=@List.mem_append
def Ag:=@Ne.symm
def Ah:=@Nat.zero_add
def Ai:=@List.mem_singleton
def Aj:=@Int.le_refl
def Ak:=@Decidable.not_not
def Al:=@List.map_nil
def Am:=@Nat.le_of_ble_eq_true
def An:=@List.append_nil
def Ao:=@List.length_nil
def Ap:=@List.getElem?_drop
def Aq:=@List.map_append
def Ar:=@List.getElem?_take
def As:=@Nat.mul_le_mul_right
def Au:=@decide_eq_false
def Av:=@Nat.add_mul
def Aw:=@List.append_assoc
def Ax:=@decide_eq_true
def Ay:=@Nat.lt_or_ge
def Az:=@List.getElem?_eq_some_iff
def BA:=@List.mem_cons_self
def BB:=@List.mem_cons_of_mem
def BC:=@congrArg
def BD:=@Nat.lt_of_lt_of_le
def BE:=@List.cons_append
def BF:=@of_decide_eq_true
def BG:=@Bool.not_eq_true'
def BH:=@Array.getD_eq_getD_getElem?
def BI:=@List.not_mem_nil
def BJ:=@Int.toNat_natCast
def BK:=@decide_eq_true_eq
def BL:=@Nat.zero_le
def BM:=@of_decide_eq_false
def BN:=@List.getElem?_append_left
def BP:=@List.eq_nil_of_length_eq_zero
def BQ:=@List.mem_map
def BR:=@List.getElem?_append_right
def BT:=@List.contains_eq_mem
def BU:=@List.nil_append
def BW:=@Array.length_toList
def BX:=@List.all_cons
def BZ:=@List.getElem_of_mem
def Ba:=@Nat.succ_mul
def Bb:=@Prod.mk.injEq
def Bc:=@Bool.true_or
def Bd:=@List.take_zero
def Be:=@Option.some.inj
def Bf:=@List.take_of_length_le
def Bg:=@List.length_drop
def Bh:=@List.map_take
def Bi:=@List.contains_iff_mem
def Bj:=@Bool.false_eq_true
def Bk:=@Option.isNone_iff_eq_none
def Bl:=@List.mem_filter
def Bm:=@List.getElem?_map
def Bn:=@List.map_congr_left
def Bo:=@List.mem_of_mem_take
def Bp:=@List.mem_of_mem_drop
def Bq:=@Int.tmod_eq_emod_of_nonneg
def Br:=@Nat.sub_zero
def Bt:=@Bool.false_or
def Bu:=@Array.getElem?_replicate
def Bv:=@Int.tdiv_eq_ediv_of_nonneg
def Bw:=@Classical.byContradiction
def Bz:=@Bool.or_eq_true
def B0:=@Option.getD_some
def B1:=@List.length_pos_iff
def B2:=@List.take_append_drop
def B3:=@Nat.beq_refl
def B4:=@and_congr_right
def B5:=@List.filter_append
def B6:=@Nat.add_assoc
def B7:=@List.length_singleton
def B8:=@Bool.true_and
def B9:=@List.getElem?_append
def CA:=@List.getElem?_set
def CB:=@List.size_toArray
def CC:=@Nat.min_eq_left
def CD:=@List.mem_append_right
def CE:=@Array.getElem?_eq_some_iff
def CF:=@List.pairwise_cons
def CH:=@List.pairwise_append
def CJ:=@Bool.or_true
def CK:=@Nat.add_zero
def CL:=@List.length_set
def CM:=@List.map_drop
def CN:=@List.map_map
def CO:=@Nat.eq_zero_or_pos
def CP:=@List.pairwise_iff_getElem
def CQ:=@List.Pairwise.filter
def CR:=@List.length_filter_le
def CS:=@List.take_succ_cons
def CT:=@Bool.not_true
def CU:=@List.flatten_cons
def CV:=@List.mem_of_getElem?
def CW:=@List.getElem?_toArray
def CY:=@List.getElem?_take_of_lt
def CZ:=@List.take_append_of_le_length
def Ca:=@List.take_take
def Cb:=@List.drop_zero
def Cc:=@List.sum_cons
def Cd:=@decide_eq_false_iff_not
def Ce:=@List.mem_range
def Cf:=@Bool.or_false
def Cg:=@List.ext_getElem?
def Ch:=@Nat.add_sub_cancel
def Ci:=@List.drop_succ_cons
def Cj:=@Nat.mod_lt
def Ck:=@Nat.lt_irrefl
def Cl:=@Option.isSome_iff_exists
def Cm:=@Bool.not_eq_false'
def Cn:=@List.length_replicate
def Co:=@Int.emod_nonneg
def Cp:=@Int.emod_lt_of_pos
def Cq:=@Int.le_trans
def Cr:=@List.cons.injEq
def Cs:=@Nat.lt_trichotomy
def Ct:=@List.foldl_cons
def Cu:=@List.take_succ_eq_append_getElem
def Cv:=@List.filter_eq_nil_iff
def Cw:=@Nat.lt_or_gt_of_ne
def Cx:=@List.any_eq_false
def Cy:=@List.eq_of_mem_replicate
def Cz:=@Nat.one_mul
def C0:=@Array.toList_map
def C1:=@List.mem_append_left
def C2:=@Nat.beq_eq
def C3:=@Bool.eq_false_iff
def C4:=@Prod.mk.inj
def C5:=@List.pairwise_singleton
def C6:=@List.toList_toArray
def C7:=@Nat.min_self
def C8:=@List.drop_take
def C9:=@List.take_sublist
def EA:=@Nat.add_comm
def EB:=@Array.getElem?_setIfInBounds
def EC:=@Nat.sub_self
def ED:=@List.getElem?_eq_none
def EE:=@Classical.em
def EF:=@Array.getElem?_eq_getElem
def EG:=@List.drop_eq_getElem_cons
def EH:=@List.mem_or_eq_of_mem_set
def EI:=@Nat.mul_comm
def EJ:=@List.all_map
def EK:=@Nat.le_of_lt
def EL:=@List.map_inj_left
def EM:=@List.flatMap_cons
def EN:=@List.any_eq_true
def EO:=@Int.ediv_nonneg
def EP:=@Bool.and_true
def EQ:=@Nat.le_of_eq
def ER:=@Int.neg_tmod
def ES:=@Int.neg_neg
def ET:=@List.filter_eq_self
def EU:=@Bool.not_not
def EV:=@List.length_take_le
def EW:=@Int.max_comm
def EX:=@List.nodup_append
def EY:=@List.ext_getElem
def EZ:=@List.take_left
def Ea:=@Int.lt_or_le
def Eb:=@List.range_eq_range'
def Ec:=@List.foldl_append
def Ed:=@Array.all_eq_true'
def Ee:=@Bool.or_eq_false_iff
def Ef:=@Array.mapM_eq_mapM_toList
def Eg:=@List.drop_of_length_le
def Eh:=@List.set_cons_zero
def Ei:=@Array.foldl_toList
def Ej:=@Array.size_append
def Ek:=@Option.isSome_some
def El:=@List.length_eq_one_iff
def Em:=@Array.getElem?_extract
def En:=@Array.getElem?_toList
def Eo:=@List.getElem?_replicate
def Ep:=@List.map_replicate
def Er:=@List.filter_cons_of_pos
def Es:=@List.filter_cons_of_neg
def Et:=@Array.replicate_succ
def Eu:=@Array.replicate_zero
def Ev:=@List.push_toArray
def Ew:=@List.append_toArray
def Ex:=@Array.getElem?_modify
def Ey:=@Array.toArray_toList
def Ez:=@List.take_set_of_le
def E0:=@List.length_flatMap
def E1:=@List.eq_nil_iff_length_eq_zero
def E2:=@Nat.eq_zero_of_not_pos
def E3:=@Option.toList_none
def E4:=@List.length_erase_of_mem
def U{p:Prop}(h:p:=by omega):p:=h
def Ob{p:Prop}(h:p:=by simp):p:=h
def nbe{n m:Nat}(h:Nat.beq n m=true):n=m:=Nat.eq_of_beq_eq_true h
def bae(a b:AH):((a&&b)=true)=(a=true/\b=true):=Bool.and_eq_true a b
inductive PV where
 |v (x:Value)
 |sl (full:Bool) (es:Nat) (rows:List (List PV))
mutual
def PV.R(M:Nat->Prop)(w:AG):PV->AE->Prop
 |.v x,u=>u=x/\x.oneCell'=true
 |.sl full es rows,u=>∃(a:I Addr) (cap:Nat),u=.slice a rows.length cap/\rows.length<=cap/\(full=true->cap=rows.length)/\
   (a=none->cap=0)/\∀ad,a=some ad->cap≠0->ad.spot=none/\¬M ad.block/\ad.block<w.heap.size/\PV.Rows M w ad.block es ad.off rows
def PV.Rows(M:Nat->Prop)(w:AG)(b es:Nat):Nat->Y (Y PV)->Prop
 |_,[]=>True
 |off,r::rs=>r.length=es/\PV.Cells M w b off r/\PV.Rows M w b es (off+es) rs
def PV.Cells(M:Nat->Prop)(w:AG)(b:Nat):Nat->Y PV->Prop
 |_,[]=>True
 |off,c::cs=>(∃u,w.cell? ⟨b,off,none⟩=some u/\PV.R M w c u)/\PV.Cells M w b (off+1) cs
end
structure Ext (B:Nat->Prop) (w w':AG):Prop where
 size:w.heap.size<=w'.heap.size
 same:∀b,b<w.heap.size->¬B b->w'.heap[b]?=w.heap[b]?
 os:w'.os=w.os
 out:w'.output=w.output
def Ext.refl(B)(w):Ext B w w:=⟨AN _,fun _ _ _=>rfl,rfl,rfl⟩
def Ext.trans(h:Ext B w w1)(h':Ext B' w1 w2)(hB:∀b,b<w.heap.size->B' b->B b):Ext B w w2:=
 ⟨AY h.size h'.size,fun b hb hn=>by
  rw[h'.same b (BD hb h.size) (fun hb'=>hn (hB b hb hb')),h.same b hb hn],h'.os.trans h.os,h'.out.trans h.out⟩
def Ext.weaken(h:Ext B w w')(hB:∀b,b<w.heap.size->B b->B' b):Ext B' w w':=
 ⟨h.size,fun b hb hn=>h.same b hb (fun h'=>hn (hB b hb h')),h.os,h.out⟩
def Ext.cell(h:Ext B w w')(hb:b<w.heap.size)(hn:¬B b)(o):
  w'.cell? ⟨b,o,none⟩=w.cell? ⟨b,o,none⟩:=by
 unfold World.cell?;rw[h.same b hb hn]
mutual
def PV.R.mono(he:Ext B w w')(hB:∀b,B b->M b)(hM:∀b,b<w.heap.size->M' b->M b):∀{x:PV} {u:AE},x.R M w u->x.R M' w' u
 |.v _,_,h=>by simpa only[PV.R]using h
 |.sl full es rows,u,h=>by
  simp only[PV.R]at h |-
  obtain⟨a,cap,h1,h2,h3,h4,h5⟩:=h
  refine⟨a,cap,h1,h2,h3,h4,fun ad had hc=>?_⟩
  obtain⟨g1,g2,g3,g4⟩:=h5 ad had hc
  exact⟨g1,fun h'=>g2 (hM _ g3 h'),BD g3 he.size,PV.Rows.mono he hB hM (fun h'=>g2 (hB _ h')) g3 g4⟩
def PV.Rows.mono(he:Ext B w w')(hB:∀b,B b->M b)(hM:∀b,b<w.heap.size->M' b->M b)(hb:¬B b)(hs:b<w.heap.size):∀{off:Nat} {rows:Y (Y PV)},PV.Rows M w b es off rows->PV.Rows M' w' b es off rows
 |_,[],_=>by simp only[PV.Rows]
 |off,r::rs,h=>by
  simp only[PV.Rows]at h |-
  exact⟨h.1,PV.Cells.mono he hB hM hb hs h.2.1,PV.Rows.mono he hB hM hb hs h.2.2⟩
def PV.Cells.mono(he:Ext B w w')(hB:∀b,B b->M b)(hM:∀b,b<w.heap.size->M' b->M b)(hb:¬B b)(hs:b<w.heap.size):∀{off:Nat} {cs:Y PV},PV.Cells M w b off cs->PV.Cells M' w' b off cs
 |_,[],_=>by simp only[PV.Cells]
 |off,c::cs,h=>by
  simp only[PV.Cells]at h |-
  obtain⟨⟨u,hu,hr⟩,h2⟩:=h
  exact⟨⟨u,by rw[he.cell hs hb];exact hu,PV.R.mono he hB hM hr⟩,PV.Cells.mono he hB hM hb hs h2⟩
end
def PV.R.flat{x:PV}(h:x.R M w u):u.oneCell'=true:=by
 cases x with
 |v x=>simp only[PV.R]at h;rw[h.1];exact h.2
 |sl f es rows=>simp only[PV.R]at h;obtain⟨a,cap,rfl,_⟩:=h;rfl
def PV.Cells.get:∀{off:Nat} {cs:Y PV},PV.Cells M w b off cs->∀j c,cs[j]?=some c->∃u,w.cell? ⟨b,off+j,none⟩=some u/\c.R M w u
 |_,[],_,j,c,hj=>by simp at hj
 |off,c0::cs,h,j,c,hj=>by
  simp only[PV.Cells]at h
  cases j with
  |zero=>simp at hj;subst hj;exact h.1
  |succ j=>
   have:=h.2.get j c (by simpa using hj)
   rwa [B6,EA 1 j]at this
def PV.Cells.of_get:∀{off:Nat} {cs:Y PV},(∀j c,cs[j]?=some c->∃u,w.cell? ⟨b,off+j,none⟩=some u/\c.R M w u)->PV.Cells M w b off cs
 |_,[],_=>by simp only[PV.Cells]
 |off,c0::cs,h=>by
  simp only[PV.Cells]
  refine⟨by have:=h 0 c0 Ob;simpa using this,PV.Cells.of_get (fun j c hj=>?_)⟩
  have:=h (j+1) c (by simpa using hj)
  rwa [show off+(j+1)=off+1+j by omega]at this
def PV.Cells.drop(k)(h:PV.Cells M w b off cs):PV.Cells M w b (off+k) (cs.drop k):=
 PV.Cells.of_get fun j c hj=>by
  have:=h.get (k+j) c (by simpa using hj)
  rwa [<-B6]at this
def PV.Cells.take(k)(h:PV.Cells M w b off cs):PV.Cells M w b off (cs.take k):=
 PV.Cells.of_get fun j c hj=>by
  refine h.get j c ?_
  rw[Ar]at hj
  split at hj
  .exact hj
  .simp at hj
def PV.Rows.get:∀{off:Nat} {rows:Y (Y PV)},PV.Rows M w b es off rows->∀i r,rows[i]?=some r->r.length=es/\PV.Cells M w b (off+i*es) r
 |_,[],_,i,r,hi=>by simp at hi
 |off,r0::rs,h,i,r,hi=>by
  simp only[PV.Rows]at h
  cases i with
  |zero=>simp at hi;subst hi;simpa using⟨h.1,h.2.1⟩
  |succ i=>
   have:=h.2.2.get i r (by simpa using hi)
   rwa [show off+es+i*es=off+(i+1)*es by rw[Ba];omega]at this
def PV.Rows.of_get:∀{off:Nat} {rows:Y (Y PV)},(∀i r,rows[i]?=some r->r.length=es/\PV.Cells M w b (off+i*es) r)->PV.Rows M w b es off rows
 |_,[],_=>by simp only[PV.Rows]
 |off,r0::rs,h=>by
  simp only[PV.Rows]
  have h0:=h 0 r0 Ob
  refine⟨h0.1,by simpa using h0.2,PV.Rows.of_get (fun i r hi=>?_)⟩
  have:=h (i+1) r (by simpa using hi)
  rwa [show off+(i+1)*es=off+es+i*es by rw[Ba];omega]at this
def PV.Rows.drop(k)(h:PV.Rows M w b es off rows):PV.Rows M w b es (off+k*es) (rows.drop k):=
 PV.Rows.of_get fun i r hi=>by
  have:=h.get (k+i) r (by simpa using hi)
  rwa [Av,<-B6]at this
def PV.Rows.take(k)(h:PV.Rows M w b es off rows):PV.Rows M w b es off (rows.take k):=
 PV.Rows.of_get fun i r hi=>by
  rw[Ar]at hi
  split at hi
  .exact h.get i r hi
  .simp at hi
abbrev Name:=Nat
inductive AV where
 |p (x:PV)
 |agg (cs:List AV)
 |TM (n:Name) (off:Nat)
 |own (n:Name) (len:Nat)
 |aref (n:Name) (len i off:Nat)
 |eptr (cells:List PV)
 |view (n:Name) (len lo hi:Nat)
 |cut (n:Name) (len k:Nat)
 |tup (vs:List AV)
 |clo (f:Fn) (fs:List AV) (caps:List AV)
 |oref (m:Bool) (n:Name)
 |err (b:Bool)
 |ub
 |any
inductive AO where
 |box (cells:List AV)
 |TI (es:Nat) (rows:List (List PV))
 |hole (es:Nat) (pre:List (List PV)) (row:List AV) (post:List (List PV))
 |fact (a:AV) (x:Value)
 |obj (x:Obj)
def AO.shape:AO->I (Nat×Nat)
 |.box _=>none
 |.TI es rows=>some (es,rows.length)
 |.hole es pre _ post=>some (es,pre.length+1+post.length)
 |.fact _ _=>none
 |.obj _=>none
structure Loc where
 base:I Addr
 cap:Nat
def Loc.blk(l:Loc):I Nat:=if l.cap=0 then none else l.base.map (·.block)
abbrev Heap:=Name->I AO
def Qic(zF:AE)(lo hi es:Nat):AE:=match zF with
 |.slice a l c=>.slice (if c=lo then a else a.map (·.add (lo*es))) (hi - lo) (c - lo)
 |v=>v
mutual
def AV.R(ρ:Name->Loc)(H:Heap)(M:Nat->Prop)(w:AG):AV->AE->Prop
 |.p x,u=>x.R M w u
 |.agg cs,u=>∃us:Array AE,u=.agg us/\AV.Rs ρ H M w cs us.toList
 |.TM n off,u=>u.oneCell'=true/\∀cells,H n=some (.box cells)->∃b,(ρ n).base=some ⟨b,0,none⟩/\u=.pointer (some ⟨b,off,none⟩)
 |.own n len,u=>u.oneCell'=true/\∀o es k,H n=some o->o.shape=some (es,k)->len<=k/\(len=k->u=.slice (ρ n).base len (ρ n).cap)
 |.aref n len i off,u=>u.oneCell'=true/\∀o es k,H n=some o->o.shape=some (es,k)->len<=k/\(len=k->∃b,(ρ n).base=some ⟨b,0,none⟩/\u=.pointer (some ⟨b,i*es+off,none⟩))
 |.view n len lo hi,u=>u.oneCell'=true/\lo<=hi/\hi<=len/\∀o es k,H n=some o->o.shape=some (es,k)->len<=k/\(len=k->u=Qic (.slice (ρ n).base len (ρ n).cap) lo hi es)
 |.cut n len k,u=>u.oneCell'=true/\k<=len/\∀o es r,H n=some o->o.shape=some (es,r)->len<=r/\(len=r->u=.slice (ρ n).base k k)
 |.eptr cells,u=>∃ad:Addr,u=.pointer (some ad)/\ad.spot=none/\¬M ad.block/\ad.block<w.heap.size/\PV.Cells M w ad.block ad.off cells
 |.tup vs,u=>∃us:Array AE,u=.tuple us/\AV.Ts ρ H M w vs us.toList
 |.clo f fs caps,u=>∃a c:Array AE,u=.func f a c/\AV.Rs ρ H M w fs a.toList/\AV.Rs ρ H M w caps c.toList
 |.oref m n,u=>u.oneCell'=true/\∀x,H n=some (.obj x)->∃b,(ρ n).base=some ⟨b,0,none⟩/\u=(if m then .map (some b)else .pointer (some ⟨b,0,none⟩))
 |.err b,u=>u.oneCell'=true/\(b=true->u=.nilIface)/\(b=false->∃t p,u=.iface t p)
 |.ub,u=>∃q,u=.bool q
 |.any,u=>u.oneCell'=true
def AV.Rs(ρ:Name->Loc)(H:Heap)(M:Nat->Prop)(w:AG):Y AV->Y AE->Prop
 |[],us=>us=[]
 |x::xs,us=>∃u us',us=u::us'/\u.oneCell'=true/\AV.R ρ H M w x u/\AV.Rs ρ H M w xs us'
def AV.Ts(ρ:Name->Loc)(H:Heap)(M:Nat->Prop)(w:AG):Y AV->Y AE->Prop
 |[],us=>us=[]
 |x::xs,us=>∃u us',us=u::us'/\AV.R ρ H M w x u/\AV.Ts ρ H M w xs us'
end
mutual
def AV.has(n:Name):AV->AH
 |.p _=>false
 |.agg cs=>AV.hasL n cs
 |.TM m _=>m == n
 |.own m _=>m == n
 |.aref m _ _ _=>m == n
 |.view m _ _ _=>m == n
 |.cut m _ _=>m == n
 |.eptr _=>false
 |.tup vs=>AV.hasL n vs
 |.clo _ fs caps=>AV.hasL n fs || AV.hasL n caps
 |.oref _ m=>m == n
 |.err _=>false
 |.ub=>false
 |.any=>false
def AV.hasL(n:Name):Y AV->AH
 |[]=>false
 |x::xs=>AV.has n x || AV.hasL n xs
end
def AO.has(n:Name):AO->AH
 |.box cells=>AV.hasL n cells
 |.TI _ _=>false
 |.hole _ _ row _=>AV.hasL n row
 |.fact a _=>a.has n
 |.obj _=>false
def stays:AO->Loc->I AO->Loc->Prop
 |_,_,none,_=>True
 |.box _,l,some (.box _),l'=>l'=l
 |.TI es rows,l,some (.TI es' rows'),l'=>es'=es/\rows.length<=rows'.length/\(rows.length=rows'.length->l'=l)
 |.TI es rows,l,some (.hole es' pre _ post),l'=>es'=es/\rows.length<=pre.length+1+post.length/\(rows.length=pre.length+1+post.length->l'=l)
 |.hole es pre _ post,l,some (.TI es' rows'),l'=>es'=es/\pre.length+1+post.length<=rows'.length/\(pre.length+1+post.length=rows'.length->l'=l)
 |.hole es pre _ post,l,some (.hole es' pre' _ post'),l'=>es'=es/\pre.length+1+post.length<=pre'.length+1+post'.length/\(pre.length+1+post.length=pre'.length+1+post'.length->l'=l)
 |.fact _ _,_,some (.fact _ _),_=>True
 |.obj _,l,some (.obj _),l'=>l'=l
 |_,_,_,_=>False
def Zj(o)(l):stays o l (some o) l:=by
 cases o<;>simp[stays]
def QeL(h:stays o l (some o') l')(hs:o'.shape=some (es,k)):∃k0,o.shape=some (es,k0)/\k0<=k/\(k0=k->l'=l):=by
 cases o<;>cases o'<;>simp only[stays,AO.shape,reduceCtorEq,AP,Bb]at h hs |-
 all_goals simp_all
def Qdk(ρ:Name->Loc)(H:Heap)(ρ':Name->Loc)(H':Heap):Prop:=
 ∀n o,H n=some o->stays o (ρ n) (H' n) (ρ' n)
mutual
def AV.R.step{ρ ρ':Name->Loc}{H H':Heap}{M M' B:Nat->Prop}{w w':AG}(he:Ext B w w')(hB:∀b,B b->M b)(hM:∀b,b<w.heap.size->M' b->M b)(hs:Qdk ρ H ρ' H'):
  ∀{x:AV} {u:AE},(∀n,x.has n=true->H n=none->H' n=none)->x.R ρ H M w u->x.R ρ' H' M' w' u
 |.p x,u,hn,h=>by simp only[AV.R]at h |-;exact h.mono he hB hM
 |.agg cs,u,hn,h=>by
  simp only[AV.R]at h |-
  obtain⟨us,h1,h2⟩:=h
  exact⟨us,h1,AV.Rs.step he hB hM hs (fun n h0=>hn n (by simpa only[AV.has]using h0)) h2⟩
 |.TM n off,u,hn,h=>by
  simp only[AV.R]at h |-
  refine⟨h.1,fun cells hc=>?_⟩
  cases hH:H n with
  |none=>have:=hn n (by simp[AV.has]) hH;rw[this]at hc;simp at hc
  |some o=>
   have h1:=hs n o hH
   rw[hc]at h1
   cases o with
   |box cs=>simp only[stays]at h1;obtain⟨b,hb,hu⟩:=h.2 cs hH;exact⟨b,by rw[h1];exact hb,hu⟩
   |TI es rows=>simp[stays]at h1
   |hole es pre row post=>simp[stays]at h1
   |fact a x=>simp[stays]at h1
   |obj x=>simp[stays]at h1
 |.own n len,u,hn,h=>by
  simp only[AV.R]at h |-
  refine⟨h.1,fun o' es k hc hsh=>?_⟩
  cases hH:H n with
  |none=>have:=hn n (by simp[AV.has]) hH;rw[this]at hc;simp at hc
  |some o=>
   have h1:=hs n o hH
   rw[hc]at h1
   obtain⟨k0,q1,q2,q3⟩:=QeL h1 hsh
   obtain⟨g1,g2⟩:=h.2 o es k0 hH q1
   refine⟨AY g1 q2,fun hl=>?_⟩
   have e:k0=k:=U
   rw[q3 e]
   exact g2 U
 |.aref n len i off,u,hn,h=>by
  simp only[AV.R]at h |-
  refine⟨h.1,fun o' es k hc hsh=>?_⟩
  cases hH:H n with
  |none=>have:=hn n (by simp[AV.has]) hH;rw[this]at hc;simp at hc
  |some o=>
   have h1:=hs n o hH
   rw[hc]at h1
   obtain⟨k0,q1,q2,q3⟩:=QeL h1 hsh
   obtain⟨g1,g2⟩:=h.2 o es k0 hH q1
   refine⟨AY g1 q2,fun hl=>?_⟩
   have e:k0=k:=U
   rw[q3 e]
   exact g2 U
 |.view n len lo hi,u,hn,h=>by
  simp only[AV.R]at h |-
  refine⟨h.1,h.2.1,h.2.2.1,fun o' es k hc hsh=>?_⟩
  cases hH:H n with
  |none=>have:=hn n (by simp[AV.has]) hH;rw[this]at hc;simp at hc
  |some o=>
   have h1:=hs n o hH
   rw[hc]at h1
   obtain⟨k0,q1,q2,q3⟩:=QeL h1 hsh
   obtain⟨g1,g2⟩:=h.2.2.2 o es k0 hH q1
   refine⟨AY g1 q2,fun hl=>?_⟩
   have e:k0=k:=U
   rw[q3 e]
   exact g2 U
 |.cut n len r,u,hn,h=>by
  simp only[AV.R]at h |-
  refine⟨h.1,h.2.1,fun o' es k hc hsh=>?_⟩
  cases hH:H n with
  |none=>have:=hn n (by simp[AV.has]) hH;rw[this]at hc;simp at hc
  |some o=>
   have h1:=hs n o hH
   rw[hc]at h1
   obtain⟨k0,q1,q2,q3⟩:=QeL h1 hsh
   obtain⟨g1,g2⟩:=h.2.2 o es k0 hH q1
   refine⟨AY g1 q2,fun hl=>?_⟩
   have e:k0=k:=U
   rw[q3 e]
   exact g2 U
 |.eptr cells,u,hn,h=>by
  simp only[AV.R]at h |-
  obtain⟨ad,h1,h2,h3,h4,h5⟩:=h
  exact⟨ad,h1,h2,fun h'=>h3 (hM _ h4 h'),BD h4 he.size,h5.mono he hB hM (fun h'=>h3 (hB _ h')) h4⟩
 |.tup vs,u,hn,h=>by
  simp only[AV.R]at h |-
  obtain⟨us,h1,h2⟩:=h
  exact⟨us,h1,AV.Ts.step he hB hM hs (fun n h0=>hn n (by simpa only[AV.has]using h0)) h2⟩
 |.clo f fs caps,u,hn,h=>by
  simp only[AV.R]at h |-
  obtain⟨a,c,h1,h2,h3⟩:=h
  exact⟨a,c,h1,AV.Rs.step he hB hM hs (fun n h0=>hn n (by simp only[AV.has,h0,Bc])) h2,AV.Rs.step he hB hM hs (fun n h0=>hn n (by simp only[AV.has,h0,CJ])) h3⟩
 |.oref m n,u,hn,h=>by
  simp only[AV.R]at h |-
  refine⟨h.1,fun x hc=>?_⟩
  cases hH:H n with
  |none=>have:=hn n (by simp[AV.has]) hH;rw[this]at hc;simp at hc
  |some o=>
   have h1:=hs n o hH
   rw[hc]at h1
   cases o with
   |obj y=>simp only[stays]at h1;obtain⟨b,hb,hu⟩:=h.2 y hH;exact⟨b,by rw[h1];exact hb,hu⟩
   |box cs=>simp[stays]at h1
   |TI es rows=>simp[stays]at h1
   |hole es pre row post=>simp[stays]at h1
   |fact a x=>simp[stays]at h1
 |.err b,u,hn,h=>by simpa only[AV.R]using h
 |.ub,u,hn,h=>by simpa only[AV.R]using h
 |.any,u,hn,h=>by simpa only[AV.R]using h
def AV.Rs.step{ρ ρ':Name->Loc}{H H':Heap}{M M' B:Nat->Prop}{w w':AG}(he:Ext B w w')(hB:∀b,B b->M b)(hM:∀b,b<w.heap.size->M' b->M b)(hs:Qdk ρ H ρ' H'):
  ∀{xs:Y AV} {us:Y AE},(∀n,AV.hasL n xs=true->H n=none->H' n=none)->AV.Rs ρ H M w xs us->AV.Rs ρ' H' M' w' xs us
 |[],us,_,h=>by simpa only[AV.Rs]using h
 |x::xs,us,hn,h=>by
  simp only[AV.Rs]at h |-
  obtain⟨u,us',h1,h2,h3,h4⟩:=h
  exact⟨u,us',h1,h2,AV.R.step he hB hM hs (fun n h0=>hn n (by simp only[AV.hasL,h0,Bc])) h3,AV.Rs.step he hB hM hs (fun n h0=>hn n (by simp only[AV.hasL,h0,CJ])) h4⟩
def AV.Ts.step{ρ ρ':Name->Loc}{H H':Heap}{M M' B:Nat->Prop}{w w':AG}(he:Ext B w w')(hB:∀b,B b->M b)(hM:∀b,b<w.heap.size->M' b->M b)(hs:Qdk ρ H ρ' H'):
  ∀{xs:Y AV} {us:Y AE},(∀n,AV.hasL n xs=true->H n=none->H' n=none)->AV.Ts ρ H M w xs us->AV.Ts ρ' H' M' w' xs us
 |[],us,_,h=>by simpa only[AV.Ts]using h
 |x::xs,us,hn,h=>by
  simp only[AV.Ts]at h |-
  obtain⟨u,us',h1,h3,h4⟩:=h
  exact⟨u,us',h1,AV.R.step he hB hM hs (fun n h0=>hn n (by simp only[AV.hasL,h0,Bc])) h3,AV.Ts.step he hB hM hs (fun n h0=>hn n (by simp only[AV.hasL,h0,CJ])) h4⟩
end
def AV.Rs.length:∀{xs:Y AV} {us:Y AE},AV.Rs ρ H M w xs us->us.length=xs.length
 |[],us,h=>by simp only[AV.Rs]at h;simp[h]
 |x::xs,us,h=>by
  simp only[AV.Rs]at h
  obtain⟨u,us',rfl,_,_,h4⟩:=h
  simp[h4.length]
def AV.Rs.get:∀{xs:Y AV} {us:Y AE},AV.Rs ρ H M w xs us->∀(j:Nat) (x:AV),xs[j]?=some x->∃u:AE,us[j]?=some u/\u.oneCell'=true/\x.R ρ H M w u
 |[],us,h,j,x,hj=>by simp at hj
 |x0::xs,us,h,j,x,hj=>by
  simp only[AV.Rs]at h
  obtain⟨u,us',rfl,h2,h3,h4⟩:=h
  cases j with
  |zero=>simp at hj;subst hj;exact⟨u,Ob,h2,h3⟩
  |succ j=>simpa using h4.get j x (by simpa using hj)
def AV.Rs.of_get:∀{xs:Y AV} {us:Y AE},us.length=xs.length->(∀(j:Nat) (x:AV) (u:AE),xs[j]?=some x->us[j]?=some u->u.oneCell'=true/\x.R ρ H M w u)->AV.Rs ρ H M w xs us
 |[],us,hl,_=>by simp only[AV.Rs];exact BP (by simpa using hl)
 |x::xs,us,hl,h=>by
  cases us with
  |nil=>simp at hl
  |cons u us=>
   simp only[AV.Rs]
   have h0:=h 0 x u Ob Ob
   exact⟨u,us,rfl,h0.1,h0.2,AV.Rs.of_get (by simpa using hl) (fun j x u hx hu=>h (j+1) x u (by simpa using hx) (by simpa using hu))⟩
def AV.Rs.append:∀{xs ys:Y AV} {us vs:Y AE},AV.Rs ρ H M w xs us->AV.Rs ρ H M w ys vs->AV.Rs ρ H M w (xs++ys) (us++vs)
 |[],ys,us,vs,h,h'=>by simp only[AV.Rs]at h;subst h;simpa using h'
 |x::xs,ys,us,vs,h,h'=>by
  simp only[AV.Rs]at h
  obtain⟨u,us',rfl,h2,h3,h4⟩:=h
  simp
  exact⟨u,us'++vs,rfl,h2,h3,h4.append h'⟩
def AV.Rs.drop:∀{xs:Y AV} {us:Y AE} (k:Nat),AV.Rs ρ H M w xs us->AV.Rs ρ H M w (xs.drop k) (us.drop k)
 |xs,us,0,h=>by simpa using h
 |[],us,k+1,h=>by simp only[AV.Rs]at h;subst h;simp[AV.Rs]
 |x::xs,us,k+1,h=>by
  simp only[AV.Rs]at h
  obtain⟨u,us',rfl,h2,h3,h4⟩:=h
  simpa using h4.drop k
def AV.Rs.take:∀{xs:Y AV} {us:Y AE} (k:Nat),AV.Rs ρ H M w xs us->AV.Rs ρ H M w (xs.take k) (us.take k)
 |xs,us,0,h=>by simp[AV.Rs]
 |[],us,k+1,h=>by simp only[AV.Rs]at h;subst h;simp[AV.Rs]
 |x::xs,us,k+1,h=>by
  simp only[AV.Rs]at h
  obtain⟨u,us',rfl,h2,h3,h4⟩:=h
  simp only[CS,AV.Rs]
  exact⟨u,us'.take k,rfl,h2,h3,h4.take k⟩
def pcells(cs:Y PV):Y AV:=cs.map .p
def Qb2:∀{off:Nat} {cs:Y PV},PV.Cells M w b off cs->∃us:Y AE,AV.Rs ρ H M w (pcells cs) us/\∀j u,us[j]?=some u->w.cell? ⟨b,off+j,none⟩=some u
 |off,[],h=>⟨[],by simp[pcells,AV.Rs],Ob⟩
 |off,c::cs,h=>by
  simp only[PV.Cells]at h
  obtain⟨⟨u,hu,hr⟩,h2⟩:=h
  obtain⟨us,hr',hc⟩:=Qb2 (ρ:=ρ) (H:=H) h2
  refine⟨u::us,?_,fun j v hj=>?_⟩
  .simp only[pcells,AU,AV.Rs]
   exact⟨u,us,rfl,hr.flat,by simpa only[AV.R]using hr,hr'⟩
  .cases j with
   |zero=>simp at hj;subst hj;simpa using hu
   |succ j=>
    have:=hc j v (by simpa using hj)
    rwa [show off+1+j=off+(j+1)by omega]at this
def QrV(h:AV.Rs ρ H M w (pcells cs) us)(hc:∀j u,us[j]?=some u->w.cell? ⟨b,off+j,none⟩=some u):PV.Cells M w b off cs:=
 PV.Cells.of_get fun j c hj=>by
  obtain⟨u,hu,_,hr⟩:=h.get j (.p c) (by simp[pcells,hj])
  exact⟨u,hc j u hu,by simpa only[AV.R]using hr⟩
end
def Laid(_:AG):Prop:=True
open Go
structure AS where
 slot:Nat->I AV
 heap:Heap
structure Ctx where
 n:Nat
 names:Y Name
 pre:Name->AO
 ρ0:Name->Loc
 w0:AG
 M:Nat->Prop
 G:AG
def Ctx.B(Γ:Ctx)(b:Nat):Prop:=∃n,n∈Γ.names/\(Γ.ρ0 n).blk=some b
def Qah(ρ:Name->Loc)(H:Heap)(M:Nat->Prop)(w:AG)(n:Name):AO->Prop
 |.box cells=>∃(b:Nat) (T:AD) (cs:Array AE),ρ n=⟨some ⟨b,0,none⟩,1⟩/\M b/\w.heap[b]?=some (.cells cs T (0,0))/\AV.Rs ρ H M w cells cs.toList
 |.TI es rows=>1<=es/\rows.length<=(ρ n).cap/\((ρ n).cap=0\/∃(b:Nat) (T:AD) (cs:Array AE),(ρ n).base=some ⟨b,0,none⟩/\M b/\w.heap[b]?=some (.cells cs T (0,0))/\(ρ n).cap*es<=cs.size/\PV.Rows M w b es 0 rows)
 |.hole es pre row post=>1<=es/\row.length=es/\pre.length+1+post.length<=(ρ n).cap/\∃(b:Nat) (T:AD) (cs:Array AE),(ρ n).base=some ⟨b,0,none⟩/\M b/\w.heap[b]?=some (.cells cs T (0,0))/\(ρ n).cap*es<=cs.size/\
   PV.Rows M w b es 0 pre/\AV.Rs ρ H M w row ((cs.toList.drop (pre.length*es)).take es)/\PV.Rows M w b es ((pre.length+1)*es) post
 |.fact a x=>(ρ n).cap=0/\AV.R ρ H M w a x
 |.obj x=>∃b:Nat,ρ n=⟨some ⟨b,0,none⟩,1⟩/\M b/\w.heap[b]?=some x
structure Ground (G:AG) (w:AG) (B:Nat->Prop):Prop where
 laid:Laid G
 size:G.heap.size<=w.heap.size
 same:∀b,b<G.heap.size->w.heap[b]?=G.heap[b]?
 out:∀b,B b->G.heap.size<=b
structure Sim (Γ:Ctx) (ρ:Name->Loc) (M:Nat->Prop) (s:AS) (a:Act) (w:AG):Prop where
 n:a.tmps.size=Γ.n
 d:a.defers=[]
 slots:∀t x,s.slot t=some x->∃u,a.tmps[t]?=some u/\x.R ρ s.heap M w u
 objs:∀n o,s.heap n=some o->Qah ρ s.heap M w n o
 inj:∀n m o o' b,s.heap n=some o->s.heap m=some o'->(ρ n).blk=some b->(ρ m).blk=some b->n=m
 own0:∀n o b,s.heap n=some o->(ρ n).blk=some b->(n∈Γ.names/\(Γ.ρ0 n).blk=some b)\/Γ.w0.heap.size<=b
 keep:∀n,n∈Γ.names->∃o,s.heap n=some o/\stays (Γ.pre n) (Γ.ρ0 n) (some o) (ρ n)
 ext:Ext Γ.B Γ.w0 w
 mext:∀b,Γ.M b->M b
 msize:∀b,M b->b<w.heap.size
 m0:∀b,Γ.M b->b<Γ.w0.heap.size
 ground:Ground Γ.G Γ.w0 Γ.B
def QsZ(h:stays o l (some o') l')(h':stays o' l' (some o'') l''):stays o l (some o'') l'':=by
 cases o<;>cases o'<;>cases o''<;>simp only[stays]at h h' |-
 .rw[h',h]
 all_goals grind
def AS.free(s:AS)(n:Name):Prop:=(∀t x,s.slot t=some x->x.has n=false)/\∀m o,s.heap m=some o->o.has n=false
def Qah.blk_lt(h:Qah ρ H M w n o)(hm:∀b,M b->b<w.heap.size)(hb:(ρ n).blk=some b):b<w.heap.size/\M b:=by
 cases o with
 |box cells=>
  obtain⟨b',T,cs,h1,h2,h3,h4⟩:=h
  rw[h1]at hb
  simp[Loc.blk]at hb
  simp_all
 |TI es rows=>
  obtain⟨h0,h1,h2⟩:=h
  rcases h2 with h2|⟨b',T,cs,h3,h4,h5,h6⟩
  .simp[Loc.blk,h2]at hb
  .unfold Loc.blk at hb
   simp_all
 |hole es pre row post=>
  obtain⟨_,_,h1,b',T,cs,h3,h4,_⟩:=h
  unfold Loc.blk at hb
  simp_all
 |fact a x=>simp[Loc.blk,h.1]at hb
 |obj x=>
  obtain⟨b',h1,h2,h3⟩:=h
  rw[h1]at hb
  simp[Loc.blk]at hb
  simp_all
def PV.Rows.stepB(he:Ext B w w')(hB:∀b,B b->M b)(hM:∀b,b<w.heap.size->M' b->M b)(hbb:w'.heap[b]?=w.heap[b]?)(h:PV.Rows M w b es off rows):PV.Rows M' w' b es off rows:=
 PV.Rows.of_get fun i r hi=>by
  obtain⟨g1,g2⟩:=h.get i r hi
  refine⟨g1,PV.Cells.of_get fun j c hj=>?_⟩
  obtain⟨u,hu,hr⟩:=g2.get j c hj
  refine⟨u,?_,hr.mono he hB hM⟩
  rw[<-hu];unfold World.cell?;rw[hbb]
def Qah.step{ρ ρ':Name->Loc}{H H':Heap}{M M' B:Nat->Prop}{w w':AG}(he:Ext B w w')(hB:∀b,B b->M b)(hM:∀b,b<w.heap.size->M' b->M b)(hMM:∀b,M b->M' b)(hs:Qdk ρ H ρ' H'){n:Name}{o:AO}(hn:∀m,o.has m=true->H m=none->H' m=none)(hρ:ρ' n=ρ n)(hb:∀b,(ρ n).blk=some b->w'.heap[b]?=w.heap[b]?)(hms:∀b,M b->b<w.heap.size)(h:Qah ρ H M w n o):Qah ρ' H' M' w' n o:=by
 cases o with
 |box cells=>
  obtain⟨b,T,cs,h1,h2,h3,h4⟩:=h
  refine⟨b,T,cs,by rw[hρ,h1],hMM _ h2,?_,h4.step he hB hM hs (fun m hm=>hn m hm)⟩
  rw[hb b (by rw[h1];simp[Loc.blk]),h3]
 |TI es rows=>
  obtain⟨h0,h1,h2⟩:=h
  refine⟨h0,by rw[hρ];exact h1,?_⟩
  rcases h2 with h2|⟨b,T,cs,h3,h4,h5,h6,h7⟩
  .simp_all
  .by_cases hc:(ρ n).cap=0
   .simp_all
   .have hbb:=hb b (by simp[Loc.blk,hc,h3])
    refine .inr ⟨b,T,cs,by rw[hρ];exact h3,hMM _ h4,by rw[hbb];exact h5,by rw[hρ];exact h6,?_⟩
    refine PV.Rows.of_get fun i r hi=>?_
    obtain⟨g1,g2⟩:=h7.get i r hi
    refine⟨g1,PV.Cells.of_get fun j c hj=>?_⟩
    obtain⟨u,hu,hr⟩:=g2.get j c hj
    refine⟨u,?_,hr.mono he hB hM⟩
    rw[<-hu];unfold World.cell?;rw[hbb]
 |hole es pre row post=>
  obtain⟨h0,h0',h1,b,T,cs,h3,h4,h5,h6,h7,h8,h9⟩:=h
  have hbb:=hb b (by unfold Loc.blk;rw[iA U,h3];rfl)
  exact⟨h0,h0',by rw[hρ];exact h1,b,T,cs,by rw[hρ];exact h3,hMM _ h4,by rw[hbb];exact h5,by rw[hρ];exact h6,h7.stepB he hB hM hbb,h8.step he hB hM hs (fun m hm=>hn m hm),h9.stepB he hB hM hbb⟩
 |fact a x=>exact⟨by rw[hρ];exact h.1,h.2.step he hB hM hs (fun m hm=>hn m hm)⟩
 |obj x=>
  obtain⟨b,h1,h2,h3⟩:=h
  exact⟨b,by rw[hρ,h1],hMM _ h2,by rw[hb b (by rw[h1];simp[Loc.blk]),h3]⟩
def Sim.update(h:Sim Γ ρ M s a w)(he:Ext (fun b=>∃n o,s.heap n=some o/\(ρ n).blk=some b) w w')(hM:∀b,M b->M' b)(hM':∀b,M' b->M b\/w.heap.size<=b)(hMs:∀b,M' b->b<w'.heap.size)(hs:Qdk ρ s.heap ρ' H')(hkeep:∀n,n∈Γ.names->H' n≠none)(hnew:∀n,s.heap n=none->H' n≠none->s.free n)(hobj:∀n o,H' n=some o->(s.heap n=some o/\ρ' n=ρ n/\∀b,(ρ n).blk=some b->w'.heap[b]?=w.heap[b]?)\/
   (Qah ρ' H' M' w' n o/\∀b,(ρ' n).blk=some b->(∃o',s.heap n=some o'/\(ρ n).blk=some b)\/Γ.w0.heap.size<=b))(hinj:∀n m o o' b,H' n=some o->H' m=some o'->(ρ' n).blk=some b->(ρ' m).blk=some b->n=m):
  Sim Γ ρ' M' ⟨s.slot,H'⟩ a w':=by
 have hB:∀b,(∃n o,s.heap n=some o/\(ρ n).blk=some b)->M b:=fun b ⟨n,o,h1,h2⟩=>((h.objs n o h1).blk_lt h.msize h2).2
 have hM2:∀b,b<w.heap.size->M' b->M b:=fun b hb hm=>(hM' b hm).resolve_right U
 have hfree:∀n,s.heap n=none->H' n=none\/s.free n:=fun n hn=>by
  grind
 refine⟨h.n,h.d,fun t x ht=>?_,fun n o hn=>?_,hinj,fun n o b hn hb=>?_,fun n hn=>?_,?_,fun b hb=>hM b (h.mext b hb),hMs,h.m0,h.ground⟩
 .obtain⟨u,hu,hr⟩:=h.slots t x ht
  refine⟨u,hu,hr.step he hB hM2 hs (fun n hx hn=>?_)⟩
  rcases hfree n hn with h1|h1
  .exact h1
  .have:=h1.1 t x ht;rw[this]at hx;simp at hx
 .rcases hobj n o hn with⟨h1,h2,h3⟩|⟨h1,_⟩
  .refine(h.objs n o h1).step he hB hM2 hM hs (fun m hm hmn=>?_) h2 h3 h.msize
   rcases hfree m hmn with h4|h4
   .exact h4
   .have:=h4.2 n o h1;rw[this]at hm;simp at hm
  .exact h1
 .have hsz:=h.ext.size
  rcases hobj n o hn with⟨h1,h2,h3⟩|⟨_,h2⟩
  .rw[h2]at hb;exact h.own0 n o b h1 hb
  .rcases h2 b hb with⟨o',h3,h4⟩|h3
   .exact h.own0 n o' b h3 h4
   .exact .inr h3
 .obtain⟨o,h1,h2⟩:=h.keep n hn
  cases hc:H' n with
  |none=>exact absurd hc (hkeep n hn)
  |some o'=>
   have h3:=hs n o h1
   rw[hc]at h3
   exact⟨o',hc,QsZ h2 h3⟩
 .refine h.ext.trans he (fun b hb hbb=>?_)
  obtain⟨n,o,h1,h2⟩:=hbb
  rcases h.own0 n o b h1 h2 with h3|h3
  .exact⟨n,h3⟩
  .omega
def Sim.update1(h:Sim Γ ρ M s a w){n:Name}(he:Ext (fun b=>(ρ n).blk=some b/\s.heap n≠none) w w')(hM:∀b,M b->M' b)(hM':∀b,M' b->M b\/w.heap.size<=b)(hMs:∀b,M' b->b<w'.heap.size)(hs:∀o',s.heap n=some o'->stays o' (ρ n) (some o) l)(hnew:s.heap n=none->s.free n)(hobj:Qah (fun m=>if m=n then l else ρ m) (fun m=>if m=n then some o else s.heap m) M' w' n o)(hblk:∀b,l.blk=some b->(∃o',s.heap n=some o'/\(ρ n).blk=some b)\/w.heap.size<=b):
  Sim Γ (fun m=>if m=n then l else ρ m) M' ⟨s.slot,fun m=>if m=n then some o else s.heap m⟩ a w':=by
 have hlt:∀m o' b,s.heap m=some o'->(ρ m).blk=some b->b<w.heap.size:=fun m o' b h1 h2=>((h.objs m o' h1).blk_lt h.msize h2).1
 refine h.update (he.weaken fun b _ hb=>?_) hM hM' hMs (fun m o' hm=>?_) (fun m hm=>?_) (fun m hm hm'=>?_) (fun m o' hm=>?_) (fun m m' o1 o2 b h1 h2 h3 h4=>?_)
 .cases hn:s.heap n with
  |none=>exact absurd hn hb.2
  |some o'=>exact⟨n,o',hn,hb.1⟩
 .by_cases e:m=n
  .simp_all
  .simp only[e,if_false,hm];exact Zj _ _
 .by_cases e:m=n
  .simp[e]
  .obtain⟨o',h1,_⟩:=h.keep m hm
   simp[e,h1]
 .simp_all
 .by_cases e:m=n
  .have hblk':=fun b hb=>(hblk b hb).imp_right (AY h.ext.size)
   simp_all
  .simp only[e,if_false]at hm
   refine .inl ⟨hm,by simp[e],fun b hb=>he.same b (hlt m o' b hm hb) (fun hbb=>?_)⟩
   cases hn:s.heap n with
   |none=>exact hbb.2 hn
   |some o2=>exact e (h.inj m n o' o2 b hm hn hb hbb.1)
 .by_cases e:m=n
  .by_cases e':m'=n
   .rw[e,e']
   .exfalso
    subst e
    simp only[if_true,e',if_false]at h1 h2 h3 h4
    rcases hblk b h3 with⟨o',g1,g2⟩|g
    .exact e' (h.inj m' m o2 o' b h2 g1 h4 g2)
    .grind
  .by_cases e':m'=n
   .exfalso
    subst e'
    simp only[if_true,e,if_false]at h1 h2 h3 h4
    rcases hblk b h4 with⟨o',g1,g2⟩|g
    .exact e (h.inj m m' o1 o' b h1 g1 h3 g2)
    .grind
   .simp only[e,e',if_false]at h1 h2 h3 h4
    exact h.inj m m' o1 o2 b h1 h2 h3 h4
def Sim.world(h:Sim Γ ρ M s a w)(he:Ext (fun _=>False) w w'):Sim Γ ρ M s a w':=by
 have:=h.update (ρ':=ρ) (M':=M) (H':=s.heap) (w':=w') (he.weaken (fun _ _ hb=>hb.elim)) (fun _ hb=>hb) (fun _ hb=>.inl hb)
  (fun b hb=>BD (h.msize b hb) he.size) (fun n o hn=>by rw[hn];exact Zj _ _) (fun n hn=>by obtain⟨o,h1,_⟩:=h.keep n hn;rw[h1];simp) (fun n hn hn'=>absurd hn hn')
  (fun n o hn=>.inl ⟨hn,rfl,fun b hb=>he.same b ((h.objs n o hn).blk_lt h.msize hb).1 (fun hf=>hf)⟩) h.inj
 exact this
def AS.set(s:AS)(dst:I Nat)(x:AV):AS:=⟨fun t=>if dst=some t then some x else s.slot t,s.heap⟩
def Sim.put(h:Sim Γ ρ M s a w)(hd:∀d,dst=some d->d<Γ.n)(hr:dst≠none->x.R ρ s.heap M w u):Sim Γ ρ M (s.set dst x) (a.put dst u) w:=by
 cases dst with
 |none=>
  refine⟨h.n,h.d,fun t y ht=>?_,h.objs,h.inj,h.own0,h.keep,h.ext,h.mext,h.msize,h.m0,h.ground⟩
  simp only[AS.set,reduceCtorEq,if_false]at ht
  exact h.slots t y ht
 |some d=>
  have hdn:=hd d rfl
  refine⟨by simp[Act.put,h.n],by simp[Act.put,h.d],fun t y ht=>?_,h.objs,h.inj,h.own0,h.keep,h.ext,h.mext,h.msize,h.m0,h.ground⟩
  simp only[AS.set]at ht
  by_cases e:d=t
  .subst e
   simp only[if_true]at ht
   cases ht
   exact⟨u,by simp[Act.put,EB,h.n,hdn],hr Ob⟩
  .simp only[AP,e,if_false]at ht
   obtain⟨v,hv,hr'⟩:=h.slots t y ht
   exact⟨v,by simp[Act.put,EB,e,hv],hr'⟩
def Sim.forget(h:Sim Γ ρ M s a w)(hs:∀t x,s'.slot t=some x->s.slot t=some x)(hh:∀n o,s'.heap n=some o->s.heap n=some o)(hk:∀n,n∈Γ.names->s'.heap n≠none):Sim Γ ρ M s' a w:=by
 have h1:Qdk ρ s.heap ρ s'.heap:=fun n o hn=>by
  cases hc:s'.heap n with
  |none=>cases o<;>simp[stays]
  |some o'=>have:=hh n o' hc;rw[hn]at this;cases this;exact Zj _ _
 have h2:=h.update (ρ':=ρ) (M':=M) (H':=s'.heap) (w':=w) (Ext.refl _ _) (fun _ hb=>hb) (fun _ hb=>.inl hb) h.msize h1 hk
  (fun n hn hn'=>by
   cases hc:s'.heap n with
   |none=>exact absurd hc hn'
   |some o=>have:=hh n o hc;rw[hn]at this;simp at this)
  (fun n o hn=>.inl ⟨hh n o hn,rfl,fun _ _=>rfl⟩) (fun n m o o' b g1 g2=>h.inj n m o o' b (hh _ _ g1) (hh _ _ g2))
 exact⟨h2.n,h2.d,fun t x ht=>h2.slots t x (hs t x ht),h2.objs,h2.inj,h2.own0,h2.keep,h2.ext,h2.mext,h2.msize,h2.m0,h2.ground⟩
def Sim.congr(h:Sim Γ ρ M s a w)(hs:∀t,s'.slot t=s.slot t)(hh:∀n,s'.heap n=s.heap n):Sim Γ ρ M s' a w:=
 h.forget (fun t x ht=>by rw[<-hs];exact ht) (fun n o hn=>by rw[<-hh];exact hn) (fun n hn=>by obtain⟨o,h1,_⟩:=h.keep n hn;rw[hh,h1];simp)
structure Eff where
 rd:Y (Nat×AV)
 hp:Y (Name×AO)
 v:AV
 upd:Y (Name×AO)
 nw:Y Name:=[]
def X(k:Nat):Y (Nat×α)->I α
 |[]=>none
 |(j,x)::r=>if j=k then some x else X k r
structure AS.holds (s:AS) (e:Eff):Prop where
 rd:∀t x,(t,x)∈e.rd->s.slot t=some x
 hp:∀n o,(n,o)∈e.hp->s.heap n=some o
 nw:∀n,n∈e.nw->s.heap n=none/\s.free n
def AS.run(s:AS)(dst:I Nat)(e:Eff):AS:=
 ⟨fun t=>if dst=some t then some e.v else s.slot t,fun n=>match X n e.upd with|some o=>some o|none=>s.heap n⟩
def TE(P:AF)(o:Oper)(e:Eff):Prop:=
 ∀(Γ:Ctx) (ρ:Name->Loc) (M:Nat->Prop) (s:AS) (a:Act) (w:AG) (K:Act->AG->Prop) (Q:Exit->Act->AG->Prop),Sim Γ ρ M s a w->s.holds e->(∀d,o.dst=some d->d<Γ.n)->
  (∀ρ' M' a' w',Sim Γ ρ' M' (s.run o.dst e) a' w'->K a' w')->o.wp P a w K Q
def ZT(P:AF)(ops:Array Oper)(i:Nat)(dst:I Nat)(e:Eff):Prop:=
 ∀(Γ:Ctx) (ρ:Name->Loc) (M:Nat->Prop) (s:AS) (a:Act) (w:AG) (K:Act->AG->Prop) (Q:Exit->Act->AG->Prop),Sim Γ ρ M s a w->s.holds e->(∀d,dst=some d->d<Γ.n)->
  (∀ρ' M' a' w',Sim Γ ρ' M' (s.run dst e) a' w'->K a' w')->wpOp P ops Q i K a w
section
def ZT.plain(hi:ops[i]?=some o)(hg:o.guard=none)(h:TE P o e):ZT P ops i o.dst e:=by
 intro Γ ρ M s a w K Q hsim hh hd hK
 unfold wpOp
 simp only[hi,Region.wanted,hg,if_true]
 exact .inl (h Γ ρ M s a w K Q hsim hh hd hK)
def Qj4(hsim:Sim Γ ρ M s a w)(hj:ops[j]?=some oj)(hg:oj.dst=some g)(hs:s.slot g=some (.p (.v (.bool b)))):yielded ops a.tmps j=some b:=by
 obtain⟨u,hu,hr⟩:=hsim.slots g _ hs
 simp only[AV.R,PV.R]at hr
 obtain⟨rfl,_⟩:=hr
 simp[yielded,hj,hg,hu]
def ZT.guarded{P:AF}{ops:Array Oper}{i:Nat}{o oj:Oper}{e:Eff}{j g:Nat}{b:AH}(hi:ops[i]?=some o)(hg:o.guard=some (j,b))(hj:ops[j]?=some oj)(hjd:oj.dst=some g)(hrd:(g,AV.p (.v (.bool b)))∈e.rd)(h:TE P o e):ZT P ops i o.dst e:=by
 intro Γ ρ M s a w K Q hsim hh hd hK
 unfold wpOp
 have:=Qj4 hsim hj hjd (hh.rd _ _ hrd)
 simp only[hi,Region.wanted,hg,this,beq_self_eq_true,if_true]
 exact .inl (h Γ ρ M s a w K Q hsim hh hd hK)
def ZT.skipped(hi:ops[i]?=some o)(hg:o.guard=some (j,b))(hj:ops[j]?=some oj)(hjd:oj.dst=some g):
  ZT P ops i o.dst ⟨[(g,.p (.v (.bool (!b))))],[],.tup [],[],[]⟩:=by
 intro Γ ρ M s a w K Q hsim hh hd hK
 unfold wpOp
 have:=Qj4 hsim hj hjd (hh.rd g (.p (.v (.bool (!b)))) Ob)
 have hne:(some (!b) == some b)=false:=by cases b<;>rfl
 simp only[hi,Region.wanted,hg,this,hne,if_false,Bj]
 have h1:=hsim.put (dst:=o.dst) (x:=.tup []) (u:=undef) hd (fun _=>by simp only[AV.R,undef,AV.Ts];exact⟨#[],rfl,rfl⟩)
 exact hK ρ M _ w (h1.congr (fun t=>rfl) (fun n=>by simp[AS.run,AS.set,X]))
def ZT.skipped2(hi:ops[i]?=some o)(hg:o.guard=some (j,b))(hj:ops[j]?=some oj)(hjd:oj.dst=some g):
  ZT P ops i o.dst ⟨[(g,.tup [])],[],.tup [],[],[]⟩:=by
 intro Γ ρ M s a w K Q hsim hh hd hK
 unfold wpOp
 have hy:yielded ops a.tmps j=none:=by
  obtain⟨u,hu,hr⟩:=hsim.slots g _ (hh.rd g (.tup []) Ob)
  simp only[AV.R,AV.Ts]at hr
  obtain⟨us,rfl,_⟩:=hr
  simp[yielded,hj,hjd,hu]
 have hne:((none:I AH) == some b)=false:=rfl
 simp only[hi,Region.wanted,hg,hy,hne,if_false,Bj]
 have h1:=hsim.put (dst:=o.dst) (x:=.tup []) (u:=undef) hd (fun _=>by simp only[AV.R,undef,AV.Ts];exact⟨#[],rfl,rfl⟩)
 exact hK ρ M _ w (h1.congr (fun t=>rfl) (fun n=>by simp[AS.run,AS.set,X]))
end
def TJ(P:AF)(Γ:Ctx)(c:Code)(s:AS)(Q:Exit->AS->Prop):Prop:=
 ∀(ρ:Name->Loc) (M:Nat->Prop) (a:Act) (w:AG),Sim Γ ρ M s a w->
  c.wp P (fun e a' w'=>∃s' ρ' M',Q e s'/\Sim Γ ρ' M' s' a' w') a w
def mk(ts:Y (Nat×AV))(hs:Y (Name×AO)):AS:=⟨fun t=>X t ts,fun n=>X n hs⟩
abbrev Row:=I Nat×Eff
def Qdm(P:AF)(ops:Array Oper)(m:Nat):Nat->Y Row->Prop
 |i,[]=>m=i
 |i,(d,e)::r=>ZT P ops i d e/\Qdm P ops m (i+1) r
def VH(P:AF)(ops:Array Oper)(i:Nat)(l:Y Row):Prop:=Qdm P ops ops.size i l
def keys(l:Y (Nat×α)):Y Nat:=l.map (·.1)
def QeS(n:Name)(ts:Y (Nat×AV))(hs:Y (Name×AO)):AH:=ts.all (fun p=>!p.2.has n) && hs.all (fun p=>!p.2.has n)
def putT(ts:Y (Nat×AV))(d:I Nat)(e:Eff):Y (Nat×AV):=match d with|some d=>(d,e.v)::ts|none=>ts
def Qcv(n:Nat):I Nat->AH
 |some d=>Nat.blt d n
 |none=>true
def Qq5(e:Eff)(ts:Y (Nat×AV))(hs:Y (Name×AO)):AH:=e.nw.all fun n=>(X n hs).isNone && QeS n ts hs && (keys e.upd).contains n
def got(n:Nat):Y Row->Y (Nat×AV)->Y (Name×AO)->Y (I AV)×Y (I AO)×AH×Y (Nat×AV)×Y (Name×AO)
 |[],ts,hs=>([],[],true,ts,hs)
 |(d,e)::r,ts,hs=>
  match got n r (putT ts d e) (e.upd++hs)with
  |(a,b,c,ts',hs')=>(e.rd.map (fun p=>X p.1 ts)++a,e.hp.map (fun p=>X p.1 hs)++b,Qcv n d && Qq5 e ts hs && c,ts',hs')
def Qam:Y Row->Y (I AV)
 |[]=>[]
 |(_,e)::r=>e.rd.map (fun p=>some p.2)++Qam r
def Qal:Y Row->Y (I AO)
 |[]=>[]
 |(_,e)::r=>e.hp.map (fun p=>some p.2)++Qal r
def fits(n:Nat)(names:Y Name)(L:Y Row)(ts:Y (Nat×AV))(hs:Y (Name×AO))(ts':Y (Nat×AV))(hs':Y (Name×AO)):Prop:=
  (match got n L ts hs with
   |(a,b,c,tf,hf)=>(a++ts'.map (fun p=>X p.1 tf),b++hs'.map (fun p=>X p.1 hf),c && names.all fun m=>(X m hs').isSome)) =
  (Qam L++ts'.map (fun p=>some p.2),Qal L++hs'.map (fun p=>some p.2),true)
def Z2(k):∀(l l':Y (Nat×α)),X k (l++l')=match X k l with|some x=>some x|none=>X k l'
 |[],l'=>rfl
 |(j,x)::r,l'=>by
  simp only[BE,X]
  split
  .rfl
  .exact Z2 k r l'
def Q5:∀{l:Y (Nat×α)},X k l=some x->(k,x)∈l
 |[],h=>by simp[X]at h
 |(j,y)::r,h=>by
  simp only[X]at h
  split at h
  .rename_i e;cases h;subst e;simp
  .exact BB _ (Q5 h)
def QqZ:∀{l:Y (Nat×α)},k∉keys l->X k l=none
 |[],_=>rfl
 |(j,y)::r,h=>by
  simp only[keys,AU,AZ,not_or]at h
  simp only[X]
  rw[iA (fun e=>h.1 e.symm)]
  exact QqZ h.2
def Xm{α β:Type}{f g:α->β}:∀{l:Y α},l.map f=l.map g->∀x∈l,f x=g x
 |[],_,x,hx=>by simp at hx
 |y::r,h,x,hx=>by
  simp only[AU,Cr]at h
  rcases AZ.1 hx with rfl|hx
  .exact h.1
  .exact Xm h.2 x hx
def QhE(h:QeS n ts hs=true):(mk ts hs).free n:=by
 simp only[QeS,bae,AW]at h
 refine⟨fun t x ht=>?_,fun m o hm=>?_⟩
 .have:=h.1 _ (Q5 ht);simpa using this
 .have:=h.2 _ (Q5 hm);simpa using this
def Qq4(ts)(hs:Y (Name×AO))(d)(e):(mk ts hs).run d e=mk (putT ts d e) (e.upd++hs):=by
 unfold AS.run mk
 congr 1
 .funext t
  cases d with
  |none=>simp[putT]
  |some d=>simp[putT,X]
 .funext n
  rw[Z2]
  split<;>simp[*]
def QyR(h1:e.rd.map (fun p=>X p.1 ts)=e.rd.map (fun p=>some p.2))(h2:e.hp.map (fun p=>X p.1 hs)=e.hp.map (fun p=>some p.2))(h3:Qq5 e ts hs=true):(mk ts hs).holds e:=by
 refine⟨fun t x hx=>Xm h1 _ hx,fun n o hn=>Xm h2 _ hn,fun n hn=>?_⟩
 simp only[Qq5,AW,bae,Bk]at h3
 exact⟨(h3 n hn).1.1,QhE (h3 n hn).1.2⟩
def Um{a a' b b':Y α}(h:a++b=a'++b')(hl:a.length=a'.length):a=a'/\b=b':=
 List.append_inj h hl
def QoV(n):∀(L:Y Row) (ts:Y (Nat×AV)) (hs:Y (Name×AO)),(got n L ts hs).1.length=(Qam L).length/\(got n L ts hs).2.1.length=(Qal L).length
 |[],ts,hs=>by simp[got,Qam,Qal]
 |(d,e)::r,ts,hs=>by
  obtain⟨h1,h2⟩:=QoV n r (putT ts d e) (e.upd++hs)
  simp only[got,Qam,Qal,Ab,AX]
  exact⟨by rw[h1],by rw[h2]⟩
def QrU(hn:Γ.n=n):
  ∀(L:Y Row) (i:Nat) (ts:Y (Nat×AV)) (hs:Y (Name×AO)),VH P ops i L->
  (got n L ts hs).1=Qam L->(got n L ts hs).2.1=Qal L->(got n L ts hs).2.2.1=true->
  ∀(ρ:Name->Loc) (M:Nat->Prop) (a:Act) (w:AG),Sim Γ ρ M (mk ts hs) a w->
  (∀ρ' M' a' w',Sim Γ ρ' M' (mk (got n L ts hs).2.2.2.1 (got n L ts hs).2.2.2.2) a' w'->Q .normal a' w')->
  wpOps P ops Q (List.range' i (ops.size - i)) a w
 |[],i,ts,hs,hst,_,_,_,ρ,M,a,w,hsim,hQ=>by
  simp only[VH,Qdm]at hst
  simp only[hst,EC,List.range'_zero,wpOps]
  exact hQ ρ M a w (by simpa only[got]using hsim)
 |(d,e)::r,i,ts,hs,hst,h1,h2,h3,ρ,M,a,w,hsim,hQ=>by
  simp only[VH,Qdm]at hst
  have hl:=QoV n r (putT ts d e) (e.upd++hs)
  simp only[got,Qam,Qal]at h1 h2 h3 hQ
  obtain⟨h1a,h1b⟩:=Um h1 Ob
  obtain⟨h2a,h2b⟩:=Um h2 Ob
  simp at h3
  have hi:i<ops.size:=by
   have:∀(r:Y Row) (i:Nat),VH P ops i r->i<=ops.size:=by
    intro r
    induction r with
    |nil=>intro i h;simp only[VH,Qdm]at h;omega
    |cons x r ih=>intro i h;simp only[VH,Qdm]at h;have:=ih (i+1) h.2;omega
   have:=this r (i+1) hst.2;omega
  rw[show ops.size - i=(ops.size - (i+1))+1 by omega,List.range'_succ,wpOps_cons]
  refine hst.1 Γ ρ M (mk ts hs) a w _ Q hsim (QyR h1a h2a h3.1.2) (fun d' hd'=>?_) (fun ρ' M' a' w' hsim'=>?_)
  .subst hd';have:=h3.1.1;simp only[Qcv]at this;rw[hn];exact Am this
  .rw[Qq4]at hsim'
   exact QrU hn r (i+1) _ _ hst.2 h1b h2b h3.2 ρ' M' a' w' hsim' hQ
def QnS(h:fits n names L ts hs ts' hs'):
  (got n L ts hs).1=Qam L/\(got n L ts hs).2.1=Qal L/\(got n L ts hs).2.2.1=true/\
  (∀t x,X t ts'=some x->X t (got n L ts hs).2.2.2.1=some x)/\(∀t x,X t hs'=some x->X t (got n L ts hs).2.2.2.2=some x)/\(∀m,m∈names->X m hs'≠none):=by
 unfold fits at h
 simp only[Bb]at h
 obtain⟨h1,h2,h3⟩:=h
 simp only[bae,AW]at h3
 have hl:=QoV n L ts hs
 obtain⟨h1a,h1b⟩:=Um h1 hl.1
 obtain⟨h2a,h2b⟩:=Um h2 hl.2
 exact⟨h1a,h2a,h3.1,fun t x hx=>Xm h1b _ (Q5 hx),fun t x hx=>Xm h2b _ (Q5 hx),fun m hm hm'=>by have:=h3.2 m hm;rw[hm']at this;simp at this⟩
def TJ.region{id:Nat}(hn:Γ.n=n)(hk:Γ.names=names)(L)(hst:VH P ops 0 L)(hf:fits n names L ts hs ts' hs')(hQ:Q .normal (mk ts' hs')):TJ P Γ (.region id ops false) (mk ts hs) Q:=by
 intro ρ M a w hsim
 obtain⟨h1,h2,h3,h4,h5,h6⟩:=QnS hf
 refine wp_region ?_
 have:=QrU (Q:=fun e a' w'=>∃s' ρ' M',Q e s'/\Sim Γ ρ' M' s' a' w') hn L 0 ts hs hst h1 h2 h3 ρ M a w hsim
  (fun ρ' M' a' w' hs=>⟨_,ρ',M',hQ,hs.forget h4 h5 (by rw[hk];exact h6)⟩)
 rwa [Br,<-Eb]at this
def RD(E:Nat->Row)(D:Nat->AH)(s:AS):Nat->AS
 |0=>s
 |k+1=>if D k then(RD E D s k).run (E k).1 (E k).2 else RD E D s k
def QeD(s:AS)(r:Row)(t:Nat):(s.run r.1 r.2).slot t=if r.1=some t then some r.2.v else s.slot t:=rfl
def QgV(s:AS)(r:Row)(n:Nat):(s.run r.1 r.2).heap n=match X n r.2.upd with|some o=>some o|none=>s.heap n:=rfl
def QaT:∀(k:Nat),(∀j,j<k->(E j).1=some t->D j=D' j)->(RD E D s k).slot t=(RD E D' s k).slot t
 |0,_=>rfl
 |k+1,h=>by
  have ih:=QaT (s:=s) k (fun j hj=>h j U)
  have hk:=h k U
  simp only[RD]
  by_cases ht:(E k).1=some t
  .rw[hk ht];split
   .rw[QeD,QeD,iB ht,iB ht]
   .exact ih
  .have e1:∀b:AH,∀x:AS,(if b then x.run (E k).1 (E k).2 else x).slot t=x.slot t:=by
    intro b x;split<;>simp[QeD,ht]
   rw[e1,e1,ih]
def Uk:∀(k:Nat),(∀j,j<k->X m (E j).2.upd≠none->D j=D' j)->(RD E D s k).heap m=(RD E D' s k).heap m
 |0,_=>rfl
 |k+1,h=>by
  have ih:=Uk (s:=s) k (fun j hj=>h j U)
  have hk:=h k U
  simp only[RD]
  by_cases ht:X m (E k).2.upd=none
  .have e1:∀b:AH,∀x:AS,(if b then x.run (E k).1 (E k).2 else x).heap m=x.heap m:=by
    intro b x;split<;>simp[QgV,ht]
   rw[e1,e1,ih]
  .rw[hk ht];split
   .cases hl:X m (E k).2.upd with
    |none=>exact absurd hl ht
    |some o=>simp[QgV,hl]
   .exact ih
def Qar:∀(k:Nat),i<=k->(∀j,i<=j->j<k->(E j).1=some t->D j=false)->(RD E D s k).slot t=(RD E D s i).slot t
 |0,hk,_=>by
   have:i=0:=U
   subst this;rfl
 |k+1,hk,h=>by
  by_cases e:i=k+1
  .subst e;rfl
  .have ih:=Qar (s:=s) (D:=D) k U (fun j hj hj'=>h j hj U)
   simp only[RD]
   by_cases ht:(E k).1=some t
   .rw[h k U U ht];simpa using ih
   .split
    .rw[QeD,iA ht];exact ih
    .exact ih
def V8:∀(k:Nat),i<=k->(∀j,i<=j->j<k->X m (E j).2.upd≠none->D j=false)->(RD E D s k).heap m=(RD E D s i).heap m
 |0,hk,_=>by
   have:i=0:=U
   subst this;rfl
 |k+1,hk,h=>by
  by_cases e:i=k+1
  .subst e;rfl
  .have ih:=V8 (s:=s) (D:=D) k U (fun j hj hj'=>h j hj U)
   simp only[RD]
   by_cases ht:X m (E k).2.upd=none
   .split
    .rw[QgV,ht];exact ih
    .exact ih
   .rw[h k U U ht];simpa using ih
def Qfc:∀(k:Nat),(RD E D s k).slot t=some x->s.slot t=some x\/∃j,j<k/\D j=true/\x=(E j).2.v
 |0,h=>.inl h
 |k+1,h=>by
  simp only[RD]at h
  by_cases hd:D k=true
  .simp only[hd,if_true,QeD]at h
   split at h
   .cases h;exact .inr ⟨k,U,hd,rfl⟩
   .rcases Qfc k h with h'|⟨j,h1,h2⟩
    .exact .inl h'
    .exact .inr ⟨j,U,h2⟩
  .simp only[hd,if_false,Bj]at h
   rcases Qfc k h with h'|⟨j,h1,h2⟩
   .exact .inl h'
   .exact .inr ⟨j,U,h2⟩
def Qfb{E:Nat->Row}{D:Nat->AH}{s:AS}{m:Nat}{o:AO}:∀(k:Nat),(RD E D s k).heap m=some o->s.heap m=some o\/∃j,j<k/\D j=true/\X m (E j).2.upd=some o
 |0,h=>.inl h
 |k+1,h=>by
  simp only[RD]at h
  by_cases hd:D k=true
  .simp only[hd,if_true,QgV]at h
   split at h
   .rename_i o' ho';cases h;exact .inr ⟨k,U,hd,ho'⟩
   .rcases Qfb k h with h'|⟨j,h1,h2⟩
    .exact .inl h'
    .exact .inr ⟨j,U,h2⟩
  .simp only[hd,if_false,Bj]at h
   rcases Qfb k h with h'|⟨j,h1,h2⟩
   .exact .inl h'
   .exact .inr ⟨j,U,h2⟩
def Eff.has(n:Name)(e:Eff):AH:=e.v.has n || e.upd.any fun p=>p.2.has n
structure Apart (x y:Row):Prop where
 d1:∀t,x.1=some t->t∉keys y.2.rd
 d2:∀t,y.1=some t->t∉keys x.2.rd
 dd:∀t,x.1=some t->y.1≠some t
 h1:∀n,n∈keys x.2.upd->n∉keys y.2.hp
 h2:∀n,n∈keys y.2.upd->n∉keys x.2.hp
 hh:∀n,n∈keys x.2.upd->n∉keys y.2.upd
 c1:∀n,n∈x.2.nw->y.2.has n=false
def QnH(x y:Row):AH:=
 (match x.1 with|some t=>!(keys y.2.rd).contains t|none=>true) && (match y.1 with|some t=>!(keys x.2.rd).contains t|none=>true) &&
 (match x.1,y.1 with|some t,some u=>!(Nat.beq t u)|_,_=>true) &&
 (keys x.2.upd).all (fun n=>!(keys y.2.hp).contains n && !(keys y.2.upd).contains n) && x.2.nw.all (fun n=>!y.2.has n) &&
 (keys y.2.upd).all (fun n=>!(keys x.2.hp).contains n)
def Qyl(h:QnH x y=true):Apart x y:=by
 unfold QnH at h
 simp only[bae,AW,BG,BT,Cd]at h
 obtain⟨⟨⟨⟨⟨g1,g2⟩,g3⟩,g4⟩,g6⟩,g5⟩:=h
 refine⟨fun t ht=>?_,fun t ht=>?_,fun t ht ht'=>?_,fun n hn=>(g4 n hn).1,fun n hn=>g5 n hn,fun n hn=>(g4 n hn).2,fun n hn=>g6 n hn⟩
 .simp_all
 .simp_all
 .simp_all
def QCt(o:Oper)(prev:Y Nat):Nat:=
 o.after.toList.foldl (fun s e=>if Region.binds .any e then s ||| 2 ^ e.on ||| prev.getD e.on 0 else s) 0
def masks:Y Oper->Y Nat->Y Nat
 |[],acc=>acc
 |o::r,acc=>masks r (acc++[QCt o acc])
def Qkf{D:Nat->AH}{prev:Y Nat}(hp:∀i j,D i=true->(prev.getD i 0).testBit j=true->D j=true):
  ∀(l:Y Edge) (s:Nat),(∀e∈l,Region.binds .any e=true->D e.on=true)->(∀j,s.testBit j=true->D j=true)->
  ∀j,(l.foldl (fun s e=>if Region.binds .any e then s ||| 2 ^ e.on ||| prev.getD e.on 0 else s) s).testBit j=true->D j=true
 |[],s,_,hs,j,hj=>hs j hj
 |e::l,s,hl,hs,j,hj=>by
  simp at hj
  refine Qkf hp l _ (fun e' he'=>hl e' (BB _ he')) (fun k hk=>?_) j hj
  split at hk
  .rename_i hb
   have hD:=hl e Ob hb
   simp only[Nat.testBit_or,Bz,Nat.testBit_two_pow,BK]at hk
   rcases hk with(h1|h1)|h1
   .exact hs k h1
   .rw[<-h1];exact hD
   .exact hp e.on k hD h1
  .exact hs k hk
def QhK{D:Nat->AH}:∀(l:Y Oper) (acc:Y Nat),(∀i o,l[i]?=some o->D (acc.length+i)=true->∀e∈o.after.toList,Region.binds .any e=true->D e.on=true)->
  (∀i j,D i=true->(acc.getD i 0).testBit j=true->D j=true)->
  ∀i j,D i=true->((masks l acc).getD i 0).testBit j=true->D j=true
 |[],acc,_,hacc=>hacc
 |o::r,acc,hl,hacc=>by
  simp only[masks]
  refine QhK r _ (fun i o' ho' hD=>?_) (fun i j hD hj=>?_)
  .refine hl (i+1) o' (by simpa using ho') ?_
   rw[Ab,B7]at hD
   rwa [show acc.length+(i+1)=acc.length+1+i by omega]
  .rcases Cs i acc.length with h1|h1|h1
   .rw[AQ,BN h1,<-AQ]at hj
    exact hacc i j hD hj
   .subst h1
    simp at hj
    have h0:=hl 0 o Ob
    simp only[CK]at h0
    exact Qkf hacc _ 0 (h0 hD) (fun j hj=>by simp at hj) j hj
   .simp at hj
    rw[ED (by simp;omega)]at hj
    simp at hj
open Go
def Qdv:Row:=(none,⟨[],[],.any,[],[]⟩)
def QhF(i:Nat)(x:Row):Nat->Y (Row×Nat)->AH
 |_,[]=>true
 |j,(y,m)::r=>(m.testBit i || QnH x y) && QhF i x (j+1) r
def QhR:Nat->Y (Row×Nat)->AH
 |_,[]=>true
 |i,(x,_)::r=>QhF i x (i+1) r && QhR (i+1) r
def Qkg(ts:Y (Nat×AV))(hs:Y (Name×AO)):Y Row->Y Row->AH
 |[],_=>true
 |y::r,past=>y.2.nw.all (fun n=>past.all (fun x=>!x.2.has n) && QeS n ts hs && (keys y.2.upd).contains n) && Qkg ts hs r (past++[y])
def QoJ:Nat->Y Oper->AH
 |_,[]=>true
 |i,o::r=>o.after.toList.all (fun e=>!Region.binds .any e || Nat.blt e.on i) && QoJ (i+1) r
def indep(ops:Array Oper)(L:Y Row)(ts:Y (Nat×AV))(hs:Y (Name×AO)):AH:=
 QoJ 0 ops.toList && QhR 0 (L.zip (masks ops.toList [])) && Qkg ts hs L []
def QlY:∀{j:Nat} {l:Y (Row×Nat)},QhF i x j l=true->∀(k:Nat) (y:Row) (m:Nat),l[k]?=some (y,m)->m.testBit i=true\/Apart x y
 |_,[],_,k,y,m,hk=>by simp at hk
 |j,(y0,m0)::r,h,k,y,m,hk=>by
  simp only[QhF,bae,Bz]at h
  cases k with
  |zero=>simp at hk;obtain⟨rfl,rfl⟩:=hk;exact h.1.imp id Qyl
  |succ k=>exact QlY h.2 k y m (by simpa using hk)
def QhS:∀{i0:Nat} {l:Y (Row×Nat)},QhR i0 l=true->∀(i j:Nat) (x:Row) (mx:Nat) (y:Row) (m:Nat),i<j->l[i]?=some (x,mx)->l[j]?=some (y,m)->m.testBit (i0+i)=true\/Apart x y
 |_,[],_,i,j,x,mx,y,m,_,hi,_=>by simp at hi
 |i0,(x0,m0)::r,h,i,j,x,mx,y,m,hij,hi,hj=>by
  simp only[QhR,bae]at h
  cases j with
  |zero=>omega
  |succ j=>
   cases i with
   |zero=>
    simp at hi;obtain⟨rfl,rfl⟩:=hi
    exact QlY h.1 j y m (by simpa using hj)
   |succ i=>
    have:=QhS h.2 i j x mx y m U (by simpa using hi) (by simpa using hj)
    rwa [show i0+(i+1)=i0+1+i by omega]
def QnY:∀{L past:Y Row},Qkg ts hs L past=true->∀i y,L[i]?=some y->∀n∈y.2.nw,(∀x∈past++L.take i,x.2.has n=false)/\QeS n ts hs=true/\n∈keys y.2.upd
 |[],_,_,i,y,hi,_,_=>by simp at hi
 |y0::r,past,h,i,y,hi,n,hn=>by
  simp only[Qkg,bae,AW]at h
  cases i with
  |zero=>
   simp at hi;subst hi
   have:=h.1 n hn
   simp only[bae,AW,BT,BK,BG]at this
   simp only[Bd,An]
   exact⟨this.1.1,this.1.2,this.2⟩
  |succ i=>
   have:=QnY h.2 i y (by simpa using hi) n hn
   simpa [Aw]using this
def QlI:∀{i0:Nat} {l:Y Oper},QoJ i0 l=true->∀i o,l[i]?=some o->∀e∈o.after.toList,Region.binds .any e=true->e.on<i0+i
 |_,[],_,i,o,hi,_,_,_=>by simp at hi
 |i0,o0::r,h,i,o,hi,e,he,hb=>by
  simp only[QoJ,bae,AW]at h
  cases i with
  |zero=>
   simp at hi;subst hi
   have:=h.1 e he
   simp only[hb,CT,Bt]at this
   have h2:e.on<i0:=Am this
   omega
  |succ i=>
   have:=QlI h.2 i o (by simpa using hi) e he hb
   omega
def Qj1:∀{i0:Nat} {L:Y Row},Qdm P ops m i0 L->(∀i y,L[i]?=some y->ZT P ops (i0+i) y.1 y.2)/\m=i0+L.length
 |i0,[],h=>by simp only[Qdm]at h;exact⟨fun i y hi=>by simp at hi,by simp[h]⟩
 |i0,(d,e)::r,h=>by
  simp only[Qdm]at h
  obtain⟨g1,g2⟩:=Qj1 h.2
  refine⟨fun i y hi=>?_,by simp;omega⟩
  cases i with
  |zero=>simp at hi;subst hi;simpa using h.1
  |succ i=>have:=g1 i y (by simpa using hi);rwa [show i0+(i+1)=i0+1+i by omega]
def VY(L:Y Row)(i:Nat):Row:=L.getD i Qdv
def Qhc(L:Y Row)(s:AS):AS:=L.foldl (fun s r=>s.run r.1 r.2) s
def QwE:∀{L:Y Row} {ts:Y (Nat×AV)} {hs:Y (Name×AO)},(got n L ts hs).1=Qam L->(got n L ts hs).2.1=Qal L->(got n L ts hs).2.2.1=true->
  (∀i y,L[i]?=some y->(∀t x,(t,x)∈y.2.rd->(Qhc (L.take i) (mk ts hs)).slot t=some x)/\(∀m o,(m,o)∈y.2.hp->(Qhc (L.take i) (mk ts hs)).heap m=some o)/\(∀d,y.1=some d->d<n)/\∀m,m∈y.2.nw->(Qhc (L.take i) (mk ts hs)).heap m=none)/\
  Qhc L (mk ts hs)=mk (got n L ts hs).2.2.2.1 (got n L ts hs).2.2.2.2
 |[],ts,hs,_,_,_=>⟨fun i y hi=>by simp at hi,rfl⟩
 |(d,e)::r,ts,hs,h1,h2,h3=>by
  have hl:=QoV n r (putT ts d e) (e.upd++hs)
  simp only[got,Qam,Qal]at h1 h2 h3 |-
  obtain⟨h1a,h1b⟩:=Um h1 Ob
  obtain⟨h2a,h2b⟩:=Um h2 Ob
  simp only[bae]at h3
  obtain⟨g1,g2⟩:=QwE h1b h2b h3.2
  refine⟨fun i y hi=>?_,?_⟩
  .cases i with
   |zero=>
    simp at hi;subst hi
    simp
    refine⟨fun t x hx=>Xm h1a _ hx,fun m o hm=>Xm h2a _ hm,fun d' hd'=>?_,fun m hm=>?_⟩
    .have h4:=h3.1.1
     rw[show d=some d' from hd']at h4
     exact Am h4
    .have h4:=h3.1.2
     simp only[Qq5,AW,bae,Bk]at h4
     exact(h4 m hm).1.1
   |succ i=>
    have:=g1 i y (by simpa using hi)
    simp only[CS,Qhc,Ct,Qq4]at this |-
    exact this
  .simp only[Qhc,Ct,Qq4]at g2 |-
   exact g2
def Qvt:∀(k:Nat),k<=L.length->RD (VY L) (fun _=>true) s k=Qhc (L.take k) s
 |0,_=>by simp[RD,Qhc]
 |k+1,hk=>by
  have ih:=Qvt (L:=L) (s:=s) k U
  have hlt:k<L.length:=U
  simp only[RD,if_true,ih]
  rw[Cu hlt]
  have e:VY L k=L[k]:=by rw[VY,AQ,AR hlt];rfl
  rw[e]
  simp only[Qhc,Ec,Ct,List.foldl_nil]
def cnt(f:Nat->AH):Nat->Nat
 |0=>0
 |k+1=>(if f k then 1 else 0)+cnt f k
def cnt_le(h:∀i,g i=true->f i=true):∀k,cnt g k<=cnt f k
 |0=>AN _
 |k+1=>by
  have:=cnt_le h k
  simp only[cnt]
  have h2:=h k
  cases hg:g k<;>cases hf:f k<;>simp_all<;>omega
def QzW(h:∀i,g i=true->f i=true)(hf:f i=true)(hg:g i=false):∀k,i<k->cnt g k<cnt f k
 |0,hk=>by omega
 |k+1,hk=>by
  simp only[cnt]
  have h1:=cnt_le h k
  by_cases e:i=k
  .subst e;simp[hf,hg];omega
  .have:=QzW h hf hg k U
   have h2:=h k
   cases hg':g k<;>cases hf':f k<;>simp_all<;>omega
def Qti:∀k,cnt f k=0->∀i,i<k->f i=false
 |0,_,i,hi=>by omega
 |k+1,h,i,hi=>by
  simp only[cnt]at h
  by_cases e:i=k
  .subst e;cases hf:f i<;>simp_all
  .exact Qti k U i U
section
def Ql0{α:Type}{l:Y (Nat×α)}{k:Nat}{x:α}(h:(k,x)∈l):k∈keys l:=BQ.2 ⟨_,h,rfl⟩
def Zu{α:Type}{l:Y (Nat×α)}{k:Nat}(h:X k l≠none):k∈keys l:=by
 rcases EE (k∈keys l)with h'|h'
 .exact h'
 .exact absurd (QqZ h') h
def Qp6{l:Y α}{l':Y β}{i:Nat}{x:α}{y:β}(h:l[i]?=some x)(h':l'[i]?=some y):(l.zip l')[i]?=some (x,y):=by
 grind
def Qq2:∀(l:Y Oper) (acc:Y Nat),(masks l acc).length=acc.length+l.length
 |[],acc=>by simp[masks]
 |o::r,acc=>by simp only[masks];rw[Qq2 r];simp;omega
def Qn7(hls:listed.size=ops.size)(hall:∀i,i<ops.size->listed.getD i false=true):Region.ready .any ops listed=[]:=by
 unfold Region.ready
 simp_all
def Qx8(hls:listed.size=ops.size)(hall:∀i,i<ops.size->listed.getD i false=true)(hq:Q .normal a w):∀fuel,wpAny P .any ops Q fuel listed a w
 |0=>⟨Qn7 hls hall,hq⟩
 |fuel+1=>⟨fun _=>hq,fun i hi=>by rw[Qn7 hls hall]at hi;simp at hi⟩
def QnG(c)(hn:Γ.n=n)(hsteps:∀i y,L[i]?=some y->(c=true->i+1<L.length)->ZT P ops i y.1 y.2)(hsize:ops.size=L.length)(h1:(got n L ts hs).1=Qam L)(h2:(got n L ts hs).2.1=Qal L)(h3:(got n L ts hs).2.2.1=true)(hind:indep ops L ts hs=true)(hlast:c=true->0<L.length/\L[L.length - 1]?=some Qdv/\(∀j,j<L.length - 1->((masks ops.toList []).getD (L.length - 1) 0).testBit j=true)/\
   ∀ρ M a w K,Sim Γ ρ M (mk (got n L ts hs).2.2.2.1 (got n L ts hs).2.2.2.2) a w->(∀a' w',Q .normal a' w'->K a' w')->wpOp P ops Q (L.length - 1) K a w)(hQ:c=false->∀ρ' M' a' w',Sim Γ ρ' M' (mk (got n L ts hs).2.2.2.1 (got n L ts hs).2.2.2.2) a' w'->Q .normal a' w'):
  ∀(fuel:Nat) (listed:Array AH) (a:Act) (w:AG) (ρ:Name->Loc) (M:Nat->Prop),listed.size=ops.size->(c=true->listed.getD (L.length - 1) false=false)->
   (∀i o,ops[i]?=some o->listed.getD i false=true->∀e∈o.after.toList,Region.binds .any e=true->listed.getD e.on false=true)->
   cnt (fun i=>!listed.getD i false) ops.size<=fuel->
   Sim Γ ρ M (RD (VY L) (fun i=>listed.getD i false) (mk ts hs) L.length) a w->wpAny P .any ops Q fuel listed a w:=by
 obtain⟨hgot,hend⟩:=QwE h1 h2 h3
 simp only[indep,bae]at hind
 obtain⟨⟨hedge,hpair⟩,hnews⟩:=hind
 have hedge':=fun i o (hi:ops[i]?=some o)=>by simpa using QlI hedge i o (by simpa using hi)
 have hallL:RD (VY L) (fun _=>true) (mk ts hs) L.length=Qhc L (mk ts hs):=by
  rw[Qvt (L:=L) (s:=mk ts hs) L.length (AN _),Ac]
 have hfin:∀(listed:Array AH) a w ρ M,(∀i,i<ops.size->listed.getD i false=true)->(c=true->listed.getD (L.length - 1) false=false)->
   Sim Γ ρ M (RD (VY L) (fun i=>listed.getD i false) (mk ts hs) L.length) a w->Q .normal a w:=by
  intro listed a w ρ M hall hlst hsim
  cases c with
  |true=>
   obtain⟨g1,_⟩:=hlast rfl
   rw[hall (L.length - 1) U]at hlst
   exact absurd (hlst rfl) Ob
  |false=>
  refine hQ rfl ρ M a w (hsim.congr (fun t=>?_) (fun m=>?_))
  .rw[<-hend,<-hallL]
   exact QaT _ (fun j hj _=>by rw[hall j U])
  .rw[<-hend,<-hallL]
   exact Uk _ (fun j hj _=>by rw[hall j U])
 have hnone:∀listed:Array AH,listed.size=ops.size->Region.ready .any ops listed=[]->∀i,i<ops.size->listed.getD i false=true:=by
  intro listed hls hr i
  induction i using Nat.strongRecOn with
  |_ i ih=>
   intro hi
   cases hl:listed.getD i false with
   |true=>rfl
   |false=>
    exfalso
    have hmem:i∈Region.ready .any ops listed:=by
     unfold Region.ready
     simp only[Bl,Ce]
     refine⟨hi,?_⟩
     have hl2:listed.getD i true=false:=by
      have hi':i<listed.size:=U
      simp[Array.getD,hi']at hl |-
      exact hl
     rw[hl2]
     simp only[Bool.not_false,B8,EF hi,Aa,B0]
     rw[Ed]
     intro e he
     cases hb:Region.binds .any e with
     |false=>simp
     |true=>
      have:=hedge' i ops[i] (EF hi) e he hb
      simp only[CT,Bt]
      exact ih e.on this U
    rw[hr]at hmem
    simp at hmem
 intro fuel
 induction fuel with
 |zero=>
  intro listed a w ρ M hls hlst hdown hcnt hsim
  have hall:∀i,i<ops.size->listed.getD i false=true:=fun i hi=>by
   have:=Qti _ (Nat.le_zero.1 hcnt) i hi
   simpa using this
  refine⟨?_,hfin listed a w ρ M hall hlst hsim⟩
  unfold Region.ready
  rw[Cv]
  intro i hi
  have hi':=Ce.1 hi
  have h5:=hall i hi'
  have:listed.getD i true=true:=by
   have hi2:i<listed.size:=U
   simp[Array.getD,hi2]at h5 |-
   exact h5
  simp[this]
 |succ fuel ih=>
  intro listed a w ρ M hls hlst hdown hcnt hsim
  refine⟨fun hr=>hfin listed a w ρ M (hnone listed hls hr) hlst hsim,fun i hi=>?_⟩
  unfold Region.ready at hi
  simp only[Bl,Ce]at hi
  obtain⟨hilt,hi2⟩:=hi
  have hio:=EF hilt
  simp only[bae,BG,hio,Aa,B0]at hi2
  obtain⟨hl1,hready⟩:=hi2
  have hnl:listed.getD i false=false:=by
   have hi':i<listed.size:=U
   simp[Array.getD,hi']at hl1 |-
   exact hl1
  rw[Ed]at hready
  have hiL:i<L.length:=U
  have hLi:L[i]?=some (VY L i):=by rw[VY,AQ,AR hiL];rfl
  have hLj:∀j,j<L.length->L[j]?=some (VY L j):=fun j hj=>by rw[VY,AQ,AR hj];rfl
  let D':Nat->AH:=fun j=>listed.getD j false || decide (j=i)
  have hmask:∀k j,D' k=true->((masks ops.toList []).getD k 0).testBit j=true->D' j=true:=by
   refine QhK ops.toList [] (fun k o ho hD e he hb=>?_) (fun k j _ hj=>by simp at hj)
   simp only[Ao,Ah]at hD
   have ho':ops[k]?=some o:=by simpa using ho
   by_cases e':k=i
   .subst e'
    rw[hio]at ho';cases ho'
    have:=hready e (by simpa using he)
    simp only[hb,CT,Bt]at this
    show(listed.getD e.on false || decide (e.on=_))=true
    rw[this];rfl
   .have:listed.getD k false=true:=by simpa [D',e']using hD
    show(listed.getD e.on false || decide (e.on=i))=true
    rw[hdown k o ho' this e he hb];rfl
  have hmask0:∀k j,listed.getD k false=true->((masks ops.toList []).getD k 0).testBit j=true->listed.getD j false=true:=by
   refine QhK ops.toList [] (fun k o ho hD e he hb=>?_) (fun k j _ hj=>by simp at hj)
   simp only[Ao,Ah]at hD
   exact hdown k o (by simpa using ho) hD e he hb
  have hord:∀j,j<L.length->j≠i->(j<i/\listed.getD j false=true)\/(i<j/\listed.getD j false=false)\/(Apart (VY L i) (VY L j)/\i<j)\/(Apart (VY L j) (VY L i)/\j<i):=by
   intro j hj hji
   have hm:∀k,k<L.length->(masks ops.toList [])[k]?=some ((masks ops.toList []).getD k 0):=fun k hk=>by
    have:k<(masks ops.toList []).length:=by rw[Qq2];simp;omega
    rw[AQ,AR this];rfl
   rcases Cw hji with hlt|hgt
   .rcases QhS hpair j i _ _ _ _ hlt (Qp6 (hLj j hj) (hm j hj)) (Qp6 hLi (hm i hiL))with hb|hb
    .have:=hmask i j (by simp[D']) (by simpa using hb)
     simp only[D',hji,decide_false,Cf]at this
     exact .inl ⟨hlt,this⟩
    .exact .inr (.inr (.inr ⟨hb,hlt⟩))
   .rcases QhS hpair i j _ _ _ _ hgt (Qp6 hLi (hm i hiL)) (Qp6 (hLj j hj) (hm j hj))with hb|hb
    .refine .inr (.inl ⟨hgt,?_⟩)
     cases hlj:listed.getD j false with
     |false=>rfl
     |true=>
      have:=hmask0 j i hlj (by simpa using hb)
      rw[hnl]at this;simp at this
    .exact .inr (.inr (.inl ⟨hb,hgt⟩))
  obtain⟨hrd,hhp,hdst,hnw⟩:=hgot i _ hLi
  have hRDi:=Qvt (L:=L) (s:=mk ts hs) i U
  have hholds:(RD (VY L) (fun i=>listed.getD i false) (mk ts hs) L.length).holds (VY L i).2:=by
   refine⟨fun t x hx=>?_,fun m o hm=>?_,fun m hm=>?_⟩
   .have hk:=Ql0 hx
    rw[Qar (i:=i) L.length U (fun j hj1 hj2 hw=>?_),QaT (D':=fun _=>true) i (fun j hj hw=>?_),hRDi]
    .exact hrd t x hx
    .rcases hord j U U with h|h|h|h
     .exact h.2
     .omega
     .omega
     .exact absurd hk (h.1.d1 t hw)
    .by_cases e:j=i
     .subst e;exact hnl
     .rcases hord j hj2 e with h|h|h|h
      .omega
      .exact h.2
      .exact absurd hk (h.1.d2 t hw)
      .omega
   .have hk:=Ql0 hm
    rw[V8 (i:=i) L.length U (fun j hj1 hj2 hw=>?_),Uk (D':=fun _=>true) i (fun j hj hw=>?_),hRDi]
    .exact hhp m o hm
    .rcases hord j U U with h|h|h|h
     .exact h.2
     .omega
     .omega
     .exact absurd hk (h.1.h1 m (Zu hw))
    .by_cases e:j=i
     .subst e;exact hnl
     .rcases hord j hj2 e with h|h|h|h
      .omega
      .exact h.2
      .exact absurd hk (h.1.h2 m (Zu hw))
      .omega
   .obtain⟨hpast,hfree,hk⟩:=QnY hnews i _ hLi m hm
    refine⟨?_,?_⟩
    .rw[V8 (i:=i) L.length U (fun j hj1 hj2 hw=>?_),Uk (D':=fun _=>true) i (fun j hj hw=>?_),hRDi]
     .exact hnw m hm
     .rcases hord j U U with h|h|h|h
      .exact h.2
      .omega
      .omega
      .exact absurd hk (h.1.hh m (Zu hw))
     .by_cases e:j=i
      .subst e;exact hnl
      .rcases hord j hj2 e with h|h|h|h
       .omega
       .exact h.2
       .exact absurd (Zu hw) (h.1.hh m hk)
       .omega
    .skip
     have hf:=QhE hfree
     have hE:∀j,j<L.length->listed.getD j false=true->(VY L j).2.has m=false:=by
      intro j hj hlj
      have hji:j≠i:=fun e=>by subst e;rw[hnl]at hlj;simp at hlj
      rcases Cw hji with hlt|hgt
      .refine hpast _ ?_
       simp only[BU]
       refine List.mem_iff_getElem.2 ⟨j,by simp;omega,?_⟩
       rw[List.getElem_take,VY,AQ,AR U];rfl
      .rcases hord j hj hji with h|h|h|h
       .omega
       .rw[h.2]at hlj;simp at hlj
       .exact h.1.c1 m hm
       .omega
     refine⟨fun t x ht=>?_,fun m' o' hm'=>?_⟩
     .rcases Qfc _ ht with h|⟨j,hj,hlj,rfl⟩
      .exact hf.1 t x h
      .have:=hE j hj hlj
       simp only[Eff.has,Ee]at this
       exact this.1
     .rcases Qfb _ hm' with h|⟨j,hj,hlj,h⟩
      .exact hf.2 m' o' h
      .have:=hE j hj hlj
       simp only[Eff.has,Ee]at this
       have h8:=this.2
       rw[Cx]at h8
       have:=h8 _ (Q5 h)
       simpa using this
  have hget:∀j,(listed.setIfInBounds i true).getD j false=D' j:=by
   intro j
   have hi':i<listed.size:=U
   by_cases e:j=i
   .subst e;simp[D',Array.getD,hi']
   .simp only[D',e,decide_false,Cf,BH]
    rw[Array.getElem?_setIfInBounds_ne (fun h=>e h.symm)]
  by_cases hc:c=true/\i=L.length - 1
  ·obtain⟨hc,hil⟩:=hc
   obtain⟨g1,g2,g3,g4⟩:=hlast hc
   rw[<-hil]at g2 g3 g4
   have hno:VY L i=Qdv:=by rw[hLi]at g2;exact Be g2
   have hoth:∀j,j<L.length->j≠i->listed.getD j false=true:=fun j hj hji=>by
    have:=hmask i j (by simp[D']) (g3 j U)
    simpa only[D',hji,decide_false,Cf]using this
   refine g4 ρ M a w _ (hsim.congr (fun t=>?_) (fun m=>?_)) (fun a' w' hq=>Qx8 (by simpa using hls) (fun j hj=>?_) hq fuel)
   .rw[<-hend,<-hallL]
    refine(QaT _ (fun j hj hw=>?_)).symm
    by_cases e:j=i
    .subst e;rw[hno]at hw;simp[Qdv]at hw
    .rw[hoth j hj e]
   .rw[<-hend,<-hallL]
    refine(Uk _ (fun j hj hw=>?_)).symm
    by_cases e:j=i
    .subst e;rw[hno]at hw;simp[Qdv,X]at hw
    .rw[hoth j hj e]
   .rw[hget]
    by_cases e:j=i
    .simp[D',e]
    .simp only[D',hoth j U e,Bc]
  have hstep:=hsteps i _ hLi (fun hc'=>by
   have:i≠L.length - 1:=fun e=>hc ⟨hc',e⟩
   omega)
  refine hstep Γ ρ M _ a w _ Q hsim hholds (fun d hd=>by rw[hn];exact hdst d hd) (fun ρ' M' a' w' hsim'=>?_)
  refine ih _ a' w' ρ' M' (by simpa using hls) (fun hc'=>?_) (fun k o ho hk e he hb=>?_) ?_ (hsim'.congr (fun t=>?_) (fun m=>?_))
  .rw[hget]
   have hne:L.length - 1≠i:=fun e=>hc ⟨hc',e.symm⟩
   simp only[D',hlst hc',hne,decide_false,Cf]
  .rw[hget]at hk |-
   by_cases e':k=i
   .subst e'
    rw[hio]at ho;cases ho
    have:=hready e (by simpa using he)
    simp only[hb,CT,Bt]at this
    show(listed.getD e.on false || decide (e.on=_))=true
    rw[this];rfl
   .have:listed.getD k false=true:=by simpa [D',e']using hk
    show(listed.getD e.on false || decide (e.on=i))=true
    rw[hdown k o ho this e he hb];rfl
  .have:cnt (fun j=>!(listed.setIfInBounds i true).getD j false) ops.size<cnt (fun j=>!listed.getD j false) ops.size:=by
    refine QzW (i:=i) (fun j hj=>?_) (by simp[hnl]) (by simp[hget,D']) _ hilt
    rw[hget]at hj
    simp only[D',Bool.not_or,bae]at hj
    exact hj.1
   omega
  ·have hrun:=QeD (RD (VY L) (fun i=>listed.getD i false) (mk ts hs) L.length) (VY L i) t
   rw[hrun]
   have hD:(fun j=>(listed.setIfInBounds i true).getD j false)=D':=funext hget
   rw[hD]
   by_cases hw:(VY L i).1=some t
   .rw[iB hw,Qar (i:=i+1) L.length U (fun j hj1 hj2 hwj=>?_)]
    .simp only[RD,D',decide_true,CJ,if_true]
     rw[QeD,iB hw]
    .rcases hord j hj2 U with h|h|h|h
     .omega
     .simp only[D',h.2,Bt,Cd];omega
     .exact absurd hwj (h.1.dd t hw)
     .omega
   .rw[iA hw]
    refine QaT _ (fun j hj hwj=>?_)
    by_cases e:j=i
    .subst e;exact absurd hwj hw
    .simp[D',e]
  .have hrun:=QgV (RD (VY L) (fun i=>listed.getD i false) (mk ts hs) L.length) (VY L i) m
   rw[hrun]
   have hD:(fun j=>(listed.setIfInBounds i true).getD j false)=D':=funext hget
   rw[hD]
   cases hw:X m (VY L i).2.upd with
   |some o=>
    rw[V8 (i:=i+1) L.length U (fun j hj1 hj2 hwj=>?_)]
    .simp only[RD,D',decide_true,CJ,if_true]
     rw[QgV,hw]
    .rcases hord j hj2 U with h|h|h|h
     .omega
     .simp only[D',h.2,Bt,Cd];omega
     .exact absurd (Zu hwj) (h.1.hh m (Zu (by rw[hw];simp)))
     .omega
   |none=>
    refine Uk _ (fun j hj hwj=>?_)
    by_cases e:j=i
    .subst e;exact absurd hw hwj
    .simp[D',e]
def Qqe(hn:Γ.n=n)(hst:VH P ops 0 L)(h1:(got n L ts hs).1=Qam L)(h2:(got n L ts hs).2.1=Qal L)(h3:(got n L ts hs).2.2.1=true)(hind:indep ops L ts hs=true)(hQ:∀ρ' M' a' w',Sim Γ ρ' M' (mk (got n L ts hs).2.2.2.1 (got n L ts hs).2.2.2.2) a' w'->Q .normal a' w')(fuel)(listed)(a)(w)(ρ)(M)(hls:listed.size=ops.size)(hdown:∀i o,ops[i]?=some o->listed.getD i false=true->∀e∈o.after.toList,Region.binds .any e=true->listed.getD e.on false=true)(hcnt:cnt (fun i=>!listed.getD i false) ops.size<=fuel)(hsim:Sim Γ ρ M (RD (VY L) (fun i=>listed.getD i false) (mk ts hs) L.length) a w):wpAny P .any ops Q fuel listed a w:=by
 obtain⟨hsteps,hsize⟩:=Qj1 hst
 exact QnG false hn (fun i y hi _=>by have:=hsteps i y hi;rwa [Ah]at this) U h1 h2 h3 hind (fun h=>by simp at h) (fun _=>hQ) fuel listed a w ρ M hls (fun h=>by simp at h) hdown hcnt hsim
def QqS(n):∀(L:Y Row) (ts:Y (Nat×AV)) (hs:Y (Name×AO)),got n (L++[Qdv]) ts hs=got n L ts hs
 |[],ts,hs=>by simp[got,Qdv,putT,Qcv,Qq5]
 |(d,e)::r,ts,hs=>by simp only[BE,got,QqS n r]
def Qm1:∀(L:Y Row),Qam (L++[Qdv])=Qam L
 |[]=>by simp[Qam,Qdv]
 |(d,e)::r=>by simp only[BE,Qam,Qm1 r]
def Qm0:∀(L:Y Row),Qal (L++[Qdv])=Qal L
 |[]=>by simp[Qal,Qdv]
 |(d,e)::r=>by simp only[BE,Qal,Qm0 r]
end
def Sim.drew(h:Sim Γ ρ M s a w):Sim Γ ρ M s a { w with drawn:=w.drawn+1 }:=
 h.world ⟨AN _,fun _ _ _=>rfl,rfl,rfl⟩
def TJ.draw{id:Nat}(hn:Γ.n=n)(hk:Γ.names=names)(hmode:(P.follows .mixedOrders || !Region.departs ops)=true)(L)(hst:VH P ops 0 L)(hf:fits n names L ts hs ts' hs')(hind:indep ops L ts hs=true)(hQ:Q .normal (mk ts' hs')):TJ P Γ (.region id ops true) (mk ts hs) Q:=by
 intro ρ M a w hsim
 obtain⟨h1,h2,h3,h4,h5,h6⟩:=QnS hf
 refine wp_region_draw fun t=>?_
 have hsch:Region.schedule (P.follows .mixedOrders) ops t=Region.linearise .any ops t:=by
  unfold Region.schedule;rw[hmode];rfl
 rw[hsch]
 refine wpAny_sound ops.size t _ a _ ?_
 refine Qqe hn hst h1 h2 h3 hind (Q:=fun e a' w'=>∃s' ρ' M',Q e s'/\Sim Γ ρ' M' s' a' w') (fun ρ' M' a' w' hs=>⟨_,ρ',M',hQ,hs.forget h4 h5 (by rw[hk];exact h6)⟩)
  ops.size (Array.replicate ops.size false) a _ ρ M Ob (fun i o hi hl=>by simp[BH,Bu]at hl;split at hl<;>simp at hl) ?_ ?_
 .have:∀(f:Nat->AH) k,cnt f k<=k:=by
   intro f k
   induction k with
   |zero=>exact AN _
   |succ k ih=>simp only[cnt];split<;>omega
  exact this _ _
 .refine hsim.drew.congr (fun t=>?_) (fun m=>?_)
  .have:=Qar (E:=fun i=>VY L i) (D:=fun i=>(Array.replicate ops.size false).getD i false) (s:=mk ts hs) (t:=t) (i:=0) L.length U (fun j _ _ _=>by
    simp only[BH,Bu];split<;>rfl)
   exact this
  .have:=V8 (E:=fun i=>VY L i) (D:=fun i=>(Array.replicate ops.size false).getD i false) (s:=mk ts hs) (m:=m) (i:=0) L.length U (fun j _ _ _=>by
    simp only[BH,Bu];split<;>rfl)
   exact this
section code
def Qsv(N:AS->Prop)(Q:Exit->AS->Prop):Exit->AS->Prop
 |.normal,s=>N s
 |e,s=>Q e s
def QnJ(id:Nat)(Q:Exit->AS->Prop):Exit->AS->Prop
 |.exit k,s=>if k=id then Q .normal s else Q (.exit k) s
 |e,s=>Q e s
def TJ.mono(h:TJ P Γ c s Q)(hq:∀e s,Q e s->Q' e s):TJ P Γ c s Q':=
 fun ρ M a w hs=>wp_mono (h ρ M a w hs) fun e a' w' ⟨s',ρ',M',h1,h2⟩=>⟨s',ρ',M',hq _ _ h1,h2⟩
def TJ.skip(h:Q .normal s):TJ P Γ .skip s Q:=fun ρ M a w hs=>wp_skip ⟨s,ρ,M,h,hs⟩
def TJ.exit{id:Nat}(h:Q (.exit id) s):TJ P Γ (.exit id) s Q:=fun ρ M a w hs=>wp_exit ⟨s,ρ,M,h,hs⟩
def TJ.ret(h:Q .ret s):TJ P Γ .ret s Q:=fun ρ M a w hs=>wp_ret ⟨s,ρ,M,h,hs⟩
def TJ.label(h:Q .normal s):TJ P Γ (.label l) s Q:=fun ρ M a w hs=>wp_label ⟨s,ρ,M,h,hs⟩
def TJ.seq(h:TJ P Γ x s (Qsv (fun s'=>TJ P Γ y s' Q) Q)):TJ P Γ (.seq x y) s Q:=by
 intro ρ M a w hs
 refine wp_seq (wp_mono (h ρ M a w hs) fun e a' w' ⟨s',ρ',M',h1,h2⟩=>?_)
 cases e<;>simp only[Qsv]at h1<;>simp only[Exit.then]
 .exact h1 ρ' M' a' w' h2
 all_goals grind
def TJ.block{id:Nat}(h:TJ P Γ c s (QnJ id Q)):TJ P Γ (.block id c) s Q:=by
 intro ρ M a w hs
 refine wp_block (wp_mono (h ρ M a w hs) fun e a' w' ⟨s',ρ',M',h1,h2⟩=>?_)
 cases e with
 |exit k=>
  simp only[QnJ]at h1
  simp only[Exit.inBlock]
  grind
 |_=>exact⟨s',ρ',M',h1,h2⟩
def QlM(hs:Sim Γ ρ M s a w)(h:s.slot t=some (.p (.v (.bool b)))):a.eval (.tmp t)=.bool b:=by
 obtain⟨u,hu,hr⟩:=hs.slots t _ h
 simp only[AV.R,PV.R]at hr
 simp[Act.eval,BH,hu,hr.1]
def TJ.cond_true{P:AF}{Γ:Ctx}{s:AS}{Q:Exit->AS->Prop}{t:Nat}{x y:Code}(hc:s.slot t=some (.p (.v (.bool true))))(h:TJ P Γ x s Q):TJ P Γ (.cond (.tmp t) x y) s Q:=
 fun ρ M a w hs=>wp_cond_true (QlM hs hc) (h ρ M a w hs)
def TJ.cond_false{P:AF}{Γ:Ctx}{s:AS}{Q:Exit->AS->Prop}{t:Nat}{x y:Code}(hc:s.slot t=some (.p (.v (.bool false))))(h:TJ P Γ y s Q):TJ P Γ (.cond (.tmp t) x y) s Q:=
 fun ρ M a w hs=>wp_cond_false (QlM hs hc) (h ρ M a w hs)
def TJ.cond{P:AF}{Γ:Ctx}{s:AS}{Q:Exit->AS->Prop}{t:Nat}{x y:Code}(b:AH)(hc:s.slot t=some (.p (.v (.bool b))))(ht:b=true->TJ P Γ x s Q)(hf:b=false->TJ P Γ y s Q):TJ P Γ (.cond (.tmp t) x y) s Q:=
 fun ρ M a w hs=>wp_cond_split (QlM hs hc) (fun hb=>ht hb ρ M a w hs) (fun hb=>hf hb ρ M a w hs)
def TJ.loop(zE:Nat->AS->Prop)(h0:∃m,zE m s)(round:∀m s,zE m s->TJ P Γ c s (Qsv (fun s'=>∃m',m'<m/\zE m' s') Q)):TJ P Γ (.loop c) s Q:=by
 intro ρ M a w hs b k cs
 have key:∀m s ρ M a w,zE m s->Sim Γ ρ M s a w->
   ∃e a' w',(∃s' ρ' M',Q e s'/\Sim Γ ρ' M' s' a' w')/\Arrives P (lone (b.at a (.code c::.inLoop c::k)) cs w) b k cs e a' w':=by
  intro m
  induction m using Nat.strongRecOn with
  |_ m ih=>
   intro s ρ M a w hI hs
   obtain⟨e,a₁,w₁,⟨s',ρ',M',h1,h2⟩,harr⟩:=round m s hI ρ M a w hs b (.inLoop c::k) cs
   cases e with
   |normal=>
    simp only[Qsv]at h1
    obtain⟨m',hlt,hI'⟩:=h1
    obtain⟨e₂,a₂,w₂,hq₂,harr₂⟩:=ih m' hlt s' ρ' M' a₁ w₁ hI' h2
    exact⟨e₂,a₂,w₂,hq₂,.of_steps (Steps.trans harr (.one step_inLoop)) harr₂⟩
   |exit id=>exact⟨_,a₁,w₁,⟨s',ρ',M',h1,h2⟩,.pass (x:=.inLoop c) rfl (fun _ _=>.inl Ob) harr⟩
   |goto l=>exact⟨_,a₁,w₁,⟨s',ρ',M',h1,h2⟩,.pass (x:=.inLoop c) rfl (fun _ _=>.inl Ob) harr⟩
   |ret=>exact⟨_,a₁,w₁,⟨s',ρ',M',h1,h2⟩,.pass (x:=.inLoop c) rfl (fun _ _=>.inl Ob) harr⟩
   |panic ch=>exact⟨_,a₁,w₁,⟨s',ρ',M',h1,h2⟩,.pass (x:=.inLoop c) rfl (fun _ _=>.inl Ob) harr⟩
   |outgrown=>exact⟨_,a₁,w₁,⟨s',ρ',M',h1,h2⟩,.pass (x:=.inLoop c) rfl (fun _ _=>.inl Ob) harr⟩
 obtain⟨m,hm⟩:=h0
 obtain⟨e,a',w',hq,harr⟩:=key m s ρ M a w hm hs
 exact⟨e,a',w',hq,.of_steps (.one step_loop) harr⟩
end code
def YJ:AE->AV
 |.slice none 0 0=>.p (.sl true 0 [])
 |c=>.p (.v c)
def Qfp:AE->I AV
 |.agg cs=>if cs.toList.all (fun c=>c.oneCell')then some (.agg (cs.toList.map YJ))else none
 |c=>if c.oneCell' then some (YJ c)else none
def Qi(rd:Y (Nat×AV)):AC->I AV
 |.tmp t=>X t rd
 |.const c=>Qfp c
 |.global g=>some (.p (.v (.pointer (some ⟨g,0,none⟩))))
 |.func f=>some (.p (.v (.func (.func f) #[] #[])))
def Qg0(rd:Y (Nat×AV)):Y AC->I (Y AV)
 |[]=>some []
 |x::r=>match Qi rd x,Qg0 rd r with
  |some y,some ys=>some (y::ys)
  |_,_=>none
section
def Qlz(h:c.oneCell'=true):(YJ c).R ρ H M w c:=by
 unfold YJ
 split
 .simp only[AV.R,PV.R];exact⟨none,0,Ob⟩
 .simp only[AV.R,PV.R];exact⟨trivial,h⟩
def Xq:∀{cs:Y AE},(∀c∈cs,c.oneCell'=true)->AV.Rs ρ H M w (cs.map YJ) cs
 |[],_=>by simp[AV.Rs]
 |c::cs,h=>by
  simp
  exact⟨c,cs,rfl,h c Ob,Qlz (h c Ob),Xq (fun c hc=>h c (by simp[hc]))⟩
def Qwg(h:Qfp c=some x):x.R ρ H M w c:=by
 unfold Qfp at h
 split at h
 .rename_i cs
  split at h
  .rename_i hall
   cases h
   simp only[AV.R]
   exact⟨cs,rfl,Xq (AW.1 hall)⟩
  .simp at h
 .split at h
  .rename_i hc;cases h;exact Qlz hc
  .simp at h
def Qj(hs:Sim Γ ρ M s a w)(hh:s.holds e)(h:Qi e.rd x=some y):y.R ρ s.heap M w (a.eval x):=by
 cases x with
 |tmp t=>
  obtain⟨u,hu,hr⟩:=hs.slots t y (hh.rd t y (Q5 h))
  simpa [Act.eval,BH,hu]using hr
 |const c=>exact Qwg h
 |global g=>simp only[Qi,AP]at h;subst h;simp only[AV.R,PV.R];exact⟨rfl,rfl⟩
 |func f=>simp only[Qi,AP]at h;subst h;simp only[AV.R,PV.R];exact⟨rfl,rfl⟩
def QjE(hs:Sim Γ ρ M s a w)(hh:s.holds e):∀{xs:Y AC} {ys:Y AV},Qg0 e.rd xs=some ys->AV.Ts ρ s.heap M w ys (xs.map a.eval)
 |[],ys,h=>by simp only[Qg0,AP]at h;subst h;simp[AV.Ts]
 |x::r,ys,h=>by
  simp only[Qg0]at h
  split at h
  .rename_i y ys' h1 h2
   cases h
   simp
   exact⟨_,_,rfl,Qj hs hh h1,QjE hs hh h2⟩
  .simp at h
end
def X2(l:Y (Name×AO)):Heap:=fun n=>X n l
def newM(M:Nat->Prop)(ρ:Name->Loc)(h:Y (Name×AO)):Nat->Prop:=fun b=>M b\/∃n o,X n h=some o/\(ρ n).blk=some b
structure After (ρ:Name->Loc) (M:Nat->Prop) (w:AG) (pre:Y (Name×AO)) (u:AE) (v:AV) (h:Y (Name×AO)) (ρ':Name->Loc) (w':AG):Prop where
 val:v.R ρ' (X2 h) (newM M ρ' h) w' u
 objs:∀n o,X n h=some o->Qah ρ' (X2 h) (newM M ρ' h) w' n o
 inj:∀n m o o' b,X n h=some o->X m h=some o'->(ρ' n).blk=some b->(ρ' m).blk=some b->n=m
 own:∀n o b,X n h=some o->(ρ' n).blk=some b->(∃o',X n pre=some o'/\(ρ n).blk=some b)\/w.heap.size<=b
 ext:Ext (fun b=>∃n o,X n pre=some o/\(ρ n).blk=some b) w w'
 keep:∀n o,X n pre=some o->∃o',X n h=some o'/\stays o (ρ n) (some o') (ρ' n)
def Spec(P:AF)(f:FuncId)(args:Y AV)(pre:Y (Name×AO))(post:AV->Y (Name×AO)->Prop):Prop:=
 ∀(G:AG) (ρ:Name->Loc) (M:Nat->Prop) (w:AG) (us:Y AE),Ground G w (fun b=>∃n o,X n pre=some o/\(ρ n).blk=some b)->(∀b,M b->b<w.heap.size)->AV.Ts ρ (X2 pre) M w args us->
  (∀n o,X n pre=some o->Qah ρ (X2 pre) M w n o)->
  (∀n m o o' b,X n pre=some o->X m pre=some o'->(ρ n).blk=some b->(ρ m).blk=some b->n=m)->
  Calls P f us.toArray w fun e w'=>∃u v h ρ',e=.returned u/\post v h/\After ρ M w pre u v h ρ' w'
def Spec.mono(h:Spec P f args pre post)(hp:∀v h,post v h->post' v h):Spec P f args pre post':=
 fun G ρ M w us hG h1 h2 h3 h4=>(h G ρ M w us hG h1 h2 h3 h4).mono fun e w' ⟨u,v,h,ρ',g1,g2,g3⟩=>⟨u,v,h,ρ',g1,hp _ _ g2,g3⟩
abbrev WT(P:AF)(f:FuncId)(args:Y AV)(pre:Y (Name×AO))(v:AV)(h:Y (Name×AO)):Prop:=Spec P f args pre fun v' h'=>v'=v/\h'=h
def Qbx:Nat->Y AV->Y (Nat×AV)
 |_,[]=>[]
 |i,x::r=>(i,x)::Qbx (i+1) r
def Qj6:∀{i:Nat} {l:Y AV} {t:Nat} {x:AV},X t (Qbx i l)=some x->i<=t/\l[t - i]?=some x
 |i,[],t,x,h=>by simp[Qbx,X]at h
 |i,y::r,t,x,h=>by
  simp only[Qbx,X]at h
  split at h
  .rename_i e;subst e;cases h;exact⟨AN _,Ob⟩
  .obtain⟨h1,h2⟩:=Qj6 h
   refine⟨U,?_⟩
   rw[show t - i=(t - (i+1))+1 by omega];simpa using h2
def AV.Ts.get:∀{xs:Y AV} {us:Y AE},AV.Ts ρ H M w xs us->us.length=xs.length/\∀(j:Nat) (x:AV),xs[j]?=some x->∃u:AE,us[j]?=some u/\x.R ρ H M w u
 |[],us,h=>by simp only[AV.Ts]at h;subst h;simp
 |x0::xs,us,h=>by
  simp only[AV.Ts]at h
  obtain⟨u,us',rfl,h3,h4⟩:=h
  obtain⟨g1,g2⟩:=AV.Ts.get h4
  refine⟨by simp[g1],fun j x hj=>?_⟩
  cases j with
  |zero=>simp at hj;subst hj;exact⟨u,Ob,h3⟩
  |succ j=>simpa using g2 j x (by simpa using hj)
def aggT(P:AF)(T:AD):AH:=match P.underlying T with|some (.struct _)=>true|some (.array _ _)=>true|some _=>false|none=>false
def Qcy(P:AF)(T:AD):AH:=match P.underlying T with|some (.struct _)=>false|some (.array _ _)=>false|some _=>true|none=>false
def Zl(P:AF)(T:AD):I Nat:=(P.info? T).map (·.size)
def VZ(h:aggT P T=true)(w):(isAgg T).run P w=.ok true w:=by
 unfold aggT at h
 unfold isAgg underlying
 cases hu:P.underlying T with
 |none=>simp[hu]at h
 |some d=>cases d<;>simp_all
def U8(h:Qcy P T=true)(w):(isAgg T).run P w=.ok false w:=by
 unfold Qcy at h
 unfold isAgg underlying
 cases hu:P.underlying T with
 |none=>simp[hu]at h
 |some d=>cases d<;>simp_all
def run_sizeOf(h:Zl P T=some k)(w):(sizeOf T).run P w=.ok k w:=by
 unfold Zl at h
 unfold sizeOf typeInfo
 cases hu:P.info? T with
 |none=>simp[hu]at h
 |some i=>simp[hu]at h |-;simp[h]
def U9{us:Y AE}(hT:aggT P T=true)(hz:Zl P T=some us.length)(h:∀j v,us[j]?=some v->w.cell? (a.add j)=some v):
  (loadVar T a).run P w=.ok (.agg us.toArray) w:=by
 unfold loadVar
 simp only[Sem.run_bind,VZ hT,Result.andThen,if_true,run_sizeOf hz,run_loadCells_list w a us h]
 rfl
def WC(hT:Qcy P T=true)(h:w.cell? a=some u):
  (loadVar T a).run P w=.ok u w:=by
 unfold loadVar
 simp only[Sem.run_bind,U8 hT,Result.andThen,if_false,Bj,run_load,h]
def Zr(b o j):(Addr.add ⟨b,o,none⟩ j)=⟨b,o+j,none⟩:=by
 unfold Addr.add;split
 .simp_all
 .rfl
def Qlp(h:Qah ρ H M w n (.box cells)):
  ∃(b:Nat) (us:Y AE),ρ n=⟨some ⟨b,0,none⟩,1⟩/\AV.Rs ρ H M w cells us/\∀j v,us[j]?=some v->w.cell? ⟨b,j,none⟩=some v:=by
 obtain⟨b,T,cs,h1,h2,h3,h4⟩:=h
 refine⟨b,cs.toList,h1,h4,fun j v hj=>?_⟩
 simp[World.cell?,h3]
 simpa using hj
def Res1(P:AF)(s:AS):ResultVar->AV->Prop
 |.tmp t,v=>s.slot t=some v
 |.cell t T,v=>∃n cells,s.slot t=some (.TM n 0)/\s.heap n=some (.box cells)/\((aggT P T=true/\Zl P T=some cells.length/\v=.agg cells)\/(Qcy P T=true/\cells=[v]))
def Res1s(P:AF)(s:AS):Y ResultVar->Y AV->Prop
 |[],vs=>vs=[]
 |r::rs,vs=>∃v vs',vs=v::vs'/\Res1 P s r v/\Res1s P s rs vs'
def Res(P:AF)(s:AS)(rs:Array ResultVar)(v:AV):Prop:=if rs.size=1 then Res1s P s rs.toList [v]else ∃vs,v=.tup vs/\Res1s P s rs.toList vs
def QsS(tmps:Array AE):ResultVar->Sem AE
 |.tmp t=>pure (tmps.getD t undef)
 |.cell a t=>do loadVar t (<-asAddr (tmps.getD a undef))
def Qzr(hs:Sim Γ ρ M s a w)(h:Res1 P s r v):
  ∃u,(QsS a.tmps r).run P w=.ok u w/\v.R ρ s.heap M w u:=by
 cases r with
 |tmp t=>
  obtain⟨u,hu,hr⟩:=hs.slots t v h
  exact⟨u,by simp[QsS,BH,hu],hr⟩
 |cell t T=>
  obtain⟨n,cells,h1,h2,h3⟩:=h
  obtain⟨u,hu,hr⟩:=hs.slots t _ h1
  simp only[AV.R]at hr
  obtain⟨b,hb,rfl⟩:=hr.2 cells h2
  obtain⟨b',us,g1,g2,g3⟩:=Qlp (hs.objs n _ h2)
  have e:b'=b:=by rw[g1]at hb;simpa using hb
  subst e
  rcases h3 with⟨hT,hz,rfl⟩|⟨hT,rfl⟩
  .refine⟨.agg us.toArray,?_,by simp only[AV.R];exact⟨us.toArray,rfl,by simpa using g2⟩⟩
   simp only[QsS,BH,hu,B0,asAddr,Sem.run_bind]
   exact U9 hT (by rw[hz,g2.length]) (fun j v hj=>by rw[Zr,Ah];exact g3 j v hj)
  .simp only[AV.Rs]at g2
   obtain⟨u,us',rfl,_,k3,k4⟩:=g2
   refine⟨u,?_,k3⟩
   simp only[QsS,BH,hu,B0,asAddr,Sem.run_bind]
   exact WC hT (g3 0 u Ob)
def QrD(hs:Sim Γ ρ M s a w):∀{rs:Y ResultVar} {vs:Y AV},Res1s P s rs vs->
  ∃us,(rs.mapM (QsS a.tmps)).run P w=.ok us w/\AV.Ts ρ s.heap M w vs us
 |[],vs,h=>by
  simp only[Res1s]at h;subst h
  exact⟨[],Ob,by simp[AV.Ts]⟩
 |r::rs,vs,h=>by
  simp only[Res1s]at h
  obtain⟨v,vs',rfl,h1,h2⟩:=h
  obtain⟨u,g1,g2⟩:=Qzr hs h1
  obtain⟨us,g3,g4⟩:=QrD hs h2
  refine⟨u::us,?_,by simp only[AV.Ts];exact⟨u,us,rfl,g2,g4⟩⟩
  rw[List.mapM_cons]
  simp[g1,g3,Result.andThen]
def Qu8(fn)(tmps):results fn tmps=(do let vs <-fn.results.mapM (QsS tmps);pure (if h:vs.size=1 then vs[0]else .tuple vs)):=by
 rfl
def QsV(hs:Sim Γ ρ M s a w)(h:Res P s fn.results v):
  ∃u,(results fn a.tmps).run P w=.ok u w/\v.R ρ s.heap M w u:=by
 rw[Qu8]
 have key:∀vs,Res1s P s fn.results.toList vs->∃us,(fn.results.mapM (QsS a.tmps)).run P w=.ok us.toArray w/\AV.Ts ρ s.heap M w vs us:=fun vs hv=>by
  obtain⟨us,g1,g2⟩:=QrD hs hv
  refine⟨us,?_,g2⟩
  rw[Ef]
  simp_all
 unfold Res at h
 split at h
 .rename_i hsz
  obtain⟨us,g1,g2⟩:=key _ h
  simp only[AV.Ts]at g2
  obtain⟨u,us',rfl,g3,rfl⟩:=g2
  simp_all
 .rename_i hsz
  obtain⟨vs,rfl,h⟩:=h
  have hl:∀(rs:Y ResultVar) (vs:Y AV),Res1s P s rs vs->vs.length=rs.length:=by
   intro rs
   induction rs with
   |nil=>intro vs h;simp only[Res1s]at h;simp[h]
   |cons r rs ih=>intro vs h;simp only[Res1s]at h;obtain⟨v,vs',rfl,_,h2⟩:=h;simp[ih _ h2]
  obtain⟨us,g1,g2⟩:=key _ h
  have hlen:=g2.get.1
  refine⟨.tuple us.toArray,?_,by simp only[AV.R];exact⟨us.toArray,rfl,by simpa using g2⟩⟩
  have h1:¬us.length=1:=by rw[hlen,hl _ _ h];simpa using hsz
  simp_all
def Spec.intro{P:AF}{f:FuncId}{fn:Func}{c:Code}{args:Y AV}{pre:Y (Name×AO)}{post:AV->Y (Name×AO)->Prop}(hf:P.funcs[f]?=some fn)(hb:fn.body=some c)(hlen:Nat.ble args.length fn.ntmps=true)(h:∀Γ:Ctx,Γ.n=fn.ntmps->Γ.names=keys pre->TJ P Γ c (mk (Qbx 0 args) pre) fun e s'=>(e=.normal\/e=.ret)/\
   ∃v h',Res P s' fn.results v/\(∀n o,X n h'=some o->s'.heap n=some o)/\(∀n,n∈keys pre->X n h'≠none)/\post v h'):Spec P f args pre post:=by
 intro G ρ M w us hG hM hargs hobjs hinj
 have hlen':=Am hlen
 obtain⟨hul,hug⟩:=hargs.get
 let Γ:Ctx:={ n:=fn.ntmps,names:=keys pre,pre:=fun n=>(X n pre).getD (.box []),ρ0:=ρ,w0:=w,M:=M,G:=G }
 have hsome:∀n,n∈keys pre->∃o,X n pre=some o:=by
  intro n hn
  rcases EE (X n pre=none)with h'|h'
  .exfalso
   have:∀(l:Y (Name×AO)),n∈keys l->X n l≠none:=by
    intro l
    induction l with
    |nil=>intro h;simp[keys]at h
    |cons p r ih=>
     intro h
     obtain⟨k,y⟩:=p
     simp only[keys,AU,AZ]at h
     simp only[X]
     split
     .simp
     .rename_i hne
      rcases h with h|h
      .exact absurd h.symm hne
      .exact ih h
   exact this pre hn h'
  .cases hc:X n pre with
   |none=>exact absurd hc h'
   |some o=>exact⟨o,rfl⟩
 have hsim:Sim Γ ρ M (mk (Qbx 0 args) pre) { tmps:=us.toArray++Array.replicate (fn.ntmps - us.toArray.size) undef,defers:=[] } w:=by
  refine⟨by simp[Γ];omega,rfl,fun t x ht=>?_,hobjs,hinj,fun n o b hn hb=>.inl ⟨?_,hb⟩,fun n hn=>?_,Ext.refl _ _,fun b hb=>hb,hM,hM,⟨hG.laid,hG.size,hG.same,fun b ⟨n,hn,hb⟩=>by obtain⟨o,ho⟩:=hsome n hn;exact hG.out b ⟨n,o,ho,hb⟩⟩⟩
  .obtain⟨_,h2⟩:=Qj6 ht
   obtain⟨u,hu,hr⟩:=hug t x (by simpa using h2)
   refine⟨u,?_,hr⟩
   grind
  .exact Zu (by change X n pre=some o at hn;rw[hn];simp)
  .obtain⟨o,ho⟩:=hsome n hn
   exact⟨o,ho,by simp only[Γ,ho,B0];exact Zj _ _⟩
 refine calls_of_wp hf hb (wp_mono (h Γ rfl rfl ρ M _ w hsim) fun e a' w' ⟨s',ρ',M',⟨he,v,h',h1,h2,h3,h4⟩,hs'⟩=>?_)
 have hfin:∃u,(results fn a'.tmps).run P w'=.ok u w'/\∃u' v h ρ',Ending.returned u=.returned u'/\post v h/\After ρ M w pre u' v h ρ' w':=by
  obtain⟨u,hu,hr⟩:=QsV hs' h1
  refine⟨u,hu,u,v,h',ρ',rfl,h4,?_⟩
  have hM':∀b,newM M ρ' h' b->M' b:=by
   intro b hb
   rcases hb with hb|⟨n,o,g1,g2⟩
   .exact hs'.mext b hb
   .exact((hs'.objs n o (h2 n o g1)).blk_lt hs'.msize g2).2
  have hstep:Qdk ρ' s'.heap ρ' (X2 h'):=by
   intro n o hn
   cases hc:X2 h' n with
   |none=>cases o<;>simp[stays]
   |some o'=>have:=h2 n o' hc;rw[hn]at this;cases this;exact Zj _ _
  have hnone:∀n,s'.heap n=none->X2 h' n=none:=fun n hn=>by
   cases hc:X2 h' n with
   |none=>rfl
   |some o'=>have:=h2 n o' hc;rw[hn]at this;simp at this
  refine⟨hr.step (Ext.refl (fun _=>False) _) (fun _ hb=>hb.elim) (fun b _ hb=>hM' b hb) hstep (fun n _=>hnone n),fun n o hn=>?_,fun n m o o' b g1 g2=>hs'.inj n m o o' b (h2 _ _ g1) (h2 _ _ g2),fun n o b g1 g2=>?_,?_,fun n o hn=>?_⟩
  ·have hobj:=hs'.objs n o (h2 n o hn)
   cases o with
   |box cells=>
    obtain⟨b,T,cs,k1,k2,k3,k4⟩:=hobj
    exact⟨b,T,cs,k1,.inr ⟨n,_,hn,by rw[k1];simp[Loc.blk]⟩,k3,k4.step (Ext.refl (fun _=>False) _) (fun _ hb=>hb.elim) (fun b _ hb=>hM' b hb) hstep (fun m _=>hnone m)⟩
   |TI es rows=>
    obtain⟨k0,k1,k2⟩:=hobj
    refine⟨k0,k1,?_⟩
    by_cases hc:(ρ' n).cap=0
    .exact .inl hc
    .rcases k2 with k2|⟨b,T,cs,k3,k4,k5,k6,k7⟩
     .exact .inl k2
     .refine .inr ⟨b,T,cs,k3,.inr ⟨n,_,hn,by simp[Loc.blk,hc,k3]⟩,k5,k6,?_⟩
      refine PV.Rows.of_get fun i r hi=>?_
      obtain⟨g1,g2⟩:=k7.get i r hi
      refine⟨g1,PV.Cells.of_get fun j c hj=>?_⟩
      obtain⟨u,hu,hr⟩:=g2.get j c hj
      exact⟨u,hu,hr.mono (Ext.refl (fun _=>False) _) (fun _ hb=>hb.elim) (fun b _ hb=>hM' b hb)⟩
   |hole es pre row post=>
    obtain⟨k0,k0',k1,b,T,cs,k3,k4,k5,k6,k7,k8,k9⟩:=hobj
    exact⟨k0,k0',k1,b,T,cs,k3,.inr ⟨n,_,hn,by unfold Loc.blk;rw[iA U,k3];rfl⟩,k5,k6,k7.stepB (Ext.refl (fun _=>False) _) (fun _ hb=>hb.elim) (fun b _ hb=>hM' b hb) rfl,k8.step (Ext.refl (fun _=>False) _) (fun _ hb=>hb.elim) (fun b _ hb=>hM' b hb) hstep (fun m _=>hnone m),k9.stepB (Ext.refl (fun _=>False) _) (fun _ hb=>hb.elim) (fun b _ hb=>hM' b hb) rfl⟩
   |fact a x=>exact⟨hobj.1,hobj.2.step (Ext.refl (fun _=>False) _) (fun _ hb=>hb.elim) (fun b _ hb=>hM' b hb) hstep (fun m _=>hnone m)⟩
   |obj x=>
    obtain⟨b,k1,k2,k3⟩:=hobj
    exact⟨b,k1,.inr ⟨n,_,hn,by rw[k1];simp[Loc.blk]⟩,k3⟩
  .rcases hs'.own0 n o b (h2 n o g1) g2 with⟨k1,k2⟩|k1
   .grind
   .exact .inr k1
  .exact hs'.ext.weaken (fun b _ ⟨n,k1,k2⟩=>by obtain⟨o',ho'⟩:=hsome n k1;exact⟨n,o',ho',k2⟩)
  .obtain⟨o1,k1,k2⟩:=hs'.keep n (Zu (by rw[hn];simp))
   cases hc:X n h' with
   |none=>exact absurd hc (h3 n (Zu (by rw[hn];simp)))
   |some o2=>
    grind
 rcases he with rfl|rfl
 .exact⟨hs'.d,hfin⟩
 .exact⟨hs'.d,hfin⟩
open Go
section
def TE.quiet(h:∀(Γ:Ctx) (ρ:Name->Loc) (M:Nat->Prop) (s:AS) (a:Act) (w:AG),Sim Γ ρ M s a w->s.holds ⟨rd,hp,v,[],[]⟩->∃u,(execOp a.eval o).run P w=.ok (.value u) w/\v.R ρ s.heap M w u):TE P o ⟨rd,hp,v,[],[]⟩:=by
 intro Γ ρ M s a w K Q hs hh hd hK
 obtain⟨u,h1,h2⟩:=h Γ ρ M s a w hs hh
 unfold Oper.wp
 rw[h1,Oper.upon_value]
 exact hK ρ M _ w ((hs.put hd (fun _=>h2)).congr (fun t=>rfl) (fun n=>rfl))
def TE.move(ho:o.op=.move x)(hx:Qi rd x=some v):TE P o ⟨rd,[],v,[],[]⟩:=
 TE.quiet fun Γ ρ M s a w hs hh=>⟨a.eval x,by simp[execOp,ho],Qj hs hh hx⟩
def TE.assign(ho:o.op=.assign x)(hx:Qi rd x=some v):TE P o ⟨rd,[],v,[],[]⟩:=
 TE.quiet fun Γ ρ M s a w hs hh=>⟨a.eval x,by simp[execOp,ho],Qj hs hh hx⟩
def QeR(hs:Sim Γ ρ M s a w)(hh:s.holds e)(h:Qi e.rd x=some (.p (.v c))):a.eval x=c:=by
 have:=Qj hs hh h
 simp only[AV.R,PV.R]at this
 exact this.1
def TE.pickT(ho:o.op=.pick c x y)(hc:Qi rd c=some (.p (.v (.bool true))))(hx:Qi rd x=some v):TE P o ⟨rd,[],v,[],[]⟩:=
 TE.quiet fun Γ ρ M s a w hs hh=>⟨a.eval x,by simp[execOp,ho,QeR hs hh hc,asBool],Qj hs hh hx⟩
def TE.pickF(ho:o.op=.pick c x y)(hc:Qi rd c=some (.p (.v (.bool false))))(hy:Qi rd y=some v):TE P o ⟨rd,[],v,[],[]⟩:=
 TE.quiet fun Γ ρ M s a w hs hh=>⟨a.eval y,by simp[execOp,ho,QeR hs hh hc,asBool],Qj hs hh hy⟩
def TE.bin(ho:o.op=.binOp op T x y T')(hx:Qi rd x=some (.p (.v c)))(hy:Qi rd y=some (.p (.v d)))(hg:eqGuard op T x y c d=pure ())(hr:∀w:AG,(binOp op T c d).run P w=.ok r w)(h1:r.oneCell'=true):TE P o ⟨rd,[],.p (.v r),[],[]⟩:=
 TE.quiet fun Γ ρ M s a w hs hh=>⟨r,by simp[execOp,ho,QeR hs hh hx,QeR hs hh hy,hg,hr],by simp only[AV.R,PV.R];exact⟨trivial,h1⟩⟩
section ints
def TE.add(ho:o.op=.binOp .add T x y T')(hx:Qi rd x=some (.p (.v (.int k a))))(hy:Qi rd y=some (.p (.v (.int k b))))(hr:k.wrap (a+b)=r):TE P o ⟨rd,[],.p (.v (.int k r)),[],[]⟩:=
 TE.bin ho hx hy rfl (fun w=>by simp[binOp,Op.intArith,hr]) rfl
def TE.sub(ho:o.op=.binOp .sub T x y T')(hx:Qi rd x=some (.p (.v (.int k a))))(hy:Qi rd y=some (.p (.v (.int k b))))(hr:k.wrap (a - b)=r):TE P o ⟨rd,[],.p (.v (.int k r)),[],[]⟩:=
 TE.bin ho hx hy rfl (fun w=>by simp[binOp,Op.intArith,hr]) rfl
def TE.mul(ho:o.op=.binOp .mul T x y T')(hx:Qi rd x=some (.p (.v (.int k a))))(hy:Qi rd y=some (.p (.v (.int k b))))(hr:k.wrap (a*b)=r):TE P o ⟨rd,[],.p (.v (.int k r)),[],[]⟩:=
 TE.bin ho hx hy rfl (fun w=>by simp[binOp,Op.intArith,hr]) rfl
def TE.quo(ho:o.op=.binOp .quo T x y T')(hx:Qi rd x=some (.p (.v (.int k a))))(hy:Qi rd y=some (.p (.v (.int k b))))(hb:b≠0)(hr:k.wrap (a.tdiv b)=r):TE P o ⟨rd,[],.p (.v (.int k r)),[],[]⟩:=
 TE.bin ho hx hy rfl (fun w=>by simp[binOp,Op.intDiv,hr,hb]) rfl
def TE.rem(ho:o.op=.binOp .rem T x y T')(hx:Qi rd x=some (.p (.v (.int k a))))(hy:Qi rd y=some (.p (.v (.int k b))))(hb:b≠0)(hr:a.tmod b=r):TE P o ⟨rd,[],.p (.v (.int k r)),[],[]⟩:=
 TE.bin ho hx hy rfl (fun w=>by simp[binOp,Op.intDiv,hr,hb]) rfl
def TE.shr{n:Nat}(ho:o.op=.binOp .shr T x y T')(hx:Qi rd x=some (.p (.v (.int k a))))(hy:Qi rd y=some (.p (.v (.int k b))))(hb:b=(n:Int)):TE P o ⟨rd,[],.p (.v (.int k (a.fdiv (2 ^ (min n k.bits))))),[],[]⟩:=
 TE.bin ho hx hy rfl (fun w=>by
   subst hb;have h:¬((n:Int)<0):=U
   simp[binOp,Op.shift,h]) rfl
def TE.lss(ho:o.op=.binOp .lss T x y T')(hx:Qi rd x=some (.p (.v (.int k a))))(hy:Qi rd y=some (.p (.v (.int k b))))(hr:decide (a<b)=q):TE P o ⟨rd,[],.p (.v (.bool q)),[],[]⟩:=
 TE.bin ho hx hy rfl (fun w=>by simp only[binOp,ne_eq,not_true_eq_false,if_false,Op.intCmp,hr];rfl) rfl
def TE.leq(ho:o.op=.binOp .leq T x y T')(hx:Qi rd x=some (.p (.v (.int k a))))(hy:Qi rd y=some (.p (.v (.int k b))))(hr:decide (a<=b)=q):TE P o ⟨rd,[],.p (.v (.bool q)),[],[]⟩:=
 TE.bin ho hx hy rfl (fun w=>by simp only[binOp,ne_eq,not_true_eq_false,if_false,Op.intCmp,hr];rfl) rfl
def TE.gtr(ho:o.op=.binOp .gtr T x y T')(hx:Qi rd x=some (.p (.v (.int k a))))(hy:Qi rd y=some (.p (.v (.int k b))))(hr:decide (b<a)=q):TE P o ⟨rd,[],.p (.v (.bool q)),[],[]⟩:=
 TE.bin ho hx hy rfl (fun w=>by simp only[binOp,ne_eq,not_true_eq_false,if_false,Op.intCmp,gt_iff_lt,hr];rfl) rfl
def TE.geq(ho:o.op=.binOp .geq T x y T')(hx:Qi rd x=some (.p (.v (.int k a))))(hy:Qi rd y=some (.p (.v (.int k b))))(hr:decide (b<=a)=q):TE P o ⟨rd,[],.p (.v (.bool q)),[],[]⟩:=
 TE.bin ho hx hy rfl (fun w=>by simp only[binOp,ne_eq,not_true_eq_false,if_false,Op.intCmp,ge_iff_le,hr];rfl) rfl
def TE.eqlI(ho:o.op=.binOp .eql T x y T')(hx:Qi rd x=some (.p (.v (.int k a))))(hy:Qi rd y=some (.p (.v (.int k b))))(hr:decide (a=b)=q):TE P o ⟨rd,[],.p (.v (.bool q)),[],[]⟩:=
 TE.bin ho hx hy (eqGuard_at_int ..) (fun w=>by rw[<-hr];simp only[binOp,ne_eq,not_true_eq_false,if_false,Op.intCmp];rfl) rfl
def TE.neqI(ho:o.op=.binOp .neq T x y T')(hx:Qi rd x=some (.p (.v (.int k a))))(hy:Qi rd y=some (.p (.v (.int k b))))(hr:decide (a≠b)=q):TE P o ⟨rd,[],.p (.v (.bool q)),[],[]⟩:=
 TE.bin ho hx hy (eqGuard_at_int ..) (fun w=>by rw[<-hr];simp only[binOp,ne_eq,not_true_eq_false,if_false,Op.intCmp,decide_not,bne];rfl) rfl
def TE.not(ho:o.op=.unOp .not T x)(hx:Qi rd x=some (.p (.v (.bool b))))(hr:(!b)=q):TE P o ⟨rd,[],.p (.v (.bool q)),[],[]⟩:=
 TE.quiet fun Γ ρ M s a w hs hh=>⟨.bool q,by simp[execOp,ho,QeR hs hh hx,Op.unary,hr],by simp only[AV.R,PV.R];exact⟨trivial,rfl⟩⟩
def TE.neg(ho:o.op=.unOp .neg T x)(hx:Qi rd x=some (.p (.v (.int k a))))(hr:k.wrap (0 - a)=r):TE P o ⟨rd,[],.p (.v (.int k r)),[],[]⟩:=
 TE.quiet fun Γ ρ M s a w hs hh=>⟨.int k r,by simp only[execOp,ho,QeR hs hh hx,Op.unary,Op.intArith,hr];rfl,by simp only[AV.R,PV.R];exact⟨trivial,rfl⟩⟩
end ints
def QbD(P:AF)(zI:AD)(i:Nat):I Nat:=
 match P.underlying zI with
 |some (.struct fields)=>match fields[i]? with
  |some f=>match Zl P f.type with
   |some (_+1)=>some f.offset
   |_=>none
  |none=>none
 |_=>none
def Qh3(h:QbD P zI i=some fo)(b k)(w):
  (Instr.fieldAt zI (.pointer (some ⟨b,k,none⟩)) i).run P w=.ok (.pointer (some ⟨b,k+fo,none⟩)) w:=by
 unfold QbD at h
 cases hu:P.underlying zI with
 |none=>simp[hu]at h
 |some d=>
  cases d with
  |struct fields=>
   simp only[hu]at h
   cases hf:fields[i]? with
   |none=>simp[hf]at h
   |some f=>
    simp only[hf]at h
    cases hz:Zl P f.type with
    |none=>simp[hz]at h
    |some z=>
     cases z with
     |zero=>simp[hz]at h
     |succ z=>
      simp only[hz,AP]at h
      subst h
      simp[Instr.fieldAt,run_underlying hu,hf,Instr.sureAddr,fieldPlace,run_sizeOf hz,Zr]
  |_=>simp[hu]at h
def TE.fieldRef(ho:o.op=.fieldAddr zI x i)(hx:Qi rd x=some (.TM n k))(hf:QbD P zI i=some fo)(hk:k+fo=k'):
  TE P o ⟨rd,[(n,.box cells)],.TM n k',[],[]⟩:=
 TE.quiet fun Γ ρ M s a w hs hh=>by
  subst hk
  have hr:=Qj hs hh hx
  simp only[AV.R]at hr
  obtain⟨b,hb,hu⟩:=hr.2 cells (hh.hp n _ Ob)
  refine⟨.pointer (some ⟨b,k+fo,none⟩),by simp[execOp,ho,hu,Qh3 hf],?_⟩
  simp only[AV.R]
  exact⟨rfl,fun _ _=>⟨b,hb,rfl⟩⟩
def TE.fieldPtr{cells sub:Y PV}(ho:o.op=.fieldAddr zI x i)(hx:Qi rd x=some (.eptr cells))(hf:QbD P zI i=some fo)(hsub:cells.drop fo=sub):
  TE P o ⟨rd,[],.eptr sub,[],[]⟩:=
 TE.quiet fun Γ ρ M s a w hs hh=>by
  have hr:=Qj hs hh hx
  simp only[AV.R]at hr
  obtain⟨⟨b,off,spot⟩,hu,hsp,hM,hlt,hc⟩:=hr
  simp only at hsp;subst hsp
  refine⟨.pointer (some ⟨b,off+fo,none⟩),by simp[execOp,ho,hu,Qh3 hf],?_⟩
  simp only[AV.R]
  exact⟨_,rfl,rfl,hM,hlt,by rw[<-hsub];exact hc.drop fo⟩
def TE.fieldElemSh(ho:o.op=.fieldAddr zI x i)(hx:Qi rd x=some (.aref n len j k))(hf:QbD P zI i=some fo)(hk:k+fo=k')(hsh:ob.shape=some (es,kk))(hl:Nat.beq len kk=true):
  TE P o ⟨rd,[(n,ob)],.aref n len j k',[],[]⟩:=
 TE.quiet fun Γ ρ M s a w hs hh=>by
  subst hk
  have hr:=Qj hs hh hx
  simp only[AV.R]at hr
  have hl':=nbe hl
  have hn:=hh.hp n _ (by simp:(n,ob)∈_)
  obtain⟨h1,h2⟩:=hr.2 ob es kk hn hsh
  obtain⟨b,hb,hu⟩:=h2 hl'
  refine⟨.pointer (some ⟨b,j*es+(k+fo),none⟩),by simp[execOp,ho,hu,Qh3 hf,B6],?_⟩
  simp only[AV.R]
  refine⟨rfl,fun o' es' k' hc hs'=>?_⟩
  rw[hn]at hc;cases hc
  rw[hsh]at hs';cases hs'
  exact⟨h1,fun _=>⟨b,hb,rfl⟩⟩
def TE.fieldElem(ho:o.op=.fieldAddr zI x i)(hx:Qi rd x=some (.aref n len j k))(hf:QbD P zI i=some fo)(hk:k+fo=k')(hl:Nat.beq len rows.length=true):
  TE P o ⟨rd,[(n,.TI es rows)],.aref n len j k',[],[]⟩:=TE.fieldElemSh ho hx hf hk rfl hl
def TE.nilCheckRef(ho:o.op=.nilCheck x)(hx:Qi rd x=some (.TM n k)):TE P o ⟨rd,[(n,.box cells)],.TM n k,[],[]⟩:=
 TE.quiet fun Γ ρ M s a w hs hh=>by
  have hr:=Qj hs hh hx
  have hr':=hr
  simp only[AV.R]at hr'
  obtain⟨b,hb,hu⟩:=hr'.2 cells (hh.hp n _ Ob)
  exact⟨.pointer (some ⟨b,k,none⟩),by simp[execOp,ho,hu],by rw[<-hu];exact hr⟩
def TE.nilCheckPtr(ho:o.op=.nilCheck x)(hx:Qi rd x=some (.eptr cells)):TE P o ⟨rd,[],.eptr cells,[],[]⟩:=
 TE.quiet fun Γ ρ M s a w hs hh=>by
  have hr:=Qj hs hh hx
  have hr':=hr
  simp only[AV.R]at hr'
  obtain⟨ad,hu,_⟩:=hr'
  exact⟨.pointer (some ad),by simp[execOp,ho,hu],by rw[<-hu];exact hr⟩
def TE.nilCheckSh(ho:o.op=.nilCheck x)(hx:Qi rd x=some (.aref n len j k))(hsh:ob.shape=some (es,kk))(hl:Nat.beq len kk=true):TE P o ⟨rd,[(n,ob)],.aref n len j k,[],[]⟩:=
 TE.quiet fun Γ ρ M s a w hs hh=>by
  have hr:=Qj hs hh hx
  have hr':=hr
  simp only[AV.R]at hr'
  obtain⟨b,hb,hu⟩:=(hr'.2 ob es kk (hh.hp n _ Ob) hsh).2 (nbe hl)
  exact⟨.pointer (some ⟨b,j*es+k,none⟩),by simp[execOp,ho,hu],by rw[<-hu];exact hr⟩
def TE.nilCheckElem(ho:o.op=.nilCheck x)(hx:Qi rd x=some (.aref n len j k))(hl:Nat.beq len rows.length=true):TE P o ⟨rd,[(n,.TI es rows)],.aref n len j k,[],[]⟩:=
 TE.nilCheckSh ho hx rfl hl
def TE.loadBoxAgg{cells sub:Y AV}(ho:o.op=.load T x)(hx:Qi rd x=some (.TM n k))(hT:aggT P T=true)(hz:Zl P T=some z)(hsub:(cells.drop k).take z=sub)(hl:sub.length=z):TE P o ⟨rd,[(n,.box cells)],.agg sub,[],[]⟩:=
 TE.quiet fun Γ ρ M s a w hs hh=>by
  have hr:=Qj hs hh hx
  simp only[AV.R]at hr
  have hn:=hh.hp n _ (by simp:(n,AO.box cells)∈_)
  obtain⟨b,hb,hu⟩:=hr.2 cells hn
  obtain⟨b',us,g1,g2,g3⟩:=Qlp (hs.objs n _ hn)
  have e:b'=b:=by rw[g1]at hb;simpa using hb
  subst e
  have g4:=(g2.drop k).take z
  rw[hsub]at g4
  refine⟨.agg ((us.drop k).take z).toArray,?_,by simp only[AV.R];exact⟨_,rfl,by simpa using g4⟩⟩
  have:=U9 (P:=P) (w:=w) (a:=⟨b',k,none⟩) (us:=(us.drop k).take z) hT (by rw[hz,g4.length,hl]) (fun j v hj=>by
   rw[Zr]
   refine g3 (k+j) v ?_
   rw[Ar]at hj
   split at hj
   .simpa using hj
   .simp at hj)
  simp[execOp,ho,hu,Instr.loadAt,Instr.sureAddr,this]
def TE.loadBox(ho:o.op=.load T x)(hx:Qi rd x=some (.TM n k))(hT:Qcy P T=true)(hc:cells[k]?=some c):TE P o ⟨rd,[(n,.box cells)],c,[],[]⟩:=
 TE.quiet fun Γ ρ M s a w hs hh=>by
  have hr:=Qj hs hh hx
  simp only[AV.R]at hr
  have hn:=hh.hp n _ (by simp:(n,AO.box cells)∈_)
  obtain⟨b,hb,hu⟩:=hr.2 cells hn
  obtain⟨b',us,g1,g2,g3⟩:=Qlp (hs.objs n _ hn)
  have e:b'=b:=by rw[g1]at hb;simpa using hb
  subst e
  obtain⟨u,k1,k2,k3⟩:=g2.get k c hc
  exact⟨u,by simp[execOp,ho,hu,Instr.loadAt,Instr.sureAddr,WC hT (g3 k u k1)],k3⟩
def TE.loadPtrAgg{cells sub:Y PV}(ho:o.op=.load T x)(hx:Qi rd x=some (.eptr cells))(hT:aggT P T=true)(hz:Zl P T=some z)(hsub:cells.take z=sub)(hl:sub.length=z)(hs':pcells sub=sub'):TE P o ⟨rd,[],.agg sub',[],[]⟩:=
 TE.quiet fun Γ ρ M s a w hs hh=>by
  subst hs'
  have hr:=Qj hs hh hx
  simp only[AV.R]at hr
  obtain⟨⟨b,off,spot⟩,hu,hsp,hM,hlt,hc⟩:=hr
  simp only at hsp;subst hsp
  have hc':=hc.take z
  rw[hsub]at hc'
  obtain⟨us,g1,g2⟩:=Qb2 (ρ:=ρ) (H:=s.heap) hc'
  refine⟨.agg us.toArray,?_,by simp only[AV.R];exact⟨_,rfl,by simpa using g1⟩⟩
  have:=U9 (P:=P) (w:=w) (a:=⟨b,off,none⟩) (us:=us) hT (by rw[hz,g1.length];simp[pcells,hl]) (fun j v hj=>by rw[Zr];exact g2 j v hj)
  simp[execOp,ho,hu,Instr.loadAt,Instr.sureAddr,this]
def TE.loadPtr(ho:o.op=.load T x)(hx:Qi rd x=some (.eptr cells))(hT:Qcy P T=true)(hc0:cells[0]?=some c):TE P o ⟨rd,[],.p c,[],[]⟩:=
 TE.quiet fun Γ ρ M s a w hs hh=>by
  have hr:=Qj hs hh hx
  simp only[AV.R]at hr
  obtain⟨⟨b,off,spot⟩,hu,hsp,hM,hlt,hc⟩:=hr
  simp only at hsp;subst hsp
  obtain⟨u,k1,k2⟩:=hc.get 0 c hc0
  simp only[CK]at k1
  exact⟨u,by simp[execOp,ho,hu,Instr.loadAt,Instr.sureAddr,WC hT k1],by simpa only[AV.R]using k2⟩
def QvN(h:Qah ρ H M w n (.TI es rows))(hb:(ρ n).base=some ⟨b,0,none⟩)(hi:rows[i]?=some row):
  row.length=es/\PV.Cells M w b (i*es) row:=by
 obtain⟨h0,h1,h2⟩:=h
 have hlt:i<rows.length:=by
  grind
 rcases h2 with h2|⟨b',T,cs,h3,h4,h5,h6,h7⟩
 .omega
 .rw[hb]at h3
  simp at h3;subst h3
  have:=h7.get i row hi
  simpa using this
def TE.loadElemAgg{row sub:Y PV}(ho:o.op=.load T x)(hx:Qi rd x=some (.aref n len i k))(hT:aggT P T=true)(hz:Zl P T=some z)(hlen:Nat.beq len rows.length=true)(hi:rows[i]?=some row)(hsub:(row.drop k).take z=sub)(hl:sub.length=z)(hs':pcells sub=sub'):TE P o ⟨rd,[(n,.TI es rows)],.agg sub',[],[]⟩:=
 TE.quiet fun Γ ρ M s a w hs hh=>by
  subst hs'
  have hr:=Qj hs hh hx
  simp only[AV.R]at hr
  have hn:=hh.hp n _ (by simp:(n,AO.TI es rows)∈_)
  obtain⟨b,hb,hu⟩:=(hr.2 _ es rows.length hn rfl).2 (nbe hlen)
  obtain⟨_,hc⟩:=QvN (hs.objs n _ hn) hb hi
  have hc':=(hc.drop k).take z
  rw[hsub]at hc'
  obtain⟨us,g1,g2⟩:=Qb2 (ρ:=ρ) (H:=s.heap) hc'
  refine⟨.agg us.toArray,?_,by simp only[AV.R];exact⟨_,rfl,by simpa using g1⟩⟩
  have:=U9 (P:=P) (w:=w) (a:=⟨b,i*es+k,none⟩) (us:=us) hT (by rw[hz,g1.length];simp[pcells,hl]) (fun j v hj=>by rw[Zr];exact g2 j v hj)
  simp[execOp,ho,hu,Instr.loadAt,Instr.sureAddr,this]
def TE.loadElem(ho:o.op=.load T x)(hx:Qi rd x=some (.aref n len i k))(hT:Qcy P T=true)(hlen:Nat.beq len rows.length=true)(hi:rows[i]?=some row)(hc0:row[k]?=some c):TE P o ⟨rd,[(n,.TI es rows)],.p c,[],[]⟩:=
 TE.quiet fun Γ ρ M s a w hs hh=>by
  have hr:=Qj hs hh hx
  simp only[AV.R]at hr
  have hn:=hh.hp n _ (by simp:(n,AO.TI es rows)∈_)
  obtain⟨b,hb,hu⟩:=(hr.2 _ es rows.length hn rfl).2 (nbe hlen)
  obtain⟨_,hc⟩:=QvN (hs.objs n _ hn) hb hi
  obtain⟨u,k1,k2⟩:=hc.get k c hc0
  exact⟨u,by simp[execOp,ho,hu,Instr.loadAt,Instr.sureAddr,WC hT k1],by simpa only[AV.R]using k2⟩
def QyS(h:Qah ρ H M w n (.hole es pre row post))(hb:(ρ n).base=some ⟨b,0,none⟩):
  ∃us:Y AE,AV.Rs ρ H M w row us/\∀j v,us[j]?=some v->w.cell? ⟨b,pre.length*es+j,none⟩=some v:=by
 obtain⟨h0,h0',h1,b',T,cs,h3,h4,h5,h6,h7,h8,h9⟩:=h
 rw[hb]at h3;cases h3
 refine⟨_,h8,fun j v hj=>?_⟩
 have hl:=h8.length
 have hjl:j<es:=by
  grind
 rw[Ar,iB hjl,Ap]at hj
 unfold World.cell?
 simp_all
def TE.loadHole(ho:o.op=.load T x)(hx:Qi rd x=some (.aref n len i k))(hT:Qcy P T=true)(hlen:Nat.beq len (pre.length+1+post.length)=true)(hi:i=pre.length)(hc0:row[k]?=some c):TE P o ⟨rd,[(n,.hole es pre row post)],c,[],[]⟩:=
 TE.quiet fun Γ ρ M s a w hs hh=>by
  have hr:=Qj hs hh hx
  simp only[AV.R]at hr
  have hn:=hh.hp n _ (by simp:(n,AO.hole es pre row post)∈_)
  obtain⟨b,hb,hu⟩:=(hr.2 _ es _ hn rfl).2 (nbe hlen)
  obtain⟨us,g1,g2⟩:=QyS (hs.objs n _ hn) hb
  subst hi
  obtain⟨u,k1,k2,k3⟩:=g1.get k c hc0
  have k4:=g2 k u k1
  exact⟨u,by simp[execOp,ho,hu,Instr.loadAt,Instr.sureAddr,WC hT k4],k3⟩
def W9(P:AF)(T:AD):I AD:=match P.underlying T with|some (.slice e)=>some e|_=>none
def Qq(h:W9 P T=some e):P.underlying T=some (.slice e):=by
 unfold W9 at h
 grind
def TE.indexP{es i:Nat}(ho:o.op=.indexAddr T x y)(hT:W9 P T=some e)(hz:Zl P e=some es)(hx:Qi rd x=some (.p (.sl f es rows)))(hy:Qi rd y=some (.p (.v (.int k j))))(hj:j=(i:Int))(hi:rows[i]?=some row):TE P o ⟨rd,[],.eptr row,[],[]⟩:=
 TE.quiet fun Γ ρ M s a w hs hh=>by
  have hr:=Qj hs hh hx
  simp only[AV.R,PV.R]at hr
  obtain⟨ad,cap,hu,h2,h3,h4,h5⟩:=hr
  have hlt:i<rows.length:=by
   grind
  cases ad with
  |none=>have:=h4 rfl;omega
  |some ad=>
   obtain⟨g1,g2,g3,g4⟩:=h5 ad rfl U
   obtain⟨b,off,spot⟩:=ad
   simp only at g1;subst g1
   refine⟨.pointer (some ⟨b,off+i*es,none⟩),?_,?_⟩
   .simp[execOp,ho,hu,QeR hs hh hy,Instr.indexAt,asIntOf,run_underlying (Qq hT),hj,hlt,run_sizeOf hz,Zr]
   .simp only[AV.R]
    exact⟨_,rfl,rfl,g2,g3,(g4.get i row hi).2⟩
def TE.indexOwn{len es i:Nat}(ho:o.op=.indexAddr T x y)(hT:W9 P T=some e)(hz:Zl P e=some es)(hx:Qi rd x=some (.own n len))(hlen:Nat.beq len rows.length=true)(hy:Qi rd y=some (.p (.v (.int k j))))(hj:j=(i:Int))(hi:i<rows.length):TE P o ⟨rd,[(n,.TI es rows)],.aref n len i 0,[],[]⟩:=
 TE.quiet fun Γ ρ M s a w hs hh=>by
  have hr:=Qj hs hh hx
  simp only[AV.R]at hr
  have hn:=hh.hp n _ (by simp:(n,AO.TI es rows)∈_)
  have hle:=nbe hlen
  have hu:=(hr.2 _ es rows.length hn rfl).2 hle
  obtain⟨h0,h1,h2⟩:=hs.objs n _ hn
  rcases h2 with h2|⟨b,T',cs,h3,h4,h5,h6,h7⟩
  .omega
  .refine⟨.pointer (some ⟨b,i*es,none⟩),?_,?_⟩
   .simp[execOp,ho,hu,h3,QeR hs hh hy,Instr.indexAt,asIntOf,run_underlying (Qq hT),hj,hle,hi,run_sizeOf hz,Zr]
   .simp only[AV.R]
    refine⟨rfl,fun o' es' k' hc hs'=>?_⟩
    rw[hn]at hc;cases hc
    cases hs'
    exact⟨U,fun _=>⟨b,h3,Ob⟩⟩
def TE.indexHole{len es i:Nat}(ho:o.op=.indexAddr T x y)(hT:W9 P T=some e)(hz:Zl P e=some es)(hx:Qi rd x=some (.own n len))(hlen:Nat.beq len (pre.length+1+post.length)=true)(hy:Qi rd y=some (.p (.v (.int k j))))(hj:j=(i:Int))(hi:i<pre.length+1+post.length):TE P o ⟨rd,[(n,.hole es pre row post)],.aref n len i 0,[],[]⟩:=
 TE.quiet fun Γ ρ M s a w hs hh=>by
  have hr:=Qj hs hh hx
  simp only[AV.R]at hr
  have hn:=hh.hp n _ (by simp:(n,AO.hole es pre row post)∈_)
  have hle:=nbe hlen
  have hu:=(hr.2 _ es _ hn rfl).2 hle
  obtain⟨h0,h0',h1,b,T',cs,h3,h4,h5,h6,h7⟩:=hs.objs n _ hn
  refine⟨.pointer (some ⟨b,i*es,none⟩),?_,?_⟩
  .simp[execOp,ho,hu,h3,QeR hs hh hy,Instr.indexAt,asIntOf,run_underlying (Qq hT),hj,hle,hi,run_sizeOf hz,Zr]
  .simp only[AV.R]
   refine⟨rfl,fun o' es' k' hc hs'=>?_⟩
   rw[hn]at hc;cases hc
   cases hs'
   exact⟨U,fun _=>⟨b,h3,Ob⟩⟩
def TE.lenP(ho:o.op=.call { callee:=.builtin .len,args:=#[x],argTypes:=ats })(hat:ats[0]?=some T)(hT:W9 P T=some e)(hx:Qi rd x=some (.p (.sl f es rows)))(hr:(rows.length:Int)=r):TE P o ⟨rd,[],.p (.v (.int .i64 r)),[],[]⟩:=
 TE.quiet fun Γ ρ M s a w hs hh=>by
  have hr':=Qj hs hh hx
  simp only[AV.R,PV.R]at hr'
  obtain⟨ad,cap,hu,h2,h3,h4,h5⟩:=hr'
  refine⟨.int .i64 r,?_,by simp only[AV.R,PV.R];exact⟨trivial,rfl⟩⟩
  simp[execOp,ho,resolve,invoke,builtin,Builtin.len_,hat,hu,run_underlying (Qq hT),goInt,hr]
def TE.lenOwn(ho:o.op=.call { callee:=.builtin .len,args:=#[x],argTypes:=ats })(hat:ats[0]?=some T)(hT:W9 P T=some e)(hx:Qi rd x=some (.own n len))(hlen:Nat.beq len rows.length=true)(hr:(rows.length:Int)=r):TE P o ⟨rd,[(n,.TI es rows)],.p (.v (.int .i64 r)),[],[]⟩:=
 TE.quiet fun Γ ρ M s a w hs hh=>by
  have hr':=Qj hs hh hx
  simp only[AV.R]at hr'
  have hle:=nbe hlen
  have hu:=(hr'.2 (.TI es rows) es rows.length (hh.hp n _ Ob) rfl).2 hle
  refine⟨.int .i64 r,?_,by simp only[AV.R,PV.R];exact⟨trivial,rfl⟩⟩
  simp[execOp,ho,resolve,invoke,builtin,Builtin.len_,hat,hu,run_underlying (Qq hT),goInt,hle,hr]
def TE.lenHole(ho:o.op=.call { callee:=.builtin .len,args:=#[x],argTypes:=ats })(hat:ats[0]?=some T)(hT:W9 P T=some e)(hx:Qi rd x=some (.own n len))(hlen:Nat.beq len (pre.length+1+post.length)=true)(hr:((len:Nat):Int)=r):TE P o ⟨rd,[(n,.hole es pre row post)],.p (.v (.int .i64 r)),[],[]⟩:=
 TE.quiet fun Γ ρ M s a w hs hh=>by
  have hr':=Qj hs hh hx
  simp only[AV.R]at hr'
  have hle:=nbe hlen
  have hu:=(hr'.2 (.hole es pre row post) es _ (hh.hp n _ Ob) rfl).2 hle
  refine⟨.int .i64 r,?_,by simp only[AV.R,PV.R];exact⟨trivial,rfl⟩⟩
  simp[execOp,ho,resolve,invoke,builtin,Builtin.len_,hat,hu,run_underlying (Qq hT),goInt,hr]
def TE.extract(ho:o.op=.extract x i)(hx:Qi rd x=some (.tup vs))(hv:vs[i]?=some v):TE P o ⟨rd,[],v,[],[]⟩:=
 TE.quiet fun Γ ρ M s a w hs hh=>by
  have hr:=Qj hs hh hx
  simp only[AV.R]at hr
  obtain⟨us,hu,h2⟩:=hr
  obtain⟨u,g1,g2⟩:=h2.get.2 i v hv
  have g3:us[i]?=some u:=by simpa using g1
  refine⟨u,?_,g2⟩
  simp only[execOp,ho,hu,Instr.extract]
  simp[g3]
end
def Ext.alloc(w)(o):Ext (fun _=>False) w (w.alloc o):=
 ⟨Ob,fun b hb _=>by
  show(w.heap.push o)[b]?=w.heap[b]?
  rw[Array.getElem?_push,iA (Nat.ne_of_lt hb)],rfl,rfl⟩
def Ext.drew(w):Ext (fun _=>False) w w.drew:=⟨AN _,fun _ _ _=>rfl,rfl,rfl⟩
def Yt(w:AG)(o:Obj):(w.alloc o).heap[w.heap.size]?=some o:=by
 show(w.heap.push o)[w.heap.size]?=some o
 simp
def ZV:AV->I (Y AV)
 |.agg cs=>some cs
 |.tup _=>none
 |x=>some [x]
section
def QuB{u:AE}(h:u.oneCell'=true):u.cells=#[u]:=by cases u<;>first|rfl|(simp[Value.oneCell']at h)
def Qb6(h:ZV x=some cs)(hr:x.R ρ H M w u):AV.Rs ρ H M w cs u.cells.toList:=by
 have single:∀y:AV,y.R ρ H M w u->u.oneCell'=true->AV.Rs ρ H M w [y] u.cells.toList:=fun y hy h1=>by
  rw[QuB h1];simp only[AV.Rs];exact⟨u,[],rfl,h1,hy,rfl⟩
 cases x with
 |agg cs'=>simp only[ZV,AP]at h;subst h;simp only[AV.R]at hr;obtain⟨us,rfl,h2⟩:=hr;exact h2
 |tup vs=>simp[ZV]at h
 |p y=>simp only[ZV,AP]at h;subst h;exact single _ hr (by simp only[AV.R]at hr;exact hr.flat)
 |TM n k=>simp only[ZV,AP]at h;subst h;exact single _ hr (by simp only[AV.R]at hr;exact hr.1)
 |own n k=>simp only[ZV,AP]at h;subst h;exact single _ hr (by simp only[AV.R]at hr;exact hr.1)
 |aref n a b c=>simp only[ZV,AP]at h;subst h;exact single _ hr (by simp only[AV.R]at hr;exact hr.1)
 |view n a b c=>simp only[ZV,AP]at h;subst h;exact single _ hr (by simp only[AV.R]at hr;exact hr.1)
 |cut n a b=>simp only[ZV,AP]at h;subst h;exact single _ hr (by simp only[AV.R]at hr;exact hr.1)
 |eptr cells=>simp only[ZV,AP]at h;subst h;exact single _ hr (by simp only[AV.R]at hr;obtain⟨ad,rfl,_⟩:=hr;rfl)
 |clo f a b=>simp only[ZV,AP]at h;subst h;exact single _ hr (by simp only[AV.R]at hr;obtain⟨a,c,rfl,_⟩:=hr;rfl)
 |oref b n=>simp only[ZV,AP]at h;subst h;exact single _ hr (by simp only[AV.R]at hr;exact hr.1)
 |err b=>simp only[ZV,AP]at h;subst h;exact single _ hr (by simp only[AV.R]at hr;exact hr.1)
 |ub=>simp only[ZV,AP]at h;subst h;exact single _ hr (by simp only[AV.R]at hr;obtain⟨q,rfl⟩:=hr;rfl)
 |any=>simp only[ZV,AP]at h;subst h;exact single _ hr (by simpa only[AV.R]using hr)
def QuC(h:ZV x=some cs)(hn:x.has n=false):AV.hasL n cs=false:=by
 cases x<;>simp only[ZV,AP,reduceCtorEq]at h<;>subst h<;>simp_all [AV.has,AV.hasL]
end
def QwK(h:Qfp c=some x)(n):x.has n=false:=by
 have hc:∀c:AE,(YJ c).has n=false:=fun c=>by unfold YJ;split<;>rfl
 have hcs:∀l:Y AE,AV.hasL n (l.map YJ)=false:=fun l=>by
  induction l with
  |nil=>rfl
  |cons y l ih=>simp[AV.hasL,hc,ih]
 unfold Qfp at h
 split at h
 .split at h
  .cases h;simp only[AV.has];exact hcs _
  .simp at h
 .grind
def Quy{s:AS}(hh:s.holds e)(h:Qi e.rd x=some y)(hn:s.free n):y.has n=false:=by
 cases x with
 |tmp t=>exact hn.1 t y (hh.rd t y (Q5 h))
 |const c=>exact QwK h n
 |global g=>simp only[Qi,AP]at h;subst h;rfl
 |func f=>simp only[Qi,AP]at h;subst h;rfl
def Sim.mkBox(h:Sim Γ ρ M s a w){n:Name}(hn:s.heap n=none)(hf:s.free n)(hr:AV.Rs ρ s.heap M w cells us)(hc:AV.hasL n cells=false)(T):
  Sim Γ (fun m=>if m=n then⟨some ⟨w.heap.size,0,none⟩,1⟩else ρ m) (fun b=>M b\/b=w.heap.size) ⟨s.slot,fun m=>if m=n then some (.box cells)else s.heap m⟩ a (w.alloc (.cells us.toArray T)):=by
 have he:=Ext.alloc w (.cells us.toArray T)
 refine h.update1 (he.weaken fun _ _ hb=>hb.elim) (fun b hb=>.inl hb) (fun b hb=>hb.imp id (fun e=>U)) (fun b hb=>?_) (fun o' ho'=>by rw[hn]at ho';simp at ho') (fun _=>hf) ?_ (fun b hb=>.inr ?_)
 .rcases hb with hb|hb
  .have:=h.msize b hb;simp;omega
  .simp[hb]
 .refine⟨w.heap.size,T,us.toArray,Ob,.inr rfl,Yt w _,?_⟩
  refine AV.Rs.step (B:=fun _=>False) he (fun _ hb=>hb.elim) (fun b hb hb'=>hb'.resolve_right U) (fun m o hm=>?_) (fun m hm hmn=>?_) (by simpa using hr)
  .by_cases e:m=n
   .simp_all
   .simp only[e,if_false,hm];exact Zj _ _
  .grind
 .simp[Loc.blk]at hb;omega
section
def Qhs(P:AF)(T:AD):I (Y AV):=match P.info? T with
 |some i=>match i.zero with
  |some z=>if z.cells.toList.all (fun c=>c.oneCell')then some (z.cells.toList.map YJ)else none
  |none=>none
 |none=>none
def Ui(h:Qhs P T=some cs):∃i z,P.info? T=some i/\i.zero=some z/\(∀c∈z.cells.toList,c.oneCell'=true)/\cs=z.cells.toList.map YJ:=by
 unfold Qhs at h
 grind
def YR(hi:P.info? T=some i)(hz:i.zero=some z)(w):(zeroValue T).run P w=.ok z w:=by
 simp[zeroValue,typeInfo,hi,hz]
def Qsl(n:Name)(l:Y AE):AV.hasL n (l.map YJ)=false:=by
 have hc:∀c:AE,(YJ c).has n=false:=fun c=>by unfold YJ;split<;>rfl
 induction l with
 |nil=>rfl
 |cons y l ih=>simp[AV.hasL,hc,ih]
def TE.mk(h:∀(Γ:Ctx) (ρ:Name->Loc) (M:Nat->Prop) (s:AS) (a:Act) (w:AG),Sim Γ ρ M s a w->s.holds ⟨rd,hp,v,[(n,ob)],[n]⟩->∃u w' ρ' M',(execOp a.eval o).run P w=.ok (.value u) w'/\
   Sim Γ ρ' M' ⟨s.slot,fun m=>if m=n then some ob else s.heap m⟩ a w'/\v.R ρ' (fun m=>if m=n then some ob else s.heap m) M' w' u):TE P o ⟨rd,hp,v,[(n,ob)],[n]⟩:=by
 intro Γ ρ M s a w K Q hs hh hd hK
 obtain⟨u,w',ρ',M',h1,h2,h3⟩:=h Γ ρ M s a w hs hh
 unfold Oper.wp
 rw[h1,Oper.upon_value]
 refine hK ρ' M' _ w' ((h2.put hd (fun _=>h3)).congr (fun t=>rfl) (fun m=>?_))
 simp only[AS.run,AS.set,X]
 grind
def TE.alloc(ho:o.op=.alloc T)(hz:Qhs P T=some cs):TE P o ⟨rd,[],.TM n 0,[(n,.box cs)],[n]⟩:=
 TE.mk fun Γ ρ M s a w hs hh=>by
  obtain⟨i,z,hi,hz',hall,rfl⟩:=Ui hz
  obtain⟨hn,hf⟩:=hh.nw n Ob
  refine⟨.pointer (some ⟨w.heap.size,0,none⟩),w.alloc (.cells z.cells T),_,_,?_,hs.mkBox hn hf (Xq hall) (Qsl n _) T,?_⟩
  .simp[execOp,ho,Instr.alloc,YR hi hz',newVar,newRow]
  .simp only[AV.R];exact⟨rfl,fun _ _=>⟨w.heap.size,Ob,rfl⟩⟩
def TE.box(ho:o.op=.box T x)(hx:Qi rd x=some v)(hc:ZV v=some cs):TE P o ⟨rd,[],.TM n 0,[(n,.box cs)],[n]⟩:=
 TE.mk fun Γ ρ M s a w hs hh=>by
  obtain⟨hn,hf⟩:=hh.nw n Ob
  have hr:=Qb6 hc (Qj hs hh hx)
  refine⟨.pointer (some ⟨w.heap.size,0,none⟩),w.alloc (.cells (a.eval x).cells T),_,_,?_,hs.mkBox hn hf hr (QuC hc (Quy hh hx hf)) T,?_⟩
  .simp[execOp,ho,Instr.box,newVar,newRow]
  .simp only[AV.R];exact⟨rfl,fun _ _=>⟨w.heap.size,Ob,rfl⟩⟩
def TE.wr(hdst:o.dst=none)(h:∀(Γ:Ctx) (ρ:Name->Loc) (M:Nat->Prop) (s:AS) (a:Act) (w:AG),Sim Γ ρ M s a w->s.holds ⟨rd,hp,.any,[(n,ob)],[]⟩->∃w' ρ' M',(execOp a.eval o).run P w=.ok .skip w'/\
   Sim Γ ρ' M' ⟨s.slot,fun m=>if m=n then some ob else s.heap m⟩ a w'):TE P o ⟨rd,hp,.any,[(n,ob)],[]⟩:=by
 intro Γ ρ M s a w K Q hs hh hd hK
 obtain⟨w',ρ',M',h1,h2⟩:=h Γ ρ M s a w hs hh
 unfold Oper.wp
 rw[h1,Oper.upon_skip]
 refine hK ρ' M' _ w' ((h2.put (dst:=o.dst) (x:=.any) (u:=undef) hd (fun hne=>absurd hdst hne)).congr (fun t=>rfl) (fun m=>?_))
 simp only[AS.run,AS.set,X]
 grind
def Qz(cs:Y α)(k:Nat)(vs:Y α):Y α:=cs.take k++vs++cs.drop (k+vs.length)
def QnD:∀{xs:Y AV} {us:Y AE},AV.Rs ρ H M w xs us->∀u∈us,u.oneCell'=true
 |[],us,h,u,hu=>by simp only[AV.Rs]at h;subst h;simp at hu
 |x::xs,us,h,u,hu=>by
  simp only[AV.Rs]at h
  obtain⟨v,us',rfl,h2,h3,h4⟩:=h
  rcases AZ.1 hu with rfl|hu
  .exact h2
  .exact QnD h4 u hu
def Qgb(hz:Zl P T=some u.cells.size)(hb:w.heap[b]?=some (.cells cur t (0,0)))(hl:k+u.cells.size<=cur.size)(h1:∀v∈u.cells.toList,v.oneCell'=true):
  (storeVar T ⟨b,k,none⟩ u).run P w=.ok () (w.setRow b (Qz cur.toList k u.cells.toList).toArray):=by
 have:=run_storeCells_at (P:=P) b k t u.cells.toList 0 cur w hb (by simpa using hl) h1
 simp at this
 unfold storeVar
 simp only[Sem.run_bind,run_sizeOf hz,Result.andThen_ok,ne_eq,not_true_eq_false,if_false,Qz]
 simpa using this
def TE.storeBox(hdst:o.dst=none)(ho:o.op=.store T x y)(hx:Qi rd x=some (.TM n k))(hy:Qi rd y=some v)(hv:ZV v=some vs)(hz:Zl P T=some vs.length)(hl:Nat.ble (k+vs.length) cells.length=true)(hc:Qz cells k vs=cells'):TE P o ⟨rd,[(n,.box cells)],.any,[(n,.box cells')],[]⟩:=
 TE.wr hdst fun Γ ρ M s a w hs hh=>by
  have hr:=Qj hs hh hx
  simp only[AV.R]at hr
  have hn:=hh.hp n _ (by simp:(n,AO.box cells)∈_)
  obtain⟨b,hb,hu⟩:=hr.2 cells hn
  have hobj:=hs.objs n _ hn
  obtain⟨b',t,cs,g1,g2,g3,g4⟩:=hobj
  have e:b'=b:=by rw[g1]at hb;simpa using hb
  subst e
  have hvs:=Qb6 hv (Qj hs hh hy)
  have hlen:=hvs.length
  have hlen2:=g4.length
  have hl':=Am hl
  simp only[BW]at hlen hlen2
  have hrun:=Qgb (P:=P) (T:=T) (b:=b') (k:=k) (u:=a.eval y) (w:=w) (by rw[hz,hlen]) g3 U (QnD hvs)
  refine⟨w.setRow b' (Qz cs.toList k (a.eval y).cells.toList).toArray,(fun m=>if m=n then ρ n else ρ m),M,?_,?_⟩
  .simp[execOp,ho,hu,Instr.storeAt,Instr.sureAddr,hrun]
  .have hblk:(ρ n).blk=some b':=by rw[g1];simp[Loc.blk]
   have he:Ext (fun b=>b=b') w (w.setRow b' (Qz cs.toList k (a.eval y).cells.toList).toArray):=⟨by simp[World.setRow],fun b hb hne=>setRow_other w b' b _ hne,rfl,rfl⟩
   have hM:M b':=g2
   refine hs.update1 (he.weaken fun b _ hb=>⟨by rw[hblk,hb],by rw[hn];simp⟩) (fun _ hb=>hb) (fun _ hb=>.inl hb) (fun b hb=>BD (hs.msize b hb) he.size)
    (fun o' ho'=>by rw[hn]at ho';cases ho';simp[stays]) (fun h0=>by rw[hn]at h0;simp at h0) ?_ (fun b hb=>.inl ⟨_,hn,hb⟩)
   refine⟨b',t,_,by simp[g1],hM,setRow_heap w b' cs _ t (0,0) g3,?_⟩
   rw[<-hc]
   have hst:Qdk ρ s.heap (fun m=>if m=n then ρ n else ρ m) (fun m=>if m=n then some (.box (Qz cells k vs))else s.heap m):=fun m o' hm=>by
    by_cases e:m=n
    .subst e;rw[hn]at hm;cases hm;simp[stays]
    .simp only[e,if_false,hm];exact Zj _ _
   have hnn:∀m,s.heap m=none->(if m=n then some (AO.box (Qz cells k vs))else s.heap m)=none:=fun m hm=>by
    by_cases e:m=n
    .subst e;rw[hn]at hm;simp at hm
    .simp[e,hm]
   have r1:=(g4.take k).step he (fun b hb=>by rw[hb];exact hM) (fun b _ hb=>hb) hst (fun m _=>hnn m)
   have r2:=hvs.step he (fun b hb=>by rw[hb];exact hM) (fun b _ hb=>hb) hst (fun m _=>hnn m)
   have r3:=(g4.drop (k+vs.length)).step he (fun b hb=>by rw[hb];exact hM) (fun b _ hb=>hb) hst (fun m _=>hnn m)
   have:=(r1.append r2).append r3
   have hL:(a.eval y).cells.toList.length=vs.length:=by simpa using hlen
   simp only[Qz,hL]at this |-
   exact this
def Qmp:Y AV->I (Y PV)
 |[]=>some []
 |.p x::r=>match Qmp r with
  |some xs=>some (x::xs)
  |none=>none
 |_::_=>none
def QaC:∀{l:Y AV} {ps:Y PV},Qmp l=some ps->l=pcells ps
 |[],ps,h=>by simp only[Qmp,AP]at h;subst h;rfl
 |x::r,ps,h=>by
  cases x with
  |p x=>
   simp only[Qmp]at h
   split at h
   .rename_i xs hxs;cases h;rw[QaC hxs];rfl
   .simp at h
  |_=>simp[Qmp]at h
def Qdf(rd:Y (Nat×AV))(es:Nat):Y (Nat×AC)->Y (Y PV)->I (Y (Y PV))
 |[],rows=>some rows
 |(i,x)::r,rows=>match Qi rd x with
  |some y=>match ZV y with
   |some cs=>match Qmp cs with
    |some ps=>if Nat.beq ps.length es && Nat.blt i rows.length then Qdf rd es r (rows.set i ps)else none
    |none=>none
   |none=>none
  |none=>none
def QoU(off):∀(vs:Y AE) (k:Nat) (cs:Array AE),off+k+vs.length<=cs.size->
  ((vs.zipIdx k).foldl (fun(acc:Array AE) (p:AE×Nat)=>acc.setIfInBounds (off+p.2) p.1) cs).toList=Qz cs.toList (off+k) vs
 |[],k,cs,_=>by simp[Qz]
 |v::vs,k,cs,h=>by
  simp only[List.zipIdx_cons,Ct]
  rw[QoU off vs (k+1) _ (by simp at h |-;omega)]
  simp at h
  have hlt:off+k<cs.size:=U
  simp only[Qz,Array.toList_setIfInBounds,Ad]
  apply Cg
  intro j
  simp only[B9,Ab,Ae,CL,BW,Ad,Ar,CA,Ap]
  have e1:min (off+k) cs.size=off+k:=U
  have e2:min (off+(k+1)) cs.size=off+k+1:=U
  rw[e1,e2]
  rcases Cs j (off+k)with h1|h1|h1
  .have:¬(off+k=j):=U
   simp[show j<off+k+1+vs.length by omega,show j<off+k+1 by omega,show j<off+(k+1)by omega,this,h1,show j<off+k+(vs.length+1)by omega]
  .subst h1
   simp[hlt,show off+k<off+(k+1)by omega,show off+k<off+k+1+vs.length by omega]
  .by_cases h2:j<off+k+1+vs.length
   .have:¬j<off+k+1:=U
    have h3:¬j<off+k:=U
    have e:j - (off+k)=(j - (off+k+1))+1:=U
    simp[h2,this,h3,show j<off+k+(vs.length+1)by omega,e]
   .have h3:¬j<off+k+(vs.length+1):=U
    have e:¬(off+k=off+(k+1)+vs.length+(j - (off+k+1+vs.length))):=U
    simp[h2,h3,e]
    congr 1
    omega
def WU:∀{rows:Y (Y AE)},(∀r∈rows,r.length=es)->rows.flatten.length=rows.length*es
 |[],_=>by simp
 |r::rows,h=>by
  have:=WU (es:=es) (rows:=rows) (fun r hr=>h r (by simp[hr]))
  simp only[CU,Ab,this,h r Ob,Ad,Ba]
  omega
def QlR:∀{rows:Y (Y AE)} (i:Nat),(∀r∈rows,r.length=es)->rows.flatten.take (i*es)=(rows.take i).flatten
 |rows,0,_=>by simp
 |[],i+1,_=>by simp
 |r::rows,i+1,h=>by
  have hr:=h r Ob
  have:=QlR (es:=es) (rows:=rows) i (fun r hr=>h r (by simp[hr]))
  simp only[CU,CS,<-this]
  rw[List.take_append,hr,Bf (by rw[hr,Ba];omega),Ba,Ch]
def Qiv:∀{rows:Y (Y AE)} (i:Nat),(∀r∈rows,r.length=es)->rows.flatten.drop (i*es)=(rows.drop i).flatten
 |rows,0,_=>by simp
 |[],i+1,_=>by simp
 |r::rows,i+1,h=>by
  have hr:=h r Ob
  have:=Qiv (es:=es) (rows:=rows) i (fun r hr=>h r (by simp[hr]))
  simp only[CU,Ci,<-this]
  rw[List.drop_append,hr,Eg (by rw[hr,Ba];omega),Ba,Ch]
  simp
def QyK{rows:Y (Y AE)}(h:∀r∈rows,r.length=es)(hr:r.length=es)(hi:i<rows.length):Qz rows.flatten (i*es) r=(rows.set i r).flatten:=by
 unfold Qz
 rw[QlR i h,hr,show i*es+es=(i+1)*es by rw[Ba],Qiv (i+1) h,List.set_eq_take_append_cons_drop,iB hi]
 simp
def Qtt{rows:Y (Y AE)}(h:∀r∈rows,r.length=es)(hi:rows[i]?=some r)(hj:j<es):rows.flatten[i*es+j]?=r[j]?:=by
 have:=Qiv i h
 have h2:rows.flatten[i*es+j]?=(rows.flatten.drop (i*es))[j]?:=Ob
 have hlt:i<rows.length:=by
  grind
 have hmem:r∈rows:=CV hi
 rw[h2,this,EG hlt,CU,BN]
 .simp_all
 .simp_all
end
open Go
section
def RR(ρ:Name->Loc)(H:Heap)(M:Nat->Prop)(w:AG):Y (Y PV)->Y (Y AE)->Prop
 |[],cr=>cr=[]
 |r::rs,cr=>∃c cr',cr=c::cr'/\AV.Rs ρ H M w (pcells r) c/\RR ρ H M w rs cr'
def RR.length:∀{rows:Y (Y PV)} {cr:Y (Y AE)},RR ρ H M w rows cr->cr.length=rows.length
 |[],cr,h=>by simp only[RR]at h;simp[h]
 |r::rs,cr,h=>by simp only[RR]at h;obtain⟨c,cr',rfl,_,h2⟩:=h;simp[h2.length]
def RR.get:∀{rows:Y (Y PV)} {cr:Y (Y AE)},RR ρ H M w rows cr->∀(i:Nat) (r:Y PV),rows[i]?=some r->∃c:Y AE,cr[i]?=some c/\AV.Rs ρ H M w (pcells r) c
 |[],cr,h,i,r,hi=>by simp at hi
 |r0::rs,cr,h,i,r,hi=>by
  simp only[RR]at h
  obtain⟨c,cr',rfl,h1,h2⟩:=h
  cases i with
  |zero=>simp at hi;subst hi;exact⟨c,Ob,h1⟩
  |succ i=>simpa using h2.get i r (by simpa using hi)
def RR.set:∀{rows:Y (Y PV)} {cr:Y (Y AE)},RR ρ H M w rows cr->∀(i:Nat) (ps:Y PV) (c:Y AE),AV.Rs ρ H M w (pcells ps) c->RR ρ H M w (rows.set i ps) (cr.set i c)
 |[],cr,h,i,ps,c,hc=>by simp only[RR]at h;subst h;simp[RR]
 |r0::rs,cr,h,i,ps,c,hc=>by
  simp only[RR]at h
  obtain⟨c0,cr',rfl,h1,h2⟩:=h
  cases i with
  |zero=>simp only[Eh,RR];exact⟨c,cr',rfl,hc,h2⟩
  |succ i=>simp;exact⟨c0,cr'.set i c,rfl,h1,h2.set i ps c hc⟩
def RR.append:∀{rows:Y (Y PV)} {cr:Y (Y AE)},RR ρ H M w rows cr->∀{rows':Y (Y PV)} {cr':Y (Y AE)},RR ρ H M w rows' cr'->RR ρ H M w (rows++rows') (cr++cr')
 |[],cr,h,rows',cr',h'=>by simp only[RR]at h;subst h;simpa using h'
 |r::rs,cr,h,rows',cr',h'=>by
  simp only[RR]at h
  obtain⟨c,cr1,rfl,h1,h2⟩:=h
  simp
  exact⟨c,cr1++cr',rfl,h1,h2.append h'⟩
def RR.replicate(h:AV.Rs ρ H M w (pcells r) c):∀n,RR ρ H M w (List.replicate n r) (List.replicate n c)
 |0=>by simp[RR]
 |n+1=>by simp only[List.replicate_succ,RR];exact⟨c,_,rfl,h,RR.replicate h n⟩
def RR.len:∀{rows:Y (Y PV)} {cr:Y (Y AE)},RR ρ H M w rows cr->(∀r∈rows,r.length=es)->∀c∈cr,c.length=es
 |[],cr,h,_,c,hc=>by simp only[RR]at h;subst h;simp at hc
 |r::rs,cr,h,hl,c,hc=>by
  simp only[RR]at h
  obtain⟨c0,cr',rfl,h1,h2⟩:=h
  rcases AZ.1 hc with rfl|hc
  .rw[h1.length];simp[pcells,hl r Ob]
  .exact h2.len (fun r hr=>hl r (by simp[hr])) c hc
def RR.one:∀{rows:Y (Y PV)} {cr:Y (Y AE)},RR ρ H M w rows cr->∀u∈cr.flatten,u.oneCell'=true
 |[],cr,h,u,hu=>by simp only[RR]at h;subst h;simp at hu
 |r::rs,cr,h,u,hu=>by
  simp only[RR]at h
  obtain⟨c0,cr',rfl,h1,h2⟩:=h
  simp only[CU,Af]at hu
  rcases hu with hu|hu
  .exact QnD h1 u hu
  .exact h2.one u hu
def RR.of_Rows:∀{off:Nat} {rows:Y (Y PV)},PV.Rows M w b es off rows->∃cr:Y (Y AE),RR ρ H M w rows cr/\(∀r∈rows,r.length=es)/\∀j u,cr.flatten[j]?=some u->w.cell? ⟨b,off+j,none⟩=some u
 |off,[],h=>⟨[],by simp[RR],Ob,Ob⟩
 |off,r::rs,h=>by
  simp only[PV.Rows]at h
  obtain⟨h1,h2,h3⟩:=h
  obtain⟨c,g1,g2⟩:=Qb2 (ρ:=ρ) (H:=H) h2
  obtain⟨cr,k1,k2,k3⟩:=RR.of_Rows h3
  have hcl:c.length=es:=by rw[g1.length];simp[pcells,h1]
  refine⟨c::cr,by simp only[RR];exact⟨c,cr,rfl,g1,k1⟩,fun r' hr'=>?_,fun j u hj=>?_⟩
  .rcases AZ.1 hr' with rfl|hr'
   .exact h1
   .exact k2 r' hr'
  .simp only[CU,B9]at hj
   split at hj
   .exact g2 j u hj
   .have:=k3 (j - c.length) u hj
    rwa [hcl,show off+es+(j - es)=off+j by omega]at this
def QbT(h:RR ρ H M w rows cr)(hl:∀r∈rows,r.length=es)(hc:∀j u,cr.flatten[j]?=some u->w.cell? ⟨b,j,none⟩=some u):PV.Rows M w b es 0 rows:=by
 refine PV.Rows.of_get fun i r hi=>?_
 obtain⟨c,h1,h2⟩:=h.get i r hi
 have hrl:=hl r (CV hi)
 refine⟨hrl,QrV h2 fun j u hj=>?_⟩
 have hcl:c.length=es:=by rw[h2.length];simp[pcells,hrl]
 have hj':j<es:=by
  grind
 have:=Qtt (h.len hl) h1 hj'
 simp_all
def RR.step{ρ:Name->Loc}{H:Heap}{M:Nat->Prop}{w:AG}{ρ':Name->Loc}{H':Heap}{M' B:Nat->Prop}{w':AG}(he:Ext B w w')(hB:∀b,B b->M b)(hM:∀b,b<w.heap.size->M' b->M b):
  ∀{rows:Y (Y PV)} {cr:Y (Y AE)},RR ρ H M w rows cr->RR ρ' H' M' w' rows cr
 |[],cr,h=>by simpa only[RR]using h
 |r::rs,cr,h=>by
  simp only[RR]at h |-
  obtain⟨c,cr',h0,h1,h2⟩:=h
  refine⟨c,cr',h0,?_,RR.step he hB hM h2⟩
  refine AV.Rs.of_get h1.length fun j x u hx hu=>?_
  obtain⟨u',k1,k2,k3⟩:=h1.get j x hx
  rw[hu]at k1;cases k1
  refine⟨k2,?_⟩
  simp only[pcells,Bm]at hx
  cases hr:r[j]? with
  |none=>simp[hr]at hx
  |some y=>
   simp[hr]at hx
   subst hx
   simp only[AV.R]at k3 |-
   exact k3.mono he hB hM
end
section
def Qlr(P:AF)(T:AD):I Nat:=(P.info? T).map (·.bytes)
def Qhf(P:AF)(e:AD)(es bytes:Nat):AH:=match P.info? e with
 |some i=>Nat.beq i.size es && Nat.beq i.bytes bytes && (match i.zero with|some z=>Nat.beq z.cells.size es|none=>false)
 |none=>false
def Qca{es bytes:Nat}(h:Qhf P e es bytes=true):∃i z,P.info? e=some i/\i.zero=some z/\i.size=es/\i.bytes=bytes/\z.cells.size=es:=by
 unfold Qhf at h
 split at h
 .rename_i i hi
  simp at h
  obtain⟨⟨h1,h2⟩,h3⟩:=h
  split at h3
  .simp_all
  .simp at h3
 .simp at h
def QlO(hs:Sim Γ ρ M s a w)(hh:s.holds e):
  ∀(parts:Y (Nat×AC)) (rows rows':Y (Y PV)) (cr:Y (Y AE)) (cells:Array AE),RR ρ s.heap M w rows cr->(∀r∈rows,r.length=es)->cells.toList=cr.flatten->Qdf e.rd es parts rows=some rows'->
  ∃cr' cells',Instr.fill (fun i=>some (i*es,es)) cells (parts.map fun p=>(p.1,a.eval p.2))=some cells'/\RR ρ s.heap M w rows' cr'/\(∀r∈rows',r.length=es)/\cells'.toList=cr'.flatten/\rows'.length=rows.length
 |[],rows,rows',cr,cells,h1,h2,h3,h4=>by
  simp only[Qdf,AP]at h4;subst h4
  exact⟨cr,cells,rfl,h1,h2,h3,rfl⟩
 |(i,x)::r,rows,rows',cr,cells,h1,h2,h3,h4=>by
  simp only[Qdf]at h4
  split at h4
  .rename_i y hy
   split at h4
   .rename_i cs hcs
    split at h4
    .rename_i ps hps
     split at h4
     .rename_i hck
      simp only[bae]at hck
      have hpl:=nbe hck.1
      have hil:i<rows.length:=Am hck.2
      have hR:=Qb6 hcs (Qj hs hh hy)
      rw[QaC hps]at hR
      have hus:(a.eval x).cells.size=es:=by have:=hR.length;simp[pcells]at this;rw[this,hpl]
      have hcl:=h1.len h2
      have hlen:=h1.length
      have hsz:cells.size=cr.length*es:=by rw[<-WU hcl,<-h3];simp
      have hle:i*es+es<=cr.length*es:=by rw[<-Ba];exact As es U
      have hA:∀r'∈rows.set i ps,r'.length=es:=fun r' hr'=>by
       rcases EH hr' with h|h
       .exact h2 r' h
       .rw[h];exact hpl
      have hB:((a.eval x).cells.zipIdx.foldl (fun cs (c,j)=>cs.setIfInBounds (i*es+j) c) cells).toList=(cr.set i (a.eval x).cells.toList).flatten:=by
       have:=QoU (i*es) (a.eval x).cells.toList 0 cells (by simp[hus];omega)
       simp at this
       rw[<-QyK hcl (by simp[hus]) U,<-h3,<-this,<-Ei]
       simp_all
      obtain⟨cr',cells',g1,g2,g3,g4,g5⟩:=QlO hs hh r (rows.set i ps) rows' (cr.set i (a.eval x).cells.toList) _ (h1.set i ps _ hR) hA hB h4
      refine⟨cr',cells',?_,g2,g3,g4,by simpa using g5⟩
      simp only[AU,Instr.fill,hus]
      simp_all
     .simp at h4
    .simp at h4
   .simp at h4
  .simp at h4
def Qm4(z:Y AE)(n es:Nat)(hz:z.length=es)(hes:1<=es):((Array.range (n*es)).map (fun i=>z.toArray[i % z.toArray.size]!)).toList=(List.replicate n z).flatten:=by
 apply Cg
 intro j
 have hl:(List.replicate n z).flatten.length=n*es:=by simp[hz]
 by_cases hj:j<n*es
 .have hdiv:j / es<n:=(Nat.div_lt_iff_lt_mul U).2 hj
  have hmod:j % es<es:=Cj _ U
  have h1:=Qtt (rows:=List.replicate n z) (es:=es) (fun r hr=>by rw[Cy hr];exact hz) (i:=j / es) (r:=z) (by simp[hdiv]) hmod
  rw[show j / es*es+j % es=j by rw[EI];exact Nat.div_add_mod j es]at h1
  simp_all
 .simp_all
def Qag(P:AF)(e:AD):I (Y PV):=match Qhs P e with
 |some cs=>Qmp cs
 |none=>none
def TE.buildSlice(ho:o.op=.buildSlice T len parts)(hT:W9 P T=some e)(hz:Zl P e=some es)(hes:Nat.ble 1 es=true)(hzr:Qag P e=some zr)(hzl:zr.length=es)(hsz:Nat.ble (len*es) 16777216=true)(hrows:Qdf rd es parts.toList (List.replicate len zr)=some rows):TE P o ⟨rd,[],.p (.sl true es rows),[],[]⟩:=by
 intro Γ ρ M s a w K Q hs hh hd hK
 unfold Qag at hzr
 split at hzr
 .rename_i cs hcs
  obtain⟨i,z,hi,hz',hall,rfl⟩:=Ui hcs
  have hzR:AV.Rs ρ s.heap M w (pcells zr) z.cells.toList:=by
   rw[<-QaC hzr];exact Xq hall
  have hzlen:z.cells.toList.length=es:=by have:=hzR.length;rw[this];simp[pcells,hzl]
  have hes':=Am hes
  have h0:=Qm4 z.cells.toList len es hzlen hes'
  obtain⟨cr,cells,g1,g2,g3,g4,g5⟩:=QlO hs hh parts.toList (List.replicate len zr) rows (List.replicate len z.cells.toList) ((Array.range (len*es)).map (fun i=>z.cells[i % z.cells.size]!))
   (RR.replicate hzR len) (fun r hr=>by rw[Cy hr];exact hzl) (by simpa using h0) hrows
  have hlen:rows.length=len:=by simpa using g5
  have hrun:(execOp a.eval o).run P w=.ok (.value (.slice (some ⟨w.heap.size,0,none⟩) len len)) (w.alloc (.cells cells e)):=by
   have h2:¬(len*es>16777216):=by have:=Am hsz;omega
   have hparts:((parts.map fun(i,x)=>(i,a.eval x)):Array (Nat×AE)).toList=parts.toList.map fun p=>(p.1,a.eval p.2):=Ob
   simp only[execOp,ho,Instr.buildSlice,Sem.run_bind,run_underlying (Qq hT),Result.andThen_ok,run_sizeOf hz,h2,if_false]
   simp only[hparts]
   by_cases h5:len*es=0
   .have g1':=g1
    rw[h5]at g1'
    simp only[Array.range_zero',Array.map_empty]at g1'
    simp[h5,g1',newRow,Array.range_zero']
   .simp only[h5,if_false,Sem.run_bind,YR hi hz',Result.andThen_ok,Sem.run_pure,g1]
    simp[h2,newRow,g1,YR hi hz']
  unfold Oper.wp
  rw[hrun,Oper.upon_value]
  have hs':=hs.world (Ext.alloc w (.cells cells e))
  refine hK ρ M _ _ ((hs'.put hd (fun _=>?_)).congr (fun t=>rfl) (fun n=>rfl))
  simp only[AV.R,PV.R]
  refine⟨some ⟨w.heap.size,0,none⟩,len,by rw[hlen],U,fun _=>hlen.symm,Ob,fun ad had _=>?_⟩
  cases had
  refine⟨rfl,fun hm=>absurd (hs.msize _ hm) (Ck _),Ob,?_⟩
  have g2':=g2.step (ρ':=ρ) (H':=s.heap) (M':=M) (B:=fun _=>False) (Ext.alloc w (.cells cells e)) (fun _ hb=>hb.elim) (fun b _ hb=>hb)
  refine QbT g2' g3 fun j u hj=>?_
  rw[<-g4]at hj
  simp only[World.cell?,Yt]
  simpa using hj
 .simp at hzr
def Qmi(P:AF):Y Field->I (Y (Nat×Nat))
 |[]=>some []
 |f::r=>match Zl P f.type,Qmi P r with
  |some z,some ps=>some ((f.offset,z)::ps)
  |_,_=>none
def Qog:∀{fs:Y Field} {ps:Y (Nat×Nat)},Qmi P fs=some ps->(fs.mapM (fun f=>do pure (f.offset,<-sizeOf f.type)):Sem (Y (Nat×Nat))).run P w=.ok ps w
 |[],ps,h=>by simp only[Qmi,AP]at h;subst h;simp
 |f::r,ps,h=>by
  simp only[Qmi]at h
  split at h
  .rename_i z ps' h1 h2
   cases h
   have ih:=Qog (w:=w) h2
   rw[List.mapM_cons]
   simp only[Sem.run_bind,run_sizeOf h1,Result.andThen_ok,Sem.run_pure,ih]
  .simp at h
def QaS(rd:Y (Nat×AV))(places:Y (Nat×Nat)):Y (Nat×AC)->Y AV->I (Y AV)
 |[],cells=>some cells
 |(i,x)::r,cells=>match places[i]?,Qi rd x with
  |some (off,size),some y=>match ZV y with
   |some cs=>if Nat.beq cs.length size && Nat.ble (off+size) cells.length then QaS rd places r (Qz cells off cs)else none
   |none=>none
  |_,_=>none
def QjF(hs:Sim Γ ρ M s a w)(hh:s.holds e):
  ∀(parts:Y (Nat×AC)) (cells cells':Y AV) (us:Array AE),AV.Rs ρ s.heap M w cells us.toList->QaS e.rd places parts cells=some cells'->
  ∃us',Instr.fill (fun i=>places[i]?) us (parts.map fun p=>(p.1,a.eval p.2))=some us'/\AV.Rs ρ s.heap M w cells' us'.toList
 |[],cells,cells',us,h1,h4=>by
  simp only[QaS,AP]at h4;subst h4
  exact⟨us,rfl,h1⟩
 |(i,x)::r,cells,cells',us,h1,h4=>by
  simp only[QaS]at h4
  split at h4
  .rename_i off size y hpl hy
   split at h4
   .rename_i cs hcs
    split at h4
    .rename_i hck
     simp only[bae]at hck
     have hpl':=nbe hck.1
     have hle:=Am hck.2
     have hR:=Qb6 hcs (Qj hs hh hy)
     have hus:(a.eval x).cells.size=size:=by have:=hR.length;simp at this;rw[this,hpl']
     have hlen:us.size=cells.length:=by have:=h1.length;simpa using this
     have hB:AV.Rs ρ s.heap M w (Qz cells off cs) ((a.eval x).cells.zipIdx.foldl (fun cs (c,j)=>cs.setIfInBounds (off+j) c) us).toList:=by
      have:=QoU off (a.eval x).cells.toList 0 us (by simp[hus];omega)
      simp at this
      have e1:((a.eval x).cells.zipIdx.foldl (fun cs (c,j)=>cs.setIfInBounds (off+j) c) us).toList=Qz us.toList off (a.eval x).cells.toList:=by
       rw[<-this,<-Ei];simp[Array.toList_zipIdx]
      rw[e1]
      unfold Qz
      rw[show(a.eval x).cells.toList.length=cs.length by simp[hus,hpl']]
      exact((h1.take off).append hR).append (h1.drop _)
     obtain⟨us',g1,g2⟩:=QjF hs hh r (Qz cells off cs) cells' _ hB h4
     refine⟨us',?_,g2⟩
     simp only[AU,Instr.fill,hpl,hus]
     simp_all
    .simp at h4
   .simp at h4
  .simp at h4
def Qp0(P:AF)(T:AD):I (Y (Nat×Nat)):=match P.underlying T with
 |some (.struct fields)=>Qmi P fields.toList
 |_=>none
def TE.build(ho:o.op=.build T parts)(hT:Qp0 P T=some pl)(hz:Qhs P T=some zs)(hc:QaS rd pl parts.toList zs=some cells):
  TE P o ⟨rd,[],.agg cells,[],[]⟩:=
 TE.quiet fun Γ ρ M s a w hs hh=>by
  obtain⟨i,z,hi,hz',hall,rfl⟩:=Ui hz
  obtain⟨us,g1,g2⟩:=QjF hs hh parts.toList _ cells z.cells (Xq hall) hc
  refine⟨.agg us,?_,by simp only[AV.R];exact⟨us,rfl,g2⟩⟩
  unfold Qp0 at hT
  cases hu:P.underlying T with
  |none=>simp[hu]at hT
  |some d=>
   cases d with
   |struct fields=>
    simp only[hu]at hT
    have hpl:=Qog (P:=P) (w:=w) hT
    have hparts:((parts.map fun(i,x)=>(i,a.eval x)):Array (Nat×AE)).toList=parts.toList.map fun p=>(p.1,a.eval p.2):=Ob
    simp only[execOp,ho,Instr.build,Sem.run_bind,YR hi hz',Result.andThen_ok,run_underlying hu]
    rw[Ef]
    simp only[Sem.run_bind,Sem.run_map,hpl,Result.andThen_ok,hparts,CW,g1]
    simp
   |_=>simp[hu]at hT
def TE.fieldAgg{i off z:Nat}{cells sub:Y AV}{T':AD}(ho:o.op=.field T x i)(hx:Qi rd x=some (.agg cells))(hu:P.underlying T=some (.struct fs))(hf:fs[i]?=some f)(ht:aggT P f.type=true)(hz:Zl P f.type=some z)(hsub:(cells.drop f.offset).take z=sub):TE P o ⟨rd,[],.agg sub,[],[]⟩:=
 TE.quiet fun Γ ρ M s a w hs hh=>by
  have hr:=Qj hs hh hx
  simp only[AV.R]at hr
  obtain⟨us,hus,h2⟩:=hr
  refine⟨.agg (us.extract f.offset (f.offset+z)),?_,?_⟩
  .simp[execOp,ho,Instr.field,run_underlying hu,hf,hus,asAgg,part,VZ ht,run_sizeOf hz]
  .simp only[AV.R]
   refine⟨_,rfl,?_⟩
   have:=(h2.drop f.offset).take z
   rw[hsub]at this
   simpa [Array.toList_extract,List.extract_eq_take_drop]using this
def TE.field(ho:o.op=.field T x i)(hx:Qi rd x=some (.agg cells))(hu:P.underlying T=some (.struct fs))(hf:fs[i]?=some f)(ht:Qcy P f.type=true)(hc:cells[f.offset]?=some c):TE P o ⟨rd,[],c,[],[]⟩:=
 TE.quiet fun Γ ρ M s a w hs hh=>by
  have hr:=Qj hs hh hx
  simp only[AV.R]at hr
  obtain⟨us,hus,h2⟩:=hr
  obtain⟨u,k1,k2,k3⟩:=h2.get f.offset c hc
  refine⟨u,?_,k3⟩
  have:us[f.offset]?=some u:=by simpa using k1
  simp[execOp,ho,Instr.field,run_underlying hu,hf,hus,asAgg,part,U8 ht,this]
end
section
def TE.put(h:∀(Γ:Ctx) (ρ:Name->Loc) (M:Nat->Prop) (s:AS) (a:Act) (w:AG),Sim Γ ρ M s a w->s.holds ⟨rd,hp,v,[(n,ob)],nw⟩->∃u w' ρ' M',(execOp a.eval o).run P w=.ok (.value u) w'/\
   Sim Γ ρ' M' ⟨s.slot,fun m=>if m=n then some ob else s.heap m⟩ a w'/\v.R ρ' (fun m=>if m=n then some ob else s.heap m) M' w' u):TE P o ⟨rd,hp,v,[(n,ob)],nw⟩:=by
 intro Γ ρ M s a w K Q hs hh hd hK
 obtain⟨u,w',ρ',M',h1,h2,h3⟩:=h Γ ρ M s a w hs hh
 unfold Oper.wp
 rw[h1,Oper.upon_value]
 refine hK ρ' M' _ w' ((h2.put hd (fun _=>h3)).congr (fun t=>rfl) (fun m=>?_))
 simp only[AS.run,AS.set,X]
 grind
def QAd(hT:W9 P T=some e)(h:PV.R M w (.sl f es rows) u):
  ∃cr:Y (Y AE),RR ρ H M w rows cr/\(∀r∈rows,r.length=es)/\Src P es T u rows.length cr.flatten w:=by
 simp only[PV.R]at h
 obtain⟨a,cap,rfl,h2,h3,h4,h5⟩:=h
 cases a with
 |none=>
  have hc:=h4 rfl
  have hl:rows=[]:=BP U
  subst hl;subst hc
  exact⟨[],by simp[RR],Ob,Src.ofNil (w:=w) (Qq hT) 0⟩
 |some ad=>
  by_cases hc:cap=0
  .have hl:rows=[]:=BP U
   subst hl
   exact⟨[],by simp[RR],Ob,Src.ofSlice (w:=w) (Qq hT) ad _ _ [] Ob Ob Ob⟩
  obtain⟨g1,g2,g3,g4⟩:=h5 ad rfl hc
  obtain⟨b,off,spot⟩:=ad
  simp only at g1;subst g1
  obtain⟨cr,k1,k2,k3⟩:=RR.of_Rows (ρ:=ρ) (H:=H) g4
  have hfl:cr.flatten.length=rows.length*es:=by rw[WU (k1.len k2),k1.length]
  exact⟨cr,k1,k2,Src.ofSlice (w:=w) (Qq hT) _ _ _ _ hfl (fun j u hj=>by rw[Zr];exact k3 j u hj) k1.one⟩
def Qaa(z)(n):(Builtin.zeroCells z n).size=n*z.size:=by simp[Builtin.zeroCells]
def Sim.grown(h:Sim Γ ρ M s a w){n:Name}(hes:1<=es)(hrr:RR ρ s.heap M w rows cr)(hl:∀r∈rows,r.length=es)(hcap:rows.length<=cap)(hrest:rest.size=(cap - rows.length)*es)(h0:0<rows.length)(hst:∀o',s.heap n=some o'->∃rows0,o'=.TI es rows0/\rows0.length<rows.length)(hfree:s.heap n=none->s.free n):
  ∃M',Sim Γ (fun m=>if m=n then⟨some ⟨w.heap.size,0,none⟩,cap⟩else ρ m) M' ⟨s.slot,fun m=>if m=n then some (.TI es rows)else s.heap m⟩ a (w.drew.alloc (.cells (cr.flatten.toArray++rest) e)):=by
 have he:Ext (fun _=>False) w (w.drew.alloc (.cells (cr.flatten.toArray++rest) e)):=(Ext.drew w).trans (Ext.alloc w.drew _) (fun _ _ hb=>hb.elim)
 refine⟨fun b=>M b\/b=w.heap.size,h.update1 (he.weaken fun _ _ hb=>hb.elim) (fun b hb=>.inl hb) (fun b hb=>hb.imp id (fun e=>U)) (fun b hb=>?_) (fun o' ho'=>?_) hfree ?_ (fun b hb=>.inr ?_)⟩
 .rcases hb with hb|hb
  .have:=h.msize b hb;simp;omega
  .simp[hb]
 .obtain⟨rows0,rfl,hlt⟩:=hst o' ho'
  simp only[stays]
  grind
 .have hcr:=hrr.length
  have hfl:cr.flatten.length=rows.length*es:=by rw[WU (hrr.len hl),hcr]
  refine⟨hes,by simpa using hcap,.inr ⟨w.heap.size,e,_,Ob,.inr rfl,by have:=Yt w.drew (.cells (cr.flatten.toArray++rest) e);simpa using this,?_,?_⟩⟩
  .simp only[if_true,Ej,CB,hfl,hrest]
   rw[<-Av,Nat.add_sub_cancel' hcap];exact AN _
  .refine QbT (ρ:=ρ) (H:=s.heap) (hrr.step (B:=fun _=>False) he (fun _ hb=>hb.elim) (fun b hb hb'=>hb'.resolve_right U)) hl fun j u hj=>?_
   have:=Yt w.drew (.cells (cr.flatten.toArray++rest) e)
   simp at this
   simp only[World.cell?,this]
   grind
 .simp only[Loc.blk]at hb
  simp_all
def QsW{w:AG}(hb:w.heap[b]?=some (.cells cur t (0,0)))(hl:k+vs.length<=cur.size)(h1:∀v∈vs,v.oneCell'=true):
  w.setCells b k vs=w.setRow b (Qz cur.toList k vs).toArray:=by
 have r1:=run_storeCells_at (P:=default) b k t vs 0 cur w hb (by simpa using hl) h1
 have r2:=run_storeCells_cells (P:=default) b k vs 0 w (fun j hj=>by
   have:k+j<cur.size:=U
   simp[World.cell?,hb,this]) (fun j hj=>by simp[World.frozen?,hb]) h1
 rw[r1]at r2
 simp only[CK]at r2
 injection r2 with _ r3
 exact r3.symm
def TE.appendOwn{len es bytes r:Nat}(ho:o.op=.call { callee:=.builtin .append,args:=#[x,y],argTypes:=ats })(hat:ats=#[T,T])(hT:W9 P T=some e)(hok:Qhf P e es bytes=true)(hx:Qi rd x=some (.own n len))(hlen:Nat.beq len rows.length=true)(hy:Qi rd y=some (.p (.sl f es rows')))(h2:rows++rows'=rows2)(hr:rows2.length=r)(hfit:(rows.length+rows'.length)*bytes<=140737488355328)(hfit2:rows.length+rows'.length<=140737488355328):
  TE P o ⟨rd,[(n,.TI es rows)],.own n r,[(n,.TI es rows2)],[]⟩:=
 TE.put fun Γ ρ M s a w hs hh=>by
  subst h2;subst hr;subst hat
  have hle:=nbe hlen
  subst hle
  obtain⟨i,z,hi,hz,hsz,hby,hzs⟩:=Qca hok
  have hrx:=Qj hs hh hx
  simp only[AV.R]at hrx
  have hn:=hh.hp n _ (by simp:(n,AO.TI es rows)∈_)
  have hux:=(hrx.2 _ es rows.length hn rfl).2 rfl
  have hry:=Qj hs hh hy
  simp only[AV.R]at hry
  obtain⟨cr',k1,k2,hsrc⟩:=QAd (P:=P) (ρ:=ρ) (H:=s.heap) hT hry
  obtain⟨hes,hcap,hobj⟩:=hs.objs n _ hn
  have hexec:∀(u:AE) (w':AG),(Builtin.append_ #[T,T] o.type #[.slice (ρ n).base rows.length (ρ n).cap,a.eval y]).run P w=.ok u w'->(execOp a.eval o).run P w=.ok (.value u) w':=by
   intro u w' hrun
   simp[execOp,ho,resolve,invoke,builtin,hux,hrun]
  rw[<-hsz]at hsrc
  by_cases hnil:rows'=[]
  .subst hnil
   simp only[An]
   simp only[RR]at k1
   subst k1
   have hrun:=run_append_nothing w T T o.type e i (Qq hT) hi (ρ n).base rows.length (ρ n).cap hcap (a.eval y) (by simpa using hsrc)
   have hfun:(fun m=>if m=n then some (AO.TI es rows)else s.heap m)=s.heap:=by
    grind
   refine⟨_,w,ρ,M,hexec _ _ hrun,by rw[hfun];exact hs,?_⟩
   rw[hfun,<-hux]
   simp only[AV.R]
   exact hrx
  .have hpos:0<rows'.length:=B1.2 hnil
   by_cases hroom:rows.length+rows'.length<=(ρ n).cap
   ·rcases hobj with hobj|⟨b,T',cs,h3,h4,h5,h6,h7⟩
    .omega
    .have hcrl:=k1.length
     have hfl:cr'.flatten.length=rows'.length*es:=by rw[WU (k1.len k2),hcrl]
     have hfits:rows.length*es+cr'.flatten.length<=cs.size:=by
      rw[hfl,<-Av];exact AY (As es hroom) h6
     have hle2:rows.length*es+cr'.flatten.length<=cs.size:=hfits
     obtain⟨cr0,m1,m2,m3⟩:=RR.of_Rows (ρ:=ρ) (H:=s.heap) h7
     have hfl0:cr0.flatten.length=rows.length*es:=by rw[WU (m1.len m2),m1.length]
     have hcell:∀j,j<cs.size->w.cell? ⟨b,j,none⟩=cs[j]?:=fun j hj=>by simp[World.cell?,h5]
     have hrun:=run_append_room_src (P:=P) w T T o.type e i (Qq hT) hi b 0 rows.length (ρ n).cap (a.eval y) rows'.length cr'.flatten hsrc hroom
      (fun j hj=>by rw[hsz,Ah,hcell _ U];simp;omega) (fun j hj=>by simp[World.frozen?,h5])
     rw[hsz,Ah,QsW h5 hle2 k1.one,<-h3]at hrun
     have he:Ext (fun b'=>b'=b) w (w.setRow b (Qz cs.toList (rows.length*es) cr'.flatten).toArray):=⟨by simp[World.setRow],fun b' hb hne=>setRow_other w b b' _ hne,rfl,rfl⟩
     have hblk:(ρ n).blk=some b:=by
      have:(ρ n).cap≠0:=U
      simp[Loc.blk,this,h3]
     have hM:M b:=h4
     refine⟨_,_,(fun m=>if m=n then ρ n else ρ m),M,hexec _ _ hrun,hs.update1 (he.weaken fun b' _ hb=>⟨by rw[hblk,hb],by rw[hn];simp⟩) (fun _ hb=>hb) (fun _ hb=>.inl hb) (fun b' hb=>BD (hs.msize b' hb) he.size)
      (fun o' ho'=>by rw[hn]at ho';cases ho';simp[stays]) (fun h0=>by rw[hn]at h0;simp at h0) ?_ (fun b' hb=>.inl ⟨_,hn,hb⟩),?_⟩
     .refine⟨hes,by simpa using hroom,.inr ⟨b,T',_,by simp[h3],hM,setRow_heap w b cs _ T' (0,0) h5,?_,?_⟩⟩
      .simp only[if_true,CB,Qz,Ab,Ae,Bg,BW]
       omega
      .have st:∀{rs:Y (Y PV)} {c:Y (Y AE)},RR ρ s.heap M w rs c->RR ρ s.heap M (w.setRow b (Qz cs.toList (rows.length*es) cr'.flatten).toArray) rs c:=fun h=>h.step he (fun b' hb=>by rw[hb];exact hM) (fun b' _ hb=>hb)
       refine QbT (ρ:=ρ) (H:=s.heap) ((st m1).append (st k1)) (fun r hr=>?_) fun j u hj=>?_
       .grind
       .rw[cell_setRow_same w b j cs _ T' (0,0) h5]
        simp at hj
        simp only[CW,Qz]
        rw[B9]at hj
        split at hj
        .grind
        .grind
     .simp only[AV.R]
      refine⟨rfl,fun o' es' k' hc hs'=>?_⟩
      simp at hc
      cases hc
      cases hs'
      simp_all
   ·have hg:(ρ n).cap<rows.length+rows'.length:=U
    have hold:∃cr0,RR ρ s.heap M w rows cr0/\(∀r∈rows,r.length=es)/\(Builtin.firstCells i.size rows.length (.slice (ρ n).base rows.length (ρ n).cap)).run P w.drew=.ok cr0.flatten.toArray w.drew:=by
     rcases hobj with hobj|⟨b,T',cs,h3,h4,h5,h6,h7⟩
     .have hl:rows=[]:=BP U
      subst hl
      refine⟨[],by simp[RR],Ob,?_⟩
      cases hb:(ρ n).base with
      |none=>simpa using run_firstCells_none (P:=P) w.drew i.size 0 0 (ρ n).cap
      |some ad=>simpa using run_firstCells_some (P:=P) w.drew i.size 0 ad 0 (ρ n).cap [] Ob Ob
     .obtain⟨cr0,m1,m2,m3⟩:=RR.of_Rows (ρ:=ρ) (H:=s.heap) h7
      refine⟨cr0,m1,m2,?_⟩
      rw[h3]
      exact run_firstCells_some (P:=P) w.drew i.size rows.length _ rows.length (ρ n).cap cr0.flatten (by rw[hsz,WU (m1.len m2),m1.length]) (fun j u hj=>by
       rw[Zr,Ah,World.cell?_drew];have:=m3 j u hj;rwa [Ah]at this)
    obtain⟨cr0,m1,m2,hold⟩:=hold
    have hrun:=run_append_grow_src (P:=P) w T T o.type e i z (Qq hT) hi hz (ρ n).base rows.length (ρ n).cap cr0.flatten hold (a.eval y) rows'.length cr'.flatten hsrc hg
     U (growslice_fits hg (by rw[hby];exact hfit))
    have hge:=grownCap_ge w (rows.length+rows'.length) (ρ n).cap e
    have happ:(cr0.flatten++cr'.flatten)=(cr0++cr').flatten:=Ob
    rw[happ]at hrun
    obtain⟨M',hsim⟩:=hs.grown (n:=n) (es:=es) (cap:=grownCap w (rows.length+rows'.length) (ρ n).cap e) (rows:=rows++rows') (cr:=cr0++cr') (rest:=Builtin.zeroCells z.cells (grownCap w (rows.length+rows'.length) (ρ n).cap e - (rows.length+rows'.length))) (e:=e)
     hes (m1.append k1) (fun r hr=>by rcases Af.1 hr with hr|hr;exact m2 r hr;exact k2 r hr) (by simpa using hge) (by rw[Qaa,hzs];simp) (by simp;omega)
     (fun o' ho'=>by rw[hn]at ho';cases ho';exact⟨rows,rfl,by simp;omega⟩) (fun h0=>by rw[hn]at h0;simp at h0)
    refine⟨_,_,_,M',hexec _ _ hrun,hsim,?_⟩
    simp only[AV.R]
    refine⟨rfl,fun o' es' k' hc hs'=>?_⟩
    simp at hc
    cases hc
    cases hs'
    grind
end
open Go
section
def TE.appendNew{es es0 bytes r:Nat}(ho:o.op=.call { callee:=.builtin .append,args:=#[x,y],argTypes:=ats })(hat:ats=#[T,T])(hT:W9 P T=some e)(hok:Qhf P e es bytes=true)(hes:Nat.ble 1 es=true)(hx:Qi rd x=some (.p (.sl true es0 rows)))(hy:Qi rd y=some (.p (.sl f es rows')))(h2:rows++rows'=rows2)(hr:rows2.length=r)(hnn:rows=[]\/(rows'≠[]/\es0=es))(hfit:(rows.length+rows'.length)*bytes<=140737488355328)(hfit2:rows.length+rows'.length<=140737488355328):
  TE P o ⟨rd,[],.own n r,[(n,.TI es rows2)],[n]⟩:=
 TE.put fun Γ ρ M s a w hs hh=>by
  subst h2;subst hr;subst hat
  obtain⟨i,z,hi,hz,hsz,hby,hzs⟩:=Qca hok
  obtain⟨hn,hfree⟩:=hh.nw n Ob
  have hes':=Am hes
  have hrx:=Qj hs hh hx
  simp only[AV.R]at hrx
  have hrx':=hrx
  simp only[PV.R]at hrx'
  obtain⟨ax,cx,hux,_,hfull,hnone,hsome⟩:=hrx'
  have hcx:=hfull trivial
  subst hcx
  have hry:=Qj hs hh hy
  simp only[AV.R]at hry
  obtain⟨cr',k1,k2,hsrc⟩:=QAd (P:=P) (ρ:=ρ) (H:=s.heap) hT hry
  rw[<-hsz]at hsrc
  have hexec:∀(u:AE) (w':AG),(Builtin.append_ #[T,T] o.type #[.slice ax rows.length rows.length,a.eval y]).run P w=.ok u w'->(execOp a.eval o).run P w=.ok (.value u) w':=by
   intro u w' hrun
   simp[execOp,ho,resolve,invoke,builtin,hux,hrun]
  by_cases hnil:rows'=[]
  .have hrows:rows=[]:=hnn.resolve_right (fun h=>h.1 hnil)
   subst hnil;subst hrows
   simp only[RR]at k1
   subst k1
   have hrun:=run_append_nothing w T T o.type e i (Qq hT) hi ax 0 0 (AN _) (a.eval y) (by simpa using hsrc)
   refine⟨_,w,(fun m=>if m=n then⟨ax,0⟩else ρ m),M,hexec _ _ hrun,hs.update1 (Ext.refl _ _) (fun _ hb=>hb) (fun _ hb=>.inl hb) hs.msize (fun o' ho'=>by rw[hn]at ho';simp at ho') (fun _=>hfree) ?_ (fun b hb=>by simp[Loc.blk]at hb),?_⟩
   .exact⟨hes',Ob,.inl Ob⟩
   .simp only[AV.R]
    refine⟨rfl,fun o' es' k' hc hs'=>?_⟩
    simp_all
  .have hpos:0<rows'.length:=B1.2 hnil
   have hg:rows.length<rows.length+rows'.length:=U
   have hold:∃cr0,RR ρ s.heap M w rows cr0/\(∀r∈rows,r.length=es)/\(Builtin.firstCells i.size rows.length (.slice ax rows.length rows.length)).run P w.drew=.ok cr0.flatten.toArray w.drew:=by
    by_cases hl:rows=[]
    .subst hl
     refine⟨[],by simp[RR],Ob,?_⟩
     cases ax with
     |none=>simpa using run_firstCells_none (P:=P) w.drew i.size 0 0 0
     |some ad=>simpa using run_firstCells_some (P:=P) w.drew i.size 0 ad 0 0 [] Ob Ob
    .have he0:=(hnn.resolve_left hl).2
     subst he0
     cases ax with
     |none=>exact absurd (BP (hnone rfl)) hl
     |some ad=>
      obtain⟨q1,q2,q3,q4⟩:=hsome ad rfl (fun h0=>hl (BP h0))
      obtain⟨b,off,spot⟩:=ad
      simp only at q1;subst q1
      obtain⟨cr0,m1,m2,m3⟩:=RR.of_Rows (ρ:=ρ) (H:=s.heap) q4
      exact⟨cr0,m1,m2,run_firstCells_some (P:=P) w.drew i.size rows.length _ rows.length rows.length cr0.flatten (by rw[hsz,WU (m1.len m2),m1.length]) (fun j u hj=>by
       rw[Zr,World.cell?_drew];exact m3 j u hj)⟩
   obtain⟨cr0,m1,m2,hold⟩:=hold
   have hrun:=run_append_grow_src (P:=P) w T T o.type e i z (Qq hT) hi hz ax rows.length rows.length cr0.flatten hold (a.eval y) rows'.length cr'.flatten hsrc hg
    U (growslice_fits hg (by rw[hby];exact hfit))
   have hge:=grownCap_ge w (rows.length+rows'.length) rows.length e
   have happ:(cr0.flatten++cr'.flatten)=(cr0++cr').flatten:=Ob
   rw[happ]at hrun
   obtain⟨M',hsim⟩:=hs.grown (n:=n) (es:=es) (cap:=grownCap w (rows.length+rows'.length) rows.length e) (rows:=rows++rows') (cr:=cr0++cr') (rest:=Builtin.zeroCells z.cells (grownCap w (rows.length+rows'.length) rows.length e - (rows.length+rows'.length))) (e:=e)
    hes' (m1.append k1) (fun r hr=>by rcases Af.1 hr with hr|hr;exact m2 r hr;exact k2 r hr) (by simpa using hge) (by rw[Qaa,hzs];simp) (by simp;omega)
    (fun o' ho'=>by rw[hn]at ho';simp at ho') (fun _=>hfree)
   refine⟨_,_,_,M',hexec _ _ hrun,hsim,?_⟩
   simp only[AV.R]
   refine⟨rfl,fun o' es' k' hc hs'=>?_⟩
   simp only[if_true]at hc
   cases hc
   cases hs'
   grind
def TE.storeElem(hdst:o.dst=none)(ho:o.op=.store T x y)(hx:Qi rd x=some (.aref n len i k))(hy:Qi rd y=some v)(hv:ZV v=some vs)(hp:Qmp vs=some ps)(hlen:Nat.beq len rows.length=true)(hi:rows[i]?=some row)(hz:Zl P T=some vs.length)(hl:Nat.ble (k+vs.length) row.length=true)(hc:Qz row k ps=row')(hr':rows.set i row'=rows'):
  TE P o ⟨rd,[(n,.TI es rows)],.any,[(n,.TI es rows')],[]⟩:=
 TE.wr hdst fun Γ ρ M s a w hs hh=>by
  subst hr';subst hc
  have hr:=Qj hs hh hx
  simp only[AV.R]at hr
  have hn:=hh.hp n _ (by simp:(n,AO.TI es rows)∈_)
  have hle:=nbe hlen
  obtain⟨b,hb,hu⟩:=(hr.2 _ es rows.length hn rfl).2 hle
  obtain⟨hes,hcap,hobj⟩:=hs.objs n _ hn
  have hil:i<rows.length:=by
   grind
  rcases hobj with hobj|⟨b',t,cs,h3,h4,h5,h6,h7⟩
  .omega
  .have e:b'=b:=by rw[hb]at h3;simpa using h3.symm
   subst e
   have hvs:=Qb6 hv (Qj hs hh hy)
   rw[QaC hp]at hvs hz hl
   have hlen2:=hvs.length
   simp only[BW]at hlen2
   have hpl:(pcells ps).length=ps.length:=by simp[pcells]
   rw[hpl]at hlen2 hz hl
   have hl':=Am hl
   obtain⟨cr,m1,m2,m3⟩:=RR.of_Rows (ρ:=ρ) (H:=s.heap) h7
   have hrl:=m2 row (CV hi)
   have hbound:i*es+es<=cs.size:=by
    rw[<-Ba];exact AY (As es U) h6
   have hrun:=Qgb (P:=P) (T:=T) (b:=b') (k:=i*es+k) (u:=a.eval y) (w:=w) (by rw[hz,hlen2]) h5 U (QnD hvs)
   refine⟨w.setRow b' (Qz cs.toList (i*es+k) (a.eval y).cells.toList).toArray,(fun m=>if m=n then ρ n else ρ m),M,?_,?_⟩
   .simp[execOp,ho,hu,Instr.storeAt,Instr.sureAddr,hrun]
   .have hblk:(ρ n).blk=some b':=by
     have:(ρ n).cap≠0:=U
     simp[Loc.blk,this,h3]
    have he:Ext (fun b=>b=b') w (w.setRow b' (Qz cs.toList (i*es+k) (a.eval y).cells.toList).toArray):=⟨by simp[World.setRow],fun b hb hne=>setRow_other w b' b _ hne,rfl,rfl⟩
    have hM:M b':=h4
    refine hs.update1 (he.weaken fun b _ hb=>⟨by rw[hblk,hb],by rw[hn];simp⟩) (fun _ hb=>hb) (fun _ hb=>.inl hb) (fun b hb=>BD (hs.msize b hb) he.size)
     (fun o' ho'=>by rw[hn]at ho';cases ho';simp[stays]) (fun h0=>by rw[hn]at h0;simp at h0) ?_ (fun b hb=>.inl ⟨_,hn,hb⟩)
    refine⟨hes,by simpa using hcap,.inr ⟨b',t,_,by simp[h3],hM,setRow_heap w b' cs _ t (0,0) h5,?_,?_⟩⟩
    .simp only[if_true,CB,Qz,Ab,Ae,Bg,BW,hlen2]
     omega
    .have stv:∀{xs:Y PV} {us:Y AE},AV.Rs ρ s.heap M w (pcells xs) us->PV.Rows M (w.setRow b' (Qz cs.toList (i*es+k) (a.eval y).cells.toList).toArray) b' es 0 []:=fun _=>by simp[PV.Rows]
     have hmono:∀{x:PV} {u:AE},x.R M w u->x.R M (w.setRow b' (Qz cs.toList (i*es+k) (a.eval y).cells.toList).toArray) u:=fun h=>h.mono he (fun b hb=>by rw[hb];exact hM) (fun b _ hb=>hb)
     have hcell:∀j,(w.setRow b' (Qz cs.toList (i*es+k) (a.eval y).cells.toList).toArray).cell? ⟨b',j,none⟩=(Qz cs.toList (i*es+k) (a.eval y).cells.toList)[j]?:=fun j=>by
      rw[cell_setRow_same w b' j cs _ t (0,0) h5,CW]
     have hold:∀j,w.cell? ⟨b',j,none⟩=cs.toList[j]?:=fun j=>by simp[World.cell?,h5]
     have hset:∀j,(Qz cs.toList (i*es+k) (a.eval y).cells.toList)[j]?=if i*es+k<=j/\j<i*es+k+ps.length then(a.eval y).cells.toList[j - (i*es+k)]? else cs.toList[j]?:=fun j=>by
      have htl:(List.take (i*es+k) cs.toList).length=i*es+k:=by simp;omega
      unfold Qz
      by_cases c1:j<i*es+k
      .grind
      .by_cases c2:j<i*es+k+ps.length
       .grind
       .rw[iA U,BR (by simp;omega),Ap]
        simp_all
     refine PV.Rows.of_get fun i' r' hi'=>?_
     rw[CA]at hi'
     by_cases e:i=i'
     .subst e
      simp only[if_true,hil]at hi'
      cases hi'
      have hsl:(Qz row k ps).length=es:=by simp[Qz,hrl];omega
      refine⟨hsl,PV.Cells.of_get fun j c hj=>?_⟩
      have hj':j<es:=by
       grind
      rw[hcell,hset]
      obtain⟨_,g2⟩:=h7.get i row hi
      unfold Qz at hj
      have htl:(List.take k row).length=k:=by simp;omega
      by_cases c1:j<k
      .rw[iA U]
       rw[Aw,BN U,CY c1]at hj
       obtain⟨u,hu',hr'⟩:=g2.get j c hj
       grind
      .by_cases c2:j<k+ps.length
       .rw[iB ⟨U,U⟩]
        rw[Aw,BR U,BN U,htl]at hj
        obtain⟨u,hu',_,hr'⟩:=hvs.get (j - k) (.p c) (by simp[pcells,hj])
        simp only[AV.R]at hr'
        refine⟨u,?_,hmono hr'⟩
        rw[<-hu']
        congr 1
        omega
       .rw[iA U]
        rw[BR (by simp;omega),Ap]at hj
        obtain⟨u,hu',hr'⟩:=g2.get j c (by rw[<-hj];congr 1;simp;omega)
        grind
     .rw[iA e]at hi'
      obtain⟨g1,g2⟩:=h7.get i' r' hi'
      refine⟨g1,PV.Cells.of_get fun j c hj=>?_⟩
      have hj':j<es:=by
       grind
      obtain⟨u,hu',hr'⟩:=g2.get j c hj
      rw[hcell,hset,iA ?_]
      .simp_all
      .intro⟨c1,c2⟩
       rcases Cw e with h'|h'
       .have:(i+1)*es<=i'*es:=As es h'
        grind
       .have:(i'+1)*es<=i*es:=As es h'
        grind
def TE.storeHole(hdst:o.dst=none)(ho:o.op=.store T x y)(hx:Qi rd x=some (.aref n len i k))(hy:Qi rd y=some v)(hv:ZV v=some vs)(hlen:Nat.beq len (pre.length+1+post.length)=true)(hi:i=pre.length)(hz:Zl P T=some vs.length)(hl:Nat.ble (k+vs.length) row.length=true)(hc:Qz row k vs=row'):
  TE P o ⟨rd,[(n,.hole es pre row post)],.any,[(n,.hole es pre row' post)],[]⟩:=
 TE.wr hdst fun Γ ρ M s a w hs hh=>by
  subst hc;subst hi
  have hr:=Qj hs hh hx
  simp only[AV.R]at hr
  have hn:=hh.hp n _ (by simp:(n,AO.hole es pre row post)∈_)
  have hle:=nbe hlen
  obtain⟨b,hb,hu⟩:=(hr.2 _ es _ hn rfl).2 hle
  obtain⟨hes,hrow,hcap,b',t,cs,h3,h4,h5,h6,h7,h8,h9⟩:=hs.objs n _ hn
  have e:b'=b:=by rw[hb]at h3;simpa using h3.symm
  subst e
  have hvs:=Qb6 hv (Qj hs hh hy)
  have hlen2:=hvs.length
  simp only[BW]at hlen2
  have hl':=Am hl
  have hsz:=As es hcap
  rw[Av,Av,Cz]at hsz
  have hrun:=Qgb (P:=P) (T:=T) (b:=b') (k:=pre.length*es+k) (u:=a.eval y) (w:=w) (by rw[hz,hlen2]) h5 U (QnD hvs)
  refine⟨w.setRow b' (Qz cs.toList (pre.length*es+k) (a.eval y).cells.toList).toArray,(fun m=>if m=n then ρ n else ρ m),M,?_,?_⟩
  .simp[execOp,ho,hu,Instr.storeAt,Instr.sureAddr,hrun]
  .have hblk:(ρ n).blk=some b':=by
    have:(ρ n).cap≠0:=U
    simp[Loc.blk,this,h3]
   have he:Ext (fun b=>b=b') w (w.setRow b' (Qz cs.toList (pre.length*es+k) (a.eval y).cells.toList).toArray):=⟨by simp[World.setRow],fun b hb hne=>setRow_other w b' b _ hne,rfl,rfl⟩
   have hM:M b':=h4
   have hB:∀b,b=b'->M b:=fun b hb=>by rw[hb];exact hM
   have hst:Qdk ρ s.heap (fun m=>if m=n then ρ n else ρ m) (fun m=>if m=n then some (.hole es pre (Qz row k vs) post)else s.heap m):=fun m o' hm=>by
    by_cases e:m=n
    .subst e;rw[hn]at hm;cases hm;simp[stays]
    .simp only[e,if_false,hm];exact Zj _ _
   have hnn:∀m,s.heap m=none->(if m=n then some (AO.hole es pre (Qz row k vs) post)else s.heap m)=none:=fun m hm=>by
    grind
   refine hs.update1 (he.weaken fun b _ hb=>⟨by rw[hblk,hb],by rw[hn];simp⟩) (fun _ hb=>hb) (fun _ hb=>.inl hb) (fun b hb=>BD (hs.msize b hb) he.size)
    (fun o' ho'=>by rw[hn]at ho';cases ho';simp[stays]) (fun h0=>by rw[hn]at h0;simp at h0) ?_ (fun b hb=>.inl ⟨_,hn,hb⟩)
   have hcell:∀j,(w.setRow b' (Qz cs.toList (pre.length*es+k) (a.eval y).cells.toList).toArray).cell? ⟨b',j,none⟩=(Qz cs.toList (pre.length*es+k) (a.eval y).cells.toList)[j]?:=fun j=>by
    rw[cell_setRow_same w b' j cs _ t (0,0) h5,CW]
   have hold:∀j,w.cell? ⟨b',j,none⟩=cs.toList[j]?:=fun j=>by simp[World.cell?,h5]
   have hL:(a.eval y).cells.toList.length=vs.length:=by simpa using hlen2
   have hset:∀j,(j<pre.length*es\/pre.length*es+es<=j)->(Qz cs.toList (pre.length*es+k) (a.eval y).cells.toList)[j]?=cs.toList[j]?:=fun j hj=>by
    unfold Qz
    rcases hj with hj|hj
    .rw[Aw,BN (by simp;omega),CY U]
    .rw[BR (by simp;omega),Ap]
     congr 1
     simp;omega
   have hmono:∀{x:PV} {u:AE},x.R M w u->x.R M (w.setRow b' (Qz cs.toList (pre.length*es+k) (a.eval y).cells.toList).toArray) u:=fun h=>h.mono he hB (fun b _ hb=>hb)
   have hrows:∀{rs:Y (Y PV)} {off:Nat},(off+rs.length*es<=pre.length*es\/pre.length*es+es<=off)->PV.Rows M w b' es off rs->PV.Rows M (w.setRow b' (Qz cs.toList (pre.length*es+k) (a.eval y).cells.toList).toArray) b' es off rs:=fun{rs off} hoff h=>
    PV.Rows.of_get fun i r hi=>by
     obtain⟨g1,g2⟩:=h.get i r hi
     refine⟨g1,PV.Cells.of_get fun j c hj=>?_⟩
     obtain⟨u,hu',hr'⟩:=g2.get j c hj
     have hj':j<es:=by rw[<-g1];exact(Az.1 hj).1
     have hi':i+1<=rs.length:=(Az.1 hi).1
     have hm:=As es hi'
     grind
   refine⟨hes,by simp[Qz];omega,by simpa using hcap,b',t,_,by simp[h3],hM,setRow_heap w b' cs _ t (0,0) h5,?_,hrows U h7,?_,hrows (by rw[Av,Cz];omega) h9⟩
   .simp only[if_true,CB,Qz,Ab,Ae,Bg,BW,hlen2]
    omega
   .have r1:=(h8.take k).step he hB (fun b _ hb=>hb) hst (fun m _=>hnn m)
    have r2:=hvs.step he hB (fun b _ hb=>hb) hst (fun m _=>hnn m)
    have r3:=(h8.drop (k+vs.length)).step he hB (fun b _ hb=>hb) hst (fun m _=>hnn m)
    have:=(r1.append r2).append r3
    have heq:List.take es (List.drop (pre.length*es) (Qz cs.toList (pre.length*es+k) (a.eval y).cells.toList))=Qz (List.take es (List.drop (pre.length*es) cs.toList)) k (a.eval y).cells.toList:=by
     apply Cg
     intro j
     unfold Qz
     have hcl:cs.toList.length=cs.size:=Ob
     have t1:(List.take (pre.length*es+k) cs.toList).length=pre.length*es+k:=by simp;omega
     have t2:(List.take k (List.take es (List.drop (pre.length*es) cs.toList))).length=k:=by simp;omega
     rw[Ar]
     split
     .rename_i hj
      rw[Ap]
      by_cases c1:j<k
      .rw[Aw,Aw,BN U,BN U,CY U,CY c1,CY hj,Ap]
      .by_cases c2:j<k+vs.length
       .rw[Aw,Aw,BR U,BN U,BR U,BN U,t1,t2]
        congr 1;omega
       .rw[BR (by simp;omega),BR (by simp;omega),Ap,Ap,Ar,Ap]
        simp only[Ab,t1,t2,hL]
        grind
     .grind
    simp only[Qz,hL]at this heq |-
    simp_all
mutual
def AV.closed(ks:Y Name):AV->AH
 |.p _=>true
 |.agg cs=>AV.closedL ks cs
 |.TM m _=>ks.contains m
 |.own m _=>ks.contains m
 |.aref m _ _ _=>ks.contains m
 |.view m _ _ _=>ks.contains m
 |.cut m _ _=>ks.contains m
 |.eptr _=>true
 |.tup vs=>AV.closedL ks vs
 |.clo _ fs caps=>AV.closedL ks fs && AV.closedL ks caps
 |.oref _ m=>ks.contains m
 |.err _=>true
 |.ub=>true
 |.any=>true
def AV.closedL(ks:Y Name):Y AV->AH
 |[]=>true
 |x::xs=>AV.closed ks x && AV.closedL ks xs
end
mutual
def AV.closed_has:∀{x:AV},x.closed ks=true->x.has n=true->n∈ks
 |.p _,_,h=>by simp[AV.has]at h
 |.agg cs,h,h'=>AV.closedL_has (xs:=cs) (by simpa only[AV.closed]using h) (by simpa only[AV.has]using h')
 |.TM m _,h,h'=>by simp only[AV.has,beq_iff_eq]at h';subst h';simpa [AV.closed]using h
 |.own m _,h,h'=>by simp only[AV.has,beq_iff_eq]at h';subst h';simpa [AV.closed]using h
 |.view m _ _ _,h,h'=>by simp only[AV.has,beq_iff_eq]at h';subst h';simpa [AV.closed]using h
 |.cut m _ _,h,h'=>by simp only[AV.has,beq_iff_eq]at h';subst h';simpa [AV.closed]using h
 |.aref m _ _ _,h,h'=>by simp only[AV.has,beq_iff_eq]at h';subst h';simpa [AV.closed]using h
 |.eptr _,_,h=>by simp[AV.has]at h
 |.tup vs,h,h'=>AV.closedL_has (xs:=vs) (by simpa only[AV.closed]using h) (by simpa only[AV.has]using h')
 |.clo _ fs caps,h,h'=>by
  simp only[AV.closed,bae]at h
  simp only[AV.has,Bz]at h'
  rcases h' with h'|h'
  .exact AV.closedL_has h.1 h'
  .exact AV.closedL_has h.2 h'
 |.oref _ m,h,h'=>by simp only[AV.has,beq_iff_eq]at h';subst h';simpa [AV.closed]using h
 |.err _,_,h=>by simp[AV.has]at h
 |.ub,_,h=>by simp[AV.has]at h
 |.any,_,h=>by simp[AV.has]at h
def AV.closedL_has:∀{xs:Y AV},AV.closedL ks xs=true->AV.hasL n xs=true->n∈ks
 |[],_,h=>by simp[AV.hasL]at h
 |x::xs,h,h'=>by
  simp only[AV.closedL,bae]at h
  simp only[AV.hasL,Bz]at h'
  rcases h' with h'|h'
  .exact AV.closed_has h.1 h'
  .exact AV.closedL_has h.2 h'
end
def AO.closed(ks:Y Name):AO->AH
 |.box cells=>AV.closedL ks cells
 |.TI _ _=>true
 |.hole _ _ row _=>AV.closedL ks row
 |.fact a _=>a.closed ks
 |.obj _=>true
def AO.closed_has{ob:AO}(h:ob.closed ks=true)(h':ob.has n=true):n∈ks:=by
 cases ob with
 |box cells=>exact AV.closedL_has h h'
 |TI es rows=>simp[AO.has]at h'
 |hole es pre row post=>exact AV.closedL_has h h'
 |fact a x=>exact AV.closed_has h h'
 |obj x=>simp[AO.has]at h'
def Qfh(pre h:Y (Name×AO))(nw:Y Name)(v:AV):AH:=
 (keys h).all (fun n=>(keys pre).contains n || nw.contains n) && nw.all (fun n=>(keys h).contains n && !(keys pre).contains n) && v.closed (keys h) && h.all (fun p=>p.2.closed (keys h))
def Qah.blk_size(h:Qah ρ H M w n ob)(hb:(ρ n).blk=some b):b<w.heap.size:=by
 cases ob with
 |box cells=>
  obtain⟨b',T,cs,h1,h2,h3,h4⟩:=h
  rw[h1]at hb;simp[Loc.blk]at hb;subst hb
  grind
 |TI es rows=>
  obtain⟨h0,h1,h2⟩:=h
  rcases h2 with h2|⟨b',T,cs,h3,h4,h5,h6⟩
  .simp[Loc.blk,h2]at hb
  .unfold Loc.blk at hb
   grind
 |hole es pre row post=>
  obtain⟨_,_,h1,b',T,cs,h3,h4,h5,_⟩:=h
  unfold Loc.blk at hb
  grind
 |fact a x=>simp[Loc.blk,h.1]at hb
 |obj x=>
  obtain⟨b',h1,h2,h3⟩:=h
  rw[h1]at hb;simp[Loc.blk]at hb;subst hb
  grind
def VQ:∀{l:Y (Nat×α)},n∈keys l->∃x,X n l=some x
 |[],h=>by simp[keys]at h
 |(k,y)::r,h=>by
  simp only[keys,AU,AZ]at h
  simp only[X]
  split
  .exact⟨y,rfl⟩
  .rename_i hne
   rcases h with h|h
   .exact absurd h.symm hne
   .exact VQ h
def Sim.after(hs:Sim Γ ρ M s a w)(hpre:∀n ob,X n pre=some ob->s.heap n=some ob)(hnw:∀n,n∈nw->s.heap n=none/\s.free n)(hok:Qfh pre h nw v=true)(ha:After ρ M w pre u v h ρ' w'):
  Sim Γ (fun m=>if (keys h).contains m then ρ' m else ρ m) (newM M ρ' h) ⟨s.slot,fun m=>match X m h with|some ob=>some ob|none=>s.heap m⟩ a w'/\
   v.R (fun m=>if (keys h).contains m then ρ' m else ρ m) (fun m=>match X m h with|some ob=>some ob|none=>s.heap m) (newM M ρ' h) w' u:=by
 simp only[Qfh,bae,AW,Bz,BT,BK,BG,Cd]at hok
 obtain⟨⟨⟨hk1,hk2⟩,hk3⟩,hk4⟩:=hok
 have hin:∀n ob,X n h=some ob->n∈keys h:=fun n ob hn=>Zu (by rw[hn];simp)
 have hstep0:Qdk ρ' (X2 h) (fun m=>if (keys h).contains m then ρ' m else ρ m) (fun m=>match X m h with|some ob=>some ob|none=>s.heap m):=fun n ob hn=>by
  change X n h=some ob at hn
  simp only[hn,BT,Ax (hin n ob hn),if_true]
  exact Zj _ _
 have hclosed:∀n,n∈keys h->X2 h n=none->(match X n h with|some ob=>some ob|none=>s.heap n)=none:=fun n hn hnone=>by
  obtain⟨x,hx⟩:=VQ hn
  change X n h=none at hnone
  simp_all
 have hconvM:∀b,newM M ρ' h b->newM M ρ' h b:=fun _ hb=>hb
 have hval:v.R (fun m=>if (keys h).contains m then ρ' m else ρ m) (fun m=>match X m h with|some ob=>some ob|none=>s.heap m) (newM M ρ' h) w' u:=
  ha.val.step (Ext.refl (fun _=>False) _) (fun _ hb=>hb.elim) (fun b _ hb=>hb) hstep0 (fun n hn hnone=>hclosed n (AV.closed_has hk3 hn) hnone)
 refine⟨?_,hval⟩
 have hlt:∀m o' b,s.heap m=some o'->(ρ m).blk=some b->b<w.heap.size/\M b:=fun m o' b h1 h2=>(hs.objs m o' h1).blk_lt hs.msize h2
 have hhad:∀n ob o',X n h=some ob->s.heap n=some o'->X n pre=some o':=fun n ob o' h1 h2=>by
  rcases hk1 n (hin n ob h1)with h3|h3
  .obtain⟨x,hx⟩:=VQ h3
   simp_all
  .simp_all
 refine hs.update (ha.ext.weaken fun b _ ⟨n,ob,h1,h2⟩=>⟨n,ob,hpre n ob h1,h2⟩) (fun b hb=>.inl hb) (fun b hb=>?_) (fun b hb=>?_) (fun n ob hn=>?_) (fun n hn=>?_) (fun n hn hn'=>?_) (fun n ob hn=>?_) (fun n m o1 o2 b h1 h2 h3 h4=>?_)
 .rcases hb with hb|⟨n,ob,h1,h2⟩
  .exact .inl hb
  .rcases ha.own n ob b h1 h2 with⟨o',h3,h4⟩|h3
   .grind
   .exact .inr h3
 .rcases hb with hb|⟨n,ob,h1,h2⟩
  .exact BD (hs.msize b hb) ha.ext.size
  .exact(ha.objs n ob h1).blk_size h2
 .cases hl:X n h with
  |none=>
   have:n∉keys h:=fun hk=>by obtain⟨x,hx⟩:=VQ hk;rw[hl]at hx;simp at hx
   simp only[hn,BT,Au this]
   exact Zj _ _
  |some ob'=>
   have hp:=hhad n ob' ob hl hn
   obtain⟨o2,h1,h2⟩:=ha.keep n ob hp
   simp_all
 .obtain⟨ob,h1,_⟩:=hs.keep n hn
  grind
 .cases hl:X n h with
  |none=>simp[hl,hn]at hn'
  |some ob=>
   rcases hk1 n (hin n ob hl)with h3|h3
   .obtain⟨x,hx⟩:=VQ h3
    simp_all
   .exact(hnw n h3).2
 .cases hl:X n h with
  |none=>
   have hk:n∉keys h:=fun hk=>by obtain⟨x,hx⟩:=VQ hk;rw[hl]at hx;simp at hx
   simp only[hl]at hn
   refine .inl ⟨hn,by simp[hk],fun b hb=>?_⟩
   refine ha.ext.same b (hlt n ob b hn hb).1 (fun⟨m,o',g1,g2⟩=>?_)
   have:=hs.inj n m ob o' b hn (hpre m o' g1) hb g2
   subst this
   obtain⟨o2,h1,_⟩:=ha.keep n o' g1
   simp_all
  |some ob'=>
   simp only[hl]at hn
   cases hn
   have hk:=hin n ob hl
   refine .inr ⟨?_,fun b hb=>?_⟩
   .have h0:=ha.objs n ob hl
    refine h0.step (Ext.refl (fun _=>False) _) (fun _ hb=>hb.elim) (fun b _ hb=>hb) (fun b hb=>hb) hstep0 (fun m hm hnone=>?_) (by simp[hk]) (fun b _=>rfl) (fun b hb=>?_)
    .exact hclosed m (AO.closed_has (hk4 _ (Q5 hl)) hm) hnone
    .rcases hb with hb|⟨n,ob,h1,h2⟩
     .exact BD (hs.msize b hb) ha.ext.size
     .exact(ha.objs n ob h1).blk_size h2
   .simp only[BT,Ax hk,if_true]at hb
    rcases ha.own n ob b hl hb with⟨o',h3,h4⟩|h3
    .simp_all
    .exact .inr (AY hs.ext.size h3)
 .cases hl:X n h with
  |none=>
   have hk:n∉keys h:=fun hk=>by obtain⟨x,hx⟩:=VQ hk;rw[hl]at hx;simp at hx
   simp only[hl]at h1
   simp only[BT,Au hk,Bj,if_false]at h3
   cases hl':X m h with
   |none=>
    have hk':m∉keys h:=fun hk=>by obtain⟨x,hx⟩:=VQ hk;rw[hl']at hx;simp at hx
    simp only[hl']at h2
    simp only[BT,Au hk',Bj,if_false]at h4
    exact hs.inj n m o1 o2 b h1 h2 h3 h4
   |some ob'=>
    have hk':=hin m ob' hl'
    simp only[BT,Ax hk',if_true]at h4
    exfalso
    rcases ha.own m ob' b hl' h4 with⟨o',g1,g2⟩|g
    .have:=hs.inj n m o1 o' b h1 (hpre m o' g1) h3 g2
     simp_all
    .grind
  |some ob=>
   have hk:=hin n ob hl
   simp only[BT,Ax hk,if_true]at h3
   cases hl':X m h with
   |none=>
    have hk':m∉keys h:=fun hk=>by obtain⟨x,hx⟩:=VQ hk;rw[hl']at hx;simp at hx
    simp only[hl']at h2
    simp only[BT,Au hk',Bj,if_false]at h4
    exfalso
    rcases ha.own n ob b hl h3 with⟨o',g1,g2⟩|g
    .have:=hs.inj m n o2 o' b h2 (hpre n o' g1) h4 g2
     simp_all
    .grind
   |some ob'=>
    have hk':=hin m ob' hl'
    simp only[BT,Ax hk',if_true]at h4
    exact ha.inj n m ob ob' b hl hl' h3 h4
def Sim.grounded(hs:Sim Γ ρ M s a w)(hpre:∀n ob,X n pre=some ob->s.heap n=some ob):
  Ground Γ.G w (fun b=>∃n o,X n pre=some o/\(ρ n).blk=some b):=
 ⟨hs.ground.laid,AY hs.ground.size hs.ext.size,fun b hb=>by
  rw[hs.ext.same b (BD hb hs.ground.size) (fun hB=>by have:=hs.ground.out b hB;omega)];exact hs.ground.same b hb,fun b ⟨n,o,hn,hb⟩=>by
  rcases hs.own0 n o b (hpre n o hn) hb with⟨h1,h2⟩|h1
  .exact hs.ground.out b ⟨n,h1,h2⟩
  .exact AY hs.ground.size h1⟩
def Qlt{hrd:Y (Nat×AV)}(hrun:∀(Γ:Ctx) (ρ:Name->Loc) (M:Nat->Prop) (s:AS) (a:Act) (w:AG),Sim Γ ρ M s a w->s.holds ⟨rd,pre,v,h,nw⟩->∃us:Y AE,AV.Ts ρ s.heap M w args us/\(execOp a.eval o).run P w=.ok (.enter f us.toArray) w)(hspec:WT P f args pre v h)(hok:Qfh pre h nw v=true):TE P o ⟨rd,pre,v,h,nw⟩:=by
 intro Γ ρ M s a w K Q hs hh hd hK
 obtain⟨us,h1,h2⟩:=hrun Γ ρ M s a w hs hh
 have hpre:∀n ob,X n pre=some ob->s.heap n=some ob:=fun n ob hn=>hh.hp n ob (Q5 hn)
 have hstep:Qdk ρ s.heap ρ (X2 pre):=fun n ob hn=>by
  cases hc:X2 pre n with
  |none=>cases ob<;>simp[stays]
  |some o'=>have:=hpre n o' hc;rw[hn]at this;cases this;exact Zj _ _
 have hnone:∀n,s.heap n=none->X2 pre n=none:=fun n hn=>by
  cases hc:X2 pre n with
  |none=>rfl
  |some o'=>have:=hpre n o' hc;rw[hn]at this;simp at this
 unfold Oper.wp
 rw[h2,Oper.upon_enter]
 refine(hspec Γ.G ρ M w us (hs.grounded hpre) hs.msize (AV.Ts.step (Ext.refl (fun _=>False) _) (fun _ hb=>hb.elim) (fun b _ hb=>hb) hstep (fun n _=>hnone n) h1) (fun n ob hn=>?_) (fun n m o1 o2 b g1 g2=>hs.inj n m o1 o2 b (hpre _ _ g1) (hpre _ _ g2))).mono ?_
 .refine(hs.objs n ob (hpre n ob hn)).step (Ext.refl (fun _=>False) _) (fun _ hb=>hb.elim) (fun b _ hb=>hb) (fun b hb=>hb) hstep (fun m _=>hnone m) rfl (fun _ _=>rfl) hs.msize
 .rintro e w' ⟨u,v',h',ρ',rfl,⟨rfl,rfl⟩,ha⟩
  obtain⟨k1,k2⟩:=hs.after hpre hh.nw hok ha
  exact hK _ _ _ w' ((k1.put hd (fun _=>k2)).congr (fun t=>rfl) (fun m=>rfl))
def callable(P:AF)(f:FuncId):AH:=match P.funcs[f]? with
 |some fn=>!(fn.name == "runtime.NumGoroutine") && fn.body.isSome
 |none=>false
def Qga(h:callable P f=true)(args)(w):(callFunc f args).run P w=.ok (.enter f args) w:=by
 unfold callable at h
 cases hf:P.funcs[f]? with
 |none=>simp[hf]at h
 |some fn=>
  simp only[hf,bae,BG]at h
  have hb:fn.body.isNone=false:=by cases hc:fn.body<;>simp_all
  simp only[callFunc,Sem.run_bind,run_program,Result.andThen_ok,hf,h.1,hb,Bj,if_false]
  rfl
def TE.call(ho:o.op=.call { callee:=.value (.func f),args:=argOps,argTypes:=ats })(hf:callable P f=true)(hargs:Qg0 rd argOps.toList=some args)(hspec:WT P f args pre v h)(hok:Qfh pre h nw v=true):TE P o ⟨rd,pre,v,h,nw⟩:=
 Qlt (hrd:=rd) (fun Γ ρ M s a w hs hh=>⟨argOps.toList.map a.eval,QjE hs hh hargs,by
  have e:(argOps.toList.map a.eval).toArray=argOps.map a.eval:=by rw[<-C0]
  rw[e]
  simp[execOp,ho,resolve,Deferred.ofValue,Act.eval,invoke,Qga hf]⟩) hspec hok
end
def Weak(Γ:Ctx)(s s':AS):Prop:=∀(ρ:Name->Loc) (M:Nat->Prop) (a:Act) (w:AG),Sim Γ ρ M s a w->∃ρ' M',Sim Γ ρ' M' s' a w
def TJ.weaken(s')(h:Weak Γ s s')(h':TJ P Γ c s' Q):TJ P Γ c s Q:=fun ρ M a w hs=>by
 obtain⟨ρ',M',hs'⟩:=h ρ M a w hs
 exact h' ρ' M' a w hs'
def TJ.post(h:TJ P Γ c s fun e s'=>∃s'',Weak Γ s' s''/\Q e s''):TJ P Γ c s Q:=fun ρ M a w hs=>
 wp_mono (h ρ M a w hs) fun e a' w' ⟨s',ρ',M',⟨s'',h1,h2⟩,h3⟩=>by
  obtain⟨ρ2,M2,h4⟩:=h1 ρ' M' a' w' h3
  exact⟨s'',ρ2,M2,h2,h4⟩
def Weak.refl(Γ)(s):Weak Γ s s:=fun ρ M a w h=>⟨ρ,M,h⟩
def Weak.trans(h:Weak Γ s s')(h':Weak Γ s' s''):Weak Γ s s'':=fun ρ M a w hs=>by
 obtain⟨ρ',M',h1⟩:=h ρ M a w hs
 exact h' ρ' M' a w h1
def QCF(names:Y Name)(ts:Y (Nat×AV))(hs:Y (Name×AO))(ts':Y (Nat×AV))(hs':Y (Name×AO)):Prop:=
 (ts'.map (fun p=>X p.1 ts),hs'.map (fun p=>X p.1 hs),names.all fun m=>(X m hs').isSome)=(ts'.map (fun p=>some p.2),hs'.map (fun p=>some p.2),true)
def Weak.sub(hk:Γ.names=names)(h:QCF names ts hs ts' hs'):Weak Γ (mk ts hs) (mk ts' hs'):=fun ρ M a w hsim=>by
 unfold QCF at h
 simp only[Bb,AW]at h
 obtain⟨h1,h2,h3⟩:=h
 exact⟨ρ,M,hsim.forget (fun t x hx=>Xm h1 _ (Q5 hx)) (fun t x hx=>Xm h2 _ (Q5 hx)) (fun m hm hm'=>by
  rw[hk]at hm
  have:=h3 m hm
  change X m hs'=none at hm'
  rw[hm']at this;simp at this)⟩
def PVle(x y:PV):Prop:=∀(M:Nat->Prop) (w:AG) (u:AE),x.R M w u->y.R M w u
def PVle.refl(x):PVle x x:=fun _ _ _ h=>h
def CsLe:Y PV->Y PV->Prop
 |[],[]=>True
 |x::xs,y::ys=>PVle x y/\CsLe xs ys
 |_,_=>False
def Xo:Y (Y PV)->Y (Y PV)->Prop
 |[],[]=>True
 |r::rs,q::qs=>CsLe r q/\Xo rs qs
 |_,_=>False
def CsLe.refl:∀(cs:Y PV),CsLe cs cs
 |[]=>trivial
 |x::xs=>⟨PVle.refl x,CsLe.refl xs⟩
def Xo.refl:∀(rs:Y (Y PV)),Xo rs rs
 |[]=>trivial
 |x::xs=>⟨CsLe.refl x,Xo.refl xs⟩
def Xo.append:∀{a b c d:Y (Y PV)},Xo a b->Xo c d->Xo (a++c) (b++d)
 |[],[],c,d,_,h=>h
 |x::xs,y::ys,c,d,h,h'=>⟨h.1,Xo.append h.2 h'⟩
 |[],_::_,_,_,h,_=>h.elim
 |_::_,[],_,_,h,_=>h.elim
def CsLe.length:∀{cs ds:Y PV},CsLe cs ds->cs.length=ds.length
 |[],[],_=>rfl
 |x::xs,y::ys,h=>by simp[CsLe.length h.2]
 |[],_::_,h=>h.elim
 |_::_,[],h=>h.elim
def Xo.length:∀{cs ds:Y (Y PV)},Xo cs ds->cs.length=ds.length
 |[],[],_=>rfl
 |x::xs,y::ys,h=>by simp[Xo.length h.2]
 |[],_::_,h=>h.elim
 |_::_,[],h=>h.elim
def CsLe.cells:∀{off:Nat} {cs ds:Y PV},CsLe cs ds->PV.Cells M w b off cs->PV.Cells M w b off ds
 |_,[],[],_,h=>h
 |off,x::xs,y::ys,h,h'=>by
  simp only[PV.Cells]at h' |-
  obtain⟨⟨u,hu,hr⟩,h2⟩:=h'
  exact⟨⟨u,hu,h.1 _ _ _ hr⟩,CsLe.cells h.2 h2⟩
 |_,[],_::_,h,_=>h.elim
 |_,_::_,[],h,_=>h.elim
def Xo.rows:∀{off:Nat} {cs ds:Y (Y PV)},Xo cs ds->PV.Rows M w b es off cs->PV.Rows M w b es off ds
 |_,[],[],_,h=>h
 |off,x::xs,y::ys,h,h'=>by
  simp only[PV.Rows]at h' |-
  exact⟨h.1.length ▸ h'.1,CsLe.cells h.1 h'.2.1,Xo.rows h.2 h'.2.2⟩
 |_,[],_::_,h,_=>h.elim
 |_,_::_,[],h,_=>h.elim
def PVle.sl(hf:f'=true->f=true)(h:Xo rs qs):PVle (.sl f es rs) (.sl f' es qs):=fun M w u hr=>by
 simp only[PV.R]at hr |-
 obtain⟨a,cap,h1,h2,h3,h4,h5⟩:=hr
 refine⟨a,cap,by rw[<-h.length];exact h1,by rw[<-h.length];exact h2,fun hf'=>by rw[<-h.length];exact h3 (hf hf'),h4,fun ad had hc=>?_⟩
 obtain⟨g1,g2,g3,g4⟩:=h5 ad had hc
 exact⟨g1,g2,g3,h.rows g4⟩
def PVle.full(f):PVle (.sl f es rs) (.sl false es rs):=PVle.sl (fun h=>by simp at h) (Xo.refl rs)
def PVle.nil(hf:f'=true->f=true):PVle (.sl f es []) (.sl f' es' []):=fun M w u hr=>by
 simp only[PV.R,PV.Rows]at hr |-
 obtain⟨a,cap,h1,h2,h3,h4,h5⟩:=hr
 exact⟨a,cap,h1,h2,fun hf'=>h3 (hf hf'),h4,h5⟩
mutual
inductive TW:AV->AV->Prop
 |refl (x:AV):TW x x
 |p {x y:PV} (h:PVle x y):TW (.p x) (.p y)
 |agg {xs ys:List AV} (h:Wh xs ys):TW (.agg xs) (.agg ys)
 |any {x:AV} (h:(ZV x).isSome=true) (h2:∀cs,x≠.agg cs):TW x .any
 |view (n:Name) (len:Nat):TW (.own n len) (.view n len 0 len)
inductive Wh:List AV->List AV->Prop
 |nil:Wh [] []
 |cons {x y:AV} {xs ys:List AV} (h:TW x y) (h':Wh xs ys):Wh (x::xs) (y::ys)
end
def TW.sound(h:TW x y):∀u,x.R ρ H M w u->y.R ρ H M w u:=by
 refine TW.rec (motive_1:=fun x y _=>∀u,x.R ρ H M w u->y.R ρ H M w u) (motive_2:=fun xs ys _=>∀us,AV.Rs ρ H M w xs us->AV.Rs ρ H M w ys us) ?_ ?_ ?_ ?_ ?_ ?_ ?_ h
 .exact fun x u hr=>hr
 .intro x y hxy u hr
  simp only[AV.R]at hr |-
  exact hxy _ _ _ hr
 .intro xs ys _ ih u hr
  simp only[AV.R]at hr |-
  grind
 .intro x hx hne u hr
  have:∀cs,ZV x=some cs->x.R ρ H M w u->u.oneCell'=true:=by
   intro cs hcs hr
   have h1:=Qb6 hcs hr
   cases x with
   |agg cs=>exact absurd rfl (hne cs)
   |tup vs=>simp[ZV]at hcs
   |p y=>simp only[AV.R]at hr;exact hr.flat
   |oref b n=>simp only[AV.R]at hr;exact hr.1
   |TM n k=>simp only[AV.R]at hr;exact hr.1
   |own n k=>simp only[AV.R]at hr;exact hr.1
   |aref n a b c=>simp only[AV.R]at hr;exact hr.1
   |view n a b c=>simp only[AV.R]at hr;exact hr.1
   |cut n a b=>simp only[AV.R]at hr;exact hr.1
   |eptr cells=>simp only[AV.R]at hr;obtain⟨ad,rfl,_⟩:=hr;rfl
   |clo f a b=>simp only[AV.R]at hr;obtain⟨a,c,rfl,_⟩:=hr;rfl
   |err b=>simp only[AV.R]at hr;exact hr.1
   |ub=>simp only[AV.R]at hr;obtain⟨q,rfl⟩:=hr;rfl
   |any=>simpa only[AV.R]using hr
  obtain⟨cs,hcs⟩:=Cl.1 hx
  simp only[AV.R]
  exact this cs hcs hr
 .intro n len u hr
  have hz:∀x:Addr,x.add 0=x:=fun x=>by
   obtain⟨b0,o0,s0⟩:=x
   cases s0<;>simp[Addr.add]
  simp only[AV.R]at hr |-
  refine⟨hr.1,BL _,AN _,fun o es k ho hsh=>⟨(hr.2 o es k ho hsh).1,fun e=>?_⟩⟩
  rw[(hr.2 o es k ho hsh).2 e]
  cases hb:(ρ n).base with
  |none=>simp[Qic]
  |some x=>simp[Qic,hz]
 .exact fun us h=>h
 .intro a b as1 bs _ _ ih1 ih2 us hr
  simp only[AV.Rs]at hr |-
  grind
def Qvv(h:Wh xs ys):∀us,AV.Rs ρ H M w xs us->AV.Rs ρ H M w ys us:=by
 intro us hr
 have:AV.R ρ H M w (.agg ys) (.agg us.toArray):=(TW.agg h).sound _ (by simp only[AV.R];exact⟨us.toArray,rfl,by simpa using hr⟩)
 simp only[AV.R]at this
 simp_all
inductive AOle:AO->AO->Prop
 |refl (x:AO):AOle x x
 |box {xs ys:List AV} (h:Wh xs ys):AOle (.box xs) (.box ys)
 |TI {es:Nat} {rs qs:List (List PV)} (h:Xo rs qs):AOle (.TI es rs) (.TI es qs)
 |hole {es:Nat} {pre post:List (List PV)} {xs ys:List AV} (h:Wh xs ys):AOle (.hole es pre xs post) (.hole es pre ys post)
 |focus {es:Nat} {rows pre post:List (List PV)} {r:List PV} {row:List AV} (hr:rows=pre++r::post) (hrow:row=r.map .p):AOle (.TI es rows) (.hole es pre row post)
 |unfocus {es:Nat} {rows pre post:List (List PV)} {r:List PV} {row:List AV} (hr:rows=pre++r::post) (hrow:row=r.map .p):AOle (.hole es pre row post) (.TI es rows)
def TsLe:Y (Nat×AV)->Y (Nat×AV)->Prop
 |[],[]=>True
 |(k,x)::r,(j,y)::q=>k=j/\TW x y/\TsLe r q
 |_,_=>False
def HsLe:Y (Name×AO)->Y (Name×AO)->Prop
 |[],[]=>True
 |(k,x)::r,(j,y)::q=>k=j/\AOle x y/\HsLe r q
 |_,_=>False
def TsLe.X:∀{ts ts':Y (Nat×AV)},TsLe ts ts'->∀t y,AM.X t ts'=some y->∃x,AM.X t ts=some x/\TW x y
 |[],[],_,t,y,h=>by simp[AM.X]at h
 |(k,x)::r,(j,y0)::q,h,t,y,hy=>by
  obtain⟨rfl,h2,h3⟩:=h
  simp only[AM.X]at hy |-
  split at hy
  .rename_i e;cases hy;exact⟨x,by simp[e],h2⟩
  .rename_i e;simp only[e,if_false];exact TsLe.X h3 t y hy
 |[],_::_,h,_,_,_=>h.elim
 |_::_,[],h,_,_,_=>h.elim
def HsLe.X:∀{ts ts':Y (Name×AO)},HsLe ts ts'->∀t,(∀y,AM.X t ts'=some y->∃x,AM.X t ts=some x/\AOle x y)/\(∀x,AM.X t ts=some x->∃y,AM.X t ts'=some y/\AOle x y)
 |[],[],_,t=>by simp[AM.X]
 |(k,x)::r,(j,y0)::q,h,t=>by
  obtain⟨rfl,h2,h3⟩:=h
  simp only[AM.X]
  split
  .exact⟨fun y hy=>by cases hy;exact⟨x,rfl,h2⟩,fun y hy=>by cases hy;exact⟨y0,rfl,h2⟩⟩
  .exact HsLe.X h3 t
 |[],_::_,h,_=>h.elim
 |_::_,[],h,_=>h.elim
def Wh.len(h:Wh xs ys):xs.length=ys.length:=by
 have:=Wh.rec (motive_1:=fun _ _ _=>True) (motive_2:=fun xs ys _=>xs.length=ys.length) (by intros;trivial) (by intros;trivial) (by intros;trivial) (by intros;trivial) (by intros;trivial) (by rfl) (by intros;simp_all) h
 exact this
def XR(h1:o'.shape=some (es,k))(h2:o2.shape=some (es,k))(hs:stays o l (some o') l'):stays o l (some o2) l':=by
 cases o<;>cases o'<;>cases o2<;>simp only[stays,AO.shape,reduceCtorEq,AP,Bb]at h1 h2 hs |-
 all_goals simp_all
def Qrz(hb:w.heap[b]?=some (.cells cs T (0,0)))(hl:r.length=es)(hk:k+es<=cs.size):
  AV.Rs ρ H M w (r.map .p) ((cs.toList.drop k).take es)↔PV.Cells M w b k r:=by
 constructor
 .intro h
  refine PV.Cells.of_get fun j c hj=>?_
  obtain⟨u,q1,q2,q3⟩:=h.get j (.p c) (by rw[Bm,hj];rfl)
  refine⟨u,?_,by simpa only[AV.R]using q3⟩
  have hjl:j<es:=by rw[<-hl];exact(Az.1 hj).1
  rw[Ar,iB hjl,Ap]at q1
  unfold World.cell?
  simp_all
 .intro h
  refine AV.Rs.of_get (by simp;omega) fun j x u hj hu=>?_
  rw[Bm]at hj
  cases hr:r[j]? with
  |none=>rw[hr]at hj;simp at hj
  |some c=>
   rw[hr]at hj;simp at hj;subst hj
   obtain⟨u',q1,q2⟩:=h.get j c hr
   have hjl:j<es:=by rw[<-hl];exact(Az.1 hr).1
   rw[Ar,iB hjl,Ap]at hu
   unfold World.cell? at q1
   simp at q1
   have:u'=u:=by
    simp_all
   subst this
   exact⟨q2.flat,by simpa only[AV.R]using q2⟩
def Qob:PV.Rows M w b es 0 (pre++r::post)↔PV.Rows M w b es 0 pre/\(r.length=es/\PV.Cells M w b (pre.length*es) r)/\PV.Rows M w b es ((pre.length+1)*es) post:=by
 constructor
 .intro h
  refine⟨PV.Rows.of_get fun i x hx=>?_,?_,PV.Rows.of_get fun i x hx=>?_⟩
  .exact h.get i x (by rw[BN (Az.1 hx).1];exact hx)
  .have:=h.get pre.length r Ob
   simpa using this
  .have:=h.get (pre.length+1+i) x (by rw[BR U,show pre.length+1+i - pre.length=i+1 by omega];simpa using hx)
   grind
 .rintro⟨h1,h2,h3⟩
  refine PV.Rows.of_get fun i x hx=>?_
  rcases Ay i pre.length with h|h
  .rw[BN h]at hx;exact h1.get i x hx
  .rw[BR h]at hx
   cases hd:i - pre.length with
   |zero=>
    grind
   |succ m=>
    rw[hd]at hx;simp at hx
    have:=h3.get m x hx
    rw[show i=pre.length+1+m by omega,Ah,Av];exact this
def Qla(h:AOle o' o2)(hs:stays o l (some o') l'):stays o l (some o2) l':=by
 cases h with
 |refl=>exact hs
 |box h=>cases o<;>simp only[stays]at hs|-<;>exact hs
 |TI h=>cases o<;>simp only[stays]at hs|-<;>first|exact hs|(rw[<-h.length];exact hs)
 |hole h=>exact XR rfl rfl hs
 |focus hr hrow=>subst hr;exact XR (es:=_) (k:=_) rfl (by simp[AO.shape];omega) hs
 |unfocus hr hrow=>subst hr;exact XR (es:=_) (k:=_) rfl (by simp[AO.shape];omega) hs
def Weak.le(h1:TsLe ts ts')(h2:HsLe hs hs'):Weak Γ (mk ts hs) (mk ts' hs'):=fun ρ M a w h=>by
 have hst:Qdk ρ (mk ts hs).heap ρ (mk ts' hs').heap:=fun n ob hn=>by
  obtain⟨y,hy,hle⟩:=(h2.X n).2 ob hn
  change stays ob (ρ n) (AM.X n hs') (ρ n)
  rw[hy]
  exact Qla hle (Zj _ _)
 have hnn:∀n,(mk ts hs).heap n=none->(mk ts' hs').heap n=none:=fun n hn=>by
  cases hc:(mk ts' hs').heap n with
  |none=>rfl
  |some y=>
   obtain⟨x,hx,_⟩:=(h2.X n).1 y hc
   change AM.X n hs=none at hn
   rw[hx]at hn;simp at hn
 have hconv:∀{x:AV} {u:AE},x.R ρ (mk ts hs).heap M w u->x.R ρ (mk ts' hs').heap M w u:=fun hr=>
  hr.step (Ext.refl (fun _=>False) _) (fun _ hb=>hb.elim) (fun b _ hb=>hb) hst (fun n _=>hnn n)
 have hconvs:∀{xs:Y AV} {us:Y AE},AV.Rs ρ (mk ts hs).heap M w xs us->AV.Rs ρ (mk ts' hs').heap M w xs us:=fun hr=>
  hr.step (Ext.refl (fun _=>False) _) (fun _ hb=>hb.elim) (fun b _ hb=>hb) hst (fun n _=>hnn n)
 refine⟨ρ,M,h.n,h.d,fun t y hy=>?_,fun n y hy=>?_,fun n m o o' b g1 g2=>?_,fun n o b g1 g2=>?_,fun n hn=>?_,h.ext,h.mext,h.msize,h.m0,h.ground⟩
 .obtain⟨x,hx,hle⟩:=h1.X t y hy
  obtain⟨u,hu,hr⟩:=h.slots t x hx
  exact⟨u,hu,hle.sound u (hconv hr)⟩
 .obtain⟨x,hx,hle⟩:=(h2.X n).1 y hy
  have hobj:=h.objs n x hx
  have hobj':Qah ρ (mk ts' hs').heap M w n x:=by
   cases x with
   |box cells=>obtain⟨b,T,cs,k1,k2,k3,k4⟩:=hobj;exact⟨b,T,cs,k1,k2,k3,hconvs k4⟩
   |TI es rows=>exact hobj
   |hole es pre row post=>obtain⟨k0,k0',k1,b,T,cs,k3,k4,k5,k6,k7,k8,k9⟩:=hobj;exact⟨k0,k0',k1,b,T,cs,k3,k4,k5,k6,k7,hconvs k8,k9⟩
   |fact a x=>exact⟨hobj.1,hconv hobj.2⟩
   |obj x=>exact hobj
  cases hle with
  |refl=>exact hobj'
  |box hb=>obtain⟨b,T,cs,k1,k2,k3,k4⟩:=hobj';exact⟨b,T,cs,k1,k2,k3,Qvv hb _ k4⟩
  |TI hr=>
   obtain⟨k0,k1,k2⟩:=hobj'
   refine⟨k0,by rw[<-hr.length];exact k1,k2.imp id ?_⟩
   rintro⟨b,T,cs,q1,q2,q3,q4,q5⟩
   exact⟨b,T,cs,q1,q2,q3,q4,hr.rows q5⟩
  |hole hrow=>obtain⟨k0,k0',k1,b,T,cs,k3,k4,k5,k6,k7,k8,k9⟩:=hobj';exact⟨k0,by rw[<-hrow.len];exact k0',k1,b,T,cs,k3,k4,k5,k6,k7,Qvv hrow _ k8,k9⟩
  |@focus es rows pre post r row hr hrow=>
   subst hr;subst hrow
   obtain⟨k0,k1,k2⟩:=hobj'
   simp only[Ab,Ad]at k1
   rcases k2 with k2|⟨b,T,cs,q1,q2,q3,q4,q5⟩
   .omega
   .obtain⟨w1,w2,w3⟩:=Qob.1 q5
    have hsz:=As es k1
    rw[show ∀a c:Nat,a+(c+1)=a+1+c by intro a c;omega,Av,Av,Cz]at hsz
    exact⟨k0,by simpa using w2.1,U,b,T,cs,q1,q2,q3,q4,w1,(Qrz q3 w2.1 U).2 w2.2,w3⟩
  |@unfocus es rows pre post r row hr hrow=>
   subst hr;subst hrow
   obtain⟨k0,k0',k1,b,T,cs,k3,k4,k5,k6,k7,k8,k9⟩:=hobj'
   have hl:=k0'
   rw[AX]at hl
   have hsz:=As es k1
   rw[Av,Av,Cz]at hsz
   exact⟨k0,by simp only[Ab,Ad];omega,.inr ⟨b,T,cs,k3,k4,k5,k6,Qob.2 ⟨k7,⟨hl,(Qrz k5 hl U).1 k8⟩,k9⟩⟩⟩
 .obtain⟨x,hx,_⟩:=(h2.X n).1 o g1
  obtain⟨x',hx',_⟩:=(h2.X m).1 o' g2
  exact h.inj n m x x' b hx hx'
 .obtain⟨x,hx,_⟩:=(h2.X n).1 o g1
  exact h.own0 n x b hx g2
 .obtain⟨x,hx,hst'⟩:=h.keep n hn
  obtain⟨y,hy,hle⟩:=(h2.X n).2 x hx
  exact⟨y,hy,Qla hle hst'⟩
mutual
inductive Frz (px:Value->Prop) (n:Name) (es:Nat) (rows:List (List PV)):AV->AV->Prop
 |same {x:AV} (h:x.has n=false):Frz px n es rows x x
 |own:Frz px n es rows (.own n rows.length) (.p (.sl false es rows))
 |view {lo hi:Nat}:Frz px n es rows (.view n rows.length lo hi) (.p (.sl false es ((rows.take hi).drop lo)))
 |pin {x:Value} (h:px x):Frz px n es rows (.p (.v x)) (.p (.sl false es rows))
 |agg {xs ys:List AV} (h:FrzL px n es rows xs ys):Frz px n es rows (.agg xs) (.agg ys)
inductive FrzL (px:Value->Prop) (n:Name) (es:Nat) (rows:List (List PV)):List AV->List AV->Prop
 |nil:FrzL px n es rows [] []
 |cons {x y:AV} {xs ys:List AV} (h:Frz px n es rows x y) (h':FrzL px n es rows xs ys):FrzL px n es rows (x::xs) (y::ys)
end
def Qjp(px:AE->Prop)(n:Name)(es:Nat)(rows:Y (Y PV)):Y (Nat×AV)->Y (Nat×AV)->Prop
 |[],[]=>True
 |(k,x)::r,(j,y)::q=>k=j/\Frz px n es rows x y/\Qjp px n es rows r q
 |_,_=>False
def QAm(px:AE->Prop)(es:Nat)(rows rs qs:Y (Y PV)):Prop:=
 rs.length=qs.length/\∀(i:Nat) (r q:Y PV),rs[i]?=some r->qs[i]?=some q->r.length=q.length/\∀(j:Nat) (c d:PV),r[j]?=some c->q[j]?=some d->c=d\/∃x,px x/\c=.v x/\d=.sl false es rows
inductive OFrz (px:Value->Prop) (n:Name) (es:Nat) (rows:List (List PV)):AO->AO->Prop
 |same {x:AO} (h:x.has n=false):OFrz px n es rows x x
 |box {xs ys:List AV} (h:FrzL px n es rows xs ys):OFrz px n es rows (.box xs) (.box ys)
 |hole {es':Nat} {pre post:List (List PV)} {xs ys:List AV} (h:FrzL px n es rows xs ys):OFrz px n es rows (.hole es' pre xs post) (.hole es' pre ys post)
 |TI {es':Nat} {rs qs:List (List PV)} (h:QAm px es rows rs qs):OFrz px n es rows (.TI es' rs) (.TI es' qs)
def Qjo(px:AE->Prop)(n:Name)(es:Nat)(rows:Y (Y PV)):Y (Name×AO)->Y (Name×AO)->Prop
 |[],[]=>True
 |(k,x)::r,(j,y)::q=>k=j/\k≠n/\OFrz px n es rows x y/\Qjo px n es rows r q
 |_,_=>False
def Qjp.X:∀{ts ts':Y (Nat×AV)},Qjp px n es rows ts ts'->∀t y,AM.X t ts'=some y->∃x,AM.X t ts=some x/\Frz px n es rows x y
 |[],[],_,t,y,h=>by simp[AM.X]at h
 |(k,x)::r,(j,y0)::q,h,t,y,hy=>by
  obtain⟨rfl,h2,h3⟩:=h
  simp only[AM.X]at hy |-
  split at hy
  .rename_i e;cases hy;exact⟨x,by simp[e],h2⟩
  .rename_i e;simp only[e,if_false];exact Qjp.X h3 t y hy
 |[],_::_,h,_,_,_=>h.elim
 |_::_,[],h,_,_,_=>h.elim
def Qjo.X:∀{ts ts':Y (Name×AO)},Qjo px n es rows ts ts'->∀t,(∀y,AM.X t ts'=some y->t≠n/\∃x,AM.X t ts=some x/\OFrz px n es rows x y)/\(∀x,AM.X t ts=some x->∃y,AM.X t ts'=some y/\OFrz px n es rows x y)
 |[],[],_,t=>by simp[AM.X]
 |(k,x)::r,(j,y0)::q,h,t=>by
  obtain⟨rfl,h1,h2,h3⟩:=h
  simp only[AM.X]
  split
  .rename_i e;subst e;exact⟨fun y hy=>by cases hy;exact⟨h1,x,rfl,h2⟩,fun y hy=>by cases hy;exact⟨y0,rfl,h2⟩⟩
  .exact Qjo.X h3 t
 |[],_::_,h,_=>h.elim
 |_::_,[],h,_=>h.elim
def OFrz.stays{px:AE->Prop}{n:Name}{es:Nat}{rows:Y (Y PV)}{o o' o2:AO}{l l':Loc}(h:OFrz px n es rows o' o2)(hs:stays o l (some o') l'):AM.stays o l (some o2) l':=by
 cases h with
 |same=>exact hs
 |box h=>cases o<;>simp only[AM.stays]at hs|-<;>exact hs
 |hole h=>exact XR rfl rfl hs
 |TI h=>exact XR rfl (by simp[AO.shape,h.1]) hs
def FrzL.len(h:FrzL px n es rows xs ys):xs.length=ys.length:=by
 have:=FrzL.rec (px:=px) (n:=n) (es:=es) (rows:=rows) (motive_1:=fun _ _ _=>True) (motive_2:=fun xs ys _=>xs.length=ys.length) (by intros;trivial) (by trivial) (by intros;trivial) (by intros;trivial) (by intros;trivial) (by rfl) (by intros;simp_all) h
 exact this
def QnU(hn:n∉Γ.names)(h1:Qjp px n es rows ts ts')(h2:Qjo px n es rows hs hs')(h:Sim Γ ρ M (mk ts ((n,.TI es rows)::hs)) a w)(hpx:∀x,px x->AV.R ρ (mk ts ((n,.TI es rows)::hs)).heap M w (.own n rows.length) x):∃ρ' M',Sim Γ ρ' M' (mk ts' hs') a w:=by
 have hobj:Qah ρ (mk ts ((n,.TI es rows)::hs)).heap M w n (.TI es rows):=h.objs n _ (by simp[mk,AM.X])
 let M':Nat->Prop:=fun b=>M b/\(ρ n).blk≠some b
 have hup:∀t x,AM.X t hs=some x->t≠n->(mk ts ((n,.TI es rows)::hs)).heap t=some x:=fun t x hx hne=>by
  simp only[mk,AM.X,iA (Ag hne),hx]
 have hdown:∀t x,(mk ts ((n,.TI es rows)::hs)).heap t=some x->t≠n->AM.X t hs=some x:=fun t x hx hne=>by
  simpa only[mk,AM.X,iA (Ag hne)]using hx
 have hnn':(mk ts' hs').heap n=none:=by
  cases hc:(mk ts' hs').heap n with
  |none=>rfl
  |some y=>exact absurd rfl ((h2.X n).1 y hc).1
 have hst:Qdk ρ (mk ts ((n,.TI es rows)::hs)).heap ρ (mk ts' hs').heap:=fun m ob hm=>by
  by_cases e:m=n
  .subst e;rw[hnn'];cases ob<;>simp[AM.stays]
  .obtain⟨y,hy,hf⟩:=(h2.X m).2 ob (hdown m ob hm e)
   change stays ob (ρ m) (AM.X m hs') (ρ m)
   rw[hy]
   exact hf.stays (Zj _ _)
 have hnn:∀m,(mk ts ((n,.TI es rows)::hs)).heap m=none->(mk ts' hs').heap m=none:=fun m hm=>by
  cases hc:(mk ts' hs').heap m with
  |none=>rfl
  |some y=>
   obtain⟨hne,x,hx,_⟩:=(h2.X m).1 y hc
   simp_all
 have hMM:∀b,b<w.heap.size->M' b->M b:=fun b _ hb=>hb.1
 have hconv:∀{x:AV} {u:AE},x.R ρ (mk ts ((n,.TI es rows)::hs)).heap M w u->x.R ρ (mk ts' hs').heap M' w u:=fun hr=>
  hr.step (Ext.refl (fun _=>False) _) (fun _ hb=>hb.elim) hMM hst (fun m _=>hnn m)
 have hown:∀u,AV.R ρ (mk ts ((n,.TI es rows)::hs)).heap M w (.own n rows.length) u->AV.R ρ (mk ts' hs').heap M' w (.p (.sl false es rows)) u:=fun u hr=>by
  simp only[AV.R]at hr |-
  have hu:=(hr.2 (.TI es rows) es rows.length (by simp[mk,AM.X]) rfl).2 rfl
  obtain⟨k0,k1,k2⟩:=hobj
  simp only[PV.R]
  refine⟨(ρ n).base,(ρ n).cap,hu,k1,fun hf=>by simp at hf,fun hb=>?_,fun ad had hc=>?_⟩
  .simp_all
  .rcases k2 with k2|⟨b,T,cs,q1,q2,q3,q4,q5⟩
   .exact absurd k2 hc
   .rw[q1]at had;cases had
    refine⟨rfl,fun hm=>hm.2 (by simp[Loc.blk,hc,q1]),h.msize _ q2,?_⟩
    exact q5.mono (M':=M') (Ext.refl (fun _=>False) w) (fun _ hb=>hb.elim) hMM (fun hb=>hb) (h.msize _ q2)
 have hview:∀{lo hi:Nat},∀u,AV.R ρ (mk ts ((n,.TI es rows)::hs)).heap M w (.view n rows.length lo hi) u->AV.R ρ (mk ts' hs').heap M' w (.p (.sl false es ((rows.take hi).drop lo))) u:=fun{lo hi} u hr=>by
  simp only[AV.R]at hr |-
  obtain⟨_,hl1,hl2,hr2⟩:=hr
  have hu:=(hr2 (.TI es rows) es rows.length (by simp[mk,AM.X]) rfl).2 rfl
  obtain⟨k0,k1,k2⟩:=hobj
  simp only[PV.R,Bg,Ae,CC hl2]
  simp only[Qic]at hu
  refine⟨_,_,hu,U,fun hf=>by simp at hf,fun hb=>?_,fun ad had hc=>?_⟩
  .grind
  .rw[iA U]at had
   rcases k2 with k2|⟨b,T,cs,q1,q2,q3,q4,q5⟩
   .omega
   .rw[q1]at had
    simp only[Aa,AP]at had
    rw[Zr]at had
    subst had
    have hcap:(ρ n).cap≠0:=U
    refine⟨rfl,fun hm=>hm.2 (by simp[Loc.blk,hcap,q1]),h.msize _ q2,?_⟩
    exact((q5.take hi).drop lo).mono (M':=M') (Ext.refl (fun _=>False) w) (fun _ hb=>hb.elim) hMM (fun hb=>hb) (h.msize _ q2)
 have hfrz:∀{x y:AV},Frz px n es rows x y->∀u,x.R ρ (mk ts ((n,.TI es rows)::hs)).heap M w u->y.R ρ (mk ts' hs').heap M' w u:=by
  intro x y hxy
  refine Frz.rec (motive_1:=fun x y _=>∀u,x.R ρ (mk ts ((n,.TI es rows)::hs)).heap M w u->y.R ρ (mk ts' hs').heap M' w u) (motive_2:=fun xs ys _=>∀us,AV.Rs ρ (mk ts ((n,.TI es rows)::hs)).heap M w xs us->AV.Rs ρ (mk ts' hs').heap M' w ys us) ?_ ?_ ?_ ?_ ?_ ?_ ?_ hxy
  .simp_all
  .exact hown
  .omega
  .intro x hx u hr
   simp only[AV.R,PV.R]at hr
   simp_all
  .intro xs ys _ ih u hr
   simp only[AV.R]at hr |-
   grind
  .intro us hr;simp only[AV.Rs]at hr |-;exact hr
  .intro a b as1 bs _ _ ih1 ih2 us hr
   simp only[AV.Rs]at hr |-
   grind
 have hfrzs:∀{xs ys:Y AV},FrzL px n es rows xs ys->∀us,AV.Rs ρ (mk ts ((n,.TI es rows)::hs)).heap M w xs us->AV.Rs ρ (mk ts' hs').heap M' w ys us:=by
  intro xs ys hxy us hr
  have:AV.R ρ (mk ts' hs').heap M' w (.agg ys) (.agg us.toArray):=hfrz (Frz.agg hxy) _ (by simp only[AV.R];exact⟨us.toArray,rfl,by simpa using hr⟩)
  simp only[AV.R]at this
  simp_all
 have hblk:∀m x,m≠n->(mk ts ((n,.TI es rows)::hs)).heap m=some x->∀b,(ρ m).blk=some b->(ρ n).blk≠some b:=fun m x hne hx b hb hb'=>
  hne (h.inj m n x _ b hx (by simp[mk,AM.X];rfl) hb hb')
 refine⟨ρ,M',h.n,h.d,fun t y hy=>?_,fun m y hy=>?_,fun m m' o o' b g1 g2=>?_,fun m o b g1 g2=>?_,fun m hm=>?_,h.ext,fun b hb=>⟨h.mext b hb,fun hb'=>?_⟩,fun b hb=>h.msize b hb.1,h.m0,h.ground⟩
 .obtain⟨x,hx,hf⟩:=h1.X t y hy
  obtain⟨u,hu,hr⟩:=h.slots t x hx
  grind
 .obtain⟨hne,x,hx,hf⟩:=(h2.X m).1 y hy
  have hx':=hup m x hx hne
  have hob:=h.objs m x hx'
  have hob':Qah ρ (mk ts' hs').heap M' w m y:=by
   cases hf with
   |same hh=>
    cases y with
    |box cells=>
     obtain⟨b,T,cs,k1,k2,k3,k4⟩:=hob
     exact⟨b,T,cs,k1,⟨k2,hblk m _ hne hx' b (by rw[k1];simp[Loc.blk])⟩,k3,k4.step (Ext.refl (fun _=>False) _) (fun _ hb=>hb.elim) hMM hst (fun m _=>hnn m)⟩
    |TI es' rows'=>
     obtain⟨k0,k1,k2⟩:=hob
     refine⟨k0,k1,?_⟩
     by_cases hc:(ρ m).cap=0
     .exact .inl hc
     .rcases k2 with k2|⟨b,T,cs,q1,q2,q3,q4,q5⟩
      .exact .inl k2
      .exact .inr ⟨b,T,cs,q1,⟨q2,hblk m _ hne hx' b (by simp[Loc.blk,hc,q1])⟩,q3,q4,q5.mono (M':=M') (Ext.refl (fun _=>False) w) (fun _ hb=>hb.elim) hMM (fun hb=>hb) (h.msize _ q2)⟩
    |hole es' pre row post=>
     obtain⟨k0,k0',k1,b,T,cs,k3,k4,k5,k6,k7,k8,k9⟩:=hob
     exact⟨k0,k0',k1,b,T,cs,k3,⟨k4,hblk m _ hne hx' b (by unfold Loc.blk;rw[iA U,k3];rfl)⟩,k5,k6,k7.stepB (Ext.refl (fun _=>False) w) (fun _ hb=>hb.elim) hMM rfl,k8.step (Ext.refl (fun _=>False) _) (fun _ hb=>hb.elim) hMM hst (fun m _=>hnn m),k9.stepB (Ext.refl (fun _=>False) w) (fun _ hb=>hb.elim) hMM rfl⟩
    |fact a x=>exact⟨hob.1,hconv hob.2⟩
    |obj x=>
     obtain⟨b,k1,k2,k3⟩:=hob
     exact⟨b,k1,⟨k2,hblk m _ hne hx' b (by rw[k1];simp[Loc.blk])⟩,k3⟩
   |hole hcs=>
    obtain⟨k0,k0',k1,b,T,cs,k3,k4,k5,k6,k7,k8,k9⟩:=hob
    exact⟨k0,by rw[<-hcs.len];exact k0',k1,b,T,cs,k3,⟨k4,hblk m _ hne hx' b (by unfold Loc.blk;rw[iA U,k3];rfl)⟩,k5,k6,k7.stepB (Ext.refl (fun _=>False) w) (fun _ hb=>hb.elim) hMM rfl,hfrzs hcs _ k8,k9.stepB (Ext.refl (fun _=>False) w) (fun _ hb=>hb.elim) hMM rfl⟩
   |TI hq=>
    obtain⟨k0,k1,k2⟩:=hob
    refine⟨k0,by rw[<-hq.1];exact k1,?_⟩
    by_cases hc:(ρ m).cap=0
    .exact .inl hc
    .rcases k2 with k2|⟨b,T,cs,q1,q2,q3,q4,q5⟩
     .exact .inl k2
     .refine .inr ⟨b,T,cs,q1,⟨q2,hblk m _ hne hx' b (by simp[Loc.blk,hc,q1])⟩,q3,q4,PV.Rows.of_get fun i q hi=>?_⟩
      rename_i rs qs
      have hil:i<rs.length:=by rw[hq.1];exact(Az.1 hi).1
      obtain⟨g1,g2⟩:=q5.get i rs[i] (by simp[hil])
      obtain⟨e1,e2⟩:=hq.2 i rs[i] q (by simp[hil]) hi
      refine⟨by rw[<-e1];exact g1,PV.Cells.of_get fun j d hj=>?_⟩
      have hjl:j<rs[i].length:=by rw[e1];exact(Az.1 hj).1
      obtain⟨u,hu,hr⟩:=g2.get j rs[i][j] (by simp[hjl])
      refine⟨u,hu,?_⟩
      rcases e2 j rs[i][j] d (by simp[hjl]) hj with e|⟨x,hx,hc1,hd1⟩
      .rw[<-e]
       exact hr.mono (M':=M') (Ext.refl (fun _=>False) w) (fun _ hb=>hb.elim) hMM
      .rw[hc1]at hr
       simp only[PV.R]at hr
       have:=hown x (hpx x hx)
       simp only[AV.R]at this
       simp_all
   |box hcs=>
    obtain⟨b,T,cs,k1,k2,k3,k4⟩:=hob
    exact⟨b,T,cs,k1,⟨k2,hblk m _ hne hx' b (by rw[k1];simp[Loc.blk])⟩,k3,hfrzs hcs _ k4⟩
  exact hob'
 .obtain⟨hne,x,hx,_⟩:=(h2.X m).1 o g1
  obtain⟨hne',x',hx',_⟩:=(h2.X m').1 o' g2
  exact h.inj m m' x x' b (hup m x hx hne) (hup m' x' hx' hne')
 .obtain⟨hne,x,hx,_⟩:=(h2.X m).1 o g1
  exact h.own0 m x b (hup m x hx hne) g2
 .obtain⟨x,hx,hst'⟩:=h.keep m hm
  have hne:m≠n:=fun e=>hn (e ▸ hm)
  obtain⟨y,hy,hf⟩:=(h2.X m).2 x (hdown m x hx hne)
  exact⟨y,hy,hf.stays hst'⟩
 .rcases h.own0 n _ b (by simp[mk,AM.X];rfl) hb' with⟨k1,_⟩|k1
  .exact hn k1
  .have:=h.m0 b hb;omega
def Weak.freeze(hn:n∉Γ.names)(h1:Qjp (fun _=>False) n es rows ts ts')(h2:Qjo (fun _=>False) n es rows hs hs'):
  Weak Γ (mk ts ((n,.TI es rows)::hs)) (mk ts' hs'):=fun ρ M a w h=>QnU hn h1 h2 h (fun _ hx=>hx.elim)
def Weak.freezeP(hn:n∉Γ.names)(hn0:n0∉Γ.names)(hne:n≠n0)(h0:X n0 hs=none)(h1:Qjp (fun y=>y=x) n es rows ts ts')(h2:Qjo (fun y=>y=x) n es rows hs hs'):
  Weak Γ (mk ts ((n,.TI es rows)::(n0,.fact (.own n rows.length) x)::hs)) (mk ts' hs'):=fun ρ M a w h=>by
 have hf:=h.objs n0 (.fact (.own n rows.length) x) (by simp[mk,X,hne])
 have hs2:Sim Γ ρ M (mk ts ((n,.TI es rows)::hs)) a w:=h.forget (fun t y ht=>ht) (fun m o hm=>by
   simp only[mk,X]at hm |-
   split at hm
   .rename_i e;simp[e,hm]
   .rename_i e
    by_cases e':n0=m
    .subst e';rw[h0]at hm;simp at hm
    .simp[e,e',hm]) (fun m hm=>by
   obtain⟨o,g1,_⟩:=h.keep m hm
   simp only[mk,X]at g1 |-
   split at g1
   .rename_i e;simp[e]
   .rename_i e
    by_cases e':n0=m
    .subst e';exact absurd hm hn0
    .simp[e']at g1;simp[e,g1])
 refine QnU hn h1 h2 hs2 (fun y hy=>?_)
 subst hy
 have:=hf.2
 simp only[AV.R]at this |-
 refine⟨this.1,fun o es' k ho hk=>?_⟩
 have ho':o=.TI es rows:=by simpa [mk,X]using ho.symm
 subst ho'
 exact this.2 _ es' k (by simp[mk,X]) hk
open Go
def QoR(n:Nat)(names:Y Name)(L:Y Row)(ts:Y (Nat×AV))(hs:Y (Name×AO))(ts':Y (Nat×AV))(hs':Y (Name×AO)):Y (I AV)×Y (I AO)×AH:=
 match got n L ts hs with
 |(a,b,c,tf,hf)=>(a++ts'.map (fun p=>X p.1 tf),b++hs'.map (fun p=>X p.1 hf),c && names.all fun m=>(X m hs').isSome)
def QoS(L:Y Row)(ts':Y (Nat×AV))(hs':Y (Name×AO)):Y (I AV)×Y (I AO)×AH:=(Qam L++ts'.map (fun p=>some p.2),Qal L++hs'.map (fun p=>some p.2),true)
def subL(names:Y Name)(ts:Y (Nat×AV))(hs:Y (Name×AO))(ts':Y (Nat×AV))(hs':Y (Name×AO)):Y (I AV)×Y (I AO)×AH:=
 (ts'.map (fun p=>X p.1 ts),hs'.map (fun p=>X p.1 hs),names.all fun m=>(X m hs').isSome)
def subR(ts':Y (Nat×AV))(hs':Y (Name×AO)):Y (I AV)×Y (I AO)×AH:=(ts'.map (fun p=>some p.2),hs'.map (fun p=>some p.2),true)
section
def ZT.p(hi:ops[i]?=some o)(hd:o.dst=d)(hg:o.guard=none)(h:TE P o e):ZT P ops i d e:=by
 subst hd;exact ZT.plain hi hg h
def ZT.k{j g:Nat}(hi:ops[i]?=some o)(hd:o.dst=d)(hg:o.guard=some (j,b))(hj:ops[j]?=some oj)(hjd:oj.dst=some g)(hb:(!b)=b'):
  ZT P ops i d ⟨[(g,.p (.v (.bool b')))],[],.tup [],[],[]⟩:=by
 subst hd;subst hb;exact ZT.skipped hi hg hj hjd
end
section
def TJ.region'{id:Nat}(hn:Γ.n=n)(hk:Γ.names=names)(L)(hst:VH P ops 0 L)(ts')(hs':Y (Name×AO))(hf:QoR n names L ts hs ts' hs'=QoS L ts' hs')(h:Q .normal (mk ts' hs')):TJ P Γ (.region id ops false) (mk ts hs) Q:=
 TJ.region hn hk L hst hf h
def TJ.draw'{id:Nat}(hn:Γ.n=n)(hk:Γ.names=names)(hmode:P.follows .mixedOrders=true)(L)(hst:VH P ops 0 L)(ts')(hs':Y (Name×AO))(hf:QoR n names L ts hs ts' hs'=QoS L ts' hs')(hind:indep ops L ts hs=true)(h:Q .normal (mk ts' hs')):TJ P Γ (.region id ops true) (mk ts hs) Q:=
 TJ.draw hn hk (by rw[hmode,Bc]) L hst hf hind h
def Weak.sub'(hk:Γ.names=names)(h:subL names ts hs ts' hs'=subR ts' hs'):Weak Γ (mk ts hs) (mk ts' hs'):=Weak.sub hk h
def TJ.s_region{id:Nat}(hn:Γ.n=n)(hk:Γ.names=names)(L)(hst:VH P ops 0 L)(ts')(hs':Y (Name×AO))(hf:QoR n names L ts hs ts' hs'=QoS L ts' hs')(h:TJ P Γ y (mk ts' hs') Q):TJ P Γ (.seq (.region id ops false) y) (mk ts hs) Q:=
 TJ.seq (TJ.region hn hk L hst hf h)
def TJ.s_draw{id:Nat}(hn:Γ.n=n)(hk:Γ.names=names)(hmode:P.follows .mixedOrders=true)(L)(hst:VH P ops 0 L)(ts')(hs':Y (Name×AO))(hf:QoR n names L ts hs ts' hs'=QoS L ts' hs')(hind:indep ops L ts hs=true)(h:TJ P Γ y (mk ts' hs') Q):TJ P Γ (.seq (.region id ops true) y) (mk ts hs) Q:=
 TJ.seq (TJ.draw hn hk (by rw[hmode,Bc]) L hst hf hind h)
end
section
def Res.agg{P:AF}{s:AS}{rs:Array ResultVar}{t:Nat}{T:AD}{n:Name}{cells:Y AV}(hr:rs=#[.cell t T])(h1:s.slot t=some (.TM n 0))(h2:s.heap n=some (.box cells))(hT:aggT P T=true)(hz:Zl P T=some cells.length):Res P s rs (.agg cells):=by
 subst hr;unfold Res;simp only[List.size_toArray,List.length_singleton,if_true];exact⟨.agg cells,[],rfl,⟨n,cells,h1,h2,.inl ⟨hT,hz,rfl⟩⟩,rfl⟩
def Res.many(hr:Nat.beq rs.size 1=false)(h:Res1s P s rs.toList vs):Res P s rs (.tup vs):=by
 have:¬rs.size=1:=fun e=>by rw[e]at hr;simp at hr
 unfold Res;rw[iA this];exact⟨vs,rfl,h⟩
def Res1.tmp{P:AF}{s:AS}{t:Nat}{v:AV}(hv:s.slot t=some v):Res1 P s (.tmp t) v:=hv
def Res1.agg{P:AF}{s:AS}{t:Nat}{T:AD}{n:Name}{cells:Y AV}(h1:s.slot t=some (.TM n 0))(h2:s.heap n=some (.box cells))(hT:aggT P T=true)(hz:Zl P T=some cells.length):Res1 P s (.cell t T) (.agg cells):=⟨n,cells,h1,h2,.inl ⟨hT,hz,rfl⟩⟩
def Res1s.nil:Res1s P s [] []:=rfl
def Res1s.cons(h:Res1 P s r v)(h':Res1s P s rs vs):Res1s P s (r::rs) (v::vs):=⟨v,vs,rfl,h,h'⟩
def Qkc{P:AF}{fn:Func}{pre hs h':Y (Name×AO)}{ts:Y (Nat×AV)}{e:Exit}{post:AV->Y (Name×AO)->Prop}{v:AV}(he:e=.normal\/e=.ret)(hr:Res P (mk ts hs) fn.results v)(h1:h'.map (fun p=>X p.1 hs)=h'.map (fun p=>some p.2))(h2:(keys pre).all (fun n=>(X n h').isSome)=true)(hp:post v h'):
  (e=.normal\/e=.ret)/\∃v h',Res P (mk ts hs) fn.results v/\(∀n o,X n h'=some o->(mk ts hs).heap n=some o)/\(∀n,n∈keys pre->X n h'≠none)/\post v h':=
 ⟨he,v,h',hr,fun n o hn=>Xm h1 _ (Q5 hn),fun n hn hc=>by
  have:=AW.1 h2 n hn
  rw[hc]at this;simp at this,hp⟩
end
def Qh(h:N s):Qsv N Q .normal s:=h
def Xn(h:Q (.exit k) s):Qsv N Q (.exit k) s:=h
def Qq6(h:Q .ret s):Qsv N Q .ret s:=h
def YP{id:Nat}(h:Q .normal s):QnJ id Q .normal s:=h
def Qat{id:Nat}(h:Q .normal s):QnJ id Q (.exit id) s:=by simp only[QnJ,if_true];exact h
abbrev vI(n:Int):AV:=.p (.v (.int .i64 n))
abbrev vB(b:AH):AV:=.p (.v (.bool b))
abbrev pI(n:Int):PV:=.v (.int .i64 n)
abbrev pK(k:IntKind)(n:Int):PV:=.v (.int k n)
abbrev pB(b:AH):PV:=.v (.bool b)
abbrev pS(s:AJ):PV:=.v (.string s)
namespace D
abbrev cInt(n:Int):Y PV:=[pI n]
abbrev cK(k:IntKind)(n:Int):Y PV:=[pK k n]
abbrev cBool(b:AH):Y PV:=[pB b]
abbrev cStr(s:AJ):Y PV:=[pS s]
end D
def V[AK α](l:Y α)(i:Nat):α:=l.getD i default
def QCx[AK α]{l:Y α}(h:i<l.length):l[i]?=some (V l i):=by
 simp[V,AQ,AR h]
def Qf[AK α]{l:Y α}(h:i<l.length):V l i∈l:=CV (QCx h)
def QoA(x y:AJ):(x.toList == y.toList)=decide (x=y):=by
 rw[ByteArray.toList_eq,ByteArray.toList_eq]
 by_cases h:x=y
 .subst h;simp
 .have:¬x.data.toList=y.data.toList:=fun e=>h (by
   cases x;cases y
   have e':=Array.toList_inj.1 e
   simp only at e'
   rw[e'])
  rw[Au h]
  exact beq_eq_false_iff_ne.2 this
section
def TE.eqlS(ho:o.op=.binOp .eql T x y T')(hx:Qi rd x=some (.p (.v (.string a))))(hy:Qi rd y=some (.p (.v (.string b))))(hr:decide (a=b)=q):TE P o ⟨rd,[],.p (.v (.bool q)),[],[]⟩:=
 TE.bin ho hx hy (eqGuard_at_string ..) (fun w=>by simp only[binOp,Op.stringOp,QoA,hr];rfl) rfl
def TE.neqS(ho:o.op=.binOp .neq T x y T')(hx:Qi rd x=some (.p (.v (.string a))))(hy:Qi rd y=some (.p (.v (.string b))))(hr:decide (a≠b)=q):TE P o ⟨rd,[],.p (.v (.bool q)),[],[]⟩:=
 TE.bin ho hx hy (eqGuard_at_string ..) (fun w=>by rw[<-hr];simp only[binOp,Op.stringOp,QoA,decide_not];rfl) rfl
def Qhq(h:P.underlying T=some .bool):(Op.equal T (.bool a) (.bool b)).run P w=.ok (a == b) w:=by
 unfold Op.equal
 rw[show Op.maxDepth=(Op.maxDepth - 1)+1 from rfl]
 simp[Op.equalIn,run_underlying h]
def TE.eqlB(ho:o.op=.binOp .eql T x y T')(hT:P.underlying T=some .bool)(hx:Qi rd x=some (.p (.v (.bool a))))(hy:Qi rd y=some (.p (.v (.bool b))))(hr:decide (a=b)=q):TE P o ⟨rd,[],.p (.v (.bool q)),[],[]⟩:=
 TE.bin ho hx hy (eqGuard_at_bool ..) (fun w=>by rw[<-hr];simp only[binOp,Sem.run_bind,Qhq hT,Result.andThen_ok];cases a<;>cases b<;>rfl) rfl
def TE.neqB(ho:o.op=.binOp .neq T x y T')(hT:P.underlying T=some .bool)(hx:Qi rd x=some (.p (.v (.bool a))))(hy:Qi rd y=some (.p (.v (.bool b))))(hr:decide (a≠b)=q):TE P o ⟨rd,[],.p (.v (.bool q)),[],[]⟩:=
 TE.bin ho hx hy (eqGuard_at_bool ..) (fun w=>by rw[<-hr];simp only[binOp,Sem.run_bind,Qhq hT,Result.andThen_ok];cases a<;>cases b<;>rfl) rfl
end
open Go
section
def TE.buildOwn(ho:o.op=.buildSlice T len parts)(hT:W9 P T=some e)(hz:Zl P e=some es)(hes:Nat.ble 1 es=true)(hzr:Qag P e=some zr)(hzl:zr.length=es)(hsz:Nat.ble (len*es) 16777216=true)(hrows:Qdf rd es parts.toList (List.replicate len zr)=some rows)(hr:rows.length=r):
  TE P o ⟨rd,[],.own n r,[(n,.TI es rows)],[n]⟩:=
 TE.put fun Γ ρ M s a w hs hh=>by
  subst hr
  obtain⟨hn,hfree⟩:=hh.nw n Ob
  unfold Qag at hzr
  split at hzr
  .rename_i cs hcs
   obtain⟨i,z,hi,hz',hall,rfl⟩:=Ui hcs
   have hzR:AV.Rs ρ s.heap M w (pcells zr) z.cells.toList:=by
    rw[<-QaC hzr];exact Xq hall
   have hzlen:z.cells.toList.length=es:=by have:=hzR.length;rw[this];simp[pcells,hzl]
   have hes':=Am hes
   have h0:=Qm4 z.cells.toList len es hzlen hes'
   obtain⟨cr,cells,g1,g2,g3,g4,g5⟩:=QlO hs hh parts.toList (List.replicate len zr) rows (List.replicate len z.cells.toList) ((Array.range (len*es)).map (fun i=>z.cells[i % z.cells.size]!))
    (RR.replicate hzR len) (fun r hr=>by rw[Cy hr];exact hzl) (by simpa using h0) hrows
   have hlen:rows.length=len:=by simpa using g5
   have hrun:(execOp a.eval o).run P w=.ok (.value (.slice (some ⟨w.heap.size,0,none⟩) len len)) (w.alloc (.cells cells e)):=by
    have h2:¬(len*es>16777216):=by have:=Am hsz;omega
    have hparts:((parts.map fun(i,x)=>(i,a.eval x)):Array (Nat×AE)).toList=parts.toList.map fun p=>(p.1,a.eval p.2):=Ob
    simp only[execOp,ho,Instr.buildSlice,Sem.run_bind,run_underlying (Qq hT),Result.andThen_ok,run_sizeOf hz,h2,if_false]
    simp only[hparts]
    by_cases h5:len*es=0
    .have g1':=g1
     rw[h5]at g1'
     simp only[Array.range_zero',Array.map_empty]at g1'
     simp[h5,g1',newRow,Array.range_zero']
    .simp only[h5,if_false,Sem.run_bind,YR hi hz',Result.andThen_ok,Sem.run_pure,g1]
     simp[h2,newRow,g1,YR hi hz']
   have he:=Ext.alloc w (.cells cells e)
   refine⟨_,_,(fun m=>if m=n then⟨some ⟨w.heap.size,0,none⟩,len⟩else ρ m),(fun b=>M b\/b=w.heap.size),hrun,hs.update1 (he.weaken fun _ _ hb=>hb.elim) (fun b hb=>.inl hb) (fun b hb=>hb.imp id (fun e=>U)) (fun b hb=>?_) (fun o' ho'=>by rw[hn]at ho';simp at ho') (fun _=>hfree) ?_ (fun b hb=>.inr ?_),?_⟩
   .rcases hb with hb|hb
    .have:=hs.msize b hb;simp;omega
    .simp[hb]
   .refine⟨hes',by simp[hlen],.inr ⟨w.heap.size,e,cells,Ob,.inr rfl,Yt w _,?_,?_⟩⟩
    .simp only[if_true]
     have:cells.size=cells.toList.length:=Ob
     rw[this,g4,WU (g2.len g3),g2.length,hlen];exact AN _
    .have g2':=g2.step (ρ':=ρ) (H':=s.heap) (M':=fun b=>M b\/b=w.heap.size) (B:=fun _=>False) he (fun _ hb=>hb.elim) (fun b hb hb'=>hb'.resolve_right U)
     refine QbT g2' g3 fun j u hj=>?_
     rw[<-g4]at hj
     simp only[World.cell?,Yt]
     simpa using hj
   .simp[Loc.blk]at hb;omega
   .simp only[AV.R]
    refine⟨rfl,fun o' es' k' hc hs'=>?_⟩
    simp only[if_true]at hc
    cases hc
    cases hs'
    simp_all
  .simp at hzr
def TE.makeOwn{es b k r:Nat}(ho:o.op=.makeSlice T x y)(hT:W9 P T=some e)(hz:Zl P e=some es)(hb:Qlr P e=some b)(hes:Nat.ble 1 es=true)(hzr:Qag P e=some zr)(hzl:zr.length=es)(hx:Qi rd x=some (.p (.v (.int .i64 j))))(hy:Qi rd y=some (.p (.v (.int .i64 j))))(hj:j=(k:Int))(hk:k<=1048576)(hbl:Nat.ble b 4096=true)(hrows:rows=List.replicate k zr)(hr:k=r):
  TE P o ⟨rd,[],.own n r,[(n,.TI es rows)],[n]⟩:=
 TE.put fun Γ ρ M s a w hs hh=>by
  subst hr hrows hj
  obtain⟨hn,hfree⟩:=hh.nw n Ob
  unfold Qag at hzr
  split at hzr
  .rename_i cs hcs
   obtain⟨i,z,hi,hz',hall,rfl⟩:=Ui hcs
   have hzR:AV.Rs ρ s.heap M w (pcells zr) z.cells.toList:=by
    rw[<-QaC hzr];exact Xq hall
   have hzlen:z.cells.toList.length=es:=by have:=hzR.length;rw[this];simp[pcells,hzl]
   have hes':=Am hes
   have h0:=Qm4 z.cells.toList k es hzlen hes'
   have hsz:i.size=es:=by simp only[Zl,hi,Aa,AP]at hz;exact hz
   have hby:i.bytes=b:=by simp only[Qlr,hi,Aa,AP]at hb;exact hb
   have hb':=Am hbl
   have ex:=Qj hs hh hx
   have ey:=Qj hs hh hy
   simp only[AV.R,PV.R]at ex ey
   have g4:(madeCells z.cells (k*i.size)).toList=(List.replicate k z.cells.toList).flatten:=by
    rw[<-h0,hsz];simp[madeCells]
   have hmul:i.bytes*k<=4096*1048576:=by rw[hby];exact Nat.mul_le_mul hb' hk
   have hrun:(execOp a.eval o).run P w=.ok (.value (.slice (some ⟨w.heap.size,0,none⟩) k k)) (w.alloc (.cells (madeCells z.cells (k*i.size)) e)):=by
    have hm2:(i.bytes:Int)*(k:Int)<=281474976710656:=by rw[<-Int.natCast_mul];omega
    have:=run_make (P:=P) w T e i z (Qq hT) hi hz' .i64 .i64 (k:Int) (k:Int) U U hm2 U
    simp at this
    simp only[execOp,ho,ex.1,ey.1,Sem.run_bind,this,Result.andThen_ok,Sem.run_pure]
   have hR:RR ρ s.heap M w (List.replicate k zr) (List.replicate k z.cells.toList):=RR.replicate hzR k
   have g3:∀r∈List.replicate k zr,r.length=es:=fun r hr=>by rw[Cy hr];exact hzl
   have he:=Ext.alloc w (.cells (madeCells z.cells (k*i.size)) e)
   refine⟨_,_,(fun m=>if m=n then⟨some ⟨w.heap.size,0,none⟩,k⟩else ρ m),(fun b=>M b\/b=w.heap.size),hrun,hs.update1 (he.weaken fun _ _ hb=>hb.elim) (fun b hb=>.inl hb) (fun b hb=>hb.imp id (fun e=>U)) (fun b hb=>?_) (fun o' ho'=>by rw[hn]at ho';simp at ho') (fun _=>hfree) ?_ (fun b hb=>.inr ?_),?_⟩
   .rcases hb with hb|hb
    .have:=hs.msize b hb;simp;omega
    .simp[hb]
   .refine⟨hes',Ob,.inr ⟨w.heap.size,e,madeCells z.cells (k*i.size),Ob,.inr rfl,Yt w _,?_,?_⟩⟩
    .simp only[if_true]
     have:(madeCells z.cells (k*i.size)).size=(madeCells z.cells (k*i.size)).toList.length:=Ob
     simp_all
    .have g2':=hR.step (ρ':=ρ) (H':=s.heap) (M':=fun b=>M b\/b=w.heap.size) (B:=fun _=>False) he (fun _ hb=>hb.elim) (fun b hb hb'=>hb'.resolve_right U)
     refine QbT g2' g3 fun j u hj=>?_
     rw[<-g4]at hj
     simp
     simpa using hj
   .simp[Loc.blk]at hb;omega
   .simp only[AV.R]
    refine⟨rfl,fun o' es' k' hc hs'=>?_⟩
    simp at hc
    cases hc
    cases hs'
    simp_all
  .simp at hzr
end
def Weak.thaw(hes:Nat.ble 1 es=true)(h1:X t ts=some (.p (.sl true es0 [])))(h2:(X n hs).isNone=true)(h3:QeS n ts hs=true)(h4:ts'.map (fun p=>X p.1 ((t,.own n 0)::ts))=ts'.map (fun p=>some p.2)):Weak Γ (mk ts hs) (mk ts' ((n,.TI es [])::hs)):=fun ρ M a w hsim=>by
 have hn:(mk ts hs).heap n=none:=Bk.1 h2
 have hf:=QhE h3
 obtain⟨u,hu,hr⟩:=hsim.slots t _ h1
 simp only[AV.R,PV.R]at hr
 obtain⟨ad,cap,hu',_,hcap,_,_⟩:=hr
 have hc:=hcap trivial
 simp at hc hu'
 subst hc
 have hs1:=hsim.update1 (n:=n) (l:=⟨ad,0⟩) (o:=.TI es []) (M':=M) (w':=w) (Ext.refl _ _) (fun _ hb=>hb) (fun _ hb=>.inl hb) hsim.msize (fun o' ho'=>by rw[hn]at ho';simp at ho') (fun _=>hf)
  ⟨Am hes,Ob,.inl Ob⟩ (fun b hb=>by simp[Loc.blk]at hb)
 have hHeap:(mk ts' ((n,.TI es [])::hs)).heap=fun m=>if m=n then some (.TI es [])else(mk ts hs).heap m:=by
  funext m;simp only[mk,X];by_cases e:n=m
  .subst e;simp
  .simp[e,Ag e]
 have hs2:Sim Γ (fun m=>if m=n then⟨ad,0⟩else ρ m) M ⟨(mk ts hs).slot,(mk ts' ((n,.TI es [])::hs)).heap⟩ a w:=by rw[hHeap];exact hs1
 refine⟨(fun m=>if m=n then⟨ad,0⟩else ρ m),M,hs2.n,hs2.d,fun k x hk=>?_,hs2.objs,hs2.inj,hs2.own0,hs2.keep,hs2.ext,hs2.mext,hs2.msize,hs2.m0,hs2.ground⟩
 have:=Xm h4 _ (Q5 hk)
 simp only[X]at this
 split at this
 .rename_i e
  cases this
  subst e
  refine⟨u,hu,?_⟩
  rw[hHeap]
  simp only[AV.R]
  refine⟨by rw[hu'];rfl,fun o' es' k' hc hs'=>?_⟩
  grind
 .exact hs2.slots k x this
def Qvw:∀{xs:Y AV} {us:Y AE} (j:Nat) (y:AV),AV.Rs ρ H M w xs us->(∀u,us[j]?=some u->y.R ρ H M w u)->AV.Rs ρ H M w (xs.set j y) us
 |[],us,j,y,h,_=>by simpa using h
 |x::xs,us,j,y,h,hy=>by
  simp only[AV.Rs]at h
  obtain⟨u,us',rfl,h2,h3,h4⟩:=h
  cases j with
  |zero=>simp only[Eh,AV.Rs];exact⟨u,us',rfl,h2,hy u Ob,h4⟩
  |succ j=>simp only[List.set_cons_succ,AV.Rs];exact⟨u,us',rfl,h2,h3,Qvw j y h4 (fun v hv=>hy v (by simpa using hv))⟩
def Weak.thawA(hes:Nat.ble 1 es=true)(h0:X t ts=some (.agg cells))(h1:cells[j]?=some (.p (.sl true es0 [])))(h2:(X n hs).isNone=true)(h3:QeS n ts hs=true)(h4:ts'.map (fun p=>X p.1 ((t,.agg (cells.set j (.own n 0)))::ts))=ts'.map (fun p=>some p.2)):Weak Γ (mk ts hs) (mk ts' ((n,.TI es [])::hs)):=fun ρ M a w hsim=>by
 have hn:(mk ts hs).heap n=none:=Bk.1 h2
 have hf:=QhE h3
 obtain⟨u,hu,hr⟩:=hsim.slots t _ h0
 simp only[AV.R]at hr
 obtain⟨us,rfl,hrs⟩:=hr
 obtain⟨v,hv,_,hvr⟩:=hrs.get j _ h1
 simp only[AV.R,PV.R]at hvr
 obtain⟨ad,cap,hu',_,hcap,_,_⟩:=hvr
 have hc:=hcap trivial
 simp only[Ao]at hc hu'
 subst hc
 have hs1:=hsim.update1 (n:=n) (l:=⟨ad,0⟩) (o:=.TI es []) (M':=M) (w':=w) (Ext.refl _ _) (fun _ hb=>hb) (fun _ hb=>.inl hb) hsim.msize (fun o' ho'=>by rw[hn]at ho';simp at ho') (fun _=>hf)
  ⟨Am hes,Ob,.inl Ob⟩ (fun b hb=>by simp[Loc.blk]at hb)
 have hHeap:(mk ts' ((n,.TI es [])::hs)).heap=fun m=>if m=n then some (.TI es [])else(mk ts hs).heap m:=by
  funext m;simp only[mk,X];by_cases e:n=m
  .subst e;simp
  .simp[e,Ag e]
 have hs2:Sim Γ (fun m=>if m=n then⟨ad,0⟩else ρ m) M ⟨(mk ts hs).slot,(mk ts' ((n,.TI es [])::hs)).heap⟩ a w:=by rw[hHeap];exact hs1
 refine⟨(fun m=>if m=n then⟨ad,0⟩else ρ m),M,hs2.n,hs2.d,fun k x hk=>?_,hs2.objs,hs2.inj,hs2.own0,hs2.keep,hs2.ext,hs2.mext,hs2.msize,hs2.m0,hs2.ground⟩
 have:=Xm h4 _ (Q5 hk)
 simp only[X]at this
 split at this
 .rename_i e
  cases this
  subst e
  refine⟨.agg us,hu,?_⟩
  simp only[AV.R]
  refine⟨us,rfl,Qvw j _ ?_ (fun v' hv'=>?_)⟩
  .obtain⟨u2,g1,g2⟩:=hs2.slots t _ h0
   rw[hu]at g1
   cases g1
   simp only[AV.R]at g2
   grind
  .rw[hv]at hv'
   cases hv'
   rw[hHeap]
   simp only[AV.R]
   grind
 .exact hs2.slots k x this
def Weak.thawCell(hes:Nat.ble 1 es=true)(h0:hs=(m,.box cells)::hs')(h1:cells[j]?=some (.p (.sl true es0 [])))(h2:(X n hs).isNone=true)(h3:QeS n ts hs=true)(h4:cells.set j (.own n 0)=cells'):Weak Γ (mk ts hs) (mk ts ((m,.box cells')::(n,.TI es [])::hs')):=fun ρ M a w hsim=>by
 subst h4
 have hn:(mk ts hs).heap n=none:=Bk.1 h2
 have hf:=QhE h3
 have hm:(mk ts hs).heap m=some (.box cells):=by subst h0;simp[mk,X]
 have hmn:m≠n:=fun e=>by subst e;rw[hn]at hm;simp at hm
 obtain⟨b,T,cs,k1,k2,k3,k4⟩:=hsim.objs m _ hm
 obtain⟨u,hu,_,hr⟩:=k4.get j _ h1
 simp only[AV.R,PV.R]at hr
 obtain⟨ad,cap,hu',_,hcap,_,_⟩:=hr
 have hc:=hcap trivial
 simp only[Ao]at hc hu'
 subst hc
 have hs1:=hsim.update1 (n:=n) (l:=⟨ad,0⟩) (o:=.TI es []) (M':=M) (w':=w) (Ext.refl _ _) (fun _ hb=>hb) (fun _ hb=>.inl hb) hsim.msize (fun o' ho'=>by rw[hn]at ho';simp at ho') (fun _=>hf)
  ⟨Am hes,Ob,.inl Ob⟩ (fun b hb=>by simp[Loc.blk]at hb)
 have hm1:(if m=n then some (AO.TI es [])else(mk ts hs).heap m)=some (.box cells):=by rw[iA hmn];exact hm
 obtain⟨b1,T1,cs1,q1,q2,q3,q4⟩:=hs1.objs m _ hm1
 have hbe:b1=b:=by
  have:=q1;simp only[iA hmn]at this;rw[k1]at this;simpa using this.symm
 subst hbe
 rw[k3]at q3;cases q3
 have hs2:=hs1.update1 (n:=m) (l:=ρ m) (o:=.box (cells.set j (.own n 0))) (M':=M) (w':=w) (Ext.refl _ _) (fun _ hb=>hb) (fun _ hb=>.inl hb) hsim.msize (fun o' ho'=>by
   simp only[hm1]at ho';cases ho';simp[stays,hmn]) (fun h=>by simp only[hm1]at h;simp at h)
  (by
   refine⟨b1,T,cs,by simp[k1],k2,k3,?_⟩
   have hst:Qdk (fun k=>if k=n then⟨ad,0⟩else ρ k) (fun k=>if k=n then some (AO.TI es [])else(mk ts hs).heap k)
     (fun k=>if k=m then ρ m else if k=n then⟨ad,0⟩else ρ k) (fun k=>if k=m then some (AO.box (cells.set j (.own n 0)))else if k=n then some (AO.TI es [])else(mk ts hs).heap k):=fun k ob hk=>by
    by_cases e:k=m
    .subst e;simp only[hm1]at hk;cases hk;simp[stays,hmn]
    .simp only[e,if_false,hk];exact Zj _ _
   refine Qvw j _ (q4.step (Ext.refl (fun _=>False) _) (fun _ hb=>hb.elim) (fun b _ hb=>hb) hst (fun k _ hk=>?_)) (fun v hv=>?_)
   .by_cases e:k=m
    .subst e;simp only[hm1]at hk;simp at hk
    .simp only[e,if_false];exact hk
   .rw[hu]at hv;cases hv
    simp
    refine⟨by rw[hu'];rfl,fun o' es' k' hc hs'=>?_⟩
    simp only[iA (Ag hmn),if_true]at hc
    cases hc
    cases hs'
    exact⟨AN _,fun _=>by simp[Ag hmn,hu']⟩)
  (fun b hb=>.inl ⟨_,hm1,by simpa [hmn]using hb⟩)
 refine⟨(fun k=>if k=m then ρ m else if k=n then⟨ad,0⟩else ρ k),M,hs2.congr (fun t=>rfl) (fun k=>?_)⟩
 subst h0
 simp only[mk,X]
 by_cases e:m=k
 .subst e;simp
 .by_cases e':n=k
  .subst e';simp[e,Ag e]
  .simp[e,e',Ag e,Ag e']
def QB8:∀(xs:Y AV) {ys:Y AV} {us:Y AE},Wh xs ys->AV.Ts ρ H M w xs us->AV.Ts ρ H M w ys us
 |[],ys,us,h,h'=>by cases h;exact h'
 |x::xs,ys,us,h,h'=>by
  cases h with
  |cons h1 h2=>
   simp only[AV.Ts]at h' |-
   obtain⟨u,us',g1,g2,g3⟩:=h'
   exact⟨u,us',g1,h1.sound _ g2,QB8 xs h2 g3⟩
def Spec.argsLe(h:Spec P f args' pre post)(hle:Wh args args'):Spec P f args pre post:=
 fun G ρ M w us hG h1 h2 h3 h4=>h G ρ M w us hG h1 (QB8 args hle h2) h3 h4
section
end
section
def intT(P:AF)(T:AD):I IntKind:=match P.underlying T with|some (.int k)=>some k|_=>none
def TE.convI(ho:o.op=.convert zI T x)(hS:(P.underlying zI).isSome=true)(hT:intT P T=some k')(hx:Qi rd x=some (.p (.v (.int k a))))(hr:k'.wrap a=r):TE P o ⟨rd,[],.p (.v (.int k' r)),[],[]⟩:=
 TE.quiet fun Γ ρ M s a' w hs hh=>by
  obtain⟨d,hd⟩:=Cl.1 hS
  have ht:P.underlying T=some (.int k'):=by
   unfold intT at hT
   grind
  refine⟨.int k' r,?_,by simp only[AV.R,PV.R];exact⟨trivial,rfl⟩⟩
  simp only[execOp,ho,QeR hs hh hx,convert,Sem.run_bind,run_underlying hd,run_underlying ht,Result.andThen_ok,Conv.intToInt,Sem.run_pure,hr]
end
open Go Go.ChangeShapes Go.WideShapes Go.RowKit
abbrev Fixed:Nat->Prop:=fun _=>False
def PVs(w:AG):Y PV->Y AE->Prop
 |[],us=>us=[]
 |p::ps,us=>∃u us',us=u::us'/\p.R Fixed w u/\PVs w ps us'
def PVs.get:∀{ps:Y PV} {us:Y AE},PVs w ps us->∀(j:Nat) (p:PV),ps[j]?=some p->∃u,us[j]?=some u/\p.R Fixed w u
 |[],_,_,j,p,hj=>by simp at hj
 |q::ps,us,h,j,p,hj=>by
  simp only[PVs]at h
  obtain⟨u,us',rfl,h1,h2⟩:=h
  cases j with
  |zero=>simp at hj;subst hj;exact⟨u,rfl,h1⟩
  |succ j=>simpa using h2.get j p (by simpa using hj)
section reads
def Reads(enc:AD×AE->H)(P:AF)(w:AG)(t:AD)(dec:α->Y PV)(ok:α->Prop):Prop:=
 ∀fuel cs x,DataW.trod enc P w 0 (fun _=>true) true fuel t cs=some x->∃a,ok a/\PVs w (dec a) cs
def Qxw{enc:AD×AE->H}{P:AF}{w:AG}{t:AD}{k:IntKind}(ht:P.underlying t=some (.int k)):Reads enc P w t (fun n:Int=>[.v (.int k n)]) (fun n=>(Lit.int k n).wf=true):=by
 intro fuel cs x h
 obtain⟨n,rfl,_,hw⟩:=DataW.trod_int ht h
 exact⟨n,hw,_,_,rfl,by simp only[PV.R];simp[Value.oneCell'],rfl⟩
def Qlw{Q:Nat->α->Prop}:∀(n:Nat),(∀i,i<n->∃a,Q i a)->∃l:Y α,l.length=n/\∀(i:Nat) (a:α),l[i]?=some a->Q i a
 |0,_=>⟨[],rfl,fun i a h=>by simp at h⟩
 |n+1,h=>by
  obtain⟨l,hl,hq⟩:=Qlw n (fun i hi=>h i U)
  obtain⟨a,ha⟩:=h n U
  refine⟨l++[a],by simp[hl],fun i x hx=>?_⟩
  rw[B9]at hx
  split at hx
  .exact hq i x hx
  .have:i=n:=by
    rcases Ay (i - l.length) 1 with h1|h1
    .omega
    .rw[ED (by simpa using h1)]at hx;simp at hx
   subst this
   rw[hl]at hx
   simp at hx
   subst hx;exact ha
def QsQ{enc:AD×AE->H}{P:AF}{w:AG}{t e:AD}{n:Nat}{α:Type}{dec:α->Y PV}{ok:α->Prop}(ht:P.underlying t=some (.slice e))(hc:P.cellsOf e=n)(hpos:0<n)(hd:∀a,(dec a).length=n)(h:Reads enc P w e dec ok):
  Reads enc P w t (fun l:Y α=>[.sl false n (l.map dec)]) (fun l=>(∀(i:Nat) (a:α),l[i]?=some a->ok a)/\l.length<=maxLen):=by
 intro fuel cs x hx
 rcases DataW.trod_slice ht hx with⟨rfl,_⟩|⟨a,len,cap,elems,rest,m,_,rfl,_,_,hl,hm,hlen,hel,hsp,_⟩
 .refine⟨[],⟨fun i a h=>by simp at h,by simp[maxLen]⟩,_,_,rfl,?_,rfl⟩
  simp only[PV.R]
  exact⟨none,0,rfl,Ob,(fun h=>by cases h),(fun _=>rfl),(fun ad had=>by cases had)⟩
 .rw[hc]at hel hsp
  obtain⟨hr1,hr2⟩:=hsp rfl
  have spot:cap≠0->a.spot=none/\a.block<w.heap.size:=by
   intro hcap
   have:∃y,(w.cells? 0 (a.add (0*n)) n).bind (DataW.trod enc P w 0 (fun _=>true) true m e)=some y:=by
    by_cases h0:0<len
    .exact⟨elems[0],by rw[hel 0 h0];simp⟩
    .have hl0:len=0:=U
     subst hl0
     have h1:0<rest.length:=U
     exact⟨rest[0],by have:=hr2 0 U;simp only[Ah]at this |-;rw[this];simp⟩
   obtain⟨y,hy⟩:=this
   cases hcs:w.cells? 0 (a.add (0*n)) n with
   |none=>rw[hcs]at hy;simp at hy
   |some cs'=>
    obtain⟨_,k1,k2⟩:=World.cells?_some hcs
    have k3:=k2 0 hpos
    have:0<cs'.length:=U
    rw[AR this]at k3
    have hs:=World.cell?_spot k3
    refine⟨by simpa [Addr.add]using hs,?_⟩
    have:=World.block_lt_of_cell? w _ k3
    simpa [Addr.add]using this
  have each:∀i,i<len->∃b,ok b/\PV.Cells Fixed w a.block (a.off+i*n) (dec b):=by
   intro i hi
   have hi':=hel i hi
   rw[AR U]at hi'
   cases hcs:w.cells? 0 (a.add (i*n)) n with
   |none=>rw[hcs]at hi';simp at hi'
   |some cs'=>
    rw[hcs]at hi'
    obtain⟨b,hb1,hb2⟩:=h _ _ _ hi'
    obtain⟨_,k1,k2⟩:=World.cells?_some hcs
    obtain⟨s1,s2⟩:=spot U
    refine⟨b,hb1,PV.Cells.of_get fun j c hj=>?_⟩
    obtain⟨u,hu,hr⟩:=hb2.get j c hj
    have hjn:j<n:=by rw[<-hd b];exact(Az.1 hj).1
    refine⟨u,?_,hr⟩
    rw[<-hu,<-k2 j hjn]
    obtain⟨b1,o1,s1'⟩:=a
    simp only at s1
    subst s1
    rw[Zr,Zr]
  obtain⟨l,hl1,hl2⟩:=Qlw len each
  refine⟨l,⟨fun i a h=>(hl2 i a h).1,U⟩,_,_,rfl,?_,rfl⟩
  simp only[PV.R]
  refine⟨some a,cap,by simp[hl1],by simp[hl1];omega,(fun h=>by cases h),(fun h=>by cases h),fun ad had hcap=>?_⟩
  cases had
  obtain⟨s1,s2⟩:=spot hcap
  refine⟨s1,fun h=>h,s2,PV.Rows.of_get fun i r hi=>?_⟩
  rw[Bm]at hi
  cases hli:l[i]? with
  |none=>rw[hli]at hi;simp at hi
  |some b=>
   rw[hli]at hi
   simp at hi
   subst hi
   exact⟨hd b,(hl2 i b hli).2⟩
def QAs{d:DataW H}{dec:α->PV}{ok:α->Prop}(h:Reads enc P w t (fun a=>[dec a]) ok)(hd:DataW.Trod enc P w 0 (fun _=>true) true t v d ps)(hv:v.cells.toList=[v]):∃a,ok a/\(dec a).R Fixed w v:=by
 obtain⟨fuel,hf⟩:=hd
 obtain⟨a,ha,u,us,h1,h2,h3⟩:=h _ _ _ hf
 rw[hv]at h1
 simp at h1
 exact⟨a,ha,h1.1 ▸ h2⟩
def Qsd(ht:P.underlying t=some (.slice e))(h:Value.okWide P w r b t v):v.cells.toList=[v]:=by
 obtain⟨a,l,c,rfl⟩:=okWide_slice ht h;rfl
def Qji(hl:laidOutB P=true):∀{ts:Y AD} {vs:Y AE} {ds:Y (DataW H)} {ps:Y MemPlace},(∀t∈ts,P.readableRec t=true/\t<P.types.size)->
  DataW.TrodAll enc P W 0 (fun _=>true) true ts vs ds ps->(∀p∈ps,W.sameAt W' p)->(∀p∈ps,sp p.block=true)->DataW.TrodAll enc P W' 0 sp true ts vs ds ps
 |[],[],[],_,_,h,_,_=>h
 |_::_,_::_,_::_,_,hT,⟨p,q,h1,h2,e⟩,hs,hsp=>
  ⟨p,q,WideElems.Trod_stays hl (hT _ (AZ.2 (Or.inl rfl))).1 (hT _ (AZ.2 (Or.inl rfl))).2 h1 (fun x hx=>hs x (by rw[e];exact C1 _ hx)) (fun x hx=>hsp x (by rw[e];exact C1 _ hx)),Qji hl (fun t ht=>hT t (AZ.2 (Or.inr ht))) h2 (fun x hx=>hs x (by rw[e];exact CD _ hx)) (fun x hx=>hsp x (by rw[e];exact CD _ hx)),e⟩
def Ext.frame(h:Ext Fixed W W')(may):W.keptBut W' may:=by
 refine⟨h.os,h.out,fun i hi=>?_⟩
 rw[h.same i hi (fun h=>h)]
 split<;>simp_all
def Qy2{s:ChangeSpec}{ds gs:Y (DataW H)}(hl:laidOutB P=true)(hpar:∀t∈fn.params.toList,P.readableRec t=true/\t<P.types.size)(hrt:fn.resultTypes=#[tb])(hb:P.underlying tb=some .bool)(hvars:s.vars=[])(hres:(s.fn H ds).results=[.lit (.bool true)])(hargs:(s.fn H ds).args=ds)(hvs:(s.fn H ds).vars=[])(hW:DataW.Whole enc P fn.params.toList s.vars apart W args.toList ds gs before)(he:Ext Fixed W W'):s.post enc P fn apart fresh handsOn again W args (.bool true) W':=by
 have hW':=hW
 obtain⟨p,q,hA,hV,rfl,hz,hn⟩:=hW
 rw[hvars]at hV
 obtain⟨rfl,rfl⟩:=trodVars_none hV
 have hlt:∀x∈p++[],x.block<W.heap.size:=fun x hx=>hW'.lt x hx
 have hsame:∀x∈p,W.sameAt W' x:=by
  intro x hx
  have:=hlt x (by simpa using hx)
  cases x with
  |cell b o=>exact World.cell?_of_block (w:=W) (he.same b this (fun h=>h))
  |map b=>exact he.same b this (fun h=>h)
 have hold:∀x∈p,(fun b=>decide (b<W.heap.size)) x.block=true:=fun x hx=>by simpa using hlt x (by simpa using hx)
 have hrl:(Value.bool true).resultList fn.resultTypes.size=[.bool true]:=by rw[hrt];rfl
 have hR:∀(b:Nat) (sp:Nat->AH) (hd:AH),DataW.TrodAll enc P W' b sp hd fn.resultTypes.toList ((Value.bool true).resultList fn.resultTypes.size) (s.fn H (ds++[])).results []:=by
  intro b sp hd
  rw[hrl,An,hres,hrt]
  exact trodAll_mk1 (shut_bool hb true)
 have hAr:∀sp:Nat->AH,(∀x∈p,sp x.block=true)->DataW.TrodAll enc P W' 0 sp true fn.params.toList args.toList (s.fn H (ds++[])).args p:=by
  intro sp hsp
  rw[An,hargs]
  exact Qji hl hpar hA hsame hsp
 have hVr:∀sp:Nat->AH,DataW.TrodVars enc P W' sp s.vars (s.fn H (ds++[])).vars []:=by
  intro sp
  rw[An,hvs,hvars]
  rfl
 refine⟨ds,[],p++[],[],p,[],hW',hR _ _ _,hAr _ hold,hVr _,he.frame _,fun _=>?_⟩
 refine⟨ok_one hrt rfl (okWide_bool_mk hb true),_,_,([]++p)++[],⟨[]++p,[],trodAll_append (hAr _ (fun _ _=>rfl)) (hR _ _ _),hVr _,rfl,?_,?_⟩,?_⟩
 .intro b off hp
  have hin:MemPlace.cell b off∈p++[]:=by simpa using hp
  have hsz:=hlt _ hin
  rw[World.frozen?_of_block (w:=W) (he.same b hsz (fun h=>h))]
  exact hz b off hin
 .intro ha
  have:=hn ha
  simpa using this
 .intro x hx _
  simpa using hx
end reads
def QwW(h:WT P f avs [] (vB true) [])(hL:Laid W)(ha:∀(ρ:Name->Loc) (Hp:Heap),AV.Ts ρ Hp Fixed W avs us):
  Calls P f us.toArray W fun e W'=>e=.returned (.bool true)/\Ext Fixed W W':=by
 refine(h W (fun _=>⟨none,0⟩) Fixed W us ⟨hL,AN _,fun _ _=>rfl,fun b ⟨n,o,hn,_⟩=>by simp[X]at hn⟩ (fun b hb=>hb.elim) (ha _ _) (fun n o h=>by simp[X]at h) (fun n m o o' b h=>by simp[X]at h)).mono fun e W' ⟨u,v,h',ρ',he,⟨hv,hh⟩,haft⟩=>?_
 subst hv;subst hh
 have:=haft.val
 simp only[AV.R,PV.R]at this
 obtain⟨rfl,_⟩:=this
 exact⟨he,haft.ext.weaken fun b _ ⟨n,o,hn,_⟩=>by simp[X]at hn⟩
open Go
def QyE(h:Sim Γ ρ M s a w)(hts:∀t y,s'.slot t=some y->∃x,s.slot t=some x/\∀u,x.R ρ s.heap M w u->y.R ρ s'.heap M w u)(hhs:∀n y,s'.heap n=some y->∃x,s.heap n=some x/\(Qah ρ s.heap M w n x->Qah ρ s'.heap M w n y))(hkeep:∀n x,s.heap n=some x->∃y,s'.heap n=some y/\∀o l,stays o l (some x) (ρ n)->stays o l (some y) (ρ n)):Sim Γ ρ M s' a w:=by
 refine⟨h.n,h.d,fun t y hy=>?_,fun n y hy=>?_,fun n m o o' b g1 g2=>?_,fun n o b g1 g2=>?_,fun n hn=>?_,h.ext,h.mext,h.msize,h.m0,h.ground⟩
 .obtain⟨x,hx,hr⟩:=hts t y hy
  obtain⟨u,hu,hru⟩:=h.slots t x hx
  exact⟨u,hu,hr u hru⟩
 .obtain⟨x,hx,hr⟩:=hhs n y hy
  exact hr (h.objs n x hx)
 .obtain⟨x,hx,_⟩:=hhs n o g1
  obtain⟨x',hx',_⟩:=hhs m o' g2
  exact h.inj n m x x' b hx hx'
 .obtain⟨x,hx,_⟩:=hhs n o g1
  exact h.own0 n x b hx g2
 .obtain⟨x,hx,hst⟩:=h.keep n hn
  grind
mutual
inductive Pin (n:Name) (len:Nat) (x:Value):AV->AV->Prop
 |same (v:AV):Pin n len x v v
 |pin:Pin n len x (.own n len) (.p (.v x))
 |unpin:Pin n len x (.p (.v x)) (.own n len)
 |agg {xs ys:List AV} (h:PinL n len x xs ys):Pin n len x (.agg xs) (.agg ys)
inductive PinL (n:Name) (len:Nat) (x:Value):List AV->List AV->Prop
 |nil:PinL n len x [] []
 |cons {v y:AV} {xs ys:List AV} (h:Pin n len x v y) (h':PinL n len x xs ys):PinL n len x (v::xs) (y::ys)
end
inductive OPin (n:Name) (len:Nat) (x:Value):AO->AO->Prop
 |same (o:AO):OPin n len x o o
 |box {xs ys:List AV} (h:PinL n len x xs ys):OPin n len x (.box xs) (.box ys)
def Qyf(n:Name)(len:Nat)(x:AE):Y (Nat×AV)->Y (Nat×AV)->Prop
 |[],[]=>True
 |(k,v)::r,(j,y)::q=>k=j/\Pin n len x v y/\Qyf n len x r q
 |_,_=>False
def Qye(n:Name)(len:Nat)(x:AE):Y (Name×AO)->Y (Name×AO)->Prop
 |[],[]=>True
 |(k,v)::r,(j,y)::q=>k=j/\OPin n len x v y/\Qye n len x r q
 |_,_=>False
def Qyf.X:∀{ts ts':Y (Nat×AV)},Qyf n len x ts ts'->∀t y,AM.X t ts'=some y->∃v,AM.X t ts=some v/\Pin n len x v y
 |[],[],_,t,y,h=>by simp[AM.X]at h
 |(k,v)::r,(j,y0)::q,h,t,y,hy=>by
  obtain⟨rfl,h2,h3⟩:=h
  simp only[AM.X]at hy |-
  split at hy
  .rename_i e;cases hy;exact⟨v,by simp[e],h2⟩
  .rename_i e;simp only[e,if_false];exact Qyf.X h3 t y hy
 |[],_::_,h,_,_,_=>h.elim
 |_::_,[],h,_,_,_=>h.elim
def Qye.X:∀{ts ts':Y (Name×AO)},Qye n len x ts ts'->∀t,(∀y,AM.X t ts'=some y->∃v,AM.X t ts=some v/\OPin n len x v y)/\(∀v,AM.X t ts=some v->∃y,AM.X t ts'=some y/\OPin n len x v y)
 |[],[],_,t=>by simp[AM.X]
 |(k,v)::r,(j,y0)::q,h,t=>by
  obtain⟨rfl,h2,h3⟩:=h
  simp only[AM.X]
  split
  .exact⟨fun y hy=>by cases hy;exact⟨v,rfl,h2⟩,fun y hy=>by cases hy;exact⟨y0,rfl,h2⟩⟩
  .exact Qye.X h3 t
 |[],_::_,h,_=>h.elim
 |_::_,[],h,_=>h.elim
def TJ.nameU(hn0:n0∉Γ.names)(h0:X n0 hs=none)(hfree:(mk ts hs).free n0)(hne:n≠n0)(hu:∀(ρ:Name->Loc) (M:Nat->Prop) (a:Act) (w:AG),Sim Γ ρ M (mk ts hs) a w->∃u,AV.R ρ (mk ts hs).heap M w (.own n len) u)(h:∀x,TJ P Γ c (mk ts ((n0,.fact (.own n len) x)::hs)) Q):TJ P Γ c (mk ts hs) Q:=fun ρ M a w hs0=>by
 obtain⟨x,hx⟩:=hu ρ M a w hs0
 have h00:(mk ts hs).heap n0=none:=h0
 have hst:Qdk ρ (mk ts hs).heap (fun m=>if m=n0 then⟨none,0⟩else ρ m) (fun m=>if m=n0 then some (.fact (.own n len) x)else(mk ts hs).heap m):=fun m ob hm=>by
  by_cases e:m=n0
  .subst e;rw[h00]at hm;simp at hm
  .simp only[e,if_false,hm];exact Zj _ _
 have hs1:=hs0.update1 (n:=n0) (l:=⟨none,0⟩) (o:=.fact (.own n len) x) (M':=M) (w':=w) (Ext.refl _ _) (fun _ hb=>hb) (fun _ hb=>.inl hb) hs0.msize (fun o' ho'=>by rw[h00]at ho';simp at ho') (fun _=>hfree)
  ⟨Ob,hx.step (Ext.refl (fun _=>False) _) (fun _ hb=>hb.elim) (fun b _ hb=>hb) hst (fun m hm hmn=>by
   simp only[AV.has,beq_iff_eq]at hm
   subst hm
   simp only[hne,if_false];exact hmn)⟩ (fun b hb=>by simp[Loc.blk]at hb)
 refine h x _ M a w (hs1.congr (fun t=>rfl) (fun m=>?_))
 simp only[mk,X]
 by_cases e:m=n0
 .subst e;simp
 .simp[e,Ag e]
def QA8(n:Name)(ts:Y (Nat×AV))(hs:Y (Name×AO)):AH:=(ts.all fun p=>!p.2.has n) && (hs.all fun p=>!p.2.has n)
def QyM(h:QA8 n ts hs=true):(mk ts hs).free n:=by
 simp only[QA8,bae,AW,BG]at h
 exact⟨fun t x hx=>h.1 _ (Q5 hx),fun m o ho=>h.2 _ (Q5 ho)⟩
def Qhg:AV->AH
 |.agg _=>false
 |.tup _=>false
 |_=>true
def Quz(h:Qhg x=true)(hr:x.R ρ H M w u):u.oneCell'=true:=by
 cases x with
 |agg cs=>simp[Qhg]at h
 |tup cs=>simp[Qhg]at h
 |p y=>simp only[AV.R]at hr;exact hr.flat
 |TM n k=>simp only[AV.R]at hr;exact hr.1
 |own n k=>simp only[AV.R]at hr;exact hr.1
 |aref n a b c=>simp only[AV.R]at hr;exact hr.1
 |view n a b c=>simp only[AV.R]at hr;exact hr.1
 |cut n a b=>simp only[AV.R]at hr;exact hr.1
 |eptr cells=>simp only[AV.R]at hr;obtain⟨ad,rfl,_⟩:=hr;rfl
 |clo f a b=>simp only[AV.R]at hr;obtain⟨a,c,rfl,_⟩:=hr;rfl
 |oref b n=>simp only[AV.R]at hr;exact hr.1
 |err b=>simp only[AV.R]at hr;exact hr.1
 |ub=>simp only[AV.R]at hr;obtain⟨q,rfl⟩:=hr;rfl
 |any=>simpa only[AV.R]using hr
def Qos:∀{xs:Y AV} {us:Y AE},xs.all Qhg=true->AV.Ts ρ H M w xs us->AV.Rs ρ H M w xs us
 |[],us,_,h=>by simp only[AV.Ts]at h;subst h;simp[AV.Rs]
 |x::xs,us,hf,h=>by
  simp only[AV.Ts]at h
  obtain⟨u,us',rfl,h3,h4⟩:=h
  simp only[BX,bae]at hf
  simp only[AV.Rs]
  exact⟨u,us',rfl,Quz hf.1 h3,h3,Qos hf.2 h4⟩
def Qot:∀{xs:Y AV} {us:Y AE},AV.Rs ρ H M w xs us->AV.Ts ρ H M w xs us
 |[],us,h=>by simp only[AV.Rs]at h;subst h;simp[AV.Ts]
 |x::xs,us,h=>by
  simp only[AV.Rs]at h
  obtain⟨u,us',rfl,h2,h3,h4⟩:=h
  simp only[AV.Ts]
  exact⟨u,us',rfl,h3,Qot h4⟩
def AV.Ts.append:∀{xs ys:Y AV} {us vs:Y AE},AV.Ts ρ H M w xs us->AV.Ts ρ H M w ys vs->AV.Ts ρ H M w (xs++ys) (us++vs)
 |[],ys,us,vs,h,h'=>by simp only[AV.Ts]at h;subst h;simpa using h'
 |x::xs,ys,us,vs,h,h'=>by
  simp only[AV.Ts]at h
  obtain⟨u,us',rfl,h3,h4⟩:=h
  simp
  exact⟨u,us'++vs,rfl,h3,h4.append h'⟩
section
def TE.makeFunc(ho:o.op=.makeFunc fn first captured)(h1:Qg0 rd first.toList=some fs)(h2:Qg0 rd captured.toList=some cs)(hf1:fs.all Qhg=true)(hf2:cs.all Qhg=true):TE P o ⟨rd,[],.clo fn fs cs,[],[]⟩:=
 TE.quiet fun Γ ρ M s a w hs hh=>⟨.func fn (first.map a.eval) (captured.map a.eval),by simp[execOp,ho,Instr.makeFunc],by
  simp only[AV.R]
  refine⟨_,_,rfl,?_,?_⟩
  .rw[C0];exact Qos hf1 (QjE hs hh h1)
  .rw[C0];exact Qos hf2 (QjE hs hh h2)⟩
def TE.callClo(ho:o.op=.call { callee:=.value x,args:=argOps,argTypes:=ats })(hx:Qi rd x=some (.clo (.func f) fs cs))(hf:callable P f=true)(hargs:Qg0 rd argOps.toList=some args)(hspec:WT P f (fs++args++cs) pre v h)(hok:Qfh pre h nw v=true):TE P o ⟨rd,pre,v,h,nw⟩:=
 Qlt (hrd:=rd) (fun Γ ρ M s a w hs hh=>by
  have hr:=Qj hs hh hx
  simp only[AV.R]at hr
  obtain⟨A,zH,hu,hA,hC⟩:=hr
  refine⟨A.toList++argOps.toList.map a.eval++zH.toList,((Qot hA).append (QjE hs hh hargs)).append (Qot hC),?_⟩
  have e:(A.toList++argOps.toList.map a.eval++zH.toList).toArray=A++argOps.map a.eval++zH:=by
   simp_all
  rw[e]
  simp[execOp,ho,resolve,hu,Deferred.ofValue,invoke,Qga hf]) hspec hok
def TE.callFv(ho:o.op=.call { callee:=.value x,args:=argOps,argTypes:=ats })(hx:Qi rd x=some (.p (.v (.func (.func f) #[] #[]))))(hf:callable P f=true)(hargs:Qg0 rd argOps.toList=some args)(hspec:WT P f args pre v h)(hok:Qfh pre h nw v=true):TE P o ⟨rd,pre,v,h,nw⟩:=
 Qlt (hrd:=rd) (fun Γ ρ M s a w hs hh=>by
  have hr:=Qj hs hh hx
  simp only[AV.R,PV.R]at hr
  refine⟨argOps.toList.map a.eval,QjE hs hh hargs,?_⟩
  have e:(argOps.toList.map a.eval).toArray=argOps.map a.eval:=by rw[<-C0]
  rw[e]
  simp[execOp,ho,resolve,hr.1,Deferred.ofValue,invoke,Qga hf]) hspec hok
def TE.indexArr{k k' i es len:Nat}(ho:o.op=.indexAddr T x y)(hT:P.underlying T=some (.array len e))(hz:Zl P e=some es)(hx:Qi rd x=some (.TM n k))(hy:Qi rd y=some (.p (.v (.int kd j))))(hj:j=(i:Int))(hi:i<len)(hk:k+i*es=k'):TE P o ⟨rd,[(n,.box cells)],.TM n k',[],[]⟩:=
 TE.quiet fun Γ ρ M s a w hs hh=>by
  have hr:=Qj hs hh hx
  simp only[AV.R]at hr
  obtain⟨b,hb,hu⟩:=hr.2 cells (hh.hp n _ Ob)
  refine⟨.pointer (some ⟨b,k',none⟩),?_,by simp only[AV.R];exact⟨rfl,fun _ _=>⟨b,hb,rfl⟩⟩⟩
  subst hk
  simp[execOp,ho,hu,QeR hs hh hy,Instr.indexAt,Instr.sureAddr,asIntOf,run_underlying hT,hj,hi,run_sizeOf hz,Zr]
def QqK(h:∀i y,f i=some y->g i=some y):∀(l:Y (Nat×AE)) (us us':Array AE),Instr.fill f us l=some us'->Instr.fill g us l=some us'
 |[],us,us',hf=>hf
 |(i,v)::r,us,us',hf=>by
  simp only[Instr.fill]at hf |-
  cases hi:f i with
  |none=>rw[hi]at hf;simp at hf
  |some y=>
   rw[hi]at hf
   rw[h i y hi]
   simp only at hf |-
   split at hf
   .simp at hf
   .rename_i hc
    rw[iA hc]
    exact QqK h r _ _ hf
def Qli(n es:Nat):Y (Nat×Nat):=(List.range n).map fun i=>(i*es,es)
def TE.buildArr(ho:o.op=.build T parts)(hT:P.underlying T=some (.array n e))(hes:Zl P e=some es)(hz:Qhs P T=some zs)(hc:QaS rd (Qli n es) parts.toList zs=some cells):TE P o ⟨rd,[],.agg cells,[],[]⟩:=
 TE.quiet fun Γ ρ M s a w hs hh=>by
  obtain⟨i,z,hi,hz',hall,rfl⟩:=Ui hz
  obtain⟨us,g1,g2⟩:=QjF hs hh parts.toList _ cells z.cells (Xq hall) hc
  refine⟨.agg us,?_,by simp only[AV.R];exact⟨us,rfl,g2⟩⟩
  have g3:=QqK (g:=fun i=>some (i*es,es)) (fun i y hy=>by
   unfold Qli at hy
   rw[Bm]at hy
   cases hr:(List.range n)[i]? with
   |none=>rw[hr]at hy;simp at hy
   |some j=>
    rw[hr]at hy
    have hj:j=i:=by
     have:=List.getElem?_range (show i<n from by
      have:=(Az.1 hr).1;simpa using this)
     rw[this]at hr;exact(Be hr).symm
    subst hj;exact hy) _ _ _ g1
  have hparts:((parts.map fun(i,x)=>(i,a.eval x)):Array (Nat×AE)).toList=parts.toList.map fun p=>(p.1,a.eval p.2):=Ob
  simp only[execOp,ho,Instr.build,Sem.run_bind,YR hi hz',Result.andThen_ok,run_underlying hT,run_sizeOf hes,hparts,g3]
  simp
def setB(w:AG)(b:Nat)(x:Obj):AG:={ w with heap:=w.heap.setIfInBounds b x }
def Qo5:Obj->AH
 |.map _ _=>true
 |.stringIter _ _=>true
 |_=>false
def Qt3(hx:Qo5 x=true)(h:w.heap[b]?=some x):(getObj b).run P w=.ok x w:=by
 cases x<;>simp[Qo5]at hx<;>simp[getObj,Sem.run,h]
def Qzs(hx:Qo5 x=true)(h:w.heap[b]?=some x):(setObj b y).run P w=.ok () (setB w b y):=by
 cases x<;>simp[Qo5]at hx<;>simp[setObj,Sem.run,h,setB]
def Ext.setB(w:AG)(b:Nat)(x:Obj):Ext (fun c=>c=b) w (setB w b x):=
 ⟨by simp[AM.setB],fun c hc hne=>by
  show(w.heap.setIfInBounds b x)[c]?=_
  rw[EB,iA (fun e=>hne e.symm)],rfl,rfl⟩
def Sim.setObj(hs:Sim Γ ρ M s a w){n:Name}(hn:s.heap n=some (.obj x))(hb:(ρ n).base=some ⟨b,0,none⟩):
  Sim Γ (fun m=>if m=n then ρ n else ρ m) M ⟨s.slot,fun m=>if m=n then some (.obj y)else s.heap m⟩ a (setB w b y):=by
 obtain⟨b',g1,g2,g3⟩:=hs.objs n _ hn
 have e:b'=b:=by rw[g1]at hb;simpa using hb
 subst e
 have hblk:(ρ n).blk=some b':=by rw[g1];simp[Loc.blk]
 have he:=Ext.setB w b' y
 refine hs.update1 (he.weaken fun c _ hc=>⟨by rw[hblk,hc],by rw[hn];simp⟩) (fun _ hc=>hc) (fun _ hc=>.inl hc) (fun c hc=>BD (hs.msize c hc) he.size)
  (fun o' ho'=>by rw[hn]at ho';cases ho';simp[stays]) (fun h0=>by rw[hn]at h0;simp at h0) ?_ (fun c hc=>.inl ⟨_,hn,hc⟩)
 refine⟨b',by simp[g1],g2,?_⟩
 show(w.heap.setIfInBounds b' y)[b']?=some y
 grind
def Sim.mkObj(h:Sim Γ ρ M s a w){n:Name}(hn:s.heap n=none)(hf:s.free n)(x):
  Sim Γ (fun m=>if m=n then⟨some ⟨w.heap.size,0,none⟩,1⟩else ρ m) (fun b=>M b\/b=w.heap.size) ⟨s.slot,fun m=>if m=n then some (.obj x)else s.heap m⟩ a (w.alloc x):=by
 have he:=Ext.alloc w x
 refine h.update1 (he.weaken fun _ _ hb=>hb.elim) (fun b hb=>.inl hb) (fun b hb=>hb.imp id (fun e=>U)) (fun b hb=>?_) (fun o' ho'=>by rw[hn]at ho';simp at ho') (fun _=>hf) ?_ (fun b hb=>.inr ?_)
 .rcases hb with hb|hb
  .have:=h.msize b hb;simp;omega
  .simp[hb]
 .exact⟨w.heap.size,Ob,.inr rfl,Yt w _⟩
 .simp[Loc.blk]at hb;omega
def mkEs:Nat->Y (AJ×AE)->Y MapEntry
 |_,[]=>[]
 |i,(k,v)::r=>{ key:=.string k,val:=v,born:=i }::mkEs (i+1) r
def smap(es:Y (AJ×AE)):Obj:=.map (mkEs 0 es).toArray es.length
def QqW(k:AJ):Y (AJ×AE)->Nat->I (Nat×AE)
 |[],_=>none
 |(k',v)::r,j=>if k=k' then some (j,v)else QqW k r (j+1)
def Qkz(k:AJ):Y (AJ×AE)->I AE
 |[]=>none
 |(k',v)::r=>if k=k' then some v else Qkz k r
def Qso(k):∀(es:Y (AJ×AE)) (j:Nat),(QqW k es j).map (·.2)=Qkz k es
 |[],_=>rfl
 |(k',v)::r,j=>by
  unfold QqW Qkz
  split
  .rfl
  .exact Qso k r (j+1)
def Qv5(a b:AJ):(a == b)=decide (a=b):=by
 rw[beq_toListBytes];exact QoA a b
def QqL(k):∀(es:Y (AJ×AE)) (i j:Nat),Instr.findNow .string (.string k) (mkEs i es) j=some (QqW k es j)
 |[],_,_=>rfl
 |(k',v)::r,i,j=>by
  unfold mkEs Instr.findNow QqW
  simp only[Instr.sameNow,Qv5]
  by_cases h:k=k'
  .simp[h]
  .simp only[h,decide_false,if_false];exact QqL k r (i+1) (j+1)
def Ql4:∀(es:Y (AJ×AE)) (i:Nat) (k:AJ) (v:AE),mkEs i (es++[(k,v)])=mkEs i es++[{ key:=.string k,val:=v,born:=i+es.length }]
 |[],i,k,v=>rfl
 |(k',v')::r,i,k,v=>by
  simp only[BE,mkEs,Ql4 r (i+1) k v,Ad]
  rw[show i+1+r.length=i+(r.length+1)by omega]
def Qbl(hK:P.underlying K=some .string):(Instr.checkKey b 10000 K (.string k)).run P w=.ok () w:=by
 rw[show(10000:Nat)=9999+1 from rfl]
 generalize 9999=m
 unfold Instr.checkKey
 simp[run_underlying hK]
def QeC(hK:P.underlying K=some .string)(es)(i):(Instr.findKey K (.string k) (mkEs i es)).run P w=.ok (QqW k es 0) w:=by
 simp[Instr.findKey,run_underlying hK,QqL]
def TE.makeMap(ho:o.op=.makeMap T none):TE P o ⟨rd,[],.oref true n,[(n,.obj (smap []))],[n]⟩:=
 TE.mk fun Γ ρ M s a w hs hh=>by
  obtain⟨hn,hf⟩:=hh.nw n Ob
  refine⟨.map (some w.heap.size),w.alloc (smap []),_,_,?_,hs.mkObj hn hf (smap []),?_⟩
  .simp[execOp,ho,Instr.makeMap,smap,mkEs]
  .simp only[AV.R];exact⟨rfl,fun _ _=>⟨w.heap.size,Ob,Ob⟩⟩
def TE.putS(hdst:o.dst=none)(ho:o.op=.mapUpdate T x y z\/o.op=.insert T x y z)(hT:P.underlying T=some (.map K E))(hK:P.underlying K=some .string)(hx:Qi rd x=some (.oref true n))(hy:Qi rd y=some (.p (.v (.string k))))(hz:Qi rd z=some (.p (.v v)))(hno:Qkz k es=none)(he:es++[(k,v)]=es'):TE P o ⟨rd,[(n,.obj (smap es))],.any,[(n,.obj (smap es'))],[]⟩:=
 TE.wr hdst fun Γ ρ M s a w hs hh=>by
  subst he
  have hr:=Qj hs hh hx
  simp only[AV.R,if_true]at hr
  have hn:=hh.hp n _ (by simp:(n,AO.obj (smap es))∈_)
  obtain⟨b,hb,hu⟩:=hr.2 _ hn
  obtain⟨b',g1,g2,g3⟩:=hs.objs n _ hn
  have e:b'=b:=by rw[g1]at hb;simpa using hb
  subst e
  have hky:=Qj hs hh hy
  have hvz:=Qj hs hh hz
  simp only[AV.R,PV.R]at hky hvz
  have hl:QqW k es 0=none:=by
   have:=Qso k es 0;rw[hno]at this;simpa using this
  have hrun:(Instr.mapUpdate T (a.eval x) (a.eval y) (a.eval z)).run P w=.ok () (setB w b' (smap (es++[(k,v)]))):=by
   rw[hu,hky.1,hvz.1]
   have h1:=Qt3 (P:=P) (x:=smap es) rfl g3
   have h2:=Qzs (P:=P) (x:=smap es) (y:=smap (es++[(k,v)])) rfl g3
   simp only[smap]at h1 h2
   have h3:(Array.push (mkEs 0 es).toArray { key:=.string k,val:=v,born:=es.length })=(mkEs 0 (es++[(k,v)])).toArray:=by
    rw[Ql4];simp
   simp[Instr.mapUpdate,run_underlying hT,h1,Qbl hK,QeC hK,hl,h3]
   simpa [smap]using h2
  refine⟨_,_,_,?_,hs.setObj (y:=smap (es++[(k,v)])) hn hb⟩
  rcases ho with ho|ho<;>simp[execOp,ho,hrun]
def Qvp(P:AF)(T:AD):I AE:=match P.info? T with
 |some i=>i.zero
 |none=>none
def QrE(h:Qvp P T=some z)(w):(zeroValue T).run P w=.ok z w:=by
 unfold Qvp at h
 split at h
 .rename_i i hi;exact YR hi h w
 .simp at h
def QuD(hT:P.underlying T=some (.map K E))(hK:P.underlying K=some .string)(hz:Qvp P E=some z)(hb:w.heap[b]?=some (smap es)):(Instr.lookup T (.map (some b)) (.string k) ok).run P w=.ok (if ok then .tuple #[(Qkz k es).getD z,.bool (Qkz k es).isSome]else(Qkz k es).getD z) w:=by
 have h1:=Qt3 (P:=P) (x:=smap es) rfl hb
 simp only[smap]at h1
 have h2:=Qso k es 0
 cases hl:QqW k es 0 with
 |none=>
  rw[hl]at h2
  simp only[Option.map_none]at h2
  simp[Instr.lookup,run_underlying hT,h1,Qbl hK,QeC hK,hl,QrE hz,<-h2]
 |some p=>
  rw[hl]at h2
  simp at h2
  simp[Instr.lookup,run_underlying hT,h1,Qbl hK,QeC hK,hl,QrE hz,<-h2]
def TE.lookup(ho:o.op=.lookup T x y false)(hT:P.underlying T=some (.map K E))(hK:P.underlying K=some .string)(hz:Qvp P E=some z)(hx:Qi rd x=some (.oref true n))(hy:Qi rd y=some (.p (.v (.string k))))(hr:(Qkz k es).getD z=r)(h1:r.oneCell'=true):TE P o ⟨rd,[(n,.obj (smap es))],.p (.v r),[],[]⟩:=
 TE.quiet fun Γ ρ M s a w hs hh=>by
  have hq:=Qj hs hh hx
  simp only[AV.R,if_true]at hq
  have hn:=hh.hp n _ (by simp:(n,AO.obj (smap es))∈_)
  obtain⟨b,hb,hu⟩:=hq.2 _ hn
  obtain⟨b',g1,g2,g3⟩:=hs.objs n _ hn
  have e:b'=b:=by rw[g1]at hb;simpa using hb
  subst e
  have hky:=Qj hs hh hy
  simp only[AV.R,PV.R]at hky
  have:=QuD (k:=k) (ok:=false) hT hK hz g3
  exact⟨r,by simp[execOp,ho,hu,hky.1,this,hr],by simp only[AV.R,PV.R];exact⟨trivial,h1⟩⟩
def bAt(t:AJ)(i:Nat):Nat:=(t[i]?.getD 0).toNat
def TE.indexS(ho:o.op=.index T x y)(hT:P.underlying T=some .string)(hx:Qi rd x=some (.p (.v (.string t))))(hy:Qi rd y=some (.p (.v (.int k j))))(hj:j=((i:Nat):Int))(hi:i<t.size):TE P o ⟨rd,[],.p (.v (.int .u8 ((bAt t i:Nat):Int))),[],[]⟩:=
 TE.quiet fun Γ ρ M s a w hs hh=>by
  have h1:=Qj hs hh hx
  have h2:=Qj hs hh hy
  simp only[AV.R,PV.R]at h1 h2
  refine⟨.int .u8 ((bAt t i:Nat):Int),?_,by simp only[AV.R,PV.R];exact⟨trivial,rfl⟩⟩
  subst hj
  have h3:t[i]?=some t[i]:=ByteArray.getElem?_lt' t i hi
  simp[execOp,ho,h1.1,h2.1,Instr.index,run_underlying hT,asIntOf,h3,bAt]
def TE.lenS(ho:o.op=.call { callee:=.builtin .len,args:=#[x],argTypes:=ats })(hat:ats[0]?=some T)(hT:P.underlying T=some .string)(hx:Qi rd x=some (.p (.v (.string t)))):TE P o ⟨rd,[],.p (.v (.int .i64 ((t.size:Nat):Int))),[],[]⟩:=
 TE.quiet fun Γ ρ M s a w hs hh=>by
  have hr':=Qj hs hh hx
  simp only[AV.R,PV.R]at hr'
  refine⟨.int .i64 ((t.size:Nat):Int),?_,by simp only[AV.R,PV.R];exact⟨trivial,rfl⟩⟩
  simp[execOp,ho,resolve,invoke,builtin,Builtin.len_,hat,hr'.1,run_underlying hT,goInt]
def TE.addS(ho:o.op=.binOp .add T x y T')(hx:Qi rd x=some (.p (.v (.string p))))(hy:Qi rd y=some (.p (.v (.string q))))(hl:p.size+q.size<=9223372036854775807)(hr:p++q=r):
  TE P o ⟨rd,[],.p (.v (.string r)),[],[]⟩:=
 TE.bin ho hx hy (eqGuard_at_string ..) (fun w=>by
  subst hr
  have:¬IntKind.i64.max<((p.size+q.size:Nat):Int):=by rw[IntKind.max_i64];omega
  simp only[binOp,Op.stringOp]
  rw[iA this];rfl) rfl
def optB(rd:Y (Nat×AV))(d:Nat):I AC->I Int
 |none=>some d
 |some x=>match Qi rd x with
  |some (.p (.v (.int .i64 j)))=>some j
  |_=>none
def QrB(hs:Sim Γ ρ M s a w)(hh:s.holds e)(hb:optB e.rd d x=some ((i:Nat):Int))(hi:i<=y):
  (match x.map a.eval with|some v=>Instr.sliceBound v y c|none=>pure d).run P w=.ok i w:=by
 cases x with
 |none=>
  simp only[optB,AP]at hb
  have:d=i:=U
  subst this;rfl
 |some x=>
  simp only[optB]at hb
  split at hb
  .rename_i j hx
   have hr:=Qj hs hh hx
   simp only[AV.R,PV.R]at hr
   simp at hb
   subst hb
   simp[Option.map,hr.1,Instr.sliceBound,asIntOf,hi]
  .simp at hb
def TE.upd(h:∀(Γ:Ctx) (ρ:Name->Loc) (M:Nat->Prop) (s:AS) (a:Act) (w:AG),Sim Γ ρ M s a w->s.holds ⟨rd,hp,v,[(n,ob)],[]⟩->∃u w' ρ' M',(execOp a.eval o).run P w=.ok (.value u) w'/\
   Sim Γ ρ' M' ⟨s.slot,fun m=>if m=n then some ob else s.heap m⟩ a w'/\v.R ρ' (fun m=>if m=n then some ob else s.heap m) M' w' u):TE P o ⟨rd,hp,v,[(n,ob)],[]⟩:=by
 intro Γ ρ M s a w K Q hs hh hd hK
 obtain⟨u,w',ρ',M',h1,h2,h3⟩:=h Γ ρ M s a w hs hh
 unfold Oper.wp
 rw[h1,Oper.upon_value]
 refine hK ρ' M' _ w' ((h2.put hd (fun _=>h3)).congr (fun t=>rfl) (fun m=>?_))
 simp only[AS.run,AS.set,X]
 grind
end
open Go
abbrev Out:=Y (Name×AO)×AV×Y (Name×AO)×Y Name
def Qcw(rd:Y (Nat×AV))(x:Out):Eff:=⟨rd,x.1,x.2.1,x.2.2.1,x.2.2.2⟩
def rdo(ts:Y (Nat×AV)):Y AC->Y (Nat×AV)
 |[]=>[]
 |.tmp t::r=>match X t ts with
  |some v=>(t,v)::rdo ts r
  |none=>rdo ts r
 |.const _::r=>rdo ts r
 |.global _::r=>rdo ts r
 |.func _::r=>rdo ts r
section
variable (P:AF) (rd:Y (Nat×AV)) (hs:Y (Name×AO))
def QAr(c x y:AC):I Out:=match Qi rd c with
 |some (.p (.v (.bool true)))=>(Qi rd x).map fun v=>([],v,[],[])
 |some (.p (.v (.bool false)))=>(Qi rd y).map fun v=>([],v,[],[])
 |_=>none
def Qvy(d:I Nat)(T:AD):I Out:=match d,Qhs P T with
 |some d,some cs=>some ([],.TM (1000+d) 0,[(1000+d,.box cs)],[1000+d])
 |_,_=>none
def aBox(d:I Nat)(x:AC):I Out:=match d,(Qi rd x).bind ZV with
 |some d,some cs=>some ([],.TM (1000+d) 0,[(1000+d,.box cs)],[1000+d])
 |_,_=>none
def QvA(T:AD)(parts:Array (Nat×AC)):I Out:=match Qp0 P T,Qhs P T with
 |some pl,some zs=>(QaS rd pl parts.toList zs).map fun cells=>([],.agg cells,[],[])
 |_,_=>none
def Qht(T:AD)(len:Nat)(parts:Array (Nat×AC)):I Out:=match W9 P T with
 |some e=>match Zl P e,Qag P e with
  |some es,some zr=>if Nat.ble 1 es && Nat.beq zr.length es && Nat.ble (len*es) 16777216 then(Qdf rd es parts.toList (List.replicate len zr)).map fun rows=>([],.p (.sl true es rows),[],[])else none
  |_,_=>none
 |none=>none
def QAq(T:AD)(x:AC):I Out:=match Qi rd x with
 |some (.TM n k)=>match X n hs with
  |some (.box cells)=>if aggT P T then
    match Zl P T with
    |some z=>if Nat.beq ((cells.drop k).take z).length z then some ([(n,.box cells)],.agg ((cells.drop k).take z),[],[])else none
    |none=>none
   else if Qcy P T then(cells[k]?).map fun c=>([(n,.box cells)],c,[],[])else none
  |_=>none
 |some (.eptr cells)=>if aggT P T then
   match Zl P T with
   |some z=>if Nat.beq (cells.take z).length z then some ([],.agg (pcells (cells.take z)),[],[])else none
   |none=>none
  else if Qcy P T then(cells[0]?).map fun c=>([],.p c,[],[])else none
 |_=>none
def QvE(d:I Nat)(T:AD)(x y:AC):I Out:=match d,Qi rd x,(Qi rd y).bind ZV with
 |none,some (.TM n k),some vs=>match X n hs with
  |some (.box cells)=>match Zl P T with
   |some z=>if Nat.beq z vs.length && Nat.ble (k+vs.length) cells.length then some ([(n,.box cells)],.any,[(n,.box (Qz cells k vs))],[])else none
   |none=>none
  |_=>none
 |_,_,_=>none
def Qjq(zI:AD)(x:AC)(i:Nat):I Out:=match Qi rd x,QbD P zI i with
 |some (.TM n k),some fo=>match X n hs with
  |some (.box cells)=>some ([(n,.box cells)],.TM n (k+fo),[],[])
  |_=>none
 |some (.eptr cells),some fo=>some ([],.eptr (cells.drop fo),[],[])
 |_,_=>none
def Qlf(x:AC):I Out:=match Qi rd x with
 |some (.TM n k)=>match X n hs with
  |some (.box cells)=>some ([(n,.box cells)],.TM n k,[],[])
  |_=>none
 |some (.eptr cells)=>some ([],.eptr cells,[],[])
 |_=>none
def cmpI:BinOp->Int->Int->I AH
 |.lss,a,b=>some (decide (a<b))
 |.leq,a,b=>some (decide (a<=b))
 |.gtr,a,b=>some (decide (b<a))
 |.geq,a,b=>some (decide (b<=a))
 |.eql,a,b=>some (decide (a=b))
 |.neq,a,b=>some (decide (a≠b))
 |_,_,_=>none
def cmpS:BinOp->AJ->AJ->I AH
 |.eql,a,b=>some (decide (a=b))
 |.neq,a,b=>some (decide (a≠b))
 |_,_,_=>none
def kEq:IntKind->IntKind->AH
 |.i64,.i64=>true
 |.i32,.i32=>true
 |.i16,.i16=>true
 |.i8,.i8=>true
 |.u64,.u64=>true
 |.u32,.u32=>true
 |.u16,.u16=>true
 |.u8,.u8=>true
 |_,_=>false
def QeT(h:kEq k k'=true):k'=k:=by
 cases k<;>cases k'<;>first|rfl|simp[kEq]at h
def aBin(op:BinOp)(x y:AC):I Out:=match Qi rd x,Qi rd y with
 |some (.p (.v (.int k a))),some (.p (.v (.int k' b)))=>if kEq k k' then(cmpI op a b).map fun q=>([],.p (.v (.bool q)),[],[])else none
 |some (.p (.v (.string a))),some (.p (.v (.string b)))=>(cmpS op a b).map fun q=>([],.p (.v (.bool q)),[],[])
 |_,_=>none
def aUn(op:UnOp)(x:AC):I Out:=match op,Qi rd x with
 |.not,some (.p (.v (.bool b)))=>some ([],.p (.v (.bool (!b))),[],[])
 |_,_=>none
def QvC(T:AD)(x:AC)(i:Nat):I Out:=match Qi rd x,P.underlying T with
 |some (.agg cells),some (.struct fs)=>match fs[i]? with
  |some f=>if aggT P f.type then
    match Zl P f.type with
    |some z=>some ([],.agg ((cells.drop f.offset).take z),[],[])
    |none=>none
   else if Qcy P f.type then(cells[f.offset]?).map fun c=>([],c,[],[])else none
  |none=>none
 |_,_=>none
def Qou(x:AC)(i:Nat):I Out:=match Qi rd x with
 |some (.tup vs)=>(vs[i]?).map fun v=>([],v,[],[])
 |_=>none
def QAp(fn:Fn)(a b:Array AC):I Out:=match Qg0 rd a.toList,Qg0 rd b.toList with
 |some fs,some cs=>if fs.all Qhg && cs.all Qhg then some ([],.clo fn fs cs,[],[])else none
 |_,_=>none
def auto(o:Oper):I Out:=match o.op with
 |.move x=>(Qi rd x).map fun v=>([],v,[],[])
 |.assign x=>(Qi rd x).map fun v=>([],v,[],[])
 |.pick c x y=>QAr rd c x y
 |.alloc T=>Qvy P o.dst T
 |.box _ x=>aBox rd o.dst x
 |.build T parts=>QvA P rd T parts
 |.buildSlice T len parts=>Qht P rd T len parts
 |.load T x=>QAq P rd hs T x
 |.store T x y=>QvE P rd hs o.dst T x y
 |.fieldAddr zI x i=>Qjq P rd hs zI x i
 |.nilCheck x=>Qlf rd hs x
 |.binOp op _ x y _=>aBin rd op x y
 |.unOp op _ x=>aUn rd op x
 |.field T x i=>QvC P rd T x i
 |.extract x i=>Qou rd x i
 |.makeFunc fn a b=>QAp rd fn a b
 |_=>none
end
def map_some{α β:Type}{x:I α}{f:α->β}{y:β}(h:x.map f=some y):∃v,x=some v/\f v=y:=by
 simp_all
def UF{α β:Type}{x:I α}{f:α->I β}{y:β}(h:x.bind f=some y):∃v,x=some v/\f v=some y:=by
 cases x with
 |none=>simp at h
 |some v=>exact⟨v,rfl,by simpa using h⟩
section
def Qyi(ho:o.op=.pick c x y)(h:QAr rd c x y=some e):TE P o (Qcw rd e):=by
 unfold QAr at h
 split at h
 .rename_i hc;obtain⟨v,hv,rfl⟩:=map_some h;exact TE.pickT ho hc hv
 .rename_i hc;obtain⟨v,hv,rfl⟩:=map_some h;exact TE.pickF ho hc hv
 .simp at h
def Qvz(ho:o.op=.alloc T)(h:Qvy P o.dst T=some e):TE P o (Qcw rd e):=by
 unfold Qvy at h
 split at h
 .rename_i d cs hd hz;cases h;exact TE.alloc ho hz
 .simp at h
def QAo(ho:o.op=.box T x)(h:aBox rd o.dst x=some e):TE P o (Qcw rd e):=by
 unfold aBox at h
 split at h
 .rename_i d cs hd hx;cases h;obtain⟨v,hv,hc⟩:=UF hx;exact TE.box ho hv hc
 .simp at h
def QvB(ho:o.op=.build T parts)(h:QvA P rd T parts=some e):TE P o (Qcw rd e):=by
 unfold QvA at h
 split at h
 .rename_i pl zs h1 h2;obtain⟨v,hv,rfl⟩:=map_some h;exact TE.build ho h1 h2 hv
 .simp at h
def Qm6(ho:o.op=.buildSlice T len parts)(h:Qht P rd T len parts=some e):TE P o (Qcw rd e):=by
 unfold Qht at h
 split at h
 .rename_i e' he
  split at h
  .rename_i es zr h1 h2
   split at h
   .rename_i hb
    simp only[bae]at hb
    obtain⟨v,hv,rfl⟩:=map_some h
    exact TE.buildSlice ho he h1 hb.1.1 h2 (nbe hb.1.2) hb.2 hv
   .simp at h
  .simp at h
 .simp at h
def Qyh(ho:o.op=.load T x)(h:QAq P rd hs T x=some e):TE P o (Qcw rd e):=by
 unfold QAq at h
 split at h
 .rename_i n k hx
  split at h
  .rename_i cells hc
   split at h
   .rename_i hT
    split at h
    .rename_i z hz
     split at h
     .rename_i hl;cases h;exact TE.loadBoxAgg ho hx hT hz rfl (nbe hl)
     .simp at h
    .simp at h
   .split at h
    .rename_i hT;obtain⟨v,hv,rfl⟩:=map_some h;exact TE.loadBox ho hx hT hv
    .simp at h
  .simp at h
 .rename_i cells hx
  split at h
  .rename_i hT
   split at h
   .rename_i z hz
    split at h
    .rename_i hl;cases h;exact TE.loadPtrAgg ho hx hT hz rfl (nbe hl) rfl
    .simp at h
   .simp at h
  .split at h
   .rename_i hT;obtain⟨v,hv,rfl⟩:=map_some h;exact TE.loadPtr ho hx hT hv
   .simp at h
 .simp at h
def QvF(ho:o.op=.store T x y)(h:QvE P rd hs o.dst T x y=some e):TE P o (Qcw rd e):=by
 unfold QvE at h
 split at h
 .rename_i n k vs hd hx hy
  split at h
  .rename_i cells hc
   split at h
   .rename_i z hz
    split at h
    .rename_i hl
     simp only[bae]at hl
     cases h
     obtain⟨v,hv,hvs⟩:=UF hy
     exact TE.storeBox hd ho hx hv hvs (by rw[hz,nbe hl.1]) hl.2 rfl
    .simp at h
   .simp at h
  .simp at h
 .simp at h
def Qov(ho:o.op=.fieldAddr zI x i)(h:Qjq P rd hs zI x i=some e):TE P o (Qcw rd e):=by
 unfold Qjq at h
 split at h
 .rename_i n k fo hx hf
  split at h
  .rename_i cells hc;cases h;exact TE.fieldRef ho hx hf rfl
  .simp at h
 .rename_i cells fo hx hf;cases h;exact TE.fieldPtr ho hx hf rfl
 .simp at h
def Qqb(ho:o.op=.nilCheck x)(h:Qlf rd hs x=some e):TE P o (Qcw rd e):=by
 unfold Qlf at h
 split at h
 .rename_i n k hx
  split at h
  .rename_i cells hc;cases h;exact TE.nilCheckRef ho hx
  .simp at h
 .rename_i cells hx;cases h;exact TE.nilCheckPtr ho hx
 .simp at h
def QAn(ho:o.op=.binOp op T x y T')(h:aBin rd op x y=some e):TE P o (Qcw rd e):=by
 unfold aBin at h
 split at h
 .rename_i k a k' b hx hy
  split at h
  .rename_i hk
   have:=QeT hk;subst this
   obtain⟨v,hv,rfl⟩:=map_some h
   cases op<;>simp only[cmpI,AP,reduceCtorEq]at hv
   .exact TE.eqlI ho hx hy hv
   .exact TE.neqI ho hx hy hv
   .exact TE.lss ho hx hy hv
   .exact TE.leq ho hx hy hv
   .exact TE.gtr ho hx hy hv
   .exact TE.geq ho hx hy hv
  .simp at h
 .rename_i a b hx hy
  obtain⟨v,hv,rfl⟩:=map_some h
  cases op<;>simp only[cmpS,AP,reduceCtorEq]at hv
  .exact TE.eqlS ho hx hy hv
  .exact TE.neqS ho hx hy hv
 .simp at h
def QB9(ho:o.op=.unOp op T x)(h:aUn rd op x=some e):TE P o (Qcw rd e):=by
 unfold aUn at h
 split at h
 .rename_i b hx;cases h;exact TE.not ho hx rfl
 .simp at h
def QvD(ho:o.op=.field T x i)(h:QvC P rd T x i=some e):TE P o (Qcw rd e):=by
 unfold QvC at h
 split at h
 .rename_i cells fs hx hu
  split at h
  .rename_i f hf
   split at h
   .rename_i hT
    split at h
    .rename_i z hz;cases h;exact TE.fieldAgg (off:=0) (T':=0) ho hx hu hf hT hz rfl
    .simp at h
   .split at h
    .rename_i hT;obtain⟨v,hv,rfl⟩:=map_some h;exact TE.field ho hx hu hf hT hv
    .simp at h
  .simp at h
 .simp at h
def QrY(ho:o.op=.extract x i)(h:Qou rd x i=some e):TE P o (Qcw rd e):=by
 unfold Qou at h
 split at h
 .rename_i vs hx;obtain⟨v,hv,rfl⟩:=map_some h;exact TE.extract ho hx hv
 .simp at h
def Qyg(ho:o.op=.makeFunc fn a b)(h:QAp rd fn a b=some e):TE P o (Qcw rd e):=by
 unfold QAp at h
 split at h
 .rename_i fs cs h1 h2
  split at h
  .rename_i hf;simp only[bae]at hf;cases h;exact TE.makeFunc ho h1 h2 hf.1 hf.2
  .simp at h
 .simp at h
def Qr2(h:auto P rd hs o=some e):TE P o (Qcw rd e):=by
 unfold auto at h
 split at h
 .rename_i x ho;obtain⟨v,hv,rfl⟩:=map_some h;exact TE.move ho hv
 .rename_i x ho;obtain⟨v,hv,rfl⟩:=map_some h;exact TE.assign ho hv
 .rename_i ho;exact Qyi ho h
 .rename_i ho;exact Qvz ho h
 .rename_i ho;exact QAo ho h
 .rename_i ho;exact QvB ho h
 .rename_i ho;exact Qm6 ho h
 .rename_i ho;exact Qyh ho h
 .rename_i ho;exact QvF ho h
 .rename_i ho;exact Qov ho h
 .rename_i ho;exact Qqb ho h
 .rename_i ho;exact QAn ho h
 .rename_i ho;exact QB9 ho h
 .rename_i ho;exact QvD ho h
 .rename_i ho;exact QrY ho h
 .rename_i ho;exact Qyg ho h
 .simp at h
end
inductive Item where
 |a
 |m (d:Option Nat) (e:Eff)
def putD(d:I Nat)(v:AV)(ts:Y (Nat×AV)):Y (Nat×AV):=match d with
 |some d=>(d,v)::ts
 |none=>ts
def rowA(P:AF)(ops:Array Oper)(i:Nat)(ts:Y (Nat×AV))(hs:Y (Name×AO)):I Row:=match ops[i]? with
 |none=>none
 |some o=>match o.guard with
  |none=>(auto P (rdo ts o.op.operands.toList) hs o).map fun x=>(o.dst,Qcw (rdo ts o.op.operands.toList) x)
  |some (j,b)=>match (ops[j]?).bind (·.dst)with
   |none=>none
   |some g=>match X g ts with
    |some (.p (.v (.bool q)))=>match q,b with
     |true,true=>(auto P ((g,.p (.v (.bool true)))::rdo ts o.op.operands.toList) hs o).map fun x=>(o.dst,Qcw ((g,.p (.v (.bool true)))::rdo ts o.op.operands.toList) x)
     |false,false=>(auto P ((g,.p (.v (.bool false)))::rdo ts o.op.operands.toList) hs o).map fun x=>(o.dst,Qcw ((g,.p (.v (.bool false)))::rdo ts o.op.operands.toList) x)
     |true,false=>some (o.dst,⟨[(g,.p (.v (.bool true)))],[],.tup [],[],[]⟩)
     |false,true=>some (o.dst,⟨[(g,.p (.v (.bool false)))],[],.tup [],[],[]⟩)
    |some (.tup [])=>some (o.dst,⟨[(g,.tup [])],[],.tup [],[],[]⟩)
    |_=>none
def QBJ(h:rowA P ops i ts hs=some r):ZT P ops i r.1 r.2:=by
 unfold rowA at h
 split at h
 .simp at h
 .rename_i o hi
  split at h
  .rename_i hg;obtain⟨x,hx,rfl⟩:=map_some h;exact ZT.plain hi hg (Qr2 hx)
  .rename_i j b hg
   split at h
   .simp at h
   .rename_i g hj0
    obtain⟨oj,hj,hjd⟩:=UF hj0
    split at h
    .split at h
     .obtain⟨x,hx,rfl⟩:=map_some h;exact ZT.guarded hi hg hj hjd (by simp[Qcw]) (Qr2 hx)
     .obtain⟨x,hx,rfl⟩:=map_some h;exact ZT.guarded hi hg hj hjd (by simp[Qcw]) (Qr2 hx)
     .cases h;exact ZT.k hi rfl hg hj hjd rfl
     .cases h;exact ZT.k hi rfl hg hj hjd rfl
    .cases h;exact ZT.skipped2 hi hg hj hjd
    .simp at h
def Man(P:AF)(ops:Array Oper):Nat->Y Item->Prop
 |_,[]=>True
 |i,.a::r=>Man P ops (i+1) r
 |i,.m d e::r=>ZT P ops i d e/\Man P ops (i+1) r
section
def aa:Nat->Y Item
 |0=>[]
 |n+1=>.a::aa n
def Man.aa{P:AF}{ops:Array Oper}:∀(n i:Nat),Man P ops i (aa n)
 |0,_=>trivial
 |n+1,i=>Man.aa n (i+1)
end
end Go.Proofs.YtlllfgmajglnhaaGreat.AM
