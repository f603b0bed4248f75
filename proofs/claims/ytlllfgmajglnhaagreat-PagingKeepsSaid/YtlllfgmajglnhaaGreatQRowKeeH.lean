/-
  The law PagingKeeps answers true at every input, and its arguments read behind the call as before. No condition.
-/
import Derived.Test.YtlllfgmajglnhaaGreatRows
import Derived.Test.YtlllfgmajglnhaaGreatQRowKeeA
import Derived.Test.YtlllfgmajglnhaaGreatQRowKeeF
import Derived.Test.YtlllfgmajglnhaaGreatQRowKeeG
set_option linter.defProp false
set_option linter.constructorNameAsVariable false
set_option linter.unusedSimpArgs false
set_option linter.unusedVariables false
namespace Go.Proofs.YtlllfgmajglnhaaGreat
open Go AM Go.ChangeShapes Go.WideShapes Go.ChangeAt Go.RowKit
def Qmf(t:Y Int):WI Tryz.prog 5 [.p (.sl false 1 (t.map D.cInt))] [] (vB true) []:=by
 obtain⟨L1,_,_,h⟩:=(Qhf 1000).spec (t,()) () (true,()) ()
  (by show V (Vo 1000 t) _=_;rw[QkK];rfl) (fun _ _=>0) (fun n t' l v hn=>by change AM.C n []=_ at hn;simp[AM.C]at hn)
 exact h
set_option maxRecDepth 100000 in
def QiY(os:Os)(started:os.Started)(H:Type)(enc:AD×AE->H):
  ReturnsInHanded {} Tryz.checked os 5 .any (Rows.pagingKeepsSpec.pre6 enc Tryz.prog Tryz.f5 Rows.pagingKeepsRow.domain false)
   (Rows.pagingKeepsSpec.post enc Tryz.prog Tryz.f5 Rows.pagingKeepsRow.apart Rows.pagingKeepsRow.fresh Rows.pagingKeepsRow.handsOn Rows.pagingKeepsRow.again):=by
 refine returnsInHanded_of_change (C:=Tryz.checked) (by kernel_rfl) started (by kernel_rfl) Tryz.func5
  (ChangeSpec.witness6 (enc:=enc) (C:=Tryz.checked) false ⟨#[],#[.slice none 0 0],[]⟩ 8 (by kernel_rfl) (by kernel_rfl) (by kernel_rfl) (by kernel_rfl)) ?_
 intro W base args ds gs before hval0 hW _ _
 have hval:∀(j:Nat) t v,Tryz.f5.params[j]?=some t->args[j]?=some v->Value.okWide Tryz.prog W .any base t v:=hval0
 have hW':=hW
 obtain⟨p,q,hA0,hV,rfl,_,_⟩:=hW
 have hA:DataW.TrodAll enc Tryz.prog W 0 (fun _=>true) true Tryz.f5.params.toList args.toList ds p:=hA0
 rw[Tryz.params5]at hA hval
 obtain⟨v0,d0,rfl,rfl,h0⟩:=trodAll_one hA
 obtain⟨t,hq0,k0⟩:=QAX (dec:=fun l:Y Int=>PV.sl false 1 (l.map D.cInt)) (Qtu (e:=3) (n:=1) (by kernel_rfl) (by kernel_rfl) (by decide) (fun _=>rfl) (QxX (k:=.i64) (by kernel_rfl))) h0 (QsQ (e:=3) (by kernel_rfl) (hval 0 _ v0 rfl rfl))
 refine(Qxj (us:=[v0]) (Qmf t) trivial (fun ρ Hp=>?_)).mono fun e W' ⟨he,hx⟩=>?_
 .simp only[AV.Ts]
  exact⟨_,_,rfl,k0,rfl⟩
 .exact⟨_,he,Qzu (by kernel_rfl) (BE (by kernel_rfl)) (tb:=4) (by kernel_rfl) (by kernel_rfl) rfl rfl rfl rfl hW' hx⟩
theorem pagingKeeps_holds:Rows.PagingKeepsSaid:=
 OpenClaim.holds_of_wide 5 Tryz.f5 rfl rfl rfl rfl rfl rfl rfl ⟨rfl,rfl,rfl,rfl,rfl⟩ rfl rfl rfl rfl rfl (by kernel_rfl) Tryz.func5 QiX
  (BE (by kernel_rfl)) (by unfold Func.isWrapper;first|(rw[iB (by decide +kernel)];kernel_rfl)|(rw[iA (by decide +kernel)];exact⟨rfl,rfl⟩))
  (fun os started H enc _=>QiY os started H enc)
#print axioms pagingKeeps_holds
end Go.Proofs.YtlllfgmajglnhaaGreat
