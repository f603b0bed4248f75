/-
  The law PagingViews answers true at every input, and its arguments read behind the call as before. No condition.
-/
import Derived.Test.YtlllfgmajglnhaaGreatRows
import Derived.Test.YtlllfgmajglnhaaGreatQRowVieA
import Derived.Test.YtlllfgmajglnhaaGreatQRowVieF
import Derived.Test.YtlllfgmajglnhaaGreatQRowVieG
set_option linter.defProp false
set_option linter.constructorNameAsVariable false
set_option linter.unusedSimpArgs false
set_option linter.unusedVariables false
namespace Go.Proofs.YtlllfgmajglnhaaGreat
open Go AM Go.ChangeShapes Go.WideShapes Go.ChangeAt Go.RowKit
def Qmu(t:Y Int):WH Tryz.prog 6 [.p (.sl false 1 (t.map D.cInt))] [] (vB true) []:=by
 obtain⟨L1,_,_,h⟩:=(Qhk 1000).spec (t,()) () (true,()) ()
  (by show V (Vl 1000 t) _=_;rw[QkZ];rfl) (fun _ _=>0) (fun n t' l v hn=>by change AM.C n []=_ at hn;simp[AM.C]at hn)
 exact h
set_option maxRecDepth 100000 in
def Qi5(os:Os)(started:os.Started)(H:Type)(enc:AD×AE->H):
  ReturnsInHanded {} Tryz.checked os 6 .any (Rows.pagingViewsSpec.pre6 enc Tryz.prog Tryz.f6 Rows.pagingViewsRow.domain false)
   (Rows.pagingViewsSpec.post enc Tryz.prog Tryz.f6 Rows.pagingViewsRow.apart Rows.pagingViewsRow.fresh Rows.pagingViewsRow.handsOn Rows.pagingViewsRow.again):=by
 refine returnsInHanded_of_change (C:=Tryz.checked) (by kernel_rfl) started (by kernel_rfl) Tryz.func6
  (ChangeSpec.witness6 (enc:=enc) (C:=Tryz.checked) false ⟨#[],#[.slice none 0 0],[]⟩ 8 (by kernel_rfl) (by kernel_rfl) (by kernel_rfl) (by kernel_rfl)) ?_
 intro W base args ds gs before hval0 hW _ _
 have hval:∀(j:Nat) t v,Tryz.f6.params[j]?=some t->args[j]?=some v->Value.okWide Tryz.prog W .any base t v:=hval0
 have hW':=hW
 obtain⟨p,q,hA0,hV,rfl,_,_⟩:=hW
 have hA:DataW.TrodAll enc Tryz.prog W 0 (fun _=>true) true Tryz.f6.params.toList args.toList ds p:=hA0
 rw[Tryz.params6]at hA hval
 obtain⟨v0,d0,rfl,rfl,h0⟩:=trodAll_one hA
 obtain⟨t,hq0,k0⟩:=QBb (dec:=fun l:Y Int=>PV.sl false 1 (l.map D.cInt)) (QtM (e:=3) (n:=1) (by kernel_rfl) (by kernel_rfl) (by decide) (fun _=>rfl) (Qyg (k:=.i64) (by kernel_rfl))) h0 (Qs8 (e:=3) (by kernel_rfl) (hval 0 _ v0 rfl rfl))
 refine(QxE (us:=[v0]) (Qmu t) trivial (fun ρ Hp=>?_)).mono fun e W' ⟨he,hx⟩=>?_
 .simp only[AV.Ts]
  exact⟨_,_,rfl,k0,rfl⟩
 .exact⟨_,he,QzL (by kernel_rfl) (BE (by kernel_rfl)) (tb:=4) (by kernel_rfl) (by kernel_rfl) rfl rfl rfl rfl hW' hx⟩
theorem pagingViews_holds:Rows.PagingViewsSaid:=
 OpenClaim.holds_of_wide 6 Tryz.f6 rfl rfl rfl rfl rfl rfl rfl ⟨rfl,rfl,rfl,rfl,rfl⟩ rfl rfl rfl rfl rfl (by kernel_rfl) Tryz.func6 Qi4
  (BE (by kernel_rfl)) (by unfold Func.isWrapper;first|(rw[iB (by decide +kernel)];kernel_rfl)|(rw[iA (by decide +kernel)];exact⟨rfl,rfl⟩))
  (fun os started H enc _=>Qi5 os started H enc)
#print axioms pagingViews_holds
end Go.Proofs.YtlllfgmajglnhaaGreat
