/-
  The law PagingDrives answers true at every input, and its arguments read behind the call as before. No condition.
-/
import Derived.Test.YtlllfgmajglnhaaGreatRows
import Derived.Test.YtlllfgmajglnhaaGreatQRowDriA
import Derived.Test.YtlllfgmajglnhaaGreatQRowDriF
import Derived.Test.YtlllfgmajglnhaaGreatQRowDriG
set_option linter.defProp false
set_option linter.constructorNameAsVariable false
set_option linter.unusedSimpArgs false
set_option linter.unusedVariables false
namespace Go.Proofs.YtlllfgmajglnhaaGreat
open Go AM Go.ChangeShapes Go.WideShapes Go.ChangeAt Go.RowKit
def Qky(t:Y Int):WT Tryz.prog 9 [.p (.sl false 1 (t.map D.cInt))] [] (vB true) []:=by
 obtain⟨L1,_,_,h⟩:=(QfA 1000).spec (t,()) () (true,()) ()
  (by show O (WV 1000 t) _=_;rw[QjN];rfl) (fun _ _=>0) (fun n t' l v hn=>by change AM.X n []=_ at hn;simp[AM.X]at hn)
 exact h
set_option maxRecDepth 100000 in
def QhQ(os:Os)(started:os.Started)(H:Type)(enc:AD×AE->H):
  ReturnsInHanded {} Tryz.checked os 9 .any (Rows.pagingDrivesSpec.pre6 enc Tryz.prog Tryz.f9 Rows.pagingDrivesRow.domain false)
   (Rows.pagingDrivesSpec.post enc Tryz.prog Tryz.f9 Rows.pagingDrivesRow.apart Rows.pagingDrivesRow.fresh Rows.pagingDrivesRow.handsOn Rows.pagingDrivesRow.again):=by
 refine returnsInHanded_of_change (C:=Tryz.checked) (by kernel_rfl) started (by kernel_rfl) Tryz.func9
  (ChangeSpec.witness6 (enc:=enc) (C:=Tryz.checked) false ⟨#[],#[.slice none 0 0],[]⟩ 8 (by kernel_rfl) (by kernel_rfl) (by kernel_rfl) (by kernel_rfl)) ?_
 intro W base args ds gs before hval0 hW _ _
 have hval:∀(j:Nat) t v,Tryz.f9.params[j]?=some t->args[j]?=some v->Value.okWide Tryz.prog W .any base t v:=hval0
 have hW':=hW
 obtain⟨p,q,hA0,hV,rfl,_,_⟩:=hW
 have hA:DataW.TrodAll enc Tryz.prog W 0 (fun _=>true) true Tryz.f9.params.toList args.toList ds p:=hA0
 rw[Tryz.params9]at hA hval
 obtain⟨v0,d0,rfl,rfl,h0⟩:=trodAll_one hA
 obtain⟨t,hq0,k0⟩:=QAs (dec:=fun l:Y Int=>PV.sl false 1 (l.map D.cInt)) (QsQ (e:=3) (n:=1) (by kernel_rfl) (by kernel_rfl) (by decide) (fun _=>rfl) (Qxw (k:=.i64) (by kernel_rfl))) h0 (Qsd (e:=3) (by kernel_rfl) (hval 0 _ v0 rfl rfl))
 refine(QwW (us:=[v0]) (Qky t) trivial (fun ρ Hp=>?_)).mono fun e W' ⟨he,hx⟩=>?_
 .simp only[AV.Ts]
  exact⟨_,_,rfl,k0,rfl⟩
 .exact⟨_,he,Qy2 (by kernel_rfl) (BF (by kernel_rfl)) (tb:=4) (by kernel_rfl) (by kernel_rfl) rfl rfl rfl rfl hW' hx⟩
theorem pagingDrives_holds:Rows.PagingDrivesSaid:=
 OpenClaim.holds_of_wide 9 Tryz.f9 rfl rfl rfl rfl rfl rfl rfl ⟨rfl,rfl,rfl,rfl,rfl⟩ rfl rfl rfl rfl rfl (by kernel_rfl) Tryz.func9 QhP
  (BF (by kernel_rfl)) (by unfold Func.isWrapper;first|(rw[iB (by decide +kernel)];kernel_rfl)|(rw[iA (by decide +kernel)];exact⟨rfl,rfl⟩))
  (fun os started H enc _=>QhQ os started H enc)
#print axioms pagingDrives_holds
end Go.Proofs.YtlllfgmajglnhaaGreat
