/-
  The law PagingMajority answers true at every input, and its arguments read behind the call as before. No condition.
-/
import Derived.Test.YtlllfgmajglnhaaGreatRows
import Derived.Test.YtlllfgmajglnhaaGreatQRowMajA
import Derived.Test.YtlllfgmajglnhaaGreatQRowMajF
import Derived.Test.YtlllfgmajglnhaaGreatQRowMajG
set_option linter.unusedSimpArgs false
set_option linter.unusedVariables false
namespace Go.Proofs.YtlllfgmajglnhaaGreat
open Go AM Go.ChangeShapes Go.WideShapes Go.ChangeAt Go.RowKit
theorem Qgy(t:List Int):QcY Tryz.prog 3 [.p (.sl false 1 (t.map D.cInt))] [] (vB true) []:=by
 obtain⟨L1,_,_,h⟩:=(Qck 1000).spec (t,()) () (true,()) ()
  (by show optc (YK 1000 t) _=_;rw[QfQ];rfl) (fun _ _=>0) (fun n t' l v hn=>by change AM.look n []=_ at hn;simp[AM.look]at hn)
 exact h
set_option maxRecDepth 100000 in
theorem QdR(os:Os)(started:os.Started)(H:Type)(enc:TypeId×Value→H):
  ReturnsInHanded {} Tryz.checked os 3 .any (Rows.pagingMajoritySpec.pre6 enc Tryz.prog Tryz.f3 Rows.pagingMajorityRow.domain false)
   (Rows.pagingMajoritySpec.post enc Tryz.prog Tryz.f3 Rows.pagingMajorityRow.apart Rows.pagingMajorityRow.fresh Rows.pagingMajorityRow.handsOn Rows.pagingMajorityRow.again):=by
 refine returnsInHanded_of_change (C:=Tryz.checked) (by kernel_rfl) started (by kernel_rfl) Tryz.func3
  (ChangeSpec.witness6 (enc:=enc) (C:=Tryz.checked) false ⟨#[],#[.slice none 0 0],[]⟩ 8 (by kernel_rfl) (by kernel_rfl) (by kernel_rfl) (by kernel_rfl)) ?_
 intro W base args ds gs before hval0 hW _ _
 have hval:∀(j:Nat) t v,Tryz.f3.params[j]?=some t→args[j]?=some v→Value.okWide Tryz.prog W .any base t v:=hval0
 have hW':=hW
 obtain⟨p,q,hA0,hV,rfl,_,_⟩:=hW
 have hA:DataW.TrodAll enc Tryz.prog W 0 (fun _=>true) true Tryz.f3.params.toList args.toList ds p:=hA0
 rw[Tryz.params3]at hA hval
 obtain⟨v0,d0,rfl,rfl,h0⟩:=trodAll_one hA
 obtain⟨t,hq0,k0⟩:=QwZ (dec:=fun l:List Int=>PV.sl false 1 (l.map D.cInt)) (Qql (e:=3) (n:=1) (by kernel_rfl) (by kernel_rfl) (by decide) (fun _=>rfl) (Qup (k:=.i64) (by kernel_rfl))) h0 (QpK (e:=3) (by kernel_rfl) (hval 0 _ v0 rfl rfl))
 refine(QtU (us:=[v0]) (Qgy t) trivial (fun ρ Hp=>?_)).mono fun e W' ⟨he,hx⟩=>?_
 ·simp only[AV.Ts]
  exact⟨_,_,rfl,k0,rfl⟩
 ·exact⟨_,he,QvR (by kernel_rfl) (of_decide_eq_true (by kernel_rfl)) (tb:=4) (by kernel_rfl) (by kernel_rfl) rfl rfl rfl rfl hW' hx⟩
theorem pagingMajority_holds:Rows.PagingMajoritySaid:=
 OpenClaim.holds_of_wide 3 Tryz.f3 rfl rfl rfl rfl rfl rfl rfl ⟨rfl,rfl,rfl,rfl,rfl⟩ rfl rfl rfl rfl rfl (by kernel_rfl) Tryz.func3 QdQ
  (of_decide_eq_true (by kernel_rfl)) (by unfold Func.isWrapper;first|(rw[if_pos (by decide +kernel)];kernel_rfl)|(rw[if_neg (by decide +kernel)];exact⟨rfl,rfl⟩))
  (fun os started H enc _=>QdR os started H enc)
#print axioms pagingMajority_holds
end Go.Proofs.YtlllfgmajglnhaaGreat
