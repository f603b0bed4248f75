/-
  The law PagingSurvives answers true at every input, and its arguments read behind the call as before. No condition.
-/
import Derived.Test.YtlllfgmajglnhaaGreatRows
import Derived.Test.YtlllfgmajglnhaaGreatQRowSurA
import Derived.Test.YtlllfgmajglnhaaGreatQRowSurF
import Derived.Test.YtlllfgmajglnhaaGreatQRowSurG
set_option linter.unusedSimpArgs false
set_option linter.unusedVariables false
namespace Go.Proofs.YtlllfgmajglnhaaGreat
open Go AM Go.ChangeShapes Go.WideShapes Go.ChangeAt Go.RowKit
theorem Qhh(t:List Int)(n:Int)(h_n:0<=n/\n<=65535):Qcf Tryz.prog 4 [.p (.sl false 1 (t.map D.cInt)),.p (.v (.int .u16 n))] [] (vB true) []:=by
 obtain⟨L1,_,_,h⟩:=(Qc5 1000).spec (t,n,()) () (true,()) ()
  (by show optc (Xt 1000 t n) _=_;rw[Qgx t n h_n];rfl) (fun _ _=>0) (fun n t' l v hn=>by change AM.look n []=_ at hn;simp[AM.look]at hn)
 exact h
set_option maxRecDepth 100000 in
theorem QeB(os:Os)(started:os.Started)(H:Type)(enc:TypeId×Value->H):
  ReturnsInHanded {} Tryz.checked os 4 .any (Rows.pagingSurvivesSpec.pre6 enc Tryz.prog Tryz.f4 Rows.pagingSurvivesRow.domain false)
   (Rows.pagingSurvivesSpec.post enc Tryz.prog Tryz.f4 Rows.pagingSurvivesRow.apart Rows.pagingSurvivesRow.fresh Rows.pagingSurvivesRow.handsOn Rows.pagingSurvivesRow.again):=by
 refine returnsInHanded_of_change (C:=Tryz.checked) (by kernel_rfl) started (by kernel_rfl) Tryz.func4
  (ChangeSpec.witness6 (enc:=enc) (C:=Tryz.checked) false ⟨#[],#[.slice none 0 0,.int .u16 0],[]⟩ 8 (by kernel_rfl) (by kernel_rfl) (by kernel_rfl) (by kernel_rfl)) ?_
 intro W base args ds gs before hval0 hW _ _
 have hval:∀(j:Nat) t v,Tryz.f4.params[j]?=some t->args[j]?=some v->Value.okWide Tryz.prog W .any base t v:=hval0
 have hW':=hW
 obtain⟨p,q,hA0,hV,rfl,_,_⟩:=hW
 have hA:DataW.TrodAll enc Tryz.prog W 0 (fun _=>true) true Tryz.f4.params.toList args.toList ds p:=hA0
 rw[Tryz.params4]at hA hval
 obtain⟨v0,v1,d0,d1,p0,p1,rfl,rfl,rfl,h0,h1⟩:=trodAll_two hA
 obtain⟨t,hq0,k0⟩:=Qtj (dec:=fun l:List Int=>PV.sl false 1 (l.map D.cInt)) (QqK (e:=3) (n:=1) (by kernel_rfl) (by kernel_rfl) (by decide) (fun _=>rfl) (Qpn (k:=.i64) (by kernel_rfl))) h0 (Qp9 (e:=3) (by kernel_rfl) (hval 0 _ v0 rfl rfl))
 obtain⟨n,hq1,k1⟩:=Qtj (dec:=fun n:Int=>PV.v (.int .u16 n)) (Qpn (k:=.u16) (by kernel_rfl)) h1 (QtJ (k:=.u16) (by kernel_rfl) (hval 1 _ v1 rfl rfl))
 have hb1:=bounds_u16 hq1
 refine(Qun (us:=[v0,v1]) (Qhh t n hb1) trivial (fun ρ Hp=>?_)).mono fun e W' ⟨he,hx⟩=>?_
 .simp only[AV.Ts]
  exact⟨_,_,rfl,k0,⟨_,_,rfl,k1,rfl⟩⟩
 .exact⟨_,he,Qwh (by kernel_rfl) (of_decide_eq_true (by kernel_rfl)) (tb:=4) (by kernel_rfl) (by kernel_rfl) rfl rfl rfl rfl hW' hx⟩
theorem pagingSurvives_holds:Rows.PagingSurvivesSaid:=
 OpenClaim.holds_of_wide 4 Tryz.f4 rfl rfl rfl rfl rfl rfl rfl ⟨rfl,rfl,rfl,rfl,rfl⟩ rfl rfl rfl rfl rfl (by kernel_rfl) Tryz.func4 QeA
  (of_decide_eq_true (by kernel_rfl)) (by unfold Func.isWrapper;first|(rw[if_pos (by decide +kernel)];kernel_rfl)|(rw[if_neg (by decide +kernel)];exact⟨rfl,rfl⟩))
  (fun os started H enc _=>QeB os started H enc)
#print axioms pagingSurvives_holds
end Go.Proofs.YtlllfgmajglnhaaGreat
