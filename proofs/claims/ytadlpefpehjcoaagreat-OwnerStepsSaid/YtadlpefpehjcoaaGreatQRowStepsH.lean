/-
  The law OwnerSteps answers true at every input, and its arguments read behind the call as before. No condition.
-/
import Derived.Test.YtadlpefpehjcoaaGreatRows
import Derived.Test.YtadlpefpehjcoaaGreatQRowStepsA
import Derived.Test.YtadlpefpehjcoaaGreatQRowStepsF
import Derived.Test.YtadlpefpehjcoaaGreatQRowStepsG
set_option linter.unusedSimpArgs false
set_option linter.unusedVariables false
namespace Go.Proofs.YtadlpefpehjcoaaGreat
open Go AM Go.ChangeShapes Go.WideShapes Go.ChangeAt Go.RowKit
theorem Qkf(t:List Int)(region:Int)(id:Int)(now:Int)(raw:D.Op):XJ Tryz.prog 7 [.p (.sl false 1 (t.map D.cInt)),.p (.v (.int .i64 region)),.p (.v (.int .i64 id)),.p (.v (.int .i64 now)),.agg ((D.Op.cells raw).map AV.p)] [] (vB true) []:=by
 obtain⟨L1,_,_,h⟩:=(Qfm 1000).spec (t,region,id,now,raw,()) () (true,()) ()
  (by show optc (WU 1000 t region id now raw) _=_;rw[Qjt];rfl) (fun _ _=>0) (fun n t' l v hn=>by change AM.look n []=_ at hn;simp[AM.look]at hn)
 exact h
set_option maxRecDepth 100000 in
theorem Qg4(os:Os)(started:os.Started)(H:Type)(enc:TypeId×Value→H):
  ReturnsInHanded {} Tryz.checked os 7 .any (Rows.ownerStepsSpec.pre6 enc Tryz.prog Tryz.f7 Rows.ownerStepsRow.domain false)
   (Rows.ownerStepsSpec.post enc Tryz.prog Tryz.f7 Rows.ownerStepsRow.apart Rows.ownerStepsRow.fresh Rows.ownerStepsRow.handsOn Rows.ownerStepsRow.again):=by
 refine returnsInHanded_of_change (C:=Tryz.checked) (by kernel_rfl) started (by kernel_rfl) Tryz.func7
  (ChangeSpec.witness6 (enc:=enc) (C:=Tryz.checked) false ⟨#[],#[.slice none 0 0,.int .i64 0,.int .i64 0,.int .i64 0,.agg #[.int .i64 0,.int .i64 0,.int .i64 0,.int .i64 0,.int .i64 0,.int .i64 0,.int .i64 0,.int .i64 0,.int .i64 0,.int .i64 0,.int .i64 0,.int .i64 0,.int .i64 0,.int .i64 0,.int .i64 0,.int .i64 0,.int .i64 0,.int .i64 0,.int .i64 0,.int .i64 0]],[]⟩ 8 (by kernel_rfl) (by kernel_rfl) (by kernel_rfl) (by kernel_rfl)) ?_
 intro W base args ds gs before hval0 hW _ _
 have hval:∀(j:Nat) t v,Tryz.f7.params[j]?=some t→args[j]?=some v→Value.okWide Tryz.prog W .any base t v:=hval0
 have hW':=hW
 obtain⟨p,q,hA0,hV,rfl,_,_⟩:=hW
 have hA:DataW.TrodAll enc Tryz.prog W 0 (fun _=>true) true Tryz.f7.params.toList args.toList ds p:=hA0
 rw[Tryz.params7]at hA hval
 obtain⟨v0,v1,v2,v3,v4,d0,d1,d2,d3,d4,p0,p1,p2,p3,p4,rfl,rfl,rfl,h0,h1,h2,h3,h4⟩:=QoH hA
 obtain⟨t,hq0,k0⟩:=Qlo (dec:=fun l:List Int=>PV.sl false 1 (l.map D.cInt)) (QpI (e:=3) (n:=1) (by kernel_rfl) (by kernel_rfl) (by decide) (fun _=>rfl) (Zc (k:=.i64) (by kernel_rfl))) h0 (Qpa (e:=3) (by kernel_rfl) (hval 0 _ v0 rfl rfl))
 obtain⟨region,hq1,k1⟩:=Qlo (dec:=fun n:Int=>PV.v (.int .i64 n)) (Zc (k:=.i64) (by kernel_rfl)) h1 (QiH (k:=.i64) (by kernel_rfl) (hval 1 _ v1 rfl rfl))
 have hb1:=bounds_i64 hq1
 obtain⟨id,hq2,k2⟩:=Qlo (dec:=fun n:Int=>PV.v (.int .i64 n)) (Zc (k:=.i64) (by kernel_rfl)) h2 (QiH (k:=.i64) (by kernel_rfl) (hval 2 _ v2 rfl rfl))
 have hb2:=bounds_i64 hq2
 obtain⟨now,hq3,k3⟩:=Qlo (dec:=fun n:Int=>PV.v (.int .i64 n)) (Zc (k:=.i64) (by kernel_rfl)) h3 (QiH (k:=.i64) (by kernel_rfl) (hval 3 _ v3 rfl rfl))
 have hb3:=bounds_i64 hq3
 obtain⟨raw,hq4,k4⟩:=QqT (fs:=Tryz.prog.fieldsOf 50) (by kernel_rfl) Qvn h4 (hval 4 _ v4 rfl rfl)
 refine(Qs8 (us:=[v0,v1,v2,v3,v4]) (Qkf t region id now raw) trivial (fun ρ Hp=>?_)).mono fun e W' ⟨he,hx⟩=>?_
 ·simp only[AV.Ts]
  exact⟨_,_,rfl,k0,⟨_,_,rfl,k1,⟨_,_,rfl,k2,⟨_,_,rfl,k3,⟨_,_,rfl,(k4 _ _),rfl⟩⟩⟩⟩⟩
 ·exact⟨_,he,Qu5 (by kernel_rfl) (of_decide_eq_true (by kernel_rfl)) (tb:=4) (by kernel_rfl) (by kernel_rfl) rfl rfl rfl rfl hW' hx⟩
theorem ownerSteps_holds:Rows.OwnerStepsSaid:=
 OpenClaim.holds_of_wide 7 Tryz.f7 rfl rfl rfl rfl rfl rfl rfl ⟨rfl,rfl,rfl,rfl,rfl⟩ rfl rfl rfl rfl rfl (by kernel_rfl) Tryz.func7 Qg3
  (of_decide_eq_true (by kernel_rfl)) (by unfold Func.isWrapper;first|(rw[if_pos (by decide +kernel)];kernel_rfl)|(rw[if_neg (by decide +kernel)];exact⟨rfl,rfl⟩))
  (fun os started H enc _=>Qg4 os started H enc)
#print axioms ownerSteps_holds
end Go.Proofs.YtadlpefpehjcoaaGreat
