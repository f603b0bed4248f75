/-
  The law OwnerCalls answers true at every input, and its arguments read behind the call as before. No condition.
-/
import Derived.Test.YtadlpefpehjcoaaGreatRows
import Derived.Test.YtadlpefpehjcoaaGreatQRowCallsA
import Derived.Test.YtadlpefpehjcoaaGreatQRowCallsF
import Derived.Test.YtadlpefpehjcoaaGreatQRowCallsG
set_option linter.unusedSimpArgs false
set_option linter.unusedVariables false
namespace Go.Proofs.YtadlpefpehjcoaaGreat
open Go AM Go.ChangeShapes Go.WideShapes Go.ChangeAt Go.RowKit
theorem Qjv(t:List Int):XE Tryz.prog 5 [.p (.sl false 1 (t.map D.cInt))] [] (vB true) []:=by
 obtain⟨L1,_,_,h⟩:=(QeM 1000).spec (t,()) () (true,()) ()
  (by show optc (WJ 1000 t) _=_;rw[QiO];rfl) (fun _ _=>0) (fun n t' l v hn=>by change AM.look n []=_ at hn;simp[AM.look]at hn)
 exact h
set_option maxRecDepth 100000 in
theorem Qgw(os:Os)(started:os.Started)(H:Type)(enc:TypeId×Value→H):
  ReturnsInHanded {} Tryz.checked os 5 .any (Rows.ownerCallsSpec.pre6 enc Tryz.prog Tryz.f5 Rows.ownerCallsRow.domain false)
   (Rows.ownerCallsSpec.post enc Tryz.prog Tryz.f5 Rows.ownerCallsRow.apart Rows.ownerCallsRow.fresh Rows.ownerCallsRow.handsOn Rows.ownerCallsRow.again):=by
 refine returnsInHanded_of_change (C:=Tryz.checked) (by kernel_rfl) started (by kernel_rfl) Tryz.func5
  (ChangeSpec.witness6 (enc:=enc) (C:=Tryz.checked) false ⟨#[],#[.slice none 0 0],[]⟩ 8 (by kernel_rfl) (by kernel_rfl) (by kernel_rfl) (by kernel_rfl)) ?_
 intro W base args ds gs before hval0 hW _ _
 have hval:∀(j:Nat) t v,Tryz.f5.params[j]?=some t→args[j]?=some v→Value.okWide Tryz.prog W .any base t v:=hval0
 have hW':=hW
 obtain⟨p,q,hA0,hV,rfl,_,_⟩:=hW
 have hA:DataW.TrodAll enc Tryz.prog W 0 (fun _=>true) true Tryz.f5.params.toList args.toList ds p:=hA0
 rw[Tryz.params5]at hA hval
 obtain⟨v0,d0,rfl,rfl,h0⟩:=trodAll_one hA
 obtain⟨t,hq0,k0⟩:=Qvf (dec:=fun l:List Int=>PV.sl false 1 (l.map D.cInt)) (QoL (e:=3) (n:=1) (by kernel_rfl) (by kernel_rfl) (by decide) (fun _=>rfl) (QsD (k:=.i64) (by kernel_rfl))) h0 (Qoc (e:=3) (by kernel_rfl) (hval 0 _ v0 rfl rfl))
 refine(Qr0 (us:=[v0]) (Qjv t) trivial (fun ρ Hp=>?_)).mono fun e W' ⟨he,hx⟩=>?_
 ·simp only[AV.Ts]
  exact⟨_,_,rfl,k0,rfl⟩
 ·exact⟨_,he,Qt0 (by kernel_rfl) (of_decide_eq_true (by kernel_rfl)) (tb:=4) (by kernel_rfl) (by kernel_rfl) rfl rfl rfl rfl hW' hx⟩
theorem ownerCalls_holds:Rows.OwnerCallsSaid:=
 OpenClaim.holds_of_wide 5 Tryz.f5 rfl rfl rfl rfl rfl rfl rfl ⟨rfl,rfl,rfl,rfl,rfl⟩ rfl rfl rfl rfl rfl (by kernel_rfl) Tryz.func5 Qgv
  (of_decide_eq_true (by kernel_rfl)) (by unfold Func.isWrapper;first|(rw[if_pos (by decide +kernel)];kernel_rfl)|(rw[if_neg (by decide +kernel)];exact⟨rfl,rfl⟩))
  (fun os started H enc _=>Qgw os started H enc)
#print axioms ownerCalls_holds
end Go.Proofs.YtadlpefpehjcoaaGreat
