/-
  The law OwnerFences answers true at every input, and its arguments read behind the call as before. No condition.
-/
import Derived.Test.YtadlpefpehjcoaaGreatRows
import Derived.Test.YtadlpefpehjcoaaGreatQRowFencesA
import Derived.Test.YtadlpefpehjcoaaGreatQRowFencesF
import Derived.Test.YtadlpefpehjcoaaGreatQRowFencesG
set_option linter.unusedSimpArgs false
set_option linter.unusedVariables false
namespace Go.Proofs.YtadlpefpehjcoaaGreat
open Go AM Go.ChangeShapes Go.WideShapes Go.ChangeAt Go.RowKit
theorem QiJ(t:List Int):XF Tryz.prog 6 [.p (.sl false 1 (t.map D.cInt))] [] (vB true) []:=by
 obtain⟨L1,_,_,h⟩:=(Qel 1000).spec (t,()) () (true,()) ()
  (by show optc (Wl 1000 t) _=_;rw[Qhl];rfl) (fun _ _=>0) (fun n t' l v hn=>by change AM.look n []=_ at hn;simp[AM.look]at hn)
 exact h
set_option maxRecDepth 100000 in
theorem QfO(os:Os)(started:os.Started)(H:Type)(enc:TypeId×Value→H):
  ReturnsInHanded {} Tryz.checked os 6 .any (Rows.ownerFencesSpec.pre6 enc Tryz.prog Tryz.f6 Rows.ownerFencesRow.domain false)
   (Rows.ownerFencesSpec.post enc Tryz.prog Tryz.f6 Rows.ownerFencesRow.apart Rows.ownerFencesRow.fresh Rows.ownerFencesRow.handsOn Rows.ownerFencesRow.again):=by
 refine returnsInHanded_of_change (C:=Tryz.checked) (by kernel_rfl) started (by kernel_rfl) Tryz.func6
  (ChangeSpec.witness6 (enc:=enc) (C:=Tryz.checked) false ⟨#[],#[.slice none 0 0],[]⟩ 8 (by kernel_rfl) (by kernel_rfl) (by kernel_rfl) (by kernel_rfl)) ?_
 intro W base args ds gs before hval0 hW _ _
 have hval:∀(j:Nat) t v,Tryz.f6.params[j]?=some t→args[j]?=some v→Value.okWide Tryz.prog W .any base t v:=hval0
 have hW':=hW
 obtain⟨p,q,hA0,hV,rfl,_,_⟩:=hW
 have hA:DataW.TrodAll enc Tryz.prog W 0 (fun _=>true) true Tryz.f6.params.toList args.toList ds p:=hA0
 rw[Tryz.params6]at hA hval
 obtain⟨v0,d0,rfl,rfl,h0⟩:=trodAll_one hA
 obtain⟨t,hq0,k0⟩:=Qvq (dec:=fun l:List Int=>PV.sl false 1 (l.map D.cInt)) (QoM (e:=3) (n:=1) (by kernel_rfl) (by kernel_rfl) (by decide) (fun _=>rfl) (QsK (k:=.i64) (by kernel_rfl))) h0 (Qod (e:=3) (by kernel_rfl) (hval 0 _ v0 rfl rfl))
 refine(Qr8 (us:=[v0]) (QiJ t) trivial (fun ρ Hp=>?_)).mono fun e W' ⟨he,hx⟩=>?_
 ·simp only[AV.Ts]
  exact⟨_,_,rfl,k0,rfl⟩
 ·exact⟨_,he,Qt7 (by kernel_rfl) (of_decide_eq_true (by kernel_rfl)) (tb:=4) (by kernel_rfl) (by kernel_rfl) rfl rfl rfl rfl hW' hx⟩
theorem ownerFences_holds:Rows.OwnerFencesSaid:=
 OpenClaim.holds_of_wide 6 Tryz.f6 rfl rfl rfl rfl rfl rfl rfl ⟨rfl,rfl,rfl,rfl,rfl⟩ rfl rfl rfl rfl rfl (by kernel_rfl) Tryz.func6 QfN
  (of_decide_eq_true (by kernel_rfl)) (by unfold Func.isWrapper;first|(rw[if_pos (by decide +kernel)];kernel_rfl)|(rw[if_neg (by decide +kernel)];exact⟨rfl,rfl⟩))
  (fun os started H enc _=>QfO os started H enc)
#print axioms ownerFences_holds
end Go.Proofs.YtadlpefpehjcoaaGreat
