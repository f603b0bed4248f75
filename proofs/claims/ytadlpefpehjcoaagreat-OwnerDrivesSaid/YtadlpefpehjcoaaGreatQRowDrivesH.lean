/-
  The law OwnerDrives answers true at every input, and its arguments read behind the call as before. No condition.
-/
import Derived.Test.YtadlpefpehjcoaaGreatRows
import Derived.Test.YtadlpefpehjcoaaGreatQRowDrivesA
import Derived.Test.YtadlpefpehjcoaaGreatQRowDrivesF
import Derived.Test.YtadlpefpehjcoaaGreatQRowDrivesG
set_option linter.unusedSimpArgs false
set_option linter.unusedVariables false
namespace Go.Proofs.YtadlpefpehjcoaaGreat
open Go AM Go.ChangeShapes Go.WideShapes Go.ChangeAt Go.RowKit
theorem QiC(t:List Int)(n:Int)(h_n:0≤n∧n≤65535):XF Tryz.prog 4 [.p (.sl false 1 (t.map D.cInt)),.p (.v (.int .u16 n))] [] (vB true) []:=by
 obtain⟨L1,_,_,h⟩:=(Qef 1000).spec (t,n,()) () (true,()) ()
  (by show optc (Wm 1000 t n) _=_;rw[Qhe t n h_n];rfl) (fun _ _=>0) (fun n t' l v hn=>by change AM.look n []=_ at hn;simp[AM.look]at hn)
 exact h
set_option maxRecDepth 100000 in
theorem QfJ(os:Os)(started:os.Started)(H:Type)(enc:TypeId×Value→H):
  ReturnsInHanded {} Tryz.checked os 4 .any (Rows.ownerDrivesSpec.pre6 enc Tryz.prog Tryz.f4 Rows.ownerDrivesRow.domain false)
   (Rows.ownerDrivesSpec.post enc Tryz.prog Tryz.f4 Rows.ownerDrivesRow.apart Rows.ownerDrivesRow.fresh Rows.ownerDrivesRow.handsOn Rows.ownerDrivesRow.again):=by
 refine returnsInHanded_of_change (C:=Tryz.checked) (by kernel_rfl) started (by kernel_rfl) Tryz.func4
  (ChangeSpec.witness6 (enc:=enc) (C:=Tryz.checked) false ⟨#[],#[.slice none 0 0,.int .u16 0],[]⟩ 8 (by kernel_rfl) (by kernel_rfl) (by kernel_rfl) (by kernel_rfl)) ?_
 intro W base args ds gs before hval0 hW _ _
 have hval:∀(j:Nat) t v,Tryz.f4.params[j]?=some t→args[j]?=some v→Value.okWide Tryz.prog W .any base t v:=hval0
 have hW':=hW
 obtain⟨p,q,hA0,hV,rfl,_,_⟩:=hW
 have hA:DataW.TrodAll enc Tryz.prog W 0 (fun _=>true) true Tryz.f4.params.toList args.toList ds p:=hA0
 rw[Tryz.params4]at hA hval
 obtain⟨v0,v1,d0,d1,p0,p1,rfl,rfl,rfl,h0,h1⟩:=trodAll_two hA
 obtain⟨t,hq0,k0⟩:=QqR (dec:=fun l:List Int=>PV.sl false 1 (l.map D.cInt)) (Qoy (e:=3) (n:=1) (by kernel_rfl) (by kernel_rfl) (by decide) (fun _=>rfl) (Qni (k:=.i64) (by kernel_rfl))) h0 (Qn1 (e:=3) (by kernel_rfl) (hval 0 _ v0 rfl rfl))
 obtain⟨n,hq1,k1⟩:=QqR (dec:=fun n:Int=>PV.v (.int .u16 n)) (Qni (k:=.u16) (by kernel_rfl)) h1 (Qrg (k:=.u16) (by kernel_rfl) (hval 1 _ v1 rfl rfl))
 have hb1:=bounds_u16 hq1
 refine(QrQ (us:=[v0,v1]) (QiC t n hb1) trivial (fun ρ Hp=>?_)).mono fun e W' ⟨he,hx⟩=>?_
 ·simp only[AV.Ts]
  exact⟨_,_,rfl,k0,⟨_,_,rfl,k1,rfl⟩⟩
 ·exact⟨_,he,QtN (by kernel_rfl) (of_decide_eq_true (by kernel_rfl)) (tb:=4) (by kernel_rfl) (by kernel_rfl) rfl rfl rfl rfl hW' hx⟩
theorem ownerDrives_holds:Rows.OwnerDrivesSaid:=
 OpenClaim.holds_of_wide 4 Tryz.f4 rfl rfl rfl rfl rfl rfl rfl ⟨rfl,rfl,rfl,rfl,rfl⟩ rfl rfl rfl rfl rfl (by kernel_rfl) Tryz.func4 QfI
  (of_decide_eq_true (by kernel_rfl)) (by unfold Func.isWrapper;first|(rw[if_pos (by decide +kernel)];kernel_rfl)|(rw[if_neg (by decide +kernel)];exact⟨rfl,rfl⟩))
  (fun os started H enc _=>QfJ os started H enc)
#print axioms ownerDrives_holds
end Go.Proofs.YtadlpefpehjcoaaGreat
