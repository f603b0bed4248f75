/-
  The law OplogReplays answers true at every input, and its arguments read behind the call as before. No condition.
-/
import Derived.Test.YtgokjdfkpnkekaaGreatRows
import Derived.Test.YtgokjdfkpnkekaaGreatQRowReplaysA
import Derived.Test.YtgokjdfkpnkekaaGreatQRowReplaysF
import Derived.Test.YtgokjdfkpnkekaaGreatQRowReplaysG
set_option linter.unusedSimpArgs false
set_option linter.unusedVariables false
namespace Go.Proofs.YtgokjdfkpnkekaaGreat
open Go AM Go.ChangeShapes Go.WideShapes Go.ChangeAt Go.RowKit
theorem Qg5(t:List Int)(n:Int)(h_n:0≤n∧n≤255):XU Tryz.prog 6 [.p (.sl false 1 (t.map D.cInt)),.p (.v (.int .u8 n))] [] (vB true) []:=by
 obtain⟨L1,_,_,h⟩:=(Qc0 1000).spec (t,n,()) () (true,()) ()
  (by show optc (XW 1000 t n) _=_;rw[Qgi t n h_n];rfl) (fun _ _=>0) (fun n t' l v hn=>by change AM.look n []=_ at hn;simp[AM.look]at hn)
 exact h
set_option maxRecDepth 100000 in
theorem QeI(os:Os)(started:os.Started)(H:Type)(enc:TypeId×Value→H):
  ReturnsInHanded {} Tryz.checked os 6 .any (Rows.oplogReplaysSpec.pre6 enc Tryz.prog Tryz.f6 Rows.oplogReplaysRow.domain false)
   (Rows.oplogReplaysSpec.post enc Tryz.prog Tryz.f6 Rows.oplogReplaysRow.apart Rows.oplogReplaysRow.fresh Rows.oplogReplaysRow.handsOn Rows.oplogReplaysRow.again):=by
 refine returnsInHanded_of_change (C:=Tryz.checked) (by kernel_rfl) started (by kernel_rfl) Tryz.func6
  (ChangeSpec.witness6 (enc:=enc) (C:=Tryz.checked) false ⟨#[],#[.slice none 0 0,.int .u8 0],[]⟩ 8 (by kernel_rfl) (by kernel_rfl) (by kernel_rfl) (by kernel_rfl)) ?_
 intro W base args ds gs before hval0 hW _ _
 have hval:∀(j:Nat) t v,Tryz.f6.params[j]?=some t→args[j]?=some v→Value.okWide Tryz.prog W .any base t v:=hval0
 have hW':=hW
 obtain⟨p,q,hA0,hV,rfl,_,_⟩:=hW
 have hA:DataW.TrodAll enc Tryz.prog W 0 (fun _=>true) true Tryz.f6.params.toList args.toList ds p:=hA0
 rw[Tryz.params6]at hA hval
 obtain⟨v0,v1,d0,d1,p0,p1,rfl,rfl,rfl,h0,h1⟩:=trodAll_two hA
 obtain⟨t,hq0,k0⟩:=QqE (dec:=fun l:List Int=>PV.sl false 1 (l.map D.cInt)) (Qou (e:=3) (n:=1) (by kernel_rfl) (by kernel_rfl) (by decide) (fun _=>rfl) (Qnh (k:=.i64) (by kernel_rfl))) h0 (QnX (e:=3) (by kernel_rfl) (hval 0 _ v0 rfl rfl))
 obtain⟨n,hq1,k1⟩:=QqE (dec:=fun n:Int=>PV.v (.int .u8 n)) (Qnh (k:=.u8) (by kernel_rfl)) h1 (Qq4 (k:=.u8) (by kernel_rfl) (hval 1 _ v1 rfl rfl))
 have hb1:=bounds_u8 hq1
 refine(Qrz (us:=[v0,v1]) (Qg5 t n hb1) trivial (fun ρ Hp=>?_)).mono fun e W' ⟨he,hx⟩=>?_
 ·simp only[AV.Ts]
  exact⟨_,_,rfl,k0,⟨_,_,rfl,k1,rfl⟩⟩
 ·exact⟨_,he,Qto (by kernel_rfl) (of_decide_eq_true (by kernel_rfl)) (tb:=4) (by kernel_rfl) (by kernel_rfl) rfl rfl rfl rfl hW' hx⟩
theorem oplogReplays_holds:Rows.OplogReplaysSaid:=
 OpenClaim.holds_of_wide 6 Tryz.f6 rfl rfl rfl rfl rfl rfl rfl ⟨rfl,rfl,rfl,rfl,rfl⟩ rfl rfl rfl rfl rfl (by kernel_rfl) Tryz.func6 QeH
  (of_decide_eq_true (by kernel_rfl)) (by unfold Func.isWrapper;first|(rw[if_pos (by decide +kernel)];kernel_rfl)|(rw[if_neg (by decide +kernel)];exact⟨rfl,rfl⟩))
  (fun os started H enc _=>QeI os started H enc)
#print axioms oplogReplays_holds
end Go.Proofs.YtgokjdfkpnkekaaGreat
