/-
  The walks of numerals, words, valid answers of the reference. Printed by wip/gen/pol.py.
-/
import Derived.Test.YtimfbibaoppfcaaGreatDoorAnsRef
import Derived.Test.YtimfbibaoppfcaaGreatDoorNameWalk
set_option maxRecDepth 100000
set_option linter.unusedSimpArgs false
set_option linter.unusedVariables false
namespace Go.Proofs.YtimfbibaoppfcaaGreatDoor
open Go AM
theorem r28_Valid (a : D.Answer) :
    SpecIs Tryz.prog 22 [(.agg [(vI a.ID), (vI a.Page), (vI a.Person), (vI a.Kind), (vI a.Arg), (vI a.At)])] [] (vB (ansValid a)) [] := by
 refine Spec.intro Tryz.func22 rfl (by kernel_rfl) ?_
 intro Γ hGn hGk
 replace hGn : Γ.n = 44 := hGn
 replace hGk : Γ.names = [] := hGk
 refine AWp.weaken (mk [(0, (.agg [(vI a.ID), (vI a.Page), (vI a.Person), (vI a.Kind), (vI a.Arg), (vI a.At)]))] []) (Weak.sub' hGk (by kernel_rfl)) ?_
 let a'1 : AO := (.box [(vI a.ID), (vI a.Page), (vI a.Person), (vI a.Kind), (vI a.Arg), (vI a.At)])
 refine AWp.s_reg hGn hGk (aa 2) (Man.aa _ _) [(1, (.ref 1001 0))] [(1001, a'1)] (by kernel_rfl) (by kernel_rfl) ?_
 refine AWp.seq ?_
 cases hs1 : inB a.ID (1 : Int) (999999 : Int)
 ·skip
  have ha2 := inB_false hs1
  refine AWp.s_reg hGn hGk [.a, .a, .m (some 5) ⟨[(4, (vI a.ID))], [], (vB false), [], []⟩, .a, .a, .a, .a, .a, .a, .a, .a, .a, .a, .a, .a, .a, .a, .a, .a, .a, .a, .a] ⟨StepOK.p rfl rfl rfl (OpOK.call rfl (by kernel_rfl) rfl (by have hq := (ref_In a.ID (1 : Int) (999999 : Int)); rw [hs1] at hq; exact hq) (by kernel_rfl)), trivial⟩ [(1, (.ref 1001 0)), (24, (vB true))] [(1001, a'1)] (by kernel_rfl) (by kernel_rfl) ?_
  refine AWp.cond_true rfl ?_
  refine AWp.s_reg hGn hGk (aa 1) (Man.aa _ _) [(2, (vB false))] [] (by kernel_rfl) (by kernel_rfl) ?_
  refine AWp.ret ?_
  refine nextQ_ret ?_
  refine fin_of (.inr rfl) (v := (vB false)) (Res.tmp rfl rfl) (h' := []) rfl rfl ?_
  exact ⟨by rw [ansV_pre (by first | (left; assumption) | (right; left; assumption) | (right; right; left; assumption) | (right; right; right; assumption))], rfl⟩
 ·skip
  have ha3 := inB_spec hs1
  cases hs4 : inB a.Page (1 : Int) (999999 : Int)
  ·skip
   have ha5 := inB_false hs4
   refine AWp.s_reg hGn hGk [.a, .a, .m (some 5) ⟨[(4, (vI a.ID))], [], (vB true), [], []⟩, .a, .a, .a, .a, .m (some 10) ⟨[(9, (vI a.Page)), (7, (vB false))], [], (vB false), [], []⟩, .a, .a, .a, .a, .a, .a, .a, .a, .a, .a, .a, .a, .a, .a] ⟨StepOK.p rfl rfl rfl (OpOK.call rfl (by kernel_rfl) rfl (by have hq := (ref_In a.ID (1 : Int) (999999 : Int)); rw [hs1] at hq; exact hq) (by kernel_rfl)),
    StepOK.g rfl rfl rfl rfl rfl (by simp) (OpOK.call rfl (by kernel_rfl) rfl (by have hq := (ref_In a.Page (1 : Int) (999999 : Int)); rw [hs4] at hq; exact hq) (by kernel_rfl)), trivial⟩ [(1, (.ref 1001 0)), (24, (vB true))] [(1001, a'1)] (by kernel_rfl) (by kernel_rfl) ?_
   refine AWp.cond_true rfl ?_
   refine AWp.s_reg hGn hGk (aa 1) (Man.aa _ _) [(2, (vB false))] [] (by kernel_rfl) (by kernel_rfl) ?_
   refine AWp.ret ?_
   refine nextQ_ret ?_
   refine fin_of (.inr rfl) (v := (vB false)) (Res.tmp rfl rfl) (h' := []) rfl rfl ?_
   exact ⟨by rw [ansV_pre (by first | (left; assumption) | (right; left; assumption) | (right; right; left; assumption) | (right; right; right; assumption))], rfl⟩
  ·skip
   have ha6 := inB_spec hs4
   cases hs7 : inB a.Person ((-1) : Int) (31 : Int)
   ·skip
    have ha8 := inB_false hs7
    refine AWp.s_reg hGn hGk [.a, .a, .m (some 5) ⟨[(4, (vI a.ID))], [], (vB true), [], []⟩, .a, .a, .a, .a, .m (some 10) ⟨[(9, (vI a.Page)), (7, (vB false))], [], (vB true), [], []⟩, .a, .a, .a, .a, .a, .m (some 16) ⟨[(15, (vI a.Person)), (13, (vB false))], [], (vB false), [], []⟩, .a, .a, .a, .a, .a, .a, .a, .a] ⟨StepOK.p rfl rfl rfl (OpOK.call rfl (by kernel_rfl) rfl (by have hq := (ref_In a.ID (1 : Int) (999999 : Int)); rw [hs1] at hq; exact hq) (by kernel_rfl)),
     StepOK.g rfl rfl rfl rfl rfl (by simp) (OpOK.call rfl (by kernel_rfl) rfl (by have hq := (ref_In a.Page (1 : Int) (999999 : Int)); rw [hs4] at hq; exact hq) (by kernel_rfl)),
     StepOK.g rfl rfl rfl rfl rfl (by simp) (OpOK.call rfl (by kernel_rfl) rfl (by have hq := (ref_In a.Person ((-1) : Int) (31 : Int)); rw [hs7] at hq; exact hq) (by kernel_rfl)), trivial⟩ [(1, (.ref 1001 0)), (24, (vB true))] [(1001, a'1)] (by kernel_rfl) (by kernel_rfl) ?_
    refine AWp.cond_true rfl ?_
    refine AWp.s_reg hGn hGk (aa 1) (Man.aa _ _) [(2, (vB false))] [] (by kernel_rfl) (by kernel_rfl) ?_
    refine AWp.ret ?_
    refine nextQ_ret ?_
    refine fin_of (.inr rfl) (v := (vB false)) (Res.tmp rfl rfl) (h' := []) rfl rfl ?_
    exact ⟨by rw [ansV_pre (by first | (left; assumption) | (right; left; assumption) | (right; right; left; assumption) | (right; right; right; assumption))], rfl⟩
   ·skip
    have ha9 := inB_spec hs7
    refine AWp.s_reg hGn hGk [.a, .a, .m (some 5) ⟨[(4, (vI a.ID))], [], (vB true), [], []⟩, .a, .a, .a, .a, .m (some 10) ⟨[(9, (vI a.Page)), (7, (vB false))], [], (vB true), [], []⟩, .a, .a, .a, .a, .a, .m (some 16) ⟨[(15, (vI a.Person)), (13, (vB false))], [], (vB true), [], []⟩, .a, .a, .a, .a, .a, .m (some 22) ⟨[(21, (vI a.At)), (19, (vB false))], [], (vB (inB a.At (0 : Int) (8589934592 : Int))), [], []⟩, .a, .a] ⟨StepOK.p rfl rfl rfl (OpOK.call rfl (by kernel_rfl) rfl (by have hq := (ref_In a.ID (1 : Int) (999999 : Int)); rw [hs1] at hq; exact hq) (by kernel_rfl)),
     StepOK.g rfl rfl rfl rfl rfl (by simp) (OpOK.call rfl (by kernel_rfl) rfl (by have hq := (ref_In a.Page (1 : Int) (999999 : Int)); rw [hs4] at hq; exact hq) (by kernel_rfl)),
     StepOK.g rfl rfl rfl rfl rfl (by simp) (OpOK.call rfl (by kernel_rfl) rfl (by have hq := (ref_In a.Person ((-1) : Int) (31 : Int)); rw [hs7] at hq; exact hq) (by kernel_rfl)),
     StepOK.g rfl rfl rfl rfl rfl (by simp) (OpOK.call rfl (by kernel_rfl) rfl (ref_In a.At (0 : Int) (8589934592 : Int)) (by kernel_rfl)), trivial⟩ [(1, (.ref 1001 0)), (24, (vB (!(inB a.At (0 : Int) (8589934592 : Int)))))] [(1001, a'1)] (by kernel_rfl) (by kernel_rfl) ?_
    refine AWp.cond (!(inB a.At (0 : Int) (8589934592 : Int))) rfl (fun hc10 => ?_) (fun hc10 => ?_)
    ·skip
     replace hc10 : inB a.At (0 : Int) (8589934592 : Int) = false := by simpa using hc10
     have ha11 := inB_false hc10
     refine AWp.s_reg hGn hGk (aa 1) (Man.aa _ _) [(2, (vB false))] [] (by kernel_rfl) (by kernel_rfl) ?_
     refine AWp.ret ?_
     refine nextQ_ret ?_
     refine fin_of (.inr rfl) (v := (vB false)) (Res.tmp rfl rfl) (h' := []) rfl rfl ?_
     exact ⟨by rw [ansV_pre (by first | (left; assumption) | (right; left; assumption) | (right; right; left; assumption) | (right; right; right; assumption))], rfl⟩
    ·skip
     replace hc10 : inB a.At (0 : Int) (8589934592 : Int) = true := by simpa using hc10
     have ha12 := inB_spec hc10
     refine AWp.skip ?_
     refine nextQ_normal ?_
     refine AWp.seq ?_
     refine AWp.s_reg hGn hGk (aa 2) (Man.aa _ _) [(1, (.ref 1001 0)), (26, (vI a.Kind))] [(1001, a'1)] (by kernel_rfl) (by kernel_rfl) ?_
     refine AWp.block ?_
     refine AWp.seq ?_
     refine AWp.s_reg hGn hGk (aa 2) (Man.aa _ _) [(1, (.ref 1001 0)), (26, (vI a.Kind)), (27, (vB (decide (a.Kind = (1 : Int)))))] [(1001, a'1)] (by kernel_rfl) (by kernel_rfl) ?_
     refine AWp.cond (decide (a.Kind = (1 : Int))) rfl (fun hc13 => ?_) (fun hc13 => ?_)
     ·skip
      replace hc13 := of_decide_eq_true hc13
      refine AWp.skip ?_
      refine nextQ_normal ?_
      refine AWp.cond (decide (a.Kind = (1 : Int))) rfl (fun hc14 => ?_) (fun hc14 => ?_)
      ·skip
       replace hc14 := of_decide_eq_true hc14
       refine AWp.s_reg hGn hGk (aa 4) (Man.aa _ _) [(2, (vB (decide (a.Arg = (0 : Int)))))] [] (by kernel_rfl) (by kernel_rfl) ?_
       refine AWp.ret ?_
       refine blockQ_ret ?_
       refine nextQ_ret ?_
       refine fin_of (.inr rfl) (v := (vB (decide (a.Arg = (0 : Int))))) (Res.tmp rfl rfl) (h' := []) rfl rfl ?_
       exact ⟨congrArg (fun q => vB q) (ansV_kind (by assumption) (by assumption) (by assumption) (by assumption) (by first | (left; exact ⟨by omega, rfl⟩) | (right; left; exact ⟨by omega, rfl⟩) | (right; right; left; exact ⟨by omega, rfl⟩) | (right; right; right; exact ⟨by omega, by omega, by omega, by omega, by omega, rfl⟩))).symm, rfl⟩
      ·skip
       replace hc14 := of_decide_eq_false hc14
       refine AWp.s_reg hGn hGk (aa 2) (Man.aa _ _) [(1, (.ref 1001 0)), (26, (vI a.Kind)), (34, (vB (decide (a.Kind = (3 : Int)))))] [(1001, a'1)] (by kernel_rfl) (by kernel_rfl) ?_
       refine AWp.cond (decide (a.Kind = (3 : Int))) rfl (fun hc15 => ?_) (fun hc15 => ?_)
       ·skip
        replace hc15 := of_decide_eq_true hc15
        refine AWp.s_reg hGn hGk [.a, .a, .m (some 38) ⟨[(37, (vI a.Arg))], [], (vB (inB a.Arg (1 : Int) (86400 : Int))), [], []⟩, .a] ⟨StepOK.p rfl rfl rfl (OpOK.call rfl (by kernel_rfl) rfl (ref_In a.Arg (1 : Int) (86400 : Int)) (by kernel_rfl)), trivial⟩ [(2, (vB (inB a.Arg (1 : Int) (86400 : Int))))] [] (by kernel_rfl) (by kernel_rfl) ?_
        refine AWp.ret ?_
        refine blockQ_ret ?_
        refine nextQ_ret ?_
        refine fin_of (.inr rfl) (v := (vB (inB a.Arg (1 : Int) (86400 : Int)))) (Res.tmp rfl rfl) (h' := []) rfl rfl ?_
        exact ⟨congrArg (fun q => vB q) (ansV_kind (by assumption) (by assumption) (by assumption) (by assumption) (by first | (left; exact ⟨by omega, rfl⟩) | (right; left; exact ⟨by omega, rfl⟩) | (right; right; left; exact ⟨by omega, rfl⟩) | (right; right; right; exact ⟨by omega, by omega, by omega, by omega, by omega, rfl⟩))).symm, rfl⟩
       ·skip
        replace hc15 := of_decide_eq_false hc15
        refine AWp.s_reg hGn hGk (aa 2) (Man.aa _ _) [(1, (.ref 1001 0)), (39, (vB (decide (a.Kind = (4 : Int)))))] [(1001, a'1)] (by kernel_rfl) (by kernel_rfl) ?_
        refine AWp.cond (decide (a.Kind = (4 : Int))) rfl (fun hc16 => ?_) (fun hc16 => ?_)
        ·skip
         replace hc16 := of_decide_eq_true hc16
         refine AWp.s_reg hGn hGk [.a, .a, .m (some 43) ⟨[(42, (vI a.Arg))], [], (vB (inB a.Arg (0 : Int) (31 : Int))), [], []⟩, .a] ⟨StepOK.p rfl rfl rfl (OpOK.call rfl (by kernel_rfl) rfl (ref_In a.Arg (0 : Int) (31 : Int)) (by kernel_rfl)), trivial⟩ [(2, (vB (inB a.Arg (0 : Int) (31 : Int))))] [] (by kernel_rfl) (by kernel_rfl) ?_
         refine AWp.ret ?_
         refine blockQ_ret ?_
         refine nextQ_ret ?_
         refine fin_of (.inr rfl) (v := (vB (inB a.Arg (0 : Int) (31 : Int)))) (Res.tmp rfl rfl) (h' := []) rfl rfl ?_
         exact ⟨congrArg (fun q => vB q) (ansV_kind (by assumption) (by assumption) (by assumption) (by assumption) (by first | (left; exact ⟨by omega, rfl⟩) | (right; left; exact ⟨by omega, rfl⟩) | (right; right; left; exact ⟨by omega, rfl⟩) | (right; right; right; exact ⟨by omega, by omega, by omega, by omega, by omega, rfl⟩))).symm, rfl⟩
        ·skip
         replace hc16 := of_decide_eq_false hc16
         refine AWp.skip ?_
         refine blockQ_normal ?_
         refine nextQ_normal ?_
         refine AWp.s_reg hGn hGk (aa 1) (Man.aa _ _) [(2, (vB false))] [] (by kernel_rfl) (by kernel_rfl) ?_
         refine AWp.ret ?_
         refine fin_of (.inr rfl) (v := (vB false)) (Res.tmp rfl rfl) (h' := []) rfl rfl ?_
         exact ⟨congrArg (fun q => vB q) (ansV_kind (by assumption) (by assumption) (by assumption) (by assumption) (by first | (left; exact ⟨by omega, rfl⟩) | (right; left; exact ⟨by omega, rfl⟩) | (right; right; left; exact ⟨by omega, rfl⟩) | (right; right; right; exact ⟨by omega, by omega, by omega, by omega, by omega, rfl⟩))).symm, rfl⟩
     ·skip
      replace hc13 := of_decide_eq_false hc13
      refine AWp.s_reg hGn hGk (aa 2) (Man.aa _ _) [(1, (.ref 1001 0)), (26, (vI a.Kind)), (27, (vB (decide (a.Kind = (2 : Int)))))] [(1001, a'1)] (by kernel_rfl) (by kernel_rfl) ?_
      refine AWp.cond (decide (a.Kind = (2 : Int))) rfl (fun hc17 => ?_) (fun hc17 => ?_)
      ·skip
       replace hc17 := of_decide_eq_true hc17
       refine AWp.skip ?_
       refine nextQ_normal ?_
       refine AWp.cond (decide (a.Kind = (2 : Int))) rfl (fun hc18 => ?_) (fun hc18 => ?_)
       ·skip
        replace hc18 := of_decide_eq_true hc18
        refine AWp.s_reg hGn hGk (aa 4) (Man.aa _ _) [(2, (vB (decide (a.Arg = (0 : Int)))))] [] (by kernel_rfl) (by kernel_rfl) ?_
        refine AWp.ret ?_
        refine blockQ_ret ?_
        refine nextQ_ret ?_
        refine fin_of (.inr rfl) (v := (vB (decide (a.Arg = (0 : Int))))) (Res.tmp rfl rfl) (h' := []) rfl rfl ?_
        exact ⟨congrArg (fun q => vB q) (ansV_kind (by assumption) (by assumption) (by assumption) (by assumption) (by first | (left; exact ⟨by omega, rfl⟩) | (right; left; exact ⟨by omega, rfl⟩) | (right; right; left; exact ⟨by omega, rfl⟩) | (right; right; right; exact ⟨by omega, by omega, by omega, by omega, by omega, rfl⟩))).symm, rfl⟩
       ·skip
        replace hc18 := of_decide_eq_false hc18
        refine AWp.s_reg hGn hGk (aa 2) (Man.aa _ _) [(1, (.ref 1001 0)), (26, (vI a.Kind)), (34, (vB (decide (a.Kind = (3 : Int)))))] [(1001, a'1)] (by kernel_rfl) (by kernel_rfl) ?_
        refine AWp.cond (decide (a.Kind = (3 : Int))) rfl (fun hc19 => ?_) (fun hc19 => ?_)
        ·skip
         replace hc19 := of_decide_eq_true hc19
         refine AWp.s_reg hGn hGk [.a, .a, .m (some 38) ⟨[(37, (vI a.Arg))], [], (vB (inB a.Arg (1 : Int) (86400 : Int))), [], []⟩, .a] ⟨StepOK.p rfl rfl rfl (OpOK.call rfl (by kernel_rfl) rfl (ref_In a.Arg (1 : Int) (86400 : Int)) (by kernel_rfl)), trivial⟩ [(2, (vB (inB a.Arg (1 : Int) (86400 : Int))))] [] (by kernel_rfl) (by kernel_rfl) ?_
         refine AWp.ret ?_
         refine blockQ_ret ?_
         refine nextQ_ret ?_
         refine fin_of (.inr rfl) (v := (vB (inB a.Arg (1 : Int) (86400 : Int)))) (Res.tmp rfl rfl) (h' := []) rfl rfl ?_
         exact ⟨congrArg (fun q => vB q) (ansV_kind (by assumption) (by assumption) (by assumption) (by assumption) (by first | (left; exact ⟨by omega, rfl⟩) | (right; left; exact ⟨by omega, rfl⟩) | (right; right; left; exact ⟨by omega, rfl⟩) | (right; right; right; exact ⟨by omega, by omega, by omega, by omega, by omega, rfl⟩))).symm, rfl⟩
        ·skip
         replace hc19 := of_decide_eq_false hc19
         refine AWp.s_reg hGn hGk (aa 2) (Man.aa _ _) [(1, (.ref 1001 0)), (39, (vB (decide (a.Kind = (4 : Int)))))] [(1001, a'1)] (by kernel_rfl) (by kernel_rfl) ?_
         refine AWp.cond (decide (a.Kind = (4 : Int))) rfl (fun hc20 => ?_) (fun hc20 => ?_)
         ·skip
          replace hc20 := of_decide_eq_true hc20
          refine AWp.s_reg hGn hGk [.a, .a, .m (some 43) ⟨[(42, (vI a.Arg))], [], (vB (inB a.Arg (0 : Int) (31 : Int))), [], []⟩, .a] ⟨StepOK.p rfl rfl rfl (OpOK.call rfl (by kernel_rfl) rfl (ref_In a.Arg (0 : Int) (31 : Int)) (by kernel_rfl)), trivial⟩ [(2, (vB (inB a.Arg (0 : Int) (31 : Int))))] [] (by kernel_rfl) (by kernel_rfl) ?_
          refine AWp.ret ?_
          refine blockQ_ret ?_
          refine nextQ_ret ?_
          refine fin_of (.inr rfl) (v := (vB (inB a.Arg (0 : Int) (31 : Int)))) (Res.tmp rfl rfl) (h' := []) rfl rfl ?_
          exact ⟨congrArg (fun q => vB q) (ansV_kind (by assumption) (by assumption) (by assumption) (by assumption) (by first | (left; exact ⟨by omega, rfl⟩) | (right; left; exact ⟨by omega, rfl⟩) | (right; right; left; exact ⟨by omega, rfl⟩) | (right; right; right; exact ⟨by omega, by omega, by omega, by omega, by omega, rfl⟩))).symm, rfl⟩
         ·skip
          replace hc20 := of_decide_eq_false hc20
          refine AWp.skip ?_
          refine blockQ_normal ?_
          refine nextQ_normal ?_
          refine AWp.s_reg hGn hGk (aa 1) (Man.aa _ _) [(2, (vB false))] [] (by kernel_rfl) (by kernel_rfl) ?_
          refine AWp.ret ?_
          refine fin_of (.inr rfl) (v := (vB false)) (Res.tmp rfl rfl) (h' := []) rfl rfl ?_
          exact ⟨congrArg (fun q => vB q) (ansV_kind (by assumption) (by assumption) (by assumption) (by assumption) (by first | (left; exact ⟨by omega, rfl⟩) | (right; left; exact ⟨by omega, rfl⟩) | (right; right; left; exact ⟨by omega, rfl⟩) | (right; right; right; exact ⟨by omega, by omega, by omega, by omega, by omega, rfl⟩))).symm, rfl⟩
      ·skip
       replace hc17 := of_decide_eq_false hc17
       refine AWp.reg' hGn hGk (aa 2) (Man.aa _ _) [(1, (.ref 1001 0)), (26, (vI a.Kind)), (27, (vB (decide (a.Kind = (5 : Int)))))] [(1001, a'1)] (by kernel_rfl) (by kernel_rfl) ?_
       refine nextQ_normal ?_
       refine AWp.cond (decide (a.Kind = (5 : Int))) rfl (fun hc21 => ?_) (fun hc21 => ?_)
       ·skip
        replace hc21 := of_decide_eq_true hc21
        refine AWp.s_reg hGn hGk (aa 4) (Man.aa _ _) [(2, (vB (decide (a.Arg = (0 : Int)))))] [] (by kernel_rfl) (by kernel_rfl) ?_
        refine AWp.ret ?_
        refine blockQ_ret ?_
        refine nextQ_ret ?_
        refine fin_of (.inr rfl) (v := (vB (decide (a.Arg = (0 : Int))))) (Res.tmp rfl rfl) (h' := []) rfl rfl ?_
        exact ⟨congrArg (fun q => vB q) (ansV_kind (by assumption) (by assumption) (by assumption) (by assumption) (by first | (left; exact ⟨by omega, rfl⟩) | (right; left; exact ⟨by omega, rfl⟩) | (right; right; left; exact ⟨by omega, rfl⟩) | (right; right; right; exact ⟨by omega, by omega, by omega, by omega, by omega, rfl⟩))).symm, rfl⟩
       ·skip
        replace hc21 := of_decide_eq_false hc21
        refine AWp.s_reg hGn hGk (aa 2) (Man.aa _ _) [(1, (.ref 1001 0)), (26, (vI a.Kind)), (34, (vB (decide (a.Kind = (3 : Int)))))] [(1001, a'1)] (by kernel_rfl) (by kernel_rfl) ?_
        refine AWp.cond (decide (a.Kind = (3 : Int))) rfl (fun hc22 => ?_) (fun hc22 => ?_)
        ·skip
         replace hc22 := of_decide_eq_true hc22
         refine AWp.s_reg hGn hGk [.a, .a, .m (some 38) ⟨[(37, (vI a.Arg))], [], (vB (inB a.Arg (1 : Int) (86400 : Int))), [], []⟩, .a] ⟨StepOK.p rfl rfl rfl (OpOK.call rfl (by kernel_rfl) rfl (ref_In a.Arg (1 : Int) (86400 : Int)) (by kernel_rfl)), trivial⟩ [(2, (vB (inB a.Arg (1 : Int) (86400 : Int))))] [] (by kernel_rfl) (by kernel_rfl) ?_
         refine AWp.ret ?_
         refine blockQ_ret ?_
         refine nextQ_ret ?_
         refine fin_of (.inr rfl) (v := (vB (inB a.Arg (1 : Int) (86400 : Int)))) (Res.tmp rfl rfl) (h' := []) rfl rfl ?_
         exact ⟨congrArg (fun q => vB q) (ansV_kind (by assumption) (by assumption) (by assumption) (by assumption) (by first | (left; exact ⟨by omega, rfl⟩) | (right; left; exact ⟨by omega, rfl⟩) | (right; right; left; exact ⟨by omega, rfl⟩) | (right; right; right; exact ⟨by omega, by omega, by omega, by omega, by omega, rfl⟩))).symm, rfl⟩
        ·skip
         replace hc22 := of_decide_eq_false hc22
         refine AWp.s_reg hGn hGk (aa 2) (Man.aa _ _) [(1, (.ref 1001 0)), (39, (vB (decide (a.Kind = (4 : Int)))))] [(1001, a'1)] (by kernel_rfl) (by kernel_rfl) ?_
         refine AWp.cond (decide (a.Kind = (4 : Int))) rfl (fun hc23 => ?_) (fun hc23 => ?_)
         ·skip
          replace hc23 := of_decide_eq_true hc23
          refine AWp.s_reg hGn hGk [.a, .a, .m (some 43) ⟨[(42, (vI a.Arg))], [], (vB (inB a.Arg (0 : Int) (31 : Int))), [], []⟩, .a] ⟨StepOK.p rfl rfl rfl (OpOK.call rfl (by kernel_rfl) rfl (ref_In a.Arg (0 : Int) (31 : Int)) (by kernel_rfl)), trivial⟩ [(2, (vB (inB a.Arg (0 : Int) (31 : Int))))] [] (by kernel_rfl) (by kernel_rfl) ?_
          refine AWp.ret ?_
          refine blockQ_ret ?_
          refine nextQ_ret ?_
          refine fin_of (.inr rfl) (v := (vB (inB a.Arg (0 : Int) (31 : Int)))) (Res.tmp rfl rfl) (h' := []) rfl rfl ?_
          exact ⟨congrArg (fun q => vB q) (ansV_kind (by assumption) (by assumption) (by assumption) (by assumption) (by first | (left; exact ⟨by omega, rfl⟩) | (right; left; exact ⟨by omega, rfl⟩) | (right; right; left; exact ⟨by omega, rfl⟩) | (right; right; right; exact ⟨by omega, by omega, by omega, by omega, by omega, rfl⟩))).symm, rfl⟩
         ·skip
          replace hc23 := of_decide_eq_false hc23
          refine AWp.skip ?_
          refine blockQ_normal ?_
          refine nextQ_normal ?_
          refine AWp.s_reg hGn hGk (aa 1) (Man.aa _ _) [(2, (vB false))] [] (by kernel_rfl) (by kernel_rfl) ?_
          refine AWp.ret ?_
          refine fin_of (.inr rfl) (v := (vB false)) (Res.tmp rfl rfl) (h' := []) rfl rfl ?_
          exact ⟨congrArg (fun q => vB q) (ansV_kind (by assumption) (by assumption) (by assumption) (by assumption) (by first | (left; exact ⟨by omega, rfl⟩) | (right; left; exact ⟨by omega, rfl⟩) | (right; right; left; exact ⟨by omega, rfl⟩) | (right; right; right; exact ⟨by omega, by omega, by omega, by omega, by omega, rfl⟩))).symm, rfl⟩
end Go.Proofs.YtimfbibaoppfcaaGreatDoor
