/-
  The walks of the reference's answers. Printed by wip/gen/pol.py.
-/
import Derived.Test.YtimfbibaoppfcaaGreatDoorWordsWalk
import Derived.Test.YtimfbibaoppfcaaGreatDoorCfgRef
import Derived.Test.YtimfbibaoppfcaaGreatDoorAnsWalk
set_option maxRecDepth 100000
set_option linter.unusedSimpArgs false
set_option linter.unusedVariables false
namespace Go.Proofs.YtimfbibaoppfcaaGreatDoor
open Go AM
theorem r28_Valid (a : D.Answer) :
    SpecIs Tryz.prog 22 [(.agg [(vI a.ID), (vI a.Page), (vI a.Person), (vI a.Kind), (vI a.Arg), (vI a.At)])] [] (vB (ansValid a)) [] := by
 refine Spec.intro Tryz.func22 rfl (by kernel_rfl) ?_
 intro Γ hGn hGk
 replace hGn : Γ.n = 44 := hGn
 replace hGk : Γ.names = [] := hGk
 refine AWp.weaken (mk [(0, (.agg [(vI a.ID), (vI a.Page), (vI a.Person), (vI a.Kind), (vI a.Arg), (vI a.At)]))] []) (Weak.sub' hGk (by kernel_rfl)) ?_
 let a'1 : AO := (.box [(vI a.ID), (vI a.Page), (vI a.Person), (vI a.Kind), (vI a.Arg), (vI a.At)])
 refine AWp.s_reg hGn hGk (aa 2) (Man.aa _ _) [(1, (.ref 1001 0))] [(1001, a'1)] (by kernel_rfl) (by kernel_rfl) ?_
 refine AWp.seq ?_
 cases hs1 : inB a.ID (1 : Int) (999999 : Int)
 ·skip
  have ha2 := inB_false hs1
  refine AWp.s_reg hGn hGk [.a, .a, .m (some 5) ⟨[(4, (vI a.ID))], [], (vB false), [], []⟩, .a, .a, .a, .a, .a, .a, .a, .a, .a, .a, .a, .a, .a, .a, .a, .a, .a, .a, .a] ⟨StepOK.p rfl rfl rfl (OpOK.call rfl (by kernel_rfl) rfl (by have hq := (ref_In a.ID (1 : Int) (999999 : Int)); rw [hs1] at hq; exact hq) (by kernel_rfl)), trivial⟩ [(1, (.ref 1001 0)), (24, (vB true))] [(1001, a'1)] (by kernel_rfl) (by kernel_rfl) ?_
  refine AWp.cond_true rfl ?_
  refine AWp.s_reg hGn hGk (aa 1) (Man.aa _ _) [(2, (vB false))] [] (by kernel_rfl) (by kernel_rfl) ?_
  refine AWp.ret ?_
  refine nextQ_ret ?_
  refine fin_of (.inr rfl) (v := (vB false)) (Res.tmp rfl rfl) (h' := []) rfl rfl ?_
  exact ⟨by rw [ansV_pre (by first | (left; assumption) | (right; left; assumption) | (right; right; left; assumption) | (right; right; right; assumption))], rfl⟩
 ·skip
  have ha3 := inB_spec hs1
  cases hs4 : inB a.Page (1 : Int) (999999 : Int)
  ·skip
   have ha5 := inB_false hs4
   refine AWp.s_reg hGn hGk [.a, .a, .m (some 5) ⟨[(4, (vI a.ID))], [], (vB true), [], []⟩, .a, .a, .a, .a, .m (some 10) ⟨[(9, (vI a.Page)), (7, (vB false))], [], (vB false), [], []⟩, .a, .a, .a, .a, .a, .a, .a, .a, .a, .a, .a, .a, .a, .a] ⟨StepOK.p rfl rfl rfl (OpOK.call rfl (by kernel_rfl) rfl (by have hq := (ref_In a.ID (1 : Int) (999999 : Int)); rw [hs1] at hq; exact hq) (by kernel_rfl)),
    StepOK.g rfl rfl rfl rfl rfl (by simp) (OpOK.call rfl (by kernel_rfl) rfl (by have hq := (ref_In a.Page (1 : Int) (999999 : Int)); rw [hs4] at hq; exact hq) (by kernel_rfl)), trivial⟩ [(1, (.ref 1001 0)), (24, (vB true))] [(1001, a'1)] (by kernel_rfl) (by kernel_rfl) ?_
   refine AWp.cond_true rfl ?_
   refine AWp.s_reg hGn hGk (aa 1) (Man.aa _ _) [(2, (vB false))] [] (by kernel_rfl) (by kernel_rfl) ?_
   refine AWp.ret ?_
   refine nextQ_ret ?_
   refine fin_of (.inr rfl) (v := (vB false)) (Res.tmp rfl rfl) (h' := []) rfl rfl ?_
   exact ⟨by rw [ansV_pre (by first | (left; assumption) | (right; left; assumption) | (right; right; left; assumption) | (right; right; right; assumption))], rfl⟩
  ·skip
   have ha6 := inB_spec hs4
   cases hs7 : inB a.Person ((-1) : Int) (31 : Int)
   ·skip
    have ha8 := inB_false hs7
    refine AWp.s_reg hGn hGk [.a, .a, .m (some 5) ⟨[(4, (vI a.ID))], [], (vB true), [], []⟩, .a, .a, .a, .a, .m (some 10) ⟨[(9, (vI a.Page)), (7, (vB false))], [], (vB true), [], []⟩, .a, .a, .a, .a, .a, .m (some 16) ⟨[(15, (vI a.Person)), (13, (vB false))], [], (vB false), [], []⟩, .a, .a, .a, .a, .a, .a, .a, .a] ⟨StepOK.p rfl rfl rfl (OpOK.call rfl (by kernel_rfl) rfl (by have hq := (ref_In a.ID (1 : Int) (999999 : Int)); rw [hs1] at hq; exact hq) (by kernel_rfl)),
     StepOK.g rfl rfl rfl rfl rfl (by simp) (OpOK.call rfl (by kernel_rfl) rfl (by have hq := (ref_In a.Page (1 : Int) (999999 : Int)); rw [hs4] at hq; exact hq) (by kernel_rfl)),
     StepOK.g rfl rfl rfl rfl rfl (by simp) (OpOK.call rfl (by kernel_rfl) rfl (by have hq := (ref_In a.Person ((-1) : Int) (31 : Int)); rw [hs7] at hq; exact hq) (by kernel_rfl)), trivial⟩ [(1, (.ref 1001 0)), (24, (vB true))] [(1001, a'1)] (by kernel_rfl) (by kernel_rfl) ?_
    refine AWp.cond_true rfl ?_
    refine AWp.s_reg hGn hGk (aa 1) (Man.aa _ _) [(2, (vB false))] [] (by kernel_rfl) (by kernel_rfl) ?_
    refine AWp.ret ?_
    refine nextQ_ret ?_
    refine fin_of (.inr rfl) (v := (vB false)) (Res.tmp rfl rfl) (h' := []) rfl rfl ?_
    exact ⟨by rw [ansV_pre (by first | (left; assumption) | (right; left; assumption) | (right; right; left; assumption) | (right; right; right; assumption))], rfl⟩
   ·skip
    have ha9 := inB_spec hs7
    refine AWp.s_reg hGn hGk [.a, .a, .m (some 5) ⟨[(4, (vI a.ID))], [], (vB true), [], []⟩, .a, .a, .a, .a, .m (some 10) ⟨[(9, (vI a.Page)), (7, (vB false))], [], (vB true), [], []⟩, .a, .a, .a, .a, .a, .m (some 16) ⟨[(15, (vI a.Person)), (13, (vB false))], [], (vB true), [], []⟩, .a, .a, .a, .a, .a, .m (some 22) ⟨[(21, (vI a.At)), (19, (vB false))], [], (vB (inB a.At (0 : Int) (8589934592 : Int))), [], []⟩, .a, .a] ⟨StepOK.p rfl rfl rfl (OpOK.call rfl (by kernel_rfl) rfl (by have hq := (ref_In a.ID (1 : Int) (999999 : Int)); rw [hs1] at hq; exact hq) (by kernel_rfl)),
     StepOK.g rfl rfl rfl rfl rfl (by simp) (OpOK.call rfl (by kernel_rfl) rfl (by have hq := (ref_In a.Page (1 : Int) (999999 : Int)); rw [hs4] at hq; exact hq) (by kernel_rfl)),
     StepOK.g rfl rfl rfl rfl rfl (by simp) (OpOK.call rfl (by kernel_rfl) rfl (by have hq := (ref_In a.Person ((-1) : Int) (31 : Int)); rw [hs7] at hq; exact hq) (by kernel_rfl)),
     StepOK.g rfl rfl rfl rfl rfl (by simp) (OpOK.call rfl (by kernel_rfl) rfl (ref_In a.At (0 : Int) (8589934592 : Int)) (by kernel_rfl)), trivial⟩ [(1, (.ref 1001 0)), (24, (vB (!(inB a.At (0 : Int) (8589934592 : Int)))))] [(1001, a'1)] (by kernel_rfl) (by kernel_rfl) ?_
    refine AWp.cond (!(inB a.At (0 : Int) (8589934592 : Int))) rfl (fun hc10 => ?_) (fun hc10 => ?_)
    ·skip
     replace hc10 : inB a.At (0 : Int) (8589934592 : Int) = false := by simpa using hc10
     have ha11 := inB_false hc10
     refine AWp.s_reg hGn hGk (aa 1) (Man.aa _ _) [(2, (vB false))] [] (by kernel_rfl) (by kernel_rfl) ?_
     refine AWp.ret ?_
     refine nextQ_ret ?_
     refine fin_of (.inr rfl) (v := (vB false)) (Res.tmp rfl rfl) (h' := []) rfl rfl ?_
     exact ⟨by rw [ansV_pre (by first | (left; assumption) | (right; left; assumption) | (right; right; left; assumption) | (right; right; right; assumption))], rfl⟩
    ·skip
     replace hc10 : inB a.At (0 : Int) (8589934592 : Int) = true := by simpa using hc10
     have ha12 := inB_spec hc10
     refine AWp.skip ?_
     refine nextQ_normal ?_
     refine AWp.seq ?_
     refine AWp.s_reg hGn hGk (aa 2) (Man.aa _ _) [(1, (.ref 1001 0)), (26, (vI a.Kind))] [(1001, a'1)] (by kernel_rfl) (by kernel_rfl) ?_
     refine AWp.block ?_
     refine AWp.seq ?_
     refine AWp.s_reg hGn hGk (aa 2) (Man.aa _ _) [(1, (.ref 1001 0)), (26, (vI a.Kind)), (27, (vB (decide (a.Kind = (1 : Int)))))] [(1001, a'1)] (by kernel_rfl) (by kernel_rfl) ?_
     refine AWp.cond (decide (a.Kind = (1 : Int))) rfl (fun hc13 => ?_) (fun hc13 => ?_)
     ·skip
      replace hc13 := of_decide_eq_true hc13
      refine AWp.skip ?_
      refine nextQ_normal ?_
      refine AWp.cond (decide (a.Kind = (1 : Int))) rfl (fun hc14 => ?_) (fun hc14 => ?_)
      ·skip
       replace hc14 := of_decide_eq_true hc14
       refine AWp.s_reg hGn hGk (aa 4) (Man.aa _ _) [(2, (vB (decide (a.Arg = (0 : Int)))))] [] (by kernel_rfl) (by kernel_rfl) ?_
       refine AWp.ret ?_
       refine blockQ_ret ?_
       refine nextQ_ret ?_
       refine fin_of (.inr rfl) (v := (vB (decide (a.Arg = (0 : Int))))) (Res.tmp rfl rfl) (h' := []) rfl rfl ?_
       exact ⟨congrArg (fun q => vB q) (ansV_kind (by assumption) (by assumption) (by assumption) (by assumption) (by first | (left; exact ⟨by omega, rfl⟩) | (right; left; exact ⟨by omega, rfl⟩) | (right; right; left; exact ⟨by omega, rfl⟩) | (right; right; right; exact ⟨by omega, by omega, by omega, by omega, by omega, rfl⟩))).symm, rfl⟩
      ·skip
       replace hc14 := of_decide_eq_false hc14
       refine AWp.s_reg hGn hGk (aa 2) (Man.aa _ _) [(1, (.ref 1001 0)), (26, (vI a.Kind)), (34, (vB (decide (a.Kind = (3 : Int)))))] [(1001, a'1)] (by kernel_rfl) (by kernel_rfl) ?_
       refine AWp.cond (decide (a.Kind = (3 : Int))) rfl (fun hc15 => ?_) (fun hc15 => ?_)
       ·skip
        replace hc15 := of_decide_eq_true hc15
        refine AWp.s_reg hGn hGk [.a, .a, .m (some 38) ⟨[(37, (vI a.Arg))], [], (vB (inB a.Arg (1 : Int) (86400 : Int))), [], []⟩, .a] ⟨StepOK.p rfl rfl rfl (OpOK.call rfl (by kernel_rfl) rfl (ref_In a.Arg (1 : Int) (86400 : Int)) (by kernel_rfl)), trivial⟩ [(2, (vB (inB a.Arg (1 : Int) (86400 : Int))))] [] (by kernel_rfl) (by kernel_rfl) ?_
        refine AWp.ret ?_
        refine blockQ_ret ?_
        refine nextQ_ret ?_
        refine fin_of (.inr rfl) (v := (vB (inB a.Arg (1 : Int) (86400 : Int)))) (Res.tmp rfl rfl) (h' := []) rfl rfl ?_
        exact ⟨congrArg (fun q => vB q) (ansV_kind (by assumption) (by assumption) (by assumption) (by assumption) (by first | (left; exact ⟨by omega, rfl⟩) | (right; left; exact ⟨by omega, rfl⟩) | (right; right; left; exact ⟨by omega, rfl⟩) | (right; right; right; exact ⟨by omega, by omega, by omega, by omega, by omega, rfl⟩))).symm, rfl⟩
       ·skip
        replace hc15 := of_decide_eq_false hc15
        refine AWp.s_reg hGn hGk (aa 2) (Man.aa _ _) [(1, (.ref 1001 0)), (39, (vB (decide (a.Kind = (4 : Int)))))] [(1001, a'1)] (by kernel_rfl) (by kernel_rfl) ?_
        refine AWp.cond (decide (a.Kind = (4 : Int))) rfl (fun hc16 => ?_) (fun hc16 => ?_)
        ·skip
         replace hc16 := of_decide_eq_true hc16
         refine AWp.s_reg hGn hGk [.a, .a, .m (some 43) ⟨[(42, (vI a.Arg))], [], (vB (inB a.Arg (0 : Int) (31 : Int))), [], []⟩, .a] ⟨StepOK.p rfl rfl rfl (OpOK.call rfl (by kernel_rfl) rfl (ref_In a.Arg (0 : Int) (31 : Int)) (by kernel_rfl)), trivial⟩ [(2, (vB (inB a.Arg (0 : Int) (31 : Int))))] [] (by kernel_rfl) (by kernel_rfl) ?_
         refine AWp.ret ?_
         refine blockQ_ret ?_
         refine nextQ_ret ?_
         refine fin_of (.inr rfl) (v := (vB (inB a.Arg (0 : Int) (31 : Int)))) (Res.tmp rfl rfl) (h' := []) rfl rfl ?_
         exact ⟨congrArg (fun q => vB q) (ansV_kind (by assumption) (by assumption) (by assumption) (by assumption) (by first | (left; exact ⟨by omega, rfl⟩) | (right; left; exact ⟨by omega, rfl⟩) | (right; right; left; exact ⟨by omega, rfl⟩) | (right; right; right; exact ⟨by omega, by omega, by omega, by omega, by omega, rfl⟩))).symm, rfl⟩
        ·skip
         replace hc16 := of_decide_eq_false hc16
         refine AWp.skip ?_
         refine blockQ_normal ?_
         refine nextQ_normal ?_
         refine AWp.s_reg hGn hGk (aa 1) (Man.aa _ _) [(2, (vB false))] [] (by kernel_rfl) (by kernel_rfl) ?_
         refine AWp.ret ?_
         refine fin_of (.inr rfl) (v := (vB false)) (Res.tmp rfl rfl) (h' := []) rfl rfl ?_
         exact ⟨congrArg (fun q => vB q) (ansV_kind (by assumption) (by assumption) (by assumption) (by assumption) (by first | (left; exact ⟨by omega, rfl⟩) | (right; left; exact ⟨by omega, rfl⟩) | (right; right; left; exact ⟨by omega, rfl⟩) | (right; right; right; exact ⟨by omega, by omega, by omega, by omega, by omega, rfl⟩))).symm, rfl⟩
     ·skip
      replace hc13 := of_decide_eq_false hc13
      refine AWp.s_reg hGn hGk (aa 2) (Man.aa _ _) [(1, (.ref 1001 0)), (26, (vI a.Kind)), (27, (vB (decide (a.Kind = (2 : Int)))))] [(1001, a'1)] (by kernel_rfl) (by kernel_rfl) ?_
      refine AWp.cond (decide (a.Kind = (2 : Int))) rfl (fun hc17 => ?_) (fun hc17 => ?_)
      ·skip
       replace hc17 := of_decide_eq_true hc17
       refine AWp.skip ?_
       refine nextQ_normal ?_
       refine AWp.cond (decide (a.Kind = (2 : Int))) rfl (fun hc18 => ?_) (fun hc18 => ?_)
       ·skip
        replace hc18 := of_decide_eq_true hc18
        refine AWp.s_reg hGn hGk (aa 4) (Man.aa _ _) [(2, (vB (decide (a.Arg = (0 : Int)))))] [] (by kernel_rfl) (by kernel_rfl) ?_
        refine AWp.ret ?_
        refine blockQ_ret ?_
        refine nextQ_ret ?_
        refine fin_of (.inr rfl) (v := (vB (decide (a.Arg = (0 : Int))))) (Res.tmp rfl rfl) (h' := []) rfl rfl ?_
        exact ⟨congrArg (fun q => vB q) (ansV_kind (by assumption) (by assumption) (by assumption) (by assumption) (by first | (left; exact ⟨by omega, rfl⟩) | (right; left; exact ⟨by omega, rfl⟩) | (right; right; left; exact ⟨by omega, rfl⟩) | (right; right; right; exact ⟨by omega, by omega, by omega, by omega, by omega, rfl⟩))).symm, rfl⟩
       ·skip
        replace hc18 := of_decide_eq_false hc18
        refine AWp.s_reg hGn hGk (aa 2) (Man.aa _ _) [(1, (.ref 1001 0)), (26, (vI a.Kind)), (34, (vB (decide (a.Kind = (3 : Int)))))] [(1001, a'1)] (by kernel_rfl) (by kernel_rfl) ?_
        refine AWp.cond (decide (a.Kind = (3 : Int))) rfl (fun hc19 => ?_) (fun hc19 => ?_)
        ·skip
         replace hc19 := of_decide_eq_true hc19
         refine AWp.s_reg hGn hGk [.a, .a, .m (some 38) ⟨[(37, (vI a.Arg))], [], (vB (inB a.Arg (1 : Int) (86400 : Int))), [], []⟩, .a] ⟨StepOK.p rfl rfl rfl (OpOK.call rfl (by kernel_rfl) rfl (ref_In a.Arg (1 : Int) (86400 : Int)) (by kernel_rfl)), trivial⟩ [(2, (vB (inB a.Arg (1 : Int) (86400 : Int))))] [] (by kernel_rfl) (by kernel_rfl) ?_
         refine AWp.ret ?_
         refine blockQ_ret ?_
         refine nextQ_ret ?_
         refine fin_of (.inr rfl) (v := (vB (inB a.Arg (1 : Int) (86400 : Int)))) (Res.tmp rfl rfl) (h' := []) rfl rfl ?_
         exact ⟨congrArg (fun q => vB q) (ansV_kind (by assumption) (by assumption) (by assumption) (by assumption) (by first | (left; exact ⟨by omega, rfl⟩) | (right; left; exact ⟨by omega, rfl⟩) | (right; right; left; exact ⟨by omega, rfl⟩) | (right; right; right; exact ⟨by omega, by omega, by omega, by omega, by omega, rfl⟩))).symm, rfl⟩
        ·skip
         replace hc19 := of_decide_eq_false hc19
         refine AWp.s_reg hGn hGk (aa 2) (Man.aa _ _) [(1, (.ref 1001 0)), (39, (vB (decide (a.Kind = (4 : Int)))))] [(1001, a'1)] (by kernel_rfl) (by kernel_rfl) ?_
         refine AWp.cond (decide (a.Kind = (4 : Int))) rfl (fun hc20 => ?_) (fun hc20 => ?_)
         ·skip
          replace hc20 := of_decide_eq_true hc20
          refine AWp.s_reg hGn hGk [.a, .a, .m (some 43) ⟨[(42, (vI a.Arg))], [], (vB (inB a.Arg (0 : Int) (31 : Int))), [], []⟩, .a] ⟨StepOK.p rfl rfl rfl (OpOK.call rfl (by kernel_rfl) rfl (ref_In a.Arg (0 : Int) (31 : Int)) (by kernel_rfl)), trivial⟩ [(2, (vB (inB a.Arg (0 : Int) (31 : Int))))] [] (by kernel_rfl) (by kernel_rfl) ?_
          refine AWp.ret ?_
          refine blockQ_ret ?_
          refine nextQ_ret ?_
          refine fin_of (.inr rfl) (v := (vB (inB a.Arg (0 : Int) (31 : Int)))) (Res.tmp rfl rfl) (h' := []) rfl rfl ?_
          exact ⟨congrArg (fun q => vB q) (ansV_kind (by assumption) (by assumption) (by assumption) (by assumption) (by first | (left; exact ⟨by omega, rfl⟩) | (right; left; exact ⟨by omega, rfl⟩) | (right; right; left; exact ⟨by omega, rfl⟩) | (right; right; right; exact ⟨by omega, by omega, by omega, by omega, by omega, rfl⟩))).symm, rfl⟩
         ·skip
          replace hc20 := of_decide_eq_false hc20
          refine AWp.skip ?_
          refine blockQ_normal ?_
          refine nextQ_normal ?_
          refine AWp.s_reg hGn hGk (aa 1) (Man.aa _ _) [(2, (vB false))] [] (by kernel_rfl) (by kernel_rfl) ?_
          refine AWp.ret ?_
          refine fin_of (.inr rfl) (v := (vB false)) (Res.tmp rfl rfl) (h' := []) rfl rfl ?_
          exact ⟨congrArg (fun q => vB q) (ansV_kind (by assumption) (by assumption) (by assumption) (by assumption) (by first | (left; exact ⟨by omega, rfl⟩) | (right; left; exact ⟨by omega, rfl⟩) | (right; right; left; exact ⟨by omega, rfl⟩) | (right; right; right; exact ⟨by omega, by omega, by omega, by omega, by omega, rfl⟩))).symm, rfl⟩
      ·skip
       replace hc17 := of_decide_eq_false hc17
       refine AWp.reg' hGn hGk (aa 2) (Man.aa _ _) [(1, (.ref 1001 0)), (26, (vI a.Kind)), (27, (vB (decide (a.Kind = (5 : Int)))))] [(1001, a'1)] (by kernel_rfl) (by kernel_rfl) ?_
       refine nextQ_normal ?_
       refine AWp.cond (decide (a.Kind = (5 : Int))) rfl (fun hc21 => ?_) (fun hc21 => ?_)
       ·skip
        replace hc21 := of_decide_eq_true hc21
        refine AWp.s_reg hGn hGk (aa 4) (Man.aa _ _) [(2, (vB (decide (a.Arg = (0 : Int)))))] [] (by kernel_rfl) (by kernel_rfl) ?_
        refine AWp.ret ?_
        refine blockQ_ret ?_
        refine nextQ_ret ?_
        refine fin_of (.inr rfl) (v := (vB (decide (a.Arg = (0 : Int))))) (Res.tmp rfl rfl) (h' := []) rfl rfl ?_
        exact ⟨congrArg (fun q => vB q) (ansV_kind (by assumption) (by assumption) (by assumption) (by assumption) (by first | (left; exact ⟨by omega, rfl⟩) | (right; left; exact ⟨by omega, rfl⟩) | (right; right; left; exact ⟨by omega, rfl⟩) | (right; right; right; exact ⟨by omega, by omega, by omega, by omega, by omega, rfl⟩))).symm, rfl⟩
       ·skip
        replace hc21 := of_decide_eq_false hc21
        refine AWp.s_reg hGn hGk (aa 2) (Man.aa _ _) [(1, (.ref 1001 0)), (26, (vI a.Kind)), (34, (vB (decide (a.Kind = (3 : Int)))))] [(1001, a'1)] (by kernel_rfl) (by kernel_rfl) ?_
        refine AWp.cond (decide (a.Kind = (3 : Int))) rfl (fun hc22 => ?_) (fun hc22 => ?_)
        ·skip
         replace hc22 := of_decide_eq_true hc22
         refine AWp.s_reg hGn hGk [.a, .a, .m (some 38) ⟨[(37, (vI a.Arg))], [], (vB (inB a.Arg (1 : Int) (86400 : Int))), [], []⟩, .a] ⟨StepOK.p rfl rfl rfl (OpOK.call rfl (by kernel_rfl) rfl (ref_In a.Arg (1 : Int) (86400 : Int)) (by kernel_rfl)), trivial⟩ [(2, (vB (inB a.Arg (1 : Int) (86400 : Int))))] [] (by kernel_rfl) (by kernel_rfl) ?_
         refine AWp.ret ?_
         refine blockQ_ret ?_
         refine nextQ_ret ?_
         refine fin_of (.inr rfl) (v := (vB (inB a.Arg (1 : Int) (86400 : Int)))) (Res.tmp rfl rfl) (h' := []) rfl rfl ?_
         exact ⟨congrArg (fun q => vB q) (ansV_kind (by assumption) (by assumption) (by assumption) (by assumption) (by first | (left; exact ⟨by omega, rfl⟩) | (right; left; exact ⟨by omega, rfl⟩) | (right; right; left; exact ⟨by omega, rfl⟩) | (right; right; right; exact ⟨by omega, by omega, by omega, by omega, by omega, rfl⟩))).symm, rfl⟩
        ·skip
         replace hc22 := of_decide_eq_false hc22
         refine AWp.s_reg hGn hGk (aa 2) (Man.aa _ _) [(1, (.ref 1001 0)), (39, (vB (decide (a.Kind = (4 : Int)))))] [(1001, a'1)] (by kernel_rfl) (by kernel_rfl) ?_
         refine AWp.cond (decide (a.Kind = (4 : Int))) rfl (fun hc23 => ?_) (fun hc23 => ?_)
         ·skip
          replace hc23 := of_decide_eq_true hc23
          refine AWp.s_reg hGn hGk [.a, .a, .m (some 43) ⟨[(42, (vI a.Arg))], [], (vB (inB a.Arg (0 : Int) (31 : Int))), [], []⟩, .a] ⟨StepOK.p rfl rfl rfl (OpOK.call rfl (by kernel_rfl) rfl (ref_In a.Arg (0 : Int) (31 : Int)) (by kernel_rfl)), trivial⟩ [(2, (vB (inB a.Arg (0 : Int) (31 : Int))))] [] (by kernel_rfl) (by kernel_rfl) ?_
          refine AWp.ret ?_
          refine blockQ_ret ?_
          refine nextQ_ret ?_
          refine fin_of (.inr rfl) (v := (vB (inB a.Arg (0 : Int) (31 : Int)))) (Res.tmp rfl rfl) (h' := []) rfl rfl ?_
          exact ⟨congrArg (fun q => vB q) (ansV_kind (by assumption) (by assumption) (by assumption) (by assumption) (by first | (left; exact ⟨by omega, rfl⟩) | (right; left; exact ⟨by omega, rfl⟩) | (right; right; left; exact ⟨by omega, rfl⟩) | (right; right; right; exact ⟨by omega, by omega, by omega, by omega, by omega, rfl⟩))).symm, rfl⟩
         ·skip
          replace hc23 := of_decide_eq_false hc23
          refine AWp.skip ?_
          refine blockQ_normal ?_
          refine nextQ_normal ?_
          refine AWp.s_reg hGn hGk (aa 1) (Man.aa _ _) [(2, (vB false))] [] (by kernel_rfl) (by kernel_rfl) ?_
          refine AWp.ret ?_
          refine fin_of (.inr rfl) (v := (vB false)) (Res.tmp rfl rfl) (h' := []) rfl rfl ?_
          exact ⟨congrArg (fun q => vB q) (ansV_kind (by assumption) (by assumption) (by assumption) (by assumption) (by first | (left; exact ⟨by omega, rfl⟩) | (right; left; exact ⟨by omega, rfl⟩) | (right; right; left; exact ⟨by omega, rfl⟩) | (right; right; right; exact ⟨by omega, by omega, by omega, by omega, by omega, rfl⟩))).symm, rfl⟩
theorem r28_Code (p q : Int) :
    SpecIs Tryz.prog 23 [(vI p), (vI q)] [] (vI (ansCode p q)) [] := by
 refine Spec.intro Tryz.func23 rfl (by kernel_rfl) ?_
 intro Γ hGn hGk
 replace hGn : Γ.n = 20 := hGn
 replace hGk : Γ.names = [] := hGk
 refine AWp.weaken (mk [(0, (vI p)), (1, (vI q))] []) (Weak.sub' hGk (by kernel_rfl)) ?_
 refine AWp.s_reg hGn hGk (aa 1) (Man.aa _ _) [(0, (vI p)), (1, (vI q))] [] (by kernel_rfl) (by kernel_rfl) ?_
 refine AWp.seq ?_
 cases hs1 : inB p (1 : Int) (999999 : Int)
 ·skip
  have ha2 := inB_false hs1
  refine AWp.s_reg hGn hGk [.a, .m (some 6) ⟨[(5, (vI p))], [], (vB false), [], []⟩, .a, .a, .a, .a, .a, .a] ⟨StepOK.p rfl rfl rfl (OpOK.call rfl (by kernel_rfl) rfl (by have hq := (ref_In p (1 : Int) (999999 : Int)); rw [hs1] at hq; exact hq) (by kernel_rfl)), trivial⟩ [(0, (vI p)), (1, (vI q)), (12, (vB true))] [] (by kernel_rfl) (by kernel_rfl) ?_
  refine AWp.cond_true rfl ?_
  refine AWp.s_reg hGn hGk (aa 1) (Man.aa _ _) [(4, (vI (-1)))] [] (by kernel_rfl) (by kernel_rfl) ?_
  refine AWp.ret ?_
  refine nextQ_ret ?_
  refine fin_of (.inr rfl) (v := (vI (-1))) (Res.tmp rfl rfl) (h' := []) rfl rfl ?_
  exact ⟨by simp [ansCode, *], rfl⟩
 ·skip
  have ha3 := inB_spec hs1
  refine AWp.s_reg hGn hGk [.a, .m (some 6) ⟨[(5, (vI p))], [], (vB true), [], []⟩, .a, .a, .a, .m (some 10) ⟨[(9, (vI q)), (8, (vB false))], [], (vB (inB q (0 : Int) (31 : Int))), [], []⟩, .a, .a] ⟨StepOK.p rfl rfl rfl (OpOK.call rfl (by kernel_rfl) rfl (by have hq := (ref_In p (1 : Int) (999999 : Int)); rw [hs1] at hq; exact hq) (by kernel_rfl)),
   StepOK.g rfl rfl rfl rfl rfl (by simp) (OpOK.call rfl (by kernel_rfl) rfl (ref_In q (0 : Int) (31 : Int)) (by kernel_rfl)), trivial⟩ [(0, (vI p)), (1, (vI q)), (12, (vB (!(inB q (0 : Int) (31 : Int)))))] [] (by kernel_rfl) (by kernel_rfl) ?_
  refine AWp.cond (!(inB q (0 : Int) (31 : Int))) rfl (fun hc4 => ?_) (fun hc4 => ?_)
  ·skip
   replace hc4 : inB q (0 : Int) (31 : Int) = false := by simpa using hc4
   have ha5 := inB_false hc4
   refine AWp.s_reg hGn hGk (aa 1) (Man.aa _ _) [(4, (vI (-1)))] [] (by kernel_rfl) (by kernel_rfl) ?_
   refine AWp.ret ?_
   refine nextQ_ret ?_
   refine fin_of (.inr rfl) (v := (vI (-1))) (Res.tmp rfl rfl) (h' := []) rfl rfl ?_
   exact ⟨by simp [ansCode, *], rfl⟩
  ·skip
   replace hc4 : inB q (0 : Int) (31 : Int) = true := by simpa using hc4
   have ha6 := inB_spec hc4
   refine AWp.skip ?_
   refine nextQ_normal ?_
   refine AWp.s_reg hGn hGk [.a, .m (some 14) ⟨[(13, (vI p))], [], (vI (7919 * p)), [], []⟩, .a, .m (some 16) ⟨[(15, (vI q))], [], (vI (104729 * q)), [], []⟩, .m (some 17) ⟨[(14, (vI (7919 * p))), (16, (vI (104729 * q)))], [], (vI ((7919 * p) + (104729 * q))), [], []⟩, .m (some 18) ⟨[(17, (vI ((7919 * p) + (104729 * q))))], [], (vI (((7919 * p) + (104729 * q)) + 4711)), [], []⟩, .m (some 19) ⟨[(18, (vI (((7919 * p) + (104729 * q)) + 4711)))], [], (vI ((((7919 * p) + (104729 * q)) + 4711) % 10000)), [], []⟩, .a] ⟨StepOK.p rfl rfl rfl (OpOK.mul rfl rfl rfl (IntWalk.i64_in _ ⟨by omega, by omega⟩)),
    StepOK.p rfl rfl rfl (OpOK.mul rfl rfl rfl (IntWalk.i64_in _ ⟨by omega, by omega⟩)),
    StepOK.p rfl rfl rfl (OpOK.add rfl rfl rfl (IntWalk.i64_in _ ⟨by omega, by omega⟩)),
    StepOK.p rfl rfl rfl (OpOK.add rfl rfl rfl (IntWalk.i64_in _ ⟨by omega, by omega⟩)),
    StepOK.p rfl rfl rfl (OpOK.rem rfl rfl rfl (by omega) (Int.tmod_eq_emod_of_nonneg (by omega))), trivial⟩ [(4, (vI ((((7919 * p) + (104729 * q)) + 4711) % 10000)))] [] (by kernel_rfl) (by kernel_rfl) ?_
   refine AWp.ret ?_
   refine fin_of (.inr rfl) (v := (vI ((((7919 * p) + (104729 * q)) + 4711) % 10000))) (Res.tmp rfl rfl) (h' := []) rfl rfl ?_
   exact ⟨by simp [ansCode, *], rfl⟩
theorem r28_verb (k : Int) (h0 : 0 ≤ k) (h5 : k ≤ 5) :
    SpecIs Tryz.prog 48 [(vI k)] [] (vS (verbV k)) [] := by
 refine Spec.intro Tryz.func48 rfl (by kernel_rfl) ?_
 intro Γ hGn hGk
 replace hGn : Γ.n = 7 := hGn
 replace hGk : Γ.names = [] := hGk
 refine AWp.weaken (mk [(0, (vI k))] []) (Weak.sub' hGk (by kernel_rfl)) ?_
 refine AWp.s_reg hGn hGk (aa 1) (Man.aa _ _) [(0, (vI k))] [] (by kernel_rfl) (by kernel_rfl) ?_
 refine AWp.s_reg hGn hGk [.a, .a, .m (some 5) ⟨[(3, (.p (.sl true 1 [[(pS (ByteArray.mk #[]))], [(pS (ByteArray.mk #[97, 99, 107]))], [(pS (ByteArray.mk #[100, 101, 99, 108, 105, 110, 101]))], [(pS (ByteArray.mk #[115, 110, 111, 111, 122, 101]))], [(pS (ByteArray.mk #[104, 97, 110, 100]))], [(pS (ByteArray.mk #[114, 101, 115, 111, 108, 118, 101]))]]))), (4, (vI k))], [], (.eptr [(pS (nth ([(ByteArray.mk #[]), (ByteArray.mk #[97, 99, 107]), (ByteArray.mk #[100, 101, 99, 108, 105, 110, 101]), (ByteArray.mk #[115, 110, 111, 111, 122, 101]), (ByteArray.mk #[104, 97, 110, 100]), (ByteArray.mk #[114, 101, 115, 111, 108, 118, 101])] : List ByteArray) ((k).toNat)))]), [], []⟩, .a, .a] ⟨StepOK.p rfl rfl rfl (OpOK.indexP (e := 9) rfl (by kernel_rfl) (by kernel_rfl) rfl rfl (by omega) (map_nth (l := ([(ByteArray.mk #[]), (ByteArray.mk #[97, 99, 107]), (ByteArray.mk #[100, 101, 99, 108, 105, 110, 101]), (ByteArray.mk #[115, 110, 111, 111, 122, 101]), (ByteArray.mk #[104, 97, 110, 100]), (ByteArray.mk #[114, 101, 115, 111, 108, 118, 101])] : List ByteArray)) (f := D.cStr) (by simp only [List.length_cons, List.length_nil]; omega))), trivial⟩ [(2, (vS (nth ([(ByteArray.mk #[]), (ByteArray.mk #[97, 99, 107]), (ByteArray.mk #[100, 101, 99, 108, 105, 110, 101]), (ByteArray.mk #[115, 110, 111, 111, 122, 101]), (ByteArray.mk #[104, 97, 110, 100]), (ByteArray.mk #[114, 101, 115, 111, 108, 118, 101])] : List ByteArray) ((k).toNat))))] [] (by kernel_rfl) (by kernel_rfl) ?_
 refine AWp.ret ?_
 refine fin_of (.inr rfl) (v := (vS (nth ([(ByteArray.mk #[]), (ByteArray.mk #[97, 99, 107]), (ByteArray.mk #[100, 101, 99, 108, 105, 110, 101]), (ByteArray.mk #[115, 110, 111, 111, 122, 101]), (ByteArray.mk #[104, 97, 110, 100]), (ByteArray.mk #[114, 101, 115, 111, 108, 118, 101])] : List ByteArray) ((k).toNat)))) (Res.tmp rfl rfl) (h' := []) rfl rfl ?_
 exact ⟨by rw [verb_nth h0 h5], rfl⟩
theorem r28_code (p q : Int) (hp : inB p 1 999999 = true) (hq : inB q 0 31 = true) :
    SpecIs Tryz.prog 49 [(vI p), (vI q)] [] (vS (digB (ansCode p q))) [] := by
 refine Spec.intro Tryz.func49 rfl (by kernel_rfl) ?_
 intro Γ hGn hGk
 replace hGn : Γ.n = 26 := hGn
 replace hGk : Γ.names = [] := hGk
 have hc0 := ansCode_nn hp hq
 refine AWp.weaken (mk [(0, (vI p)), (1, (vI q))] []) (Weak.sub' hGk (by kernel_rfl)) ?_
 refine AWp.s_reg hGn hGk (aa 1) (Man.aa _ _) [(0, (vI p)), (1, (vI q))] [] (by kernel_rfl) (by kernel_rfl) ?_
 have hf1 := ansCode_le p q
 refine AWp.s_reg hGn hGk [.a, .a, .m (some 8) ⟨[(6, (vI p)), (7, (vI q))], [], (vI (ansCode p q)), [], []⟩, .a] ⟨StepOK.p rfl rfl rfl (OpOK.call rfl (by kernel_rfl) rfl (r28_Code p q) (by kernel_rfl)), trivial⟩ [(5, (vI (ansCode p q)))] [] (by kernel_rfl) (by kernel_rfl) ?_
 refine AWp.s_reg hGn hGk [.a, .m (some 10) ⟨[(9, (vI (ansCode p q)))], [], (vI ((ansCode p q) / 1000)), [], []⟩, .m (some 11) ⟨[(10, (vI ((ansCode p q) / 1000)))], [], (vS (itoaB ((ansCode p q) / 1000))), [], []⟩, .a, .m (some 13) ⟨[(12, (vI (ansCode p q)))], [], (vI ((ansCode p q) / 100)), [], []⟩, .m (some 14) ⟨[(13, (vI ((ansCode p q) / 100)))], [], (vI (((ansCode p q) / 100) % 10)), [], []⟩, .m (some 15) ⟨[(14, (vI (((ansCode p q) / 100) % 10)))], [], (vS (itoaB (((ansCode p q) / 100) % 10))), [], []⟩, .m (some 16) ⟨[(11, (vS (itoaB ((ansCode p q) / 1000)))), (15, (vS (itoaB (((ansCode p q) / 100) % 10))))], [], (vS ((itoaB ((ansCode p q) / 1000)) ++ (itoaB (((ansCode p q) / 100) % 10)))), [], []⟩, .a, .m (some 18) ⟨[(17, (vI (ansCode p q)))], [], (vI ((ansCode p q) / 10)), [], []⟩, .m (some 19) ⟨[(18, (vI ((ansCode p q) / 10)))], [], (vI (((ansCode p q) / 10) % 10)), [], []⟩, .m (some 20) ⟨[(19, (vI (((ansCode p q) / 10) % 10)))], [], (vS (itoaB (((ansCode p q) / 10) % 10))), [], []⟩, .m (some 21) ⟨[(16, (vS ((itoaB ((ansCode p q) / 1000)) ++ (itoaB (((ansCode p q) / 100) % 10))))), (20, (vS (itoaB (((ansCode p q) / 10) % 10))))], [], (vS (((itoaB ((ansCode p q) / 1000)) ++ (itoaB (((ansCode p q) / 100) % 10))) ++ (itoaB (((ansCode p q) / 10) % 10)))), [], []⟩, .a, .m (some 23) ⟨[(22, (vI (ansCode p q)))], [], (vI ((ansCode p q) % 10)), [], []⟩, .m (some 24) ⟨[(23, (vI ((ansCode p q) % 10)))], [], (vS (itoaB ((ansCode p q) % 10))), [], []⟩, .m (some 25) ⟨[(21, (vS (((itoaB ((ansCode p q) / 1000)) ++ (itoaB (((ansCode p q) / 100) % 10))) ++ (itoaB (((ansCode p q) / 10) % 10))))), (24, (vS (itoaB ((ansCode p q) % 10))))], [], (vS ((((itoaB ((ansCode p q) / 1000)) ++ (itoaB (((ansCode p q) / 100) % 10))) ++ (itoaB (((ansCode p q) / 10) % 10))) ++ (itoaB ((ansCode p q) % 10)))), [], []⟩, .a] ⟨StepOK.p rfl rfl rfl (OpOK.quo rfl rfl rfl (by omega) (IntWalk.i64_quo _ _ ⟨by omega, by omega, by omega⟩)),
  StepOK.p rfl rfl rfl (OpOK.call rfl (by kernel_rfl) rfl (ref_Decimal ((ansCode p q) / 1000) (by omega) (by omega)) (by kernel_rfl)),
  StepOK.p rfl rfl rfl (OpOK.quo rfl rfl rfl (by omega) (IntWalk.i64_quo _ _ ⟨by omega, by omega, by omega⟩)),
  StepOK.p rfl rfl rfl (OpOK.rem rfl rfl rfl (by omega) (Int.tmod_eq_emod_of_nonneg (by omega))),
  StepOK.p rfl rfl rfl (OpOK.call rfl (by kernel_rfl) rfl (ref_Decimal (((ansCode p q) / 100) % 10) (by omega) (by omega)) (by kernel_rfl)),
  StepOK.p rfl rfl rfl (OpOK.addS rfl rfl rfl (sz_le (m := 21) (n := 21) (itoaB_size ((ansCode p q) / 1000) (by omega) (by omega)) (itoaB_size (((ansCode p q) / 100) % 10) (by omega) (by omega)) rfl) rfl),
  StepOK.p rfl rfl rfl (OpOK.quo rfl rfl rfl (by omega) (IntWalk.i64_quo _ _ ⟨by omega, by omega, by omega⟩)),
  StepOK.p rfl rfl rfl (OpOK.rem rfl rfl rfl (by omega) (Int.tmod_eq_emod_of_nonneg (by omega))),
  StepOK.p rfl rfl rfl (OpOK.call rfl (by kernel_rfl) rfl (ref_Decimal (((ansCode p q) / 10) % 10) (by omega) (by omega)) (by kernel_rfl)),
  StepOK.p rfl rfl rfl (OpOK.addS rfl rfl rfl (sz_le (m := 42) (n := 21) (sz_app (itoaB_size ((ansCode p q) / 1000) (by omega) (by omega)) (itoaB_size (((ansCode p q) / 100) % 10) (by omega) (by omega))) (itoaB_size (((ansCode p q) / 10) % 10) (by omega) (by omega)) rfl) rfl),
  StepOK.p rfl rfl rfl (OpOK.rem rfl rfl rfl (by omega) (Int.tmod_eq_emod_of_nonneg (by omega))),
  StepOK.p rfl rfl rfl (OpOK.call rfl (by kernel_rfl) rfl (ref_Decimal ((ansCode p q) % 10) (by omega) (by omega)) (by kernel_rfl)),
  StepOK.p rfl rfl rfl (OpOK.addS rfl rfl rfl (sz_le (m := 63) (n := 21) (sz_app (sz_app (itoaB_size ((ansCode p q) / 1000) (by omega) (by omega)) (itoaB_size (((ansCode p q) / 100) % 10) (by omega) (by omega))) (itoaB_size (((ansCode p q) / 10) % 10) (by omega) (by omega))) (itoaB_size ((ansCode p q) % 10) (by omega) (by omega)) rfl) rfl), trivial⟩ [(4, (vS ((((itoaB ((ansCode p q) / 1000)) ++ (itoaB (((ansCode p q) / 100) % 10))) ++ (itoaB (((ansCode p q) / 10) % 10))) ++ (itoaB ((ansCode p q) % 10)))))] [] (by kernel_rfl) (by kernel_rfl) ?_
 refine AWp.ret ?_
 refine fin_of (.inr rfl) (v := (vS ((((itoaB ((ansCode p q) / 1000)) ++ (itoaB (((ansCode p q) / 100) % 10))) ++ (itoaB (((ansCode p q) / 10) % 10))) ++ (itoaB ((ansCode p q) % 10))))) (Res.tmp rfl rfl) (h' := []) rfl rfl ?_
 exact ⟨by rw [← digB_parts hc0.1 hc0.2], rfl⟩
theorem r28_Format (c : D.Config) (a : D.Answer) (h : CfgOK c) :
    SpecIs Tryz.prog 20 [(.agg [(.p (.sl false 3 (c.Zones.map D.Zone.cells))), (.p (.sl false 6 (c.People.map D.Person.cells))), (.p (.sl false 3 (c.Calendars.map D.Calendar.cells))), (.p (.sl false 3 (c.Schedules.map D.Schedule.cells)))]), (.agg [(vI a.ID), (vI a.Page), (vI a.Person), (vI a.Kind), (vI a.Arg), (vI a.At)])] [] (.tup [(vS ((fmtA c a).1)), (vI ((fmtA c a).2))]) [] := by
 refine Spec.intro Tryz.func20 rfl (by kernel_rfl) ?_
 intro Γ hGn hGk
 replace hGn : Γ.n = 77 := hGn
 replace hGk : Γ.names = [] := hGk
 have hpl := h.plen
 let a'1 : AV := (.p (.sl false 3 (c.Zones.map D.Zone.cells)))
 let a'2 : AV := (.p (.sl false 6 (c.People.map D.Person.cells)))
 let a'3 : AV := (.p (.sl false 3 (c.Calendars.map D.Calendar.cells)))
 let a'4 : AV := (.p (.sl false 3 (c.Schedules.map D.Schedule.cells)))
 let a'5 : AV := (.agg [a'1, a'2, a'3, a'4])
 let a'6 : AV := (.agg [(vI a.ID), (vI a.Page), (vI a.Person), (vI a.Kind), (vI a.Arg), (vI a.At)])
 refine AWp.weaken (mk [(0, a'5), (1, a'6)] []) (Weak.sub' hGk (by kernel_rfl)) ?_
 let a'7 : AO := (.box [a'1, a'2, a'3, a'4])
 let a'8 : AO := (.box [(vI a.ID), (vI a.Page), (vI a.Person), (vI a.Kind), (vI a.Arg), (vI a.At)])
 refine AWp.s_reg hGn hGk (aa 4) (Man.aa _ _) [(2, (.ref 1002 0)), (3, (.ref 1003 0))] [(1002, a'7), (1003, a'8)] (by kernel_rfl) (by kernel_rfl) ?_
 refine AWp.seq ?_
 cases hs1 : ansValid a
 ·skip
  refine AWp.s_reg hGn hGk [.a, .m (some 8) ⟨[(7, a'5)], [], (vI 0), [], []⟩, .a, .a, .a, .m (some 12) ⟨[(11, a'6), (10, (vB false))], [], (vB false), [], []⟩, .a, .a, .a, .a, .a, .a, .a] ⟨StepOK.p rfl rfl rfl (OpOK.call rfl (by kernel_rfl) rfl (r08_Check c h) (by kernel_rfl)),
   StepOK.g rfl rfl rfl rfl rfl (by simp) (OpOK.call rfl (by kernel_rfl) rfl (by have hq := (r28_Valid a); rw [hs1] at hq; exact hq) (by kernel_rfl)), trivial⟩ [(2, (.ref 1002 0)), (3, (.ref 1003 0)), (19, (vB true))] [(1002, a'7), (1003, a'8)] (by kernel_rfl) (by kernel_rfl) ?_
  refine AWp.cond_true rfl ?_
  refine AWp.s_reg hGn hGk (aa 2) (Man.aa _ _) [(4, (vS (ByteArray.mk #[]))), (5, (vI 8))] [] (by kernel_rfl) (by kernel_rfl) ?_
  refine AWp.ret ?_
  refine nextQ_ret ?_
  refine fin_of (.inr rfl) (v := (.tup [(vS (ByteArray.mk #[])), (vI 8)])) (Res.many (by kernel_rfl) (Res1s.cons (Res1.tmp rfl) (Res1s.cons (Res1.tmp rfl) Res1s.nil))) (h' := []) rfl rfl ?_
  exact ⟨by rw [fmtA_8 (by first | (left; assumption) | (right; omega))], rfl⟩
 ·skip
  have ha2 := ansValid_spec hs1
  refine AWp.s_reg hGn hGk [.a, .m (some 8) ⟨[(7, a'5)], [], (vI 0), [], []⟩, .a, .a, .a, .m (some 12) ⟨[(11, a'6), (10, (vB false))], [], (vB true), [], []⟩, .a, .a, .a, .a, .a, .a, .a] ⟨StepOK.p rfl rfl rfl (OpOK.call rfl (by kernel_rfl) rfl (r08_Check c h) (by kernel_rfl)),
   StepOK.g rfl rfl rfl rfl rfl (by simp) (OpOK.call rfl (by kernel_rfl) rfl (by have hq := (r28_Valid a); rw [hs1] at hq; exact hq) (by kernel_rfl)), trivial⟩ [(2, (.ref 1002 0)), (3, (.ref 1003 0)), (19, (vB (decide (a.Person < (0 : Int)))))] [(1002, a'7), (1003, a'8)] (by kernel_rfl) (by kernel_rfl) ?_
  refine AWp.cond (decide (a.Person < (0 : Int))) rfl (fun hc3 => ?_) (fun hc3 => ?_)
  ·skip
   replace hc3 := of_decide_eq_true hc3
   refine AWp.s_reg hGn hGk (aa 2) (Man.aa _ _) [(4, (vS (ByteArray.mk #[]))), (5, (vI 8))] [] (by kernel_rfl) (by kernel_rfl) ?_
   refine AWp.ret ?_
   refine nextQ_ret ?_
   refine fin_of (.inr rfl) (v := (.tup [(vS (ByteArray.mk #[])), (vI 8)])) (Res.many (by kernel_rfl) (Res1s.cons (Res1.tmp rfl) (Res1s.cons (Res1.tmp rfl) Res1s.nil))) (h' := []) rfl rfl ?_
   exact ⟨by rw [fmtA_8 (by first | (left; assumption) | (right; omega))], rfl⟩
  ·skip
   replace hc3 := of_decide_eq_false hc3
   refine AWp.skip ?_
   refine nextQ_normal ?_
   refine AWp.seq ?_
   by_cases hs4 : ((c.People.length : Nat) : Int) ≤ a.Person
   ·skip
    first | refine AWp.cast (show (mk [(2, (.ref 1002 0)), (3, (.ref 1003 0)), (19, (vB (decide (a.Person < (0 : Int)))))] [(1002, (.box [(.p (.sl false 3 (c.Zones.map D.Zone.cells))), (.p (.sl false 6 (c.People.map D.Person.cells))), (.p (.sl false 3 (c.Calendars.map D.Calendar.cells))), (.p (.sl false 3 (c.Schedules.map D.Schedule.cells)))])), (1003, (.box [(vI a.ID), (vI a.Page), (vI a.Person), (vI a.Kind), (vI a.Arg), (vI a.At)]))]) = (mk [(2, (.ref 1002 0)), (3, (.ref 1003 0)), (19, (vB false))] [(1002, (.box [(.p (.sl false 3 (c.Zones.map D.Zone.cells))), (.p (.sl false 6 (c.People.map D.Person.cells))), (.p (.sl false 3 (c.Calendars.map D.Calendar.cells))), (.p (.sl false 3 (c.Schedules.map D.Schedule.cells)))])), (1003, (.box [(vI a.ID), (vI a.Page), (vI a.Person), (vI a.Kind), (vI a.Arg), (vI a.At)]))]) from by rw [(decide_eq_false hc3)]) ?_ | skip
    refine AWp.s_reg hGn hGk [.a, .a, .a, .a, .m (some 24) ⟨[(23, a'2)], [], (vI ((c.People.length : Nat) : Int)), [], []⟩, .m (some 25) ⟨[(21, (vI a.Person)), (24, (vI ((c.People.length : Nat) : Int)))], [], (vB true), [], []⟩, .a, .a, .a, .a, .a, .a, .a, .a, .a, .a, .a, .a, .a] ⟨StepOK.p rfl rfl rfl (OpOK.lenP (e := 75) rfl rfl (by kernel_rfl) rfl (by rw [List.length_map])),
     StepOK.p rfl rfl rfl (OpOK.geq rfl rfl rfl (decide_eq_true hs4)), trivial⟩ [(2, (.ref 1002 0)), (3, (.ref 1003 0)), (38, (vB true))] [(1002, a'7), (1003, a'8)] (by kernel_rfl) (by kernel_rfl) ?_
    refine AWp.cond_true rfl ?_
    refine AWp.s_reg hGn hGk (aa 2) (Man.aa _ _) [(4, (vS (ByteArray.mk #[]))), (5, (vI 3))] [] (by kernel_rfl) (by kernel_rfl) ?_
    refine AWp.ret ?_
    refine nextQ_ret ?_
    refine fin_of (.inr rfl) (v := (.tup [(vS (ByteArray.mk #[])), (vI 3)])) (Res.many (by kernel_rfl) (Res1s.cons (Res1.tmp rfl) (Res1s.cons (Res1.tmp rfl) Res1s.nil))) (h' := []) rfl rfl ?_
    exact ⟨by rw [fmtA_3 (by rintro (hh | hh) <;> first | omega | simp_all) (by first | (left; omega) | (right; constructor <;> omega))], rfl⟩
   ·skip
    first | refine AWp.cast (show (mk [(2, (.ref 1002 0)), (3, (.ref 1003 0)), (19, (vB (decide (a.Person < (0 : Int)))))] [(1002, (.box [(.p (.sl false 3 (c.Zones.map D.Zone.cells))), (.p (.sl false 6 (c.People.map D.Person.cells))), (.p (.sl false 3 (c.Calendars.map D.Calendar.cells))), (.p (.sl false 3 (c.Schedules.map D.Schedule.cells)))])), (1003, (.box [(vI a.ID), (vI a.Page), (vI a.Person), (vI a.Kind), (vI a.Arg), (vI a.At)]))]) = (mk [(2, (.ref 1002 0)), (3, (.ref 1003 0)), (19, (vB false))] [(1002, (.box [(.p (.sl false 3 (c.Zones.map D.Zone.cells))), (.p (.sl false 6 (c.People.map D.Person.cells))), (.p (.sl false 3 (c.Calendars.map D.Calendar.cells))), (.p (.sl false 3 (c.Schedules.map D.Schedule.cells)))])), (1003, (.box [(vI a.ID), (vI a.Page), (vI a.Person), (vI a.Kind), (vI a.Arg), (vI a.At)]))]) from by rw [(decide_eq_false hc3)]) ?_ | skip
    by_cases hs5 : a.Kind = (4 : Int)
    ·skip
     refine AWp.s_reg hGn hGk [.a, .a, .a, .a, .m (some 24) ⟨[(23, a'2)], [], (vI ((c.People.length : Nat) : Int)), [], []⟩, .m (some 25) ⟨[(21, (vI a.Person)), (24, (vI ((c.People.length : Nat) : Int)))], [], (vB false), [], []⟩, .a, .a, .a, .m (some 29) ⟨[(28, (vI a.Kind)), (26, (vB false))], [], (vB true), [], []⟩, .a, .a, .a, .a, .a, .m (some 35) ⟨[(34, a'2), (30, (vB true))], [], (vI ((c.People.length : Nat) : Int)), [], []⟩, .a, .a, .a] ⟨StepOK.p rfl rfl rfl (OpOK.lenP (e := 75) rfl rfl (by kernel_rfl) rfl (by rw [List.length_map])),
      StepOK.p rfl rfl rfl (OpOK.geq rfl rfl rfl (decide_eq_false hs4)),
      StepOK.g rfl rfl rfl rfl rfl (by simp) (OpOK.eqlI rfl rfl rfl (decide_eq_true hs5)),
      StepOK.g rfl rfl rfl rfl rfl (by simp) (OpOK.lenP (e := 75) rfl rfl (by kernel_rfl) rfl (by rw [List.length_map])), trivial⟩ [(2, (.ref 1002 0)), (3, (.ref 1003 0)), (38, (vB (decide (((c.People.length : Nat) : Int) ≤ a.Arg))))] [(1002, a'7), (1003, a'8)] (by kernel_rfl) (by kernel_rfl) ?_
     refine AWp.cond (decide (((c.People.length : Nat) : Int) ≤ a.Arg)) rfl (fun hc6 => ?_) (fun hc6 => ?_)
     ·skip
      replace hc6 := of_decide_eq_true hc6
      refine AWp.s_reg hGn hGk (aa 2) (Man.aa _ _) [(4, (vS (ByteArray.mk #[]))), (5, (vI 3))] [] (by kernel_rfl) (by kernel_rfl) ?_
      refine AWp.ret ?_
      refine nextQ_ret ?_
      refine fin_of (.inr rfl) (v := (.tup [(vS (ByteArray.mk #[])), (vI 3)])) (Res.many (by kernel_rfl) (Res1s.cons (Res1.tmp rfl) (Res1s.cons (Res1.tmp rfl) Res1s.nil))) (h' := []) rfl rfl ?_
      exact ⟨by rw [fmtA_3 (by rintro (hh | hh) <;> first | omega | simp_all) (by first | (left; omega) | (right; constructor <;> omega))], rfl⟩
     ·skip
      replace hc6 := of_decide_eq_false hc6
      refine AWp.skip ?_
      refine nextQ_normal ?_
      have hf7 := ansCode_le a.Page a.Person
      refine AWp.s_dreg hGn hGk (by kernel_rfl) [.a, .a, .m (some 41) ⟨[(40, (vI a.Kind))], [], (vS (verbV a.Kind)), [], []⟩, .m (some 42) ⟨[(41, (vS (verbV a.Kind)))], [], (vS ((verbV a.Kind) ++ (ByteArray.mk #[32]))), [], []⟩, .a, .a, .m (some 45) ⟨[(44, (vI a.Page))], [], (vS (itoaB a.Page)), [], []⟩, .m (some 46) ⟨[(42, (vS ((verbV a.Kind) ++ (ByteArray.mk #[32])))), (45, (vS (itoaB a.Page)))], [], (vS (((verbV a.Kind) ++ (ByteArray.mk #[32])) ++ (itoaB a.Page))), [], []⟩, .m (some 47) ⟨[(46, (vS (((verbV a.Kind) ++ (ByteArray.mk #[32])) ++ (itoaB a.Page))))], [], (vS ((((verbV a.Kind) ++ (ByteArray.mk #[32])) ++ (itoaB a.Page)) ++ (ByteArray.mk #[32]))), [], []⟩, .a, .a, .a, .a, .m (some 52) ⟨[(49, (vI a.Page)), (51, (vI a.Person))], [], (vS (digB (ansCode a.Page a.Person))), [], []⟩, .m (some 53) ⟨[(47, (vS ((((verbV a.Kind) ++ (ByteArray.mk #[32])) ++ (itoaB a.Page)) ++ (ByteArray.mk #[32])))), (52, (vS (digB (ansCode a.Page a.Person))))], [], (vS (fmtHead a)), [], []⟩, .a] ⟨StepOK.p rfl rfl rfl (OpOK.call rfl (by kernel_rfl) rfl (r28_verb a.Kind (by omega) (by omega)) (by kernel_rfl)),
       StepOK.p rfl rfl rfl (OpOK.addS rfl rfl rfl (sz_le (m := 7) (n := 1) (verbV_size a.Kind) (show ByteArray.size (ByteArray.mk #[32]) ≤ 1 from Nat.le_refl _) rfl) rfl),
       StepOK.p rfl rfl rfl (OpOK.call rfl (by kernel_rfl) rfl (ref_Decimal a.Page (by omega) (by omega)) (by kernel_rfl)),
       StepOK.p rfl rfl rfl (OpOK.addS rfl rfl rfl (sz_le (m := 8) (n := 21) (sz_app (verbV_size a.Kind) (show ByteArray.size (ByteArray.mk #[32]) ≤ 1 from Nat.le_refl _)) (itoaB_size a.Page (by omega) (by omega)) rfl) rfl),
       StepOK.p rfl rfl rfl (OpOK.addS rfl rfl rfl (sz_le (m := 29) (n := 1) (sz_app (sz_app (verbV_size a.Kind) (show ByteArray.size (ByteArray.mk #[32]) ≤ 1 from Nat.le_refl _)) (itoaB_size a.Page (by omega) (by omega))) (show ByteArray.size (ByteArray.mk #[32]) ≤ 1 from Nat.le_refl _) rfl) rfl),
       StepOK.p rfl rfl rfl (OpOK.call rfl (by kernel_rfl) rfl (r28_code a.Page a.Person (inB_true (by omega)) (inB_true (by omega))) (by kernel_rfl)),
       StepOK.p rfl rfl rfl (OpOK.addS rfl rfl rfl (sz_le (m := 30) (n := 21) (sz_app (sz_app (sz_app (verbV_size a.Kind) (show ByteArray.size (ByteArray.mk #[32]) ≤ 1 from Nat.le_refl _)) (itoaB_size a.Page (by omega) (by omega))) (show ByteArray.size (ByteArray.mk #[32]) ≤ 1 from Nat.le_refl _)) (digB_size (ansCode a.Page a.Person) (by omega) (by omega)) rfl) rfl), trivial⟩ [(2, (.ref 1002 0)), (3, (.ref 1003 0)), (6, (vS (fmtHead a)))] [(1002, a'7), (1003, a'8)] (by kernel_rfl) (by kernel_rfl) (by kernel_rfl) ?_
      refine AWp.seq ?_
      refine AWp.s_reg hGn hGk (aa 2) (Man.aa _ _) [(2, (.ref 1002 0)), (3, (.ref 1003 0)), (6, (vS (fmtHead a))), (55, (vI a.Kind))] [(1002, a'7), (1003, a'8)] (by kernel_rfl) (by kernel_rfl) ?_
      refine AWp.block ?_
      refine AWp.s_reg hGn hGk (aa 2) (Man.aa _ _) [(2, (.ref 1002 0)), (3, (.ref 1003 0)), (6, (vS (fmtHead a))), (55, (vI a.Kind)), (56, (vB (decide (a.Kind = (3 : Int)))))] [(1002, a'7), (1003, a'8)] (by kernel_rfl) (by kernel_rfl) ?_
      refine AWp.cond (decide (a.Kind = (3 : Int))) rfl (fun hc8 => ?_) (fun hc8 => ?_)
      ·skip
       replace hc8 := of_decide_eq_true hc8
       refine AWp.reg' hGn hGk [.a, .a, .a, .m (some 61) ⟨[(60, (vI a.Arg))], [], (vS (itoaB a.Arg)), [], []⟩, .m (some 62) ⟨[(61, (vS (itoaB a.Arg)))], [], (vS ((ByteArray.mk #[32]) ++ (itoaB a.Arg))), [], []⟩, .m (some 63) ⟨[(58, (vS (fmtHead a))), (62, (vS ((ByteArray.mk #[32]) ++ (itoaB a.Arg))))], [], (vS ((fmtHead a) ++ ((ByteArray.mk #[32]) ++ (itoaB a.Arg)))), [], []⟩, .a] ⟨StepOK.p rfl rfl rfl (OpOK.call rfl (by kernel_rfl) rfl (ref_Decimal a.Arg (by omega) (by omega)) (by kernel_rfl)),
        StepOK.p rfl rfl rfl (OpOK.addS rfl rfl rfl (sz_le (m := 1) (n := 21) (show ByteArray.size (ByteArray.mk #[32]) ≤ 1 from Nat.le_refl _) (itoaB_size a.Arg (by omega) (by omega)) rfl) rfl),
        StepOK.p rfl rfl rfl (OpOK.addS rfl rfl rfl (sz_le (m := 60) (n := 22) (fmtHead_size (by omega)) (sz_app (show ByteArray.size (ByteArray.mk #[32]) ≤ 1 from Nat.le_refl _) (itoaB_size a.Arg (by omega) (by omega))) rfl) rfl), trivial⟩ [(6, (vS ((fmtHead a) ++ ((ByteArray.mk #[32]) ++ (itoaB a.Arg)))))] [] (by kernel_rfl) (by kernel_rfl) ?_
       refine blockQ_normal ?_
       refine nextQ_normal ?_
       refine AWp.s_reg hGn hGk (aa 3) (Man.aa _ _) [(4, (vS ((fmtHead a) ++ ((ByteArray.mk #[32]) ++ (itoaB a.Arg))))), (5, (vI 0))] [] (by kernel_rfl) (by kernel_rfl) ?_
       refine AWp.ret ?_
       refine fin_of (.inr rfl) (v := (.tup [(vS ((fmtHead a) ++ ((ByteArray.mk #[32]) ++ (itoaB a.Arg)))), (vI 0)])) (Res.many (by kernel_rfl) (Res1s.cons (Res1.tmp rfl) (Res1s.cons (Res1.tmp rfl) Res1s.nil))) (h' := []) rfl rfl ?_
       exact ⟨by rw [fmtA_0 (by rintro (hh | hh) <;> first | omega | simp_all) (by rintro (hh | hh) <;> omega) (by first | rw [if_pos (by assumption)] | rw [if_neg (by assumption), if_pos (by assumption)] | rw [if_neg (by assumption), if_neg (by assumption)])] <;> rfl, rfl⟩
      ·skip
       replace hc8 := of_decide_eq_false hc8
       refine AWp.s_reg hGn hGk [.m (some 65) ⟨[(55, (vI a.Kind))], [], (vB true), [], []⟩, .a] ⟨StepOK.p rfl rfl rfl (OpOK.eqlI rfl rfl rfl (decide_eq_true hs5)), trivial⟩ [(2, (.ref 1002 0)), (3, (.ref 1003 0)), (6, (vS (fmtHead a))), (64, (vB true))] [(1002, a'7), (1003, a'8)] (by kernel_rfl) (by kernel_rfl) ?_
       refine AWp.cond_true rfl ?_
       refine AWp.reg' hGn hGk [.a, .a, .a, .a, .a, .m (some 71) ⟨[(68, a'2), (70, (vI a.Arg))], [], (.eptr [(pS ((nth c.People ((a.Arg).toNat)).Name)), (pI ((nth c.People ((a.Arg).toNat)).Zone)), (.sl false 2 (((nth c.People ((a.Arg).toNat)).Quiet).map D.Window.cells)), (pI ((nth c.People ((a.Arg).toNat)).MaxWeek)), (pI ((nth c.People ((a.Arg).toNat)).MinRest)), (pB ((nth c.People ((a.Arg).toNat)).Consent))]), [], []⟩, .a, .a, .m (some 74) ⟨[(73, (vS ((nth c.People ((a.Arg).toNat)).Name)))], [], (vS ((ByteArray.mk #[32]) ++ ((nth c.People ((a.Arg).toNat)).Name))), [], []⟩, .m (some 75) ⟨[(66, (vS (fmtHead a))), (74, (vS ((ByteArray.mk #[32]) ++ ((nth c.People ((a.Arg).toNat)).Name))))], [], (vS ((fmtHead a) ++ ((ByteArray.mk #[32]) ++ ((nth c.People ((a.Arg).toNat)).Name)))), [], []⟩, .a] ⟨StepOK.p rfl rfl rfl (OpOK.indexP (e := 75) rfl (by kernel_rfl) (by kernel_rfl) rfl rfl (by omega) (map_nth (by omega))),
        StepOK.p rfl rfl rfl (OpOK.addS rfl rfl rfl (sz_le (m := 1) (n := 24) (show ByteArray.size (ByteArray.mk #[32]) ≤ 1 from Nat.le_refl _) (h.nmsize (by omega)) rfl) rfl),
        StepOK.p rfl rfl rfl (OpOK.addS rfl rfl rfl (sz_le (m := 60) (n := 25) (fmtHead_size (by omega)) (sz_app (show ByteArray.size (ByteArray.mk #[32]) ≤ 1 from Nat.le_refl _) (h.nmsize (by omega))) rfl) rfl), trivial⟩ [(6, (vS ((fmtHead a) ++ ((ByteArray.mk #[32]) ++ ((nth c.People ((a.Arg).toNat)).Name)))))] [] (by kernel_rfl) (by kernel_rfl) ?_
       refine blockQ_normal ?_
       refine nextQ_normal ?_
       refine AWp.s_reg hGn hGk (aa 3) (Man.aa _ _) [(4, (vS ((fmtHead a) ++ ((ByteArray.mk #[32]) ++ ((nth c.People ((a.Arg).toNat)).Name))))), (5, (vI 0))] [] (by kernel_rfl) (by kernel_rfl) ?_
       refine AWp.ret ?_
       refine fin_of (.inr rfl) (v := (.tup [(vS ((fmtHead a) ++ ((ByteArray.mk #[32]) ++ ((nth c.People ((a.Arg).toNat)).Name)))), (vI 0)])) (Res.many (by kernel_rfl) (Res1s.cons (Res1.tmp rfl) (Res1s.cons (Res1.tmp rfl) Res1s.nil))) (h' := []) rfl rfl ?_
       exact ⟨by rw [fmtA_0 (by rintro (hh | hh) <;> first | omega | simp_all) (by rintro (hh | hh) <;> omega) (by first | rw [if_pos (by assumption)] | rw [if_neg (by assumption), if_pos (by assumption)] | rw [if_neg (by assumption), if_neg (by assumption)])] <;> rfl, rfl⟩
    ·skip
     refine AWp.s_reg hGn hGk [.a, .a, .a, .a, .m (some 24) ⟨[(23, a'2)], [], (vI ((c.People.length : Nat) : Int)), [], []⟩, .m (some 25) ⟨[(21, (vI a.Person)), (24, (vI ((c.People.length : Nat) : Int)))], [], (vB false), [], []⟩, .a, .a, .a, .m (some 29) ⟨[(28, (vI a.Kind)), (26, (vB false))], [], (vB false), [], []⟩, .a, .a, .a, .a, .a, .a, .a, .a, .a] ⟨StepOK.p rfl rfl rfl (OpOK.lenP (e := 75) rfl rfl (by kernel_rfl) rfl (by rw [List.length_map])),
      StepOK.p rfl rfl rfl (OpOK.geq rfl rfl rfl (decide_eq_false hs4)),
      StepOK.g rfl rfl rfl rfl rfl (by simp) (OpOK.eqlI rfl rfl rfl (decide_eq_false hs5)), trivial⟩ [(2, (.ref 1002 0)), (3, (.ref 1003 0)), (38, (vB false))] [(1002, a'7), (1003, a'8)] (by kernel_rfl) (by kernel_rfl) ?_
     refine AWp.cond_false rfl ?_
     refine AWp.skip ?_
     refine nextQ_normal ?_
     have hf9 := ansCode_le a.Page a.Person
     refine AWp.s_dreg hGn hGk (by kernel_rfl) [.a, .a, .m (some 41) ⟨[(40, (vI a.Kind))], [], (vS (verbV a.Kind)), [], []⟩, .m (some 42) ⟨[(41, (vS (verbV a.Kind)))], [], (vS ((verbV a.Kind) ++ (ByteArray.mk #[32]))), [], []⟩, .a, .a, .m (some 45) ⟨[(44, (vI a.Page))], [], (vS (itoaB a.Page)), [], []⟩, .m (some 46) ⟨[(42, (vS ((verbV a.Kind) ++ (ByteArray.mk #[32])))), (45, (vS (itoaB a.Page)))], [], (vS (((verbV a.Kind) ++ (ByteArray.mk #[32])) ++ (itoaB a.Page))), [], []⟩, .m (some 47) ⟨[(46, (vS (((verbV a.Kind) ++ (ByteArray.mk #[32])) ++ (itoaB a.Page))))], [], (vS ((((verbV a.Kind) ++ (ByteArray.mk #[32])) ++ (itoaB a.Page)) ++ (ByteArray.mk #[32]))), [], []⟩, .a, .a, .a, .a, .m (some 52) ⟨[(49, (vI a.Page)), (51, (vI a.Person))], [], (vS (digB (ansCode a.Page a.Person))), [], []⟩, .m (some 53) ⟨[(47, (vS ((((verbV a.Kind) ++ (ByteArray.mk #[32])) ++ (itoaB a.Page)) ++ (ByteArray.mk #[32])))), (52, (vS (digB (ansCode a.Page a.Person))))], [], (vS (fmtHead a)), [], []⟩, .a] ⟨StepOK.p rfl rfl rfl (OpOK.call rfl (by kernel_rfl) rfl (r28_verb a.Kind (by omega) (by omega)) (by kernel_rfl)),
      StepOK.p rfl rfl rfl (OpOK.addS rfl rfl rfl (sz_le (m := 7) (n := 1) (verbV_size a.Kind) (show ByteArray.size (ByteArray.mk #[32]) ≤ 1 from Nat.le_refl _) rfl) rfl),
      StepOK.p rfl rfl rfl (OpOK.call rfl (by kernel_rfl) rfl (ref_Decimal a.Page (by omega) (by omega)) (by kernel_rfl)),
      StepOK.p rfl rfl rfl (OpOK.addS rfl rfl rfl (sz_le (m := 8) (n := 21) (sz_app (verbV_size a.Kind) (show ByteArray.size (ByteArray.mk #[32]) ≤ 1 from Nat.le_refl _)) (itoaB_size a.Page (by omega) (by omega)) rfl) rfl),
      StepOK.p rfl rfl rfl (OpOK.addS rfl rfl rfl (sz_le (m := 29) (n := 1) (sz_app (sz_app (verbV_size a.Kind) (show ByteArray.size (ByteArray.mk #[32]) ≤ 1 from Nat.le_refl _)) (itoaB_size a.Page (by omega) (by omega))) (show ByteArray.size (ByteArray.mk #[32]) ≤ 1 from Nat.le_refl _) rfl) rfl),
      StepOK.p rfl rfl rfl (OpOK.call rfl (by kernel_rfl) rfl (r28_code a.Page a.Person (inB_true (by omega)) (inB_true (by omega))) (by kernel_rfl)),
      StepOK.p rfl rfl rfl (OpOK.addS rfl rfl rfl (sz_le (m := 30) (n := 21) (sz_app (sz_app (sz_app (verbV_size a.Kind) (show ByteArray.size (ByteArray.mk #[32]) ≤ 1 from Nat.le_refl _)) (itoaB_size a.Page (by omega) (by omega))) (show ByteArray.size (ByteArray.mk #[32]) ≤ 1 from Nat.le_refl _)) (digB_size (ansCode a.Page a.Person) (by omega) (by omega)) rfl) rfl), trivial⟩ [(2, (.ref 1002 0)), (3, (.ref 1003 0)), (6, (vS (fmtHead a)))] [(1002, a'7), (1003, a'8)] (by kernel_rfl) (by kernel_rfl) (by kernel_rfl) ?_
     refine AWp.seq ?_
     refine AWp.s_reg hGn hGk (aa 2) (Man.aa _ _) [(2, (.ref 1002 0)), (3, (.ref 1003 0)), (6, (vS (fmtHead a))), (55, (vI a.Kind))] [(1002, a'7), (1003, a'8)] (by kernel_rfl) (by kernel_rfl) ?_
     refine AWp.block ?_
     refine AWp.s_reg hGn hGk (aa 2) (Man.aa _ _) [(2, (.ref 1002 0)), (3, (.ref 1003 0)), (6, (vS (fmtHead a))), (55, (vI a.Kind)), (56, (vB (decide (a.Kind = (3 : Int)))))] [(1002, a'7), (1003, a'8)] (by kernel_rfl) (by kernel_rfl) ?_
     refine AWp.cond (decide (a.Kind = (3 : Int))) rfl (fun hc10 => ?_) (fun hc10 => ?_)
     ·skip
      replace hc10 := of_decide_eq_true hc10
      refine AWp.reg' hGn hGk [.a, .a, .a, .m (some 61) ⟨[(60, (vI a.Arg))], [], (vS (itoaB a.Arg)), [], []⟩, .m (some 62) ⟨[(61, (vS (itoaB a.Arg)))], [], (vS ((ByteArray.mk #[32]) ++ (itoaB a.Arg))), [], []⟩, .m (some 63) ⟨[(58, (vS (fmtHead a))), (62, (vS ((ByteArray.mk #[32]) ++ (itoaB a.Arg))))], [], (vS ((fmtHead a) ++ ((ByteArray.mk #[32]) ++ (itoaB a.Arg)))), [], []⟩, .a] ⟨StepOK.p rfl rfl rfl (OpOK.call rfl (by kernel_rfl) rfl (ref_Decimal a.Arg (by omega) (by omega)) (by kernel_rfl)),
       StepOK.p rfl rfl rfl (OpOK.addS rfl rfl rfl (sz_le (m := 1) (n := 21) (show ByteArray.size (ByteArray.mk #[32]) ≤ 1 from Nat.le_refl _) (itoaB_size a.Arg (by omega) (by omega)) rfl) rfl),
       StepOK.p rfl rfl rfl (OpOK.addS rfl rfl rfl (sz_le (m := 60) (n := 22) (fmtHead_size (by omega)) (sz_app (show ByteArray.size (ByteArray.mk #[32]) ≤ 1 from Nat.le_refl _) (itoaB_size a.Arg (by omega) (by omega))) rfl) rfl), trivial⟩ [(6, (vS ((fmtHead a) ++ ((ByteArray.mk #[32]) ++ (itoaB a.Arg)))))] [] (by kernel_rfl) (by kernel_rfl) ?_
      refine blockQ_normal ?_
      refine nextQ_normal ?_
      refine AWp.s_reg hGn hGk (aa 3) (Man.aa _ _) [(4, (vS ((fmtHead a) ++ ((ByteArray.mk #[32]) ++ (itoaB a.Arg))))), (5, (vI 0))] [] (by kernel_rfl) (by kernel_rfl) ?_
      refine AWp.ret ?_
      refine fin_of (.inr rfl) (v := (.tup [(vS ((fmtHead a) ++ ((ByteArray.mk #[32]) ++ (itoaB a.Arg)))), (vI 0)])) (Res.many (by kernel_rfl) (Res1s.cons (Res1.tmp rfl) (Res1s.cons (Res1.tmp rfl) Res1s.nil))) (h' := []) rfl rfl ?_
      exact ⟨by rw [fmtA_0 (by rintro (hh | hh) <;> first | omega | simp_all) (by rintro (hh | hh) <;> omega) (by first | rw [if_pos (by assumption)] | rw [if_neg (by assumption), if_pos (by assumption)] | rw [if_neg (by assumption), if_neg (by assumption)])] <;> rfl, rfl⟩
     ·skip
      replace hc10 := of_decide_eq_false hc10
      refine AWp.s_reg hGn hGk [.m (some 65) ⟨[(55, (vI a.Kind))], [], (vB false), [], []⟩, .a] ⟨StepOK.p rfl rfl rfl (OpOK.eqlI rfl rfl rfl (decide_eq_false hs5)), trivial⟩ [(2, (.ref 1002 0)), (3, (.ref 1003 0)), (6, (vS (fmtHead a))), (64, (vB false))] [(1002, a'7), (1003, a'8)] (by kernel_rfl) (by kernel_rfl) ?_
      refine AWp.cond_false rfl ?_
      refine AWp.skip ?_
      refine blockQ_normal ?_
      refine nextQ_normal ?_
      refine AWp.s_reg hGn hGk (aa 3) (Man.aa _ _) [(4, (vS (fmtHead a))), (5, (vI 0))] [] (by kernel_rfl) (by kernel_rfl) ?_
      refine AWp.ret ?_
      refine fin_of (.inr rfl) (v := (.tup [(vS (fmtHead a)), (vI 0)])) (Res.many (by kernel_rfl) (Res1s.cons (Res1.tmp rfl) (Res1s.cons (Res1.tmp rfl) Res1s.nil))) (h' := []) rfl rfl ?_
      exact ⟨by rw [fmtA_0 (by rintro (hh | hh) <;> first | omega | simp_all) (by rintro (hh | hh) <;> omega) (by first | rw [if_pos (by assumption)] | rw [if_neg (by assumption), if_pos (by assumption)] | rw [if_neg (by assumption), if_neg (by assumption)])] <;> rfl, rfl⟩
set_option maxHeartbeats 2000000 in
theorem r28_Parse (c : D.Config) (p : Int) (t : ByteArray) (h : CfgOK c) (ht : t.size ≤ 1000000) :
    SpecIs Tryz.prog 24 [(.agg [(.p (.sl false 3 (c.Zones.map D.Zone.cells))), (.p (.sl false 6 (c.People.map D.Person.cells))), (.p (.sl false 3 (c.Calendars.map D.Calendar.cells))), (.p (.sl false 3 (c.Schedules.map D.Schedule.cells)))]), (vI p), (vS t)] [] (.tup [(.agg [(vI (((parseA c p t).1).ID)), (vI (((parseA c p t).1).Page)), (vI (((parseA c p t).1).Person)), (vI (((parseA c p t).1).Kind)), (vI (((parseA c p t).1).Arg)), (vI (((parseA c p t).1).At))]), (vI ((parseA c p t).2))]) [] := by
 refine Spec.intro Tryz.func24 rfl (by kernel_rfl) ?_
 intro Γ hGn hGk
 replace hGn : Γ.n = 165 := hGn
 replace hGk : Γ.names = [] := hGk
 have hpl := h.plen
 have hsl := splitS_len t
 have hz0 := splitS_size t 0
 have hz1 := splitS_size t 1
 have hz2 := splitS_size t 2
 have hz3 := splitS_size t 3
 have hkv := kindV_le (nth (splitS t) 0)
 let a'1 : AV := (.p (.sl false 3 (c.Zones.map D.Zone.cells)))
 let a'2 : AV := (.p (.sl false 6 (c.People.map D.Person.cells)))
 let a'3 : AV := (.p (.sl false 3 (c.Calendars.map D.Calendar.cells)))
 let a'4 : AV := (.p (.sl false 3 (c.Schedules.map D.Schedule.cells)))
 refine AWp.weaken (mk [(0, (.agg [a'1, a'2, a'3, a'4])), (1, (vI p)), (2, (vS t))] []) (Weak.sub' hGk (by kernel_rfl)) ?_
 let a'5 : AO := (.box [a'1, a'2, a'3, a'4])
 let a'6 : AO := (.box [(vI 0), (vI 0), (vI 0), (vI 0), (vI 0), (vI 0)])
 refine AWp.s_reg hGn hGk (aa 3) (Man.aa _ _) [(1, (vI p)), (2, (vS t)), (3, (.ref 1003 0)), (6, (.ref 1006 0))] [(1003, a'5), (1006, a'6)] (by kernel_rfl) (by kernel_rfl) ?_
 refine AWp.seq ?_
 refine AWp.s_reg hGn hGk [.a, .m (some 20) ⟨[(19, (.agg [a'1, a'2, a'3, a'4]))], [], (vI 0), [], []⟩, .a] ⟨StepOK.p rfl rfl rfl (OpOK.call rfl (by kernel_rfl) rfl (r08_Check c h) (by kernel_rfl)), trivial⟩ [(1, (vI p)), (2, (vS t)), (3, (.ref 1003 0)), (6, (.ref 1006 0)), (21, (vB false))] [(1003, a'5), (1006, a'6)] (by kernel_rfl) (by kernel_rfl) ?_
 refine AWp.cond_false rfl ?_
 refine AWp.skip ?_
 refine nextQ_normal ?_
 refine AWp.seq ?_
 refine AWp.s_reg hGn hGk [.a, .a, .a, .m (some 26) ⟨[(25, a'2)], [], (vI ((c.People.length : Nat) : Int)), [], []⟩, .m (some 27) ⟨[(26, (vI ((c.People.length : Nat) : Int)))], [], (vI (((c.People.length : Nat) : Int) - 1)), [], []⟩, .m (some 28) ⟨[(23, (vI p)), (27, (vI (((c.People.length : Nat) : Int) - 1)))], [], (vB (inB p (0 : Int) (((c.People.length : Nat) : Int) - 1))), [], []⟩, .a] ⟨StepOK.p rfl rfl rfl (OpOK.lenP (e := 75) rfl rfl (by kernel_rfl) rfl (by rw [List.length_map])),
  StepOK.p rfl rfl rfl (OpOK.sub rfl rfl rfl (IntWalk.i64_in _ ⟨by omega, by omega⟩)),
  StepOK.p rfl rfl rfl (OpOK.call rfl (by kernel_rfl) rfl (ref_In p (0 : Int) (((c.People.length : Nat) : Int) - 1)) (by kernel_rfl)), trivial⟩ [(1, (vI p)), (2, (vS t)), (3, (.ref 1003 0)), (6, (.ref 1006 0)), (29, (vB (!(inB p (0 : Int) (((c.People.length : Nat) : Int) - 1)))))] [(1003, a'5), (1006, a'6)] (by kernel_rfl) (by kernel_rfl) ?_
 refine AWp.cond (!(inB p (0 : Int) (((c.People.length : Nat) : Int) - 1))) rfl (fun hc1 => ?_) (fun hc1 => ?_)
 ·skip
  replace hc1 : inB p (0 : Int) (((c.People.length : Nat) : Int) - 1) = false := by simpa using hc1
  have ha2 := inB_false hc1
  refine AWp.s_reg hGn hGk (aa 3) (Man.aa _ _) [(6, (.ref 1006 0)), (7, (vI 3))] [(1006, a'6)] (by kernel_rfl) (by kernel_rfl) ?_
  refine AWp.ret ?_
  refine nextQ_ret ?_
  refine fin_of (.inr rfl) (v := (.tup [(.agg [(vI 0), (vI 0), (vI 0), (vI 0), (vI 0), (vI 0)]), (vI 3)])) (Res.many (by kernel_rfl) (Res1s.cons (Res1.agg rfl rfl (by kernel_rfl) (by kernel_rfl)) (Res1s.cons (Res1.tmp rfl) Res1s.nil))) (h' := []) rfl rfl ?_
  exact ⟨by rw [parseA_out (by assumption)] <;> rfl, rfl⟩
 ·skip
  replace hc1 : inB p (0 : Int) (((c.People.length : Nat) : Int) - 1) = true := by simpa using hc1
  have ha3 := inB_spec hc1
  refine AWp.skip ?_
  refine nextQ_normal ?_
  let a'7 : AV := (.p (.sl false 1 ((splitS t).map D.cStr)))
  refine AWp.s_reg hGn hGk [.a, .m (some 32) ⟨[(31, (vS t))], [], a'7, [], []⟩, .a] ⟨StepOK.p rfl rfl rfl (OpOK.call rfl (by kernel_rfl) rfl (ref_SplitS t (by omega)) (by kernel_rfl)), trivial⟩ [(1, (vI p)), (3, (.ref 1003 0)), (6, (.ref 1006 0)), (8, a'7)] [(1003, a'5), (1006, a'6)] (by kernel_rfl) (by kernel_rfl) ?_
  refine AWp.s_reg hGn hGk (aa 1) (Man.aa _ _) [(1, (vI p)), (3, (.ref 1003 0)), (6, (.ref 1006 0)), (8, a'7), (9, (vI 0))] [(1003, a'5), (1006, a'6)] (by kernel_rfl) (by kernel_rfl) ?_
  refine AWp.seq ?_
  refine AWp.s_reg hGn hGk (aa 1) (Man.aa _ _) [(1, (vI p)), (3, (.ref 1003 0)), (6, (.ref 1006 0)), (8, a'7), (9, (vI 0)), (10, (vI 1))] [(1003, a'5), (1006, a'6)] (by kernel_rfl) (by kernel_rfl) ?_
  refine AWp.block ?_
  refine AWp.loop (fun m s => ∃ k, s = (mk [(1, (vI p)), (3, (.ref 1003 0)), (6, (.ref 1006 0)), (8, (.p (.sl false 1 ((splitS t).map D.cStr)))), (9, (vI (kindU (nth (splitS t) 0) k))), (10, (vI ((k : Nat) : Int)))] [(1003, (.box [(.p (.sl false 3 (c.Zones.map D.Zone.cells))), (.p (.sl false 6 (c.People.map D.Person.cells))), (.p (.sl false 3 (c.Calendars.map D.Calendar.cells))), (.p (.sl false 3 (c.Schedules.map D.Schedule.cells)))])), (1006, (.box [(vI 0), (vI 0), (vI 0), (vI 0), (vI 0), (vI 0)]))]) ∧ (1 ≤ k ∧ k ≤ 6) ∧ m = (6 - k))
   ⟨_, 1, (by rw [kindU_start] <;> rfl), (by omega), rfl⟩ ?_
  rintro mm4 s ⟨k, rfl, hk, hmm4⟩
  refine AWp.seq ?_
  refine AWp.s_reg hGn hGk (aa 2) (Man.aa _ _) [(1, (vI p)), (3, (.ref 1003 0)), (6, (.ref 1006 0)), (8, a'7), (9, (vI (kindU (nth (splitS t) 0) k))), (10, (vI ((k : Nat) : Int))), (34, (vB (decide (((k : Nat) : Int) ≤ (5 : Int)))))] [(1003, a'5), (1006, a'6)] (by kernel_rfl) (by kernel_rfl) ?_
  refine AWp.cond (decide (((k : Nat) : Int) ≤ (5 : Int))) rfl (fun hc5 => ?_) (fun hc5 => ?_)
  ·skip
   replace hc5 := of_decide_eq_true hc5
   refine AWp.skip ?_
   refine nextQ_normal ?_
   refine AWp.seq ?_
   refine AWp.block ?_
   refine AWp.s_dreg hGn hGk (by kernel_rfl) [.a, .m (some 38) ⟨[(37, a'7)], [], (.eptr [(pS (nth (splitS t) 0))]), [], []⟩, .a, .a, .m (some 41) ⟨[(40, (vI ((k : Nat) : Int)))], [], (vS (verbV ((k : Nat) : Int))), [], []⟩, .a] ⟨StepOK.p rfl rfl rfl (OpOK.indexP (e := 9) rfl (by kernel_rfl) (by kernel_rfl) rfl rfl rfl (map_nth (show 0 < List.length (splitS t) by omega))),
    StepOK.p rfl rfl rfl (OpOK.call rfl (by kernel_rfl) rfl (r28_verb ((k : Nat) : Int) (by omega) (by omega)) (by kernel_rfl)), trivial⟩ [(1, (vI p)), (3, (.ref 1003 0)), (6, (.ref 1006 0)), (8, a'7), (9, (vI (kindU (nth (splitS t) 0) k))), (10, (vI ((k : Nat) : Int))), (42, (vB (decide ((nth (splitS t) 0) = (verbV ((k : Nat) : Int))))))] [(1003, a'5), (1006, a'6)] (by kernel_rfl) (by kernel_rfl) (by kernel_rfl) ?_
   refine AWp.cond (decide ((nth (splitS t) 0) = (verbV ((k : Nat) : Int)))) rfl (fun hc6 => ?_) (fun hc6 => ?_)
   ·skip
    replace hc6 := of_decide_eq_true hc6
    refine AWp.reg' hGn hGk (aa 2) (Man.aa _ _) [(1, (vI p)), (3, (.ref 1003 0)), (6, (.ref 1006 0)), (8, a'7), (9, (vI ((k : Nat) : Int))), (10, (vI ((k : Nat) : Int)))] [(1003, a'5), (1006, a'6)] (by kernel_rfl) (by kernel_rfl) ?_
    refine blockQ_normal ?_
    refine nextQ_normal ?_
    refine AWp.reg' hGn hGk [.a, .m (some 36) ⟨[(35, (vI ((k : Nat) : Int)))], [], (vI ((k + 1 : Nat) : Int)), [], []⟩, .a] ⟨StepOK.p rfl rfl rfl (OpOK.add rfl rfl rfl (by rw [IntWalk.i64_in _ ⟨by omega, by omega⟩]; omega)), trivial⟩ [(1, (vI p)), (3, (.ref 1003 0)), (6, (.ref 1006 0)), (8, a'7), (9, (vI ((k : Nat) : Int))), (10, (vI ((k + 1 : Nat) : Int)))] [(1003, a'5), (1006, a'6)] (by kernel_rfl) (by kernel_rfl) ?_
    refine nextQ_normal ⟨_, ?_, (k + 1), (by rw [kindU_hit (by omega) (by omega) (by assumption)] <;> rfl), (by omega), rfl⟩
    · omega
   ·skip
    replace hc6 := of_decide_eq_false hc6
    refine AWp.skip ?_
    refine blockQ_normal ?_
    refine nextQ_normal ?_
    refine AWp.reg' hGn hGk [.a, .m (some 36) ⟨[(35, (vI ((k : Nat) : Int)))], [], (vI ((k + 1 : Nat) : Int)), [], []⟩, .a] ⟨StepOK.p rfl rfl rfl (OpOK.add rfl rfl rfl (by rw [IntWalk.i64_in _ ⟨by omega, by omega⟩]; omega)), trivial⟩ [(1, (vI p)), (3, (.ref 1003 0)), (6, (.ref 1006 0)), (8, a'7), (9, (vI (kindU (nth (splitS t) 0) k))), (10, (vI ((k + 1 : Nat) : Int)))] [(1003, a'5), (1006, a'6)] (by kernel_rfl) (by kernel_rfl) ?_
    refine nextQ_normal ⟨_, ?_, (k + 1), (by rw [kindU_miss (by omega) (by omega) (by assumption)] <;> rfl), (by omega), rfl⟩
    · omega
  ·skip
   replace hc5 := of_decide_eq_false hc5
   refine AWp.weaken (mk [(1, (vI p)), (3, (.ref 1003 0)), (6, (.ref 1006 0)), (8, a'7), (9, (vI (kindU (nth (splitS t) 0) k)))] [(1003, a'5), (1006, a'6)]) (Weak.sub' hGk (by kernel_rfl)) ?_
   refine AWp.exit ?_
   refine nextQ_exit ?_
   refine nextQ_exit ?_
   refine blockQ_exit ?_
   refine nextQ_normal ?_
   refine AWp.cast (show (mk [(1, (vI p)), (3, (.ref 1003 0)), (6, (.ref 1006 0)), (8, (.p (.sl false 1 ((splitS t).map D.cStr)))), (9, (vI (kindU (nth (splitS t) 0) k)))] [(1003, (.box [(.p (.sl false 3 (c.Zones.map D.Zone.cells))), (.p (.sl false 6 (c.People.map D.Person.cells))), (.p (.sl false 3 (c.Calendars.map D.Calendar.cells))), (.p (.sl false 3 (c.Schedules.map D.Schedule.cells)))])), (1006, (.box [(vI 0), (vI 0), (vI 0), (vI 0), (vI 0), (vI 0)]))]) = (mk [(1, (vI p)), (3, (.ref 1003 0)), (6, (.ref 1006 0)), (8, (.p (.sl false 1 ((splitS t).map D.cStr)))), (9, (vI (kindV (nth (splitS t) 0))))] [(1003, (.box [(.p (.sl false 3 (c.Zones.map D.Zone.cells))), (.p (.sl false 6 (c.People.map D.Person.cells))), (.p (.sl false 3 (c.Calendars.map D.Calendar.cells))), (.p (.sl false 3 (c.Schedules.map D.Schedule.cells)))])), (1006, (.box [(vI 0), (vI 0), (vI 0), (vI 0), (vI 0), (vI 0)]))]) from (by rw [kindU_end _ (by omega)])) ?_
   refine AWp.s_reg hGn hGk (aa 1) (Man.aa _ _) [(1, (vI p)), (3, (.ref 1003 0)), (6, (.ref 1006 0)), (8, a'7), (9, (vI (kindV (nth (splitS t) 0)))), (11, (vI 3))] [(1003, a'5), (1006, a'6)] (by kernel_rfl) (by kernel_rfl) ?_
   refine AWp.seq ?_
   by_cases hs7 : (kindV (nth (splitS t) 0)) = (3 : Int)
   ·skip
    refine AWp.s_reg hGn hGk [.a, .m (some 45) ⟨[(44, (vI (kindV (nth (splitS t) 0))))], [], (vB true), [], []⟩, .a, .a, .a, .a] ⟨StepOK.p rfl rfl rfl (OpOK.eqlI rfl rfl rfl (decide_eq_true hs7)), trivial⟩ [(1, (vI p)), (3, (.ref 1003 0)), (6, (.ref 1006 0)), (8, a'7), (9, (vI (kindV (nth (splitS t) 0)))), (11, (vI 3)), (49, (vB true))] [(1003, a'5), (1006, a'6)] (by kernel_rfl) (by kernel_rfl) ?_
    refine AWp.cond_true rfl ?_
    refine AWp.reg' hGn hGk (aa 1) (Man.aa _ _) [(1, (vI p)), (3, (.ref 1003 0)), (6, (.ref 1006 0)), (8, a'7), (9, (vI (kindV (nth (splitS t) 0)))), (11, (vI 4))] [(1003, a'5), (1006, a'6)] (by kernel_rfl) (by kernel_rfl) ?_
    refine nextQ_normal ?_
    refine AWp.seq ?_
    by_cases hs8 : (kindV (nth (splitS t) 0)) = (0 : Int)
    ·skip
     refine AWp.s_reg hGn hGk [.a, .m (some 51) ⟨[(50, (vI (kindV (nth (splitS t) 0))))], [], (vB true), [], []⟩, .a, .a, .a, .a, .a, .a, .a, .a, .a, .a, .a, .a, .a, .a, .a, .a, .a, .a, .a, .a, .a] ⟨StepOK.p rfl rfl rfl (OpOK.eqlI rfl rfl rfl (decide_eq_true hs8)), trivial⟩ [(1, (vI p)), (3, (.ref 1003 0)), (6, (.ref 1006 0)), (8, a'7), (9, (vI (kindV (nth (splitS t) 0)))), (72, (vB true))] [(1003, a'5), (1006, a'6)] (by kernel_rfl) (by kernel_rfl) ?_
     refine AWp.cond_true rfl ?_
     refine AWp.s_reg hGn hGk (aa 3) (Man.aa _ _) [(6, (.ref 1006 0)), (7, (vI 2))] [(1006, a'6)] (by kernel_rfl) (by kernel_rfl) ?_
     refine AWp.ret ?_
     refine nextQ_ret ?_
     refine fin_of (.inr rfl) (v := (.tup [(.agg [(vI 0), (vI 0), (vI 0), (vI 0), (vI 0), (vI 0)]), (vI 2)])) (Res.many (by kernel_rfl) (Res1s.cons (Res1.agg rfl rfl (by kernel_rfl) (by kernel_rfl)) (Res1s.cons (Res1.tmp rfl) Res1s.nil))) (h' := []) rfl rfl ?_
     exact ⟨by rw [parseA_in (by assumption), parseW_bad (badR_true (by first | (exfalso; omega) | (left; omega) | (right; left; first | (rw [nWords_4 (by omega)]; first | assumption | omega) | (rw [nWords_3 (by omega)]; first | assumption | omega)) | (right; right; left; first | (rw [nWords_4 (by omega)]; first | assumption | omega) | (rw [nWords_3 (by omega)]; first | assumption | omega)) | (right; right; right; left; omega) | (right; right; right; right; left; exact ⟨i, by omega, by omega⟩) | (right; right; right; right; right; left; assumption) | (right; right; right; right; right; right; left; omega) | (right; right; right; right; right; right; right; exact ⟨by omega, .inl (by assumption)⟩) | (right; right; right; right; right; right; right; exact ⟨by omega, .inr (by assumption)⟩)))] <;> rfl, rfl⟩
    ·skip
     by_cases hs9 : (((splitS t).length : Nat) : Int) ≠ (4 : Int)
     ·skip
      refine AWp.s_reg hGn hGk [.a, .m (some 51) ⟨[(50, (vI (kindV (nth (splitS t) 0))))], [], (vB false), [], []⟩, .a, .a, .m (some 54) ⟨[(53, a'7), (52, (vB false))], [], (vI (((splitS t).length : Nat) : Int)), [], []⟩, .a, .m (some 56) ⟨[(54, (vI (((splitS t).length : Nat) : Int))), (55, (vI 4)), (52, (vB false))], [], (vB true), [], []⟩, .a, .a, .a, .a, .a, .a, .a, .a, .a, .a, .a, .a, .a, .a, .a, .a] ⟨StepOK.p rfl rfl rfl (OpOK.eqlI rfl rfl rfl (decide_eq_false hs8)),
       StepOK.g rfl rfl rfl rfl rfl (by simp) (OpOK.lenP (e := 9) rfl rfl (by kernel_rfl) rfl (by rw [List.length_map])),
       StepOK.g rfl rfl rfl rfl rfl (by simp) (OpOK.neqI rfl rfl rfl (decide_eq_true hs9)), trivial⟩ [(1, (vI p)), (3, (.ref 1003 0)), (6, (.ref 1006 0)), (8, a'7), (9, (vI (kindV (nth (splitS t) 0)))), (72, (vB true))] [(1003, a'5), (1006, a'6)] (by kernel_rfl) (by kernel_rfl) ?_
      refine AWp.cond_true rfl ?_
      refine AWp.s_reg hGn hGk (aa 3) (Man.aa _ _) [(6, (.ref 1006 0)), (7, (vI 2))] [(1006, a'6)] (by kernel_rfl) (by kernel_rfl) ?_
      refine AWp.ret ?_
      refine nextQ_ret ?_
      refine fin_of (.inr rfl) (v := (.tup [(.agg [(vI 0), (vI 0), (vI 0), (vI 0), (vI 0), (vI 0)]), (vI 2)])) (Res.many (by kernel_rfl) (Res1s.cons (Res1.agg rfl rfl (by kernel_rfl) (by kernel_rfl)) (Res1s.cons (Res1.tmp rfl) Res1s.nil))) (h' := []) rfl rfl ?_
      exact ⟨by rw [parseA_in (by assumption), parseW_bad (badR_true (by first | (exfalso; omega) | (left; omega) | (right; left; first | (rw [nWords_4 (by omega)]; first | assumption | omega) | (rw [nWords_3 (by omega)]; first | assumption | omega)) | (right; right; left; first | (rw [nWords_4 (by omega)]; first | assumption | omega) | (rw [nWords_3 (by omega)]; first | assumption | omega)) | (right; right; right; left; omega) | (right; right; right; right; left; exact ⟨i, by omega, by omega⟩) | (right; right; right; right; right; left; assumption) | (right; right; right; right; right; right; left; omega) | (right; right; right; right; right; right; right; exact ⟨by omega, .inl (by assumption)⟩) | (right; right; right; right; right; right; right; exact ⟨by omega, .inr (by assumption)⟩)))] <;> rfl, rfl⟩
     ·skip
      by_cases hs10 : (((nth (splitS t) 2).size : Nat) : Int) ≠ (4 : Int)
      ·skip
       refine AWp.s_reg hGn hGk [.a, .m (some 51) ⟨[(50, (vI (kindV (nth (splitS t) 0))))], [], (vB false), [], []⟩, .a, .a, .m (some 54) ⟨[(53, a'7), (52, (vB false))], [], (vI (((splitS t).length : Nat) : Int)), [], []⟩, .a, .m (some 56) ⟨[(54, (vI (((splitS t).length : Nat) : Int))), (55, (vI 4)), (52, (vB false))], [], (vB false), [], []⟩, .a, .a, .a, .m (some 60) ⟨[(59, a'7), (58, (vB false))], [], (.eptr [(pS (nth (splitS t) 2))]), [], []⟩, .a, .m (some 62) ⟨[(61, (vS (nth (splitS t) 2))), (58, (vB false))], [], (vI (((nth (splitS t) 2).size : Nat) : Int)), [], []⟩, .m (some 63) ⟨[(62, (vI (((nth (splitS t) 2).size : Nat) : Int))), (58, (vB false))], [], (vB true), [], []⟩, .a, .a, .a, .a, .a, .a, .a, .a, .a] ⟨StepOK.p rfl rfl rfl (OpOK.eqlI rfl rfl rfl (decide_eq_false hs8)),
        StepOK.g rfl rfl rfl rfl rfl (by simp) (OpOK.lenP (e := 9) rfl rfl (by kernel_rfl) rfl (by rw [List.length_map])),
        StepOK.g rfl rfl rfl rfl rfl (by simp) (OpOK.neqI rfl rfl rfl (decide_eq_false hs9)),
        StepOK.g rfl rfl rfl rfl rfl (by simp) (OpOK.indexP (e := 9) rfl (by kernel_rfl) (by kernel_rfl) rfl rfl rfl (map_nth (show 2 < List.length (splitS t) by omega))),
        StepOK.g rfl rfl rfl rfl rfl (by simp) (OpOK.lenS rfl rfl (by kernel_rfl) rfl),
        StepOK.g rfl rfl rfl rfl rfl (by simp) (OpOK.neqI rfl rfl rfl (decide_eq_true hs10)), trivial⟩ [(1, (vI p)), (3, (.ref 1003 0)), (6, (.ref 1006 0)), (8, a'7), (9, (vI (kindV (nth (splitS t) 0)))), (72, (vB true))] [(1003, a'5), (1006, a'6)] (by kernel_rfl) (by kernel_rfl) ?_
       refine AWp.cond_true rfl ?_
       refine AWp.s_reg hGn hGk (aa 3) (Man.aa _ _) [(6, (.ref 1006 0)), (7, (vI 2))] [(1006, a'6)] (by kernel_rfl) (by kernel_rfl) ?_
       refine AWp.ret ?_
       refine nextQ_ret ?_
       refine fin_of (.inr rfl) (v := (.tup [(.agg [(vI 0), (vI 0), (vI 0), (vI 0), (vI 0), (vI 0)]), (vI 2)])) (Res.many (by kernel_rfl) (Res1s.cons (Res1.agg rfl rfl (by kernel_rfl) (by kernel_rfl)) (Res1s.cons (Res1.tmp rfl) Res1s.nil))) (h' := []) rfl rfl ?_
       exact ⟨by rw [parseA_in (by assumption), parseW_bad (badR_true (by first | (exfalso; omega) | (left; omega) | (right; left; first | (rw [nWords_4 (by omega)]; first | assumption | omega) | (rw [nWords_3 (by omega)]; first | assumption | omega)) | (right; right; left; first | (rw [nWords_4 (by omega)]; first | assumption | omega) | (rw [nWords_3 (by omega)]; first | assumption | omega)) | (right; right; right; left; omega) | (right; right; right; right; left; exact ⟨i, by omega, by omega⟩) | (right; right; right; right; right; left; assumption) | (right; right; right; right; right; right; left; omega) | (right; right; right; right; right; right; right; exact ⟨by omega, .inl (by assumption)⟩) | (right; right; right; right; right; right; right; exact ⟨by omega, .inr (by assumption)⟩)))] <;> rfl, rfl⟩
      ·skip
       refine AWp.s_reg hGn hGk [.a, .m (some 51) ⟨[(50, (vI (kindV (nth (splitS t) 0))))], [], (vB false), [], []⟩, .a, .a, .m (some 54) ⟨[(53, a'7), (52, (vB false))], [], (vI (((splitS t).length : Nat) : Int)), [], []⟩, .a, .m (some 56) ⟨[(54, (vI (((splitS t).length : Nat) : Int))), (55, (vI 4)), (52, (vB false))], [], (vB false), [], []⟩, .a, .a, .a, .m (some 60) ⟨[(59, a'7), (58, (vB false))], [], (.eptr [(pS (nth (splitS t) 2))]), [], []⟩, .a, .m (some 62) ⟨[(61, (vS (nth (splitS t) 2))), (58, (vB false))], [], (vI (((nth (splitS t) 2).size : Nat) : Int)), [], []⟩, .m (some 63) ⟨[(62, (vI (((nth (splitS t) 2).size : Nat) : Int))), (58, (vB false))], [], (vB false), [], []⟩, .a, .a, .a, .a, .m (some 68) ⟨[(67, (vI 4)), (65, (vB false))], [], (vI 3), [], []⟩, .m (some 69) ⟨[(66, a'7), (68, (vI 3)), (65, (vB false))], [], (.eptr [(pS (nth (splitS t) 3))]), [], []⟩, .a, .a, .a] ⟨StepOK.p rfl rfl rfl (OpOK.eqlI rfl rfl rfl (decide_eq_false hs8)),
        StepOK.g rfl rfl rfl rfl rfl (by simp) (OpOK.lenP (e := 9) rfl rfl (by kernel_rfl) rfl (by rw [List.length_map])),
        StepOK.g rfl rfl rfl rfl rfl (by simp) (OpOK.neqI rfl rfl rfl (decide_eq_false hs9)),
        StepOK.g rfl rfl rfl rfl rfl (by simp) (OpOK.indexP (e := 9) rfl (by kernel_rfl) (by kernel_rfl) rfl rfl rfl (map_nth (show 2 < List.length (splitS t) by omega))),
        StepOK.g rfl rfl rfl rfl rfl (by simp) (OpOK.lenS rfl rfl (by kernel_rfl) rfl),
        StepOK.g rfl rfl rfl rfl rfl (by simp) (OpOK.neqI rfl rfl rfl (decide_eq_false hs10)),
        StepOK.g rfl rfl rfl rfl rfl (by simp) (OpOK.sub rfl rfl rfl (by decide)),
        StepOK.g rfl rfl rfl rfl rfl (by simp) (OpOK.indexP (e := 9) rfl (by kernel_rfl) (by kernel_rfl) rfl rfl rfl (map_nth (show 3 < List.length (splitS t) by omega))), trivial⟩ [(1, (vI p)), (3, (.ref 1003 0)), (6, (.ref 1006 0)), (8, a'7), (9, (vI (kindV (nth (splitS t) 0)))), (72, (vB (decide ((nth (splitS t) 3) = (ByteArray.mk #[])))))] [(1003, a'5), (1006, a'6)] (by kernel_rfl) (by kernel_rfl) ?_
       refine AWp.cond (decide ((nth (splitS t) 3) = (ByteArray.mk #[]))) rfl (fun hc11 => ?_) (fun hc11 => ?_)
       ·skip
        replace hc11 := of_decide_eq_true hc11
        refine AWp.s_reg hGn hGk (aa 3) (Man.aa _ _) [(6, (.ref 1006 0)), (7, (vI 2))] [(1006, a'6)] (by kernel_rfl) (by kernel_rfl) ?_
        refine AWp.ret ?_
        refine nextQ_ret ?_
        refine fin_of (.inr rfl) (v := (.tup [(.agg [(vI 0), (vI 0), (vI 0), (vI 0), (vI 0), (vI 0)]), (vI 2)])) (Res.many (by kernel_rfl) (Res1s.cons (Res1.agg rfl rfl (by kernel_rfl) (by kernel_rfl)) (Res1s.cons (Res1.tmp rfl) Res1s.nil))) (h' := []) rfl rfl ?_
        exact ⟨by rw [parseA_in (by assumption), parseW_bad (badR_true (by first | (exfalso; omega) | (left; omega) | (right; left; first | (rw [nWords_4 (by omega)]; first | assumption | omega) | (rw [nWords_3 (by omega)]; first | assumption | omega)) | (right; right; left; first | (rw [nWords_4 (by omega)]; first | assumption | omega) | (rw [nWords_3 (by omega)]; first | assumption | omega)) | (right; right; right; left; omega) | (right; right; right; right; left; exact ⟨i, by omega, by omega⟩) | (right; right; right; right; right; left; assumption) | (right; right; right; right; right; right; left; omega) | (right; right; right; right; right; right; right; exact ⟨by omega, .inl (by assumption)⟩) | (right; right; right; right; right; right; right; exact ⟨by omega, .inr (by assumption)⟩)))] <;> rfl, rfl⟩
       ·skip
        replace hc11 := of_decide_eq_false hc11
        refine AWp.skip ?_
        refine nextQ_normal ?_
        let a'8 : AV := (.tup [(vI ((numR (nth (splitS t) 1) (6 : Int)).1)), (vB ((numR (nth (splitS t) 1) (6 : Int)).2))])
        refine AWp.s_reg hGn hGk [.a, .m (some 76) ⟨[(75, a'7)], [], (.eptr [(pS (nth (splitS t) 1))]), [], []⟩, .a, .m (some 78) ⟨[(77, (vS (nth (splitS t) 1)))], [], a'8, [], []⟩, .a, .a, .a, .a, .a] ⟨StepOK.p rfl rfl rfl (OpOK.indexP (e := 9) rfl (by kernel_rfl) (by kernel_rfl) rfl rfl rfl (map_nth (show 1 < List.length (splitS t) by omega))),
         StepOK.p rfl rfl rfl (OpOK.call rfl (by kernel_rfl) rfl (ref_Number (nth (splitS t) 1) (6 : Int) (by omega) (by omega)) (by kernel_rfl)), trivial⟩ [(1, (vI p)), (3, (.ref 1003 0)), (6, (.ref 1006 0)), (8, a'7), (9, (vI (kindV (nth (splitS t) 0)))), (12, (vI ((numR (nth (splitS t) 1) (6 : Int)).1))), (13, (vB ((numR (nth (splitS t) 1) (6 : Int)).2)))] [(1003, a'5), (1006, a'6)] (by kernel_rfl) (by kernel_rfl) ?_
        refine AWp.seq ?_
        cases hs12 : (numR (nth (splitS t) 1) (6 : Int)).2
        ·skip
         first | refine AWp.cast (show (mk [(1, (vI p)), (3, (.ref 1003 0)), (6, (.ref 1006 0)), (8, (.p (.sl false 1 ((splitS t).map D.cStr)))), (9, (vI (kindV (nth (splitS t) 0)))), (12, (vI ((numR (nth (splitS t) 1) (6 : Int)).1))), (13, (vB ((numR (nth (splitS t) 1) (6 : Int)).2)))] [(1003, (.box [(.p (.sl false 3 (c.Zones.map D.Zone.cells))), (.p (.sl false 6 (c.People.map D.Person.cells))), (.p (.sl false 3 (c.Calendars.map D.Calendar.cells))), (.p (.sl false 3 (c.Schedules.map D.Schedule.cells)))])), (1006, (.box [(vI 0), (vI 0), (vI 0), (vI 0), (vI 0), (vI 0)]))]) = (mk [(1, (vI p)), (3, (.ref 1003 0)), (6, (.ref 1006 0)), (8, (.p (.sl false 1 ((splitS t).map D.cStr)))), (9, (vI (kindV (nth (splitS t) 0)))), (12, (vI ((numR (nth (splitS t) 1) (6 : Int)).1))), (13, (vB false))] [(1003, (.box [(.p (.sl false 3 (c.Zones.map D.Zone.cells))), (.p (.sl false 6 (c.People.map D.Person.cells))), (.p (.sl false 3 (c.Calendars.map D.Calendar.cells))), (.p (.sl false 3 (c.Schedules.map D.Schedule.cells)))])), (1006, (.box [(vI 0), (vI 0), (vI 0), (vI 0), (vI 0), (vI 0)]))]) from by rw [hs12]) ?_ | skip
         refine AWp.s_reg hGn hGk (aa 6) (Man.aa _ _) [(1, (vI p)), (3, (.ref 1003 0)), (6, (.ref 1006 0)), (8, a'7), (9, (vI (kindV (nth (splitS t) 0)))), (12, (vI ((numR (nth (splitS t) 1) (6 : Int)).1))), (86, (vB true))] [(1003, a'5), (1006, a'6)] (by kernel_rfl) (by kernel_rfl) ?_
         refine AWp.cond_true rfl ?_
         refine AWp.s_reg hGn hGk (aa 3) (Man.aa _ _) [(6, (.ref 1006 0)), (7, (vI 2))] [(1006, a'6)] (by kernel_rfl) (by kernel_rfl) ?_
         refine AWp.ret ?_
         refine nextQ_ret ?_
         refine fin_of (.inr rfl) (v := (.tup [(.agg [(vI 0), (vI 0), (vI 0), (vI 0), (vI 0), (vI 0)]), (vI 2)])) (Res.many (by kernel_rfl) (Res1s.cons (Res1.agg rfl rfl (by kernel_rfl) (by kernel_rfl)) (Res1s.cons (Res1.tmp rfl) Res1s.nil))) (h' := []) rfl rfl ?_
         exact ⟨by rw [parseA_in (by assumption), parseW_bad (badR_true (by first | (exfalso; omega) | (left; omega) | (right; left; first | (rw [nWords_4 (by omega)]; first | assumption | omega) | (rw [nWords_3 (by omega)]; first | assumption | omega)) | (right; right; left; first | (rw [nWords_4 (by omega)]; first | assumption | omega) | (rw [nWords_3 (by omega)]; first | assumption | omega)) | (right; right; right; left; omega) | (right; right; right; right; left; exact ⟨i, by omega, by omega⟩) | (right; right; right; right; right; left; assumption) | (right; right; right; right; right; right; left; omega) | (right; right; right; right; right; right; right; exact ⟨by omega, .inl (by assumption)⟩) | (right; right; right; right; right; right; right; exact ⟨by omega, .inr (by assumption)⟩)))] <;> rfl, rfl⟩
        ·skip
         first | refine AWp.cast (show (mk [(1, (vI p)), (3, (.ref 1003 0)), (6, (.ref 1006 0)), (8, (.p (.sl false 1 ((splitS t).map D.cStr)))), (9, (vI (kindV (nth (splitS t) 0)))), (12, (vI ((numR (nth (splitS t) 1) (6 : Int)).1))), (13, (vB ((numR (nth (splitS t) 1) (6 : Int)).2)))] [(1003, (.box [(.p (.sl false 3 (c.Zones.map D.Zone.cells))), (.p (.sl false 6 (c.People.map D.Person.cells))), (.p (.sl false 3 (c.Calendars.map D.Calendar.cells))), (.p (.sl false 3 (c.Schedules.map D.Schedule.cells)))])), (1006, (.box [(vI 0), (vI 0), (vI 0), (vI 0), (vI 0), (vI 0)]))]) = (mk [(1, (vI p)), (3, (.ref 1003 0)), (6, (.ref 1006 0)), (8, (.p (.sl false 1 ((splitS t).map D.cStr)))), (9, (vI (kindV (nth (splitS t) 0)))), (12, (vI ((numR (nth (splitS t) 1) (6 : Int)).1))), (13, (vB true))] [(1003, (.box [(.p (.sl false 3 (c.Zones.map D.Zone.cells))), (.p (.sl false 6 (c.People.map D.Person.cells))), (.p (.sl false 3 (c.Calendars.map D.Calendar.cells))), (.p (.sl false 3 (c.Schedules.map D.Schedule.cells)))])), (1006, (.box [(vI 0), (vI 0), (vI 0), (vI 0), (vI 0), (vI 0)]))]) from by rw [hs12]) ?_ | skip
         refine AWp.s_reg hGn hGk (aa 6) (Man.aa _ _) [(1, (vI p)), (3, (.ref 1003 0)), (6, (.ref 1006 0)), (8, a'7), (9, (vI (kindV (nth (splitS t) 0)))), (12, (vI ((numR (nth (splitS t) 1) (6 : Int)).1))), (86, (vB (decide (((numR (nth (splitS t) 1) (6 : Int)).1) < (1 : Int)))))] [(1003, a'5), (1006, a'6)] (by kernel_rfl) (by kernel_rfl) ?_
         refine AWp.cond (decide (((numR (nth (splitS t) 1) (6 : Int)).1) < (1 : Int))) rfl (fun hc13 => ?_) (fun hc13 => ?_)
         ·skip
          replace hc13 := of_decide_eq_true hc13
          refine AWp.s_reg hGn hGk (aa 3) (Man.aa _ _) [(6, (.ref 1006 0)), (7, (vI 2))] [(1006, a'6)] (by kernel_rfl) (by kernel_rfl) ?_
          refine AWp.ret ?_
          refine nextQ_ret ?_
          refine fin_of (.inr rfl) (v := (.tup [(.agg [(vI 0), (vI 0), (vI 0), (vI 0), (vI 0), (vI 0)]), (vI 2)])) (Res.many (by kernel_rfl) (Res1s.cons (Res1.agg rfl rfl (by kernel_rfl) (by kernel_rfl)) (Res1s.cons (Res1.tmp rfl) Res1s.nil))) (h' := []) rfl rfl ?_
          exact ⟨by rw [parseA_in (by assumption), parseW_bad (badR_true (by first | (exfalso; omega) | (left; omega) | (right; left; first | (rw [nWords_4 (by omega)]; first | assumption | omega) | (rw [nWords_3 (by omega)]; first | assumption | omega)) | (right; right; left; first | (rw [nWords_4 (by omega)]; first | assumption | omega) | (rw [nWords_3 (by omega)]; first | assumption | omega)) | (right; right; right; left; omega) | (right; right; right; right; left; exact ⟨i, by omega, by omega⟩) | (right; right; right; right; right; left; assumption) | (right; right; right; right; right; right; left; omega) | (right; right; right; right; right; right; right; exact ⟨by omega, .inl (by assumption)⟩) | (right; right; right; right; right; right; right; exact ⟨by omega, .inr (by assumption)⟩)))] <;> rfl, rfl⟩
         ·skip
          replace hc13 := of_decide_eq_false hc13
          refine AWp.skip ?_
          refine nextQ_normal ?_
          refine AWp.seq ?_
          refine AWp.s_reg hGn hGk (aa 1) (Man.aa _ _) [(1, (vI p)), (3, (.ref 1003 0)), (6, (.ref 1006 0)), (8, a'7), (9, (vI (kindV (nth (splitS t) 0)))), (12, (vI ((numR (nth (splitS t) 1) (6 : Int)).1))), (14, (vI 0))] [(1003, a'5), (1006, a'6)] (by kernel_rfl) (by kernel_rfl) ?_
          refine AWp.block ?_
          refine AWp.loop (fun m s => ∃ i, s = (mk [(1, (vI p)), (3, (.ref 1003 0)), (6, (.ref 1006 0)), (8, (.p (.sl false 1 ((splitS t).map D.cStr)))), (9, (vI (kindV (nth (splitS t) 0)))), (12, (vI ((numR (nth (splitS t) 1) (6 : Int)).1))), (14, (vI ((i : Nat) : Int)))] [(1003, (.box [(.p (.sl false 3 (c.Zones.map D.Zone.cells))), (.p (.sl false 6 (c.People.map D.Person.cells))), (.p (.sl false 3 (c.Calendars.map D.Calendar.cells))), (.p (.sl false 3 (c.Schedules.map D.Schedule.cells)))])), (1006, (.box [(vI 0), (vI 0), (vI 0), (vI 0), (vI 0), (vI 0)]))]) ∧ (i ≤ 4) ∧ (∀ j, j < i → 48 ≤ bAt (nth (splitS t) 2) j ∧ bAt (nth (splitS t) 2) j ≤ 57) ∧ m = (4 - i))
           ⟨_, 0, rfl, (by omega), (by intro j hj; omega), rfl⟩ ?_
          rintro mm14 s ⟨i, rfl, hi, hd, hmm14⟩
          refine AWp.seq ?_
          refine AWp.s_reg hGn hGk (aa 2) (Man.aa _ _) [(1, (vI p)), (3, (.ref 1003 0)), (6, (.ref 1006 0)), (8, a'7), (9, (vI (kindV (nth (splitS t) 0)))), (12, (vI ((numR (nth (splitS t) 1) (6 : Int)).1))), (14, (vI ((i : Nat) : Int))), (89, (vB (decide (((i : Nat) : Int) < (4 : Int)))))] [(1003, a'5), (1006, a'6)] (by kernel_rfl) (by kernel_rfl) ?_
          refine AWp.cond (decide (((i : Nat) : Int) < (4 : Int))) rfl (fun hc15 => ?_) (fun hc15 => ?_)
          ·skip
           replace hc15 := of_decide_eq_true hc15
           refine AWp.skip ?_
           refine nextQ_normal ?_
           refine AWp.seq ?_
           refine AWp.block ?_
           by_cases hs16 : ((bAt (nth (splitS t) 2) i : Nat) : Int) < (48 : Int)
           ·skip
            first | refine AWp.cast (show (mk [(1, (vI p)), (3, (.ref 1003 0)), (6, (.ref 1006 0)), (8, (.p (.sl false 1 ((splitS t).map D.cStr)))), (9, (vI (kindV (nth (splitS t) 0)))), (12, (vI ((numR (nth (splitS t) 1) (6 : Int)).1))), (14, (vI ((i : Nat) : Int))), (89, (vB (decide (((i : Nat) : Int) < (4 : Int)))))] [(1003, (.box [(.p (.sl false 3 (c.Zones.map D.Zone.cells))), (.p (.sl false 6 (c.People.map D.Person.cells))), (.p (.sl false 3 (c.Calendars.map D.Calendar.cells))), (.p (.sl false 3 (c.Schedules.map D.Schedule.cells)))])), (1006, (.box [(vI 0), (vI 0), (vI 0), (vI 0), (vI 0), (vI 0)]))]) = (mk [(1, (vI p)), (3, (.ref 1003 0)), (6, (.ref 1006 0)), (8, (.p (.sl false 1 ((splitS t).map D.cStr)))), (9, (vI (kindV (nth (splitS t) 0)))), (12, (vI ((numR (nth (splitS t) 1) (6 : Int)).1))), (14, (vI ((i : Nat) : Int))), (89, (vB true))] [(1003, (.box [(.p (.sl false 3 (c.Zones.map D.Zone.cells))), (.p (.sl false 6 (c.People.map D.Person.cells))), (.p (.sl false 3 (c.Calendars.map D.Calendar.cells))), (.p (.sl false 3 (c.Schedules.map D.Schedule.cells)))])), (1006, (.box [(vI 0), (vI 0), (vI 0), (vI 0), (vI 0), (vI 0)]))]) from by rw [(decide_eq_true hc15)]) ?_ | skip
            refine AWp.s_reg hGn hGk [.a, .m (some 93) ⟨[(92, a'7)], [], (.eptr [(pS (nth (splitS t) 2))]), [], []⟩, .a, .a, .m (some 96) ⟨[(94, (vS (nth (splitS t) 2))), (95, (vI ((i : Nat) : Int)))], [], (vK .u8 ((bAt (nth (splitS t) 2) i : Nat) : Int)), [], []⟩, .m (some 97) ⟨[(96, (vK .u8 ((bAt (nth (splitS t) 2) i : Nat) : Int)))], [], (vB true), [], []⟩, .a, .a, .a, .a, .a, .a, .a, .a] ⟨StepOK.p rfl rfl rfl (OpOK.indexP (e := 9) rfl (by kernel_rfl) (by kernel_rfl) rfl rfl rfl (map_nth (show 2 < List.length (splitS t) by omega))),
             StepOK.p rfl rfl rfl (OpOK.indexS rfl (by kernel_rfl) rfl rfl rfl (by omega)),
             StepOK.p rfl rfl rfl (OpOK.lss rfl rfl rfl (decide_eq_true hs16)), trivial⟩ [(1, (vI p)), (3, (.ref 1003 0)), (6, (.ref 1006 0)), (8, a'7), (9, (vI (kindV (nth (splitS t) 0)))), (12, (vI ((numR (nth (splitS t) 1) (6 : Int)).1))), (14, (vI ((i : Nat) : Int))), (105, (vB true))] [(1003, a'5), (1006, a'6)] (by kernel_rfl) (by kernel_rfl) ?_
            refine AWp.cond_true rfl ?_
            refine AWp.s_reg hGn hGk (aa 3) (Man.aa _ _) [(6, (.ref 1006 0)), (7, (vI 2))] [(1006, a'6)] (by kernel_rfl) (by kernel_rfl) ?_
            refine AWp.ret ?_
            refine blockQ_ret ?_
            refine nextQ_ret ?_
            refine nextQ_ret ?_
            refine blockQ_ret ?_
            refine nextQ_ret ?_
            refine fin_of (.inr rfl) (v := (.tup [(.agg [(vI 0), (vI 0), (vI 0), (vI 0), (vI 0), (vI 0)]), (vI 2)])) (Res.many (by kernel_rfl) (Res1s.cons (Res1.agg rfl rfl (by kernel_rfl) (by kernel_rfl)) (Res1s.cons (Res1.tmp rfl) Res1s.nil))) (h' := []) rfl rfl ?_
            exact ⟨by rw [parseA_in (by assumption), parseW_bad (badR_true (by first | (exfalso; omega) | (left; omega) | (right; left; first | (rw [nWords_4 (by omega)]; first | assumption | omega) | (rw [nWords_3 (by omega)]; first | assumption | omega)) | (right; right; left; first | (rw [nWords_4 (by omega)]; first | assumption | omega) | (rw [nWords_3 (by omega)]; first | assumption | omega)) | (right; right; right; left; omega) | (right; right; right; right; left; exact ⟨i, by omega, by omega⟩) | (right; right; right; right; right; left; assumption) | (right; right; right; right; right; right; left; omega) | (right; right; right; right; right; right; right; exact ⟨by omega, .inl (by assumption)⟩) | (right; right; right; right; right; right; right; exact ⟨by omega, .inr (by assumption)⟩)))] <;> rfl, rfl⟩
           ·skip
            first | refine AWp.cast (show (mk [(1, (vI p)), (3, (.ref 1003 0)), (6, (.ref 1006 0)), (8, (.p (.sl false 1 ((splitS t).map D.cStr)))), (9, (vI (kindV (nth (splitS t) 0)))), (12, (vI ((numR (nth (splitS t) 1) (6 : Int)).1))), (14, (vI ((i : Nat) : Int))), (89, (vB (decide (((i : Nat) : Int) < (4 : Int)))))] [(1003, (.box [(.p (.sl false 3 (c.Zones.map D.Zone.cells))), (.p (.sl false 6 (c.People.map D.Person.cells))), (.p (.sl false 3 (c.Calendars.map D.Calendar.cells))), (.p (.sl false 3 (c.Schedules.map D.Schedule.cells)))])), (1006, (.box [(vI 0), (vI 0), (vI 0), (vI 0), (vI 0), (vI 0)]))]) = (mk [(1, (vI p)), (3, (.ref 1003 0)), (6, (.ref 1006 0)), (8, (.p (.sl false 1 ((splitS t).map D.cStr)))), (9, (vI (kindV (nth (splitS t) 0)))), (12, (vI ((numR (nth (splitS t) 1) (6 : Int)).1))), (14, (vI ((i : Nat) : Int))), (89, (vB true))] [(1003, (.box [(.p (.sl false 3 (c.Zones.map D.Zone.cells))), (.p (.sl false 6 (c.People.map D.Person.cells))), (.p (.sl false 3 (c.Calendars.map D.Calendar.cells))), (.p (.sl false 3 (c.Schedules.map D.Schedule.cells)))])), (1006, (.box [(vI 0), (vI 0), (vI 0), (vI 0), (vI 0), (vI 0)]))]) from by rw [(decide_eq_true hc15)]) ?_ | skip
            refine AWp.s_reg hGn hGk [.a, .m (some 93) ⟨[(92, a'7)], [], (.eptr [(pS (nth (splitS t) 2))]), [], []⟩, .a, .a, .m (some 96) ⟨[(94, (vS (nth (splitS t) 2))), (95, (vI ((i : Nat) : Int)))], [], (vK .u8 ((bAt (nth (splitS t) 2) i : Nat) : Int)), [], []⟩, .m (some 97) ⟨[(96, (vK .u8 ((bAt (nth (splitS t) 2) i : Nat) : Int)))], [], (vB false), [], []⟩, .a, .a, .m (some 100) ⟨[(99, a'7), (98, (vB false))], [], (.eptr [(pS (nth (splitS t) 2))]), [], []⟩, .a, .a, .m (some 103) ⟨[(101, (vS (nth (splitS t) 2))), (102, (vI ((i : Nat) : Int))), (98, (vB false))], [], (vK .u8 ((bAt (nth (splitS t) 2) i : Nat) : Int)), [], []⟩, .a, .a] ⟨StepOK.p rfl rfl rfl (OpOK.indexP (e := 9) rfl (by kernel_rfl) (by kernel_rfl) rfl rfl rfl (map_nth (show 2 < List.length (splitS t) by omega))),
             StepOK.p rfl rfl rfl (OpOK.indexS rfl (by kernel_rfl) rfl rfl rfl (by omega)),
             StepOK.p rfl rfl rfl (OpOK.lss rfl rfl rfl (decide_eq_false hs16)),
             StepOK.g rfl rfl rfl rfl rfl (by simp) (OpOK.indexP (e := 9) rfl (by kernel_rfl) (by kernel_rfl) rfl rfl rfl (map_nth (show 2 < List.length (splitS t) by omega))),
             StepOK.g rfl rfl rfl rfl rfl (by simp) (OpOK.indexS rfl (by kernel_rfl) rfl rfl rfl (by omega)), trivial⟩ [(1, (vI p)), (3, (.ref 1003 0)), (6, (.ref 1006 0)), (8, a'7), (9, (vI (kindV (nth (splitS t) 0)))), (12, (vI ((numR (nth (splitS t) 1) (6 : Int)).1))), (14, (vI ((i : Nat) : Int))), (105, (vB (decide ((57 : Int) < ((bAt (nth (splitS t) 2) i : Nat) : Int)))))] [(1003, a'5), (1006, a'6)] (by kernel_rfl) (by kernel_rfl) ?_
            refine AWp.cond (decide ((57 : Int) < ((bAt (nth (splitS t) 2) i : Nat) : Int))) rfl (fun hc17 => ?_) (fun hc17 => ?_)
            ·skip
             replace hc17 := of_decide_eq_true hc17
             refine AWp.s_reg hGn hGk (aa 3) (Man.aa _ _) [(6, (.ref 1006 0)), (7, (vI 2))] [(1006, a'6)] (by kernel_rfl) (by kernel_rfl) ?_
             refine AWp.ret ?_
             refine blockQ_ret ?_
             refine nextQ_ret ?_
             refine nextQ_ret ?_
             refine blockQ_ret ?_
             refine nextQ_ret ?_
             refine fin_of (.inr rfl) (v := (.tup [(.agg [(vI 0), (vI 0), (vI 0), (vI 0), (vI 0), (vI 0)]), (vI 2)])) (Res.many (by kernel_rfl) (Res1s.cons (Res1.agg rfl rfl (by kernel_rfl) (by kernel_rfl)) (Res1s.cons (Res1.tmp rfl) Res1s.nil))) (h' := []) rfl rfl ?_
             exact ⟨by rw [parseA_in (by assumption), parseW_bad (badR_true (by first | (exfalso; omega) | (left; omega) | (right; left; first | (rw [nWords_4 (by omega)]; first | assumption | omega) | (rw [nWords_3 (by omega)]; first | assumption | omega)) | (right; right; left; first | (rw [nWords_4 (by omega)]; first | assumption | omega) | (rw [nWords_3 (by omega)]; first | assumption | omega)) | (right; right; right; left; omega) | (right; right; right; right; left; exact ⟨i, by omega, by omega⟩) | (right; right; right; right; right; left; assumption) | (right; right; right; right; right; right; left; omega) | (right; right; right; right; right; right; right; exact ⟨by omega, .inl (by assumption)⟩) | (right; right; right; right; right; right; right; exact ⟨by omega, .inr (by assumption)⟩)))] <;> rfl, rfl⟩
            ·skip
             replace hc17 := of_decide_eq_false hc17
             refine AWp.skip ?_
             refine blockQ_normal ?_
             refine nextQ_normal ?_
             refine AWp.reg' hGn hGk [.a, .m (some 91) ⟨[(90, (vI ((i : Nat) : Int)))], [], (vI ((i + 1 : Nat) : Int)), [], []⟩, .a] ⟨StepOK.p rfl rfl rfl (OpOK.add rfl rfl rfl (by rw [IntWalk.i64_in _ ⟨by omega, by omega⟩]; omega)), trivial⟩ [(1, (vI p)), (3, (.ref 1003 0)), (6, (.ref 1006 0)), (8, a'7), (9, (vI (kindV (nth (splitS t) 0)))), (12, (vI ((numR (nth (splitS t) 1) (6 : Int)).1))), (14, (vI ((i + 1 : Nat) : Int)))] [(1003, a'5), (1006, a'6)] (by kernel_rfl) (by kernel_rfl) ?_
             refine nextQ_normal ⟨_, ?_, (i + 1), rfl, (by omega), (fun j hj => by rcases Nat.lt_or_ge j i with h | h; exact hd j h; rw [show j = i from by omega]; omega), rfl⟩
             · omega
          ·skip
           replace hc15 := of_decide_eq_false hc15
           refine AWp.weaken (mk [(1, (vI p)), (3, (.ref 1003 0)), (6, (.ref 1006 0)), (8, a'7), (9, (vI (kindV (nth (splitS t) 0)))), (12, (vI ((numR (nth (splitS t) 1) (6 : Int)).1)))] [(1003, a'5), (1006, a'6)]) (Weak.sub' hGk (by kernel_rfl)) ?_
           refine AWp.exit ?_
           refine nextQ_exit ?_
           refine nextQ_exit ?_
           refine blockQ_exit ?_
           refine nextQ_normal ?_
           let a'9 : AO := (.box [(vI 0), (vI ((numR (nth (splitS t) 1) (6 : Int)).1)), (vI p), (vI (kindV (nth (splitS t) 0))), (vI 0), (vI 0)])
           refine AWp.s_reg hGn hGk (aa 6) (Man.aa _ _) [(1, (vI p)), (3, (.ref 1003 0)), (6, (.ref 1006 0)), (8, a'7), (9, (vI (kindV (nth (splitS t) 0)))), (12, (vI ((numR (nth (splitS t) 1) (6 : Int)).1))), (15, (.ref 1015 0))] [(1003, a'5), (1006, a'6), (1015, a'9)] (by kernel_rfl) (by kernel_rfl) ?_
           refine AWp.seq ?_
           refine AWp.s_reg hGn hGk [.a, .m (some 112) ⟨[(111, (vI (kindV (nth (splitS t) 0))))], [], (vB true), [], []⟩] ⟨StepOK.p rfl rfl rfl (OpOK.eqlI rfl rfl rfl (decide_eq_true hs7)), trivial⟩ [(1, (vI p)), (3, (.ref 1003 0)), (6, (.ref 1006 0)), (8, a'7), (9, (vI (kindV (nth (splitS t) 0)))), (12, (vI ((numR (nth (splitS t) 1) (6 : Int)).1))), (15, (.ref 1015 0)), (112, (vB true))] [(1003, a'5), (1006, a'6), (1015, a'9)] (by kernel_rfl) (by kernel_rfl) ?_
           refine AWp.cond_true rfl ?_
           refine AWp.s_reg hGn hGk [.a, .m (some 115) ⟨[(114, a'7)], [], (.eptr [(pS (nth (splitS t) 3))]), [], []⟩, .a, .m (some 117) ⟨[(116, (vS (nth (splitS t) 3)))], [], (.tup [(vI ((numR (nth (splitS t) 3) (9 : Int)).1)), (vB ((numR (nth (splitS t) 3) (9 : Int)).2))]), [], []⟩, .a, .a, .a, .a, .a] ⟨StepOK.p rfl rfl rfl (OpOK.indexP (e := 9) rfl (by kernel_rfl) (by kernel_rfl) rfl rfl rfl (map_nth (show 3 < List.length (splitS t) by omega))),
            StepOK.p rfl rfl rfl (OpOK.call rfl (by kernel_rfl) rfl (ref_Number (nth (splitS t) 3) (9 : Int) (by omega) (by omega)) (by kernel_rfl)), trivial⟩ [(1, (vI p)), (3, (.ref 1003 0)), (6, (.ref 1006 0)), (8, a'7), (9, (vI (kindV (nth (splitS t) 0)))), (12, (vI ((numR (nth (splitS t) 1) (6 : Int)).1))), (15, (.ref 1015 0)), (16, (vI ((numR (nth (splitS t) 3) (9 : Int)).1))), (17, (vB ((numR (nth (splitS t) 3) (9 : Int)).2)))] [(1003, a'5), (1006, a'6), (1015, a'9)] (by kernel_rfl) (by kernel_rfl) ?_
           refine AWp.seq ?_
           cases hs18 : (numR (nth (splitS t) 3) (9 : Int)).2
           ·skip
            first | refine AWp.cast (show (mk [(1, (vI p)), (3, (.ref 1003 0)), (6, (.ref 1006 0)), (8, (.p (.sl false 1 ((splitS t).map D.cStr)))), (9, (vI (kindV (nth (splitS t) 0)))), (12, (vI ((numR (nth (splitS t) 1) (6 : Int)).1))), (15, (.ref 1015 0)), (16, (vI ((numR (nth (splitS t) 3) (9 : Int)).1))), (17, (vB ((numR (nth (splitS t) 3) (9 : Int)).2)))] [(1003, (.box [(.p (.sl false 3 (c.Zones.map D.Zone.cells))), (.p (.sl false 6 (c.People.map D.Person.cells))), (.p (.sl false 3 (c.Calendars.map D.Calendar.cells))), (.p (.sl false 3 (c.Schedules.map D.Schedule.cells)))])), (1006, (.box [(vI 0), (vI 0), (vI 0), (vI 0), (vI 0), (vI 0)])), (1015, (.box [(vI 0), (vI ((numR (nth (splitS t) 1) (6 : Int)).1)), (vI p), (vI (kindV (nth (splitS t) 0))), (vI 0), (vI 0)]))]) = (mk [(1, (vI p)), (3, (.ref 1003 0)), (6, (.ref 1006 0)), (8, (.p (.sl false 1 ((splitS t).map D.cStr)))), (9, (vI (kindV (nth (splitS t) 0)))), (12, (vI ((numR (nth (splitS t) 1) (6 : Int)).1))), (15, (.ref 1015 0)), (16, (vI ((numR (nth (splitS t) 3) (9 : Int)).1))), (17, (vB false))] [(1003, (.box [(.p (.sl false 3 (c.Zones.map D.Zone.cells))), (.p (.sl false 6 (c.People.map D.Person.cells))), (.p (.sl false 3 (c.Calendars.map D.Calendar.cells))), (.p (.sl false 3 (c.Schedules.map D.Schedule.cells)))])), (1006, (.box [(vI 0), (vI 0), (vI 0), (vI 0), (vI 0), (vI 0)])), (1015, (.box [(vI 0), (vI ((numR (nth (splitS t) 1) (6 : Int)).1)), (vI p), (vI (kindV (nth (splitS t) 0))), (vI 0), (vI 0)]))]) from by rw [hs18]) ?_ | skip
            refine AWp.s_reg hGn hGk (aa 7) (Man.aa _ _) [(1, (vI p)), (3, (.ref 1003 0)), (6, (.ref 1006 0)), (8, a'7), (9, (vI (kindV (nth (splitS t) 0)))), (12, (vI ((numR (nth (splitS t) 1) (6 : Int)).1))), (15, (.ref 1015 0)), (16, (vI ((numR (nth (splitS t) 3) (9 : Int)).1))), (126, (vB true))] [(1003, a'5), (1006, a'6), (1015, a'9)] (by kernel_rfl) (by kernel_rfl) ?_
            refine AWp.cond_true rfl ?_
            refine AWp.s_reg hGn hGk (aa 3) (Man.aa _ _) [(6, (.ref 1006 0)), (7, (vI 2))] [(1006, a'6)] (by kernel_rfl) (by kernel_rfl) ?_
            refine AWp.ret ?_
            refine nextQ_ret ?_
            refine nextQ_ret ?_
            refine fin_of (.inr rfl) (v := (.tup [(.agg [(vI 0), (vI 0), (vI 0), (vI 0), (vI 0), (vI 0)]), (vI 2)])) (Res.many (by kernel_rfl) (Res1s.cons (Res1.agg rfl rfl (by kernel_rfl) (by kernel_rfl)) (Res1s.cons (Res1.tmp rfl) Res1s.nil))) (h' := []) rfl rfl ?_
            exact ⟨by rw [parseA_in (by assumption), parseW_bad (badR_true (by first | (exfalso; omega) | (left; omega) | (right; left; first | (rw [nWords_4 (by omega)]; first | assumption | omega) | (rw [nWords_3 (by omega)]; first | assumption | omega)) | (right; right; left; first | (rw [nWords_4 (by omega)]; first | assumption | omega) | (rw [nWords_3 (by omega)]; first | assumption | omega)) | (right; right; right; left; omega) | (right; right; right; right; left; exact ⟨i, by omega, by omega⟩) | (right; right; right; right; right; left; assumption) | (right; right; right; right; right; right; left; omega) | (right; right; right; right; right; right; right; exact ⟨by omega, .inl (by assumption)⟩) | (right; right; right; right; right; right; right; exact ⟨by omega, .inr (by assumption)⟩)))] <;> rfl, rfl⟩
           ·skip
            first | refine AWp.cast (show (mk [(1, (vI p)), (3, (.ref 1003 0)), (6, (.ref 1006 0)), (8, (.p (.sl false 1 ((splitS t).map D.cStr)))), (9, (vI (kindV (nth (splitS t) 0)))), (12, (vI ((numR (nth (splitS t) 1) (6 : Int)).1))), (15, (.ref 1015 0)), (16, (vI ((numR (nth (splitS t) 3) (9 : Int)).1))), (17, (vB ((numR (nth (splitS t) 3) (9 : Int)).2)))] [(1003, (.box [(.p (.sl false 3 (c.Zones.map D.Zone.cells))), (.p (.sl false 6 (c.People.map D.Person.cells))), (.p (.sl false 3 (c.Calendars.map D.Calendar.cells))), (.p (.sl false 3 (c.Schedules.map D.Schedule.cells)))])), (1006, (.box [(vI 0), (vI 0), (vI 0), (vI 0), (vI 0), (vI 0)])), (1015, (.box [(vI 0), (vI ((numR (nth (splitS t) 1) (6 : Int)).1)), (vI p), (vI (kindV (nth (splitS t) 0))), (vI 0), (vI 0)]))]) = (mk [(1, (vI p)), (3, (.ref 1003 0)), (6, (.ref 1006 0)), (8, (.p (.sl false 1 ((splitS t).map D.cStr)))), (9, (vI (kindV (nth (splitS t) 0)))), (12, (vI ((numR (nth (splitS t) 1) (6 : Int)).1))), (15, (.ref 1015 0)), (16, (vI ((numR (nth (splitS t) 3) (9 : Int)).1))), (17, (vB true))] [(1003, (.box [(.p (.sl false 3 (c.Zones.map D.Zone.cells))), (.p (.sl false 6 (c.People.map D.Person.cells))), (.p (.sl false 3 (c.Calendars.map D.Calendar.cells))), (.p (.sl false 3 (c.Schedules.map D.Schedule.cells)))])), (1006, (.box [(vI 0), (vI 0), (vI 0), (vI 0), (vI 0), (vI 0)])), (1015, (.box [(vI 0), (vI ((numR (nth (splitS t) 1) (6 : Int)).1)), (vI p), (vI (kindV (nth (splitS t) 0))), (vI 0), (vI 0)]))]) from by rw [hs18]) ?_ | skip
            refine AWp.s_reg hGn hGk [.a, .a, .a, .a, .m (some 124) ⟨[(123, (vI ((numR (nth (splitS t) 3) (9 : Int)).1))), (122, (vB false))], [], (vB (inB ((numR (nth (splitS t) 3) (9 : Int)).1) (1 : Int) (86400 : Int))), [], []⟩, .a, .a] ⟨StepOK.g rfl rfl rfl rfl rfl (by simp) (OpOK.call rfl (by kernel_rfl) rfl (ref_In ((numR (nth (splitS t) 3) (9 : Int)).1) (1 : Int) (86400 : Int)) (by kernel_rfl)), trivial⟩ [(1, (vI p)), (3, (.ref 1003 0)), (6, (.ref 1006 0)), (8, a'7), (9, (vI (kindV (nth (splitS t) 0)))), (12, (vI ((numR (nth (splitS t) 1) (6 : Int)).1))), (15, (.ref 1015 0)), (16, (vI ((numR (nth (splitS t) 3) (9 : Int)).1))), (126, (vB (!(inB ((numR (nth (splitS t) 3) (9 : Int)).1) (1 : Int) (86400 : Int)))))] [(1003, a'5), (1006, a'6), (1015, a'9)] (by kernel_rfl) (by kernel_rfl) ?_
            refine AWp.cond (!(inB ((numR (nth (splitS t) 3) (9 : Int)).1) (1 : Int) (86400 : Int))) rfl (fun hc19 => ?_) (fun hc19 => ?_)
            ·skip
             replace hc19 : inB ((numR (nth (splitS t) 3) (9 : Int)).1) (1 : Int) (86400 : Int) = false := by simpa using hc19
             have ha20 := inB_false hc19
             refine AWp.s_reg hGn hGk (aa 3) (Man.aa _ _) [(6, (.ref 1006 0)), (7, (vI 2))] [(1006, a'6)] (by kernel_rfl) (by kernel_rfl) ?_
             refine AWp.ret ?_
             refine nextQ_ret ?_
             refine nextQ_ret ?_
             refine fin_of (.inr rfl) (v := (.tup [(.agg [(vI 0), (vI 0), (vI 0), (vI 0), (vI 0), (vI 0)]), (vI 2)])) (Res.many (by kernel_rfl) (Res1s.cons (Res1.agg rfl rfl (by kernel_rfl) (by kernel_rfl)) (Res1s.cons (Res1.tmp rfl) Res1s.nil))) (h' := []) rfl rfl ?_
             exact ⟨by rw [parseA_in (by assumption), parseW_bad (badR_true (by first | (exfalso; omega) | (left; omega) | (right; left; first | (rw [nWords_4 (by omega)]; first | assumption | omega) | (rw [nWords_3 (by omega)]; first | assumption | omega)) | (right; right; left; first | (rw [nWords_4 (by omega)]; first | assumption | omega) | (rw [nWords_3 (by omega)]; first | assumption | omega)) | (right; right; right; left; omega) | (right; right; right; right; left; exact ⟨i, by omega, by omega⟩) | (right; right; right; right; right; left; assumption) | (right; right; right; right; right; right; left; omega) | (right; right; right; right; right; right; right; exact ⟨by omega, .inl (by assumption)⟩) | (right; right; right; right; right; right; right; exact ⟨by omega, .inr (by assumption)⟩)))] <;> rfl, rfl⟩
            ·skip
             replace hc19 : inB ((numR (nth (splitS t) 3) (9 : Int)).1) (1 : Int) (86400 : Int) = true := by simpa using hc19
             have ha21 := inB_spec hc19
             refine AWp.skip ?_
             refine nextQ_normal ?_
             refine AWp.reg' hGn hGk (aa 3) (Man.aa _ _) [(1, (vI p)), (3, (.ref 1003 0)), (6, (.ref 1006 0)), (8, a'7), (9, (vI (kindV (nth (splitS t) 0)))), (12, (vI ((numR (nth (splitS t) 1) (6 : Int)).1))), (15, (.ref 1015 0))] [(1003, a'5), (1006, a'6), (1015, (.box [(vI 0), (vI ((numR (nth (splitS t) 1) (6 : Int)).1)), (vI p), (vI (kindV (nth (splitS t) 0))), (vI ((numR (nth (splitS t) 3) (9 : Int)).1)), (vI 0)]))] (by kernel_rfl) (by kernel_rfl) ?_
             refine nextQ_normal ?_
             refine AWp.seq ?_
             have hbad : badW (splitS t) (kindV (nth (splitS t) 0)) = false := badR_false (by omega) (by first | (rw [nWords_4 (by omega)]; first | assumption | omega) | (rw [nWords_3 (by omega)]; first | assumption | omega)) (by first | (rw [nWords_4 (by omega)]; first | assumption | omega) | (rw [nWords_3 (by omega)]; first | assumption | omega)) (by omega) (fun j hj => hd j (by omega)) (by assumption) (by omega) (fun h3 => by first | (exfalso; omega) | exact ⟨by assumption, by assumption⟩)
             have hga : (numR (nth (splitS t) 3) (9 : Int)).1 = atoiV (nth (splitS t) 3) := good_arg (by rw [← of_decide_eq_true (decide_eq_true hs7)]; exact hbad)
             have hpg : 1 ≤ atoiV (nth (splitS t) 1) ∧ atoiV (nth (splitS t) 1) ≤ 999999 := good_pg hbad
             refine AWp.cast (show (mk [(1, (vI p)), (3, (.ref 1003 0)), (6, (.ref 1006 0)), (8, (.p (.sl false 1 ((splitS t).map D.cStr)))), (9, (vI (kindV (nth (splitS t) 0)))), (12, (vI ((numR (nth (splitS t) 1) (6 : Int)).1))), (15, (.ref 1015 0))] [(1003, (.box [(.p (.sl false 3 (c.Zones.map D.Zone.cells))), (.p (.sl false 6 (c.People.map D.Person.cells))), (.p (.sl false 3 (c.Calendars.map D.Calendar.cells))), (.p (.sl false 3 (c.Schedules.map D.Schedule.cells)))])), (1006, (.box [(vI 0), (vI 0), (vI 0), (vI 0), (vI 0), (vI 0)])), (1015, (.box [(vI 0), (vI ((numR (nth (splitS t) 1) (6 : Int)).1)), (vI p), (vI (kindV (nth (splitS t) 0))), (vI ((numR (nth (splitS t) 3) (9 : Int)).1)), (vI 0)]))]) = (mk [(1, (vI p)), (3, (.ref 1003 0)), (6, (.ref 1006 0)), (8, (.p (.sl false 1 ((splitS t).map D.cStr)))), (9, (vI (kindV (nth (splitS t) 0)))), (12, (vI (atoiV (nth (splitS t) 1)))), (15, (.ref 1015 0))] [(1003, (.box [(.p (.sl false 3 (c.Zones.map D.Zone.cells))), (.p (.sl false 6 (c.People.map D.Person.cells))), (.p (.sl false 3 (c.Calendars.map D.Calendar.cells))), (.p (.sl false 3 (c.Schedules.map D.Schedule.cells)))])), (1006, (.box [(vI 0), (vI 0), (vI 0), (vI 0), (vI 0), (vI 0)])), (1015, (.box [(vI 0), (vI (atoiV (nth (splitS t) 1))), (vI p), (vI (kindV (nth (splitS t) 0))), (vI (atoiV (nth (splitS t) 3))), (vI 0)]))]) from (by rw [good_page hbad, hga])) ?_
             have hf22 := ansCode_le (atoiV (nth (splitS t) 1)) p
             let a'10 : AO := (.box [(vI 0), (vI (atoiV (nth (splitS t) 1))), (vI p), (vI (kindV (nth (splitS t) 0))), (vI (atoiV (nth (splitS t) 3))), (vI 0)])
             refine AWp.s_dreg hGn hGk (by kernel_rfl) [.a, .m (some 131) ⟨[(130, a'7)], [], (.eptr [(pS (nth (splitS t) 2))]), [], []⟩, .a, .a, .a, .m (some 135) ⟨[(133, (vI (atoiV (nth (splitS t) 1)))), (134, (vI p))], [], (vS (digB (ansCode (atoiV (nth (splitS t) 1)) p))), [], []⟩, .a] ⟨StepOK.p rfl rfl rfl (OpOK.indexP (e := 9) rfl (by kernel_rfl) (by kernel_rfl) rfl rfl rfl (map_nth (show 2 < List.length (splitS t) by omega))),
              StepOK.p rfl rfl rfl (OpOK.call rfl (by kernel_rfl) rfl (r28_code (atoiV (nth (splitS t) 1)) p (inB_true (by omega)) (inB_true (by omega))) (by kernel_rfl)), trivial⟩ [(3, (.ref 1003 0)), (6, (.ref 1006 0)), (8, a'7), (9, (vI (kindV (nth (splitS t) 0)))), (15, (.ref 1015 0)), (136, (vB (decide ((nth (splitS t) 2) ≠ (digB (ansCode (atoiV (nth (splitS t) 1)) p))))))] [(1003, a'5), (1006, a'6), (1015, a'10)] (by kernel_rfl) (by kernel_rfl) (by kernel_rfl) ?_
             refine AWp.cond (decide ((nth (splitS t) 2) ≠ (digB (ansCode (atoiV (nth (splitS t) 1)) p)))) rfl (fun hc23 => ?_) (fun hc23 => ?_)
             ·skip
              replace hc23 := of_decide_eq_true hc23
              refine AWp.s_reg hGn hGk (aa 3) (Man.aa _ _) [(6, (.ref 1006 0)), (7, (vI 20))] [(1006, a'6)] (by kernel_rfl) (by kernel_rfl) ?_
              refine AWp.ret ?_
              refine nextQ_ret ?_
              refine fin_of (.inr rfl) (v := (.tup [(.agg [(vI 0), (vI 0), (vI 0), (vI 0), (vI 0), (vI 0)]), (vI 20)])) (Res.many (by kernel_rfl) (Res1s.cons (Res1.agg rfl rfl (by kernel_rfl) (by kernel_rfl)) (Res1s.cons (Res1.tmp rfl) Res1s.nil))) (h' := []) rfl rfl ?_
              exact ⟨by rw [parseA_in (by assumption), parseW_code hbad (by assumption)] <;> rfl, rfl⟩
             ·skip
              replace hc23 := of_decide_eq_false hc23
              refine AWp.skip ?_
              refine nextQ_normal ?_
              refine AWp.seq ?_
              refine AWp.s_reg hGn hGk (aa 2) (Man.aa _ _) [(3, (.ref 1003 0)), (6, (.ref 1006 0)), (8, a'7), (15, (.ref 1015 0)), (139, (vB (decide ((kindV (nth (splitS t) 0)) = (4 : Int)))))] [(1003, a'5), (1006, a'6), (1015, a'10)] (by kernel_rfl) (by kernel_rfl) ?_
              refine AWp.cond (decide ((kindV (nth (splitS t) 0)) = (4 : Int))) rfl (fun hc24 => ?_) (fun hc24 => ?_)
              ·skip
               replace hc24 := of_decide_eq_true hc24
               let a'11 : AO := (.box [(vI 0), (vI (atoiV (nth (splitS t) 1))), (vI p), (vI (kindV (nth (splitS t) 0))), (vI (-1)), (vI 0)])
               refine AWp.s_reg hGn hGk (aa 2) (Man.aa _ _) [(3, (.ref 1003 0)), (6, (.ref 1006 0)), (8, a'7), (15, (.ref 1015 0))] [(1003, a'5), (1006, a'6), (1015, a'11)] (by kernel_rfl) (by kernel_rfl) ?_
               refine AWp.seq ?_
               refine AWp.s_reg hGn hGk (aa 1) (Man.aa _ _) [(3, (.ref 1003 0)), (6, (.ref 1006 0)), (8, a'7), (15, (.ref 1015 0)), (18, (vI 0))] [(1003, a'5), (1006, a'6), (1015, a'11)] (by kernel_rfl) (by kernel_rfl) ?_
               refine AWp.block ?_
               refine AWp.loop (fun m s => ∃ i2, s = (mk [(3, (.ref 1003 0)), (6, (.ref 1006 0)), (8, (.p (.sl false 1 ((splitS t).map D.cStr)))), (15, (.ref 1015 0)), (18, (vI ((i2 : Nat) : Int)))] [(1003, (.box [(.p (.sl false 3 (c.Zones.map D.Zone.cells))), (.p (.sl false 6 (c.People.map D.Person.cells))), (.p (.sl false 3 (c.Calendars.map D.Calendar.cells))), (.p (.sl false 3 (c.Schedules.map D.Schedule.cells)))])), (1006, (.box [(vI 0), (vI 0), (vI 0), (vI 0), (vI 0), (vI 0)])), (1015, (.box [(vI 0), (vI (atoiV (nth (splitS t) 1))), (vI p), (vI (kindV (nth (splitS t) 0))), (vI (lastP c.People (nth (splitS t) 3) i2)), (vI 0)]))]) ∧ (i2 ≤ c.People.length) ∧ m = (c.People.length - i2))
                ⟨_, 0, rfl, (by omega), rfl⟩ ?_
               rintro mm25 s ⟨i2, rfl, hi2, hmm25⟩
               have hll := lastP_le c.People (nth (splitS t) 3) i2
               refine AWp.seq ?_
               let a'12 : AO := (.box [(vI 0), (vI (atoiV (nth (splitS t) 1))), (vI p), (vI (kindV (nth (splitS t) 0))), (vI (lastP c.People (nth (splitS t) 3) i2)), (vI 0)])
               refine AWp.s_reg hGn hGk [.a, .a, .a, .m (some 144) ⟨[(143, a'2)], [], (vI ((c.People.length : Nat) : Int)), [], []⟩, .a] ⟨StepOK.p rfl rfl rfl (OpOK.lenP (e := 75) rfl rfl (by kernel_rfl) rfl (by rw [List.length_map])), trivial⟩ [(3, (.ref 1003 0)), (6, (.ref 1006 0)), (8, a'7), (15, (.ref 1015 0)), (18, (vI ((i2 : Nat) : Int))), (145, (vB (decide (((i2 : Nat) : Int) < ((c.People.length : Nat) : Int)))))] [(1003, a'5), (1006, a'6), (1015, a'12)] (by kernel_rfl) (by kernel_rfl) ?_
               refine AWp.cond (decide (((i2 : Nat) : Int) < ((c.People.length : Nat) : Int))) rfl (fun hc26 => ?_) (fun hc26 => ?_)
               ·skip
                replace hc26 := of_decide_eq_true hc26
                refine AWp.skip ?_
                refine nextQ_normal ?_
                refine AWp.seq ?_
                refine AWp.block ?_
                refine AWp.s_dreg hGn hGk (by kernel_rfl) [.a, .a, .a, .m (some 151) ⟨[(149, a'2), (150, (vI ((i2 : Nat) : Int)))], [], (.eptr [(pS ((nth c.People i2).Name)), (pI ((nth c.People i2).Zone)), (.sl false 2 (((nth c.People i2).Quiet).map D.Window.cells)), (pI ((nth c.People i2).MaxWeek)), (pI ((nth c.People i2).MinRest)), (pB ((nth c.People i2).Consent))]), [], []⟩, .a, .a, .a, .m (some 155) ⟨[(154, a'7)], [], (.eptr [(pS (nth (splitS t) 3))]), [], []⟩, .a, .a] ⟨StepOK.p rfl rfl rfl (OpOK.indexP (e := 75) rfl (by kernel_rfl) (by kernel_rfl) rfl rfl rfl (map_nth (by omega))),
                 StepOK.p rfl rfl rfl (OpOK.indexP (e := 9) rfl (by kernel_rfl) (by kernel_rfl) rfl rfl rfl (map_nth (show 3 < List.length (splitS t) by omega))), trivial⟩ [(3, (.ref 1003 0)), (6, (.ref 1006 0)), (8, a'7), (15, (.ref 1015 0)), (18, (vI ((i2 : Nat) : Int))), (157, (vB (decide (((nth c.People i2).Name) = (nth (splitS t) 3)))))] [(1003, a'5), (1006, a'6), (1015, a'12)] (by kernel_rfl) (by kernel_rfl) (by kernel_rfl) ?_
                refine AWp.cond (decide (((nth c.People i2).Name) = (nth (splitS t) 3))) rfl (fun hc27 => ?_) (fun hc27 => ?_)
                ·skip
                 replace hc27 := of_decide_eq_true hc27
                 let a'13 : AO := (.box [(vI 0), (vI (atoiV (nth (splitS t) 1))), (vI p), (vI (kindV (nth (splitS t) 0))), (vI ((i2 : Nat) : Int)), (vI 0)])
                 refine AWp.reg' hGn hGk (aa 3) (Man.aa _ _) [(3, (.ref 1003 0)), (6, (.ref 1006 0)), (8, a'7), (15, (.ref 1015 0)), (18, (vI ((i2 : Nat) : Int)))] [(1003, a'5), (1006, a'6), (1015, a'13)] (by kernel_rfl) (by kernel_rfl) ?_
                 refine blockQ_normal ?_
                 refine nextQ_normal ?_
                 refine AWp.reg' hGn hGk [.a, .m (some 147) ⟨[(146, (vI ((i2 : Nat) : Int)))], [], (vI ((i2 + 1 : Nat) : Int)), [], []⟩, .a] ⟨StepOK.p rfl rfl rfl (OpOK.add rfl rfl rfl (by rw [IntWalk.i64_in _ ⟨by omega, by omega⟩]; omega)), trivial⟩ [(3, (.ref 1003 0)), (6, (.ref 1006 0)), (8, a'7), (15, (.ref 1015 0)), (18, (vI ((i2 + 1 : Nat) : Int)))] [(1003, a'5), (1006, a'6), (1015, a'13)] (by kernel_rfl) (by kernel_rfl) ?_
                 refine nextQ_normal ⟨_, ?_, (i2 + 1), (by rw [lastP_hit (by assumption)] <;> rfl), (by omega), rfl⟩
                 · omega
                ·skip
                 replace hc27 := of_decide_eq_false hc27
                 refine AWp.skip ?_
                 refine blockQ_normal ?_
                 refine nextQ_normal ?_
                 refine AWp.reg' hGn hGk [.a, .m (some 147) ⟨[(146, (vI ((i2 : Nat) : Int)))], [], (vI ((i2 + 1 : Nat) : Int)), [], []⟩, .a] ⟨StepOK.p rfl rfl rfl (OpOK.add rfl rfl rfl (by rw [IntWalk.i64_in _ ⟨by omega, by omega⟩]; omega)), trivial⟩ [(3, (.ref 1003 0)), (6, (.ref 1006 0)), (8, a'7), (15, (.ref 1015 0)), (18, (vI ((i2 + 1 : Nat) : Int)))] [(1003, a'5), (1006, a'6), (1015, a'12)] (by kernel_rfl) (by kernel_rfl) ?_
                 refine nextQ_normal ⟨_, ?_, (i2 + 1), (by rw [lastP_miss (by assumption)] <;> rfl), (by omega), rfl⟩
                 · omega
               ·skip
                replace hc26 := of_decide_eq_false hc26
                refine AWp.weaken (mk [(6, (.ref 1006 0)), (15, (.ref 1015 0))] [(1006, a'6), (1015, a'12)]) (Weak.sub' hGk (by kernel_rfl)) ?_
                refine AWp.exit ?_
                refine nextQ_exit ?_
                refine nextQ_exit ?_
                refine blockQ_exit ?_
                refine nextQ_normal ?_
                have hlp : lastP c.People (nth (splitS t) 3) i2 = (if (person c.People (nth (splitS t) 3)).2 = true then (person c.People (nth (splitS t) 3)).1 else -1) := by rw [show i2 = c.People.length by omega]; exact lastP_person h (nth (splitS t) 3)
                have hpn := person_nn c.People (nth (splitS t) 3)
                refine AWp.s_reg hGn hGk (aa 3) (Man.aa _ _) [(6, (.ref 1006 0)), (15, (.ref 1015 0)), (162, (vB (decide ((lastP c.People (nth (splitS t) 3) i2) < (0 : Int)))))] [(1006, a'6), (1015, a'12)] (by kernel_rfl) (by kernel_rfl) ?_
                refine AWp.cond (decide ((lastP c.People (nth (splitS t) 3) i2) < (0 : Int))) rfl (fun hc28 => ?_) (fun hc28 => ?_)
                ·skip
                 replace hc28 := of_decide_eq_true hc28
                 refine AWp.s_reg hGn hGk (aa 3) (Man.aa _ _) [(6, (.ref 1006 0)), (7, (vI 3))] [(1006, a'6)] (by kernel_rfl) (by kernel_rfl) ?_
                 refine AWp.ret ?_
                 refine nextQ_ret ?_
                 refine fin_of (.inr rfl) (v := (.tup [(.agg [(vI 0), (vI 0), (vI 0), (vI 0), (vI 0), (vI 0)]), (vI 3)])) (Res.many (by kernel_rfl) (Res1s.cons (Res1.agg rfl rfl (by kernel_rfl) (by kernel_rfl)) (Res1s.cons (Res1.tmp rfl) Res1s.nil))) (h' := []) rfl rfl ?_
                 exact ⟨by rw [parseA_in (by assumption), parseW_person (by assumption) hbad (by assumption) (person_f hlp (by omega))] <;> rfl, rfl⟩
                ·skip
                 replace hc28 := of_decide_eq_false hc28
                 refine AWp.skip ?_
                 refine nextQ_normal ?_
                 refine AWp.cast (show (mk [(6, (.ref 1006 0)), (15, (.ref 1015 0)), (162, (vB (decide ((lastP c.People (nth (splitS t) 3) i2) < (0 : Int)))))] [(1006, (.box [(vI 0), (vI 0), (vI 0), (vI 0), (vI 0), (vI 0)])), (1015, (.box [(vI 0), (vI (atoiV (nth (splitS t) 1))), (vI p), (vI (kindV (nth (splitS t) 0))), (vI (lastP c.People (nth (splitS t) 3) i2)), (vI 0)]))]) = (mk [(6, (.ref 1006 0)), (15, (.ref 1015 0)), (162, (vB (decide ((lastP c.People (nth (splitS t) 3) i2) < (0 : Int)))))] [(1006, (.box [(vI 0), (vI 0), (vI 0), (vI 0), (vI 0), (vI 0)])), (1015, (.box [(vI 0), (vI (atoiV (nth (splitS t) 1))), (vI p), (vI (kindV (nth (splitS t) 0))), (vI ((person c.People (nth (splitS t) 3)).1)), (vI 0)]))]) from (by rw [hlp, if_pos (by first | assumption | (exact person_t hlp (by omega)))])) ?_
                 refine AWp.s_reg hGn hGk (aa 3) (Man.aa _ _) [(6, (.ref 1006 0)), (7, (vI 0))] [(1006, (.box [(vI 0), (vI (atoiV (nth (splitS t) 1))), (vI p), (vI (kindV (nth (splitS t) 0))), (vI ((person c.People (nth (splitS t) 3)).1)), (vI 0)]))] (by kernel_rfl) (by kernel_rfl) ?_
                 refine AWp.ret ?_
                 refine fin_of (.inr rfl) (v := (.tup [(.agg [(vI 0), (vI (atoiV (nth (splitS t) 1))), (vI p), (vI (kindV (nth (splitS t) 0))), (vI ((person c.People (nth (splitS t) 3)).1)), (vI 0)]), (vI 0)])) (Res.many (by kernel_rfl) (Res1s.cons (Res1.agg rfl rfl (by kernel_rfl) (by kernel_rfl)) (Res1s.cons (Res1.tmp rfl) Res1s.nil))) (h' := []) rfl rfl ?_
                 exact ⟨by rw [parseA_in (by assumption), parseW_hand (by assumption) hbad (by assumption) (person_t hlp (by omega))] <;> rfl, rfl⟩
              ·skip
               replace hc24 := of_decide_eq_false hc24
               refine AWp.skip ?_
               refine nextQ_normal ?_
               refine AWp.s_reg hGn hGk (aa 3) (Man.aa _ _) [(6, (.ref 1006 0)), (7, (vI 0))] [(1006, a'10)] (by kernel_rfl) (by kernel_rfl) ?_
               refine AWp.ret ?_
               refine fin_of (.inr rfl) (v := (.tup [(.agg [(vI 0), (vI (atoiV (nth (splitS t) 1))), (vI p), (vI (kindV (nth (splitS t) 0))), (vI (atoiV (nth (splitS t) 3))), (vI 0)]), (vI 0)])) (Res.many (by kernel_rfl) (Res1s.cons (Res1.agg rfl rfl (by kernel_rfl) (by kernel_rfl)) (Res1s.cons (Res1.tmp rfl) Res1s.nil))) (h' := []) rfl rfl ?_
               exact ⟨by rw [parseA_in (by assumption), parseW_snooze (by assumption) hbad (by assumption)] <;> rfl, rfl⟩
   ·skip
    refine AWp.s_reg hGn hGk [.a, .m (some 45) ⟨[(44, (vI (kindV (nth (splitS t) 0))))], [], (vB false), [], []⟩, .a, .a, .a, .a] ⟨StepOK.p rfl rfl rfl (OpOK.eqlI rfl rfl rfl (decide_eq_false hs7)), trivial⟩ [(1, (vI p)), (3, (.ref 1003 0)), (6, (.ref 1006 0)), (8, a'7), (9, (vI (kindV (nth (splitS t) 0)))), (11, (vI 3)), (49, (vB (decide ((kindV (nth (splitS t) 0)) = (4 : Int)))))] [(1003, a'5), (1006, a'6)] (by kernel_rfl) (by kernel_rfl) ?_
    refine AWp.cond (decide ((kindV (nth (splitS t) 0)) = (4 : Int))) rfl (fun hc29 => ?_) (fun hc29 => ?_)
    ·skip
     replace hc29 := of_decide_eq_true hc29
     refine AWp.reg' hGn hGk (aa 1) (Man.aa _ _) [(1, (vI p)), (3, (.ref 1003 0)), (6, (.ref 1006 0)), (8, a'7), (9, (vI (kindV (nth (splitS t) 0)))), (11, (vI 4))] [(1003, a'5), (1006, a'6)] (by kernel_rfl) (by kernel_rfl) ?_
     refine nextQ_normal ?_
     refine AWp.seq ?_
     by_cases hs30 : (kindV (nth (splitS t) 0)) = (0 : Int)
     ·skip
      refine AWp.s_reg hGn hGk [.a, .m (some 51) ⟨[(50, (vI (kindV (nth (splitS t) 0))))], [], (vB true), [], []⟩, .a, .a, .a, .a, .a, .a, .a, .a, .a, .a, .a, .a, .a, .a, .a, .a, .a, .a, .a, .a, .a] ⟨StepOK.p rfl rfl rfl (OpOK.eqlI rfl rfl rfl (decide_eq_true hs30)), trivial⟩ [(1, (vI p)), (3, (.ref 1003 0)), (6, (.ref 1006 0)), (8, a'7), (9, (vI (kindV (nth (splitS t) 0)))), (72, (vB true))] [(1003, a'5), (1006, a'6)] (by kernel_rfl) (by kernel_rfl) ?_
      refine AWp.cond_true rfl ?_
      refine AWp.s_reg hGn hGk (aa 3) (Man.aa _ _) [(6, (.ref 1006 0)), (7, (vI 2))] [(1006, a'6)] (by kernel_rfl) (by kernel_rfl) ?_
      refine AWp.ret ?_
      refine nextQ_ret ?_
      refine fin_of (.inr rfl) (v := (.tup [(.agg [(vI 0), (vI 0), (vI 0), (vI 0), (vI 0), (vI 0)]), (vI 2)])) (Res.many (by kernel_rfl) (Res1s.cons (Res1.agg rfl rfl (by kernel_rfl) (by kernel_rfl)) (Res1s.cons (Res1.tmp rfl) Res1s.nil))) (h' := []) rfl rfl ?_
      exact ⟨by rw [parseA_in (by assumption), parseW_bad (badR_true (by first | (exfalso; omega) | (left; omega) | (right; left; first | (rw [nWords_4 (by omega)]; first | assumption | omega) | (rw [nWords_3 (by omega)]; first | assumption | omega)) | (right; right; left; first | (rw [nWords_4 (by omega)]; first | assumption | omega) | (rw [nWords_3 (by omega)]; first | assumption | omega)) | (right; right; right; left; omega) | (right; right; right; right; left; exact ⟨i, by omega, by omega⟩) | (right; right; right; right; right; left; assumption) | (right; right; right; right; right; right; left; omega) | (right; right; right; right; right; right; right; exact ⟨by omega, .inl (by assumption)⟩) | (right; right; right; right; right; right; right; exact ⟨by omega, .inr (by assumption)⟩)))] <;> rfl, rfl⟩
     ·skip
      by_cases hs31 : (((splitS t).length : Nat) : Int) ≠ (4 : Int)
      ·skip
       refine AWp.s_reg hGn hGk [.a, .m (some 51) ⟨[(50, (vI (kindV (nth (splitS t) 0))))], [], (vB false), [], []⟩, .a, .a, .m (some 54) ⟨[(53, a'7), (52, (vB false))], [], (vI (((splitS t).length : Nat) : Int)), [], []⟩, .a, .m (some 56) ⟨[(54, (vI (((splitS t).length : Nat) : Int))), (55, (vI 4)), (52, (vB false))], [], (vB true), [], []⟩, .a, .a, .a, .a, .a, .a, .a, .a, .a, .a, .a, .a, .a, .a, .a, .a] ⟨StepOK.p rfl rfl rfl (OpOK.eqlI rfl rfl rfl (decide_eq_false hs30)),
        StepOK.g rfl rfl rfl rfl rfl (by simp) (OpOK.lenP (e := 9) rfl rfl (by kernel_rfl) rfl (by rw [List.length_map])),
        StepOK.g rfl rfl rfl rfl rfl (by simp) (OpOK.neqI rfl rfl rfl (decide_eq_true hs31)), trivial⟩ [(1, (vI p)), (3, (.ref 1003 0)), (6, (.ref 1006 0)), (8, a'7), (9, (vI (kindV (nth (splitS t) 0)))), (72, (vB true))] [(1003, a'5), (1006, a'6)] (by kernel_rfl) (by kernel_rfl) ?_
       refine AWp.cond_true rfl ?_
       refine AWp.s_reg hGn hGk (aa 3) (Man.aa _ _) [(6, (.ref 1006 0)), (7, (vI 2))] [(1006, a'6)] (by kernel_rfl) (by kernel_rfl) ?_
       refine AWp.ret ?_
       refine nextQ_ret ?_
       refine fin_of (.inr rfl) (v := (.tup [(.agg [(vI 0), (vI 0), (vI 0), (vI 0), (vI 0), (vI 0)]), (vI 2)])) (Res.many (by kernel_rfl) (Res1s.cons (Res1.agg rfl rfl (by kernel_rfl) (by kernel_rfl)) (Res1s.cons (Res1.tmp rfl) Res1s.nil))) (h' := []) rfl rfl ?_
       exact ⟨by rw [parseA_in (by assumption), parseW_bad (badR_true (by first | (exfalso; omega) | (left; omega) | (right; left; first | (rw [nWords_4 (by omega)]; first | assumption | omega) | (rw [nWords_3 (by omega)]; first | assumption | omega)) | (right; right; left; first | (rw [nWords_4 (by omega)]; first | assumption | omega) | (rw [nWords_3 (by omega)]; first | assumption | omega)) | (right; right; right; left; omega) | (right; right; right; right; left; exact ⟨i, by omega, by omega⟩) | (right; right; right; right; right; left; assumption) | (right; right; right; right; right; right; left; omega) | (right; right; right; right; right; right; right; exact ⟨by omega, .inl (by assumption)⟩) | (right; right; right; right; right; right; right; exact ⟨by omega, .inr (by assumption)⟩)))] <;> rfl, rfl⟩
      ·skip
       by_cases hs32 : (((nth (splitS t) 2).size : Nat) : Int) ≠ (4 : Int)
       ·skip
        refine AWp.s_reg hGn hGk [.a, .m (some 51) ⟨[(50, (vI (kindV (nth (splitS t) 0))))], [], (vB false), [], []⟩, .a, .a, .m (some 54) ⟨[(53, a'7), (52, (vB false))], [], (vI (((splitS t).length : Nat) : Int)), [], []⟩, .a, .m (some 56) ⟨[(54, (vI (((splitS t).length : Nat) : Int))), (55, (vI 4)), (52, (vB false))], [], (vB false), [], []⟩, .a, .a, .a, .m (some 60) ⟨[(59, a'7), (58, (vB false))], [], (.eptr [(pS (nth (splitS t) 2))]), [], []⟩, .a, .m (some 62) ⟨[(61, (vS (nth (splitS t) 2))), (58, (vB false))], [], (vI (((nth (splitS t) 2).size : Nat) : Int)), [], []⟩, .m (some 63) ⟨[(62, (vI (((nth (splitS t) 2).size : Nat) : Int))), (58, (vB false))], [], (vB true), [], []⟩, .a, .a, .a, .a, .a, .a, .a, .a, .a] ⟨StepOK.p rfl rfl rfl (OpOK.eqlI rfl rfl rfl (decide_eq_false hs30)),
         StepOK.g rfl rfl rfl rfl rfl (by simp) (OpOK.lenP (e := 9) rfl rfl (by kernel_rfl) rfl (by rw [List.length_map])),
         StepOK.g rfl rfl rfl rfl rfl (by simp) (OpOK.neqI rfl rfl rfl (decide_eq_false hs31)),
         StepOK.g rfl rfl rfl rfl rfl (by simp) (OpOK.indexP (e := 9) rfl (by kernel_rfl) (by kernel_rfl) rfl rfl rfl (map_nth (show 2 < List.length (splitS t) by omega))),
         StepOK.g rfl rfl rfl rfl rfl (by simp) (OpOK.lenS rfl rfl (by kernel_rfl) rfl),
         StepOK.g rfl rfl rfl rfl rfl (by simp) (OpOK.neqI rfl rfl rfl (decide_eq_true hs32)), trivial⟩ [(1, (vI p)), (3, (.ref 1003 0)), (6, (.ref 1006 0)), (8, a'7), (9, (vI (kindV (nth (splitS t) 0)))), (72, (vB true))] [(1003, a'5), (1006, a'6)] (by kernel_rfl) (by kernel_rfl) ?_
        refine AWp.cond_true rfl ?_
        refine AWp.s_reg hGn hGk (aa 3) (Man.aa _ _) [(6, (.ref 1006 0)), (7, (vI 2))] [(1006, a'6)] (by kernel_rfl) (by kernel_rfl) ?_
        refine AWp.ret ?_
        refine nextQ_ret ?_
        refine fin_of (.inr rfl) (v := (.tup [(.agg [(vI 0), (vI 0), (vI 0), (vI 0), (vI 0), (vI 0)]), (vI 2)])) (Res.many (by kernel_rfl) (Res1s.cons (Res1.agg rfl rfl (by kernel_rfl) (by kernel_rfl)) (Res1s.cons (Res1.tmp rfl) Res1s.nil))) (h' := []) rfl rfl ?_
        exact ⟨by rw [parseA_in (by assumption), parseW_bad (badR_true (by first | (exfalso; omega) | (left; omega) | (right; left; first | (rw [nWords_4 (by omega)]; first | assumption | omega) | (rw [nWords_3 (by omega)]; first | assumption | omega)) | (right; right; left; first | (rw [nWords_4 (by omega)]; first | assumption | omega) | (rw [nWords_3 (by omega)]; first | assumption | omega)) | (right; right; right; left; omega) | (right; right; right; right; left; exact ⟨i, by omega, by omega⟩) | (right; right; right; right; right; left; assumption) | (right; right; right; right; right; right; left; omega) | (right; right; right; right; right; right; right; exact ⟨by omega, .inl (by assumption)⟩) | (right; right; right; right; right; right; right; exact ⟨by omega, .inr (by assumption)⟩)))] <;> rfl, rfl⟩
       ·skip
        refine AWp.s_reg hGn hGk [.a, .m (some 51) ⟨[(50, (vI (kindV (nth (splitS t) 0))))], [], (vB false), [], []⟩, .a, .a, .m (some 54) ⟨[(53, a'7), (52, (vB false))], [], (vI (((splitS t).length : Nat) : Int)), [], []⟩, .a, .m (some 56) ⟨[(54, (vI (((splitS t).length : Nat) : Int))), (55, (vI 4)), (52, (vB false))], [], (vB false), [], []⟩, .a, .a, .a, .m (some 60) ⟨[(59, a'7), (58, (vB false))], [], (.eptr [(pS (nth (splitS t) 2))]), [], []⟩, .a, .m (some 62) ⟨[(61, (vS (nth (splitS t) 2))), (58, (vB false))], [], (vI (((nth (splitS t) 2).size : Nat) : Int)), [], []⟩, .m (some 63) ⟨[(62, (vI (((nth (splitS t) 2).size : Nat) : Int))), (58, (vB false))], [], (vB false), [], []⟩, .a, .a, .a, .a, .m (some 68) ⟨[(67, (vI 4)), (65, (vB false))], [], (vI 3), [], []⟩, .m (some 69) ⟨[(66, a'7), (68, (vI 3)), (65, (vB false))], [], (.eptr [(pS (nth (splitS t) 3))]), [], []⟩, .a, .a, .a] ⟨StepOK.p rfl rfl rfl (OpOK.eqlI rfl rfl rfl (decide_eq_false hs30)),
         StepOK.g rfl rfl rfl rfl rfl (by simp) (OpOK.lenP (e := 9) rfl rfl (by kernel_rfl) rfl (by rw [List.length_map])),
         StepOK.g rfl rfl rfl rfl rfl (by simp) (OpOK.neqI rfl rfl rfl (decide_eq_false hs31)),
         StepOK.g rfl rfl rfl rfl rfl (by simp) (OpOK.indexP (e := 9) rfl (by kernel_rfl) (by kernel_rfl) rfl rfl rfl (map_nth (show 2 < List.length (splitS t) by omega))),
         StepOK.g rfl rfl rfl rfl rfl (by simp) (OpOK.lenS rfl rfl (by kernel_rfl) rfl),
         StepOK.g rfl rfl rfl rfl rfl (by simp) (OpOK.neqI rfl rfl rfl (decide_eq_false hs32)),
         StepOK.g rfl rfl rfl rfl rfl (by simp) (OpOK.sub rfl rfl rfl (by decide)),
         StepOK.g rfl rfl rfl rfl rfl (by simp) (OpOK.indexP (e := 9) rfl (by kernel_rfl) (by kernel_rfl) rfl rfl rfl (map_nth (show 3 < List.length (splitS t) by omega))), trivial⟩ [(1, (vI p)), (3, (.ref 1003 0)), (6, (.ref 1006 0)), (8, a'7), (9, (vI (kindV (nth (splitS t) 0)))), (72, (vB (decide ((nth (splitS t) 3) = (ByteArray.mk #[])))))] [(1003, a'5), (1006, a'6)] (by kernel_rfl) (by kernel_rfl) ?_
        refine AWp.cond (decide ((nth (splitS t) 3) = (ByteArray.mk #[]))) rfl (fun hc33 => ?_) (fun hc33 => ?_)
        ·skip
         replace hc33 := of_decide_eq_true hc33
         refine AWp.s_reg hGn hGk (aa 3) (Man.aa _ _) [(6, (.ref 1006 0)), (7, (vI 2))] [(1006, a'6)] (by kernel_rfl) (by kernel_rfl) ?_
         refine AWp.ret ?_
         refine nextQ_ret ?_
         refine fin_of (.inr rfl) (v := (.tup [(.agg [(vI 0), (vI 0), (vI 0), (vI 0), (vI 0), (vI 0)]), (vI 2)])) (Res.many (by kernel_rfl) (Res1s.cons (Res1.agg rfl rfl (by kernel_rfl) (by kernel_rfl)) (Res1s.cons (Res1.tmp rfl) Res1s.nil))) (h' := []) rfl rfl ?_
         exact ⟨by rw [parseA_in (by assumption), parseW_bad (badR_true (by first | (exfalso; omega) | (left; omega) | (right; left; first | (rw [nWords_4 (by omega)]; first | assumption | omega) | (rw [nWords_3 (by omega)]; first | assumption | omega)) | (right; right; left; first | (rw [nWords_4 (by omega)]; first | assumption | omega) | (rw [nWords_3 (by omega)]; first | assumption | omega)) | (right; right; right; left; omega) | (right; right; right; right; left; exact ⟨i, by omega, by omega⟩) | (right; right; right; right; right; left; assumption) | (right; right; right; right; right; right; left; omega) | (right; right; right; right; right; right; right; exact ⟨by omega, .inl (by assumption)⟩) | (right; right; right; right; right; right; right; exact ⟨by omega, .inr (by assumption)⟩)))] <;> rfl, rfl⟩
        ·skip
         replace hc33 := of_decide_eq_false hc33
         refine AWp.skip ?_
         refine nextQ_normal ?_
         let a'14 : AV := (.tup [(vI ((numR (nth (splitS t) 1) (6 : Int)).1)), (vB ((numR (nth (splitS t) 1) (6 : Int)).2))])
         refine AWp.s_reg hGn hGk [.a, .m (some 76) ⟨[(75, a'7)], [], (.eptr [(pS (nth (splitS t) 1))]), [], []⟩, .a, .m (some 78) ⟨[(77, (vS (nth (splitS t) 1)))], [], a'14, [], []⟩, .a, .a, .a, .a, .a] ⟨StepOK.p rfl rfl rfl (OpOK.indexP (e := 9) rfl (by kernel_rfl) (by kernel_rfl) rfl rfl rfl (map_nth (show 1 < List.length (splitS t) by omega))),
          StepOK.p rfl rfl rfl (OpOK.call rfl (by kernel_rfl) rfl (ref_Number (nth (splitS t) 1) (6 : Int) (by omega) (by omega)) (by kernel_rfl)), trivial⟩ [(1, (vI p)), (3, (.ref 1003 0)), (6, (.ref 1006 0)), (8, a'7), (9, (vI (kindV (nth (splitS t) 0)))), (12, (vI ((numR (nth (splitS t) 1) (6 : Int)).1))), (13, (vB ((numR (nth (splitS t) 1) (6 : Int)).2)))] [(1003, a'5), (1006, a'6)] (by kernel_rfl) (by kernel_rfl) ?_
         refine AWp.seq ?_
         cases hs34 : (numR (nth (splitS t) 1) (6 : Int)).2
         ·skip
          first | refine AWp.cast (show (mk [(1, (vI p)), (3, (.ref 1003 0)), (6, (.ref 1006 0)), (8, (.p (.sl false 1 ((splitS t).map D.cStr)))), (9, (vI (kindV (nth (splitS t) 0)))), (12, (vI ((numR (nth (splitS t) 1) (6 : Int)).1))), (13, (vB ((numR (nth (splitS t) 1) (6 : Int)).2)))] [(1003, (.box [(.p (.sl false 3 (c.Zones.map D.Zone.cells))), (.p (.sl false 6 (c.People.map D.Person.cells))), (.p (.sl false 3 (c.Calendars.map D.Calendar.cells))), (.p (.sl false 3 (c.Schedules.map D.Schedule.cells)))])), (1006, (.box [(vI 0), (vI 0), (vI 0), (vI 0), (vI 0), (vI 0)]))]) = (mk [(1, (vI p)), (3, (.ref 1003 0)), (6, (.ref 1006 0)), (8, (.p (.sl false 1 ((splitS t).map D.cStr)))), (9, (vI (kindV (nth (splitS t) 0)))), (12, (vI ((numR (nth (splitS t) 1) (6 : Int)).1))), (13, (vB false))] [(1003, (.box [(.p (.sl false 3 (c.Zones.map D.Zone.cells))), (.p (.sl false 6 (c.People.map D.Person.cells))), (.p (.sl false 3 (c.Calendars.map D.Calendar.cells))), (.p (.sl false 3 (c.Schedules.map D.Schedule.cells)))])), (1006, (.box [(vI 0), (vI 0), (vI 0), (vI 0), (vI 0), (vI 0)]))]) from by rw [hs34]) ?_ | skip
          refine AWp.s_reg hGn hGk (aa 6) (Man.aa _ _) [(1, (vI p)), (3, (.ref 1003 0)), (6, (.ref 1006 0)), (8, a'7), (9, (vI (kindV (nth (splitS t) 0)))), (12, (vI ((numR (nth (splitS t) 1) (6 : Int)).1))), (86, (vB true))] [(1003, a'5), (1006, a'6)] (by kernel_rfl) (by kernel_rfl) ?_
          refine AWp.cond_true rfl ?_
          refine AWp.s_reg hGn hGk (aa 3) (Man.aa _ _) [(6, (.ref 1006 0)), (7, (vI 2))] [(1006, a'6)] (by kernel_rfl) (by kernel_rfl) ?_
          refine AWp.ret ?_
          refine nextQ_ret ?_
          refine fin_of (.inr rfl) (v := (.tup [(.agg [(vI 0), (vI 0), (vI 0), (vI 0), (vI 0), (vI 0)]), (vI 2)])) (Res.many (by kernel_rfl) (Res1s.cons (Res1.agg rfl rfl (by kernel_rfl) (by kernel_rfl)) (Res1s.cons (Res1.tmp rfl) Res1s.nil))) (h' := []) rfl rfl ?_
          exact ⟨by rw [parseA_in (by assumption), parseW_bad (badR_true (by first | (exfalso; omega) | (left; omega) | (right; left; first | (rw [nWords_4 (by omega)]; first | assumption | omega) | (rw [nWords_3 (by omega)]; first | assumption | omega)) | (right; right; left; first | (rw [nWords_4 (by omega)]; first | assumption | omega) | (rw [nWords_3 (by omega)]; first | assumption | omega)) | (right; right; right; left; omega) | (right; right; right; right; left; exact ⟨i, by omega, by omega⟩) | (right; right; right; right; right; left; assumption) | (right; right; right; right; right; right; left; omega) | (right; right; right; right; right; right; right; exact ⟨by omega, .inl (by assumption)⟩) | (right; right; right; right; right; right; right; exact ⟨by omega, .inr (by assumption)⟩)))] <;> rfl, rfl⟩
         ·skip
          first | refine AWp.cast (show (mk [(1, (vI p)), (3, (.ref 1003 0)), (6, (.ref 1006 0)), (8, (.p (.sl false 1 ((splitS t).map D.cStr)))), (9, (vI (kindV (nth (splitS t) 0)))), (12, (vI ((numR (nth (splitS t) 1) (6 : Int)).1))), (13, (vB ((numR (nth (splitS t) 1) (6 : Int)).2)))] [(1003, (.box [(.p (.sl false 3 (c.Zones.map D.Zone.cells))), (.p (.sl false 6 (c.People.map D.Person.cells))), (.p (.sl false 3 (c.Calendars.map D.Calendar.cells))), (.p (.sl false 3 (c.Schedules.map D.Schedule.cells)))])), (1006, (.box [(vI 0), (vI 0), (vI 0), (vI 0), (vI 0), (vI 0)]))]) = (mk [(1, (vI p)), (3, (.ref 1003 0)), (6, (.ref 1006 0)), (8, (.p (.sl false 1 ((splitS t).map D.cStr)))), (9, (vI (kindV (nth (splitS t) 0)))), (12, (vI ((numR (nth (splitS t) 1) (6 : Int)).1))), (13, (vB true))] [(1003, (.box [(.p (.sl false 3 (c.Zones.map D.Zone.cells))), (.p (.sl false 6 (c.People.map D.Person.cells))), (.p (.sl false 3 (c.Calendars.map D.Calendar.cells))), (.p (.sl false 3 (c.Schedules.map D.Schedule.cells)))])), (1006, (.box [(vI 0), (vI 0), (vI 0), (vI 0), (vI 0), (vI 0)]))]) from by rw [hs34]) ?_ | skip
          refine AWp.s_reg hGn hGk (aa 6) (Man.aa _ _) [(1, (vI p)), (3, (.ref 1003 0)), (6, (.ref 1006 0)), (8, a'7), (9, (vI (kindV (nth (splitS t) 0)))), (12, (vI ((numR (nth (splitS t) 1) (6 : Int)).1))), (86, (vB (decide (((numR (nth (splitS t) 1) (6 : Int)).1) < (1 : Int)))))] [(1003, a'5), (1006, a'6)] (by kernel_rfl) (by kernel_rfl) ?_
          refine AWp.cond (decide (((numR (nth (splitS t) 1) (6 : Int)).1) < (1 : Int))) rfl (fun hc35 => ?_) (fun hc35 => ?_)
          ·skip
           replace hc35 := of_decide_eq_true hc35
           refine AWp.s_reg hGn hGk (aa 3) (Man.aa _ _) [(6, (.ref 1006 0)), (7, (vI 2))] [(1006, a'6)] (by kernel_rfl) (by kernel_rfl) ?_
           refine AWp.ret ?_
           refine nextQ_ret ?_
           refine fin_of (.inr rfl) (v := (.tup [(.agg [(vI 0), (vI 0), (vI 0), (vI 0), (vI 0), (vI 0)]), (vI 2)])) (Res.many (by kernel_rfl) (Res1s.cons (Res1.agg rfl rfl (by kernel_rfl) (by kernel_rfl)) (Res1s.cons (Res1.tmp rfl) Res1s.nil))) (h' := []) rfl rfl ?_
           exact ⟨by rw [parseA_in (by assumption), parseW_bad (badR_true (by first | (exfalso; omega) | (left; omega) | (right; left; first | (rw [nWords_4 (by omega)]; first | assumption | omega) | (rw [nWords_3 (by omega)]; first | assumption | omega)) | (right; right; left; first | (rw [nWords_4 (by omega)]; first | assumption | omega) | (rw [nWords_3 (by omega)]; first | assumption | omega)) | (right; right; right; left; omega) | (right; right; right; right; left; exact ⟨i, by omega, by omega⟩) | (right; right; right; right; right; left; assumption) | (right; right; right; right; right; right; left; omega) | (right; right; right; right; right; right; right; exact ⟨by omega, .inl (by assumption)⟩) | (right; right; right; right; right; right; right; exact ⟨by omega, .inr (by assumption)⟩)))] <;> rfl, rfl⟩
          ·skip
           replace hc35 := of_decide_eq_false hc35
           refine AWp.skip ?_
           refine nextQ_normal ?_
           refine AWp.seq ?_
           refine AWp.s_reg hGn hGk (aa 1) (Man.aa _ _) [(1, (vI p)), (3, (.ref 1003 0)), (6, (.ref 1006 0)), (8, a'7), (9, (vI (kindV (nth (splitS t) 0)))), (12, (vI ((numR (nth (splitS t) 1) (6 : Int)).1))), (14, (vI 0))] [(1003, a'5), (1006, a'6)] (by kernel_rfl) (by kernel_rfl) ?_
           refine AWp.block ?_
           refine AWp.loop (fun m s => ∃ i, s = (mk [(1, (vI p)), (3, (.ref 1003 0)), (6, (.ref 1006 0)), (8, (.p (.sl false 1 ((splitS t).map D.cStr)))), (9, (vI (kindV (nth (splitS t) 0)))), (12, (vI ((numR (nth (splitS t) 1) (6 : Int)).1))), (14, (vI ((i : Nat) : Int)))] [(1003, (.box [(.p (.sl false 3 (c.Zones.map D.Zone.cells))), (.p (.sl false 6 (c.People.map D.Person.cells))), (.p (.sl false 3 (c.Calendars.map D.Calendar.cells))), (.p (.sl false 3 (c.Schedules.map D.Schedule.cells)))])), (1006, (.box [(vI 0), (vI 0), (vI 0), (vI 0), (vI 0), (vI 0)]))]) ∧ (i ≤ 4) ∧ (∀ j, j < i → 48 ≤ bAt (nth (splitS t) 2) j ∧ bAt (nth (splitS t) 2) j ≤ 57) ∧ m = (4 - i))
            ⟨_, 0, rfl, (by omega), (by intro j hj; omega), rfl⟩ ?_
           rintro mm36 s ⟨i, rfl, hi, hd, hmm36⟩
           refine AWp.seq ?_
           refine AWp.s_reg hGn hGk (aa 2) (Man.aa _ _) [(1, (vI p)), (3, (.ref 1003 0)), (6, (.ref 1006 0)), (8, a'7), (9, (vI (kindV (nth (splitS t) 0)))), (12, (vI ((numR (nth (splitS t) 1) (6 : Int)).1))), (14, (vI ((i : Nat) : Int))), (89, (vB (decide (((i : Nat) : Int) < (4 : Int)))))] [(1003, a'5), (1006, a'6)] (by kernel_rfl) (by kernel_rfl) ?_
           refine AWp.cond (decide (((i : Nat) : Int) < (4 : Int))) rfl (fun hc37 => ?_) (fun hc37 => ?_)
           ·skip
            replace hc37 := of_decide_eq_true hc37
            refine AWp.skip ?_
            refine nextQ_normal ?_
            refine AWp.seq ?_
            refine AWp.block ?_
            by_cases hs38 : ((bAt (nth (splitS t) 2) i : Nat) : Int) < (48 : Int)
            ·skip
             first | refine AWp.cast (show (mk [(1, (vI p)), (3, (.ref 1003 0)), (6, (.ref 1006 0)), (8, (.p (.sl false 1 ((splitS t).map D.cStr)))), (9, (vI (kindV (nth (splitS t) 0)))), (12, (vI ((numR (nth (splitS t) 1) (6 : Int)).1))), (14, (vI ((i : Nat) : Int))), (89, (vB (decide (((i : Nat) : Int) < (4 : Int)))))] [(1003, (.box [(.p (.sl false 3 (c.Zones.map D.Zone.cells))), (.p (.sl false 6 (c.People.map D.Person.cells))), (.p (.sl false 3 (c.Calendars.map D.Calendar.cells))), (.p (.sl false 3 (c.Schedules.map D.Schedule.cells)))])), (1006, (.box [(vI 0), (vI 0), (vI 0), (vI 0), (vI 0), (vI 0)]))]) = (mk [(1, (vI p)), (3, (.ref 1003 0)), (6, (.ref 1006 0)), (8, (.p (.sl false 1 ((splitS t).map D.cStr)))), (9, (vI (kindV (nth (splitS t) 0)))), (12, (vI ((numR (nth (splitS t) 1) (6 : Int)).1))), (14, (vI ((i : Nat) : Int))), (89, (vB true))] [(1003, (.box [(.p (.sl false 3 (c.Zones.map D.Zone.cells))), (.p (.sl false 6 (c.People.map D.Person.cells))), (.p (.sl false 3 (c.Calendars.map D.Calendar.cells))), (.p (.sl false 3 (c.Schedules.map D.Schedule.cells)))])), (1006, (.box [(vI 0), (vI 0), (vI 0), (vI 0), (vI 0), (vI 0)]))]) from by rw [(decide_eq_true hc37)]) ?_ | skip
             refine AWp.s_reg hGn hGk [.a, .m (some 93) ⟨[(92, a'7)], [], (.eptr [(pS (nth (splitS t) 2))]), [], []⟩, .a, .a, .m (some 96) ⟨[(94, (vS (nth (splitS t) 2))), (95, (vI ((i : Nat) : Int)))], [], (vK .u8 ((bAt (nth (splitS t) 2) i : Nat) : Int)), [], []⟩, .m (some 97) ⟨[(96, (vK .u8 ((bAt (nth (splitS t) 2) i : Nat) : Int)))], [], (vB true), [], []⟩, .a, .a, .a, .a, .a, .a, .a, .a] ⟨StepOK.p rfl rfl rfl (OpOK.indexP (e := 9) rfl (by kernel_rfl) (by kernel_rfl) rfl rfl rfl (map_nth (show 2 < List.length (splitS t) by omega))),
              StepOK.p rfl rfl rfl (OpOK.indexS rfl (by kernel_rfl) rfl rfl rfl (by omega)),
              StepOK.p rfl rfl rfl (OpOK.lss rfl rfl rfl (decide_eq_true hs38)), trivial⟩ [(1, (vI p)), (3, (.ref 1003 0)), (6, (.ref 1006 0)), (8, a'7), (9, (vI (kindV (nth (splitS t) 0)))), (12, (vI ((numR (nth (splitS t) 1) (6 : Int)).1))), (14, (vI ((i : Nat) : Int))), (105, (vB true))] [(1003, a'5), (1006, a'6)] (by kernel_rfl) (by kernel_rfl) ?_
             refine AWp.cond_true rfl ?_
             refine AWp.s_reg hGn hGk (aa 3) (Man.aa _ _) [(6, (.ref 1006 0)), (7, (vI 2))] [(1006, a'6)] (by kernel_rfl) (by kernel_rfl) ?_
             refine AWp.ret ?_
             refine blockQ_ret ?_
             refine nextQ_ret ?_
             refine nextQ_ret ?_
             refine blockQ_ret ?_
             refine nextQ_ret ?_
             refine fin_of (.inr rfl) (v := (.tup [(.agg [(vI 0), (vI 0), (vI 0), (vI 0), (vI 0), (vI 0)]), (vI 2)])) (Res.many (by kernel_rfl) (Res1s.cons (Res1.agg rfl rfl (by kernel_rfl) (by kernel_rfl)) (Res1s.cons (Res1.tmp rfl) Res1s.nil))) (h' := []) rfl rfl ?_
             exact ⟨by rw [parseA_in (by assumption), parseW_bad (badR_true (by first | (exfalso; omega) | (left; omega) | (right; left; first | (rw [nWords_4 (by omega)]; first | assumption | omega) | (rw [nWords_3 (by omega)]; first | assumption | omega)) | (right; right; left; first | (rw [nWords_4 (by omega)]; first | assumption | omega) | (rw [nWords_3 (by omega)]; first | assumption | omega)) | (right; right; right; left; omega) | (right; right; right; right; left; exact ⟨i, by omega, by omega⟩) | (right; right; right; right; right; left; assumption) | (right; right; right; right; right; right; left; omega) | (right; right; right; right; right; right; right; exact ⟨by omega, .inl (by assumption)⟩) | (right; right; right; right; right; right; right; exact ⟨by omega, .inr (by assumption)⟩)))] <;> rfl, rfl⟩
            ·skip
             first | refine AWp.cast (show (mk [(1, (vI p)), (3, (.ref 1003 0)), (6, (.ref 1006 0)), (8, (.p (.sl false 1 ((splitS t).map D.cStr)))), (9, (vI (kindV (nth (splitS t) 0)))), (12, (vI ((numR (nth (splitS t) 1) (6 : Int)).1))), (14, (vI ((i : Nat) : Int))), (89, (vB (decide (((i : Nat) : Int) < (4 : Int)))))] [(1003, (.box [(.p (.sl false 3 (c.Zones.map D.Zone.cells))), (.p (.sl false 6 (c.People.map D.Person.cells))), (.p (.sl false 3 (c.Calendars.map D.Calendar.cells))), (.p (.sl false 3 (c.Schedules.map D.Schedule.cells)))])), (1006, (.box [(vI 0), (vI 0), (vI 0), (vI 0), (vI 0), (vI 0)]))]) = (mk [(1, (vI p)), (3, (.ref 1003 0)), (6, (.ref 1006 0)), (8, (.p (.sl false 1 ((splitS t).map D.cStr)))), (9, (vI (kindV (nth (splitS t) 0)))), (12, (vI ((numR (nth (splitS t) 1) (6 : Int)).1))), (14, (vI ((i : Nat) : Int))), (89, (vB true))] [(1003, (.box [(.p (.sl false 3 (c.Zones.map D.Zone.cells))), (.p (.sl false 6 (c.People.map D.Person.cells))), (.p (.sl false 3 (c.Calendars.map D.Calendar.cells))), (.p (.sl false 3 (c.Schedules.map D.Schedule.cells)))])), (1006, (.box [(vI 0), (vI 0), (vI 0), (vI 0), (vI 0), (vI 0)]))]) from by rw [(decide_eq_true hc37)]) ?_ | skip
             refine AWp.s_reg hGn hGk [.a, .m (some 93) ⟨[(92, a'7)], [], (.eptr [(pS (nth (splitS t) 2))]), [], []⟩, .a, .a, .m (some 96) ⟨[(94, (vS (nth (splitS t) 2))), (95, (vI ((i : Nat) : Int)))], [], (vK .u8 ((bAt (nth (splitS t) 2) i : Nat) : Int)), [], []⟩, .m (some 97) ⟨[(96, (vK .u8 ((bAt (nth (splitS t) 2) i : Nat) : Int)))], [], (vB false), [], []⟩, .a, .a, .m (some 100) ⟨[(99, a'7), (98, (vB false))], [], (.eptr [(pS (nth (splitS t) 2))]), [], []⟩, .a, .a, .m (some 103) ⟨[(101, (vS (nth (splitS t) 2))), (102, (vI ((i : Nat) : Int))), (98, (vB false))], [], (vK .u8 ((bAt (nth (splitS t) 2) i : Nat) : Int)), [], []⟩, .a, .a] ⟨StepOK.p rfl rfl rfl (OpOK.indexP (e := 9) rfl (by kernel_rfl) (by kernel_rfl) rfl rfl rfl (map_nth (show 2 < List.length (splitS t) by omega))),
              StepOK.p rfl rfl rfl (OpOK.indexS rfl (by kernel_rfl) rfl rfl rfl (by omega)),
              StepOK.p rfl rfl rfl (OpOK.lss rfl rfl rfl (decide_eq_false hs38)),
              StepOK.g rfl rfl rfl rfl rfl (by simp) (OpOK.indexP (e := 9) rfl (by kernel_rfl) (by kernel_rfl) rfl rfl rfl (map_nth (show 2 < List.length (splitS t) by omega))),
              StepOK.g rfl rfl rfl rfl rfl (by simp) (OpOK.indexS rfl (by kernel_rfl) rfl rfl rfl (by omega)), trivial⟩ [(1, (vI p)), (3, (.ref 1003 0)), (6, (.ref 1006 0)), (8, a'7), (9, (vI (kindV (nth (splitS t) 0)))), (12, (vI ((numR (nth (splitS t) 1) (6 : Int)).1))), (14, (vI ((i : Nat) : Int))), (105, (vB (decide ((57 : Int) < ((bAt (nth (splitS t) 2) i : Nat) : Int)))))] [(1003, a'5), (1006, a'6)] (by kernel_rfl) (by kernel_rfl) ?_
             refine AWp.cond (decide ((57 : Int) < ((bAt (nth (splitS t) 2) i : Nat) : Int))) rfl (fun hc39 => ?_) (fun hc39 => ?_)
             ·skip
              replace hc39 := of_decide_eq_true hc39
              refine AWp.s_reg hGn hGk (aa 3) (Man.aa _ _) [(6, (.ref 1006 0)), (7, (vI 2))] [(1006, a'6)] (by kernel_rfl) (by kernel_rfl) ?_
              refine AWp.ret ?_
              refine blockQ_ret ?_
              refine nextQ_ret ?_
              refine nextQ_ret ?_
              refine blockQ_ret ?_
              refine nextQ_ret ?_
              refine fin_of (.inr rfl) (v := (.tup [(.agg [(vI 0), (vI 0), (vI 0), (vI 0), (vI 0), (vI 0)]), (vI 2)])) (Res.many (by kernel_rfl) (Res1s.cons (Res1.agg rfl rfl (by kernel_rfl) (by kernel_rfl)) (Res1s.cons (Res1.tmp rfl) Res1s.nil))) (h' := []) rfl rfl ?_
              exact ⟨by rw [parseA_in (by assumption), parseW_bad (badR_true (by first | (exfalso; omega) | (left; omega) | (right; left; first | (rw [nWords_4 (by omega)]; first | assumption | omega) | (rw [nWords_3 (by omega)]; first | assumption | omega)) | (right; right; left; first | (rw [nWords_4 (by omega)]; first | assumption | omega) | (rw [nWords_3 (by omega)]; first | assumption | omega)) | (right; right; right; left; omega) | (right; right; right; right; left; exact ⟨i, by omega, by omega⟩) | (right; right; right; right; right; left; assumption) | (right; right; right; right; right; right; left; omega) | (right; right; right; right; right; right; right; exact ⟨by omega, .inl (by assumption)⟩) | (right; right; right; right; right; right; right; exact ⟨by omega, .inr (by assumption)⟩)))] <;> rfl, rfl⟩
             ·skip
              replace hc39 := of_decide_eq_false hc39
              refine AWp.skip ?_
              refine blockQ_normal ?_
              refine nextQ_normal ?_
              refine AWp.reg' hGn hGk [.a, .m (some 91) ⟨[(90, (vI ((i : Nat) : Int)))], [], (vI ((i + 1 : Nat) : Int)), [], []⟩, .a] ⟨StepOK.p rfl rfl rfl (OpOK.add rfl rfl rfl (by rw [IntWalk.i64_in _ ⟨by omega, by omega⟩]; omega)), trivial⟩ [(1, (vI p)), (3, (.ref 1003 0)), (6, (.ref 1006 0)), (8, a'7), (9, (vI (kindV (nth (splitS t) 0)))), (12, (vI ((numR (nth (splitS t) 1) (6 : Int)).1))), (14, (vI ((i + 1 : Nat) : Int)))] [(1003, a'5), (1006, a'6)] (by kernel_rfl) (by kernel_rfl) ?_
              refine nextQ_normal ⟨_, ?_, (i + 1), rfl, (by omega), (fun j hj => by rcases Nat.lt_or_ge j i with h | h; exact hd j h; rw [show j = i from by omega]; omega), rfl⟩
              · omega
           ·skip
            replace hc37 := of_decide_eq_false hc37
            refine AWp.weaken (mk [(1, (vI p)), (3, (.ref 1003 0)), (6, (.ref 1006 0)), (8, a'7), (9, (vI (kindV (nth (splitS t) 0)))), (12, (vI ((numR (nth (splitS t) 1) (6 : Int)).1)))] [(1003, a'5), (1006, a'6)]) (Weak.sub' hGk (by kernel_rfl)) ?_
            refine AWp.exit ?_
            refine nextQ_exit ?_
            refine nextQ_exit ?_
            refine blockQ_exit ?_
            refine nextQ_normal ?_
            let a'15 : AO := (.box [(vI 0), (vI ((numR (nth (splitS t) 1) (6 : Int)).1)), (vI p), (vI (kindV (nth (splitS t) 0))), (vI 0), (vI 0)])
            refine AWp.s_reg hGn hGk (aa 6) (Man.aa _ _) [(1, (vI p)), (3, (.ref 1003 0)), (6, (.ref 1006 0)), (8, a'7), (9, (vI (kindV (nth (splitS t) 0)))), (12, (vI ((numR (nth (splitS t) 1) (6 : Int)).1))), (15, (.ref 1015 0))] [(1003, a'5), (1006, a'6), (1015, a'15)] (by kernel_rfl) (by kernel_rfl) ?_
            refine AWp.seq ?_
            refine AWp.s_reg hGn hGk [.a, .m (some 112) ⟨[(111, (vI (kindV (nth (splitS t) 0))))], [], (vB false), [], []⟩] ⟨StepOK.p rfl rfl rfl (OpOK.eqlI rfl rfl rfl (decide_eq_false hs7)), trivial⟩ [(1, (vI p)), (3, (.ref 1003 0)), (6, (.ref 1006 0)), (8, a'7), (9, (vI (kindV (nth (splitS t) 0)))), (12, (vI ((numR (nth (splitS t) 1) (6 : Int)).1))), (15, (.ref 1015 0)), (112, (vB false))] [(1003, a'5), (1006, a'6), (1015, a'15)] (by kernel_rfl) (by kernel_rfl) ?_
            refine AWp.cond_false rfl ?_
            refine AWp.skip ?_
            refine nextQ_normal ?_
            refine AWp.seq ?_
            have hbad : badW (splitS t) (kindV (nth (splitS t) 0)) = false := badR_false (by omega) (by first | (rw [nWords_4 (by omega)]; first | assumption | omega) | (rw [nWords_3 (by omega)]; first | assumption | omega)) (by first | (rw [nWords_4 (by omega)]; first | assumption | omega) | (rw [nWords_3 (by omega)]; first | assumption | omega)) (by omega) (fun j hj => hd j (by omega)) (by assumption) (by omega) (fun h3 => by first | (exfalso; omega) | exact ⟨by assumption, by assumption⟩)
            have hpg : 1 ≤ atoiV (nth (splitS t) 1) ∧ atoiV (nth (splitS t) 1) ≤ 999999 := good_pg hbad
            refine AWp.cast (show (mk [(1, (vI p)), (3, (.ref 1003 0)), (6, (.ref 1006 0)), (8, (.p (.sl false 1 ((splitS t).map D.cStr)))), (9, (vI (kindV (nth (splitS t) 0)))), (12, (vI ((numR (nth (splitS t) 1) (6 : Int)).1))), (15, (.ref 1015 0)), (112, (vB false))] [(1003, (.box [(.p (.sl false 3 (c.Zones.map D.Zone.cells))), (.p (.sl false 6 (c.People.map D.Person.cells))), (.p (.sl false 3 (c.Calendars.map D.Calendar.cells))), (.p (.sl false 3 (c.Schedules.map D.Schedule.cells)))])), (1006, (.box [(vI 0), (vI 0), (vI 0), (vI 0), (vI 0), (vI 0)])), (1015, (.box [(vI 0), (vI ((numR (nth (splitS t) 1) (6 : Int)).1)), (vI p), (vI (kindV (nth (splitS t) 0))), (vI 0), (vI 0)]))]) = (mk [(1, (vI p)), (3, (.ref 1003 0)), (6, (.ref 1006 0)), (8, (.p (.sl false 1 ((splitS t).map D.cStr)))), (9, (vI (kindV (nth (splitS t) 0)))), (12, (vI (atoiV (nth (splitS t) 1)))), (15, (.ref 1015 0)), (112, (vB false))] [(1003, (.box [(.p (.sl false 3 (c.Zones.map D.Zone.cells))), (.p (.sl false 6 (c.People.map D.Person.cells))), (.p (.sl false 3 (c.Calendars.map D.Calendar.cells))), (.p (.sl false 3 (c.Schedules.map D.Schedule.cells)))])), (1006, (.box [(vI 0), (vI 0), (vI 0), (vI 0), (vI 0), (vI 0)])), (1015, (.box [(vI 0), (vI (atoiV (nth (splitS t) 1))), (vI p), (vI (kindV (nth (splitS t) 0))), (vI 0), (vI 0)]))]) from (by rw [good_page hbad])) ?_
            have hf40 := ansCode_le (atoiV (nth (splitS t) 1)) p
            let a'16 : AO := (.box [(vI 0), (vI (atoiV (nth (splitS t) 1))), (vI p), (vI (kindV (nth (splitS t) 0))), (vI 0), (vI 0)])
            refine AWp.s_dreg hGn hGk (by kernel_rfl) [.a, .m (some 131) ⟨[(130, a'7)], [], (.eptr [(pS (nth (splitS t) 2))]), [], []⟩, .a, .a, .a, .m (some 135) ⟨[(133, (vI (atoiV (nth (splitS t) 1)))), (134, (vI p))], [], (vS (digB (ansCode (atoiV (nth (splitS t) 1)) p))), [], []⟩, .a] ⟨StepOK.p rfl rfl rfl (OpOK.indexP (e := 9) rfl (by kernel_rfl) (by kernel_rfl) rfl rfl rfl (map_nth (show 2 < List.length (splitS t) by omega))),
             StepOK.p rfl rfl rfl (OpOK.call rfl (by kernel_rfl) rfl (r28_code (atoiV (nth (splitS t) 1)) p (inB_true (by omega)) (inB_true (by omega))) (by kernel_rfl)), trivial⟩ [(3, (.ref 1003 0)), (6, (.ref 1006 0)), (8, a'7), (9, (vI (kindV (nth (splitS t) 0)))), (15, (.ref 1015 0)), (136, (vB (decide ((nth (splitS t) 2) ≠ (digB (ansCode (atoiV (nth (splitS t) 1)) p))))))] [(1003, a'5), (1006, a'6), (1015, a'16)] (by kernel_rfl) (by kernel_rfl) (by kernel_rfl) ?_
            refine AWp.cond (decide ((nth (splitS t) 2) ≠ (digB (ansCode (atoiV (nth (splitS t) 1)) p)))) rfl (fun hc41 => ?_) (fun hc41 => ?_)
            ·skip
             replace hc41 := of_decide_eq_true hc41
             refine AWp.s_reg hGn hGk (aa 3) (Man.aa _ _) [(6, (.ref 1006 0)), (7, (vI 20))] [(1006, a'6)] (by kernel_rfl) (by kernel_rfl) ?_
             refine AWp.ret ?_
             refine nextQ_ret ?_
             refine fin_of (.inr rfl) (v := (.tup [(.agg [(vI 0), (vI 0), (vI 0), (vI 0), (vI 0), (vI 0)]), (vI 20)])) (Res.many (by kernel_rfl) (Res1s.cons (Res1.agg rfl rfl (by kernel_rfl) (by kernel_rfl)) (Res1s.cons (Res1.tmp rfl) Res1s.nil))) (h' := []) rfl rfl ?_
             exact ⟨by rw [parseA_in (by assumption), parseW_code hbad (by assumption)] <;> rfl, rfl⟩
            ·skip
             replace hc41 := of_decide_eq_false hc41
             refine AWp.skip ?_
             refine nextQ_normal ?_
             refine AWp.seq ?_
             refine AWp.s_reg hGn hGk [.a, .m (some 139) ⟨[(138, (vI (kindV (nth (splitS t) 0))))], [], (vB true), [], []⟩] ⟨StepOK.p rfl rfl rfl (OpOK.eqlI rfl rfl rfl (decide_eq_true hc29)), trivial⟩ [(3, (.ref 1003 0)), (6, (.ref 1006 0)), (8, a'7), (15, (.ref 1015 0)), (139, (vB true))] [(1003, a'5), (1006, a'6), (1015, a'16)] (by kernel_rfl) (by kernel_rfl) ?_
             refine AWp.cond_true rfl ?_
             let a'17 : AO := (.box [(vI 0), (vI (atoiV (nth (splitS t) 1))), (vI p), (vI (kindV (nth (splitS t) 0))), (vI (-1)), (vI 0)])
             refine AWp.s_reg hGn hGk (aa 2) (Man.aa _ _) [(3, (.ref 1003 0)), (6, (.ref 1006 0)), (8, a'7), (15, (.ref 1015 0))] [(1003, a'5), (1006, a'6), (1015, a'17)] (by kernel_rfl) (by kernel_rfl) ?_
             refine AWp.seq ?_
             refine AWp.s_reg hGn hGk (aa 1) (Man.aa _ _) [(3, (.ref 1003 0)), (6, (.ref 1006 0)), (8, a'7), (15, (.ref 1015 0)), (18, (vI 0))] [(1003, a'5), (1006, a'6), (1015, a'17)] (by kernel_rfl) (by kernel_rfl) ?_
             refine AWp.block ?_
             refine AWp.loop (fun m s => ∃ i2, s = (mk [(3, (.ref 1003 0)), (6, (.ref 1006 0)), (8, (.p (.sl false 1 ((splitS t).map D.cStr)))), (15, (.ref 1015 0)), (18, (vI ((i2 : Nat) : Int)))] [(1003, (.box [(.p (.sl false 3 (c.Zones.map D.Zone.cells))), (.p (.sl false 6 (c.People.map D.Person.cells))), (.p (.sl false 3 (c.Calendars.map D.Calendar.cells))), (.p (.sl false 3 (c.Schedules.map D.Schedule.cells)))])), (1006, (.box [(vI 0), (vI 0), (vI 0), (vI 0), (vI 0), (vI 0)])), (1015, (.box [(vI 0), (vI (atoiV (nth (splitS t) 1))), (vI p), (vI (kindV (nth (splitS t) 0))), (vI (lastP c.People (nth (splitS t) 3) i2)), (vI 0)]))]) ∧ (i2 ≤ c.People.length) ∧ m = (c.People.length - i2))
              ⟨_, 0, rfl, (by omega), rfl⟩ ?_
             rintro mm42 s ⟨i2, rfl, hi2, hmm42⟩
             have hll := lastP_le c.People (nth (splitS t) 3) i2
             refine AWp.seq ?_
             let a'18 : AO := (.box [(vI 0), (vI (atoiV (nth (splitS t) 1))), (vI p), (vI (kindV (nth (splitS t) 0))), (vI (lastP c.People (nth (splitS t) 3) i2)), (vI 0)])
             refine AWp.s_reg hGn hGk [.a, .a, .a, .m (some 144) ⟨[(143, a'2)], [], (vI ((c.People.length : Nat) : Int)), [], []⟩, .a] ⟨StepOK.p rfl rfl rfl (OpOK.lenP (e := 75) rfl rfl (by kernel_rfl) rfl (by rw [List.length_map])), trivial⟩ [(3, (.ref 1003 0)), (6, (.ref 1006 0)), (8, a'7), (15, (.ref 1015 0)), (18, (vI ((i2 : Nat) : Int))), (145, (vB (decide (((i2 : Nat) : Int) < ((c.People.length : Nat) : Int)))))] [(1003, a'5), (1006, a'6), (1015, a'18)] (by kernel_rfl) (by kernel_rfl) ?_
             refine AWp.cond (decide (((i2 : Nat) : Int) < ((c.People.length : Nat) : Int))) rfl (fun hc43 => ?_) (fun hc43 => ?_)
             ·skip
              replace hc43 := of_decide_eq_true hc43
              refine AWp.skip ?_
              refine nextQ_normal ?_
              refine AWp.seq ?_
              refine AWp.block ?_
              refine AWp.s_dreg hGn hGk (by kernel_rfl) [.a, .a, .a, .m (some 151) ⟨[(149, a'2), (150, (vI ((i2 : Nat) : Int)))], [], (.eptr [(pS ((nth c.People i2).Name)), (pI ((nth c.People i2).Zone)), (.sl false 2 (((nth c.People i2).Quiet).map D.Window.cells)), (pI ((nth c.People i2).MaxWeek)), (pI ((nth c.People i2).MinRest)), (pB ((nth c.People i2).Consent))]), [], []⟩, .a, .a, .a, .m (some 155) ⟨[(154, a'7)], [], (.eptr [(pS (nth (splitS t) 3))]), [], []⟩, .a, .a] ⟨StepOK.p rfl rfl rfl (OpOK.indexP (e := 75) rfl (by kernel_rfl) (by kernel_rfl) rfl rfl rfl (map_nth (by omega))),
               StepOK.p rfl rfl rfl (OpOK.indexP (e := 9) rfl (by kernel_rfl) (by kernel_rfl) rfl rfl rfl (map_nth (show 3 < List.length (splitS t) by omega))), trivial⟩ [(3, (.ref 1003 0)), (6, (.ref 1006 0)), (8, a'7), (15, (.ref 1015 0)), (18, (vI ((i2 : Nat) : Int))), (157, (vB (decide (((nth c.People i2).Name) = (nth (splitS t) 3)))))] [(1003, a'5), (1006, a'6), (1015, a'18)] (by kernel_rfl) (by kernel_rfl) (by kernel_rfl) ?_
              refine AWp.cond (decide (((nth c.People i2).Name) = (nth (splitS t) 3))) rfl (fun hc44 => ?_) (fun hc44 => ?_)
              ·skip
               replace hc44 := of_decide_eq_true hc44
               let a'19 : AO := (.box [(vI 0), (vI (atoiV (nth (splitS t) 1))), (vI p), (vI (kindV (nth (splitS t) 0))), (vI ((i2 : Nat) : Int)), (vI 0)])
               refine AWp.reg' hGn hGk (aa 3) (Man.aa _ _) [(3, (.ref 1003 0)), (6, (.ref 1006 0)), (8, a'7), (15, (.ref 1015 0)), (18, (vI ((i2 : Nat) : Int)))] [(1003, a'5), (1006, a'6), (1015, a'19)] (by kernel_rfl) (by kernel_rfl) ?_
               refine blockQ_normal ?_
               refine nextQ_normal ?_
               refine AWp.reg' hGn hGk [.a, .m (some 147) ⟨[(146, (vI ((i2 : Nat) : Int)))], [], (vI ((i2 + 1 : Nat) : Int)), [], []⟩, .a] ⟨StepOK.p rfl rfl rfl (OpOK.add rfl rfl rfl (by rw [IntWalk.i64_in _ ⟨by omega, by omega⟩]; omega)), trivial⟩ [(3, (.ref 1003 0)), (6, (.ref 1006 0)), (8, a'7), (15, (.ref 1015 0)), (18, (vI ((i2 + 1 : Nat) : Int)))] [(1003, a'5), (1006, a'6), (1015, a'19)] (by kernel_rfl) (by kernel_rfl) ?_
               refine nextQ_normal ⟨_, ?_, (i2 + 1), (by rw [lastP_hit (by assumption)] <;> rfl), (by omega), rfl⟩
               · omega
              ·skip
               replace hc44 := of_decide_eq_false hc44
               refine AWp.skip ?_
               refine blockQ_normal ?_
               refine nextQ_normal ?_
               refine AWp.reg' hGn hGk [.a, .m (some 147) ⟨[(146, (vI ((i2 : Nat) : Int)))], [], (vI ((i2 + 1 : Nat) : Int)), [], []⟩, .a] ⟨StepOK.p rfl rfl rfl (OpOK.add rfl rfl rfl (by rw [IntWalk.i64_in _ ⟨by omega, by omega⟩]; omega)), trivial⟩ [(3, (.ref 1003 0)), (6, (.ref 1006 0)), (8, a'7), (15, (.ref 1015 0)), (18, (vI ((i2 + 1 : Nat) : Int)))] [(1003, a'5), (1006, a'6), (1015, a'18)] (by kernel_rfl) (by kernel_rfl) ?_
               refine nextQ_normal ⟨_, ?_, (i2 + 1), (by rw [lastP_miss (by assumption)] <;> rfl), (by omega), rfl⟩
               · omega
             ·skip
              replace hc43 := of_decide_eq_false hc43
              refine AWp.weaken (mk [(6, (.ref 1006 0)), (15, (.ref 1015 0))] [(1006, a'6), (1015, a'18)]) (Weak.sub' hGk (by kernel_rfl)) ?_
              refine AWp.exit ?_
              refine nextQ_exit ?_
              refine nextQ_exit ?_
              refine blockQ_exit ?_
              refine nextQ_normal ?_
              have hlp : lastP c.People (nth (splitS t) 3) i2 = (if (person c.People (nth (splitS t) 3)).2 = true then (person c.People (nth (splitS t) 3)).1 else -1) := by rw [show i2 = c.People.length by omega]; exact lastP_person h (nth (splitS t) 3)
              have hpn := person_nn c.People (nth (splitS t) 3)
              refine AWp.s_reg hGn hGk (aa 3) (Man.aa _ _) [(6, (.ref 1006 0)), (15, (.ref 1015 0)), (162, (vB (decide ((lastP c.People (nth (splitS t) 3) i2) < (0 : Int)))))] [(1006, a'6), (1015, a'18)] (by kernel_rfl) (by kernel_rfl) ?_
              refine AWp.cond (decide ((lastP c.People (nth (splitS t) 3) i2) < (0 : Int))) rfl (fun hc45 => ?_) (fun hc45 => ?_)
              ·skip
               replace hc45 := of_decide_eq_true hc45
               refine AWp.s_reg hGn hGk (aa 3) (Man.aa _ _) [(6, (.ref 1006 0)), (7, (vI 3))] [(1006, a'6)] (by kernel_rfl) (by kernel_rfl) ?_
               refine AWp.ret ?_
               refine nextQ_ret ?_
               refine fin_of (.inr rfl) (v := (.tup [(.agg [(vI 0), (vI 0), (vI 0), (vI 0), (vI 0), (vI 0)]), (vI 3)])) (Res.many (by kernel_rfl) (Res1s.cons (Res1.agg rfl rfl (by kernel_rfl) (by kernel_rfl)) (Res1s.cons (Res1.tmp rfl) Res1s.nil))) (h' := []) rfl rfl ?_
               exact ⟨by rw [parseA_in (by assumption), parseW_person (by assumption) hbad (by assumption) (person_f hlp (by omega))] <;> rfl, rfl⟩
              ·skip
               replace hc45 := of_decide_eq_false hc45
               refine AWp.skip ?_
               refine nextQ_normal ?_
               refine AWp.cast (show (mk [(6, (.ref 1006 0)), (15, (.ref 1015 0)), (162, (vB (decide ((lastP c.People (nth (splitS t) 3) i2) < (0 : Int)))))] [(1006, (.box [(vI 0), (vI 0), (vI 0), (vI 0), (vI 0), (vI 0)])), (1015, (.box [(vI 0), (vI (atoiV (nth (splitS t) 1))), (vI p), (vI (kindV (nth (splitS t) 0))), (vI (lastP c.People (nth (splitS t) 3) i2)), (vI 0)]))]) = (mk [(6, (.ref 1006 0)), (15, (.ref 1015 0)), (162, (vB (decide ((lastP c.People (nth (splitS t) 3) i2) < (0 : Int)))))] [(1006, (.box [(vI 0), (vI 0), (vI 0), (vI 0), (vI 0), (vI 0)])), (1015, (.box [(vI 0), (vI (atoiV (nth (splitS t) 1))), (vI p), (vI (kindV (nth (splitS t) 0))), (vI ((person c.People (nth (splitS t) 3)).1)), (vI 0)]))]) from (by rw [hlp, if_pos (by first | assumption | (exact person_t hlp (by omega)))])) ?_
               refine AWp.s_reg hGn hGk (aa 3) (Man.aa _ _) [(6, (.ref 1006 0)), (7, (vI 0))] [(1006, (.box [(vI 0), (vI (atoiV (nth (splitS t) 1))), (vI p), (vI (kindV (nth (splitS t) 0))), (vI ((person c.People (nth (splitS t) 3)).1)), (vI 0)]))] (by kernel_rfl) (by kernel_rfl) ?_
               refine AWp.ret ?_
               refine fin_of (.inr rfl) (v := (.tup [(.agg [(vI 0), (vI (atoiV (nth (splitS t) 1))), (vI p), (vI (kindV (nth (splitS t) 0))), (vI ((person c.People (nth (splitS t) 3)).1)), (vI 0)]), (vI 0)])) (Res.many (by kernel_rfl) (Res1s.cons (Res1.agg rfl rfl (by kernel_rfl) (by kernel_rfl)) (Res1s.cons (Res1.tmp rfl) Res1s.nil))) (h' := []) rfl rfl ?_
               exact ⟨by rw [parseA_in (by assumption), parseW_hand (by assumption) hbad (by assumption) (person_t hlp (by omega))] <;> rfl, rfl⟩
    ·skip
     replace hc29 := of_decide_eq_false hc29
     refine AWp.skip ?_
     refine nextQ_normal ?_
     refine AWp.seq ?_
     by_cases hs46 : (kindV (nth (splitS t) 0)) = (0 : Int)
     ·skip
      first | refine AWp.cast (show (mk [(1, (vI p)), (3, (.ref 1003 0)), (6, (.ref 1006 0)), (8, (.p (.sl false 1 ((splitS t).map D.cStr)))), (9, (vI (kindV (nth (splitS t) 0)))), (11, (vI 3)), (49, (vB (decide ((kindV (nth (splitS t) 0)) = (4 : Int)))))] [(1003, (.box [(.p (.sl false 3 (c.Zones.map D.Zone.cells))), (.p (.sl false 6 (c.People.map D.Person.cells))), (.p (.sl false 3 (c.Calendars.map D.Calendar.cells))), (.p (.sl false 3 (c.Schedules.map D.Schedule.cells)))])), (1006, (.box [(vI 0), (vI 0), (vI 0), (vI 0), (vI 0), (vI 0)]))]) = (mk [(1, (vI p)), (3, (.ref 1003 0)), (6, (.ref 1006 0)), (8, (.p (.sl false 1 ((splitS t).map D.cStr)))), (9, (vI (kindV (nth (splitS t) 0)))), (11, (vI 3)), (49, (vB false))] [(1003, (.box [(.p (.sl false 3 (c.Zones.map D.Zone.cells))), (.p (.sl false 6 (c.People.map D.Person.cells))), (.p (.sl false 3 (c.Calendars.map D.Calendar.cells))), (.p (.sl false 3 (c.Schedules.map D.Schedule.cells)))])), (1006, (.box [(vI 0), (vI 0), (vI 0), (vI 0), (vI 0), (vI 0)]))]) from by rw [(decide_eq_false hc29)]) ?_ | skip
      refine AWp.s_reg hGn hGk [.a, .m (some 51) ⟨[(50, (vI (kindV (nth (splitS t) 0))))], [], (vB true), [], []⟩, .a, .a, .a, .a, .a, .a, .a, .a, .a, .a, .a, .a, .a, .a, .a, .a, .a, .a, .a, .a, .a] ⟨StepOK.p rfl rfl rfl (OpOK.eqlI rfl rfl rfl (decide_eq_true hs46)), trivial⟩ [(1, (vI p)), (3, (.ref 1003 0)), (6, (.ref 1006 0)), (8, a'7), (9, (vI (kindV (nth (splitS t) 0)))), (72, (vB true))] [(1003, a'5), (1006, a'6)] (by kernel_rfl) (by kernel_rfl) ?_
      refine AWp.cond_true rfl ?_
      refine AWp.s_reg hGn hGk (aa 3) (Man.aa _ _) [(6, (.ref 1006 0)), (7, (vI 2))] [(1006, a'6)] (by kernel_rfl) (by kernel_rfl) ?_
      refine AWp.ret ?_
      refine nextQ_ret ?_
      refine fin_of (.inr rfl) (v := (.tup [(.agg [(vI 0), (vI 0), (vI 0), (vI 0), (vI 0), (vI 0)]), (vI 2)])) (Res.many (by kernel_rfl) (Res1s.cons (Res1.agg rfl rfl (by kernel_rfl) (by kernel_rfl)) (Res1s.cons (Res1.tmp rfl) Res1s.nil))) (h' := []) rfl rfl ?_
      exact ⟨by rw [parseA_in (by assumption), parseW_bad (badR_true (by first | (exfalso; omega) | (left; omega) | (right; left; first | (rw [nWords_4 (by omega)]; first | assumption | omega) | (rw [nWords_3 (by omega)]; first | assumption | omega)) | (right; right; left; first | (rw [nWords_4 (by omega)]; first | assumption | omega) | (rw [nWords_3 (by omega)]; first | assumption | omega)) | (right; right; right; left; omega) | (right; right; right; right; left; exact ⟨i, by omega, by omega⟩) | (right; right; right; right; right; left; assumption) | (right; right; right; right; right; right; left; omega) | (right; right; right; right; right; right; right; exact ⟨by omega, .inl (by assumption)⟩) | (right; right; right; right; right; right; right; exact ⟨by omega, .inr (by assumption)⟩)))] <;> rfl, rfl⟩
     ·skip
      first | refine AWp.cast (show (mk [(1, (vI p)), (3, (.ref 1003 0)), (6, (.ref 1006 0)), (8, (.p (.sl false 1 ((splitS t).map D.cStr)))), (9, (vI (kindV (nth (splitS t) 0)))), (11, (vI 3)), (49, (vB (decide ((kindV (nth (splitS t) 0)) = (4 : Int)))))] [(1003, (.box [(.p (.sl false 3 (c.Zones.map D.Zone.cells))), (.p (.sl false 6 (c.People.map D.Person.cells))), (.p (.sl false 3 (c.Calendars.map D.Calendar.cells))), (.p (.sl false 3 (c.Schedules.map D.Schedule.cells)))])), (1006, (.box [(vI 0), (vI 0), (vI 0), (vI 0), (vI 0), (vI 0)]))]) = (mk [(1, (vI p)), (3, (.ref 1003 0)), (6, (.ref 1006 0)), (8, (.p (.sl false 1 ((splitS t).map D.cStr)))), (9, (vI (kindV (nth (splitS t) 0)))), (11, (vI 3)), (49, (vB false))] [(1003, (.box [(.p (.sl false 3 (c.Zones.map D.Zone.cells))), (.p (.sl false 6 (c.People.map D.Person.cells))), (.p (.sl false 3 (c.Calendars.map D.Calendar.cells))), (.p (.sl false 3 (c.Schedules.map D.Schedule.cells)))])), (1006, (.box [(vI 0), (vI 0), (vI 0), (vI 0), (vI 0), (vI 0)]))]) from by rw [(decide_eq_false hc29)]) ?_ | skip
      by_cases hs47 : (((splitS t).length : Nat) : Int) ≠ (3 : Int)
      ·skip
       refine AWp.s_reg hGn hGk [.a, .m (some 51) ⟨[(50, (vI (kindV (nth (splitS t) 0))))], [], (vB false), [], []⟩, .a, .a, .m (some 54) ⟨[(53, a'7), (52, (vB false))], [], (vI (((splitS t).length : Nat) : Int)), [], []⟩, .a, .m (some 56) ⟨[(54, (vI (((splitS t).length : Nat) : Int))), (55, (vI 3)), (52, (vB false))], [], (vB true), [], []⟩, .a, .a, .a, .a, .a, .a, .a, .a, .a, .a, .a, .a, .a, .a, .a, .a] ⟨StepOK.p rfl rfl rfl (OpOK.eqlI rfl rfl rfl (decide_eq_false hs46)),
        StepOK.g rfl rfl rfl rfl rfl (by simp) (OpOK.lenP (e := 9) rfl rfl (by kernel_rfl) rfl (by rw [List.length_map])),
        StepOK.g rfl rfl rfl rfl rfl (by simp) (OpOK.neqI rfl rfl rfl (decide_eq_true hs47)), trivial⟩ [(1, (vI p)), (3, (.ref 1003 0)), (6, (.ref 1006 0)), (8, a'7), (9, (vI (kindV (nth (splitS t) 0)))), (72, (vB true))] [(1003, a'5), (1006, a'6)] (by kernel_rfl) (by kernel_rfl) ?_
       refine AWp.cond_true rfl ?_
       refine AWp.s_reg hGn hGk (aa 3) (Man.aa _ _) [(6, (.ref 1006 0)), (7, (vI 2))] [(1006, a'6)] (by kernel_rfl) (by kernel_rfl) ?_
       refine AWp.ret ?_
       refine nextQ_ret ?_
       refine fin_of (.inr rfl) (v := (.tup [(.agg [(vI 0), (vI 0), (vI 0), (vI 0), (vI 0), (vI 0)]), (vI 2)])) (Res.many (by kernel_rfl) (Res1s.cons (Res1.agg rfl rfl (by kernel_rfl) (by kernel_rfl)) (Res1s.cons (Res1.tmp rfl) Res1s.nil))) (h' := []) rfl rfl ?_
       exact ⟨by rw [parseA_in (by assumption), parseW_bad (badR_true (by first | (exfalso; omega) | (left; omega) | (right; left; first | (rw [nWords_4 (by omega)]; first | assumption | omega) | (rw [nWords_3 (by omega)]; first | assumption | omega)) | (right; right; left; first | (rw [nWords_4 (by omega)]; first | assumption | omega) | (rw [nWords_3 (by omega)]; first | assumption | omega)) | (right; right; right; left; omega) | (right; right; right; right; left; exact ⟨i, by omega, by omega⟩) | (right; right; right; right; right; left; assumption) | (right; right; right; right; right; right; left; omega) | (right; right; right; right; right; right; right; exact ⟨by omega, .inl (by assumption)⟩) | (right; right; right; right; right; right; right; exact ⟨by omega, .inr (by assumption)⟩)))] <;> rfl, rfl⟩
      ·skip
       by_cases hs48 : (((nth (splitS t) 2).size : Nat) : Int) ≠ (4 : Int)
       ·skip
        refine AWp.s_reg hGn hGk [.a, .m (some 51) ⟨[(50, (vI (kindV (nth (splitS t) 0))))], [], (vB false), [], []⟩, .a, .a, .m (some 54) ⟨[(53, a'7), (52, (vB false))], [], (vI (((splitS t).length : Nat) : Int)), [], []⟩, .a, .m (some 56) ⟨[(54, (vI (((splitS t).length : Nat) : Int))), (55, (vI 3)), (52, (vB false))], [], (vB false), [], []⟩, .a, .a, .a, .m (some 60) ⟨[(59, a'7), (58, (vB false))], [], (.eptr [(pS (nth (splitS t) 2))]), [], []⟩, .a, .m (some 62) ⟨[(61, (vS (nth (splitS t) 2))), (58, (vB false))], [], (vI (((nth (splitS t) 2).size : Nat) : Int)), [], []⟩, .m (some 63) ⟨[(62, (vI (((nth (splitS t) 2).size : Nat) : Int))), (58, (vB false))], [], (vB true), [], []⟩, .a, .a, .a, .a, .a, .a, .a, .a, .a] ⟨StepOK.p rfl rfl rfl (OpOK.eqlI rfl rfl rfl (decide_eq_false hs46)),
         StepOK.g rfl rfl rfl rfl rfl (by simp) (OpOK.lenP (e := 9) rfl rfl (by kernel_rfl) rfl (by rw [List.length_map])),
         StepOK.g rfl rfl rfl rfl rfl (by simp) (OpOK.neqI rfl rfl rfl (decide_eq_false hs47)),
         StepOK.g rfl rfl rfl rfl rfl (by simp) (OpOK.indexP (e := 9) rfl (by kernel_rfl) (by kernel_rfl) rfl rfl rfl (map_nth (show 2 < List.length (splitS t) by omega))),
         StepOK.g rfl rfl rfl rfl rfl (by simp) (OpOK.lenS rfl rfl (by kernel_rfl) rfl),
         StepOK.g rfl rfl rfl rfl rfl (by simp) (OpOK.neqI rfl rfl rfl (decide_eq_true hs48)), trivial⟩ [(1, (vI p)), (3, (.ref 1003 0)), (6, (.ref 1006 0)), (8, a'7), (9, (vI (kindV (nth (splitS t) 0)))), (72, (vB true))] [(1003, a'5), (1006, a'6)] (by kernel_rfl) (by kernel_rfl) ?_
        refine AWp.cond_true rfl ?_
        refine AWp.s_reg hGn hGk (aa 3) (Man.aa _ _) [(6, (.ref 1006 0)), (7, (vI 2))] [(1006, a'6)] (by kernel_rfl) (by kernel_rfl) ?_
        refine AWp.ret ?_
        refine nextQ_ret ?_
        refine fin_of (.inr rfl) (v := (.tup [(.agg [(vI 0), (vI 0), (vI 0), (vI 0), (vI 0), (vI 0)]), (vI 2)])) (Res.many (by kernel_rfl) (Res1s.cons (Res1.agg rfl rfl (by kernel_rfl) (by kernel_rfl)) (Res1s.cons (Res1.tmp rfl) Res1s.nil))) (h' := []) rfl rfl ?_
        exact ⟨by rw [parseA_in (by assumption), parseW_bad (badR_true (by first | (exfalso; omega) | (left; omega) | (right; left; first | (rw [nWords_4 (by omega)]; first | assumption | omega) | (rw [nWords_3 (by omega)]; first | assumption | omega)) | (right; right; left; first | (rw [nWords_4 (by omega)]; first | assumption | omega) | (rw [nWords_3 (by omega)]; first | assumption | omega)) | (right; right; right; left; omega) | (right; right; right; right; left; exact ⟨i, by omega, by omega⟩) | (right; right; right; right; right; left; assumption) | (right; right; right; right; right; right; left; omega) | (right; right; right; right; right; right; right; exact ⟨by omega, .inl (by assumption)⟩) | (right; right; right; right; right; right; right; exact ⟨by omega, .inr (by assumption)⟩)))] <;> rfl, rfl⟩
       ·skip
        refine AWp.s_reg hGn hGk [.a, .m (some 51) ⟨[(50, (vI (kindV (nth (splitS t) 0))))], [], (vB false), [], []⟩, .a, .a, .m (some 54) ⟨[(53, a'7), (52, (vB false))], [], (vI (((splitS t).length : Nat) : Int)), [], []⟩, .a, .m (some 56) ⟨[(54, (vI (((splitS t).length : Nat) : Int))), (55, (vI 3)), (52, (vB false))], [], (vB false), [], []⟩, .a, .a, .a, .m (some 60) ⟨[(59, a'7), (58, (vB false))], [], (.eptr [(pS (nth (splitS t) 2))]), [], []⟩, .a, .m (some 62) ⟨[(61, (vS (nth (splitS t) 2))), (58, (vB false))], [], (vI (((nth (splitS t) 2).size : Nat) : Int)), [], []⟩, .m (some 63) ⟨[(62, (vI (((nth (splitS t) 2).size : Nat) : Int))), (58, (vB false))], [], (vB false), [], []⟩, .a, .a, .a, .a, .m (some 68) ⟨[(67, (vI 3)), (65, (vB false))], [], (vI 2), [], []⟩, .m (some 69) ⟨[(66, a'7), (68, (vI 2)), (65, (vB false))], [], (.eptr [(pS (nth (splitS t) 2))]), [], []⟩, .a, .a, .a] ⟨StepOK.p rfl rfl rfl (OpOK.eqlI rfl rfl rfl (decide_eq_false hs46)),
         StepOK.g rfl rfl rfl rfl rfl (by simp) (OpOK.lenP (e := 9) rfl rfl (by kernel_rfl) rfl (by rw [List.length_map])),
         StepOK.g rfl rfl rfl rfl rfl (by simp) (OpOK.neqI rfl rfl rfl (decide_eq_false hs47)),
         StepOK.g rfl rfl rfl rfl rfl (by simp) (OpOK.indexP (e := 9) rfl (by kernel_rfl) (by kernel_rfl) rfl rfl rfl (map_nth (show 2 < List.length (splitS t) by omega))),
         StepOK.g rfl rfl rfl rfl rfl (by simp) (OpOK.lenS rfl rfl (by kernel_rfl) rfl),
         StepOK.g rfl rfl rfl rfl rfl (by simp) (OpOK.neqI rfl rfl rfl (decide_eq_false hs48)),
         StepOK.g rfl rfl rfl rfl rfl (by simp) (OpOK.sub rfl rfl rfl (by decide)),
         StepOK.g rfl rfl rfl rfl rfl (by simp) (OpOK.indexP (e := 9) rfl (by kernel_rfl) (by kernel_rfl) rfl rfl rfl (map_nth (show 2 < List.length (splitS t) by omega))), trivial⟩ [(1, (vI p)), (3, (.ref 1003 0)), (6, (.ref 1006 0)), (8, a'7), (9, (vI (kindV (nth (splitS t) 0)))), (72, (vB (decide ((nth (splitS t) 2) = (ByteArray.mk #[])))))] [(1003, a'5), (1006, a'6)] (by kernel_rfl) (by kernel_rfl) ?_
        refine AWp.cond (decide ((nth (splitS t) 2) = (ByteArray.mk #[]))) rfl (fun hc49 => ?_) (fun hc49 => ?_)
        ·skip
         replace hc49 := of_decide_eq_true hc49
         refine AWp.s_reg hGn hGk (aa 3) (Man.aa _ _) [(6, (.ref 1006 0)), (7, (vI 2))] [(1006, a'6)] (by kernel_rfl) (by kernel_rfl) ?_
         refine AWp.ret ?_
         refine nextQ_ret ?_
         refine fin_of (.inr rfl) (v := (.tup [(.agg [(vI 0), (vI 0), (vI 0), (vI 0), (vI 0), (vI 0)]), (vI 2)])) (Res.many (by kernel_rfl) (Res1s.cons (Res1.agg rfl rfl (by kernel_rfl) (by kernel_rfl)) (Res1s.cons (Res1.tmp rfl) Res1s.nil))) (h' := []) rfl rfl ?_
         exact ⟨by rw [parseA_in (by assumption), parseW_bad (badR_true (by first | (exfalso; omega) | (left; omega) | (right; left; first | (rw [nWords_4 (by omega)]; first | assumption | omega) | (rw [nWords_3 (by omega)]; first | assumption | omega)) | (right; right; left; first | (rw [nWords_4 (by omega)]; first | assumption | omega) | (rw [nWords_3 (by omega)]; first | assumption | omega)) | (right; right; right; left; omega) | (right; right; right; right; left; exact ⟨i, by omega, by omega⟩) | (right; right; right; right; right; left; assumption) | (right; right; right; right; right; right; left; omega) | (right; right; right; right; right; right; right; exact ⟨by omega, .inl (by assumption)⟩) | (right; right; right; right; right; right; right; exact ⟨by omega, .inr (by assumption)⟩)))] <;> rfl, rfl⟩
        ·skip
         replace hc49 := of_decide_eq_false hc49
         refine AWp.skip ?_
         refine nextQ_normal ?_
         let a'20 : AV := (.tup [(vI ((numR (nth (splitS t) 1) (6 : Int)).1)), (vB ((numR (nth (splitS t) 1) (6 : Int)).2))])
         refine AWp.s_reg hGn hGk [.a, .m (some 76) ⟨[(75, a'7)], [], (.eptr [(pS (nth (splitS t) 1))]), [], []⟩, .a, .m (some 78) ⟨[(77, (vS (nth (splitS t) 1)))], [], a'20, [], []⟩, .a, .a, .a, .a, .a] ⟨StepOK.p rfl rfl rfl (OpOK.indexP (e := 9) rfl (by kernel_rfl) (by kernel_rfl) rfl rfl rfl (map_nth (show 1 < List.length (splitS t) by omega))),
          StepOK.p rfl rfl rfl (OpOK.call rfl (by kernel_rfl) rfl (ref_Number (nth (splitS t) 1) (6 : Int) (by omega) (by omega)) (by kernel_rfl)), trivial⟩ [(1, (vI p)), (3, (.ref 1003 0)), (6, (.ref 1006 0)), (8, a'7), (9, (vI (kindV (nth (splitS t) 0)))), (12, (vI ((numR (nth (splitS t) 1) (6 : Int)).1))), (13, (vB ((numR (nth (splitS t) 1) (6 : Int)).2)))] [(1003, a'5), (1006, a'6)] (by kernel_rfl) (by kernel_rfl) ?_
         refine AWp.seq ?_
         cases hs50 : (numR (nth (splitS t) 1) (6 : Int)).2
         ·skip
          first | refine AWp.cast (show (mk [(1, (vI p)), (3, (.ref 1003 0)), (6, (.ref 1006 0)), (8, (.p (.sl false 1 ((splitS t).map D.cStr)))), (9, (vI (kindV (nth (splitS t) 0)))), (12, (vI ((numR (nth (splitS t) 1) (6 : Int)).1))), (13, (vB ((numR (nth (splitS t) 1) (6 : Int)).2)))] [(1003, (.box [(.p (.sl false 3 (c.Zones.map D.Zone.cells))), (.p (.sl false 6 (c.People.map D.Person.cells))), (.p (.sl false 3 (c.Calendars.map D.Calendar.cells))), (.p (.sl false 3 (c.Schedules.map D.Schedule.cells)))])), (1006, (.box [(vI 0), (vI 0), (vI 0), (vI 0), (vI 0), (vI 0)]))]) = (mk [(1, (vI p)), (3, (.ref 1003 0)), (6, (.ref 1006 0)), (8, (.p (.sl false 1 ((splitS t).map D.cStr)))), (9, (vI (kindV (nth (splitS t) 0)))), (12, (vI ((numR (nth (splitS t) 1) (6 : Int)).1))), (13, (vB false))] [(1003, (.box [(.p (.sl false 3 (c.Zones.map D.Zone.cells))), (.p (.sl false 6 (c.People.map D.Person.cells))), (.p (.sl false 3 (c.Calendars.map D.Calendar.cells))), (.p (.sl false 3 (c.Schedules.map D.Schedule.cells)))])), (1006, (.box [(vI 0), (vI 0), (vI 0), (vI 0), (vI 0), (vI 0)]))]) from by rw [hs50]) ?_ | skip
          refine AWp.s_reg hGn hGk (aa 6) (Man.aa _ _) [(1, (vI p)), (3, (.ref 1003 0)), (6, (.ref 1006 0)), (8, a'7), (9, (vI (kindV (nth (splitS t) 0)))), (12, (vI ((numR (nth (splitS t) 1) (6 : Int)).1))), (86, (vB true))] [(1003, a'5), (1006, a'6)] (by kernel_rfl) (by kernel_rfl) ?_
          refine AWp.cond_true rfl ?_
          refine AWp.s_reg hGn hGk (aa 3) (Man.aa _ _) [(6, (.ref 1006 0)), (7, (vI 2))] [(1006, a'6)] (by kernel_rfl) (by kernel_rfl) ?_
          refine AWp.ret ?_
          refine nextQ_ret ?_
          refine fin_of (.inr rfl) (v := (.tup [(.agg [(vI 0), (vI 0), (vI 0), (vI 0), (vI 0), (vI 0)]), (vI 2)])) (Res.many (by kernel_rfl) (Res1s.cons (Res1.agg rfl rfl (by kernel_rfl) (by kernel_rfl)) (Res1s.cons (Res1.tmp rfl) Res1s.nil))) (h' := []) rfl rfl ?_
          exact ⟨by rw [parseA_in (by assumption), parseW_bad (badR_true (by first | (exfalso; omega) | (left; omega) | (right; left; first | (rw [nWords_4 (by omega)]; first | assumption | omega) | (rw [nWords_3 (by omega)]; first | assumption | omega)) | (right; right; left; first | (rw [nWords_4 (by omega)]; first | assumption | omega) | (rw [nWords_3 (by omega)]; first | assumption | omega)) | (right; right; right; left; omega) | (right; right; right; right; left; exact ⟨i, by omega, by omega⟩) | (right; right; right; right; right; left; assumption) | (right; right; right; right; right; right; left; omega) | (right; right; right; right; right; right; right; exact ⟨by omega, .inl (by assumption)⟩) | (right; right; right; right; right; right; right; exact ⟨by omega, .inr (by assumption)⟩)))] <;> rfl, rfl⟩
         ·skip
          first | refine AWp.cast (show (mk [(1, (vI p)), (3, (.ref 1003 0)), (6, (.ref 1006 0)), (8, (.p (.sl false 1 ((splitS t).map D.cStr)))), (9, (vI (kindV (nth (splitS t) 0)))), (12, (vI ((numR (nth (splitS t) 1) (6 : Int)).1))), (13, (vB ((numR (nth (splitS t) 1) (6 : Int)).2)))] [(1003, (.box [(.p (.sl false 3 (c.Zones.map D.Zone.cells))), (.p (.sl false 6 (c.People.map D.Person.cells))), (.p (.sl false 3 (c.Calendars.map D.Calendar.cells))), (.p (.sl false 3 (c.Schedules.map D.Schedule.cells)))])), (1006, (.box [(vI 0), (vI 0), (vI 0), (vI 0), (vI 0), (vI 0)]))]) = (mk [(1, (vI p)), (3, (.ref 1003 0)), (6, (.ref 1006 0)), (8, (.p (.sl false 1 ((splitS t).map D.cStr)))), (9, (vI (kindV (nth (splitS t) 0)))), (12, (vI ((numR (nth (splitS t) 1) (6 : Int)).1))), (13, (vB true))] [(1003, (.box [(.p (.sl false 3 (c.Zones.map D.Zone.cells))), (.p (.sl false 6 (c.People.map D.Person.cells))), (.p (.sl false 3 (c.Calendars.map D.Calendar.cells))), (.p (.sl false 3 (c.Schedules.map D.Schedule.cells)))])), (1006, (.box [(vI 0), (vI 0), (vI 0), (vI 0), (vI 0), (vI 0)]))]) from by rw [hs50]) ?_ | skip
          refine AWp.s_reg hGn hGk (aa 6) (Man.aa _ _) [(1, (vI p)), (3, (.ref 1003 0)), (6, (.ref 1006 0)), (8, a'7), (9, (vI (kindV (nth (splitS t) 0)))), (12, (vI ((numR (nth (splitS t) 1) (6 : Int)).1))), (86, (vB (decide (((numR (nth (splitS t) 1) (6 : Int)).1) < (1 : Int)))))] [(1003, a'5), (1006, a'6)] (by kernel_rfl) (by kernel_rfl) ?_
          refine AWp.cond (decide (((numR (nth (splitS t) 1) (6 : Int)).1) < (1 : Int))) rfl (fun hc51 => ?_) (fun hc51 => ?_)
          ·skip
           replace hc51 := of_decide_eq_true hc51
           refine AWp.s_reg hGn hGk (aa 3) (Man.aa _ _) [(6, (.ref 1006 0)), (7, (vI 2))] [(1006, a'6)] (by kernel_rfl) (by kernel_rfl) ?_
           refine AWp.ret ?_
           refine nextQ_ret ?_
           refine fin_of (.inr rfl) (v := (.tup [(.agg [(vI 0), (vI 0), (vI 0), (vI 0), (vI 0), (vI 0)]), (vI 2)])) (Res.many (by kernel_rfl) (Res1s.cons (Res1.agg rfl rfl (by kernel_rfl) (by kernel_rfl)) (Res1s.cons (Res1.tmp rfl) Res1s.nil))) (h' := []) rfl rfl ?_
           exact ⟨by rw [parseA_in (by assumption), parseW_bad (badR_true (by first | (exfalso; omega) | (left; omega) | (right; left; first | (rw [nWords_4 (by omega)]; first | assumption | omega) | (rw [nWords_3 (by omega)]; first | assumption | omega)) | (right; right; left; first | (rw [nWords_4 (by omega)]; first | assumption | omega) | (rw [nWords_3 (by omega)]; first | assumption | omega)) | (right; right; right; left; omega) | (right; right; right; right; left; exact ⟨i, by omega, by omega⟩) | (right; right; right; right; right; left; assumption) | (right; right; right; right; right; right; left; omega) | (right; right; right; right; right; right; right; exact ⟨by omega, .inl (by assumption)⟩) | (right; right; right; right; right; right; right; exact ⟨by omega, .inr (by assumption)⟩)))] <;> rfl, rfl⟩
          ·skip
           replace hc51 := of_decide_eq_false hc51
           refine AWp.skip ?_
           refine nextQ_normal ?_
           refine AWp.seq ?_
           refine AWp.s_reg hGn hGk (aa 1) (Man.aa _ _) [(1, (vI p)), (3, (.ref 1003 0)), (6, (.ref 1006 0)), (8, a'7), (9, (vI (kindV (nth (splitS t) 0)))), (12, (vI ((numR (nth (splitS t) 1) (6 : Int)).1))), (14, (vI 0))] [(1003, a'5), (1006, a'6)] (by kernel_rfl) (by kernel_rfl) ?_
           refine AWp.block ?_
           refine AWp.loop (fun m s => ∃ i, s = (mk [(1, (vI p)), (3, (.ref 1003 0)), (6, (.ref 1006 0)), (8, (.p (.sl false 1 ((splitS t).map D.cStr)))), (9, (vI (kindV (nth (splitS t) 0)))), (12, (vI ((numR (nth (splitS t) 1) (6 : Int)).1))), (14, (vI ((i : Nat) : Int)))] [(1003, (.box [(.p (.sl false 3 (c.Zones.map D.Zone.cells))), (.p (.sl false 6 (c.People.map D.Person.cells))), (.p (.sl false 3 (c.Calendars.map D.Calendar.cells))), (.p (.sl false 3 (c.Schedules.map D.Schedule.cells)))])), (1006, (.box [(vI 0), (vI 0), (vI 0), (vI 0), (vI 0), (vI 0)]))]) ∧ (i ≤ 4) ∧ (∀ j, j < i → 48 ≤ bAt (nth (splitS t) 2) j ∧ bAt (nth (splitS t) 2) j ≤ 57) ∧ m = (4 - i))
            ⟨_, 0, rfl, (by omega), (by intro j hj; omega), rfl⟩ ?_
           rintro mm52 s ⟨i, rfl, hi, hd, hmm52⟩
           refine AWp.seq ?_
           refine AWp.s_reg hGn hGk (aa 2) (Man.aa _ _) [(1, (vI p)), (3, (.ref 1003 0)), (6, (.ref 1006 0)), (8, a'7), (9, (vI (kindV (nth (splitS t) 0)))), (12, (vI ((numR (nth (splitS t) 1) (6 : Int)).1))), (14, (vI ((i : Nat) : Int))), (89, (vB (decide (((i : Nat) : Int) < (4 : Int)))))] [(1003, a'5), (1006, a'6)] (by kernel_rfl) (by kernel_rfl) ?_
           refine AWp.cond (decide (((i : Nat) : Int) < (4 : Int))) rfl (fun hc53 => ?_) (fun hc53 => ?_)
           ·skip
            replace hc53 := of_decide_eq_true hc53
            refine AWp.skip ?_
            refine nextQ_normal ?_
            refine AWp.seq ?_
            refine AWp.block ?_
            by_cases hs54 : ((bAt (nth (splitS t) 2) i : Nat) : Int) < (48 : Int)
            ·skip
             first | refine AWp.cast (show (mk [(1, (vI p)), (3, (.ref 1003 0)), (6, (.ref 1006 0)), (8, (.p (.sl false 1 ((splitS t).map D.cStr)))), (9, (vI (kindV (nth (splitS t) 0)))), (12, (vI ((numR (nth (splitS t) 1) (6 : Int)).1))), (14, (vI ((i : Nat) : Int))), (89, (vB (decide (((i : Nat) : Int) < (4 : Int)))))] [(1003, (.box [(.p (.sl false 3 (c.Zones.map D.Zone.cells))), (.p (.sl false 6 (c.People.map D.Person.cells))), (.p (.sl false 3 (c.Calendars.map D.Calendar.cells))), (.p (.sl false 3 (c.Schedules.map D.Schedule.cells)))])), (1006, (.box [(vI 0), (vI 0), (vI 0), (vI 0), (vI 0), (vI 0)]))]) = (mk [(1, (vI p)), (3, (.ref 1003 0)), (6, (.ref 1006 0)), (8, (.p (.sl false 1 ((splitS t).map D.cStr)))), (9, (vI (kindV (nth (splitS t) 0)))), (12, (vI ((numR (nth (splitS t) 1) (6 : Int)).1))), (14, (vI ((i : Nat) : Int))), (89, (vB true))] [(1003, (.box [(.p (.sl false 3 (c.Zones.map D.Zone.cells))), (.p (.sl false 6 (c.People.map D.Person.cells))), (.p (.sl false 3 (c.Calendars.map D.Calendar.cells))), (.p (.sl false 3 (c.Schedules.map D.Schedule.cells)))])), (1006, (.box [(vI 0), (vI 0), (vI 0), (vI 0), (vI 0), (vI 0)]))]) from by rw [(decide_eq_true hc53)]) ?_ | skip
             refine AWp.s_reg hGn hGk [.a, .m (some 93) ⟨[(92, a'7)], [], (.eptr [(pS (nth (splitS t) 2))]), [], []⟩, .a, .a, .m (some 96) ⟨[(94, (vS (nth (splitS t) 2))), (95, (vI ((i : Nat) : Int)))], [], (vK .u8 ((bAt (nth (splitS t) 2) i : Nat) : Int)), [], []⟩, .m (some 97) ⟨[(96, (vK .u8 ((bAt (nth (splitS t) 2) i : Nat) : Int)))], [], (vB true), [], []⟩, .a, .a, .a, .a, .a, .a, .a, .a] ⟨StepOK.p rfl rfl rfl (OpOK.indexP (e := 9) rfl (by kernel_rfl) (by kernel_rfl) rfl rfl rfl (map_nth (show 2 < List.length (splitS t) by omega))),
              StepOK.p rfl rfl rfl (OpOK.indexS rfl (by kernel_rfl) rfl rfl rfl (by omega)),
              StepOK.p rfl rfl rfl (OpOK.lss rfl rfl rfl (decide_eq_true hs54)), trivial⟩ [(1, (vI p)), (3, (.ref 1003 0)), (6, (.ref 1006 0)), (8, a'7), (9, (vI (kindV (nth (splitS t) 0)))), (12, (vI ((numR (nth (splitS t) 1) (6 : Int)).1))), (14, (vI ((i : Nat) : Int))), (105, (vB true))] [(1003, a'5), (1006, a'6)] (by kernel_rfl) (by kernel_rfl) ?_
             refine AWp.cond_true rfl ?_
             refine AWp.s_reg hGn hGk (aa 3) (Man.aa _ _) [(6, (.ref 1006 0)), (7, (vI 2))] [(1006, a'6)] (by kernel_rfl) (by kernel_rfl) ?_
             refine AWp.ret ?_
             refine blockQ_ret ?_
             refine nextQ_ret ?_
             refine nextQ_ret ?_
             refine blockQ_ret ?_
             refine nextQ_ret ?_
             refine fin_of (.inr rfl) (v := (.tup [(.agg [(vI 0), (vI 0), (vI 0), (vI 0), (vI 0), (vI 0)]), (vI 2)])) (Res.many (by kernel_rfl) (Res1s.cons (Res1.agg rfl rfl (by kernel_rfl) (by kernel_rfl)) (Res1s.cons (Res1.tmp rfl) Res1s.nil))) (h' := []) rfl rfl ?_
             exact ⟨by rw [parseA_in (by assumption), parseW_bad (badR_true (by first | (exfalso; omega) | (left; omega) | (right; left; first | (rw [nWords_4 (by omega)]; first | assumption | omega) | (rw [nWords_3 (by omega)]; first | assumption | omega)) | (right; right; left; first | (rw [nWords_4 (by omega)]; first | assumption | omega) | (rw [nWords_3 (by omega)]; first | assumption | omega)) | (right; right; right; left; omega) | (right; right; right; right; left; exact ⟨i, by omega, by omega⟩) | (right; right; right; right; right; left; assumption) | (right; right; right; right; right; right; left; omega) | (right; right; right; right; right; right; right; exact ⟨by omega, .inl (by assumption)⟩) | (right; right; right; right; right; right; right; exact ⟨by omega, .inr (by assumption)⟩)))] <;> rfl, rfl⟩
            ·skip
             first | refine AWp.cast (show (mk [(1, (vI p)), (3, (.ref 1003 0)), (6, (.ref 1006 0)), (8, (.p (.sl false 1 ((splitS t).map D.cStr)))), (9, (vI (kindV (nth (splitS t) 0)))), (12, (vI ((numR (nth (splitS t) 1) (6 : Int)).1))), (14, (vI ((i : Nat) : Int))), (89, (vB (decide (((i : Nat) : Int) < (4 : Int)))))] [(1003, (.box [(.p (.sl false 3 (c.Zones.map D.Zone.cells))), (.p (.sl false 6 (c.People.map D.Person.cells))), (.p (.sl false 3 (c.Calendars.map D.Calendar.cells))), (.p (.sl false 3 (c.Schedules.map D.Schedule.cells)))])), (1006, (.box [(vI 0), (vI 0), (vI 0), (vI 0), (vI 0), (vI 0)]))]) = (mk [(1, (vI p)), (3, (.ref 1003 0)), (6, (.ref 1006 0)), (8, (.p (.sl false 1 ((splitS t).map D.cStr)))), (9, (vI (kindV (nth (splitS t) 0)))), (12, (vI ((numR (nth (splitS t) 1) (6 : Int)).1))), (14, (vI ((i : Nat) : Int))), (89, (vB true))] [(1003, (.box [(.p (.sl false 3 (c.Zones.map D.Zone.cells))), (.p (.sl false 6 (c.People.map D.Person.cells))), (.p (.sl false 3 (c.Calendars.map D.Calendar.cells))), (.p (.sl false 3 (c.Schedules.map D.Schedule.cells)))])), (1006, (.box [(vI 0), (vI 0), (vI 0), (vI 0), (vI 0), (vI 0)]))]) from by rw [(decide_eq_true hc53)]) ?_ | skip
             refine AWp.s_reg hGn hGk [.a, .m (some 93) ⟨[(92, a'7)], [], (.eptr [(pS (nth (splitS t) 2))]), [], []⟩, .a, .a, .m (some 96) ⟨[(94, (vS (nth (splitS t) 2))), (95, (vI ((i : Nat) : Int)))], [], (vK .u8 ((bAt (nth (splitS t) 2) i : Nat) : Int)), [], []⟩, .m (some 97) ⟨[(96, (vK .u8 ((bAt (nth (splitS t) 2) i : Nat) : Int)))], [], (vB false), [], []⟩, .a, .a, .m (some 100) ⟨[(99, a'7), (98, (vB false))], [], (.eptr [(pS (nth (splitS t) 2))]), [], []⟩, .a, .a, .m (some 103) ⟨[(101, (vS (nth (splitS t) 2))), (102, (vI ((i : Nat) : Int))), (98, (vB false))], [], (vK .u8 ((bAt (nth (splitS t) 2) i : Nat) : Int)), [], []⟩, .a, .a] ⟨StepOK.p rfl rfl rfl (OpOK.indexP (e := 9) rfl (by kernel_rfl) (by kernel_rfl) rfl rfl rfl (map_nth (show 2 < List.length (splitS t) by omega))),
              StepOK.p rfl rfl rfl (OpOK.indexS rfl (by kernel_rfl) rfl rfl rfl (by omega)),
              StepOK.p rfl rfl rfl (OpOK.lss rfl rfl rfl (decide_eq_false hs54)),
              StepOK.g rfl rfl rfl rfl rfl (by simp) (OpOK.indexP (e := 9) rfl (by kernel_rfl) (by kernel_rfl) rfl rfl rfl (map_nth (show 2 < List.length (splitS t) by omega))),
              StepOK.g rfl rfl rfl rfl rfl (by simp) (OpOK.indexS rfl (by kernel_rfl) rfl rfl rfl (by omega)), trivial⟩ [(1, (vI p)), (3, (.ref 1003 0)), (6, (.ref 1006 0)), (8, a'7), (9, (vI (kindV (nth (splitS t) 0)))), (12, (vI ((numR (nth (splitS t) 1) (6 : Int)).1))), (14, (vI ((i : Nat) : Int))), (105, (vB (decide ((57 : Int) < ((bAt (nth (splitS t) 2) i : Nat) : Int)))))] [(1003, a'5), (1006, a'6)] (by kernel_rfl) (by kernel_rfl) ?_
             refine AWp.cond (decide ((57 : Int) < ((bAt (nth (splitS t) 2) i : Nat) : Int))) rfl (fun hc55 => ?_) (fun hc55 => ?_)
             ·skip
              replace hc55 := of_decide_eq_true hc55
              refine AWp.s_reg hGn hGk (aa 3) (Man.aa _ _) [(6, (.ref 1006 0)), (7, (vI 2))] [(1006, a'6)] (by kernel_rfl) (by kernel_rfl) ?_
              refine AWp.ret ?_
              refine blockQ_ret ?_
              refine nextQ_ret ?_
              refine nextQ_ret ?_
              refine blockQ_ret ?_
              refine nextQ_ret ?_
              refine fin_of (.inr rfl) (v := (.tup [(.agg [(vI 0), (vI 0), (vI 0), (vI 0), (vI 0), (vI 0)]), (vI 2)])) (Res.many (by kernel_rfl) (Res1s.cons (Res1.agg rfl rfl (by kernel_rfl) (by kernel_rfl)) (Res1s.cons (Res1.tmp rfl) Res1s.nil))) (h' := []) rfl rfl ?_
              exact ⟨by rw [parseA_in (by assumption), parseW_bad (badR_true (by first | (exfalso; omega) | (left; omega) | (right; left; first | (rw [nWords_4 (by omega)]; first | assumption | omega) | (rw [nWords_3 (by omega)]; first | assumption | omega)) | (right; right; left; first | (rw [nWords_4 (by omega)]; first | assumption | omega) | (rw [nWords_3 (by omega)]; first | assumption | omega)) | (right; right; right; left; omega) | (right; right; right; right; left; exact ⟨i, by omega, by omega⟩) | (right; right; right; right; right; left; assumption) | (right; right; right; right; right; right; left; omega) | (right; right; right; right; right; right; right; exact ⟨by omega, .inl (by assumption)⟩) | (right; right; right; right; right; right; right; exact ⟨by omega, .inr (by assumption)⟩)))] <;> rfl, rfl⟩
             ·skip
              replace hc55 := of_decide_eq_false hc55
              refine AWp.skip ?_
              refine blockQ_normal ?_
              refine nextQ_normal ?_
              refine AWp.reg' hGn hGk [.a, .m (some 91) ⟨[(90, (vI ((i : Nat) : Int)))], [], (vI ((i + 1 : Nat) : Int)), [], []⟩, .a] ⟨StepOK.p rfl rfl rfl (OpOK.add rfl rfl rfl (by rw [IntWalk.i64_in _ ⟨by omega, by omega⟩]; omega)), trivial⟩ [(1, (vI p)), (3, (.ref 1003 0)), (6, (.ref 1006 0)), (8, a'7), (9, (vI (kindV (nth (splitS t) 0)))), (12, (vI ((numR (nth (splitS t) 1) (6 : Int)).1))), (14, (vI ((i + 1 : Nat) : Int)))] [(1003, a'5), (1006, a'6)] (by kernel_rfl) (by kernel_rfl) ?_
              refine nextQ_normal ⟨_, ?_, (i + 1), rfl, (by omega), (fun j hj => by rcases Nat.lt_or_ge j i with h | h; exact hd j h; rw [show j = i from by omega]; omega), rfl⟩
              · omega
           ·skip
            replace hc53 := of_decide_eq_false hc53
            refine AWp.weaken (mk [(1, (vI p)), (3, (.ref 1003 0)), (6, (.ref 1006 0)), (8, a'7), (9, (vI (kindV (nth (splitS t) 0)))), (12, (vI ((numR (nth (splitS t) 1) (6 : Int)).1)))] [(1003, a'5), (1006, a'6)]) (Weak.sub' hGk (by kernel_rfl)) ?_
            refine AWp.exit ?_
            refine nextQ_exit ?_
            refine nextQ_exit ?_
            refine blockQ_exit ?_
            refine nextQ_normal ?_
            let a'21 : AO := (.box [(vI 0), (vI ((numR (nth (splitS t) 1) (6 : Int)).1)), (vI p), (vI (kindV (nth (splitS t) 0))), (vI 0), (vI 0)])
            refine AWp.s_reg hGn hGk (aa 6) (Man.aa _ _) [(1, (vI p)), (3, (.ref 1003 0)), (6, (.ref 1006 0)), (8, a'7), (9, (vI (kindV (nth (splitS t) 0)))), (12, (vI ((numR (nth (splitS t) 1) (6 : Int)).1))), (15, (.ref 1015 0))] [(1003, a'5), (1006, a'6), (1015, a'21)] (by kernel_rfl) (by kernel_rfl) ?_
            refine AWp.seq ?_
            refine AWp.s_reg hGn hGk [.a, .m (some 112) ⟨[(111, (vI (kindV (nth (splitS t) 0))))], [], (vB false), [], []⟩] ⟨StepOK.p rfl rfl rfl (OpOK.eqlI rfl rfl rfl (decide_eq_false hs7)), trivial⟩ [(1, (vI p)), (3, (.ref 1003 0)), (6, (.ref 1006 0)), (8, a'7), (9, (vI (kindV (nth (splitS t) 0)))), (12, (vI ((numR (nth (splitS t) 1) (6 : Int)).1))), (15, (.ref 1015 0)), (112, (vB false))] [(1003, a'5), (1006, a'6), (1015, a'21)] (by kernel_rfl) (by kernel_rfl) ?_
            refine AWp.cond_false rfl ?_
            refine AWp.skip ?_
            refine nextQ_normal ?_
            refine AWp.seq ?_
            have hbad : badW (splitS t) (kindV (nth (splitS t) 0)) = false := badR_false (by omega) (by first | (rw [nWords_4 (by omega)]; first | assumption | omega) | (rw [nWords_3 (by omega)]; first | assumption | omega)) (by first | (rw [nWords_4 (by omega)]; first | assumption | omega) | (rw [nWords_3 (by omega)]; first | assumption | omega)) (by omega) (fun j hj => hd j (by omega)) (by assumption) (by omega) (fun h3 => by first | (exfalso; omega) | exact ⟨by assumption, by assumption⟩)
            have hpg : 1 ≤ atoiV (nth (splitS t) 1) ∧ atoiV (nth (splitS t) 1) ≤ 999999 := good_pg hbad
            refine AWp.cast (show (mk [(1, (vI p)), (3, (.ref 1003 0)), (6, (.ref 1006 0)), (8, (.p (.sl false 1 ((splitS t).map D.cStr)))), (9, (vI (kindV (nth (splitS t) 0)))), (12, (vI ((numR (nth (splitS t) 1) (6 : Int)).1))), (15, (.ref 1015 0)), (112, (vB false))] [(1003, (.box [(.p (.sl false 3 (c.Zones.map D.Zone.cells))), (.p (.sl false 6 (c.People.map D.Person.cells))), (.p (.sl false 3 (c.Calendars.map D.Calendar.cells))), (.p (.sl false 3 (c.Schedules.map D.Schedule.cells)))])), (1006, (.box [(vI 0), (vI 0), (vI 0), (vI 0), (vI 0), (vI 0)])), (1015, (.box [(vI 0), (vI ((numR (nth (splitS t) 1) (6 : Int)).1)), (vI p), (vI (kindV (nth (splitS t) 0))), (vI 0), (vI 0)]))]) = (mk [(1, (vI p)), (3, (.ref 1003 0)), (6, (.ref 1006 0)), (8, (.p (.sl false 1 ((splitS t).map D.cStr)))), (9, (vI (kindV (nth (splitS t) 0)))), (12, (vI (atoiV (nth (splitS t) 1)))), (15, (.ref 1015 0)), (112, (vB false))] [(1003, (.box [(.p (.sl false 3 (c.Zones.map D.Zone.cells))), (.p (.sl false 6 (c.People.map D.Person.cells))), (.p (.sl false 3 (c.Calendars.map D.Calendar.cells))), (.p (.sl false 3 (c.Schedules.map D.Schedule.cells)))])), (1006, (.box [(vI 0), (vI 0), (vI 0), (vI 0), (vI 0), (vI 0)])), (1015, (.box [(vI 0), (vI (atoiV (nth (splitS t) 1))), (vI p), (vI (kindV (nth (splitS t) 0))), (vI 0), (vI 0)]))]) from (by rw [good_page hbad])) ?_
            have hf56 := ansCode_le (atoiV (nth (splitS t) 1)) p
            let a'22 : AO := (.box [(vI 0), (vI (atoiV (nth (splitS t) 1))), (vI p), (vI (kindV (nth (splitS t) 0))), (vI 0), (vI 0)])
            refine AWp.s_dreg hGn hGk (by kernel_rfl) [.a, .m (some 131) ⟨[(130, a'7)], [], (.eptr [(pS (nth (splitS t) 2))]), [], []⟩, .a, .a, .a, .m (some 135) ⟨[(133, (vI (atoiV (nth (splitS t) 1)))), (134, (vI p))], [], (vS (digB (ansCode (atoiV (nth (splitS t) 1)) p))), [], []⟩, .a] ⟨StepOK.p rfl rfl rfl (OpOK.indexP (e := 9) rfl (by kernel_rfl) (by kernel_rfl) rfl rfl rfl (map_nth (show 2 < List.length (splitS t) by omega))),
             StepOK.p rfl rfl rfl (OpOK.call rfl (by kernel_rfl) rfl (r28_code (atoiV (nth (splitS t) 1)) p (inB_true (by omega)) (inB_true (by omega))) (by kernel_rfl)), trivial⟩ [(3, (.ref 1003 0)), (6, (.ref 1006 0)), (8, a'7), (9, (vI (kindV (nth (splitS t) 0)))), (15, (.ref 1015 0)), (136, (vB (decide ((nth (splitS t) 2) ≠ (digB (ansCode (atoiV (nth (splitS t) 1)) p))))))] [(1003, a'5), (1006, a'6), (1015, a'22)] (by kernel_rfl) (by kernel_rfl) (by kernel_rfl) ?_
            refine AWp.cond (decide ((nth (splitS t) 2) ≠ (digB (ansCode (atoiV (nth (splitS t) 1)) p)))) rfl (fun hc57 => ?_) (fun hc57 => ?_)
            ·skip
             replace hc57 := of_decide_eq_true hc57
             refine AWp.s_reg hGn hGk (aa 3) (Man.aa _ _) [(6, (.ref 1006 0)), (7, (vI 20))] [(1006, a'6)] (by kernel_rfl) (by kernel_rfl) ?_
             refine AWp.ret ?_
             refine nextQ_ret ?_
             refine fin_of (.inr rfl) (v := (.tup [(.agg [(vI 0), (vI 0), (vI 0), (vI 0), (vI 0), (vI 0)]), (vI 20)])) (Res.many (by kernel_rfl) (Res1s.cons (Res1.agg rfl rfl (by kernel_rfl) (by kernel_rfl)) (Res1s.cons (Res1.tmp rfl) Res1s.nil))) (h' := []) rfl rfl ?_
             exact ⟨by rw [parseA_in (by assumption), parseW_code hbad (by assumption)] <;> rfl, rfl⟩
            ·skip
             replace hc57 := of_decide_eq_false hc57
             refine AWp.skip ?_
             refine nextQ_normal ?_
             refine AWp.seq ?_
             refine AWp.s_reg hGn hGk [.a, .m (some 139) ⟨[(138, (vI (kindV (nth (splitS t) 0))))], [], (vB false), [], []⟩] ⟨StepOK.p rfl rfl rfl (OpOK.eqlI rfl rfl rfl (decide_eq_false hc29)), trivial⟩ [(3, (.ref 1003 0)), (6, (.ref 1006 0)), (8, a'7), (15, (.ref 1015 0)), (139, (vB false))] [(1003, a'5), (1006, a'6), (1015, a'22)] (by kernel_rfl) (by kernel_rfl) ?_
             refine AWp.cond_false rfl ?_
             refine AWp.skip ?_
             refine nextQ_normal ?_
             refine AWp.s_reg hGn hGk (aa 3) (Man.aa _ _) [(6, (.ref 1006 0)), (7, (vI 0))] [(1006, a'22)] (by kernel_rfl) (by kernel_rfl) ?_
             refine AWp.ret ?_
             refine fin_of (.inr rfl) (v := (.tup [(.agg [(vI 0), (vI (atoiV (nth (splitS t) 1))), (vI p), (vI (kindV (nth (splitS t) 0))), (vI 0), (vI 0)]), (vI 0)])) (Res.many (by kernel_rfl) (Res1s.cons (Res1.agg rfl rfl (by kernel_rfl) (by kernel_rfl)) (Res1s.cons (Res1.tmp rfl) Res1s.nil))) (h' := []) rfl rfl ?_
             exact ⟨by rw [parseA_in (by assumption), parseW_plain (by assumption) (by assumption) hbad (by assumption)] <;> rfl, rfl⟩
end Go.Proofs.YtimfbibaoppfcaaGreatDoor
